/- OraclePlays, walked. -/
import Derived.Test.YtdgnnboljgpcmaaRb
namespace Go.Proofs.Ytdgnnboljgpcmaa.E
open Go
theorem dlt {a b : UInt32} (h : decide ((a.toNat : Int) < b.toNat) = true) : a.toNat < b.toNat := by have := of_decide_eq_true h; omega
structure Held (T : Prop) : Prop where
  out : T
theorem share {T G : Prop} (main : Held T → G) (key : T) : G := main ⟨key⟩
abbrev varO' (o : Orc) (n : Nat) : SObj := .var 97 (.st [.int .u32 o.last.toNat, .int .u32 o.max.toNat, .int .u64 o.count.toNat, .mapr n])
/-- The two states are one. -/
structure Rel (mx : UInt32) (i : Nat) (o : Orc) (L : List Txn) : Prop where
  inv : HInv mx i o
  m : o.m = lm L
  cnt : o.count.toNat = L.length
  len : L.length ≤ i
  nums : Nums L
theorem rel_same {mx : UInt32} {i : Nat} {o : Orc} {L : List Txn} (r : Rel mx i o L) : Rel mx (i + 1) o L :=
  ⟨(step_same r.inv).inv, r.m, r.cnt, Nat.le_succ_of_le r.len, r.nums⟩
theorem rel_len {mx : UInt32} {i : Nat} {o : Orc} {L : List Txn} (r : Rel mx i o L) : o.m.length = (liveL L).length := by rw [r.m]; simp [lm]
theorem rel_new {mx : UInt32} {i : Nat} {o : Orc} {L : List Txn} (r : Rel mx i o L) (hi : i ≤ 60) : (o.count + 1).toNat = L.length + 1 ∧ kv (newT o.last L) = (o.count + 1, o.last) := by
  have hc := r.cnt
  have hl := r.len
  have h1 : (o.count + 1).toNat = L.length + 1 := by rw [UInt64.toNat_add]; simp; omega
  refine ⟨h1, ?_⟩
  have : UInt64.ofNat (L.length + 1) = o.count + 1 := UInt64.toNat_inj.1 (by rw [h1, UInt64.toNat_ofNat']; omega)
  simp only [kv, newT, this]
theorem rel_beg {mx : UInt32} {i : Nat} {o : Orc} {L : List Txn} (r : Rel mx i o L) (hi : i ≤ 60) (h8 : ¬ o.m.length = 8) : Rel mx (i + 1) (begO o) (L ++ [newT o.last L]) := by
  obtain ⟨h1, h2⟩ := rel_new r hi
  have hl := r.len
  have hno : look decU o.m (o.count + 1) = none := look_none_iff.2 fun hm => by
    rw [r.m] at hm
    have := keys_le r.nums hm
    omega
  refine ⟨(step_beg r.inv).inv, ?_, ?_, by simp; omega, nums_new r.nums (by omega)⟩
  · rw [lm_append L _ rfl, h2, ← r.m]
    simp only [begO, if_neg h8]
    exact (look_none_upd (dec := decU) (v := o.last) o.m hno).1
  · simp only [begO, if_neg h8]
    rw [h1]; simp
theorem rel_kill {mx : UInt32} {i : Nat} {o : Orc} {L : List Txn} {n : UInt64} {k : Nat} (r : Rel mx i o L) (hk : L.findIdx? (isAt n) = some k) : Rel mx (i + 1) (endO o n) (kill L k) :=
  ⟨(step_end n r.inv).inv, by show del decU o.m n = _; rw [kill_lm n L k hk, r.m], by show o.count.toNat = _; rw [kill_length]; exact r.cnt, by rw [kill_length]; exact Nat.le_succ_of_le r.len, nums_kill r.nums⟩
theorem rel_pub {mx : UInt32} {i : Nat} {o : Orc} {L : List Txn} (ts : UInt32) (r : Rel mx i o L) : Rel mx (i + 1) (pubO o ts) L := by
  refine ⟨(step_pub ts r.inv).inv, ?_, ?_, Nat.le_succ_of_le r.len, r.nums⟩
  · unfold pubO; split <;> exact r.m
  · unfold pubO; split <;> exact r.cnt
def refS (last max : UInt32) (L : List Txn) (cap h : Nat) : SObj := .var 64 (.st [vU last, vU max, .slc h [] 3 0 L.length cap])
set_option maxRecDepth 60000 in
set_option maxHeartbeats 64000000 in
theorem f7 (A : HP) (last max : UInt32) (v : Value) (s : List (Int × UInt64)) (hv : RawOps A v s) :
    CallAt Try.prog 7 [vU last, vU max, .val v] [.res A] (fun d H => d = .tt ∧ H = [.res A]) := by
  refine callAt_of_execR zeros mixed (fn := Try.f7) rfl rfl rfl ?_
  obtain ⟨a, cap0, rfl, hraw⟩ := hv
  by_cases hlm : max < last
  · refine (new_none hlm).lift [] rfl (fun _ => rfl) (by rintro d H1 ⟨rfl, rfl⟩ hj; cases hj) ?_
    rintro d H1 ⟨rfl, rfl⟩
    refine And.intro (fun _ => ?_) (fun h => absurd h ?_)
    · refine f17.c ?_
      exact ⟨[0], _, _, ⟨rfl, rfl⟩, trivial, Eqv.rfl, EqvO.rfl, trivial⟩
    · have := UInt32.lt_iff_toNat_lt.1 hlm; simp; omega
  refine (new_some hlm).lift [] rfl (fun _ => rfl) (by rintro d H1 ⟨rfl, rfl⟩ hj; cases hj) ?_
  rintro d H1 ⟨rfl, rfl⟩
  have hlm' : last.toNat ≤ max.toNat := by have : ¬ max.toNat < last.toNat := fun k => hlm (UInt32.lt_iff_toNat_lt.2 k); omega
  refine And.intro (fun h => absurd (of_decide_eq_true h) (by omega)) (fun _ => ?_)
  have inv0 : HInv max 0 (newO last max) := ⟨List.nodup_nil, Nat.zero_le _, fun _ h => (by cases h), hlm', rfl, Nat.le_refl _⟩
  have rel0 : Rel max 0 (newO last max) [] := ⟨inv0, rfl, rfl, Nat.le_refl _, fun i t h => by simp at h⟩
  let S : Nat × Orc × List Txn × Nat → St := fun x => ⟨slotsOf 237 [(1, vU max), (2, .val (.slice a s.length cap0)), (7, .ptr 1 []), (8, .ptr 3 []), (9, .int .i64 x.1)], [.res A, varO' x.2.1 2, mpO x.2.1.m, .var 64 (.st [vU x.2.1.last, vU max, .slc 4 [] 3 0 x.2.2.1.length x.2.2.2]), .vec 72 3 encT x.2.2.1 x.2.2.2]⟩
  refine LoopN.nil (S (0, newO last max, [], 0)) ?_ ?_
  · exact ⟨EqvN.rfl, EqvN.rfl, EqvN.rfl, EqvN.rfl, EqvN.rfl, EqvON.rfl, EqvON.rfl, EqvON.rfl, EqvON.var (fun R X h => by
      have e : Value.slice none 0 0 = sliceV (R ++ none :: X) 4 (offP [] + 0 * 3) 0 0 := EqvN.nil R X h
      show conc _ (.st [vU last, vU max, .nils]) = conc _ (.st [vU last, vU max, .slc 4 [] 3 0 0 0])
      simp only [conc, cellsL]
      rw [← e]), rfl, rfl⟩
  refine LoopN.ofR (Nat × Orc × List Txn × Nat) (fun x => x.1 ≤ s.length ∧ x.1 ≤ 60 ∧ Rel max x.1 x.2.1 x.2.2.1 ∧ x.2.2.1.length ≤ x.2.2.2) (fun x => s.length - x.1) S (fun _ => Nat.le_of_ble_eq_true rfl) (0, newO last max, [], 0) ⟨Nat.zero_le _, Nat.zero_le _, rel0, Nat.zero_le _⟩ ?_ ?_
  · exact ⟨Eqv.rfl, Eqv.rfl, Eqv.rfl, Eqv.rfl, Eqv.rfl, EqvO.rfl, EqvO.rfl, EqvO.rfl, EqvO.rfl, EqvO.rfl, trivial⟩
  rintro ⟨i, o, L, cap⟩ ⟨hi, hi60, rel, hcap⟩
  dsimp only [S] at hi hi60 rel hcap ⊢
  have hw : IntKind.i64.wrap ((i : Int) + 1) = ((i + 1 : Nat) : Int) := by rw [w64 (by omega)]; rfl
  have inv := rel.inv
  have hLl := rel.len
  refine And.intro (fun h => ?_) (fun h => ?_)
  · have hi' : i < s.length := by have := of_decide_eq_true h; omega
    refine And.intro (fun h => ?_) (fun h => ?_)
    · have hi60' : i < 60 := by have := of_decide_eq_true h; omega
      have hs : s[i]? = some s[i] := List.getElem?_eq_getElem hi'
      obtain ⟨b, off, rfl, hat⟩ := hraw i _ hs
      obtain ⟨x, hx⟩ : ∃ x, x = s[i] := ⟨_, rfl⟩
      rw [← hx] at hat
      repeat refine JoinAt.through ?_
      refine And.intro ⟨by omega, by omega⟩ ?_
      refine ⟨_, hat, ?_⟩
      refine (f27 o.last max L cap (by omega) x.2).c [3, 4] rfl (fun _ => rfl) (by exact ⟨EqvS.rfl, EqvS.rfl, trivial⟩) ?_
      obtain ⟨nx, ne, hn, hne⟩ : ∃ (nx : UInt32) (ne : Int), nextO o = .tup [vU nx, .int .i64 ne] ∧ ((o.last = max ∧ nx = 0 ∧ ne = 8) ∨ (o.last ≠ max ∧ nx = o.last + 1 ∧ ne = 0)) := by
        unfold nextO
        rw [inv.max]
        by_cases hl : o.last = max
        · exact ⟨0, 8, by rw [if_pos hl]; rfl, .inl ⟨hl, rfl, rfl⟩⟩
        · exact ⟨o.last + 1, 0, by rw [if_neg hl], .inr ⟨hl, rfl, rfl⟩⟩
      have hc := f19 o
      rw [hn] at hc
      refine hc.c [1, 2] rfl (fun _ => rfl) (by exact ⟨EqvS.rfl, EqvS.rfl, trivial⟩) ?_
      let C : {y : Bool × Orc × List Txn × Nat // Rel max (i + 1) y.2.1 y.2.2.1 ∧ y.2.2.1.length ≤ y.2.2.2} → St := fun y => match y.1 with
        | (false, o', L', cap') => ⟨slotsOf 237 [(1, vU max), (2, .val (.slice (some ⟨b, off, none⟩) s.length cap0)), (7, .ptr 1 []), (8, .ptr 3 []), (9, .int .i64 i)], [.res A, varO' o' 2, mpO o'.m, .var 64 (.st [vU o'.last, vU max, .slc 4 [] 3 0 L'.length cap']), .vec 72 3 encT L' cap', .var 67 (encOp x)]⟩
        | (true, o', L', cap') => ⟨slotsOf 237 [(1, vU max), (2, .val (.slice (some ⟨b, off, none⟩) s.length cap0)), (7, .ptr 1 []), (8, .ptr 3 []), (9, .int .i64 i)], [.res A, varO' o' 2, mpO o'.m, .var 64 (.st [vU o'.last, vU max, .slc 6 [] 3 0 L'.length cap']), .gone, .var 67 (encOp x), .vec 72 3 encT L' cap']⟩
      apply share
      case main =>
        intro key
        rcases hne with ⟨hl, rfl, rfl⟩ | ⟨hl, rfl, rfl⟩
        · refine And.intro (fun _ => ?_) (fun h => absurd h (by rw [hl]; simp))
          refine And.intro (fun h => absurd h (by decide)) (fun _ => ?_)
          refine And.intro (fun h => absurd h (by decide)) (fun _ => ?_)
          refine And.intro (fun h => absurd (dlt h) (by rw [hl]; omega)) (fun _ => ?_)
          have hc := f28 o x.2
          have hlk := look_live x.2 L
          rw [← rel.m] at hlk
          rcases find_at (L := L) (n := x.2) with ⟨hf, hfi⟩ | ⟨k, t, hf, hfi, hLk, hat2⟩
          · have hls : lookS o.m x.2 = .tup [.int .u32 0, .ff] := by simp only [lookS, hlk, hf, Option.map_none]
            have hai : atI L x.2 = -1 := by simp only [atI, hfi]
            rw [hls] at hc
            rw [hai]
            refine hc.c [1, 2] rfl (fun _ => rfl) (by exact ⟨EqvS.rfl, EqvS.rfl, trivial⟩) ?_
            refine And.intro (fun h => absurd h (by decide)) (fun _ => ?_)
            refine And.intro (fun h => absurd h (by decide)) (fun _ => ?_)
            refine JoinAt.cut _ C (fun y => by
              obtain ⟨⟨q, z⟩, hy⟩ := y
              cases q <;> exact Nat.le_of_ble_eq_true rfl) ?_ key.out
            refine And.intro (fun h => ?_) (fun h => ?_)
            · have hk0 : x.1 = 0 := of_decide_eq_true h
              refine (f29 o).lift [1, 2] rfl (fun _ => rfl) (by rintro d H1 ⟨rfl, rfl⟩ hj; unfold begD at hj; split at hj <;> cases hj) ?_
              refine ⟨EqvO.rfl, EqvO.rfl, ?_⟩
              rintro d H1 ⟨rfl, rfl⟩
              by_cases h8 : o.m.length = 8
              · have hbo : begO o = o := by simp only [begO, if_pos h8]
                have hbd : begD o = .tup [.int .u64 0, .int .u32 0, .int .i64 10] := by simp only [begD, if_pos h8]
                have hrl := rel_len rel
                rw [hbo, hbd]
                refine (f30 o.last max L cap (by omega) hcap).lift [3, 4] rfl (fun _ => rfl) (by
                    intro d H1 hb hj
                    unfold refBeg at hb
                    split at hb
                    · obtain ⟨rfl, _⟩ := hb; cases hj
                    · obtain ⟨_, _, rfl, _⟩ := hb; cases hj) ?_
                refine ⟨EqvO.rfl, EqvO.rfl, ?_⟩
                intro d H1 hb
                unfold refBeg at hb
                rw [if_pos (by omega)] at hb
                obtain ⟨rfl, rfl⟩ := hb
                refine And.intro (fun h => absurd h (by decide)) (fun _ => ?_)
                refine And.intro (fun h => absurd h (by decide)) (fun _ => ?_)
                refine And.intro (fun h => absurd h (by decide)) (fun _ => ?_)
                refine ⟨⟨(false, o, L, cap), ⟨rel_same rel, hcap⟩⟩, ?_⟩
                exact ⟨Eqv.rfl, Eqv.rfl, Eqv.rfl, Eqv.rfl, Eqv.rfl, EqvO.rfl, EqvO.rfl, EqvO.rfl, EqvO.rfl, EqvO.rfl, EqvO.rfl, trivial⟩
              · have hbd : begD o = .tup [kU (o.count + 1), vU o.last, .int .i64 0] := by simp only [begD, if_neg h8]
                have hrl := rel_len rel
                have hil := inv.len
                have hr := rel_beg rel hi60 h8
                have hnw := (rel_new rel hi60).2
                have hnn : (newT o.last L).n = o.count + 1 := congrArg Prod.fst hnw
                have hbl : begO o = ⟨o.last, o.max, o.count + 1, (begO o).m⟩ := by simp only [begO, if_neg h8]
                obtain ⟨o', ho'⟩ : ∃ o', o' = begO o := ⟨_, rfl⟩
                have hol : o'.last = o.last := by rw [ho', hbl]
                rw [hbd, ← ho']
                rw [← ho'] at hr
                refine (f30 o.last max L cap (by omega) hcap).lift [3, 4] rfl (fun _ => rfl) (by
                    intro d H1 hb hj
                    unfold refBeg at hb
                    split at hb
                    · obtain ⟨rfl, _⟩ := hb; cases hj
                    · obtain ⟨_, _, rfl, _⟩ := hb; cases hj) ?_
                refine ⟨EqvO.rfl, EqvO.rfl, ?_⟩
                intro d H1 hb
                unfold refBeg at hb
                rw [if_neg (by omega)] at hb
                obtain ⟨cap', hc', rfl, rfl⟩ := hb
                rw [hnn]
                refine And.intro (fun h => absurd h (by simp)) (fun _ => ?_)
                refine And.intro (fun h => absurd h (by simp)) (fun _ => ?_)
                refine And.intro (fun h => absurd h (by decide)) (fun _ => ?_)
                refine ⟨⟨(true, o', L ++ [newT o.last L], cap'), ⟨hr, by simpa using hc'⟩⟩, ?_⟩
                exact ⟨Eqv.rfl, Eqv.rfl, Eqv.rfl, Eqv.rfl, Eqv.rfl, EqvO.rfl, EqvO.rfl, EqvO.rfl, EqvO.var (Eqv.of (by rw [hol]; rfl)), EqvO.rfl, EqvO.rfl, trivial⟩
            have hk0 : ¬ x.1 = 0 := of_decide_eq_false h
            repeat refine JoinAt.through ?_
            refine And.intro (fun h => ?_) (fun h => ?_)
            · have hk1 : x.1 = 1 := of_decide_eq_true h
              refine (f31 o x.2).lift [1, 2] rfl (fun _ => rfl) (by rintro d H1 ⟨rfl, rfl⟩ hj; cases hj) ?_
              refine ⟨EqvO.rfl, EqvO.rfl, ?_⟩
              rintro d H1 ⟨rfl, rfl⟩
              rw [hlk, hf]
              have heo : endO o x.2 = o := by simp only [endO, look_none_del (dec := decU) o.m (by rw [hlk, hf]; rfl)]
              rw [heo]
              refine And.intro (fun h => absurd h (by decide)) (fun _ => ?_)
              refine And.intro (fun h => absurd h (by decide)) (fun _ => ?_)
              refine ⟨⟨(false, o, L, cap), ⟨rel_same rel, hcap⟩⟩, ?_⟩
              exact ⟨Eqv.rfl, Eqv.rfl, Eqv.rfl, Eqv.rfl, Eqv.rfl, EqvO.rfl, EqvO.rfl, EqvO.rfl, EqvO.rfl, EqvO.rfl, EqvO.rfl, trivial⟩
            have hk1 : ¬ x.1 = 1 := of_decide_eq_false h
            repeat refine JoinAt.through ?_
            refine And.intro (fun h => ?_) (fun h => ?_)
            · have hk2 : x.1 = 2 := of_decide_eq_true h
              repeat refine JoinAt.through ?_
              refine And.intro (fun h => absurd (of_decide_eq_true h) (by omega)) (fun _ => ?_)
              have hpd : ∀ ts, isJunk (pubE o ts) = false := fun ts => by unfold pubE; split <;> rfl
              refine (f20 o (x.2.toUInt32)).lift [1, 2] rfl (fun R => by simp only [conc, concL, renL, ren, wrap_low]; rfl) (by rintro d H1 ⟨rfl, rfl⟩ hj; rw [hpd] at hj; cases hj) ?_
              refine ⟨EqvO.rfl, EqvO.rfl, ?_⟩
              rintro d H1 ⟨rfl, rfl⟩
              have hp : pubOK o (x.2.toUInt32) = false := by simp [pubOK, inv.max, hl]
              have hpo : pubO o (x.2.toUInt32) = o := by simp only [pubO, hp]; rfl
              have hpe : pubE o (x.2.toUInt32) = .int .i64 1 := by simp only [pubE, hp]; rfl
              rw [hpo, hpe]
              repeat refine JoinAt.through ?_
              refine And.intro (fun h => absurd (dlt h) (by rw [hl]; omega)) (fun _ => ?_)
              refine And.intro (fun h => absurd h (by decide)) (fun _ => ?_)
              refine ⟨⟨(false, o, L, cap), ⟨rel_same rel, hcap⟩⟩, ?_⟩
              exact ⟨Eqv.rfl, Eqv.rfl, Eqv.rfl, Eqv.rfl, Eqv.rfl, EqvO.rfl, EqvO.rfl, EqvO.rfl, EqvO.rfl, EqvO.rfl, EqvO.rfl, trivial⟩
            have hk2 : ¬ x.1 = 2 := of_decide_eq_false h
            repeat refine JoinAt.through ?_
            refine And.intro (fun h => ?_) (fun h => ?_)
            · have hk3 : x.1 = 3 := of_decide_eq_true h
              repeat refine JoinAt.through ?_
              refine And.intro (fun _ => ?_) (fun h => absurd hk3 (of_decide_eq_false h))
              have hpd : ∀ ts, isJunk (pubE o ts) = false := fun ts => by unfold pubE; split <;> rfl
              refine (f20 o (0)).lift [1, 2] rfl (fun R => by rfl) (by rintro d H1 ⟨rfl, rfl⟩ hj; rw [hpd] at hj; cases hj) ?_
              refine ⟨EqvO.rfl, EqvO.rfl, ?_⟩
              rintro d H1 ⟨rfl, rfl⟩
              have hp : pubOK o (0) = false := by simp [pubOK, inv.max, hl]
              have hpo : pubO o (0) = o := by simp only [pubO, hp]; rfl
              have hpe : pubE o (0) = .int .i64 1 := by simp only [pubE, hp]; rfl
              rw [hpo, hpe]
              repeat refine JoinAt.through ?_
              refine And.intro (fun h => absurd (dlt h) (by rw [hl]; omega)) (fun _ => ?_)
              refine And.intro (fun h => absurd h (by decide)) (fun _ => ?_)
              refine ⟨⟨(false, o, L, cap), ⟨rel_same rel, hcap⟩⟩, ?_⟩
              exact ⟨Eqv.rfl, Eqv.rfl, Eqv.rfl, Eqv.rfl, Eqv.rfl, EqvO.rfl, EqvO.rfl, EqvO.rfl, EqvO.rfl, EqvO.rfl, EqvO.rfl, trivial⟩
            refine ⟨⟨(false, o, L, cap), ⟨rel_same rel, hcap⟩⟩, ?_⟩
            exact ⟨Eqv.rfl, Eqv.rfl, Eqv.rfl, Eqv.rfl, Eqv.rfl, EqvO.rfl, EqvO.rfl, EqvO.rfl, EqvO.rfl, EqvO.rfl, EqvO.rfl, trivial⟩
          · have hls : lookS o.m x.2 = .tup [vU t.start, .tt] := by simp only [lookS, hlk, hf, Option.map_some]
            have hai : atI L x.2 = k := by simp only [atI, hfi]
            have hkl0 : k < L.length := (List.getElem?_eq_some_iff.1 hLk).1
            rw [hls] at hc
            rw [hai]
            refine hc.c [1, 2] rfl (fun _ => rfl) (by exact ⟨EqvS.rfl, EqvS.rfl, trivial⟩) ?_
            refine And.intro (fun h => absurd h (by simp)) (fun _ => ?_)
            refine And.intro ⟨by omega, by omega⟩ ?_
            refine And.intro (by omega) ?_
            refine And.intro (by omega) ?_
            refine And.intro (by omega) ?_
            intro t0 ht0
            have ht00 : t0 = t := by
              have : L[k]? = some t0 := by simpa using ht0
              rw [hLk] at this; exact (Option.some.inj this).symm
            rw [ht00]
            refine And.intro (fun h => absurd h (by simp)) (fun _ => ?_)
            refine JoinAt.cut _ C (fun y => by
              obtain ⟨⟨q, z⟩, hy⟩ := y
              cases q <;> exact Nat.le_of_ble_eq_true rfl) ?_ key.out
            refine And.intro (fun h => ?_) (fun h => ?_)
            · have hk0 : x.1 = 0 := of_decide_eq_true h
              refine (f29 o).lift [1, 2] rfl (fun _ => rfl) (by rintro d H1 ⟨rfl, rfl⟩ hj; unfold begD at hj; split at hj <;> cases hj) ?_
              refine ⟨EqvO.rfl, EqvO.rfl, ?_⟩
              rintro d H1 ⟨rfl, rfl⟩
              by_cases h8 : o.m.length = 8
              · have hbo : begO o = o := by simp only [begO, if_pos h8]
                have hbd : begD o = .tup [.int .u64 0, .int .u32 0, .int .i64 10] := by simp only [begD, if_pos h8]
                have hrl := rel_len rel
                rw [hbo, hbd]
                refine (f30 o.last max L cap (by omega) hcap).lift [3, 4] rfl (fun _ => rfl) (by
                    intro d H1 hb hj
                    unfold refBeg at hb
                    split at hb
                    · obtain ⟨rfl, _⟩ := hb; cases hj
                    · obtain ⟨_, _, rfl, _⟩ := hb; cases hj) ?_
                refine ⟨EqvO.rfl, EqvO.rfl, ?_⟩
                intro d H1 hb
                unfold refBeg at hb
                rw [if_pos (by omega)] at hb
                obtain ⟨rfl, rfl⟩ := hb
                refine And.intro (fun h => absurd h (by decide)) (fun _ => ?_)
                refine And.intro (fun h => absurd h (by decide)) (fun _ => ?_)
                refine And.intro (fun h => absurd h (by decide)) (fun _ => ?_)
                refine ⟨⟨(false, o, L, cap), ⟨rel_same rel, hcap⟩⟩, ?_⟩
                exact ⟨Eqv.rfl, Eqv.rfl, Eqv.rfl, Eqv.rfl, Eqv.rfl, EqvO.rfl, EqvO.rfl, EqvO.rfl, EqvO.rfl, EqvO.rfl, EqvO.rfl, trivial⟩
              · have hbd : begD o = .tup [kU (o.count + 1), vU o.last, .int .i64 0] := by simp only [begD, if_neg h8]
                have hrl := rel_len rel
                have hil := inv.len
                have hr := rel_beg rel hi60 h8
                have hnw := (rel_new rel hi60).2
                have hnn : (newT o.last L).n = o.count + 1 := congrArg Prod.fst hnw
                have hbl : begO o = ⟨o.last, o.max, o.count + 1, (begO o).m⟩ := by simp only [begO, if_neg h8]
                obtain ⟨o', ho'⟩ : ∃ o', o' = begO o := ⟨_, rfl⟩
                have hol : o'.last = o.last := by rw [ho', hbl]
                rw [hbd, ← ho']
                rw [← ho'] at hr
                refine (f30 o.last max L cap (by omega) hcap).lift [3, 4] rfl (fun _ => rfl) (by
                    intro d H1 hb hj
                    unfold refBeg at hb
                    split at hb
                    · obtain ⟨rfl, _⟩ := hb; cases hj
                    · obtain ⟨_, _, rfl, _⟩ := hb; cases hj) ?_
                refine ⟨EqvO.rfl, EqvO.rfl, ?_⟩
                intro d H1 hb
                unfold refBeg at hb
                rw [if_neg (by omega)] at hb
                obtain ⟨cap', hc', rfl, rfl⟩ := hb
                rw [hnn]
                refine And.intro (fun h => absurd h (by simp)) (fun _ => ?_)
                refine And.intro (fun h => absurd h (by simp)) (fun _ => ?_)
                refine And.intro (fun h => absurd h (by decide)) (fun _ => ?_)
                refine ⟨⟨(true, o', L ++ [newT o.last L], cap'), ⟨hr, by simpa using hc'⟩⟩, ?_⟩
                exact ⟨Eqv.rfl, Eqv.rfl, Eqv.rfl, Eqv.rfl, Eqv.rfl, EqvO.rfl, EqvO.rfl, EqvO.rfl, EqvO.var (Eqv.of (by rw [hol]; rfl)), EqvO.rfl, EqvO.rfl, trivial⟩
            have hk0 : ¬ x.1 = 0 := of_decide_eq_false h
            repeat refine JoinAt.through ?_
            refine And.intro (fun h => ?_) (fun h => ?_)
            · have hk1 : x.1 = 1 := of_decide_eq_true h
              refine (f31 o x.2).lift [1, 2] rfl (fun _ => rfl) (by rintro d H1 ⟨rfl, rfl⟩ hj; cases hj) ?_
              refine ⟨EqvO.rfl, EqvO.rfl, ?_⟩
              rintro d H1 ⟨rfl, rfl⟩
              rw [hlk, hf]
              refine And.intro (fun h => absurd h (by simp)) (fun _ => ?_)
              refine And.intro (fun _ => ?_) (fun h => absurd (of_decide_eq_false h) (by omega))
              have hkl : k < L.length := (List.getElem?_eq_some_iff.1 hLk).1
              refine And.intro ⟨by omega, by omega⟩ ?_
              refine And.intro (by omega) ?_
              refine And.intro (by omega) ?_
              refine And.intro (by omega) ?_
              intro t' ht'
              have htt : t' = t := by
                have : L[k]? = some t' := by simpa using ht'
                rw [hLk] at this; exact (Option.some.inj this).symm
              refine ⟨{ t' with live := false }, fun R => rfl, ?_⟩
              refine ⟨⟨(false, endO o x.2, kill L k, cap), ⟨rel_kill rel hfi, by rw [kill_length]; exact hcap⟩⟩, ?_⟩
              refine ⟨Eqv.rfl, Eqv.rfl, Eqv.rfl, Eqv.rfl, Eqv.rfl, EqvO.rfl, EqvO.rfl, EqvO.rfl, EqvO.var (Eqv.of (by rw [kill_length]; rfl)), EqvO.of ?_, EqvO.rfl, trivial⟩
              rw [htt]
              simp [kill, hLk]
            have hk1 : ¬ x.1 = 1 := of_decide_eq_false h
            repeat refine JoinAt.through ?_
            refine And.intro (fun h => ?_) (fun h => ?_)
            · have hk2 : x.1 = 2 := of_decide_eq_true h
              repeat refine JoinAt.through ?_
              refine And.intro (fun h => absurd (of_decide_eq_true h) (by omega)) (fun _ => ?_)
              have hpd : ∀ ts, isJunk (pubE o ts) = false := fun ts => by unfold pubE; split <;> rfl
              refine (f20 o (x.2.toUInt32)).lift [1, 2] rfl (fun R => by simp only [conc, concL, renL, ren, wrap_low]; rfl) (by rintro d H1 ⟨rfl, rfl⟩ hj; rw [hpd] at hj; cases hj) ?_
              refine ⟨EqvO.rfl, EqvO.rfl, ?_⟩
              rintro d H1 ⟨rfl, rfl⟩
              have hp : pubOK o (x.2.toUInt32) = false := by simp [pubOK, inv.max, hl]
              have hpo : pubO o (x.2.toUInt32) = o := by simp only [pubO, hp]; rfl
              have hpe : pubE o (x.2.toUInt32) = .int .i64 1 := by simp only [pubE, hp]; rfl
              rw [hpo, hpe]
              repeat refine JoinAt.through ?_
              refine And.intro (fun h => absurd (dlt h) (by rw [hl]; omega)) (fun _ => ?_)
              refine And.intro (fun h => absurd h (by decide)) (fun _ => ?_)
              refine ⟨⟨(false, o, L, cap), ⟨rel_same rel, hcap⟩⟩, ?_⟩
              exact ⟨Eqv.rfl, Eqv.rfl, Eqv.rfl, Eqv.rfl, Eqv.rfl, EqvO.rfl, EqvO.rfl, EqvO.rfl, EqvO.rfl, EqvO.rfl, EqvO.rfl, trivial⟩
            have hk2 : ¬ x.1 = 2 := of_decide_eq_false h
            repeat refine JoinAt.through ?_
            refine And.intro (fun h => ?_) (fun h => ?_)
            · have hk3 : x.1 = 3 := of_decide_eq_true h
              repeat refine JoinAt.through ?_
              refine And.intro (fun _ => ?_) (fun h => absurd hk3 (of_decide_eq_false h))
              have hpd : ∀ ts, isJunk (pubE o ts) = false := fun ts => by unfold pubE; split <;> rfl
              refine (f20 o (0)).lift [1, 2] rfl (fun R => by rfl) (by rintro d H1 ⟨rfl, rfl⟩ hj; rw [hpd] at hj; cases hj) ?_
              refine ⟨EqvO.rfl, EqvO.rfl, ?_⟩
              rintro d H1 ⟨rfl, rfl⟩
              have hp : pubOK o (0) = false := by simp [pubOK, inv.max, hl]
              have hpo : pubO o (0) = o := by simp only [pubO, hp]; rfl
              have hpe : pubE o (0) = .int .i64 1 := by simp only [pubE, hp]; rfl
              rw [hpo, hpe]
              repeat refine JoinAt.through ?_
              refine And.intro (fun h => absurd (dlt h) (by rw [hl]; omega)) (fun _ => ?_)
              refine And.intro (fun h => absurd h (by decide)) (fun _ => ?_)
              refine ⟨⟨(false, o, L, cap), ⟨rel_same rel, hcap⟩⟩, ?_⟩
              exact ⟨Eqv.rfl, Eqv.rfl, Eqv.rfl, Eqv.rfl, Eqv.rfl, EqvO.rfl, EqvO.rfl, EqvO.rfl, EqvO.rfl, EqvO.rfl, EqvO.rfl, trivial⟩
            refine ⟨⟨(false, o, L, cap), ⟨rel_same rel, hcap⟩⟩, ?_⟩
            exact ⟨Eqv.rfl, Eqv.rfl, Eqv.rfl, Eqv.rfl, Eqv.rfl, EqvO.rfl, EqvO.rfl, EqvO.rfl, EqvO.rfl, EqvO.rfl, EqvO.rfl, trivial⟩
        · have hlt : o.last.toNat < max.toNat := by
            have h1 := inv.last
            have h2 : o.last.toNat ≠ max.toNat := fun e => hl (UInt32.toNat_inj.1 e)
            omega
          refine And.intro (fun h => absurd (u32i.1 (of_decide_eq_true h)) hl) (fun _ => ?_)
          refine And.intro (fun _ => ?_) (fun h => absurd (of_decide_eq_false h) (by omega))
          refine And.intro (fun h => absurd h (by decide)) (fun _ => ?_)
          refine And.intro (fun h => absurd h (by rw [wrap_u32]; simp)) (fun _ => ?_)
          have hc := f28 o x.2
          have hlk := look_live x.2 L
          rw [← rel.m] at hlk
          rcases find_at (L := L) (n := x.2) with ⟨hf, hfi⟩ | ⟨k, t, hf, hfi, hLk, hat2⟩
          · have hls : lookS o.m x.2 = .tup [.int .u32 0, .ff] := by simp only [lookS, hlk, hf, Option.map_none]
            have hai : atI L x.2 = -1 := by simp only [atI, hfi]
            rw [hls] at hc
            rw [hai]
            refine hc.c [1, 2] rfl (fun _ => rfl) (by exact ⟨EqvS.rfl, EqvS.rfl, trivial⟩) ?_
            refine And.intro (fun h => absurd h (by decide)) (fun _ => ?_)
            refine And.intro (fun h => absurd h (by decide)) (fun _ => ?_)
            refine JoinAt.cut _ C (fun y => by
              obtain ⟨⟨q, z⟩, hy⟩ := y
              cases q <;> exact Nat.le_of_ble_eq_true rfl) ?_ key.out
            refine And.intro (fun h => ?_) (fun h => ?_)
            · have hk0 : x.1 = 0 := of_decide_eq_true h
              refine (f29 o).lift [1, 2] rfl (fun _ => rfl) (by rintro d H1 ⟨rfl, rfl⟩ hj; unfold begD at hj; split at hj <;> cases hj) ?_
              refine ⟨EqvO.rfl, EqvO.rfl, ?_⟩
              rintro d H1 ⟨rfl, rfl⟩
              by_cases h8 : o.m.length = 8
              · have hbo : begO o = o := by simp only [begO, if_pos h8]
                have hbd : begD o = .tup [.int .u64 0, .int .u32 0, .int .i64 10] := by simp only [begD, if_pos h8]
                have hrl := rel_len rel
                rw [hbo, hbd]
                refine (f30 o.last max L cap (by omega) hcap).lift [3, 4] rfl (fun _ => rfl) (by
                    intro d H1 hb hj
                    unfold refBeg at hb
                    split at hb
                    · obtain ⟨rfl, _⟩ := hb; cases hj
                    · obtain ⟨_, _, rfl, _⟩ := hb; cases hj) ?_
                refine ⟨EqvO.rfl, EqvO.rfl, ?_⟩
                intro d H1 hb
                unfold refBeg at hb
                rw [if_pos (by omega)] at hb
                obtain ⟨rfl, rfl⟩ := hb
                refine And.intro (fun h => absurd h (by decide)) (fun _ => ?_)
                refine And.intro (fun h => absurd h (by decide)) (fun _ => ?_)
                refine And.intro (fun h => absurd h (by decide)) (fun _ => ?_)
                refine ⟨⟨(false, o, L, cap), ⟨rel_same rel, hcap⟩⟩, ?_⟩
                exact ⟨Eqv.rfl, Eqv.rfl, Eqv.rfl, Eqv.rfl, Eqv.rfl, EqvO.rfl, EqvO.rfl, EqvO.rfl, EqvO.rfl, EqvO.rfl, EqvO.rfl, trivial⟩
              · have hbd : begD o = .tup [kU (o.count + 1), vU o.last, .int .i64 0] := by simp only [begD, if_neg h8]
                have hrl := rel_len rel
                have hil := inv.len
                have hr := rel_beg rel hi60 h8
                have hnw := (rel_new rel hi60).2
                have hnn : (newT o.last L).n = o.count + 1 := congrArg Prod.fst hnw
                have hbl : begO o = ⟨o.last, o.max, o.count + 1, (begO o).m⟩ := by simp only [begO, if_neg h8]
                obtain ⟨o', ho'⟩ : ∃ o', o' = begO o := ⟨_, rfl⟩
                have hol : o'.last = o.last := by rw [ho', hbl]
                rw [hbd, ← ho']
                rw [← ho'] at hr
                refine (f30 o.last max L cap (by omega) hcap).lift [3, 4] rfl (fun _ => rfl) (by
                    intro d H1 hb hj
                    unfold refBeg at hb
                    split at hb
                    · obtain ⟨rfl, _⟩ := hb; cases hj
                    · obtain ⟨_, _, rfl, _⟩ := hb; cases hj) ?_
                refine ⟨EqvO.rfl, EqvO.rfl, ?_⟩
                intro d H1 hb
                unfold refBeg at hb
                rw [if_neg (by omega)] at hb
                obtain ⟨cap', hc', rfl, rfl⟩ := hb
                rw [hnn]
                refine And.intro (fun h => absurd h (by simp)) (fun _ => ?_)
                refine And.intro (fun h => absurd h (by simp)) (fun _ => ?_)
                refine And.intro (fun h => absurd h (by decide)) (fun _ => ?_)
                refine ⟨⟨(true, o', L ++ [newT o.last L], cap'), ⟨hr, by simpa using hc'⟩⟩, ?_⟩
                exact ⟨Eqv.rfl, Eqv.rfl, Eqv.rfl, Eqv.rfl, Eqv.rfl, EqvO.rfl, EqvO.rfl, EqvO.rfl, EqvO.var (Eqv.of (by rw [hol]; rfl)), EqvO.rfl, EqvO.rfl, trivial⟩
            have hk0 : ¬ x.1 = 0 := of_decide_eq_false h
            repeat refine JoinAt.through ?_
            refine And.intro (fun h => ?_) (fun h => ?_)
            · have hk1 : x.1 = 1 := of_decide_eq_true h
              refine (f31 o x.2).lift [1, 2] rfl (fun _ => rfl) (by rintro d H1 ⟨rfl, rfl⟩ hj; cases hj) ?_
              refine ⟨EqvO.rfl, EqvO.rfl, ?_⟩
              rintro d H1 ⟨rfl, rfl⟩
              rw [hlk, hf]
              have heo : endO o x.2 = o := by simp only [endO, look_none_del (dec := decU) o.m (by rw [hlk, hf]; rfl)]
              rw [heo]
              refine And.intro (fun h => absurd h (by decide)) (fun _ => ?_)
              refine And.intro (fun h => absurd h (by decide)) (fun _ => ?_)
              refine ⟨⟨(false, o, L, cap), ⟨rel_same rel, hcap⟩⟩, ?_⟩
              exact ⟨Eqv.rfl, Eqv.rfl, Eqv.rfl, Eqv.rfl, Eqv.rfl, EqvO.rfl, EqvO.rfl, EqvO.rfl, EqvO.rfl, EqvO.rfl, EqvO.rfl, trivial⟩
            have hk1 : ¬ x.1 = 1 := of_decide_eq_false h
            repeat refine JoinAt.through ?_
            refine And.intro (fun h => ?_) (fun h => ?_)
            · have hk2 : x.1 = 2 := of_decide_eq_true h
              repeat refine JoinAt.through ?_
              refine And.intro (fun h => absurd (of_decide_eq_true h) (by omega)) (fun _ => ?_)
              have hpd : ∀ ts, isJunk (pubE o ts) = false := fun ts => by unfold pubE; split <;> rfl
              refine (f20 o (x.2.toUInt32)).lift [1, 2] rfl (fun R => by simp only [conc, concL, renL, ren, wrap_low]; rfl) (by rintro d H1 ⟨rfl, rfl⟩ hj; rw [hpd] at hj; cases hj) ?_
              refine ⟨EqvO.rfl, EqvO.rfl, ?_⟩
              rintro d H1 ⟨rfl, rfl⟩
              by_cases he : o.last + 1 = (x.2.toUInt32)
              · have hp : pubOK o (x.2.toUInt32) = true := by simp only [pubOK, inv.max]; simp [hl, he]
                have hpo : pubO o (x.2.toUInt32) = ⟨x.2.toUInt32, o.max, o.count, o.m⟩ := by simp only [pubO, hp]; rfl
                have hpe : pubE o (x.2.toUInt32) = .int .i64 0 := by simp only [pubE, hp]; rfl
                have hr := rel_pub (x.2.toUInt32) rel
                rw [hpo] at hr
                rw [hpo, hpe]
                repeat refine JoinAt.through ?_
                refine And.intro (fun _ => ?_) (fun h => absurd (of_decide_eq_false h) (by omega))
                refine And.intro (fun _ => ?_) (fun h => absurd (of_decide_eq_false h) ?_)
                · refine And.intro (fun h => absurd h (by decide)) (fun _ => ?_)
                  refine ⟨⟨(false, ⟨x.2.toUInt32, o.max, o.count, o.m⟩, L, cap), ⟨hr, hcap⟩⟩, ?_⟩
                  exact ⟨Eqv.rfl, Eqv.rfl, Eqv.rfl, Eqv.rfl, Eqv.rfl, EqvO.rfl, EqvO.rfl, EqvO.rfl, EqvO.var (Eqv.of (by rw [wrap_low])), EqvO.rfl, EqvO.rfl, trivial⟩
                · rw [wrap_u32, wrap_low, he]; simp
              · have hp : pubOK o (x.2.toUInt32) = false := by simp [pubOK, he]
                have hpo : pubO o (x.2.toUInt32) = o := by simp only [pubO, hp]; rfl
                have hpe : pubE o (x.2.toUInt32) = .int .i64 1 := by simp only [pubE, hp]; rfl
                rw [hpo, hpe]
                repeat refine JoinAt.through ?_
                refine And.intro (fun _ => ?_) (fun h => absurd (of_decide_eq_false h) (by omega))
                refine And.intro (fun h => absurd (of_decide_eq_true h) ?_) (fun _ => ?_)
                · rw [wrap_u32, wrap_low]; exact fun e => he (u32i.1 e).symm
                · refine And.intro (fun h => absurd h (by decide)) (fun _ => ?_)
                  refine ⟨⟨(false, o, L, cap), ⟨rel_same rel, hcap⟩⟩, ?_⟩
                  exact ⟨Eqv.rfl, Eqv.rfl, Eqv.rfl, Eqv.rfl, Eqv.rfl, EqvO.rfl, EqvO.rfl, EqvO.rfl, EqvO.rfl, EqvO.rfl, EqvO.rfl, trivial⟩
            have hk2 : ¬ x.1 = 2 := of_decide_eq_false h
            repeat refine JoinAt.through ?_
            refine And.intro (fun h => ?_) (fun h => ?_)
            · have hk3 : x.1 = 3 := of_decide_eq_true h
              repeat refine JoinAt.through ?_
              refine And.intro (fun _ => ?_) (fun h => absurd hk3 (of_decide_eq_false h))
              have hpd : ∀ ts, isJunk (pubE o ts) = false := fun ts => by unfold pubE; split <;> rfl
              refine (f20 o (o.last + 1)).lift [1, 2] rfl (fun R => by rfl) (by rintro d H1 ⟨rfl, rfl⟩ hj; rw [hpd] at hj; cases hj) ?_
              refine ⟨EqvO.rfl, EqvO.rfl, ?_⟩
              rintro d H1 ⟨rfl, rfl⟩
              by_cases he : o.last + 1 = (o.last + 1)
              · have hp : pubOK o (o.last + 1) = true := by simp only [pubOK, inv.max]; simp [hl]
                have hpo : pubO o (o.last + 1) = ⟨o.last + 1, o.max, o.count, o.m⟩ := by simp only [pubO, hp]; rfl
                have hpe : pubE o (o.last + 1) = .int .i64 0 := by simp only [pubE, hp]; rfl
                have hr := rel_pub (o.last + 1) rel
                rw [hpo] at hr
                rw [hpo, hpe]
                repeat refine JoinAt.through ?_
                refine And.intro (fun _ => ?_) (fun h => absurd (of_decide_eq_false h) (by omega))
                refine And.intro (fun _ => ?_) (fun h => absurd (of_decide_eq_false h) ?_)
                · refine And.intro (fun h => absurd h (by decide)) (fun _ => ?_)
                  refine ⟨⟨(false, ⟨o.last + 1, o.max, o.count, o.m⟩, L, cap), ⟨hr, hcap⟩⟩, ?_⟩
                  exact ⟨Eqv.rfl, Eqv.rfl, Eqv.rfl, Eqv.rfl, Eqv.rfl, EqvO.rfl, EqvO.rfl, EqvO.rfl, EqvO.rfl, EqvO.rfl, EqvO.rfl, trivial⟩
                · rw [wrap_u32]; simp
              · exact absurd rfl he
            refine ⟨⟨(false, o, L, cap), ⟨rel_same rel, hcap⟩⟩, ?_⟩
            exact ⟨Eqv.rfl, Eqv.rfl, Eqv.rfl, Eqv.rfl, Eqv.rfl, EqvO.rfl, EqvO.rfl, EqvO.rfl, EqvO.rfl, EqvO.rfl, EqvO.rfl, trivial⟩
          · have hls : lookS o.m x.2 = .tup [vU t.start, .tt] := by simp only [lookS, hlk, hf, Option.map_some]
            have hai : atI L x.2 = k := by simp only [atI, hfi]
            have hkl0 : k < L.length := (List.getElem?_eq_some_iff.1 hLk).1
            rw [hls] at hc
            rw [hai]
            refine hc.c [1, 2] rfl (fun _ => rfl) (by exact ⟨EqvS.rfl, EqvS.rfl, trivial⟩) ?_
            refine And.intro (fun h => absurd h (by simp)) (fun _ => ?_)
            refine And.intro ⟨by omega, by omega⟩ ?_
            refine And.intro (by omega) ?_
            refine And.intro (by omega) ?_
            refine And.intro (by omega) ?_
            intro t0 ht0
            have ht00 : t0 = t := by
              have : L[k]? = some t0 := by simpa using ht0
              rw [hLk] at this; exact (Option.some.inj this).symm
            rw [ht00]
            refine And.intro (fun h => absurd h (by simp)) (fun _ => ?_)
            refine JoinAt.cut _ C (fun y => by
              obtain ⟨⟨q, z⟩, hy⟩ := y
              cases q <;> exact Nat.le_of_ble_eq_true rfl) ?_ key.out
            refine And.intro (fun h => ?_) (fun h => ?_)
            · have hk0 : x.1 = 0 := of_decide_eq_true h
              refine (f29 o).lift [1, 2] rfl (fun _ => rfl) (by rintro d H1 ⟨rfl, rfl⟩ hj; unfold begD at hj; split at hj <;> cases hj) ?_
              refine ⟨EqvO.rfl, EqvO.rfl, ?_⟩
              rintro d H1 ⟨rfl, rfl⟩
              by_cases h8 : o.m.length = 8
              · have hbo : begO o = o := by simp only [begO, if_pos h8]
                have hbd : begD o = .tup [.int .u64 0, .int .u32 0, .int .i64 10] := by simp only [begD, if_pos h8]
                have hrl := rel_len rel
                rw [hbo, hbd]
                refine (f30 o.last max L cap (by omega) hcap).lift [3, 4] rfl (fun _ => rfl) (by
                    intro d H1 hb hj
                    unfold refBeg at hb
                    split at hb
                    · obtain ⟨rfl, _⟩ := hb; cases hj
                    · obtain ⟨_, _, rfl, _⟩ := hb; cases hj) ?_
                refine ⟨EqvO.rfl, EqvO.rfl, ?_⟩
                intro d H1 hb
                unfold refBeg at hb
                rw [if_pos (by omega)] at hb
                obtain ⟨rfl, rfl⟩ := hb
                refine And.intro (fun h => absurd h (by decide)) (fun _ => ?_)
                refine And.intro (fun h => absurd h (by decide)) (fun _ => ?_)
                refine And.intro (fun h => absurd h (by decide)) (fun _ => ?_)
                refine ⟨⟨(false, o, L, cap), ⟨rel_same rel, hcap⟩⟩, ?_⟩
                exact ⟨Eqv.rfl, Eqv.rfl, Eqv.rfl, Eqv.rfl, Eqv.rfl, EqvO.rfl, EqvO.rfl, EqvO.rfl, EqvO.rfl, EqvO.rfl, EqvO.rfl, trivial⟩
              · have hbd : begD o = .tup [kU (o.count + 1), vU o.last, .int .i64 0] := by simp only [begD, if_neg h8]
                have hrl := rel_len rel
                have hil := inv.len
                have hr := rel_beg rel hi60 h8
                have hnw := (rel_new rel hi60).2
                have hnn : (newT o.last L).n = o.count + 1 := congrArg Prod.fst hnw
                have hbl : begO o = ⟨o.last, o.max, o.count + 1, (begO o).m⟩ := by simp only [begO, if_neg h8]
                obtain ⟨o', ho'⟩ : ∃ o', o' = begO o := ⟨_, rfl⟩
                have hol : o'.last = o.last := by rw [ho', hbl]
                rw [hbd, ← ho']
                rw [← ho'] at hr
                refine (f30 o.last max L cap (by omega) hcap).lift [3, 4] rfl (fun _ => rfl) (by
                    intro d H1 hb hj
                    unfold refBeg at hb
                    split at hb
                    · obtain ⟨rfl, _⟩ := hb; cases hj
                    · obtain ⟨_, _, rfl, _⟩ := hb; cases hj) ?_
                refine ⟨EqvO.rfl, EqvO.rfl, ?_⟩
                intro d H1 hb
                unfold refBeg at hb
                rw [if_neg (by omega)] at hb
                obtain ⟨cap', hc', rfl, rfl⟩ := hb
                rw [hnn]
                refine And.intro (fun h => absurd h (by simp)) (fun _ => ?_)
                refine And.intro (fun h => absurd h (by simp)) (fun _ => ?_)
                refine And.intro (fun h => absurd h (by decide)) (fun _ => ?_)
                refine ⟨⟨(true, o', L ++ [newT o.last L], cap'), ⟨hr, by simpa using hc'⟩⟩, ?_⟩
                exact ⟨Eqv.rfl, Eqv.rfl, Eqv.rfl, Eqv.rfl, Eqv.rfl, EqvO.rfl, EqvO.rfl, EqvO.rfl, EqvO.var (Eqv.of (by rw [hol]; rfl)), EqvO.rfl, EqvO.rfl, trivial⟩
            have hk0 : ¬ x.1 = 0 := of_decide_eq_false h
            repeat refine JoinAt.through ?_
            refine And.intro (fun h => ?_) (fun h => ?_)
            · have hk1 : x.1 = 1 := of_decide_eq_true h
              refine (f31 o x.2).lift [1, 2] rfl (fun _ => rfl) (by rintro d H1 ⟨rfl, rfl⟩ hj; cases hj) ?_
              refine ⟨EqvO.rfl, EqvO.rfl, ?_⟩
              rintro d H1 ⟨rfl, rfl⟩
              rw [hlk, hf]
              refine And.intro (fun h => absurd h (by simp)) (fun _ => ?_)
              refine And.intro (fun _ => ?_) (fun h => absurd (of_decide_eq_false h) (by omega))
              have hkl : k < L.length := (List.getElem?_eq_some_iff.1 hLk).1
              refine And.intro ⟨by omega, by omega⟩ ?_
              refine And.intro (by omega) ?_
              refine And.intro (by omega) ?_
              refine And.intro (by omega) ?_
              intro t' ht'
              have htt : t' = t := by
                have : L[k]? = some t' := by simpa using ht'
                rw [hLk] at this; exact (Option.some.inj this).symm
              refine ⟨{ t' with live := false }, fun R => rfl, ?_⟩
              refine ⟨⟨(false, endO o x.2, kill L k, cap), ⟨rel_kill rel hfi, by rw [kill_length]; exact hcap⟩⟩, ?_⟩
              refine ⟨Eqv.rfl, Eqv.rfl, Eqv.rfl, Eqv.rfl, Eqv.rfl, EqvO.rfl, EqvO.rfl, EqvO.rfl, EqvO.var (Eqv.of (by rw [kill_length]; rfl)), EqvO.of ?_, EqvO.rfl, trivial⟩
              rw [htt]
              simp [kill, hLk]
            have hk1 : ¬ x.1 = 1 := of_decide_eq_false h
            repeat refine JoinAt.through ?_
            refine And.intro (fun h => ?_) (fun h => ?_)
            · have hk2 : x.1 = 2 := of_decide_eq_true h
              repeat refine JoinAt.through ?_
              refine And.intro (fun h => absurd (of_decide_eq_true h) (by omega)) (fun _ => ?_)
              have hpd : ∀ ts, isJunk (pubE o ts) = false := fun ts => by unfold pubE; split <;> rfl
              refine (f20 o (x.2.toUInt32)).lift [1, 2] rfl (fun R => by simp only [conc, concL, renL, ren, wrap_low]; rfl) (by rintro d H1 ⟨rfl, rfl⟩ hj; rw [hpd] at hj; cases hj) ?_
              refine ⟨EqvO.rfl, EqvO.rfl, ?_⟩
              rintro d H1 ⟨rfl, rfl⟩
              by_cases he : o.last + 1 = (x.2.toUInt32)
              · have hp : pubOK o (x.2.toUInt32) = true := by simp only [pubOK, inv.max]; simp [hl, he]
                have hpo : pubO o (x.2.toUInt32) = ⟨x.2.toUInt32, o.max, o.count, o.m⟩ := by simp only [pubO, hp]; rfl
                have hpe : pubE o (x.2.toUInt32) = .int .i64 0 := by simp only [pubE, hp]; rfl
                have hr := rel_pub (x.2.toUInt32) rel
                rw [hpo] at hr
                rw [hpo, hpe]
                repeat refine JoinAt.through ?_
                refine And.intro (fun _ => ?_) (fun h => absurd (of_decide_eq_false h) (by omega))
                refine And.intro (fun _ => ?_) (fun h => absurd (of_decide_eq_false h) ?_)
                · refine And.intro (fun h => absurd h (by decide)) (fun _ => ?_)
                  refine ⟨⟨(false, ⟨x.2.toUInt32, o.max, o.count, o.m⟩, L, cap), ⟨hr, hcap⟩⟩, ?_⟩
                  exact ⟨Eqv.rfl, Eqv.rfl, Eqv.rfl, Eqv.rfl, Eqv.rfl, EqvO.rfl, EqvO.rfl, EqvO.rfl, EqvO.var (Eqv.of (by rw [wrap_low])), EqvO.rfl, EqvO.rfl, trivial⟩
                · rw [wrap_u32, wrap_low, he]; simp
              · have hp : pubOK o (x.2.toUInt32) = false := by simp [pubOK, he]
                have hpo : pubO o (x.2.toUInt32) = o := by simp only [pubO, hp]; rfl
                have hpe : pubE o (x.2.toUInt32) = .int .i64 1 := by simp only [pubE, hp]; rfl
                rw [hpo, hpe]
                repeat refine JoinAt.through ?_
                refine And.intro (fun _ => ?_) (fun h => absurd (of_decide_eq_false h) (by omega))
                refine And.intro (fun h => absurd (of_decide_eq_true h) ?_) (fun _ => ?_)
                · rw [wrap_u32, wrap_low]; exact fun e => he (u32i.1 e).symm
                · refine And.intro (fun h => absurd h (by decide)) (fun _ => ?_)
                  refine ⟨⟨(false, o, L, cap), ⟨rel_same rel, hcap⟩⟩, ?_⟩
                  exact ⟨Eqv.rfl, Eqv.rfl, Eqv.rfl, Eqv.rfl, Eqv.rfl, EqvO.rfl, EqvO.rfl, EqvO.rfl, EqvO.rfl, EqvO.rfl, EqvO.rfl, trivial⟩
            have hk2 : ¬ x.1 = 2 := of_decide_eq_false h
            repeat refine JoinAt.through ?_
            refine And.intro (fun h => ?_) (fun h => ?_)
            · have hk3 : x.1 = 3 := of_decide_eq_true h
              repeat refine JoinAt.through ?_
              refine And.intro (fun _ => ?_) (fun h => absurd hk3 (of_decide_eq_false h))
              have hpd : ∀ ts, isJunk (pubE o ts) = false := fun ts => by unfold pubE; split <;> rfl
              refine (f20 o (o.last + 1)).lift [1, 2] rfl (fun R => by rfl) (by rintro d H1 ⟨rfl, rfl⟩ hj; rw [hpd] at hj; cases hj) ?_
              refine ⟨EqvO.rfl, EqvO.rfl, ?_⟩
              rintro d H1 ⟨rfl, rfl⟩
              by_cases he : o.last + 1 = (o.last + 1)
              · have hp : pubOK o (o.last + 1) = true := by simp only [pubOK, inv.max]; simp [hl]
                have hpo : pubO o (o.last + 1) = ⟨o.last + 1, o.max, o.count, o.m⟩ := by simp only [pubO, hp]; rfl
                have hpe : pubE o (o.last + 1) = .int .i64 0 := by simp only [pubE, hp]; rfl
                have hr := rel_pub (o.last + 1) rel
                rw [hpo] at hr
                rw [hpo, hpe]
                repeat refine JoinAt.through ?_
                refine And.intro (fun _ => ?_) (fun h => absurd (of_decide_eq_false h) (by omega))
                refine And.intro (fun _ => ?_) (fun h => absurd (of_decide_eq_false h) ?_)
                · refine And.intro (fun h => absurd h (by decide)) (fun _ => ?_)
                  refine ⟨⟨(false, ⟨o.last + 1, o.max, o.count, o.m⟩, L, cap), ⟨hr, hcap⟩⟩, ?_⟩
                  exact ⟨Eqv.rfl, Eqv.rfl, Eqv.rfl, Eqv.rfl, Eqv.rfl, EqvO.rfl, EqvO.rfl, EqvO.rfl, EqvO.rfl, EqvO.rfl, EqvO.rfl, trivial⟩
                · rw [wrap_u32]; simp
              · exact absurd rfl he
            refine ⟨⟨(false, o, L, cap), ⟨rel_same rel, hcap⟩⟩, ?_⟩
            exact ⟨Eqv.rfl, Eqv.rfl, Eqv.rfl, Eqv.rfl, Eqv.rfl, EqvO.rfl, EqvO.rfl, EqvO.rfl, EqvO.rfl, EqvO.rfl, EqvO.rfl, trivial⟩
      case key =>
        rintro ⟨⟨q, o', L', cap'⟩, ⟨rel', hcap'⟩⟩
        dsimp only at rel' hcap'
        have inv' := rel'.inv
        have hLl' := rel'.len
        have hrl' := rel_len rel'
        have hil' := inv'.len
        cases q
        · repeat refine JoinAt.through ?_
          refine DrawAt.all (by kernel_rfl) ?_
          refine (f21 o').q [1, 2] rfl (fun _ => rfl) (by exact ⟨EqvS.rfl, EqvS.rfl, trivial⟩) rfl ?_
          refine And.intro (fun h => absurd h (by simp)) (fun _ => ?_)
          refine (f32r inv'.len inv'.nd).q [1, 2] rfl (fun _ => rfl) (by exact ⟨EqvS.rfl, EqvS.rfl, trivial⟩) rfl ?_
          refine (f33 o'.last max L' cap' (by omega)).q [3, 4] rfl (fun _ => rfl) (by exact ⟨EqvS.rfl, EqvS.rfl, trivial⟩) rfl ?_
          refine And.intro (fun h => absurd h (by rw [hz_same inv'.nd rel'.m]; simp)) (fun _ => ?_)
          repeat refine JoinAt.through ?_
          refine (f35 o' inv'.len).lift [1, 2] rfl (fun _ => rfl) (by rintro d H1 ⟨ys, cy, _, rfl, rfl⟩ hj; cases hj) ?_
          refine ⟨EqvO.rfl, EqvO.rfl, ?_⟩
          rintro d H1 ⟨ys, cy, hy, rfl, rfl⟩
          have hys := keys_are rel'.nums (by rw [← rel'.m]; exact hy)
          subst hys
          refine (f34 o'.last max L' cap' cy (by omega) (by omega)).c [3, 4, 6] rfl (fun _ => rfl) (by exact ⟨EqvS.rfl, EqvS.rfl, EqvS.rfl, trivial⟩) ?_
          repeat refine JoinAt.through ?_
          refine ⟨(i + 1, o', L', cap'), ⟨⟨hi', hi60', rel', hcap'⟩, by show s.length - (i + 1) < s.length - i; omega⟩, [0, 1, 2, 3, 4], ?_⟩
          exact ⟨Eqv.rfl, Eqv.rfl, Eqv.rfl, Eqv.rfl, Eqv.of (congrArg (D.int .i64) hw), EqvO.rfl, EqvO.rfl, EqvO.rfl, EqvO.rfl, EqvO.rfl, trivial⟩
        · repeat refine JoinAt.through ?_
          refine DrawAt.all (by kernel_rfl) ?_
          refine (f21 o').q [1, 2] rfl (fun _ => rfl) (by exact ⟨EqvS.rfl, EqvS.rfl, trivial⟩) rfl ?_
          refine And.intro (fun h => absurd h (by simp)) (fun _ => ?_)
          refine (f32r inv'.len inv'.nd).q [1, 2] rfl (fun _ => rfl) (by exact ⟨EqvS.rfl, EqvS.rfl, trivial⟩) rfl ?_
          refine (f33 o'.last max L' cap' (by omega)).q [3, 6] rfl (fun _ => rfl) (by exact ⟨EqvS.rfl, EqvS.rfl, trivial⟩) rfl ?_
          refine And.intro (fun h => absurd h (by rw [hz_same inv'.nd rel'.m]; simp)) (fun _ => ?_)
          repeat refine JoinAt.through ?_
          refine (f35 o' inv'.len).lift [1, 2] rfl (fun _ => rfl) (by rintro d H1 ⟨ys, cy, _, rfl, rfl⟩ hj; cases hj) ?_
          refine ⟨EqvO.rfl, EqvO.rfl, ?_⟩
          rintro d H1 ⟨ys, cy, hy, rfl, rfl⟩
          have hys := keys_are rel'.nums (by rw [← rel'.m]; exact hy)
          subst hys
          refine (f34 o'.last max L' cap' cy (by omega) (by omega)).c [3, 6, 7] rfl (fun _ => rfl) (by exact ⟨EqvS.rfl, EqvS.rfl, EqvS.rfl, trivial⟩) ?_
          repeat refine JoinAt.through ?_
          refine ⟨(i + 1, o', L', cap'), ⟨⟨hi', hi60', rel', hcap'⟩, by show s.length - (i + 1) < s.length - i; omega⟩, [0, 1, 2, 3, 6], ?_⟩
          exact ⟨Eqv.rfl, Eqv.rfl, Eqv.rfl, Eqv.rfl, Eqv.of (congrArg (D.int .i64) hw), EqvO.rfl, EqvO.rfl, EqvO.rfl, EqvO.rfl, EqvO.rfl, trivial⟩
    · refine f17.c ?_
      exact ⟨[0], _, _, ⟨rfl, rfl⟩, trivial, Eqv.rfl, EqvO.rfl, trivial⟩
  · refine f17.c ?_
    exact ⟨[0], _, _, ⟨rfl, rfl⟩, trivial, Eqv.rfl, EqvO.rfl, trivial⟩
end Go.Proofs.Ytdgnnboljgpcmaa.E
