/- OracleHorizon, walked. -/
import Derived.Test.YtdgnnboljgpcmaaOj
namespace Go.Proofs.Ytdgnnboljgpcmaa.E
open Go
set_option maxRecDepth 4000
theorem dlt {a b : UInt32} (h : decide ((a.toNat : Int) < b.toNat) = true) : a.toNat < b.toNat := by have := of_decide_eq_true h; omega
abbrev varO (o : Orc) (n : Nat) : SObj := .var 97 (.st [.int .u32 o.last.toNat, .int .u32 o.max.toNat, .int .u64 o.count.toNat, .mapr n])
set_option maxHeartbeats 16000000 in
theorem f8 (A : HP) (last max : UInt32) (v : Value) (s : List (Int × UInt64)) (hv : RawOps A v s) :
    CallAt Try.prog 8 [vU last, vU max, .val v] [.res A] (fun d H => d = .tt ∧ H = [.res A]) := by
  refine callAt_of_execR zeros mixed (fn := Try.f8) rfl rfl rfl ?_
  obtain ⟨a, cap0, rfl, hraw⟩ := hv
  by_cases hlm : max < last
  · refine (new_none hlm).lift [] rfl (fun _ => rfl) (by rintro d H1 ⟨rfl, rfl⟩ hj; cases hj) ?_
    rintro d H1 ⟨rfl, rfl⟩
    refine And.intro (fun _ => ?_) (fun h => absurd h ?_)
    · refine f17.c ?_
      exact ⟨[0], _, _, ⟨rfl, rfl⟩, trivial, Eqv.rfl, EqvO.rfl, trivial⟩
    · have := UInt32.lt_iff_toNat_lt.1 hlm; simp; omega
  refine (new_some hlm).lift [] rfl (fun _ => rfl) (by rintro d H1 ⟨rfl, rfl⟩ hj; cases hj) ?_
  rintro d H1 ⟨rfl, rfl⟩
  have hlm' : last.toNat ≤ max.toNat := by have : ¬ max.toNat < last.toNat := fun k => hlm (UInt32.lt_iff_toNat_lt.2 k); omega
  have inv0 : HInv max 0 (newO last max) := ⟨List.nodup_nil, Nat.zero_le _, fun _ h => (by cases h), hlm', rfl, Nat.le_refl _⟩
  refine (f32r inv0.len inv0.nd).c [1, 2] rfl (fun _ => rfl) (by exact ⟨EqvS.rfl, EqvS.rfl, trivial⟩) ?_
  refine (f21 (newO last max)).c [1, 2] rfl (fun _ => rfl) (by exact ⟨EqvS.rfl, EqvS.rfl, trivial⟩) ?_
  let S : Nat × Orc → St := fun x => ⟨slotsOf 132 [(0, vU last), (1, vU max), (2, .val (.slice a s.length cap0)), (7, .ptr 1 []), (8, vU (hzo x.2)), (9, vU x.2.last), (10, .int .i64 x.1)], [.res A, varO x.2 2, mpO x.2.m]⟩
  refine LoopN.ofR (Nat × Orc) (fun x => x.1 ≤ s.length ∧ x.1 ≤ 60 ∧ HInv max x.1 x.2) (fun x => s.length - x.1) S (fun _ => Nat.le_of_ble_eq_true rfl) (0, newO last max) ⟨Nat.zero_le _, Nat.zero_le _, inv0⟩ ?_ ?_
  · exact ⟨Eqv.rfl, Eqv.rfl, Eqv.rfl, Eqv.rfl, Eqv.rfl, Eqv.rfl, Eqv.rfl, EqvO.rfl, EqvO.rfl, EqvO.rfl, trivial⟩
  rintro ⟨i, o⟩ ⟨hi, hi60, inv⟩
  dsimp only [S] at hi hi60 inv ⊢
  have hw : IntKind.i64.wrap ((i : Int) + 1) = ((i + 1 : Nat) : Int) := by rw [w64 (by omega)]; rfl
  refine And.intro (fun h => ?_) (fun h => ?_)
  · have hi' : i < s.length := by have := of_decide_eq_true h; omega
    refine And.intro (fun h => ?_) (fun h => ?_)
    · have hi60' : i < 60 := by have := of_decide_eq_true h; omega
      have hs : s[i]? = some s[i] := List.getElem?_eq_getElem hi'
      obtain ⟨b, off, rfl, hat⟩ := hraw i _ hs
      repeat refine JoinAt.through ?_
      refine And.intro ⟨by omega, by omega⟩ ?_
      refine ⟨_, hat, ?_⟩
      refine (f36 o s[i].1 s[i].2).lift [1, 2] rfl (fun _ => rfl) (by rintro d H1 ⟨rfl, rfl⟩ hj; cases hj) ?_
      refine ⟨EqvO.rfl, EqvO.rfl, ?_⟩
      rintro d H1 ⟨rfl, rfl⟩
      have stp := step_do s[i].1 s[i].2 inv
      have hz := stp.hz inv
      obtain ⟨o', ho'⟩ : ∃ o', o' = doO o s[i].1 s[i].2 := ⟨_, rfl⟩
      rw [← ho'] at stp hz ⊢
      have inv' := stp.inv
      have hor := hzo_is inv'.nd
      have hup := stp.up
      have hla := inv'.last
      have hm1 := hor.1
      repeat refine JoinAt.through ?_
      refine (f32r inv'.len inv'.nd).c [1, 2] rfl (fun _ => rfl) (by exact ⟨EqvS.rfl, EqvS.rfl, trivial⟩) ?_
      refine And.intro (fun h => absurd (dlt h) (by omega)) (fun _ => ?_)
      refine (f21 o').c [1, 2] rfl (fun _ => rfl) (by exact ⟨EqvS.rfl, EqvS.rfl, trivial⟩) ?_
      refine And.intro (fun h => absurd (dlt h) (by omega)) (fun _ => ?_)
      refine (f32r inv'.len inv'.nd).c [1, 2] rfl (fun _ => rfl) (by exact ⟨EqvS.rfl, EqvS.rfl, trivial⟩) ?_
      refine (f21 o').c [1, 2] rfl (fun _ => rfl) (by exact ⟨EqvS.rfl, EqvS.rfl, trivial⟩) ?_
      refine And.intro (fun h => absurd (dlt h) (by omega)) (fun _ => ?_)
      refine (f21 o').c [1, 2] rfl (fun _ => rfl) (by exact ⟨EqvS.rfl, EqvS.rfl, trivial⟩) ?_
      repeat refine JoinAt.through ?_
      refine And.intro (fun h => absurd (dlt h) (by omega)) (fun _ => ?_)
      repeat refine JoinAt.through ?_
      refine (f32r inv'.len inv'.nd).c [1, 2] rfl (fun _ => rfl) (by exact ⟨EqvS.rfl, EqvS.rfl, trivial⟩) ?_
      refine (f21 o').c [1, 2] rfl (fun _ => rfl) (by exact ⟨EqvS.rfl, EqvS.rfl, trivial⟩) ?_
      repeat refine JoinAt.through ?_
      refine (f35 o' inv'.len).lift [1, 2] rfl (fun _ => rfl) (by rintro d H1 ⟨ys, cap, _, rfl, rfl⟩ hj; cases hj) ?_
      refine ⟨EqvO.rfl, EqvO.rfl, ?_⟩
      rintro d H1 ⟨ys, cap, hy, rfl, rfl⟩
      have hyl : ys.length ≤ 8 := by have := hy.1.length_eq; have := inv'.len; simp at *; omega
      let T : Nat → St := fun j => ⟨slotsOf 132 [(0, vU last), (1, vU max), (2, .val (.slice (some ⟨b, off, none⟩) s.length cap0)), (7, .ptr 1 []), (8, vU (hzo o')), (9, vU o'.last), (10, .int .i64 i), (77, .slc 3 [] 1 0 ys.length cap), (78, .int .i64 ys.length), (79, .int .i64 j)],
        [.res A, varO o' 2, mpO o'.m, .vec 65 1 kU ys cap]⟩
      refine LoopN.of Nat (fun j => j ≤ ys.length) (fun j => ys.length - j) T (fun _ => Nat.le_of_ble_eq_true rfl) 0 (Nat.zero_le _) ?_ ?_
      · exact ⟨Eqv.rfl, Eqv.rfl, Eqv.rfl, Eqv.rfl, Eqv.rfl, Eqv.rfl, Eqv.rfl, Eqv.rfl, Eqv.rfl, Eqv.rfl, EqvO.rfl, EqvO.rfl, EqvO.rfl, EqvO.rfl, trivial⟩
      rintro j hj
      dsimp only [T] at hj ⊢
      refine And.intro (fun h => ?_) (fun h => ?_)
      · have hj' : j < ys.length := by have := of_decide_eq_true h; omega
        have hwj : IntKind.i64.wrap ((j : Int) + 1) = ((j + 1 : Nat) : Int) := by rw [w64 (by omega)]; rfl
        refine And.intro ⟨by omega, by omega⟩ ?_
        refine And.intro (by omega) ?_
        refine And.intro (by omega) ?_
        intro y hy'
        have hy2 : ys[j]? = some y := by simpa using hy'
        have hyk : y ∈ o'.m.map (·.1) := hy.1.mem_iff.1 (List.mem_of_getElem? hy2)
        obtain ⟨kt, hkt, hkey⟩ := List.mem_map.1 hyk
        have hlk : look decU o'.m y = some kt.2 := mem_look inv'.nd (show (y, kt.2) ∈ o'.m by rw [← hkey]; exact hkt)
        have hls : lookS o'.m y = .tup [vU kt.2, .tt] := by simp only [lookS, hlk]
        have hc := f28 o' y
        rw [hls] at hc
        have g1 := hor.2.1 kt hkt
        have g2 := inv'.top kt hkt
        refine hc.c [1, 2] rfl (fun _ => rfl) (by exact ⟨EqvS.rfl, EqvS.rfl, trivial⟩) ?_
        refine And.intro (fun h => absurd (dlt h) (by omega)) (fun _ => ?_)
        repeat refine JoinAt.through ?_
        refine And.intro (fun h => absurd (dlt h) (by omega)) (fun _ => ?_)
        repeat refine JoinAt.through ?_
        refine ⟨j + 1, ⟨hj', by omega⟩, ?_⟩
        exact ⟨Eqv.rfl, Eqv.rfl, Eqv.rfl, Eqv.rfl, Eqv.rfl, Eqv.rfl, Eqv.rfl, Eqv.rfl, Eqv.rfl, Eqv.of (congrArg (D.int .i64) hwj), EqvO.rfl, EqvO.rfl, EqvO.rfl, EqvO.rfl, trivial⟩
      · repeat refine JoinAt.through ?_
        refine ⟨(i + 1, o'), ⟨⟨hi', hi60', inv'⟩, by show s.length - (i + 1) < s.length - i; omega⟩, [0, 1, 2], ?_⟩
        exact ⟨Eqv.rfl, Eqv.rfl, Eqv.rfl, Eqv.rfl, Eqv.rfl, Eqv.rfl, Eqv.of (congrArg (D.int .i64) hw), EqvO.rfl, EqvO.rfl, EqvO.rfl, trivial⟩
    · repeat refine JoinAt.through ?_
      refine (f29 o).lift [1, 2] rfl (fun _ => rfl) (by rintro d H1 ⟨rfl, rfl⟩ hj; unfold begD at hj; split at hj <;> cases hj) ?_
      refine ⟨EqvO.rfl, EqvO.rfl, ?_⟩
      rintro d H1 ⟨rfl, rfl⟩
      by_cases h8 : o.m.length = 8
      · have hb : begO o = o := by simp only [begO, if_pos h8]
        have hd : begD o = .tup [.int .u64 0, .int .u32 0, .int .i64 10] := by simp only [begD, if_pos h8]
        rw [hb, hd]
        refine And.intro (fun h => absurd h (by decide)) (fun _ => ?_)
        refine And.intro (fun _ => ?_) (fun h => absurd h (by decide))
        refine (f35 o inv.len).lift [1, 2] rfl (fun _ => rfl) (by rintro d H1 ⟨ys, cap, _, rfl, rfl⟩ hj; cases hj) ?_
        refine ⟨EqvO.rfl, EqvO.rfl, ?_⟩
        rintro d H1 ⟨ys, cap, hy, rfl, rfl⟩
        have hyl : ys.length = 8 := by have := hy.1.length_eq; rw [List.length_map, h8] at this; exact this
        refine And.intro (fun _ => ?_) (fun h => absurd h (by rw [hyl]; decide))
        refine f17.c ?_
        exact ⟨[0], _, _, ⟨rfl, rfl⟩, trivial, Eqv.rfl, EqvO.rfl, trivial⟩
      · obtain ⟨o', ho'⟩ : ∃ o', o' = begO o := ⟨_, rfl⟩
        have hcnt : (o.count + 1).toNat = o.count.toNat + 1 := by have := inv.cnt; rw [UInt64.toNat_add]; simp; omega
        have hd : begD o = .tup [kU (o.count + 1), vU o.last, .int .i64 0] := by simp only [begD, if_neg h8]
        rw [hd, ← ho']
        refine And.intro (fun _ => ?_) (fun h => absurd h (by decide))
        refine And.intro (fun _ => ?_) (fun h => absurd h (by simp))
        refine And.intro (fun _ => ?_) (fun h => absurd h (by rw [hcnt]; simp))
        refine f17.c ?_
        exact ⟨[0], _, _, ⟨rfl, rfl⟩, trivial, Eqv.rfl, EqvO.rfl, trivial⟩
  · repeat refine JoinAt.through ?_
    refine (f29 o).lift [1, 2] rfl (fun _ => rfl) (by rintro d H1 ⟨rfl, rfl⟩ hj; unfold begD at hj; split at hj <;> cases hj) ?_
    refine ⟨EqvO.rfl, EqvO.rfl, ?_⟩
    rintro d H1 ⟨rfl, rfl⟩
    by_cases h8 : o.m.length = 8
    · have hb : begO o = o := by simp only [begO, if_pos h8]
      have hd : begD o = .tup [.int .u64 0, .int .u32 0, .int .i64 10] := by simp only [begD, if_pos h8]
      rw [hb, hd]
      refine And.intro (fun h => absurd h (by decide)) (fun _ => ?_)
      refine And.intro (fun _ => ?_) (fun h => absurd h (by decide))
      refine (f35 o inv.len).lift [1, 2] rfl (fun _ => rfl) (by rintro d H1 ⟨ys, cap, _, rfl, rfl⟩ hj; cases hj) ?_
      refine ⟨EqvO.rfl, EqvO.rfl, ?_⟩
      rintro d H1 ⟨ys, cap, hy, rfl, rfl⟩
      have hyl : ys.length = 8 := by have := hy.1.length_eq; rw [List.length_map, h8] at this; exact this
      refine And.intro (fun _ => ?_) (fun h => absurd h (by rw [hyl]; decide))
      refine f17.c ?_
      exact ⟨[0], _, _, ⟨rfl, rfl⟩, trivial, Eqv.rfl, EqvO.rfl, trivial⟩
    · obtain ⟨o', ho'⟩ : ∃ o', o' = begO o := ⟨_, rfl⟩
      have hcnt : (o.count + 1).toNat = o.count.toNat + 1 := by have := inv.cnt; rw [UInt64.toNat_add]; simp; omega
      have hd : begD o = .tup [kU (o.count + 1), vU o.last, .int .i64 0] := by simp only [begD, if_neg h8]
      rw [hd, ← ho']
      refine And.intro (fun _ => ?_) (fun h => absurd h (by decide))
      refine And.intro (fun _ => ?_) (fun h => absurd h (by simp))
      refine And.intro (fun _ => ?_) (fun h => absurd h (by rw [hcnt]; simp))
      refine f17.c ?_
      exact ⟨[0], _, _, ⟨rfl, rfl⟩, trivial, Eqv.rfl, EqvO.rfl, trivial⟩
end Go.Proofs.Ytdgnnboljgpcmaa.E
