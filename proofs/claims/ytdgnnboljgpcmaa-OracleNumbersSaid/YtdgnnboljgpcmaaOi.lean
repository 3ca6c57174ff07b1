/- OracleNumbers, walked. -/
import Derived.Test.YtdgnnboljgpcmaaOh
namespace Go.Proofs.Ytdgnnboljgpcmaa.E
open Go
set_option maxRecDepth 4000
def NInv (o : Orc) (i : Nat) : Prop := o.count.toNat ≤ i ∧ (o.m.map (·.1)).Nodup
theorem beg_inv {o : Orc} {i : Nat} (h : NInv o i) : NInv (begO o) (i + 1) := by
  obtain ⟨h1, h2⟩ := h
  unfold begO
  split
  · exact ⟨Nat.le_succ_of_le h1, h2⟩
  · refine ⟨?_, nodup_upd h2⟩
    show (o.count + 1).toNat ≤ i + 1
    rw [UInt64.toNat_add]
    simp; omega
theorem do_inv {o : Orc} {i : Nat} {k : Int} {n : UInt64} (h : NInv o i) (hk : ¬ k = 0) : NInv (doO o k n) (i + 1) ∧ (doO o k n).count = o.count := by
  obtain ⟨h1, h2⟩ := h
  have hp : ∀ ts, NInv (pubO o ts) (i + 1) ∧ (pubO o ts).count = o.count := fun ts => by
    unfold pubO
    split <;> exact ⟨⟨Nat.le_succ_of_le h1, h2⟩, rfl⟩
  unfold doO
  rw [if_neg hk]
  split
  · exact ⟨⟨Nat.le_succ_of_le h1, nodup_del h2⟩, rfl⟩
  split
  · exact hp _
  split
  · split
    · exact ⟨⟨Nat.le_succ_of_le h1, h2⟩, rfl⟩
    · exact hp _
  · exact ⟨⟨Nat.le_succ_of_le h1, h2⟩, rfl⟩
set_option maxHeartbeats 8000000 in
theorem f9 (A : HP) (v : Value) (s : List (Int × UInt64)) (hv : RawOps A v s) :
    CallAt Try.prog 9 [.val v] [.res A] (fun d H => d = .tt ∧ H = [.res A]) := by
  refine callAt_of_execR zeros mixed (fn := Try.f9) rfl rfl rfl ?_
  obtain ⟨a, cap0, rfl, hraw⟩ := hv
  refine (new_some (last := 0) (max := 4294967295) (by decide)).lift [] rfl (fun _ => rfl) (by rintro d H1 ⟨rfl, rfl⟩ hj; cases hj) ?_
  rintro d H1 ⟨rfl, rfl⟩
  let S : Nat × Orc → St := fun x => ⟨slotsOf 76 [(0, .val (.slice a s.length cap0)), (3, .ptr 1 []), (4, kU x.2.count), (5, .int .i64 x.1)], [.res A, .var 97 (.st [.int .u32 x.2.last.toNat, .int .u32 x.2.max.toNat, .int .u64 x.2.count.toNat, .mapr 2]), mpO x.2.m]⟩
  refine LoopN.of (Nat × Orc) (fun x => x.1 ≤ s.length ∧ x.1 ≤ 60 ∧ NInv x.2 x.1) (fun x => s.length - x.1) S (fun _ => Nat.le_of_ble_eq_true rfl) (0, newO 0 4294967295) ⟨Nat.zero_le _, Nat.zero_le _, ⟨Nat.le_refl _, List.nodup_nil⟩⟩ ?_ ?_
  · exact ⟨Eqv.rfl, Eqv.rfl, Eqv.rfl, Eqv.rfl, EqvO.rfl, EqvO.rfl, EqvO.rfl, trivial⟩
  rintro ⟨i, o⟩ ⟨hi, hi60, hinv⟩
  dsimp only [S] at hi hi60 hinv ⊢
  have hw : IntKind.i64.wrap ((i : Int) + 1) = ((i + 1 : Nat) : Int) := by rw [w64 (by omega)]; rfl
  refine And.intro (fun h => ?_) (fun h => ?_)
  · have hi' : i < s.length := by have := of_decide_eq_true h; omega
    refine And.intro (fun h => ?_) (fun h => ?_)
    · have hi60' : i < 60 := by have := of_decide_eq_true h; omega
      have hs : s[i]? = some s[i] := List.getElem?_eq_getElem hi'
      obtain ⟨b, off, rfl, hat⟩ := hraw i _ hs
      repeat refine JoinAt.through ?_
      refine And.intro ⟨by omega, by omega⟩ ?_
      refine ⟨_, rawKind hat, ?_⟩
      refine And.intro (fun h => ?_) (fun h => ?_)
      · refine (f29 o).lift [1, 2] rfl (fun _ => rfl) (by rintro d H1 ⟨rfl, rfl⟩ hj; unfold begD at hj; split at hj <;> cases hj) ?_
        refine ⟨EqvO.rfl, EqvO.rfl, ?_⟩
        rintro d H1 ⟨rfl, rfl⟩
        have hnx := beg_inv hinv
        by_cases h8 : o.m.length = 8
        · have hb : begO o = o := by simp only [begO, if_pos h8]
          have hd : begD o = .tup [.int .u64 0, .int .u32 0, .int .i64 10] := by simp only [begD, if_pos h8]
          rw [hb] at hnx
          rw [hb, hd]
          repeat refine JoinAt.through ?_
          refine And.intro (fun h => absurd h (by decide)) (fun _ => ?_)
          repeat refine JoinAt.through ?_
          refine ⟨(i + 1, o), ⟨⟨hi', hi60', hnx⟩, by show s.length - (i + 1) < s.length - i; omega⟩, ?_⟩
          exact ⟨Eqv.rfl, Eqv.rfl, Eqv.rfl, Eqv.of (by rw [hw]), EqvO.rfl, EqvO.rfl, EqvO.rfl, trivial⟩
        · obtain ⟨o', ho'⟩ : ∃ o', o' = begO o := ⟨_, rfl⟩
          have hcnt : (o.count + 1).toNat = o.count.toNat + 1 := by have := hinv.1; rw [UInt64.toNat_add]; simp; omega
          have hd : begD o = .tup [kU o'.count, vU o.last, .int .i64 0] := by rw [ho']; simp only [begD, begO, if_neg h8]
          have hc' : o'.count = o.count + 1 := by rw [ho']; simp only [begO, if_neg h8]
          rw [← ho'] at hnx
          rw [hd, ← ho']
          repeat refine JoinAt.through ?_
          refine And.intro (fun _ => ?_) (fun h => absurd h (by decide))
          repeat refine JoinAt.through ?_
          refine And.intro (fun h => absurd h ?_) (fun _ => ?_)
          · rw [hc', hcnt]; simp; omega
          repeat refine JoinAt.through ?_
          refine ⟨(i + 1, o'), ⟨⟨hi', hi60', hnx⟩, by show s.length - (i + 1) < s.length - i; omega⟩, ?_⟩
          exact ⟨Eqv.rfl, Eqv.rfl, Eqv.rfl, Eqv.of (by rw [hw]), EqvO.rfl, EqvO.rfl, EqvO.rfl, trivial⟩
      · have hk : ¬ s[i].1 = 0 := of_decide_eq_false h
        repeat refine JoinAt.through ?_
        refine And.intro ⟨by omega, by omega⟩ ?_
        refine ⟨_, hat, ?_⟩
        refine (f36 o s[i].1 s[i].2).lift [1, 2] rfl (fun _ => rfl) (by rintro d H1 ⟨rfl, rfl⟩ hj; cases hj) ?_
        refine ⟨EqvO.rfl, EqvO.rfl, ?_⟩
        rintro d H1 ⟨rfl, rfl⟩
        obtain ⟨hnx, hcn⟩ := do_inv (n := s[i].2) hinv hk
        obtain ⟨o', ho'⟩ : ∃ o', o' = doO o s[i].1 s[i].2 := ⟨_, rfl⟩
        rw [← ho'] at hnx hcn ⊢
        repeat refine JoinAt.through ?_
        refine And.intro ⟨by omega, by omega⟩ ?_
        refine ⟨_, rawKind hat, ?_⟩
        repeat refine JoinAt.through ?_
        refine And.intro (fun h => ?_) (fun h => ?_)
        · have hk1 : s[i].1 = 1 := of_decide_eq_true h
          have hoe : o' = endO o s[i].2 := by rw [ho', doO, if_neg hk, if_pos hk1]
          have hln : look decU o'.m s[i].2 = none := by rw [hoe]; exact look_del hinv.2
          refine And.intro ⟨by omega, by omega⟩ ?_
          refine ⟨_, rawNum hat, ?_⟩
          have hc := f28 o' s[i].2
          have hls : lookS o'.m s[i].2 = .tup [.int .u32 0, .ff] := by simp only [lookS, hln]
          rw [hls] at hc
          refine hc.c [1, 2] rfl (fun _ => rfl) (by exact ⟨EqvS.rfl, EqvS.rfl, trivial⟩) ?_
          repeat refine JoinAt.through ?_
          refine And.intro ⟨by omega, by omega⟩ ?_
          refine ⟨_, rawNum hat, ?_⟩
          have hee : endO o' s[i].2 = o' := by simp only [endO, look_none_del _ hln]
          refine (f31 o' s[i].2).lift [1, 2] rfl (fun _ => rfl) (by rintro d H1 ⟨rfl, rfl⟩ hj; cases hj) ?_
          refine ⟨EqvO.rfl, EqvO.rfl, ?_⟩
          rintro d H1 ⟨rfl, rfl⟩
          rw [hee, hln]
          refine And.intro (fun h => absurd h (by decide)) (fun _ => ?_)
          repeat refine JoinAt.through ?_
          refine ⟨(i + 1, o'), ⟨⟨hi', hi60', hnx⟩, by show s.length - (i + 1) < s.length - i; omega⟩, ?_⟩
          exact ⟨Eqv.rfl, Eqv.rfl, Eqv.of (by rw [hcn]), Eqv.of (by rw [hw]), EqvO.rfl, EqvO.rfl, EqvO.rfl, trivial⟩
        · refine ⟨(i + 1, o'), ⟨⟨hi', hi60', hnx⟩, by show s.length - (i + 1) < s.length - i; omega⟩, ?_⟩
          exact ⟨Eqv.rfl, Eqv.rfl, Eqv.of (by rw [hcn]), Eqv.of (by rw [hw]), EqvO.rfl, EqvO.rfl, EqvO.rfl, trivial⟩
    · refine f17.c ?_
      exact ⟨[0], _, _, ⟨rfl, rfl⟩, trivial, Eqv.rfl, EqvO.rfl, trivial⟩
  · refine f17.c ?_
    exact ⟨[0], _, _, ⟨rfl, rfl⟩, trivial, Eqv.rfl, EqvO.rfl, trivial⟩
end Go.Proofs.Ytdgnnboljgpcmaa.E
