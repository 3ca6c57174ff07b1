/- OracleNone and OracleEnds, walked. -/
import Derived.Test.YtdgnnboljgpcmaaOf
namespace Go.Proofs.Ytdgnnboljgpcmaa.E
open Go
set_option maxRecDepth 4000
theorem wrap_low (n : UInt64) : IntKind.wrap .u32 (n.toNat : Int) = ((n.toUInt32).toNat : Int) := by
  rw [IntKind.wrap_u32, UInt64.toNat_toUInt32]; omega
set_option maxHeartbeats 4000000 in
theorem f10 (n : UInt64) : Pure Try.prog 10 [kU n] .tt := by
  refine ⟨fun _ _ => rfl, fun _ _ => rfl, rfl, callAt_of_exec zeros mixed (fn := Try.f10) rfl rfl rfl (by rintro _ _ ⟨rfl, rfl⟩; exact Nat.le_refl _) ?_⟩
  refine f29n.c ?_
  refine f19n.c ?_
  refine (f28n n).c ?_
  refine And.intro (fun _ => ?_) (fun h => absurd h (by decide))
  refine And.intro (fun _ => ?_) (fun h => absurd h (by decide))
  refine And.intro (fun _ => ?_) (fun h => absurd h (by decide))
  refine And.intro (fun _ => ?_) (fun h => absurd h (by decide))
  refine And.intro (fun _ => ?_) (fun h => absurd h (by decide))
  refine And.intro (fun _ => ?_) (fun h => absurd h (by decide))
  refine (f31n n).c ?_
  refine And.intro (fun _ => ?_) (fun h => absurd h (by decide))
  refine CallAt.conv (ds' := [.nilp, vU n.toUInt32]) (fun R => by simp only [conc, concL, wrap_low]) ((f20n n.toUInt32).c ?_)
  refine And.intro (fun _ => ?_) (fun h => absurd h (by decide))
  refine f21n.c ?_
  refine And.intro (fun _ => ?_) (fun h => absurd h (by decide))
  refine f32n.c ?_
  refine And.intro (fun _ => ?_) (fun h => absurd h (by decide))
  refine f35n.c ?_
  refine And.intro (fun _ => ?_) (fun h => absurd h (by decide))
  refine f17.c ?_
  exact ⟨_, _, ⟨rfl, rfl⟩, fun R => rfl, trivial⟩
def endsO (max : UInt32) (left : UInt8) (i : Nat) : Orc := ⟨UInt32.ofNat (max.toNat - left.toNat + i), max, 0, []⟩
section
variable {max : UInt32} {left : UInt8}
theorem ends_last {i : Nat} (h : left.toNat ≤ max.toNat) (hi : i ≤ left.toNat) : (endsO max left i).last.toNat = max.toNat - left.toNat + i := by
  have hm := max.toNat_lt
  simp only [endsO, UInt32.toNat_ofNat']; omega
theorem ends_succ {i : Nat} (h : left.toNat ≤ max.toNat) (hi : i < left.toNat) : (endsO max left i).last + 1 = (endsO max left (i + 1)).last := by
  apply UInt32.toNat_inj.1
  have hm := max.toNat_lt
  rw [ends_last h hi, UInt32.toNat_add, ends_last h (Nat.le_of_lt hi)]
  simp; omega
theorem ends_ne {i : Nat} (h : left.toNat ≤ max.toNat) (hi : i < left.toNat) : (endsO max left i).last ≠ max := fun e => by
  have := ends_last h (Nat.le_of_lt hi); rw [e] at this; omega
theorem ends_end (h : left.toNat ≤ max.toNat) : (endsO max left left.toNat).last = max := by
  apply UInt32.toNat_inj.1
  rw [ends_last h (Nat.le_refl _)]; omega
end
set_option maxHeartbeats 8000000 in
theorem f4 (max : UInt32) (left : UInt8) : Pure Try.prog 4 [vU max, .int .u8 left.toNat] .tt := by
  refine ⟨fun _ _ => rfl, fun _ _ => rfl, rfl, callAt_of_execR zeros mixed (fn := Try.f4) rfl rfl rfl ?_⟩
  have hl8 := left.toNat_lt
  have hm := max.toNat_lt
  have hwl : IntKind.wrap .u32 (left.toNat : Int) = (left.toNat : Int) := IntWalk.u32_in _ (by omega)
  refine And.intro (fun h => ?_) (fun h => ?_)
  · refine f17.c ?_
    exact ⟨[], _, _, ⟨rfl, rfl⟩, trivial, Eqv.rfl, trivial⟩
  have hle : left.toNat ≤ max.toNat := by have := of_decide_eq_false h; rw [hwl] at this; omega
  have hlast := ends_last (i := 0) hle (Nat.zero_le _)
  have hnot : ¬ max < (endsO max left 0).last := by rw [UInt32.lt_iff_toNat_lt, hlast]; omega
  have hwm : IntKind.wrap .u32 ((max.toNat : Int) - left.toNat) = ((endsO max left 0).last.toNat : Int) := by rw [hlast, IntWalk.u32_in _ (by omega)]; omega
  refine (new_some hnot).lift [] rfl (fun R => by simp only [conc, concL, renL, ren, hwl, hwm]) (by rintro d H1 ⟨rfl, rfl⟩ hj; cases hj) ?_
  rintro d H1 ⟨rfl, rfl⟩
  let S : Nat → St := fun i => ⟨slotsOf 87 [(0, vU max), (1, .int .u8 left.toNat), (5, .ptr 0 []), (6, .int .u32 i)], (endsO max left i).H⟩
  refine LoopN.of Nat (fun i => i ≤ left.toNat) (fun i => left.toNat - i) S (fun _ => Nat.zero_le _) 0 (Nat.zero_le _) ?_ ?_
  · exact ⟨Eqv.rfl, Eqv.rfl, Eqv.rfl, Eqv.rfl, EqvO.rfl, EqvO.rfl, trivial⟩
  rintro i hi
  dsimp only [S] at hi ⊢
  refine And.intro (fun h1 => ?_) (fun h1 => ?_)
  · have hi' : i < left.toNat := by have := of_decide_eq_true h1; rw [hwl] at this; omega
    have hn : nextO (endsO max left i) = .tup [vU (endsO max left (i + 1)).last, .int .i64 0] := by
      have : ¬ (endsO max left i).last = (endsO max left i).max := ends_ne hle hi'
      simp only [nextO, if_neg this, ends_succ hle hi']
    have hp : pubOK (endsO max left i) (endsO max left (i + 1)).last = true := by
      simp only [pubOK, ends_succ hle hi', decide_true, Bool.and_true]
      exact decide_eq_true (ends_ne hle hi')
    have hpo : pubO (endsO max left i) (endsO max left (i + 1)).last = endsO max left (i + 1) := by simp only [pubO, hp, if_true]; rfl
    have hpe : pubE (endsO max left i) (endsO max left (i + 1)).last = .int .i64 0 := by simp only [pubE, hp, if_true]
    have hc := f19 (endsO max left i)
    rw [hn] at hc
    refine hc.c [0, 1] rfl (fun _ => rfl) (by exact ⟨EqvS.rfl, EqvS.rfl, trivial⟩) ?_
    refine And.intro (fun h => absurd h (by decide)) (fun _ => ?_)
    refine And.intro (fun h => ?_) (fun _ => ?_)
    · refine absurd h ?_
      have e1 := ends_last (i := i + 1) hle hi'
      simp only [hwl, IntKind.wrap_u32]
      simp
      omega
    refine (f20 (endsO max left i) (endsO max left (i + 1)).last).lift [0, 1] rfl (fun _ => rfl) (by rintro d H1 ⟨rfl, rfl⟩ hj; rw [hpe] at hj; cases hj) ?_
    refine ⟨EqvO.rfl, EqvO.rfl, ?_⟩
    rintro d H1 ⟨rfl, rfl⟩
    rw [hpo, hpe]
    refine And.intro (fun h => absurd h (by decide)) (fun _ => ?_)
    refine ⟨i + 1, ⟨hi', by omega⟩, Eqv.rfl, Eqv.rfl, Eqv.rfl, Eqv.of ?_, EqvO.rfl, EqvO.rfl, trivial⟩
    rw [IntWalk.u32_in _ (by omega)]; rfl
  · have hi' : i = left.toNat := by have := of_decide_eq_false h1; rw [hwl] at this; omega
    subst hi'
    have he := ends_end hle
    have hn : nextO (endsO max left left.toNat) = .tup [.int .u32 0, .int .i64 8] := by
      have : (endsO max left left.toNat).last = (endsO max left left.toNat).max := he
      simp only [nextO, if_pos this]
    have hp : ∀ ts, pubOK (endsO max left left.toNat) ts = false := fun ts => by
      have : (endsO max left left.toNat).last = (endsO max left left.toNat).max := he
      simp [pubOK, this]
    have hpo : ∀ ts, pubO (endsO max left left.toNat) ts = endsO max left left.toNat := fun ts => by simp [pubO, hp ts]
    have hpe : ∀ ts, pubE (endsO max left left.toNat) ts = .int .i64 1 := fun ts => by simp [pubE, hp ts]
    have hc := f19 (endsO max left left.toNat)
    rw [hn] at hc
    refine hc.c [0, 1] rfl (fun _ => rfl) (by exact ⟨EqvS.rfl, EqvS.rfl, trivial⟩) ?_
    refine And.intro (fun _ => ?_) (fun h => absurd h (by decide))
    refine And.intro (fun _ => ?_) (fun h => absurd h (by decide))
    refine (f20 (endsO max left left.toNat) max).lift [0, 1] rfl (fun _ => rfl) (by rintro d H1 ⟨rfl, rfl⟩ hj; rw [hpe] at hj; cases hj) ?_
    refine ⟨EqvO.rfl, EqvO.rfl, ?_⟩
    rintro d H1 ⟨rfl, rfl⟩
    rw [hpo, hpe]
    refine And.intro (fun _ => ?_) (fun h => absurd h (by decide))
    refine (f20 (endsO max left left.toNat) (max + 1)).lift [0, 1] rfl (fun R => by simp only [conc, concL, renL, ren, wrap_u32]; rfl) (by rintro d H1 ⟨rfl, rfl⟩ hj; rw [hpe] at hj; cases hj) ?_
    refine ⟨EqvO.rfl, EqvO.rfl, ?_⟩
    rintro d H1 ⟨rfl, rfl⟩
    rw [hpo, hpe]
    refine And.intro (fun _ => ?_) (fun h => absurd h (by decide))
    refine (f21 (endsO max left left.toNat)).c [0, 1] rfl (fun _ => rfl) (by exact ⟨EqvS.rfl, EqvS.rfl, trivial⟩) ?_
    refine And.intro (fun _ => ?_) (fun h => absurd h ?_)
    · refine f17.c ?_
      exact ⟨[], _, _, ⟨rfl, rfl⟩, trivial, Eqv.rfl, trivial⟩
    · rw [he]; simp
end Go.Proofs.Ytdgnnboljgpcmaa.E
