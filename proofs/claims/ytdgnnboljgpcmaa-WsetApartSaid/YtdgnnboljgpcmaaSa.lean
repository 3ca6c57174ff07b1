/- The write set: New, Write, Read. -/
import Derived.Test.YtdgnnboljgpcmaaOh
namespace Go.Proofs.Ytdgnnboljgpcmaa.E
open Go
set_option maxRecDepth 4000
abbrev Body := Vector UInt8 64
theorem u16i {a b : UInt16} : ((a.toNat : Int) = b.toNat) ↔ a = b := ⟨fun h => UInt16.toNat_inj.1 (by omega), fun h => by rw [h]⟩
abbrev kP (k : UInt16) : D := .int .u16 k.toNat
abbrev decP : DecidableEq UInt16 := inferInstance
abbrev encE (e : Body × Body) : D := .st [.bytes 64 e.1, .bytes 64 e.2]
abbrev Pages := List (UInt16 × (Body × Body))
abbrev mpS (m : Pages) : SObj := .mp decP kP encE m
theorem key23 : KeyOK Try.prog 23 decP kP := keyOK_now (kd := .int .u16) (by kernel_rfl) (fun _ _ => by trivial) (fun _ _ _ => rfl) (fun a b R => by
  have e : ((a.toNat : Int) == (b.toNat : Int)) = decide (a = b) := by rw [Bool.eq_iff_iff]; simp [u16i]
  simp only [Instr.sameNow, conc, e, if_true])
abbrev setH (m : Pages) : List SObj := [.var 89 (.st [.mapr 1]), mpS m]
theorem f12 : CallAt Try.prog 12 [] [] (fun d H => d = .ptr 0 [] ∧ H = setH []) := by
  refine callAt_of_execR zeros mixed (fn := Try.f12) rfl rfl rfl ?_
  refine ⟨UInt16, Body × Body, decP, kP, encE, ?_⟩
  exact ⟨[1, 0], _, _, ⟨rfl, rfl⟩, trivial, Eqv.rfl, EqvO.rfl, EqvO.rfl, trivial⟩
def zB : Body := Vector.replicate 64 0
/-- Read -/
def readP (m : Pages) (p : UInt16) : Body × Bool := match look decP m p with | some e => (e.2, true) | none => (zB, false)
def readD (r : Body × Bool) : D := .tup [.bytes 64 r.1, .bool r.2]
set_option maxHeartbeats 1000000 in
theorem f15 (m : Pages) (p : UInt16) : Rd Try.prog 15 [.ptr 0 [], kP p] (setH m) (readD (readP m p)) := by
  refine ⟨rfl, callAt_of_execR zeros mixed (fn := Try.f15) rfl rfl rfl ?_⟩
  refine ⟨p, key23, Eqv.rfl, fun v hv => ?_, fun hv => ?_⟩
  · have e : readP m p = (v.2, true) := by simp only [readP, hv]
    rw [e]
    exact ⟨[0, 1], _, _, ⟨rfl, rfl⟩, trivial, fun R => rfl, EqvO.rfl, EqvO.rfl, trivial⟩
  · have e : readP m p = (zB, false) := by simp only [readP, hv]
    rw [e]
    exact ⟨[0, 1], _, _, ⟨rfl, rfl⟩, trivial, fun R => rfl, EqvO.rfl, EqvO.rfl, trivial⟩
theorem f15n (p : UInt16) : Pure Try.prog 15 [.nilp, kP p] (readD (zB, false)) := by
  refine ⟨fun _ _ => rfl, fun _ _ => rfl, rfl, callAt_of_execR zeros mixed (fn := Try.f15) rfl rfl rfl ?_⟩
  exact ⟨[], _, _, ⟨rfl, rfl⟩, trivial, fun R => rfl, trivial⟩
theorem splice_nil {n : Nat} (p : Vector UInt8 n) (i : Nat) : splice p i [] = p := by
  ext k hk; simp [splice]; intros; omega
/-- Write -/
def okW (off : Int) (s : Bytes) : Bool := decide (0 ≤ off) && decide (off ≤ 64) && decide ((s.length : Int) ≤ 64 - off)
def writeP (m : Pages) (p : UInt16) (base : Body) (off : Int) (s : Bytes) : Int × Pages :=
  if okW off s then
    match look decP m p with
    | some e => (0, upd decP m p (e.1, splice e.2 off.toNat s))
    | none => if m.length = 4 then (10, m) else (0, upd decP m p (base, splice base off.toNat s))
  else (1, m)
theorem f13n (p : UInt16) (base : Body) (off : Int) (s : Bytes) : Pure Try.prog 13 [.nilp, kP p, .bytes 64 base, .int .i64 off, .str s] (.int .i64 1) := by
  refine ⟨fun _ _ => rfl, fun _ _ => rfl, rfl, callAt_of_execR zeros mixed (fn := Try.f13) rfl rfl rfl ?_⟩
  exact ⟨[], _, _, ⟨rfl, rfl⟩, trivial, fun R => rfl, trivial⟩
set_option maxHeartbeats 4000000 in
theorem f13 (m : Pages) (p : UInt16) (base : Body) (off : Int) (s : Bytes) (hs : s.length ≤ 9223372036854775807) : CallAt Try.prog 13 [.ptr 0 [], kP p, .bytes 64 base, .int .i64 off, .str s] (setH m)
    (fun d H => d = .int .i64 (writeP m p base off s).1 ∧ H = setH (writeP m p base off s).2) := by
  refine callAt_of_execR zeros mixed (fn := Try.f13) rfl rfl rfl ?_
  have bad : okW off s = false → writeP m p base off s = (1, m) := fun h => by simp only [writeP, h]; rfl
  refine And.intro (fun h => ?_) (fun h => ?_)
  · have g : off < 0 := of_decide_eq_true h
    rw [bad (by simp [okW]; omega)]
    exact ⟨[0, 1], _, _, ⟨rfl, rfl⟩, trivial, Eqv.rfl, EqvO.rfl, EqvO.rfl, trivial⟩
  have g0 : 0 ≤ off := by have := of_decide_eq_false h; omega
  refine And.intro (fun h => ?_) (fun h => ?_)
  · have g : 64 < off := of_decide_eq_true h
    rw [bad (by simp [okW]; omega)]
    exact ⟨[0, 1], _, _, ⟨rfl, rfl⟩, trivial, Eqv.rfl, EqvO.rfl, EqvO.rfl, trivial⟩
  have g1 : off ≤ 64 := by have := of_decide_eq_false h; omega
  have hw : IntKind.i64.wrap (64 - off) = 64 - off := w64 (by omega)
  refine And.intro (fun h => ?_) (fun h => ?_)
  · have g : 64 - off < s.length := by rw [hw] at h; exact of_decide_eq_true h
    rw [bad (by simp [okW]; omega)]
    exact ⟨[0, 1], _, _, ⟨rfl, rfl⟩, trivial, Eqv.rfl, EqvO.rfl, EqvO.rfl, trivial⟩
  have g2 : (s.length : Int) ≤ 64 - off := by rw [hw] at h; have := of_decide_eq_false h; omega
  have hok : okW off s = true := by simp [okW]; omega
  have htk : ∀ n : Nat, n = 64 - off.toNat → s.take n = s := fun n hn => List.take_of_length_le (by omega)
  refine ⟨p, key23, Eqv.rfl, fun v hv => ?_, fun hv => ?_⟩
  · have e : writeP m p base off s = (0, upd decP m p (v.1, splice v.2 off.toNat s)) := by simp only [writeP, hok, hv, if_true]
    rw [e]
    repeat refine JoinAt.through ?_
    refine And.intro ⟨by omega, by omega⟩ (And.intro (fun _ => ?_) (fun h64 => ?_))
    · refine ⟨_, rfl, ?_⟩
      refine And.intro (by omega) ?_
      rw [htk _ rfl]
      refine DrawAt.mixed [0, 1, 2, 3, 4, 5] [6] [1] (by kernel_rfl) ?_
      refine ⟨p, (v.1, splice v.2 off.toNat s), ⟨key23, Eqv.rfl, Eqv.rfl⟩, ?_⟩
      exact ⟨[0, 1], _, _, ⟨rfl, rfl⟩, trivial, Eqv.rfl, EqvO.rfl, EqvO.rfl, trivial⟩
    · have hs0 : s = [] := List.eq_nil_of_length_eq_zero (by omega)
      refine ⟨_, rfl, ?_⟩
      refine And.intro (by omega) ?_
      refine DrawAt.mixed [0, 1, 2, 3, 4, 5] [6] [1] (by kernel_rfl) ?_
      refine ⟨p, (v.1, splice v.2 off.toNat s), ⟨key23, Eqv.rfl, Eqv.of ?_⟩, ?_⟩
      · simp only [encE, hs0, List.take_nil, splice_nil]
      exact ⟨[0, 1], _, _, ⟨rfl, rfl⟩, trivial, Eqv.rfl, EqvO.rfl, EqvO.rfl, trivial⟩
  · repeat refine JoinAt.through ?_
    refine And.intro (fun h => ?_) (fun h => ?_)
    · have h4 : m.length = 4 := by have := of_decide_eq_true h; omega
      have e : writeP m p base off s = (10, m) := by simp only [writeP, hok, hv, h4, if_true]
      rw [e]
      exact ⟨[0, 1], _, _, ⟨rfl, rfl⟩, trivial, Eqv.rfl, EqvO.rfl, EqvO.rfl, trivial⟩
    have h4 : ¬ m.length = 4 := fun k => of_decide_eq_false h (by omega)
    have e : writeP m p base off s = (0, upd decP m p (base, splice base off.toNat s)) := by simp only [writeP, hok, hv, if_neg h4, if_true]
    rw [e]
    repeat refine JoinAt.through ?_
    refine And.intro ⟨by omega, by omega⟩ (And.intro (fun _ => ?_) (fun h64 => ?_))
    · refine ⟨_, rfl, ?_⟩
      refine And.intro (by omega) ?_
      rw [htk _ rfl]
      refine DrawAt.mixed [0, 1, 2, 3, 4, 5] [6] [1] (by kernel_rfl) ?_
      refine ⟨p, (base, splice base off.toNat s), ⟨key23, Eqv.rfl, Eqv.rfl⟩, ?_⟩
      exact ⟨[0, 1], _, _, ⟨rfl, rfl⟩, trivial, Eqv.rfl, EqvO.rfl, EqvO.rfl, trivial⟩
    · have hs0 : s = [] := List.eq_nil_of_length_eq_zero (by omega)
      refine ⟨_, rfl, ?_⟩
      refine And.intro (by omega) ?_
      refine DrawAt.mixed [0, 1, 2, 3, 4, 5] [6] [1] (by kernel_rfl) ?_
      refine ⟨p, (base, splice base off.toNat s), ⟨key23, Eqv.rfl, Eqv.of ?_⟩, ?_⟩
      · simp only [encE, hs0, List.take_nil, splice_nil]
      exact ⟨[0, 1], _, _, ⟨rfl, rfl⟩, trivial, Eqv.rfl, EqvO.rfl, EqvO.rfl, trivial⟩
end Go.Proofs.Ytdgnnboljgpcmaa.E
