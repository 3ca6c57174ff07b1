/- The oracle's small calls: what each answers, and what it leaves. -/
import Derived.Test.YtdgnnboljgpcmaaZero
namespace Go.Proofs.Ytdgnnboljgpcmaa.E
open Go
set_option maxRecDepth 4000
theorem w64 {x : Int} (h : -9223372036854775808 ≤ x ∧ x ≤ 9223372036854775807) : IntKind.wrap .i64 x = x := IntWalk.i64_in x h
theorem u32i {a b : UInt32} : ((a.toNat : Int) = b.toNat) ↔ a = b := ⟨fun h => UInt32.toNat_inj.1 (by omega), fun h => by rw [h]⟩
theorem u64i {a b : UInt64} : ((a.toNat : Int) = b.toNat) ↔ a = b := ⟨fun h => UInt64.toNat_inj.1 (by omega), fun h => by rw [h]⟩
theorem wrap_u32 (x : UInt32) : IntKind.wrap .u32 ((x.toNat : Int) + 1) = ((x + 1).toNat : Int) := by
  rw [IntKind.wrap_u32, UInt32.toNat_add]; simp
theorem wrap_u64 (x : UInt64) : IntKind.wrap .u64 ((x.toNat : Int) + 1) = ((x + 1).toNat : Int) := by
  rw [IntKind.wrap_u64, UInt64.toNat_add]; simp
abbrev kU (k : UInt64) : D := .int .u64 k.toNat
abbrev vU (v : UInt32) : D := .int .u32 v.toNat
abbrev decU : DecidableEq UInt64 := inferInstance
abbrev Live := List (UInt64 × UInt32)
abbrev mpO (m : Live) : SObj := .mp decU kU vU m
theorem key65 : KeyOK Try.prog 65 decU kU := keyOK_now (kd := .int .u64) (by kernel_rfl) (fun _ _ => by trivial) (fun _ _ _ => rfl) (fun a b R => by
  have e : ((a.toNat : Int) == (b.toNat : Int)) = decide (a = b) := by rw [Bool.eq_iff_iff]; simp [u64i]
  simp only [Instr.sameNow, conc, e, if_true])
structure Orc where
  last : UInt32
  max : UInt32
  count : UInt64
  m : Live
def Orc.d (o : Orc) : D := .st [.int .u32 o.last.toNat, .int .u32 o.max.toNat, .int .u64 o.count.toNat, .mapr 1]
abbrev Orc.H (o : Orc) : List SObj := [.var 97 o.d, mpO o.m]
/-- Start -/
def lookS (m : Live) (n : UInt64) : D := match look decU m n with | some s => .tup [vU s, .tt] | none => .tup [.int .u32 0, .ff]
theorem f28 (o : Orc) (n : UInt64) : Rd Try.prog 28 [.ptr 0 [], kU n] o.H (lookS o.m n) := by
  refine ⟨by unfold lookS; cases look decU o.m n <;> rfl, callAt_of_exec zeros mixed (fn := Try.f28) rfl rfl rfl (by rintro _ _ ⟨rfl, rfl⟩; exact Nat.le_refl _) ?_⟩
  refine ⟨n, key65, Eqv.rfl, fun v hv => ?_, fun hv => ?_⟩
  · exact ⟨_, _, ⟨rfl, rfl⟩, fun R => by simp only [lookS, hv], EqvO.rfl, EqvO.rfl, trivial⟩
  · exact ⟨_, _, ⟨rfl, rfl⟩, fun R => by simp only [lookS, hv], EqvO.rfl, EqvO.rfl, trivial⟩
theorem f28n (n : UInt64) : Pure Try.prog 28 [.nilp, kU n] (.tup [.int .u32 0, .ff]) := by
  refine ⟨fun _ _ => rfl, fun _ _ => rfl, rfl, callAt_of_exec zeros mixed (fn := Try.f28) rfl rfl rfl (by rintro _ _ ⟨rfl, rfl⟩; exact Nat.le_refl _) ?_⟩
  exact ⟨_, _, ⟨rfl, rfl⟩, fun R => rfl, trivial⟩
/-- Next -/
def nextO (o : Orc) : D := if o.last = o.max then .tup [.int .u32 0, .int .i64 8] else .tup [vU (o.last + 1), .int .i64 0]
theorem f19 (o : Orc) : Rd Try.prog 19 [.ptr 0 []] o.H (nextO o) := by
  refine ⟨by unfold nextO; split <;> rfl, callAt_of_exec zeros mixed (fn := Try.f19) rfl rfl rfl (by rintro _ _ ⟨rfl, rfl⟩; exact Nat.le_refl _) ?_⟩
  refine DrawAt.all (by kernel_rfl) ?_
  refine And.intro (fun h => ?_) (fun h => ?_)
  · have h := u32i.1 (of_decide_eq_true h)
    exact ⟨_, _, ⟨rfl, rfl⟩, fun R => by simp only [nextO, if_pos h], EqvO.rfl, EqvO.rfl, trivial⟩
  · have h : ¬ o.last = o.max := fun e => of_decide_eq_false h (u32i.2 e)
    exact ⟨_, _, ⟨rfl, rfl⟩, fun R => by simp only [nextO, if_neg h, conc, concL]; rw [wrap_u32], EqvO.rfl, EqvO.rfl, trivial⟩
theorem f19n : Pure Try.prog 19 [.nilp] (.tup [.int .u32 0, .int .i64 1]) := by
  refine ⟨fun _ _ => rfl, fun _ _ => rfl, rfl, callAt_of_exec zeros mixed (fn := Try.f19) rfl rfl rfl (by rintro _ _ ⟨rfl, rfl⟩; exact Nat.le_refl _) ?_⟩
  exact ⟨_, _, ⟨rfl, rfl⟩, fun R => rfl, trivial⟩
theorem f21 (o : Orc) : Rd Try.prog 21 [.ptr 0 []] o.H (vU o.last) := by
  refine ⟨rfl, callAt_of_exec zeros mixed (fn := Try.f21) rfl rfl rfl (by rintro _ _ ⟨rfl, rfl⟩; exact Nat.le_refl _) ?_⟩
  exact ⟨_, _, ⟨rfl, rfl⟩, fun R => rfl, EqvO.rfl, EqvO.rfl, trivial⟩
theorem f21n : Pure Try.prog 21 [.nilp] (.int .u32 0) := by
  refine ⟨fun _ _ => rfl, fun _ _ => rfl, rfl, callAt_of_exec zeros mixed (fn := Try.f21) rfl rfl rfl (by rintro _ _ ⟨rfl, rfl⟩; exact Nat.le_refl _) ?_⟩
  exact ⟨_, _, ⟨rfl, rfl⟩, fun R => rfl, trivial⟩
/-- Publish -/
def pubOK (o : Orc) (ts : UInt32) : Bool := decide (o.last ≠ o.max) && decide (o.last + 1 = ts)
def pubO (o : Orc) (ts : UInt32) : Orc := if pubOK o ts then { o with last := ts } else o
def pubE (o : Orc) (ts : UInt32) : D := if pubOK o ts then .int .i64 0 else .int .i64 1
theorem f20 (o : Orc) (ts : UInt32) : CallAt Try.prog 20 [.ptr 0 [], vU ts] o.H (fun d H => d = pubE o ts ∧ H = (pubO o ts).H) := by
  refine callAt_of_exec zeros mixed (fn := Try.f20) rfl rfl rfl (by rintro _ _ ⟨rfl, rfl⟩; exact Nat.le_refl _) ?_
  by_cases h1 : o.last = o.max
  · have hb : pubOK o ts = false := by simp [pubOK, h1]
    have hn : nextO o = .tup [.int .u32 0, .int .i64 8] := by simp only [nextO, if_pos h1]
    have hc := f19 o
    rw [hn] at hc
    refine hc.c [0, 1] rfl (fun _ => rfl) (by exact ⟨EqvS.rfl, EqvS.rfl, trivial⟩) ?_
    refine And.intro (fun _ => ?_) (fun h => absurd h (by decide))
    refine ⟨_, _, ⟨rfl, rfl⟩, fun R => by simp only [pubE, hb]; rfl, ?_⟩
    simp only [pubO, hb]
    exact ⟨EqvO.rfl, EqvO.rfl, trivial⟩
  · have hn : nextO o = .tup [vU (o.last + 1), .int .i64 0] := by simp only [nextO, if_neg h1]
    have hc := f19 o
    rw [hn] at hc
    refine hc.c [0, 1] rfl (fun _ => rfl) (by exact ⟨EqvS.rfl, EqvS.rfl, trivial⟩) ?_
    refine And.intro (fun h => absurd h (by decide)) (fun _ => ?_)
    refine And.intro (fun h => ?_) (fun h => ?_)
    · have h : ¬ o.last + 1 = ts := by rw [← u32i, ← wrap_u32, IntKind.wrap_u32]; simpa using h
      have hb : pubOK o ts = false := by simp [pubOK, h]
      refine ⟨_, _, ⟨rfl, rfl⟩, fun R => by simp only [pubE, hb]; rfl, ?_⟩
      simp only [pubO, hb]
      exact ⟨EqvO.rfl, EqvO.rfl, trivial⟩
    · have h : o.last + 1 = ts := by rw [← u32i, ← wrap_u32, IntKind.wrap_u32]; simpa using h
      have hb : pubOK o ts = true := by simp [pubOK, h, h1]
      refine ⟨_, _, ⟨rfl, rfl⟩, fun R => by simp only [pubE, hb]; rfl, ?_⟩
      simp only [pubO, hb]
      exact ⟨EqvO.rfl, EqvO.rfl, trivial⟩
theorem f20n (ts : UInt32) : Pure Try.prog 20 [.nilp, vU ts] (.int .i64 1) := by
  refine ⟨fun _ _ => rfl, fun _ _ => rfl, rfl, callAt_of_exec zeros mixed (fn := Try.f20) rfl rfl rfl (by rintro _ _ ⟨rfl, rfl⟩; exact Nat.le_refl _) ?_⟩
  refine f19n.c ?_
  refine And.intro (fun _ => ?_) (fun h => absurd h (by decide))
  exact ⟨_, _, ⟨rfl, rfl⟩, fun R => rfl, trivial⟩
/-- End -/
def endO (o : Orc) (n : UInt64) : Orc := { o with m := del decU o.m n }
theorem f31 (o : Orc) (n : UInt64) : CallAt Try.prog 31 [.ptr 0 [], kU n] o.H (fun d H => d = .int .i64 (if (look decU o.m n).isSome then 0 else 9) ∧ H = (endO o n).H) := by
  refine callAt_of_exec zeros mixed (fn := Try.f31) rfl rfl rfl (by rintro _ _ ⟨rfl, rfl⟩; exact Nat.le_refl _) ?_
  have hc := f28 o n
  cases hl : look decU o.m n with
  | none =>
    have hn : lookS o.m n = .tup [.int .u32 0, .ff] := by simp only [lookS, hl]
    rw [hn] at hc
    refine hc.c [0, 1] rfl (fun _ => rfl) (by exact ⟨EqvS.rfl, EqvS.rfl, trivial⟩) ?_
    refine ⟨_, _, ⟨rfl, rfl⟩, fun R => rfl, EqvO.rfl, EqvO.of ?_, trivial⟩
    simp only [mpO, endO, look_none_del _ hl]
  | some v =>
    have hn : lookS o.m n = .tup [vU v, .tt] := by simp only [lookS, hl]
    rw [hn] at hc
    refine hc.c [0, 1] rfl (fun _ => rfl) (by exact ⟨EqvS.rfl, EqvS.rfl, trivial⟩) ?_
    refine ⟨n, ⟨key65, Eqv.rfl⟩, ?_⟩
    exact ⟨_, _, ⟨rfl, rfl⟩, fun R => rfl, EqvO.rfl, EqvO.rfl, trivial⟩
theorem f31n (n : UInt64) : Pure Try.prog 31 [.nilp, kU n] (.int .i64 9) := by
  refine ⟨fun _ _ => rfl, fun _ _ => rfl, rfl, callAt_of_exec zeros mixed (fn := Try.f31) rfl rfl rfl (by rintro _ _ ⟨rfl, rfl⟩; exact Nat.le_refl _) ?_⟩
  refine (f28n n).c ?_
  exact ⟨_, _, ⟨rfl, rfl⟩, fun R => rfl, trivial⟩
/-- Begin -/
def begO (o : Orc) : Orc := if o.m.length = 8 then o else { o with count := o.count + 1, m := upd decU o.m (o.count + 1) o.last }
def begD (o : Orc) : D := if o.m.length = 8 then .tup [.int .u64 0, .int .u32 0, .int .i64 10] else .tup [kU (o.count + 1), vU o.last, .int .i64 0]
theorem f29 (o : Orc) : CallAt Try.prog 29 [.ptr 0 []] o.H (fun d H => d = begD o ∧ H = (begO o).H) := by
  refine callAt_of_exec zeros mixed (fn := Try.f29) rfl rfl rfl (by rintro _ _ ⟨rfl, rfl⟩; exact Nat.le_refl _) ?_
  refine And.intro (fun h => ?_) (fun h => ?_)
  · have h : o.m.length = 8 := by have := of_decide_eq_true h; omega
    refine ⟨_, _, ⟨rfl, rfl⟩, fun R => by simp only [begD, if_pos h], ?_⟩
    simp only [begO, if_pos h]
    exact ⟨EqvO.rfl, EqvO.rfl, trivial⟩
  · have h : ¬ o.m.length = 8 := fun e => of_decide_eq_false h (by omega)
    refine DrawAt.mixed [0, 1, 2, 3, 4, 5, 6, 7, 8, 9, 10, 11] [12] [1] (by kernel_rfl) ?_
    refine ⟨o.count + 1, o.last, ⟨key65, ?_, Eqv.rfl⟩, ?_⟩
    · exact Eqv.of (by rw [wrap_u64])
    refine DrawAt.all (by kernel_rfl) ?_
    refine ⟨_, _, ⟨rfl, rfl⟩, fun R => by simp only [begD, if_neg h, conc, concL]; rw [wrap_u64], ?_⟩
    simp only [begO, if_neg h]
    exact ⟨EqvO.var (Eqv.of (by rw [wrap_u64]; rfl)), EqvO.rfl, trivial⟩
theorem f29n : Pure Try.prog 29 [.nilp] (.tup [.int .u64 0, .int .u32 0, .int .i64 1]) := by
  refine ⟨fun _ _ => rfl, fun _ _ => rfl, rfl, callAt_of_exec zeros mixed (fn := Try.f29) rfl rfl rfl (by rintro _ _ ⟨rfl, rfl⟩; exact Nat.le_refl _) ?_⟩
  exact ⟨_, _, ⟨rfl, rfl⟩, fun R => rfl, trivial⟩
/-- New -/
def newO (last max : UInt32) : Orc := ⟨last, max, 0, []⟩
theorem f18 (last max : UInt32) : CallAt Try.prog 18 [vU last, vU max] [] (fun d H => (max < last → d = .nilp ∧ H = []) ∧ (¬ max < last → d = .ptr 0 [] ∧ H = (newO last max).H)) := by
  refine callAt_of_execR zeros mixed (fn := Try.f18) rfl rfl rfl ?_
  refine And.intro (fun h => ?_) (fun h => ?_)
  · have h : max < last := by have := of_decide_eq_true h; rw [UInt32.lt_iff_toNat_lt]; omega
    exact ⟨[], _, _, ⟨fun _ => ⟨rfl, rfl⟩, fun e => absurd h e⟩, trivial, Eqv.rfl, trivial⟩
  · have h : ¬ max < last := by have := of_decide_eq_false h; rw [UInt32.lt_iff_toNat_lt]; omega
    refine ⟨UInt64, UInt32, decU, kU, vU, ?_⟩
    exact ⟨[1, 0], _, _, ⟨fun e => absurd e h, fun _ => ⟨rfl, rfl⟩⟩, trivial, Eqv.rfl, EqvO.rfl, EqvO.rfl, trivial⟩
end Go.Proofs.Ytdgnnboljgpcmaa.E
