/- The write set: Pages; nothing of a set that isn't there; what is asked once more at each statement's end. -/
import Derived.Test.YtdgnnboljgpcmaaSb
namespace Go.Proofs.Ytdgnnboljgpcmaa.E
open Go
set_option maxRecDepth 4000
def PagesOf (m : Pages) (ys : List UInt16) : Prop := ys.Perm (m.map (·.1)) ∧ ys.Pairwise (fun a b => a.toNat ≤ b.toNat)
def setP (m : Pages) (d : D) (H : List SObj) : Prop := ∃ (ys : List UInt16) (cap : Nat), PagesOf m ys ∧ d = .slc 2 [] 1 0 ys.length cap ∧ H = setH m ++ [.vec 23 1 kP ys cap]
theorem f14 (m : Pages) (hm : m.length ≤ 4) : CallAt Try.prog 14 [.ptr 0 []] (setH m) (setP m) := by
  refine callAt_of_execR zeros mixed (fn := Try.f14) rfl rfl rfl ?_
  refine (f38 m hm).lift [1] rfl (fun _ => rfl) (by rintro d H1 ⟨ys, cap, _, rfl, rfl⟩ hj; cases hj) ?_
  refine ⟨EqvO.rfl, ?_⟩
  rintro d H1 ⟨ys, cap, hy, rfl, rfl⟩
  exact ⟨[0, 1, 2], _, _, ⟨ys, cap, hy, rfl, rfl⟩, trivial, Eqv.rfl, EqvO.rfl, EqvO.rfl, EqvO.rfl, trivial⟩
theorem f14n : Pure Try.prog 14 [.nilp] .nils := by
  refine ⟨fun _ _ => rfl, fun _ _ => rfl, rfl, callAt_of_exec zeros mixed (fn := Try.f14) rfl rfl rfl (by rintro _ _ ⟨rfl, rfl⟩; exact Nat.le_refl _) ?_⟩
  exact ⟨_, _, ⟨rfl, rfl⟩, fun R => rfl, trivial⟩
theorem f24n (p : UInt16) : Pure Try.prog 24 [.nilp, kP p] (.str []) := by
  refine ⟨fun _ _ => rfl, fun _ _ => rfl, rfl, callAt_of_exec zeros mixed (fn := Try.f24) rfl rfl rfl (by rintro _ _ ⟨rfl, rfl⟩; exact Nat.le_refl _) ?_⟩
  exact ⟨_, _, ⟨rfl, rfl⟩, fun R => rfl, trivial⟩
def m1 : Pages := [(3, (zB, splice zB 5 [120]))]
theorem write_m1 : writeP [] 3 zB 5 [120] = (0, m1) := rfl
theorem read_m1 : readP m1 3 = (splice zB 5 [120], true) := rfl
theorem at5 : (splice zB 5 [120])[5] = 120 := by simp [splice]
set_option maxHeartbeats 4000000 in
theorem f16 : Pure Try.prog 16 [] .tt := by
  refine ⟨fun _ _ => rfl, fun _ _ => rfl, rfl, callAt_of_execR zeros mixed (fn := Try.f16) rfl rfl rfl ?_⟩
  refine f12.lift [] rfl (fun _ => rfl) (by rintro d H1 ⟨rfl, rfl⟩ hj; cases hj) ?_
  rintro d H1 ⟨rfl, rfl⟩
  refine (f13 [] 3 zB 5 [120] (by decide)).lift [0, 1] rfl (fun _ => rfl) (by rintro d H1 ⟨rfl, rfl⟩ hj; cases hj) ?_
  refine ⟨EqvO.rfl, EqvO.rfl, ?_⟩
  rintro d H1 ⟨rfl, rfl⟩
  rw [write_m1]
  refine And.intro (fun h => absurd h (by decide)) (fun _ => ?_)
  have hc := f15 m1 3
  rw [read_m1] at hc
  refine hc.c [0, 1] rfl (fun _ => rfl) (by exact ⟨EqvS.rfl, EqvS.rfl, trivial⟩) ?_
  refine And.intro (fun _ => ?_) (fun h => absurd h (by decide))
  refine And.intro (by omega) ?_
  refine And.intro (by decide) ?_
  intro c hc5
  have hc5 : c = 120 := by
    have h5 : (splice zB 5 [120])[5]? = some 120 := by rw [Vector.getElem?_eq_getElem (by decide)]; exact congrArg some at5
    exact Option.some.inj (hc5.symm.trans h5)
  subst hc5
  refine And.intro (fun _ => ?_) (fun h => absurd h (by decide))
  refine (f14 m1 (by decide)).lift [0, 1] rfl (fun _ => rfl) (by rintro d H1 ⟨ys, cap, hy, rfl, rfl⟩ hj; cases hj) ?_
  refine ⟨EqvO.rfl, EqvO.rfl, ?_⟩
  rintro d H1 ⟨ys, cap, hy, rfl, rfl⟩
  have hyl : ys.length = 1 := by have := hy.1.length_eq; simpa [m1] using this
  refine ⟨[], _, _, ⟨rfl, rfl⟩, trivial, fun R => ?_, trivial⟩
  rw [hyl]; rfl
end Go.Proofs.Ytdgnnboljgpcmaa.E
