/- A transaction begins: what each statement asks once more at its end. -/
import Derived.Test.YtdgnnboljgpcmaaOe
namespace Go.Proofs.Ytdgnnboljgpcmaa.E
open Go
set_option maxRecDepth 4000
theorem new_some {last max : UInt32} (h : ¬ max < last) : CallAt Try.prog 18 [vU last, vU max] [] (fun d H => d = .ptr 0 [] ∧ H = (newO last max).H) :=
  ⟨(f18 last max).fn, fun F R w vs hl hs hv => ((f18 last max).run F R w vs hl hs hv).mono fun _ _ ⟨d, H, X, v, hp, r⟩ => ⟨d, H, X, v, hp.2 h, r⟩⟩
theorem new_none {last max : UInt32} (h : max < last) : CallAt Try.prog 18 [vU last, vU max] [] (fun d H => d = .nilp ∧ H = []) :=
  ⟨(f18 last max).fn, fun F R w vs hl hs hv => ((f18 last max).run F R w vs hl hs hv).mono fun _ _ ⟨d, H, X, v, hp, r⟩ => ⟨d, H, X, v, hp.1 h, r⟩⟩
def o1 : Orc := ⟨3, 9, 1, [(1, 3)]⟩
def o2 : Orc := ⟨4, 9, 1, [(1, 3)]⟩
theorem begO_new : begO (newO 3 9) = o1 := rfl
theorem begD_new : begD (newO 3 9) = .tup [kU 1, vU 3, .int .i64 0] := rfl
theorem pub_o1 : pubO o1 4 = o2 ∧ pubE o1 4 = .int .i64 0 := by
  have h : pubOK o1 4 = true := by decide
  simp only [pubO, pubE, h, if_true]
  exact ⟨rfl, trivial⟩
theorem hz_o2 {ys : List UInt64} (h : KeysOf o2.m ys) : hzL o2.m o2.last ys = 3 := by
  have : ys = [1] := List.perm_singleton.1 h.1
  rw [this]; rfl
set_option maxHeartbeats 4000000 in
theorem f17 : Pure Try.prog 17 [] .tt := by
  refine ⟨fun _ _ => rfl, fun _ _ => rfl, rfl, callAt_of_execR zeros mixed (fn := Try.f17) rfl rfl rfl ?_⟩
  refine (new_some (last := 3) (max := 9) (by decide)).lift [] rfl (fun _ => rfl) (by rintro d H1 ⟨rfl, rfl⟩ hj; cases hj) ?_
  rintro d H1 ⟨rfl, rfl⟩
  refine (f29 (newO 3 9)).lift [0, 1] rfl (fun _ => rfl) (by rintro d H1 ⟨rfl, rfl⟩ hj; cases hj) ?_
  refine ⟨EqvO.rfl, EqvO.rfl, ?_⟩
  rintro d H1 ⟨rfl, rfl⟩
  rw [begO_new, begD_new]
  refine And.intro (fun _ => ?_) (fun h => absurd h (by decide))
  refine And.intro (fun _ => ?_) (fun h => absurd h (by decide))
  refine And.intro (fun _ => ?_) (fun h => absurd h (by decide))
  refine (f20 o1 4).lift [0, 1] rfl (fun _ => rfl) (by rintro d H1 ⟨rfl, rfl⟩ hj; rw [pub_o1.2] at hj; cases hj) ?_
  refine ⟨EqvO.rfl, EqvO.rfl, ?_⟩
  rintro d H1 ⟨rfl, rfl⟩
  rw [pub_o1.1, pub_o1.2]
  refine And.intro (fun _ => ?_) (fun h => absurd h (by decide))
  refine (f21 o2).c [0, 1] rfl (fun _ => rfl) (by exact ⟨EqvS.rfl, EqvS.rfl, trivial⟩) ?_
  refine And.intro (fun _ => ?_) (fun h => absurd h (by decide))
  refine (f32 o2 (by decide)).lift [0, 1] rfl (fun _ => rfl) (by rintro d H1 ⟨ys, hy, rfl, rfl⟩ hj; cases hj) ?_
  refine ⟨EqvO.rfl, EqvO.rfl, ?_⟩
  rintro d H1 ⟨ys, hy, rfl, rfl⟩
  rw [hz_o2 hy]
  exact ⟨[], _, _, ⟨rfl, rfl⟩, trivial, Eqv.rfl, trivial⟩
end Go.Proofs.Ytdgnnboljgpcmaa.E
