/- The live transactions and the horizon. -/
import Derived.Test.YtdgnnboljgpcmaaOd
namespace Go.Proofs.Ytdgnnboljgpcmaa.E
open Go
set_option maxRecDepth 4000
def KeysOf (m : Live) (ys : List UInt64) : Prop := ys.Perm (m.map (·.1)) ∧ ys.Pairwise (fun a b => a.toNat ≤ b.toNat)
def liveP (o : Orc) (d : D) (H : List SObj) : Prop := ∃ (ys : List UInt64) (cap : Nat), KeysOf o.m ys ∧ d = .slc 2 [] 1 0 ys.length cap ∧ H = o.H ++ [.vec 65 1 kU ys cap]
theorem f35 (o : Orc) (hm : o.m.length ≤ 8) : CallAt Try.prog 35 [.ptr 0 []] o.H (liveP o) := by
  refine callAt_of_execR zeros mixed (fn := Try.f35) rfl rfl rfl ?_
  refine (f43 o.m hm).lift [1] rfl (fun _ => rfl) (by rintro d H1 ⟨ys, cap, _, rfl, rfl⟩ hj; cases hj) ?_
  refine ⟨EqvO.rfl, ?_⟩
  rintro d H1 ⟨ys, cap, hy, rfl, rfl⟩
  exact ⟨[0, 1, 2], _, _, ⟨ys, cap, hy, rfl, rfl⟩, trivial, Eqv.rfl, EqvO.rfl, EqvO.rfl, EqvO.rfl, trivial⟩
theorem f35n : Pure Try.prog 35 [.nilp] .nils := by
  refine ⟨fun _ _ => rfl, fun _ _ => rfl, rfl, callAt_of_exec zeros mixed (fn := Try.f35) rfl rfl rfl (by rintro _ _ ⟨rfl, rfl⟩; exact Nat.le_refl _) ?_⟩
  exact ⟨_, _, ⟨rfl, rfl⟩, fun R => rfl, trivial⟩
/-- The least of the starts that are told, and of what is told ahead of them. -/
def hzL (m : Live) (h : UInt32) (ys : List UInt64) : UInt32 := ys.foldl (fun h y => min h ((look decU m y).getD 0)) h
theorem min32 (a b : UInt32) : (if (b.toNat : Int) < a.toNat then (b.toNat : Int) else a.toNat) = ((min a b).toNat : Int) := by
  have e : min a b = if a ≤ b then a else b := rfl
  rw [e]
  by_cases h : a ≤ b
  · rw [if_pos h, if_neg (by have := UInt32.le_iff_toNat_le.1 h; omega)]
  · rw [if_neg h, if_pos (by have : ¬ a.toNat ≤ b.toNat := fun k => h (UInt32.le_iff_toNat_le.2 k); omega)]
theorem f32n : Pure Try.prog 32 [.nilp] (.int .u32 0) := by
  refine ⟨fun _ _ => rfl, fun _ _ => rfl, rfl, callAt_of_exec zeros mixed (fn := Try.f32) rfl rfl rfl (by rintro _ _ ⟨rfl, rfl⟩; exact Nat.le_refl _) ?_⟩
  refine f21n.c ?_
  refine f35n.c ?_
  let S : Unit → St := fun _ => ⟨slotsOf 25 [(0, .nilp), (2, .int .u32 0), (3, .int .u32 0), (10, .int .i64 0), (11, .int .i64 0)], []⟩
  refine LoopN.of Unit (fun _ => True) (fun _ => 0) S (fun _ => Nat.le_of_ble_eq_true rfl) () trivial ?_ ?_
  · exact ⟨Eqv.rfl, Eqv.rfl, Eqv.rfl, Eqv.rfl, Eqv.rfl, trivial⟩
  rintro _ _
  refine And.intro (fun h => absurd h (by decide)) (fun _ => ?_)
  exact ⟨_, _, ⟨rfl, rfl⟩, fun R => rfl, trivial⟩
theorem f32 (o : Orc) (hm : o.m.length ≤ 8) : CallAt Try.prog 32 [.ptr 0 []] o.H (fun d H => ∃ ys, KeysOf o.m ys ∧ d = vU (hzL o.m o.last ys) ∧ H = o.H) := by
  refine callAt_of_execR zeros mixed (fn := Try.f32) rfl rfl rfl ?_
  refine (f21 o).c [0, 1] rfl (fun _ => rfl) (by exact ⟨EqvS.rfl, EqvS.rfl, trivial⟩) ?_
  refine (f35 o hm).lift [0, 1] rfl (fun _ => rfl) (by rintro d H1 ⟨ys, cap, _, rfl, rfl⟩ hj; cases hj) ?_
  refine ⟨EqvO.rfl, EqvO.rfl, ?_⟩
  rintro d H1 ⟨ys, cap, hy, rfl, rfl⟩
  have hyl : ys.length ≤ 8 := by have := hy.1.length_eq; simp at this; omega
  let S : Nat → St := fun i => ⟨slotsOf 25 [(0, .ptr 0 []), (3, vU (hzL o.m o.last (ys.take i))), (9, .slc 2 [] 1 0 ys.length cap), (10, .int .i64 ys.length), (11, .int .i64 i)], o.H ++ [.vec 65 1 kU ys cap]⟩
  refine LoopN.of Nat (fun i => i ≤ ys.length) (fun i => ys.length - i) S (fun _ => Nat.le_of_ble_eq_true rfl) 0 (Nat.zero_le _) ?_ ?_
  · exact ⟨Eqv.rfl, Eqv.rfl, Eqv.rfl, Eqv.rfl, Eqv.rfl, EqvO.rfl, EqvO.rfl, EqvO.rfl, trivial⟩
  rintro i hi
  dsimp only [S] at hi ⊢
  refine And.intro (fun h => ?_) (fun h => ?_)
  · have hi' : i < ys.length := by have := of_decide_eq_true h; omega
    refine And.intro ⟨by omega, by omega⟩ ?_
    refine And.intro (by omega) ?_
    refine And.intro (by omega) ?_
    intro y hy'
    have hy2 : ys[i]? = some y := by simpa using hy'
    have htk : ys.take (i + 1) = ys.take i ++ [y] := by rw [List.take_add_one, hy2]; rfl
    have hw : IntKind.i64.wrap ((i : Int) + 1) = ((i + 1 : Nat) : Int) := by rw [w64 (by omega)]; rfl
    have hsn : hzL o.m o.last (ys.take (i + 1)) = min (hzL o.m o.last (ys.take i)) ((look decU o.m y).getD 0) := by rw [htk, hzL, List.foldl_append]; rfl
    refine ⟨y, key65, Eqv.rfl, fun v hv => ?_, fun hv => ?_⟩
    · refine ⟨i + 1, ⟨hi', by omega⟩, Eqv.rfl, Eqv.of ?_, Eqv.rfl, Eqv.rfl, Eqv.of ?_, EqvO.rfl, EqvO.rfl, EqvO.rfl, trivial⟩
      · rw [min32, hsn, hv]; rfl
      · rw [hw]
    · refine ⟨i + 1, ⟨hi', by omega⟩, Eqv.rfl, Eqv.of ?_, Eqv.rfl, Eqv.rfl, Eqv.of ?_, EqvO.rfl, EqvO.rfl, EqvO.rfl, trivial⟩
      · rw [hsn, hv]
        show D.int .u32 _ = _
        rw [show (0 : Int) = ((0 : UInt32).toNat : Int) from rfl, min32]; rfl
      · rw [hw]
  · have hi' : i = ys.length := by have := of_decide_eq_false h; omega
    refine ⟨[0, 1], _, _, ⟨ys, hy, rfl, rfl⟩, trivial, Eqv.of ?_, EqvO.rfl, EqvO.rfl, trivial⟩
    rw [hi', List.take_length]; rfl
end Go.Proofs.Ytdgnnboljgpcmaa.E
