import Derived.Test.YtjdpjimdoknlnaaWo
namespace Go.Proofs.Ytjdpjimdoknlnaa.E
open Go
set_option maxRecDepth 4000
abbrev Body := Vector UInt8 64
/-- What a delta's pieces make of a body; none: it is no delta. -/
def deltaL (l : Bytes) (next : Nat) (b : Body) : Option Body :=
  match l with
  | [] => some b
  | [_] => none
  | i :: n :: r => if n.toNat < 1 ∨ i.toNat < next ∨ 64 < i.toNat + n.toNat ∨ r.length < n.toNat then none else deltaL (r.drop n.toNat) (i.toNat + n.toNat + 1) (splice b i.toNat (r.take n.toNat))
termination_by l.length
decreasing_by simp only [List.length_drop, List.length_cons]; omega
def deltaApply (b : Body) (d : Bytes) : Option Body := deltaL d 0 b
theorem f143 (i : Nat) (hi : i < 64) (s : Bytes) (b : Body) : CallAt Try.prog 143 [.int .i64 i, .str s, .ptr 0 []] [.var 143 (.bytes 64 b)] (fun d H => d = .tup [] ∧ H = [.var 143 (.bytes 64 (splice b i (s.take (64 - i))))]) := by
  refine callAt_of_exec zeros mixed (fn := Try.f143) rfl rfl rfl (by rintro _ _ ⟨rfl, rfl⟩; exact Nat.le_of_ble_eq_true rfl) ?_
  refine And.intro ⟨by omega, by omega⟩ (And.intro (fun _ => ?_) (fun h => absurd h (by omega)))
  refine ⟨_, rfl, ?_⟩
  refine And.intro (by omega) ?_
  exact ⟨_, _, ⟨rfl, rfl⟩, Eqv.rfl, EqvO.rfl, trivial⟩
def eachPost (r : Option Body) (d : D) (H : List SObj) : Prop :=
  match r with
  | some b => d = .tt ∧ H = [.var 143 (.bytes 64 b)]
  | none => d = .ff ∧ ∃ b, H = [.var 143 (.bytes 64 b)]
theorem f142 (s : Bytes) (hs : Short s) (b : Body) : CallAt Try.prog 142 [.str s, .fn (.func 143) [.ptr 0 []]] [.var 143 (.bytes 64 b)] (eachPost (deltaApply b s)) := by
  refine callAt_of_exec zeros mixed (fn := Try.f142) rfl rfl rfl (by
    intro d H h
    cases hr : deltaApply b s with
    | none => rw [hr] at h; obtain ⟨rfl, b', rfl⟩ := h; exact Nat.le_of_ble_eq_true rfl
    | some b' => rw [hr] at h; obtain ⟨rfl, rfl⟩ := h; exact Nat.le_of_ble_eq_true rfl) ?_
  unfold Short at hs
  refine LoopN.of (Nat × Nat × Body) (fun x => x.1 ≤ s.length ∧ x.2.1 ≤ 65 ∧ deltaApply b s = deltaL (s.drop x.1) x.2.1 x.2.2) (fun x => s.length - x.1) (fun x => ⟨slotsOf 68 [(0, .str s), (1, .fn (.func 143) [.ptr 0 []]), (5, .int .i64 x.2.1), (6, .int .i64 x.1)],
    [.var 143 (.bytes 64 x.2.2)]⟩) (fun _ => Nat.le_refl _) (0, 0, b) ⟨Nat.zero_le _, Nat.zero_le _, rfl⟩ ?_ ?_
  · exact ⟨Eqv.rfl, Eqv.rfl, Eqv.rfl, Eqv.rfl, EqvO.rfl, trivial⟩
  rintro ⟨i, next, c⟩ ⟨hi, hn, he⟩
  dsimp only at hi hn he ⊢
  refine And.intro (fun h1 => ?_) (fun h1 => ?_)
  · have g1 : i < s.length := by have := of_decide_eq_true h1; omega
    have hw2 : IntKind.i64.wrap ((i : Int) + 2) = ((i + 2 : Nat) : Int) := by rw [w64 (by omega)]; omega
    have hw1 : IntKind.i64.wrap ((i : Int) + 1) = ((i + 1 : Nat) : Int) := by rw [w64 (by omega)]; omega
    have hsi : s[i]? = some s[i] := List.getElem?_eq_getElem g1
    refine And.intro (fun h2 => ?_) (fun h2 => ?_)
    · have g2 : s.length < i + 2 := by rw [hw2] at h2; have := of_decide_eq_true h2; omega
      have hd : s.drop i = [s[i]] := by
        rw [List.drop_eq_getElem_cons g1, List.drop_of_length_le (by omega)]
      rw [hd] at he
      have hg : deltaApply b s = none := by rw [he]; unfold deltaL; rfl
      rw [hg]
      exact ⟨_, _, ⟨rfl, _, rfl⟩, Eqv.rfl, EqvO.rfl, trivial⟩
    have g2 : i + 2 ≤ s.length := by rw [hw2] at h2; have := of_decide_eq_false h2; omega
    have hd : s.drop i = s[i] :: s[i + 1] :: s.drop (i + 2) := by
      rw [List.drop_eq_getElem_cons g1, List.drop_eq_getElem_cons (by omega)]
    rw [hd] at he
    unfold deltaL at he
    refine DrawAt.all (by kernel_rfl) ?_
    refine And.intro ⟨by omega, by omega⟩ ?_
    intro ca hca
    have hca' : s[i] = ca := by rw [Int.toNat_natCast, hsi] at hca; exact Option.some.inj hca
    refine And.intro (by rw [hw1]; constructor <;> omega) ?_
    intro cn hcn
    have hcn' : s[i + 1] = cn := by rw [hw1, Int.toNat_natCast, List.getElem?_eq_getElem (by omega)] at hcn; exact Option.some.inj hcn
    rw [hca', hcn'] at he
    have hal := ca.toNat_lt
    have hnl := cn.toNat_lt
    have hwa : IntKind.i64.wrap (ca.toNat : Int) = (ca.toNat : Int) := w64 (by omega)
    have hwn : IntKind.i64.wrap (cn.toNat : Int) = (cn.toNat : Int) := w64 (by omega)
    have hwan : IntKind.i64.wrap ((ca.toNat : Int) + cn.toNat) = ((ca.toNat + cn.toNat : Nat) : Int) := by rw [w64 (by omega)]; omega
    have hw2n : IntKind.i64.wrap (((i + 2 : Nat) : Int) + cn.toNat) = ((i + 2 + cn.toNat : Nat) : Int) := by rw [w64 (by omega)]; omega
    have hrl : (s.drop (i + 2)).length = s.length - (i + 2) := List.length_drop
    have hnone : (cn.toNat < 1 ∨ ca.toNat < next ∨ 64 < ca.toNat + cn.toNat ∨ (s.drop (i + 2)).length < cn.toNat) → deltaApply b s = none := fun h => by rw [he, if_pos h]
    refine And.intro (fun h3 => ?_) (fun h3 => ?_)
    · have g3 : cn.toNat < 1 := by rw [hwn] at h3; have := of_decide_eq_true h3; omega
      rw [hnone (.inl g3)]
      exact ⟨_, _, ⟨rfl, _, rfl⟩, Eqv.rfl, EqvO.rfl, trivial⟩
    have g3 : ¬ cn.toNat < 1 := by rw [hwn] at h3; have := of_decide_eq_false h3; omega
    refine And.intro (fun h4 => ?_) (fun h4 => ?_)
    · have g4 : ca.toNat < next := by rw [hwa] at h4; have := of_decide_eq_true h4; omega
      rw [hnone (.inr (.inl g4))]
      exact ⟨_, _, ⟨rfl, _, rfl⟩, Eqv.rfl, EqvO.rfl, trivial⟩
    have g4 : ¬ ca.toNat < next := by rw [hwa] at h4; have := of_decide_eq_false h4; omega
    refine And.intro (fun h5 => ?_) (fun h5 => ?_)
    · have g5 : 64 < ca.toNat + cn.toNat := by rw [hwa, hwn, hwan] at h5; have := of_decide_eq_true h5; omega
      rw [hnone (.inr (.inr (.inl g5)))]
      exact ⟨_, _, ⟨rfl, _, rfl⟩, Eqv.rfl, EqvO.rfl, trivial⟩
    have g5 : ¬ 64 < ca.toNat + cn.toNat := by rw [hwa, hwn, hwan] at h5; have := of_decide_eq_false h5; omega
    refine And.intro (fun h6 => ?_) (fun h6 => ?_)
    · have g6 : s.length < i + 2 + cn.toNat := by rw [hw2, hwn, hw2n] at h6; have := of_decide_eq_true h6; omega
      rw [hnone (.inr (.inr (.inr (by omega))))]
      exact ⟨_, _, ⟨rfl, _, rfl⟩, Eqv.rfl, EqvO.rfl, trivial⟩
    have g6 : ¬ s.length < i + 2 + cn.toNat := by rw [hw2, hwn, hw2n] at h6; have := of_decide_eq_false h6; omega
    rw [if_neg (by omega)] at he
    refine And.intro (by rw [hw2, hwn, hw2n]; omega) ?_
    rw [hwn, hw2, hw2n, hwa]
    refine (f143 ca.toNat (by omega) ((s.take (i + 2 + cn.toNat)).drop (i + 2)) c).lift [0] rfl (fun _ => rfl) (by rintro d H1 ⟨rfl, rfl⟩ hj; cases hj) ?_
    refine ⟨EqvO.rfl, ?_⟩
    rintro d H1 ⟨rfl, rfl⟩
    have htk : ((s.take (i + 2 + cn.toNat)).drop (i + 2)).take (64 - ca.toNat) = (s.drop (i + 2)).take cn.toNat := by
      rw [List.drop_take, show i + 2 + cn.toNat - (i + 2) = cn.toNat by omega, List.take_take, Nat.min_eq_right (by omega)]
    have hw3 : IntKind.i64.wrap (((ca.toNat + cn.toNat : Nat) : Int) + 1) = ((ca.toNat + cn.toNat + 1 : Nat) : Int) := by rw [w64 (by omega)]; omega
    have hw4 : IntKind.i64.wrap (2 + (cn.toNat : Int)) = ((2 + cn.toNat : Nat) : Int) := by rw [w64 (by omega)]; omega
    have hw5 : IntKind.i64.wrap ((i : Int) + ((2 + cn.toNat : Nat) : Int)) = ((i + 2 + cn.toNat : Nat) : Int) := by rw [w64 (by omega)]; omega
    refine ⟨(i + 2 + cn.toNat, ca.toNat + cn.toNat + 1, splice c ca.toNat ((s.drop (i + 2)).take cn.toNat)), ⟨⟨by show i + 2 + cn.toNat ≤ s.length; omega, by show ca.toNat + cn.toNat + 1 ≤ 65; omega, ?_⟩, by show s.length - (i + 2 + cn.toNat) < s.length - i; omega⟩, Eqv.rfl, Eqv.rfl, Eqv.of ?_, Eqv.of ?_, EqvO.of ?_, trivial⟩
    · rw [he, List.drop_drop]
    · rw [hwan, hw3]
    · rw [hw4, hw5]
    · show SObj.var 143 (D.bytes 64 (splice c ca.toNat _)) = _
      rw [htk]
  · have g1 : i = s.length := by have := of_decide_eq_false h1; omega
    subst g1
    have hg : deltaApply b s = some c := by rw [he, List.drop_length]; unfold deltaL; rfl
    rw [hg]
    exact ⟨_, _, ⟨rfl, rfl⟩, Eqv.rfl, EqvO.rfl, trivial⟩
def encBody (b : Body) : D := .bytes 64 b
def zeroBody : Body := Vector.replicate 64 0
theorem f113 (b : Body) (s : Bytes) (hs : Short s) : Pure Try.prog 113 [.bytes 64 b, .str s] (orErr encBody zeroBody 2 (deltaApply b s)) := by
  have cd : ∀ R R', conc R (orErr encBody zeroBody 2 (deltaApply b s)) = conc R' (orErr encBody zeroBody 2 (deltaApply b s)) := fun R R' => by cases deltaApply b s <;> rfl
  refine ⟨fun _ _ => rfl, cd, by cases deltaApply b s <;> rfl, callAt_of_exec zeros mixed (fn := Try.f113) rfl rfl rfl (by rintro _ _ ⟨rfl, rfl⟩; exact Nat.le_refl _) ?_⟩
  refine (f142 s hs b).lift [2] rfl (fun _ => rfl) (by
    intro d H1 h hj
    cases hr : deltaApply b s with
    | none => rw [hr] at h; obtain ⟨rfl, b', rfl⟩ := h; cases hj
    | some b' => rw [hr] at h; obtain ⟨rfl, rfl⟩ := h; cases hj) ?_
  refine ⟨EqvO.rfl, ?_⟩
  intro d H1 h
  cases hr : deltaApply b s with
  | none =>
    rw [hr] at h; obtain ⟨rfl, b', rfl⟩ := h
    exact ⟨_, _, ⟨rfl, rfl⟩, Eqv.rfl, trivial⟩
  | some b' =>
    rw [hr] at h; obtain ⟨rfl, rfl⟩ := h
    exact ⟨_, _, ⟨rfl, rfl⟩, Eqv.rfl, trivial⟩
end Go.Proofs.Ytjdpjimdoknlnaa.E
