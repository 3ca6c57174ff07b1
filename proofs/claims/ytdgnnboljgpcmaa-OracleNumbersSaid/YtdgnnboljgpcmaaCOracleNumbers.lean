/- varvelaw14.OracleNumbers answers true at every script: numbers rise, none is given twice, and one that has ended is live no more. No conditions. -/
import Derived.Test.YtdgnnboljgpcmaaRows
import Derived.Test.YtdgnnboljgpcmaaDed
import Derived.Test.YtdgnnboljgpcmaaOi
namespace Go.Proofs.Ytdgnnboljgpcmaa
open Go Go.ChangeShapes Go.WideShapes Go.ChangeAt Go.RowKit E
set_option maxRecDepth 100000 in
set_option maxHeartbeats 800000 in
theorem oracleNumbers_lifted (os : Os) (started : os.Started) (H : Type) (enc : TypeId × Value → H) :
    ReturnsInHanded {} Try.checked os 9 .any (Rows.oracleNumbersSpec.pre6 enc Try.prog Try.f9 Rows.oracleNumbersRow.domain false) (Rows.oracleNumbersSpec.post enc Try.prog Try.f9 false true false false) := by
  refine returnsInHanded_of_change_sized (C := Try.checked) own started (by kernel_rfl) Try.func9
    (ChangeSpec.witness6 (enc := enc) (C := Try.checked) false ⟨#[], #[.slice none 0 0], []⟩ 8 (by kernel_rfl) (by kernel_rfl) (by kernel_rfl) (by kernel_rfl)) ?_
  intro W base args ds gs before hval0 hW _ _ _
  have hval : ∀ (j : Nat) t v, Try.f9.params[j]? = some t → args[j]? = some v → Value.okWide Try.prog W .any base t v := hval0
  have hW0 : DataW.Whole enc Try.prog Try.f9.params.toList Rows.oracleNumbersSpec.vars false W args.toList ds gs before := hW
  clear hval0 hW
  have hW1 := hW0
  obtain ⟨p, q, hA, hV, hpq, hfz, _⟩ := hW0
  obtain ⟨rfl, rfl⟩ := trodVars_none hV
  rw [Try.params9] at hA hval
  obtain ⟨v0, d0, rfl, rfl, h0⟩ := trodAll_one hA
  obtain ⟨a0, hr0, hok0, _, _⟩ := arg_slice (t := 60) (by kernel_rfl) d67 c67 (by decide) (fun _ => rfl) (hval 0 60 v0 rfl rfl) h0
  have ha0 : ∀ R, conc R (.val v0) = v0 := by
    obtain ⟨a, cap, rfl, _⟩ := hr0
    exact fun _ => rfl
  refine calls_said laidOut (by
    intro t ht
    rw [Try.params9] at ht
    simp only [List.mem_cons, List.not_mem_nil, or_false] at ht
    rcases ht with rfl <;> exact ⟨by kernel_rfl, of_decide_eq_true (by kernel_rfl)⟩) (T := 4) (by kernel_rfl) (by kernel_rfl) rfl ⟨rfl, rfl, rfl⟩ hW1 (dargs := [.val v0]) (fun R => ?_) (f9 (oldM W) v0 a0 hr0)
  simp only [concL, ha0 R]
theorem oracleNumbers_holds : Rows.OracleNumbersSaid :=
  OpenClaim.holds_of_wide 9 Try.f9 rfl rfl rfl rfl rfl rfl rfl ⟨rfl, rfl, rfl, rfl, rfl⟩ rfl rfl rfl rfl rfl (by kernel_rfl) Try.func9 (by kernel_rfl)
    (of_decide_eq_true (by kernel_rfl)) (by unfold Func.isWrapper; first | (rw [if_pos (by decide +kernel)]; kernel_rfl) | (rw [if_neg (by decide +kernel)]; exact ⟨rfl, rfl⟩))
    (fun os started H enc _ => oracleNumbers_lifted os started H enc)
#print axioms oracleNumbers_holds
end Go.Proofs.Ytdgnnboljgpcmaa
