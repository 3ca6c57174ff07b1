/- varvelaw14.OraclePlays answers true at every script: whatever is asked of an oracle, one call behind the other, is answered as the document says. No conditions. -/
import Derived.Test.YtdgnnboljgpcmaaRows
import Derived.Test.YtdgnnboljgpcmaaDed
import Derived.Test.YtdgnnboljgpcmaaRc
namespace Go.Proofs.Ytdgnnboljgpcmaa
open Go Go.ChangeShapes Go.WideShapes Go.ChangeAt Go.RowKit E
set_option maxRecDepth 100000 in
set_option maxHeartbeats 800000 in
theorem oraclePlays_lifted (os : Os) (started : os.Started) (H : Type) (enc : TypeId × Value → H) :
    ReturnsInHanded {} Try.checked os 7 .any (Rows.oraclePlaysSpec.pre6 enc Try.prog Try.f7 Rows.oraclePlaysRow.domain false) (Rows.oraclePlaysSpec.post enc Try.prog Try.f7 false true false false) := by
  refine returnsInHanded_of_change_sized (C := Try.checked) own started (by kernel_rfl) Try.func7
    (ChangeSpec.witness6 (enc := enc) (C := Try.checked) false ⟨#[], #[.int .u32 0, .int .u32 0, .slice none 0 0], []⟩ 8 (by kernel_rfl) (by kernel_rfl) (by kernel_rfl) (by kernel_rfl)) ?_
  intro W base args ds gs before hval0 hW _ _ _
  have hval : ∀ (j : Nat) t v, Try.f7.params[j]? = some t → args[j]? = some v → Value.okWide Try.prog W .any base t v := hval0
  have hW0 : DataW.Whole enc Try.prog Try.f7.params.toList Rows.oraclePlaysSpec.vars false W args.toList ds gs before := hW
  clear hval0 hW
  have hW1 := hW0
  obtain ⟨p, q, hA, hV, hpq, hfz, _⟩ := hW0
  obtain ⟨rfl, rfl⟩ := trodVars_none hV
  rw [Try.params7] at hA hval
  obtain ⟨v0, v1, v2, d0, d1, d2, p0, p1, p2, rfl, rfl, rfl, h0, h1, h2⟩ := trodAll_three hA
  obtain ⟨a0, ha0, ho0⟩ := arg_leaf d39 (by kernel_rfl) (fun _ => rfl) (hval 0 39 v0 rfl rfl) h0
  obtain ⟨a1, ha1, ho1⟩ := arg_leaf d39 (by kernel_rfl) (fun _ => rfl) (hval 1 39 v1 rfl rfl) h1
  obtain ⟨a2, hr2, hok2, _, _⟩ := arg_slice (t := 60) (by kernel_rfl) d67 c67 (by decide) (fun _ => rfl) (hval 2 60 v2 rfl rfl) h2
  have ha2 : ∀ R, conc R (.val v2) = v2 := by
    obtain ⟨a, cap, rfl, _⟩ := hr2
    exact fun _ => rfl
  refine calls_said laidOut (by
    intro t ht
    rw [Try.params7] at ht
    simp only [List.mem_cons, List.not_mem_nil, or_false] at ht
    rcases ht with rfl | rfl | rfl <;> exact ⟨by kernel_rfl, of_decide_eq_true (by kernel_rfl)⟩) (T := 4) (by kernel_rfl) (by kernel_rfl) rfl ⟨rfl, rfl, rfl⟩ hW1 (dargs := [vU a0, vU a1, .val v2]) (fun R => ?_) (f7 (oldM W) a0 a1 v2 a2 hr2)
  simp only [concL, ha0 R, ha1 R, ha2 R]
theorem oraclePlays_holds : Rows.OraclePlaysSaid :=
  OpenClaim.holds_of_wide 7 Try.f7 rfl rfl rfl rfl rfl rfl rfl ⟨rfl, rfl, rfl, rfl, rfl⟩ rfl rfl rfl rfl rfl (by kernel_rfl) Try.func7 (by kernel_rfl)
    (of_decide_eq_true (by kernel_rfl)) (by unfold Func.isWrapper; first | (rw [if_pos (by decide +kernel)]; kernel_rfl) | (rw [if_neg (by decide +kernel)]; exact ⟨rfl, rfl⟩))
    (fun os started H enc _ => oraclePlays_lifted os started H enc)
#print axioms oraclePlays_holds
end Go.Proofs.Ytdgnnboljgpcmaa
