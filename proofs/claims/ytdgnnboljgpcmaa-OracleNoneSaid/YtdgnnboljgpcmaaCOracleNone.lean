/- varvelaw14.OracleNone answers true at every number: an oracle that isn't there knows nobody and gives nothing. No conditions. -/
import Derived.Test.YtdgnnboljgpcmaaRows
import Derived.Test.YtdgnnboljgpcmaaDec
import Derived.Test.YtdgnnboljgpcmaaOg
namespace Go.Proofs.Ytdgnnboljgpcmaa
open Go Go.ChangeShapes Go.WideShapes Go.ChangeAt Go.RowKit E
set_option maxRecDepth 100000 in
set_option maxHeartbeats 800000 in
theorem oracleNone_lifted (os : Os) (started : os.Started) (H : Type) (enc : TypeId × Value → H) :
    ReturnsInHanded {} Try.checked os 10 .any (Rows.oracleNoneSpec.pre6 enc Try.prog Try.f10 Rows.oracleNoneRow.domain false) (Rows.oracleNoneSpec.post enc Try.prog Try.f10 false true false false) := by
  refine returnsInHanded_of_change_sized (C := Try.checked) own started (by kernel_rfl) Try.func10
    (ChangeSpec.witness6 (enc := enc) (C := Try.checked) false ⟨#[], #[.int .u64 0], []⟩ 8 (by kernel_rfl) (by kernel_rfl) (by kernel_rfl) (by kernel_rfl)) ?_
  intro W base args ds gs before hval0 hW _ _ _
  have hval : ∀ (j : Nat) t v, Try.f10.params[j]? = some t → args[j]? = some v → Value.okWide Try.prog W .any base t v := hval0
  have hW0 : DataW.Whole enc Try.prog Try.f10.params.toList Rows.oracleNoneSpec.vars false W args.toList ds gs before := hW
  clear hval0 hW
  have hW1 := hW0
  obtain ⟨p, q, hA, hV, hpq, hfz, _⟩ := hW0
  obtain ⟨rfl, rfl⟩ := trodVars_none hV
  rw [Try.params10] at hA hval
  obtain ⟨v0, d0, rfl, rfl, h0⟩ := trodAll_one hA
  obtain ⟨a0, ha0, ho0⟩ := arg_leaf d65 (by kernel_rfl) (fun _ => rfl) (hval 0 65 v0 rfl rfl) h0
  refine calls_said laidOut (by
    intro t ht
    rw [Try.params10] at ht
    simp only [List.mem_cons, List.not_mem_nil, or_false] at ht
    rcases ht with rfl <;> exact ⟨by kernel_rfl, of_decide_eq_true (by kernel_rfl)⟩) (T := 4) (by kernel_rfl) (by kernel_rfl) rfl ⟨rfl, rfl, rfl⟩ hW1 (dargs := [kU a0]) (fun R => ?_) ((f10 a0).c ⟨rfl, rfl⟩)
  simp only [concL, ha0 R]
theorem oracleNone_holds : Rows.OracleNoneSaid :=
  OpenClaim.holds_of_wide 10 Try.f10 rfl rfl rfl rfl rfl rfl rfl ⟨rfl, rfl, rfl, rfl, rfl⟩ rfl rfl rfl rfl rfl (by kernel_rfl) Try.func10 (by kernel_rfl)
    (of_decide_eq_true (by kernel_rfl)) (by unfold Func.isWrapper; first | (rw [if_pos (by decide +kernel)]; kernel_rfl) | (rw [if_neg (by decide +kernel)]; exact ⟨rfl, rfl⟩))
    (fun os started H enc _ => oracleNone_lifted os started H enc)
#print axioms oracleNone_holds
end Go.Proofs.Ytdgnnboljgpcmaa
