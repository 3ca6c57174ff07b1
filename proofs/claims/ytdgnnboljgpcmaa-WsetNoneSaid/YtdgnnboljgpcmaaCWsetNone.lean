/- varvelaw16.WsetNone answers true at every writing: a set that isn't there takes and tells nothing. No conditions. -/
import Derived.Test.YtdgnnboljgpcmaaRows
import Derived.Test.YtdgnnboljgpcmaaDec
import Derived.Test.YtdgnnboljgpcmaaSd
namespace Go.Proofs.Ytdgnnboljgpcmaa
open Go Go.ChangeShapes Go.WideShapes Go.ChangeAt Go.RowKit E
set_option maxRecDepth 100000 in
set_option maxHeartbeats 800000 in
theorem wsetNone_lifted (os : Os) (started : os.Started) (H : Type) (enc : TypeId × Value → H) :
    ReturnsInHanded {} Try.checked os 6 .any (Rows.wsetNoneSpec.pre6 enc Try.prog Try.f6 Rows.wsetNoneRow.domain false) (Rows.wsetNoneSpec.post enc Try.prog Try.f6 false true false false) := by
  refine returnsInHanded_of_change_sized (C := Try.checked) own started (by kernel_rfl) Try.func6
    (ChangeSpec.witness6 (enc := enc) (C := Try.checked) false ⟨#[], #[.agg (#[.int .u16 0] ++ Array.replicate 64 (.int .u8 0) ++ #[.int .i64 0, .string ⟨#[]⟩])], []⟩ 8 (by kernel_rfl) (by kernel_rfl) (by kernel_rfl) (by kernel_rfl)) ?_
  intro W base args ds gs before hval0 hW _ _ _
  have hval : ∀ (j : Nat) t v, Try.f6.params[j]? = some t → args[j]? = some v → Value.okWide Try.prog W .any base t v := hval0
  have hW0 : DataW.Whole enc Try.prog Try.f6.params.toList Rows.wsetNoneSpec.vars false W args.toList ds gs before := hW
  clear hval0 hW
  have hW1 := hW0
  obtain ⟨p, q, hA, hV, hpq, hfz, _⟩ := hW0
  obtain ⟨rfl, rfl⟩ := trodVars_none hV
  rw [Try.params6] at hA hval
  obtain ⟨v0, d0, rfl, rfl, h0⟩ := trodAll_one hA
  obtain ⟨a0, ha0, ho0⟩ := arg_agg d27 (by kernel_rfl) (fun _ => rfl) (hval 0 27 v0 rfl rfl) h0
  refine calls_said laidOut (by
    intro t ht
    rw [Try.params6] at ht
    simp only [List.mem_cons, List.not_mem_nil, or_false] at ht
    rcases ht with rfl <;> exact ⟨by kernel_rfl, of_decide_eq_true (by kernel_rfl)⟩) (T := 4) (by kernel_rfl) (by kernel_rfl) rfl ⟨rfl, rfl, rfl⟩ hW1 (dargs := [encW a0]) (fun R => ?_) ((f6 a0).c ⟨rfl, rfl⟩)
  simp only [concL, ha0 R]
theorem wsetNone_holds : Rows.WsetNoneSaid :=
  OpenClaim.holds_of_wide 6 Try.f6 rfl rfl rfl rfl rfl rfl rfl ⟨rfl, rfl, rfl, rfl, rfl⟩ rfl rfl rfl rfl rfl (by kernel_rfl) Try.func6 (by kernel_rfl)
    (of_decide_eq_true (by kernel_rfl)) (by unfold Func.isWrapper; first | (rw [if_pos (by decide +kernel)]; kernel_rfl) | (rw [if_neg (by decide +kernel)]; exact ⟨rfl, rfl⟩))
    (fun os started H enc _ => wsetNone_lifted os started H enc)
#print axioms wsetNone_holds
end Go.Proofs.Ytdgnnboljgpcmaa
