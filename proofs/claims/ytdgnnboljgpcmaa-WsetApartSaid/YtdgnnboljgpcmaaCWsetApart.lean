/- varvelaw16.WsetApart answers true at every input: what is written of one page changes no other one; what was refused changes nothing. No conditions. -/
import Derived.Test.YtdgnnboljgpcmaaRows
import Derived.Test.YtdgnnboljgpcmaaDec
import Derived.Test.YtdgnnboljgpcmaaSf
namespace Go.Proofs.Ytdgnnboljgpcmaa
open Go Go.ChangeShapes Go.WideShapes Go.ChangeAt Go.RowKit E
set_option maxRecDepth 100000 in
set_option maxHeartbeats 800000 in
theorem wsetApart_lifted (os : Os) (started : os.Started) (H : Type) (enc : TypeId × Value → H) :
    ReturnsInHanded {} Try.checked os 3 .any (Rows.wsetApartSpec.pre6 enc Try.prog Try.f3 Rows.wsetApartRow.domain false) (Rows.wsetApartSpec.post enc Try.prog Try.f3 false true false false) := by
  refine returnsInHanded_of_change_sized (C := Try.checked) own started (by kernel_rfl) Try.func3
    (ChangeSpec.witness6 (enc := enc) (C := Try.checked) false ⟨#[], #[.slice none 0 0, .agg (#[.int .u16 0] ++ Array.replicate 64 (.int .u8 0) ++ #[.int .i64 0, .string ⟨#[]⟩])], []⟩ 8 (by kernel_rfl) (by kernel_rfl) (by kernel_rfl) (by kernel_rfl)) ?_
  intro W base args ds gs before hval0 hW _ _ _
  have hval : ∀ (j : Nat) t v, Try.f3.params[j]? = some t → args[j]? = some v → Value.okWide Try.prog W .any base t v := hval0
  have hW0 : DataW.Whole enc Try.prog Try.f3.params.toList Rows.wsetApartSpec.vars false W args.toList ds gs before := hW
  clear hval0 hW
  have hW1 := hW0
  obtain ⟨p, q, hA, hV, hpq, hfz, _⟩ := hW0
  obtain ⟨rfl, rfl⟩ := trodVars_none hV
  rw [Try.params3] at hA hval
  obtain ⟨v0, v1, d0, d1, p0, p1, rfl, rfl, rfl, h0, h1⟩ := trodAll_two hA
  obtain ⟨a0, hr0, hok0, _, _⟩ := arg_slice (t := 22) (by kernel_rfl) d27 k27 (by decide) (fun _ => rfl) (hval 0 22 v0 rfl rfl) h0
  have ha0 : ∀ R, conc R (.val v0) = v0 := by
    obtain ⟨a, cap, rfl, _⟩ := hr0
    exact fun _ => rfl
  obtain ⟨a1, ha1, ho1⟩ := arg_agg d27 (by kernel_rfl) (fun _ => rfl) (hval 1 27 v1 rfl rfl) h1
  refine calls_said laidOut (by
    intro t ht
    rw [Try.params3] at ht
    simp only [List.mem_cons, List.not_mem_nil, or_false] at ht
    rcases ht with rfl | rfl <;> exact ⟨by kernel_rfl, of_decide_eq_true (by kernel_rfl)⟩) (T := 4) (by kernel_rfl) (by kernel_rfl) rfl ⟨rfl, rfl, rfl⟩ hW1 (dargs := [.val v0, encW a1]) (fun R => ?_) (f3 (oldM W) v0 a0 a1 hr0 hok0 ho1)
  simp only [concL, ha0 R, ha1 R]
theorem wsetApart_holds : Rows.WsetApartSaid :=
  OpenClaim.holds_of_wide 3 Try.f3 rfl rfl rfl rfl rfl rfl rfl ⟨rfl, rfl, rfl, rfl, rfl⟩ rfl rfl rfl rfl rfl (by kernel_rfl) Try.func3 (by kernel_rfl)
    (of_decide_eq_true (by kernel_rfl)) (by unfold Func.isWrapper; first | (rw [if_pos (by decide +kernel)]; kernel_rfl) | (rw [if_neg (by decide +kernel)]; exact ⟨rfl, rfl⟩))
    (fun os started H enc _ => wsetApart_lifted os started H enc)
#print axioms wsetApart_holds
end Go.Proofs.Ytdgnnboljgpcmaa
