/- varvelaw09.ApplyApart answers true at every input: records about other pages, and commits, change nothing of a page; the input reads as it did. No conditions. -/
import Derived.Test.YtjdpjimdoknlnaaRows
import Derived.Test.YtjdpjimdoknlnaaDec
import Derived.Test.YtjdpjimdoknlnaaWx
namespace Go.Proofs.Ytjdpjimdoknlnaa
open Go Go.ChangeShapes Go.WideShapes Go.ChangeAt Go.RowKit E
set_option maxRecDepth 100000 in
set_option maxHeartbeats 800000 in
theorem applyApart_lifted (os : Os) (started : os.Started) (H : Type) (enc : TypeId × Value → H) :
    ReturnsInHanded {} Try.checked os 4 .any (Rows.applyApartSpec.pre6 enc Try.prog Try.f4 Rows.applyApartRow.domain false) (Rows.applyApartSpec.post enc Try.prog Try.f4 false true false false) := by
  refine returnsInHanded_of_change_sized (C := Try.checked) own started (by kernel_rfl) Try.func4
    (ChangeSpec.witness6 (enc := enc) (C := Try.checked) false ⟨#[], #[.agg #[.bool false, .int .u16 0], .agg #[.bool false, .int .u16 0], .agg (Array.replicate 224 (.int .u8 0)), .slice none 0 0], []⟩ 8 (by kernel_rfl) (by kernel_rfl) (by kernel_rfl) (by kernel_rfl)) ?_
  intro W base args ds gs before hval0 hW _ hsz0 _
  have hsz : (DataW.weightsEach Try.prog (Try.f4.params.toList ++ Rows.applyApartSpec.plain.varTypes Try.prog) (ds ++ gs)).all (· ≤ reachBytes) = true := hsz0
  have hval : ∀ (j : Nat) t v, Try.f4.params[j]? = some t → args[j]? = some v → Value.okWide Try.prog W .any base t v := hval0
  have hW0 : DataW.Whole enc Try.prog Try.f4.params.toList Rows.applyApartSpec.vars false W args.toList ds gs before := hW
  clear hsz0 hval0 hW
  have hW1 := hW0
  obtain ⟨p, q, hA, hV, hpq, hfz, _⟩ := hW0
  obtain ⟨rfl, rfl⟩ := trodVars_none hV
  rw [Try.params4] at hA hval hsz
  obtain ⟨v0, v1, v2, v3, d0, d1, d2, d3, p0, p1, p2, p3, rfl, rfl, rfl, h0, h1, h2, h3⟩ := trodAll_four hA
  obtain ⟨id, hid, _⟩ := arg_agg d26 (by kernel_rfl) (fun _ => rfl) (hval 0 26 v0 rfl rfl) h0
  obtain ⟨other, hother, _⟩ := arg_agg d26 (by kernel_rfl) (fun _ => rfl) (hval 1 26 v1 rfl rfl) h1
  obtain ⟨pg, hpg, _⟩ := arg_agg d23 (by kernel_rfl) (fun _ => rfl) (hval 2 23 v2 rfl rfl) h2
  have hu27 : Try.prog.underlying 27 = some (.slice 37) := by kernel_rfl
  obtain ⟨log, hlog, _, hlen, hnil⟩ := arg_slice hu27 d37 c37 (by decide) (fun _ => rfl) (hval 3 27 v3 rfl rfl) h3
  have hshort : Short log := by
    obtain ⟨fuel, hf⟩ := h3
    rcases DataW.trod_slice hu27 hf with ⟨_, hx⟩ | ⟨a, len, cap, elems, rest, n, _, _, hx, _⟩
    · simp only [Prod.mk.injEq] at hx
      rw [hnil hx.1]; simp [Short]
    · simp only [Prod.mk.injEq] at hx
      have h5 := sized_slice hsz (j := 3) (t := 27) (e := 37) rfl (by simp only [List.append_nil]; exact congrArg some hx.1) hu27
      have h6 := hlen _ _ hx.1
      have hby : Try.prog.bytesOf 37 = 304 := by kernel_rfl
      rw [hby] at h5
      unfold Short
      unfold reachBytes at h5
      rw [h6]; omega
  have hv3 : ∀ R, conc R (.val v3) = v3 := by
    obtain ⟨a, cap, rfl, _⟩ := hlog
    exact fun _ => rfl
  refine calls_said laidOut (by
    intro t ht
    rw [Try.params4] at ht
    simp only [List.mem_cons, List.not_mem_nil, or_false] at ht
    rcases ht with rfl | rfl | rfl | rfl <;> exact ⟨by kernel_rfl, of_decide_eq_true (by kernel_rfl)⟩) (T := 4) (by kernel_rfl) (by kernel_rfl) rfl ⟨rfl, rfl, rfl⟩ hW1 (dargs := [encID id, encID other, .bytes 224 pg, .val v3]) (fun R => ?_) (f4 (oldM W) id other pg v3 log hshort hlog)
  simp only [concL, hid R, hother R, hpg R, hv3 R]
theorem applyApart_holds : Rows.ApplyApartSaid :=
  OpenClaim.holds_of_wide 4 Try.f4 rfl rfl rfl rfl rfl rfl rfl ⟨rfl, rfl, rfl, rfl, rfl⟩ rfl rfl rfl rfl rfl (by kernel_rfl) Try.func4 (by kernel_rfl)
    (of_decide_eq_true (by kernel_rfl)) (by unfold Func.isWrapper; first | (rw [if_pos (by decide +kernel)]; kernel_rfl) | (rw [if_neg (by decide +kernel)]; exact ⟨rfl, rfl⟩))
    (fun os started H enc _ => applyApart_lifted os started H enc)
#print axioms applyApart_holds
end Go.Proofs.Ytjdpjimdoknlnaa
