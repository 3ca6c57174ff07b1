/- varvelaw09.ApplyTorn answers true at every input: behind an image of a page whatever stood there makes no difference, as long as it isn't newer; the input reads as it did. No conditions. -/
import Derived.Test.YtjdpjimdoknlnaaRows
import Derived.Test.YtjdpjimdoknlnaaDec
import Derived.Test.YtjdpjimdoknlnaaWy
namespace Go.Proofs.Ytjdpjimdoknlnaa
open Go Go.ChangeShapes Go.WideShapes Go.ChangeAt Go.RowKit E
set_option maxRecDepth 100000 in
set_option maxHeartbeats 800000 in
theorem applyTorn_lifted (os : Os) (started : os.Started) (H : Type) (enc : TypeId × Value → H) :
    ReturnsInHanded {} Try.checked os 3 .any (Rows.applyTornSpec.pre6 enc Try.prog Try.f3 Rows.applyTornRow.domain false) (Rows.applyTornSpec.post enc Try.prog Try.f3 false true false false) := by
  refine returnsInHanded_of_change_sized (C := Try.checked) own started (by kernel_rfl) Try.func3
    (ChangeSpec.witness6 (enc := enc) (C := Try.checked) false ⟨#[], #[.agg (Array.replicate 224 (.int .u8 0)), .agg (Array.replicate 224 (.int .u8 0)), .agg (Array.replicate 224 (.int .u8 0)), .agg #[.bool false, .int .u16 0], .slice none 0 0], []⟩ 8 (by kernel_rfl) (by kernel_rfl) (by kernel_rfl) (by kernel_rfl)) ?_
  intro W base args ds gs before hval0 hW _ hsz0 _
  have hsz : (DataW.weightsEach Try.prog (Try.f3.params.toList ++ Rows.applyTornSpec.plain.varTypes Try.prog) (ds ++ gs)).all (· ≤ reachBytes) = true := hsz0
  have hval : ∀ (j : Nat) t v, Try.f3.params[j]? = some t → args[j]? = some v → Value.okWide Try.prog W .any base t v := hval0
  have hW0 : DataW.Whole enc Try.prog Try.f3.params.toList Rows.applyTornSpec.vars false W args.toList ds gs before := hW
  clear hsz0 hval0 hW
  have hW1 := hW0
  obtain ⟨p, q, hA, hV, hpq, hfz, _⟩ := hW0
  obtain ⟨rfl, rfl⟩ := trodVars_none hV
  rw [Try.params3] at hA hval hsz
  obtain ⟨v0, vs0, d0, ds0, p0, q0, hargs, rfl, rfl, h0, r0⟩ := trodAll_cons hA
  obtain ⟨v1, vs1, d1, ds1, p1, q1, rfl, rfl, rfl, h1, r1⟩ := trodAll_cons r0
  obtain ⟨v2, vs2, d2, ds2, p2, q2, rfl, rfl, rfl, h2, r2⟩ := trodAll_cons r1
  obtain ⟨v3, vs3, d3, ds3, p3, q3, rfl, rfl, rfl, h3, r3⟩ := trodAll_cons r2
  obtain ⟨v4, vs4, d4, ds4, p4, q4, rfl, rfl, rfl, h4, r4⟩ := trodAll_cons r3
  obtain ⟨rfl, rfl, rfl⟩ := trodAll_nil r4
  obtain rfl : args = #[v0, v1, v2, v3, v4] := by cases args; simp_all
  clear hA r0 r1 r2 r3 r4 hargs
  obtain ⟨pa, hpa, _⟩ := arg_agg d23 (by kernel_rfl) (fun _ => rfl) (hval 0 23 v0 rfl rfl) h0
  obtain ⟨pb, hpb, _⟩ := arg_agg d23 (by kernel_rfl) (fun _ => rfl) (hval 1 23 v1 rfl rfl) h1
  obtain ⟨im, him, _⟩ := arg_agg d23 (by kernel_rfl) (fun _ => rfl) (hval 2 23 v2 rfl rfl) h2
  obtain ⟨id, hid, _⟩ := arg_agg d26 (by kernel_rfl) (fun _ => rfl) (hval 3 26 v3 rfl rfl) h3
  have hu27 : Try.prog.underlying 27 = some (.slice 37) := by kernel_rfl
  obtain ⟨log, hlog, _, hlen, hnil⟩ := arg_slice hu27 d37 c37 (by decide) (fun _ => rfl) (hval 4 27 v4 rfl rfl) h4
  have hshort : Short log := by
    obtain ⟨fuel, hf⟩ := h4
    rcases DataW.trod_slice hu27 hf with ⟨_, hx⟩ | ⟨a, len, cap, elems, rest, n, _, _, hx, _⟩
    · simp only [Prod.mk.injEq] at hx
      rw [hnil hx.1]; simp [Short]
    · simp only [Prod.mk.injEq] at hx
      have h5 := sized_slice hsz (j := 4) (t := 27) (e := 37) rfl (by simp only [List.append_nil]; exact congrArg some hx.1) hu27
      have h6 := hlen _ _ hx.1
      have hby : Try.prog.bytesOf 37 = 304 := by kernel_rfl
      rw [hby] at h5
      unfold Short
      unfold reachBytes at h5
      rw [h6]; omega
  have hv4 : ∀ R, conc R (.val v4) = v4 := by
    obtain ⟨a, cap, rfl, _⟩ := hlog
    exact fun _ => rfl
  refine calls_said laidOut (by
    intro t ht
    rw [Try.params3] at ht
    simp only [List.mem_cons, List.not_mem_nil, or_false] at ht
    rcases ht with rfl | rfl | rfl | rfl | rfl <;> exact ⟨by kernel_rfl, of_decide_eq_true (by kernel_rfl)⟩) (T := 4) (by kernel_rfl) (by kernel_rfl) rfl ⟨rfl, rfl, rfl⟩ hW1 (dargs := [.bytes 224 pa, .bytes 224 pb, .bytes 224 im, encID id, .val v4]) (fun R => ?_) (f3 (oldM W) pa pb im id v4 log hshort hlog)
  simp only [concL, hid R, hpa R, hpb R, him R, hv4 R]
theorem applyTorn_holds : Rows.ApplyTornSaid :=
  OpenClaim.holds_of_wide 3 Try.f3 rfl rfl rfl rfl rfl rfl rfl ⟨rfl, rfl, rfl, rfl, rfl⟩ rfl rfl rfl rfl rfl (by kernel_rfl) Try.func3 (by kernel_rfl)
    (of_decide_eq_true (by kernel_rfl)) (by unfold Func.isWrapper; first | (rw [if_pos (by decide +kernel)]; kernel_rfl) | (rw [if_neg (by decide +kernel)]; exact ⟨rfl, rfl⟩))
    (fun os started H enc _ => applyTorn_lifted os started H enc)
#print axioms applyTorn_holds
end Go.Proofs.Ytjdpjimdoknlnaa
