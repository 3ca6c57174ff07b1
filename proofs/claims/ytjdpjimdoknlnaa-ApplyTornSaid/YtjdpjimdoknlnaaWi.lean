import Derived.Test.YtjdpjimdoknlnaaWh
namespace Go.Proofs.Ytjdpjimdoknlnaa.E
open Go
set_option maxRecDepth 4000
/-- A function that reads a row, called with nil for it. -/
theorem Rd.nil {P : Program} {f : FuncId} {ds0 ds : List D} {e s : Nat} {α : Type} {enc : α → D} {d : D} (hc : Rd P f ds0 [.vec e s enc [] 0] d) (hcl : ∀ R R', concL R ds = concL R' ds) (hcd : ∀ R R', conc R d = conc R' d)
    (hds : ∀ X : Env, concL (none :: X) ds0 = concL [] ds) : Pure P f ds d := by
  refine ⟨hcl, hcd, hc.nj, hc.call.fn, fun F R w vs hl hs hv => ?_⟩
  have hR : R = [] := List.length_eq_zero_iff.1 hl
  subst hR
  have hs2 : Sat (star (hpH [none] [none] [.vec e s enc [] 0]) F) w := by
    refine hs.mono (star_mono (fun f hf => ?_) (Imp.refl F))
    exact ⟨fun _ => none, fun _ => none, (fun _ _ h => nomatch h), (fun _ _ h => nomatch h), (fun _ => .inl rfl), .inl ⟨rfl, rfl, rfl⟩, trivial⟩
  refine (hc.call.run F [none] w vs rfl hs2 (fun X => by
    have := hds X
    rw [show [none] ++ X = none :: X from rfl, this]; exact hv [])).mono ?_
  rintro e w' ⟨d', H1, X, v, ⟨rfl, rfl⟩, he, hl1, hi, hs', hsame⟩
  refine ⟨d', [], [], v, ⟨rfl, rfl⟩, he, rfl, ?_, hs'.mono (star_mono (fun _ _ => trivial) (Imp.refl F)), hsame⟩
  rcases hi with hi | hi
  · exact .inl hi
  · exact .inr fun Y => by rw [hcd _ ([none] ++ X ++ Y)]; exact hi Y
structure PageID where
  undo : Bool
  no : UInt16
deriving DecidableEq
def encID (i : PageID) : D := .st [.bool i.undo, .int .u16 i.no.toNat]
def blank (i : PageID) : Payload := if i.undo then (putUndo i.no 0 []).getD zeroPay else putDataP i.no zeroData
theorem f62 (i : PageID) : Pure Try.prog 62 [encID i] (.bytes 224 (blank i)) := by
  refine ⟨fun _ _ => rfl, fun _ _ => rfl, rfl, callAt_of_exec zeros mixed (fn := Try.f62) rfl rfl rfl (by rintro _ _ ⟨rfl, rfl⟩; exact Nat.le_refl _) ?_⟩
  refine And.intro (fun h1 => ?_) (fun h1 => ?_)
  · have hp : putUndo i.no 0 [] = some (putUndoP i.no 0 []) := rfl
    have hc := f103 i.no 0 [] 0 (by simp [Short]) (by simp)
    rw [hp] at hc
    refine (Rd.nil hc (ds := [.int .u16 i.no.toNat, .st [.int .u64 0, .nils]]) (fun _ _ => rfl) (fun _ _ => rfl) (fun X => rfl)).c ?_
    exact ⟨_, _, ⟨rfl, rfl⟩, Eqv.of (by simp [blank, h1, hp]), trivial⟩
  · refine (f104 i.no zeroData).c ?_
    exact ⟨_, _, ⟨rfl, rfl⟩, Eqv.of (by simp [blank, h1]), trivial⟩
end Go.Proofs.Ytjdpjimdoknlnaa.E
