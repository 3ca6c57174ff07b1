import Derived.Test.YtjdpjimdoknlnaaWi
namespace Go.Proofs.Ytjdpjimdoknlnaa.E
open Go
set_option maxRecDepth 4000
def right (i : PageID) (p : Payload) : Bool := if i.undo then (getUndo i.no p).isSome else (getData i.no p).isSome
theorem f16 (i : PageID) (p : Payload) : Pure Try.prog 16 [encID i, .bytes 224 p] (.bool (right i p)) := by
  refine ⟨fun _ _ => rfl, fun _ _ => rfl, rfl, callAt_of_exec zeros mixed (fn := Try.f16) rfl rfl rfl (by rintro _ _ ⟨rfl, rfl⟩; exact Nat.le_refl _) ?_⟩
  refine And.intro (fun h1 => ?_) (fun h1 => ?_)
  · refine (f70 i.no p).lift [] rfl (fun _ => rfl) ?_ ?_
    · intro d H1 hp hj
      cases hg : getUndo i.no p with
      | none => rw [hg] at hp; obtain ⟨rfl, rfl⟩ := hp; cases hj
      | some olds => rw [hg] at hp; obtain ⟨cap, rfl, rfl⟩ := hp; cases hj
    intro d H1 hp
    cases hg : getUndo i.no p with
    | none =>
      rw [hg] at hp; obtain ⟨rfl, rfl⟩ := hp
      exact ⟨_, _, ⟨rfl, rfl⟩, fun R => by simp [conc, right, h1, hg], trivial⟩
    | some olds =>
      rw [hg] at hp; obtain ⟨cap, rfl, rfl⟩ := hp
      exact ⟨_, _, ⟨rfl, rfl⟩, fun R => by simp [conc, right, h1, hg], trivial⟩
  · have hc := f71 i.no p
    cases hg : getData i.no p with
    | none =>
      rw [hg] at hc
      refine hc.c ?_
      exact ⟨_, _, ⟨rfl, rfl⟩, fun R => by simp [conc, right, h1, hg], trivial⟩
    | some d =>
      rw [hg] at hc
      refine hc.c ?_
      exact ⟨_, _, ⟨rfl, rfl⟩, fun R => by simp [conc, right, h1, hg], trivial⟩
end Go.Proofs.Ytjdpjimdoknlnaa.E
