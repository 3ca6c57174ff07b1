import Derived.Test.YtjdpjimdoknlnaaWq
namespace Go.Proofs.Ytjdpjimdoknlnaa.E
open Go
set_option maxRecDepth 4000
theorem u8i {a b : UInt8} : ((a.toNat : Int) = b.toNat) ↔ a = b := ⟨fun h => UInt8.toNat_inj.1 (by omega), fun h => by rw [h]⟩
theorem u16i {a b : UInt16} : ((a.toNat : Int) = b.toNat) ↔ a = b := ⟨fun h => UInt16.toNat_inj.1 (by omega), fun h => by rw [h]⟩
theorem u32i {a b : UInt32} : ((a.toNat : Int) = b.toNat) ↔ a = b := ⟨fun h => UInt32.toNat_inj.1 (by omega), fun h => by rw [h]⟩
theorem u64i {a b : UInt64} : ((a.toNat : Int) = b.toNat) ↔ a = b := ⟨fun h => UInt64.toNat_inj.1 (by omega), fun h => by rw [h]⟩
theorem eqID (a b : PageID) : EqAt Try.prog 26 (encID a) (encID b) (decide (a = b)) := by
  have h := eqAt_of (P := Try.prog) (T := 26) (x := encID a) (y := encID b) (b := (decide (a.undo = b.undo) && (decide ((a.no.toNat : Int) = b.no.toNat) && true))) (by kernel_rfl) rfl rfl rfl
  have e : (decide (a.undo = b.undo) && (decide ((a.no.toNat : Int) = b.no.toNat) && true)) = decide (a = b) := by
    obtain ⟨u, n⟩ := a
    obtain ⟨u', n'⟩ := b
    simp only [u16i, PageID.mk.injEq, Bool.and_true, Bool.decide_and]
  rwa [e] at h
theorem eqRec (a b : Rec) : EqAt Try.prog 35 (encRec a) (encRec b) (decide (a = b)) := by
  have h := eqAt_of (P := Try.prog) (T := 35) (x := encRec a) (y := encRec b) (b :=
    (decide ((a.kind.toNat : Int) = b.kind.toNat) && ((decide (a.page.undo = b.page.undo) && (decide ((a.page.no.toNat : Int) = b.page.no.toNat) && true)) && (decide (a.image.toList = b.image.toList) && (decide ((a.ts.toNat : Int) = b.ts.toNat) &&
    ((decide ((a.prev.page.toNat : Int) = b.prev.page.toNat) && (decide ((a.prev.slot.toNat : Int) = b.prev.slot.toNat) && true)) && (decide (a.delta = b.delta) && (decide ((a.slot.toNat : Int) = b.slot.toNat) &&
    ((decide (a.old.live = b.old.live) && (decide ((a.old.page.toNat : Int) = b.old.page.toNat) && (decide ((a.old.ts.toNat : Int) = b.old.ts.toNat) && ((decide ((a.old.next.page.toNat : Int) = b.old.next.page.toNat) && (decide ((a.old.next.slot.toNat : Int) = b.old.next.slot.toNat) && true)) && (decide (a.old.delta = b.old.delta) && true))))) && true))))))))) (by kernel_rfl) rfl rfl rfl
  have hv : (a.image.toList = b.image.toList) ↔ a.image = b.image := Vector.toList_inj
  refine (?_ : _ = decide (a = b)) ▸ h
  obtain ⟨k, ⟨u, n⟩, im, ts, ⟨pp, ps⟩, dl, sl, ⟨ol, op, ot, ⟨np, ns⟩, od⟩⟩ := a
  obtain ⟨k', ⟨u', n'⟩, im', ts', ⟨pp', ps'⟩, dl', sl', ⟨ol', op', ot', ⟨np', ns'⟩, od'⟩⟩ := b
  simp only at hv
  simp only [u8i, u16i, u32i, hv, Rec.mk.injEq, PageID.mk.injEq, Ref.mk.injEq, Old.mk.injEq, Bool.and_true, Bool.decide_and, Bool.and_assoc]
def mayR (r : Rec) : Bool := decide (1 ≤ r.kind.toNat) && decide (r.kind.toNat ≤ 6) && decide (bareR r = r) && decide (r.delta.length ≤ 66) && decide (r.old.delta.length ≤ 66)
theorem f111 (r : Rec) : Pure Try.prog 111 [encRec r] (.bool (mayR r)) := by
  refine ⟨fun _ _ => rfl, fun _ _ => rfl, rfl, callAt_of_exec zeros mixed (fn := Try.f111) rfl rfl rfl (by rintro _ _ ⟨rfl, rfl⟩; exact Nat.le_refl _) ?_⟩
  refine DrawAt.all (by kernel_rfl) ?_
  refine And.intro (fun h1 => ?_) (fun h1 => ?_)
  · have g1 : 1 ≤ r.kind.toNat := by have := of_decide_eq_true h1; omega
    refine And.intro (fun h2 => ?_) (fun h2 => ?_)
    · have g2 : r.kind.toNat ≤ 6 := by have := of_decide_eq_true h2; omega
      refine (f138 r).q ?_
      refine ⟨decide (bareR r = r), eqRec _ _, ?_⟩
      refine And.intro (fun h3 => ?_) (fun h3 => ?_)
      · refine And.intro (fun h4 => ?_) (fun h4 => ?_)
        · have g4 : r.delta.length ≤ 66 := by have := of_decide_eq_true h4; omega
          refine ⟨_, _, ⟨rfl, rfl⟩, fun R => ?_, trivial⟩
          have e : decide ((r.old.delta.length : Int) ≤ 66) = decide (r.old.delta.length ≤ 66) := decide_eq_decide.2 ⟨fun h => by omega, fun h => by omega⟩
          simp only [mayR, g1, g2, h3, g4, conc, e, decide_true, Bool.and_self, Bool.true_and]
        · have g4 : ¬ r.delta.length ≤ 66 := by have := of_decide_eq_false h4; omega
          refine ⟨_, _, ⟨rfl, rfl⟩, fun R => ?_, trivial⟩
          simp [mayR, g4, conc]
      · refine ⟨_, _, ⟨rfl, rfl⟩, fun R => ?_, trivial⟩
        simp only [mayR, h3, conc, Bool.and_false, Bool.false_and]
    · have g2 : ¬ r.kind.toNat ≤ 6 := by have := of_decide_eq_false h2; omega
      refine ⟨_, _, ⟨rfl, rfl⟩, fun R => ?_, trivial⟩
      simp [mayR, g2, conc]
  · have g1 : ¬ 1 ≤ r.kind.toNat := by have := of_decide_eq_false h1; omega
    refine ⟨_, _, ⟨rfl, rfl⟩, fun R => ?_, trivial⟩
    simp [mayR, g1, conc]
end Go.Proofs.Ytjdpjimdoknlnaa.E
