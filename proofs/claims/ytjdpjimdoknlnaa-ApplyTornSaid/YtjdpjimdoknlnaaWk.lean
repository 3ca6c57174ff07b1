import Derived.Test.YtjdpjimdoknlnaaWj
namespace Go.Proofs.Ytjdpjimdoknlnaa.E
open Go
set_option maxRecDepth 4000
/-- What a function hands back together with whether it is. -/
def orNot {α : Type} (enc : α → D) (z : α) : Option α → D
  | some a => .tup [enc a, .tt]
  | none => .tup [enc z, .ff]
def slotGet (olds : List Old) (slot : UInt8) : Option Old := (olds[slot.toNat]?).filter (·.live)
theorem f153 (lsn : UInt64) (olds : List Old) (cap : Nat) (slot : UInt8) : Rd Try.prog 153 [undoD lsn 0 olds.length cap, .int .u8 slot.toNat] [oldsO olds cap] (orNot encOld zeroOld (slotGet olds slot)) := by
  refine ⟨by cases slotGet olds slot <;> rfl, callAt_of_exec zeros mixed (fn := Try.f153) rfl rfl rfl (by rintro _ _ ⟨rfl, rfl⟩; exact Nat.le_refl _) ?_⟩
  have hsl := slot.toNat_lt
  have hw : IntKind.i64.wrap (slot.toNat : Int) = (slot.toNat : Int) := w64 (by omega)
  refine And.intro (fun h1 => ?_) (fun h1 => ?_)
  · have g1 : olds.length ≤ slot.toNat := by rw [hw] at h1; have := of_decide_eq_true h1; omega
    have hg : slotGet olds slot = none := by simp [slotGet, List.getElem?_eq_none g1]
    rw [hg]
    exact ⟨_, _, ⟨rfl, rfl⟩, Eqv.rfl, EqvO.rfl, closedOld, trivial⟩
  have g1 : ¬ olds.length ≤ slot.toNat := by rw [hw] at h1; have := of_decide_eq_false h1; omega
  refine And.intro ⟨by omega, by omega⟩ ?_
  refine And.intro (by omega) ?_
  refine And.intro (by omega) ?_
  refine And.intro (by omega) ?_
  intro o ho
  have ho' : olds[slot.toNat]? = some o := by simpa using ho
  refine And.intro (fun h2 => ?_) (fun h2 => ?_)
  · have hl : o.live = false := by simpa using h2
    have hg : slotGet olds slot = none := by simp [slotGet, ho', hl]
    rw [hg]
    exact ⟨_, _, ⟨rfl, rfl⟩, Eqv.rfl, EqvO.rfl, closedOld, trivial⟩
  · have hl : o.live = true := by simpa using h2
    have hg : slotGet olds slot = some o := by simp [slotGet, ho', hl]
    rw [hg]
    refine And.intro ⟨by omega, by omega⟩ ?_
    refine And.intro (by omega) ?_
    refine And.intro (by omega) ?_
    intro o2 ho2
    have : o2 = o := by
      have : olds[slot.toNat]? = some o2 := by simpa using ho2
      rw [ho'] at this; exact (Option.some.inj this).symm
    subst this
    exact ⟨_, _, ⟨rfl, rfl⟩, Eqv.rfl, EqvO.rfl, closedOld, trivial⟩
/-- 'own' hands back the page with a row of its own. -/
theorem f152 (lsn : UInt64) (olds : List Old) (cap : Nat) (hs : olds.length ≤ 15) : CallAt Try.prog 152 [undoD lsn 0 olds.length cap] [oldsO olds cap] (fun d H => ∃ cap', olds.length ≤ cap' ∧ d = undoD lsn 1 olds.length cap' ∧ H = [oldsO olds cap, oldsO olds cap']) := by
  refine callAt_of_execR zeros mixed (fn := Try.f152) rfl rfl rfl ?_
  refine And.intro (by omega) ?_
  refine And.intro (fun _ => rfl) ?_
  refine ⟨Old, encOld, olds, by simp, encOK_old, ?_, ?_⟩
  · have : Try.prog.bytesOf 33 = 32 := by kernel_rfl
    rw [this]; omega
  intro cap' hcap'
  exact ⟨[0, 3], _, _, ⟨cap', hcap', rfl, rfl⟩, trivial, Eqv.rfl, EqvO.rfl, EqvO.rfl, trivial⟩
end Go.Proofs.Ytjdpjimdoknlnaa.E
