import Derived.Test.YtjdpjimdoknlnaaWl
namespace Go.Proofs.Ytjdpjimdoknlnaa.E
open Go
set_option maxRecDepth 4000
def slotCut (olds : List Old) (slot : UInt8) : Option (List Old) :=
  match slotGet olds slot with
  | none => none
  | some o => if mayU olds then some (olds.set slot.toNat { o with next := ⟨0, 0⟩ }) else none
/-- A new page of records, or none. -/
def newPost (lsn : UInt64) (olds : List Old) (cap : Nat) (e : Int) (r : Option (List Old)) (d : D) (H : List SObj) : Prop :=
  match r with
  | none => d = .tup [.st [.int .u64 0, .nils], .int .i64 e] ∧ H = [oldsO olds cap]
  | some olds' => ∃ cap', d = .tup [undoD lsn 1 olds'.length cap', .int .i64 0] ∧ H = [oldsO olds cap, oldsO olds' cap']
theorem slotGet_some {olds : List Old} {slot : UInt8} {o : Old} (h : slotGet olds slot = some o) : olds[slot.toNat]? = some o ∧ o.live = true := by
  unfold slotGet at h
  rw [Option.filter_eq_some_iff] at h
  exact h
theorem f141 (lsn : UInt64) (olds : List Old) (cap : Nat) (slot : UInt8) (hs : Short olds) (hd : ∀ o ∈ olds, Short o.delta) : CallAt Try.prog 141 [undoD lsn 0 olds.length cap, .int .u8 slot.toNat] [oldsO olds cap] (newPost lsn olds cap 1 (slotCut olds slot)) := by
  refine callAt_of_execR zeros mixed (fn := Try.f141) rfl rfl rfl ?_
  have hc := f153 lsn olds cap slot
  cases hg : slotGet olds slot with
  | none =>
    have hcut : slotCut olds slot = none := by simp [slotCut, hg]
    rw [hcut]
    rw [hg] at hc
    refine hc.c [0] rfl (fun _ => rfl) (by exact ⟨EqvS.rfl, trivial⟩) ?_
    exact ⟨[0], _, _, ⟨rfl, rfl⟩, trivial, Eqv.rfl, EqvO.rfl, trivial⟩
  | some o =>
    rw [hg] at hc
    obtain ⟨ho, hl⟩ := slotGet_some hg
    refine hc.c [0] rfl (fun _ => rfl) (by exact ⟨EqvS.rfl, trivial⟩) ?_
    refine (f110 lsn olds cap hs hd).c [0] rfl (fun _ => rfl) (by exact ⟨EqvS.rfl, trivial⟩) ?_
    refine And.intro (fun h3 => ?_) (fun h3 => ?_)
    · have g3 : mayU olds = false := by simpa using h3
      have hcut : slotCut olds slot = none := by simp [slotCut, hg, g3]
      rw [hcut]
      exact ⟨[0], _, _, ⟨rfl, rfl⟩, trivial, Eqv.rfl, EqvO.rfl, trivial⟩
    have g3 : mayU olds = true := by simpa using h3
    have hcut : slotCut olds slot = some (olds.set slot.toNat { o with next := ⟨0, 0⟩ }) := by simp [slotCut, hg, g3]
    rw [hcut]
    obtain ⟨ht, hz⟩ := tame_of_may g3
    refine (f152 lsn olds cap ht.1).lift [0] rfl (fun _ => rfl) (by rintro d H1 ⟨cap', _, rfl, rfl⟩ hj; cases hj) ?_
    refine ⟨EqvO.rfl, ?_⟩
    rintro d H1 ⟨cap', hcap', rfl, rfl⟩
    have hlt : slot.toNat < olds.length := (List.getElem?_eq_some_iff.1 ho).1
    refine And.intro ⟨by omega, by omega⟩ ?_
    refine And.intro (by omega) ?_
    refine And.intro (by omega) ?_
    have ho' : olds[0 + (slot.toNat : Int).toNat]? = some o := by simpa using ho
    refine And.intro (by omega) ?_
    intro x hx
    have hxo : x = o := by rw [ho'] at hx; exact (Option.some.inj hx).symm
    subst hxo
    refine ⟨{ x with next := ⟨0, 0⟩ }, Eqv.rfl, ?_⟩
    refine ⟨[0, 4], _, _, ⟨cap', rfl, rfl⟩, trivial, Eqv.of ?_, EqvO.rfl, EqvO.of ?_, trivial⟩
    · rw [List.length_set]; rfl
    · show SObj.vec 33 6 encOld (olds.set (0 + (slot.toNat : Int).toNat) { x with next := ⟨0, 0⟩ }) cap' = _
      rw [Nat.zero_add, Int.toNat_natCast]; rfl
end Go.Proofs.Ytjdpjimdoknlnaa.E
