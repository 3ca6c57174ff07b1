import Derived.Test.YtjdpjimdoknlnaaWn
namespace Go.Proofs.Ytjdpjimdoknlnaa.E
open Go
set_option maxRecDepth 4000
/-- A page with a further record, and its slot. -/
def slotAdd (olds : List Old) (o : Old) : Option (List Old × Nat) :=
  if mayU olds = false then none else if o.live = false then none else if 66 < o.delta.length then none else
  if placeI olds o.delta.length < 0 then none else
  if placeI olds o.delta.length = olds.length then some (olds ++ [o], olds.length) else some (olds.set (placeI olds o.delta.length).toNat o, (placeI olds o.delta.length).toNat)
def addPost (lsn : UInt64) (olds : List Old) (cap : Nat) (r : Option (List Old × Nat)) (d : D) (H : List SObj) : Prop :=
  match r with
  | none => ∃ e : Int, e ≠ 0 ∧ d = .tup [.st [.int .u64 0, .nils], .int .u8 0, .int .i64 e] ∧ H = [oldsO olds cap]
  | some (olds', i) => ∃ cap', d = .tup [undoD lsn 1 olds'.length cap', .int .u8 i, .int .i64 0] ∧ H = [oldsO olds cap, oldsO olds' cap']
theorem placeI_le (olds : List Old) (n : Int) : placeI olds n ≤ olds.length := by
  unfold placeI
  split
  · omega
  split
  · omega
  split
  · omega
  split
  · rename_i i hi
    have := (List.findIdx?_eq_some_iff_getElem.1 hi).1
    split <;> omega
  · split
    · omega
    · split <;> omega
theorem f139 (lsn : UInt64) (olds : List Old) (cap : Nat) (o : Old) (hs : Short olds) (hd : ∀ o ∈ olds, Short o.delta) (ho : Short o.delta) : CallAt Try.prog 139 [undoD lsn 0 olds.length cap, encOld o] [oldsO olds cap] (addPost lsn olds cap (slotAdd olds o)) := by
  refine callAt_of_execR zeros mixed (fn := Try.f139) rfl rfl rfl ?_
  refine (f110 lsn olds cap hs hd).c [0] rfl (fun _ => rfl) (by exact ⟨EqvS.rfl, trivial⟩) ?_
  refine And.intro (fun h1 => ?_) (fun h1 => ?_)
  · have g1 : mayU olds = false := by simpa using h1
    have hg : slotAdd olds o = none := by simp [slotAdd, g1]
    rw [hg]
    exact ⟨[0], _, _, ⟨1, by decide, rfl, rfl⟩, trivial, Eqv.rfl, EqvO.rfl, trivial⟩
  have g1 : mayU olds = true := by simpa using h1
  refine And.intro (fun h2 => ?_) (fun h2 => ?_)
  · have g2 : o.live = false := by simpa using h2
    have hg : slotAdd olds o = none := by simp [slotAdd, g2]
    rw [hg]
    exact ⟨[0], _, _, ⟨1, by decide, rfl, rfl⟩, trivial, Eqv.rfl, EqvO.rfl, trivial⟩
  have g2 : o.live = true := by simpa using h2
  refine And.intro (fun h3 => ?_) (fun h3 => ?_)
  · have g3 : 66 < o.delta.length := by have := of_decide_eq_true h3; omega
    have hg : slotAdd olds o = none := by simp [slotAdd, g3]
    rw [hg]
    exact ⟨[0], _, _, ⟨1, by decide, rfl, rfl⟩, trivial, Eqv.rfl, EqvO.rfl, trivial⟩
  have g3 : ¬ 66 < o.delta.length := by have := of_decide_eq_false h3; omega
  obtain ⟨ht, hz⟩ := tame_of_may g1
  have hl15 := ht.1
  obtain ⟨p, hp⟩ : ∃ p, p = placeI olds o.delta.length := ⟨_, rfl⟩
  have hple := placeI_le olds o.delta.length
  rw [← hp] at hple
  have hg : slotAdd olds o = if p < 0 then none else if p = olds.length then some (olds ++ [o], olds.length) else some (olds.set p.toNat o, p.toNat) := by
    rw [slotAdd, if_neg (by simp [g1]), if_neg (by simp [g2]), if_neg g3, ← hp]
  have hc := f151 lsn olds cap o.delta.length hs hd
  rw [← hp] at hc
  refine hc.c [0] rfl (fun _ => rfl) (by exact ⟨EqvS.rfl, trivial⟩) ?_
  refine And.intro (fun h4 => ?_) (fun h4 => ?_)
  · have g4 := of_decide_eq_true h4
    rw [if_pos g4] at hg
    rw [hg]
    exact ⟨[0], _, _, ⟨5, by decide, rfl, rfl⟩, trivial, Eqv.rfl, EqvO.rfl, trivial⟩
  have g4 := of_decide_eq_false h4
  rw [if_neg g4] at hg
  refine (f152 lsn olds cap ht.1).lift [0] rfl (fun _ => rfl) (by rintro d H1 ⟨cap', _, rfl, rfl⟩ hj; cases hj) ?_
  refine ⟨EqvO.rfl, ?_⟩
  rintro d H1 ⟨cap', hcap', rfl, rfl⟩
  refine JoinAt.through ?_
  have hw8 : ((UInt8.ofNat p.toNat).toNat : Int) = p := by rw [UInt8.toNat_ofNat']; omega
  have hwp : IntKind.wrap .u8 p = p := by rw [IntKind.wrap_u8]; omega
  refine And.intro (fun h5 => ?_) (fun h5 => ?_)
  · have g5 := of_decide_eq_true h5
    rw [if_pos g5] at hg
    rw [hg]
    refine And.intro (by omega) ?_
    refine And.intro (fun _ => rfl) ?_
    refine And.intro (by omega) ?_
    refine And.intro (by omega) ?_
    refine ⟨Old, encOld, olds ++ [o], ?_, encOK_old, ?_, ?_⟩
    · have : (List.drop 0 olds).take olds.length = olds := by simp
      refine ⟨by rw [this]; simp, fun R => congrArg (cellsL R) ?_⟩
      rw [this, List.map_append]; rfl
    · have : Try.prog.bytesOf 33 = 32 := by kernel_rfl
      rw [this]
      simp only [List.length_append, List.length_cons, List.length_nil]
      omega
    intro cap2 hcap2
    refine ⟨[0, 6], _, _, ⟨cap2, rfl, rfl⟩, trivial, Eqv.of ?_, EqvO.rfl, EqvO.rfl, trivial⟩
    rw [hwp, g5, List.length_append]; rfl
  · have g5 := of_decide_eq_false h5
    rw [if_neg g5] at hg
    rw [hg]
    refine And.intro ⟨by omega, by omega⟩ ?_
    refine And.intro (by omega) ?_
    refine And.intro (by omega) ?_
    intro x hx
    refine ⟨o, Eqv.rfl, ?_⟩
    refine ⟨[0, 4], _, _, ⟨cap', rfl, rfl⟩, trivial, Eqv.of ?_, EqvO.rfl, EqvO.of ?_, trivial⟩
    · rw [List.length_set, hwp, show ((p.toNat : Nat) : Int) = p by omega]; rfl
    · show SObj.vec 33 6 encOld (olds.set (0 + p.toNat) o) cap' = _
      rw [Nat.zero_add]; rfl
end Go.Proofs.Ytjdpjimdoknlnaa.E
