import Derived.Test.YtjdpjimdoknlnaaWk
namespace Go.Proofs.Ytjdpjimdoknlnaa.E
open Go
set_option maxRecDepth 4000
def placeI (olds : List Old) (n : Int) : Int :=
  if n < 0 then -1 else if 66 < n then -1 else if mayU olds = false then -1 else
  match olds.findIdx? (fun o => !o.live) with
  | some i => if 224 < (sizeU olds : Int) + 10 + n then -1 else i
  | none => if olds.length = 15 then -1 else if 224 < (sizeU olds : Int) + 11 + n then -1 else olds.length
theorem f151 (lsn : UInt64) (olds : List Old) (cap : Nat) (n : Int) (hs : Short olds) (hd : ∀ o ∈ olds, Short o.delta) : Rd Try.prog 151 [undoD lsn 0 olds.length cap, .int .i64 n] [oldsO olds cap] (.int .i64 (placeI olds n)) := by
  refine ⟨rfl, callAt_of_exec zeros mixed (fn := Try.f151) rfl rfl rfl (by rintro _ _ ⟨rfl, rfl⟩; exact Nat.le_refl _) ?_⟩
  refine And.intro (fun h1 => ?_) (fun h1 => ?_)
  · have g1 := of_decide_eq_true h1
    exact ⟨_, _, ⟨rfl, rfl⟩, Eqv.of (by simp [placeI, g1]), EqvO.rfl, closedOld, trivial⟩
  have g1 := of_decide_eq_false h1
  refine And.intro (fun h2 => ?_) (fun h2 => ?_)
  · have g2 := of_decide_eq_true h2
    exact ⟨_, _, ⟨rfl, rfl⟩, Eqv.of (by simp [placeI, g1, g2]), EqvO.rfl, closedOld, trivial⟩
  have g2 := of_decide_eq_false h2
  refine (f110 lsn olds cap hs hd).c [0] rfl (fun _ => rfl) (by exact ⟨EqvS.rfl, trivial⟩) ?_
  refine And.intro (fun h3 => ?_) (fun h3 => ?_)
  · have g3 : mayU olds = false := by simpa using h3
    exact ⟨_, _, ⟨rfl, rfl⟩, Eqv.of (by simp [placeI, g1, g2, g3]), EqvO.rfl, closedOld, trivial⟩
  have g3 : mayU olds = true := by simpa using h3
  obtain ⟨ht, hz⟩ := tame_of_may g3
  have hpl : placeI olds n = match olds.findIdx? (fun o => !o.live) with
      | some i => if 224 < (sizeU olds : Int) + 10 + n then -1 else i
      | none => if olds.length = 15 then -1 else if 224 < (sizeU olds : Int) + 11 + n then -1 else olds.length := by simp [placeI, g1, g2, g3]
  refine LoopN.of Nat (fun j => j ≤ olds.length ∧ ∀ k, k < j → ∀ o, olds[k]? = some o → o.live = true) (fun j => olds.length - j) (fun j => ⟨slotsOf 52 [(1, .int .i64 n), (2, .ptr 1 []), (19, .slc 0 [] 6 0 olds.length cap), (20, .int .i64 olds.length), (21, .int .i64 j)],
    [oldsO olds cap, .var 139 (undoD lsn 0 olds.length cap)]⟩) (fun _ => Nat.le_of_ble_eq_true rfl) 0 ⟨Nat.zero_le _, fun k hk => absurd hk (Nat.not_lt_zero _)⟩ ?_ ?_
  · exact ⟨Eqv.rfl, Eqv.rfl, Eqv.rfl, Eqv.rfl, Eqv.rfl, EqvO.rfl, EqvO.rfl, trivial⟩
  rintro j ⟨hj, hall⟩
  have hl15 := ht.1
  refine And.intro (fun h4 => ?_) (fun h4 => ?_)
  · have g4 := of_decide_eq_true h4
    have hlt : j < olds.length := by omega
    refine And.intro ⟨by omega, by omega⟩ ?_
    refine And.intro (by omega) ?_
    refine And.intro (by omega) ?_
    intro o ho
    have ho' : olds[j]? = some o := by simpa using ho
    refine And.intro (fun h5 => ?_) (fun h5 => ?_)
    · have hl : o.live = false := by simpa using h5
      have hfi : olds.findIdx? (fun o => !o.live) = some j := by
        rw [List.findIdx?_eq_some_iff_getElem]
        have hoe : olds[j] = o := by rw [List.getElem?_eq_getElem hlt] at ho'; exact Option.some.inj ho'
        refine ⟨hlt, by simp [hoe, hl], fun k hk => ?_⟩
        have := hall k hk olds[k] (List.getElem?_eq_getElem (by omega))
        simp [this]
      rw [hfi] at hpl
      simp only at hpl
      refine (f137 lsn olds cap ht).c [0] rfl (fun _ => rfl) (by exact ⟨EqvS.rfl, trivial⟩) ?_
      have hw : IntKind.i64.wrap (IntKind.i64.wrap ((sizeU olds : Int) + 10) + n) = (sizeU olds : Int) + 10 + n := by rw [w64 (x := (sizeU olds : Int) + 10) (by omega), w64 (by omega)]
      refine And.intro (fun h6 => ?_) (fun h6 => ?_)
      · rw [hw] at h6
        rw [if_pos (of_decide_eq_true h6)] at hpl
        exact ⟨_, _, ⟨rfl, rfl⟩, Eqv.of (by rw [hpl]), EqvO.rfl, closedOld, trivial⟩
      · rw [hw] at h6
        rw [if_neg (of_decide_eq_false h6)] at hpl
        exact ⟨_, _, ⟨rfl, rfl⟩, Eqv.of (by rw [hpl]), EqvO.rfl, closedOld, trivial⟩
    · have hl : o.live = true := by simpa using h5
      refine ⟨j + 1, ⟨⟨by omega, fun k hk x hx => ?_⟩, by omega⟩, Eqv.rfl, Eqv.rfl, Eqv.rfl, Eqv.rfl, Eqv.of ?_, EqvO.rfl, closedOld, EqvO.rfl, trivial⟩
      · by_cases hkj : k = j
        · subst hkj; rw [ho'] at hx; rw [← Option.some.inj hx]; exact hl
        · exact hall k (by omega) x hx
      · rw [w64 (by omega)]; rfl
  · have g4 := of_decide_eq_false h4
    have hfi : olds.findIdx? (fun o => !o.live) = none := by
      rw [List.findIdx?_eq_none_iff]
      intro o ho
      obtain ⟨k, hk, rfl⟩ := List.getElem_of_mem ho
      have := hall k (by omega) olds[k] (List.getElem?_eq_getElem hk)
      simp [this]
    rw [hfi] at hpl
    simp only at hpl
    refine And.intro (fun h5 => ?_) (fun h5 => ?_)
    · have g5 : olds.length = 15 := by have := of_decide_eq_true h5; omega
      rw [if_pos g5] at hpl
      exact ⟨_, _, ⟨rfl, rfl⟩, Eqv.of (by rw [hpl]), EqvO.rfl, closedOld, trivial⟩
    have g5 : ¬ olds.length = 15 := by have := of_decide_eq_false h5; omega
    rw [if_neg g5] at hpl
    refine (f137 lsn olds cap ht).c [0] rfl (fun _ => rfl) (by exact ⟨EqvS.rfl, trivial⟩) ?_
    have hw : IntKind.i64.wrap (IntKind.i64.wrap ((sizeU olds : Int) + 11) + n) = (sizeU olds : Int) + 11 + n := by rw [w64 (x := (sizeU olds : Int) + 11) (by omega), w64 (by omega)]
    refine And.intro (fun h6 => ?_) (fun h6 => ?_)
    · rw [hw] at h6
      rw [if_pos (of_decide_eq_true h6)] at hpl
      exact ⟨_, _, ⟨rfl, rfl⟩, Eqv.of (by rw [hpl]), EqvO.rfl, closedOld, trivial⟩
    · rw [hw] at h6
      rw [if_neg (of_decide_eq_false h6)] at hpl
      exact ⟨_, _, ⟨rfl, rfl⟩, Eqv.of (by rw [hpl]), EqvO.rfl, closedOld, trivial⟩
end Go.Proofs.Ytjdpjimdoknlnaa.E
