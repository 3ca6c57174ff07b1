import Derived.Test.YtjdpjimdoknlnaaWu
import Derived.Test.YtjdpjimdoknlnaaPa
namespace Go.Proofs.Ytjdpjimdoknlnaa.E
open Go
set_option maxRecDepth 4000
/-! ### What a log makes of a page -/
theorem getUndo_may {no : UInt16} {p : Payload} {olds : List Old} (h : getUndo no p = some olds) : mayU olds = true := by
  simp only [getUndo] at h
  split at h
  · split at h
    · cases h
    · split at h
      · rename_i h2
        rw [← Option.some.inj h]
        simp only [Bool.and_eq_true] at h2
        exact h2.2
      · cases h
  · cases h
theorem putUndo_some {no : UInt16} {lsn : UInt64} {olds : List Old} {q : Payload} (h : putUndo no lsn olds = some q) : getUndo no q = some olds ∧ lsnI q = lsn.toNat := by
  unfold putUndo at h
  split at h
  · rename_i hm
    rw [← Option.some.inj h]
    exact putUndo_right no lsn olds hm
  · cases h
theorem putData_lsn (no : UInt16) (d : Data) : lsnI (putDataP no d) = d.lsn.toNat := by rw [putDataP_eq]; exact sealP_lsn _ _ _ _ d.lsn.toNat_lt
theorem redoOn_right {id : PageID} {p : Payload} {e : Entry} {q : Payload} (h : redoOn id p e = some q) : right id q = true ∧ lsnI q = e.lsn.toNat := by
  unfold redoOn at h
  split at h
  · rename_i hu
    unfold undoR at h
    split at h
    · cases h
    · split at h
      · cases h
      · obtain ⟨h1, h2⟩ := putUndo_some h
        exact ⟨by simp [right, hu, h1], h2⟩
  · rename_i hu
    split at h
    · cases h
    · split at h
      · cases h
      · rw [← Option.some.inj h]
        exact ⟨by simp [right, hu, putData_right], putData_lsn _ _⟩
theorem redo_right {id : PageID} {p : Payload} {e : Entry} {q : Payload} (h : redo id p e = some q) : right id q = true ∧ lsnI q = e.lsn.toNat := by
  unfold redo at h
  split at h
  · cases h
  split at h
  · cases h
  split at h
  · cases h
  exact redoOn_right h
theorem stepR_right {id : PageID} {p : Payload} {e : Entry} (h : right id p = true) : right id (stepR id p e) = true := by
  have hr : right id ((redo id p e).getD p) = true := by
    cases hr : redo id p e with
    | none => exact h
    | some q => exact (redo_right hr).1
  unfold stepR
  repeat' split
  all_goals first | exact h | exact hr
theorem replay_right (id : PageID) : ∀ (log : List Entry) (p : Payload), right id p = true → right id (replay id p log) = true
  | [], _, h => h
  | e :: l, p, h => replay_right id l (stepR id p e) (stepR_right h)
/-- The entry of an image. -/
def imageE (id : PageID) (image : Payload) : Entry := ⟨1, { zeroRec with kind := 1, page := id, image := image }⟩
theorem may_image (id : PageID) (image : Payload) : mayR (imageE id image).r = true := by
  simp [mayR, imageE, bareR, zeroRec, zeroOld]
theorem redo_image {id : PageID} {image : Payload} (h : right id image = true) : ∃ q, right id q = true ∧ ∀ p, redo id p (imageE id image) = some q := by
  have hr : ∀ p, redo id p (imageE id image) = redoOn id image (imageE id image) := fun p => by
    rw [redo, if_neg (by simp [may_image]), if_neg (by simp [imageE]), if_neg (by simp [imageE]), if_pos (by rfl)]
    rfl
  have hs : ∃ q, redoOn id image (imageE id image) = some q := by
    unfold redoOn
    cases hu : id.undo with
    | true =>
      rw [if_pos rfl]
      unfold right at h
      rw [if_pos hu] at h
      cases hg : getUndo id.no image with
      | none => rw [hg] at h; cases h
      | some olds =>
        have hm := getUndo_may hg
        have e1 : undoOlds (imageE id image).r olds = some olds := by
          unfold undoOlds
          rw [if_neg (show ¬ (imageE id image).r.kind = 3 from (by decide : ¬ (1 : UInt8) = 3)), if_neg (show ¬ (imageE id image).r.kind = 4 from (by decide : ¬ (1 : UInt8) = 4)), if_neg (show ¬ (imageE id image).r.kind = 5 from (by decide : ¬ (1 : UInt8) = 5))]
        simp only [undoR, hg, e1, putUndo, hm, if_true]
        exact ⟨_, rfl⟩
    | false =>
      rw [if_neg (by decide)]
      unfold right at h
      rw [if_neg (by simp [hu])] at h
      cases hg : getData id.no image with
      | none => rw [hg] at h; cases h
      | some d =>
        have e1 : dataR (imageE id image).r d = some d := by
          unfold dataR
          rw [if_neg (show ¬ (imageE id image).r.kind = 2 from (by decide : ¬ (1 : UInt8) = 2))]
        simp only [e1]
        exact ⟨_, rfl⟩
  obtain ⟨q, hq⟩ := hs
  exact ⟨q, (redoOn_right hq).1, fun p => by rw [hr, hq]⟩
theorem torn {id : PageID} {image : Payload} (h : right id image = true) : ∃ q, right id q = true ∧ ∀ p, (right id p = true → lsnI p = 0) → ∀ l, replay id p (imageE id image :: l) = replay id q l := by
  obtain ⟨q, hq, hr⟩ := redo_image h
  refine ⟨q, hq, fun p hp l => ?_⟩
  have : stepR id p (imageE id image) = q := by
    unfold stepR
    rw [if_neg (by simp [imageE]), if_neg (by simp [imageE])]
    split
    · rename_i h1
      rw [if_neg (by rw [hp h1]; show ¬ (1 : UInt64).toNat ≤ 0; decide), hr]; rfl
    · rw [if_neg (by simp [imageE]), hr]; rfl
  unfold replay
  rw [List.foldl_cons, this]
/-- Records that are about others change nothing. -/
def about (id : PageID) (e : Entry) : Bool := !decide (e.r.kind = 6) && decide (e.r.page = id)
theorem replay_about (id : PageID) : ∀ (log : List Entry) (p : Payload), replay id p log = replay id p (log.filter (about id))
  | [], _ => rfl
  | e :: l, p => by
    have ih := replay_about id l
    cases ha : about id e with
    | true =>
      rw [List.filter_cons_of_pos (by simp [ha])]
      show replay id (stepR id p e) l = replay id (stepR id p e) (l.filter (about id))
      exact ih _
    | false =>
      rw [List.filter_cons_of_neg (by simp [ha])]
      have : stepR id p e = p := by
        unfold stepR
        by_cases h6 : e.r.kind = 6
        · rw [if_pos h6]
        · rw [if_neg h6, if_pos (by simpa [about, h6] using ha)]
      show replay id (stepR id p e) l = _
      rw [this]; exact ih p
/-! ### The law's own example -/
def awakeId : PageID := ⟨false, 1⟩
def awakeE : Entry := ⟨9, { zeroRec with kind := 2, page := awakeId, ts := 4 }⟩
theorem awake_redo : redo awakeId (blank awakeId) awakeE = some (putDataP awakeId.no ⟨9, 4, zeroRef, zeroBody⟩) := by
  have h1 : mayR awakeE.r = true := by simp [mayR, awakeE, bareR, zeroRec, zeroOld, awakeId]
  have h2 : getData awakeId.no (putDataP awakeId.no zeroData) = some zeroData := putData_right _ zeroData
  have h3 : deltaApply zeroBody [] = some zeroBody := by rw [deltaApply]; unfold deltaL; rfl
  have hb : blank awakeId = putDataP awakeId.no zeroData := by rw [blank, if_neg (by decide)]
  have h4 : dataR awakeE.r zeroData = some ⟨0, 4, zeroRef, zeroBody⟩ := by
    have e1 : deltaApply zeroData.body awakeE.r.delta = some zeroBody := h3
    unfold dataR
    rw [if_pos (by rfl), e1]
    rfl
  rw [redo, if_neg (by simp [h1]), if_neg (by decide), if_neg (by simp [awakeE]), if_neg (by decide), redoOn, if_neg (by decide), hb, h2]
  simp only [h4]
  rfl
end Go.Proofs.Ytjdpjimdoknlnaa.E
