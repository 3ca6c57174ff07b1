import Derived.Test.YtjdpjimdoknlnaaWr
namespace Go.Proofs.Ytjdpjimdoknlnaa.E
open Go
set_option maxRecDepth 4000
/-- What a record makes of an undo page's records. -/
def undoOlds (r : Rec) (olds : List Old) : Option (List Old) :=
  if r.kind = 3 then match slotAdd olds r.old with
    | none => none
    | some (olds', i) => if (i : Int) = r.slot.toNat then some olds' else none
  else if r.kind = 4 then slotFree olds r.slot
  else if r.kind = 5 then slotCut olds r.slot
  else some olds
def undoR (no : UInt16) (p : Payload) (e : Entry) : Option Payload :=
  match getUndo no p with
  | none => none
  | some olds => match undoOlds e.r olds with
    | none => none
    | some olds' => putUndo no e.lsn olds'
def redoPost (r : Option Payload) (d : D) (H : List SObj) : Prop :=
  match r with
  | some q => d = .tup [.bytes 224 q, .int .i64 0] ∧ H = []
  | none => ∃ e : Int, e ≠ 0 ∧ d = .tup [.bytes 224 zeroPay, .int .i64 e] ∧ H = []
theorem redoPost_nil {r : Option Payload} {d : D} {H : List SObj} (h : redoPost r d H) : H = [] ∧ isJunk d = false := by
  cases r with
  | none => obtain ⟨e, _, rfl, rfl⟩ := h; exact ⟨rfl, rfl⟩
  | some q => obtain ⟨rfl, rfl⟩ := h; exact ⟨rfl, rfl⟩
theorem mem_trim {l : List Old} {o : Old} (h : o ∈ trim l) : o ∈ l := by
  induction l with
  | nil => simp [trim] at h
  | cons x l ih =>
    simp only [trim] at h
    cases ht : trim l with
    | nil =>
      rw [ht] at h
      simp only at h
      split at h
      · simp only [List.mem_singleton] at h; simp [h]
      · cases h
    | cons y r =>
      rw [ht] at h ih
      simp only [List.mem_cons] at h ih ⊢
      rcases h with h | h
      · exact .inl h
      · exact .inr (ih h)
theorem trim_length (l : List Old) : (trim l).length ≤ l.length := by
  induction l with
  | nil => simp [trim]
  | cons x l ih =>
    simp only [trim]
    cases ht : trim l with
    | nil => simp only; split <;> simp
    | cons y r => rw [ht] at ih; simp only [List.length_cons] at ih ⊢; omega
theorem undoOlds_short {r : Rec} {olds olds' : List Old} (hd : r.old.delta.length ≤ 66) (hm : mayU olds = true) (h : undoOlds r olds = some olds') : Short olds' ∧ ∀ o ∈ olds', Short o.delta := by
  obtain ⟨ht, hz⟩ := tame_of_may hm
  suffices olds'.length ≤ 16 ∧ ∀ o ∈ olds', o.delta.length ≤ 66 by
    refine ⟨by unfold Short; omega, fun o ho => ?_⟩
    have := this.2 o ho
    unfold Short; omega
  have hl := ht.1
  unfold undoOlds at h
  split at h
  · split at h
    · cases h
    · rename_i x i ha
      split at h
      · have := Option.some.inj h; subst this
        unfold slotAdd at ha
        repeat (split at ha; · cases ha)
        split at ha
        · simp only [Option.some.injEq, Prod.mk.injEq] at ha
          rw [← ha.1]
          refine ⟨by simp; omega, fun o ho => ?_⟩
          rcases List.mem_append.1 ho with ho | ho
          · exact ht.2 o ho
          · rw [List.mem_singleton.1 ho]; exact hd
        · simp only [Option.some.injEq, Prod.mk.injEq] at ha
          rw [← ha.1]
          refine ⟨by simp; omega, fun o ho => ?_⟩
          rcases List.mem_or_eq_of_mem_set ho with ho | rfl
          · exact ht.2 o ho
          · exact hd
      · cases h
  split at h
  · unfold slotFree at h
    split at h
    · cases h
    · rw [if_pos hm] at h
      have := Option.some.inj h; subst this
      refine ⟨Nat.le_trans (trim_length _) (by simp; omega), fun o ho => ?_⟩
      rcases List.mem_or_eq_of_mem_set (mem_trim ho) with ho | rfl
      · exact ht.2 o ho
      · simp [zeroOld]
  split at h
  · unfold slotCut at h
    split at h
    · cases h
    · rename_i o hg
      rw [if_pos hm] at h
      have := Option.some.inj h; subst this
      refine ⟨by simp; omega, fun x hx => ?_⟩
      rcases List.mem_or_eq_of_mem_set hx with hx | rfl
      · exact ht.2 x hx
      · exact ht.2 o (List.mem_of_getElem? (slotGet_some hg).1)
  · have := Option.some.inj h; subst this
    exact ⟨by omega, ht.2⟩
theorem putUndo_post (no : UInt16) (lsn : UInt64) (olds : List Old) : ∃ d, d = orErr encPay zeroPay 1 (putUndo no lsn olds) ∧ redoPost (putUndo no lsn olds) d [] := by
  refine ⟨_, rfl, ?_⟩
  cases putUndo no lsn olds with
  | none => exact ⟨1, by decide, rfl, rfl⟩
  | some q => exact ⟨rfl, rfl⟩
set_option maxHeartbeats 4000000 in
theorem f112 (no : UInt16) (p : Payload) (e : Entry) (hd : e.r.old.delta.length ≤ 66) : CallAt Try.prog 112 [.int .u16 no.toNat, .bytes 224 p, encEntry e] [] (redoPost (undoR no p e)) := by
  refine callAt_of_exec zeros mixed (fn := Try.f112) rfl rfl rfl (fun d H h => by rw [(redoPost_nil h).1]; exact Nat.le_refl _) ?_
  cases hg : getUndo no p with
  | none =>
    have hu : undoR no p e = none := by simp [undoR, hg]
    rw [hu]
    refine (f70 no p).lift [] rfl (fun _ => rfl) (fun d H1 h hj => by rw [hg] at h; obtain ⟨rfl, rfl⟩ := h; cases hj) ?_
    intro d H1 h
    rw [hg] at h; obtain ⟨rfl, rfl⟩ := h
    refine And.intro (fun h1 => ?_) (fun h1 => absurd h1 (by decide))
    exact ⟨_, _, ⟨2, by decide, rfl, rfl⟩, Eqv.rfl, trivial⟩
  | some olds =>
    have hu : undoR no p e = match undoOlds e.r olds with
      | none => none
      | some olds' => putUndo no e.lsn olds' := by simp [undoR, hg]
    refine (f70 no p).lift [] rfl (fun _ => rfl) (fun d H1 h hj => by rw [hg] at h; obtain ⟨cap, rfl, rfl⟩ := h; cases hj) ?_
    intro d H1 h
    rw [hg] at h; obtain ⟨cap, rfl, rfl⟩ := h
    refine And.intro (fun h1 => absurd h1 (by decide)) (fun _ => ?_)
    have hmay : mayU olds = true := by
      simp only [getUndo] at hg
      split at hg
      · split at hg
        · cases hg
        · split at hg
          · rename_i h2
            rw [← Option.some.inj hg]
            simp only [Bool.and_eq_true] at h2
            exact h2.2
          · cases hg
      · cases hg
    obtain ⟨ht, hz⟩ := tame_of_may hmay
    have hs : Short olds := by have := ht.1; unfold Short; omega
    have hsd : ∀ o ∈ olds, Short o.delta := fun o ho => by have := ht.2 o ho; unfold Short; omega
    have hso : Short e.r.old.delta := by unfold Short; omega
    apply share
    case main =>
      intro key
      repeat refine JoinAt.through ?_
      refine And.intro (fun h3 => ?_) (fun h3 => ?_)
      · have g3 : e.r.kind = 3 := u8_is (k := 3) h3
        have hou : undoOlds e.r olds = match slotAdd olds e.r.old with
          | none => none
          | some (olds', i) => if (i : Int) = e.r.slot.toNat then some olds' else none := by rw [undoOlds, if_pos g3]
        refine (f139 _ olds cap e.r.old hs hsd hso).lift [3] rfl (fun _ => rfl) (fun d H1 h hj => by
          cases ha : slotAdd olds e.r.old with
          | none => rw [ha] at h; obtain ⟨_, _, rfl, rfl⟩ := h; cases hj
          | some x => rw [ha] at h; obtain ⟨_, rfl, rfl⟩ := h; cases hj) ?_
        refine ⟨EqvO.rfl, ?_⟩
        intro d H1 h
        cases ha : slotAdd olds e.r.old with
        | none =>
          rw [ha] at h hou; obtain ⟨c, hc, rfl, rfl⟩ := h
          dsimp only at hou
          rw [hou] at hu
          dsimp only at hu
          rw [hu]
          refine And.intro (fun h4 => ?_) (fun h4 => absurd h4 (by simp [hc]))
          exact ⟨_, _, ⟨2, by decide, rfl, rfl⟩, Eqv.rfl, trivial⟩
        | some x =>
          obtain ⟨olds', i⟩ := x
          rw [ha] at h hou; obtain ⟨cap', rfl, rfl⟩ := h
          refine And.intro (fun h4 => absurd h4 (by decide)) (fun h4 => ?_)
          refine And.intro (fun h5 => ?_) (fun h5 => ?_)
          · have g5 : ¬ (i : Int) = e.r.slot.toNat := by simpa using h5
            dsimp only at hou
            rw [if_neg g5] at hou
            rw [hou] at hu
            dsimp only at hu
            rw [hu]
            exact ⟨_, _, ⟨2, by decide, rfl, rfl⟩, Eqv.rfl, trivial⟩
          · have g5 : (i : Int) = e.r.slot.toNat := by simpa using h5
            dsimp only at hou
            rw [if_pos g5] at hou
            rw [hou] at hu
            dsimp only at hu
            rw [hu]
            obtain ⟨hs', hd'⟩ := undoOlds_short hd hmay hou
            have hc := f103 no e.lsn olds' cap' hs' hd'
            obtain ⟨dd, hdd, hpost⟩ := putUndo_post no e.lsn olds'
            cases hp : putUndo no e.lsn olds' with
            | none =>
              rw [hp] at hc
              refine hc.c [6] rfl (fun _ => rfl) (by exact ⟨EqvS.rfl, trivial⟩) ?_
              exact ⟨_, _, ⟨1, by decide, rfl, rfl⟩, Eqv.rfl, trivial⟩
            | some q =>
              rw [hp] at hc
              refine hc.c [6] rfl (fun _ => rfl) (by exact ⟨EqvS.rfl, trivial⟩) ?_
              exact ⟨_, _, ⟨rfl, rfl⟩, Eqv.rfl, trivial⟩
      have g3 : e.r.kind ≠ 3 := u8_not (k := 3) h3
      repeat refine JoinAt.through ?_
      refine And.intro (fun h4 => ?_) (fun h4 => ?_)
      · have g4 : e.r.kind = 4 := u8_is (k := 4) h4
        have hou : undoOlds e.r olds = slotFree olds e.r.slot := by rw [undoOlds, if_neg g3, if_pos g4]
        repeat refine JoinAt.through ?_
        refine And.intro (fun h5 => absurd (u8_is (k := 5) h5) (by rw [g4]; decide)) (fun h5 => ?_)
        refine (f140 _ olds cap e.r.slot hs hsd).lift [3] rfl (fun _ => rfl) (fun d H1 h hj => by
          cases ha : slotFree olds e.r.slot with
          | none => rw [ha] at h; obtain ⟨rfl, rfl⟩ := h; cases hj
          | some x => rw [ha] at h; obtain ⟨_, rfl, rfl⟩ := h; cases hj) ?_
        refine ⟨EqvO.rfl, ?_⟩
        intro d H1 h
        cases ha : slotFree olds e.r.slot with
        | none =>
          rw [ha] at h hou; obtain ⟨rfl, rfl⟩ := h
          rw [hou] at hu
          dsimp only at hu
          rw [hu]
          refine And.intro (fun _ => ?_) (fun h6 => absurd h6 (by decide))
          exact ⟨_, _, ⟨2, by decide, rfl, rfl⟩, Eqv.rfl, trivial⟩
        | some olds' =>
          rw [ha] at h hou; obtain ⟨cap', rfl, rfl⟩ := h
          rw [hou] at hu
          dsimp only at hu
          rw [hu]
          refine And.intro (fun h6 => absurd h6 (by decide)) (fun _ => ?_)
          obtain ⟨hs', hd'⟩ := undoOlds_short hd hmay hou
          have hc := f103 no e.lsn olds' cap' hs' hd'
          cases hp : putUndo no e.lsn olds' with
          | none =>
            rw [hp] at hc
            refine hc.c [6] rfl (fun _ => rfl) (by exact ⟨EqvS.rfl, trivial⟩) ?_
            exact ⟨_, _, ⟨1, by decide, rfl, rfl⟩, Eqv.rfl, trivial⟩
          | some q =>
            rw [hp] at hc
            refine hc.c [6] rfl (fun _ => rfl) (by exact ⟨EqvS.rfl, trivial⟩) ?_
            exact ⟨_, _, ⟨rfl, rfl⟩, Eqv.rfl, trivial⟩
      have g4 : e.r.kind ≠ 4 := u8_not (k := 4) h4
      refine And.intro (fun h5 => ?_) (fun h5 => ?_)
      · have g5 : e.r.kind = 5 := u8_is (k := 5) h5
        have hou : undoOlds e.r olds = slotCut olds e.r.slot := by rw [undoOlds, if_neg g3, if_neg g4, if_pos g5]
        repeat refine JoinAt.through ?_
        refine And.intro (fun _ => ?_) (fun h6 => absurd g5 (u8_not (k := 5) h6))
        refine (f141 _ olds cap e.r.slot hs hsd).lift [3] rfl (fun _ => rfl) (fun d H1 h hj => by
          cases ha : slotCut olds e.r.slot with
          | none => rw [ha] at h; obtain ⟨rfl, rfl⟩ := h; cases hj
          | some x => rw [ha] at h; obtain ⟨_, rfl, rfl⟩ := h; cases hj) ?_
        refine ⟨EqvO.rfl, ?_⟩
        intro d H1 h
        cases ha : slotCut olds e.r.slot with
        | none =>
          rw [ha] at h hou; obtain ⟨rfl, rfl⟩ := h
          rw [hou] at hu
          dsimp only at hu
          rw [hu]
          refine And.intro (fun _ => ?_) (fun h6 => absurd h6 (by decide))
          exact ⟨_, _, ⟨2, by decide, rfl, rfl⟩, Eqv.rfl, trivial⟩
        | some olds' =>
          rw [ha] at h hou; obtain ⟨cap', rfl, rfl⟩ := h
          rw [hou] at hu
          dsimp only at hu
          rw [hu]
          refine And.intro (fun h6 => absurd h6 (by decide)) (fun _ => ?_)
          obtain ⟨hs', hd'⟩ := undoOlds_short hd hmay hou
          have hc := f103 no e.lsn olds' cap' hs' hd'
          cases hp : putUndo no e.lsn olds' with
          | none =>
            rw [hp] at hc
            refine hc.c [6] rfl (fun _ => rfl) (by exact ⟨EqvS.rfl, trivial⟩) ?_
            exact ⟨_, _, ⟨1, by decide, rfl, rfl⟩, Eqv.rfl, trivial⟩
          | some q =>
            rw [hp] at hc
            refine hc.c [6] rfl (fun _ => rfl) (by exact ⟨EqvS.rfl, trivial⟩) ?_
            exact ⟨_, _, ⟨rfl, rfl⟩, Eqv.rfl, trivial⟩
      · have g5 : e.r.kind ≠ 5 := u8_not (k := 5) h5
        have hou : undoOlds e.r olds = some olds := by rw [undoOlds, if_neg g3, if_neg g4, if_neg g5]
        rw [hou] at hu
        dsimp only at hu
        rw [hu]
        have hc := f103 no e.lsn olds cap hs hsd
        cases hp : putUndo no e.lsn olds with
        | none =>
          rw [hp] at hc
          refine hc.c [3] rfl (fun _ => rfl) (by exact ⟨EqvS.rfl, trivial⟩) ?_
          exact ⟨_, _, ⟨1, by decide, rfl, rfl⟩, Eqv.rfl, trivial⟩
        | some q =>
          rw [hp] at hc
          refine hc.c [3] rfl (fun _ => rfl) (by exact ⟨EqvS.rfl, trivial⟩) ?_
          exact ⟨_, _, ⟨rfl, rfl⟩, Eqv.rfl, trivial⟩
    case key => exact True.intro
end Go.Proofs.Ytjdpjimdoknlnaa.E
