import Derived.Test.YtjdpjimdoknlnaaWs
namespace Go.Proofs.Ytjdpjimdoknlnaa.E
open Go
set_option maxRecDepth 4000
def dataR (r : Rec) (d : Data) : Option Data :=
  if r.kind = 2 then match deltaApply d.body r.delta with
    | none => none
    | some b => some { d with ts := r.ts, prev := r.prev, body := b }
  else some d
/-- A page behind a record; the record's image is in its place already. -/
def redoOn (id : PageID) (p : Payload) (e : Entry) : Option Payload :=
  if id.undo then undoR id.no p e else match getData id.no p with
    | none => none
    | some d => match dataR e.r d with
      | none => none
      | some d' => some (putDataP id.no { d' with lsn := e.lsn })
def redo (id : PageID) (p : Payload) (e : Entry) : Option Payload :=
  if mayR e.r = false then none else if e.r.kind = 6 then none else if e.r.page ≠ id then none else redoOn id (if e.r.kind = 1 then e.r.image else p) e
set_option maxHeartbeats 8000000 in
theorem f73 (id : PageID) (p : Payload) (e : Entry) : CallAt Try.prog 73 [encID id, .bytes 224 p, encEntry e] [] (redoPost (redo id p e)) := by
  refine callAt_of_exec zeros mixed (fn := Try.f73) rfl rfl rfl (fun d H h => by rw [(redoPost_nil h).1]; exact Nat.le_refl _) ?_
  refine (f111 e.r).c ?_
  refine And.intro (fun h1 => ?_) (fun h1 => ?_)
  · have g1 : mayR e.r = false := by simpa using h1
    rw [show redo id p e = none by rw [redo, if_pos g1]]
    exact ⟨_, _, ⟨1, by decide, rfl, rfl⟩, Eqv.rfl, trivial⟩
  have g1 : mayR e.r = true := by simpa using h1
  refine And.intro (fun h2 => ?_) (fun h2 => ?_)
  · have g2 : e.r.kind = 6 := u8_is (k := 6) h2
    rw [show redo id p e = none by rw [redo, if_neg (by simp [g1]), if_pos g2]]
    exact ⟨_, _, ⟨1, by decide, rfl, rfl⟩, Eqv.rfl, trivial⟩
  have g2 : e.r.kind ≠ 6 := u8_not (k := 6) h2
  refine ⟨decide (e.r.page = id), eqID _ _, ?_⟩
  refine And.intro (fun h3 => ?_) (fun h3 => ?_)
  · have g3 : e.r.page ≠ id := by simpa using h3
    rw [show redo id p e = none by rw [redo, if_neg (by simp [g1]), if_neg g2, if_pos g3]]
    exact ⟨_, _, ⟨1, by decide, rfl, rfl⟩, Eqv.rfl, trivial⟩
  have g3 : e.r.page = id := by simpa using h3
  have hre : redo id p e = redoOn id (if e.r.kind = 1 then e.r.image else p) e := by rw [redo, if_neg (by simp [g1]), if_neg g2, if_neg (by simp [g3])]
  have hdl : e.r.delta.length ≤ 66 ∧ e.r.old.delta.length ≤ 66 := by
    simp only [mayR, Bool.and_eq_true, decide_eq_true_eq] at g1
    exact ⟨g1.1.2, g1.2⟩
  have hsd : Short e.r.delta := by unfold Short; omega
  repeat refine JoinAt.through ?_
  refine And.intro (fun h4 => ?_) (fun h4 => ?_)
  · have g4 : e.r.kind = 1 := u8_is (k := 1) h4
    rw [hre, if_pos g4]
    repeat refine JoinAt.through ?_
    refine And.intro (fun h5 => ?_) (fun h5 => ?_)
    · refine (f112 id.no e.r.image e hdl.2).lift [] rfl (fun _ => rfl) (fun d H1 h hj => absurd hj (by
        obtain ⟨_, hnj⟩ := redoPost_nil h
        revert hnj
        cases hr : undoR id.no e.r.image e with
        | none => rw [hr] at h; obtain ⟨c, hc, rfl, rfl⟩ := h; intro _ h0; cases h0
        | some q => rw [hr] at h; obtain ⟨rfl, rfl⟩ := h; intro _ h0; cases h0)) ?_
      intro d H1 h
      have hru : redoOn id e.r.image e = undoR id.no e.r.image e := by rw [redoOn, if_pos h5]
      rw [hru]
      cases hr : undoR id.no e.r.image e with
      | none =>
        rw [hr] at h; obtain ⟨c, hc, rfl, rfl⟩ := h
        exact ⟨_, _, ⟨c, hc, rfl, rfl⟩, Eqv.rfl, trivial⟩
      | some q =>
        rw [hr] at h; obtain ⟨rfl, rfl⟩ := h
        exact ⟨_, _, ⟨rfl, rfl⟩, Eqv.rfl, trivial⟩
    have hru : redoOn id e.r.image e = match getData id.no e.r.image with
      | none => none
      | some d => match dataR e.r d with
        | none => none
        | some d' => some (putDataP id.no { d' with lsn := e.lsn }) := by rw [redoOn, if_neg (by simp [h5])]
    have hc := f71 id.no e.r.image
    cases hg : getData id.no e.r.image with
    | none =>
      rw [hg] at hc
      rw [show redoOn id e.r.image e = none by rw [hru, hg]]
      refine hc.c ?_
      refine And.intro (fun _ => ?_) (fun h6 => absurd h6 (by decide))
      exact ⟨_, _, ⟨2, by decide, rfl, rfl⟩, Eqv.rfl, trivial⟩
    | some d =>
      rw [hg] at hc
      refine hc.c ?_
      refine And.intro (fun h6 => absurd h6 (by decide)) (fun _ => ?_)
      repeat refine JoinAt.through ?_
      refine And.intro (fun h7 => ?_) (fun h7 => ?_)
      · have g7 : e.r.kind = 2 := u8_is (k := 2) h7
        have hdr : dataR e.r d = match deltaApply d.body e.r.delta with
          | none => none
          | some b => some { d with ts := e.r.ts, prev := e.r.prev, body := b } := by rw [dataR, if_pos g7]
        have hc := f113 d.body e.r.delta hsd
        cases ha : deltaApply d.body e.r.delta with
        | none =>
          rw [ha] at hc hdr
          rw [show redoOn id e.r.image e = none by rw [hru, hg]; dsimp only; rw [hdr]]
          refine hc.c ?_
          refine And.intro (fun _ => ?_) (fun h8 => absurd h8 (by decide))
          exact ⟨_, _, ⟨2, by decide, rfl, rfl⟩, Eqv.rfl, trivial⟩
        | some b =>
          rw [ha] at hc hdr
          rw [show redoOn id e.r.image e = some (putDataP id.no ⟨e.lsn, e.r.ts, e.r.prev, b⟩) by rw [hru, hg]; dsimp only; rw [hdr]]
          refine hc.c ?_
          refine And.intro (fun h8 => absurd h8 (by decide)) (fun _ => ?_)
          refine DrawAt.mixed [0, 1, 2, 3, 4] [5, 6, 7, 8, 9, 10] [5] (by kernel_rfl) ?_
          refine (f104 id.no ⟨e.lsn, e.r.ts, e.r.prev, b⟩).c ?_
          exact ⟨_, _, ⟨rfl, rfl⟩, Eqv.rfl, trivial⟩
      · have g7 : e.r.kind ≠ 2 := u8_not (k := 2) h7
        have hdr : dataR e.r d = some d := by rw [dataR, if_neg g7]
        rw [show redoOn id e.r.image e = some (putDataP id.no { d with lsn := e.lsn }) by rw [hru, hg]; dsimp only; rw [hdr]]
        refine (f104 id.no { d with lsn := e.lsn }).c ?_
        exact ⟨_, _, ⟨rfl, rfl⟩, Eqv.rfl, trivial⟩
  · have g4 : e.r.kind ≠ 1 := u8_not (k := 1) h4
    rw [hre, if_neg g4]
    repeat refine JoinAt.through ?_
    refine And.intro (fun h5 => ?_) (fun h5 => ?_)
    · refine (f112 id.no p e hdl.2).lift [] rfl (fun _ => rfl) (fun d H1 h hj => absurd hj (by
        obtain ⟨_, hnj⟩ := redoPost_nil h
        revert hnj
        cases hr : undoR id.no p e with
        | none => rw [hr] at h; obtain ⟨c, hc, rfl, rfl⟩ := h; intro _ h0; cases h0
        | some q => rw [hr] at h; obtain ⟨rfl, rfl⟩ := h; intro _ h0; cases h0)) ?_
      intro d H1 h
      have hru : redoOn id p e = undoR id.no p e := by rw [redoOn, if_pos h5]
      rw [hru]
      cases hr : undoR id.no p e with
      | none =>
        rw [hr] at h; obtain ⟨c, hc, rfl, rfl⟩ := h
        exact ⟨_, _, ⟨c, hc, rfl, rfl⟩, Eqv.rfl, trivial⟩
      | some q =>
        rw [hr] at h; obtain ⟨rfl, rfl⟩ := h
        exact ⟨_, _, ⟨rfl, rfl⟩, Eqv.rfl, trivial⟩
    have hru : redoOn id p e = match getData id.no p with
      | none => none
      | some d => match dataR e.r d with
        | none => none
        | some d' => some (putDataP id.no { d' with lsn := e.lsn }) := by rw [redoOn, if_neg (by simp [h5])]
    have hc := f71 id.no p
    cases hg : getData id.no p with
    | none =>
      rw [hg] at hc
      rw [show redoOn id p e = none by rw [hru, hg]]
      refine hc.c ?_
      refine And.intro (fun _ => ?_) (fun h6 => absurd h6 (by decide))
      exact ⟨_, _, ⟨2, by decide, rfl, rfl⟩, Eqv.rfl, trivial⟩
    | some d =>
      rw [hg] at hc
      refine hc.c ?_
      refine And.intro (fun h6 => absurd h6 (by decide)) (fun _ => ?_)
      repeat refine JoinAt.through ?_
      refine And.intro (fun h7 => ?_) (fun h7 => ?_)
      · have g7 : e.r.kind = 2 := u8_is (k := 2) h7
        have hdr : dataR e.r d = match deltaApply d.body e.r.delta with
          | none => none
          | some b => some { d with ts := e.r.ts, prev := e.r.prev, body := b } := by rw [dataR, if_pos g7]
        have hc := f113 d.body e.r.delta hsd
        cases ha : deltaApply d.body e.r.delta with
        | none =>
          rw [ha] at hc hdr
          rw [show redoOn id p e = none by rw [hru, hg]; dsimp only; rw [hdr]]
          refine hc.c ?_
          refine And.intro (fun _ => ?_) (fun h8 => absurd h8 (by decide))
          exact ⟨_, _, ⟨2, by decide, rfl, rfl⟩, Eqv.rfl, trivial⟩
        | some b =>
          rw [ha] at hc hdr
          rw [show redoOn id p e = some (putDataP id.no ⟨e.lsn, e.r.ts, e.r.prev, b⟩) by rw [hru, hg]; dsimp only; rw [hdr]]
          refine hc.c ?_
          refine And.intro (fun h8 => absurd h8 (by decide)) (fun _ => ?_)
          refine DrawAt.mixed [0, 1, 2, 3, 4] [5, 6, 7, 8, 9, 10] [5] (by kernel_rfl) ?_
          refine (f104 id.no ⟨e.lsn, e.r.ts, e.r.prev, b⟩).c ?_
          exact ⟨_, _, ⟨rfl, rfl⟩, Eqv.rfl, trivial⟩
      · have g7 : e.r.kind ≠ 2 := u8_not (k := 2) h7
        have hdr : dataR e.r d = some d := by rw [dataR, if_neg g7]
        rw [show redoOn id p e = some (putDataP id.no { d with lsn := e.lsn }) by rw [hru, hg]; dsimp only; rw [hdr]]
        refine (f104 id.no { d with lsn := e.lsn }).c ?_
        exact ⟨_, _, ⟨rfl, rfl⟩, Eqv.rfl, trivial⟩
end Go.Proofs.Ytjdpjimdoknlnaa.E
