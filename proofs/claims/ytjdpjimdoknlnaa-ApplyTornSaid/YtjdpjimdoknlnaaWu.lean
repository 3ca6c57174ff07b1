import Derived.Test.YtjdpjimdoknlnaaWt
namespace Go.Proofs.Ytjdpjimdoknlnaa.E
open Go
set_option maxRecDepth 4000
abbrev logO (log : List Entry) (cap : Nat) : SObj := .vec 37 239 encEntry log cap
theorem closedEntry : Closed encEntry := fun _ _ _ => rfl
def stepR (id : PageID) (p : Payload) (e : Entry) : Payload :=
  if e.r.kind = 6 then p else if e.r.page ≠ id then p else
  if right id p then (if e.lsn.toNat ≤ lsnI p then p else (redo id p e).getD p) else if e.r.kind ≠ 1 then p else (redo id p e).getD p
def replay (id : PageID) (p : Payload) (log : List Entry) : Payload := log.foldl (stepR id) p
set_option maxHeartbeats 8000000 in
theorem f19 (id : PageID) (p : Payload) (log : List Entry) (cap : Nat) (hs : Short log) : Rd Try.prog 19 [encID id, .bytes 224 p, .slc 0 [] 239 0 log.length cap] [logO log cap] (.bytes 224 (replay id p log)) := by
  refine ⟨rfl, callAt_of_exec zeros mixed (fn := Try.f19) rfl rfl rfl (by rintro _ _ ⟨rfl, rfl⟩; exact Nat.le_refl _) ?_⟩
  unfold Short at hs
  refine LoopN.of Nat (fun j => j ≤ log.length) (fun j => log.length - j) (fun j => ⟨slotsOf 52 [(3, .ptr 1 []), (4, .ptr 2 []), (6, .ptr 3 []), (11, .slc 0 [] 239 0 log.length cap), (12, .int .i64 log.length), (13, .int .i64 j)],
    [logO log cap, .var 26 (encID id), .var 23 (.bytes 224 (replay id p (log.take j))), .var 23 (.bytes 224 zeroPay)]⟩) (fun _ => Nat.le_of_ble_eq_true rfl) 0 (Nat.zero_le _) ?_ ?_
  · exact ⟨Eqv.rfl, Eqv.rfl, Eqv.rfl, Eqv.rfl, Eqv.rfl, Eqv.rfl, EqvO.rfl, EqvO.rfl, EqvO.rfl, EqvO.rfl, trivial⟩
  intro j hj
  refine And.intro (fun h1 => ?_) (fun h1 => ?_)
  · have g1 : j < log.length := by have := of_decide_eq_true h1; omega
    refine JoinAt.through ?_
    refine And.intro ⟨by omega, by omega⟩ ?_
    refine And.intro (by omega) ?_
    refine And.intro (by omega) ?_
    intro e he
    have he' : log[j]? = some e := by simpa using he
    obtain ⟨q, hq⟩ : ∃ q, q = replay id p (log.take j) := ⟨_, rfl⟩
    have hstep : replay id p (log.take (j + 1)) = stepR id q e := by
      rw [replay, List.take_add_one, he', Option.toList_some, List.foldl_append, hq]; rfl
    rw [← hq]
    have hwj : D.int .i64 (IntKind.wrap .i64 ((j : Int) + 1)) = D.int .i64 ((j + 1 : Nat) : Int) := by rw [w64 (by omega)]; rfl
    refine And.intro (fun h2 => ?_) (fun h2 => ?_)
    · have g2 : e.r.kind = 6 := u8_is (k := 6) h2
      exact ⟨j + 1, ⟨by omega, by omega⟩, Eqv.rfl, Eqv.rfl, Eqv.rfl, Eqv.rfl, Eqv.rfl, Eqv.of hwj, EqvO.rfl, closedEntry, EqvO.rfl, EqvO.of (by rw [hstep, show stepR id q e = q by rw [stepR, if_pos g2]]), EqvO.rfl, trivial⟩
    have g2 : e.r.kind ≠ 6 := u8_not (k := 6) h2
    refine ⟨decide (e.r.page = id), eqID _ _, ?_⟩
    refine And.intro (fun h3 => ?_) (fun h3 => ?_)
    · have g3 : e.r.page ≠ id := by simpa using h3
      exact ⟨j + 1, ⟨by omega, by omega⟩, Eqv.rfl, Eqv.rfl, Eqv.rfl, Eqv.rfl, Eqv.rfl, Eqv.of hwj, EqvO.rfl, closedEntry, EqvO.rfl, EqvO.of (by rw [hstep, show stepR id q e = q by rw [stepR, if_neg g2, if_pos g3]]), EqvO.rfl, trivial⟩
    have g3 : e.r.page = id := by simpa using h3
    have hst : stepR id q e = if right id q then (if e.lsn.toNat ≤ lsnI q then q else (redo id q e).getD q) else if e.r.kind ≠ 1 then q else (redo id q e).getD q := by
      rw [stepR, if_neg g2, if_neg (by simp [g3])]
    repeat refine JoinAt.through ?_
    refine (f16 id q).c ?_
    repeat refine JoinAt.through ?_
    refine And.intro (fun h4 => ?_) (fun h4 => ?_)
    · have hst2 : stepR id q e = if e.lsn.toNat ≤ lsnI q then q else (redo id q e).getD q := by rw [hst, if_pos h4]
      refine DrawAt.all (by kernel_rfl) ?_
      refine (f17 q).q ?_
      refine And.intro (fun h5 => ?_) (fun h5 => ?_)
      · have g5 : e.lsn.toNat ≤ lsnI q := by have := of_decide_eq_true h5; omega
        exact ⟨j + 1, ⟨by omega, by omega⟩, Eqv.rfl, Eqv.rfl, Eqv.rfl, Eqv.rfl, Eqv.rfl, Eqv.of hwj, EqvO.rfl, closedEntry, EqvO.rfl, EqvO.of (by rw [hstep, show stepR id q e = q by rw [hst2, if_pos g5]]), EqvO.rfl, trivial⟩
      have g5 : ¬ e.lsn.toNat ≤ lsnI q := by have := of_decide_eq_false h5; omega
      refine (f73 id q e).lift [] rfl (fun _ => rfl) (fun d H1 h hj => by
        cases hr : redo id q e with
        | none => rw [hr] at h; obtain ⟨c, hc, rfl, rfl⟩ := h; cases hj
        | some x => rw [hr] at h; obtain ⟨rfl, rfl⟩ := h; cases hj) ?_
      intro d H1 h
      cases hr : redo id q e with
      | none =>
        rw [hr] at h; obtain ⟨c, hc, rfl, rfl⟩ := h
        refine And.intro (fun h6 => absurd (of_decide_eq_true h6) hc) (fun _ => ?_)
        exact ⟨j + 1, ⟨by omega, by omega⟩, Eqv.rfl, Eqv.rfl, Eqv.rfl, Eqv.rfl, Eqv.rfl, Eqv.of hwj, EqvO.rfl, closedEntry, EqvO.rfl, EqvO.of (by rw [hstep, show stepR id q e = q by rw [hst2, if_neg g5, hr]; rfl]), EqvO.rfl, trivial⟩
      | some x =>
        rw [hr] at h; obtain ⟨rfl, rfl⟩ := h
        refine And.intro (fun _ => ?_) (fun h6 => absurd h6 (by decide))
        exact ⟨j + 1, ⟨by omega, by omega⟩, Eqv.rfl, Eqv.rfl, Eqv.rfl, Eqv.rfl, Eqv.rfl, Eqv.of hwj, EqvO.rfl, closedEntry, EqvO.rfl, EqvO.of (by rw [hstep, show stepR id q e = x by rw [hst2, if_neg g5, hr]; rfl]), EqvO.rfl, trivial⟩
    · have hst2 : stepR id q e = if e.r.kind ≠ 1 then q else (redo id q e).getD q := by rw [hst, if_neg (by simp [h4])]
      refine And.intro (fun h5 => ?_) (fun h5 => ?_)
      · have g5 : e.r.kind ≠ 1 := u8_not (k := 1) (by simpa using h5)
        exact ⟨j + 1, ⟨by omega, by omega⟩, Eqv.rfl, Eqv.rfl, Eqv.rfl, Eqv.rfl, Eqv.rfl, Eqv.of hwj, EqvO.rfl, closedEntry, EqvO.rfl, EqvO.of (by rw [hstep, show stepR id q e = q by rw [hst2, if_pos g5]]), EqvO.rfl, trivial⟩
      have g5 : e.r.kind = 1 := u8_is (k := 1) (by simpa using h5)
      refine (f73 id q e).lift [] rfl (fun _ => rfl) (fun d H1 h hj => by
        cases hr : redo id q e with
        | none => rw [hr] at h; obtain ⟨c, hc, rfl, rfl⟩ := h; cases hj
        | some x => rw [hr] at h; obtain ⟨rfl, rfl⟩ := h; cases hj) ?_
      intro d H1 h
      cases hr : redo id q e with
      | none =>
        rw [hr] at h; obtain ⟨c, hc, rfl, rfl⟩ := h
        refine And.intro (fun h6 => absurd (of_decide_eq_true h6) hc) (fun _ => ?_)
        exact ⟨j + 1, ⟨by omega, by omega⟩, Eqv.rfl, Eqv.rfl, Eqv.rfl, Eqv.rfl, Eqv.rfl, Eqv.of hwj, EqvO.rfl, closedEntry, EqvO.rfl, EqvO.of (by rw [hstep, show stepR id q e = q by rw [hst2, if_neg (by simp [g5]), hr]; rfl]), EqvO.rfl, trivial⟩
      | some x =>
        rw [hr] at h; obtain ⟨rfl, rfl⟩ := h
        refine And.intro (fun _ => ?_) (fun h6 => absurd h6 (by decide))
        exact ⟨j + 1, ⟨by omega, by omega⟩, Eqv.rfl, Eqv.rfl, Eqv.rfl, Eqv.rfl, Eqv.rfl, Eqv.of hwj, EqvO.rfl, closedEntry, EqvO.rfl, EqvO.of (by rw [hstep, show stepR id q e = x by rw [hst2, if_neg (by simp [g5]), hr]; rfl]), EqvO.rfl, trivial⟩
  · have g1 : j = log.length := by have := of_decide_eq_false h1; omega
    refine ⟨_, _, ⟨rfl, rfl⟩, Eqv.of ?_, EqvO.rfl, closedEntry, trivial⟩
    rw [List.take_of_length_le (by omega)]
end Go.Proofs.Ytjdpjimdoknlnaa.E
