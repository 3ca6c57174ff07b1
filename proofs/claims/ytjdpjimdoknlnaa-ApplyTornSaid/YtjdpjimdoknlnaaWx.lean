import Derived.Test.YtjdpjimdoknlnaaWw
namespace Go.Proofs.Ytjdpjimdoknlnaa.E
open Go
set_option maxRecDepth 4000
def mixOf (id other : PageID) (i : Nat) (e : Entry) : List Entry :=
  (if e.r.kind = 6 ∨ e.r.page = id then [e] else []) ++ [{ e with r := { e.r with page := other } }, ⟨UInt64.ofNat i, { zeroRec with kind := 6, ts := 7 }⟩]
def mixFrom (id other : PageID) : List Entry → Nat → List Entry
  | [], _ => []
  | e :: l, i => mixOf id other i e ++ mixFrom id other l (i + 1)
theorem mixFrom_snoc (id other : PageID) : ∀ (l : List Entry) (e : Entry) (i : Nat), mixFrom id other (l ++ [e]) i = mixFrom id other l i ++ mixOf id other (i + l.length) e
  | [], e, i => by simp [mixFrom]
  | x :: l, e, i => by
    simp only [List.cons_append, mixFrom, mixFrom_snoc id other l e (i + 1), List.length_cons, List.append_assoc]
    rw [show i + 1 + l.length = i + (l.length + 1) by omega]
theorem mixFrom_about {id other : PageID} (h : id ≠ other) : ∀ (l : List Entry) (i : Nat), (mixFrom id other l i).filter (about id) = l.filter (about id)
  | [], _ => rfl
  | e :: l, i => by
    rw [mixFrom, List.filter_append, mixFrom_about h l (i + 1), mixOf, List.filter_append]
    have h1 : about id { e with r := { e.r with page := other } } = false := by
      simp only [about]; simp [Ne.symm h]
    have h2 : about id ⟨UInt64.ofNat i, { zeroRec with kind := 6, ts := 7 }⟩ = false := by simp [about]
    rw [List.filter_cons_of_neg (by simp [h1]), List.filter_cons_of_neg (by simp [h2]), List.filter_nil, List.append_nil]
    by_cases h6 : e.r.kind = 6
    · have : about id e = false := by simp [about, h6]
      rw [if_pos (.inl h6), List.filter_cons_of_neg (by simp [this]), List.filter_cons_of_neg (by simp [this])]; rfl
    · by_cases hp : e.r.page = id
      · have : about id e = true := by simp [about, h6, hp]
        rw [if_pos (.inr hp), List.filter_cons_of_pos (by simp [this]), List.filter_cons_of_pos (by simp [this])]; rfl
      · have : about id e = false := by simp [about, h6, hp]
        rw [if_neg (by simp [h6, hp]), List.filter_cons_of_neg (by simp [this])]; rfl
theorem mixFrom_length (id other : PageID) : ∀ (l : List Entry) (i : Nat), (mixFrom id other l i).length ≤ 3 * l.length
  | [], _ => by simp [mixFrom]
  | e :: l, i => by
    have := mixFrom_length id other l (i + 1)
    simp only [mixFrom, mixOf, List.length_append, List.length_cons, List.length_nil]
    split <;> simp <;> omega
theorem apart {id other : PageID} (h : id ≠ other) (p : Payload) (log : List Entry) : replay id p (mixFrom id other log 0) = replay id p (log.filter (about id)) := by
  rw [replay_about, mixFrom_about h]
theorem eqPay (a b : Payload) : EqAt Try.prog 23 (.bytes 224 a) (.bytes 224 b) (decide (a = b)) := by
  have h := eqAt_of (P := Try.prog) (T := 23) (x := .bytes 224 a) (y := .bytes 224 b) (b := decide (a.toList = b.toList)) (by kernel_rfl) rfl rfl rfl
  have e : decide (a.toList = b.toList) = decide (a = b) := decide_eq_decide.2 Vector.toList_inj
  rwa [e] at h
set_option maxHeartbeats 8000000 in
theorem f4 (A : HP) (id other : PageID) (p : Payload) (v : Value) (log : List Entry) (hl : Short log) (hv : RawLog A v log) :
    CallAt Try.prog 4 [encID id, encID other, .bytes 224 p, .val v] [.res A] (fun d H => d = .tt ∧ H = [.res A]) := by
  refine callAt_of_exec zeros mixed (fn := Try.f4) rfl rfl rfl (by rintro _ _ ⟨rfl, rfl⟩; exact Nat.le_refl _) ?_
  unfold Short at hl
  obtain ⟨a, cap0, rfl, hraw⟩ := hv
  refine ⟨decide (id = other), eqID _ _, ?_⟩
  refine And.intro (fun h1 => ?_) (fun h1 => ?_)
  · refine f18.c ?_
    exact ⟨_, _, ⟨rfl, rfl⟩, Eqv.rfl, EqvO.rfl, trivial⟩
  have g1 : id ≠ other := of_decide_eq_false h1
  refine And.intro (fun h2 => ?_) (fun h2 => ?_)
  · refine f18.c ?_
    exact ⟨_, _, ⟨rfl, rfl⟩, Eqv.rfl, EqvO.rfl, trivial⟩
  have g2 : log.length ≤ 60 := by have := of_decide_eq_false h2; omega
  let S1 : St := ⟨slotsOf 83 [(4, .ptr 1 []), (5, .ptr 2 []), (6, .ptr 3 []), (9, .slc 4 [] 239 0 0 0), (10, .nils), (22, .val (.slice a log.length cap0)), (23, .int .i64 log.length), (24, .int .i64 0)],
    [.res A, .var 26 (encID id), .var 26 (encID other), .var 23 (.bytes 224 p), logO [] 0]⟩
  let S : Nat × Nat × Nat → St := fun x => ⟨slotsOf 83 [(4, .ptr 1 []), (5, .ptr 2 []), (6, .ptr 3 []), (9, .slc 4 [] 239 0 ((log.take x.1).filter (about id)).length x.2.1), (10, .slc 5 [] 239 0 (mixFrom id other (log.take x.1) 0).length x.2.2), (22, .val (.slice a log.length cap0)), (23, .int .i64 log.length), (24, .int .i64 x.1)],
    [.res A, .var 26 (encID id), .var 26 (encID other), .var 23 (.bytes 224 p), logO ((log.take x.1).filter (about id)) x.2.1, logO (mixFrom id other (log.take x.1) 0) x.2.2]⟩
  refine LoopN.nil S1 ?_ (LoopN.nil (S (0, 0, 0)) ?_ ?_)
  · exact ⟨EqvN.rfl, EqvN.rfl, EqvN.rfl, EqvN.nil, EqvN.rfl, EqvN.rfl, EqvN.rfl, EqvN.rfl, EqvON.rfl, EqvON.rfl, EqvON.rfl, EqvON.rfl, rfl, rfl⟩
  · exact ⟨EqvN.rfl, EqvN.rfl, EqvN.rfl, EqvN.rfl, EqvN.nil, EqvN.rfl, EqvN.rfl, EqvN.rfl, EqvON.rfl, EqvON.rfl, EqvON.rfl, EqvON.rfl, EqvON.rfl, rfl, rfl⟩
  refine LoopN.ofR (Nat × Nat × Nat) (fun x => x.1 ≤ log.length ∧ ((log.take x.1).filter (about id)).length ≤ x.2.1 ∧ (mixFrom id other (log.take x.1) 0).length ≤ x.2.2) (fun x => log.length - x.1) S (fun _ => Nat.le_of_ble_eq_true rfl) (0, 0, 0) ⟨Nat.zero_le _, Nat.zero_le _, Nat.zero_le _⟩ ?_ ?_
  · exact ⟨Eqv.rfl, Eqv.rfl, Eqv.rfl, Eqv.rfl, Eqv.rfl, Eqv.rfl, Eqv.rfl, Eqv.rfl, EqvO.rfl, EqvO.rfl, EqvO.rfl, EqvO.rfl, EqvO.rfl, EqvO.rfl, trivial⟩
  rintro ⟨j, cl, cm⟩ ⟨hj, hcl, hcm⟩
  dsimp only [S] at hj hcl hcm ⊢
  have hlf : ((log.take j).filter (about id)).length ≤ 60 := by
    have := List.length_filter_le (about id) (log.take j)
    rw [List.length_take] at this; omega
  have hlm : (mixFrom id other (log.take j) 0).length ≤ 180 := by
    have := mixFrom_length id other (log.take j) 0
    rw [List.length_take] at this; omega
  refine And.intro (fun h3 => ?_) (fun h3 => ?_)
  · have g3 : j < log.length := by have := of_decide_eq_true h3; omega
    have he : log[j]? = some log[j] := List.getElem?_eq_getElem g3
    obtain ⟨b, o, rfl, hat⟩ := hraw j _ he
    obtain ⟨e, hee⟩ : ∃ e, e = log[j] := ⟨_, rfl⟩
    rw [← hee] at he hat
    have htk : log.take (j + 1) = log.take j ++ [e] := by rw [List.take_add_one, he]; rfl
    have hmx : mixFrom id other (log.take (j + 1)) 0 = mixFrom id other (log.take j) 0 ++ mixOf id other j e := by
      rw [htk, mixFrom_snoc, List.length_take, Nat.min_eq_left hj, Nat.zero_add]
    have hfx : (log.take (j + 1)).filter (about id) = (log.take j).filter (about id) ++ [e].filter (about id) := by rw [htk, List.filter_append]
    obtain ⟨l, hlq⟩ : ∃ l, l = (log.take j).filter (about id) := ⟨_, rfl⟩
    obtain ⟨m, hmq⟩ : ∃ m, m = mixFrom id other (log.take j) 0 := ⟨_, rfl⟩
    rw [← hlq] at hlf hcl hfx ⊢
    rw [← hmq] at hlm hcm hmx ⊢
    have hwj : D.int .i64 (IntKind.wrap .i64 ((j : Int) + 1)) = D.int .i64 ((j + 1 : Nat) : Int) := by rw [w64 (by omega)]; rfl
    have hwu : IntKind.u64.wrap (j : Int) = (UInt64.ofNat j).toNat := by rw [IntWalk.u64_in _ (by omega), UInt64.toNat_ofNat']; omega
    have hby : Try.prog.bytesOf 37 = 304 := by kernel_rfl
    have htl : ((l.drop 0).take l.length) = l := by simp
    have htm : ((m.drop 0).take m.length) = m := by simp
    repeat refine JoinAt.through ?_
    refine And.intro ⟨by omega, by omega⟩ ?_
    refine ⟨encEntry e, hat, ?_⟩
    repeat refine JoinAt.through ?_
    refine And.intro (fun h4 => ?_) (fun h4 => ?_)
    · have g4 : e.r.kind = 6 := u8_is (k := 6) h4
      have ha : about id e = false := by simp [about, g4]
      refine And.intro (by omega) ?_
      refine And.intro (fun _ => rfl) ?_
      refine And.intro (by omega) ?_
      refine And.intro (by omega) ?_
      refine ⟨Entry, encEntry, m ++ [e], ⟨by rw [htm]; simp, fun R => congrArg (cellsL R) (by rw [htm, List.map_append]; rfl)⟩, encOK_entry, by rw [hby]; simp; omega, ?_⟩
      intro cm1 hcm1
      repeat refine JoinAt.through ?_
      refine And.intro (fun h5 => absurd g4 (u8_not (k := 6) (by simpa using h5))) (fun _ => ?_)
      refine And.intro (by first | omega | (simp only [List.length_append, List.length_cons, List.length_nil]; omega)) ?_
      refine And.intro (fun _ => rfl) ?_
      refine And.intro (by first | omega | (simp only [List.length_append, List.length_cons, List.length_nil]; omega)) ?_
      refine And.intro (by first | exact hcm1 | exact hcm) ?_
      have htm1 : ((((m ++ [e])).drop 0).take ((m ++ [e])).length) = (m ++ [e]) := by rw [List.drop_zero]; exact List.take_of_length_le (Nat.le_refl _)
      refine ⟨Entry, encEntry, (m ++ [e]) ++ [{ e with r := { e.r with page := other } }, ⟨UInt64.ofNat j, { zeroRec with kind := 6, ts := 7 }⟩], ⟨by rw [htm1]; simp, fun R => by rw [htm1, List.map_append, cellsL_append, cellsL_append, hwu]; rfl⟩, encOK_entry, by rw [hby]; simp only [List.length_append, List.length_cons, List.length_nil]; omega, ?_⟩
      intro cm2 hcm2
      have hmn : mixFrom id other (log.take (j + 1)) 0 = (m ++ [e]) ++ [{ e with r := { e.r with page := other } }, ⟨UInt64.ofNat j, { zeroRec with kind := 6, ts := 7 }⟩] := by rw [hmx, mixOf, if_pos (.inl g4)]; simp
      have hfn : (log.take (j + 1)).filter (about id) = l := by rw [hfx, List.filter_cons_of_neg (by simp [ha])]; simp
      refine ⟨(j + 1, cl, cm2), ⟨⟨g3, by show ((log.take (j + 1)).filter (about id)).length ≤ _; rw [hfn]; assumption, by show (mixFrom id other (log.take (j + 1)) 0).length ≤ _; rw [hmn]; assumption⟩, by show log.length - (j + 1) < log.length - j; omega⟩, [0, 1, 2, 3, 4, 10], ?_⟩
      refine ⟨Eqv.rfl, Eqv.rfl, Eqv.rfl, Eqv.of ?_, Eqv.of ?_, Eqv.rfl, Eqv.rfl, Eqv.of hwj, EqvO.rfl, EqvO.rfl, EqvO.rfl, EqvO.rfl, EqvO.of ?_, EqvO.of ?_, trivial⟩
      · dsimp only; rw [hfn]; rfl
      · dsimp only; rw [hmn]; rfl
      · dsimp only; rw [hfn]; rfl
      · dsimp only; rw [hmn]; rfl
    · have g4 : e.r.kind ≠ 6 := u8_not (k := 6) h4
      refine ⟨decide (e.r.page = id), eqID _ _, ?_⟩
      refine And.intro (fun h5 => ?_) (fun h5 => ?_)
      · have g5 : e.r.page = id := of_decide_eq_true h5
        have ha : about id e = true := by simp [about, g4, g5]
        refine And.intro (by omega) ?_
        refine And.intro (fun _ => rfl) ?_
        refine And.intro (by omega) ?_
        refine And.intro (by omega) ?_
        refine ⟨Entry, encEntry, m ++ [e], ⟨by rw [htm]; simp, fun R => congrArg (cellsL R) (by rw [htm, List.map_append]; rfl)⟩, encOK_entry, by rw [hby]; simp; omega, ?_⟩
        intro cm1 hcm1
        repeat refine JoinAt.through ?_
        refine And.intro (fun _ => ?_) (fun h6 => absurd (u8_is (k := 6) (by simpa using h6)) g4)
        refine ⟨decide (e.r.page = id), eqID _ _, ?_⟩
        refine And.intro (fun _ => ?_) (fun h6 => absurd h5 (by rw [h6]; decide))
        refine And.intro (by omega) ?_
        refine And.intro (fun _ => rfl) ?_
        refine And.intro (by omega) ?_
        refine And.intro (by omega) ?_
        refine ⟨Entry, encEntry, l ++ [e], ⟨by rw [htl]; simp, fun R => congrArg (cellsL R) (by rw [htl, List.map_append]; rfl)⟩, encOK_entry, by rw [hby]; simp; omega, ?_⟩
        intro cl1 hcl1
        refine And.intro (by first | omega | (simp only [List.length_append, List.length_cons, List.length_nil]; omega)) ?_
        refine And.intro (fun _ => rfl) ?_
        refine And.intro (by first | omega | (simp only [List.length_append, List.length_cons, List.length_nil]; omega)) ?_
        refine And.intro (by first | exact hcm1 | exact hcm) ?_
        have htm1 : ((((m ++ [e])).drop 0).take ((m ++ [e])).length) = (m ++ [e]) := by rw [List.drop_zero]; exact List.take_of_length_le (Nat.le_refl _)
        refine ⟨Entry, encEntry, (m ++ [e]) ++ [{ e with r := { e.r with page := other } }, ⟨UInt64.ofNat j, { zeroRec with kind := 6, ts := 7 }⟩], ⟨by rw [htm1]; simp, fun R => by rw [htm1, List.map_append, cellsL_append, cellsL_append, hwu]; rfl⟩, encOK_entry, by rw [hby]; simp only [List.length_append, List.length_cons, List.length_nil]; omega, ?_⟩
        intro cm2 hcm2
        have hmn : mixFrom id other (log.take (j + 1)) 0 = (m ++ [e]) ++ [{ e with r := { e.r with page := other } }, ⟨UInt64.ofNat j, { zeroRec with kind := 6, ts := 7 }⟩] := by rw [hmx, mixOf, if_pos (.inr g5)]; simp
        have hfn : (log.take (j + 1)).filter (about id) = (l ++ [e]) := by rw [hfx, List.filter_cons_of_pos (by simp [ha])]; simp
        refine ⟨(j + 1, cl1, cm2), ⟨⟨g3, by show ((log.take (j + 1)).filter (about id)).length ≤ _; rw [hfn]; assumption, by show (mixFrom id other (log.take (j + 1)) 0).length ≤ _; rw [hmn]; assumption⟩, by show log.length - (j + 1) < log.length - j; omega⟩, [0, 1, 2, 3, 10, 12], ?_⟩
        refine ⟨Eqv.rfl, Eqv.rfl, Eqv.rfl, Eqv.of ?_, Eqv.of ?_, Eqv.rfl, Eqv.rfl, Eqv.of hwj, EqvO.rfl, EqvO.rfl, EqvO.rfl, EqvO.rfl, EqvO.of ?_, EqvO.of ?_, trivial⟩
        · dsimp only; rw [hfn]; rfl
        · dsimp only; rw [hmn]; rfl
        · dsimp only; rw [hfn]; rfl
        · dsimp only; rw [hmn]; rfl
      · have g5 : ¬ e.r.page = id := of_decide_eq_false h5
        have ha : about id e = false := by simp [about, g5]
        repeat refine JoinAt.through ?_
        refine And.intro (fun _ => ?_) (fun h6 => absurd (u8_is (k := 6) (by simpa using h6)) g4)
        refine ⟨decide (e.r.page = id), eqID _ _, ?_⟩
        refine And.intro (fun h6 => absurd (of_decide_eq_true h6) g5) (fun _ => ?_)
        refine And.intro (by first | omega | (simp only [List.length_append, List.length_cons, List.length_nil]; omega)) ?_
        refine And.intro (fun _ => rfl) ?_
        refine And.intro (by first | omega | (simp only [List.length_append, List.length_cons, List.length_nil]; omega)) ?_
        refine And.intro (by first | exact hcm1 | exact hcm) ?_
        have htm1 : (((m).drop 0).take (m).length) = m := by rw [List.drop_zero]; exact List.take_of_length_le (Nat.le_refl _)
        refine ⟨Entry, encEntry, m ++ [{ e with r := { e.r with page := other } }, ⟨UInt64.ofNat j, { zeroRec with kind := 6, ts := 7 }⟩], ⟨by rw [htm1]; simp, fun R => by rw [htm1, List.map_append, cellsL_append, cellsL_append, hwu]; rfl⟩, encOK_entry, by rw [hby]; simp only [List.length_append, List.length_cons, List.length_nil]; omega, ?_⟩
        intro cm2 hcm2
        have hmn : mixFrom id other (log.take (j + 1)) 0 = m ++ [{ e with r := { e.r with page := other } }, ⟨UInt64.ofNat j, { zeroRec with kind := 6, ts := 7 }⟩] := by rw [hmx, mixOf, if_neg (by simp [g4, g5])]; simp
        have hfn : (log.take (j + 1)).filter (about id) = l := by rw [hfx, List.filter_cons_of_neg (by simp [ha])]; simp
        refine ⟨(j + 1, cl, cm2), ⟨⟨g3, by show ((log.take (j + 1)).filter (about id)).length ≤ _; rw [hfn]; assumption, by show (mixFrom id other (log.take (j + 1)) 0).length ≤ _; rw [hmn]; assumption⟩, by show log.length - (j + 1) < log.length - j; omega⟩, [0, 1, 2, 3, 4, 8], ?_⟩
        refine ⟨Eqv.rfl, Eqv.rfl, Eqv.rfl, Eqv.of ?_, Eqv.of ?_, Eqv.rfl, Eqv.rfl, Eqv.of hwj, EqvO.rfl, EqvO.rfl, EqvO.rfl, EqvO.rfl, EqvO.of ?_, EqvO.of ?_, trivial⟩
        · dsimp only; rw [hfn]; rfl
        · dsimp only; rw [hmn]; rfl
        · dsimp only; rw [hfn]; rfl
        · dsimp only; rw [hmn]; rfl
  · have g3 : j = log.length := by have := of_decide_eq_false h3; omega
    have htk : log.take j = log := List.take_of_length_le (by omega)
    rw [htk] at hlf hlm hcl hcm ⊢
    refine DrawAt.all (by kernel_rfl) ?_
    refine (f19 id p (mixFrom id other log 0) cm (by unfold Short; omega)).q [5] rfl (fun _ => rfl) (by exact ⟨EqvS.rfl, trivial⟩) rfl ?_
    refine (f19 id p (log.filter (about id)) cl (by unfold Short; omega)).q [4] rfl (fun _ => rfl) (by exact ⟨EqvS.rfl, trivial⟩) rfl ?_
    refine ⟨_, eqPay _ _, ?_⟩
    refine And.intro (fun _ => ?_) (fun h4 => absurd (apart g1 p log) (of_decide_eq_false h4))
    refine f18.q ?_
    exact ⟨_, _, ⟨rfl, rfl⟩, Eqv.rfl, EqvO.rfl, trivial⟩
end Go.Proofs.Ytjdpjimdoknlnaa.E
