import Derived.Test.YtjdpjimdoknlnaaWx
namespace Go.Proofs.Ytjdpjimdoknlnaa.E
open Go
set_option maxRecDepth 4000
/-- A row of values, told as a row. -/
theorem EqvO.varVec {t : TypeId} {s : Nat} {α : Type} {enc : α → D} {ds : List D} {xs : List α} {n : Nat} (hn : n = xs.length) (he : ∀ x, size (enc x) = s) (h : ∀ R, cellsL R ds = cellsL R (xs.map enc)) : EqvO (.var t (.st ds)) (.vec t s enc xs n) := by
  rintro R ob f ⟨b, cs, hb, hc, hf⟩
  subst hn
  have hfl : ∀ R, flat R s enc xs = cellsL R ds := fun R => by
    rw [h R, cellsL_map]
    unfold flat
    exact congrArg (fun g => List.flatMap g xs) (funext fun x => fit_self (by rw [cells_length, he]))
  refine .inr ⟨b, 0, cs, [], [], hb, fun X => ?_, ?_, _root_.rfl, by simpa using hf⟩
  · rw [hfl, ← cells_st]; exact hc X
  · rw [List.append_nil, ← hc [], cells_st, ← hfl, flat_length]
def bump (e : Entry) : Entry := { e with lsn := e.lsn + 1 }
theorem replay_cons (id : PageID) (p : Payload) (e : Entry) (l : List Entry) : replay id p (e :: l) = replay id (stepR id p e) l := rfl
set_option maxHeartbeats 8000000 in
theorem f3 (A : HP) (p q image : Payload) (id : PageID) (v : Value) (log : List Entry) (hl : Short log) (hv : RawLog A v log) :
    CallAt Try.prog 3 [.bytes 224 p, .bytes 224 q, .bytes 224 image, encID id, .val v] [.res A] (fun d H => d = .tt ∧ H = [.res A]) := by
  refine callAt_of_exec zeros mixed (fn := Try.f3) rfl rfl rfl (by rintro _ _ ⟨rfl, rfl⟩; exact Nat.le_refl _) ?_
  refine (f15 A v log hl hv).lift [0] rfl (fun _ => rfl) (by rintro d H1 ⟨cap, rfl, rfl⟩ hj; cases hj) ?_
  refine ⟨EqvO.rfl, ?_⟩
  rintro d H1 ⟨capf, rfl, rfl⟩
  obtain ⟨fw, hfw⟩ : ∃ fw, fw = fewL log := ⟨_, rfl⟩
  rw [← hfw]
  have hfl : fw.length ≤ 40 := by rw [hfw, fewL, fewFrom_length, List.length_take]; omega
  let S : Nat × Nat → St := fun x => ⟨slotsOf 79 [(5, .ptr 1 []), (6, .ptr 2 []), (7, .ptr 3 []), (8, .ptr 4 []), (11, .slc 5 [] 239 0 (x.1 + 1) x.2), (21, .slc 6 [] 239 0 fw.length capf), (22, .int .i64 fw.length), (23, .int .i64 x.1)],
    [.res A, .var 23 (.bytes 224 p), .var 23 (.bytes 224 q), .var 23 (.bytes 224 image), .var 26 (encID id), logO (imageE id image :: (fw.take x.1).map bump) x.2, logO fw capf]⟩
  refine LoopN.ofR (Nat × Nat) (fun x => x.1 ≤ fw.length ∧ x.1 + 1 ≤ x.2) (fun x => fw.length - x.1) S (fun _ => Nat.le_of_ble_eq_true rfl) (0, 1) ⟨Nat.zero_le _, Nat.le_refl _⟩ ?_ ?_
  · refine ⟨Eqv.rfl, Eqv.rfl, Eqv.rfl, Eqv.rfl, Eqv.rfl, Eqv.rfl, Eqv.rfl, Eqv.rfl, EqvO.rfl, EqvO.rfl, EqvO.rfl, EqvO.rfl, EqvO.rfl, ?_, EqvO.rfl, trivial⟩
    exact EqvO.varVec rfl (fun _ => rfl) (fun R => rfl)
  rintro ⟨j, cl⟩ ⟨hj, hcl⟩
  dsimp only [S] at hj hcl ⊢
  refine And.intro (fun h1 => ?_) (fun h1 => ?_)
  · have g1 : j < fw.length := by have := of_decide_eq_true h1; omega
    repeat refine JoinAt.through ?_
    refine And.intro ⟨by omega, by omega⟩ ?_
    refine And.intro (by omega) ?_
    refine And.intro (by omega) ?_
    intro e he
    have he' : fw[j]? = some e := by simpa using he
    have htk : (fw.take (j + 1)).map bump = (fw.take j).map bump ++ [bump e] := by rw [List.take_add_one, he', Option.toList_some, List.map_append]; rfl
    have hln : (imageE id image :: (fw.take j).map bump).length = j + 1 := by simp; omega
    have hwl : IntKind.u64.wrap ((e.lsn.toNat : Int) + 1) = ((e.lsn + 1).toNat : Int) := by
      rw [IntKind.wrap_u64, UInt64.toNat_add]; have : (1 : UInt64).toNat = 1 := rfl; omega
    have hby : Try.prog.bytesOf 37 = 304 := by kernel_rfl
    have htl : (((imageE id image :: (fw.take j).map bump).drop 0).take (j + 1)) = imageE id image :: (fw.take j).map bump := by
      rw [List.drop_zero]; exact List.take_of_length_le (by omega)
    refine And.intro (by omega) ?_
    refine And.intro (fun _ => rfl) ?_
    refine And.intro (by omega) ?_
    refine And.intro (by omega) ?_
    refine ⟨Entry, encEntry, imageE id image :: (fw.take (j + 1)).map bump, ⟨by rw [htl, htk]; simp, fun R => by rw [htl, htk, ← List.cons_append, List.map_append, hwl]; rfl⟩, encOK_entry, ?_, ?_⟩
    · rw [hby, htk, ← List.cons_append, List.length_append, hln, List.length_cons, List.length_nil]; omega
    intro cl2 hcl2
    rw [htk, ← List.cons_append, List.length_append, hln, List.length_cons, List.length_nil] at hcl2
    refine ⟨(j + 1, cl2), ⟨⟨g1, hcl2⟩, by show fw.length - (j + 1) < fw.length - j; omega⟩, [0, 1, 2, 3, 4, 9, 6], ?_⟩
    refine ⟨Eqv.rfl, Eqv.rfl, Eqv.rfl, Eqv.rfl, Eqv.of ?_, Eqv.rfl, Eqv.rfl, Eqv.of ?_, EqvO.rfl, EqvO.rfl, EqvO.rfl, EqvO.rfl, EqvO.rfl, EqvO.rfl, EqvO.rfl, trivial⟩
    · rw [htk, ← List.cons_append, List.length_append, hln]; rfl
    · rw [w64 (by omega)]; rfl
  · have g1 : j = fw.length := by have := of_decide_eq_false h1; omega
    subst g1
    rw [List.take_length]
    obtain ⟨bs, hbs⟩ : ∃ bs, bs = fw.map bump := ⟨_, rfl⟩
    have hbl : bs.length = fw.length := by rw [hbs, List.length_map]
    rw [← hbs, ← hbl]
    rw [← hbl] at hcl hfl
    refine (f16 id image).c ?_
    refine And.intro (fun h2 => ?_) (fun h2 => ?_)
    · refine f18.c ?_
      exact ⟨_, _, ⟨rfl, rfl⟩, Eqv.rfl, EqvO.rfl, trivial⟩
    have g2 : right id image = true := by simpa using h2
    refine (f16 id p).c ?_
    refine And.intro (fun h3 => ?_) (fun h3 => ?_)
    · refine (f17 p).c ?_
      refine And.intro (fun h4 => ?_) (fun h4 => ?_)
      · refine f18.c ?_
        exact ⟨_, _, ⟨rfl, rfl⟩, Eqv.rfl, EqvO.rfl, trivial⟩
      · have kp : right id p = true → lsnI p = 0 := fun _ => by have := of_decide_eq_false h4; omega
        refine (f16 id q).c ?_
        refine And.intro (fun h5 => ?_) (fun h5 => ?_)
        · refine (f17 q).c ?_
          refine And.intro (fun h6 => ?_) (fun h6 => ?_)
          · refine f18.c ?_
            exact ⟨_, _, ⟨rfl, rfl⟩, Eqv.rfl, EqvO.rfl, trivial⟩
          · have kq : right id q = true → lsnI q = 0 := fun _ => by have := of_decide_eq_false h6; omega
            refine ((f19 id p (imageE id image :: bs) cl (by unfold Short; simp; omega))).c [5] rfl (fun _ => rfl) (by exact ⟨EqvS.rfl, trivial⟩) ?_
            refine DrawAt.all (by kernel_rfl) ?_
            refine ((f19 id q (imageE id image :: bs) cl (by unfold Short; simp; omega))).q [5] rfl (fun _ => rfl) (by exact ⟨EqvS.rfl, trivial⟩) rfl ?_
            refine ⟨_, eqPay _ _, ?_⟩
            obtain ⟨x, hx, hall⟩ := torn g2
            refine And.intro (fun _ => ?_) (fun h9 => absurd ((hall p kp bs).trans (hall q kq bs).symm) (of_decide_eq_false h9))
            refine (f16 id (replay id p (imageE id image :: bs))).q ?_
            refine And.intro (fun _ => ?_) (fun h9 => absurd ((congrArg (right id) (hall p kp bs)).trans (replay_right id bs x hx)) (by rw [h9]; decide))
            refine f18.q ?_
            exact ⟨_, _, ⟨rfl, rfl⟩, Eqv.rfl, EqvO.rfl, trivial⟩
        · have kq : right id q = true → lsnI q = 0 := fun h => absurd h (by rw [h5]; decide)
          refine ((f19 id p (imageE id image :: bs) cl (by unfold Short; simp; omega))).c [5] rfl (fun _ => rfl) (by exact ⟨EqvS.rfl, trivial⟩) ?_
          refine DrawAt.all (by kernel_rfl) ?_
          refine ((f19 id q (imageE id image :: bs) cl (by unfold Short; simp; omega))).q [5] rfl (fun _ => rfl) (by exact ⟨EqvS.rfl, trivial⟩) rfl ?_
          refine ⟨_, eqPay _ _, ?_⟩
          obtain ⟨x, hx, hall⟩ := torn g2
          refine And.intro (fun _ => ?_) (fun h9 => absurd ((hall p kp bs).trans (hall q kq bs).symm) (of_decide_eq_false h9))
          refine (f16 id (replay id p (imageE id image :: bs))).q ?_
          refine And.intro (fun _ => ?_) (fun h9 => absurd ((congrArg (right id) (hall p kp bs)).trans (replay_right id bs x hx)) (by rw [h9]; decide))
          refine f18.q ?_
          exact ⟨_, _, ⟨rfl, rfl⟩, Eqv.rfl, EqvO.rfl, trivial⟩
    · have kp : right id p = true → lsnI p = 0 := fun h => absurd h (by rw [h3]; decide)
      refine (f16 id q).c ?_
      refine And.intro (fun h5 => ?_) (fun h5 => ?_)
      · refine (f17 q).c ?_
        refine And.intro (fun h6 => ?_) (fun h6 => ?_)
        · refine f18.c ?_
          exact ⟨_, _, ⟨rfl, rfl⟩, Eqv.rfl, EqvO.rfl, trivial⟩
        · have kq : right id q = true → lsnI q = 0 := fun _ => by have := of_decide_eq_false h6; omega
          refine ((f19 id p (imageE id image :: bs) cl (by unfold Short; simp; omega))).c [5] rfl (fun _ => rfl) (by exact ⟨EqvS.rfl, trivial⟩) ?_
          refine DrawAt.all (by kernel_rfl) ?_
          refine ((f19 id q (imageE id image :: bs) cl (by unfold Short; simp; omega))).q [5] rfl (fun _ => rfl) (by exact ⟨EqvS.rfl, trivial⟩) rfl ?_
          refine ⟨_, eqPay _ _, ?_⟩
          obtain ⟨x, hx, hall⟩ := torn g2
          refine And.intro (fun _ => ?_) (fun h9 => absurd ((hall p kp bs).trans (hall q kq bs).symm) (of_decide_eq_false h9))
          refine (f16 id (replay id p (imageE id image :: bs))).q ?_
          refine And.intro (fun _ => ?_) (fun h9 => absurd ((congrArg (right id) (hall p kp bs)).trans (replay_right id bs x hx)) (by rw [h9]; decide))
          refine f18.q ?_
          exact ⟨_, _, ⟨rfl, rfl⟩, Eqv.rfl, EqvO.rfl, trivial⟩
      · have kq : right id q = true → lsnI q = 0 := fun h => absurd h (by rw [h5]; decide)
        refine ((f19 id p (imageE id image :: bs) cl (by unfold Short; simp; omega))).c [5] rfl (fun _ => rfl) (by exact ⟨EqvS.rfl, trivial⟩) ?_
        refine DrawAt.all (by kernel_rfl) ?_
        refine ((f19 id q (imageE id image :: bs) cl (by unfold Short; simp; omega))).q [5] rfl (fun _ => rfl) (by exact ⟨EqvS.rfl, trivial⟩) rfl ?_
        refine ⟨_, eqPay _ _, ?_⟩
        obtain ⟨x, hx, hall⟩ := torn g2
        refine And.intro (fun _ => ?_) (fun h9 => absurd ((hall p kp bs).trans (hall q kq bs).symm) (of_decide_eq_false h9))
        refine (f16 id (replay id p (imageE id image :: bs))).q ?_
        refine And.intro (fun _ => ?_) (fun h9 => absurd ((congrArg (right id) (hall p kp bs)).trans (replay_right id bs x hx)) (by rw [h9]; decide))
        refine f18.q ?_
        exact ⟨_, _, ⟨rfl, rfl⟩, Eqv.rfl, EqvO.rfl, trivial⟩
end Go.Proofs.Ytjdpjimdoknlnaa.E
