import Derived.Test.YtjdpjimdoknlnaaWg
namespace Go.Proofs.Ytjdpjimdoknlnaa.E
open Go
set_option maxRecDepth 4000
/-- The record at a place, and the place behind it. -/
def stepRec (s : Bytes) (i : Nat) : Option (Old × Nat) :=
  if 224 ≤ i then none else
  if 1 < (s[i]?).getD 0 then none else
  if (s[i]?).getD 0 = 1 then
    if 224 < i + 11 then none else
    if 224 < i + 11 + ((s[i + 10]?).getD 0).toNat then none else
    some (⟨true, UInt16.ofNat (getNum s (i + 1 : Nat) 2), UInt32.ofNat (getNum s (i + 3 : Nat) 4), ⟨UInt16.ofNat (getNum s (i + 7 : Nat) 2), (s[i + 9]?).getD 0⟩,
      (s.take (i + 11 + ((s[i + 10]?).getD 0).toNat)).drop (i + 11)⟩, i + 11 + ((s[i + 10]?).getD 0).toNat)
  else some (zeroOld, i + 1)
def recsFrom (s : Bytes) : Nat → Nat → List Old → Option (List Old × Nat)
  | 0, i, acc => some (acc, i)
  | n + 1, i, acc => match stepRec s i with
    | none => none
    | some (o, i') => recsFrom s n i' (acc ++ [o])
def getUndo (no : UInt16) (p : Payload) : Option (List Old) :=
  if opensB 2 no p then
    match recsFrom p.toList p[15].toNat 16 [] with
    | none => none
    | some (olds, i) => if bareFrom p.toList i && mayU olds then some olds else none
  else none
/-- What GetUndo hands back. -/
def undoPost (lsn : Nat) (r : Option (List Old)) (d : D) (H : List SObj) : Prop :=
  match r with
  | none => d = .tup [.st [.int .u64 0, .nils], .int .i64 2] ∧ H = []
  | some olds => ∃ cap, d = .tup [undoD (UInt64.ofNat lsn) 0 olds.length cap, .int .i64 0] ∧ H = [oldsO olds cap]
theorem encOK_old : EncOK 6 encOld where
  size := fun _ => rfl
  stor := fun o R v hv u hu => by
    rw [← hv.conc] at hu
    simp [conc, encOld, encRef, cellsL, Value.cells] at hu
    rcases hu with rfl | rfl | rfl | rfl | rfl | rfl <;> rfl
set_option maxHeartbeats 4000000 in
theorem f70 (no : UInt16) (p : Payload) : CallAt Try.prog 70 [.int .u16 no.toNat, .bytes 224 p] [] (undoPost (lsnI p) (getUndo no p)) := by
  refine callAt_of_execR zeros mixed (fn := Try.f70) rfl rfl rfl ?_
  refine (f109 2 no p).c ?_
  refine And.intro (fun h1 => ?_) (fun h1 => ?_)
  · have h1 : opensB 2 no p = false := by simpa using h1
    have hg : getUndo no p = none := by simp [getUndo, h1]
    rw [hg]
    exact ⟨[], _, _, ⟨rfl, rfl⟩, trivial, Eqv.rfl, trivial⟩
  have h1 : opensB 2 no p = true := by simpa using h1
  refine And.intro (by decide) ⟨p.toList, by simp [List.take_of_length_le], ?_⟩
  refine (f17 _).c ?_
  refine And.intro (by decide) ?_
  refine And.intro (by decide) ?_
  intro c hc
  have hc0 : p[15] = c := by simpa using hc
  have hcl := c.toNat_lt
  have hwc : IntKind.i64.wrap (c.toNat : Int) = (c.toNat : Int) := w64 (by omega)
  let S : Nat × List Old × Nat × Nat → St := fun x => ⟨slotsOf 146 [(3, .ptr 0 []), (4, .ptr 1 []), (5, .int .i64 0), (6, .str p.toList), (7, .ptr 2 []), (8, .int .i64 x.2.2.1), (29, .int .i64 c.toNat), (30, .int .i64 x.1)],
    [.var 23 (.bytes 224 p), .var 139 z139, .var 139 (.st [.int .u64 (lsnI p), .slc 3 [] 6 0 x.2.1.length x.2.2.2]), oldsO x.2.1 x.2.2.2]⟩
  refine LoopN.nil (S (0, [], 16, 0)) ?_ ?_
  · refine ⟨EqvN.rfl, EqvN.rfl, EqvN.rfl, EqvN.rfl, EqvN.rfl, EqvN.rfl, EqvN.of (by rw [hwc]), EqvN.rfl, EqvON.rfl, EqvON.rfl, EqvON.var ?_, rfl, rfl⟩
    intro R X hR
    have h3 : (R ++ none :: X)[3]? = some none := by rw [List.getElem?_append_right (by omega), hR]; rfl
    simp [conc, cellsL, sliceV, h3]
  refine LoopN.ofR (Nat × List Old × Nat × Nat) (fun x => x.1 ≤ c.toNat ∧ x.2.1.length = x.1 ∧ x.2.2.1 ≤ 224 ∧ x.1 ≤ x.2.2.2 ∧ recsFrom p.toList c.toNat 16 [] = recsFrom p.toList (c.toNat - x.1) x.2.2.1 x.2.1 ∧ ∀ o ∈ x.2.1, o.delta.length ≤ 224) (fun x => c.toNat - x.1) S (fun _ => Nat.zero_le _) (0, [], 16, 0)
    ⟨Nat.zero_le _, rfl, by decide, Nat.zero_le _, rfl, by simp⟩ ?_ ?_
  · exact ⟨Eqv.rfl, Eqv.rfl, Eqv.rfl, Eqv.rfl, Eqv.rfl, Eqv.rfl, Eqv.rfl, Eqv.rfl, EqvO.rfl, EqvO.rfl, EqvO.rfl, EqvO.rfl, trivial⟩
  rintro ⟨i, olds, a, cap⟩ ⟨hi, hol, ha, hcap, hrec, hdl⟩
  simp only at hi hol ha hcap hrec hdl
  dsimp only [S]
  refine And.intro (fun h2 => ?_) (fun h2 => ?_)
  · have g2 := of_decide_eq_true h2
    have hstep : recsFrom p.toList (c.toNat - i) a olds = match stepRec p.toList a with
        | none => none
        | some (o, i') => recsFrom p.toList (c.toNat - (i + 1)) i' (olds ++ [o]) := by
      rw [show c.toNat - i = (c.toNat - (i + 1)) + 1 by omega]; rfl
    have hnone : stepRec p.toList a = none → getUndo no p = none := fun h => by
      rw [h] at hstep
      simp only [getUndo, h1, if_true, hc0, hrec, hstep]
    have hlen : p.toList.length = 224 := by simp
    refine JoinAt.through ?_
    refine And.intro (fun h3 => ?_) (fun h3 => ?_)
    · have g3 : 224 ≤ a := by have := of_decide_eq_true h3; omega
      rw [hnone (by simp [stepRec, g3])]
      exact ⟨[], _, _, ⟨rfl, rfl⟩, trivial, Eqv.rfl, trivial⟩
    have g3 : ¬ 224 ≤ a := by have := of_decide_eq_false h3; omega
    refine And.intro ⟨by omega, by omega⟩ ?_
    intro b hb
    have hb' : p.toList[a]? = some b := by simpa using hb
    refine And.intro (fun h4 => ?_) (fun h4 => ?_)
    · have g4 : 1 < b := by have := of_decide_eq_true h4; exact UInt8.lt_iff_toNat_lt.2 (by show 1 < b.toNat; omega)
      rw [hnone (by simp [stepRec, g3, hb', g4])]
      exact ⟨[], _, _, ⟨rfl, rfl⟩, trivial, Eqv.rfl, trivial⟩
    have g4 : ¬ 1 < b := by have := of_decide_eq_false h4; exact fun h => this (by have := UInt8.lt_iff_toNat_lt.1 h; have h1 : (1 : UInt8).toNat = 1 := rfl; omega)
    refine And.intro ⟨by omega, by omega⟩ ?_
    intro b2 hb2
    have hb2' : b2 = b := by
      have : p.toList[a]? = some b2 := by simpa using hb2
      rw [hb'] at this; exact (Option.some.inj this).symm
    subst hb2'
    have hw1 : IntKind.i64.wrap ((a : Int) + 1) = ((a + 1 : Nat) : Int) := by rw [w64 (by omega)]; rfl
    refine JoinAt.through ?_
    refine And.intro (fun h5 => ?_) (fun h5 => ?_)
    · have g5 : b2 = 1 := by have := of_decide_eq_true h5; exact UInt8.toNat_inj.1 (by have h1 : (1 : UInt8).toNat = 1 := rfl; omega)
      rw [hw1]
      subst g5
      have hw10 : IntKind.i64.wrap (((a + 1 : Nat) : Int) + 10) = ((a + 11 : Nat) : Int) := by rw [w64 (by omega)]; omega
      have hw9 : IntKind.i64.wrap (((a + 1 : Nat) : Int) + 9) = ((a + 10 : Nat) : Int) := by rw [w64 (by omega)]; omega
      refine And.intro (fun h6 => ?_) (fun h6 => ?_)
      · have g6 : 224 < a + 11 := by rw [hw10] at h6; have := of_decide_eq_true h6; omega
        rw [hnone (by simp [stepRec, g3, hb', g6])]
        exact ⟨[], _, _, ⟨rfl, rfl⟩, trivial, Eqv.rfl, trivial⟩
      have g6 : ¬ 224 < a + 11 := by rw [hw10] at h6; have := of_decide_eq_false h6; omega
      refine And.intro (by rw [hw9]; constructor <;> omega) ?_
      intro b3 hb3
      rw [hw9, Int.toNat_natCast] at hb3
      have hb3' : p.toList[a + 10]? = some b3 := hb3
      have hb3l := b3.toNat_lt
      have hw11 : IntKind.i64.wrap (IntKind.i64.wrap (((a + 1 : Nat) : Int) + 10) + IntKind.i64.wrap (b3.toNat : Int)) = ((a + 11 + b3.toNat : Nat) : Int) := by
        rw [hw10, w64 (x := (b3.toNat : Int)) (by omega), w64 (by omega)]; omega
      refine And.intro (fun h7 => ?_) (fun h7 => ?_)
      · have g7 : 224 < a + 11 + b3.toNat := by rw [hw11] at h7; have := of_decide_eq_true h7; omega
        rw [hnone (by simp [stepRec, g3, hb', g6, hb3', g7])]
        exact ⟨[], _, _, ⟨rfl, rfl⟩, trivial, Eqv.rfl, trivial⟩
      have g7 : ¬ 224 < a + 11 + b3.toNat := by rw [hw11] at h7; have := of_decide_eq_false h7; omega
      have hshort : Short p.toList := short_vec _ (by decide)
      refine (f72 _ hshort _ 2 (by omega) (by decide)).c ?_
      refine (f72 _ hshort _ 4 (by rw [w64 (by omega)]; omega) (by decide)).c ?_
      refine (f72 _ hshort _ 2 (by rw [w64 (by omega)]; omega) (by decide)).c ?_
      refine DrawAt.mixed [2, 3, 4, 5, 6, 7, 8, 9, 10] [0, 1, 11, 12, 13, 14, 15, 16] [4] (by kernel_rfl) ?_
      have hw8 : IntKind.i64.wrap (((a + 1 : Nat) : Int) + 8) = ((a + 9 : Nat) : Int) := by rw [w64 (by omega)]; omega
      refine And.intro (by rw [hw8]; constructor <;> omega) ?_
      intro b4 hb4
      rw [hw8, Int.toNat_natCast] at hb4
      have hb4' : p.toList[a + 9]? = some b4 := hb4
      refine And.intro (by rw [hw9]; constructor <;> omega) ?_
      intro b5 hb5
      rw [hw9, Int.toNat_natCast, hb3'] at hb5
      have hb5' : b5 = b3 := (Option.some.inj hb5).symm
      subst hb5'
      have hwb : IntKind.i64.wrap (b5.toNat : Int) = (b5.toNat : Int) := w64 (by omega)
      rw [hwb] at hw11
      rw [hw10] at hw11
      have hw12 : IntKind.i64.wrap (10 + (b5.toNat : Int)) = ((10 + b5.toNat : Nat) : Int) := by rw [w64 (by omega)]; omega
      have hw13 : IntKind.i64.wrap (((a + 1 : Nat) : Int) + ((10 + b5.toNat : Nat) : Int)) = ((a + 11 + b5.toNat : Nat) : Int) := by rw [w64 (by omega)]; omega
      refine And.intro (by rw [hwb, hw10, hw11]; refine ⟨⟨?_, ?_⟩, ?_⟩ <;> omega) ?_
      rw [hwb, hw10, hw11]
      obtain ⟨o, ho⟩ : ∃ o : Old, o = ⟨true, UInt16.ofNat (getNum p.toList (a + 1 : Nat) 2), UInt32.ofNat (getNum p.toList (a + 3 : Nat) 4), ⟨UInt16.ofNat (getNum p.toList (a + 7 : Nat) 2), b4⟩, (p.toList.take (a + 11 + b5.toNat)).drop (a + 11)⟩ := ⟨_, rfl⟩
      have hst : stepRec p.toList a = some (o, a + 11 + b5.toNat) := by
        rw [ho]; simp [stepRec, g3, hb', g6, hb3', g7, hb4']
      rw [hst] at hstep
      simp only at hstep
      have hodl : o.delta.length ≤ 224 := by rw [ho]; simp; omega
      refine And.intro (by omega) ?_
      refine And.intro (fun _ => rfl) ?_
      refine And.intro (by omega) ?_
      refine And.intro (by omega) ?_
      have hw2 : IntKind.i64.wrap (((a + 1 : Nat) : Int) + 2) = ((a + 3 : Nat) : Int) := by rw [w64 (by omega)]; omega
      have hw6 : IntKind.i64.wrap (((a + 1 : Nat) : Int) + 6) = ((a + 7 : Nat) : Int) := by rw [w64 (by omega)]; omega
      refine ⟨Old, encOld, olds ++ [o], ?_, encOK_old, ?_, ?_⟩
      · have : (List.drop 0 olds).take olds.length = olds := by simp
        refine ⟨by rw [this]; simp, fun R => congrArg (cellsL R) ?_⟩
        rw [this, List.map_append, ho]
        simp only [List.map_cons, List.map_nil, encOld, encRef, u16_wrap, u32_wrap, hw2, hw6]
        rfl
      · have : Try.prog.bytesOf 33 = 32 := by kernel_rfl
        rw [this]
        simp only [List.length_append, List.length_cons, List.length_nil]
        omega
      intro cap' hcap'
      refine ⟨(i + 1, olds ++ [o], a + 11 + b5.toNat, cap'), ⟨⟨by show i + 1 ≤ c.toNat; omega, by simp [hol], by show a + 11 + b5.toNat ≤ 224; omega, by show i + 1 ≤ cap'; simp at hcap'; omega, ?_, ?_⟩, by show c.toNat - (i + 1) < c.toNat - i; omega⟩, [0, 1, 2, 6], ?_⟩
      · rw [hrec, hstep]
      · intro x hx
        rcases List.mem_append.1 hx with h | h
        · exact hdl x h
        · rw [List.mem_singleton.1 h]; exact hodl
      refine ⟨Eqv.rfl, Eqv.rfl, Eqv.rfl, Eqv.rfl, Eqv.rfl, Eqv.of ?_, Eqv.rfl, Eqv.of ?_, EqvO.rfl, EqvO.rfl, EqvO.rfl, EqvO.rfl, trivial⟩
      · rw [hw12, hw13]; rfl
      · rw [w64 (by omega)]; rfl
    · have g5 : b2 ≠ 1 := fun h => by subst h; simp at h5
      rw [hw1]
      have hst : stepRec p.toList a = some (zeroOld, a + 1) := by simp [stepRec, g3, hb', g4, g5]
      rw [hst] at hstep
      simp only at hstep
      refine And.intro (by omega) ?_
      refine And.intro (fun _ => rfl) ?_
      refine And.intro (by omega) ?_
      refine And.intro (by omega) ?_
      refine ⟨Old, encOld, olds ++ [zeroOld], ?_, encOK_old, ?_, ?_⟩
      · have : (List.drop 0 olds).take olds.length = olds := by simp
        refine ⟨by rw [this]; simp, fun R => congrArg (cellsL R) ?_⟩
        rw [this, List.map_append, h5]; rfl
      · have : Try.prog.bytesOf 33 = 32 := by kernel_rfl
        rw [this]
        simp only [List.length_append, List.length_cons, List.length_nil]
        omega
      intro cap' hcap'
      refine ⟨(i + 1, olds ++ [zeroOld], a + 1, cap'), ⟨⟨by show i + 1 ≤ c.toNat; omega, by simp [hol], by show a + 1 ≤ 224; omega, by show i + 1 ≤ cap'; simp at hcap'; omega, ?_, ?_⟩, by show c.toNat - (i + 1) < c.toNat - i; omega⟩, [0, 1, 2, 6], ?_⟩
      · rw [hrec, hstep]
      · intro o ho
        rcases List.mem_append.1 ho with h | h
        · exact hdl o h
        · rw [List.mem_singleton.1 h]; simp [zeroOld]
      refine ⟨Eqv.rfl, Eqv.rfl, Eqv.rfl, Eqv.rfl, Eqv.rfl, Eqv.rfl, Eqv.rfl, Eqv.of ?_, EqvO.rfl, EqvO.rfl, EqvO.rfl, EqvO.rfl, trivial⟩
      rw [w64 (by omega)]; rfl
  · have g2 := of_decide_eq_false h2
    have hic : i = c.toNat := by omega
    have hrec' : recsFrom p.toList c.toNat 16 [] = some (olds, a) := by rw [hrec, hic, Nat.sub_self]; rfl
    have hlen : p.toList.length = 224 := by simp
    refine LoopN.of Nat (fun k => a ≤ k ∧ k ≤ 224 ∧ ((p.toList.drop a).take (k - a)).all (fun c => c == 0) = true) (fun k => 224 - k) (fun k => ⟨slotsOf 146 [(3, .ptr 0 []), (4, .ptr 1 []), (5, .int .i64 0), (6, .str p.toList), (7, .ptr 2 []), (8, .int .i64 k)],
      [.var 23 (.bytes 224 p), .var 139 z139, .var 139 (.st [.int .u64 (lsnI p), .slc 3 [] 6 0 olds.length cap]), oldsO olds cap]⟩) (fun _ => Nat.zero_le _) a ⟨Nat.le_refl _, ha, by simp⟩ ?_ ?_
    · exact ⟨Eqv.rfl, Eqv.rfl, Eqv.rfl, Eqv.rfl, Eqv.rfl, Eqv.rfl, EqvO.rfl, EqvO.rfl, EqvO.rfl, EqvO.rfl, trivial⟩
    rintro k ⟨hka, hk, hall⟩
    refine And.intro (fun h3 => ?_) (fun h3 => ?_)
    · have g3 : k < 224 := by have := of_decide_eq_true h3; omega
      refine And.intro ⟨by omega, by omega⟩ ?_
      intro b hb
      have hb' : p.toList[k]? = some b := by simpa using hb
      have hb2 : (p.toList.drop a)[k - a]? = some b := by rw [List.getElem?_drop, show a + (k - a) = k by omega]; exact hb'
      refine And.intro (fun h4 => ?_) (fun h4 => ?_)
      · have hne : b ≠ 0 := fun h => by subst h; simp at h4
        have hg : getUndo no p = none := by
          have : bareFrom p.toList a = false := by
            unfold bareFrom
            rw [List.all_eq_false]
            exact ⟨b, List.mem_of_getElem? hb2, by simpa using hne⟩
          simp only [getUndo, h1, if_true, hc0, hrec', this, Bool.false_and, Bool.false_eq_true, if_false]
        rw [hg]
        exact ⟨[], _, _, ⟨rfl, rfl⟩, trivial, Eqv.rfl, trivial⟩
      · have hb0 : b = 0 := by
          have : (b.toNat : Int) = 0 := by simpa using h4
          exact UInt8.toNat_inj.1 (by simpa using this)
        refine ⟨k + 1, ⟨⟨by omega, by omega, ?_⟩, by omega⟩, Eqv.rfl, Eqv.rfl, Eqv.rfl, Eqv.rfl, Eqv.rfl, Eqv.of ?_, EqvO.rfl, EqvO.rfl, EqvO.rfl, EqvO.rfl, trivial⟩
        · rw [show k + 1 - a = (k - a) + 1 by omega, List.take_add_one, hb2]
          simp [hall, hb0]
        · rw [w64 (by omega)]; rfl
    · have g3 : k = 224 := by have := of_decide_eq_false h3; omega
      subst g3
      have hbare : bareFrom p.toList a = true := by
        unfold bareFrom
        rwa [List.take_of_length_le (by simp)] at hall
      have hlsn : (lsnI p : Int) = (UInt64.ofNat (lsnI p)).toNat := (u64_of (lsnI_lt p)).symm
      rw [hlsn]
      refine (f110 (UInt64.ofNat (lsnI p)) olds cap (by unfold Short; omega) (fun o ho => by have := hdl o ho; unfold Short; omega)).c [3] rfl (fun _ => rfl) (by exact ⟨EqvS.rfl, trivial⟩) ?_
      refine And.intro (fun h4 => ?_) (fun h4 => ?_)
      · have hm : mayU olds = false := by simpa using h4
        have hg : getUndo no p = none := by simp only [getUndo, h1, if_true, hc0, hrec', hbare, hm, Bool.and_false, Bool.false_eq_true, if_false]
        rw [hg]
        exact ⟨[], _, _, ⟨rfl, rfl⟩, trivial, Eqv.rfl, trivial⟩
      · have hm : mayU olds = true := by simpa using h4
        have hg : getUndo no p = some olds := by simp only [getUndo, h1, if_true, hc0, hrec', hbare, hm, Bool.and_self]
        rw [hg]
        exact ⟨[3], _, _, ⟨cap, rfl, rfl⟩, trivial, Eqv.rfl, EqvO.rfl, trivial⟩
end Go.Proofs.Ytjdpjimdoknlnaa.E
