import Derived.Test.YtjdpjimdoknlnaaWf
namespace Go.Proofs.Ytjdpjimdoknlnaa.E
open Go
set_option maxRecDepth 4000
/-- A record of an undo page, as bytes. -/
def recB (o : Old) : Bytes :=
  if o.live then [1] ++ putL o.page.toNat 2 ++ putL o.ts.toNat 4 ++ putL o.next.page.toNat 2 ++ [o.next.slot, UInt8.ofNat o.delta.length] ++ o.delta else [0]
theorem recB_length (o : Old) : (recB o).length = oldSize o := by
  unfold recB oldSize
  split <;> simp [putL_length]; omega
theorem putB2 (v : Nat) : putB v 2 = putL v 2 := rfl
theorem putB4 (v : Nat) : putB v 4 = putL v 4 := rfl
theorem putB8 (v : Nat) : putB v 8 = putL v 8 := rfl
def layRecs : Payload → Nat → List Old → Payload
  | p, _, [] => p
  | p, i, o :: r => layRecs (splice p i (recB o)) (i + oldSize o) r
theorem layRecs_snoc : ∀ (p : Payload) (i : Nat) (l : List Old) (o : Old), layRecs p i (l ++ [o]) = splice (layRecs p i l) (i + (l.map oldSize).sum) (recB o)
  | p, i, [], o => by simp [layRecs]
  | p, i, x :: l, o => by
    simp only [List.cons_append, layRecs, List.map_cons, List.sum_cons]
    rw [layRecs_snoc _ _ l o, Nat.add_assoc]
def undo0 (olds : List Old) : Payload := (Vector.replicate 224 0 : Payload).setIfInBounds 15 (UInt8.ofNat olds.length)
def putUndoP (no : UInt16) (lsn : UInt64) (olds : List Old) : Payload := sealP 2 no lsn.toNat (layRecs (undo0 olds) 16 olds)
def putUndo (no : UInt16) (lsn : UInt64) (olds : List Old) : Option Payload := if mayU olds then some (putUndoP no lsn olds) else none
abbrev encPay (p : Payload) : D := .bytes 224 p
abbrev zeroPay : Payload := Vector.replicate 224 0
theorem tame_of_may {olds : List Old} (h : mayU olds = true) : Tame olds ∧ sizeU olds ≤ 224 := by
  simp only [mayU, Bool.and_eq_true, decide_eq_true_eq, List.all_eq_true, mayOld] at h
  exact ⟨⟨h.1.1.1, fun o ho => (h.1.2 o ho).2⟩, h.2⟩
theorem f103 (no : UInt16) (lsn : UInt64) (olds : List Old) (cap : Nat) (hs : Short olds) (hd : ∀ o ∈ olds, Short o.delta) :
    Rd Try.prog 103 [.int .u16 no.toNat, undoD lsn 0 olds.length cap] [oldsO olds cap] (orErr encPay zeroPay 1 (putUndo no lsn olds)) := by
  refine ⟨by cases putUndo no lsn olds <;> rfl, callAt_of_exec zeros mixed (fn := Try.f103) rfl rfl rfl (by rintro _ _ ⟨rfl, rfl⟩; exact Nat.le_refl _) ?_⟩
  refine (f110 lsn olds cap hs hd).c [0] rfl (fun _ => rfl) (by exact ⟨EqvS.rfl, trivial⟩) ?_
  refine And.intro (fun h1 => ?_) (fun h1 => ?_)
  · have h1 : mayU olds = false := by simpa using h1
    have hg : putUndo no lsn olds = none := by simp [putUndo, h1]
    rw [hg]
    exact ⟨_, _, ⟨rfl, rfl⟩, Eqv.rfl, EqvO.rfl, closedOld, trivial⟩
  have h1 : mayU olds = true := by simpa using h1
  have hg : putUndo no lsn olds = some (putUndoP no lsn olds) := by simp [putUndo, h1]
  rw [hg]
  obtain ⟨ht, hz⟩ := tame_of_may h1
  refine And.intro (by decide) ?_
  refine And.intro (by decide) ?_
  refine And.intro ?_ ?_
  · have := range_u64
    rw [IntKind.wrap_u8]; omega
  refine LoopN.of Nat (fun j => j ≤ olds.length) (fun j => olds.length - j) (fun j => ⟨slotsOf 70 [(0, .int .u16 no.toNat), (3, .ptr 1 []), (4, .ptr 2 []), (5, .int .i64 0), (6, .ptr 3 []), (7, .int .i64 (sizeU (olds.take j))), (21, .slc 0 [] 6 0 olds.length cap), (22, .int .i64 olds.length), (23, .int .i64 j)],
    [oldsO olds cap, .var 139 (undoD lsn 0 olds.length cap), .var 23 (.bytes 224 zeroPay), .var 23 (.bytes 224 (layRecs (undo0 olds) 16 (olds.take j)))]⟩) (fun _ => Nat.le_of_ble_eq_true rfl) 0 (Nat.zero_le _) ?_ ?_
  · refine ⟨Eqv.rfl, Eqv.rfl, Eqv.rfl, Eqv.rfl, Eqv.rfl, Eqv.rfl, Eqv.rfl, Eqv.rfl, Eqv.rfl, EqvO.rfl, EqvO.rfl, EqvO.rfl, EqvO.var (Eqv.of ?_), trivial⟩
    have : toB (IntKind.wrap .u8 (olds.length : Int)) = UInt8.ofNat olds.length := by rw [← toB_u8, toB_nat]
    rw [this]; rfl
  intro j hj
  have hsum : ∀ m, sizeU (olds.take m) ≤ 224 := fun m => by
    have : ∀ (l : List Old) (m : Nat), ((l.take m).map oldSize).sum ≤ (l.map oldSize).sum := by
      intro l
      induction l with
      | nil => intro m; simp
      | cons o l ih => intro m; cases m with
        | zero => simp
        | succ m => simp only [List.take_succ_cons, List.map_cons, List.sum_cons]; have := ih m; omega
    have := this olds m
    simp only [sizeU] at hz ⊢; omega
  refine And.intro (fun h2 => ?_) (fun h2 => ?_)
  · have g2 := of_decide_eq_true h2
    have hlt : j < olds.length := by omega
    refine JoinAt.through ?_
    refine And.intro ⟨by omega, by omega⟩ ?_
    refine And.intro (by omega) ?_
    refine And.intro (by omega) ?_
    intro o ho
    have ho' : olds[j]? = some o := by simpa using ho
    have hmem : o ∈ olds := List.mem_of_getElem? ho'
    have hdl := ht.2 o hmem
    have hstep : sizeU (olds.take (j + 1)) = sizeU (olds.take j) + oldSize o := by
      simp only [sizeU, List.take_add_one, ho', Option.toList_some, List.map_append, List.sum_append, List.map_cons, List.map_nil, List.sum_cons, List.sum_nil]; omega
    have hfit := hsum (j + 1)
    have hlay : layRecs (undo0 olds) 16 (olds.take (j + 1)) = splice (layRecs (undo0 olds) 16 (olds.take j)) (sizeU (olds.take j)) (recB o) := by
      rw [List.take_add_one, ho', Option.toList_some, layRecs_snoc]; rfl
    have hlen := recB_length o
    have hwj : D.int .i64 (IntKind.wrap .i64 ((j : Int) + 1)) = D.int .i64 ((j + 1 : Nat) : Int) := by rw [w64 (by omega)]; rfl
    refine JoinAt.through ?_
    refine And.intro (fun h3 => ?_) (fun h3 => ?_)
    · refine DrawAt.mixed [0, 1, 2, 3, 4, 5, 6, 7, 8, 9, 10, 11, 12, 13, 14, 15, 16, 17, 18, 19, 20, 21, 22, 26, 27] [23, 24, 25, 28, 29] [] (by kernel_rfl) ?_
      refine (f116i _ (range_u64 _) _).q ?_
      refine And.intro (by rw [putB2]; simp [putL_length, maxI]) ?_
      refine (f116i _ (range_u64 _) _).q ?_
      refine And.intro (by rw [putB2, putB4]; simp [putL_length, maxI]) ?_
      refine (f116i _ (range_u64 _) _).q ?_
      refine And.intro (by rw [putB2, putB4, putB2]; simp [putL_length, maxI]) ?_
      refine ⟨[o.next.slot, UInt8.ofNat o.delta.length], by simp only [List.map_cons, List.map_nil, byteD, toB_u8], ?_⟩
      refine And.intro (by rw [putB2, putB4, putB2]; simp [putL_length, maxI]) ?_
      refine And.intro (by rw [putB2, putB4, putB2]; simp [putL_length, maxI]; omega) ?_
      have hos : oldSize o = 11 + o.delta.length := by simp [oldSize, h3]
      have hrec : ({ data := #[1] } : ByteArray).data.toList ++ putB (IntKind.wrap .u64 (o.page.toNat : Int)).toNat 2 ++ putB (IntKind.wrap .u64 (o.ts.toNat : Int)).toNat 4 ++ putB (IntKind.wrap .u64 (o.next.page.toNat : Int)).toNat 2 ++ [o.next.slot, UInt8.ofNat o.delta.length] ++ o.delta = recB o := by
        rw [putB2, putB4, putB2, w_u16_64, w_u16_64, w_u32_64]; simp [recB, h3]
      rw [hrec]
      refine And.intro ⟨by omega, by omega⟩ (And.intro (fun _ => ?_) (fun h => by omega))
      refine ⟨_, rfl, ?_⟩
      refine And.intro (by omega) ?_
      have htk : (recB o).take (224 - (sizeU (olds.take j) : Int).toNat) = recB o := List.take_of_length_le (by rw [hlen]; omega)
      refine ⟨j + 1, ⟨by omega, by omega⟩, Eqv.rfl, Eqv.rfl, Eqv.rfl, Eqv.rfl, Eqv.rfl, Eqv.of ?_, Eqv.rfl, Eqv.rfl, Eqv.of hwj, EqvO.rfl, closedOld, EqvO.rfl, EqvO.rfl, EqvO.of ?_, trivial⟩
      · rw [htk, hlen, hstep, w64 (by omega)]; rfl
      · rw [htk, hlay]; rfl
    · have hos : oldSize o = 1 := by simp [oldSize, h3]
      have hrec : ({ data := #[0] } : ByteArray).data.toList = recB o := by simp [recB, h3]
      rw [hrec]
      refine And.intro ⟨by omega, by omega⟩ (And.intro (fun _ => ?_) (fun h => by omega))
      refine ⟨_, rfl, ?_⟩
      refine And.intro (by omega) ?_
      have htk : (recB o).take (224 - (sizeU (olds.take j) : Int).toNat) = recB o := List.take_of_length_le (by rw [hlen]; omega)
      refine ⟨j + 1, ⟨by omega, by omega⟩, Eqv.rfl, Eqv.rfl, Eqv.rfl, Eqv.rfl, Eqv.rfl, Eqv.of ?_, Eqv.rfl, Eqv.rfl, Eqv.of hwj, EqvO.rfl, closedOld, EqvO.rfl, EqvO.rfl, EqvO.of ?_, trivial⟩
      · rw [htk, hlen, hstep, w64 (by omega)]; rfl
      · rw [htk, hlay]; rfl
  · have g2 := of_decide_eq_false h2
    have : olds.take j = olds := List.take_of_length_le (by omega)
    rw [this]
    refine (f134 2 _ _ lsn.toNat_lt _).c ?_
    exact ⟨_, _, ⟨rfl, rfl⟩, Eqv.rfl, EqvO.rfl, closedOld, trivial⟩
end Go.Proofs.Ytjdpjimdoknlnaa.E
