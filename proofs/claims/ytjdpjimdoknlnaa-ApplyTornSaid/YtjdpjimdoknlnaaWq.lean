import Derived.Test.YtjdpjimdoknlnaaWp
namespace Go.Proofs.Ytjdpjimdoknlnaa.E
open Go
set_option maxRecDepth 4000
structure Rec where
  kind : UInt8
  page : PageID
  image : Payload
  ts : UInt32
  prev : Ref
  delta : Bytes
  slot : UInt8
  old : Old
deriving DecidableEq
structure Entry where
  lsn : UInt64
  r : Rec
deriving DecidableEq
def encRec (r : Rec) : D := .st [.int .u8 r.kind.toNat, encID r.page, .bytes 224 r.image, .int .u32 r.ts.toNat, encRef r.prev, .str r.delta, .int .u8 r.slot.toNat, encOld r.old]
def encEntry (e : Entry) : D := .st [.int .u64 e.lsn.toNat, encRec e.r]
def zeroRef : Ref := ⟨0, 0⟩
def zeroRec : Rec := ⟨0, ⟨false, 0⟩, zeroPay, 0, zeroRef, [], 0, zeroOld⟩
def bareR (r : Rec) : Rec :=
  if r.kind = 1 then { zeroRec with kind := r.kind, page := r.page, image := r.image } else
  if r.kind = 2 then { zeroRec with kind := r.kind, page := ⟨false, r.page.no⟩, ts := r.ts, prev := r.prev, delta := r.delta } else
  if r.kind = 3 then { zeroRec with kind := r.kind, page := ⟨true, r.page.no⟩, slot := r.slot, old := { r.old with live := true } } else
  if r.kind = 4 then { zeroRec with kind := r.kind, page := ⟨true, r.page.no⟩, slot := r.slot } else
  if r.kind = 5 then { zeroRec with kind := r.kind, page := ⟨true, r.page.no⟩, slot := r.slot } else
  if r.kind = 6 then { zeroRec with kind := r.kind, ts := r.ts } else { zeroRec with kind := r.kind }
theorem u8_is {c k : UInt8} (h : decide ((c.toNat : Int) = k.toNat) = true) : c = k := UInt8.toNat_inj.1 (by have := of_decide_eq_true h; omega)
theorem u8_not {c k : UInt8} (h : decide ((c.toNat : Int) = k.toNat) = false) : c ≠ k := fun e => of_decide_eq_false h (by rw [e])
set_option maxHeartbeats 4000000 in
theorem f138 (r : Rec) : Pure Try.prog 138 [encRec r] (encRec (bareR r)) := by
  refine ⟨fun _ _ => rfl, fun _ _ => rfl, rfl, callAt_of_exec zeros mixed (fn := Try.f138) rfl rfl rfl (by rintro _ _ ⟨rfl, rfl⟩; exact Nat.le_refl _) ?_⟩
  repeat refine JoinAt.through ?_
  refine And.intro (fun h1 => ?_) (fun h1 => ?_)
  · have g1 : r.kind = 1 := u8_is (k := 1) h1
    refine DrawAt.mixed [0, 1, 2, 3] [4, 5, 6, 7] [2] (by kernel_rfl) ?_
    refine ⟨_, _, ⟨rfl, rfl⟩, fun R => ?_, trivial⟩
    rw [bareR, if_pos g1]
    rfl
  have g1 : r.kind ≠ 1 := u8_not (k := 1) h1
  refine And.intro (fun h2 => ?_) (fun h2 => ?_)
  · have g2 : r.kind = 2 := u8_is (k := 2) h2
    refine DrawAt.mixed [0, 1, 2, 3, 4, 5, 6, 7, 8] [9, 10, 11, 12, 13, 14, 15, 16, 17] [2] (by kernel_rfl) ?_
    refine ⟨_, _, ⟨rfl, rfl⟩, fun R => ?_, trivial⟩
    rw [bareR, if_neg g1, if_pos g2]
    rfl
  have g2 : r.kind ≠ 2 := u8_not (k := 2) h2
  refine And.intro (fun h3 => ?_) (fun h3 => ?_)
  · have g3 : r.kind = 3 := u8_is (k := 3) h3
    refine DrawAt.mixed [0, 1, 2, 3, 4, 5] [6, 7, 8, 9] [2] (by kernel_rfl) ?_
    refine ⟨_, _, ⟨rfl, rfl⟩, fun R => ?_, trivial⟩
    rw [bareR, if_neg g1, if_neg g2, if_pos g3]
    rfl
  have g3 : r.kind ≠ 3 := u8_not (k := 3) h3
  repeat refine JoinAt.through ?_
  refine And.intro (fun h4 => ?_) (fun h4 => ?_)
  · have g4 : r.kind = 4 := u8_is (k := 4) h4
    refine DrawAt.mixed [0, 1, 2, 3, 4, 5] [6, 7, 8, 9] [2] (by kernel_rfl) ?_
    refine ⟨_, _, ⟨rfl, rfl⟩, fun R => ?_, trivial⟩
    rw [bareR, if_neg g1, if_neg g2, if_neg g3, if_pos g4]
    rfl
  have g4 : r.kind ≠ 4 := u8_not (k := 4) h4
  refine And.intro (fun h5 => ?_) (fun h5 => ?_)
  · have g5 : r.kind = 5 := u8_is (k := 5) h5
    refine DrawAt.mixed [0, 1, 2, 3, 4, 5] [6, 7, 8, 9] [2] (by kernel_rfl) ?_
    refine ⟨_, _, ⟨rfl, rfl⟩, fun R => ?_, trivial⟩
    rw [bareR, if_neg g1, if_neg g2, if_neg g3, if_neg g4, if_pos g5]
    rfl
  have g5 : r.kind ≠ 5 := u8_not (k := 5) h5
  refine And.intro (fun h6 => ?_) (fun h6 => ?_)
  · have g6 : r.kind = 6 := u8_is (k := 6) h6
    refine ⟨_, _, ⟨rfl, rfl⟩, fun R => ?_, trivial⟩
    rw [bareR, if_neg g1, if_neg g2, if_neg g3, if_neg g4, if_neg g5, if_pos g6]
    rfl
  have g6 : r.kind ≠ 6 := u8_not (k := 6) h6
  refine ⟨_, _, ⟨rfl, rfl⟩, fun R => ?_, trivial⟩
  rw [bareR, if_neg g1, if_neg g2, if_neg g3, if_neg g4, if_neg g5, if_neg g6]
  rfl
end Go.Proofs.Ytjdpjimdoknlnaa.E
