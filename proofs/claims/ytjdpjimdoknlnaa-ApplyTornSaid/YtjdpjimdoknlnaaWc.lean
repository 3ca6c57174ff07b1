import Derived.Test.YtjdpjimdoknlnaaWb
namespace Go.Proofs.Ytjdpjimdoknlnaa.E
open Go
set_option maxRecDepth 4000
/-! ### What pages hold -/
structure Ref where
  page : UInt16
  slot : UInt8
deriving DecidableEq
structure Data where
  lsn : UInt64
  ts : UInt32
  prev : Ref
  body : Vector UInt8 64
deriving DecidableEq
def encRef (r : Ref) : D := .st [.int .u16 r.page.toNat, .int .u8 r.slot.toNat]
def encData (d : Data) : D := .st [.int .u64 d.lsn.toNat, .int .u32 d.ts.toNat, encRef d.prev, .bytes 64 d.body]
theorem w_u16_64 (x : UInt16) : (IntKind.wrap .u64 (x.toNat : Int)).toNat = x.toNat := by have := x.toNat_lt; rw [IntWalk.u64_in _ (by omega)]; rfl
theorem w_u32_64 (x : UInt32) : (IntKind.wrap .u64 (x.toNat : Int)).toNat = x.toNat := by have := x.toNat_lt; rw [IntWalk.u64_in _ (by omega)]; rfl
def putDataP (no : UInt16) (d : Data) : Payload :=
  let p : Payload := Vector.replicate 224 0
  let p := laid p 15 (putL d.ts.toNat 4)
  let p := laid p 19 (putL d.prev.page.toNat 2)
  let p := p.setIfInBounds 21 d.prev.slot
  let p := laid p 22 d.body.toList
  sealP 1 no d.lsn.toNat p
theorem f104 (no : UInt16) (d : Data) : Pure Try.prog 104 [.int .u16 no.toNat, encData d] (.bytes 224 (putDataP no d)) := by
  refine ⟨fun _ _ => rfl, fun _ _ => rfl, rfl, callAt_of_exec zeros mixed (fn := Try.f104) rfl rfl rfl (by rintro _ _ ⟨rfl, rfl⟩; exact Nat.le_refl _) ?_⟩
  refine DrawAt.tail 5 (by kernel_rfl) ?_
  refine And.intro (by decide) (And.intro (fun _ => ?_) (fun h => absurd h (by decide)))
  refine (f116i _ (range_u64 _) _).q ?_
  refine ⟨_, rfl, ?_⟩
  refine And.intro (by decide) ?_
  refine DrawAt.tail 6 (by kernel_rfl) ?_
  refine And.intro (by decide) (And.intro (fun _ => ?_) (fun h => absurd h (by decide)))
  refine (f116i _ (range_u64 _) _).q ?_
  refine ⟨_, rfl, ?_⟩
  refine And.intro (by decide) ?_
  refine And.intro (by decide) ?_
  refine And.intro (by decide) ?_
  refine And.intro (by have := d.prev.slot.toNat_lt; omega) ?_
  refine DrawAt.tail 3 (by kernel_rfl) ?_
  refine And.intro (by decide) (And.intro (fun _ => ?_) (fun h => absurd h (by decide)))
  refine And.intro (by decide) ?_
  refine ⟨d.body.toList, by simp [List.take_of_length_le], ?_⟩
  refine And.intro (by decide) ?_
  refine (f134 1 _ _ d.lsn.toNat_lt _).c ?_
  refine ⟨_, _, ⟨rfl, rfl⟩, Eqv.of ?_, trivial⟩
  simp only [w_u16_64, w_u32_64, toB_nat]
  rfl
end Go.Proofs.Ytjdpjimdoknlnaa.E
