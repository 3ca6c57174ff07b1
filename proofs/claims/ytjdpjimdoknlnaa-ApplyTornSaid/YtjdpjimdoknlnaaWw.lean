import Derived.Test.YtjdpjimdoknlnaaWv
import Derived.Test.YtjdpjimdoknlnaaPb
namespace Go.Proofs.Ytjdpjimdoknlnaa.E
open Go
set_option maxRecDepth 4000
theorem f73_some {id : PageID} {p : Payload} {e : Entry} {q : Payload} (h : redo id p e = some q) : Pure Try.prog 73 [encID id, .bytes 224 p, encEntry e] (.tup [.bytes 224 q, .int .i64 0]) :=
  ⟨fun _ _ => rfl, fun _ _ => rfl, rfl, by have := f73 id p e; rw [h] at this; exact this⟩
set_option maxHeartbeats 4000000 in
theorem f18 : Pure Try.prog 18 [] .tt := by
  refine ⟨fun _ _ => rfl, fun _ _ => rfl, rfl, callAt_of_exec zeros mixed (fn := Try.f18) rfl rfl rfl (by rintro _ _ ⟨rfl, rfl⟩; exact Nat.le_refl _) ?_⟩
  refine DrawAt.mixed [0, 1, 2, 3, 4, 5, 6, 7, 8, 9] [10, 11, 12] [] (by kernel_rfl) ?_
  refine QCallAt.conv (ds' := [encID awakeId]) (fun _ => rfl) ((f62 awakeId).q ?_)
  refine QCallAt.conv (ds' := [encID awakeId, .bytes 224 (blank awakeId), encEntry awakeE]) (fun _ => rfl) ((f73_some awake_redo).q ?_)
  have hc := f71 awakeId.no (putDataP awakeId.no ⟨9, 4, zeroRef, zeroBody⟩)
  rw [putData_right] at hc
  refine CallAt.conv (ds' := [.int .u16 awakeId.no.toNat, .bytes 224 (putDataP awakeId.no ⟨9, 4, zeroRef, zeroBody⟩)]) (fun _ => rfl) (hc.c ?_)
  refine And.intro (fun _ => ?_) (fun h => absurd h (by decide))
  refine And.intro (fun _ => ?_) (fun h => absurd h (by decide))
  refine And.intro (fun _ => ?_) (fun h => absurd h (by decide))
  exact ⟨_, _, ⟨rfl, rfl⟩, fun R => rfl, trivial⟩
end Go.Proofs.Ytjdpjimdoknlnaa.E
