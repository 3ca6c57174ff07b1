/- WsetNone, walked; a script's writings. -/
import Derived.Test.YtdgnnboljgpcmaaSc
import Derived.Test.YtdgnnboljgpcmaaDec
namespace Go.Proofs.Ytdgnnboljgpcmaa.E
open Go
set_option maxRecDepth 4000
structure WOp where
  page : UInt16
  base : Body
  off : Int
  s : Bytes
abbrev encW (o : WOp) : D := .st [kP o.page, .bytes 64 o.base, .int .i64 o.off, .str o.s]
set_option maxHeartbeats 4000000 in
theorem f6 (o : WOp) : Pure Try.prog 6 [encW o] .tt := by
  refine ⟨fun _ _ => rfl, fun _ _ => rfl, rfl, callAt_of_execR zeros mixed (fn := Try.f6) rfl rfl rfl ?_⟩
  refine (f15n o.page).c ?_
  refine (f13n o.page o.base o.off o.s).c ?_
  refine And.intro (fun _ => ?_) (fun h => absurd h (by decide))
  refine And.intro (fun _ => ?_) (fun h => absurd h (by decide))
  refine (f24n o.page).c ?_
  refine And.intro (fun _ => ?_) (fun h => absurd h (by decide))
  refine f14n.c ?_
  refine And.intro (fun _ => ?_) (fun h => absurd h (by decide))
  refine f16.c ?_
  exact ⟨[], _, _, ⟨rfl, rfl⟩, trivial, Eqv.rfl, trivial⟩
/-! ### How a writing reads -/
theorem d23 : DecOK Try.prog 23 (fun c : UInt16 => .int .u16 c.toNat) (fun _ => True) := dec_u16 (by kernel_rfl)
theorem d25 : DecOK Try.prog 25 (fun v : Body => .bytes 64 v) (fun _ => True) := dec_bytes (e := 5) (by kernel_rfl) (by kernel_rfl) (by kernel_rfl) (by kernel_rfl)
theorem d9 : DecOK Try.prog 9 (fun s : Bytes => .str s) (fun s => s.length ≤ 9223372036854775807) := dec_str (by kernel_rfl)
theorem k3 : Try.prog.cellsOf 3 = 1 := by kernel_rfl
theorem k9 : Try.prog.cellsOf 9 = 1 := by kernel_rfl
theorem k23 : Try.prog.cellsOf 23 = 1 := by kernel_rfl
theorem k25 : Try.prog.cellsOf 25 = 64 := by kernel_rfl
theorem k27 : Try.prog.cellsOf 27 = 67 := by kernel_rfl
theorem d27 : DecOK Try.prog 27 encW (fun o => o.s.length ≤ 9223372036854775807) :=
  DecOK.st (l := [(23, 0), (25, 1), (3, 65), (9, 66)]) (by kernel_rfl) (.cons d23 k23 (fun _ => rfl) (.cons d25 k25 (fun _ => rfl) (.cons d3 k3 (fun _ => rfl) (.cons d9 k9 (fun _ => rfl) .nil))))
    (fun b => ⟨b.1, b.2.1, b.2.2.1, b.2.2.2.1⟩) (fun _ => rfl) (fun _ => k27.symm) (fun _ h => h.2.2.2.1)
end Go.Proofs.Ytdgnnboljgpcmaa.E
