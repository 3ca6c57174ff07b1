/- How the arguments' types read. -/
import Derived.Test.YtdgnnboljgpcmaaZero
import Derived.Test.YtdgnnboljgpcmaaEngX
namespace Go.Proofs.Ytdgnnboljgpcmaa.E
open Go
set_option maxRecDepth 4000
theorem d5 : DecOK Try.prog 5 (fun c : UInt8 => .int .u8 c.toNat) (fun _ => True) := dec_u8 (by kernel_rfl)
theorem d39 : DecOK Try.prog 39 (fun c : UInt32 => .int .u32 c.toNat) (fun _ => True) := dec_u32 (by kernel_rfl)
theorem d65 : DecOK Try.prog 65 (fun c : UInt64 => .int .u64 c.toNat) (fun _ => True) := dec_u64 (by kernel_rfl)
theorem d3 : DecOK Try.prog 3 (fun n : Int => .int .i64 n) (fun n => -9223372036854775808 ≤ n ∧ n ≤ 9223372036854775807) := dec_int (by kernel_rfl)
theorem laidOut : laidOutB Try.prog = true := by kernel_rfl
theorem own : ownKnob Try.prog.godebug = none := by kernel_rfl
end Go.Proofs.Ytdgnnboljgpcmaa.E
