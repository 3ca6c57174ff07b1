/- How the arguments' types read: scripts. -/
import Derived.Test.YtdgnnboljgpcmaaOh
import Derived.Test.YtdgnnboljgpcmaaDec
namespace Go.Proofs.Ytdgnnboljgpcmaa.E
open Go
set_option maxRecDepth 4000




theorem c3 : Try.prog.cellsOf 3 = 1 := by kernel_rfl
theorem c65 : Try.prog.cellsOf 65 = 1 := by kernel_rfl
theorem c67 : Try.prog.cellsOf 67 = 2 := by kernel_rfl
theorem d67 : DecOK Try.prog 67 encOp (fun x => -9223372036854775808 ≤ x.1 ∧ x.1 ≤ 9223372036854775807) :=
  DecOK.st (l := [(3, 0), (65, 1)]) (by kernel_rfl) (.cons d3 c3 (fun _ => rfl) (.cons d65 c65 (fun _ => rfl) .nil)) (fun b => ⟨b.1, b.2.1⟩) (fun _ => rfl) (fun _ => c67.symm) (fun _ h => h.1)


end Go.Proofs.Ytdgnnboljgpcmaa.E
