import Derived.Test.YtjdpjimdoknlnaaWq
import Derived.Test.YtjdpjimdoknlnaaEngX
namespace Go.Proofs.Ytjdpjimdoknlnaa.E
open Go
set_option maxRecDepth 4000
/-! ### How the arguments' types read -/
theorem d4 : DecOK Try.prog 4 (fun b : Bool => .bool b) (fun _ => True) := dec_bool (by kernel_rfl)
theorem d5 : DecOK Try.prog 5 (fun c : UInt8 => .int .u8 c.toNat) (fun _ => True) := dec_u8 (by kernel_rfl)
theorem d24 : DecOK Try.prog 24 (fun c : UInt16 => .int .u16 c.toNat) (fun _ => True) := dec_u16 (by kernel_rfl)
theorem d28 : DecOK Try.prog 28 (fun c : UInt64 => .int .u64 c.toNat) (fun _ => True) := dec_u64 (by kernel_rfl)
theorem d29 : DecOK Try.prog 29 (fun c : UInt32 => .int .u32 c.toNat) (fun _ => True) := dec_u32 (by kernel_rfl)
theorem d9 : DecOK Try.prog 9 (fun s : Bytes => .str s) (fun s => s.length ≤ 9223372036854775807) := dec_str (by kernel_rfl)
theorem d23 : DecOK Try.prog 23 (fun v : Payload => .bytes 224 v) (fun _ => True) := dec_bytes (e := 5) (by kernel_rfl) (by kernel_rfl) (by kernel_rfl) (by kernel_rfl)
theorem c4 : Try.prog.cellsOf 4 = 1 := by kernel_rfl
theorem c5 : Try.prog.cellsOf 5 = 1 := by kernel_rfl
theorem c9 : Try.prog.cellsOf 9 = 1 := by kernel_rfl
theorem c23 : Try.prog.cellsOf 23 = 224 := by kernel_rfl
theorem c24 : Try.prog.cellsOf 24 = 1 := by kernel_rfl
theorem c26 : Try.prog.cellsOf 26 = 2 := by kernel_rfl
theorem c28 : Try.prog.cellsOf 28 = 1 := by kernel_rfl
theorem c29 : Try.prog.cellsOf 29 = 1 := by kernel_rfl
theorem c31 : Try.prog.cellsOf 31 = 2 := by kernel_rfl
theorem c33 : Try.prog.cellsOf 33 = 6 := by kernel_rfl
theorem c35 : Try.prog.cellsOf 35 = 238 := by kernel_rfl
theorem c37 : Try.prog.cellsOf 37 = 239 := by kernel_rfl
theorem d26 : DecOK Try.prog 26 encID (fun _ => True) :=
  DecOK.st (l := [(4, 0), (24, 1)]) (by kernel_rfl) (.cons d4 c4 (fun _ => rfl) (.cons d24 c24 (fun _ => rfl) .nil)) (fun b => ⟨b.1, b.2.1⟩) (fun _ => rfl) (fun _ => c26.symm) (fun _ _ => trivial)
theorem d31 : DecOK Try.prog 31 encRef (fun _ => True) :=
  DecOK.st (l := [(24, 0), (5, 1)]) (by kernel_rfl) (.cons d24 c24 (fun _ => rfl) (.cons d5 c5 (fun _ => rfl) .nil)) (fun b => ⟨b.1, b.2.1⟩) (fun _ => rfl) (fun _ => c31.symm) (fun _ _ => trivial)
theorem d33 : DecOK Try.prog 33 encOld (fun o => o.delta.length ≤ 9223372036854775807) :=
  DecOK.st (l := [(4, 0), (24, 1), (29, 2), (31, 3), (9, 5)]) (by kernel_rfl) (.cons d4 c4 (fun _ => rfl) (.cons d24 c24 (fun _ => rfl) (.cons d29 c29 (fun _ => rfl) (.cons d31 c31 (fun _ => rfl) (.cons d9 c9 (fun _ => rfl) .nil)))))
    (fun b => ⟨b.1, b.2.1, b.2.2.1, b.2.2.2.1, b.2.2.2.2.1⟩) (fun _ => rfl) (fun _ => c33.symm) (fun _ h => h.2.2.2.2.1)
theorem d35 : DecOK Try.prog 35 encRec (fun r => r.delta.length ≤ 9223372036854775807 ∧ r.old.delta.length ≤ 9223372036854775807) :=
  DecOK.st (l := [(5, 0), (26, 1), (23, 3), (29, 227), (31, 228), (9, 230), (5, 231), (33, 232)]) (by kernel_rfl)
    (.cons d5 c5 (fun _ => rfl) (.cons d26 c26 (fun _ => rfl) (.cons d23 c23 (fun _ => rfl) (.cons d29 c29 (fun _ => rfl) (.cons d31 c31 (fun _ => rfl) (.cons d9 c9 (fun _ => rfl) (.cons d5 c5 (fun _ => rfl) (.cons d33 c33 (fun _ => rfl) .nil))))))))
    (fun b => ⟨b.1, b.2.1, b.2.2.1, b.2.2.2.1, b.2.2.2.2.1, b.2.2.2.2.2.1, b.2.2.2.2.2.2.1, b.2.2.2.2.2.2.2.1⟩) (fun _ => rfl) (fun _ => c35.symm) (fun _ h => ⟨h.2.2.2.2.2.1, h.2.2.2.2.2.2.2.1⟩)
theorem d37 : DecOK Try.prog 37 encEntry (fun e => e.r.delta.length ≤ 9223372036854775807 ∧ e.r.old.delta.length ≤ 9223372036854775807) :=
  DecOK.st (l := [(28, 0), (35, 1)]) (by kernel_rfl) (.cons d28 c28 (fun _ => rfl) (.cons d35 c35 (fun _ => rfl) .nil)) (fun b => ⟨b.1, b.2.1⟩) (fun _ => rfl) (fun _ => c37.symm) (fun _ h => h.2.1)
theorem laidOut : laidOutB Try.prog = true := by kernel_rfl
theorem own : ownKnob Try.prog.godebug = none := by kernel_rfl
end Go.Proofs.Ytjdpjimdoknlnaa.E
