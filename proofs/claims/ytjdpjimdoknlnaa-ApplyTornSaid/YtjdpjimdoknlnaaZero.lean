/- The zero values of the types that the program makes variables of. -/
import Derived.Test.YtjdpjimdoknlnaaEngT
import Derived.Test.YtjdpjimdoknlnaaChecked
import Derived.KernelRfl
namespace Go.Proofs.Ytjdpjimdoknlnaa.E
open Go
def z3 : D := .int .i64 0
theorem z3_ok : ZeroAt Try.prog 3 z3 := zeroAt_of (by kernel_rfl) (fun _ => rfl)
def z4 : D := .ff
theorem z4_ok : ZeroAt Try.prog 4 z4 := zeroAt_of (by kernel_rfl) (fun _ => rfl)
def z5 : D := .int .u8 0
theorem z5_ok : ZeroAt Try.prog 5 z5 := zeroAt_of (by kernel_rfl) (fun _ => rfl)
def z9 : D := .str []
theorem z9_ok : ZeroAt Try.prog 9 z9 := zeroAt_of (by kernel_rfl) (fun _ => rfl)
def z22 : D := .bytes 224 (Vector.replicate 224 0)
theorem z22_ok : ZeroAt Try.prog 22 z22 := zeroAt_of (by kernel_rfl) (fun _ => rfl)
def z23 : D := .bytes 224 (Vector.replicate 224 0)
theorem z23_ok : ZeroAt Try.prog 23 z23 := zeroAt_of (by kernel_rfl) (fun _ => rfl)
def z26 : D := .st [.ff, .int .u16 0]
theorem z26_ok : ZeroAt Try.prog 26 z26 := zeroAt_of (by kernel_rfl) (fun _ => rfl)
def z28 : D := .int .u64 0
theorem z28_ok : ZeroAt Try.prog 28 z28 := zeroAt_of (by kernel_rfl) (fun _ => rfl)
def z31 : D := .st [.int .u16 0, .int .u8 0]
theorem z31_ok : ZeroAt Try.prog 31 z31 := zeroAt_of (by kernel_rfl) (fun _ => rfl)
def z33 : D := .st [.ff, .int .u16 0, .int .u32 0, .st [.int .u16 0, .int .u8 0], .str []]
theorem z33_ok : ZeroAt Try.prog 33 z33 := zeroAt_of (by kernel_rfl) (fun _ => rfl)
def z35 : D := .st [.int .u8 0, .st [.ff, .int .u16 0], .bytes 224 (Vector.replicate 224 0), .int .u32 0, .st [.int .u16 0, .int .u8 0], .str [], .int .u8 0, .st [.ff, .int .u16 0, .int .u32 0, .st [.int .u16 0, .int .u8 0], .str []]]
theorem z35_ok : ZeroAt Try.prog 35 z35 := zeroAt_of (by kernel_rfl) (fun _ => rfl)
def z37 : D := .st [.int .u64 0, .st [.int .u8 0, .st [.ff, .int .u16 0], .bytes 224 (Vector.replicate 224 0), .int .u32 0, .st [.int .u16 0, .int .u8 0], .str [], .int .u8 0, .st [.ff, .int .u16 0, .int .u32 0, .st [.int .u16 0, .int .u8 0], .str []]]]
theorem z37_ok : ZeroAt Try.prog 37 z37 := zeroAt_of (by kernel_rfl) (fun _ => rfl)
def z51 : D := .nils
theorem z51_ok : ZeroAt Try.prog 51 z51 := zeroAt_of (by kernel_rfl) (fun _ => rfl)
def z63 : D := .st [.int .u64 0, .str []]
theorem z63_ok : ZeroAt Try.prog 63 z63 := zeroAt_of (by kernel_rfl) (fun _ => rfl)
def z69 : D := .st [.nils, .nils]
theorem z69_ok : ZeroAt Try.prog 69 z69 := zeroAt_of (by kernel_rfl) (fun _ => rfl)
def z78 : D := .st [.int .i64 0, .nils, .nils, .nils, .int .i64 0, .int .i64 0, .ff]
theorem z78_ok : ZeroAt Try.prog 78 z78 := zeroAt_of (by kernel_rfl) (fun _ => rfl)
def z83 : D := .st [.int .i64 0, .str [], .int .u64 0, .nils]
theorem z83_ok : ZeroAt Try.prog 83 z83 := zeroAt_of (by kernel_rfl) (fun _ => rfl)
def z89 : D := .st [.nilp, .int .i64 0, .int .i64 0, .int .u32 0, .int .u32 0, .nils, .int .i64 0, .str [], .int .u64 0, .int .u64 0, .ff]
theorem z89_ok : ZeroAt Try.prog 89 z89 := zeroAt_of (by kernel_rfl) (fun _ => rfl)
def z94 : D := .bytes 256 (Vector.replicate 256 0)
theorem z94_ok : ZeroAt Try.prog 94 z94 := zeroAt_of (by kernel_rfl) (fun _ => rfl)
def z95 : D := .bytes 256 (Vector.replicate 256 0)
theorem z95_ok : ZeroAt Try.prog 95 z95 := zeroAt_of (by kernel_rfl) (fun _ => rfl)
def z123 : D := .arr 3584 2 (fun x : Vector (Vector UInt8 224) 16 => .arr 224 16 (fun x : Vector UInt8 224 => .bytes 224 x) x) (Vector.replicate 2 (Vector.replicate 16 (Vector.replicate 224 0)))
theorem z123_ok : ZeroAt Try.prog 123 z123 := zeroAt_of (by kernel_rfl) (fun _ => rfl)
def z125 : D := .st [.int .i64 0, .st [.ff, .int .u16 0], .int .u8 0, .nils, .bytes 224 (Vector.replicate 224 0)]
theorem z125_ok : ZeroAt Try.prog 125 z125 := zeroAt_of (by kernel_rfl) (fun _ => rfl)
def z129 : D := .arr 8 2 (fun x : Vector (Int) 8 => .arr 1 8 (fun x : Int => .int .i64 x) x) (Vector.replicate 2 (Vector.replicate 8 (0)))
theorem z129_ok : ZeroAt Try.prog 129 z129 := zeroAt_of (by kernel_rfl) (fun _ => rfl)
def z133 : D := .arr 896 2 (fun x : Vector (Vector UInt8 224) 4 => .arr 224 4 (fun x : Vector UInt8 224 => .bytes 224 x) x) (Vector.replicate 2 (Vector.replicate 4 (Vector.replicate 224 0)))
theorem z133_ok : ZeroAt Try.prog 133 z133 := zeroAt_of (by kernel_rfl) (fun _ => rfl)
def z135 : D := .arr 4 2 (fun x : Vector (Bool) 4 => .arr 1 4 (fun x : Bool => .bool x) x) (Vector.replicate 2 (Vector.replicate 4 (false)))
theorem z135_ok : ZeroAt Try.prog 135 z135 := zeroAt_of (by kernel_rfl) (fun _ => rfl)
def z139 : D := .st [.int .u64 0, .nils]
theorem z139_ok : ZeroAt Try.prog 139 z139 := zeroAt_of (by kernel_rfl) (fun _ => rfl)
def z142 : D := .bytes 64 (Vector.replicate 64 0)
theorem z142_ok : ZeroAt Try.prog 142 z142 := zeroAt_of (by kernel_rfl) (fun _ => rfl)
def z143 : D := .bytes 64 (Vector.replicate 64 0)
theorem z143_ok : ZeroAt Try.prog 143 z143 := zeroAt_of (by kernel_rfl) (fun _ => rfl)
def z145 : D := .st [.int .u64 0, .int .u32 0, .st [.int .u16 0, .int .u8 0], .bytes 64 (Vector.replicate 64 0)]
theorem z145_ok : ZeroAt Try.prog 145 z145 := zeroAt_of (by kernel_rfl) (fun _ => rfl)
def z155 : D := .st [.int .i64 0, .nilm, .nilm, .nils, .nilm, .int .i64 0, .int .i64 0, .ff]
theorem z155_ok : ZeroAt Try.prog 155 z155 := zeroAt_of (by kernel_rfl) (fun _ => rfl)
def z159 : D := .st [.nilp, .int .i64 0, .int .i64 0, .int .u32 0, .nils, .nils, .str [], .int .u32 0, .int .u64 0, .int .u64 0, .ff]
theorem z159_ok : ZeroAt Try.prog 159 z159 := zeroAt_of (by kernel_rfl) (fun _ => rfl)
def z163 : D := .st [.int .u32 0, .int .u32 0, .int .u64 0, .str []]
theorem z163_ok : ZeroAt Try.prog 163 z163 := zeroAt_of (by kernel_rfl) (fun _ => rfl)
def z165 : D := .st [.int .u32 0, .int .u64 0]
theorem z165_ok : ZeroAt Try.prog 165 z165 := zeroAt_of (by kernel_rfl) (fun _ => rfl)
def z169 : D := .arr 1 2 (fun x : Int => .int .i64 x) (Vector.replicate 2 (0))
theorem z169_ok : ZeroAt Try.prog 169 z169 := zeroAt_of (by kernel_rfl) (fun _ => rfl)
def z170 : D := .bytes 64 (Vector.replicate 64 0)
theorem z170_ok : ZeroAt Try.prog 170 z170 := zeroAt_of (by kernel_rfl) (fun _ => rfl)
def z176 : D := .st [.nils, .nils]
theorem z176_ok : ZeroAt Try.prog 176 z176 := zeroAt_of (by kernel_rfl) (fun _ => rfl)
def z192 : D := .st [.nilp, .nili, .nilp, .int .i64 0, .int .i64 0, .nils, .int .i64 0, .nilm]
theorem z192_ok : ZeroAt Try.prog 192 z192 := zeroAt_of (by kernel_rfl) (fun _ => rfl)
def z194 : D := .st [.st [.ff, .int .u16 0], .bytes 224 (Vector.replicate 224 0), .ff, .int .u64 0, .ff]
theorem z194_ok : ZeroAt Try.prog 194 z194 := zeroAt_of (by kernel_rfl) (fun _ => rfl)
def z200 : D := .st [.arr 1 2 (fun x : Int => .int .i64 x) (Vector.replicate 2 (0)), .bytes 64 (Vector.replicate 64 0)]
theorem z200_ok : ZeroAt Try.prog 200 z200 := zeroAt_of (by kernel_rfl) (fun _ => rfl)
def z228 : D := .st [.int .i64 0, .int .i64 0, .bytes 64 (Vector.replicate 64 0)]
theorem z228_ok : ZeroAt Try.prog 228 z228 := zeroAt_of (by kernel_rfl) (fun _ => rfl)
def z232 : D := .st [.int .i64 0, .nils, .nils, .nils]
theorem z232_ok : ZeroAt Try.prog 232 z232 := zeroAt_of (by kernel_rfl) (fun _ => rfl)
def zt : List (TypeId × D) := [(3, z3), (4, z4), (5, z5), (9, z9), (22, z22), (23, z23), (26, z26), (28, z28), (31, z31), (33, z33), (35, z35), (37, z37), (51, z51), (63, z63), (69, z69), (78, z78), (83, z83), (89, z89), (94, z94), (95, z95), (123, z123), (125, z125), (129, z129), (133, z133), (135, z135), (139, z139), (142, z142), (143, z143), (145, z145), (155, z155), (159, z159), (163, z163), (165, z165), (169, z169), (170, z170), (176, z176), (192, z192), (194, z194), (200, z200), (228, z228), (232, z232)]
abbrev Z : TypeId → D := zof zt
theorem zeros : Zeros Try.prog Z := zeros_of zt (by
  intro p hp
  simp only [zt, List.mem_cons, List.not_mem_nil, or_false] at hp
  rcases hp with rfl | rfl | rfl | rfl | rfl | rfl | rfl | rfl | rfl | rfl | rfl | rfl | rfl | rfl | rfl | rfl | rfl | rfl | rfl | rfl | rfl | rfl | rfl | rfl | rfl | rfl | rfl | rfl | rfl | rfl | rfl | rfl | rfl | rfl | rfl | rfl | rfl | rfl | rfl | rfl | rfl
  · exact z3_ok
  · exact z4_ok
  · exact z5_ok
  · exact z9_ok
  · exact z22_ok
  · exact z23_ok
  · exact z26_ok
  · exact z28_ok
  · exact z31_ok
  · exact z33_ok
  · exact z35_ok
  · exact z37_ok
  · exact z51_ok
  · exact z63_ok
  · exact z69_ok
  · exact z78_ok
  · exact z83_ok
  · exact z89_ok
  · exact z94_ok
  · exact z95_ok
  · exact z123_ok
  · exact z125_ok
  · exact z129_ok
  · exact z133_ok
  · exact z135_ok
  · exact z139_ok
  · exact z142_ok
  · exact z143_ok
  · exact z145_ok
  · exact z155_ok
  · exact z159_ok
  · exact z163_ok
  · exact z165_ok
  · exact z169_ok
  · exact z170_ok
  · exact z176_ok
  · exact z192_ok
  · exact z194_ok
  · exact z200_ok
  · exact z228_ok
  · exact z232_ok
  )
theorem mixed : Try.prog.follows .mixedOrders = true := Try.checked.mixed
end Go.Proofs.Ytjdpjimdoknlnaa.E
