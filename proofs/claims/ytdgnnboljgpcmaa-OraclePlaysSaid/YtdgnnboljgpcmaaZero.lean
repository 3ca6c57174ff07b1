/- The zero values of the types that the program makes variables of. -/
import Derived.Test.YtdgnnboljgpcmaaEngT
import Derived.Test.YtdgnnboljgpcmaaChecked
import Derived.KernelRfl
namespace Go.Proofs.Ytdgnnboljgpcmaa.E
open Go
def z5 : D := .int .u8 0
theorem z5_ok : ZeroAt Try.prog 5 z5 := zeroAt_of (by kernel_rfl) (fun _ => rfl)
def z23 : D := .int .u16 0
theorem z23_ok : ZeroAt Try.prog 23 z23 := zeroAt_of (by kernel_rfl) (fun _ => rfl)
def z24 : D := .bytes 64 (Vector.replicate 64 0)
theorem z24_ok : ZeroAt Try.prog 24 z24 := zeroAt_of (by kernel_rfl) (fun _ => rfl)
def z25 : D := .bytes 64 (Vector.replicate 64 0)
theorem z25_ok : ZeroAt Try.prog 25 z25 := zeroAt_of (by kernel_rfl) (fun _ => rfl)
def z27 : D := .st [.int .u16 0, .bytes 64 (Vector.replicate 64 0), .int .i64 0, .str []]
theorem z27_ok : ZeroAt Try.prog 27 z27 := zeroAt_of (by kernel_rfl) (fun _ => rfl)
def z32 : D := .nils
theorem z32_ok : ZeroAt Try.prog 32 z32 := zeroAt_of (by kernel_rfl) (fun _ => rfl)
def z39 : D := .int .u32 0
theorem z39_ok : ZeroAt Try.prog 39 z39 := zeroAt_of (by kernel_rfl) (fun _ => rfl)
def z50 : D := .st [.nils]
theorem z50_ok : ZeroAt Try.prog 50 z50 := zeroAt_of (by kernel_rfl) (fun _ => rfl)
def z53 : D := .st [.int .u16 0, .bytes 64 (Vector.replicate 64 0), .int .i64 0, .str []]
theorem z53_ok : ZeroAt Try.prog 53 z53 := zeroAt_of (by kernel_rfl) (fun _ => rfl)
def z64 : D := .st [.int .u32 0, .int .u32 0, .nils]
theorem z64_ok : ZeroAt Try.prog 64 z64 := zeroAt_of (by kernel_rfl) (fun _ => rfl)
def z65 : D := .int .u64 0
theorem z65_ok : ZeroAt Try.prog 65 z65 := zeroAt_of (by kernel_rfl) (fun _ => rfl)
def z67 : D := .st [.int .i64 0, .int .u64 0]
theorem z67_ok : ZeroAt Try.prog 67 z67 := zeroAt_of (by kernel_rfl) (fun _ => rfl)
def z72 : D := .st [.int .u64 0, .int .u32 0, .ff]
theorem z72_ok : ZeroAt Try.prog 72 z72 := zeroAt_of (by kernel_rfl) (fun _ => rfl)
def z79 : D := .nils
theorem z79_ok : ZeroAt Try.prog 79 z79 := zeroAt_of (by kernel_rfl) (fun _ => rfl)
def z89 : D := .st [.nilm]
theorem z89_ok : ZeroAt Try.prog 89 z89 := zeroAt_of (by kernel_rfl) (fun _ => rfl)
def z91 : D := .st [.bytes 64 (Vector.replicate 64 0), .bytes 64 (Vector.replicate 64 0)]
theorem z91_ok : ZeroAt Try.prog 91 z91 := zeroAt_of (by kernel_rfl) (fun _ => rfl)
def z97 : D := .st [.int .u32 0, .int .u32 0, .int .u64 0, .nilm]
theorem z97_ok : ZeroAt Try.prog 97 z97 := zeroAt_of (by kernel_rfl) (fun _ => rfl)
def z100 : D := .arr 1 64 (fun x : Bool => .bool x) (Vector.replicate 64 (false))
theorem z100_ok : ZeroAt Try.prog 100 z100 := zeroAt_of (by kernel_rfl) (fun _ => rfl)
def z119 : D := .st [.nilf, .nilf]
theorem z119_ok : ZeroAt Try.prog 119 z119 := zeroAt_of (by kernel_rfl) (fun _ => rfl)
def zt : List (TypeId × D) := [(5, z5), (23, z23), (24, z24), (25, z25), (27, z27), (32, z32), (39, z39), (50, z50), (53, z53), (64, z64), (65, z65), (67, z67), (72, z72), (79, z79), (89, z89), (91, z91), (97, z97), (100, z100), (119, z119)]
abbrev Z : TypeId → D := zof zt
theorem zeros : Zeros Try.prog Z := zeros_of zt (by
  intro p hp
  simp only [zt, List.mem_cons, List.not_mem_nil, or_false] at hp
  rcases hp with rfl | rfl | rfl | rfl | rfl | rfl | rfl | rfl | rfl | rfl | rfl | rfl | rfl | rfl | rfl | rfl | rfl | rfl | rfl
  · exact z5_ok
  · exact z23_ok
  · exact z24_ok
  · exact z25_ok
  · exact z27_ok
  · exact z32_ok
  · exact z39_ok
  · exact z50_ok
  · exact z53_ok
  · exact z64_ok
  · exact z65_ok
  · exact z67_ok
  · exact z72_ok
  · exact z79_ok
  · exact z89_ok
  · exact z91_ok
  · exact z97_ok
  · exact z100_ok
  · exact z119_ok
  )
theorem mixed : Try.prog.follows .mixedOrders = true := Try.checked.mixed
end Go.Proofs.Ytdgnnboljgpcmaa.E
