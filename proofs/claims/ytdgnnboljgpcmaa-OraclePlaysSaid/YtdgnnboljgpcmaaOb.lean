/- Sorting keys: sort.Slice over a row of u64s, by the library's contract. -/
import Derived.Test.YtdgnnboljgpcmaaLay
import Derived.Test.YtdgnnboljgpcmaaOa
import Derived.Deep.QuietTactic
import Derived.Lib.RowBridge
import Derived.Lib.SortBridge
import Derived.Sort.LotA
import Derived.WalkKit
namespace Go.Proofs.Ytdgnnboljgpcmaa.E
open Go Go.Proofs Go.Shelf Go.RowKit Go.Lib Go.Sort
noncomputable def siT8 : TypeInfo := (Try.prog.info? 79).get (by kernel_rfl)
noncomputable def siE8 : TypeInfo := (Try.prog.info? 65).get (by kernel_rfl)
theorem siK8 (n : Nat) (h2 : 2 ≤ n) : Lib.swapperK n siE8 11 = 5 := by
  have a : siE8.hasPointers = false := by kernel_rfl
  have b : siE8.bytes = 8 := by kernel_rfl
  have c : (n == 0) = false := by simp; omega
  have d : (n == 1) = false := by simp; omega
  simp [Lib.swapperK, a, b, c, d]
abbrev enc8 (x : UInt64) : Value := .int .u64 x.toNat
def lt8 (a b : UInt64) : Bool := decide ((a.toNat : Int) < b.toNat)
theorem swo8 : SWO lt8 where
  irrefl := fun x => by simp [lt8]
  trans := fun x y z h1 h2 => by simp only [lt8, decide_eq_true_eq] at *; omega
  ntrans := fun x y z h1 h2 => by simp only [lt8, decide_eq_false_iff_not] at *; omega
set_option maxHeartbeats 2000000 in
theorem less8 (blk off c Bs size : Nat) (W : World) (G : Nat → Int) (hs : W.cell? ⟨Bs, 0, none⟩ = some (.slice (some ⟨blk, off, none⟩) size c))
    (hc : ∀ t, t < size → W.cell? ⟨blk, off + t, none⟩ = some (.int .u64 (G t))) (i j : Nat) (hi : i < size) (hj : j < size) :
    Calls Try.prog 48 #[.int .i64 i, .int .i64 j, .pointer (some ⟨Bs, 0, none⟩)] W fun e w' => e = .returned (.bool (decide (G i < G j))) ∧ ∃ q, w' = W.drewN q := by
  have ci := hc i hi
  have cj := hc j hj
  go_enter Try.func48, Try.ntmps48
  go_wp2
  go_quiet (fail)
  go_wp2
  go_ret
  exact ⟨rfl, nq, rfl⟩

set_option maxHeartbeats 2000000 in
/-- Two or more. -/
theorem sort8_two (blk off c Bs : Nat) (d : Array UInt64) (h2 : 2 ≤ d.size) (h12 : d.size < 4611686018427387904) (w : World) (hH : Holds enc8 w blk off d) (hblk : blk < w.heap.size) (hB : Bs < w.heap.size) (hne : Bs ≠ blk)
    (hs : w.cell? ⟨Bs, 0, none⟩ = some (.slice (some ⟨blk, off, none⟩) d.size c)) :
    Calls Try.prog 46 #[.iface 79 (.slice (some ⟨blk, off, none⟩) d.size c), .func (.func 48) #[] #[.pointer (some ⟨Bs, 0, none⟩)]] w fun e w' =>
      e = .returned (.tuple #[]) ∧ ∃ d' n os, PermIn 0 d.size d d' ∧ SortedIn lt8 0 d.size d' ∧ w' = grow (putRow enc8 (Sort.ahead w n) blk off d') os := by
  have hless : LessReads Try.prog 48 #[.pointer (some ⟨Bs, 0, none⟩)] enc8 lt8 blk off d.size w := by
    intro m os dk hs' i j hi hj
    have e : sortWorld enc8 w blk off m dk os = putRow enc8 (grow (Sort.ahead w m) os) blk off dk := by
      unfold sortWorld; rw [putRow_grow _ (Sort.ahead w m) _ blk off _ hblk]
    have hHg : Holds enc8 (grow (Sort.ahead w m) os) blk off d := holds_grow _ _ _ blk off d hblk (holds_ahead _ _ _ _ _ _ hH)
    refine less8 blk off c Bs d.size _ (fun t => (dk[t]!).toNat) ?_ (fun t ht => ?_) i j hi hj
    · rw [e, cell?_putRow_other _ _ blk off dk _ (Or.inl hne), cell?_grow _ _ _ hB]
      exact hs
    · rw [e]; exact cell?_putRow _ _ blk off d dk hHg hs' t (by omega)
  exact Any.sort_Slice_sorted sa6 79 65 siT8 siE8 (by kernel_rfl) (by kernel_rfl) (by kernel_rfl) (by kernel_rfl) 11 (fun _ => by kernel_rfl) (by kernel_rfl) (fun _ => by kernel_rfl) enc8 (fun _ => rfl) lt8 swo8 48 _
    (enters_of Try.func48 (by kernel_rfl) rfl) blk off c d h2 h12 58 (by rw [siK8 _ h2]; kernel_rfl) true
    (fun args W => run_callFunc_extern Try.func58 (by kernel_rfl) (by kernel_rfl) (by kernel_rfl) (e := Extern.ReflectliteSwapper.swap true) (by kernel_rfl) args W) _ hless hH hblk
set_option maxHeartbeats 2000000 in
/-- None or one. -/
theorem sort8_tiny (p : Option Addr) (n c : Nat) (h1 : n ≤ 1) (b : Value) (w : World) :
    Calls Try.prog 46 #[.iface 79 (.slice p n c), .func (.func 48) #[] #[b]] w fun e w' => e = .returned (.tuple #[]) ∧ ∃ os, w' = grow w os := by
  have hK : Lib.swapperK n siE8 11 = n + 1 := by
    rcases Nat.eq_zero_or_pos n with h | h
    · subst h; simp [Lib.swapperK]
    · obtain rfl : n = 1 := by omega
      simp [Lib.swapperK]
  exact Any.sort_Slice_tiny sa6 79 65 siT8 siE8 (by kernel_rfl) (by kernel_rfl) (by kernel_rfl) (by kernel_rfl) 11 (fun _ => by kernel_rfl) p n c h1 (54 + n) (by
    rw [hK]
    rcases Nat.eq_zero_or_pos n with h | h
    · subst h; kernel_rfl
    · obtain rfl : n = 1 := by omega
      kernel_rfl) (.func 48) #[] #[b] w
end Go.Proofs.Ytdgnnboljgpcmaa.E
