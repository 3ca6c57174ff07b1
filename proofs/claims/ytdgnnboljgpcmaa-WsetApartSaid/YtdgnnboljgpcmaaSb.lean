/- Sorting keys: the pages of a write set, in order. -/
import Derived.Test.YtdgnnboljgpcmaaOd
import Derived.Test.YtdgnnboljgpcmaaSa
namespace Go.Proofs.Ytdgnnboljgpcmaa.E
section
open Go Go.Proofs Go.Shelf Go.RowKit Go.Lib Go.Sort
noncomputable def siT2 : TypeInfo := (Try.prog.info? 32).get (by kernel_rfl)
noncomputable def siE2 : TypeInfo := (Try.prog.info? 23).get (by kernel_rfl)
theorem siK2 (n : Nat) (h2 : 2 ≤ n) : Lib.swapperK n siE2 9 = 7 := by
  have a : siE2.hasPointers = false := by kernel_rfl
  have b : siE2.bytes = 2 := by kernel_rfl
  have c : (n == 0) = false := by simp; omega
  have d : (n == 1) = false := by simp; omega
  simp [Lib.swapperK, a, b, c, d]
abbrev enc2 (x : UInt16) : Value := .int .u16 x.toNat
def lt2 (a b : UInt16) : Bool := decide ((a.toNat : Int) < b.toNat)
theorem swo2 : SWO lt2 where
  irrefl := fun x => by simp [lt2]
  trans := fun x y z h1 h2 => by simp only [lt2, decide_eq_true_eq] at *; omega
  ntrans := fun x y z h1 h2 => by simp only [lt2, decide_eq_false_iff_not] at *; omega
set_option maxHeartbeats 2000000 in
theorem less2 (blk off c Bs size : Nat) (W : World) (G : Nat → Int) (hs : W.cell? ⟨Bs, 0, none⟩ = some (.slice (some ⟨blk, off, none⟩) size c))
    (hc : ∀ t, t < size → W.cell? ⟨blk, off + t, none⟩ = some (.int .u16 (G t))) (i j : Nat) (hi : i < size) (hj : j < size) :
    Calls Try.prog 47 #[.int .i64 i, .int .i64 j, .pointer (some ⟨Bs, 0, none⟩)] W fun e w' => e = .returned (.bool (decide (G i < G j))) ∧ ∃ q, w' = W.drewN q := by
  have ci := hc i hi
  have cj := hc j hj
  go_enter Try.func47, Try.ntmps47
  go_wp2
  go_quiet (fail)
  go_wp2
  go_ret
  exact ⟨rfl, nq, rfl⟩

set_option maxHeartbeats 2000000 in
/-- Two or more. -/
theorem sort2_two (blk off c Bs : Nat) (d : Array UInt16) (h2 : 2 ≤ d.size) (h12 : d.size < 4611686018427387904) (w : World) (hH : Holds enc2 w blk off d) (hblk : blk < w.heap.size) (hB : Bs < w.heap.size) (hne : Bs ≠ blk)
    (hs : w.cell? ⟨Bs, 0, none⟩ = some (.slice (some ⟨blk, off, none⟩) d.size c)) :
    Calls Try.prog 46 #[.iface 32 (.slice (some ⟨blk, off, none⟩) d.size c), .func (.func 47) #[] #[.pointer (some ⟨Bs, 0, none⟩)]] w fun e w' =>
      e = .returned (.tuple #[]) ∧ ∃ d' n os, PermIn 0 d.size d d' ∧ SortedIn lt2 0 d.size d' ∧ w' = grow (putRow enc2 (Sort.ahead w n) blk off d') os := by
  have hless : LessReads Try.prog 47 #[.pointer (some ⟨Bs, 0, none⟩)] enc2 lt2 blk off d.size w := by
    intro m os dk hs' i j hi hj
    have e : sortWorld enc2 w blk off m dk os = putRow enc2 (grow (Sort.ahead w m) os) blk off dk := by
      unfold sortWorld; rw [putRow_grow _ (Sort.ahead w m) _ blk off _ hblk]
    have hHg : Holds enc2 (grow (Sort.ahead w m) os) blk off d := holds_grow _ _ _ blk off d hblk (holds_ahead _ _ _ _ _ _ hH)
    refine less2 blk off c Bs d.size _ (fun t => (dk[t]!).toNat) ?_ (fun t ht => ?_) i j hi hj
    · rw [e, cell?_putRow_other _ _ blk off dk _ (Or.inl hne), cell?_grow _ _ _ hB]
      exact hs
    · rw [e]; exact cell?_putRow _ _ blk off d dk hHg hs' t (by omega)
  exact Any.sort_Slice_sorted sa6 32 23 siT2 siE2 (by kernel_rfl) (by kernel_rfl) (by kernel_rfl) (by kernel_rfl) 9 (fun _ => by kernel_rfl) (by kernel_rfl) (fun _ => by kernel_rfl) enc2 (fun _ => rfl) lt2 swo2 47 _
    (enters_of Try.func47 (by kernel_rfl) rfl) blk off c d h2 h12 60 (by rw [siK2 _ h2]; kernel_rfl) true
    (fun args W => run_callFunc_extern Try.func60 (by kernel_rfl) (by kernel_rfl) (by kernel_rfl) (e := Extern.ReflectliteSwapper.swap true) (by kernel_rfl) args W) _ hless hH hblk
set_option maxHeartbeats 2000000 in
/-- None or one. -/
theorem sort2_tiny (p : Option Addr) (n c : Nat) (h1 : n ≤ 1) (b : Value) (w : World) :
    Calls Try.prog 46 #[.iface 32 (.slice p n c), .func (.func 47) #[] #[b]] w fun e w' => e = .returned (.tuple #[]) ∧ ∃ os, w' = grow w os := by
  have hK : Lib.swapperK n siE2 9 = n + 1 := by
    rcases Nat.eq_zero_or_pos n with h | h
    · subst h; simp [Lib.swapperK]
    · obtain rfl : n = 1 := by omega
      simp [Lib.swapperK]
  exact Any.sort_Slice_tiny sa6 32 23 siT2 siE2 (by kernel_rfl) (by kernel_rfl) (by kernel_rfl) (by kernel_rfl) 9 (fun _ => by kernel_rfl) p n c h1 (54 + n) (by
    rw [hK]
    rcases Nat.eq_zero_or_pos n with h | h
    · subst h; kernel_rfl
    · obtain rfl : n = 1 := by omega
      kernel_rfl) (.func 47) #[] #[b] w
theorem f46_2 (xs : List UInt16) (cap : Nat) (hl : xs.length < 4611686018427387904) :
    CallAt Try.prog 46 [.ifc 32 (.slc 0 [] 1 0 xs.length cap), .fn (.func 47) [.ptr 1 []]] [.vec 23 1 kP xs cap, .var 32 (.slc 0 [] 1 0 xs.length cap)]
      (fun d H => ∃ ys : List UInt16, (ys.Perm xs ∧ ys.Pairwise (fun a b => a.toNat ≤ b.toNat)) ∧ d = .tup [] ∧ H = [.vec 23 1 kP ys cap, .var 32 (.slc 0 [] 1 0 xs.length cap)]) := by
  refine callSort (ev := enc2) (fun _ _ => rfl) ⟨Try.f46, _, rfl, rfl, rfl⟩ ?_ (fun p n c b w h => sort2_tiny p n c h b w) xs cap hl
  intro blk off c Bs d w h2 h12 hH hblk hB hne hs
  refine (sort2_two blk off c Bs d h2 h12 w hH hblk hB hne hs).mono ?_
  rintro e w' ⟨rfl, d', n, os, hp, hso, rfl⟩
  obtain ⟨hsz, _, hpm⟩ := hp
  refine ⟨rfl, d'.toList, n, os, ?_, ?_, rfl⟩
  · rw [← hsz, Array.extract_size] at hpm
    rw [hsz, Array.extract_size] at hpm
    exact hpm
  · rw [List.pairwise_iff_getElem]
    intro i j hi hj hij
    have := hso i j (Nat.zero_le _) hij (by rw [← hsz]; simpa using hj)
    rw [getElem!_pos _ _ (by simpa using hj), getElem!_pos _ _ (by simpa using hi)] at this
    simp only [lt2, decide_eq_false_iff_not] at this
    simp only [Array.getElem_toList]
    omega
end
open Go
set_option maxRecDepth 4000
def pagesP (m : Pages) (d : D) (H : List SObj) : Prop := ∃ (ys : List UInt16) (cap : Nat), (ys.Perm (m.map (·.1)) ∧ ys.Pairwise (fun a b => a.toNat ≤ b.toNat)) ∧ d = .slc 1 [] 1 0 ys.length cap ∧ H = [mpS m, .vec 23 1 kP ys cap]
theorem encOK_u16 : EncOK 1 kP where
  size := fun _ => rfl
  stor := fun e R v hv u hu => by
    rw [← hv.conc] at hu
    simp [conc, Value.cells] at hu
    subst hu; rfl
set_option maxHeartbeats 1000000 in
theorem f38 (m : Pages) (hm : m.length ≤ 4) : CallAt Try.prog 38 [.mapr 0] [mpS m] (pagesP m) := by
  refine callAt_of_execR zeros mixed (fn := Try.f38) rfl rfl rfl ?_
  intro bs clock hbl hnd hck
  let S : List Nat × Nat → St := fun x => ⟨slotsOf 20 [(0, .mapr 0), (3, .ptr 1 []), (6, .ptr 2 [])],
    [.mpx decP kP encE m bs clock, .var 32 (.slc 3 [] 1 0 x.1.length x.2), .iter 0 x.1 clock, .vec 23 1 kP (x.1.map (kAt bs m 0)) x.2]⟩
  refine LoopN.nil (S ([], 0)) ?_ ?_
  · exact ⟨EqvN.rfl, EqvN.rfl, EqvN.rfl, EqvON.rfl, EqvON.var EqvN.nil, EqvON.rfl, rfl, rfl⟩
  refine LoopN.ofR (List Nat × Nat) (fun x => x.1.Nodup ∧ (∀ b ∈ x.1, b ∈ bs) ∧ x.1.length ≤ x.2) (fun x => m.length - x.1.length) S (fun _ => Nat.le_of_ble_eq_true rfl) ([], 0) ⟨List.nodup_nil, by simp, Nat.zero_le _⟩ ?_ ?_
  · exact ⟨Eqv.rfl, Eqv.rfl, Eqv.rfl, EqvO.rfl, EqvO.rfl, EqvO.rfl, EqvO.rfl, trivial⟩
  rintro ⟨seen, cap⟩ ⟨hsn, hsb, hcap⟩
  dsimp only [S] at hsn hsb hcap ⊢
  refine And.intro rfl (And.intro (fun hall => ?_) (fun j kv b hj hb hns => ?_))
  · have hp : seen.Perm bs := nodup_perm _ _ hsn hnd hsb hall
    have hlen : (seen.map (kAt bs m 0)).length = seen.length := by simp
    have hsl : seen.length ≤ 4 := by rw [hp.length_eq, hbl]; exact hm
    have hc := f46_2 (seen.map (kAt bs m 0)) cap (by rw [hlen]; omega)
    rw [hlen] at hc
    refine hc.lift [3, 1] rfl (fun _ => rfl) (by rintro d H1 ⟨ys, _, rfl, rfl⟩ hj; cases hj) ?_
    refine ⟨EqvO.rfl, EqvO.rfl, ?_⟩
    rintro d H1 ⟨ys, ⟨hy1, hy2⟩, rfl, rfl⟩
    have hyl : ys.length = seen.length := by have := hy1.length_eq; simpa using this
    have hym : ys.Perm (m.map (·.1)) := by
      rw [← kAt_all 0 hnd hbl]
      exact hy1.trans (hp.map _)
    refine ⟨[0, 3], _, _, ⟨ys, cap, ⟨hym, hy2⟩, rfl, rfl⟩, trivial, ?_⟩
    rw [hyl]
    exact ⟨Eqv.rfl, EqvO.mpx, EqvO.rfl, trivial⟩
  · refine ⟨seen, b, j, kv, ⟨rfl, rfl, hj, hb⟩, ?_⟩
    have hk := kAt_eq (0 : UInt16) hnd hj hb
    have hmem : b ∈ bs := List.mem_of_getElem? hb
    have hsn' : (seen ++ [b]).Nodup := by
      rw [List.nodup_append]
      exact ⟨hsn, by simp, fun x hx y hy => by simp at hy; subst hy; exact fun e => hns (e ▸ hx)⟩
    have hsb' : ∀ x ∈ seen ++ [b], x ∈ bs := fun x hx => by
      rcases List.mem_append.1 hx with h | h
      · exact hsb x h
      · simp at h; exact h ▸ hmem
    have hl' := nodup_len _ _ hsn' hsb'
    simp only [List.length_append, List.length_cons, List.length_nil] at hl'
    have hlen : (seen.map (kAt bs m 0)).length = seen.length := by simp
    refine And.intro (by omega) ?_
    refine And.intro (fun _ => rfl) ?_
    refine And.intro (by omega) ?_
    refine And.intro (by omega) ?_
    refine ⟨UInt16, kP, (seen ++ [b]).map (kAt bs m 0), ⟨?_, fun R => congrArg (cellsL R) ?_⟩, encOK_u16, ?_, ?_⟩
    · simp
    · rw [List.drop_zero, List.take_of_length_le (by omega), List.map_append, List.map_append]
      simp only [List.map_cons, List.map_nil, hk]
    · have : Try.prog.bytesOf 23 = 2 := by kernel_rfl
      rw [this]
      simp only [List.length_map, List.length_append, List.length_cons, List.length_nil]
      omega
    intro cap' hcap'
    simp only [List.length_map, List.length_append, List.length_cons, List.length_nil] at hcap'
    refine ⟨(seen ++ [b], cap'), ⟨⟨hsn', hsb', by simp; omega⟩, by simp only [List.length_append, List.length_cons, List.length_nil]; omega⟩, [0, 1, 2, 5], ?_⟩
    refine ⟨Eqv.rfl, Eqv.rfl, Eqv.rfl, EqvO.rfl, EqvO.var (Eqv.of ?_), EqvO.rfl, EqvO.rfl, trivial⟩
    simp only [List.length_map]; rfl
end Go.Proofs.Ytdgnnboljgpcmaa.E
