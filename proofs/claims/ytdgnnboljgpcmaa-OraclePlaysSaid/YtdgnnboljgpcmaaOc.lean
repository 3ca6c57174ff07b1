/- sort.Slice as a call upon blocks that are owned: the row in order, the rest as it was. -/
import Derived.Test.YtdgnnboljgpcmaaOb
namespace Go.Proofs.Ytdgnnboljgpcmaa.E
open Go Go.Proofs Go.Shelf Go.RowKit Go.Lib Go.Sort
theorem cell_at {w : World} {b o : Nat} {c : Array Value} {t : TypeId} {fr : Nat × Nat} (h : w.heap[b]? = some (.cells c t fr)) : w.cell? ⟨b, o, none⟩ = c[o]? := by simp [World.cell?, h]
theorem frozen_at {w : World} {b o : Nat} {c : Array Value} {t : TypeId} (h : w.heap[b]? = some (.cells c t (0, 0))) : w.frozen? ⟨b, o, none⟩ = false := by simp [World.frozen?, h]
theorem putCells_mid {α : Type} [Inhabited α] (enc : α → Value) (pre rest : List Value) (xs ys : List α) (hl : ys.length = xs.length) :
    putCells enc pre.length ys.toArray (pre ++ xs.map enc ++ rest).toArray = (pre ++ ys.map enc ++ rest).toArray := by
  apply Array.ext_getElem?
  intro k
  unfold putCells
  rw [Array.getElem?_mapIdx]
  simp only [List.getElem?_toArray, List.append_assoc]
  obtain ⟨A, hA⟩ : ∃ A, A = xs.map enc := ⟨_, rfl⟩
  have hAl : A.length = ys.length := by rw [hA, List.length_map, hl]
  rw [← hA]
  by_cases h1 : k < pre.length
  · rw [List.getElem?_append_left (l₁ := pre) (l₂ := A ++ rest) h1, List.getElem?_append_left (l₁ := pre) (l₂ := ys.map enc ++ rest) h1, List.getElem?_eq_getElem h1]
    simp only [Option.map_some]
    rw [if_neg (by omega)]
  · rw [List.getElem?_append_right (l₁ := pre) (l₂ := A ++ rest) (by omega), List.getElem?_append_right (l₁ := pre) (l₂ := ys.map enc ++ rest) (by omega)]
    by_cases h2 : k - pre.length < ys.length
    · rw [List.getElem?_append_left (l₁ := A) (by omega), List.getElem?_append_left (l₁ := ys.map enc) (by simpa using h2)]
      rw [List.getElem?_map, List.getElem?_eq_getElem (l := A) (by omega), List.getElem?_eq_getElem h2]
      simp only [Option.map_some]
      rw [if_pos ⟨by omega, by simp; omega⟩]
      congr 1
      rw [getElem!_pos _ _ (by simpa using h2)]
      simp
    · rw [List.getElem?_append_right (l₁ := A) (by omega), List.getElem?_append_right (l₁ := ys.map enc) (by simpa using h2)]
      rw [List.length_map, hAl]
      cases rest[k - pre.length - ys.length]? with
      | none => rfl
      | some x =>
        simp only [Option.map_some]
        rw [if_neg (by simp; omega)]
theorem flat_one {α : Type} {ke : α → D} {ev : α → Value} (hke : ∀ R x, cells R (ke x) = [ev x]) (R : Env) : ∀ xs : List α, flat R 1 ke xs = xs.map ev
  | [] => rfl
  | x :: xs => by
    have h := flat_one hke R xs
    unfold flat at h ⊢
    rw [List.flatMap_cons, List.map_cons, h, hke]
    rfl
theorem same_put {α : Type} [Inhabited α] (ev : α → Value) (w : World) (n b z : Nat) (d : Array α) (os : Array Obj) : Same w (grow (putRow ev (Sort.ahead w n) b z d) os) :=
  ⟨rfl, rfl, rfl, by simp [grow, putRow, mapBlock, Sort.ahead]⟩
theorem callSort {α : Type} [Inhabited α] {ke : α → D} {ev : α → Value} (hke : ∀ R x, cells R (ke x) = [ev x]) {le : α → α → Prop} {g f T E : Nat}
    (hfn : ∃ fn c, Try.prog.funcs[f]? = some fn ∧ fn.body = some c ∧ (fn.name == "runtime.NumGoroutine") = false)
    (two : ∀ (blk off c Bs : Nat) (d : Array α) (w : World), 2 ≤ d.size → d.size < 4611686018427387904 → Holds ev w blk off d → blk < w.heap.size → Bs < w.heap.size → Bs ≠ blk →
      w.cell? ⟨Bs, 0, none⟩ = some (.slice (some ⟨blk, off, none⟩) d.size c) →
      Calls Try.prog f #[.iface T (.slice (some ⟨blk, off, none⟩) d.size c), .func (.func g) #[] #[.pointer (some ⟨Bs, 0, none⟩)]] w fun e w' =>
        e = .returned (.tuple #[]) ∧ ∃ (ys : List α) (n : Nat) (os : Array Obj), ys.Perm d.toList ∧ ys.Pairwise le ∧ w' = grow (putRow ev (Sort.ahead w n) blk off ys.toArray) os)
    (tiny : ∀ (p : Option Addr) (n c : Nat) (b : Value) (w : World), n ≤ 1 →
      Calls Try.prog f #[.iface T (.slice p n c), .func (.func g) #[] #[b]] w fun e w' => e = .returned (.tuple #[]) ∧ ∃ os, w' = grow w os)
    (xs : List α) (cap : Nat) (hl : xs.length < 4611686018427387904) :
    CallAt Try.prog f [.ifc T (.slc 0 [] 1 0 xs.length cap), .fn (.func g) [.ptr 1 []]] [.vec E 1 ke xs cap, .var T (.slc 0 [] 1 0 xs.length cap)]
      (fun d H => ∃ ys : List α, (ys.Perm xs ∧ ys.Pairwise le) ∧ d = .tup [] ∧ H = [.vec E 1 ke ys cap, .var T (.slc 0 [] 1 0 xs.length cap)]) := by
  refine ⟨hfn, ?_⟩
  intro F R w vs hR hs hv
  obtain ⟨ob0, ob1, rfl⟩ : ∃ a b, R = [a, b] := by
    match R, hR with
    | [a, b], _ => exact ⟨a, b, rfl⟩
  have hv := hv []
  rw [List.append_nil] at hv
  have hs1 := hs.mono (star_assoc (hpO [ob0, ob1] ob0 (.vec E 1 ke xs cap)) (star (hpO [ob0, ob1] ob1 (.var T (.slc 0 [] 1 0 xs.length cap))) emp) F)
  obtain ⟨fr, hfr, g1, r, hg1, hr, hd, hV, hrest⟩ := hs1
  have hrest0 := hrest
  obtain ⟨r1, _, hr1, _, _, ⟨r3, _, hr3, _, _, hX, _⟩, _⟩ := hrest0
  obtain ⟨b', cs', hob', hC, hcell'⟩ := hX
  have hC := hC.cells
  have hb' : w.heap[b']? = some (.cells cs'.toArray T (0, 0)) := hfr _ _ (hr _ _ (hr1 _ _ (hr3 _ _ hcell')))
  have small : xs.length ≤ 1 → Calls Try.prog f vs.toArray w (fun e w' => ∃ d H' X v, (∃ ys : List α, (ys.Perm xs ∧ ys.Pairwise le) ∧ d = .tup [] ∧ H' = [.vec E 1 ke ys cap, .var T (.slc 0 [] 1 0 xs.length cap)]) ∧ e = .returned v ∧ ([ob0, ob1] ++ X).length = H'.length ∧
      (isJunk d = true ∨ Is ([ob0, ob1] ++ X) d v) ∧ Sat (star (hpH ([ob0, ob1] ++ X) ([ob0, ob1] ++ X) H') F) w' ∧ Same w w') := by
    intro h1
    have hvs : ∃ p n c b, n ≤ 1 ∧ vs.toArray = #[.iface T (.slice p n c), .func (.func g) #[] #[b]] := by
      rw [← hv]
      rcases hV with ⟨h0, hx, hc⟩ | ⟨b, z, cs, pre, rest, hob, _⟩
      · subst h0; exact ⟨none, xs.length, cap, _, h1, rfl⟩
      · subst hob; exact ⟨some ⟨b, z + (offP [] + 0 * 1), none⟩, xs.length, cap, _, h1, rfl⟩
    obtain ⟨p, n, c, b, hn, hvs⟩ := hvs
    rw [hvs]
    refine (tiny p n c b w hn).mono ?_
    rintro e w' ⟨rfl, os, rfl⟩
    have hp : xs.Pairwise le := by
      match xs, h1 with
      | [], _ => exact List.Pairwise.nil
      | [x], _ => simp
    refine ⟨_, _, [], _, ⟨xs, ⟨List.Perm.refl _, hp⟩, rfl, rfl⟩, rfl, rfl, .inr (fun _ => rfl), ?_, ⟨rfl, rfl, rfl, by simp [grow]⟩⟩
    rw [List.append_nil]
    exact hs.grow fun k hk => by simp [grow, Array.getElem?_append, hk]
  by_cases h1 : xs.length ≤ 1
  · exact small h1
  rcases hV with ⟨_, hx, _⟩ | ⟨b, z, cs, pre, rest, hob, hF, hlen, hpre, hcell⟩
  · exact absurd (by rw [hx]; simp) h1
  subst hob hob'
  have hF : cs = xs.map ev := by have := hF []; rw [List.append_nil, flat_one hke] at this; exact this.symm
  subst hF
  have hb : w.heap[b]? = some (.cells (pre ++ xs.map ev ++ rest).toArray E (0, 0)) := hfr _ _ (hg1 _ _ hcell)
  have hne : b' ≠ b := by
    rintro rfl
    have hx2 := hr1 _ _ (hr3 _ _ hcell')
    rcases hd b' with h | h
    · rw [h] at hcell; cases hcell
    · rw [h] at hx2; cases hx2
  have hblk : b < w.heap.size := (Array.getElem?_eq_some_iff.1 hb).1
  have hB : b' < w.heap.size := (Array.getElem?_eq_some_iff.1 hb').1
  have hz : z + (offP [] + 0 * 1) = z := by simp [offP]
  have hC : cs' = [.slice (some ⟨b, z, none⟩) xs.length cap] := by
    rw [← hC]
    show [Value.slice (some ⟨b, z + (offP [] + 0 * 1), none⟩) xs.length cap] = _
    rw [hz]
  subst hC
  have hvs : vs.toArray = #[.iface T (.slice (some ⟨b, z, none⟩) xs.toArray.size cap), .func (.func g) #[] #[.pointer (some ⟨b', 0, none⟩)]] := by
    rw [← hv]
    show #[Value.iface T (.slice (some ⟨b, z + (offP [] + 0 * 1), none⟩) xs.length cap), .func (.func g) #[] #[.pointer (some ⟨b', 0, none⟩)]] = _
    rw [hz]; simp
  rw [hvs]
  have hH : Holds ev w b z xs.toArray := by
    intro j hj
    have hj : j < xs.length := by simpa using hj
    refine ⟨?_, frozen_at hb⟩
    rw [cell_at hb]
    simp only [List.getElem?_toArray, List.append_assoc]
    rw [List.getElem?_append_right (by omega), List.getElem?_append_left (by simp; omega), List.getElem?_map]
    rw [show z + j - pre.length = j by omega, List.getElem?_eq_getElem hj, getElem!_pos _ _ (by simpa using hj)]
    simp
  refine (two b z cap b' xs.toArray w (by simp; omega) (by simpa using hl) hH hblk hB hne (by rw [cell_at hb']; simp)).mono ?_
  rintro e w' ⟨rfl, ys, n, os, hp, hle, rfl⟩
  have hyl : ys.length = xs.length := by have := hp.length_eq; simpa using this
  refine ⟨_, _, [], _, ⟨ys, ⟨by simpa using hp, hle⟩, rfl, rfl⟩, rfl, rfl, .inr (fun _ => rfl), ?_, same_put ev w n b z _ os⟩
  rw [List.append_nil]
  have hs2 : Sat (star (pt b (.cells (pre ++ xs.map ev ++ rest).toArray E (0, 0))) (star (star (hpO [some (b, z), some (b', 0)] (some (b', 0)) (.var T (.slc 0 [] 1 0 xs.length cap))) emp) F)) w := ⟨fr, hfr, g1, r, hg1, hr, hd, hcell, hrest⟩
  have hs3 : Sat (star (pt b (.cells (pre ++ ys.map ev ++ rest).toArray E (0, 0))) (star (star (hpO [some (b, z), some (b', 0)] (some (b', 0)) (.var T (.slc 0 [] 1 0 xs.length cap))) emp) F)) (putRow ev (Sort.ahead w n) b z ys.toArray) := by
    refine hs2.update ?_ fun k hk => ?_
    · show (w.heap.modify b (onCells (putCells ev z ys.toArray)))[b]? = _
      rw [Array.getElem?_modify, if_pos rfl, hb, ← hpre]
      simp only [Option.map_some, onCells]
      rw [putCells_mid ev pre rest xs ys hyl]
    · show (w.heap.modify b (onCells (putCells ev z ys.toArray)))[k]? = _
      rw [Array.getElem?_modify, if_neg (fun h => hk h.symm)]
  have hs4 := hs3.mono (star_mono (A' := hpO [some (b, z), some (b', 0)] (some (b, z)) (.vec E 1 ke ys cap)) (fun f hf => .inr ⟨b, z, ys.map ev, pre, rest, rfl, fun X => flat_one hke _ ys, by
    simpa [hyl] using hlen, hpre, hf⟩) (Imp.refl _))
  exact (hs4.mono (star_assoc' _ _ F)).grow fun k hk => heap_grow_old _ _ hk
theorem f46_8 (xs : List UInt64) (cap : Nat) (hl : xs.length < 4611686018427387904) :
    CallAt Try.prog 46 [.ifc 79 (.slc 0 [] 1 0 xs.length cap), .fn (.func 48) [.ptr 1 []]] [.vec 65 1 kU xs cap, .var 79 (.slc 0 [] 1 0 xs.length cap)]
      (fun d H => ∃ ys : List UInt64, (ys.Perm xs ∧ ys.Pairwise (fun a b => a.toNat ≤ b.toNat)) ∧ d = .tup [] ∧ H = [.vec 65 1 kU ys cap, .var 79 (.slc 0 [] 1 0 xs.length cap)]) := by
  refine callSort (ev := enc8) (fun _ _ => rfl) ⟨Try.f46, _, rfl, rfl, rfl⟩ ?_ (fun p n c b w h => sort8_tiny p n c h b w) xs cap hl
  intro blk off c Bs d w h2 h12 hH hblk hB hne hs
  refine (sort8_two blk off c Bs d h2 h12 w hH hblk hB hne hs).mono ?_
  rintro e w' ⟨rfl, d', n, os, hp, hso, rfl⟩
  obtain ⟨hsz, _, hpm⟩ := hp
  refine ⟨rfl, d'.toList, n, os, ?_, ?_, rfl⟩
  · rw [← hsz, Array.extract_size] at hpm
    rw [hsz, Array.extract_size] at hpm
    exact hpm
  · rw [List.pairwise_iff_getElem]
    intro i j hi hj hij
    have := hso i j (Nat.zero_le _) hij (by rw [← hsz]; simpa using hj)
    rw [getElem!_pos _ _ (by simpa using hj), getElem!_pos _ _ (by simpa using hi)] at this
    simp only [lt8, decide_eq_false_iff_not] at this
    simp only [Array.getElem_toList]
    omega
end Go.Proofs.Ytdgnnboljgpcmaa.E
