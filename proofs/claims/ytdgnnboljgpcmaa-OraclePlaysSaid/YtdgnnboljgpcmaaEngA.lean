import Derived.WalkKit
namespace Go.Proofs.Ytdgnnboljgpcmaa.E
open Go

/-! ### Fragments of the heap, and what is said of them -/
abbrev Frag := Nat → Option Obj
def Frag.le (f g : Frag) : Prop := ∀ b o, f b = some o → g b = some o
def Frag.disj (f g : Frag) : Prop := ∀ b, f b = none ∨ g b = none
def Frag.union (f g : Frag) : Frag := fun b => match f b with | some o => some o | none => g b
abbrev HP := Frag → Prop
def star (A B : HP) : HP := fun f => ∃ g h, Frag.le g f ∧ Frag.le h f ∧ Frag.disj g h ∧ A g ∧ B h
def emp : HP := fun _ => True
def pt (b : Nat) (o : Obj) : HP := fun f => f b = some o
def Sat (A : HP) (w : World) : Prop := ∃ f : Frag, Frag.le f (fun b => w.heap[b]?) ∧ A f
def Imp (A B : HP) : Prop := ∀ f, A f → B f

theorem Frag.le_refl (f : Frag) : Frag.le f f := fun _ _ h => h
theorem Frag.le_trans {f g h : Frag} (a : Frag.le f g) (b : Frag.le g h) : Frag.le f h := fun x o e => b x o (a x o e)
theorem Frag.disj_symm {f g : Frag} (h : Frag.disj f g) : Frag.disj g f := fun b => (h b).symm
theorem Frag.disj_le {f f' g : Frag} (h : Frag.disj f g) (hl : Frag.le f' f) : Frag.disj f' g := fun b => by
  rcases h b with h | h
  · left
    cases e : f' b with
    | none => rfl
    | some o => rw [hl b o e] at h; cases h
  · exact .inr h
theorem Frag.disj_le2 {f f' g g' : Frag} (h : Frag.disj f g) (hl : Frag.le f' f) (hr : Frag.le g' g) : Frag.disj f' g' :=
  Frag.disj_symm (Frag.disj_le (Frag.disj_symm (Frag.disj_le h hl)) hr)
theorem Frag.le_union_left (f g : Frag) : Frag.le f (Frag.union f g) := fun b o h => by simp [Frag.union, h]
theorem Frag.le_union_right {f g : Frag} (hd : Frag.disj f g) : Frag.le g (Frag.union f g) := fun b o h => by
  rcases hd b with e | e
  · simp [Frag.union, e, h]
  · rw [e] at h; cases h
theorem Frag.union_le {f g h : Frag} (a : Frag.le f h) (b : Frag.le g h) : Frag.le (Frag.union f g) h := fun x o e => by
  unfold Frag.union at e
  cases ef : f x with
  | none => rw [ef] at e; exact b x o e
  | some o' => rw [ef] at e; cases e; exact a x _ ef
theorem Frag.union_disj {f g h : Frag} (a : Frag.disj f h) (b : Frag.disj g h) : Frag.disj (Frag.union f g) h := fun x => by
  rcases a x with e | e
  · rcases b x with e' | e'
    · left; simp [Frag.union, e, e']
    · exact .inr e'
  · exact .inr e

theorem Imp.refl (A : HP) : Imp A A := fun _ h => h
theorem Imp.trans {A B C : HP} (h : Imp A B) (k : Imp B C) : Imp A C := fun f a => k f (h f a)
theorem star_mono {A A' B B' : HP} (h : Imp A A') (k : Imp B B') : Imp (star A B) (star A' B') :=
  fun _ ⟨g, h', a, b, c, d, e⟩ => ⟨g, h', a, b, c, h _ d, k _ e⟩
theorem star_comm (A B : HP) : Imp (star A B) (star B A) := fun _ ⟨g, h, a, b, c, d, e⟩ => ⟨h, g, b, a, Frag.disj_symm c, e, d⟩
theorem star_assoc (A B C : HP) : Imp (star (star A B) C) (star A (star B C)) := by
  rintro f ⟨g, h, gf, hf, gh, ⟨x, y, xg, yg, xy, a, b⟩, c⟩
  have yh := Frag.disj_le gh yg
  exact ⟨x, Frag.union y h, Frag.le_trans xg gf, Frag.union_le (Frag.le_trans yg gf) hf,
    Frag.disj_symm (Frag.union_disj (Frag.disj_symm xy) (Frag.disj_symm (Frag.disj_le gh xg))), a, y, h, Frag.le_union_left _ _, Frag.le_union_right yh, yh, b, c⟩
theorem star_assoc' (A B C : HP) : Imp (star A (star B C)) (star (star A B) C) := by
  rintro f ⟨g, h, gf, hf, gh, a, x, y, xh, yh, xy, b, c⟩
  have gx := Frag.disj_symm (Frag.disj_le (Frag.disj_symm gh) xh)
  exact ⟨Frag.union g x, y, Frag.union_le gf (Frag.le_trans xh hf), Frag.le_trans yh hf,
    Frag.union_disj (Frag.disj_symm (Frag.disj_le (Frag.disj_symm gh) yh)) xy, ⟨g, x, Frag.le_union_left _ _, Frag.le_union_right gx, gx, a, b⟩, c⟩
theorem star_left (A B C : HP) : Imp (star A (star B C)) (star B (star A C)) :=
  (star_assoc' A B C).trans ((star_mono (star_comm A B) (Imp.refl C)).trans (star_assoc B A C))
theorem star_emp (A : HP) : Imp A (star A emp) := fun f h => ⟨f, fun _ => none, Frag.le_refl f, (by intro b o e; cases e), fun _ => .inr rfl, h, trivial⟩

theorem Sat.mono {A B : HP} {w : World} (h : Sat A w) (k : Imp A B) : Sat B w := let ⟨f, a, b⟩ := h; ⟨f, a, k f b⟩
theorem Sat.left {A B : HP} {w : World} (h : Sat (star A B) w) : Sat A w := let ⟨_, a, g, _, gf, _, _, x, _⟩ := h; ⟨g, Frag.le_trans gf a, x⟩
theorem Sat.right {A B : HP} {w : World} (h : Sat (star A B) w) : Sat B w := (h.mono (star_comm A B)).left
theorem Sat.heap {A : HP} {w w' : World} (h : Sat A w) (e : w'.heap = w.heap) : Sat A w' := by unfold Sat at *; rw [e]; exact h
theorem Sat.get {b : Nat} {o : Obj} {B : HP} {w : World} (h : Sat (star (pt b o) B) w) : w.heap[b]? = some o :=
  let ⟨_, a, _, _, gf, _, _, x, _⟩ := h; a _ _ (gf _ _ x)
theorem Sat.emp_left {A : HP} {w : World} (h : Sat A w) : Sat (star emp A) w := h.mono (fun f a => star_comm _ _ f (star_emp A f a))
/-- A block that is owned gets another content. -/
theorem Sat.update {b : Nat} {o o' : Obj} {B : HP} {w w' : World} (h : Sat (star (pt b o) B) w) (hb : w'.heap[b]? = some o') (hk : ∀ k, k ≠ b → w'.heap[k]? = w.heap[k]?) :
    Sat (star (pt b o') B) w' := by
  obtain ⟨f, a, g, r, gf, rf, gr, x, y⟩ := h
  have rb : r b = none := by rcases gr b with e | e
                             · rw [show g b = some o from x] at e; cases e
                             · exact e
  refine ⟨fun k => if k = b then some o' else f k, ?_, fun k => if k = b then some o' else none, r, ?_, ?_, ?_, ?_, y⟩
  · intro k v e
    by_cases hkb : k = b
    · subst hkb; simp at e; subst e; exact hb
    · simp [hkb] at e; show w'.heap[k]? = some v; rw [hk k hkb]; exact a _ _ e
  · intro k v e
    by_cases hkb : k = b
    · subst hkb; simpa using e
    · simp [hkb] at e
  · intro k v e
    by_cases hkb : k = b
    · subst hkb; rw [rb] at e; cases e
    · simp [hkb]; exact rf _ _ e
  · intro k
    by_cases hkb : k = b
    · subst hkb; exact .inr rb
    · left; simp [hkb]
  · show (if b = b then some o' else none) = some o'
    simp
/-- A new block is owned. -/
theorem Sat.alloc {A : HP} {w w' : World} {o : Obj} (h : Sat A w) (hn : w'.heap[w.heap.size]? = some o) (hk : ∀ k, k < w.heap.size → w'.heap[k]? = w.heap[k]?) :
    Sat (star (pt w.heap.size o) A) w' := by
  obtain ⟨f, a, x⟩ := h
  have fn : ∀ k, w.heap.size ≤ k → f k = none := by
    intro k hk
    cases e : f k with
    | none => rfl
    | some v => have := a _ _ e; simp [Array.getElem?_eq_none hk] at this
  refine ⟨fun k => if k = w.heap.size then some o else f k, ?_, fun k => if k = w.heap.size then some o else none, f, ?_, ?_, ?_, ?_, x⟩
  · intro k v e
    by_cases hkb : k = w.heap.size
    · subst hkb; simp at e; subst e; exact hn
    · simp [hkb] at e
      have := a _ _ e
      show w'.heap[k]? = some v
      have hlt : k < w.heap.size := (Array.getElem?_eq_some_iff.1 this).1
      rw [hk k hlt]; exact this
  · intro k v e
    by_cases hkb : k = w.heap.size
    · subst hkb; simpa using e
    · simp [hkb] at e
  · intro k v e
    by_cases hkb : k = w.heap.size
    · subst hkb; rw [fn _ (Nat.le_refl _)] at e; cases e
    · simp [hkb]; exact e
  · intro k
    by_cases hkb : k = w.heap.size
    · subst hkb; exact .inr (fn _ (Nat.le_refl _))
    · left; simp [hkb]
  · show (if w.heap.size = w.heap.size then some o else none) = some o
    simp
/-- What was owned is owned, if all blocks that are there are as they were. -/
theorem Sat.grow {A : HP} {w w' : World} (h : Sat A w) (hk : ∀ k, k < w.heap.size → w'.heap[k]? = w.heap[k]?) : Sat A w' := by
  obtain ⟨f, a, x⟩ := h
  refine ⟨f, fun k v e => ?_, x⟩
  have := a _ _ e
  show w'.heap[k]? = some v
  rw [hk k (Array.getElem?_eq_some_iff.1 this).1]; exact this

/-! ### Abstract values -/
abbrev Bytes := List UInt8
inductive PStep where
  | fld (i o : Nat)
  | ix (n s : Nat)
def PStep.off : PStep → Nat
  | .fld _ o => o
  | .ix n s => n * s
abbrev Path := List PStep
def offP : Path → Nat
  | [] => 0
  | s :: p => s.off + offP p

inductive D : Type 1 where
  | junk
  | tt | ff | bool (b : Bool)
  | int (k : IntKind) (n : Int)
  | str (s : Bytes)
  | nilp
  | ptr (h : Nat) (p : Path)
  | nils
  | slc (h : Nat) (p : Path) (s lo len cap : Nat)
  | nilm
  | mapr (h : Nat)
  | fn (f : Fn) (caps : List D)
  | nilf
  | ifc (t : TypeId) (d : D)
  | nili
  | val (v : Value)
  | bytes (n : Nat) (v : Vector UInt8 n)
  | arr (s n : Nat) {α : Type} (enc : α → D) (xs : Vector α n)
  | st (ds : List D)
  | tup (ds : List D)

/-- Of each handle: its block, and the place there at which it begins; or none (a nil slice's). -/
abbrev Env := List (Option (Nat × Nat))
def one : Value → Value
  | .agg _ => undef
  | v => v
def byteV (c : UInt8) : Value := .int .u8 c.toNat
def fit (s : Nat) (l : List Value) : List Value := (l ++ List.replicate s undef).take s
def addrV (R : Env) (h o : Nat) : Value :=
  match R[h]? with
  | some (some (b, z)) => .pointer (some ⟨b, z + o, none⟩)
  | _ => undef
def sliceV (R : Env) (h o len cap : Nat) : Value :=
  match R[h]? with
  | some (some (b, z)) => .slice (some ⟨b, z + o, none⟩) len cap
  | some none => .slice none len cap
  | none => undef
def mapV (R : Env) (h : Nat) : Value :=
  match R[h]? with
  | some (some (b, _)) => .map (some b)
  | _ => undef

mutual
def conc (R : Env) : D → Value
  | .junk => undef
  | .tt => .bool true
  | .ff => .bool false
  | .bool b => .bool b
  | .int k n => .int k n
  | .str s => .string ⟨s.toArray⟩
  | .nilp => .pointer none
  | .ptr h p => addrV R h (offP p)
  | .nils => .slice none 0 0
  | .slc h p s lo len cap => sliceV R h (offP p + lo * s) len cap
  | .nilm => .map none
  | .mapr h => mapV R h
  | .fn f caps => .func f #[] (concL R caps).toArray
  | .nilf => .nilFunc
  | .ifc t d => .iface t (conc R d)
  | .nili => .nilIface
  | .val v => one v
  | .bytes _ v => .agg (v.toList.map byteV).toArray
  | .arr s _ enc xs => .agg (xs.toList.flatMap fun x => fit s (conc R (enc x)).cells.toList).toArray
  | .st ds => .agg (cellsL R ds).toArray
  | .tup ds => .tuple (concL R ds).toArray
def concL (R : Env) : List D → List Value
  | [] => []
  | d :: ds => conc R d :: concL R ds
def cellsL (R : Env) : List D → List Value
  | [] => []
  | d :: ds => (conc R d).cells.toList ++ cellsL R ds
end
def cells (R : Env) (d : D) : List Value := (conc R d).cells.toList

mutual
def size : D → Nat
  | .bytes n _ => n
  | .arr s n _ _ => n * s
  | .st ds => sizeL ds
  | _ => 1
def sizeL : List D → Nat
  | [] => 0
  | d :: ds => size d + sizeL ds
end
def isAgg : D → Bool
  | .bytes .. | .arr .. | .st _ => true
  | _ => false
/-- A value that a cell of its own may hold: no aggregate, no tuple, nothing unknown. -/
def isLeaf : D → Bool
  | .junk | .tup _ | .val _ | .bytes .. | .arr .. | .st _ => false
  | _ => true

theorem fit_length (s : Nat) (l : List Value) : (fit s l).length = s := by simp [fit]
theorem fit_self {s : Nat} {l : List Value} (h : l.length = s) : fit s l = l := by subst h; simp [fit]
theorem flatMap_length {α : Type} (f : α → List Value) (s : Nat) (h : ∀ x, (f x).length = s) : ∀ l : List α, (l.flatMap f).length = l.length * s
  | [] => by simp
  | x :: l => by
    have := flatMap_length f s h l
    simp only [List.flatMap_cons, List.length_append, List.length_cons, h, this, Nat.succ_mul]
    omega
theorem leaf_cells {v : Value} (h : ∀ cs, v ≠ .agg cs) : v.cells.toList = [v] := by
  cases v <;> first | rfl | exact absurd rfl (h _)
theorem addrV_ne (R : Env) (h o : Nat) : ∀ cs, addrV R h o ≠ .agg cs := by
  intro cs; unfold addrV; split <;> simp [undef]
theorem sliceV_ne (R : Env) (h o l c : Nat) : ∀ cs, sliceV R h o l c ≠ .agg cs := by
  intro cs; unfold sliceV; split <;> simp [undef]
theorem mapV_ne (R : Env) (h : Nat) : ∀ cs, mapV R h ≠ .agg cs := by
  intro cs; unfold mapV; split <;> simp [undef]
theorem one_ne (v : Value) : ∀ cs, one v ≠ .agg cs := by
  intro cs; cases v <;> simp [one, undef]
theorem conc_ne {d : D} (h : isAgg d = false) (R : Env) : ∀ cs, conc R d ≠ .agg cs := by
  intro cs
  cases d <;> simp [isAgg] at h <;> simp [conc, undef, addrV_ne, sliceV_ne, mapV_ne, one_ne]
theorem cells_leaf {d : D} (h : isAgg d = false) (R : Env) : cells R d = [conc R d] := leaf_cells (conc_ne h R)
theorem size_leaf {d : D} (h : isAgg d = false) : size d = 1 := by cases d <;> simp [isAgg] at h <;> simp [size]
theorem cells_st (R : Env) (ds : List D) : cells R (.st ds) = cellsL R ds := by simp [cells, conc, Value.cells]
theorem cells_bytes (R : Env) (n : Nat) (v : Vector UInt8 n) : cells R (.bytes n v) = v.toList.map byteV := by simp [cells, conc, Value.cells]
theorem cells_arr (R : Env) (s n : Nat) {α : Type} (enc : α → D) (xs : Vector α n) : cells R (.arr s n enc xs) = xs.toList.flatMap fun x => fit s (cells R (enc x)) := by
  simp [cells, conc, Value.cells]
theorem cellsL_cons (R : Env) (d : D) (ds : List D) : cellsL R (d :: ds) = cells R d ++ cellsL R ds := by simp [cellsL, cells]
theorem conc_agg {d : D} (h : isAgg d = true) (R : Env) : conc R d = .agg (cells R d).toArray := by
  cases d <;> simp [isAgg] at h <;> simp [conc, cells, Value.cells]
mutual
theorem cells_length (R : Env) : ∀ d : D, (cells R d).length = size d
  | .bytes n v => by simp [cells_bytes, size]
  | .arr s n enc xs => by rw [cells_arr, flatMap_length _ s (fun x => fit_length _ _)]; simp [size]
  | .st ds => by rw [cells_st, cellsL_length R ds]; simp [size]
  | .junk | .tt | .ff | .bool _ | .int .. | .str _ | .nilp | .ptr .. | .nils | .slc .. | .nilm | .mapr _ | .fn .. | .nilf | .ifc .. | .nili | .val _ | .tup _ => by
    rw [cells_leaf rfl]; simp [size]
theorem cellsL_length (R : Env) : ∀ ds : List D, (cellsL R ds).length = sizeL ds
  | [] => by simp [cellsL, sizeL]
  | d :: ds => by rw [cellsL_cons, List.length_append, cells_length R d, cellsL_length R ds]; simp [sizeL]
end
theorem cellsL_append (R : Env) : ∀ a b : List D, cellsL R (a ++ b) = cellsL R a ++ cellsL R b
  | [], b => by simp [cellsL]
  | d :: a, b => by simp [cellsL_cons, cellsL_append R a b]

/-- The value is what 'd' tells, in this environment and in all that come of it by new blocks. -/
def Is (R : Env) (d : D) (v : Value) : Prop := ∀ X : Env, conc (R ++ X) d = v
theorem Is.conc {R : Env} {d : D} {v : Value} (h : Is R d v) : E.conc R d = v := by have := h []; simpa using this
theorem Is.self {R : Env} {d : D} {v : Value} (h : Is R d v) : Is R d (E.conc R d) := by rw [h.conc]; exact h
theorem Is.ext {R : Env} {d : D} {v : Value} (h : Is R d v) (X : Env) : Is (R ++ X) d v := fun Y => by rw [List.append_assoc]; exact h _
theorem Is.cells {R : Env} {d : D} {v : Value} (h : Is R d v) (X : Env) : E.cells (R ++ X) d = v.cells.toList := by rw [← h X]; rfl
/-- The cells are what 'd' tells. -/
def IsC (R : Env) (d : D) (cs : List Value) : Prop := ∀ X : Env, cells (R ++ X) d = cs
theorem IsC.cells {R : Env} {d : D} {cs : List Value} (h : IsC R d cs) : E.cells R d = cs := by have := h []; simpa using this
theorem IsC.ext {R : Env} {d : D} {cs : List Value} (h : IsC R d cs) (X : Env) : IsC (R ++ X) d cs := fun Y => by rw [List.append_assoc]; exact h _
theorem Is.isC {R : Env} {d : D} {v : Value} (h : Is R d v) : IsC R d v.cells.toList := fun X => h.cells X
theorem IsC.is {R : Env} {d : D} {cs : List Value} (h : IsC R d cs) : Is R d (conc R d) := fun X => by
  cases ha : isAgg d with
  | true => rw [conc_agg ha, conc_agg ha, h X, h.cells]
  | false =>
    have h1 := h X
    have h0 := h.cells
    rw [cells_leaf ha] at h1 h0
    rw [← h0] at h1
    exact List.cons.inj h1 |>.1
/-- Two ways to tell the same value. -/
def Eqv (d e : D) : Prop := ∀ R, conc R d = conc R e
theorem Eqv.rfl {d : D} : Eqv d d := fun _ => _root_.rfl
theorem Eqv.of {d e : D} (h : d = e) : Eqv d e := fun _ => by rw [h]
theorem Eqv.is {d e : D} (h : Eqv d e) {R : Env} {v : Value} (hv : Is R d v) : Is R e v := fun X => by rw [← h]; exact hv X
theorem Eqv.cells {d e : D} (h : Eqv d e) (R : Env) : E.cells R d = E.cells R e := by unfold E.cells; rw [h R]
end Go.Proofs.Ytdgnnboljgpcmaa.E
