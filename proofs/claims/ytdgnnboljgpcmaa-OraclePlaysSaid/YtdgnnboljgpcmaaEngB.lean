import Derived.Test.YtdgnnboljgpcmaaEngA
import Derived.Laws.CopyRow
import Derived.Laws.IdiomCopy
namespace Go.Proofs.Ytdgnnboljgpcmaa.E
open Go

/-! ### Sizes, parts, and parts written: by evaluation, handing on to what follows -/
mutual
def sizeK : D → (Nat → Prop) → Prop
  | .bytes n _, k => k n
  | .arr s n _ _, k => k (n * s)
  | .st ds, k => sizeLK ds 0 k
  | .junk, k | .tt, k | .ff, k | .bool _, k | .int .., k | .str _, k | .nilp, k | .ptr .., k | .nils, k | .slc .., k | .nilm, k | .mapr _, k | .fn .., k | .nilf, k
  | .ifc .., k | .nili, k | .val _, k | .tup _, k => k 1
def sizeLK : List D → Nat → (Nat → Prop) → Prop
  | [], a, k => k a
  | d :: ds, a, k => sizeK d fun n => sizeLK ds (a + n) k
end
mutual
theorem sizeK_iff : ∀ (d : D) (k : Nat → Prop), sizeK d k ↔ k (size d)
  | .bytes n v, k => by simp [sizeK, size]
  | .arr s n e xs, k => by simp [sizeK, size]
  | .st ds, k => by rw [sizeK, sizeLK_iff ds 0 k]; simp [size]
  | .junk, k | .tt, k | .ff, k | .bool _, k | .int .., k | .str _, k | .nilp, k | .ptr .., k | .nils, k | .slc .., k | .nilm, k | .mapr _, k | .fn .., k | .nilf, k
  | .ifc .., k | .nili, k | .val _, k | .tup _, k => by simp [sizeK, size]
theorem sizeLK_iff : ∀ (ds : List D) (a : Nat) (k : Nat → Prop), sizeLK ds a k ↔ k (a + sizeL ds)
  | [], a, k => by simp [sizeLK, sizeL]
  | d :: ds, a, k => by rw [sizeLK, sizeK_iff d, sizeLK_iff ds]; simp [sizeL, Nat.add_assoc]
end

/-- A value, its head laid open. -/
def force : D → (D → Prop) → Prop
  | .junk, k => k .junk
  | .tt, k => k .tt
  | .ff, k => k .ff
  | .bool b, k => k (.bool b)
  | .int q n, k => k (.int q n)
  | .str s, k => k (.str s)
  | .nilp, k => k .nilp
  | .ptr h p, k => k (.ptr h p)
  | .nils, k => k .nils
  | .slc h p o lo len cap, k => k (.slc h p o lo len cap)
  | .nilm, k => k .nilm
  | .mapr h, k => k (.mapr h)
  | .fn f c, k => k (.fn f c)
  | .nilf, k => k .nilf
  | .ifc t d, k => k (.ifc t d)
  | .nili, k => k .nili
  | .val v, k => k (.val v)
  | .bytes n v, k => k (.bytes n v)
  | .arr s n e xs, k => k (.arr s n e xs)
  | .st ds, k => k (.st ds)
  | .tup ds, k => k (.tup ds)
theorem force_iff (d : D) (k : D → Prop) : force d k ↔ k d := by cases d <;> simp [force]

/-- Yes or nothing: a closed test. -/
def when (b : Bool) (k : Prop) : Prop := match b with | true => k | false => False
theorem when_iff {b : Bool} {k : Prop} : when b k ↔ b = true ∧ k := by cases b <;> simp [when]

/-- Field i of a row of parts, whose place must be o. -/
def fldK : List D → Nat → Nat → Nat → (D → Prop) → Prop
  | [], _, _, _, _ => False
  | d :: _, 0, a, o, k => when (Nat.beq a o) (k d)
  | d :: ds, i + 1, a, o, k => sizeK d fun n => fldK ds i (a + n) o k
theorem fldK_spec : ∀ (ds : List D) (i a o : Nat) (k : D → Prop), fldK ds i a o k → ∃ l d r, ds = l ++ d :: r ∧ a + sizeL l = o ∧ k d
  | [], _, _, _, _, h => h.elim
  | d :: ds, 0, a, o, k, h => by
    obtain ⟨h, hk⟩ := when_iff.1 h
    exact ⟨[], d, ds, rfl, by simpa [sizeL] using Nat.eq_of_beq_eq_true h, hk⟩
  | d :: ds, i + 1, a, o, k, h => by
    obtain ⟨l, e, r, rfl, ho, hk⟩ := fldK_spec ds i _ o k ((sizeK_iff _ _).1 h)
    exact ⟨d :: l, e, r, rfl, by simp only [sizeL]; omega, hk⟩

def navK : Path → D → (D → Prop) → Prop
  | [], d, k => force d k
  | .fld i o :: p, .st ds, k => fldK ds i 0 o fun d => navK p d k
  | .ix j s :: p, d, k => match d with
    | .bytes n v => match p with
      | [] => when (Nat.beq s 1) (j < n ∧ ∀ c : UInt8, v[j]? = some c → k (.int .u8 c.toNat))
      | _ => False
    | .arr s' n enc xs => when (Nat.beq s s') (j < n ∧ ∀ x, xs[j]? = some x → sizeK (enc x) fun m => when (Nat.beq m s') (navK p (enc x) k))
    | .st ds => fldK ds j 0 (j * s) fun d => navK p d k
    | _ => False
  | _, _, _ => False

/-- 'd' has 'e' as its part at the place o. -/
def PartAt (o : Nat) (d e : D) : Prop := ∀ R, ∃ l r, cells R d = l ++ cells R e ++ r ∧ l.length = o

theorem partAt_refl (d : D) : PartAt 0 d d := fun R => ⟨[], [], by simp, rfl⟩
theorem partAt_trans {o o' : Nat} {d e f : D} (h : PartAt o d e) (h' : PartAt o' e f) : PartAt (o + o') d f := fun R => by
  obtain ⟨l, r, e1, h1⟩ := h R
  obtain ⟨l', r', e2, h2⟩ := h' R
  exact ⟨l ++ l', r' ++ r, by rw [e1, e2]; simp, by simp [h1, h2]⟩
theorem partAt_st {l r : List D} {d : D} : PartAt (sizeL l) (.st (l ++ d :: r)) d := fun R =>
  ⟨cellsL R l, cellsL R r, by rw [cells_st, cellsL_append, cellsL_cons]; simp, cellsL_length R l⟩
theorem flatMap_split {α : Type} (f : α → List Value) (l : List α) (j : Nat) (x : α) (h : l[j]? = some x) : l.flatMap f = (l.take j).flatMap f ++ f x ++ (l.drop (j + 1)).flatMap f := by
  obtain ⟨hlt, rfl⟩ := List.getElem?_eq_some_iff.1 h
  conv => lhs; rw [← List.take_append_drop j l, List.drop_eq_getElem_cons hlt]
  rw [List.flatMap_append, List.flatMap_cons, List.append_assoc]
theorem partAt_arr {s n : Nat} {α : Type} {enc : α → D} {xs : Vector α n} {j : Nat} {x : α} (h : xs[j]? = some x) (hs : size (enc x) = s) : PartAt (j * s) (.arr s n enc xs) (enc x) := fun R => by
  have hl : xs.toList[j]? = some x := by simpa using h
  have hlt : j < n := by have := (List.getElem?_eq_some_iff.1 hl).1; simpa using this
  refine ⟨_, _, by rw [cells_arr, flatMap_split _ _ j x hl, fit_self (by rw [cells_length, hs])], ?_⟩
  rw [flatMap_length _ s (fun x => fit_length _ _)]; simp only [List.length_take, Vector.length_toList, Nat.min_eq_left (Nat.le_of_lt hlt)]
theorem partAt_bytes {n : Nat} {v : Vector UInt8 n} {j : Nat} {c : UInt8} (h : v[j]? = some c) : PartAt j (.bytes n v) (.int .u8 c.toNat) := fun R => by
  have hl : v.toList[j]? = some c := by simpa using h
  obtain ⟨hlt, rfl⟩ := List.getElem?_eq_some_iff.1 hl
  refine ⟨(v.toList.take j).map byteV, (v.toList.drop (j + 1)).map byteV, ?_, by simp at hlt ⊢; omega⟩
  rw [cells_bytes, cells_leaf rfl]
  conv => lhs; rw [← List.take_append_drop j v.toList, List.drop_eq_getElem_cons hlt]
  simp [byteV, conc]

theorem navK_spec : ∀ (p : Path) (d : D) (k : D → Prop), navK p d k → ∃ e, PartAt (offP p) d e ∧ k e
  | [], d, k, h => ⟨d, partAt_refl d, (force_iff d k).1 (by simpa [navK] using h)⟩
  | .fld i o :: p, d, k, h => by
    cases d <;> simp only [navK] at h <;> try exact h.elim
    rename_i ds
    obtain ⟨l, d, r, rfl, ho, hk⟩ := fldK_spec _ _ _ _ _ h
    obtain ⟨e, he, hk⟩ := navK_spec p d k hk
    have : sizeL l = o := by omega
    subst this
    exact ⟨e, partAt_trans partAt_st he, hk⟩
  | .ix j s :: p, d, k, h => by
    cases d <;> simp only [navK] at h <;> try exact h.elim
    case bytes n v =>
      cases p with
      | cons _ _ => exact h.elim
      | nil =>
        obtain ⟨hs, hj, hk⟩ := when_iff.1 h
        have := Nat.eq_of_beq_eq_true hs
        subst this
        have hv : v[j]? = some v[j] := by simp
        exact ⟨_, by simpa [offP, PStep.off] using partAt_bytes hv, hk _ hv⟩
    case arr s' n α enc xs =>
      obtain ⟨hs, hj, hk⟩ := when_iff.1 h
      have := Nat.eq_of_beq_eq_true hs
      subst this
      have hv : xs[j]? = some xs[j] := by simp
      have hk := (sizeK_iff _ _).1 (hk _ hv)
      obtain ⟨hz, hk⟩ := when_iff.1 hk
      obtain ⟨e, he, hk⟩ := navK_spec p _ k hk
      exact ⟨e, partAt_trans (partAt_arr hv (Nat.eq_of_beq_eq_true hz)) he, hk⟩
    case st ds =>
      obtain ⟨l, d, r, rfl, ho, hk⟩ := fldK_spec _ _ _ _ _ h
      obtain ⟨e, he, hk⟩ := navK_spec p d k hk
      have : sizeL l = j * s := by omega
      refine ⟨e, ?_, hk⟩
      have := partAt_trans (partAt_st (l := l) (r := r)) he
      rw [‹sizeL l = _›] at this
      exact this

/-! ### Writing a part -/
/-- 'd2' is 'd' with 'new' in the place o. -/
def PutAt (o : Nat) (d new d2 : D) : Prop := size d2 = size d ∧ isAgg d2 = isAgg d ∧ ∀ R, ∃ l m r, cells R d = l ++ m ++ r ∧ cells R d2 = l ++ cells R new ++ r ∧ l.length = o ∧ m.length = size new
def putLK (f : D → (D → Prop) → Prop) : List D → Nat → Nat → Nat → (List D → Prop) → Prop
  | [], _, _, _, _ => False
  | d :: ds, 0, a, o, k => when (Nat.beq a o) (f d fun d' => k (d' :: ds))
  | d :: ds, i + 1, a, o, k => sizeK d fun n => putLK f ds i (a + n) o fun ds' => k (d :: ds')
theorem putLK_spec (f : D → (D → Prop) → Prop) : ∀ (ds : List D) (i a o : Nat) (k : List D → Prop), putLK f ds i a o k →
    ∃ l d r, ds = l ++ d :: r ∧ a + sizeL l = o ∧ f d fun d' => k (l ++ d' :: r)
  | [], _, _, _, _, h => h.elim
  | d :: ds, 0, a, o, k, h => by
    obtain ⟨h, hk⟩ := when_iff.1 h
    exact ⟨[], d, ds, rfl, by simpa [sizeL] using Nat.eq_of_beq_eq_true h, hk⟩
  | d :: ds, i + 1, a, o, k, h => by
    obtain ⟨l, e, r, rfl, ho, hk⟩ := putLK_spec f ds i _ o _ ((sizeK_iff _ _).1 h)
    exact ⟨d :: l, e, r, rfl, by simp only [sizeL]; omega, hk⟩
def toB (n : Int) : UInt8 := UInt8.ofNat n.toNat
def sameAgg (a b : D) : Bool := match isAgg a, isAgg b with
  | true, true => true
  | false, false => true
  | _, _ => false
def putK : Path → D → D → (D → Prop) → Prop
  | [], d, new, k => sizeK d fun a => sizeK new fun b => when (Nat.beq a b) (when (sameAgg d new) (force new k))
  | .fld i o :: p, .st ds, new, k => putLK (fun d k => putK p d new k) ds i 0 o fun ds' => k (.st ds')
  | .ix j s :: p, d, new, k => match d with
    | .bytes n v => match p, new with
      | [], .int .u8 b => when (Nat.beq s 1) (j < n ∧ (0 ≤ b ∧ b < 256) ∧ k (.bytes n (v.setIfInBounds j (toB b))))
      | _, _ => False
    | .arr s' n enc xs => when (Nat.beq s s') (j < n ∧ ∀ x, xs[j]? = some x → sizeK (enc x) fun m => when (Nat.beq m s') (putK p (enc x) new fun d' =>
        ∃ x', Eqv (enc x') d' ∧ k (.arr s' n enc (xs.setIfInBounds j x'))))
    | .st ds => putLK (fun d k => putK p d new k) ds j 0 (j * s) fun ds' => k (.st ds')
    | _ => False
  | _, _, _, _ => False

theorem sameAgg_eq {a b : D} (h : sameAgg a b = true) : isAgg b = isAgg a := by
  unfold sameAgg at h
  cases ha : isAgg a <;> cases hb : isAgg b <;> simp [ha, hb] at h ⊢
theorem putAt_st {l r : List D} {d d' new : D} {o : Nat} (h : PutAt o d new d') : PutAt (sizeL l + o) (.st (l ++ d :: r)) new (.st (l ++ d' :: r)) := by
  obtain ⟨h1, _, h2⟩ := h
  refine ⟨?_, rfl, fun R => ?_⟩
  · have e : ∀ x : D, sizeL (l ++ x :: r) = sizeL l + size x + sizeL r := fun x => by
      induction l with
      | nil => simp [sizeL]
      | cons y l ih => simp only [List.cons_append, sizeL, ih]; omega
    simp [size, e, h1]
  · obtain ⟨a, m, b, e1, e2, hl, hm⟩ := h2 R
    refine ⟨cellsL R l ++ a, m, b ++ cellsL R r, ?_, ?_, by simp [cellsL_length, hl], hm⟩ <;> rw [cells_st, cellsL_append, cellsL_cons] <;> simp [e1, e2]
theorem flatMap_set {α : Type} (f : α → List Value) (l : List α) (j : Nat) (x : α) (h : j < l.length) : (l.set j x).flatMap f = (l.take j).flatMap f ++ f x ++ (l.drop (j + 1)).flatMap f := by
  rw [List.set_eq_take_append_cons_drop, if_pos h]; simp
theorem toB_byte {b : Int} (h : 0 ≤ b ∧ b < 256) : ((toB b).toNat : Int) = b := by
  unfold toB; rw [UInt8.toNat_ofNat']; omega

theorem putK_spec : ∀ (p : Path) (d new : D) (k : D → Prop), putK p d new k → ∃ d', PutAt (offP p) d new d' ∧ k d'
  | [], d, new, k, h => by
    have h := (sizeK_iff _ _).1 h
    have h := (sizeK_iff _ _).1 h
    obtain ⟨hs, h⟩ := when_iff.1 h
    obtain ⟨ha, h⟩ := when_iff.1 h
    have hs := Nat.eq_of_beq_eq_true hs
    exact ⟨new, ⟨hs.symm, sameAgg_eq ha, fun R => ⟨[], cells R d, [], by simp, by simp, rfl, by rw [cells_length, hs]⟩⟩, (force_iff _ _).1 h⟩
  | .fld i o :: p, d, new, k, h => by
    cases d <;> simp only [putK] at h <;> try exact h.elim
    rename_i ds
    obtain ⟨l, d, r, rfl, ho, hk⟩ := putLK_spec _ _ _ _ _ _ h
    obtain ⟨d', hd, hk⟩ := putK_spec p d new _ hk
    have : sizeL l = o := by omega
    subst this
    exact ⟨_, putAt_st hd, hk⟩
  | .ix j s :: p, d, new, k, h => by
    cases d <;> simp only [putK] at h <;> try exact h.elim
    case bytes n v =>
      cases p with
      | cons _ _ => exact h.elim
      | nil =>
        cases new <;> try exact h.elim
        rename_i q b
        cases q <;> try exact h.elim
        obtain ⟨hs, hj, hb, hk⟩ := when_iff.1 h
        have := Nat.eq_of_beq_eq_true hs
        subst this
        refine ⟨.bytes n (v.setIfInBounds j (toB b)), ⟨by simp [size], rfl, fun R => ⟨(v.toList.take j).map byteV, [byteV v[j]], (v.toList.drop (j + 1)).map byteV, ?_, ?_, ?_, by simp [size]⟩⟩, hk⟩
        · rw [cells_bytes]
          conv => lhs; rw [← List.take_append_drop j v.toList, List.drop_eq_getElem_cons (by simpa using hj)]
          simp
        · rw [cells_bytes, cells_leaf rfl]
          have : (v.setIfInBounds j (toB b)).toList = v.toList.set j (toB b) := by
            simp [Vector.setIfInBounds, Vector.toList]
          rw [this, List.set_eq_take_append_cons_drop, if_pos (by simpa using hj)]
          simp [byteV, conc, toB_byte hb]
        · simp [offP, PStep.off]; omega
    case arr s' n α enc xs =>
      obtain ⟨hs, hj, hk⟩ := when_iff.1 h
      have := Nat.eq_of_beq_eq_true hs
      subst this
      have hv : xs[j]? = some xs[j] := by simp
      have hk := (sizeK_iff _ _).1 (hk _ hv)
      obtain ⟨hz, hk⟩ := when_iff.1 hk
      have hz := Nat.eq_of_beq_eq_true hz
      obtain ⟨d', ⟨h1, _, h2⟩, x', hx, hk⟩ := putK_spec p _ new _ hk
      refine ⟨.arr s n enc (xs.setIfInBounds j x'), ⟨by simp [size], rfl, fun R => ?_⟩, hk⟩
      obtain ⟨a, m, b, e1, e2, hl, hm⟩ := h2 R
      have hlt : j < xs.toList.length := by simpa using hj
      have hv' : xs.toList[j]? = some xs[j] := by simp
      refine ⟨(xs.toList.take j).flatMap (fun x => fit s (cells R (enc x))) ++ a, m, b ++ (xs.toList.drop (j + 1)).flatMap (fun x => fit s (cells R (enc x))), ?_, ?_, ?_, hm⟩
      · rw [cells_arr, flatMap_split _ _ j _ hv', fit_self (by rw [cells_length, hz]), e1]; simp
      · have : (xs.setIfInBounds j x').toList = xs.toList.set j x' := by simp [Vector.setIfInBounds, Vector.toList]
        rw [cells_arr, this, flatMap_set _ _ _ _ hlt, hx.cells, fit_self (by rw [cells_length, h1, hz]), e2]; simp
      · rw [List.length_append, flatMap_length _ s (fun x => fit_length _ _), hl]
        simp only [List.length_take, offP, PStep.off, Nat.min_eq_left (Nat.le_of_lt hlt)]
    case st ds =>
      obtain ⟨l, d, r, rfl, ho, hk⟩ := putLK_spec _ _ _ _ _ _ h
      obtain ⟨d', hd, hk⟩ := putK_spec p d new _ hk
      have e : sizeL l = j * s := by omega
      have := putAt_st (l := l) (r := r) hd
      rw [e] at this
      exact ⟨_, this, hk⟩
end Go.Proofs.Ytdgnnboljgpcmaa.E
