import Derived.Test.YtdgnnboljgpcmaaEngF
import Derived.Laws.BytesString
namespace Go.Proofs.Ytdgnnboljgpcmaa.E
open Go

/-! ### Lengths -/
def lengthK (P : Program) (T : TypeId) (x : D) (k : D → Prop) : Prop :=
  match P.underlying T with
  | some .string => match x with
    | .str s => k (.int .i64 s.length)
    | _ => False
  | some (.array n _) => k (.int .i64 n)
  | some (.slice _) => match x with
    | .slc _ _ _ _ len _ => k (.int .i64 len)
    | .nils => k (.int .i64 0)
    | .val v => match v with
      | .slice _ len _ => k (.int .i64 len)
      | _ => False
    | _ => False
  | _ => False
theorem lengthK_spec {P : Program} {T : TypeId} {x : D} {k : D → Prop} (h : lengthK P T x k) : ∃ d, isJunk d = false ∧ k d ∧ ∀ R w vx ty ts, Is R x vx → ∃ v, (Builtin.len_ (#[T] ++ ts) ty #[vx]).run P w = .ok v w ∧ Is R d v := by
  unfold lengthK at h
  have h0 : ∀ ts : Array TypeId, (#[T] ++ ts)[0]? = some T := by intro ts; simp [Array.getElem?_append]
  have h1 : ∀ vx : Value, (#[vx] : Array Value)[0]? = some vx := fun _ => rfl
  split at h <;> try exact h.elim
  · rename_i hu
    split at h <;> try exact h.elim
    rename_i s
    refine ⟨_, rfl, h, fun R w vx ty ts hx => ?_⟩
    have := hx.conc
    simp only [conc] at this
    subst this
    refine ⟨.int .i64 s.length, ?_, fun _ => rfl⟩
    simp only [Builtin.len_, h0, h1, Sem.run_bind, run_underlying hu, Result.andThen_ok, Sem.run_pure, goInt]
    rfl
  · rename_i n e hu
    refine ⟨_, rfl, h, fun R w vx ty ts hx => ⟨.int .i64 n, ?_, fun _ => rfl⟩⟩
    simp only [Builtin.len_, h0, h1, Sem.run_bind, run_underlying hu, Result.andThen_ok, Sem.run_pure, goInt]
  · rename_i e hu
    split at h <;> try exact h.elim
    · rename_i hh p s lo len cap
      refine ⟨_, rfl, h, fun R w vx ty ts hx => ⟨.int .i64 len, ?_, fun _ => rfl⟩⟩
      rcases slice_cases hx with ⟨b, z, hR, rfl⟩ | ⟨hR, rfl⟩ <;>
      simp only [Builtin.len_, h0, h1, Sem.run_bind, run_underlying hu, Result.andThen_ok, Sem.run_pure, goInt]
    · refine ⟨_, rfl, h, fun R w vx ty ts hx => ⟨.int .i64 0, ?_, fun _ => rfl⟩⟩
      have := hx.conc
      simp only [conc] at this
      subst this
      simp only [Builtin.len_, h0, h1, Sem.run_bind, run_underlying hu, Result.andThen_ok, Sem.run_pure, goInt]
      rfl
    · split at h <;> try exact h.elim
      rename_i a len cap
      refine ⟨_, rfl, h, fun R w vx ty ts hx => ⟨.int .i64 len, ?_, fun _ => rfl⟩⟩
      have := hx.conc
      simp only [conc, one] at this
      subst this
      simp only [Builtin.len_, h0, h1, Sem.run_bind, run_underlying hu, Result.andThen_ok, Sem.run_pure, goInt]

/-! ### A slice's elements -/
def byteD (c : UInt8) : D := .int .u8 c.toNat
def lenLK : List D → Nat → (Nat → Prop) → Prop
  | [], n, k => k n
  | _ :: ds, n, k => lenLK ds (n + 1) k
theorem lenLK_iff : ∀ (ds : List D) (n : Nat) (k : Nat → Prop), lenLK ds n k ↔ k (n + ds.length)
  | [], n, k => by simp [lenLK]
  | _ :: ds, n, k => by rw [lenLK, lenLK_iff ds]; simp [Nat.add_assoc, Nat.add_comm 1]
def sizesK : List D → Nat → Prop → Prop
  | [], _, k => k
  | d :: ds, s, k => sizeK d fun n => when (Nat.beq n s) (sizesK ds s k)
theorem sizesK_spec (R : Env) : ∀ (ds : List D) (s : Nat) (k : Prop), sizesK ds s k → k ∧ (cellsL R ds).length = ds.length * s
  | [], s, k, h => ⟨h, by simp [cellsL]⟩
  | d :: ds, s, k, h => by
    obtain ⟨h1, h2⟩ := when_iff.1 ((sizeK_iff _ _).1 h)
    obtain ⟨hk, hl⟩ := sizesK_spec R ds s k h2
    have := Nat.eq_of_beq_eq_true h1
    exact ⟨hk, by rw [cellsL_cons, List.length_append, cells_length, hl, this, List.length_cons, Nat.succ_mul]; omega⟩
/-- Such cells lie from the place on. -/
def RawSeg (A : HP) (b o s : Nat) (ds : List D) : Prop := ∀ f, A f → ∃ c t fr, f b = some (.cells c t fr) ∧ o + ds.length * s ≤ c.size ∧ ∀ R, cellsL R ds = (c.toList.drop o).take (ds.length * s)
/-- The elements of a slice, as values, each of so many cells. -/
def segK (H : List SObj) (x : D) (s : Nat) (k : List D → Prop) : Prop :=
  match x with
  | .nils => k []
  | .val v => match v with
    | .slice (some ⟨b, o, none⟩) len _ => match getH H 0 with
      | .res A => ∃ ds, (ds.length = len ∧ RawSeg A b o s ds) ∧ k ds
      | _ => False
    | .slice none 0 _ => k []
    | _ => False
  | .str b => when (Nat.beq s 1) (k (b.map byteD))
  | .slc h p s' lo len _ => when (Nat.beq s' s) (match getH H h with
    | .var _ d => navK p d fun e => match e with
      | .bytes n v => when (Nat.beq s 1) (lo + len ≤ n ∧ k (((v.toList.drop lo).take len).map byteD))
      | .arr s' n enc xs => when (Nat.beq s s') (lo + len ≤ n ∧ (∀ x, size (enc x) = s') ∧ k (((xs.toList.drop lo).take len).map enc))
      | .st ds => when (Nat.beq lo 0) (lenLK ds 0 fun n => when (Nat.beq len n) (sizesK ds s (k ds)))
      | _ => False
    | .vec _ s' enc xs _ => match p with
      | [] => when (Nat.beq s s') (lo + len ≤ xs.length ∧ (∀ x, size (enc x) = s') ∧ k (((xs.drop lo).take len).map enc))
      | _ => False
    | _ => False)
  | _ => False
/-- The values' cells lie from the address on; there are so many of them. -/
def SegAt (F : HP) (H : List SObj) (x : D) (s : Nat) (ds : List D) : Prop :=
  ∀ R w vx, R.length = H.length → Sat (star (hpH R R H) F) w → Is R x vx → ∃ cs : List Value, (∀ X, cellsL (R ++ X) ds = cs) ∧ cs.length = ds.length * s ∧
    ((∃ a cap, vx = .slice (some a) ds.length cap ∧ ∀ j v, cs[j]? = some v → w.cell? (a.add j) = some v) ∨ (∃ cap, vx = .slice none ds.length cap ∧ ds = []) ∨
      (∃ b : Bytes, x = .str b ∧ ds = b.map byteD))
theorem cellsL_map {α : Type} (R : Env) (f : α → D) : ∀ l : List α, cellsL R (l.map f) = l.flatMap fun x => cells R (f x)
  | [] => by simp [cellsL]
  | x :: l => by rw [List.map_cons, cellsL_cons, cellsL_map R f l]; simp
theorem cellsL_bytes (R : Env) (l : Bytes) : cellsL R (l.map byteD) = l.map byteV := by
  rw [cellsL_map]
  induction l with
  | nil => rfl
  | cons c l ih => rw [List.flatMap_cons, ih, cells_leaf rfl]; rfl
theorem flatMap_seg {α : Type} (f : α → List Value) (s : Nat) (hs : ∀ x, (f x).length = s) (l : List α) (lo len : Nat) (h : lo + len ≤ l.length) :
    ∃ a b, l.flatMap f = a ++ ((l.drop lo).take len).flatMap f ++ b ∧ a.length = lo * s := by
  refine ⟨(l.take lo).flatMap f, (l.drop (lo + len)).flatMap f, ?_, ?_⟩
  · rw [← List.flatMap_append, ← List.flatMap_append]
    congr 1
    rw [List.append_assoc, ← List.drop_drop, List.take_append_drop, List.take_append_drop]
  · rw [flatMap_length f s hs, List.length_take, Nat.min_eq_left (by omega)]
theorem seg_of_mid {w : World} {b o : Nat} {c : Array Value} {t : TypeId} {fr : Nat × Nat} (hb : w.heap[b]? = some (.cells c t fr)) {l m r : List Value} (hc : c.toList = l ++ m ++ r) (hl : l.length = o) :
    ∀ j v, m[j]? = some v → w.cell? ((⟨b, o, none⟩ : Addr).add j) = some v := by
  intro j v hj
  rw [add_none]
  simp only [World.cell?, hb, Option.isSome_none, Bool.false_eq_true, if_false]
  rw [← Array.getElem?_toList, hc, ← hl, List.append_assoc, List.getElem?_append_right (by omega), Nat.add_sub_cancel_left]
  rw [List.getElem?_append_left (List.getElem?_eq_some_iff.1 hj).1]; exact hj

theorem segK_spec {H : List SObj} {x : D} {s : Nat} {k : List D → Prop} (h : segK H x s k) : ∃ ds, k ds ∧ (∀ F, SegAt F H x s ds) := by
  unfold segK at h
  split at h <;> try exact h.elim
  · refine ⟨[], h, fun F R w vx _ _ hx => ⟨[], fun _ => rfl, by simp, .inr (.inl ⟨0, ?_, rfl⟩)⟩⟩
    have := hx.conc
    simp only [conc] at this
    exact this.symm
  · split at h <;> try exact h.elim
    · rename_i b o len cap
      split at h <;> try exact h.elim
      rename_i A ho
      obtain ⟨ds, ⟨hdl, hraw⟩, hk⟩ := h
      refine ⟨ds, hk, fun F R w vx hl hs hx => ?_⟩
      obtain ⟨f, hf, hA⟩ := res_there ho hl hs
      obtain ⟨c, t, fr, hb, hsz, hc⟩ := hraw f hA
      have hvx := hx.conc
      simp only [conc, one] at hvx
      refine ⟨(c.toList.drop o).take (ds.length * s), fun X => hc _, by simp; omega, .inl ⟨⟨b, o, none⟩, cap, by rw [← hvx, hdl], ?_⟩⟩
      have e : c.toList = c.toList.take o ++ (c.toList.drop o).take (ds.length * s) ++ (c.toList.drop o).drop (ds.length * s) := by
        rw [List.append_assoc, List.take_append_drop, List.take_append_drop]
      exact seg_of_mid (hf _ _ hb) e (by simp; omega)
    · rename_i cap
      refine ⟨[], h, fun F R w vx _ _ hx => ⟨[], fun _ => rfl, by simp, .inr (.inl ⟨cap, ?_, rfl⟩)⟩⟩
      have := hx.conc
      simp only [conc, one] at this
      exact this.symm
  · rename_i b
    obtain ⟨hs, h⟩ := when_iff.1 h
    have hs := Nat.eq_of_beq_eq_true hs
    subst hs
    exact ⟨_, h, fun F R w vx _ _ hx => ⟨b.map byteV, fun X => cellsL_bytes _ _, by simp, .inr (.inr ⟨b, rfl, rfl⟩)⟩⟩
  · rename_i hh p s' lo len cap
    obtain ⟨hs, h0⟩ := when_iff.1 h
    clear h
    have hs := Nat.eq_of_beq_eq_true hs
    subst hs
    split at h0 <;> try exact h0.elim
    · rename_i t d ho
      obtain ⟨e, he, hk⟩ := navK_spec _ _ _ h0
      clear h0
      have key : ∀ (ds : List D), ds.length = len → (∀ R, ∃ a b, cells R e = a ++ cellsL R ds ++ b ∧ a.length = lo * s') → (∀ R, (cellsL R ds).length = len * s') → ∀ F, SegAt F H (.slc hh p s' lo len cap) s' ds := by
        intro ds hdl hmid hcl F R w vx hl hsat hx
        have hH := getH_some H hh (by rw [ho]; simp)
        rw [ho] at hH
        have hlt := (List.getElem?_eq_some_iff.1 hH).1
        have hR : R[hh]? = some R[hh] := by simp
        obtain ⟨f, hf, b, cs, hb1, hb2, hb3⟩ := (hsat.left.mono (hpH_get R R H hh _ _ hR hH)).left
        rw [hb1] at hR
        have hv := slice_of_is hx hR
        have hall : ∀ X, ∃ l r, cs = l ++ cellsL (R ++ X) ds ++ r ∧ l.length = offP p + lo * s' := by
          intro X
          obtain ⟨l, r, e1, hl1⟩ := he (R ++ X)
          obtain ⟨a, b', e2, hl2⟩ := hmid (R ++ X)
          exact ⟨l ++ a, b' ++ r, by rw [← hb2 X, e1, e2]; simp, by simp [hl1, hl2]⟩
        have hone : ∀ X, cellsL (R ++ X) ds = (cs.drop (offP p + lo * s')).take (len * s') := by
          intro X
          obtain ⟨l, r, e1, hl1⟩ := hall X
          rw [e1, take_drop_mid hl1 (hcl _)]
        refine ⟨(cs.drop (offP p + lo * s')).take (len * s'), hone, by rw [← hone [], hcl, hdl], .inl ⟨⟨b, offP p + lo * s', none⟩, cap, by rw [hv, hdl, Nat.zero_add], ?_⟩⟩
        obtain ⟨l, r, e1, hl1⟩ := hall []
        rw [hone []] at e1
        exact seg_of_mid (hf _ _ hb3) (by simpa using e1) hl1
      split at hk <;> try exact hk.elim
      · rename_i n v
        obtain ⟨hs1, hle, hk2⟩ := when_iff.1 hk
        have hs1 := Nat.eq_of_beq_eq_true hs1
        subst hs1
        refine ⟨_, hk2, key _ (by simp; omega) (fun R => ?_) (fun R => by rw [cellsL_bytes]; simp; omega)⟩
        refine ⟨(v.toList.take lo).map byteV, (v.toList.drop (lo + len)).map byteV, ?_, by simp; omega⟩
        rw [cells_bytes, cellsL_bytes, ← List.map_append, ← List.map_append]
        congr 1
        rw [List.append_assoc, ← List.drop_drop, List.take_append_drop, List.take_append_drop]
      · rename_i s2 n α enc xs
        obtain ⟨hs1, hle, hse, hk2⟩ := when_iff.1 hk
        have hs1 := Nat.eq_of_beq_eq_true hs1
        subst hs1
        have hsz : ∀ R x, (cells R (enc x)).length = s' := fun R x => by rw [cells_length, hse]
        refine ⟨_, hk2, key _ (by simp; omega) (fun R => ?_) (fun R => by rw [cellsL_map, flatMap_length _ s' (hsz R)]; simp only [List.length_take, List.length_drop, Vector.length_toList]; rw [Nat.min_eq_left (by omega)])⟩
        obtain ⟨a, b, e1, e2⟩ := flatMap_seg (fun x => fit s' (cells R (enc x))) s' (fun _ => fit_length _ _) xs.toList lo len (by simpa using hle)
        refine ⟨a, b, ?_, e2⟩
        rw [cells_arr, e1, cellsL_map]
        congr 2
        exact congrArg (fun g => List.flatMap g _) (funext fun x => fit_self (hsz R x))
      · rename_i ds
        obtain ⟨h1, h2⟩ := when_iff.1 hk
        have h2 := (lenLK_iff _ _ _).1 h2
        obtain ⟨h3, h4⟩ := when_iff.1 h2
        have h1 := Nat.eq_of_beq_eq_true h1
        have h3 := Nat.eq_of_beq_eq_true h3
        simp only [Nat.zero_add] at h3
        subst h1
        have h5 := fun R => sizesK_spec R ds s' _ h4
        exact ⟨ds, (h5 []).1, key ds h3.symm (fun R => ⟨[], [], by rw [cells_st]; simp, by simp⟩) (fun R => by rw [(h5 R).2, h3])⟩
    · rename_i t s2 α enc xs c ho
      split at h0 <;> try exact h0.elim
      obtain ⟨hs1, hle, hse, hk⟩ := when_iff.1 h0
      have hs1 := Nat.eq_of_beq_eq_true hs1
      subst hs1
      have hsz : ∀ R x, (cells R (enc x)).length = s' := fun R x => by rw [cells_length, hse]
      refine ⟨_, hk, fun F R w vx hl hsat hx => ?_⟩
      have hdl : (((xs.drop lo).take len).map enc).length = len := by simp; omega
      have hcl : ∀ R, (cellsL R (((xs.drop lo).take len).map enc)).length = len * s' := fun R => by
        rw [cellsL_map, flatMap_length _ s' (hsz R)]; simp only [List.length_take, List.length_drop, Vector.length_toList]; rw [Nat.min_eq_left (by omega)]
      have hH := getH_some H hh (by rw [ho]; simp)
      rw [ho] at hH
      have hlt := (List.getElem?_eq_some_iff.1 hH).1
      have hR : R[hh]? = some R[hh] := by simp
      obtain ⟨f, hf, hb⟩ := (hsat.left.mono (hpH_get R R H hh _ _ hR hH)).left
      rcases hb with ⟨hn, hb, _⟩ | ⟨b, z, cs, pre, rest, hb1, hb2, hb3, hb5, hb4⟩
      · subst hb
        have : len = 0 := by simp at hle; omega
        subst this
        rw [hn] at hR
        rcases slice_cases hx with ⟨b, z, hR', rfl⟩ | ⟨hR', rfl⟩
        · rw [hR'] at hR; cases hR
        · exact ⟨[], fun X => by simp [cellsL], by simp, .inr (.inl ⟨cap, by simp, by simp⟩)⟩
      · rw [hb1] at hR
        have hv := slice_of_is hx hR
        have hall : ∀ X, ∃ l r, cs = l ++ cellsL (R ++ X) (((xs.drop lo).take len).map enc) ++ r ∧ l.length = lo * s' := by
          intro X
          obtain ⟨a, b', e2, hl2⟩ := flatMap_seg (fun x => fit s' (cells (R ++ X) (enc x))) s' (fun _ => fit_length _ _) xs lo len hle
          refine ⟨a, b', ?_, hl2⟩
          rw [← hb2 X, flat, e2, cellsL_map]
          congr 2
          exact congrArg (fun g => List.flatMap g _) (funext fun x => fit_self (hsz (R ++ X) x))
        have hone : ∀ X, cellsL (R ++ X) (((xs.drop lo).take len).map enc) = (cs.drop (lo * s')).take (len * s') := by
          intro X
          obtain ⟨l, r, e1, hl1⟩ := hall X
          rw [e1, take_drop_mid hl1 (hcl _)]
        refine ⟨(cs.drop (lo * s')).take (len * s'), hone, by rw [← hone [], hcl, hdl], .inl ⟨⟨b, z + lo * s', none⟩, cap, by rw [hv, hdl]; simp [offP], ?_⟩⟩
        obtain ⟨l, r, e1, hl1⟩ := hall []
        rw [hone []] at e1
        obtain ⟨m, hm⟩ : ∃ m, (cs.drop (lo * s')).take (len * s') = m := ⟨_, rfl⟩
        rw [hm] at e1 ⊢
        exact seg_of_mid (l := pre ++ l) (r := r ++ rest) (hf _ _ hb4) (by rw [e1]; simp) (by rw [List.length_append, hb5, hl1])

/-! ### Bytes as a string; a string's byte -/
def bytesStrK (P : Program) (H : List SObj) (src dst : TypeId) (x : D) (k : D → Prop) : Prop :=
  match P.underlying src with
  | some (.slice e) => match P.underlying dst with
    | some .string => match P.underlying e with
      | some (.int .u8) => segK H x 1 fun ds => ∃ bs : Bytes, ds = bs.map byteD ∧ k (.str bs)
      | _ => False
    | _ => False
  | _ => False
theorem bytesStrK_spec {P : Program} {H : List SObj} {src dst : TypeId} {x : D} {k : D → Prop} (h : bytesStrK P H src dst x k) (hx0 : ∀ b, x ≠ .str b) : ∃ d, isJunk d = false ∧ k d ∧
    ∀ F R w vx, R.length = H.length → Sat (star (hpH R R H) F) w → Is R x vx → ∃ v, (convert src dst vx).run P w = .ok v w ∧ Is R d v := by
  unfold bytesStrK at h
  split at h <;> try exact h.elim
  rename_i e hu1
  split at h <;> try exact h.elim
  rename_i hu2
  split at h <;> try exact h.elim
  rename_i hu3
  obtain ⟨ds, ⟨bs, rfl, hk⟩, hseg⟩ := segK_spec h
  refine ⟨_, rfl, hk, fun F R w vx hl hs hx => ?_⟩
  have hconv : ∀ a len cap, convert src dst (.slice a len cap) = (do
      let d1 ← underlying src
      let d2 ← underlying dst
      match d1, d2 with
      | .slice e, .string => do
        match ← underlying e with
        | .int .u8 => Conv.bytesToString (.slice a len cap)
        | .int .i32 => Conv.runesToString (.slice a len cap)
        | _ => stuck "Convert: a slice of what to string?"
      | _, _ => convert src dst (.slice a len cap)) ∨ True := fun _ _ _ => .inr trivial
  clear hconv
  obtain ⟨cs, hcs, hlen, hv⟩ := hseg F R w vx hl hs hx
  have hcs0 : cs = bs.map byteV := by rw [← hcs [], cellsL_bytes]
  rcases hv with ⟨a, cap, rfl, hcell⟩ | ⟨cap, rfl, hnil⟩ | ⟨b, rfl, _⟩
  · refine ⟨.string ⟨bs.toArray⟩, ?_, fun _ => rfl⟩
    unfold convert
    rw [Sem.run_bind, run_underlying hu1]
    simp only [Result.andThen_ok]
    rw [Sem.run_bind, run_underlying hu2]
    simp only [Result.andThen_ok]
    rw [Sem.run_bind, run_underlying hu3]
    simp only [Result.andThen_ok]
    have hload := run_loadCells_list (P := P) (w := w) a cs hcell
    rw [hcs0] at hload
    have := run_bytesToString (P := P) w a (bs.map byteD).length cap (bs.map fun c => (c.toNat : Int)) (by
      rw [List.map_map, show (Value.int IntKind.u8 ∘ fun c : UInt8 => (c.toNat : Int)) = byteV from rfl]
      simpa using hload)
    rw [this, foldl_push_byteCells]
    simp
  · refine ⟨.string ⟨bs.toArray⟩, ?_, fun _ => rfl⟩
    have hb : bs = [] := by simpa using hnil
    subst hb
    unfold convert
    rw [Sem.run_bind, run_underlying hu1]
    simp only [Result.andThen_ok]
    rw [Sem.run_bind, run_underlying hu2]
    simp only [Result.andThen_ok]
    rw [Sem.run_bind, run_underlying hu3]
    simp only [Result.andThen_ok]
    rfl
  · exact absurd rfl (hx0 b)

def indexK (P : Program) (T : TypeId) (x i : D) (k : D → Prop) : Prop :=
  match x, i with
  | .str s, .int _ i => match P.underlying T with
    | some .string => (0 ≤ i ∧ i < s.length) ∧ ∀ c : UInt8, s[i.toNat]? = some c → k (.int .u8 c.toNat)
    | _ => False
  | _, _ => False
theorem indexK_spec {P : Program} {T : TypeId} {x i : D} {k : D → Prop} (h : indexK P T x i k) : ∃ d, isJunk d = false ∧ k d ∧ ∀ R w vx vi, Is R x vx → Is R i vi → ∃ v, (Instr.index T vx vi).run P w = .ok v w ∧ Is R d v := by
  unfold indexK at h
  split at h <;> try exact h.elim
  rename_i s q i
  split at h <;> try exact h.elim
  rename_i hu
  obtain ⟨⟨h1, h2⟩, h3⟩ := h
  have hlt : i.toNat < s.length := by omega
  refine ⟨_, rfl, h3 s[i.toNat] (by simp), fun R w vx vi hx hi => ?_⟩
  have := hx.conc
  simp only [conc] at this
  subst this
  have := int_of_is hi
  subst this
  refine ⟨_, ?_, fun _ => rfl⟩
  simp only [Instr.index, asIntOf, Sem.run_bind, Sem.run_pure, Result.andThen_ok, run_underlying hu]
  have : (if 0 ≤ i then (⟨s.toArray⟩ : ByteArray)[i.toNat]? else none) = some s[i.toNat] := by
    rw [if_pos h1]
    have hsz : i.toNat < (⟨s.toArray⟩ : ByteArray).size := by simpa [ByteArray.size] using hlt
    exact getElem?_pos (⟨s.toArray⟩ : ByteArray) i.toNat hsz
  rw [this]
  rfl

/-! ### Aggregates built -/
/-- One part after the other laid over a value. -/
def layK (place : Nat → (Nat → Nat → PStep → Prop) → Prop) : List (Nat × D) → D → (D → Prop) → Prop
  | [], d, k => force d k
  | (i, e) :: rest, d, k => place i fun _ n s => sizeK e fun m => when (Nat.beq m n) (putK [s] d e fun d' => layK place rest d' k)
def fieldPlaceK (P : Program) : List Field → Nat → (Nat → Nat → PStep → Prop) → Prop
  | [], _, _ => False
  | ⟨_, ty, off, _, _, _, _⟩ :: _, 0, k => k off (P.cellsOf ty) (.fld 0 off)
  | _ :: fs, i + 1, k => fieldPlaceK P fs i fun o n s => k o n (match s with | .fld j o => .fld (j + 1) o | s => s)
def buildK (P : Program) (Z : TypeId → D) (T : TypeId) (parts : List (Nat × D)) (k : D → Prop) : Prop :=
  match P.underlying T with
  | some (.struct fs) => known (Z T) fun z => layK (fieldPlaceK P fs.toList) parts z k
  | some (.array _ e) => known (Z T) fun z => layK (fun i k => k (i * P.cellsOf e) (P.cellsOf e) (.ix i (P.cellsOf e))) parts z k
  | _ => False
/-- The zero values that are known. -/
def Zeros (P : Program) (Z : TypeId → D) : Prop := ∀ T, isJunk (Z T) = false → ∃ i z, P.info? T = some i ∧ i.zero = some z ∧ (∀ R, Is R (Z T) z) ∧ i.size = size (Z T)

theorem fieldPlaceK_spec {P : Program} : ∀ (fs : List Field) (i : Nat) (k : Nat → Nat → PStep → Prop), fieldPlaceK P fs i k → ∃ f j, fs[i]? = some f ∧ k f.offset (P.cellsOf f.type) (.fld j f.offset)
  | [], _, _, h => h.elim
  | ⟨_, ty, off, _, _, _, _⟩ :: _, 0, k, h => ⟨_, 0, rfl, h⟩
  | f :: fs, i + 1, k, h => by
    obtain ⟨g, j, hg, hk⟩ := fieldPlaceK_spec fs i _ h
    exact ⟨g, j + 1, by simpa using hg, hk⟩
theorem foldl_set (o : Nat) : ∀ (vs : List Value) (j : Nat) (c : Array Value), o + j + vs.length ≤ c.size →
    ((vs.zipIdx j).foldl (fun (cs : Array Value) (x : Value × Nat) => cs.setIfInBounds (o + x.2) x.1) c).toList = c.toList.take (o + j) ++ vs ++ c.toList.drop (o + j + vs.length)
  | [], j, c, _ => by simp
  | v :: vs, j, c, h => by
    simp only [List.zipIdx_cons, List.foldl_cons, List.length_cons] at h ⊢
    rw [foldl_set o vs (j + 1) _ (by simp; omega)]
    have hlt : o + j < c.toList.length := by simp; omega
    rw [Array.toList_setIfInBounds, List.set_eq_take_append_cons_drop, if_pos hlt]
    have e1 : (c.toList.take (o + j)).length = o + j := by simp; omega
    rw [show o + (j + 1) = o + j + 1 by omega]
    have e2 : (c.toList.take (o + j) ++ v :: c.toList.drop (o + j + 1)).take (o + j + 1) = c.toList.take (o + j) ++ [v] := by
      rw [List.take_append, e1, show o + j + 1 - (o + j) = 1 by omega, List.take_of_length_le (by omega : (c.toList.take (o + j)).length ≤ o + j + 1)]; rfl
    have e3 : (c.toList.take (o + j) ++ v :: c.toList.drop (o + j + 1)).drop (o + j + 1 + vs.length) = c.toList.drop (o + j + (vs.length + 1)) := by
      rw [List.drop_append, e1, List.drop_of_length_le (by omega : (c.toList.take (o + j)).length ≤ o + j + 1 + vs.length), show o + j + 1 + vs.length - (o + j) = vs.length + 1 by omega]
      rw [List.nil_append, List.drop_succ_cons, List.drop_drop]
      congr 1; omega
    rw [e2, e3]
    simp
theorem layK_spec {pl : Nat → Option (Nat × Nat)} {place : Nat → (Nat → Nat → PStep → Prop) → Prop}
    (hpl : ∀ i k, place i k → ∃ o n s, pl i = some (o, n) ∧ s.off = o ∧ k o n s) : ∀ (parts : List (Nat × D)) (d : D) (k : D → Prop), isAgg d = true → layK place parts d k →
      ∃ d', k d' ∧ size d' = size d ∧ isAgg d' = true ∧ ∀ (R : Env) (vs : List (Nat × Value)), vs.length = parts.length → (∀ (j i : Nat) (e : D), parts[j]? = some (i, e) → ∃ v : Value, vs[j]? = some (i, v) ∧ Is R e v) →
        ∀ c : Array Value, IsC R d c.toList → ∃ c', Instr.fill pl c vs = some c' ∧ IsC R d' c'.toList
  | [], d, k, ha, h => ⟨d, (force_iff _ _).1 h, rfl, ha, fun R vs hl _ c hc => by
      have : vs = [] := by simpa using hl
      subst this
      exact ⟨c, rfl, hc⟩⟩
  | (i, e) :: rest, d, k, ha, h => by
    obtain ⟨o, n, s, ho, hs, h⟩ := hpl i _ h
    obtain ⟨hn, h⟩ := when_iff.1 ((sizeK_iff _ _).1 h)
    have hn := Nat.eq_of_beq_eq_true hn
    obtain ⟨d1, ⟨h1, h2, h3⟩, h⟩ := putK_spec _ _ _ _ h
    obtain ⟨d', hk, hz, ha', hrun⟩ := layK_spec hpl rest d1 k (by rw [h2, ha]) h
    refine ⟨d', hk, by rw [hz, h1], ha', fun R vs hl hvs c hc => ?_⟩
    obtain ⟨v, hv, hi⟩ := hvs 0 i e rfl
    cases vs with
    | nil => simp at hl
    | cons x vs =>
      simp at hv
      subst hv
      have hoff : offP [s] = o := by simp [offP, hs]
      rw [hoff] at h3
      have hve : v.cells.toList = cells R e := by have := hi.cells []; simpa using this.symm
      have hvs' : v.cells.size = size e := by rw [← Array.length_toList, hve, cells_length]
      have hfit : o + v.cells.size ≤ c.size := by
        obtain ⟨l, m, r, e1, _, hl1, hm1⟩ := h3 R
        have : c.toList = l ++ m ++ r := by rw [← e1]; exact (hc.cells).symm
        have hcl : c.size = (l ++ m ++ r).length := by rw [← this]; simp
        simp at hcl
        omega
      have hcell : IsC R d1 ((v.cells.zipIdx.foldl (fun cs (x : Value × Nat) => cs.setIfInBounds (o + x.2) x.1) c)).toList := by
        have hf := foldl_set o v.cells.toList 0 c (by simpa using hfit)
        have e0 : v.cells.zipIdx.foldl (fun (cs : Array Value) (x : Value × Nat) => cs.setIfInBounds (o + x.2) x.1) c = (v.cells.toList.zipIdx 0).foldl (fun (cs : Array Value) (x : Value × Nat) => cs.setIfInBounds (o + x.2) x.1) c := by
          rw [← Array.foldl_toList, Array.toList_zipIdx]
        rw [e0, hf]
        intro X
        obtain ⟨l, m, r, e1, e2, hl1, hm1⟩ := h3 (R ++ X)
        rw [e2]
        have hcX : c.toList = l ++ m ++ r := by rw [← e1]; exact (hc X).symm
        have heX : cells (R ++ X) e = v.cells.toList := hi.cells X
        rw [heX, hcX]
        have hml : m.length = v.cells.toList.length := by rw [hm1, Array.length_toList, hvs']
        simp only [Nat.add_zero]
        rw [← hl1, ← hml]
        simp [List.append_assoc]
      obtain ⟨c', hc', hi'⟩ := hrun R vs (by simpa using hl) (fun j i e he => hvs (j + 1) i e (by simpa using he)) _ hcell
      refine ⟨c', ?_, hi'⟩
      unfold Instr.fill
      rw [ho]
      simp only [hvs', hn, ne_eq, not_true_eq_false, decide_false, Bool.false_or, decide_eq_true_eq]
      rw [if_neg (by omega)]
      exact hc'
end Go.Proofs.Ytdgnnboljgpcmaa.E
