import Derived.Test.YtdgnnboljgpcmaaEngB
namespace Go.Proofs.Ytdgnnboljgpcmaa.E
open Go

/-! ### What is owned: blocks, by their handles -/
inductive SObj : Type 1 where
  | gone
  | var (t : TypeId) (d : D)
  | vec (t : TypeId) (s : Nat) {α : Type} (enc : α → D) (xs : List α) (cap : Nat)
  | mp {κ β : Type} (dec : DecidableEq κ) (ke : κ → D) (ve : β → D) (m : List (κ × β))
  | mpx {κ β : Type} (dec : DecidableEq κ) (ke : κ → D) (ve : β → D) (m : List (κ × β)) (bs : List Nat) (clock : Nat)
  | iter (mh : Nat) (seen : List Nat) (since : Nat)
  | res (A : HP)

def flat (R : Env) (s : Nat) {α : Type} (enc : α → D) (xs : List α) : List Value := xs.flatMap fun x => fit s (cells R (enc x))
theorem flat_length (R : Env) (s : Nat) {α : Type} (enc : α → D) (xs : List α) : (flat R s enc xs).length = xs.length * s := flatMap_length _ s (fun _ => fit_length _ _) xs
theorem flat_append (R : Env) (s : Nat) {α : Type} (enc : α → D) (xs ys : List α) : flat R s enc (xs ++ ys) = flat R s enc xs ++ flat R s enc ys := by simp [flat]
def IsF (R : Env) (s : Nat) {α : Type} (enc : α → D) (xs : List α) (cs : List Value) : Prop := ∀ X, flat (R ++ X) s enc xs = cs

def IsM (R : Env) {κ β : Type} (ke : κ → D) (ve : β → D) (m : List (κ × β)) (es : List MapEntry) : Prop :=
  ∀ X, es.map (fun e => (e.key, e.val)) = m.map (fun kv => (conc (R ++ X) (ke kv.1), conc (R ++ X) (ve kv.2)))
def hpO (R : Env) (ob : Option (Nat × Nat)) : SObj → HP
  | .gone => emp
  | .var t d => fun f => ∃ b cs, ob = some (b, 0) ∧ IsC R d cs ∧ f b = some (.cells cs.toArray t (0, 0))
  | .vec t s enc xs cap => fun f => (ob = none ∧ xs = [] ∧ cap = 0) ∨
      ∃ b z cs pre rest, ob = some (b, z) ∧ IsF R s enc xs cs ∧ (cs ++ rest).length = cap * s ∧ pre.length = z ∧ f b = some (.cells (pre ++ cs ++ rest).toArray t (0, 0))
  | .mp _ ke ve m => fun f => ∃ b es clock, ob = some (b, 0) ∧ IsM R ke ve m es.toList ∧ (m.map (·.1)).Nodup ∧ (es.toList.map (·.born)).Nodup ∧ (∀ e ∈ es.toList, e.born < clock) ∧ f b = some (.map es clock)
  | .mpx _ ke ve m bs clock => fun f => ∃ b es, ob = some (b, 0) ∧ IsM R ke ve m es.toList ∧ (m.map (·.1)).Nodup ∧ es.toList.map (·.born) = bs ∧ bs.Nodup ∧ (∀ x ∈ bs, x < clock) ∧ f b = some (.map es clock)
  | .iter mh seen since => fun f => ∃ b mb, ob = some (b, 0) ∧ R[mh]? = some (some (mb, 0)) ∧ f b = some (.mapIter (some mb) since seen.toArray since)
  | .res A => A
def hpH (R : Env) : Env → List SObj → HP
  | ob :: ρ, o :: H => star (hpO R ob o) (hpH R ρ H)
  | _, _ => emp

theorem hpO_ext (R X : Env) (ob : Option (Nat × Nat)) (o : SObj) : Imp (hpO R ob o) (hpO (R ++ X) ob o) := by
  intro f h
  cases o with
  | gone => exact h
  | var t d => obtain ⟨b, cs, h1, h2, h3⟩ := h; exact ⟨b, cs, h1, h2.ext X, h3⟩
  | vec t s enc xs cap =>
    rcases h with h | ⟨b, z, cs, pre, rest, h1, h2, h3⟩
    · exact .inl h
    · exact .inr ⟨b, z, cs, pre, rest, h1, fun Y => by rw [List.append_assoc]; exact h2 _, h3⟩
  | mp _ ke ve m =>
    obtain ⟨b, es, clock, h1, h2, h3⟩ := h
    exact ⟨b, es, clock, h1, fun Y => by rw [List.append_assoc]; exact h2 _, h3⟩
  | mpx _ ke ve m bs clock =>
    obtain ⟨b, es, h1, h2, h3⟩ := h
    exact ⟨b, es, h1, fun Y => by rw [List.append_assoc]; exact h2 _, h3⟩
  | iter mh seen since =>
    obtain ⟨b, mb, h1, h2, h3⟩ := h
    exact ⟨b, mb, h1, by rw [List.getElem?_append_left (List.getElem?_eq_some_iff.1 h2).1]; exact h2, h3⟩
  | res A => exact h
theorem hpH_ext (R X : Env) : ∀ (ρ : Env) (H : List SObj), Imp (hpH R ρ H) (hpH (R ++ X) ρ H)
  | [], _ => fun _ h => by simpa [hpH] using h
  | _ :: _, [] => fun _ h => by simpa [hpH] using h
  | ob :: ρ, o :: H => star_mono (hpO_ext R X ob o) (hpH_ext R X ρ H)
theorem hpH_get (R : Env) : ∀ (ρ : Env) (H : List SObj) (i : Nat) (ob : Option (Nat × Nat)) (o : SObj), ρ[i]? = some ob → H[i]? = some o →
    Imp (hpH R ρ H) (star (hpO R ob o) (hpH R ρ (H.set i .gone)))
  | [], _, _, _, _, h, _ => by simp at h
  | _ :: _, [], _, _, _, _, h => by simp at h
  | x :: ρ, y :: H, 0, ob, o, h, h' => by
    simp at h h'; subst h; subst h'
    intro f hf
    have := star_mono (Imp.refl (hpO R x y)) (star_emp (hpH R ρ H)) f hf
    exact star_mono (Imp.refl _) (star_comm _ _) f this
  | x :: ρ, y :: H, i + 1, ob, o, h, h' => by
    simp at h h'
    exact (star_mono (Imp.refl _) (hpH_get R ρ H i ob o h h')).trans (star_left _ _ _)
theorem star_gone (A B : HP) : Imp (star A (star emp B)) (star A B) := fun _ ⟨g, _, gf, hf, gh, a, _, y, _, yh, _, _, b⟩ =>
  ⟨g, y, gf, Frag.le_trans yh hf, Frag.disj_symm (Frag.disj_le (Frag.disj_symm gh) yh), a, b⟩
theorem hpH_put (R : Env) : ∀ (ρ : Env) (H : List SObj) (i : Nat) (ob : Option (Nat × Nat)) (o : SObj), ρ[i]? = some ob → i < H.length →
    Imp (star (hpO R ob o) (hpH R ρ (H.set i .gone))) (hpH R ρ (H.set i o))
  | [], _, _, _, _, h, _ => by simp at h
  | _ :: _, [], _, _, _, _, h => by simp at h
  | x :: ρ, y :: H, 0, ob, o, h, h' => by
    simp at h; subst h
    exact star_gone _ _
  | x :: ρ, y :: H, i + 1, ob, o, h, h' => by
    simp at h
    exact (star_left _ _ _).trans (star_mono (Imp.refl _) (hpH_put R ρ H i ob o h (by simpa using h')))
theorem hpH_push (R : Env) : ∀ (ρ : Env) (H : List SObj) (ob : Option (Nat × Nat)) (o : SObj), ρ.length = H.length → Imp (star (hpO R ob o) (hpH R ρ H)) (hpH R (ρ ++ [ob]) (H ++ [o]))
  | [], [], ob, o, _ => fun _ h => h
  | [], _ :: _, _, _, h => by simp at h
  | _ :: _, [], _, _, h => by simp at h
  | x :: ρ, y :: H, ob, o, h => (star_left _ _ _).trans (star_mono (Imp.refl _) (hpH_push R ρ H ob o (by simpa using h)))
theorem hpH_drop (R : Env) : ∀ (ρ : Env) (H : List SObj) (n : Nat), Imp (hpH R ρ H) (hpH R ρ (H.take n))
  | [], _, _ => fun _ h => by simp [hpH, emp]
  | _ :: _, [], _ => fun _ h => by simp [hpH, emp]
  | x :: ρ, y :: H, 0 => fun _ h => by simp [hpH, emp]
  | x :: ρ, y :: H, n + 1 => star_mono (Imp.refl _) (hpH_drop R ρ H n)

def getH : List SObj → Nat → SObj
  | [], _ => .gone
  | o :: _, 0 => o
  | _ :: H, i + 1 => getH H i
theorem getH_some : ∀ (H : List SObj) (i : Nat), getH H i ≠ .gone → H[i]? = some (getH H i)
  | [], _, h => absurd rfl h
  | o :: _, 0, _ => rfl
  | _ :: H, i + 1, h => by simpa [getH] using getH_some H i h
def setHK : List SObj → Nat → SObj → (List SObj → Prop) → Prop
  | [], _, _, _ => False
  | _ :: H, 0, o, k => k (o :: H)
  | x :: H, i + 1, o, k => setHK H i o fun H' => k (x :: H')
theorem setHK_iff : ∀ (H : List SObj) (i : Nat) (o : SObj) (k : List SObj → Prop), setHK H i o k → i < H.length ∧ k (H.set i o)
  | [], _, _, _, h => h.elim
  | _ :: H, 0, o, k, h => ⟨by simp, h⟩
  | x :: H, i + 1, o, k, h => by have := setHK_iff H i o _ h; exact ⟨by simpa using this.1, this.2⟩
def pushHK (H : List SObj) (o : SObj) (k : List SObj → Prop) : Prop :=
  match H with
  | [] => k [o]
  | x :: H => pushHK H o fun H' => k (x :: H')
theorem pushHK_iff : ∀ (H : List SObj) (o : SObj) (k : List SObj → Prop), pushHK H o k → k (H ++ [o])
  | [], _, _, h => h
  | _ :: H, o, _, h => pushHK_iff H o _ h
def lenK (H : List SObj) (n : Nat) (k : Nat → Prop) : Prop :=
  match H with
  | [] => k n
  | _ :: H => lenK H (n + 1) k
theorem lenK_iff : ∀ (H : List SObj) (n : Nat) (k : Nat → Prop), lenK H n k ↔ k (n + H.length)
  | [], n, k => by simp [lenK]
  | _ :: H, n, k => by rw [lenK, lenK_iff H]; simp [Nat.add_assoc, Nat.add_comm 1]

/-! ### The state, and what it says of the machine's -/
structure St : Type 1 where
  ts : List D
  H : List SObj
def isJunk : D → Bool
  | .junk => true
  | _ => false
def Slots (R : Env) : List D → List Value → Prop
  | [], [] => True
  | d :: ds, v :: vs => (isJunk d = true ∨ Is R d v) ∧ Slots R ds vs
  | _, _ => False
theorem Slots.length {R : Env} : ∀ {ds : List D} {vs : List Value}, Slots R ds vs → ds.length = vs.length
  | [], [], _ => rfl
  | _ :: _, _ :: _, h => by simpa using Slots.length h.2
  | [], _ :: _, h => h.elim
  | _ :: _, [], h => h.elim
theorem Slots.ext {R : Env} (X : Env) : ∀ {ds : List D} {vs : List Value}, Slots R ds vs → Slots (R ++ X) ds vs
  | [], [], _ => trivial
  | _ :: _, _ :: _, h => ⟨h.1.imp id (fun k => k.ext X), Slots.ext X h.2⟩
  | [], _ :: _, h => h.elim
  | _ :: _, [], h => h.elim
def getT : List D → Nat → D
  | [], _ => .junk
  | d :: _, 0 => d
  | _ :: ds, i + 1 => getT ds i
theorem Slots.get {R : Env} : ∀ {ds : List D} {vs : List Value} (i : Nat), Slots R ds vs → isJunk (getT ds i) = false → ∃ v, vs[i]? = some v ∧ Is R (getT ds i) v
  | [], _, _, _, h => by simp [getT, isJunk] at h
  | d :: ds, [], _, h, _ => h.elim
  | d :: ds, v :: vs, 0, h, hj => by
    rcases h.1 with h1 | h1
    · simp only [getT] at hj; rw [hj] at h1; cases h1
    · exact ⟨v, rfl, h1⟩
  | d :: ds, v :: vs, i + 1, h, hj => by simpa [getT] using Slots.get i h.2 hj
def setTK : List D → Nat → D → (List D → Prop) → Prop
  | [], _, _, _ => False
  | _ :: ds, 0, d, k => k (d :: ds)
  | x :: ds, i + 1, d, k => setTK ds i d fun ds' => k (x :: ds')
theorem setTK_iff : ∀ (ds : List D) (i : Nat) (d : D) (k : List D → Prop), setTK ds i d k → i < ds.length ∧ k (ds.set i d)
  | [], _, _, _, h => h.elim
  | _ :: _, 0, _, _, h => ⟨by simp, h⟩
  | _ :: ds, i + 1, d, k, h => by have := setTK_iff ds i d _ h; exact ⟨by simpa using this.1, this.2⟩
theorem Slots.set {R : Env} : ∀ {ds : List D} {vs : List Value} (i : Nat) {d : D} {v : Value}, Slots R ds vs → (isJunk d = true ∨ Is R d v) → Slots R (ds.set i d) (vs.set i v)
  | [], [], _, _, _, _, _ => by simp [Slots]
  | d :: ds, v :: vs, 0, _, _, h, hv => ⟨hv, h.2⟩
  | d :: ds, v :: vs, i + 1, _, _, h, hv => ⟨h.1, Slots.set i h.2 hv⟩
  | [], _ :: _, _, _, _, h, _ => h.elim
  | _ :: _, [], _, _, _, h, _ => h.elim

structure Same (w0 w : World) : Prop where
  os : w.os = w0.os
  tape : w.tape = w0.tape
  output : w.output = w0.output
  size : w0.heap.size ≤ w.heap.size
theorem Same.refl (w : World) : Same w w := ⟨rfl, rfl, rfl, Nat.le_refl _⟩
theorem Same.trans {a b c : World} (h : Same a b) (k : Same b c) : Same a c := ⟨k.os.trans h.os, k.tape.trans h.tape, k.output.trans h.output, Nat.le_trans h.size k.size⟩

structure Rep (F : HP) (w0 : World) (R0 : Env) (st : St) (R : Env) (a : Act) (w : World) : Prop where
  pre : ∃ X, R = R0 ++ X
  len : R.length = st.H.length
  slots : Slots R st.ts a.tmps.toList
  defers : a.defers = []
  sat : Sat (star (hpH R R st.H) F) w
  same : Same w0 w

/-! ### Memory read -/
def loadPK (H : List SObj) : D → (D → Prop) → Prop
  | .ptr h p, k => match getH H h with
    | .var _ x => navK p x k
    | .vec _ s enc xs _ => match p with
      | .ix j s' :: p' => when (Nat.beq s' s) (j < xs.length ∧ ∀ x, xs[j]? = some x → sizeK (enc x) fun m => when (Nat.beq m s) (navK p' (enc x) k))
      | _ => False
    | _ => False
  | _, _ => False

/-- In the memory that is told by H the cells of e lie at place p of the block of h. -/
def Lies (F : HP) (H : List SObj) (h o : Nat) (e : D) : Prop :=
  ∀ R w, R.length = H.length → Sat (star (hpH R R H) F) w → ∃ b z c t fr, R[h]? = some (some (b, z)) ∧ w.heap[b]? = some (.cells c t fr) ∧ z + o + size e ≤ c.size ∧ IsC R e ((c.toList.drop (z + o)).take (size e))

theorem take_drop_mid {l m r : List Value} {o n : Nat} (h1 : l.length = o) (h2 : m.length = n) : ((l ++ m ++ r).drop o).take n = m := by
  subst h1; subst h2; simp
theorem isC_part {R : Env} {d e : D} {o : Nat} {cs : List Value} (h : IsC R d cs) (hp : PartAt o d e) : o + size e ≤ cs.length ∧ IsC R e ((cs.drop o).take (size e)) := by
  constructor
  · obtain ⟨l, r, e1, hl⟩ := hp R
    rw [← h.cells, e1]; simp [hl, cells_length]
  · intro X
    obtain ⟨l, r, e1, hl⟩ := hp (R ++ X)
    rw [← h X, e1, take_drop_mid hl (cells_length _ _)]
theorem isF_part {R : Env} {s : Nat} {α : Type} {enc : α → D} {xs : List α} {cs : List Value} (h : IsF R s enc xs cs) {j : Nat} {x : α} (hx : xs[j]? = some x) (hz : size (enc x) = s) :
    IsC R (enc x) ((cs.drop (j * s)).take s) := by
  intro X
  have hlt := (List.getElem?_eq_some_iff.1 hx).1
  rw [← h X]
  unfold flat
  rw [flatMap_split _ xs j x hx, fit_self (by rw [cells_length, hz])]
  rw [take_drop_mid (by rw [flatMap_length _ s (fun _ => fit_length _ _)]; simp [Nat.min_eq_left (Nat.le_of_lt hlt)]) (by rw [cells_length, hz])]

theorem loadPK_spec (H : List SObj) (d : D) (k : D → Prop) (hk : loadPK H d k) : ∃ h p e, d = .ptr h p ∧ (∀ F, Lies F H h (offP p) e) ∧ k e := by
  cases d <;> simp only [loadPK] at hk <;> try exact hk.elim
  rename_i h p
  cases ho : getH H h with
  | gone => simp [ho] at hk
  | res A => simp [ho] at hk
  | mp _ ke ve m => simp [ho] at hk
  | mpx _ ke ve m bs clock => simp [ho] at hk
  | iter mh seen since => simp [ho] at hk
  | var t x =>
    simp only [ho] at hk
    obtain ⟨e, he, hke⟩ := navK_spec p x k hk
    refine ⟨h, p, e, rfl, fun F R w hl hs => ?_, hke⟩
    have hH := getH_some H h (by rw [ho]; simp)
    rw [ho] at hH
    have hlt := (List.getElem?_eq_some_iff.1 hH).1
    have hR : R[h]? = some R[h] := by simp
    obtain ⟨f, hf, hb⟩ := (hs.left.mono (hpH_get R R H h _ _ hR hH)).left
    obtain ⟨b, cs, hb1, hb2, hb3⟩ := hb
    have := isC_part hb2 he
    exact ⟨b, 0, cs.toArray, t, (0, 0), by rw [hR, hb1], hf _ _ hb3, by simpa using this.1, by simpa using this.2⟩
  | vec t s enc xs cap =>
    rename_i α
    simp only [ho] at hk
    cases p with
    | nil => exact hk.elim
    | cons s' p =>
      cases s' with
      | fld _ _ => exact hk.elim
      | ix j s' =>
        obtain ⟨h1, hj, hk⟩ := when_iff.1 hk
        have := Nat.eq_of_beq_eq_true h1
        subst this
        have hx : xs[j]? = some xs[j] := by simp
        obtain ⟨hz, hk⟩ := when_iff.1 ((sizeK_iff _ _).1 (hk _ hx))
        have hz := Nat.eq_of_beq_eq_true hz
        obtain ⟨e, he, hke⟩ := navK_spec p _ k hk
        refine ⟨h, _, e, rfl, fun F R w hl hs => ?_, hke⟩
        have hH := getH_some H h (by rw [ho]; simp)
        rw [ho] at hH
        have hlt := (List.getElem?_eq_some_iff.1 hH).1
        have hR : R[h]? = some R[h] := by simp
        obtain ⟨f, hf, hb⟩ := (hs.left.mono (hpH_get R R H h _ _ hR hH)).left
        rcases hb with ⟨_, hb, _⟩ | ⟨b, z, cs, pre, rest, hb1, hb2, hb3, hb5, hb4⟩
        · subst hb; simp at hj
        · have hc := isF_part hb2 hx hz
          have hp := isC_part hc he
          have hcl : cs.length = xs.length * s' := by rw [← hb2 [], flat_length]
          have hjs : j * s' + s' ≤ xs.length * s' := by have := Nat.mul_le_mul_right s' (show j + 1 ≤ xs.length from hj); rwa [Nat.succ_mul] at this
          have hpl := hp.1
          simp only [List.length_take, List.length_drop] at hpl
          refine ⟨b, z, _, t, (0, 0), by rw [hR, hb1], hf _ _ hb4, ?_, ?_⟩
          · simp only [offP, PStep.off, List.size_toArray, List.length_append, hcl, hb5]; omega
          · have := hp.2
            simp only [offP, PStep.off]
            rw [List.drop_take, List.take_take, List.drop_drop] at this
            rw [List.append_assoc, ← hb5, List.drop_append, List.drop_of_length_le (by omega), List.nil_append, Nat.add_sub_cancel_left]
            rw [List.drop_append_of_le_length (by omega), List.take_append_of_le_length (by simp; omega)]
            rwa [Nat.min_eq_left (by omega)] at this
/-! ### Memory that a resource tells, by addresses -/
def RawAt (A : HP) (b o : Nat) (e : D) : Prop := ∀ f, A f → ∃ c t fr, f b = some (.cells c t fr) ∧ o + size e ≤ c.size ∧ ∀ R, cells R e = (c.toList.drop o).take (size e)
def loadK (H : List SObj) : D → (D → Prop) → Prop
  | .ptr h p, k => loadPK H (.ptr h p) k
  | .val v, k => match v with
    | .pointer (some ⟨b, o, none⟩) => match getH H 0 with
      | .res A => ∃ e, RawAt A b o e ∧ force e k
      | _ => False
    | _ => False
  | _, _ => False
/-- What lies where the pointer leads. -/
def LiesD (F : HP) (H : List SObj) (d e : D) : Prop :=
  ∀ R w vx, R.length = H.length → Sat (star (hpH R R H) F) w → Is R d vx → ∃ b o c t fr, vx = .pointer (some ⟨b, o, none⟩) ∧ w.heap[b]? = some (.cells c t fr) ∧ o + size e ≤ c.size ∧ IsC R e ((c.toList.drop o).take (size e))
theorem res_there {R : Env} {H : List SObj} {F A : HP} {w : World} (ho : getH H 0 = .res A) (hl : R.length = H.length) (hs : Sat (star (hpH R R H) F) w) : ∃ f : Frag, Frag.le f (fun b => w.heap[b]?) ∧ A f := by
  have hH := getH_some H 0 (by rw [ho]; simp)
  rw [ho] at hH
  have hlt := (List.getElem?_eq_some_iff.1 hH).1
  have hR : R[0]? = some R[0] := List.getElem?_eq_getElem (by omega)
  obtain ⟨f, hf, hb⟩ := (hs.left.mono (hpH_get R R H 0 _ _ hR hH)).left
  exact ⟨f, hf, hb⟩
theorem loadK_spec (H : List SObj) (d : D) (k : D → Prop) (hk : loadK H d k) : ∃ e, (∀ F, LiesD F H d e) ∧ k e := by
  unfold loadK at hk
  split at hk <;> try exact hk.elim
  · obtain ⟨h', p', e, hd, hlies, hk⟩ := loadPK_spec H _ _ hk
    cases hd
    refine ⟨e, fun F R w vx hl hs hx => ?_, hk⟩
    obtain ⟨b, z, c, t, fr, hR, hb, hsz, hc⟩ := hlies F R w hl hs
    have := hx.conc
    simp only [conc, addrV, hR] at this
    exact ⟨b, z + offP _, c, t, fr, this.symm, hb, hsz, hc⟩
  · split at hk <;> try exact hk.elim
    split at hk <;> try exact hk.elim
    rename_i b o _ A ho
    obtain ⟨e, he, hk⟩ := hk
    refine ⟨e, fun F R w vx hl hs hx => ?_, (force_iff _ _).1 hk⟩
    obtain ⟨f, hf, hA⟩ := res_there ho hl hs
    obtain ⟨c, t, fr, hb, hsz, hc⟩ := he f hA
    have := hx.conc
    simp only [conc, one] at this
    exact ⟨b, o, c, t, fr, this.symm, hf _ _ hb, hsz, fun X => hc _⟩
end Go.Proofs.Ytdgnnboljgpcmaa.E
