import Derived.Test.YtdgnnboljgpcmaaEngM
namespace Go.Proofs.Ytdgnnboljgpcmaa.E
open Go

/-! ### Operations, one behind the other -/
def dstK (ts : List D) (dst : Option Tmp) (d : D) (k : List D → Prop) : Prop :=
  match dst with
  | none => k ts
  | some t => setTK ts t d k
def dstOf : List Oper → Nat → Option Tmp
  | [], _ => none
  | ⟨dst, _, _, _, _, _⟩ :: _, 0 => dst
  | _ :: l, i + 1 => dstOf l i
theorem dstOf_eq : ∀ (l : List Oper) (i : Nat), dstOf l i = (l[i]?).bind (·.dst)
  | [], _ => by simp [dstOf]
  | ⟨dst, _, _, _, _, _⟩ :: _, 0 => rfl
  | _ :: l, i + 1 => by simpa [dstOf] using dstOf_eq l i
/-- Which of two: by a slot that holds a truth value. A truth that is not known splits, and is known from there on. -/
def splitK (ts : List D) (t : Nat) (yes no : List D → Prop) : Prop :=
  match getT ts t with
  | .tt => yes ts
  | .ff => no ts
  | .bool b => (b = true → setTK ts t .tt yes) ∧ (b = false → setTK ts t .ff no)
  | .tup [] => no ts
  | _ => False
def guardK (ops : List Oper) (ts : List D) (g : Option (Nat × Bool)) (yes no : List D → Prop) : Prop :=
  match g with
  | none => yes ts
  | some (j, want) => match dstOf ops j with
    | some t => match getT ts t with
      | .tup [] => no ts
      | _ => match want with
        | true => splitK ts t yes no
        | false => splitK ts t no yes
    | none => False

theorem splitK_spec {ts : List D} {t : Nat} {yes no : List D → Prop} (h : splitK ts t yes no) {R : Env} {vs : List Value} (hs : Slots R ts vs) :
    (∃ ts', yes ts' ∧ Slots R ts' vs ∧ vs[t]? = some (.bool true)) ∨ (∃ ts', no ts' ∧ Slots R ts' vs ∧ (vs[t]? = some (.bool false) ∨ (getT ts t = .tup [] ∧ vs[t]? = some undef))) := by
  unfold splitK at h
  have set : ∀ (b : Bool) (hd : getT ts t = .bool b) (e : D) (he : ∀ R, conc R e = .bool b) (k : List D → Prop), setTK ts t e k → ∃ ts', k ts' ∧ Slots R ts' vs ∧ vs[t]? = some (.bool b) := by
    intro b hd e he k hk
    obtain ⟨hlt, hk⟩ := setTK_iff _ _ _ _ hk
    obtain ⟨v, hv, hi⟩ := hs.get t (by rw [hd]; rfl)
    have hvb : v = .bool b := by rw [hd] at hi; have := hi.conc; simpa [conc] using this.symm
    subst hvb
    refine ⟨_, hk, ?_, hv⟩
    have := Slots.set (R := R) t (d := e) (v := .bool b) hs (.inr fun X => he _)
    rwa [show vs.set t (.bool b) = vs by
      apply List.ext_getElem?
      intro j
      rw [List.getElem?_set]
      split
      · rename_i hj; subst hj; rw [hv]; simp [(List.getElem?_eq_some_iff.1 hv).1]
      · rfl] at this
  split at h
  · rename_i hd
    obtain ⟨v, hv, hi⟩ := hs.get t (by rw [hd]; rfl)
    rw [hd] at hi
    have : v = .bool true := by have := hi.conc; simpa [conc] using this.symm
    exact .inl ⟨ts, h, hs, by rw [hv, this]⟩
  · rename_i hd
    obtain ⟨v, hv, hi⟩ := hs.get t (by rw [hd]; rfl)
    rw [hd] at hi
    have : v = .bool false := by have := hi.conc; simpa [conc] using this.symm
    exact .inr ⟨ts, h, hs, .inl (by rw [hv, this])⟩
  · rename_i b hd
    cases b with
    | true => exact .inl (set true hd .tt (fun _ => rfl) yes (h.1 rfl))
    | false =>
      obtain ⟨ts', h1, h2, h3⟩ := set false hd .ff (fun _ => rfl) no (h.2 rfl)
      exact .inr ⟨ts', h1, h2, .inl h3⟩
  · rename_i hd
    obtain ⟨v, hv, hi⟩ := hs.get t (by rw [hd]; rfl)
    rw [hd] at hi
    have : v = undef := by have := hi.conc; simpa [conc, concL, undef] using this.symm
    exact .inr ⟨ts, h, hs, .inr ⟨hd, by rw [hv, this]⟩⟩
  · exact h.elim

theorem guardK_spec {ops : List Oper} {ts : List D} {o : Oper} {yes no : List D → Prop} (h : guardK ops ts o.guard yes no) {R : Env} {a : Act} (hs : Slots R ts a.tmps.toList) :
    (∃ ts', yes ts' ∧ Slots R ts' a.tmps.toList ∧ Region.wanted o (yielded ops.toArray a.tmps) = true) ∨ (∃ ts', no ts' ∧ Slots R ts' a.tmps.toList ∧ Region.wanted o (yielded ops.toArray a.tmps) = false) := by
  unfold guardK at h
  unfold Region.wanted
  split at h
  · rename_i hg
    exact .inl ⟨ts, h, hs, by rw [hg]⟩
  · rename_i j want hg
    rw [hg]
    simp only
    split at h <;> try exact h.elim
    rename_i t ht
    have hy : ∀ v, a.tmps.toList[t]? = some v → yielded ops.toArray a.tmps j = (match v with | .bool b => some b | _ => none) := by
      intro v hv
      unfold yielded
      rw [List.getElem?_toArray, ← dstOf_eq, ht]
      simp only [Option.bind_some]
      rw [← Array.getElem?_toList, hv]
      cases v <;> rfl
    split at h
    · rename_i hd
      obtain ⟨v, hv, hi⟩ := hs.get t (by rw [hd]; rfl)
      rw [hd] at hi
      have : v = undef := by have := hi.conc; simpa [conc, concL, undef] using this.symm
      subst this
      exact .inr ⟨ts, h, hs, by rw [hy _ hv]; rfl⟩
    · rename_i hnt
      split at h
      · rcases splitK_spec h hs with ⟨ts', h1, h2, h3⟩ | ⟨ts', h1, h2, h3 | ⟨h3, _⟩⟩
        · exact .inl ⟨ts', h1, h2, by rw [hy _ h3]; rfl⟩
        · exact .inr ⟨ts', h1, h2, by rw [hy _ h3]; rfl⟩
        · exact absurd h3 hnt
      · rcases splitK_spec h hs with ⟨ts', h1, h2, h3⟩ | ⟨ts', h1, h2, h3 | ⟨h3, _⟩⟩
        · exact .inr ⟨ts', h1, h2, by rw [hy _ h3]; rfl⟩
        · exact .inl ⟨ts', h1, h2, by rw [hy _ h3]; rfl⟩
        · exact absurd h3 hnt

def opsStep (P : Program) (Z : TypeId → D) (all : List Oper) (o : Oper) (ih : St → (St → Prop) → Prop) (st : St) (k : St → Prop) : Prop :=
  match o, st with
  | ⟨dst, op, _, _, _, g⟩, ⟨ts, H⟩ => guardK all ts g (fun ts => effK P Z ts H op fun d H => dstK ts dst d fun ts => ih ⟨ts, H⟩ k) (fun ts => dstK ts dst (.tup []) fun ts => ih ⟨ts, H⟩ k)
/-- (By the recursor itself: so the checker and the tactics come to the same term.) -/
noncomputable def opsK (P : Program) (Z : TypeId → D) (all : List Oper) (l : List Oper) : St → (St → Prop) → Prop :=
  List.rec (motive := fun _ => St → (St → Prop) → Prop) (fun st k => k st) (fun o _ ih => opsStep P Z all o ih) l

theorem put_toList (a : Act) (t : Nat) (v : Value) : (a.put (some t) v).tmps.toList = a.tmps.toList.set t v := by
  simp [Act.put]
theorem Rep.put {F : HP} {w0 : World} {R0 : Env} {ts : List D} {H H' : List SObj} {R X : Env} {a : Act} {w w' : World} (h : Rep F w0 R0 ⟨ts, H⟩ R a w) {ts1 : List D} (hs1 : Slots R ts1 a.tmps.toList) {dst : Option Tmp} {d : D} {v : Value}
    (hl : (R ++ X).length = H'.length) (hv : isJunk d = true ∨ Is (R ++ X) d v) (hs : Sat (star (hpH (R ++ X) (R ++ X) H') F) w') (hsame : Same w w') {k : List D → Prop} (hk : dstK ts1 dst d k) :
    ∃ ts', k ts' ∧ Rep F w0 R0 ⟨ts', H'⟩ (R ++ X) (a.put dst v) w' := by
  obtain ⟨Y, hY⟩ := h.pre
  unfold dstK at hk
  split at hk
  · exact ⟨ts1, hk, ⟨Y ++ X, by rw [hY]; simp⟩, hl, hs1.ext X, h.defers, hs, h.same.trans hsame⟩
  · rename_i t
    obtain ⟨_, hk⟩ := setTK_iff _ _ _ _ hk
    refine ⟨_, hk, ⟨Y ++ X, by rw [hY]; simp⟩, hl, ?_, h.defers, hs, h.same.trans hsame⟩
    rw [put_toList]
    exact Slots.set t (hs1.ext X) hv

theorem opsK_spec {P : Program} {Z : TypeId → D} (hZ : Zeros P Z) {all : List Oper} {Q : Exit → Act → World → Prop} {F : HP} {w0 : World} {R0 : Env} {k : St → Prop}
    (hQ : ∀ st R a w, k st → Rep F w0 R0 st R a w → Q .normal a w) : ∀ (l : List Oper) (st : St) (R : Env) (a : Act) (w : World), Rep F w0 R0 st R a w → opsK P Z all l st k → wpList P all.toArray Q l a w
  | [], st, R, a, w, hr, h => hQ st R a w h hr
  | o :: rest, ⟨ts, H⟩, R, a, w, hr, h => by
    have h : guardK all ts o.guard (fun ts => effK P Z ts H o.op fun d H => dstK ts o.dst d fun ts => opsK P Z all rest ⟨ts, H⟩ k) (fun ts => dstK ts o.dst (.tup []) fun ts => opsK P Z all rest ⟨ts, H⟩ k) := h
    unfold wpList
    rcases guardK_spec h hr.slots with ⟨ts1, h1, hs1, hw⟩ | ⟨ts1, h1, hs1, hw⟩
    · rw [if_pos hw]
      refine .inl (stepOK.wp (effK_spec hZ h1 F R a w hr.len hs1 hr.sat) ?_)
      rintro v w' ⟨d, H', X, hk, hl, hv, hs, hsame⟩
      obtain ⟨ts', hk', hr'⟩ := hr.put hs1 hl hv hs hsame hk
      exact opsK_spec hZ hQ rest _ _ _ _ hr' hk'
    · rw [if_neg (by simp [hw])]
      obtain ⟨ts', hk', hr'⟩ := hr.put (X := []) (v := undef) hs1 (by simpa using hr.len) (.inr fun X => by simp [conc, concL, undef]) (by simpa using hr.sat) (Same.refl w) h1
      exact opsK_spec hZ hQ rest _ _ _ _ hr' hk'
end Go.Proofs.Ytdgnnboljgpcmaa.E
