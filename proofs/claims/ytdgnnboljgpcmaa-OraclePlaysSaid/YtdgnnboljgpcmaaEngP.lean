import Derived.Test.YtdgnnboljgpcmaaEngOm
namespace Go.Proofs.Ytdgnnboljgpcmaa.E
open Go

/-! ### One state at least as well known as another, which may have forgotten the newest blocks -/
/-- What is said of all values of a kind does not hang on the blocks. -/
def Closed {α : Type} (enc : α → D) : Prop := ∀ x R R', conc R (enc x) = conc R' (enc x)
mutual
def belK (n : Nat) : D → Prop → Prop
  | .ptr h _, k => when (Nat.blt h n) k
  | .slc h _ _ _ _ _, k => when (Nat.blt h n) k
  | .mapr h, k => when (Nat.blt h n) k
  | .fn _ caps, k => belLK n caps k
  | .ifc _ d, k => belK n d k
  | .st ds, k => belLK n ds k
  | .tup ds, k => belLK n ds k
  | .arr _ _ enc _, k => Closed enc ∧ k
  | .junk, k | .tt, k | .ff, k | .bool _, k | .int .., k | .str _, k | .nilp, k | .nils, k | .nilm, k | .nilf, k | .nili, k | .val _, k | .bytes .., k => k
def belLK (n : Nat) : List D → Prop → Prop
  | [], k => k
  | d :: ds, k => belK n d (belLK n ds k)
end
def Bel (n : Nat) (d : D) : Prop := ∀ R R' : Env, R.take n = R'.take n → conc R d = conc R' d
def BelL (n : Nat) (ds : List D) : Prop := ∀ R R' : Env, R.take n = R'.take n → concL R ds = concL R' ds ∧ cellsL R ds = cellsL R' ds
theorem take_get {R R' : Env} {n h : Nat} (h1 : R.take n = R'.take n) (h2 : h < n) : R[h]? = R'[h]? := by
  have := congrArg (·[h]?) h1
  simpa [List.getElem?_take, h2] using this
mutual
theorem belK_spec (n : Nat) : ∀ (d : D) (k : Prop), belK n d k → Bel n d ∧ k
  | .ptr h p, k, hk => by
    obtain ⟨h1, hk⟩ := when_iff.1 (by simpa only [belK] using hk)
    exact ⟨fun R R' e => by simp only [conc, addrV, take_get e (by simpa [Nat.blt_eq] using h1)], hk⟩
  | .slc h p s lo len cap, k, hk => by
    obtain ⟨h1, hk⟩ := when_iff.1 (by simpa only [belK] using hk)
    exact ⟨fun R R' e => by simp only [conc, sliceV, take_get e (by simpa [Nat.blt_eq] using h1)], hk⟩
  | .mapr h, k, hk => by
    obtain ⟨h1, hk⟩ := when_iff.1 (by simpa only [belK] using hk)
    exact ⟨fun R R' e => by simp only [conc, mapV, take_get e (by simpa [Nat.blt_eq] using h1)], hk⟩
  | .fn f caps, k, hk => by
    obtain ⟨h1, hk⟩ := belLK_spec n caps k (by simpa only [belK] using hk)
    exact ⟨fun R R' e => by simp only [conc, (h1 R R' e).1], hk⟩
  | .ifc t d, k, hk => by
    obtain ⟨h1, hk⟩ := belK_spec n d k (by simpa only [belK] using hk)
    exact ⟨fun R R' e => by simp only [conc, h1 R R' e], hk⟩
  | .st ds, k, hk => by
    obtain ⟨h1, hk⟩ := belLK_spec n ds k (by simpa only [belK] using hk)
    exact ⟨fun R R' e => by simp only [conc, (h1 R R' e).2], hk⟩
  | .tup ds, k, hk => by
    obtain ⟨h1, hk⟩ := belLK_spec n ds k (by simpa only [belK] using hk)
    exact ⟨fun R R' e => by simp only [conc, (h1 R R' e).1], hk⟩
  | .arr s m enc xs, k, hk => by
    obtain ⟨h1, hk⟩ : Closed enc ∧ k := by simpa only [belK] using hk
    exact ⟨fun R R' e => by simp only [conc]; congr 2; exact congrArg (fun g => List.flatMap g xs.toList) (funext fun x => by rw [h1 x R R']), hk⟩
  | .junk, k, hk | .tt, k, hk | .ff, k, hk | .bool _, k, hk | .int .., k, hk | .str _, k, hk | .nilp, k, hk | .nils, k, hk | .nilm, k, hk | .nilf, k, hk | .nili, k, hk | .val _, k, hk | .bytes .., k, hk => by
    exact ⟨fun R R' e => by simp only [conc], by simpa only [belK] using hk⟩
theorem belLK_spec (n : Nat) : ∀ (ds : List D) (k : Prop), belLK n ds k → BelL n ds ∧ k
  | [], k, hk => ⟨fun R R' e => ⟨rfl, rfl⟩, by simpa only [belLK] using hk⟩
  | d :: ds, k, hk => by
    obtain ⟨h1, hk⟩ := belK_spec n d _ (by simpa only [belLK] using hk)
    obtain ⟨h2, hk⟩ := belLK_spec n ds k hk
    exact ⟨fun R R' e => by simp only [concL, cellsL, h1 R R' e, (h2 R R' e).1, (h2 R R' e).2, and_self], hk⟩
end
theorem Bel.cells {n : Nat} {d : D} (h : Bel n d) {R R' : Env} (e : R.take n = R'.take n) : E.cells R d = E.cells R' d := by unfold E.cells; rw [h R R' e]
theorem take_twice {R : Env} {n : Nat} (hn : n ≤ R.length) (X : Env) : (R.take n ++ X).take n = R.take n :=
  List.take_left' (by rw [List.length_take]; omega)
theorem is_drop {n : Nat} {d : D} (h : Bel n d) {R : Env} {v : Value} (hn : n ≤ R.length) (hv : Is R d v) : Is (R.take n) d v := fun X => by
  rw [h (R.take n ++ X) R (take_twice hn X)]
  exact hv.conc
theorem isC_drop {n : Nat} {d : D} (h : Bel n d) {R : Env} {cs : List Value} (hn : n ≤ R.length) (hv : IsC R d cs) : IsC (R.take n) d cs := fun X => by
  rw [h.cells (R := R.take n ++ X) (R' := R) (take_twice hn X)]
  exact hv.cells

def belOK (n : Nat) : SObj → Prop → Prop
  | .gone, k => k
  | .var _ d, k => belK n d k
  | .vec _ _ enc _ _, k => Closed enc ∧ k
  | .mp _ ke ve _, k => Closed ke ∧ Closed ve ∧ k
  | .mpx _ ke ve _ _ _, k => Closed ke ∧ Closed ve ∧ k
  | .iter mh _ _, k => when (Nat.blt mh n) k
  | .res _, k => k
theorem belOK_spec {n : Nat} {o : SObj} {k : Prop} (h : belOK n o k) : k ∧ ∀ (R : Env) (ob : Option (Nat × Nat)), n ≤ R.length → Imp (hpO R ob o) (hpO (R.take n) ob o) := by
  cases o with
  | gone => exact ⟨h, fun R ob _ f hf => hf⟩
  | var t d =>
    obtain ⟨h1, hk⟩ := belK_spec n d k h
    exact ⟨hk, fun R ob hn f ⟨b, cs, e1, e2, e3⟩ => ⟨b, cs, e1, isC_drop h1 hn e2, e3⟩⟩
  | vec t s enc xs cap =>
    obtain ⟨h1, hk⟩ := h
    refine ⟨hk, fun R ob hn f hf => ?_⟩
    rcases hf with hf | ⟨b, z, cs, pre, rest, e1, e2, e3⟩
    · exact .inl hf
    · refine .inr ⟨b, z, cs, pre, rest, e1, fun X => ?_, e3⟩
      rw [← e2 []]
      unfold flat
      exact congrArg (fun g => List.flatMap g xs) (funext fun x => by unfold cells; rw [h1 x _ (R ++ [])])
  | mp dec ke ve m =>
    obtain ⟨h1, h2, hk⟩ := h
    refine ⟨hk, fun R ob hn f ⟨b, es, clock, e1, e2, e3⟩ => ⟨b, es, clock, e1, fun X => ?_, e3⟩⟩
    rw [e2 []]
    exact List.map_congr_left fun kv _ => by rw [h1 _ (R ++ []) (R.take n ++ X), h2 _ (R ++ []) (R.take n ++ X)]
  | mpx dec ke ve m bs clock =>
    obtain ⟨h1, h2, hk⟩ := h
    refine ⟨hk, fun R ob hn f ⟨b, es, e1, e2, e3⟩ => ⟨b, es, e1, fun X => ?_, e3⟩⟩
    rw [e2 []]
    exact List.map_congr_left fun kv _ => by rw [h1 _ (R ++ []) (R.take n ++ X), h2 _ (R ++ []) (R.take n ++ X)]
  | iter mh seen since =>
    obtain ⟨h1, hk⟩ := when_iff.1 h
    have h1 : mh < n := Nat.le_of_ble_eq_true h1
    refine ⟨hk, fun R ob hn f ⟨b, mb, e1, e2, e3⟩ => ⟨b, mb, e1, ?_, e3⟩⟩
    rw [List.getElem?_take, if_pos h1]; exact e2
  | res A => exact ⟨h, fun R ob _ f hf => hf⟩

/-- A block that is told in one way may be told in another. -/
def EqvO (o p : SObj) : Prop := ∀ R ob, Imp (hpO R ob o) (hpO R ob p)
theorem EqvO.rfl {o : SObj} : EqvO o o := fun _ _ => Imp.refl _
theorem EqvO.of {o p : SObj} (h : o = p) : EqvO o p := fun _ _ => by rw [h]; exact Imp.refl _
theorem EqvO.var {t : TypeId} {d e : D} (h : Eqv d e) : EqvO (.var t d) (.var t e) := fun R ob => by
  have : ∀ cs, IsC R d cs ↔ IsC R e cs := fun cs => ⟨fun k X => by unfold cells; rw [← h]; exact k X, fun k X => by unfold cells; rw [h]; exact k X⟩
  intro f hf
  simp only [hpO, this] at hf ⊢
  exact hf
theorem EqvO.mpx {κ β : Type} {dec : DecidableEq κ} {ke : κ → D} {ve : β → D} {m : List (κ × β)} {bs : List Nat} {clock : Nat} : EqvO (.mpx dec ke ve m bs clock) (.mp dec ke ve m) := fun _ _ => mpx_mp
/-- Fewer of a row's elements. -/
theorem EqvO.take {t : TypeId} {s : Nat} {α : Type} {enc : α → D} {xs : List α} {cap : Nat} (m : Nat) : EqvO (.vec t s enc xs cap) (.vec t s enc (xs.take m) cap) := by
  intro R ob f hf
  rcases hf with ⟨h1, h2, h3⟩ | ⟨b, z, cs, pre, rest, h1, h2, h3, h4, h5⟩
  · exact .inl ⟨h1, by rw [h2]; simp, h3⟩
  · refine .inr ⟨b, z, cs.take ((xs.take m).length * s), pre, cs.drop ((xs.take m).length * s) ++ rest, h1, fun X => ?_, ?_, h4, ?_⟩
    · have hx : flat (R ++ X) s enc xs = flat (R ++ X) s enc (xs.take m) ++ flat (R ++ X) s enc (xs.drop m) := by rw [← flat_append, List.take_append_drop]
      rw [← h2 X, hx, List.take_left' (flat_length _ _ _ _)]
    · rw [← List.append_assoc, List.take_append_drop]; exact h3
    · rw [h5, List.append_assoc pre (List.take _ cs), ← List.append_assoc (List.take _ cs), List.take_append_drop, List.append_assoc]
def fitTs (same : Bool) (n : Nat) : List D → List D → Prop → Prop
  | [], [], k => k
  | d :: r, e :: r', k => match e with
    | .junk => fitTs same n r r' k
    | e => match d with
      | .junk => False
      | d => Eqv d e ∧ (match same with | true => fitTs same n r r' k | false => belK n e (fitTs same n r r' k))
  | _, _, _ => False
def fitHs (same : Bool) (n : Nat) : List SObj → List SObj → Prop → Prop
  | _, [], k => k
  | o :: r, p :: r', k => match p with
    | .gone => fitHs same n r r' k
    | p => EqvO o p ∧ (match same with | true => fitHs same n r r' k | false => belOK n p (fitHs same n r r' k))
  | [], _ :: _, _ => False
def fitsK (a b : St) : Prop := match a, b with
  | ⟨ts, H⟩, ⟨ts', H'⟩ => lenK H 0 fun n => lenK H' 0 fun m => fitTs (Nat.beq n m) m ts ts' (fitHs (Nat.beq n m) m H H' True)

theorem fitTs_spec {same : Bool} {n : Nat} {R : Env} (hn : n ≤ R.length) (hsame : same = true → R.length = n) : ∀ {ts ts' : List D} {vs : List Value} {k : Prop}, fitTs same n ts ts' k → Slots R ts vs → Slots (R.take n) ts' vs ∧ k
  | [], [], [], k, h, _ => ⟨trivial, h⟩
  | [], [], _ :: _, k, h, hs => hs.elim
  | d :: r, e :: r', [], k, h, hs => hs.elim
  | [], _ :: _, _, k, h, _ => h.elim
  | _ :: _, [], _, k, h, _ => h.elim
  | d :: r, e :: r', v :: vs, k, h, hs => by
    simp only [fitTs] at h
    split at h
    · obtain ⟨h1, hk⟩ := fitTs_spec hn hsame h hs.2
      exact ⟨⟨.inl rfl, h1⟩, hk⟩
    · split at h
      · exact h.elim
      rename_i hnj
      obtain ⟨heq, h⟩ := h
      have hi : isJunk d = false := by cases d <;> first | rfl | exact absurd rfl hnj
      have hv : Is R e v := by rcases hs.1 with h1 | h1
                               · rw [hi] at h1; cases h1
                               · exact heq.is h1
      cases same with
      | true =>
        obtain ⟨h1, hk⟩ := fitTs_spec hn hsame h hs.2
        exact ⟨⟨.inr (by rw [List.take_of_length_le (by have := hsame rfl; omega)]; exact hv), h1⟩, hk⟩
      | false =>
        obtain ⟨hb, h⟩ := belK_spec n e _ h
        obtain ⟨h1, hk⟩ := fitTs_spec hn hsame h hs.2
        exact ⟨⟨.inr (is_drop hb hn hv), h1⟩, hk⟩
theorem imp_emp {A : HP} : Imp A emp := fun _ _ => trivial
theorem hpH_nil_right (R ρ : Env) : hpH R ρ [] = emp := by cases ρ <;> rfl
theorem fitHs_spec {same : Bool} {n : Nat} {R : Env} (hn : n ≤ R.length) (hsame : same = true → R.length = n) : ∀ {H H' : List SObj} {ρ : Env} {k : Prop}, fitHs same n H H' k → Imp (hpH R ρ H) (hpH (R.take n) (ρ.take H'.length) H') ∧ H'.length ≤ H.length ∧ k
  | H, [], ρ, k, h => ⟨fun _ _ => by rw [hpH_nil_right]; trivial, by simp, by cases H <;> exact h⟩
  | [], _ :: _, _, k, h => h.elim
  | o :: r, p :: r', [], k, h => by
    simp only [fitHs] at h
    have : fitHs same n r r' k := by
      split at h
      · exact h
      · obtain ⟨_, h⟩ := h
        cases same with
        | true => exact h
        | false => exact (belOK_spec h).1
    obtain ⟨_, h1, hk⟩ := fitHs_spec (ρ := []) hn hsame this
    exact ⟨fun _ _ => by simp [hpH, emp], by simpa using h1, hk⟩
  | o :: r, p :: r', ob :: ρ, k, h => by
    simp only [fitHs] at h
    split at h
    · obtain ⟨h1, h2, hk⟩ := fitHs_spec (ρ := ρ) hn hsame h
      exact ⟨star_mono imp_emp h1, by simpa using h2, hk⟩
    · obtain ⟨heq, h⟩ := h
      cases same with
      | true =>
        obtain ⟨h1, h2, hk⟩ := fitHs_spec (ρ := ρ) hn hsame h
        refine ⟨star_mono (fun f hf => ?_) h1, by simpa using h2, hk⟩
        rw [List.take_of_length_le (by have := hsame rfl; omega)]
        exact heq _ _ f hf
      | false =>
        obtain ⟨h, hb⟩ := belOK_spec h
        obtain ⟨h1, h2, hk⟩ := fitHs_spec (ρ := ρ) hn hsame h
        exact ⟨star_mono (fun f hf => hb R ob hn f (heq _ _ f hf)) h1, by simpa using h2, hk⟩
theorem fitsK_spec {a b : St} (h : fitsK a b) {F : HP} {w0 : World} {R0 R : Env} {c : Act} {w : World} (hr : Rep F w0 R0 a R c w) (h0 : R0.length ≤ b.H.length) : Rep F w0 R0 b (R.take b.H.length) c w := by
  obtain ⟨ts, H⟩ := a
  obtain ⟨ts', H'⟩ := b
  have h := (lenK_iff _ _ _).1 ((lenK_iff _ _ _).1 h)
  simp only [Nat.zero_add] at h h0
  have hl := hr.len
  simp only at hl
  have key : ∀ (same : Bool) (n : Nat), n = H'.length → (same = true → H.length = n) → fitTs same n ts ts' (fitHs same n H H' True) → Rep F w0 R0 ⟨ts', H'⟩ (R.take H'.length) c w := by
    intro same n hn hsame h
    subst hn
    by_cases hle : H'.length ≤ R.length
    · obtain ⟨h1, h⟩ := fitTs_spec (R := R) hle (fun e => by rw [hl]; exact hsame e) h hr.slots
      obtain ⟨h2, h3, _⟩ := fitHs_spec (R := R) (ρ := R) hle (fun e => by rw [hl]; exact hsame e) h
      obtain ⟨X, hX⟩ := hr.pre
      refine ⟨⟨X.take (H'.length - R0.length), ?_⟩, by simp; omega, h1, hr.defers, hr.sat.mono (star_mono h2 (Imp.refl F)), hr.same⟩
      rw [hX, List.take_append, List.take_of_length_le h0]
    · exfalso
      -- the tail of the heap cannot be longer
      have : ∀ {H H' : List SObj} {k : Prop}, fitHs same H'.length H H' k → True := fun _ => trivial
      have hlen : ∀ (m : Nat) (H H' : List SObj) (k : Prop), fitHs same m H H' k → H'.length ≤ H.length := by
        intro m H
        induction H with
        | nil => intro H' k h; cases H' with
          | nil => simp
          | cons _ _ => exact h.elim
        | cons o r ih =>
          intro H' k h
          cases H' with
          | nil => simp
          | cons p r' =>
            have : fitHs same m r r' k := by
              simp only [fitHs] at h
              split at h
              · exact h
              · obtain ⟨_, h⟩ := h
                cases same with
                | true => exact h
                | false => exact (belOK_spec h).1
            have := ih r' k this
            simpa using this
      have hts : ∀ (m : Nat) (ts ts' : List D) (k : Prop), fitTs same m ts ts' k → k := by
        intro m ts
        induction ts with
        | nil => intro ts' k h; cases ts' with
          | nil => exact h
          | cons _ _ => exact h.elim
        | cons d r ih =>
          intro ts' k h
          cases ts' with
          | nil => exact h.elim
          | cons e r' =>
            simp only [fitTs] at h
            split at h
            · exact ih r' k h
            · split at h
              · exact h.elim
              obtain ⟨_, h⟩ := h
              cases same with
              | true => exact ih r' k h
              | false => exact ih r' k (belK_spec _ _ _ h).2
      have := hlen _ _ _ _ (hts _ _ _ _ h)
      omega
  exact key _ _ rfl (fun e => Nat.eq_of_beq_eq_true e) h

/-! ### A nil slice, told as the slice of a row that is not there -/
def EqvN (n : Nat) (d e : D) : Prop := ∀ R X : Env, R.length = n → conc (R ++ none :: X) d = conc (R ++ none :: X) e
def EqvON (n : Nat) (o p : SObj) : Prop := ∀ (R X : Env) ob, R.length = n → hpO (R ++ none :: X) ob o = hpO (R ++ none :: X) ob p
theorem EqvN.rfl {n : Nat} {d : D} : EqvN n d d := fun _ _ _ => _root_.rfl
theorem EqvN.of {n : Nat} {d e : D} (h : d = e) : EqvN n d e := fun _ _ _ => by rw [h]
theorem EqvON.rfl {n : Nat} {o : SObj} : EqvON n o o := fun _ _ _ _ => _root_.rfl
theorem nil_slc (R X : Env) (p : Path) (s lo : Nat) : conc (R ++ none :: X) (.slc R.length p s lo 0 0) = .slice none 0 0 := by
  simp [conc, sliceV]
theorem EqvN.nil {n : Nat} {p : Path} {s lo : Nat} : EqvN n .nils (.slc n p s lo 0 0) := fun R X h => by subst h; rw [nil_slc]; simp [conc]
theorem EqvON.var {n : Nat} {t : TypeId} {d e : D} (h : EqvN n d e) : EqvON n (.var t d) (.var t e) := fun R X ob hR => by
  have : ∀ cs, IsC (R ++ none :: X) d cs ↔ IsC (R ++ none :: X) e cs := fun cs => by
    have e1 : ∀ Y, cells (R ++ none :: X ++ Y) d = cells (R ++ none :: X ++ Y) e := fun Y => by
      have := h R (X ++ Y) hR
      unfold cells
      rw [show R ++ none :: X ++ Y = R ++ none :: (X ++ Y) by simp, this]
    exact ⟨fun k Y => by rw [← e1]; exact k Y, fun k Y => by rw [e1]; exact k Y⟩
  funext f
  simp only [hpO, this]
def fitTsN (n : Nat) : List D → List D → Prop → Prop
  | [], [], k => k
  | d :: r, e :: r', k => match e with
    | .junk => fitTsN n r r' k
    | e => match d with
      | .junk => False
      | d => EqvN n d e ∧ fitTsN n r r' k
  | _, _, _ => False
def fitHsN (n : Nat) : List SObj → List SObj → Prop
  | [], [q] => match q with
    | .vec _ _ _ xs cap => xs.length = 0 ∧ cap = 0
    | _ => False
  | o :: r, p :: r' => EqvON n o p ∧ fitHsN n r r'
  | _, _ => False
/-- The second state is the first, with a row more that is not there: nil slices may be told by it. -/
def nilK (a b : St) : Prop := match a, b with
  | ⟨ts, H⟩, ⟨ts', H'⟩ => lenK H 0 fun n => fitTsN n ts ts' (fitHsN n H H')
theorem fitTsN_spec {n : Nat} {R : Env} (hn : R.length = n) : ∀ {ts ts' : List D} {vs : List Value} {k : Prop}, fitTsN n ts ts' k → Slots R ts vs → Slots (R ++ [none]) ts' vs ∧ k
  | [], [], [], k, h, _ => ⟨trivial, h⟩
  | [], [], _ :: _, k, h, hs => hs.elim
  | d :: r, e :: r', [], k, h, hs => hs.elim
  | [], _ :: _, _, k, h, _ => h.elim
  | _ :: _, [], _, k, h, _ => h.elim
  | d :: r, e :: r', v :: vs, k, h, hs => by
    simp only [fitTsN] at h
    split at h
    · obtain ⟨h1, hk⟩ := fitTsN_spec hn h hs.2
      exact ⟨⟨.inl rfl, h1⟩, hk⟩
    · split at h
      · exact h.elim
      rename_i hnj
      obtain ⟨heq, h⟩ := h
      have hi : isJunk d = false := by cases d <;> first | rfl | exact absurd rfl hnj
      have hv : Is R d v := by rcases hs.1 with h1 | h1
                               · rw [hi] at h1; cases h1
                               · exact h1
      obtain ⟨h1, hk⟩ := fitTsN_spec hn h hs.2
      refine ⟨⟨.inr fun X => ?_, h1⟩, hk⟩
      rw [show R ++ [none] ++ X = R ++ none :: X by simp, ← heq R X hn]
      exact hv _
theorem fitHsN_spec {n : Nat} {R : Env} (hn : R.length = n) : ∀ {H H' : List SObj} {ρ : Env}, ρ.length = H.length → fitHsN n H H' → H'.length = H.length + 1 ∧ Imp (hpH R ρ H) (hpH (R ++ [none]) (ρ ++ [none]) H')
  | [], [q], ρ, hρ, h => by
    have : ρ = [] := List.length_eq_zero_iff.1 hρ
    subst this
    simp only [fitHsN] at h
    split at h <;> try exact h.elim
    rename_i t s α enc xs cap
    have hx : xs = [] := List.length_eq_zero_iff.1 h.1
    obtain rfl := hx
    obtain ⟨_, rfl⟩ := h
    refine ⟨rfl, fun f _ => ⟨fun _ => none, fun _ => none, (fun _ _ h => nomatch h), (fun _ _ h => nomatch h), (fun _ => .inl rfl), .inl ⟨rfl, rfl, rfl⟩, trivial⟩⟩
  | [], [], ρ, hρ, h => h.elim
  | [], _ :: _ :: _, ρ, hρ, h => h.elim
  | o :: r, [], ρ, hρ, h => h.elim
  | o :: r, p :: r', [], hρ, h => by simp at hρ
  | o :: r, p :: r', ob :: ρ, hρ, h => by
    obtain ⟨heq, h⟩ := h
    obtain ⟨h1, h2⟩ := fitHsN_spec hn (ρ := ρ) (by simpa using hρ) h
    refine ⟨by simp [h1], star_mono (fun f hf => ?_) h2⟩
    rw [show R ++ [none] = R ++ none :: [] by rfl, ← heq R [] ob hn]
    exact hpO_ext R [none] ob o f hf
theorem nilK_spec {a b : St} (h : nilK a b) {F : HP} {w0 : World} {R0 R : Env} {c : Act} {w : World} (hr : Rep F w0 R0 a R c w) : Rep F w0 R0 b (R ++ [none]) c w := by
  obtain ⟨ts, H⟩ := a
  obtain ⟨ts', H'⟩ := b
  have h := (lenK_iff _ _ _).1 h
  simp only [Nat.zero_add] at h
  have hl := hr.len
  simp only at hl
  obtain ⟨h1, h⟩ := fitTsN_spec (R := R) hl h hr.slots
  obtain ⟨h2, h3⟩ := fitHsN_spec (R := R) hl hl h
  obtain ⟨X, hX⟩ := hr.pre
  exact ⟨⟨X ++ [none], by rw [hX]; simp⟩, by simp [h2, hl], h1, hr.defers, hr.sat.mono (star_mono h3 (Imp.refl F)), hr.same⟩
end Go.Proofs.Ytdgnnboljgpcmaa.E
