import Derived.Test.YtdgnnboljgpcmaaEngR
namespace Go.Proofs.Ytdgnnboljgpcmaa.E
open Go

/-! ### States whose blocks are numbered anew -/
def fitTsR (σ : List Nat) (n : Nat) : List D → List D → Prop → Prop
  | [], [], k => k
  | d :: r, e :: r', k => match e with
    | .junk => fitTsR σ n r r' k
    | e => match d with
      | .junk => False
      | d => Eqv d (ren σ n e) ∧ fitTsR σ n r r' k
  | _, _, _ => False
theorem fitTsR_spec {σ : List Nat} {R R' : Env} (hσ : Sub σ R R') : ∀ {ts ts' : List D} {vs : List Value} {k : Prop}, fitTsR σ R.length ts ts' k → Slots R ts vs → Slots R' ts' vs ∧ k
  | [], [], [], k, h, _ => ⟨trivial, h⟩
  | [], [], _ :: _, k, h, hs => hs.elim
  | d :: r, e :: r', [], k, h, hs => hs.elim
  | [], _ :: _, _, k, h, _ => h.elim
  | _ :: _, [], _, k, h, _ => h.elim
  | d :: r, e :: r', v :: vs, k, h, hs => by
    simp only [fitTsR] at h
    split at h
    · obtain ⟨h1, hk⟩ := fitTsR_spec hσ h hs.2
      exact ⟨⟨.inl rfl, h1⟩, hk⟩
    · split at h
      · exact h.elim
      rename_i hnj
      obtain ⟨heq, h⟩ := h
      have hi : isJunk d = false := by cases d <;> first | rfl | exact absurd rfl hnj
      have hv : Is R d v := by rcases hs.1 with h1 | h1
                               · rw [hi] at h1; cases h1
                               · exact h1
      obtain ⟨h1, hk⟩ := fitTsR_spec hσ h hs.2
      have := (is_ren hσ (X := []) (d := e) (v := v)).1 (by simpa using heq.is hv)
      exact ⟨⟨.inr (by simpa using this), h1⟩, hk⟩
def idB : Nat → Nat → List Nat → Bool
  | _, 0, _ => true
  | i, n + 1, j :: r => match Nat.beq i j with
    | true => idB (i + 1) n r
    | false => false
  | _, _ + 1, [] => false
theorem idB_spec : ∀ (n i : Nat) (σ : List Nat), idB i n σ = true → n ≤ σ.length ∧ ∀ j, j < n → σ[j]? = some (i + j)
  | 0, _, _, _ => ⟨Nat.zero_le _, fun j hj => absurd hj (Nat.not_lt_zero _)⟩
  | n + 1, i, j :: r, h => by
    simp only [idB] at h
    split at h
    · rename_i he
      have he := Nat.eq_of_beq_eq_true he
      subst he
      obtain ⟨h1, h2⟩ := idB_spec n (i + 1) r h
      refine ⟨by simp; omega, fun k hk => ?_⟩
      cases k with
      | zero => rfl
      | succ k => have := h2 k (by omega); simp only [List.getElem?_cons_succ, this]; congr 1; omega
    · cases h
  | n + 1, i, [], h => by simp [idB] at h
/-- The second state is the first, of whose blocks only those of σ are told, in this order. -/
def fitsR (n0 : Nat) (σ : List Nat) (a b : St) : Prop := match a, b with
  | ⟨ts, H⟩, ⟨ts', H'⟩ => lenK H 0 fun n => when (idB 0 n0 σ) (when (σ.all (Nat.blt · n)) (fitTsR σ n ts ts' (takeK σ n σ H' H fun _ => True)))
theorem sub_of {σ : List Nat} {R : Env} (h : σ.all (Nat.blt · R.length) = true) : Sub σ R (σ.map fun i => (R[i]?).getD none) := by
  refine ⟨by simp, fun j i hj => ?_⟩
  have hi : i < R.length := by
    have := List.all_eq_true.1 h i (List.mem_of_getElem? hj)
    simpa [Nat.blt_eq] using this
  exact ⟨by simp [hj, List.getElem?_eq_getElem hi], hi⟩
theorem pre_of {σ : List Nat} {R R0 X : Env} (hX : R = R0 ++ X) (h : idB 0 R0.length σ = true) (hs : σ.all (Nat.blt · R.length) = true) : ∃ Y, (σ.map fun i => (R[i]?).getD none) = R0 ++ Y := by
  obtain ⟨h1, h2⟩ := idB_spec _ _ _ h
  refine ⟨(σ.map fun i => (R[i]?).getD none).drop R0.length, ?_⟩
  have : (σ.map fun i => (R[i]?).getD none).take R0.length = R0 := by
    apply List.ext_getElem?
    intro j
    rw [List.getElem?_take]
    split
    · rename_i hj
      rw [List.getElem?_map, h2 j hj, hX]
      simp [List.getElem?_append_left hj, List.getElem?_eq_getElem hj]
    · rename_i hj
      rw [List.getElem?_eq_none (by omega)]
  conv => lhs; rw [← List.take_append_drop R0.length (σ.map fun i => (R[i]?).getD none), this]
theorem star_drop2' (A B C : HP) : Imp (star C (star A B)) (star C B) := star_drop2 A B C
theorem fitsR_spec {σ : List Nat} {a b : St} {F : HP} {w0 : World} {R0 R : Env} {c : Act} {w : World} (h : fitsR R0.length σ a b) (hr : Rep F w0 R0 a R c w) : Rep F w0 R0 b (σ.map fun i => (R[i]?).getD none) c w := by
  obtain ⟨ts, H⟩ := a
  obtain ⟨ts', H'⟩ := b
  have h := (lenK_iff _ _ _).1 h
  simp only [Nat.zero_add] at h
  have hl := hr.len
  simp only at hl
  obtain ⟨hid, h⟩ := when_iff.1 h
  obtain ⟨hall, h⟩ := when_iff.1 h
  rw [← hl] at hall h
  have hsub := sub_of hall
  obtain ⟨X, hX⟩ := hr.pre
  obtain ⟨Y, hY⟩ := pre_of hX hid hall
  obtain ⟨R', hR'⟩ : ∃ R', R' = σ.map fun i => (R[i]?).getD none := ⟨_, rfl⟩
  rw [← hR'] at hsub hY ⊢
  obtain ⟨h1, h⟩ := fitTsR_spec hsub h hr.slots
  obtain ⟨Hr, _, _, h0l, hsat⟩ := takeK_spec hsub σ H' H R' _ (fun j i hj => (hsub.2 j i hj).1) hsub.1 hl h hr.sat
  refine ⟨⟨Y, hY⟩, by rw [hsub.1, h0l], h1, hr.defers, hsat.mono ?_, hr.same⟩
  exact (star_mono (Imp.refl _) (fun f hf => hf)).trans (star_drop2' _ _ _)
end Go.Proofs.Ytdgnnboljgpcmaa.E
