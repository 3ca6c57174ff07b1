import Derived.Test.YtdgnnboljgpcmaaEngQ
namespace Go.Proofs.Ytdgnnboljgpcmaa.E
open Go

/-! ### Functions that leave the blocks that they are given as they were -/
structure Rd (P : Program) (f : FuncId) (ds : List D) (H : List SObj) (d : D) : Prop where
  nj : isJunk d = false
  call : CallAt P f ds H (fun d' H' => d' = d ∧ H' = H)
theorem set_get (H : List SObj) (i : Nat) : i < H.length → H.set i (getH H i) = H := by
  induction H generalizing i with
  | nil => intro h; simp at h
  | cons o H ih =>
    intro h
    cases i with
    | zero => rfl
    | succ i => simp only [List.set_cons_succ, getH]; rw [ih i (by simpa using h)]
theorem untake {σ0 : List Nat} {R R' : Env} (hσ : Sub σ0 R R') : ∀ (σ : List Nat) (H0 H : List SObj) (ρ : Env) (k : List SObj → Prop), (∀ (j i : Nat), σ[j]? = some i → ρ[j]? = R[i]? ∧ i < R.length) → ρ.length = σ.length → R.length = H.length → takeE σ0 R.length σ H0 H k →
    ∃ H', k H' ∧ H'.length = H.length ∧ ∀ (F : HP) (w : World), Sat (star (hpH R' ρ H0) (star (hpH R R H') F)) w → Sat (star (hpH R R H) F) w
  | [], [], H, ρ, k, hρ, hρl, hl, h => ⟨H, h, rfl, fun F w hs => hs.right⟩
  | [], _ :: _, _, _, _, _, _, _, h => h.elim
  | _ :: _, [], _, _, _, _, _, _, h => h.elim
  | i :: σ, o :: H0, H, [], k, hρ, hρl, hl, h => by simp at hρl
  | i :: σ, o :: H0, H, ob :: ρ, k, hρ, hρl, hl, h => by
    obtain ⟨h1, h⟩ := h
    obtain ⟨hlt, h⟩ := setHK_iff _ _ _ _ h
    obtain ⟨hob, hi⟩ := hρ 0 i rfl
    have hob : R[i]? = some ob := by simpa using hob.symm
    obtain ⟨H', hk, hl', hun⟩ := untake hσ σ H0 _ ρ k (fun j i' hj => by simpa using hρ (j + 1) i' (by simpa using hj)) (by simpa using hρl) (by simpa using hl) h
    refine ⟨H', hk, by simpa using hl', fun F w hs => ?_⟩
    have hs2 : Sat (star (hpH R' ρ H0) (star (hpH R R H') (star (hpO R' ob o) F))) w :=
      hs.mono ((star_assoc _ _ _).trans ((star_left _ _ _).trans (star_mono (Imp.refl _) (star_left _ _ _))))
    have hs3 := hun _ _ hs2
    have e := hpO_ren hσ [] ob o
    simp only [List.append_nil] at e
    rw [← e, ← h1 R ob] at hs3
    have hs4 := hs3.mono ((star_left _ _ _).trans ((star_assoc' _ _ _).trans (star_mono (hpH_put R R H i ob _ hob hlt) (Imp.refl F))))
    rwa [set_get H i hlt] at hs4
theorem takeK_self {σ0 : List Nat} {n : Nat} : ∀ {σ : List Nat} {H0 H : List SObj} {k : List SObj → Prop}, takeE σ0 n σ H0 H k → takeK σ0 n σ H0 H fun H' => takeE σ0 n σ H0 H fun H'' => H'' = H' := by
  have gen : ∀ (σ : List Nat) (H0 H : List SObj) (k : List SObj → Prop), takeE σ0 n σ H0 H k → ∃ H', takeE σ0 n σ H0 H (fun H'' => H'' = H') ∧ ∀ k' : List SObj → Prop, k' H' → takeK σ0 n σ H0 H k' := by
    intro σ
    induction σ with
    | nil =>
      intro H0 H k h
      cases H0 with
      | nil => exact ⟨H, rfl, fun _ h => h⟩
      | cons _ _ => exact h.elim
    | cons i σ ih =>
      intro H0 H k h
      cases H0 with
      | nil => exact h.elim
      | cons o H0 =>
        obtain ⟨h1, h⟩ := h
        obtain ⟨hlt, h⟩ := setHK_iff _ _ _ _ h
        have back : ∀ {H : List SObj} {i : Nat} {o : SObj} {k : List SObj → Prop}, i < H.length → k (H.set i o) → setHK H i o k := by
          intro H
          induction H with
          | nil => intro i o k h _; simp at h
          | cons x H ih2 =>
            intro i o k hi hk
            cases i with
            | zero => exact hk
            | succ i => exact ih2 (by simpa using hi) hk
        obtain ⟨H', h2, h3⟩ := ih H0 _ k h
        exact ⟨H', ⟨h1, back hlt h2⟩, fun k' hk => ⟨h1.o, back hlt (h3 k' hk)⟩⟩
  intro σ H0 H k h
  obtain ⟨H', h2, h3⟩ := gen σ H0 H k h
  exact h3 _ h2
theorem Rd.run {P : Program} {f : FuncId} {ds0 ds : List D} {H0 H : List SObj} {d : D} (hc : Rd P f ds0 H0 d) (σ : List Nat) (hσ : σ.all (Nat.blt · H.length) = true) (hds : ∀ R, concL R ds = concL R (renL σ H.length ds0))
    (h : takeE σ H.length σ H0 H fun _ => True) {F : HP} {R : Env} {w : World} {vs : List Value} (hl : R.length = H.length) (hs : Sat (star (hpH R R H) F) w) (hv : IsL R ds vs) :
    Calls P f vs.toArray w (fun e w' => ∃ v, e = .returned v ∧ Is R (ren σ H.length d) v ∧ Sat (star (hpH R R H) F) w' ∧ Same w w') := by
  have hsub : Sub σ R (σ.map fun i => (R[i]?).getD none) := by
    refine ⟨by simp, fun j i hj => ?_⟩
    have hi : i < R.length := by
      have := List.all_eq_true.1 hσ i (List.mem_of_getElem? hj)
      rw [hl]; simpa [Nat.blt_eq] using this
    exact ⟨by simp [hj, List.getElem?_eq_getElem hi], hi⟩
  obtain ⟨R', hR'⟩ : ∃ R', R' = σ.map fun i => (R[i]?).getD none := ⟨_, rfl⟩
  rw [← hR'] at hsub
  rw [← hl] at h
  obtain ⟨Hr, hHr, hun⟩ : ∃ Hr, (Hr.length = H.length ∧ H0.length = σ.length ∧ Sat (star (hpH R' R' H0) (star (hpH R R Hr) F)) w) ∧ ∀ (F : HP) (w : World), Sat (star (hpH R' R' H0) (star (hpH R R Hr) F)) w → Sat (star (hpH R R H) F) w := by
    have key : ∀ Hx, takeK σ R.length σ H0 H (fun H' => H' = Hx) → True := fun _ _ => trivial
    obtain ⟨Hr, hk, h1, h2, h3⟩ := takeK_spec hsub σ H0 H R' (fun H' => takeE σ R.length σ H0 H (fun H'' => H'' = H')) (fun j i hj => (hsub.2 j i hj).1) hsub.1 hl (takeK_self h) hs
    obtain ⟨H', rfl, _, hun⟩ := untake hsub σ H0 H R' _ hsub.2 hsub.1 hl hk
    exact ⟨_, ⟨h1, h2, h3⟩, hun⟩
  have hargs : IsL R' ds0 vs := fun X => by
    have := hv X
    rw [hds, ← hl, concL_ren hsub] at this
    exact this
  refine (hc.call.run (star (hpH R R Hr) F) R' w vs (by rw [hsub.1, hHr.2.1]) hHr.2.2 hargs).mono ?_
  rintro e w' ⟨d', H1, X, v, ⟨rfl, rfl⟩, he, hl1, hi, hs', hsame⟩
  have hX : X = [] := by
    have h1 : R'.length = H1.length := by rw [hsub.1, hHr.2.1]
    rw [List.length_append] at hl1
    exact List.length_eq_zero_iff.1 (by omega)
  subst hX
  simp only [List.append_nil] at hs' hi
  have hi : Is R' d' v := by
    rcases hi with h1 | h1
    · rw [hc.nj] at h1; cases h1
    · exact h1
  refine ⟨v, he, ?_, hun _ _ hs', hsame⟩
  rw [← hl]
  have := (is_ren hsub (X := []) (d := d') (v := v)).2 (by simpa using hi)
  simpa using this
theorem Rd.c {P : Program} {f : FuncId} {ds0 ds : List D} {H0 H : List SObj} {d : D} (hc : Rd P f ds0 H0 d) (σ : List Nat) (hσ : σ.all (Nat.blt · H.length) = true) (hds : ∀ R, concL R ds = concL R (renL σ H.length ds0))
    (h : takeE σ H.length σ H0 H fun _ => True) {k : D → List SObj → Prop} (hk : k (ren σ H.length d) H) : CallAt P f ds H k :=
  ⟨hc.call.fn, fun F R w vs hl hs hv => (hc.run σ hσ hds h hl hs hv).mono fun e w' ⟨v, h1, h2, h3, h4⟩ => ⟨_, H, [], v, hk, h1, by simpa using hl, .inr (by simpa using h2), by simpa using h3, h4⟩⟩
theorem Rd.q {P : Program} {f : FuncId} {ds0 ds : List D} {H0 H : List SObj} {d : D} (hc : Rd P f ds0 H0 d) (σ : List Nat) (hσ : σ.all (Nat.blt · H.length) = true) (hds : ∀ R, concL R ds = concL R (renL σ H.length ds0))
    (h : takeE σ H.length σ H0 H fun _ => True) (hj : isJunk (ren σ H.length d) = false) {k : D → Prop} (hk : k (ren σ H.length d)) : QCallAt P f ds H k :=
  ⟨hc.call.fn, _, hj, hk, fun F R w vs hl hs hv => by
    have hrun := fun F hs => hc.run σ hσ hds h (F := F) (R := R) (w := w) (vs := vs) hl hs hv
    refine ⟨?_, (hrun F hs).mono fun e w' ⟨v, h1, h2, h3, h4⟩ => ⟨by rw [h1, h2.conc], h3, h4⟩⟩
    obtain ⟨e, w', fr, ⟨v, h1, h2, _⟩, _⟩ := (hrun F hs) []
    exact h2.self⟩
end Go.Proofs.Ytdgnnboljgpcmaa.E
