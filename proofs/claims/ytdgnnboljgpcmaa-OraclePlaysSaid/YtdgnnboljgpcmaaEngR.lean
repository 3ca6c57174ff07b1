import Derived.Test.YtdgnnboljgpcmaaEngP
namespace Go.Proofs.Ytdgnnboljgpcmaa.E
open Go

/-! ### Zero values, by a table -/
def ZeroAt (P : Program) (T : TypeId) (z : D) : Prop := ∃ i v, P.info? T = some i ∧ i.zero = some v ∧ (∀ R, Is R z v) ∧ i.size = size z
def zof : List (TypeId × D) → TypeId → D
  | [], _ => .junk
  | (t, d) :: r, T => match Nat.beq T t with
    | true => d
    | false => zof r T
theorem zeroAt_of {P : Program} {T : TypeId} {z : D} (h : (P.info? T).map (fun i => (i.zero, i.size)) = some (some (conc [] z), size z)) (hc : ∀ R, conc R z = conc [] z) : ZeroAt P T z := by
  cases hi : P.info? T with
  | none => simp [hi] at h
  | some i =>
    simp only [hi, Option.map_some, Option.some.injEq, Prod.mk.injEq] at h
    exact ⟨i, _, hi, h.1, fun R X => hc _, h.2⟩
theorem zeros_of {P : Program} : ∀ (l : List (TypeId × D)), (∀ p ∈ l, ZeroAt P p.1 p.2) → Zeros P (zof l)
  | [], _, T, hj => by simp [zof, isJunk] at hj
  | (t, d) :: r, h, T, hj => by
    simp only [zof] at hj ⊢
    split at hj
    · rename_i he
      have := Nat.eq_of_beq_eq_true he
      subst this
      exact h (T, d) (by simp)
    · rename_i he
      exact zeros_of r (fun p hp => h p (by simp [hp])) T hj

/-! ### Functions that touch nothing -/
structure Pure (P : Program) (f : FuncId) (ds : List D) (d : D) : Prop where
  cl : ∀ R R', concL R ds = concL R' ds
  cd : ∀ R R', conc R d = conc R' d
  nj : isJunk d = false
  call : CallAt P f ds [] (fun d' H' => d' = d ∧ H' = [])
theorem Pure.run {P : Program} {f : FuncId} {ds : List D} {d : D} (h : Pure P f ds d) {R : Env} {A : HP} {w : World} {vs : List Value} (hs : Sat A w) (hv : IsL R ds vs) :
    Calls P f vs.toArray w (fun e w' => e = .returned (conc R d) ∧ Sat A w' ∧ Same w w') := by
  refine (h.call.run A [] w vs rfl ((hs.emp_left).mono (star_mono (fun _ _ => trivial) (Imp.refl _))) (fun X => by rw [h.cl ([] ++ X) (R ++ [])]; exact hv [])).mono ?_
  rintro e w' ⟨d', H', X, v, ⟨rfl, rfl⟩, he, hl, hi, hs', hsame⟩
  have hi : Is ([] ++ X) d' v := by
    rcases hi with h1 | h1
    · rw [h.nj] at h1; cases h1
    · exact h1
  refine ⟨?_, hs'.right, hsame⟩
  rw [he, ← hi.conc, h.cd _ R]
theorem Pure.q {P : Program} {f : FuncId} {ds : List D} {d : D} (h : Pure P f ds d) {H : List SObj} {k : D → Prop} (hk : k d) : QCallAt P f ds H k :=
  ⟨h.call.fn, d, h.nj, hk, fun F R w vs _ hs hv => ⟨fun X => h.cd _ _, h.run hs hv⟩⟩
theorem Pure.c {P : Program} {f : FuncId} {ds : List D} {d : D} (h : Pure P f ds d) {H : List SObj} {k : D → List SObj → Prop} (hk : k d H) : CallAt P f ds H k :=
  ⟨h.call.fn, fun F R w vs hl hs hv => (h.run hs hv).mono fun _ _ ⟨h1, h2, h3⟩ => ⟨d, H, [], conc R d, hk, h1, by simpa using hl, .inr fun X => h.cd _ _, by simpa using h2, h3⟩⟩

theorem CallAt.conv {P : Program} {f : FuncId} {ds ds' : List D} {H : List SObj} {k : D → List SObj → Prop} (h : ∀ R, concL R ds = concL R ds') (hc : CallAt P f ds' H k) : CallAt P f ds H k :=
  ⟨hc.fn, fun F R w vs hl hs hv => hc.run F R w vs hl hs fun X => by rw [← h]; exact hv X⟩
theorem QCallAt.conv {P : Program} {f : FuncId} {ds ds' : List D} {H : List SObj} {k : D → Prop} (h : ∀ R, concL R ds = concL R ds') (hc : QCallAt P f ds' H k) : QCallAt P f ds H k :=
  ⟨hc.fn, let ⟨d, h1, h2, h3⟩ := hc.run; ⟨d, h1, h2, fun F R w vs hl hs hv => h3 F R w vs hl hs fun X => by rw [← h]; exact hv X⟩⟩
/-! ### Handles, renamed: a callee's blocks among a caller's -/
def renH (σ : List Nat) (n h : Nat) : Nat := match σ, h with
  | [], h => n + h
  | i :: _, 0 => i
  | _ :: σ, h + 1 => renH σ n h
mutual
def ren (σ : List Nat) (n : Nat) : D → D
  | .junk => .junk
  | .tt => .tt
  | .ff => .ff
  | .bool b => .bool b
  | .int q m => .int q m
  | .str s => .str s
  | .nilp => .nilp
  | .ptr h p => .ptr (renH σ n h) p
  | .nils => .nils
  | .slc h p s lo len cap => .slc (renH σ n h) p s lo len cap
  | .nilm => .nilm
  | .mapr h => .mapr (renH σ n h)
  | .fn f c => .fn f (renL σ n c)
  | .nilf => .nilf
  | .ifc t d => .ifc t (ren σ n d)
  | .nili => .nili
  | .val v => .val v
  | .bytes m v => .bytes m v
  | .arr s m enc xs => .arr s m (fun x => ren σ n (enc x)) xs
  | .st ds => .st (renL σ n ds)
  | .tup ds => .tup (renL σ n ds)
def renL (σ : List Nat) (n : Nat) : List D → List D
  | [] => []
  | d :: ds => ren σ n d :: renL σ n ds
end
def renO (σ : List Nat) (n : Nat) : SObj → SObj
  | .gone => .gone
  | .var t d => .var t (ren σ n d)
  | .vec t s enc xs cap => .vec t s (fun x => ren σ n (enc x)) xs cap
  | .mp dec ke ve m => .mp dec (fun x => ren σ n (ke x)) (fun x => ren σ n (ve x)) m
  | .mpx dec ke ve m bs clock => .mpx dec (fun x => ren σ n (ke x)) (fun x => ren σ n (ve x)) m bs clock
  | .iter mh seen since => .iter (renH σ n mh) seen since
  | .res A => .res A
/-- The callee's environment. -/
def Sub (σ : List Nat) (R R' : Env) : Prop := R'.length = σ.length ∧ ∀ (j i : Nat), σ[j]? = some i → R'[j]? = R[i]? ∧ i < R.length
theorem renH_get : ∀ {σ : List Nat} {R R' : Env} (h : Sub σ R R') (x : Nat) (Y : Env), (R ++ Y)[renH σ R.length x]? = (R' ++ Y)[x]?
  | [], R, R', h, x, Y => by
    have h0 : R' = [] := List.length_eq_zero_iff.1 h.1
    subst h0
    simp only [renH, List.nil_append]
    rw [List.getElem?_append_right (by omega)]
    congr 1; omega
  | i :: σ, R, R', h, 0, Y => by
    obtain ⟨h1, h2⟩ := h.2 0 i rfl
    have hl : 0 < R'.length := by rw [h.1]; simp
    simp only [renH]
    rw [List.getElem?_append_left h2, List.getElem?_append_left hl, h1]
  | i :: σ, R, r :: R', h, x + 1, Y => by
    have := renH_get (σ := σ) (R := R) (R' := R') ⟨by simpa using h.1, fun j i' hj => by simpa using h.2 (j + 1) i' (by simpa using hj)⟩ x Y
    simpa [renH] using this
  | i :: σ, R, [], h, x + 1, Y => absurd h.1 (by simp)
mutual
theorem conc_ren {σ : List Nat} {R R' : Env} (h : Sub σ R R') (Y : Env) : ∀ d : D, conc (R ++ Y) (ren σ R.length d) = conc (R' ++ Y) d
  | .ptr x p => by simp only [ren, conc, addrV, renH_get h]
  | .slc x p s lo len cap => by simp only [ren, conc, sliceV, renH_get h]
  | .mapr x => by simp only [ren, conc, mapV, renH_get h]
  | .fn f c => by simp only [ren, conc, concL_ren h Y c]
  | .ifc t d => by simp only [ren, conc, conc_ren h Y d]
  | .st ds => by simp only [ren, conc, cellsL_ren h Y ds]
  | .tup ds => by simp only [ren, conc, concL_ren h Y ds]
  | .arr s m enc xs => by simp only [ren, conc]; congr 2; exact congrArg (fun g => List.flatMap g xs.toList) (funext fun x => by rw [conc_ren h Y (enc x)])
  | .junk | .tt | .ff | .bool _ | .int .. | .str _ | .nilp | .nils | .nilm | .nilf | .nili | .val _ | .bytes .. => by simp only [ren, conc]
theorem concL_ren {σ : List Nat} {R R' : Env} (h : Sub σ R R') (Y : Env) : ∀ ds : List D, concL (R ++ Y) (renL σ R.length ds) = concL (R' ++ Y) ds
  | [] => by simp only [renL, concL]
  | d :: ds => by simp only [renL, concL, conc_ren h Y d, concL_ren h Y ds]
theorem cellsL_ren {σ : List Nat} {R R' : Env} (h : Sub σ R R') (Y : Env) : ∀ ds : List D, cellsL (R ++ Y) (renL σ R.length ds) = cellsL (R' ++ Y) ds
  | [] => by simp only [renL, cellsL]
  | d :: ds => by simp only [renL, cellsL, conc_ren h Y d, cellsL_ren h Y ds]
end
theorem cells_ren {σ : List Nat} {R R' : Env} (h : Sub σ R R') (Y : Env) (d : D) : cells (R ++ Y) (ren σ R.length d) = cells (R' ++ Y) d := by unfold cells; rw [conc_ren h]
theorem is_ren {σ : List Nat} {R R' : Env} (h : Sub σ R R') {X : Env} {d : D} {v : Value} : Is (R ++ X) (ren σ R.length d) v ↔ Is (R' ++ X) d v := by
  constructor
  · intro hi Y
    rw [List.append_assoc, ← conc_ren h, ← List.append_assoc]; exact hi Y
  · intro hi Y
    rw [List.append_assoc, conc_ren h, ← List.append_assoc]; exact hi Y
theorem hpO_ren {σ : List Nat} {R R' : Env} (h : Sub σ R R') (X : Env) (ob : Option (Nat × Nat)) (o : SObj) : hpO (R ++ X) ob (renO σ R.length o) = hpO (R' ++ X) ob o := by
  have hc : ∀ {d : D} {cs : List Value}, IsC (R ++ X) (ren σ R.length d) cs ↔ IsC (R' ++ X) d cs := by
    intro d cs
    constructor
    · intro hi Y
      rw [List.append_assoc, ← cells_ren h, ← List.append_assoc]; exact hi Y
    · intro hi Y
      rw [List.append_assoc, cells_ren h, ← List.append_assoc]; exact hi Y
  cases o with
  | gone => rfl
  | res A => rfl
  | var t d => funext f; simp only [renO, hpO, hc]
  | vec t s enc xs cap =>
    have hf : ∀ {cs : List Value}, IsF (R ++ X) s (fun x => ren σ R.length (enc x)) xs cs ↔ IsF (R' ++ X) s enc xs cs := by
      intro cs
      have e : ∀ Y, flat ((R ++ X) ++ Y) s (fun x => ren σ R.length (enc x)) xs = flat ((R' ++ X) ++ Y) s enc xs := by
        intro Y
        unfold flat
        exact congrArg (fun g => List.flatMap g xs) (funext fun x => by rw [List.append_assoc, cells_ren h, ← List.append_assoc])
      exact ⟨fun hi Y => by rw [← e]; exact hi Y, fun hi Y => by rw [e]; exact hi Y⟩
    funext f; simp only [renO, hpO, hf]
  | mp dec ke ve m =>
    have hm : ∀ {es : List MapEntry}, IsM (R ++ X) (fun x => ren σ R.length (ke x)) (fun x => ren σ R.length (ve x)) m es ↔ IsM (R' ++ X) ke ve m es := by
      intro es
      have e : ∀ Y, m.map (fun kv => (conc ((R ++ X) ++ Y) (ren σ R.length (ke kv.1)), conc ((R ++ X) ++ Y) (ren σ R.length (ve kv.2)))) = m.map (fun kv => (conc ((R' ++ X) ++ Y) (ke kv.1), conc ((R' ++ X) ++ Y) (ve kv.2))) := by
        intro Y
        exact List.map_congr_left fun kv _ => by rw [List.append_assoc, conc_ren h, conc_ren h, ← List.append_assoc]
      exact ⟨fun hi Y => by rw [← e]; exact hi Y, fun hi Y => by rw [e]; exact hi Y⟩
    funext f; simp only [renO, hpO, hm]
  | mpx dec ke ve m bs clock =>
    have hm : ∀ {es : List MapEntry}, IsM (R ++ X) (fun x => ren σ R.length (ke x)) (fun x => ren σ R.length (ve x)) m es ↔ IsM (R' ++ X) ke ve m es := by
      intro es
      have e : ∀ Y, m.map (fun kv => (conc ((R ++ X) ++ Y) (ren σ R.length (ke kv.1)), conc ((R ++ X) ++ Y) (ren σ R.length (ve kv.2)))) = m.map (fun kv => (conc ((R' ++ X) ++ Y) (ke kv.1), conc ((R' ++ X) ++ Y) (ve kv.2))) := by
        intro Y
        exact List.map_congr_left fun kv _ => by rw [List.append_assoc, conc_ren h, conc_ren h, ← List.append_assoc]
      exact ⟨fun hi Y => by rw [← e]; exact hi Y, fun hi Y => by rw [e]; exact hi Y⟩
    funext f; simp only [renO, hpO, hm]
  | iter mh seen since => funext f; simp only [renO, hpO, renH_get h]

/-- The callee's blocks, taken out of the caller's. -/
def takeK (σ0 : List Nat) (n : Nat) : List Nat → List SObj → List SObj → (List SObj → Prop) → Prop
  | [], [], H, k => k H
  | i :: σ, o :: H0, H, k => EqvO (getH H i) (renO σ0 n o) ∧ setHK H i .gone fun H => takeK σ0 n σ H0 H k
  | _, _, _, _ => False
/-- Two ways to tell the same block. -/
def EqvS (o p : SObj) : Prop := ∀ R ob, hpO R ob o = hpO R ob p
theorem EqvS.rfl {o : SObj} : EqvS o o := fun _ _ => _root_.rfl
theorem EqvS.of {o p : SObj} (h : o = p) : EqvS o p := fun _ _ => by rw [h]
theorem EqvS.o {o p : SObj} (h : EqvS o p) : EqvO o p := fun R ob => by rw [h R ob]; exact Imp.refl _
/-- The callee's blocks, which are to be handed back as they were. -/
def takeE (σ0 : List Nat) (n : Nat) : List Nat → List SObj → List SObj → (List SObj → Prop) → Prop
  | [], [], H, k => k H
  | i :: σ, o :: H0, H, k => EqvS (getH H i) (renO σ0 n o) ∧ setHK H i .gone fun H => takeE σ0 n σ H0 H k
  | _, _, _, _ => False
/-- What the callee left, laid back. -/
def backK (σ0 : List Nat) (n : Nat) : List Nat → List SObj → List SObj → (List SObj → Prop) → Prop
  | [], [], H, k => k H
  | [], o :: B, H, k => pushHK H (renO σ0 n o) fun H => backK σ0 n [] B H k
  | i :: σ, o :: A, H, k => setHK H i (renO σ0 n o) fun H => backK σ0 n σ A H k
  | _ :: _, [], _, _ => False
theorem hpH_weak (R : Env) : ∀ (ρ : Env) (H : List SObj) (i : Nat), Imp (hpH R ρ H) (hpH R ρ (H.set i .gone))
  | [], _, _ => fun _ h => by simpa [hpH] using h
  | _ :: _, [], _ => fun _ h => by simpa [hpH] using h
  | _ :: ρ, _ :: H, 0 => star_mono imp_emp (Imp.refl _)
  | _ :: ρ, _ :: H, i + 1 => star_mono (Imp.refl _) (hpH_weak R ρ H i)
theorem takeK_spec {σ0 : List Nat} {R R' : Env} (hσ : Sub σ0 R R') {F : HP} {w : World} : ∀ (σ : List Nat) (H0 H : List SObj) (ρ : Env) (k : List SObj → Prop), (∀ (j i : Nat), σ[j]? = some i → ρ[j]? = R[i]?) → ρ.length = σ.length → R.length = H.length → takeK σ0 R.length σ H0 H k → Sat (star (hpH R R H) F) w →
    ∃ H', k H' ∧ H'.length = H.length ∧ H0.length = σ.length ∧ Sat (star (hpH R' ρ H0) (star (hpH R R H') F)) w
  | [], [], H, ρ, k, hρ, hρl, hl, h, hs => by
    have : ρ = [] := List.length_eq_zero_iff.1 hρl
    subst this
    exact ⟨H, h, rfl, rfl, hs.emp_left⟩
  | [], _ :: _, _, _, _, _, _, _, h, _ => h.elim
  | _ :: _, [], _, _, _, _, _, _, h, _ => h.elim
  | i :: σ, o :: H0, H, [], k, hρ, hρl, hl, h, hs => by simp at hρl
  | i :: σ, o :: H0, H, ob :: ρ, k, hρ, hρl, hl, h, hs => by
    obtain ⟨h1, h⟩ := h
    obtain ⟨hlt, h⟩ := setHK_iff _ _ _ _ h
    have hob : R[i]? = some ob := by have := hρ 0 i rfl; simpa using this.symm
    have hget : Imp (hpH R R H) (star (hpO R' ob o) (hpH R R (H.set i .gone))) := by
      have e := hpO_ren hσ [] ob o
      simp only [List.append_nil] at e
      have h0 : Imp (hpH R R H) (star (hpO R ob (getH H i)) (hpH R R (H.set i .gone))) := by
        by_cases hg : getH H i = .gone
        · rw [hg]
          exact fun f hf => star_comm _ _ f (star_emp _ f (hpH_weak R R H i f hf))
        · exact hpH_get R R H i ob _ hob (getH_some H i hg)
      rw [← e]
      exact h0.trans (star_mono (h1 R ob) (Imp.refl _))
    have hs2 : Sat (star (hpH R R (H.set i .gone)) (star (hpO R' ob o) F)) w := hs.mono ((star_mono hget (Imp.refl F)).trans ((star_assoc _ _ _).trans (star_left _ _ _)))
    obtain ⟨H', hk, hl', h0, hs'⟩ := takeK_spec hσ σ H0 _ ρ k (fun j i' hj => by simpa using hρ (j + 1) i' (by simpa using hj)) (by simpa using hρl) (by simpa using hl) h hs2
    refine ⟨H', hk, by simpa using hl', by simpa using h0, hs'.mono ?_⟩
    -- (H0 ∗ (H' ∗ (o ∗ F))) to ((o ∗ H0) ∗ (H' ∗ F))
    exact (star_mono (Imp.refl _) (star_left _ _ _)).trans ((star_left _ _ _).trans (star_assoc' _ _ _))
theorem backK_push {σ0 : List Nat} {R R' X : Env} (hσ : Sub σ0 R R') {F : HP} {w : World} : ∀ (B H : List SObj) (Xd Xr : Env) (k : List SObj → Prop), X = Xd ++ Xr → Xr.length = B.length → (R ++ Xd).length = H.length → backK σ0 R.length [] B H k →
    Sat (star (hpH (R' ++ X) Xr B) (star (hpH (R ++ X) (R ++ Xd) H) F)) w → ∃ H', k H' ∧ (R ++ X).length = H'.length ∧ Sat (star (hpH (R ++ X) (R ++ X) H') F) w
  | [], H, Xd, Xr, k, hX, hl, hl', h, hs => by
    have : Xr = [] := List.length_eq_zero_iff.1 hl
    subst this
    simp only [List.append_nil] at hX
    subst hX
    exact ⟨H, h, hl', hs.right⟩
  | o :: B, H, Xd, [], k, hX, hl, hl', h, hs => by simp at hl
  | o :: B, H, Xd, ob :: Xr, k, hX, hl, hl', h, hs => by
    have h := pushHK_iff _ _ _ h
    refine backK_push hσ B (H ++ [renO σ0 R.length o]) (Xd ++ [ob]) Xr k (by simp [hX]) (by simpa using hl) (by simp at hl' ⊢; omega) h ?_
    have h2 : Sat (star (hpO (R' ++ X) ob o) (star (hpH (R ++ X) (R ++ Xd) H) (star (hpH (R' ++ X) Xr B) F))) w :=
      hs.mono ((star_assoc _ _ _).trans (star_mono (Imp.refl _) (star_left _ _ _)))
    rw [← hpO_ren hσ] at h2
    have h3 : Sat (star (hpH (R ++ X) (R ++ Xd ++ [ob]) (H ++ [renO σ0 R.length o])) (star (hpH (R' ++ X) Xr B) F)) w :=
      h2.mono ((star_assoc' _ _ _).trans (star_mono (hpH_push _ _ _ _ _ hl') (Imp.refl _)))
    rw [List.append_assoc] at h3
    exact h3.mono (star_left _ _ _)
theorem backK_spec {σ0 : List Nat} {R R' X : Env} (hσ : Sub σ0 R R') {F : HP} {w : World} : ∀ (σ : List Nat) (H1 H : List SObj) (V : Env) (k : List SObj → Prop), V.length = σ.length → (∀ (j i : Nat), σ[j]? = some i → V[j]? = R[i]? ∧ i < R.length) → (V ++ X).length = H1.length → R.length = H.length →
    backK σ0 R.length σ H1 H k → Sat (star (hpH (R' ++ X) (V ++ X) H1) (star (hpH (R ++ X) R H) F)) w → ∃ H', k H' ∧ (R ++ X).length = H'.length ∧ Sat (star (hpH (R ++ X) (R ++ X) H') F) w
  | [], H1, H, V, k, hV, hσV, hl1, hl, h, hs => by
    have : V = [] := List.length_eq_zero_iff.1 hV
    subst this
    simp only [List.nil_append] at hl1 hs
    exact backK_push hσ H1 H [] X k rfl hl1 (by simpa using hl) h (by simpa using hs)
  | i :: σ, [], H, V, k, hV, hσV, hl1, hl, h, hs => h.elim
  | i :: σ, o :: A, H, [], k, hV, hσV, hl1, hl, h, hs => by simp at hV
  | i :: σ, o :: A, H, ob :: V, k, hV, hσV, hl1, hl, h, hs => by
    obtain ⟨hlt, h⟩ := setHK_iff _ _ _ _ h
    obtain ⟨hob, hi⟩ := hσV 0 i rfl
    have hob : R[i]? = some ob := by simpa using hob.symm
    refine backK_spec hσ σ A (H.set i (renO σ0 R.length o)) V k (by simpa using hV) (fun j i' hj => by simpa using hσV (j + 1) i' (by simpa using hj)) (by simpa using hl1) (by simpa using hl) h ?_
    have h2 : Sat (star (hpO (R' ++ X) ob o) (star (hpH (R ++ X) R H) (star (hpH (R' ++ X) (V ++ X) A) F))) w :=
      hs.mono ((star_assoc _ _ _).trans (star_mono (Imp.refl _) (star_left _ _ _)))
    rw [← hpO_ren hσ] at h2
    have h3 := h2.mono ((star_mono (Imp.refl _) (star_mono (hpH_weak (R ++ X) R H i) (Imp.refl _))).trans ((star_assoc' _ _ _).trans (star_mono (hpH_put (R ++ X) R H i ob _ hob (by omega)) (Imp.refl _))))
    exact h3.mono (star_left _ _ _)

/-- A call of a function of which a law is known: which of the caller's blocks are the callee's. -/
theorem CallAt.lift {P : Program} {f : FuncId} {ds0 ds : List D} {H0 H : List SObj} {post : D → List SObj → Prop} {k : D → List SObj → Prop} (hc : CallAt P f ds0 H0 post) (σ : List Nat) (hσ : σ.all (Nat.blt · H.length) = true)
    (hds : ∀ R, concL R ds = concL R (renL σ H.length ds0)) (hpost : ∀ d H1, post d H1 → isJunk d = true → isJunk (ren σ H.length d) = true)
    (h : takeK σ H.length σ H0 H fun Hr => ∀ d H1, post d H1 → backK σ H.length σ H1 Hr fun H' => k (ren σ H.length d) H') : CallAt P f ds H k := by
  refine ⟨hc.fn, fun F R w vs hl hs hv => ?_⟩
  have hsub : Sub σ R (σ.map fun i => (R[i]?).getD none) := by
    refine ⟨by simp, fun j i hj => ?_⟩
    have hi : i < R.length := by
      have := List.all_eq_true.1 hσ i (List.mem_of_getElem? hj)
      rw [hl]; simpa [Nat.blt_eq] using this
    exact ⟨by simp [hj, List.getElem?_eq_getElem hi], hi⟩
  obtain ⟨R', hR'⟩ : ∃ R', R' = σ.map fun i => (R[i]?).getD none := ⟨_, rfl⟩
  rw [← hR'] at hsub
  rw [← hl] at h
  obtain ⟨Hr, hk, hrl, h0l, hsat⟩ := takeK_spec hsub σ H0 H R' _ (fun j i hj => (hsub.2 j i hj).1) hsub.1 hl h hs
  have hargs : IsL R' ds0 vs := fun X => by
    have := hv X
    rw [hds, ← hl, concL_ren hsub] at this
    exact this
  refine (hc.run (star (hpH R R Hr) F) R' w vs (by rw [hsub.1, h0l]) hsat hargs).mono ?_
  rintro e w' ⟨d, H1, X, v, hp, he, hl1, hi, hs', hsame⟩
  have hs2 : Sat (star (hpH (R' ++ X) (R' ++ X) H1) (star (hpH (R ++ X) R Hr) F)) w' := hs'.mono (star_mono (Imp.refl _) (star_mono (hpH_ext R X R Hr) (Imp.refl _)))
  obtain ⟨H', hk', hl', hs3⟩ := backK_spec hsub σ H1 Hr R' _ hsub.1 hsub.2 hl1 (by rw [hl, hrl]) (hk d H1 hp) hs2
  rw [hl] at hk'
  refine ⟨_, H', X, v, hk', he, hl', ?_, hs3, hsame⟩
  rcases hi with hi | hi
  · exact .inl (hpost d H1 hp hi)
  · rw [← hl]; exact .inr ((is_ren hsub).2 hi)
end Go.Proofs.Ytdgnnboljgpcmaa.E
