import Derived.Test.YtdgnnboljgpcmaaEngE
namespace Go.Proofs.Ytdgnnboljgpcmaa.E
open Go

/-! ### Slicing -/
def sliceK (P : Program) (T : TypeId) (x : D) (lo hi : Option D) (k : D → Prop) : Prop :=
  match x with
  | .str s => match P.underlying T with
    | some .string => match lo, hi with
      | none, none => k (.str s)
      | none, some (.int _ b) => (0 ≤ b ∧ b ≤ s.length) ∧ k (.str (s.take b.toNat))
      | some (.int _ a), none => (0 ≤ a ∧ a ≤ s.length) ∧ k (.str (s.drop a.toNat))
      | some (.int _ a), some (.int _ b) => ((0 ≤ a ∧ a ≤ b) ∧ b ≤ s.length) ∧ k (.str ((s.take b.toNat).drop a.toNat))
      | _, _ => False
    | _ => False
  | .ptr h p => match P.underlying T with
    | some (.array n e) => when (Nat.ble 1 (P.cellsOf e)) (match lo, hi with
      | none, none => k (.slc h p (P.cellsOf e) 0 n n)
      | none, some (.int _ b) => (0 ≤ b ∧ b ≤ n) ∧ k (.slc h p (P.cellsOf e) 0 b.toNat n)
      | some (.int _ a), none => (0 ≤ a ∧ a ≤ n) ∧ (a < n → k (.slc h p (P.cellsOf e) a.toNat (n - a.toNat) (n - a.toNat))) ∧ (a = n → k (.slc h p (P.cellsOf e) 0 (n - a.toNat) 0))
      | some (.int _ a), some (.int _ b) => ((0 ≤ a ∧ a ≤ b) ∧ b ≤ n) ∧ (a < n → k (.slc h p (P.cellsOf e) a.toNat (b.toNat - a.toNat) (n - a.toNat))) ∧ (a = n → k (.slc h p (P.cellsOf e) 0 (b.toNat - a.toNat) 0))
      | _, _ => False)
    | _ => False
  | .slc h p s l0 len cap => match P.underlying T with
    | some (.slice e) => when (Nat.ble 1 s) (when (Nat.beq s (P.cellsOf e)) (match lo, hi with
      | none, none => k (.slc h p s l0 len cap)
      | none, some (.int _ b) => (0 ≤ b ∧ b ≤ cap) ∧ k (.slc h p s l0 b.toNat cap)
      | some (.int _ a), none => (0 ≤ a ∧ a ≤ len) ∧ a ≤ cap ∧ (a < cap → k (.slc h p s (l0 + a.toNat) (len - a.toNat) (cap - a.toNat))) ∧ (a ≥ cap → k (.slc h p s l0 (len - a.toNat) 0))
      | some (.int _ a), some (.int _ b) => ((0 ≤ a ∧ a ≤ b) ∧ b ≤ cap) ∧ (a < cap → k (.slc h p s (l0 + a.toNat) (b.toNat - a.toNat) (cap - a.toNat))) ∧ (a ≥ cap → k (.slc h p s l0 (b.toNat - a.toNat) 0))
      | _, _ => False))
    | _ => False
  | .nils => match P.underlying T with
    | some (.slice e) => when (Nat.ble 1 (P.cellsOf e)) (match lo, hi with
      | none, none => k .nils
      | none, some (.int _ b) => b = 0 ∧ k .nils
      | some (.int _ a), none => a = 0 ∧ k .nils
      | some (.int _ a), some (.int _ b) => (a = 0 ∧ b = 0) ∧ k .nils
      | _, _ => False)
    | _ => False
  | _ => False

theorem run_bound {P : Program} {i : Int} {y : Nat} (h : 0 ≤ i ∧ i ≤ y) (q : IntKind) (code : BoundsCode) (w : World) : (Instr.sliceBound (.int q i) y code).run P w = .ok i.toNat w := by
  simp only [Instr.sliceBound, asIntOf, Sem.run_bind, Sem.run_pure, Result.andThen_ok]
  rw [if_pos h]; rfl

/-- The value of an operand that may be missing. -/
def IsO (R : Env) : Option D → Option Value → Prop
  | none, none => True
  | some d, some v => Is R d v
  | _, _ => False

theorem run_bounds {P : Program} (isSlice : Bool) (len cap : Nat) (lo hi : Option Value) (l h : Nat)
    (hh : match hi with | none => h = len | some v => ∃ q b, v = .int q b ∧ 0 ≤ b ∧ b ≤ cap ∧ h = b.toNat)
    (hl : match lo with | none => l = 0 | some v => ∃ q a, v = .int q a ∧ 0 ≤ a ∧ a ≤ h ∧ l = a.toNat) (w : World) :
    (Instr.sliceBounds isSlice len cap lo hi none).run P w = .ok (l, h, cap) w := by
  unfold Instr.sliceBounds
  cases hi with
  | none =>
    subst hh
    cases lo with
    | none => subst hl; simp only [Sem.run_bind, Sem.run_pure, Result.andThen_ok]
    | some v =>
      obtain ⟨q, a, rfl, h1, h2, rfl⟩ := hl
      have e1 := fun code w => run_bound (P := P) ⟨h1, h2⟩ q code w
      simp only [Sem.run_bind, Sem.run_pure, Result.andThen_ok, e1]
  | some u =>
    obtain ⟨q, b, rfl, h1, h2, rfl⟩ := hh
    have e2 := fun code w => run_bound (P := P) ⟨h1, h2⟩ q code w
    cases lo with
    | none => subst hl; simp only [Sem.run_bind, Sem.run_pure, Result.andThen_ok, e2]
    | some v =>
      obtain ⟨q', a, rfl, h3, h4, rfl⟩ := hl
      have e1 := fun code w => run_bound (P := P) ⟨h3, h4⟩ q' code w
      simp only [Sem.run_bind, Sem.run_pure, Result.andThen_ok, e1, e2]

section
variable {P : Program} (isSlice : Bool) (len cap : Nat) (w : World)
theorem bounds_nn : (Instr.sliceBounds isSlice len cap none none none).run P w = .ok (0, len, cap) w := run_bounds _ _ _ none none _ _ rfl rfl w
theorem bounds_nh (q : IntKind) (b : Int) (h : 0 ≤ b ∧ b ≤ cap) : (Instr.sliceBounds isSlice len cap none (some (.int q b)) none).run P w = .ok (0, b.toNat, cap) w :=
  run_bounds _ _ _ none (some (.int q b)) _ _ ⟨q, b, rfl, h.1, h.2, rfl⟩ rfl w
theorem bounds_ln (q : IntKind) (a : Int) (h : 0 ≤ a ∧ a ≤ len) : (Instr.sliceBounds isSlice len cap (some (.int q a)) none none).run P w = .ok (a.toNat, len, cap) w :=
  run_bounds _ _ _ (some (.int q a)) none _ _ rfl ⟨q, a, rfl, h.1, h.2, rfl⟩ w
theorem bounds_lh (q q' : IntKind) (a b : Int) (h : (0 ≤ a ∧ a ≤ b) ∧ b ≤ cap) : (Instr.sliceBounds isSlice len cap (some (.int q a)) (some (.int q' b)) none).run P w = .ok (a.toNat, b.toNat, cap) w :=
  run_bounds _ _ _ (some (.int q a)) (some (.int q' b)) _ _ ⟨q', b, rfl, by omega, h.2, rfl⟩ ⟨q, a, rfl, h.1.1, by omega, rfl⟩ w
end
theorem isO_none {R : Env} {v : Option Value} (h : IsO R none v) : v = none := by cases v <;> simp [IsO] at h ⊢
theorem isO_int {R : Env} {q : IntKind} {n : Int} {v : Option Value} (h : IsO R (some (.int q n)) v) : v = some (.int q n) := by
  cases v with
  | none => simp [IsO] at h
  | some v => rw [int_of_is h]
theorem is_slice {R : Env} {h b z : Nat} (hR : R[h]? = some (some (b, z))) (p : Path) (s lo len cap : Nat) : Is R (.slc h p s lo len cap) (.slice (some ⟨b, z + (offP p + lo * s), none⟩) len cap) := fun X => by
  have : (R ++ X)[h]? = some (some (b, z)) := by rw [List.getElem?_append_left (List.getElem?_eq_some_iff.1 hR).1]; exact hR
  simp [conc, sliceV, this]
theorem is_slice_none {R : Env} {h : Nat} (hR : R[h]? = some none) (p : Path) (s lo len cap : Nat) : Is R (.slc h p s lo len cap) (.slice none len cap) := fun X => by
  have : (R ++ X)[h]? = some none := by rw [List.getElem?_append_left (List.getElem?_eq_some_iff.1 hR).1]; exact hR
  simp [conc, sliceV, this]
/-- A slice's value, its handle known. -/
theorem slice_cases {R : Env} {h s lo len cap : Nat} {p : Path} {v : Value} (hv : Is R (.slc h p s lo len cap) v) :
    (∃ b z, R[h]? = some (some (b, z)) ∧ v = .slice (some ⟨b, z + (offP p + lo * s), none⟩) len cap) ∨ (R[h]? = some none ∧ v = .slice none len cap) := by
  have h0 := hv.conc
  simp only [conc, sliceV] at h0
  cases hR : R[h]? with
  | some ob =>
    rw [hR] at h0
    cases ob with
    | some b => exact .inl ⟨b.1, b.2, rfl, h0.symm⟩
    | none => exact .inr ⟨rfl, h0.symm⟩
  | none =>
    exfalso
    have hlen : R.length ≤ h := by simpa using hR
    have h1 := hv (List.replicate (h - R.length) none ++ [some (0, 0)])
    rw [hR] at h0
    simp only [conc, sliceV] at h1
    have : (R ++ (List.replicate (h - R.length) none ++ [some (0, 0)]))[h]? = some (some (0, 0)) := by
      rw [← List.append_assoc, List.getElem?_append_right (by simp; omega)]
      simp
      rw [show h - (R.length + (h - R.length)) = 0 by omega]; rfl
    rw [this] at h1
    rw [← h1] at h0
    simp [undef] at h0

theorem run_sliceAt_slice {P : Program} {T : TypeId} {e : TypeId} (hu : P.underlying T = some (.slice e)) (hz : 1 ≤ P.cellsOf e) (a : Option Addr) (len cap l h : Nat) (lo hi : Option Value)
    (hb : ∀ w, (Instr.sliceBounds true len cap lo hi none).run P w = .ok (l, h, cap) w) (w : World) :
    (Instr.sliceAt T (.slice a len cap) lo hi none).run P w = .ok (.slice (if cap = l then a else a.map (·.add (l * P.cellsOf e))) (h - l) (cap - l)) w := by
  simp only [Instr.sliceAt, Instr.slice, Sem.run_bind, run_underlying hu, Result.andThen_ok, hb, run_sizeOf' hz, Sem.run_pure]
theorem run_sliceAt_array {P : Program} {T : TypeId} {n : Nat} {e : TypeId} (hu : P.underlying T = some (.array n e)) (hz : 1 ≤ P.cellsOf e) (a : Addr) (l h : Nat) (lo hi : Option Value)
    (hb : ∀ w, (Instr.sliceBounds false n n lo hi none).run P w = .ok (l, h, n) w) (w : World) :
    (Instr.sliceAt T (.pointer (some a)) lo hi none).run P w = .ok (.slice (some (if n = l then a else a.add (l * P.cellsOf e))) (h - l) (n - l)) w := by
  simp only [Instr.sliceAt, Instr.sureAddr, Sem.run_bind, run_underlying hu, Result.andThen_ok, hb, run_sizeOf' hz, Sem.run_pure]
theorem run_sliceAt_string {P : Program} {T : TypeId} (hu : P.underlying T = some .string) (s : ByteArray) (l h : Nat) (lo hi : Option Value)
    (hb : ∀ w, (Instr.sliceBounds false s.size s.size lo hi none).run P w = .ok (l, h, s.size) w) (w : World) :
    (Instr.sliceAt T (.string s) lo hi none).run P w = .ok (.string (s.extract l h)) w := by
  simp only [Instr.sliceAt, Instr.slice, Sem.run_bind, run_underlying hu, Result.andThen_ok, Option.isSome_none, Bool.false_eq_true, if_false, hb, Sem.run_pure]

theorem sliceK_spec {P : Program} {T : TypeId} {x : D} {lo hi : Option D} {k : D → Prop} (h : sliceK P T x lo hi k) : ∃ d, isJunk d = false ∧ k d ∧
    ∀ R w vx vlo vhi, Is R x vx → IsO R lo vlo → IsO R hi vhi → (∀ hh p, x = .ptr hh p → ∃ a, vx = .pointer (some a)) → ∃ v, (Instr.sliceAt T vx vlo vhi none).run P w = .ok v w ∧ Is R d v := by
  unfold sliceK at h
  split at h
  · -- a string
    rename_i s
    split at h <;> try exact h.elim
    rename_i hu
    have sz : (⟨s.toArray⟩ : ByteArray).size = s.length := by simp [ByteArray.size]
    have go : ∀ (l hh : Nat) (d : Bytes), (s.drop l).take (hh - l) = d → k (.str d) → (∀ R vlo vhi, IsO R lo vlo → IsO R hi vhi → ∀ w, (Instr.sliceBounds false s.length s.length vlo vhi none).run P w = .ok (l, hh, s.length) w) →
        ∃ d, isJunk d = false ∧ k d ∧ ∀ R w vx vlo vhi, Is R (.str s) vx → IsO R lo vlo → IsO R hi vhi → (∀ hh p, D.str s = .ptr hh p → ∃ a, vx = .pointer (some a)) → ∃ v, (Instr.sliceAt T vx vlo vhi none).run P w = .ok v w ∧ Is R d v := by
      intro l hh d hd hk hb
      refine ⟨_, rfl, hk, fun R w vx vlo vhi hx hl hh' _ => ?_⟩
      have := hx.conc
      simp only [conc] at this
      subst this
      have hr := run_sliceAt_string (P := P) hu ⟨s.toArray⟩ l hh vlo vhi (by rw [sz]; exact hb R vlo vhi hl hh') w
      rw [ByteArray.extract_mk, hd] at hr
      exact ⟨_, hr, fun _ => rfl⟩
    split at h <;> try exact h.elim
    · exact go 0 s.length s (by simp) h (fun R vlo vhi hl hh w => by
        rw [isO_none hl, isO_none hh]; exact bounds_nn _ _ _ w)
    · rename_i q b
      exact go 0 b.toNat _ (by simp) h.2 (fun R vlo vhi hl hh w => by
        rw [isO_none hl, isO_int hh]; exact bounds_nh _ _ _ w q b h.1)
    · rename_i q a
      exact go a.toNat s.length _ (by rw [List.take_of_length_le (by simp)]) h.2 (fun R vlo vhi hl hh w => by
        rw [isO_int hl, isO_none hh]; exact bounds_ln _ _ _ w q a h.1)
    · rename_i q a q' b
      exact go a.toNat b.toNat _ (by rw [List.drop_take]) h.2 (fun R vlo vhi hl hh w => by
        rw [isO_int hl, isO_int hh]
        exact bounds_lh _ _ _ w q q' a b h.1)
  · -- an array
    rename_i hd p
    split at h <;> try exact h.elim
    rename_i n e hu
    obtain ⟨hz0, h0⟩ := when_iff.1 h
    clear h
    have hz := Nat.le_of_ble_eq_true hz0
    clear hz0
    have h := h0
    clear h0
    have go : ∀ (l hh l' cap' : Nat), (n = l → l' = 0) → (n ≠ l → l' = l) → cap' = n - l → k (.slc hd p (P.cellsOf e) l' (hh - l) cap') →
        (∀ R vlo vhi, IsO R lo vlo → IsO R hi vhi → ∀ w, (Instr.sliceBounds false n n vlo vhi none).run P w = .ok (l, hh, n) w) →
        ∃ d, isJunk d = false ∧ k d ∧ ∀ R w vx vlo vhi, Is R (.ptr hd p) vx → IsO R lo vlo → IsO R hi vhi → (∀ hh q, D.ptr hd p = .ptr hh q → ∃ a, vx = .pointer (some a)) → ∃ v, (Instr.sliceAt T vx vlo vhi none).run P w = .ok v w ∧ Is R d v := by
      intro l hh l' cap' h1 h2 h3 hk hb
      refine ⟨_, rfl, hk, fun R w vx vlo vhi hx hl hh' hp => ?_⟩
      obtain ⟨a, ha⟩ := hp _ _ rfl
      obtain ⟨b, z, hR, rfl⟩ := addr_of_is hx ha
      subst ha
      have hr := run_sliceAt_array (P := P) hu hz ⟨b, z + offP p, none⟩ l hh vlo vhi (hb R vlo vhi hl hh') w
      refine ⟨_, hr, ?_⟩
      have := is_slice hR p (P.cellsOf e) l' (hh - l) cap'
      rw [h3] at this
      by_cases hn : n = l
      · rw [if_pos hn]; rw [h1 hn] at this; simpa [hn, h3, h1 hn] using this
      · rw [if_neg hn, add_none]; rw [h2 hn, ← Nat.add_assoc] at this; rw [h2 hn, h3]; exact this
    split at h <;> try exact h.elim
    · exact go 0 n 0 n (fun _ => rfl) (fun _ => rfl) rfl h (fun R vlo vhi hl hh w => by
        rw [isO_none hl, isO_none hh]; exact bounds_nn _ _ _ w)
    · rename_i q b
      exact go 0 b.toNat 0 n (fun _ => rfl) (fun _ => rfl) rfl h.2 (fun R vlo vhi hl hh w => by
        rw [isO_none hl, isO_int hh]; exact bounds_nh _ _ _ w q b h.1)
    · rename_i q a
      have hbd : ∀ R vlo vhi, IsO R (some (.int q a)) vlo → IsO R none vhi → ∀ w, (Instr.sliceBounds false n n vlo vhi none).run P w = .ok (a.toNat, n, n) w := fun R vlo vhi hl hh w => by
        rw [isO_int hl, isO_none hh]; exact bounds_ln _ _ _ w q a h.1
      by_cases hn : a = n
      · exact go a.toNat n 0 0 (fun _ => rfl) (fun hne => absurd (show n = a.toNat by omega) hne) (by omega) (h.2.2 hn) hbd
      · exact go a.toNat n a.toNat (n - a.toNat) (fun he => absurd (show a = n by omega) hn) (fun _ => rfl) rfl (h.2.1 (by omega)) hbd
    · rename_i q a q' b
      have hbd : ∀ R vlo vhi, IsO R (some (.int q a)) vlo → IsO R (some (.int q' b)) vhi → ∀ w, (Instr.sliceBounds false n n vlo vhi none).run P w = .ok (a.toNat, b.toNat, n) w := fun R vlo vhi hl hh w => by
        rw [isO_int hl, isO_int hh]
        exact bounds_lh _ _ _ w q q' a b h.1
      by_cases hn : a = n
      · exact go a.toNat b.toNat 0 0 (fun _ => rfl) (fun hne => absurd (show n = a.toNat by omega) hne) (by omega) (h.2.2 hn) hbd
      · exact go a.toNat b.toNat a.toNat (n - a.toNat) (fun he => absurd (show a = n by omega) hn) (fun _ => rfl) rfl (h.2.1 (by omega)) hbd
  · -- a slice
    rename_i hd p s l0 len cap
    split at h <;> try exact h.elim
    rename_i e hu
    obtain ⟨hz0, h0⟩ := when_iff.1 h
    clear h
    obtain ⟨hs0, h⟩ := when_iff.1 h0
    clear h0
    have hz := Nat.le_of_ble_eq_true hz0
    have hs := Nat.eq_of_beq_eq_true hs0
    clear hz0 hs0
    have go : ∀ (l hh l' cap' : Nat), (cap = l → l' = l0) → (cap ≠ l → l' = l0 + l) → cap' = cap - l → k (.slc hd p s l' (hh - l) cap') →
        (∀ R vlo vhi, IsO R lo vlo → IsO R hi vhi → ∀ w, (Instr.sliceBounds true len cap vlo vhi none).run P w = .ok (l, hh, cap) w) →
        ∃ d, isJunk d = false ∧ k d ∧ ∀ R w vx vlo vhi, Is R (.slc hd p s l0 len cap) vx → IsO R lo vlo → IsO R hi vhi → (∀ hh q, D.slc hd p s l0 len cap = .ptr hh q → ∃ a, vx = .pointer (some a)) →
          ∃ v, (Instr.sliceAt T vx vlo vhi none).run P w = .ok v w ∧ Is R d v := by
      intro l hh l' cap' h1 h2 h3 hk hb
      refine ⟨_, rfl, hk, fun R w vx vlo vhi hx hl hh' _ => ?_⟩
      rcases slice_cases hx with ⟨b, z, hR, rfl⟩ | ⟨hR, rfl⟩
      · have hr := run_sliceAt_slice (P := P) hu (by omega) (some ⟨b, z + (offP p + l0 * s), none⟩) len cap l hh vlo vhi (hb R vlo vhi hl hh') w
        refine ⟨_, hr, ?_⟩
        have := is_slice hR p s l' (hh - l) cap'
        by_cases hn : cap = l
        · rw [if_pos hn]; rw [h1 hn, h3] at this; rw [h1 hn, h3]; exact this
        · rw [if_neg hn, Option.map_some, add_none, ← hs]; rw [h2 hn, h3, Nat.add_mul, ← Nat.add_assoc, ← Nat.add_assoc] at this; rw [h2 hn, h3, ← Nat.add_assoc]; exact this
      · have hr := run_sliceAt_slice (P := P) hu (by omega) none len cap l hh vlo vhi (hb R vlo vhi hl hh') w
        refine ⟨_, hr, ?_⟩
        have := is_slice_none hR p s l' (hh - l) cap'
        rw [h3] at this
        rw [h3]
        by_cases hn : cap = l
        · rw [if_pos hn]; exact this
        · rw [if_neg hn]; exact this
    split at h <;> try exact h.elim
    · exact go 0 len l0 cap (fun _ => rfl) (fun _ => rfl) rfl h (fun R vlo vhi hl hh w => by
        rw [isO_none hl, isO_none hh]; exact bounds_nn _ _ _ w)
    · rename_i q b
      exact go 0 b.toNat l0 cap (fun _ => rfl) (fun _ => rfl) rfl h.2 (fun R vlo vhi hl hh w => by
        rw [isO_none hl, isO_int hh]; exact bounds_nh _ _ _ w q b h.1)
    · rename_i q a
      have hbd : ∀ R vlo vhi, IsO R (some (.int q a)) vlo → IsO R none vhi → ∀ w, (Instr.sliceBounds true len cap vlo vhi none).run P w = .ok (a.toNat, len, cap) w := fun R vlo vhi hl hh w => by
        rw [isO_int hl, isO_none hh]; exact bounds_ln _ _ _ w q a h.1
      by_cases hn : a < cap
      · exact go a.toNat len (l0 + a.toNat) (cap - a.toNat) (fun he => by omega) (fun _ => rfl) rfl (h.2.2.1 hn) hbd
      · exact go a.toNat len l0 0 (fun _ => rfl) (fun hne => absurd (show cap = a.toNat by omega) hne) (by omega) (h.2.2.2 (by omega)) hbd
    · rename_i q a q' b
      have hbd : ∀ R vlo vhi, IsO R (some (.int q a)) vlo → IsO R (some (.int q' b)) vhi → ∀ w, (Instr.sliceBounds true len cap vlo vhi none).run P w = .ok (a.toNat, b.toNat, cap) w := fun R vlo vhi hl hh w => by
        rw [isO_int hl, isO_int hh]
        exact bounds_lh _ _ _ w q q' a b h.1
      by_cases hn : a < cap
      · exact go a.toNat b.toNat (l0 + a.toNat) (cap - a.toNat) (fun he => by omega) (fun _ => rfl) rfl (h.2.1 hn) hbd
      · exact go a.toNat b.toNat l0 0 (fun _ => rfl) (fun hne => absurd (show cap = a.toNat by omega) hne) (by omega) (h.2.2 (by omega)) hbd
  · -- nil
    split at h <;> try exact h.elim
    rename_i e hu
    obtain ⟨hz0, h0⟩ := when_iff.1 h
    clear h
    have hz := Nat.le_of_ble_eq_true hz0
    clear hz0
    have h := h0
    clear h0
    have go : k .nils → (∀ R vlo vhi, IsO R lo vlo → IsO R hi vhi → ∀ w, (Instr.sliceBounds true 0 0 vlo vhi none).run P w = .ok (0, 0, 0) w) →
        ∃ d, isJunk d = false ∧ k d ∧ ∀ R w vx vlo vhi, Is R .nils vx → IsO R lo vlo → IsO R hi vhi → (∀ hh q, D.nils = .ptr hh q → ∃ a, vx = .pointer (some a)) →
          ∃ v, (Instr.sliceAt T vx vlo vhi none).run P w = .ok v w ∧ Is R d v := by
      intro hk hb
      refine ⟨_, rfl, hk, fun R w vx vlo vhi hx hl hh' _ => ?_⟩
      have := hx.conc
      simp only [conc] at this
      subst this
      have hr := run_sliceAt_slice (P := P) hu (by omega) none 0 0 0 0 vlo vhi (hb R vlo vhi hl hh') w
      exact ⟨_, hr, fun _ => rfl⟩
    split at h <;> try exact h.elim
    · exact go h (fun R vlo vhi hl hh w => by
        rw [isO_none hl, isO_none hh]; exact bounds_nn _ _ _ w)
    · rename_i q b
      obtain ⟨rfl, hk⟩ := h
      exact go hk (fun R vlo vhi hl hh w => by
        rw [isO_none hl, isO_int hh]; exact bounds_nh _ _ _ w q 0 (by decide))
    · rename_i q b
      obtain ⟨rfl, hk⟩ := h
      exact go hk (fun R vlo vhi hl hh w => by
        rw [isO_int hl, isO_none hh]; exact bounds_ln _ _ _ w q 0 (by decide))
    · rename_i q b q' c
      obtain ⟨⟨rfl, rfl⟩, hk⟩ := h
      exact go hk (fun R vlo vhi hl hh w => by
        rw [isO_int hl, isO_int hh]; exact bounds_lh _ _ _ w q q' 0 0 (by decide))
  · exact h.elim
end Go.Proofs.Ytdgnnboljgpcmaa.E
