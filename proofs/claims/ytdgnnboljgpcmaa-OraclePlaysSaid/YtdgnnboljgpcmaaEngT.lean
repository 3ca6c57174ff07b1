import Derived.Test.YtdgnnboljgpcmaaEngS
import Derived.Laws.StructEq
import Derived.ChangeKeysEq
namespace Go.Proofs.Ytdgnnboljgpcmaa.E
open Go

/-! ### '==' of structs and arrays -/
def eqFieldsK (P : Program) (f : TypeId → D → D → (Bool → Prop) → Prop) : List Field → List D → List D → Nat → (Bool → Prop) → Prop
  | [], [], [], _, k => k true
  | ⟨_, ty, off, _, _, _, _⟩ :: fs, x :: xs, y :: ys, a, k => when (Nat.beq a off) (sizeK x fun n => sizeK y fun m => when (Nat.beq n m) (kindK P ty x (kindK P ty y (f ty x y fun b => eqFieldsK P f fs xs ys (a + n) fun b' => k (b && b')))))
  | _, _, _, _, _ => False
def eqK (P : Program) : Nat → TypeId → D → D → (Bool → Prop) → Prop
  | 0, _, _, _, _ => False
  | n + 1, T, x, y, k => match P.underlying T with
    | some (.int _) => match x, y with
      | .int ka a, .int kb b => when (decide (ka = kb)) (k (decide (a = b)))
      | _, _ => False
    | some .bool => match boolOf x, boolOf y with
      | some a, some b => k (decide (a = b))
      | _, _ => False
    | some .string => match x, y with
      | .str a, .str b => k (decide (a = b))
      | _, _ => False
    | some (.struct fs) => match x, y with
      | .st xs, .st ys => eqFieldsK P (eqK P n) fs.toList xs ys 0 k
      | _, _ => False
    | some (.array m e) => match n with
      | 0 => False
      | _ + 1 => match P.underlying e with
        | some (.int _) => match x, y with
          | .bytes m1 u, .bytes m2 v => when (Nat.beq m m1) (when (Nat.beq m m2) (when (Nat.beq (P.cellsOf e) 1) (k (decide (u.toList = v.toList)))))
          | _, _ => False
        | _ => False
    | _ => False
/-- Nothing about the type's form stands in the way. -/
def eqTypeOK (P : Program) : Nat → TypeId → Bool
  | 0, _ => true
  | n + 1, T => match P.underlying T with
    | some (.struct fs) => !P.stoodInHeld T && fs.toList.all fun f => f.name != "_" && eqTypeOK P n f.type
    | _ => true
def EqRun (P : Program) (n : Nat) (T : TypeId) (x y : D) (b : Bool) : Prop := ∀ d R vx vy w, Is R x vx → Is R y vy → (Op.equalIn (d + n) T vx vy).run P w = .ok b w

theorem eqFieldsK_spec {P : Program} {n : Nat} {f : TypeId → D → D → (Bool → Prop) → Prop} {ok : TypeId → Bool} (hf : ∀ T x y k, ok T = true → f T x y k → ∃ b, k b ∧ EqRun P n T x y b) : ∀ (fs : List Field) (xs ys : List D) (a : Nat) (k : Bool → Prop), (fs.all fun f => f.name != "_" && ok f.type) = true → eqFieldsK P f fs xs ys a k →
    ∃ b, k b ∧ ∀ d R (cx cy : Array Value) w, a + sizeL xs ≤ cx.size → a + sizeL ys ≤ cy.size → (∀ X, (cx.toList.drop a).take (sizeL xs) = cellsL (R ++ X) xs) → (∀ X, (cy.toList.drop a).take (sizeL ys) = cellsL (R ++ X) ys) → (Op.eqFields (d + n) cx cy fs).run P w = .ok b w
  | [], [], [], a, k, _, h => ⟨true, h, fun d R cx cy w _ _ _ _ => rfl⟩
  | [], [], _ :: _, _, _, _, h => h.elim
  | [], _ :: _, _, _, _, _, h => h.elim
  | _ :: _, [], _, _, _, _, h => h.elim
  | _ :: _, _ :: _, [], _, _, _, h => h.elim
  | ⟨nm, ty, off, e1, e2, e3, e4⟩ :: fs, x :: xs, y :: ys, a, k, hok, h => by
    obtain ⟨ho0, h2⟩ := when_iff.1 h
    clear h
    simp only [List.all_cons, Bool.and_eq_true, bne_iff_ne, ne_eq] at hok
    obtain ⟨⟨hnm, hty⟩, hok⟩ := hok
    have ho := Nat.eq_of_beq_eq_true ho0
    clear ho0
    subst ho
    have h3 := (sizeK_iff _ _).1 h2
    have h4 := (sizeK_iff _ _).1 h3
    obtain ⟨hnn0, h5⟩ := when_iff.1 h4
    have hnn := Nat.eq_of_beq_eq_true hnn0
    obtain ⟨h6, hpx⟩ := run_part_lies h5
    obtain ⟨h7, hpy⟩ := run_part_lies h6
    obtain ⟨b, h8, hb⟩ := hf _ _ _ _ hty h7
    obtain ⟨b', hk, hb'⟩ := eqFieldsK_spec hf fs xs ys _ _ (by simpa using hok) h8
    refine ⟨b && b', hk, fun d R cx cy w hcx hcy hx hy => ?_⟩
    have part1 : ∀ (z : D) (zs : List D) (c : Array Value), a + sizeL (z :: zs) ≤ c.size → (∀ X, (c.toList.drop a).take (sizeL (z :: zs)) = cellsL (R ++ X) (z :: zs)) → a + size z ≤ c.size ∧ IsC R z ((c.toList.drop a).take (size z)) ∧ ∀ X, (c.toList.drop (a + size z)).take (sizeL zs) = cellsL (R ++ X) zs := by
      intro z zs c hzc hz
      have hlen : ((c.toList.drop a).take (sizeL (z :: zs))).length = sizeL (z :: zs) := by rw [hz [], cellsL_length]
      simp only [sizeL, List.length_take, List.length_drop, Array.length_toList] at hlen
      simp only [sizeL] at hzc
      have hle : size z + sizeL zs ≤ c.size - a := by omega
      refine ⟨by omega, fun X => ?_, fun X => ?_⟩
      · have := hz X
        rw [cellsL_cons] at this
        have e := congrArg (List.take (size z)) this
        rw [List.take_take, List.take_append_of_le_length (by rw [cells_length]; omega), List.take_of_length_le (l := cells (R ++ X) z) (by rw [cells_length]; omega)] at e
        rw [← e]
        congr 1
        simp only [sizeL]; omega
      · have := hz X
        rw [cellsL_cons] at this
        have e := congrArg (List.drop (size z)) this
        rw [List.drop_append, List.drop_of_length_le (l := cells (R ++ X) z) (by rw [cells_length]; omega), cells_length, Nat.sub_self, List.drop_zero, List.nil_append] at e
        rw [← e, List.drop_take, List.drop_drop]
        congr 1
        simp only [sizeL]; omega
    obtain ⟨hx1, hx2, hx3⟩ := part1 x xs cx hcx hx
    obtain ⟨hy1, hy2, hy3⟩ := part1 y ys cy hcy hy
    obtain ⟨u, hu, hui⟩ := hpx w a cx R hx1 hx2
    obtain ⟨v, hv, hvi⟩ := hpy w a cy R hy1 hy2
    unfold Op.eqFields
    rw [if_pos hnm]
    simp only [Sem.run_bind, hu, hv, hb d R u v w hui hvi, Result.andThen_ok]
    cases b with
    | false => rfl
    | true =>
      simp only [Bool.not_true, Bool.false_eq_true, if_false, Bool.true_and]
      exact hb' d R cx cy w (by simp only [sizeL] at hcx; omega) (by simp only [sizeL] at hcy; omega) hx3 (by rw [hnn]; exact hy3)
theorem run_eqBytes {P : Program} (d : Nat) {e : TypeId} {q : IntKind} (hu : P.underlying e = some (.int q)) (hc : P.cellsOf e = 1) (w : World) : ∀ (a b : List UInt8) (i : Nat) (xs ys : Array Value), a.length = b.length → (∀ j c, a[j]? = some c → xs[i + j]? = some (byteV c)) → (∀ j c, b[j]? = some c → ys[i + j]? = some (byteV c)) →
    (Op.eqItems (d + 1) e 1 xs ys (List.range' i a.length)).run P w = .ok (decide (a = b)) w
  | [], [], i, xs, ys, _, _, _ => rfl
  | [], _ :: _, _, _, _, h, _, _ => by simp at h
  | _ :: _, [], _, _, _, h, _, _ => by simp at h
  | x :: a, y :: b, i, xs, ys, hl, hx, hy => by
    have hagg : (Go.isAgg e).run P w = .ok false w := by
      unfold Go.isAgg
      rw [Sem.run_bind, run_underlying hu]
      rfl
    have p1 : ∀ (zs : Array Value) (v : Value), zs[i * 1]? = some v → (part e zs (i * 1)).run P w = .ok v w := by
      intro zs v hv
      unfold part
      rw [Sem.run_bind, hagg]
      simp only [Result.andThen_ok, Bool.false_eq_true, if_false, hv, Sem.run_pure]
    have hx0 := p1 xs (byteV x) (by have := hx 0 x rfl; simpa using this)
    have hy0 := p1 ys (byteV y) (by have := hy 0 y rfl; simpa using this)
    have heq : (Op.equalIn (d + 1) e (byteV x) (byteV y)).run P w = .ok (decide (x = y)) w := by
      unfold byteV Op.equalIn
      rw [Sem.run_bind, run_underlying hu]
      simp only [Result.andThen_ok, if_true, Sem.run_pure]
      congr 1
      show ((x.toNat : Int) == y.toNat) = decide (x = y)
      have e1 : ((x.toNat : Int) == y.toNat) = decide ((x.toNat : Int) = y.toNat) := rfl
      rw [e1]
      exact decide_eq_decide.2 ⟨fun h => UInt8.toNat_inj.1 (by omega), fun h => by rw [h]⟩
    simp only [List.length_cons, List.range'_succ, Op.eqItems, Sem.run_bind, hx0, hy0, heq, Result.andThen_ok]
    by_cases hxy : x = y
    · subst hxy
      simp only [decide_true, Bool.not_true, Bool.false_eq_true, if_false]
      rw [run_eqBytes d hu hc w a b (i + 1) xs ys (by simpa using hl) (fun j c hj => by have := hx (j + 1) c (by simpa using hj); rw [← this]; congr 1; omega) (fun j c hj => by have := hy (j + 1) c (by simpa using hj); rw [← this]; congr 1; omega)]
      simp
    · simp [hxy]
theorem eqK_spec {P : Program} : ∀ (n : Nat) (T : TypeId) (x y : D) (k : Bool → Prop), eqTypeOK P n T = true → eqK P n T x y k → ∃ b, k b ∧ EqRun P n T x y b
  | 0, _, _, _, _, _, h => h.elim
  | n + 1, T, x, y, k, hok, h => by
    unfold eqK at h
    split at h <;> try exact h.elim
    · rename_i q hu
      split at h <;> try exact h.elim
      rename_i ka a kb b _
      obtain ⟨hk0, hk⟩ := when_iff.1 h
      have hk0 := of_decide_eq_true hk0
      subst hk0
      refine ⟨_, hk, fun d R vx vy w hx hy => ?_⟩
      rw [int_of_is hx, int_of_is hy, ← Nat.add_assoc]
      unfold Op.equalIn
      rw [Sem.run_bind, run_underlying hu]
      simp only [Result.andThen_ok, if_true, Sem.run_pure]
      rfl
    · rename_i hu
      split at h <;> try exact h.elim
      rename_i a b ha hb
      refine ⟨_, h, fun d R vx vy w hx hy => ?_⟩
      rw [boolOf_spec ha hx, boolOf_spec hb hy, ← Nat.add_assoc]
      unfold Op.equalIn
      rw [Sem.run_bind, run_underlying hu]
      simp only [Result.andThen_ok, Sem.run_pure]
      cases a <;> cases b <;> rfl
    · rename_i hu
      split at h <;> try exact h.elim
      rename_i a b _
      refine ⟨_, h, fun d R vx vy w hx hy => ?_⟩
      have h1 := hx.conc
      have h2 := hy.conc
      simp only [conc] at h1 h2
      subst h1; subst h2
      rw [← Nat.add_assoc]
      unfold Op.equalIn
      rw [Sem.run_bind, run_underlying hu]
      simp only [Result.andThen_ok, Sem.run_pure]
      rw [beq_toListBytes, bytes_eq]
    · rename_i fs hu
      split at h <;> try exact h.elim
      rename_i xs ys
      simp only [eqTypeOK, hu, Bool.and_eq_true, Bool.not_eq_true'] at hok
      obtain ⟨hst, hok⟩ := hok
      obtain ⟨b, hk, hb⟩ := eqFieldsK_spec (ok := eqTypeOK P n) (fun T x y k h1 h2 => eqK_spec n T x y k h1 h2) _ _ _ _ _ hok h
      refine ⟨b, hk, fun d R vx vy w hx hy => ?_⟩
      have h1 := hx.conc
      have h2 := hy.conc
      rw [conc_agg rfl] at h1 h2
      have hfo : P.fieldsOf T = fs := by simp [Program.fieldsOf, hu]
      rw [← h1, ← h2, ← Nat.add_assoc, run_equalIn_struct w (d + n) T _ _ (by rw [hfo]; exact hu) hst, hfo]
      have side : ∀ (zs : List D) (v : Value), Is R (.st zs) v → cells R (.st zs) = v.cells.toList → ∀ X, ((cells R (.st zs)).toArray.toList.drop 0).take (sizeL zs) = cellsL (R ++ X) zs := by
        intro zs v hz hc X
        have := hz.cells X
        rw [cells_st] at this
        rw [this, ← hc]
        simp only [List.drop_zero]
        rw [List.take_of_length_le (by rw [cells_length]; simp [size])]
      exact hb d R _ _ w (by simp [cells_length, size]) (by simp [cells_length, size]) (side xs vx hx (by have := hx.cells []; simpa using this)) (side ys vy hy (by have := hy.cells []; simpa using this))
    · rename_i m e hu
      split at h <;> try exact h.elim
      rename_i n'
      split at h <;> try exact h.elim
      rename_i q hue
      split at h <;> try exact h.elim
      rename_i m1 u m2 v
      obtain ⟨e1, h⟩ := when_iff.1 h
      obtain ⟨e2, h⟩ := when_iff.1 h
      obtain ⟨e3, hk⟩ := when_iff.1 h
      have e1 := Nat.eq_of_beq_eq_true e1
      have e2 := Nat.eq_of_beq_eq_true e2
      have e3 := Nat.eq_of_beq_eq_true e3
      subst e1; subst e2
      obtain ⟨ie, hie, _⟩ := info_of_cells (P := P) (t := e) (by omega)
      refine ⟨_, hk, fun d R vx vy w hx hy => ?_⟩
      have h1 := hx.conc
      have h2 := hy.conc
      simp only [conc] at h1 h2
      rw [← h1, ← h2, ← Nat.add_assoc, run_equalIn_array w (d + (n' + 1)) _ _ hu hie, e3]
      have := run_eqBytes (P := P) (d + n') hue e3 w u.toList v.toList 0 ((u.toList.map byteV).toArray) ((v.toList.map byteV).toArray) (by simp) (fun j c hj => by simp at hj ⊢; exact ⟨c, hj, rfl⟩) (fun j c hj => by simp at hj ⊢; exact ⟨c, hj, rfl⟩)
      rw [← List.range_eq_range'] at this
      simpa [Nat.add_assoc] using this
theorem eqAt_of {P : Program} {T : TypeId} {x y : D} {b : Bool} (hg : (P.eqGuardType P.depth T, eqTypeOK P 8 T) = (false, true)) (hx : isAgg x = true) (hy : isAgg y = true) (h : eqK P 8 T x y fun b' => b' = b) : EqAt P T x y b := by
  simp only [Prod.mk.injEq] at hg
  obtain ⟨hg, hok⟩ := hg
  obtain ⟨b', rfl, hb⟩ := eqK_spec 8 T x y _ hok h
  intro R vx vy hvx hvy w
  have h1 := hvx.conc
  have h2 := hvy.conc
  rw [conc_agg hx] at h1
  rw [conc_agg hy] at h2
  refine ⟨?_, hb 9992 R vx vy w hvx hvy⟩
  rw [← h1, ← h2]
  simp only [eqGuard, Bool.not_true, Bool.false_eq_true, if_false, Sem.run_bind, run_program, Result.andThen_ok, hg, Bool.not_false, if_true, Sem.run_pure]
end Go.Proofs.Ytdgnnboljgpcmaa.E
