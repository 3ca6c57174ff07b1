import Derived.Test.YtdgnnboljgpcmaaEngD
namespace Go.Proofs.Ytdgnnboljgpcmaa.E
open Go

def snocK (p : Path) (s : PStep) (k : Path → Prop) : Prop :=
  match p with
  | [] => k [s]
  | x :: p => snocK p s fun q => k (x :: q)
theorem snocK_iff : ∀ (p : Path) (s : PStep) (k : Path → Prop), snocK p s k ↔ k (p ++ [s])
  | [], _, _ => Iff.rfl
  | _ :: p, s, _ => snocK_iff p s _
theorem offP_append : ∀ p q : Path, offP (p ++ q) = offP p + offP q
  | [], q => by simp [offP]
  | s :: p, q => by simp [offP, offP_append p q, Nat.add_assoc]

/-- Is a type one of aggregates? -/
def aggK (P : Program) (T : TypeId) (yes no : Prop) : Prop :=
  match P.underlying T with
  | some (.struct _) => yes
  | some (.array _ _) => yes
  | some _ => no
  | none => False
def kindK (P : Program) (T : TypeId) (e : D) (k : Prop) : Prop :=
  match isAgg e with
  | true => sizeK e fun n => when (Nat.beq n (P.cellsOf T)) (aggK P T k False)
  | false => aggK P T False k

theorem add_none (b o n : Nat) : (⟨b, o, none⟩ : Addr).add n = ⟨b, o + n, none⟩ := by unfold Addr.add; split <;> simp_all
theorem run_loadVar_lies {P : Program} {T : TypeId} {e : D} {k : Prop} (h : kindK P T e k) : k ∧ ∀ (w : World) (b o : Nat) (c : Array Value) (t : TypeId) (fr : Nat × Nat) (R : Env), w.heap[b]? = some (.cells c t fr) → o + size e ≤ c.size →
    IsC R e ((c.toList.drop o).take (size e)) → ∃ v, (loadVar T ⟨b, o, none⟩).run P w = .ok v w ∧ Is R e v := by
  unfold kindK at h
  have hcell : ∀ (w : World) (b o : Nat) (c : Array Value) (t : TypeId) (fr : Nat × Nat), w.heap[b]? = some (.cells c t fr) → w.cell? ⟨b, o, none⟩ = c[o]? := by
    intro w b o c t fr hb; simp [World.cell?, hb]
  split at h
  · rename_i ha
    have h := (sizeK_iff _ _).1 h
    obtain ⟨hn, h⟩ := when_iff.1 h
    have hn := Nat.eq_of_beq_eq_true hn
    have key : (∃ d, P.underlying T = some d ∧ (match d with | .struct _ | .array _ _ => true | _ => false) = true) ∧ k := by
      unfold aggK at h
      split at h
      · rename_i hu; exact ⟨⟨_, hu, rfl⟩, h⟩
      · rename_i hu; exact ⟨⟨_, hu, rfl⟩, h⟩
      · exact h.elim
      · exact h.elim
    obtain ⟨⟨d, hu, hd⟩, hk⟩ := key
    refine ⟨hk, fun w b o c t fr R hb ho hc => ?_⟩
    have hagg : (Go.isAgg T).run P w = .ok true w := by
      unfold Go.isAgg
      rw [Sem.run_bind, run_underlying hu]
      simp only [Result.andThen_ok]
      cases d <;> simp at hd <;> rfl
    have hinfo : ∃ i, P.info? T = some i := by
      unfold Program.underlying at hu
      split at hu
      · exact ⟨_, by assumption⟩
      · exact ⟨_, by assumption⟩
      · cases hu
    obtain ⟨i, hi⟩ := hinfo
    have hsz : (sizeOf T).run P w = .ok (size e) w := by
      simp [sizeOf, typeInfo, hi, hn, Program.cellsOf]
    have hl := run_loadCells_list (P := P) (w := w) ⟨b, o, none⟩ ((c.toList.drop o).take (size e)) (fun j v hj => by
      rw [add_none, hcell w b (o + j) c t fr hb]
      have hj' := hj
      rw [List.getElem?_take] at hj
      split at hj
      · rw [List.getElem?_drop] at hj; simpa using hj
      · cases hj)
    have hlen : ((c.toList.drop o).take (size e)).length = size e := by rw [← hc.cells, cells_length]
    rw [hlen] at hl
    refine ⟨.agg ((c.toList.drop o).take (size e)).toArray, ?_, ?_⟩
    · unfold loadVar
      rw [Sem.run_bind, hagg]
      simp only [Result.andThen_ok, if_true]
      rw [Sem.run_bind, hsz]
      simp only [Result.andThen_ok]
      rw [Sem.run_bind, hl]
      rfl
    · have := hc.is
      rw [conc_agg ha, hc.cells] at this
      exact this
  · rename_i ha
    have key : (∃ d, P.underlying T = some d ∧ (match d with | .struct _ | .array _ _ => true | _ => false) = false) ∧ k := by
      unfold aggK at h
      split at h
      · exact h.elim
      · exact h.elim
      · rename_i d hs ha hu
        refine ⟨⟨_, hu, ?_⟩, h⟩
        split
        · exact absurd rfl (hs _)
        · exact absurd rfl (ha _ _)
        · rfl
      · exact h.elim
    obtain ⟨⟨d, hu, hd⟩, hk⟩ := key
    refine ⟨hk, fun w b o c t fr R hb ho hc => ?_⟩
    have hagg : (Go.isAgg T).run P w = .ok false w := by
      unfold Go.isAgg
      rw [Sem.run_bind, run_underlying hu]
      simp only [Result.andThen_ok]
      cases d <;> simp at hd <;> rfl
    rw [size_leaf ha] at ho hc
    have h0 := hc.cells
    rw [cells_leaf ha] at h0
    have hlt : o < c.size := by omega
    have hv : c[o]? = some (conc R e) := by
      have : ((c.toList.drop o).take 1)[0]? = some (conc R e) := by rw [← h0]; rfl
      rw [List.getElem?_take] at this
      simpa using this
    refine ⟨conc R e, ?_, hc.is⟩
    unfold loadVar
    rw [Sem.run_bind, hagg]
    simp only [Result.andThen_ok, Bool.false_eq_true, if_false]
    simp [load, Sem.run, hcell w b o c t fr hb, hv]

theorem is_addr {R : Env} {h b z : Nat} (hR : R[h]? = some (some (b, z))) (p : Path) : Is R (.ptr h p) (.pointer (some ⟨b, z + offP p, none⟩)) := fun X => by
  have : (R ++ X)[h]? = some (some (b, z)) := by rw [List.getElem?_append_left (List.getElem?_eq_some_iff.1 hR).1]; exact hR
  simp [conc, addrV, this]
theorem addr_of_is {R : Env} {h : Nat} {p : Path} {v : Value} {a : Addr} (hv : Is R (.ptr h p) v) (ha : v = .pointer (some a)) : ∃ b z, R[h]? = some (some (b, z)) ∧ a = ⟨b, z + offP p, none⟩ := by
  have := hv.conc
  rw [ha] at this
  simp only [conc, addrV] at this
  split at this
  · rename_i b z hR
    simp at this
    exact ⟨b, z, hR, this.symm⟩
  · simp [undef] at this

/-- The block of a handle is there. -/
def thereK (H : List SObj) (h : Nat) (k : Prop) : Prop :=
  match getH H h with
  | .var .. => k
  | .vec _ _ _ xs _ => 0 < xs.length ∧ k
  | _ => False
theorem thereK_spec {H : List SObj} {h : Nat} {k : Prop} (hk : thereK H h k) : k ∧ ∀ F R w, R.length = H.length → Sat (star (hpH R R H) F) w → ∃ b z, R[h]? = some (some (b, z)) := by
  unfold thereK at hk
  split at hk <;> try exact hk.elim
  · rename_i t x ho
    refine ⟨hk, fun F R w hl hs => ?_⟩
    have hH := getH_some H h (by rw [ho]; simp)
    rw [ho] at hH
    have hlt := (List.getElem?_eq_some_iff.1 hH).1
    have hR : R[h]? = some R[h] := by simp
    obtain ⟨f, hf, b, cs, hb1, -, -⟩ := (hs.left.mono (hpH_get R R H h _ _ hR hH)).left
    rw [hb1] at hR
    exact ⟨b, 0, hR⟩
  · rename_i t s α enc xs cap ho
    refine ⟨hk.2, fun F R w hl hs => ?_⟩
    have hH := getH_some H h (by rw [ho]; simp)
    rw [ho] at hH
    have hlt := (List.getElem?_eq_some_iff.1 hH).1
    have hR : R[h]? = some R[h] := by simp
    obtain ⟨f, hf, hb⟩ := (hs.left.mono (hpH_get R R H h _ _ hR hH)).left
    rcases hb with ⟨_, hb, _⟩ | ⟨b, z, cs, pre, rest, hb1, -⟩
    · subst hb; simp at hk
    · rw [hb1] at hR
      exact ⟨b, z, hR⟩

/-! ### Addresses, loads -/
def fieldAddrK (P : Program) (S : TypeId) (x : D) (i : Nat) (k : D → Prop) : Prop :=
  match x with
  | .ptr h p => match P.underlying S with
    | some (.struct fs) => match fs.toList[i]? with
      | some ⟨_, ty, off, _, _, _, _⟩ => when (Nat.ble 1 (P.cellsOf ty)) (snocK p (.fld i off) fun q => k (.ptr h q))
      | none => False
    | _ => False
  | .val v => match v with
    | .pointer (some ⟨b, o, none⟩) => match P.underlying S with
      | some (.struct fs) => match fs.toList[i]? with
        | some ⟨_, ty, off, _, _, _, _⟩ => when (Nat.ble 1 (P.cellsOf ty)) (k (.val (.pointer (some ⟨b, o + off, none⟩))))
        | none => False
      | _ => False
    | _ => False
  | _ => False

theorem info_of_cells {P : Program} {t : TypeId} (h : 1 ≤ P.cellsOf t) : ∃ i, P.info? t = some i ∧ i.size = P.cellsOf t := by
  unfold Program.cellsOf at *
  cases hi : P.info? t with
  | none => simp [hi] at h
  | some i => exact ⟨i, rfl, by simp⟩
theorem run_sizeOf' {P : Program} {t : TypeId} (h : 1 ≤ P.cellsOf t) (w : World) : (sizeOf t).run P w = .ok (P.cellsOf t) w := by
  obtain ⟨i, hi, hs⟩ := info_of_cells h
  simp [sizeOf, typeInfo, hi, hs]

theorem fieldAddrK_spec {P : Program} {S : TypeId} {x : D} {i : Nat} {k : D → Prop} (h : fieldAddrK P S x i k) : ∃ d, isJunk d = false ∧ k d ∧
    ∀ R w vx, Is R x vx → ∀ a, vx = .pointer (some a) → ∃ v, (Instr.fieldAt S vx i).run P w = .ok v w ∧ Is R d v := by
  unfold fieldAddrK at h
  split at h <;> try exact h.elim
  · rename_i hh p
    split at h <;> try exact h.elim
    rename_i fs hu
    split at h <;> try exact h.elim
    rename_i nm ty off e1 e2 e3 e4 hf
    obtain ⟨hz, h⟩ := when_iff.1 h
    have hz := Nat.le_of_ble_eq_true hz
    refine ⟨_, rfl, (snocK_iff _ _ _).1 h, fun R w vx hx a ha => ?_⟩
    obtain ⟨b, z, hR, rfl⟩ := addr_of_is hx ha
    subst ha
    refine ⟨_, ?_, is_addr hR _⟩
    have hf' : fs[i]? = some ⟨nm, ty, off, e1, e2, e3, e4⟩ := by simpa using hf
    unfold Instr.fieldAt
    rw [Sem.run_bind, run_underlying hu]
    simp only [Result.andThen_ok, hf']
    have hz0 : P.cellsOf ty ≠ 0 := by omega
    simp [Instr.sureAddr, fieldPlace, run_sizeOf' hz, add_none, offP_append, offP, PStep.off, Nat.add_assoc, hz0]
  · split at h <;> try exact h.elim
    rename_i b o
    split at h <;> try exact h.elim
    rename_i fs hu
    split at h <;> try exact h.elim
    rename_i nm ty off e1 e2 e3 e4 hf
    obtain ⟨hz, h⟩ := when_iff.1 h
    have hz := Nat.le_of_ble_eq_true hz
    refine ⟨_, rfl, h, fun R w vx hx a ha => ⟨_, ?_, fun _ => rfl⟩⟩
    have := hx.conc
    simp only [conc, one] at this
    subst this
    have hf' : fs[i]? = some ⟨nm, ty, off, e1, e2, e3, e4⟩ := by simpa using hf
    unfold Instr.fieldAt
    rw [Sem.run_bind, run_underlying hu]
    simp only [Result.andThen_ok, hf']
    have hz0 : P.cellsOf ty ≠ 0 := by omega
    simp [Instr.sureAddr, fieldPlace, run_sizeOf' hz, add_none, one, hz0]
def indexAddrK (P : Program) (H : List SObj) (T : TypeId) (x i : D) (k : D → Prop) : Prop :=
  match i with
  | .int _ i => match x with
    | .slc h p s lo len _ => match P.underlying T with
      | some (.slice e) => when (Nat.ble 1 s) (when (Nat.beq s (P.cellsOf e)) ((0 ≤ i ∧ i < len) ∧ thereK H h (snocK p (.ix (lo + i.toNat) s) fun q => k (.ptr h q))))
      | _ => False
    | .ptr h p => match P.underlying T with
      | some (.array n e) => when (Nat.ble 1 (P.cellsOf e)) ((0 ≤ i ∧ i < n) ∧ snocK p (.ix i.toNat (P.cellsOf e)) fun q => k (.ptr h q))
      | _ => False
    | .val v => match v with
      | .slice (some ⟨b, o, none⟩) len _ => match P.underlying T with
        | some (.slice e) => when (Nat.ble 1 (P.cellsOf e)) ((0 ≤ i ∧ i < len) ∧ k (.val (.pointer (some ⟨b, o + i.toNat * P.cellsOf e, none⟩))))
        | _ => False
      | _ => False
    | _ => False
  | _ => False
theorem int_of_is {R : Env} {q : IntKind} {n : Int} {v : Value} (h : Is R (.int q n) v) : v = .int q n := h.conc.symm
theorem slice_of_is {R : Env} {h s lo len cap b z : Nat} {p : Path} {v : Value} (hv : Is R (.slc h p s lo len cap) v) (hR : R[h]? = some (some (b, z))) :
    v = .slice (some ⟨b, z + (offP p + lo * s), none⟩) len cap := by
  have := hv.conc
  simp only [conc, sliceV, hR] at this
  exact this.symm
theorem indexAddrK_spec {P : Program} {H : List SObj} {T : TypeId} {x i : D} {k : D → Prop} (h : indexAddrK P H T x i k) : ∃ d, isJunk d = false ∧ k d ∧
    ∀ F R w vx vi, R.length = H.length → Sat (star (hpH R R H) F) w → Is R x vx → Is R i vi → (∀ hh p, x = .ptr hh p → ∃ a, vx = .pointer (some a)) →
      ∃ v, (Instr.indexAt T vx vi).run P w = .ok v w ∧ Is R d v := by
  unfold indexAddrK at h
  split at h <;> try exact h.elim
  rename_i q i
  split at h <;> try exact h.elim
  · rename_i hh p s lo len cap
    split at h <;> try exact h.elim
    rename_i e hu
    obtain ⟨hz, h⟩ := when_iff.1 h
    obtain ⟨hs, hi, h⟩ := when_iff.1 h
    have hz := Nat.le_of_ble_eq_true hz
    have hs := Nat.eq_of_beq_eq_true hs
    obtain ⟨hk, ht⟩ := thereK_spec h
    refine ⟨_, rfl, (snocK_iff _ _ _).1 hk, fun F R w vx vi hl hsat hx hvi _ => ?_⟩
    obtain ⟨b, z, hR⟩ := ht F R w hl hsat
    have := slice_of_is hx hR
    subst this
    have := int_of_is hvi
    subst this
    refine ⟨_, ?_, is_addr hR _⟩
    simp only [Instr.indexAt, asIntOf, Sem.run_bind, Sem.run_pure, Result.andThen_ok, run_underlying hu]
    rw [if_pos hi]
    simp only [Sem.run_bind, run_sizeOf' (by omega : 1 ≤ P.cellsOf e), Result.andThen_ok, Sem.run_pure, add_none, offP_append, offP, PStep.off, ← hs, Nat.add_zero, Nat.add_mul, Nat.add_assoc]
  · rename_i hh p
    split at h <;> try exact h.elim
    rename_i n e hu
    obtain ⟨hz, hi, h⟩ := when_iff.1 h
    have hz := Nat.le_of_ble_eq_true hz
    refine ⟨_, rfl, (snocK_iff _ _ _).1 h, fun F R w vx vi _ _ hx hvi hp => ?_⟩
    obtain ⟨a, ha⟩ := hp hh p rfl
    obtain ⟨b, z, hR, rfl⟩ := addr_of_is hx ha
    subst ha
    have := int_of_is hvi
    subst this
    refine ⟨_, ?_, is_addr hR _⟩
    simp only [Instr.indexAt, Instr.sureAddr, asIntOf, Sem.run_bind, Sem.run_pure, Result.andThen_ok, run_underlying hu]
    rw [if_pos hi]
    simp only [Sem.run_bind, run_sizeOf' hz, Result.andThen_ok, Sem.run_pure, add_none, offP_append, offP, PStep.off, Nat.add_zero, Nat.add_assoc]
  · split at h <;> try exact h.elim
    rename_i b o len cap
    split at h <;> try exact h.elim
    rename_i e hu
    obtain ⟨hz, hi, h⟩ := when_iff.1 h
    have hz := Nat.le_of_ble_eq_true hz
    refine ⟨_, rfl, h, fun F R w vx vi _ _ hx hvi _ => ⟨_, ?_, fun _ => rfl⟩⟩
    have := int_of_is hvi
    subst this
    have := hx.conc
    simp only [conc, one] at this
    subst this
    simp only [Instr.indexAt, asIntOf, Sem.run_bind, Sem.run_pure, Result.andThen_ok, run_underlying hu]
    rw [if_pos hi]
    simp only [Sem.run_bind, run_sizeOf' hz, Result.andThen_ok, Sem.run_pure, add_none, one]

/-! ### One-place operators, conversions between integers -/
def unK (op : UnOp) (x : D) (k : D → Prop) : Prop :=
  match op, x with
  | .not, .tt => k .ff
  | .not, .ff => k .tt
  | .not, .bool b => k (.bool !b)
  | .xor, .int q n => k (.int q (inot q n))
  | .neg, .int q n => k (.int q (q.wrap (0 - n)))
  | _, _ => False
theorem unK_spec {P : Program} {op : UnOp} {x : D} {k : D → Prop} (h : unK op x k) : ∃ d, isJunk d = false ∧ k d ∧ ∀ R w vx, Is R x vx → ∃ v, (Op.unary op vx).run P w = .ok v w ∧ Is R d v := by
  unfold unK at h
  split at h <;> try exact h.elim
  all_goals exact ⟨_, rfl, h, fun R w vx hx => by
    have := hx.conc
    simp only [conc] at this
    subst this
    exact ⟨_, rfl, fun _ => rfl⟩⟩

def convIntK (P : Program) (src dst : TypeId) (x : D) (k : D → Prop) : Prop :=
  match x with
  | .int _ n => match P.underlying dst with
    | some (.int q) => match P.underlying src with
      | some _ => k (.int q (q.wrap n))
      | none => False
    | _ => False
  | _ => False
theorem convIntK_spec {P : Program} {src dst : TypeId} {x : D} {k : D → Prop} (h : convIntK P src dst x k) : ∃ d, isJunk d = false ∧ k d ∧ ∀ R w vx, Is R x vx → ∃ v, (convert src dst vx).run P w = .ok v w ∧ Is R d v := by
  unfold convIntK at h
  split at h <;> try exact h.elim
  rename_i q n
  split at h <;> try exact h.elim
  rename_i q' hd
  split at h <;> try exact h.elim
  rename_i d hs
  exact ⟨_, rfl, h, fun R w vx hx => by
    have := int_of_is hx
    subst this
    refine ⟨.int q' (q'.wrap n), ?_, fun _ => rfl⟩
    unfold convert
    rw [Sem.run_bind, run_underlying hs]
    simp only [Result.andThen_ok]
    rw [Sem.run_bind, run_underlying hd]
    simp only [Result.andThen_ok]
    rfl⟩

/-! ### Parts of values -/
def extractK : List D → Nat → (D → Prop) → Prop
  | [], _, _ => False
  | d :: _, 0, k => known d k
  | _ :: ds, i + 1, k => extractK ds i k
theorem concL_get (R : Env) : ∀ (ds : List D) (i : Nat), (concL R ds)[i]? = (ds[i]?).map (conc R)
  | [], i => by simp [concL]
  | d :: ds, 0 => by simp [concL]
  | d :: ds, i + 1 => by simpa [concL] using concL_get R ds i
theorem extractK_spec : ∀ (ds : List D) (i : Nat) (k : D → Prop), extractK ds i k → ∃ d, isJunk d = false ∧ k d ∧ ds[i]? = some d
  | [], _, _, h => h.elim
  | d :: _, 0, k, h => by obtain ⟨hj, hk⟩ := (known_iff _ _).1 h; exact ⟨d, hj, hk, rfl⟩
  | _ :: ds, i + 1, k, h => by simpa using extractK_spec ds i k h
theorem run_extract {P : Program} {R : Env} {ds : List D} {i : Nat} {d : D} {vx : Value} (hd : ds[i]? = some d) (hx : Is R (.tup ds) vx) (w : World) :
    ∃ v, (Instr.extract vx i).run P w = .ok v w ∧ Is R d v := by
  have h0 := hx.conc
  simp only [conc] at h0
  subst h0
  refine ⟨conc R d, ?_, fun X => ?_⟩
  · have : (concL R ds).toArray[i]? = some (conc R d) := by simp [concL_get, hd]
    simp only [Instr.extract, this, Sem.run_pure]
  · have h1 := hx X
    simp only [conc] at h1
    have h2 : (concL (R ++ X) ds)[i]? = (concL R ds)[i]? := by rw [show concL (R ++ X) ds = concL R ds by simpa using h1]
    rw [concL_get, concL_get, hd] at h2
    simpa using h2

/-- A field of a value. -/
def fieldK (P : Program) (S : TypeId) (x : D) (i : Nat) (k : D → Prop) : Prop :=
  match P.underlying S with
  | some (.struct fs) => match fs.toList[i]? with
    | some ⟨_, ty, off, _, _, _, _⟩ => navK [.fld i off] x fun e => kindK P ty e (k e)
    | none => False
  | _ => False
/-- 'kindK' for a part of an aggregate. -/
theorem run_part_lies {P : Program} {T : TypeId} {e : D} {k : Prop} (h : kindK P T e k) : k ∧ ∀ (w : World) (o : Nat) (c : Array Value) (R : Env), o + size e ≤ c.size →
    IsC R e ((c.toList.drop o).take (size e)) → ∃ v, (part T c o).run P w = .ok v w ∧ Is R e v := by
  unfold kindK at h
  split at h
  · rename_i ha
    have h := (sizeK_iff _ _).1 h
    obtain ⟨hn, h⟩ := when_iff.1 h
    have hn := Nat.eq_of_beq_eq_true hn
    have key : (∃ d, P.underlying T = some d ∧ (match d with | .struct _ | .array _ _ => true | _ => false) = true) ∧ k := by
      unfold aggK at h
      split at h
      · rename_i hu; exact ⟨⟨_, hu, rfl⟩, h⟩
      · rename_i hu; exact ⟨⟨_, hu, rfl⟩, h⟩
      · exact h.elim
      · exact h.elim
    obtain ⟨⟨d, hu, hd⟩, hk⟩ := key
    refine ⟨hk, fun w o c R ho hc => ?_⟩
    have hagg : (Go.isAgg T).run P w = .ok true w := by
      unfold Go.isAgg
      rw [Sem.run_bind, run_underlying hu]
      simp only [Result.andThen_ok]
      cases d <;> simp at hd <;> rfl
    have hinfo : ∃ i, P.info? T = some i := by
      unfold Program.underlying at hu
      split at hu
      · exact ⟨_, by assumption⟩
      · exact ⟨_, by assumption⟩
      · cases hu
    obtain ⟨i, hi⟩ := hinfo
    have hsz : (sizeOf T).run P w = .ok (size e) w := by
      simp [sizeOf, typeInfo, hi, hn, Program.cellsOf]
    refine ⟨.agg ((c.toList.drop o).take (size e)).toArray, ?_, ?_⟩
    · unfold part
      rw [Sem.run_bind, hagg]
      simp only [Result.andThen_ok, if_true]
      rw [Sem.run_bind, hsz]
      simp only [Result.andThen_ok, Sem.run_pure]
      congr 2
      apply Array.ext'
      simp [Array.toList_extract, List.extract_eq_take_drop]
    · have := hc.is
      rw [conc_agg ha, hc.cells] at this
      exact this
  · rename_i ha
    have key : (∃ d, P.underlying T = some d ∧ (match d with | .struct _ | .array _ _ => true | _ => false) = false) ∧ k := by
      unfold aggK at h
      split at h
      · exact h.elim
      · exact h.elim
      · rename_i d hs ha hu
        refine ⟨⟨_, hu, ?_⟩, h⟩
        split
        · exact absurd rfl (hs _)
        · exact absurd rfl (ha _ _)
        · rfl
      · exact h.elim
    obtain ⟨⟨d, hu, hd⟩, hk⟩ := key
    refine ⟨hk, fun w o c R ho hc => ?_⟩
    have hagg : (Go.isAgg T).run P w = .ok false w := by
      unfold Go.isAgg
      rw [Sem.run_bind, run_underlying hu]
      simp only [Result.andThen_ok]
      cases d <;> simp at hd <;> rfl
    rw [size_leaf ha] at ho hc
    have h0 := hc.cells
    rw [cells_leaf ha] at h0
    have hv : c[o]? = some (conc R e) := by
      have : ((c.toList.drop o).take 1)[0]? = some (conc R e) := by rw [← h0]; rfl
      rw [List.getElem?_take] at this
      simpa using this
    refine ⟨conc R e, ?_, hc.is⟩
    unfold part
    rw [Sem.run_bind, hagg]
    simp only [Result.andThen_ok, Bool.false_eq_true, if_false, hv, Sem.run_pure]
theorem fieldK_spec {P : Program} {S : TypeId} {x : D} {i : Nat} {k : D → Prop} (h : fieldK P S x i k) : ∃ d, k d ∧ ∀ R w vx, Is R x vx → ∃ v, (Instr.field S vx i).run P w = .ok v w ∧ Is R d v := by
  unfold fieldK at h
  split at h <;> try exact h.elim
  rename_i fs hu
  split at h <;> try exact h.elim
  rename_i nm ty off e1 e2 e3 e4 hf
  have hag : isAgg x = true := by
    cases x <;> simp only [navK] at h <;> try exact h.elim
    rfl
  obtain ⟨e, he, hk⟩ := navK_spec _ _ _ h
  obtain ⟨hk, hr⟩ := run_part_lies hk
  refine ⟨e, hk, fun R w vx hx => ?_⟩
  have hc : IsC R x (cells R x) := fun X => by
    have := hx X
    rw [conc_agg hag] at this
    have h0 := hx.conc
    rw [conc_agg hag] at h0
    rw [← h0] at this
    simpa using this
  obtain ⟨hp1, hp2⟩ := isC_part hc he
  have h0 := hx.conc
  rw [conc_agg hag] at h0
  subst h0
  obtain ⟨v, hv, hi⟩ := hr w off (cells R x).toArray R (by simpa [offP, PStep.off] using hp1) (by simpa [offP, PStep.off] using hp2)
  refine ⟨v, ?_, hi⟩
  have hf' : fs[i]? = some ⟨nm, ty, off, e1, e2, e3, e4⟩ := by simpa using hf
  unfold Instr.field
  rw [Sem.run_bind, run_underlying hu]
  simp only [Result.andThen_ok, hf']
  rw [Sem.run_bind]
  simp only [asAgg, Sem.run_pure, Result.andThen_ok]
  exact hv
end Go.Proofs.Ytdgnnboljgpcmaa.E
