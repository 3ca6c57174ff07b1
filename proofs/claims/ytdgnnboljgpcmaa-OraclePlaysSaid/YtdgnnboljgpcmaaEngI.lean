import Derived.Test.YtdgnnboljgpcmaaEngH
import Derived.Laws.AppendOwn
import Derived.Laws.MakeOwn
import Derived.Laws.OwnMore
namespace Go.Proofs.Ytdgnnboljgpcmaa.E
open Go

/-! ### Operations that make or write memory -/
/-- What an operation does: in every such memory, from slots of which this is known, it yields what 'd' tells, and leaves the memory as H' tells. -/
def Does (P : Program) (ts : List D) (H : List SObj) (o : Oper) (d : D) (H' : List SObj) : Prop :=
  ∀ F R (a : Act) w, R.length = H.length → Slots R ts a.tmps.toList → Sat (star (hpH R R H) F) w → ∃ X w', (R ++ X).length = H'.length ∧ Sat (star (hpH (R ++ X) (R ++ X) H') F) w' ∧ Same w w' ∧
    ((∃ v, (execOp a.eval o).run P w = .ok (.value v) w' ∧ (isJunk d = true ∨ Is (R ++ X) d v)) ∨ ((execOp a.eval o).run P w = .ok .skip w' ∧ isJunk d = true))

theorem sat_push {R X : Env} {H : List SObj} {F : HP} {w w' : World} {o : SObj} {ob : Option (Nat × Nat)} (hX : X = [ob]) (hl : R.length = H.length) (hs : Sat (star (hpH R R H) F) w) (hk : ∀ k, k < w.heap.size → w'.heap[k]? = w.heap[k]?)
    (ho : ∀ A, Sat A w → (∀ k, k < w.heap.size → w'.heap[k]? = w.heap[k]?) → Sat (star (hpO (R ++ X) ob o) A) w') : Sat (star (hpH (R ++ X) (R ++ X) (H ++ [o])) F) w' := by
  subst hX
  have h1 := ho _ hs hk
  have h2 : Imp (star (hpO (R ++ [ob]) ob o) (star (hpH R R H) F)) (star (hpH (R ++ [ob]) (R ++ [ob]) (H ++ [o])) F) :=
    (star_assoc' _ _ _).trans (star_mono ((star_mono (Imp.refl _) (hpH_ext R [ob] R H)).trans (hpH_push _ R H ob o hl)) (Imp.refl F))
  exact h1.mono h2

theorem sat_new {R : Env} {H : List SObj} {F : HP} {w w' : World} {o : SObj} {obj : Obj} (hl : R.length = H.length) (hs : Sat (star (hpH R R H) F) w) (hn : w'.heap[w.heap.size]? = some obj) (hk : ∀ k, k < w.heap.size → w'.heap[k]? = w.heap[k]?)
    (ho : ∀ f : Frag, f w.heap.size = some obj → hpO (R ++ [some (w.heap.size, 0)]) (some (w.heap.size, 0)) o f) : Sat (star (hpH (R ++ [some (w.heap.size, 0)]) (R ++ [some (w.heap.size, 0)]) (H ++ [o])) F) w' := by
  exact sat_push rfl hl hs hk (fun A hA hk => (hA.alloc hn hk).mono (star_mono (fun f hf => ho f hf) (Imp.refl _)))

def newVarK (H : List SObj) (T : TypeId) (d : D) (k : D → List SObj → Prop) : Prop := pushHK H (.var T d) fun H' => E.lenK H 0 fun n => k (.ptr n []) H'
theorem newVarK_iff {H : List SObj} {T : TypeId} {d : D} {k : D → List SObj → Prop} (h : newVarK H T d k) : k (.ptr H.length []) (H ++ [.var T d]) := by
  have h := pushHK_iff _ _ _ h
  simpa using (lenK_iff _ _ _).1 h
def allocK (Z : TypeId → D) (H : List SObj) (T : TypeId) (k : D → List SObj → Prop) : Prop := known (Z T) fun z => newVarK H T z k

theorem alloc_heap_new (w : World) (o : Obj) : (w.alloc o).heap[w.heap.size]? = some o := by
  show (w.heap.push o)[w.heap.size]? = some o
  simp
theorem alloc_heap_old (w : World) (o : Obj) (k : Nat) (hk : k < w.heap.size) : (w.alloc o).heap[k]? = w.heap[k]? := by
  show (w.heap.push o)[k]? = _
  rw [Array.getElem?_push, if_neg (by omega)]
theorem same_alloc (w : World) (o : Obj) : Same w (w.alloc o) := ⟨rfl, rfl, rfl, by show w.heap.size ≤ (w.heap.push o).size; simp⟩

theorem newVar_does {P : Program} {ts : List D} {H : List SObj} {T : TypeId} {d : D} {o : Oper} (hrun : ∀ (a : Act) (R : Env), Slots R ts a.tmps.toList → ∃ v, Is R d v ∧ ∀ w, (execOp a.eval o).run P w = .ok (.value (.pointer (some ⟨w.heap.size, 0, none⟩))) (w.alloc (.cells v.cells T))) :
    Does P ts H o (.ptr H.length []) (H ++ [.var T d]) := by
  intro F R a w hl hsl hs
  obtain ⟨v, hv, hr⟩ := hrun a R hsl
  refine ⟨[some (w.heap.size, 0)], w.alloc (.cells v.cells T), by simp [hl], ?_, same_alloc _ _, .inl ⟨_, hr w, .inr ?_⟩⟩
  · exact sat_new hl hs (alloc_heap_new w _) (alloc_heap_old w _) (fun f hf => ⟨_, v.cells.toList, rfl, (hv.ext _).isC, by rw [hf]⟩)
  · have := is_addr (R := R ++ [some (w.heap.size, 0)]) (h := H.length) (b := w.heap.size) (z := 0) (by rw [← hl]; simp) []
    exact this

theorem run_newVar {P : Program} (T : TypeId) (v : Value) (w : World) : (newVar T v).run P w = .ok ⟨w.heap.size, 0, none⟩ (w.alloc (.cells v.cells T)) := by
  rfl

def boxK (ts : List D) (H : List SObj) (T : TypeId) (x : Operand) (k : D → List SObj → Prop) : Prop := valK ts x fun d => newVarK H T d k

/-- What may be stored into cells, whatever the memory. -/
def StorD (d : D) : Prop := ∀ R v, Is R d v → ∀ u ∈ v.cells.toList, u.oneCell' = true
/-- An encoding all of whose values take s cells and may be stored. -/
structure EncOK (s : Nat) {α : Type} (enc : α → D) : Prop where
  size : ∀ x, E.size (enc x) = s
  stor : ∀ x, StorD (enc x)
mutual
/-- What may be stored into cells. -/
def storK (H : List SObj) : D → Prop → Prop
  | .tt, k | .ff, k | .bool _, k | .int .., k | .str _, k | .nilp, k | .nils, k | .nilm, k | .fn .., k | .nilf, k | .nili, k | .ifc .., k | .bytes .., k => k
  | .ptr h p, k => nonNilK H (.ptr h p) k
  | .slc .., k => k
  | .mapr h, k => match getH H h with
    | .mp .. => k
    | _ => False
  | .val v, k => match v with
    | .agg _ => False
    | .tuple _ => False
    | _ => k
  | .arr s _ enc _, k => EncOK s enc ∧ k
  | .st ds, k => storLK H ds k
  | .junk, _ | .tup _, _ => False
def storLK (H : List SObj) : List D → Prop → Prop
  | [], k => k
  | d :: ds, k => storK H d (storLK H ds k)
end
theorem stor_leaf {d : D} {R : Env} {v : Value} (hv : Is R d v) (ha : isAgg d = false) (h1 : v.oneCell' = true) : ∀ u ∈ v.cells.toList, u.oneCell' = true := by
  intro u hu
  rw [← hv.conc, leaf_cells (conc_ne ha R), List.mem_singleton, hv.conc] at hu
  rw [hu]; exact h1
mutual
theorem storK_spec {H : List SObj} : ∀ (d : D) (k : Prop), storK H d k → k ∧ ∀ F R w v, R.length = H.length → Sat (star (hpH R R H) F) w → Is R d v → ∀ u ∈ v.cells.toList, u.oneCell' = true
  | .tt, k, h | .ff, k, h | .bool _, k, h | .int .., k, h | .str _, k, h | .nilp, k, h | .nils, k, h | .nilm, k, h | .fn .., k, h | .nilf, k, h | .nili, k, h | .ifc .., k, h => by
    simp only [storK] at h
    exact ⟨h, fun F R w v hlen hs hv => stor_leaf hv rfl (by rw [← hv.conc]; rfl)⟩
  | .ptr hh p, k, h => by
    simp only [storK] at h
    obtain ⟨hl, hk⟩ := nonNilK_spec h
    refine ⟨hk, fun F R w v hlen hs hv => stor_leaf hv rfl ?_⟩
    obtain ⟨a, rfl⟩ := hl F R w hlen hs v hv
    rfl
  | .slc hh p s lo len cap, k, h => by
    simp only [storK] at h
    refine ⟨h, fun F R w v hlen hs hv => stor_leaf hv rfl ?_⟩
    rcases slice_cases hv with ⟨b, z, -, rfl⟩ | ⟨-, rfl⟩ <;> rfl
  | .mapr hh, k, h => by
    simp only [storK] at h
    split at h <;> try exact h.elim
    rename_i κ β dec ke ve m ho
    refine ⟨h, fun F R w v hlen hs hv => stor_leaf hv rfl ?_⟩
    have hH := getH_some H hh (by rw [ho]; simp)
    rw [ho] at hH
    have hlt := (List.getElem?_eq_some_iff.1 hH).1
    have hR : R[hh]? = some R[hh] := by simp
    obtain ⟨f, hf, b, es, clock, hb1, -⟩ := (hs.left.mono (hpH_get R R H hh _ _ hR hH)).left
    rw [hb1] at hR
    rw [← hv.conc]
    simp [conc, mapV, hR, Value.oneCell']
  | .val u, k, h => by
    simp only [storK] at h
    cases u <;> simp only at h <;> try exact h.elim
    all_goals exact ⟨h, fun F R w v hlen hs hv => stor_leaf hv rfl (by rw [← hv.conc]; rfl)⟩
  | .bytes m v, k, h => by
    simp only [storK] at h
    refine ⟨h, fun F R w u hlen hs hv x hx => ?_⟩
    rw [← hv.conc] at hx
    simp [conc, Value.cells, byteV] at hx
    obtain ⟨c, -, rfl⟩ := hx
    rfl
  | .arr s m enc xs, k, h => by
    simp only [storK] at h
    refine ⟨h.2, fun F R w u hlen hs hv x hx => ?_⟩
    have hc : IsC R (.arr s m enc xs) u.cells.toList := hv.isC
    rw [← hc.cells, cells_arr, List.mem_flatMap] at hx
    obtain ⟨y, hy, hx⟩ := hx
    obtain ⟨j, hj, rfl⟩ := List.getElem_of_mem hy
    rw [fit_self (by rw [cells_length, h.1.size])] at hx
    have hv' : xs[j]? = some xs.toList[j] := by simp at hj ⊢
    have := (isC_part hc (partAt_arr hv' (h.1.size _))).2
    exact h.1.stor _ R _ this.is x hx
  | .st ds, k, h => by
    simp only [storK] at h
    obtain ⟨hk, hc⟩ := storLK_spec ds k h
    refine ⟨hk, fun F R w v hlen hs hv x hx => ?_⟩
    exact hc F R w v.cells.toList hlen hs (fun X => by rw [← cells_st]; exact hv.cells X) x hx
  | .junk, k, h => by simp only [storK] at h
  | .tup _, k, h => by simp only [storK] at h
theorem storLK_spec {H : List SObj} : ∀ (ds : List D) (k : Prop), storLK H ds k → k ∧ ∀ F R w cs, R.length = H.length → Sat (star (hpH R R H) F) w → (∀ X, cellsL (R ++ X) ds = cs) → ∀ u ∈ cs, u.oneCell' = true
  | [], k, h => ⟨by simpa [storLK] using h, fun F R w cs _ _ hc u hu => by have := hc []; simp [cellsL] at this; subst this; simp at hu⟩
  | d :: ds, k, h => by
    simp only [storLK] at h
    obtain ⟨h2, hd⟩ := storK_spec d _ h
    obtain ⟨hk, hds⟩ := storLK_spec ds _ h2
    refine ⟨hk, fun F R w cs hlen hs hc u hu => ?_⟩
    have e1 : ∀ X, cells (R ++ X) d = cs.take (size d) := fun X => by rw [← hc X, cellsL_cons, List.take_append_of_le_length (by rw [cells_length]; omega), List.take_of_length_le (by rw [cells_length]; omega)]
    have e2 : ∀ X, cellsL (R ++ X) ds = cs.drop (size d) := fun X => by rw [← hc X, cellsL_cons, List.drop_append, List.drop_of_length_le (by rw [cells_length]; omega), cells_length, Nat.sub_self]; rfl
    rw [← List.take_append_drop (size d) cs, List.mem_append] at hu
    rcases hu with hu | hu
    · have hi : IsC R d (cs.take (size d)) := e1
      exact hd F R w _ hlen hs hi.is u (by rw [show (conc R d).cells.toList = cells R d from rfl, hi.cells]; exact hu)
    · exact hds F R w _ hlen hs e2 u hu
end

/-! ### A chunk taken out, turned, and laid back -/
theorem chunk_var {R : Env} {H : List SObj} {F : HP} {w : World} {h : Nat} {t : TypeId} {x : D} (ho : getH H h = .var t x) (hl : R.length = H.length) (hs : Sat (star (hpH R R H) F) w) :
    h < H.length ∧ ∃ b cs, R[h]? = some (some (b, 0)) ∧ IsC R x cs ∧ Sat (star (pt b (.cells cs.toArray t (0, 0))) (star (hpH R R (H.set h .gone)) F)) w := by
  have hH := getH_some H h (by rw [ho]; simp)
  rw [ho] at hH
  have hlt := (List.getElem?_eq_some_iff.1 hH).1
  have hR : R[h]? = some R[h] := by simp
  refine ⟨hlt, ?_⟩
  obtain ⟨f, hf, g, r, gf, rf, gr, ⟨b, cs, h1, h2, h3⟩, hr⟩ := hs.mono ((star_mono (hpH_get R R H h _ _ hR hH) (Imp.refl F)).trans (star_assoc _ _ _))
  rw [h1] at hR
  exact ⟨b, cs, hR, h2, f, hf, g, r, gf, rf, gr, h3, hr⟩
theorem chunk_vec {R : Env} {H : List SObj} {F : HP} {w : World} {h : Nat} {t : TypeId} {s : Nat} {α : Type} {enc : α → D} {xs : List α} {cap : Nat} (ho : getH H h = .vec t s enc xs cap) (hl : R.length = H.length) (hs : Sat (star (hpH R R H) F) w) :
    h < H.length ∧ ((R[h]? = some none ∧ xs = [] ∧ cap = 0) ∨ ∃ b z cs pre rest, R[h]? = some (some (b, z)) ∧ IsF R s enc xs cs ∧ (cs ++ rest).length = cap * s ∧ pre.length = z ∧
      Sat (star (pt b (.cells (pre ++ cs ++ rest).toArray t (0, 0))) (star (hpH R R (H.set h .gone)) F)) w) := by
  have hH := getH_some H h (by rw [ho]; simp)
  rw [ho] at hH
  have hlt := (List.getElem?_eq_some_iff.1 hH).1
  have hR : R[h]? = some R[h] := by simp
  refine ⟨hlt, ?_⟩
  obtain ⟨f, hf, g, r, gf, rf, gr, hg, hr⟩ := hs.mono ((star_mono (hpH_get R R H h _ _ hR hH) (Imp.refl F)).trans (star_assoc _ _ _))
  rcases hg with ⟨h1, h2, h3⟩ | ⟨b, z, cs, pre, rest, h1, h2, h3, h4, h5⟩
  · rw [h1] at hR
    exact .inl ⟨hR, h2, h3⟩
  · rw [h1] at hR
    exact .inr ⟨b, z, cs, pre, rest, hR, h2, h3, h4, f, hf, g, r, gf, rf, gr, h5, hr⟩
theorem chunk_back {R : Env} {H : List SObj} {F : HP} {w : World} {h b : Nat} {obj : Obj} {o : SObj} {ob : Option (Nat × Nat)} (hlt : h < H.length) (hR : R[h]? = some ob) (ho : ∀ f : Frag, f b = some obj → hpO R ob o f)
    (hs : Sat (star (pt b obj) (star (hpH R R (H.set h .gone)) F)) w) : Sat (star (hpH R R (H.set h o)) F) w :=
  hs.mono ((star_mono (fun f hf => ho f hf) (Imp.refl _)).trans ((star_assoc' _ _ _).trans (star_mono (hpH_put R R H h ob o hR hlt) (Imp.refl F))))
theorem same_setRow (w : World) (b : Nat) (cs : Array Value) : Same w (w.setRow b cs) := ⟨rfl, rfl, rfl, by simp⟩
theorem sat_setRow {b : Nat} {c c' : Array Value} {t : TypeId} {A : HP} {w : World} (h : Sat (star (pt b (.cells c t (0, 0))) A) w) : Sat (star (pt b (.cells c' t (0, 0))) A) (w.setRow b c') :=
  h.update (setRow_heap w b c c' t (0, 0) h.get) (fun k hk => setRow_other w b k c' hk)

/-! ### A store -/
def storeK (H : List SObj) : D → D → (List SObj → Prop) → Prop
  | .ptr h p, d, k => match getH H h with
    | .var t x => putK p x d fun x' => setHK H h (.var t x') k
    | .vec t s enc xs cap => match p with
      | .ix j s' :: p' => when (Nat.beq s' s) (j < xs.length ∧ ∀ x, xs[j]? = some x → sizeK (enc x) fun m => when (Nat.beq m s) (putK p' (enc x) d fun d' =>
          ∃ x', Eqv (enc x') d' ∧ setHK H h (.vec t s enc (xs.set j x') cap) k))
      | _ => False
    | _ => False
  | _, _, _ => False
theorem mid_eq {cur l m r vs : List Value} {o : Nat} (hc : cur = l ++ m ++ r) (hl : l.length = o) (hm : m.length = vs.length) : cur.take o ++ vs ++ cur.drop (o + vs.length) = l ++ vs ++ r := by
  subst hc; subst hl; rw [← hm]; simp
theorem run_storeVar {P : Program} {T : TypeId} {b o : Nat} {t : TypeId} {cur : Array Value} {v : Value} {w : World} (hi : 1 ≤ P.cellsOf T) (hv : v.cells.size = P.cellsOf T) (hb : w.heap[b]? = some (.cells cur t (0, 0)))
    (ho : o + v.cells.size ≤ cur.size) (h1 : ∀ u ∈ v.cells.toList, u.oneCell' = true) : (storeVar T ⟨b, o, none⟩ v).run P w = .ok () (w.setRow b (cur.toList.take o ++ v.cells.toList ++ cur.toList.drop (o + v.cells.size)).toArray) := by
  unfold storeVar
  rw [Sem.run_bind, run_sizeOf' hi]
  simp only [Result.andThen_ok]
  rw [if_neg (by simp [hv])]
  have := run_storeCells_at (P := P) b o t v.cells.toList 0 cur w hb (by simpa using ho) h1
  simpa using this
theorem storeK_spec {P : Program} {H : List SObj} {T : TypeId} {x d : D} {k : List SObj → Prop} (hT : 1 ≤ P.cellsOf T) (hd : size d = P.cellsOf T) (h : storeK H x d k) : ∃ H', k H' ∧ H'.length = H.length ∧
    ∀ F R w vx v, R.length = H.length → Sat (star (hpH R R H) F) w → Is R x vx → Is R d v → (∀ u ∈ v.cells.toList, u.oneCell' = true) →
      ∃ w', (Instr.storeAt T vx v).run P w = .ok () w' ∧ Sat (star (hpH R R H') F) w' ∧ Same w w' := by
  unfold storeK at h
  split at h <;> try exact h.elim
  rename_i hh p
  split at h <;> try exact h.elim
  · rename_i t y ho
    obtain ⟨y', ⟨hz, _, hput⟩, h⟩ := putK_spec _ _ _ _ h
    obtain ⟨hlt, hk⟩ := setHK_iff _ _ _ _ h
    refine ⟨_, hk, by simp, fun F R w vx v hl hs hx hv h1 => ?_⟩
    obtain ⟨_, b, cs, hR, hc, hsat⟩ := chunk_var ho hl hs
    have hvc : v.cells.toList = cells R d := by have := hv.cells []; simpa using this.symm
    have hvs : v.cells.size = size d := by rw [← Array.length_toList, hvc, cells_length]
    have e0 := hx.conc
    simp only [conc, addrV, hR] at e0
    obtain ⟨l, m, r, e1, e2, hl1, hm1⟩ := hput R
    have hcs : cs = l ++ m ++ r := by rw [← e1]; exact hc.cells.symm
    have hrun := run_storeVar (P := P) (T := T) (b := b) (o := offP p) (v := v) hT (by rw [hvs, hd]) hsat.get (by simp [hcs, hl1, hm1, hvs]) h1
    refine ⟨w.setRow b (cs.toArray.toList.take (offP p) ++ v.cells.toList ++ cs.toArray.toList.drop (offP p + v.cells.size)).toArray, ?_, chunk_back hlt hR (o := .var t y') ?_ (sat_setRow hsat), same_setRow _ _ _⟩
    · rw [← e0]
      simp only [Instr.storeAt, Instr.sureAddr, pure_bind, Nat.zero_add]
      exact hrun
    · intro f hf
      refine ⟨b, _, rfl, fun X => ?_, by rw [hf]⟩
      obtain ⟨l, m, r, e1, e2, hl1, hm1⟩ := hput (R ++ X)
      have hcs : cs = l ++ m ++ r := by rw [← e1]; exact (hc X).symm
      rw [e2, ← Array.length_toList, show cs.toArray.toList = cs from rfl, mid_eq hcs hl1 (by rw [hm1, Array.length_toList, hvs]), hv.cells X]
  · rename_i t s α enc xs cap ho
    split at h <;> try exact h.elim
    rename_i j s' p'
    obtain ⟨hs0, hj, h⟩ := when_iff.1 h
    have hs0 := Nat.eq_of_beq_eq_true hs0
    subst hs0
    have hxj : xs[j]? = some xs[j] := by simp
    obtain ⟨hz0, h⟩ := when_iff.1 ((sizeK_iff _ _).1 (h _ hxj))
    have hz0 := Nat.eq_of_beq_eq_true hz0
    obtain ⟨y', ⟨hz, _, hput⟩, x', hx', h⟩ := putK_spec _ _ _ _ h
    obtain ⟨hlt, hk⟩ := setHK_iff _ _ _ _ h
    refine ⟨_, hk, by simp, fun F R w vx v hl hs hx hv h1 => ?_⟩
    obtain ⟨_, hcase⟩ := chunk_vec ho hl hs
    rcases hcase with ⟨_, rfl, _⟩ | ⟨b, z, cs, pre, rest, hR, hc, hlen, hpre, hsat⟩
    · simp at hj
    have hvc : v.cells.toList = cells R d := by have := hv.cells []; simpa using this.symm
    have hvs : v.cells.size = size d := by rw [← Array.length_toList, hvc, cells_length]
    have e0 := hx.conc
    simp only [conc, addrV, hR, offP, PStep.off] at e0
    have hsplit : ∀ X, ∃ l m r, cs = l ++ m ++ r ∧ flat (R ++ X) s' enc (xs.set j x') = l ++ cells (R ++ X) d ++ r ∧ l.length = j * s' + offP p' ∧ m.length = size d := by
      intro X
      obtain ⟨l, m, r, e1, e2, hl1, hm1⟩ := hput (R ++ X)
      refine ⟨(xs.take j).flatMap (fun x => fit s' (cells (R ++ X) (enc x))) ++ l, m, r ++ (xs.drop (j + 1)).flatMap (fun x => fit s' (cells (R ++ X) (enc x))), ?_, ?_, ?_, hm1⟩
      · rw [← hc X, flat, flatMap_split _ _ j _ hxj, fit_self (by rw [cells_length, hz0]), e1]; simp
      · rw [flat, flatMap_set _ _ _ _ hj, hx'.cells, fit_self (by rw [cells_length, hz, hz0]), e2]; simp
      · rw [List.length_append, flatMap_length _ s' (fun x => fit_length _ _), hl1, List.length_take, Nat.min_eq_left (Nat.le_of_lt hj)]
    obtain ⟨l, m, r, e1, e2, hl1, hm1⟩ := hsplit []
    have hrun := run_storeVar (P := P) (T := T) (b := b) (o := z + (j * s' + offP p')) (v := v) hT (by rw [hvs, hd]) hsat.get (by simp [e1, hl1, hm1, hvs, hpre]; omega) h1
    refine ⟨w.setRow b ((pre ++ cs ++ rest).toArray.toList.take (z + (j * s' + offP p')) ++ v.cells.toList ++ (pre ++ cs ++ rest).toArray.toList.drop (z + (j * s' + offP p') + v.cells.size)).toArray, ?_, chunk_back hlt hR (o := .vec t s' enc (xs.set j x') cap) ?_ (sat_setRow hsat), same_setRow _ _ _⟩
    · rw [← e0]
      simp only [Instr.storeAt, Instr.sureAddr, pure_bind]
      exact hrun
    · intro f hf
      refine .inr ⟨b, z, l ++ cells R d ++ r, pre, rest, rfl, fun X => ?_, ?_, hpre, ?_⟩
      · obtain ⟨l', m', r', e1', e2', hl1', hm1'⟩ := hsplit X
        rw [e2', show cells (R ++ X) d = cells R d by rw [hv.cells X, hvc]]
        have h3 : l' ++ (m' ++ r') = l ++ (m ++ r) := by rw [← List.append_assoc, ← List.append_assoc, ← e1', e1]
        obtain ⟨h4, h5⟩ := List.append_inj h3 (by rw [hl1, hl1'])
        obtain ⟨_, h6⟩ := List.append_inj h5 (by rw [hm1, hm1'])
        rw [h4, h6]
      · rw [← hlen, e1]; simp [cells_length, hm1]
      · rw [hf, ← Array.length_toList, show (pre ++ cs ++ rest).toArray.toList = pre ++ cs ++ rest from rfl, mid_eq (l := pre ++ l) (m := m) (r := r ++ rest) (by rw [e1]; simp) (by rw [List.length_append, hpre, hl1]) (by rw [hm1, Array.length_toList, hvs]), hvc]
        simp
end Go.Proofs.Ytdgnnboljgpcmaa.E
