import Derived.Test.YtdgnnboljgpcmaaEngI
namespace Go.Proofs.Ytdgnnboljgpcmaa.E
open Go

/-! ### 'make' -/
def pushVecK (H : List SObj) (e s : Nat) {α : Type} (enc : α → D) (xs : List α) (cap : Nat) (k : D → List SObj → Prop) : Prop :=
  pushHK H (.vec e s enc xs cap) fun H' => E.lenK H 0 fun n => k (.slc n [] s 0 xs.length cap) H'
theorem pushVecK_iff {H : List SObj} {e s : Nat} {α : Type} {enc : α → D} {xs : List α} {cap : Nat} {k : D → List SObj → Prop} (h : pushVecK H e s enc xs cap k) :
    k (.slc H.length [] s 0 xs.length cap) (H ++ [.vec e s enc xs cap]) := by
  have h := pushHK_iff _ _ _ h
  simpa using (lenK_iff _ _ _).1 h
def makeK (P : Program) (Z : TypeId → D) (H : List SObj) (T : TypeId) (x y : D) (k : D → List SObj → Prop) : Prop :=
  match x, y with
  | .int _ n, .int _ m => match P.underlying T with
    | some (.slice e) => when (Nat.beq (P.cellsOf e) 1) ((n = m ∧ 0 ≤ n ∧ (P.bytesOf e : Int) * n ≤ 140737488355328 ∧ n ≤ 140737488355328) ∧ match P.underlying e with
      | some (.int .u8) => Z e = byteD 0 ∧ pushVecK H e 1 byteD (List.replicate n.toNat 0) n.toNat k
      | some (.int q) => Z e = .int q 0 ∧ pushVecK H e 1 (fun i : Int => .int q i) (List.replicate n.toNat 0) n.toNat k
      | some .bool => Z e = .ff ∧ pushVecK H e 1 (fun b : Bool => .bool b) (List.replicate n.toNat false) n.toNat k
      | _ => False)
    | _ => False
  | _, _ => False

theorem makeK_does {P : Program} {Z : TypeId → D} (hZ : Zeros P Z) {H : List SObj} {T e : TypeId} {n : Int} (hu : P.underlying T = some (.slice e)) (hc : P.cellsOf e = 1) (hn : 0 ≤ n) (hb : (P.bytesOf e : Int) * n ≤ 140737488355328)
    (hm : n ≤ 140737488355328) {α : Type} (enc : α → D) (z : α) (hz : isJunk (Z e) = false) (hze : ∀ R, conc R (Z e) = conc R (enc z)) (h1 : ∀ x R, cells R (enc x) = [conc R (enc x)]) (F : HP) (R : Env) (w : World) (vx vy : Value) (q q' : IntKind) (hl : R.length = H.length)
    (hs : Sat (star (hpH R R H) F) w) (hx : vx = .int q n) (hy : vy = .int q' n) :
    ∃ X v w', (R ++ X).length = (H ++ [SObj.vec e 1 enc (List.replicate n.toNat z) n.toNat]).length ∧ (Instr.makeSlice T vx vy).run P w = .ok v w' ∧ Is (R ++ X) (.slc H.length [] 1 0 n.toNat n.toNat) v ∧
      Sat (star (hpH (R ++ X) (R ++ X) (H ++ [.vec e 1 enc (List.replicate n.toNat z) n.toNat])) F) w' ∧ Same w w' := by
  obtain ⟨i, zv, hi, hzv, hzi, hsz⟩ := hZ e hz
  have hi1 : i.size = 1 := by simpa [Program.cellsOf, hi] using hc
  have hib : P.bytesOf e = i.bytes := by simp [Program.bytesOf, hi]
  subst hx; subst hy
  have hr := run_make (P := P) (w := w) T e i zv hu hi hzv q q' n n hn (by omega) (by rw [← hib]; omega) (by omega)
  have hzc : zv.cells.toList = [conc R (enc z)] := by
    have e1 := (hzi R).conc
    rw [hze R] at e1
    rw [← e1]; exact h1 z R
  refine ⟨[some (w.heap.size, 0)], _, _, by simp [hl], hr, ?_, sat_new hl hs (alloc_heap_new w _) (alloc_heap_old w _) ?_, same_alloc _ _⟩
  · have := is_slice (R := R ++ [some (w.heap.size, 0)]) (h := H.length) (b := w.heap.size) (z := 0) (by rw [← hl]; simp) [] 1 0 n.toNat n.toNat
    simpa [offP] using this
  · intro f hf
    have hcl : ∀ X, flat ((R ++ [some (w.heap.size, 0)]) ++ X) 1 enc (List.replicate n.toNat z) = List.replicate n.toNat (conc R (enc z)) := by
      intro X
      have e2 : cells ((R ++ [some (w.heap.size, 0)]) ++ X) (enc z) = [conc R (enc z)] := by
        rw [h1, ← hze, ← hze, (hzi _).conc, (hzi _).conc]
      rw [flat]
      induction n.toNat with
      | zero => rfl
      | succ m ih => rw [List.replicate_succ, List.flatMap_cons, ih, e2]; rfl
    refine .inr ⟨w.heap.size, 0, _, [], [], rfl, hcl, by simp, rfl, ?_⟩
    rw [hf]
    congr 2
    apply Array.ext'
    rw [hi1, Nat.mul_one]
    simp only [List.nil_append, List.append_nil]
    have : zv.cells = #[conc R (enc z)] := Array.ext' (by simpa using hzc)
    rw [this, toList_madeCells_one]

/-! ### A slice's literal -/
def seqK : List (Nat × D) → Nat → (List D → Prop) → Prop
  | [], _, k => k []
  | (i, d) :: r, n, k => when (Nat.beq i n) (seqK r (n + 1) fun ds => k (d :: ds))
theorem seqK_spec : ∀ (l : List (Nat × D)) (n : Nat) (k : List D → Prop), seqK l n k → ∃ ds, k ds ∧ l = (ds.zipIdx n).map fun x => (x.2, x.1)
  | [], _, k, h => ⟨[], h, rfl⟩
  | (i, d) :: r, n, k, h => by
    obtain ⟨h1, h⟩ := when_iff.1 h
    have h1 := Nat.eq_of_beq_eq_true h1
    obtain ⟨ds, hk, hr⟩ := seqK_spec r (n + 1) _ h
    exact ⟨d :: ds, hk, by simp [hr, h1]⟩
def buildSliceK (P : Program) (Z : TypeId → D) (ts : List D) (H : List SObj) (T : TypeId) (len : Nat) (parts : List (Nat × Operand)) (k : D → List SObj → Prop) : Prop :=
  match P.underlying T with
  | some (.slice e) => when (Nat.ble 1 (P.cellsOf e)) (when (Nat.ble (len * P.cellsOf e) 16777216) (known (Z e) fun _ => partsK ts parts fun ps => seqK ps 0 fun ds => lenLK ds 0 fun n => when (Nat.beq len n) (sizesK ds (P.cellsOf e)
      (pushHK H (.var e (.st ds)) fun H' => E.lenK H 0 fun m => k (.slc m [] (P.cellsOf e) 0 len len) H'))))
  | _ => False

theorem run_vw {P : Program} {s : Sem Value} {v : Value} {w w' : World} (h : s.run P w = .ok v w') : (do pure (.value (← s)) : Sem Next).run P w = .ok (.value v) w' := by
  rw [Sem.run_bind, h]; rfl
theorem fill_all (s : Nat) : ∀ (vs : List Value) (j : Nat) (c : Array Value), (∀ v ∈ vs, v.cells.size = s) → c.size = (j + vs.length) * s →
    ∃ c', Instr.fill (fun i => some (i * s, s)) c ((vs.zipIdx j).map fun x => (x.2, x.1)) = some c' ∧ c'.toList = c.toList.take (j * s) ++ vs.flatMap fun v => v.cells.toList
  | [], j, c, _, hc => ⟨c, rfl, by
    simp only [List.length_nil, Nat.add_zero] at hc
    rw [List.take_of_length_le (by simp [hc])]; simp⟩
  | v :: vs, j, c, hv, hc => by
    have hvs := hv v (by simp)
    have hm : (j + (vs.length + 1)) * s = j * s + s + vs.length * s := by rw [Nat.add_mul, Nat.succ_mul]; omega
    have e0 : v.cells.zipIdx.foldl (fun (cs : Array Value) (x : Value × Nat) => cs.setIfInBounds (j * s + x.2) x.1) c = (v.cells.toList.zipIdx 0).foldl (fun (cs : Array Value) (x : Value × Nat) => cs.setIfInBounds (j * s + x.2) x.1) c := by
      rw [← Array.foldl_toList, Array.toList_zipIdx]
    have hfit : j * s + v.cells.size ≤ c.size := by rw [hc, hvs, List.length_cons, hm]; omega
    have hf := foldl_set (j * s) v.cells.toList 0 c (by simpa using hfit)
    rw [← e0] at hf
    obtain ⟨c', h1, h2⟩ := fill_all s vs (j + 1) (v.cells.zipIdx.foldl (fun (cs : Array Value) (x : Value × Nat) => cs.setIfInBounds (j * s + x.2) x.1) c) (fun u hu => hv u (by simp [hu])) (by
      rw [← Array.length_toList, hf]
      simp only [List.length_append, List.length_take, List.length_drop, Array.length_toList, hvs, hc, List.length_cons, hm]
      rw [Nat.add_mul, Nat.add_mul]
      omega)
    refine ⟨c', ?_, ?_⟩
    · simp only [List.zipIdx_cons, List.map_cons]
      unfold Instr.fill
      simp only [hvs, ne_eq, not_true_eq_false, decide_false, Bool.false_or, decide_eq_true_eq]
      rw [if_neg (by omega)]
      exact h1
    · rw [h2, hf]
      have hl1 : (c.toList.take (j * s) ++ v.cells.toList).length = (j + 1) * s := by
        rw [List.length_append, List.length_take, Array.length_toList, Array.length_toList, hvs, Nat.add_mul, Nat.one_mul]; omega
      simp only [Nat.add_zero, List.flatMap_cons]
      rw [List.take_left' hl1, List.append_assoc]
theorem zipIdx_get.{u} {α : Type u} (l : List α) (n j : Nat) : (l.zipIdx n)[j]? = (l[j]?).map fun x => (x, n + j) := by
  simp [List.getElem?_zipIdx]

theorem buildSliceK_spec {P : Program} {Z : TypeId → D} (hZ : Zeros P Z) {ts : List D} {H : List SObj} {T : TypeId} {len : Nat} {parts : Array (Nat × Operand)} {k : D → List SObj → Prop} (h : buildSliceK P Z ts H T len parts.toList k) {o : Oper} (ho : o.op = .buildSlice T len parts) :
    ∃ d H', k d H' ∧ Does P ts H o d H' := by
  unfold buildSliceK at h
  split at h <;> try exact h.elim
  rename_i e hu
  obtain ⟨hz, h⟩ := when_iff.1 h
  obtain ⟨hlim, h⟩ := when_iff.1 h
  have hz := Nat.le_of_ble_eq_true hz
  have hlim := Nat.le_of_ble_eq_true hlim
  obtain ⟨hj, h⟩ := (known_iff _ _).1 h
  obtain ⟨ps, h, hpl, hps⟩ := partsK_spec _ _ h
  obtain ⟨ds, h, hseq⟩ := seqK_spec _ _ _ h
  have h := (lenLK_iff _ _ _).1 h
  obtain ⟨hlen, h⟩ := when_iff.1 h
  have hlen := Nat.eq_of_beq_eq_true hlen
  simp only [Nat.zero_add] at hlen
  have hsizes := fun R => sizesK_spec R ds _ _ h
  have h := (hsizes []).1
  have h := pushHK_iff _ _ _ h
  have h := (lenK_iff _ _ _).1 h
  simp only [Nat.zero_add] at h
  refine ⟨_, _, h, fun F R a w hl hsl hs => ?_⟩
  obtain ⟨i, zv, hi, hzv, hzi, hsz⟩ := hZ e hj
  have hcell : P.cellsOf e = i.size := by simp [Program.cellsOf, hi]
  have hel : ∀ (ds : List D) (s : Nat) (k : Prop), sizesK ds s k → ∀ d ∈ ds, size d = s := by
    intro ds
    induction ds with
    | nil => intro s k _ d hd; cases hd
    | cons x ds ih =>
      intro s k hk d hd
      obtain ⟨h1, h2⟩ := when_iff.1 ((sizeK_iff _ _).1 hk)
      rcases List.mem_cons.1 hd with rfl | hd
      · exact Nat.eq_of_beq_eq_true h1
      · exact ih s k h2 d hd
  have hel := hel ds _ _ (by assumption)
  -- the values
  have hparts : ∃ vs : List Value, parts.toList.map (fun x => (x.1, a.eval x.2)) = (vs.zipIdx 0).map (fun x => (x.2, x.1)) ∧ vs.length = ds.length ∧ ∀ (j : Nat) (d : D), ds[j]? = some d → ∃ v : Value, vs[j]? = some v ∧ Is R d v := by
    refine ⟨parts.toList.map fun x => a.eval x.2, ?_, ?_, ?_⟩
    · apply List.ext_getElem?
      intro j
      simp only [List.getElem?_map, zipIdx_get, Option.map_map]
      cases hj : parts.toList[j]? with
      | none => simp
      | some x =>
        simp only [Option.map_some]
        have hjl : j < ps.length := by rw [hpl]; exact (List.getElem?_eq_some_iff.1 hj).1
        obtain ⟨p, hp⟩ : ∃ p, ps[j]? = some p := ⟨_, List.getElem?_eq_getElem hjl⟩
        obtain ⟨i', d'⟩ := p
        obtain ⟨y, hy, _⟩ := hps j i' d' hp
        rw [hj] at hy
        have hi' : i' = j := by
          rw [hseq, List.getElem?_map, zipIdx_get] at hp
          cases hd : ds[j]? with
          | none => simp [hd] at hp
          | some d => simp [hd] at hp; exact hp.1.symm
        simp at hy
        subst hy; subst hi'
        simp
    · simp; rw [← Array.length_toList, ← hpl, hseq]; simp
    · intro j d hd
      have hp : ps[j]? = some (j, d) := by rw [hseq, List.getElem?_map, zipIdx_get, hd]; simp
      obtain ⟨y, hy, hev⟩ := hps j j d hp
      exact ⟨a.eval y, by rw [List.getElem?_map, hy]; rfl, hev R a hsl⟩
  obtain ⟨vs, hvs, hvl, hvi⟩ := hparts
  have hvsz : ∀ v ∈ vs, v.cells.size = P.cellsOf e := by
    intro v hv
    obtain ⟨j, hj', rfl⟩ := List.getElem_of_mem hv
    obtain ⟨u, hu1, hu2⟩ := hvi j ds[j] (by simp)
    have : vs[j] = u := by rw [List.getElem?_eq_getElem hj'] at hu1; exact Option.some.inj hu1
    rw [this, ← Array.length_toList, ← hu2.cells [], cells_length, hel _ (List.getElem_mem _)]
  have hcells : ∀ X, cellsL (R ++ X) ds = vs.flatMap fun v => v.cells.toList := by
    intro X
    have gen : ∀ (ds : List D) (vs : List Value), vs.length = ds.length → (∀ (j : Nat) (d : D), ds[j]? = some d → ∃ v : Value, vs[j]? = some v ∧ Is R d v) → cellsL (R ++ X) ds = vs.flatMap fun v => v.cells.toList := by
      intro ds
      induction ds with
      | nil => intro vs h1 _; have : vs = [] := by simpa using h1
               subst this; rfl
      | cons d ds ih =>
        intro vs h1 h2
        cases vs with
        | nil => simp at h1
        | cons v vs =>
          obtain ⟨u, hu1, hu2⟩ := h2 0 d rfl
          simp at hu1; subst hu1
          rw [cellsL_cons, hu2.cells X, List.flatMap_cons, ih vs (by simpa using h1) (fun j d' hd' => by simpa using h2 (j + 1) d' (by simpa using hd'))]
    exact gen ds vs hvl hvi
  obtain ⟨c', hfill, hc'⟩ := fill_all (P.cellsOf e) vs 0 ((Array.range (len * P.cellsOf e)).map (zv.cells[· % zv.cells.size]!)) hvsz (by simp [hvl, hlen])
  have hrun : (Instr.buildSlice T len (parts.map fun (i, x) => (i, a.eval x))).run P w = .ok (.slice (some ⟨w.heap.size, 0, none⟩) len len) (w.alloc (.cells c' e)) := by
    have hfill' : Instr.fill (fun i => some (i * P.cellsOf e, P.cellsOf e)) ((Array.range (len * P.cellsOf e)).map (zv.cells[· % zv.cells.size]!)) (parts.map fun (i, x) => (i, a.eval x)).toList = some c' := by
      rw [Array.toList_map]
      rw [show (parts.toList.map fun (i, x) => (i, a.eval x)) = parts.toList.map (fun x => (x.1, a.eval x.2)) from rfl, hvs]
      exact hfill
    unfold Instr.buildSlice
    rw [Sem.run_bind, run_underlying hu]
    simp only [Result.andThen_ok]
    rw [Sem.run_bind, run_sizeOf' hz]
    simp only [Result.andThen_ok]
    rw [if_neg (by omega)]
    by_cases h0 : len * P.cellsOf e = 0
    · have hl0 : len = 0 := by
        rcases Nat.mul_eq_zero.1 h0 with h | h
        · exact h
        · omega
      rw [if_pos h0]
      simp only [pure_bind]
      have : ((Array.range (len * P.cellsOf e)).map ((#[] : Array Value)[· % (#[] : Array Value).size]!)) = ((Array.range (len * P.cellsOf e)).map (zv.cells[· % zv.cells.size]!)) := by rw [h0]; simp
      rw [this, hfill']
      rfl
    · rw [if_neg h0]
      have hzr : (zeroValue e).run P w = .ok zv w := by simp [zeroValue, typeInfo, hi, hzv]
      simp only [bind_assoc, pure_bind]
      rw [Sem.run_bind, hzr]
      simp only [Result.andThen_ok]
      rw [hfill']
      rfl
  refine ⟨[some (w.heap.size, 0)], w.alloc (.cells c' e), by simp [hl], sat_new hl hs (alloc_heap_new w (.cells c' e)) (alloc_heap_old w _) ?_, same_alloc _ _, .inl ⟨.slice (some ⟨w.heap.size, 0, none⟩) len len, ?_, .inr ?_⟩⟩
  · intro f hf
    refine ⟨w.heap.size, c'.toList, rfl, fun X => ?_, by rw [hf]⟩
    rw [cells_st, List.append_assoc, hcells, hc']
    simp
  · obtain ⟨dst, op, type, pos, after, guard⟩ := o
    simp only at ho
    subst ho
    exact run_vw hrun
  · have := is_slice (R := R ++ [some (w.heap.size, 0)]) (h := H.length) (b := w.heap.size) (z := 0) (by rw [← hl]; simp) [] (P.cellsOf e) 0 len len
    simpa [offP] using this
end Go.Proofs.Ytdgnnboljgpcmaa.E
