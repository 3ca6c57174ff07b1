import Derived.Test.YtdgnnboljgpcmaaEngL
import Derived.Laws.IdiomRangeMap
namespace Go.Proofs.Ytdgnnboljgpcmaa.E
open Go

/-! ### Maps made, written, gone over -/
def makeMapK (P : Program) (H : List SObj) (T : TypeId) (k : D → List SObj → Prop) : Prop :=
  match P.underlying T with
  | some (.map _ _) => ∃ (κ β : Type) (dec : DecidableEq κ) (ke : κ → D) (ve : β → D), pushHK H (.mp dec ke ve []) fun H' => E.lenK H 0 fun n => k (.mapr n) H'
  | _ => False
def mapUpdK (P : Program) (H : List SObj) (T : TypeId) (x i y : D) (k : D → List SObj → Prop) : Prop :=
  match P.underlying T with
  | some (.map kt _) => match x with
    | .mapr h => match getH H h with
      | .mp dec ke ve m => ∃ a v, (KeyOK P kt dec ke ∧ Eqv (ke a) i ∧ Eqv (ve v) y) ∧ setHK H h (.mp dec ke ve (upd dec m a v)) fun H' => k .junk H'
      | _ => False
    | _ => False
  | _ => False
def mapDelK (P : Program) (H : List SObj) (T : TypeId) (x i : D) (k : D → List SObj → Prop) : Prop :=
  match P.underlying T with
  | some (.map kt _) => match x with
    | .mapr h => match getH H h with
      | .mp dec ke ve m => ∃ a, (KeyOK P kt dec ke ∧ Eqv (ke a) i) ∧ setHK H h (.mp dec ke ve (del dec m a)) fun H' => k .junk H'
      | _ => False
    | _ => False
  | _ => False
def rangeMK (P : Program) (H : List SObj) (T : TypeId) (x : D) (k : D → List SObj → Prop) : Prop :=
  match P.underlying T with
  | some (.map _ _) => match x with
    | .mapr h => match getH H h with
      | .mp dec ke ve m => ∀ (bs : List Nat) (clock : Nat), bs.length = m.length → bs.Nodup → (∀ b ∈ bs, b < clock) →
          setHK H h (.mpx dec ke ve m bs clock) fun H1 => pushHK H1 (.iter h [] clock) fun H2 => E.lenK H 0 fun n => k (.ptr n []) H2
      | _ => False
    | _ => False
  | _ => False
def nextMK (H : List SObj) (x : D) (k : D → List SObj → Prop) : Prop :=
  match x with
  | .ptr n [] => match getH H n with
    | .iter mh seen since => match getH H mh with
      | .mpx _ ke ve m bs clock => since = clock ∧ ((∀ b ∈ bs, b ∈ seen) → k (.tup [.ff]) H) ∧
          (∀ (j : Nat) (kv : _) (b : Nat), m[j]? = some kv → bs[j]? = some b → b ∉ seen → setHK H n (.iter mh (seen ++ [b]) since) fun H' => k (.tup [.tt, ke kv.1, ve kv.2]) H')
      | _ => False
    | _ => False
  | _ => False
def entryMK (H : List SObj) (x : D) (k : D → List SObj → Prop) : Prop :=
  match x with
  | .ptr n [] => match getH H n with
    | .iter mh seen since => match getH H mh with
      | .mpx _ ke ve m bs clock => (∃ (seen' : List Nat) (b : Nat) (j : Nat) (kv : _), (since = clock ∧ seen = seen' ++ [b] ∧ m[j]? = some kv ∧ bs[j]? = some b) ∧ k (.tup [ke kv.1, ve kv.2]) H)
      | _ => False
    | _ => False
  | _ => False

theorem map_erase {α β : Type _} (f : α → β) : ∀ (l : List α) (j : Nat), (l.eraseIdx j).map f = (l.map f).eraseIdx j
  | [], _ => rfl
  | _ :: _, 0 => rfl
  | x :: l, j + 1 => by simp [map_erase f l j]
theorem sat_obj {b : Nat} {o o' : Obj} {A : HP} {w : World} (h : Sat (star (pt b o) A) w) : Sat (star (pt b o') A) { w with heap := w.heap.setIfInBounds b o' } := by
  have hb := h.get
  have hlt : b < w.heap.size := (Array.getElem?_eq_some_iff.1 hb).1
  exact h.update (by simp [hlt]) (fun k hk => by simp [Ne.symm hk])
theorem same_obj (w : World) (b : Nat) (o' : Obj) : Same w { w with heap := w.heap.setIfInBounds b o' } := ⟨rfl, rfl, rfl, by simp⟩
theorem isM_keys {R : Env} {κ β : Type} {ke : κ → D} {ve : β → D} {m : List (κ × β)} {es : List MapEntry} (h : IsM R ke ve m es) : es.map (·.key) = (m.map (·.1)).map (fun x => conc R (ke x)) ∧ es.length = m.length := by
  have h0 := h []
  simp only [List.append_nil] at h0
  refine ⟨?_, by have := congrArg List.length h0; simpa using this⟩
  have := congrArg (List.map Prod.fst) h0
  simpa [Function.comp_def] using this
theorem makeMapK_does {P : Program} {ts : List D} {H : List SObj} {T kt et : TypeId} {k : D → List SObj → Prop} {o : Oper} (hu : P.underlying T = some (.map kt et)) {r : Option Operand} (ho : o.op = .makeMap T r) (hr : r = none) (h : makeMapK P H T k) : Eff P ts H o k := by
  unfold makeMapK at h
  rw [hu] at h
  obtain ⟨κ, β, dec, ke, ve, h⟩ := h
  have h := (lenK_iff _ _ _).1 (pushHK_iff _ _ _ h)
  subst hr
  intro F R a w hl hsl hs
  refine ⟨_, _, h, [some (w.heap.size, 0)], w.alloc (.map #[] 0), by simp [hl], ?_, same_alloc _ _, .inl ⟨.map (some w.heap.size), ?_, .inr ?_⟩⟩
  · exact sat_new hl hs (alloc_heap_new _ _) (fun k hk => alloc_heap_old _ _ k hk) fun f hf => ⟨w.heap.size, #[], 0, rfl, fun X => rfl, by simp, by simp, by simp, hf⟩
  · obtain ⟨dst, op, type, pos, after, guard⟩ := o
    simp only at ho
    subst ho
    simp only [execOp, Option.map_none]
    exact run_vw (by simp only [Instr.makeMap, Sem.run_bind, Sem.run_pure, Result.andThen_ok]; rfl)
  · intro X
    have : (R ++ [some (w.heap.size, 0)] ++ X)[0 + H.length]? = some (some (w.heap.size, 0)) := by
      rw [List.append_assoc, Nat.zero_add, ← hl, List.getElem?_append_right (Nat.le_refl _), Nat.sub_self]; rfl
    simp only [conc, mapV, this]
theorem mapUpd_run {P : Program} {H : List SObj} {T kt et : TypeId} {x i y : D} {k : D → List SObj → Prop} (hu : P.underlying T = some (.map kt et)) (h : mapUpdK P H T x i y k) : ∃ H', k .junk H' ∧ H'.length = H.length ∧
    ∀ F R w vx vi vy, R.length = H.length → Sat (star (hpH R R H) F) w → Is R x vx → Is R i vi → Is R y vy → ∃ w', (Instr.mapUpdate T vx vi vy).run P w = .ok () w' ∧ Sat (star (hpH R R H') F) w' ∧ Same w w' := by
  unfold mapUpdK at h
  rw [hu] at h
  simp only at h
  split at h <;> try exact h.elim
  rename_i hh
  split at h <;> try exact h.elim
  rename_i κ β dec ke ve m ho
  obtain ⟨a, v, ⟨hK, hE, hV⟩, h⟩ := h
  obtain ⟨hlt, h⟩ := setHK_iff _ _ _ _ h
  refine ⟨_, h, by simp, fun F R w vx vi vy hl hs hx hi hy => ?_⟩
  obtain ⟨_, b, es, clock, hR, hm, hnd, hbd, hbc, hb, hs'⟩ := map_there ho hl hs
  have hvx := hx []
  simp only [conc, mapV, List.append_nil, hR] at hvx
  subst hvx
  have hvi := (hE R).trans hi.conc
  obtain ⟨hkeys, hlen⟩ := isM_keys hm
  have hf := hK.find a es.toList (m.map (·.1)) R hkeys w
  have hc := hK.check false a R w
  rw [hvi] at hf hc
  have hvy : ∀ X, conc (R ++ X) (ve v) = vy := fun X => (hV _).trans (hy X)
  have hki : ∀ X, conc (R ++ X) (ke a) = vi := fun X => (hE _).trans (hi X)
  cases hlk : look dec m a with
  | none =>
    obtain ⟨hup, hdl, hni⟩ := look_none_upd (v := v) m hlk
    rw [(look_at (dec := dec) m es.toList 0 hlen).1 hlk] at hf
    refine ⟨{ w with heap := w.heap.setIfInBounds b (.map (es.push { key := vi, val := vy, born := clock }) (clock + 1)) }, ?_, ?_, same_obj _ _ _⟩
    · simp only [Instr.mapUpdate, Sem.run_bind, run_underlying hu, Result.andThen_ok, MapKept.run_getObj_map hb, hc, hf, MapKept.run_setObj_map _ hb]
    · refine chunk_back hlt hR (fun f hf => ?_) (sat_obj hs')
      refine ⟨b, _, _, rfl, fun X => ?_, ?_, ?_, ?_, hf⟩
      · rw [hup]; simp only [Array.toList_push, List.map_append, List.map_cons, List.map_nil, hm X, hvy X, hki X]
      · rw [hup]; simp only [List.map_append, List.map_cons, List.map_nil]
        rw [List.nodup_append]
        exact ⟨hnd, by simp, fun x hx y hy => by simp at hy; subst hy; intro e; subst e; exact hni hx⟩
      · simp only [Array.toList_push, List.map_append, List.map_cons, List.map_nil]
        rw [List.nodup_append]
        refine ⟨hbd, by simp, fun x hx y hy => ?_⟩
        simp only [List.mem_singleton] at hy
        obtain ⟨e, he, rfl⟩ := List.mem_map.1 hx
        have := hbc e he
        omega
      · intro e he
        simp only [Array.toList_push, List.mem_append, List.mem_singleton] at he
        rcases he with he | rfl
        · have := hbc e he; omega
        · simp
  | some u =>
    obtain ⟨j, e, hfa, hej, hmj, hud⟩ := (look_at (dec := dec) m es.toList 0 hlen).2 u hlk
    rw [hfa] at hf
    rw [(hud v).1]
    have hej' : es[0 + j]? = some e := by rw [Nat.zero_add]; simpa using hej
    have hekey : e.key = vi := by
      have := congrArg (fun l => l[j]?) hkeys
      simp only [List.getElem?_map, hej, hmj, Option.map_some, Option.some.injEq] at this
      rw [this]; exact hvi
    have hsame : (Instr.keyThatStays (((es[0 + j]?).map (·.key)).getD vi) vi).run P w = .ok vi w := by
      rw [hej']
      simp only [Option.map_some, Option.getD_some, hekey]
      have := hK.bits a R
      rw [hvi] at this
      simp [Instr.keyThatStays, this]
    have hmod : (es.modify (0 + j) fun e => { e with key := vi, val := vy }).toList = es.toList.set j { e with key := vi, val := vy } := by
      rw [Nat.zero_add, Array.toList_modify]
      apply List.ext_getElem?
      intro n
      rw [List.getElem?_modify, List.getElem?_set]
      split
      · rename_i e0; subst e0
        rw [hej, if_pos (List.getElem?_eq_some_iff.1 hej).1]; simp
      · simp
    refine ⟨{ w with heap := w.heap.setIfInBounds b (.map (es.modify (0 + j) fun e => { e with key := vi, val := vy }) clock) }, ?_, ?_, same_obj _ _ _⟩
    · simp only [Instr.mapUpdate, Sem.run_bind, run_underlying hu, Result.andThen_ok, MapKept.run_getObj_map hb, hc, hf, hsame, MapKept.run_setObj_map _ hb]
    · refine chunk_back hlt hR (fun f hf => ?_) (sat_obj hs')
      refine ⟨b, _, clock, rfl, fun X => ?_, ?_, ?_, ?_, hf⟩
      · rw [hmod, List.map_set, List.map_set, hm X, hvy X, hki X]
      · rw [List.map_set]
        have : (m.map (·.1)).set j a = m.map (·.1) := by
          apply List.ext_getElem?
          intro n
          rw [List.getElem?_set]
          split
          · rename_i e; subst e
            simp only [List.getElem?_map, hmj, Option.map_some]
            rw [if_pos (by simpa using (List.getElem?_eq_some_iff.1 hmj).1)]
          · rfl
        rw [this]; exact hnd
      · rw [hmod, List.map_set]
        have : (es.toList.map (·.born)).set j e.born = es.toList.map (·.born) := by
          apply List.ext_getElem?
          intro n
          rw [List.getElem?_set]
          split
          · rename_i e; subst e
            simp only [List.getElem?_map, hej, Option.map_some]
            rw [if_pos (by simpa using (List.getElem?_eq_some_iff.1 hej).1)]
          · rfl
        rw [this]; exact hbd
      · intro e' he'
        rw [hmod] at he'
        rcases List.mem_or_eq_of_mem_set he' with he' | rfl
        · exact hbc _ he'
        · exact hbc e (List.mem_of_getElem? hej)
theorem mapDel_run {P : Program} {H : List SObj} {T U ty kt et : TypeId} {x i : D} {k : D → List SObj → Prop} (hu : P.underlying T = some (.map kt et)) (h : mapDelK P H T x i k) : ∃ H', k .junk H' ∧ H'.length = H.length ∧
    ∀ F R w vx vi, R.length = H.length → Sat (star (hpH R R H) F) w → Is R x vx → Is R i vi → ∃ v w', (Builtin.delete_ #[T, U] ty #[vx, vi]).run P w = .ok v w' ∧ Sat (star (hpH R R H') F) w' ∧ Same w w' := by
  have h0 : (#[T, U] : Array TypeId)[0]? = some T := rfl
  have h1 : ∀ vx vi : Value, (#[vx, vi] : Array Value)[0]? = some vx := fun _ _ => rfl
  have h2 : ∀ vx vi : Value, (#[vx, vi] : Array Value)[1]? = some vi := fun _ _ => rfl
  unfold mapDelK at h
  rw [hu] at h
  simp only at h
  split at h <;> try exact h.elim
  rename_i hh
  split at h <;> try exact h.elim
  rename_i κ β dec ke ve m ho
  obtain ⟨a, ⟨hK, hE⟩, h⟩ := h
  obtain ⟨hlt, h⟩ := setHK_iff _ _ _ _ h
  refine ⟨_, h, by simp, fun F R w vx vi hl hs hx hi => ?_⟩
  obtain ⟨_, b, es, clock, hR, hm, hnd, hbd, hbc, hb, hs'⟩ := map_there ho hl hs
  have hvx := hx []
  simp only [conc, mapV, List.append_nil, hR] at hvx
  subst hvx
  have hvi := (hE R).trans hi.conc
  obtain ⟨hkeys, hlen⟩ := isM_keys hm
  have hf := hK.find a es.toList (m.map (·.1)) R hkeys w
  have hc := hK.check es.isEmpty a R w
  rw [hvi] at hf hc
  cases hlk : look dec m a with
  | none =>
    have hdl := look_none_del (dec := dec) m hlk
    rw [(look_at (dec := dec) m es.toList 0 hlen).1 hlk] at hf
    refine ⟨.tuple #[], { w with heap := w.heap.setIfInBounds b (.map es clock) }, ?_, ?_, same_obj _ _ _⟩
    · simp only [Builtin.delete_, h0, h1, h2, Sem.run_bind, run_underlying hu, Result.andThen_ok, MapKept.run_getObj_map hb, hc, hf, MapKept.run_setObj_map _ hb, Sem.run_pure]
    · refine chunk_back hlt hR (fun f hf => ?_) (sat_obj hs')
      rw [hdl]
      exact ⟨b, _, _, rfl, hm, hnd, hbd, hbc, hf⟩
  | some u =>
    obtain ⟨j, e, hfa, hej, hmj, hud⟩ := (look_at (dec := dec) m es.toList 0 hlen).2 u hlk
    rw [hfa] at hf
    rw [(hud u).2]
    have hsub : (m.eraseIdx j).Sublist m := List.eraseIdx_sublist m j
    have hsub2 : (es.toList.eraseIdx j).Sublist es.toList := List.eraseIdx_sublist _ j
    have her : (es.eraseIdxIfInBounds (0 + j)).toList = es.toList.eraseIdx j := by
      rw [Nat.zero_add, Array.toList_eraseIdxIfInBounds]
    refine ⟨.tuple #[], { w with heap := w.heap.setIfInBounds b (.map (es.eraseIdxIfInBounds (0 + j)) clock) }, ?_, ?_, same_obj _ _ _⟩
    · simp only [Builtin.delete_, h0, h1, h2, Sem.run_bind, run_underlying hu, Result.andThen_ok, MapKept.run_getObj_map hb, hc, hf, MapKept.run_setObj_map _ hb, Sem.run_pure]
    · refine chunk_back hlt hR (fun f hf => ?_) (sat_obj hs')
      refine ⟨b, _, clock, rfl, fun X => ?_, (hsub.map _).nodup hnd, ?_, ?_, hf⟩
      · rw [her, map_erase, map_erase, hm X]
      · rw [her]; exact (hsub2.map _).nodup hbd
      · intro e' he'
        rw [her] at he'
        exact hbc _ (hsub2.subset he')

/-- A block of a map, its stamps known, and its iterator. -/
theorem iter_there {R : Env} {H : List SObj} {F : HP} {w : World} {n mh since : Nat} {seen : List Nat} {κ β : Type} {dec : DecidableEq κ} {ke : κ → D} {ve : β → D} {m : List (κ × β)} {bs : List Nat} {clock : Nat}
    (hn : getH H n = .iter mh seen since) (ho : getH H mh = .mpx dec ke ve m bs clock) (hl : R.length = H.length) (hs : Sat (star (hpH R R H) F) w) :
    n < H.length ∧ ∃ r b es, R[n]? = some (some (r, 0)) ∧ R[mh]? = some (some (b, 0)) ∧ IsM R ke ve m es.toList ∧ es.toList.map (·.born) = bs ∧ bs.Nodup ∧ (∀ x ∈ bs, x < clock) ∧ w.heap[b]? = some (.map es clock) ∧ w.heap[r]? = some (.mapIter (some b) since seen.toArray since) ∧
      Sat (star (pt r (.mapIter (some b) since seen.toArray since)) (star (hpH R R (H.set n .gone)) F)) w := by
  have hH := getH_some H n (by rw [hn]; intro h; cases h)
  rw [hn] at hH
  have hlt : n < H.length := (List.getElem?_eq_some_iff.1 hH).1
  have hH2 := getH_some H mh (by rw [ho]; intro h; cases h)
  rw [ho] at hH2
  have hlt2 : mh < H.length := (List.getElem?_eq_some_iff.1 hH2).1
  have hR : R[n]? = some R[n] := List.getElem?_eq_getElem (by omega)
  have hR2 : R[mh]? = some R[mh] := List.getElem?_eq_getElem (by omega)
  obtain ⟨f2, hf2, ⟨b2, es, h1, h2, h3, h4, h5, h6, h7⟩⟩ := (hs.left.mono (hpH_get R R H mh _ _ hR2 hH2)).left
  have hs' := hs.mono ((star_mono (hpH_get R R H n _ _ hR hH) (Imp.refl F)).trans (star_assoc _ _ _))
  obtain ⟨f, hf, ⟨g, g', gf, hf', gh, ⟨r, mb, e1, e2, e3⟩, hg'⟩⟩ := hs'
  rw [h1] at hR2
  rw [e2] at hR2
  have hmb : mb = b2 := by
    have := Option.some.inj (Option.some.inj hR2)
    exact congrArg Prod.fst this
  subst hmb
  exact ⟨hlt, r, mb, es, by rw [hR, e1], e2, h2, h4, h5, h6, hf2 _ _ h7, hf r _ (gf r _ e3), ⟨f, hf, g, g', gf, hf', gh, e3, hg'⟩⟩
theorem rangeMK_run {P : Program} {H : List SObj} {T kt et : TypeId} {x : D} {k : D → List SObj → Prop} (hu : P.underlying T = some (.map kt et)) (h : rangeMK P H T x k) :
    ∀ F R w vx, R.length = H.length → Sat (star (hpH R R H) F) w → Is R x vx → ∃ d H', k d H' ∧ ∃ X v w', (R ++ X).length = H'.length ∧ (Instr.range T vx).run P w = .ok v w' ∧ Is (R ++ X) d v ∧ Sat (star (hpH (R ++ X) (R ++ X) H') F) w' ∧ Same w w' := by
  unfold rangeMK at h
  rw [hu] at h
  simp only at h
  split at h <;> try exact h.elim
  rename_i hh
  split at h <;> try exact h.elim
  rename_i κ β dec ke ve m ho
  intro F R w vx hl hs hx
  obtain ⟨hlt, b, es, clock, hR, hm, hnd, hbd, hbc, hb, hs'⟩ := map_there ho hl hs
  have hvx := hx []
  simp only [conc, mapV, List.append_nil, hR] at hvx
  subst hvx
  have hlen : es.toList.length = m.length := (isM_keys hm).2
  have h := h (es.toList.map (·.born)) clock (by simpa using hlen) hbd (fun x hx => by obtain ⟨e, he, rfl⟩ := List.mem_map.1 hx; exact hbc e he)
  obtain ⟨_, h⟩ := setHK_iff _ _ _ _ h
  have h := (lenK_iff _ _ _).1 (pushHK_iff _ _ _ h)
  have hs1 : Sat (star (hpH R R (H.set hh (.mpx dec ke ve m (es.toList.map (·.born)) clock))) F) w :=
    chunk_back hlt hR (fun f hf => ⟨b, es, rfl, hm, hnd, rfl, hbd, fun x hx => by obtain ⟨e, he, rfl⟩ := List.mem_map.1 hx; exact hbc e he, hf⟩) hs'
  refine ⟨_, _, h, [some (w.heap.size, 0)], _, w.alloc (.mapIter (some b) clock #[] clock), by simp [hl], run_range_map w T kt et b es clock hu hb, ?_, ?_, same_alloc _ _⟩
  · intro X
    have : (R ++ [some (w.heap.size, 0)] ++ X)[0 + H.length]? = some (some (w.heap.size, 0)) := by
      rw [List.append_assoc, Nat.zero_add, ← hl, List.getElem?_append_right (Nat.le_refl _), Nat.sub_self]; rfl
    simp only [conc, addrV, this, offP]
  · refine sat_new (by simpa using hl) hs1 (alloc_heap_new _ _) (fun k hk => alloc_heap_old _ _ k hk) fun f hf => ⟨w.heap.size, b, rfl, ?_, hf⟩
    rw [List.getElem?_append_left (by rw [hl]; exact hlt)]; exact hR
theorem run_nextM {P : Program} {w : World} {r bm since : Nat} {seen : Array Nat} {es : Array MapEntry} (ty : TypeId) (hr : w.heap[r]? = some (.mapIter (some bm) since seen since)) (hb : w.heap[bm]? = some (.map es since)) (hold : ∀ x ∈ es.toList, x.born < since) :
    ((∀ e ∈ es.toList, e.born ∈ seen.toList) ∧ (Instr.next (.pointer (some ⟨r, 0, none⟩)) false ty).run P w = .ok (.tuple #[.bool false]) w) ∨
    ∃ e ∈ es.toList, e.born ∉ seen.toList ∧ ∃ w1 : World, w1.heap = w.heap ∧ w1.os = w.os ∧ w1.tape = w.tape ∧ w1.output = w.output ∧
      (Instr.next (.pointer (some ⟨r, 0, none⟩)) false ty).run P w = .ok (.tuple #[.bool true, e.key, e.val]) { w1 with heap := w1.heap.setIfInBounds r (.mapIter (some bm) since (seen.push e.born) since) } := by
  simp only [Instr.next, getObj, Sem.run_bind, Sem.run, hr, hb, Result.andThen, next_test_false seen es since since hold (Nat.le_refl _), Bool.false_eq_true, if_false]
  have hmem : ∀ x ∈ (Array.filter (fun e => !seen.contains e.born) es).toList, x.born < since := fun x hx => hold x (by simp at hx ⊢; exact hx.1)
  have hin : ∀ x ∈ (Array.filter (fun e => !seen.contains e.born) es).toList, x ∈ es.toList ∧ x.born ∉ seen.toList := fun x hx => by
    simp at hx ⊢; exact hx
  have hout : (Array.filter (fun e => !seen.contains e.born) es).size = 0 → ∀ e ∈ es.toList, e.born ∈ seen.toList := fun h0 e he => by
    have h1 : Array.filter (fun e => !seen.contains e.born) es = #[] := Array.eq_empty_of_size_eq_zero h0
    rw [Array.filter_eq_empty_iff] at h1
    have := h1 e (by simpa using he)
    simpa using this
  generalize Array.filter (fun e => !seen.contains e.born) es = L at hmem hin hout ⊢
  have e1 : L.filter (fun x => decide (x.born < since)) = L := Array.filter_eq_self.2 (fun x hx => by simpa using hmem x (by simpa using hx))
  have e2 : L.filter (fun x => decide (x.born ≥ since)) = #[] := by
    rw [Array.filter_eq_empty_iff]
    intro x hx
    have := hmem x (by simpa using hx)
    simp
    omega
  simp only [e1, e2, Array.append_empty]
  by_cases h0 : L.size = 0
  · left
    refine ⟨hout h0, ?_⟩
    have : L = #[] := Array.eq_empty_of_size_eq_zero h0
    subst this
    simp [choose, Sem.run, Question.forced]
  · right
    have hne : L.isEmpty = false := by simp [Array.isEmpty, h0]
    simp only [hne, Bool.false_eq_true, if_false, Array.empty_append, Array.size_map]
    have hch : ∃ (j : Nat) (w1 : World), j < L.size ∧ (w1.heap = w.heap ∧ w1.os = w.os ∧ w1.tape = w.tape ∧ w1.output = w.output) ∧ (choose (Question.mapNext L.size)).run P w = .ok j w1 := by
      by_cases hf : L.size ≤ 1
      · exact ⟨0, w, by omega, ⟨rfl, rfl, rfl, rfl⟩, by simp [choose, Sem.run, Question.forced, hf]⟩
      · exact ⟨_, w.drew, Nat.mod_lt _ (by omega), ⟨rfl, rfl, rfl, rfl⟩, by
          simp only [choose, Sem.run, Question.forced, decide_eq_true_eq, hf, if_false, Question.cut]
          rfl⟩
    obtain ⟨j, w1, hj, ⟨g1, g2, g3, g4⟩, hrun⟩ := hch
    have hLj := hin L[j] (by simp)
    refine ⟨L[j], hLj.1, hLj.2, w1, g1, g2, g3, g4, ?_⟩
    have hset : ∀ o' : Obj, (setObj r o').run P w1 = .ok () { w1 with heap := w1.heap.setIfInBounds r o' } := fun o' => by
      simp only [setObj, Sem.run, g1, hr]
    simp only [hrun, Array.getElem?_map, Array.getElem?_eq_getElem hj, Option.map_some, Sem.run_bind, hset, Result.andThen]
    rfl
theorem nextMK_run {P : Program} {H : List SObj} {x : D} {k : D → List SObj → Prop} (ty : TypeId) (h : nextMK H x k) :
    ∀ F R w vx, R.length = H.length → Sat (star (hpH R R H) F) w → Is R x vx → ∃ d H', k d H' ∧ H'.length = H.length ∧ ∃ v w', (Instr.next vx false ty).run P w = .ok v w' ∧ Is R d v ∧ Sat (star (hpH R R H') F) w' ∧ Same w w' := by
  unfold nextMK at h
  split at h <;> try exact h.elim
  rename_i n
  split at h <;> try exact h.elim
  rename_i mh seen since hn
  split at h <;> try exact h.elim
  rename_i κ β dec ke ve m bs clock ho
  obtain ⟨hsc, h1, h2⟩ := h
  subst hsc
  intro F R w vx hl hs hx
  obtain ⟨hlt, r, b, es, hRn, hRm, hm, hbs, hbd, hbc, hb, hr, hs'⟩ := iter_there hn ho hl hs
  have hvx := hx []
  simp only [conc, addrV, List.append_nil, hRn, offP] at hvx
  subst hvx
  rcases run_nextM (P := P) ty hr hb (fun x hx => hbc _ (by rw [← hbs]; exact List.mem_map.2 ⟨x, hx, rfl⟩)) with ⟨hall, hrun⟩ | ⟨e, he, hne, w1, g1, g2, g3, g4, hrun⟩
  · refine ⟨_, _, h1 (fun y hy => ?_), rfl, _, _, hrun, fun X => rfl, hs, Same.refl _⟩
    rw [← hbs] at hy
    obtain ⟨e, he, rfl⟩ := List.mem_map.1 hy
    simpa using hall e he
  · obtain ⟨j, hj, rfl⟩ := List.getElem_of_mem he
    have hlen : es.toList.length = m.length := (isM_keys hm).2
    have hmj : m[j]? = some m[j] := List.getElem?_eq_getElem (by omega)
    have hbj : bs[j]? = some es.toList[j].born := by rw [← hbs, List.getElem?_map, List.getElem?_eq_getElem hj]; rfl
    have h := h2 j m[j] _ hmj hbj (by simpa using hne)
    obtain ⟨_, h⟩ := setHK_iff _ _ _ _ h
    have hs1 := sat_obj (o' := .mapIter (some b) since (seen.toArray.push es.toList[j].born) since) hs'
    refine ⟨_, _, h, by simp, _, _, hrun, fun X => ?_, ?_, ⟨g2, g3, g4, by simp [g1]⟩⟩
    · have := congrArg (fun l => l[j]?) (hm X)
      simp only [List.getElem?_map, List.getElem?_eq_getElem hj, hmj, Option.map_some, Option.some.injEq, Prod.mk.injEq] at this
      simp only [conc, concL, this.1, this.2]
    · refine (chunk_back hlt hRn (fun f hf => ?_) hs1).heap (by simp [g1])
      exact ⟨r, b, rfl, hRm, by simpa using hf⟩
theorem entryMK_run {P : Program} {H : List SObj} {x : D} {k : D → List SObj → Prop} (h : entryMK H x k) :
    ∃ d, k d H ∧ ∀ F R w vx, R.length = H.length → Sat (star (hpH R R H) F) w → Is R x vx → ∃ v, (Instr.entry vx).run P w = .ok v w ∧ Is R d v := by
  unfold entryMK at h
  split at h <;> try exact h.elim
  rename_i n
  split at h <;> try exact h.elim
  rename_i mh seen since hn
  split at h <;> try exact h.elim
  rename_i κ β dec ke ve m bs clock ho
  obtain ⟨seen', b0, j, kv, ⟨hsc, hseen, hmj, hbj⟩, h⟩ := h
  subst hsc
  refine ⟨_, h, fun F R w vx hl hs hx => ?_⟩
  obtain ⟨hlt, r, b, es, hRn, hRm, hm, hbs, hbd, hbc, hb, hr, hs'⟩ := iter_there hn ho hl hs
  have hvx := hx []
  simp only [conc, addrV, List.append_nil, hRn, offP] at hvx
  subst hvx
  have hlen : es.toList.length = m.length := (isM_keys hm).2
  have hj : j < es.toList.length := by rw [hlen]; exact (List.getElem?_eq_some_iff.1 hmj).1
  have hb0 : b0 = es.toList[j].born := by
    rw [← hbs, List.getElem?_map, List.getElem?_eq_getElem hj] at hbj
    exact (Option.some.inj hbj).symm
  have hf : es.find? (·.born == b0) = some es.toList[j] := by
    rw [← Array.find?_toList, hb0]
    exact find_born _ es.toList (by rw [hbs]; exact hbd) (List.getElem_mem hj)
  have hback : seen.toArray.back? = some b0 := by rw [hseen]; simp
  refine ⟨.tuple #[es.toList[j].key, es.toList[j].val], ?_, fun X => ?_⟩
  · simp only [Instr.entry, getObj, Sem.run_bind, Sem.run, hr, hb, Result.andThen, hback, bne_self_eq_false, Bool.false_eq_true, if_false, hf]
    rfl
  · have := congrArg (fun l => l[j]?) (hm X)
    simp only [List.getElem?_map, List.getElem?_eq_getElem hj, hmj, Option.map_some, Option.some.injEq, Prod.mk.injEq] at this
    simp only [conc, concL, this.1, this.2]
/-- A map whose stamps are known is a map. -/
theorem mpx_mp {R : Env} {ob : Option (Nat × Nat)} {κ β : Type} {dec : DecidableEq κ} {ke : κ → D} {ve : β → D} {m : List (κ × β)} {bs : List Nat} {clock : Nat} : Imp (hpO R ob (.mpx dec ke ve m bs clock)) (hpO R ob (.mp dec ke ve m)) := by
  rintro f ⟨b, es, h1, h2, h3, h4, h5, h6, h7⟩
  subst h4
  exact ⟨b, es, clock, h1, h2, h3, h5, fun e he => h6 _ (List.mem_map.2 ⟨e, he, rfl⟩), h7⟩
end Go.Proofs.Ytdgnnboljgpcmaa.E
