import Derived.Test.YtdgnnboljgpcmaaEngLm
namespace Go.Proofs.Ytdgnnboljgpcmaa.E
open Go

/-! ### Calls -/
def IsL (R : Env) (ds : List D) (vs : List Value) : Prop := ∀ X, concL (R ++ X) ds = vs
/-- A call, of what is known of it: what follows is told by 'k'. -/
structure CallAt (P : Program) (f : FuncId) (ds : List D) (H : List SObj) (k : D → List SObj → Prop) : Prop where
  fn : ∃ fn c, P.funcs[f]? = some fn ∧ fn.body = some c ∧ (fn.name == "runtime.NumGoroutine") = false
  run : ∀ F R w vs, R.length = H.length → Sat (star (hpH R R H) F) w → IsL R ds vs → Calls P f vs.toArray w (fun e w' => ∃ d H' X v, k d H' ∧ e = .returned v ∧ (R ++ X).length = H'.length ∧ (isJunk d = true ∨ Is (R ++ X) d v) ∧
    Sat (star (hpH (R ++ X) (R ++ X) H') F) w' ∧ Same w w')
def appendDK : List D → List D → (List D → Prop) → Prop
  | [], l, k => k l
  | d :: ds, l, k => appendDK ds l fun r => k (d :: r)
theorem appendDK_iff : ∀ (a b : List D) (k : List D → Prop), appendDK a b k ↔ k (a ++ b)
  | [], _, _ => Iff.rfl
  | _ :: a, b, _ => appendDK_iff a b _
theorem concL_append (R : Env) : ∀ a b : List D, concL R (a ++ b) = concL R a ++ concL R b
  | [], b => rfl
  | d :: a, b => by simp [concL, concL_append R a b]

/-! ### An operation -/
/-- The method of that name of a type's values. -/
def MethodAt (P : Program) (T : TypeId) (name : String) (f : FuncId) : Prop := ∀ (x : Value) (w : World), (method (P.types.size + Made.depth) T x name).run P w = .ok (f, x) w
def effK (P : Program) (Z : TypeId → D) (ts : List D) (H : List SObj) (op : Op) (k : D → List SObj → Prop) : Prop :=
  match op with
  | .alloc T => allocK Z H T k
  | .box T x => boxK ts H T x k
  | .store T a x => valK ts a fun a => valK ts x fun x => when (Nat.ble 1 (P.cellsOf T)) (sizeK x fun n => when (Nat.beq n (P.cellsOf T)) (storK H x (storeK H a x fun H' => k .junk H')))
  | .buildSlice T n ps => buildSliceK P Z ts H T n ps.toList k
  | .makeSlice T a b => valK ts a fun a => valK ts b fun b => makeK P Z H T a b k
  | .makeMap T r => match r with
    | none => makeMapK P H T k
    | some _ => False
  | .mapUpdate T m i x => valK ts m fun m => valK ts i fun i => valK ts x fun x => mapUpdK P H T m i x k
  | .range T x => valK ts x fun x => rangeMK P H T x k
  | .next x isS => match isS with
    | false => valK ts x fun x => nextMK H x k
    | true => False
  | .entry x => valK ts x fun x => entryMK H x k
  | .call c => match c.callee with
    | .invoke r name => valK ts r fun r => match r with
      | .ifc T d => listK ts c.args.toList fun ds => ∃ f, MethodAt P T name f ∧ CallAt P f (d :: ds) H k
      | _ => False
    | .builtin .delete => match c.args.toList, c.argTypes.toList with
      | [x, i], [T, _] => valK ts x fun x => valK ts i fun i => mapDelK P H T x i k
      | _, _ => False
    | .value f => valK ts f fun f => match f with
      | .fn (.func f) caps => listK ts c.args.toList fun ds => appendDK ds caps fun ds => CallAt P f ds H k
      | _ => False
    | .builtin .append => match c.args.toList, c.argTypes.toList with
      | [x, y], [T, U] => valK ts x fun x => valK ts y fun y => appendK P Z H T U x y k
      | _, _ => False
    | .builtin .copy => match c.args.toList, c.argTypes.toList with
      | [x, y], [T, _] => valK ts x fun x => valK ts y fun y => copyK P H T x y k
      | _, _ => False
    | .builtin .len => pureK P Z ts H op fun d => k d H
    | .builtin .min => pureK P Z ts H op fun d => k d H
    | _ => False
  | op => pureK P Z ts H op fun d => k d H

/-- What is asked of an operation's outcome: a value, nothing, or a call that returns. -/
def stepOK (P : Program) (K : Value → World → Prop) : Result Next → Prop
  | .ok (.value v) w' => K v w'
  | .ok .skip w' => K undef w'
  | .ok (.enter f args) w' => Calls P f args w' fun e w'' => ∃ v, e = .returned v ∧ K v w''
  | _ => False
theorem stepOK.mono {P : Program} {K K' : Value → World → Prop} (h : ∀ v w, K v w → K' v w) {r : Result Next} (hr : stepOK P K r) : stepOK P K' r := by
  unfold stepOK at hr ⊢
  split at hr <;> try exact hr.elim
  · exact h _ _ hr
  · exact h _ _ hr
  · exact hr.mono fun e w' ⟨v, he, hk⟩ => ⟨v, he, h _ _ hk⟩
theorem stepOK.wp {P : Program} {o : Oper} {a : Act} {w : World} {K : Value → World → Prop} {Q : Exit → Act → World → Prop} {next : Act → World → Prop} (h : stepOK P K ((execOp a.eval o).run P w)) (hn : ∀ v w', K v w' → next (a.put o.dst v) w') : o.wp P a w next Q := by
  unfold Oper.wp
  generalize (execOp a.eval o).run P w = r at h
  unfold stepOK at h
  split at h <;> try exact h.elim
  · exact hn _ _ h
  · exact hn _ _ h
  · exact h.mono fun e w' ⟨v, he, hk⟩ => by subst he; exact hn _ _ hk
/-- What an operation does, whatever stands behind it. -/
def EffW (P : Program) (ts : List D) (H : List SObj) (o : Oper) (k : D → List SObj → Prop) : Prop :=
  ∀ F R (a : Act) w, R.length = H.length → Slots R ts a.tmps.toList → Sat (star (hpH R R H) F) w →
    stepOK P (fun v w' => ∃ d H' X, k d H' ∧ (R ++ X).length = H'.length ∧ (isJunk d = true ∨ Is (R ++ X) d v) ∧ Sat (star (hpH (R ++ X) (R ++ X) H') F) w' ∧ Same w w') ((execOp a.eval o).run P w)
theorem Eff.w {P : Program} {ts : List D} {H : List SObj} {o : Oper} {k : D → List SObj → Prop} (h : Eff P ts H o k) : EffW P ts H o k := by
  intro F R a w hl hsl hs
  obtain ⟨d, H', hk, X, w', hl', hs', hsame, h⟩ := h F R a w hl hsl hs
  rcases h with ⟨v, hr, hv⟩ | ⟨hr, hj⟩
  · rw [hr]; exact ⟨d, H', X, hk, hl', hv, hs', hsame⟩
  · rw [hr]; exact ⟨d, H', X, hk, hl', .inl hj, hs', hsame⟩
theorem pureK_eff {P : Program} {Z : TypeId → D} (hZ : Zeros P Z) {ts : List D} {H : List SObj} {o : Oper} {k : D → List SObj → Prop} (h : pureK P Z ts H o.op fun d => k d H) : EffW P ts H o k := by
  obtain ⟨d, hj, hk, hy⟩ := pureK_spec hZ h
  refine Eff.w fun F R a w hl hsl hs => ?_
  obtain ⟨v, hv, hi⟩ := hy F R a w hl hsl hs
  exact ⟨d, H, hk, [], w, by simpa using hl, by simpa using hs, Same.refl w, .inl ⟨v, hv, .inr (by simpa using hi)⟩⟩
theorem run_alloc {P : Program} {Z : TypeId → D} (hZ : Zeros P Z) {T : TypeId} (hj : isJunk (Z T) = false) : ∃ z, (∀ R, Is R (Z T) z) ∧ ∀ w, (Instr.alloc T true (.tuple #[])).run P w = .ok (.pointer (some ⟨w.heap.size, 0, none⟩)) (w.alloc (.cells z.cells T)) := by
  obtain ⟨i, z, hi, hz, hzi, hsz⟩ := hZ T hj
  refine ⟨z, hzi, fun w => ?_⟩
  have hzr : (zeroValue T).run P w = .ok z w := by simp [zeroValue, typeInfo, hi, hz]
  unfold Instr.alloc
  rw [Sem.run_bind, hzr]
  simp only [Result.andThen_ok]
  rw [Sem.run_bind, run_newVar]
  rfl
theorem run_sk {P : Program} {s : Sem Unit} {w w' : World} (h : s.run P w = .ok () w') : (do s; pure .skip : Sem Next).run P w = .ok .skip w' := by
  rw [Sem.run_bind, h]; rfl

theorem effK_spec {P : Program} {Z : TypeId → D} (hZ : Zeros P Z) {ts : List D} {H : List SObj} {o : Oper} {k : D → List SObj → Prop} (h : effK P Z ts H o.op k) : EffW P ts H o k := by
  obtain ⟨dst, op, type, pos, after, guard⟩ := o
  simp only at h
  unfold effK at h
  split at h
  · -- alloc
    rename_i T
    obtain ⟨hj, h⟩ := (known_iff _ _).1 h
    obtain ⟨z, hz, hr⟩ := run_alloc hZ hj
    refine (Does.eff (newVar_does (P := P) (T := T) (o := ⟨dst, .alloc T, type, pos, after, guard⟩) (d := Z T) fun a R _ => ⟨z, hz R, fun w => run_vw (hr w)⟩) (newVarK_iff h)).w
  · rename_i T x
    obtain ⟨d, hj, hd, h⟩ := valK_spec h
    refine (Does.eff (newVar_does (P := P) (T := T) (o := ⟨dst, .box T x, type, pos, after, guard⟩) (d := d) fun a R hsl => ⟨a.eval x, hd R a hsl, fun w => run_vw ?_⟩) (newVarK_iff h)).w
    unfold Instr.box
    rw [Sem.run_bind, run_newVar]
    rfl
  · rename_i T x y
    obtain ⟨d, hj, hd, h⟩ := valK_spec h
    obtain ⟨e, hej, he, h⟩ := valK_spec h
    obtain ⟨hT, h⟩ := when_iff.1 h
    have hT := Nat.le_of_ble_eq_true hT
    obtain ⟨hz, h⟩ := when_iff.1 ((sizeK_iff _ _).1 h)
    have hz := Nat.eq_of_beq_eq_true hz
    obtain ⟨h, hone⟩ := storK_spec _ _ h
    obtain ⟨H', hk, hl', hrun⟩ := storeK_spec (P := P) hT hz h
    refine Eff.w fun F R a w hl hsl hs => ?_
    obtain ⟨w', hr, hs', hsame⟩ := hrun F R w _ _ hl hs (hd R a hsl) (he R a hsl) (hone F R w _ hl hs (he R a hsl))
    exact ⟨_, H', hk, [], w', by simpa [hl'] using hl, by simpa using hs', hsame, .inr ⟨run_sk hr, rfl⟩⟩
  · rename_i T n ps
    obtain ⟨d, H', hk, hd⟩ := buildSliceK_spec hZ h (o := ⟨dst, .buildSlice T n ps, type, pos, after, guard⟩) rfl
    exact (hd.eff hk).w
  · rename_i T x y
    obtain ⟨d, hj, hd, h⟩ := valK_spec h
    obtain ⟨e, hej, he, h⟩ := valK_spec h
    unfold makeK at h
    split at h <;> try exact h.elim
    rename_i q n q' m _
    split at h <;> try exact h.elim
    rename_i et hu
    obtain ⟨hc, h0⟩ := when_iff.1 h
    clear h
    have hc := Nat.eq_of_beq_eq_true hc
    obtain ⟨⟨rfl, hn, hb, hm⟩, h1⟩ := h0
    have fin : ∀ {α : Type} (enc : α → D) (z : α), isJunk (Z et) = false → (∀ R, conc R (Z et) = conc R (enc z)) → (∀ x R, cells R (enc x) = [conc R (enc x)]) → pushVecK H et 1 enc (List.replicate n.toNat z) n.toNat k → EffW P ts H ⟨dst, .makeSlice T x y, type, pos, after, guard⟩ k := by
      intro α enc z hz hze h1 h
      have h := pushVecK_iff h
      refine Eff.w fun F R a w hl hsl hs => ?_
      obtain ⟨X, v, w', hl', hr, hi, hs', hsame⟩ := makeK_does (P := P) hZ hu hc hn hb hm enc z hz hze h1 F R w _ _ q q' hl hs (int_of_is (hd R a hsl)) (int_of_is (he R a hsl))
      refine ⟨_, _, h, X, w', hl', hs', hsame, .inl ⟨v, run_vw hr, .inr ?_⟩⟩
      simpa using hi
    split at h1 <;> try exact h1.elim
    · exact fin byteD 0 (by rw [h1.1]; rfl) (fun R => by rw [h1.1]) (fun x R => cells_leaf rfl R) h1.2
    · rename_i q0 _ _
      exact fin (fun i : Int => .int q0 i) 0 (by rw [h1.1]; rfl) (fun R => by rw [h1.1]) (fun x R => cells_leaf rfl R) h1.2
    · exact fin (fun b : Bool => .bool b) false (by rw [h1.1]; rfl) (fun R => by rw [h1.1]; rfl) (fun x R => cells_leaf rfl R) h1.2
  · rename_i T r
    split at h <;> try exact h.elim
    have hu : ∃ kt et, P.underlying T = some (.map kt et) := by
      unfold makeMapK at h
      split at h <;> try exact h.elim
      exact ⟨_, _, ‹_›⟩
    obtain ⟨kt, et, hu⟩ := hu
    exact (makeMapK_does (ts := ts) (o := ⟨dst, .makeMap T none, type, pos, after, guard⟩) hu rfl rfl h).w
  · rename_i T x i y
    obtain ⟨d, hj, hd, h⟩ := valK_spec h
    obtain ⟨e, hej, he, h⟩ := valK_spec h
    obtain ⟨g, hgj, hg, h⟩ := valK_spec h
    have hu : ∃ kt et, P.underlying T = some (.map kt et) := by
      unfold mapUpdK at h
      split at h <;> try exact h.elim
      exact ⟨_, _, ‹_›⟩
    obtain ⟨kt, et, hu⟩ := hu
    obtain ⟨H', hk, hl', hrun⟩ := mapUpd_run hu h
    refine Eff.w fun F R a w hl hsl hs => ?_
    obtain ⟨w', hr, hs', hsame⟩ := hrun F R w _ _ _ hl hs (hd R a hsl) (he R a hsl) (hg R a hsl)
    exact ⟨_, H', hk, [], w', by simpa [hl'] using hl, by simpa using hs', hsame, .inr ⟨run_sk hr, rfl⟩⟩
  · rename_i T x
    obtain ⟨d, hj, hd, h⟩ := valK_spec h
    have hu : ∃ kt et, P.underlying T = some (.map kt et) := by
      unfold rangeMK at h
      split at h <;> try exact h.elim
      exact ⟨_, _, ‹_›⟩
    obtain ⟨kt, et, hu⟩ := hu
    refine Eff.w fun F R a w hl hsl hs => ?_
    obtain ⟨r, H', hk, X, v, w', hl', hr, hi, hs', hsame⟩ := rangeMK_run hu h F R w _ hl hs (hd R a hsl)
    exact ⟨r, H', hk, X, w', hl', hs', hsame, .inl ⟨v, run_vw hr, .inr hi⟩⟩
  · rename_i x isS
    split at h <;> try exact h.elim
    obtain ⟨d, hj, hd, h⟩ := valK_spec h
    refine Eff.w fun F R a w hl hsl hs => ?_
    obtain ⟨r, H', hk, hl', v, w', hr, hi, hs', hsame⟩ := nextMK_run (P := P) type h F R w _ hl hs (hd R a hsl)
    exact ⟨r, H', hk, [], w', by simpa [hl'] using hl, by simpa using hs', hsame, .inl ⟨v, run_vw hr, .inr (by simpa using hi)⟩⟩
  · rename_i x
    obtain ⟨d, hj, hd, h⟩ := valK_spec h
    obtain ⟨r, hk, hrun⟩ := entryMK_run (P := P) h
    refine Eff.w fun F R a w hl hsl hs => ?_
    obtain ⟨v, hr, hi⟩ := hrun F R w _ hl hs (hd R a hsl)
    exact ⟨r, H, hk, [], w, by simpa using hl, by simpa using hs, Same.refl w, .inl ⟨v, run_vw hr, .inr (by simpa using hi)⟩⟩
  · rename_i c
    obtain ⟨callee, args, ats⟩ := c
    simp only at h
    split at h <;> try exact h.elim
    · rename_i r0 name
      obtain ⟨d, hj, hd, h⟩ := valK_spec h
      split at h <;> try exact h.elim
      rename_i T d
      obtain ⟨ds, h, hds⟩ := listK_spec _ _ h
      obtain ⟨f, hM, ⟨fn, c, hf, hb, hn⟩, hrun⟩ := h
      intro F R a w hl hsl hs
      have hfv := hd R a hsl
      have hf0 := hfv.conc
      simp only [conc] at hf0
      have hres : (execOp a.eval ⟨dst, .call ⟨.invoke r0 name, args, ats⟩, type, pos, after, guard⟩).run P w = .ok (.enter f (#[conc R d] ++ args.map a.eval)) w := by
        have hn' : fn.name ≠ "runtime.NumGoroutine" := by simpa using hn
        have hx : (#[Value.iface T (conc R d)] ++ args.map a.eval).extract 1 (#[Value.iface T (conc R d)] ++ args.map a.eval).size = args.map a.eval := by
          apply Array.ext'
          simp
          exact List.take_of_length_le (by simp)
        have h0 : (#[Value.iface T (conc R d)] ++ args.map a.eval)[0]? = some (Value.iface T (conc R d)) := by simp [Array.getElem?_append]
        simp only [execOp, Go.resolve, ← hf0, pure_bind, Go.invoke, h0, hx, Go.callMethod]
        rw [Sem.run_bind]
        simp only [run_program, Result.andThen_ok]
        rw [Sem.run_bind, hM]
        simp only [Result.andThen_ok, callFunc]
        simp [Sem.run_bind, hf, hn', hb]
      rw [hres]
      have hc := hrun F R w (conc R d :: args.toList.map a.eval) hl hs (fun X => by
        simp only [concL]
        rw [hds R a hsl]
        congr 1
        have := hfv X
        rw [← hf0] at this
        simpa [conc] using this)
      have he : (conc R d :: args.toList.map a.eval).toArray = #[conc R d] ++ args.map a.eval := by
        apply Array.ext'; simp
      rw [he] at hc
      refine hc.mono fun e w' ⟨d, H', X, v, hk, hev, hl', hv, hs', hsame⟩ => ?_
      exact ⟨v, hev, d, H', X, hk, hl', hv, hs', hsame⟩
    · split at h <;> try exact h.elim
      rename_i x i T U hx hT
      obtain ⟨d, hj, hd, h⟩ := valK_spec h
      obtain ⟨e, hej, he, h⟩ := valK_spec h
      have hu : ∃ kt et, P.underlying T = some (.map kt et) := by
        unfold mapDelK at h
        split at h <;> try exact h.elim
        exact ⟨_, _, ‹_›⟩
      obtain ⟨kt, et, hu⟩ := hu
      obtain ⟨H', hk, hl', hrun⟩ := mapDel_run (U := U) (ty := type) hu h
      refine Eff.w fun F R a w hl hsl hs => ?_
      obtain ⟨v, w', hr, hs', hsame⟩ := hrun F R w _ _ hl hs (hd R a hsl) (he R a hsl)
      refine ⟨_, H', hk, [], w', by simpa [hl'] using hl, by simpa using hs', hsame, .inl ⟨v, ?_, .inl rfl⟩⟩
      have hT' : ats = #[T, U] := by obtain ⟨l⟩ := ats; simp at hT; subst hT; rfl
      rw [BigFrame.execOp_builtin, BigFrame.builtin_delete, eval_args2 hx, hT']
      exact run_vw hr
    · rename_i f0
      obtain ⟨d, hj, hd, h⟩ := valK_spec h
      split at h <;> try exact h.elim
      rename_i f caps
      obtain ⟨ds, h, hds⟩ := listK_spec _ _ h
      have h := (appendDK_iff _ _ _).1 h
      obtain ⟨⟨fn, c, hf, hb, hn⟩, hrun⟩ := h
      intro F R a w hl hsl hs
      have hfv := hd R a hsl
      have hf0 := hfv.conc
      simp only [conc] at hf0
      have hres : (execOp a.eval ⟨dst, .call ⟨.value f0, args, ats⟩, type, pos, after, guard⟩).run P w = .ok (.enter f ((args.map a.eval) ++ (concL R caps).toArray)) w := by
        simp only [execOp, Go.resolve, ← hf0, Deferred.ofValue, pure_bind, Go.invoke, callFunc, Array.empty_append]
        have hn' : fn.name ≠ "runtime.NumGoroutine" := by simpa using hn
        simp [Sem.run_bind, hf, hn', hb]
      rw [hres]
      have hc := hrun F R w (args.toList.map a.eval ++ concL R caps) hl hs (fun X => by
        rw [concL_append, hds R a hsl]
        congr 1
        have := hfv X
        rw [← hf0] at this
        simpa [conc] using this)
      have he : (args.toList.map a.eval ++ concL R caps).toArray = args.map a.eval ++ (concL R caps).toArray := by
        apply Array.ext'; simp
      rw [he] at hc
      refine hc.mono fun e w' ⟨d, H', X, v, hk, hev, hl', hv, hs', hsame⟩ => ?_
      exact ⟨v, hev, d, H', X, hk, hl', hv, hs', hsame⟩
    · split at h <;> try exact h.elim
      rename_i x y T U hx hT
      obtain ⟨d, hj, hd, h⟩ := valK_spec h
      obtain ⟨e, hej, he, h⟩ := valK_spec h
      have hrun := appendK_spec (ty := type) hZ h
      refine Eff.w fun F R a w hl hsl hs => ?_
      obtain ⟨r, H', hrj, hk, X, v, w', hl', hs', hsame, hr, hi⟩ := hrun F R w _ _ hl hs (hd R a hsl) (he R a hsl)
      refine ⟨r, H', hk, X, w', hl', hs', hsame, .inl ⟨v, ?_, .inr hi⟩⟩
      have hT' : ats = #[T, U] := by obtain ⟨l⟩ := ats; simp at hT; subst hT; rfl
      rw [BigFrame.execOp_builtin, BigFrame.builtin_append, eval_args2 hx, hT']
      exact run_vw hr
    · split at h <;> try exact h.elim
      rename_i x y T U hx hT
      obtain ⟨d, hj, hd, h⟩ := valK_spec h
      obtain ⟨e, hej, he, h⟩ := valK_spec h
      obtain ⟨r, H', hrj, hk, hl', hrun⟩ := copyK_spec (P := P) (U := U) (ty := type) h
      refine Eff.w fun F R a w hl hsl hs => ?_
      obtain ⟨v, w', hs', hsame, hr, hi⟩ := hrun F R w _ _ hl hs (hd R a hsl) (he R a hsl)
      refine ⟨r, H', hk, [], w', by simpa [hl'] using hl, by simpa using hs', hsame, .inl ⟨v, ?_, .inr (by simpa using hi)⟩⟩
      have hT' : ats = #[T, U] := by obtain ⟨l⟩ := ats; simp at hT; subst hT; rfl
      rw [BigFrame.execOp_builtin, BigFrame.builtin_copy, eval_args2 hx, hT']
      exact run_vw hr
    · exact pureK_eff hZ h
    · exact pureK_eff hZ h
  · exact pureK_eff hZ h
end Go.Proofs.Ytdgnnboljgpcmaa.E
