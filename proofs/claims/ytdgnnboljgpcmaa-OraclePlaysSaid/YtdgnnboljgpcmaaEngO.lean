import Derived.Test.YtdgnnboljgpcmaaEngN
import Derived.Deep.Quiet
import Derived.Deep.LoopGhost
import Derived.StillTail
namespace Go.Proofs.Ytdgnnboljgpcmaa.E
open Go

/-! ### Regions whose order is drawn: a head that leaves alone what is owned, and a tail in order -/
section
variable {P : Program} {ops : Array Oper} {C : World → Prop}
def Heads (P : Program) (ops : Array Oper) (C : World → Prop) (n : Nat) (L : Array Bool → Act → Prop) : Nat → Array Bool → Act → Prop
  | 0, listed, a => L listed a
  | f + 1, listed, a => Region.ready .any ops listed ≠ [] ∧ ∀ i ∈ Region.ready .any ops listed, i < n ∧ qOp P ops C i (Heads P ops C n L f (listed.setIfInBounds i true)) a
theorem any_of_heads {n g : Nat} {L : Array Bool → Act → Prop} {Q : Exit → Act → World → Prop} (hL : ∀ listed a w, C w → L listed a → wpAny P .any ops Q g listed a w) :
    ∀ (f : Nat) (listed : Array Bool) (a : Act) (w : World), C w → Heads P ops C n L f listed a → wpAny P .any ops Q (f + g) listed a w
  | 0, listed, a, w, hw, h => by simpa using hL listed a w hw h
  | f + 1, listed, a, w, hw, h => by
    rw [Nat.succ_add]
    exact ⟨fun h0 => absurd h0 h.1, fun i hi => wpOp_of_qOp hw (fun a' w' hw' h' => any_of_heads hL f _ a' w' hw' h') (h.2 i hi).2⟩
theorem unlisted {listed : Array Bool} {i : Nat} (h : listed.getD i true = false) : listed.getD i false = false := getD_both h
theorem heads_first {n i : Nat} {oi : Oper} {v : Value} {L : Array Bool → Act → Prop} (hi : ops[i]? = some oi) (hsel : ∀ (j : Nat) (o : Oper) cs b, ops[j]? = some o → o.op ≠ .select cs b)
    (hs : Region.sinkB .any ops n = true) (hc : Region.chainB .any ops n = true) (hn : n < ops.size) (hin : i < n) (hL : ∀ listed a, L listed a → ∀ j ∈ Region.ready .any ops listed, n ≤ j) :
    ∀ (f : Nat) (listed : Array Bool) (a : Act), HeadInv .any ops n listed → Region.free .any ops listed i = true →
      i ∈ Region.ready .any ops listed → YieldsIn P ops C oi v a → Heads P ops C n L f (listed.setIfInBounds i true) (a.put oi.dst v) → Heads P ops C n L (f + 1) listed a := by
  have gen : ∀ (f : Nat) (listed : Array Bool) (a : Act), HeadInv .any ops n listed →
      (∀ j oj, ops[j]? = some oj → j ≠ i → listed.getD j true = false → (∀ e ∈ oj.after, Region.binds .any e = true → e.on ≠ i) → oi.apart ops oj = true) →
      i ∈ Region.ready .any ops listed → YieldsIn P ops C oi v a → Heads P ops C n L f (listed.setIfInBounds i true) (a.put oi.dst v) → Heads P ops C n L (f + 1) listed a := by
    intro f
    induction f with
    | zero =>
      intro listed a inv hfree hr hy H
      have hun := (mem_ready.1 hr).1
      refine ⟨List.ne_nil_of_mem hr, fun j hj => ?_⟩
      have hjn : j < n := Nat.lt_of_not_le fun h => tail_waits hs hc hn inv _ i rfl hin hun j h hj
      refine ⟨hjn, ?_⟩
      by_cases hji : j = i
      · subst hji; exact hy.qOp hi H
      · exact absurd (hL _ _ H j (ready_mono hj hji)) (by omega)
    | succ f ih =>
      intro listed a inv hfree hr hy H
      have hun := (mem_ready.1 hr).1
      refine ⟨List.ne_nil_of_mem hr, fun j hj => ?_⟩
      have hjn : j < n := Nat.lt_of_not_le fun h => tail_waits hs hc hn inv _ i rfl hin hun j h hj
      refine ⟨hjn, ?_⟩
      by_cases hji : j = i
      · subst hji; exact hy.qOp hi H
      · have hq := (H.2 j (ready_mono hj hji)).2
        obtain ⟨hjun, oj, hoj, hall⟩ := mem_ready.1 hj
        have hnot : ∀ e ∈ oj.after, Region.binds .any e = true → e.on ≠ i := fun e he hb heq => by
          have h1 := hall e he hb
          rw [heq, unlisted hun] at h1
          cases h1
        refine qOp_mono (fun a' h3 => ih (listed.setIfInBounds j true) a' (inv.set hj hjn) (fun k ok hk hki hun' hno => hfree k ok hk hki ?_ hno) (ready_mono hr (Ne.symm hji)) h3.1 ?_)
          (qOp_put hoj (hfree j oj hoj hji hjun hnot) (fun cs b => hsel i oi cs b hi) (fun cs b => hsel j oj cs b hoj) hy hq)
        · by_cases hjk : j = k
          · subst hjk; exact hjun
          · rw [getD_set_ne true hjk] at hun'; exact hun'
        · rw [Array.setIfInBounds_comm _ _ hji]
          exact h3.2
  exact fun f listed a inv hB hr hy H => gen f listed a inv (Region.free_spec hi hB) hr hy H
theorem heads_lex {n g : Nat} {Lq : Act → Prop} (hsel : Region.noSelect ops = true) (hs : Region.sinkB .any ops n = true) (hc : Region.chainB .any ops n = true) (hn : n < ops.size) :
    ∀ (l : List Oper) (k : Nat) (listed : Array Bool) (a : Act), (∀ j, j < l.length → l[j]? = ops[k + j]?) → k + l.length = n → HeadInv .any ops n listed → Region.lexHead .any ops g l.length k listed = true →
      wpQuiet P ops C Lq l a → Heads P ops C n (fun listed' a' => Region.seqB .any ops g n listed' = true ∧ Lq a') l.length listed a
  | [], k, listed, a, _, hk, _, hB, h => by
    simp only [List.length_nil, Nat.add_zero] at hk
    subst hk
    exact ⟨by simpa [Region.lexHead] using hB, h⟩
  | o :: l, k, listed, a, hl, hk, inv, hB, h => by
    have h0 : ops[k]? = some o := by simpa using (hl 0 (by simp)).symm
    simp only [List.length_cons, Region.lexHead, Bool.and_eq_true] at hB
    simp only [List.length_cons] at hk
    have hr : k ∈ Region.ready .any ops listed := by simpa using hB.1.1
    have hq : qOp P ops C k (wpQuiet P ops C Lq l) a := by unfold qOp; simp only [h0]; exact h
    obtain ⟨v, hy, hK⟩ := yieldsIn_of_qOp h0 hq
    refine heads_first h0 (Region.noSelect_spec hsel) hs hc hn (by omega) (fun _ _ hL => seqB_ready hL.1) l.length listed a inv hB.1.2 hr hy ?_
    exact heads_lex hsel hs hc hn l (k + 1) _ _ (fun j hj => by have := hl (j + 1) (by simp; omega); simpa [Nat.add_assoc, Nat.add_comm 1 j] using this) (by omega) (inv.set hr (by omega)) hB.2 hK
theorem region_quiet_tail {id : Nat} {Q : Exit → Act → World → Prop} {a : Act} {w : World} {l : List Oper} (n : Nat) (hm : P.follows .mixedOrders = true) (hB : Region.lexTailB .any l.toArray n = true) (hC : C { w with drawn := w.drawn + 1 })
    (h : wpQuiet P l.toArray C (fun a' => ∀ w', C w' → wpList P l.toArray Q (l.drop n) a' w') (l.take n) a) : (Code.region id l.toArray true).wp P Q a w := by
  simp only [Region.lexTailB, Bool.and_eq_true, decide_eq_true_eq] at hB
  obtain ⟨⟨⟨⟨hsel, hn⟩, hs⟩, hc⟩, hlex⟩ := hB
  have hn' : n < l.length := by simpa using hn
  have htl : (l.take n).length = n := by simp; omega
  have hdl : (l.drop n).length = l.toArray.size - n := by simp
  have inv0 : HeadInv .any l.toArray n (Array.replicate l.toArray.size false) := by
    refine ⟨by simp, fun j oj _ hl => ?_, fun t _ ht => getD_in (by simpa using ht) (getD_replicate_false _ _)⟩
    rw [getD_replicate_false] at hl; cases hl
  have H := heads_lex (P := P) (C := C) (g := l.toArray.size - n) hsel hs hc hn (l.take n) 0 _ a (fun j hj => by
    have hj' : j < n := by rw [htl] at hj; exact hj
    simp [hj']) (by simpa using htl) inv0 (by rw [htl]; exact hlex) h
  refine wp_region_any hm ?_
  have := any_of_heads (Q := Q) (g := l.toArray.size - n) (fun listed a' w' hw' hL => by
    have := wpAny_of_seq (md := .any) (Q' := Q) (l.drop n) n listed a' w' (fun j => by simp [List.getElem?_drop]) (by rw [hdl]; exact hL.1) (hL.2 w' hw')
    rwa [hdl] at this) _ _ _ _ hC H
  rw [htl, show n + (l.toArray.size - n) = l.toArray.size by omega] at this
  exact this
end

/-- A call that leaves all that is owned as it was, and whose result is known ahead. -/
structure QCallAt (P : Program) (f : FuncId) (ds : List D) (H : List SObj) (k : D → Prop) : Prop where
  fn : ∃ fn c, P.funcs[f]? = some fn ∧ fn.body = some c ∧ (fn.name == "runtime.NumGoroutine") = false
  run : ∃ d, isJunk d = false ∧ k d ∧ ∀ F R w vs, R.length = H.length → Sat (star (hpH R R H) F) w → IsL R ds vs → Is R d (conc R d) ∧ Calls P f vs.toArray w (fun e w' => e = .returned (conc R d) ∧ Sat (star (hpH R R H) F) w' ∧ Same w w')
def qeffK (P : Program) (Z : TypeId → D) (ts : List D) (H : List SObj) (op : Op) (k : D → Prop) : Prop :=
  match op with
  | .call c => match c.callee with
    | .value f => valK ts f fun f => match f with
      | .fn (.func f) caps => listK ts c.args.toList fun ds => appendDK ds caps fun ds => QCallAt P f ds H k
      | _ => False
    | .builtin .len => pureK P Z ts H op k
    | .builtin .min => pureK P Z ts H op k
    | _ => False
  | op => pureK P Z ts H op k
def quietStep (P : Program) (Z : TypeId → D) (all : List Oper) (H : List SObj) (o : Oper) (ih : List D → (List D → Prop) → Prop) (ts : List D) (k : List D → Prop) : Prop :=
  match o with
  | ⟨dst, op, _, _, _, g⟩ => guardK all ts g (fun ts => qeffK P Z ts H op fun d => dstK ts dst d fun ts => ih ts k) (fun ts => dstK ts dst (.tup []) fun ts => ih ts k)
noncomputable def quietK (P : Program) (Z : TypeId → D) (all : List Oper) (H : List SObj) (l : List Oper) : List D → (List D → Prop) → Prop :=
  List.rec (motive := fun _ => List D → (List D → Prop) → Prop) (fun ts k => k ts) (fun o _ ih => quietStep P Z all H o ih) l
def Owns (F : HP) (R : Env) (H : List SObj) (w0 w : World) : Prop := Sat (star (hpH R R H) F) w ∧ Same w0 w

theorem qeffK_spec {P : Program} {Z : TypeId → D} (hZ : Zeros P Z) {ts : List D} {H : List SObj} {o : Oper} {k : D → Prop} (h : qeffK P Z ts H o.op k) :
    ∃ d, isJunk d = false ∧ k d ∧ ∀ F R (a : Act) w0, R.length = H.length → Slots R ts a.tmps.toList → (∃ w, Owns F R H w0 w) → Is R d (conc R d) ∧ ∀ w, Owns F R H w0 w → o.quietAt P a (Owns F R H w0) w (conc R d) := by
  have hp : pureK P Z ts H o.op k → ∃ d, isJunk d = false ∧ k d ∧ ∀ F R (a : Act) w0, R.length = H.length → Slots R ts a.tmps.toList → (∃ w, Owns F R H w0 w) → Is R d (conc R d) ∧ ∀ w, Owns F R H w0 w → o.quietAt P a (Owns F R H w0) w (conc R d) := by
    intro h
    obtain ⟨d, hj, hk, hy⟩ := pureK_spec hZ h
    refine ⟨d, hj, hk, fun F R a w0 hl hsl ⟨w1, h1⟩ => ?_⟩
    obtain ⟨v, hv, hi⟩ := hy F R a w1 hl hsl h1.1
    refine ⟨hi.self, fun w hw => ?_⟩
    obtain ⟨v, hv, hi⟩ := hy F R a w hl hsl hw.1
    unfold Oper.quietAt
    rw [hv]
    exact ⟨rfl, hi.conc.symm⟩
  obtain ⟨dst, op, type, pos, after, guard⟩ := o
  simp only at h hp
  unfold qeffK at h
  split at h
  · rename_i c
    obtain ⟨callee, args, ats⟩ := c
    simp only at h
    split at h <;> try exact h.elim
    · rename_i f0
      obtain ⟨d, hj, hd, h⟩ := valK_spec h
      split at h <;> try exact h.elim
      rename_i f caps
      obtain ⟨ds, h, hds⟩ := listK_spec _ _ h
      have h := (appendDK_iff _ _ _).1 h
      obtain ⟨⟨fn, c, hf, hb, hn⟩, r, hrj, hk, hrun⟩ := h
      refine ⟨r, hrj, hk, fun F R a w0 hl hsl ⟨w1, h1⟩ => ?_⟩
      have hfv := hd R a hsl
      have hf0 := hfv.conc
      simp only [conc] at hf0
      have hres : ∀ w, (execOp a.eval ⟨dst, .call ⟨.value f0, args, ats⟩, type, pos, after, guard⟩).run P w = .ok (.enter f ((args.map a.eval) ++ (concL R caps).toArray)) w := by
        intro w
        simp only [execOp, Go.resolve, ← hf0, Deferred.ofValue, pure_bind, Go.invoke, callFunc, Array.empty_append]
        have hn' : fn.name ≠ "runtime.NumGoroutine" := by simpa using hn
        simp [Sem.run_bind, hf, hn', hb]
      have hargs : IsL R (ds ++ caps) (args.toList.map a.eval ++ concL R caps) := fun X => by
        rw [concL_append, hds R a hsl]
        congr 1
        have := hfv X
        rw [← hf0] at this
        simpa [conc] using this
      have he : (args.toList.map a.eval ++ concL R caps).toArray = args.map a.eval ++ (concL R caps).toArray := by
        apply Array.ext'; simp
      refine ⟨(hrun F R w1 _ hl h1.1 hargs).1, fun w hw => ?_⟩
      unfold Oper.quietAt
      rw [hres]
      have hc := (hrun F R w _ hl hw.1 hargs).2
      rw [he] at hc
      exact ⟨rfl, hc.mono fun e w' ⟨h1, h2, h3⟩ => ⟨h1, h2, hw.2.trans h3⟩⟩
    · exact hp h
    · exact hp h
  · exact hp h
theorem quietK_spec {P : Program} {Z : TypeId → D} (hZ : Zeros P Z) {all : List Oper} {H : List SObj} {F : HP} {R : Env} {w0 : World} (hl : R.length = H.length) (hne : ∃ w, Owns F R H w0 w) {k : List D → Prop} {Q : Act → Prop}
    (hQ : ∀ ts a, k ts → Slots R ts a.tmps.toList → a.defers = [] → Q a) : ∀ (l : List Oper) (ts : List D) (a : Act), Slots R ts a.tmps.toList → a.defers = [] → quietK P Z all H l ts k → wpQuiet P all.toArray (Owns F R H w0) Q l a
  | [], ts, a, hs, hd, h => hQ ts a h hs hd
  | o :: rest, ts, a, hs, hd, h => by
    have h : guardK all ts o.guard (fun ts => qeffK P Z ts H o.op fun d => dstK ts o.dst d fun ts => quietK P Z all H rest ts k) (fun ts => dstK ts o.dst (.tup []) fun ts => quietK P Z all H rest ts k) := h
    have put : ∀ (ts1 : List D) (dst : Option Tmp) (d : D) (v : Value) (k : List D → Prop), Slots R ts1 a.tmps.toList → Is R d v → dstK ts1 dst d k → ∃ ts', k ts' ∧ Slots R ts' (a.put dst v).tmps.toList ∧ (a.put dst v).defers = [] := by
      intro ts1 dst d v k hs1 hv hk
      unfold dstK at hk
      split at hk
      · exact ⟨ts1, hk, hs1, hd⟩
      · rename_i t
        obtain ⟨_, hk⟩ := setTK_iff _ _ _ _ hk
        refine ⟨_, hk, ?_, hd⟩
        rw [put_toList]
        exact Slots.set t hs1 (.inr hv)
    unfold wpQuiet
    rcases guardK_spec h hs with ⟨ts1, h1, hs1, hw⟩ | ⟨ts1, h1, hs1, hw⟩
    · rw [if_pos hw]
      obtain ⟨d, hj, hk, hq⟩ := qeffK_spec hZ h1
      obtain ⟨hi, hq⟩ := hq F R a w0 hl hs1 hne
      obtain ⟨ts', hk', hs', hd'⟩ := put ts1 o.dst d _ _ hs1 hi hk
      exact ⟨conc R d, hq, quietK_spec hZ hl hne hQ rest ts' _ hs' hd' hk'⟩
    · rw [if_neg (by simp [hw])]
      obtain ⟨ts', hk', hs', hd'⟩ := put ts1 o.dst (.tup []) undef _ hs1 (fun X => by simp [conc, concL, undef]) h1
      exact quietK_spec hZ hl hne hQ rest ts' _ hs' hd' hk'
end Go.Proofs.Ytdgnnboljgpcmaa.E
