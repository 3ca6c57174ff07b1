import Derived.Test.YtdgnnboljgpcmaaEngOm
namespace Go.Proofs.Ytdgnnboljgpcmaa.E
open Go

/-! ### Drawn regions whose last operation waits for all others -/
section
variable {P : Program} {ops : Array Oper} {Q : Exit → Act → World → Prop} {B : HP} {w0 : World}
def AnyT (P : Program) (ops : Array Oper) (Base : Array Bool → Act → HP → Prop) (B : HP) (w0 : World) : Nat → Array Bool → Act → HP → Prop
  | 0, listed, a, A => Base listed a A
  | f + 1, listed, a, A => ∀ w, Sat (star B A) w → Same w0 w → Region.ready .any ops listed ≠ [] ∧ ∀ i ∈ Region.ready .any ops listed,
      sOp P ops i (fun v w' => ∃ A', Sat (star B A') w' ∧ Same w0 w' ∧ AnyT P ops Base B w0 f (listed.setIfInBounds i true) (a.put (dstAt ops i) v) A') a w
def LastB (P : Program) (ops : Array Oper) (Q : Exit → Act → World → Prop) (B : HP) (w0 : World) (z n : Nat) (listed : Array Bool) (a : Act) (A : HP) : Prop :=
  Region.ready .any ops listed = [z] ∧ ∀ w, Sat (star B A) w → Same w0 w → wpAny P .any ops Q n listed a w
/-- This one stands ahead of it. -/
def Waits (ops : Array Oper) (z i : Nat) : Prop := ∀ listed, listed.getD i true = false → z ∉ Region.ready .any ops listed
def waitsB (ops : Array Oper) (z : Nat) (E : List Nat) : Bool := match ops[z]? with
  | none => false
  | some o => E.all fun i => o.after.any fun e => decide (e.on = i) && Region.binds .any e
theorem waits_of {z : Nat} {E : List Nat} (h : waitsB ops z E = true) : ∀ i ∈ E, Waits ops z i := by
  intro i hi listed hun hr
  unfold waitsB at h
  split at h
  · cases h
  · rename_i o ho
    obtain ⟨_, o', ho', hall⟩ := mem_ready.1 hr
    rw [ho] at ho'
    cases ho'
    obtain ⟨e, he, hb⟩ := Array.any_eq_true'.1 (List.all_eq_true.1 h i hi)
    simp only [Bool.and_eq_true, decide_eq_true_eq] at hb
    have h2 := hall e he hb.2
    rw [hb.1, unlisted hun] at h2
    cases h2
theorem any_of_anyT {z n : Nat} : ∀ (f : Nat) (listed : Array Bool) (a : Act) (A : HP) (w : World), Sat (star B A) w → Same w0 w → AnyT P ops (LastB P ops Q B w0 z n) B w0 f listed a A → wpAny P .any ops Q (f + n) listed a w
  | 0, listed, a, A, w, hs, hw, h => by rw [Nat.zero_add]; exact h.2 w hs hw
  | f + 1, listed, a, A, w, hs, hw, h => by
    obtain ⟨h1, h2⟩ := h w hs hw
    rw [Nat.succ_add]
    refine ⟨fun h0 => absurd h0 h1, fun i hi => ?_⟩
    have h3 := h2 i hi
    unfold sOp at h3
    unfold wpOp
    split
    · rename_i hn; rw [hn] at h3; exact h3.elim
    · rename_i o ho
      rw [ho] at h3
      have hd : dstAt ops i = o.dst := by simp [dstAt, ho]
      simp only at h3
      split at h3
      · rename_i hwant
        rw [if_pos hwant]
        refine .inl (stepOK.wp h3 fun v w' ⟨A', hs', hw', h'⟩ => ?_)
        rw [hd] at h'
        exact any_of_anyT f _ _ A' w' hs' hw' h'
      · rename_i hwant
        rw [if_neg hwant]
        obtain ⟨A', hs', hw', h'⟩ := h3
        rw [hd] at h'
        exact any_of_anyT f _ _ A' w hs' hw' h'
theorem anyT_first {z n : Nat} {i : Nat} (hz : Waits ops z i) {oi : Oper} {v : Value} (hi : ops[i]? = some oi) (hsel : ∀ (j : Nat) (o : Oper) cs b, ops[j]? = some o → o.op ≠ .select cs b) :
    ∀ (f : Nat) (listed : Array Bool) (a : Act) (A : HP), (∀ j oj, ops[j]? = some oj → j ≠ i → listed.getD j true = false → (∀ e ∈ oj.after, Region.binds .any e = true → e.on ≠ i) → oi.apart ops oj = true) →
      i ∈ Region.ready .any ops listed → QuietS P ops B w0 i v a → AnyT P ops (LastB P ops Q B w0 z n) B w0 f (listed.setIfInBounds i true) (a.put oi.dst v) A → AnyT P ops (LastB P ops Q B w0 z n) B w0 (f + 1) listed a A := by
  intro f
  induction f with
  | zero =>
    intro listed a A hfree hr hy H w hs hw
    refine ⟨List.ne_nil_of_mem hr, fun j hj => ?_⟩
    by_cases hji : j = i
    · subst hji
      refine sOp_mono (fun u w' ⟨hu, hs', hw'⟩ => ⟨A, hs', hw', ?_⟩) (hy A w hs hw)
      have hd : dstAt ops j = oi.dst := by simp [dstAt, hi]
      rw [hu, hd]; exact H
    · have := ready_mono hj hji
      rw [H.1] at this
      have hjz : j = z := by simpa using this
      subst hjz
      exact absurd hj (hz listed (mem_ready.1 hr).1)
  | succ f ih =>
    intro listed a A hfree hr hy H w hs hw
    refine ⟨List.ne_nil_of_mem hr, fun j hj => ?_⟩
    by_cases hji : j = i
    · subst hji
      refine sOp_mono (fun u w' ⟨hu, hs', hw'⟩ => ⟨A, hs', hw', ?_⟩) (hy A w hs hw)
      have hd : dstAt ops j = oi.dst := by simp [dstAt, hi]
      rw [hu, hd]; exact H
    · have h1 := (H w hs hw).2 j (ready_mono hj hji)
      obtain ⟨hjun, oj, hoj, hall⟩ := mem_ready.1 hj
      have hnot : ∀ e ∈ oj.after, Region.binds .any e = true → e.on ≠ i := fun e he hb heq => by
        have h2 := hall e he hb
        rw [heq, unlisted (mem_ready.1 hr).1] at h2
        cases h2
      obtain ⟨ap1, ap2, ap3⟩ := Oper.apart_spec (hfree j oj hoj hji hjun hnot)
      rw [sOp_put hoj (fun cs b => hsel j oj cs b hoj) ap1] at h1
      refine sOp_mono (fun u w' ⟨A', hs', hw', H'⟩ => ⟨A', hs', hw', ?_⟩) h1
      have hd : dstAt ops j = oj.dst := by simp [dstAt, hoj]
      rw [hd] at H' ⊢
      refine ih (listed.setIfInBounds j true) (a.put oj.dst u) A' (fun k ok hk hki hun' hno => hfree k ok hk hki ?_ hno) (ready_mono hr (Ne.symm hji)) ?_ ?_
      · by_cases hjk : j = k
        · subst hjk; exact hjun
        · rw [getD_set_ne true hjk] at hun'; exact hun'
      · intro A2 w2 hs2 hw2
        rw [sOp_put hi (fun cs b => hsel i oi cs b hi) ap3]
        exact hy A2 w2 hs2 hw2
      · rw [← Act.put_comm a v u ap2, Array.setIfInBounds_comm _ _ hji]
        exact H'
end
/-- .. those that come up in this order; then the last. -/
def lateZ (ops : Array Oper) (zs : List Nat) : List Nat → Array Bool → Bool
  | [], listed => lateB ops zs listed
  | i :: r, listed => decide (Region.ready .any ops listed = [i]) && lateZ ops zs r (listed.setIfInBounds i true)
def lastB (ops : Array Oper) (E L : List Nat) (z : Nat) (zr : List Nat) : Bool :=
  Region.noSelect ops && decide (E.length + L.length + (zr.length + 1) = ops.size) && earlyB ops E (Array.replicate ops.size false) && lateZ ops (z :: zr) L (setAll (Array.replicate ops.size false) E) && waitsB ops z E
theorem quiet_anyT {P : Program} {Z : TypeId → D} (hZ : Zeros P Z) {all : List Oper} {H : List SObj} {R : Env} {w0 : World} {Q : Exit → Act → World → Prop} {z n : Nat} (hl : R.length = H.length) (hsel : Region.noSelect all.toArray = true) {g : Nat} {A : HP} {k : List D → Prop} (hne : ∃ w, Sat (star (hpH R R H) A) w ∧ Same w0 w) :
    ∀ (E : List Nat) (listed : Array Bool) (ts : List D) (a : Act), (∀ ts a, k ts → Slots R ts a.tmps.toList → a.defers = [] → AnyT P all.toArray (LastB P all.toArray Q (hpH R R H) w0 z n) (hpH R R H) w0 g (setAll listed E) a A) → earlyB all.toArray E listed = true → (∀ i ∈ E, Waits all.toArray z i) → Slots R ts a.tmps.toList → a.defers = [] →
      quietK P Z all H (pickOps all E) ts k → AnyT P all.toArray (LastB P all.toArray Q (hpH R R H) w0 z n) (hpH R R H) w0 (E.length + g) listed a A
  | [], listed, ts, a, hk, hB, _, hs, hd, h => by
    have := hk ts a h hs hd
    rw [List.length_nil, Nat.zero_add]; exact this
  | i :: E, listed, ts, a, hk, hB, hE, hs, hd, h => by
    simp only [earlyB, Bool.and_eq_true] at hB
    obtain ⟨⟨hr, hf⟩, hB⟩ := hB
    have hr : i ∈ Region.ready .any all.toArray listed := by simpa using hr
    obtain ⟨_, o, ho, _⟩ := mem_ready.1 hr
    have ho' : nthO all i = some o := by rw [nthO_eq]; simpa using ho
    have hpick : pickOps all (i :: E) = o :: pickOps all E := by simp [pickOps, ho']
    rw [hpick] at h
    have h : guardK all ts o.guard (fun ts => qeffK P Z ts H o.op fun d => dstK ts o.dst d fun ts => quietK P Z all H (pickOps all E) ts k) (fun ts => dstK ts o.dst (.tup []) fun ts => quietK P Z all H (pickOps all E) ts k) := h
    have put : ∀ (ts1 : List D) (dst : Option Tmp) (d : D) (v : Value) (k : List D → Prop), Slots R ts1 a.tmps.toList → Is R d v → dstK ts1 dst d k → ∃ ts', k ts' ∧ Slots R ts' (a.put dst v).tmps.toList ∧ (a.put dst v).defers = [] := by
      intro ts1 dst d v k hs1 hv hk
      unfold dstK at hk
      split at hk
      · exact ⟨ts1, hk, hs1, hd⟩
      · rename_i t
        obtain ⟨_, hk⟩ := setTK_iff _ _ _ _ hk
        refine ⟨_, hk, ?_, hd⟩
        rw [put_toList]
        exact Slots.set t hs1 (.inr hv)
    rw [show (i :: E).length + g = (E.length + g) + 1 by simp; omega]
    rcases guardK_spec h hs with ⟨ts1, h1, hs1, hw⟩ | ⟨ts1, h1, hs1, hw⟩
    · obtain ⟨d, hj, hkd, hq⟩ := qeffK_spec hZ h1
      obtain ⟨w1, hw1⟩ := hne
      obtain ⟨hi, _⟩ := hq A R a w0 hl hs1 ⟨w1, hw1⟩
      obtain ⟨ts', hk', hs', hd'⟩ := put ts1 o.dst d _ _ hs1 hi hkd
      refine anyT_first (hE i (by simp)) ho (Region.noSelect_spec hsel) (E.length + g) listed a A (Region.free_spec ho hf) hr (v := conc R d) ?_ ?_
      · intro A2 w2 hs2 hw2
        unfold sOp
        rw [ho]
        simp only
        rw [if_pos hw]
        have hqq := (hq A2 R a w0 hl hs1 ⟨w2, hs2, hw2⟩).2 w2 ⟨hs2, hw2⟩
        unfold Oper.quietAt at hqq
        generalize (execOp a.eval o).run P w2 = r at hqq
        cases r with
        | halt x w' => simp only [Oper.quietUpon] at hqq
        | ok n w' =>
          cases n <;> simp only [Oper.quietUpon] at hqq <;> try exact hqq.elim
          · obtain ⟨rfl, rfl⟩ := hqq; exact ⟨rfl, hs2, hw2⟩
          · obtain ⟨rfl, hqv⟩ := hqq; exact ⟨hqv.symm, hs2, hw2⟩
          · obtain ⟨rfl, hc⟩ := hqq
            exact hc.mono fun e w'' ⟨he, h3⟩ => ⟨_, he, rfl, h3.1, h3.2⟩
      · exact quiet_anyT hZ hl hsel ⟨w1, hw1⟩ E _ ts' _ hk hB (fun j hj => hE j (by simp [hj])) hs' hd' hk'
    · obtain ⟨ts', hk', hs', hd'⟩ := put ts1 o.dst (.tup []) undef _ hs1 (fun X => by simp [conc, concL, undef]) h1
      refine anyT_first (hE i (by simp)) ho (Region.noSelect_spec hsel) (E.length + g) listed a A (Region.free_spec ho hf) hr (v := undef) ?_ ?_
      · intro A2 w2 hs2 hw2
        unfold sOp
        rw [ho]
        simp only
        rw [if_neg (by simp [hw])]
        exact ⟨trivial, hs2, hw2⟩
      · exact quiet_anyT hZ hl hsel hne E _ ts' _ hk hB (fun j hj => hE j (by simp [hj])) hs' hd' hk'

theorem late_anyT {P : Program} {Z : TypeId → D} (hZ : Zeros P Z) {all : List Oper} {B F : HP} {R0 : Env} {w0 : World} {Q : Exit → Act → World → Prop} {k : St → Prop} {z n : Nat} {zr : List Nat}
    (hQ : ∀ listed ts H R a w, lateB all.toArray (z :: zr) listed = true → k ⟨ts, H⟩ → (∃ X, R = R0 ++ X) → R.length = H.length → Slots R ts a.tmps.toList → a.defers = [] → Sat (star B (star (hpH R R H) F)) w → Same w0 w → wpAny P .any all.toArray Q n listed a w) :
    ∀ (L : List Nat) (listed : Array Bool) (ts : List D) (H : List SObj) (R : Env) (a : Act), (∃ X, R = R0 ++ X) → R.length = H.length → Slots R ts a.tmps.toList → a.defers = [] → lateZ all.toArray (z :: zr) L listed = true →
      opsK P Z all (pickOps all L) ⟨ts, H⟩ k → AnyT P all.toArray (LastB P all.toArray Q B w0 z n) B w0 L.length listed a (star (hpH R R H) F)
  | [], listed, ts, H, R, a, hX, hl, hs, hd, hB, h => ⟨by simp only [lateZ, lateB, Bool.and_eq_true, decide_eq_true_eq] at hB; exact hB.1, fun w hsat hw => hQ listed ts H R a w hB h hX hl hs hd hsat hw⟩
  | i :: L, listed, ts, H, R, a, hX, hl, hs, hd, hB, h => by
    simp only [lateZ, Bool.and_eq_true, decide_eq_true_eq] at hB
    obtain ⟨hr, hB⟩ := hB
    intro w hsat hw
    refine ⟨by rw [hr]; simp, fun j hj => ?_⟩
    rw [hr] at hj
    have hji : j = i := by simpa using hj
    subst hji
    have hr' : j ∈ Region.ready .any all.toArray listed := by rw [hr]; simp
    obtain ⟨_, o, ho, _⟩ := mem_ready.1 hr'
    have ho' : nthO all j = some o := by rw [nthO_eq]; simpa using ho
    have hpick : pickOps all (j :: L) = o :: pickOps all L := by simp [pickOps, ho']
    rw [hpick] at h
    have h : guardK all ts o.guard (fun ts => effK P Z ts H o.op fun d H => dstK ts o.dst d fun ts => opsK P Z all (pickOps all L) ⟨ts, H⟩ k) (fun ts => dstK ts o.dst (.tup []) fun ts => opsK P Z all (pickOps all L) ⟨ts, H⟩ k) := h
    have hdst : dstAt all.toArray j = o.dst := by simp [dstAt, ho]
    obtain ⟨X0, hX0⟩ := hX
    have put : ∀ (X : Env) (ts1 : List D) (dst : Option Tmp) (d : D) (v : Value) (k : List D → Prop), Slots R ts1 a.tmps.toList → (isJunk d = true ∨ Is (R ++ X) d v) → dstK ts1 dst d k → ∃ ts', k ts' ∧ Slots (R ++ X) ts' (a.put dst v).tmps.toList ∧ (a.put dst v).defers = [] := by
      intro X ts1 dst d v k hs1 hv hk
      unfold dstK at hk
      split at hk
      · exact ⟨ts1, hk, hs1.ext X, hd⟩
      · rename_i t
        obtain ⟨_, hk⟩ := setTK_iff _ _ _ _ hk
        refine ⟨_, hk, ?_, hd⟩
        rw [put_toList]
        exact Slots.set t (hs1.ext X) hv
    unfold sOp
    rw [ho]
    simp only
    rcases guardK_spec h hs with ⟨ts1, h1, hs1, hwant⟩ | ⟨ts1, h1, hs1, hwant⟩
    · rw [if_pos hwant]
      refine stepOK.mono ?_ (effK_spec hZ h1 (star B F) R a w hl hs1 (hsat.mono (star_left _ _ _)))
      rintro v w' ⟨d, H', X, hk, hl', hv, hs', hsame⟩
      obtain ⟨ts', hk', hs2, hd2⟩ := put X ts1 o.dst d v _ hs1 hv hk
      refine ⟨star (hpH (R ++ X) (R ++ X) H') F, hs'.mono (star_left _ _ _), hw.trans hsame, ?_⟩
      rw [hdst]
      exact late_anyT hZ hQ L _ ts' H' (R ++ X) _ ⟨X0 ++ X, by rw [hX0]; simp⟩ hl' hs2 hd2 hB hk'
    · rw [if_neg (by simp [hwant])]
      obtain ⟨ts', hk', hs2, hd2⟩ := put [] ts1 o.dst (.tup []) undef _ hs1 (.inr fun X => by simp [conc, concL, undef]) h1
      simp only [List.append_nil] at hs2
      refine ⟨star (hpH R R H) F, hsat, hw, ?_⟩
      rw [hdst]
      exact late_anyT hZ hQ L _ ts' H R _ ⟨X0, hX0⟩ hl hs2 hd2 hB hk'


theorem region_last {P : Program} {Z : TypeId → D} (hZ : Zeros P Z) (hm : P.follows .mixedOrders = true) {id : Nat} {all : List Oper} {Q : Exit → Act → World → Prop} {F : HP} {w0 : World} {R0 : Env} {ts : List D} {H : List SObj} {R : Env} {a : Act} {w : World} {k : St → Prop}
    (hQ : ∀ st R a w, k st → Rep F w0 R0 st R a w → Q .normal a w) (E L : List Nat) (z : Nat) (zr mods : List Nat) (hB : lastB all.toArray E L z zr = true) (hr : Rep F w0 R0 ⟨ts, H⟩ R a w)
    (h : maskK mods 0 H fun m r => quietK P Z all r (pickOps all E) ts fun ts => opsK P Z all (pickOps all L) ⟨ts, m⟩ fun st => match st with
      | ⟨ts, H⟩ => mergeK H r fun H => opsK P Z all (pickOps all (z :: zr)) ⟨ts, H⟩ k) : (Code.region id all.toArray true).wp P Q a w := by
  simp only [lastB, Bool.and_eq_true, decide_eq_true_eq] at hB
  obtain ⟨⟨⟨⟨hsel, hlen⟩, hE⟩, hL⟩, hwz⟩ := hB
  have hz := waits_of hwz
  obtain ⟨m, r, h, hml, hrl, himp⟩ := maskK_spec R mods 0 H R _ h
  have hl := hr.len
  simp only at hl
  have hsat : Sat (star (hpH R R r) (star (hpH R R m) F)) { w with drawn := w.drawn + 1 } :=
    (hr.sat.heap rfl).mono ((star_mono himp (Imp.refl F)).trans (star_assoc _ _ _))
  have hsame : Same w0 { w with drawn := w.drawn + 1 } := hr.same.trans ⟨rfl, rfl, rfl, Nat.le_refl _⟩
  refine wp_region_any hm ?_
  have hany := quiet_anyT hZ (Q := Q) (w0 := w0) (z := z) (n := zr.length + 1) (g := L.length) (A := star (hpH R R m) F) (by rw [hl, hrl]) hsel ⟨_, hsat, hsame⟩ E (Array.replicate all.toArray.size false) ts a
    (fun ts1 a1 hk hs hd => late_anyT hZ (Q := Q) (R0 := R) (fun listed ts2 H2 R2 a2 w2 hlt hk2 hX hl2 hs2 hd2 hsat2 hw2 => ?_) L _ ts1 m R a1 ⟨[], by simp⟩ (by rw [hl, hml]) hs hd hL hk) hE hz hr.slots hr.defers h
  · have := any_of_anyT _ _ _ _ _ hsat hsame hany
    rwa [hlen] at this
  · obtain ⟨X, hX⟩ := hX
    subst hX
    obtain ⟨H3, hk3, hl3, himp3⟩ := mergeK_spec (R ++ X) H2 r (R ++ X) _ hl2 hk2
    have e : (R ++ X).take r.length = R := by rw [hrl, ← hl]; simp
    rw [e] at himp3
    have hsat3 : Sat (star emp (star (hpH (R ++ X) (R ++ X) H3) F)) w2 := (hsat2.mono ((star_mono (hpH_ext R X R r) (Imp.refl _)).trans ((star_assoc' _ _ _).trans (star_mono himp3 (Imp.refl F))))).emp_left
    have hfin := late_anyS hZ (B := emp) (F := F) (w0 := w0) (Q := Q) (R0 := R ++ X) (k := k) (fun ts4 H4 R4 a4 w4 hk4 hX4 hl4 hs4 hd4 hsat4 hw4 => by
      obtain ⟨X4, rfl⟩ := hX4
      obtain ⟨Y, hY⟩ := hr.pre
      exact hQ _ _ _ _ hk4 ⟨⟨Y ++ X ++ X4, by rw [hY]; simp⟩, hl4, hs4, hd4, hsat4.right, hw4⟩) (z :: zr) listed ts2 H3 (R ++ X) a2 ⟨[], by simp⟩ (by rw [hl2, hl3]) hs2 hd2 hlt hk3
    exact any_of_anyS _ _ _ _ _ hsat3 hw2 hfin
end Go.Proofs.Ytdgnnboljgpcmaa.E
