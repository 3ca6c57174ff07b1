import Derived.Test.YtdgnnboljgpcmaaEngO
namespace Go.Proofs.Ytdgnnboljgpcmaa.E
open Go

/-! ### Drawn regions in which quiet operations may come up among those that write -/
section
variable {P : Program} {ops : Array Oper} {Q : Exit → Act → World → Prop} {B : HP} {w0 : World}
def sOp (P : Program) (ops : Array Oper) (i : Nat) (K : Value → World → Prop) (a : Act) (w : World) : Prop :=
  match ops[i]? with
  | none => False
  | some o => if Region.wanted o (yielded ops a.tmps) then stepOK P K ((execOp a.eval o).run P w) else K undef w
def dstAt (ops : Array Oper) (i : Nat) : Option Tmp := (ops[i]?).bind (·.dst)
def AnyS (P : Program) (ops : Array Oper) (Q : Exit → Act → World → Prop) (B : HP) (w0 : World) : Nat → Array Bool → Act → HP → Prop
  | 0, listed, a, A => Region.ready .any ops listed = [] ∧ ∀ w, Sat (star B A) w → Same w0 w → Q .normal a w
  | f + 1, listed, a, A => ∀ w, Sat (star B A) w → Same w0 w → Region.ready .any ops listed ≠ [] ∧ ∀ i ∈ Region.ready .any ops listed,
      sOp P ops i (fun v w' => ∃ A', Sat (star B A') w' ∧ Same w0 w' ∧ AnyS P ops Q B w0 f (listed.setIfInBounds i true) (a.put (dstAt ops i) v) A') a w
theorem sOp_mono {i : Nat} {K K' : Value → World → Prop} {a : Act} {w : World} (h : ∀ v w, K v w → K' v w) (hs : sOp P ops i K a w) : sOp P ops i K' a w := by
  unfold sOp at hs ⊢
  split at hs
  · exact hs.elim
  · split at hs
    · rename_i hw; rw [if_pos hw]; exact stepOK.mono h hs
    · rename_i hw; rw [if_neg hw]; exact h _ _ hs
theorem any_of_anyS : ∀ (f : Nat) (listed : Array Bool) (a : Act) (A : HP) (w : World), Sat (star B A) w → Same w0 w → AnyS P ops Q B w0 f listed a A → wpAny P .any ops Q f listed a w
  | 0, listed, a, A, w, hs, hw, h => ⟨h.1, h.2 w hs hw⟩
  | f + 1, listed, a, A, w, hs, hw, h => by
    obtain ⟨h1, h2⟩ := h w hs hw
    refine ⟨fun h0 => absurd h0 h1, fun i hi => ?_⟩
    have h3 := h2 i hi
    unfold sOp at h3
    unfold wpOp
    split
    · rename_i hn; rw [hn] at h3; exact h3.elim
    · rename_i o ho
      rw [ho] at h3
      have hd : dstAt ops i = o.dst := by simp [dstAt, ho]
      simp only at h3
      split at h3
      · rename_i hwant
        rw [if_pos hwant]
        refine .inl (stepOK.wp h3 fun v w' ⟨A', hs', hw', h'⟩ => ?_)
        rw [hd] at h'
        exact any_of_anyS f _ _ A' w' hs' hw' h'
      · rename_i hwant
        rw [if_neg hwant]
        obtain ⟨A', hs', hw', h'⟩ := h3
        rw [hd] at h'
        exact any_of_anyS f _ _ A' w hs' hw' h'
def QuietS (P : Program) (ops : Array Oper) (B : HP) (w0 : World) (i : Nat) (v : Value) (a : Act) : Prop :=
  ∀ A w, Sat (star B A) w → Same w0 w → sOp P ops i (fun u w' => u = v ∧ Sat (star B A) w' ∧ Same w0 w') a w
theorem sOp_put {i : Nat} {o : Oper} (hi : ops[i]? = some o) (hsel : ∀ cs b, o.op ≠ .select cs b) {dst : Option Tmp} {u : Value} (h : ∀ d, dst = some d → d ∉ o.looksAt ops) {K : Value → World → Prop} {a : Act} {w : World} :
    sOp P ops i K (a.put dst u) w = sOp P ops i K a w := by
  unfold sOp
  rw [hi]
  simp only
  rw [wanted_put o a dst u h, execOp_put o hsel a dst u h]
theorem anyS_first {i : Nat} {oi : Oper} {v : Value} (hi : ops[i]? = some oi) (hsel : ∀ (j : Nat) (o : Oper) cs b, ops[j]? = some o → o.op ≠ .select cs b) :
    ∀ (f : Nat) (listed : Array Bool) (a : Act) (A : HP), (∀ j oj, ops[j]? = some oj → j ≠ i → listed.getD j true = false → (∀ e ∈ oj.after, Region.binds .any e = true → e.on ≠ i) → oi.apart ops oj = true) →
      i ∈ Region.ready .any ops listed → QuietS P ops B w0 i v a → AnyS P ops Q B w0 f (listed.setIfInBounds i true) (a.put oi.dst v) A → AnyS P ops Q B w0 (f + 1) listed a A := by
  intro f
  induction f with
  | zero =>
    intro listed a A hfree hr hy H w hs hw
    refine ⟨List.ne_nil_of_mem hr, fun j hj => ?_⟩
    by_cases hji : j = i
    · subst hji
      refine sOp_mono (fun u w' ⟨hu, hs', hw'⟩ => ⟨A, hs', hw', ?_⟩) (hy A w hs hw)
      have hd : dstAt ops j = oi.dst := by simp [dstAt, hi]
      rw [hu, hd]; exact H
    · have := ready_mono hj hji
      rw [H.1] at this
      cases this
  | succ f ih =>
    intro listed a A hfree hr hy H w hs hw
    refine ⟨List.ne_nil_of_mem hr, fun j hj => ?_⟩
    by_cases hji : j = i
    · subst hji
      refine sOp_mono (fun u w' ⟨hu, hs', hw'⟩ => ⟨A, hs', hw', ?_⟩) (hy A w hs hw)
      have hd : dstAt ops j = oi.dst := by simp [dstAt, hi]
      rw [hu, hd]; exact H
    · have h1 := (H w hs hw).2 j (ready_mono hj hji)
      obtain ⟨hjun, oj, hoj, hall⟩ := mem_ready.1 hj
      have hnot : ∀ e ∈ oj.after, Region.binds .any e = true → e.on ≠ i := fun e he hb heq => by
        have h2 := hall e he hb
        rw [heq, unlisted (mem_ready.1 hr).1] at h2
        cases h2
      obtain ⟨ap1, ap2, ap3⟩ := Oper.apart_spec (hfree j oj hoj hji hjun hnot)
      rw [sOp_put hoj (fun cs b => hsel j oj cs b hoj) ap1] at h1
      refine sOp_mono (fun u w' ⟨A', hs', hw', H'⟩ => ⟨A', hs', hw', ?_⟩) h1
      have hd : dstAt ops j = oj.dst := by simp [dstAt, hoj]
      rw [hd] at H' ⊢
      refine ih (listed.setIfInBounds j true) (a.put oj.dst u) A' (fun k ok hk hki hun' hno => hfree k ok hk hki ?_ hno) (ready_mono hr (Ne.symm hji)) ?_ ?_
      · by_cases hjk : j = k
        · subst hjk; exact hjun
        · rw [getD_set_ne true hjk] at hun'; exact hun'
      · intro A2 w2 hs2 hw2
        rw [sOp_put hi (fun cs b => hsel i oi cs b hi) ap3]
        exact hy A2 w2 hs2 hw2
      · rw [← Act.put_comm a v u ap2, Array.setIfInBounds_comm _ _ hji]
        exact H'
end

def nthO : List Oper → Nat → Option Oper
  | [], _ => none
  | o :: _, 0 => some o
  | _ :: l, i + 1 => nthO l i
theorem nthO_eq : ∀ (l : List Oper) (i : Nat), nthO l i = l[i]?
  | [], _ => by simp [nthO]
  | _ :: _, 0 => rfl
  | _ :: l, i + 1 => by simpa [nthO] using nthO_eq l i
def pickOps (all : List Oper) : List Nat → List Oper
  | [] => []
  | i :: r => match nthO all i with
    | some o => o :: pickOps all r
    | none => []
def setAll (listed : Array Bool) : List Nat → Array Bool
  | [] => listed
  | i :: r => setAll (listed.setIfInBounds i true) r
def earlyB (ops : Array Oper) : List Nat → Array Bool → Bool
  | [], _ => true
  | i :: r, listed => (Region.ready .any ops listed).contains i && Region.free .any ops listed i && earlyB ops r (listed.setIfInBounds i true)
def lateB (ops : Array Oper) : List Nat → Array Bool → Bool
  | [], listed => (Region.ready .any ops listed).isEmpty
  | i :: r, listed => decide (Region.ready .any ops listed = [i]) && lateB ops r (listed.setIfInBounds i true)
/-- The order to walk in: first these (quiet), then those, which come up in this order. -/
def mixedB (ops : Array Oper) (E L : List Nat) : Bool :=
  Region.noSelect ops && decide (E.length + L.length = ops.size) && earlyB ops E (Array.replicate ops.size false) && lateB ops L (setAll (Array.replicate ops.size false) E)

theorem quiet_anyS {P : Program} {Z : TypeId → D} (hZ : Zeros P Z) {all : List Oper} {H : List SObj} {R : Env} {w0 : World} {Q : Exit → Act → World → Prop} (hl : R.length = H.length) (hsel : Region.noSelect all.toArray = true) {g : Nat} {A : HP} {k : List D → Prop} (hne : ∃ w, Sat (star (hpH R R H) A) w ∧ Same w0 w) :
    ∀ (E : List Nat) (listed : Array Bool) (ts : List D) (a : Act), (∀ ts a, k ts → Slots R ts a.tmps.toList → a.defers = [] → AnyS P all.toArray Q (hpH R R H) w0 g (setAll listed E) a A) → earlyB all.toArray E listed = true → Slots R ts a.tmps.toList → a.defers = [] →
      quietK P Z all H (pickOps all E) ts k → AnyS P all.toArray Q (hpH R R H) w0 (E.length + g) listed a A
  | [], listed, ts, a, hk, hB, hs, hd, h => by
    have := hk ts a h hs hd
    rw [List.length_nil, Nat.zero_add]; exact this
  | i :: E, listed, ts, a, hk, hB, hs, hd, h => by
    simp only [earlyB, Bool.and_eq_true] at hB
    obtain ⟨⟨hr, hf⟩, hB⟩ := hB
    have hr : i ∈ Region.ready .any all.toArray listed := by simpa using hr
    obtain ⟨_, o, ho, _⟩ := mem_ready.1 hr
    have ho' : nthO all i = some o := by rw [nthO_eq]; simpa using ho
    have hpick : pickOps all (i :: E) = o :: pickOps all E := by simp [pickOps, ho']
    rw [hpick] at h
    have h : guardK all ts o.guard (fun ts => qeffK P Z ts H o.op fun d => dstK ts o.dst d fun ts => quietK P Z all H (pickOps all E) ts k) (fun ts => dstK ts o.dst (.tup []) fun ts => quietK P Z all H (pickOps all E) ts k) := h
    have put : ∀ (ts1 : List D) (dst : Option Tmp) (d : D) (v : Value) (k : List D → Prop), Slots R ts1 a.tmps.toList → Is R d v → dstK ts1 dst d k → ∃ ts', k ts' ∧ Slots R ts' (a.put dst v).tmps.toList ∧ (a.put dst v).defers = [] := by
      intro ts1 dst d v k hs1 hv hk
      unfold dstK at hk
      split at hk
      · exact ⟨ts1, hk, hs1, hd⟩
      · rename_i t
        obtain ⟨_, hk⟩ := setTK_iff _ _ _ _ hk
        refine ⟨_, hk, ?_, hd⟩
        rw [put_toList]
        exact Slots.set t hs1 (.inr hv)
    rw [show (i :: E).length + g = (E.length + g) + 1 by simp; omega]
    rcases guardK_spec h hs with ⟨ts1, h1, hs1, hw⟩ | ⟨ts1, h1, hs1, hw⟩
    · obtain ⟨d, hj, hkd, hq⟩ := qeffK_spec hZ h1
      obtain ⟨w1, hw1⟩ := hne
      obtain ⟨hi, _⟩ := hq A R a w0 hl hs1 ⟨w1, hw1⟩
      obtain ⟨ts', hk', hs', hd'⟩ := put ts1 o.dst d _ _ hs1 hi hkd
      refine anyS_first ho (Region.noSelect_spec hsel) (E.length + g) listed a A (Region.free_spec ho hf) hr (v := conc R d) ?_ ?_
      · intro A2 w2 hs2 hw2
        unfold sOp
        rw [ho]
        simp only
        rw [if_pos hw]
        have hqq := (hq A2 R a w0 hl hs1 ⟨w2, hs2, hw2⟩).2 w2 ⟨hs2, hw2⟩
        unfold Oper.quietAt at hqq
        generalize (execOp a.eval o).run P w2 = r at hqq
        cases r with
        | halt x w' => simp only [Oper.quietUpon] at hqq
        | ok n w' =>
          cases n <;> simp only [Oper.quietUpon] at hqq <;> try exact hqq.elim
          · obtain ⟨rfl, rfl⟩ := hqq; exact ⟨rfl, hs2, hw2⟩
          · obtain ⟨rfl, hqv⟩ := hqq; exact ⟨hqv.symm, hs2, hw2⟩
          · obtain ⟨rfl, hc⟩ := hqq
            exact hc.mono fun e w'' ⟨he, h3⟩ => ⟨_, he, rfl, h3.1, h3.2⟩
      · exact quiet_anyS hZ hl hsel ⟨w1, hw1⟩ E _ ts' _ hk hB hs' hd' hk'
    · obtain ⟨ts', hk', hs', hd'⟩ := put ts1 o.dst (.tup []) undef _ hs1 (fun X => by simp [conc, concL, undef]) h1
      refine anyS_first ho (Region.noSelect_spec hsel) (E.length + g) listed a A (Region.free_spec ho hf) hr (v := undef) ?_ ?_
      · intro A2 w2 hs2 hw2
        unfold sOp
        rw [ho]
        simp only
        rw [if_neg (by simp [hw])]
        exact ⟨trivial, hs2, hw2⟩
      · exact quiet_anyS hZ hl hsel hne E _ ts' _ hk hB hs' hd' hk'

theorem late_anyS {P : Program} {Z : TypeId → D} (hZ : Zeros P Z) {all : List Oper} {B F : HP} {R0 : Env} {w0 : World} {Q : Exit → Act → World → Prop} {k : St → Prop}
    (hQ : ∀ ts H R a w, k ⟨ts, H⟩ → (∃ X, R = R0 ++ X) → R.length = H.length → Slots R ts a.tmps.toList → a.defers = [] → Sat (star B (star (hpH R R H) F)) w → Same w0 w → Q .normal a w) :
    ∀ (L : List Nat) (listed : Array Bool) (ts : List D) (H : List SObj) (R : Env) (a : Act), (∃ X, R = R0 ++ X) → R.length = H.length → Slots R ts a.tmps.toList → a.defers = [] → lateB all.toArray L listed = true →
      opsK P Z all (pickOps all L) ⟨ts, H⟩ k → AnyS P all.toArray Q B w0 L.length listed a (star (hpH R R H) F)
  | [], listed, ts, H, R, a, hX, hl, hs, hd, hB, h => ⟨by simpa [lateB] using hB, fun w hsat hw => hQ ts H R a w h hX hl hs hd hsat hw⟩
  | i :: L, listed, ts, H, R, a, hX, hl, hs, hd, hB, h => by
    simp only [lateB, Bool.and_eq_true, decide_eq_true_eq] at hB
    obtain ⟨hr, hB⟩ := hB
    intro w hsat hw
    refine ⟨by rw [hr]; simp, fun j hj => ?_⟩
    rw [hr] at hj
    have hji : j = i := by simpa using hj
    subst hji
    have hr' : j ∈ Region.ready .any all.toArray listed := by rw [hr]; simp
    obtain ⟨_, o, ho, _⟩ := mem_ready.1 hr'
    have ho' : nthO all j = some o := by rw [nthO_eq]; simpa using ho
    have hpick : pickOps all (j :: L) = o :: pickOps all L := by simp [pickOps, ho']
    rw [hpick] at h
    have h : guardK all ts o.guard (fun ts => effK P Z ts H o.op fun d H => dstK ts o.dst d fun ts => opsK P Z all (pickOps all L) ⟨ts, H⟩ k) (fun ts => dstK ts o.dst (.tup []) fun ts => opsK P Z all (pickOps all L) ⟨ts, H⟩ k) := h
    have hdst : dstAt all.toArray j = o.dst := by simp [dstAt, ho]
    obtain ⟨X0, hX0⟩ := hX
    have put : ∀ (X : Env) (ts1 : List D) (dst : Option Tmp) (d : D) (v : Value) (k : List D → Prop), Slots R ts1 a.tmps.toList → (isJunk d = true ∨ Is (R ++ X) d v) → dstK ts1 dst d k → ∃ ts', k ts' ∧ Slots (R ++ X) ts' (a.put dst v).tmps.toList ∧ (a.put dst v).defers = [] := by
      intro X ts1 dst d v k hs1 hv hk
      unfold dstK at hk
      split at hk
      · exact ⟨ts1, hk, hs1.ext X, hd⟩
      · rename_i t
        obtain ⟨_, hk⟩ := setTK_iff _ _ _ _ hk
        refine ⟨_, hk, ?_, hd⟩
        rw [put_toList]
        exact Slots.set t (hs1.ext X) hv
    unfold sOp
    rw [ho]
    simp only
    rcases guardK_spec h hs with ⟨ts1, h1, hs1, hwant⟩ | ⟨ts1, h1, hs1, hwant⟩
    · rw [if_pos hwant]
      refine stepOK.mono ?_ (effK_spec hZ h1 (star B F) R a w hl hs1 (hsat.mono (star_left _ _ _)))
      rintro v w' ⟨d, H', X, hk, hl', hv, hs', hsame⟩
      obtain ⟨ts', hk', hs2, hd2⟩ := put X ts1 o.dst d v _ hs1 hv hk
      refine ⟨star (hpH (R ++ X) (R ++ X) H') F, hs'.mono (star_left _ _ _), hw.trans hsame, ?_⟩
      rw [hdst]
      exact late_anyS hZ hQ L _ ts' H' (R ++ X) _ ⟨X0 ++ X, by rw [hX0]; simp⟩ hl' hs2 hd2 hB hk'
    · rw [if_neg (by simp [hwant])]
      obtain ⟨ts', hk', hs2, hd2⟩ := put [] ts1 o.dst (.tup []) undef _ hs1 (.inr fun X => by simp [conc, concL, undef]) h1
      simp only [List.append_nil] at hs2
      refine ⟨star (hpH R R H) F, hsat, hw, ?_⟩
      rw [hdst]
      exact late_anyS hZ hQ L _ ts' H R _ ⟨X0, hX0⟩ hl hs2 hd2 hB hk'

/-! ### Blocks that are written, apart from those that are only read -/
def memB : List Nat → Nat → Bool
  | [], _ => false
  | i :: r, n => match Nat.beq i n with
    | true => true
    | false => memB r n
def maskK (mods : List Nat) : Nat → List SObj → (List SObj → List SObj → Prop) → Prop
  | _, [], k => k [] []
  | n, o :: H, k => match memB mods n with
    | true => maskK mods (n + 1) H fun m r => k (o :: m) (.gone :: r)
    | false => maskK mods (n + 1) H fun m r => k (.gone :: m) (o :: r)
theorem hpH_nil_right' (R ρ : Env) : hpH R ρ [] = emp := by cases ρ <;> rfl
theorem maskK_spec (R : Env) (mods : List Nat) : ∀ (n : Nat) (H : List SObj) (ρ : Env) (k : List SObj → List SObj → Prop), maskK mods n H k → ∃ m r, k m r ∧ m.length = H.length ∧ r.length = H.length ∧ Imp (hpH R ρ H) (star (hpH R ρ r) (hpH R ρ m))
  | n, [], ρ, k, h => ⟨[], [], h, rfl, rfl, fun f hf => star_emp _ f hf |> fun h => by rw [hpH_nil_right' R ρ] at *; exact h⟩
  | n, o :: H, [], k, h => by
    simp only [maskK] at h
    split at h
    · obtain ⟨m, r, hk, h1, h2, _⟩ := maskK_spec R mods (n + 1) H [] _ h
      exact ⟨_, _, hk, by simp [h1], by simp [h2], fun f hf => star_emp _ f hf⟩
    · obtain ⟨m, r, hk, h1, h2, _⟩ := maskK_spec R mods (n + 1) H [] _ h
      exact ⟨_, _, hk, by simp [h1], by simp [h2], fun f hf => star_emp _ f hf⟩
  | n, o :: H, ob :: ρ, k, h => by
    simp only [maskK] at h
    split at h
    · obtain ⟨m, r, hk, h1, h2, h3⟩ := maskK_spec R mods (n + 1) H ρ _ h
      refine ⟨_, _, hk, by simp [h1], by simp [h2], ?_⟩
      refine (star_mono (Imp.refl _) h3).trans ((star_left _ _ _).trans (star_mono ?_ (Imp.refl _)))
      exact fun f hf => star_comm _ _ f (star_emp _ f hf)
    · obtain ⟨m, r, hk, h1, h2, h3⟩ := maskK_spec R mods (n + 1) H ρ _ h
      refine ⟨_, _, hk, by simp [h1], by simp [h2], ?_⟩
      refine (star_mono (Imp.refl _) h3).trans ((star_assoc' _ _ _).trans (star_mono (Imp.refl _) ?_))
      exact fun f hf => star_comm _ _ f (star_emp _ f hf)
def mergeK : List SObj → List SObj → (List SObj → Prop) → Prop
  | a, [], k => k a
  | [], _ :: _, _ => False
  | o :: a, p :: r, k => match p with
    | .gone => mergeK a r fun H => k (o :: H)
    | p => mergeK a r fun H => k (p :: H)
theorem star_drop (A B C : HP) : Imp (star (star A B) C) (star B C) :=
  fun _ ⟨_, h, gf, hf, gh, ⟨_, y, _, yg, _, _, b⟩, c⟩ => ⟨y, h, Frag.le_trans yg gf, hf, Frag.disj_le gh yg, b, c⟩
theorem star_drop2 (A B C : HP) : Imp (star C (star A B)) (star C B) := (star_comm _ _).trans ((star_drop A B C).trans (star_comm _ _))
theorem hpH_mono (R : Env) : ∀ (ρ : Env) (H : List SObj) {f g : Frag}, Frag.le f g → hpH R ρ H f → hpH R ρ H g
  | [], _, _, _, _, _ => by simp only [hpH, emp]
  | _ :: _, [], _, _, _, _ => by simp only [hpH, emp]
  | _ :: _, _ :: _, _, _, hle, ⟨a, b, af, bf, ab, x, y⟩ => ⟨a, b, Frag.le_trans af hle, Frag.le_trans bf hle, ab, x, y⟩
theorem mergeK_spec (R : Env) : ∀ (a r : List SObj) (ρ : Env) (k : List SObj → Prop), ρ.length = a.length → mergeK a r k → ∃ H, k H ∧ H.length = a.length ∧ Imp (star (hpH R (ρ.take r.length) r) (hpH R ρ a)) (hpH R ρ H)
  | a, [], ρ, k, hl, h => by
    refine ⟨a, by cases a <;> exact h, rfl, fun f hf => ?_⟩
    obtain ⟨x, y, xf, yf, xy, hx, hy⟩ := hf
    exact hpH_mono R ρ a yf hy
  | [], _ :: _, ρ, k, hl, h => h.elim
  | o :: a, p :: r, [], k, hl, h => by simp at hl
  | o :: a, p :: r, ob :: ρ, k, hl, h => by
    simp only [mergeK] at h
    split at h
    · obtain ⟨H, hk, h1, h2⟩ := mergeK_spec R a r ρ _ (by simpa using hl) h
      refine ⟨_, hk, by simp [h1], ?_⟩
      exact (star_drop _ _ _).trans ((star_left _ _ _).trans (star_mono (Imp.refl _) h2))
    · obtain ⟨H, hk, h1, h2⟩ := mergeK_spec R a r ρ _ (by simpa using hl) h
      refine ⟨_, hk, by simp [h1], ?_⟩
      exact (star_assoc _ _ _).trans (star_mono (Imp.refl _) ((star_drop2 _ _ _).trans h2))

theorem region_mixed {P : Program} {Z : TypeId → D} (hZ : Zeros P Z) (hm : P.follows .mixedOrders = true) {id : Nat} {all : List Oper} {Q : Exit → Act → World → Prop} {F : HP} {w0 : World} {R0 : Env} {ts : List D} {H : List SObj} {R : Env} {a : Act} {w : World} {k : St → Prop}
    (hQ : ∀ st R a w, k st → Rep F w0 R0 st R a w → Q .normal a w) (E L mods : List Nat) (hB : mixedB all.toArray E L = true) (hr : Rep F w0 R0 ⟨ts, H⟩ R a w)
    (h : maskK mods 0 H fun m r => quietK P Z all r (pickOps all E) ts fun ts => opsK P Z all (pickOps all L) ⟨ts, m⟩ fun st => match st with
      | ⟨ts, H⟩ => mergeK H r fun H => k ⟨ts, H⟩) : (Code.region id all.toArray true).wp P Q a w := by
  simp only [mixedB, Bool.and_eq_true, decide_eq_true_eq] at hB
  obtain ⟨⟨⟨hsel, hlen⟩, hE⟩, hL⟩ := hB
  obtain ⟨m, r, h, hml, hrl, himp⟩ := maskK_spec R mods 0 H R _ h
  have hl := hr.len
  simp only at hl
  have hsat : Sat (star (hpH R R r) (star (hpH R R m) F)) { w with drawn := w.drawn + 1 } :=
    (hr.sat.heap rfl).mono ((star_mono himp (Imp.refl F)).trans (star_assoc _ _ _))
  have hsame : Same w0 { w with drawn := w.drawn + 1 } := hr.same.trans ⟨rfl, rfl, rfl, Nat.le_refl _⟩
  refine wp_region_any hm ?_
  have hany := quiet_anyS hZ (Q := Q) (w0 := w0) (g := L.length) (A := star (hpH R R m) F) (by rw [hl, hrl]) hsel ⟨_, hsat, hsame⟩ E (Array.replicate all.toArray.size false) ts a
    (fun ts1 a1 hk hs hd => late_anyS hZ (Q := Q) (R0 := R) (fun ts2 H2 R2 a2 w2 hk2 hX hl2 hs2 hd2 hsat2 hw2 => ?_) L _ ts1 m R a1 ⟨[], by simp⟩ (by rw [hl, hml]) hs hd hL hk) hE hr.slots hr.defers h
  · have := any_of_anyS _ _ _ _ _ hsat hsame hany
    rwa [hlen] at this
  · obtain ⟨X, hX⟩ := hX
    subst hX
    obtain ⟨H3, hk3, hl3, himp3⟩ := mergeK_spec (R ++ X) H2 r (R ++ X) _ hl2 hk2
    refine hQ _ _ _ _ hk3 ⟨?_, by rw [hl2, hl3], hs2, hd2, ?_, hw2⟩
    · obtain ⟨Y, hY⟩ := hr.pre
      exact ⟨Y ++ X, by rw [hY]; simp⟩
    · have e : (R ++ X).take r.length = R := by rw [hrl, ← hl]; simp
      rw [e] at himp3
      exact hsat2.mono ((star_mono (hpH_ext R X R r) (Imp.refl _)).trans ((star_assoc' _ _ _).trans (star_mono himp3 (Imp.refl F))))
end Go.Proofs.Ytdgnnboljgpcmaa.E
