import Derived.Test.YtdgnnboljgpcmaaEngC
namespace Go.Proofs.Ytdgnnboljgpcmaa.E
open Go

/-! ### Operands -/
def constD : Value → D
  | .bool true => .tt
  | .bool false => .ff
  | .int k n => .int k n
  | .string s => .str s.data.toList
  | .pointer none => .nilp
  | .slice none 0 0 => .nils
  | .map none => .nilm
  | .nilFunc => .nilf
  | .nilIface => .nili
  | _ => .junk
theorem constD_spec {v : Value} (h : isJunk (constD v) = false) (R : Env) : Is R (constD v) v := by
  intro X
  unfold constD at h ⊢
  split at h <;> first | rfl | (simp [isJunk] at h; done)
/-- A value that is known, its head laid open. -/
def known : D → (D → Prop) → Prop
  | .junk, _ => False
  | d, k => force d k
theorem known_iff (d : D) (k : D → Prop) : known d k ↔ isJunk d = false ∧ k d := by cases d <;> simp [known, force, isJunk]
def valK (ts : List D) (x : Operand) (k : D → Prop) : Prop :=
  match x with
  | .tmp t => known (getT ts t) k
  | .const v => known (constD v) k
  | .func f => k (.fn (.func f) [])
  | .global _ => False
def Ev (ts : List D) (x : Operand) (d : D) : Prop := ∀ R (a : Act), Slots R ts a.tmps.toList → Is R d (a.eval x)
theorem valK_spec {ts : List D} {x : Operand} {k : D → Prop} (h : valK ts x k) : ∃ d, isJunk d = false ∧ Ev ts x d ∧ k d := by
  cases x with
  | tmp t =>
    obtain ⟨hj, hk⟩ := (known_iff _ _).1 h
    refine ⟨_, hj, fun R a hs => ?_, hk⟩
    obtain ⟨v, hv, hi⟩ := hs.get t hj
    have : a.eval (.tmp t) = v := by
      rw [Array.getElem?_toList] at hv
      simp [Act.eval, hv]
    rw [this]; exact hi
  | const v =>
    obtain ⟨hj, hk⟩ := (known_iff _ _).1 h
    exact ⟨_, hj, fun R a _ => constD_spec hj R, hk⟩
  | func f => exact ⟨_, rfl, fun R a _ X => by simp [conc, concL, Act.eval], h⟩
  | global g => exact h.elim

/-! ### Integers, strings, truth -/
def iand (k : IntKind) (a b : Int) : Int := k.wrap (BitVec.ofInt k.bits a &&& BitVec.ofInt k.bits b).toNat
def ior (k : IntKind) (a b : Int) : Int := k.wrap (BitVec.ofInt k.bits a ||| BitVec.ofInt k.bits b).toNat
def ixor (k : IntKind) (a b : Int) : Int := k.wrap (BitVec.ofInt k.bits a ^^^ BitVec.ofInt k.bits b).toNat
def iandNot (k : IntKind) (a b : Int) : Int := k.wrap (BitVec.ofInt k.bits a &&& ~~~BitVec.ofInt k.bits b).toNat
def ishl (k : IntKind) (a b : Int) : Int := k.wrap (a * 2 ^ min b.toNat k.bits)
def ishr (k : IntKind) (a b : Int) : Int := a / 2 ^ min b.toNat k.bits
def inot (k : IntKind) (a : Int) : Int := ixor k (if k.signed then -1 else k.max) a
def maxI : Nat := 9223372036854775807

def boolOf : D → Option Bool
  | .tt => some true
  | .ff => some false
  | .bool b => some b
  | _ => none
theorem boolOf_spec {d : D} {b : Bool} (h : boolOf d = some b) {R : Env} {v : Value} (hv : Is R d v) : v = .bool b := by
  have := hv.conc
  cases d <;> simp [boolOf] at h <;> subst h <;> simpa [conc] using this.symm
/-- '==' of two values of an aggregate type. -/
def EqAt (P : Program) (T : TypeId) (x y : D) (b : Bool) : Prop :=
  ∀ R vx vy, Is R x vx → Is R y vy → ∀ w, (eqGuard .eql T (.const vx) (.const vy) vx vy).run P w = .ok () w ∧ (Op.equal T vx vy).run P w = .ok b w
def litB (b : Bool) (k : D → Prop) : Prop := match b with | true => k .tt | false => k .ff
theorem litB_iff (b : Bool) (k : D → Prop) : litB b k ↔ k (if b then .tt else .ff) := by cases b <;> simp [litB]
/-- A pointer that leads somewhere. -/
def nonNilK (H : List SObj) : D → Prop → Prop
  | .ptr h _, k => match getH H h with
    | .var .. => k
    | .vec _ _ _ xs _ => 0 < xs.length ∧ k
    | _ => False
  | .val v, k => match v with
    | .pointer (some _) => k
    | _ => False
  | _, _ => False
def Leads (F : HP) (H : List SObj) (d : D) : Prop := ∀ R w, R.length = H.length → Sat (star (hpH R R H) F) w → ∀ v, Is R d v → ∃ a, v = .pointer (some a)
theorem nonNilK_spec {H : List SObj} {d : D} {k : Prop} (h : nonNilK H d k) : (∀ F, Leads F H d) ∧ k := by
  cases d <;> simp only [nonNilK] at h <;> try exact h.elim
  case ptr hh p =>
    cases ho : getH H hh with
    | gone => simp [ho] at h
    | res A => simp [ho] at h
    | mp _ ke ve m => simp [ho] at h
    | mpx _ ke ve m bs clock => simp [ho] at h
    | iter mh seen since => simp [ho] at h
    | var t x =>
      simp only [ho] at h
      refine ⟨fun F R w hl hs v hv => ?_, h⟩
      have hH := getH_some H hh (by rw [ho]; simp)
      rw [ho] at hH
      have hlt := (List.getElem?_eq_some_iff.1 hH).1
      have hR : R[hh]? = some R[hh] := by simp
      obtain ⟨f, hf, b, cs, hb1, -, -⟩ := (hs.left.mono (hpH_get R R H hh _ _ hR hH)).left
      rw [hb1] at hR
      exact ⟨⟨b, 0 + offP p, none⟩, by rw [← hv.conc]; simp [conc, addrV, hR]⟩
    | vec t s enc xs cap =>
      simp only [ho] at h
      refine ⟨fun F R w hl hs v hv => ?_, h.2⟩
      have hH := getH_some H hh (by rw [ho]; simp)
      rw [ho] at hH
      have hlt := (List.getElem?_eq_some_iff.1 hH).1
      have hR : R[hh]? = some R[hh] := by simp
      obtain ⟨f, hf, hb⟩ := (hs.left.mono (hpH_get R R H hh _ _ hR hH)).left
      rcases hb with ⟨_, hb, _⟩ | ⟨b, z, cs, pre, rest, hb1, -⟩
      · subst hb; simp at h
      · rw [hb1] at hR
        exact ⟨⟨b, z + offP p, none⟩, by rw [← hv.conc]; simp [conc, addrV, hR]⟩
  case val u =>
    cases u <;> try exact h.elim
    rename_i o
    cases o with
    | none => exact h.elim
    | some a => exact ⟨fun F R w _ _ v hv => ⟨a, by rw [← hv.conc]; simp [conc, one]⟩, h⟩

/-! ### The two-place operators -/
def binK (P : Program) (H : List SObj) (op : BinOp) (T : TypeId) (x y : D) (k : D → Prop) : Prop :=
  match x, y with
  | .int ka a, .int kb b =>
    match op with
    | .shl => 0 ≤ b ∧ k (.int ka (ishl ka a b))
    | .shr => 0 ≤ b ∧ k (.int ka (ishr ka a b))
    | .add => when (decide (ka = kb)) (k (.int ka (ka.wrap (a + b))))
    | .sub => when (decide (ka = kb)) (k (.int ka (ka.wrap (a - b))))
    | .mul => when (decide (ka = kb)) (k (.int ka (ka.wrap (a * b))))
    | .quo => when (decide (ka = kb)) (b ≠ 0 ∧ k (.int ka (ka.wrap (a.tdiv b))))
    | .rem => when (decide (ka = kb)) (b ≠ 0 ∧ k (.int ka (a.tmod b)))
    | .and => when (decide (ka = kb)) (k (.int ka (iand ka a b)))
    | .or => when (decide (ka = kb)) (k (.int ka (ior ka a b)))
    | .xor => when (decide (ka = kb)) (k (.int ka (ixor ka a b)))
    | .andNot => when (decide (ka = kb)) (k (.int ka (iandNot ka a b)))
    | .eql => when (decide (ka = kb)) (k (.bool (decide (a = b))))
    | .neq => when (decide (ka = kb)) (k (.bool (!decide (a = b))))
    | .lss => when (decide (ka = kb)) (k (.bool (decide (a < b))))
    | .leq => when (decide (ka = kb)) (k (.bool (decide (a ≤ b))))
    | .gtr => when (decide (ka = kb)) (k (.bool (decide (b < a))))
    | .geq => when (decide (ka = kb)) (k (.bool (decide (b ≤ a))))
  | .str a, .str b =>
    match op with
    | .add => a.length + b.length ≤ maxI ∧ k (.str (a ++ b))
    | .eql => k (.bool (decide (a = b)))
    | .neq => k (.bool (!decide (a = b)))
    | _ => False
  | .nilp, .nilp => match P.underlying T with
    | some (.pointer _) => match op with
      | .eql => k .tt
      | .neq => k .ff
      | _ => False
    | _ => False
  | x, .nilp => match P.underlying T with
    | some (.pointer _) => nonNilK H x (match op with
      | .eql => k .ff
      | .neq => k .tt
      | _ => False)
    | _ => False
  | x, y => match isAgg x, isAgg y with
    | true, true => match op with
      | .eql => ∃ b, EqAt P T x y b ∧ k (.bool b)
      | .neq => ∃ b, EqAt P T x y b ∧ k (.bool !b)
      | _ => False
    | false, false => match boolOf x, boolOf y with
      | some a, some b => match P.underlying T with
        | some .bool => match op with
          | .eql => k (.bool (decide (a = b)))
          | .neq => k (.bool (!decide (a = b)))
          | _ => False
        | _ => False
      | _, _ => False
    | _, _ => False

theorem bytes_eq (a b : Bytes) : ((⟨a.toArray⟩ : ByteArray).toList == (⟨b.toArray⟩ : ByteArray).toList) = decide (a = b) := by
  rw [ByteArray.toList_eq, ByteArray.toList_eq]
  show (a == b) = decide (a = b)
  by_cases h : a = b <;> simp [h]
theorem bytes_append (a b : Bytes) : (⟨a.toArray⟩ : ByteArray) ++ ⟨b.toArray⟩ = ⟨(a ++ b).toArray⟩ := by
  rw [ByteArray.mk_append_mk]

theorem binK_spec {P : Program} {H : List SObj} {op : BinOp} {T : TypeId} {x y : D} {k : D → Prop} (h : binK P H op T x y k) (cx cy : Operand) :
    ∃ d, isJunk d = false ∧ k d ∧ ∀ F R w vx vy, R.length = H.length → Sat (star (hpH R R H) F) w → Is R x vx → Is R y vy →
      ∃ v, (do eqGuard op T cx cy vx vy; binOp op T vx vy : Sem Value).run P w = .ok v w ∧ Is R d v := by
  unfold binK at h
  split at h
  · -- integers
    rename_i ka a kb b
    have lit : ∀ {R : Env} {vx vy : Value}, Is R (.int ka a) vx → Is R (.int kb b) vy → vx = .int ka a ∧ vy = .int kb b := fun hx hy => ⟨by simpa [conc] using hx.conc.symm, by simpa [conc] using hy.conc.symm⟩
    have eg : ∀ op : BinOp, eqGuard op T cx cy (.int ka a) (.int kb b) = (pure () : Sem Unit) := by intro op; cases op <;> rfl
    cases op <;> simp only [when_iff, decide_eq_true_eq] at h
    case shl => exact ⟨_, rfl, h.2, fun F R w vx vy _ _ hx hy => by obtain ⟨rfl, rfl⟩ := lit hx hy; exact ⟨.int ka (ishl ka a b), by simp [eg, binOp, Op.shift, Int.not_lt.mpr h.1, ishl], fun _ => rfl⟩⟩
    case shr => exact ⟨_, rfl, h.2, fun F R w vx vy _ _ hx hy => by
      obtain ⟨rfl, rfl⟩ := lit hx hy
      have hp : (0 : Int) ≤ 2 ^ min b.toNat ka.bits := Int.le_of_lt (Int.pow_pos (by decide))
      exact ⟨.int ka (ishr ka a b), by simp [eg, binOp, Op.shift, Int.not_lt.mpr h.1, Int.fdiv_eq_ediv_of_nonneg _ hp, ishr], fun _ => rfl⟩⟩
    case quo => obtain ⟨rfl, hb, hk⟩ := h; exact ⟨_, rfl, hk, fun F R w vx vy _ _ hx hy => by obtain ⟨rfl, rfl⟩ := lit hx hy; exact ⟨.int ka (ka.wrap (a.tdiv b)), by simp [eg, binOp, Op.intDiv, hb], fun _ => rfl⟩⟩
    case rem => obtain ⟨rfl, hb, hk⟩ := h; exact ⟨_, rfl, hk, fun F R w vx vy _ _ hx hy => by obtain ⟨rfl, rfl⟩ := lit hx hy; exact ⟨.int ka (a.tmod b), by simp [eg, binOp, Op.intDiv, hb], fun _ => rfl⟩⟩
    all_goals (obtain ⟨rfl, hk⟩ := h; exact ⟨_, rfl, hk, fun F R w vx vy _ _ hx hy => by
      obtain ⟨rfl, rfl⟩ := lit hx hy
      refine ⟨_, ?_, fun _ => rfl⟩
      simp only [eg, binOp, pure_bind, ne_eq, not_true_eq_false, if_false]
      rfl⟩)
  · rename_i a b
    have lit : ∀ {R : Env} {vx vy : Value}, Is R (.str a) vx → Is R (.str b) vy → vx = .string ⟨a.toArray⟩ ∧ vy = .string ⟨b.toArray⟩ := fun hx hy => ⟨by simpa [conc] using hx.conc.symm, by simpa [conc] using hy.conc.symm⟩
    have eg : ∀ op : BinOp, eqGuard op T cx cy (.string ⟨a.toArray⟩) (.string ⟨b.toArray⟩) = (pure () : Sem Unit) := by intro op; cases op <;> rfl
    cases op <;> try exact h.elim
    case add => exact ⟨_, rfl, h.2, fun F R w vx vy _ _ hx hy => by
      obtain ⟨rfl, rfl⟩ := lit hx hy
      refine ⟨_, ?_, fun X => by simp only [conc]; exact congrArg Value.string (bytes_append a b).symm⟩
      simp only [eg, pure_bind, binOp]
      exact run_string_add_sum _ _ _ (show a.toArray.size + b.toArray.size ≤ _ by have := h.1; unfold maxI at this; simpa using this)⟩
    case eql => exact ⟨_, rfl, h, fun F R w vx vy _ _ hx hy => by
      obtain ⟨rfl, rfl⟩ := lit hx hy
      exact ⟨_, by simp only [eg, pure_bind, binOp, Op.stringOp, bytes_eq]; rfl, fun _ => rfl⟩⟩
    case neq => exact ⟨_, rfl, h, fun F R w vx vy _ _ hx hy => by
      obtain ⟨rfl, rfl⟩ := lit hx hy
      exact ⟨_, by simp only [eg, pure_bind, binOp, Op.stringOp, bytes_eq]; rfl, fun _ => rfl⟩⟩
  · -- nil, nil
    split at h <;> try exact h.elim
    rename_i e hT
    have eg : ∀ op : BinOp, eqGuard op T cx cy (.pointer none) (.pointer none) = (pure () : Sem Unit) := by intro op; cases op <;> rfl
    have hq := fun w => run_equal_pointer_nil (P := P) w T none (by simp [Program.pointee, hT])
    cases op <;> try exact h.elim
    case eql => exact ⟨_, rfl, h, fun F R w vx vy _ _ hx hy => by
      have h1 := hx.conc
      have h2 := hy.conc
      simp only [conc] at h1 h2
      subst h1; subst h2
      exact ⟨.bool true, by rw [eg]; simp only [pure_bind]; show (do pure (.bool (← Op.equal T _ _)) : Sem Value).run P w = _; rw [Sem.run_bind, hq]; rfl, fun _ => rfl⟩⟩
    case neq => exact ⟨_, rfl, h, fun F R w vx vy _ _ hx hy => by
      have h1 := hx.conc
      have h2 := hy.conc
      simp only [conc] at h1 h2
      subst h1; subst h2
      exact ⟨.bool false, by rw [eg]; simp only [pure_bind]; show (do pure (.bool (!(← Op.equal T _ _))) : Sem Value).run P w = _; rw [Sem.run_bind, hq]; rfl, fun _ => rfl⟩⟩
  · -- a pointer, nil
    split at h <;> try exact h.elim
    rename_i e hT
    obtain ⟨hl, hk⟩ := nonNilK_spec h
    have eg : ∀ (op : BinOp) (a : Addr), eqGuard op T cx cy (.pointer (some a)) (.pointer none) = (pure () : Sem Unit) := by intro op a; cases op <;> rfl
    have hq := fun w a => run_equal_pointer_nil (P := P) w T (some a) (by simp [Program.pointee, hT])
    cases op <;> try exact hk.elim
    case eql => exact ⟨_, rfl, hk, fun F R w vx vy hlen hs hx hy => by
      obtain ⟨a, rfl⟩ := hl F R w hlen hs vx hx
      have h2 := hy.conc
      simp only [conc] at h2
      subst h2
      exact ⟨.bool false, by rw [eg]; simp only [pure_bind]; show (do pure (.bool (← Op.equal T _ _)) : Sem Value).run P w = _; rw [Sem.run_bind, hq]; rfl, fun _ => rfl⟩⟩
    case neq => exact ⟨_, rfl, hk, fun F R w vx vy hlen hs hx hy => by
      obtain ⟨a, rfl⟩ := hl F R w hlen hs vx hx
      have h2 := hy.conc
      simp only [conc] at h2
      subst h2
      exact ⟨.bool true, by rw [eg]; simp only [pure_bind]; show (do pure (.bool (!(← Op.equal T _ _))) : Sem Value).run P w = _; rw [Sem.run_bind, hq]; rfl, fun _ => rfl⟩⟩
  · split at h <;> try exact h.elim
    · rename_i hx1 hy1
      cases op <;> try exact h.elim
      case eql => exact (fun ⟨b, he, hk⟩ => ⟨_, rfl, hk, fun F R w vx vy _ _ hx hy => by
        obtain ⟨e1, e2⟩ := he R vx vy hx hy w
        have h1 := hx.conc
        have h2 := hy.conc
        rw [conc_agg hx1] at h1
        rw [conc_agg hy1] at h2
        subst h1; subst h2
        refine ⟨.bool b, ?_, fun _ => rfl⟩
        rw [Sem.run_bind]
        rw [show eqGuard .eql T cx cy (.agg (cells R _).toArray) (.agg (cells R _).toArray) = eqGuard .eql T (.const (.agg (cells R _).toArray)) (.const (.agg (cells R _).toArray)) (.agg (cells R _).toArray) (.agg (cells R _).toArray) from rfl, e1]
        show (do pure (.bool (← Op.equal T _ _)) : Sem Value).run P w = _
        rw [Sem.run_bind, e2]; rfl⟩) h
      case neq => exact (fun ⟨b, he, hk⟩ => ⟨_, rfl, hk, fun F R w vx vy _ _ hx hy => by
        obtain ⟨e1, e2⟩ := he R vx vy hx hy w
        have h1 := hx.conc
        have h2 := hy.conc
        rw [conc_agg hx1] at h1
        rw [conc_agg hy1] at h2
        subst h1; subst h2
        refine ⟨.bool !b, ?_, fun _ => rfl⟩
        rw [Sem.run_bind]
        rw [show eqGuard .neq T cx cy (.agg (cells R _).toArray) (.agg (cells R _).toArray) = eqGuard .eql T (.const (.agg (cells R _).toArray)) (.const (.agg (cells R _).toArray)) (.agg (cells R _).toArray) (.agg (cells R _).toArray) from rfl, e1]
        show (do pure (.bool (!(← Op.equal T _ _))) : Sem Value).run P w = _
        rw [Sem.run_bind, e2]; rfl⟩) h
    · split at h <;> try exact h.elim
      rename_i a b ha hb
      split at h <;> try exact h.elim
      rename_i hT
      have eg : ∀ (op : BinOp) (p q : Bool), eqGuard op T cx cy (.bool p) (.bool q) = (pure () : Sem Unit) := by intro op p q; cases op <;> rfl
      have hq := fun w a b => run_equal_bool (P := P) w T a b hT
      have hd : ∀ p q : Bool, (p == q) = decide (p = q) := by decide
      cases op <;> try exact h.elim
      case eql => exact ⟨_, rfl, h, fun F R w vx vy _ _ hx hy => by
        have h1 := boolOf_spec ha hx
        have h2 := boolOf_spec hb hy
        subst h1; subst h2
        exact ⟨.bool (decide (a = b)), by rw [eg]; simp only [pure_bind]; show (do pure (.bool (← Op.equal T _ _)) : Sem Value).run P w = _; rw [Sem.run_bind, hq, hd]; rfl, fun _ => rfl⟩⟩
      case neq => exact ⟨_, rfl, h, fun F R w vx vy _ _ hx hy => by
        have h1 := boolOf_spec ha hx
        have h2 := boolOf_spec hb hy
        subst h1; subst h2
        exact ⟨.bool (!decide (a = b)), by rw [eg]; simp only [pure_bind]; show (do pure (.bool (!(← Op.equal T _ _))) : Sem Value).run P w = _; rw [Sem.run_bind, hq, hd]; rfl, fun _ => rfl⟩⟩
end Go.Proofs.Ytdgnnboljgpcmaa.E
