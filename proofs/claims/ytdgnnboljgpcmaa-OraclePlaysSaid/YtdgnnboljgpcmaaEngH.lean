import Derived.Test.YtdgnnboljgpcmaaEngGm
import Derived.Laws.Tables
namespace Go.Proofs.Ytdgnnboljgpcmaa.E
open Go

def fieldsOK (P : Program) : List Field → Bool
  | [] => true
  | ⟨_, ty, _, _, _, _, _⟩ :: fs => match Nat.ble 1 (P.cellsOf ty) with
    | true => fieldsOK P fs
    | false => false
theorem fieldsOK_spec {P : Program} : ∀ (fs : List Field), fieldsOK P fs = true → fs.mapM (fun f => (P.info? f.type).map fun i => (f.offset, i.size)) = some (fs.map fun f => (f.offset, P.cellsOf f.type))
  | [], _ => rfl
  | f :: fs, h => by
    obtain ⟨nm, ty, off, e1, e2, e3, e4⟩ := f
    simp only [fieldsOK] at h
    split at h
    · rename_i hb
      obtain ⟨i, hi, hs⟩ := info_of_cells (Nat.le_of_ble_eq_true hb)
      have ih := fieldsOK_spec fs h
      simp only [List.mapM_cons, hi, Option.map_some, ih, List.map_cons, hs]
      rfl
    · cases h

def buildK' (P : Program) (Z : TypeId → D) (T : TypeId) (parts : List (Nat × D)) (k : D → Prop) : Prop :=
  match P.underlying T with
  | some (.struct fs) => when (fieldsOK P fs.toList) (when (isAgg (Z T)) (buildK P Z T parts k))
  | some (.array _ e) => when (Nat.ble 1 (P.cellsOf e)) (when (isAgg (Z T)) (buildK P Z T parts k))
  | _ => False
theorem buildK_spec {P : Program} {Z : TypeId → D} (hZ : Zeros P Z) {T : TypeId} {parts : List (Nat × D)} {k : D → Prop} (h : buildK' P Z T parts k) : ∃ d, isAgg d = true ∧ k d ∧
    ∀ (R : Env) (w : World) (vs : Array (Nat × Value)), vs.size = parts.length → (∀ (j i : Nat) (e : D), parts[j]? = some (i, e) → ∃ v : Value, vs[j]? = some (i, v) ∧ Is R e v) →
      ∃ v, (Instr.build T vs).run P w = .ok v w ∧ Is R d v := by
  have fin : ∀ (d : D) (R : Env) (c' : Array Value), isAgg d = true → IsC R d c'.toList → Is R d (.agg c') := fun d R c' ha hc => by
    have := hc.is
    rw [conc_agg ha, hc.cells] at this
    simpa using this
  unfold buildK' at h
  split at h <;> try exact h.elim
  · rename_i fs hu
    obtain ⟨hf, h⟩ := when_iff.1 h
    obtain ⟨ha, h⟩ := when_iff.1 h
    unfold buildK at h
    rw [hu] at h
    obtain ⟨hj, h⟩ := (known_iff _ _).1 h
    obtain ⟨it, z, hi, hz, hzi, hzs⟩ := hZ T hj
    have hpl := fieldsOK_spec _ hf
    · obtain ⟨d, hk, hs, had, hrun⟩ := layK_spec (pl := fun i => (fs.toList.map fun f => (f.offset, P.cellsOf f.type)).toArray[i]?) (fun i k hk => by
        obtain ⟨f, j, hf, hk⟩ := fieldPlaceK_spec _ _ _ hk
        exact ⟨f.offset, _, _, by simp [hf], rfl, hk⟩) parts (Z T) k ha h
      refine ⟨d, had, hk, fun R w vs hl hvs => ?_⟩
      have hzc : IsC R (Z T) z.cells.toList := (hzi R).isC
      obtain ⟨c', hc', hi'⟩ := hrun R vs.toList (by simpa using hl) (fun j i e he => by simpa using hvs j i e he) z.cells hzc
      refine ⟨_, run_build w T vs c' ?_, fin d R c' had hi'⟩
      unfold Program.built
      simp only [hi, hu, hz, hpl]
      exact hc'
  · rename_i n e hu
    obtain ⟨hf, h⟩ := when_iff.1 h
    obtain ⟨ha, h⟩ := when_iff.1 h
    obtain ⟨ie, hie, hse⟩ := info_of_cells (Nat.le_of_ble_eq_true hf)
    unfold buildK at h
    rw [hu] at h
    obtain ⟨hj, h⟩ := (known_iff _ _).1 h
    obtain ⟨it, z, hi, hz, hzi, hzs⟩ := hZ T hj
    · obtain ⟨d, hk, hs, had, hrun⟩ := layK_spec (pl := fun i => some (i * P.cellsOf e, P.cellsOf e)) (fun i k hk => ⟨_, _, _, rfl, rfl, hk⟩) parts (Z T) k ha h
      refine ⟨d, had, hk, fun R w vs hl hvs => ?_⟩
      have hzc : IsC R (Z T) z.cells.toList := (hzi R).isC
      obtain ⟨c', hc', hi'⟩ := hrun R vs.toList (by simpa using hl) (fun j i e he => by simpa using hvs j i e he) z.cells hzc
      refine ⟨_, run_build w T vs c' ?_, fin d R c' had hi'⟩
      unfold Program.built
      simp only [hi, hu, hz, hie, hse]
      exact hc'

/-! ### All operations that leave the memory as it is -/
def partsK (ts : List D) : List (Nat × Operand) → (List (Nat × D) → Prop) → Prop
  | [], k => k []
  | (i, x) :: r, k => valK ts x fun d => partsK ts r fun ds => k ((i, d) :: ds)
def listK (ts : List D) : List Operand → (List D → Prop) → Prop
  | [], k => k []
  | x :: r, k => valK ts x fun d => listK ts r fun ds => k (d :: ds)
def optK (ts : List D) : Option Operand → (Option D → Prop) → Prop
  | none, k => k none
  | some x, k => valK ts x fun d => k (some d)
theorem partsK_spec {ts : List D} : ∀ (l : List (Nat × Operand)) (k : List (Nat × D) → Prop), partsK ts l k → ∃ ds, k ds ∧ ds.length = l.length ∧
    ∀ (j i : Nat) (e : D), ds[j]? = some (i, e) → ∃ x, l[j]? = some (i, x) ∧ Ev ts x e
  | [], k, h => ⟨[], h, rfl, fun j i e h => by simp at h⟩
  | (i, x) :: r, k, h => by
    obtain ⟨d, _, hd, h⟩ := valK_spec h
    obtain ⟨ds, hk, hl, hs⟩ := partsK_spec r _ h
    refine ⟨(i, d) :: ds, hk, by simp [hl], fun j i' e he => ?_⟩
    cases j with
    | zero => simp at he; obtain ⟨rfl, rfl⟩ := he; exact ⟨x, rfl, hd⟩
    | succ j => simpa using hs j i' e (by simpa using he)
theorem listK_spec {ts : List D} : ∀ (l : List Operand) (k : List D → Prop), listK ts l k → ∃ ds, k ds ∧ ∀ (R : Env) (a : Act), Slots R ts a.tmps.toList → ∀ X, concL (R ++ X) ds = l.map a.eval
  | [], k, h => ⟨[], h, fun R a _ X => rfl⟩
  | x :: r, k, h => by
    obtain ⟨d, _, hd, h⟩ := valK_spec h
    obtain ⟨ds, hk, hs⟩ := listK_spec r _ h
    exact ⟨d :: ds, hk, fun R a hsl X => by simp only [concL, List.map_cons, hs R a hsl X, hd R a hsl X]⟩
theorem optK_spec {ts : List D} (o : Option Operand) (k : Option D → Prop) (h : optK ts o k) : ∃ d, k d ∧ ∀ (R : Env) (a : Act), Slots R ts a.tmps.toList → IsO R d (o.map a.eval) := by
  cases o with
  | none => exact ⟨none, h, fun _ _ _ => trivial⟩
  | some x =>
    obtain ⟨d, _, hd, h⟩ := valK_spec h
    exact ⟨some d, h, fun R a hs => hd R a hs⟩
/-- A pointer must lead somewhere; of what is no pointer nothing is asked. -/
def solidK (H : List SObj) (x : D) (k : Prop) : Prop :=
  match x with
  | .ptr h p => nonNilK H (.ptr h p) k
  | _ => k
theorem solidK_spec {H : List SObj} {x : D} {k : Prop} (h : solidK H x k) : k ∧ ∀ F R w vx, R.length = H.length → Sat (star (hpH R R H) F) w → Is R x vx → ∀ hh p, x = .ptr hh p → ∃ a, vx = .pointer (some a) := by
  unfold solidK at h
  split at h
  · obtain ⟨hl, hk⟩ := nonNilK_spec h
    exact ⟨hk, fun F R w vx hlen hs hx _ _ _ => hl F R w hlen hs vx hx⟩
  · rename_i hne
    exact ⟨h, fun F R w vx _ _ _ hh p he => absurd he (hne hh p)⟩
def nilCheckK (H : List SObj) (x : D) (k : D → Prop) : Prop :=
  match x with
  | .ptr h p => nonNilK H (.ptr h p) (k (.ptr h p))
  | .val (.pointer (some a)) => k (.val (.pointer (some a)))
  | .fn (.func f) c => k (.fn (.func f) c)
  | .ifc T d => k (.ifc T d)
  | _ => False
def minK (x y : D) (k : D → Prop) : Prop :=
  match x, y with
  | .int q a, .int _ b => k (.int q (if b < a then b else a))
  | _, _ => False
def ifaceK (P : Program) (T : TypeId) (d : D) (k : D → Prop) : Prop :=
  match P.underlying T with
  | some (.interface _) => False
  | some _ => k (.ifc T d)
  | none => False
def pickK (a b : D) (q : Bool) (k : D → Prop) : Prop :=
  match boolOf a, boolOf b with
  | some x, some y => k (.bool (if q then x else y))
  | _, _ => False
def convK (P : Program) (H : List SObj) (S T : TypeId) (x : D) (k : D → Prop) : Prop :=
  match x with
  | .int q n => convIntK P S T (.int q n) k
  | .slc h p s lo len cap => bytesStrK P H S T (.slc h p s lo len cap) k
  | .nils => bytesStrK P H S T .nils k
  | _ => False
def pureK (P : Program) (Z : TypeId → D) (ts : List D) (H : List SObj) (op : Op) (k : D → Prop) : Prop :=
  match op with
  | .move x => valK ts x k
  | .assign x => valK ts x k
  | .pick c a b => valK ts c fun c => match c with
    | .tt => valK ts a k
    | .ff => valK ts b k
    | .bool q => valK ts a fun a => valK ts b fun b => pickK a b q k
    | _ => False
  | .build T parts => partsK ts parts.toList fun ps => buildK' P Z T ps k
  | .load T a => valK ts a fun a => loadK H a fun e => known e fun e => kindK P T e (k e)
  | .nilCheck x => valK ts x fun x => nilCheckK H x k
  | .binOp op T x y _ => valK ts x fun x => valK ts y fun y => binK P H op T x y k
  | .unOp op _ x => valK ts x fun x => unK op x k
  | .convert S T x => valK ts x fun x => convK P H S T x k
  | .makeInterface T x => valK ts x fun x => ifaceK P T x k
  | .makeFunc fn first caps => match first.toList with
    | [] => listK ts caps.toList fun ds => k (.fn fn ds)
    | _ => False
  | .slice T x lo hi mx => match mx with
    | none => valK ts x fun x => optK ts lo fun lo => optK ts hi fun hi => solidK H x (sliceK P T x lo hi k)
    | some _ => False
  | .fieldAddr S x i => valK ts x fun x => solidK H x (fieldAddrK P S x i k)
  | .field S x i => valK ts x fun x => fieldK P S x i fun e => known e k
  | .indexAddr T x i => valK ts x fun x => valK ts i fun i => solidK H x (indexAddrK P H T x i k)
  | .index T x i => valK ts x fun x => valK ts i fun i => indexK P T x i k
  | .lookup T x i ok => valK ts x fun x => valK ts i fun i => lookupK P Z H T x i ok k
  | .extract t i => valK ts t fun t => match t with
    | .tup ds => extractK ds i k
    | _ => False
  | .call c => match c.callee with
    | .builtin .len => match c.args.toList, c.argTypes.toList with
      | [x], [T] => valK ts x fun x => match P.underlying T with
        | some (.map _ _) => lenMK H x k
        | _ => lengthK P T x k
      | _, _ => False
    | .builtin .min => match c.args.toList with
      | [x, y] => valK ts x fun x => valK ts y fun y => minK x y k
      | _ => False
    | _ => False
  | _ => False

/-- In every such memory, from slots of which this is known, the operation yields what 'd' tells. -/
def Yields (P : Program) (F : HP) (ts : List D) (H : List SObj) (o : Oper) (d : D) : Prop :=
  ∀ R (a : Act) w, R.length = H.length → Slots R ts a.tmps.toList → Sat (star (hpH R R H) F) w → ∃ v, (execOp a.eval o).run P w = .ok (.value v) w ∧ Is R d v
theorem run_v {P : Program} {s : Sem Value} {v : Value} {w : World} (h : s.run P w = .ok v w) : (do pure (.value (← s)) : Sem Next).run P w = .ok (.value v) w := by
  rw [Sem.run_bind, h]; rfl
theorem eval_args1 {xs : Array Operand} {x : Operand} (h : xs.toList = [x]) (f : Operand → Value) : xs.map f = #[f x] := by
  obtain ⟨l⟩ := xs; simp at h; subst h; simp
theorem eval_args2 {xs : Array Operand} {x y : Operand} (h : xs.toList = [x, y]) (f : Operand → Value) : xs.map f = #[f x, f y] := by
  obtain ⟨l⟩ := xs; simp at h; subst h; simp

theorem pureK_spec {P : Program} {Z : TypeId → D} (hZ : Zeros P Z) {ts : List D} {H : List SObj} {o : Oper} {k : D → Prop} (h : pureK P Z ts H o.op k) :
    ∃ d, isJunk d = false ∧ k d ∧ ∀ F, Yields P F ts H o d := by
  obtain ⟨dst, op, type, pos, after, guard⟩ := o
  simp only at h
  cases op <;> simp only [pureK] at h <;> try exact h.elim
  case move x =>
    obtain ⟨d, hj, hd, hk⟩ := valK_spec h
    exact ⟨d, hj, hk, fun F R a w _ hs _ => ⟨_, rfl, hd R a hs⟩⟩
  case assign x =>
    obtain ⟨d, hj, hd, hk⟩ := valK_spec h
    exact ⟨d, hj, hk, fun F R a w _ hs _ => ⟨_, rfl, hd R a hs⟩⟩
  case pick c x y =>
    obtain ⟨d, hj, hd, hk⟩ := valK_spec h
    split at hk <;> try exact hk.elim
    · obtain ⟨e, hej, he, hk⟩ := valK_spec hk
      refine ⟨e, hej, hk, fun F R a w _ hs _ => ⟨_, ?_, he R a hs⟩⟩
      have := (hd R a hs).conc
      simp only [conc] at this
      simp only [execOp, ← this, asBool, Sem.run_bind, Sem.run_pure, Result.andThen_ok, if_true]
    · obtain ⟨e, hej, he, hk⟩ := valK_spec hk
      refine ⟨e, hej, hk, fun F R a w _ hs _ => ⟨_, ?_, he R a hs⟩⟩
      have := (hd R a hs).conc
      simp only [conc] at this
      simp only [execOp, ← this, asBool, Sem.run_bind, Sem.run_pure, Result.andThen_ok, Bool.false_eq_true, if_false]
    · rename_i q
      obtain ⟨e, hej, he, hk⟩ := valK_spec hk
      obtain ⟨f, hfj, hf, hk⟩ := valK_spec hk
      unfold pickK at hk
      split at hk <;> try exact hk.elim
      rename_i b1 b2 h1 h2
      refine ⟨_, rfl, hk, fun F R a w _ hs _ => ?_⟩
      have := (hd R a hs).conc
      simp only [conc] at this
      have e1 := boolOf_spec h1 (he R a hs)
      have e2 := boolOf_spec h2 (hf R a hs)
      refine ⟨.bool (if q then b1 else b2), ?_, fun X => by simp [conc]⟩
      simp only [execOp, ← this, asBool, Sem.run_bind, Sem.run_pure, Result.andThen_ok, e1, e2]
      cases q <;> rfl
  case build T parts =>
    obtain ⟨ds, hk, hl, hs⟩ := partsK_spec _ _ h
    obtain ⟨d, ha, hk, hr⟩ := buildK_spec hZ hk
    refine ⟨d, by cases d <;> simp [isAgg] at ha <;> rfl, hk, fun F R a w _ hsl _ => ?_⟩
    obtain ⟨v, hv, hi⟩ := hr R w (parts.map fun (i, x) => (i, a.eval x)) (by simpa using hl.symm) (fun j i e he => by
      obtain ⟨x, hx, hev⟩ := hs j i e he
      have hx' : parts[j]? = some (i, x) := by simpa using hx
      exact ⟨a.eval x, by simp [hx'], hev R a hsl⟩)
    exact ⟨v, run_v hv, hi⟩
  case load T x =>
    obtain ⟨d, hj, hd, hk⟩ := valK_spec h
    obtain ⟨e, hlies, hk⟩ := loadK_spec H d _ hk
    obtain ⟨hej, hk⟩ := (known_iff _ _).1 hk
    obtain ⟨hk, hr⟩ := run_loadVar_lies hk
    refine ⟨e, hej, hk, fun F R a w hl hsl hs => ?_⟩
    obtain ⟨b, o, c, t, fr, hx, hb, hsz, hc⟩ := hlies F R w _ hl hs (hd R a hsl)
    obtain ⟨v, hv, hi⟩ := hr w b o c t fr R hb hsz hc
    refine ⟨v, ?_, hi⟩
    simp only [execOp, hx, Instr.loadAt, Instr.sureAddr, pure_bind]
    exact run_v hv
  case nilCheck x =>
    obtain ⟨d, hj, hd, hk⟩ := valK_spec h
    unfold nilCheckK at hk
    split at hk <;> try exact hk.elim
    · rename_i hh p
      obtain ⟨hl, hk⟩ := nonNilK_spec hk
      refine ⟨_, rfl, hk, fun F R a w hlen hsl hs => ?_⟩
      obtain ⟨u, hu⟩ := hl F R w hlen hs _ (hd R a hsl)
      exact ⟨a.eval x, by simp only [execOp, hu]; rfl, hd R a hsl⟩
    · rename_i u
      refine ⟨_, rfl, hk, fun F R a w hlen hsl hs => ?_⟩
      have := (hd R a hsl).conc
      simp only [conc, one] at this
      exact ⟨a.eval x, by simp only [execOp, ← this]; rfl, hd R a hsl⟩
    · rename_i f c
      refine ⟨_, rfl, hk, fun F R a w hlen hsl hs => ?_⟩
      have := (hd R a hsl).conc
      simp only [conc] at this
      exact ⟨a.eval x, by simp only [execOp, ← this]; rfl, hd R a hsl⟩
    · rename_i T c
      refine ⟨_, rfl, hk, fun F R a w hlen hsl hs => ?_⟩
      have := (hd R a hsl).conc
      simp only [conc] at this
      exact ⟨a.eval x, by simp only [execOp, ← this]; rfl, hd R a hsl⟩
  case binOp op T x y T' =>
    obtain ⟨d, hj, hd, hk⟩ := valK_spec h
    obtain ⟨e, hej, he, hk⟩ := valK_spec hk
    obtain ⟨r, hrj, hk, hr⟩ := binK_spec hk x y
    refine ⟨r, hrj, hk, fun F R a w hlen hsl hs => ?_⟩
    obtain ⟨v, hv, hi⟩ := hr F R w _ _ hlen hs (hd R a hsl) (he R a hsl)
    exact ⟨v, run_v hv, hi⟩
  case unOp op T x =>
    obtain ⟨d, hj, hd, hk⟩ := valK_spec h
    obtain ⟨r, hrj, hk, hr⟩ := unK_spec (P := P) hk
    refine ⟨r, hrj, hk, fun F R a w hlen hsl hs => ?_⟩
    obtain ⟨v, hv, hi⟩ := hr R w _ (hd R a hsl)
    exact ⟨v, run_v hv, hi⟩
  case convert S T x =>
    obtain ⟨d, hj, hd, hk⟩ := valK_spec h
    unfold convK at hk
    split at hk <;> try exact hk.elim
    · obtain ⟨r, hrj, hk, hr⟩ := convIntK_spec hk
      refine ⟨r, hrj, hk, fun F R a w hlen hsl hs => ?_⟩
      obtain ⟨v, hv, hi⟩ := hr R w _ (hd R a hsl)
      exact ⟨v, run_v hv, hi⟩
    · obtain ⟨r, hrj, hk, hr⟩ := bytesStrK_spec hk (fun b h => by cases h)
      refine ⟨r, hrj, hk, fun F R a w hlen hsl hs => ?_⟩
      obtain ⟨v, hv, hi⟩ := hr F R w _ hlen hs (hd R a hsl)
      exact ⟨v, run_v hv, hi⟩
    · obtain ⟨r, hrj, hk, hr⟩ := bytesStrK_spec hk (fun b h => by cases h)
      refine ⟨r, hrj, hk, fun F R a w hlen hsl hs => ?_⟩
      obtain ⟨v, hv, hi⟩ := hr F R w _ hlen hs (hd R a hsl)
      exact ⟨v, run_v hv, hi⟩
  case makeInterface T x =>
    obtain ⟨d, hj, hd, hk⟩ := valK_spec h
    unfold ifaceK at hk
    split at hk <;> try exact hk.elim
    rename_i t hne hu
    refine ⟨_, rfl, hk, fun F R a w hlen hsl hs => ⟨.iface T (a.eval x), ?_, fun X => by simp only [conc, hd R a hsl X]⟩⟩
    refine run_v ?_
    unfold Instr.makeInterface
    rw [Sem.run_bind, run_underlying hu]
    simp only [Result.andThen_ok]
    rfl
  case makeFunc fn first caps =>
    split at h <;> try exact h.elim
    rename_i hf
    obtain ⟨ds, hk, hs⟩ := listK_spec _ _ h
    have hf' : first = #[] := by simpa using hf
    refine ⟨_, rfl, hk, fun F R a w hlen hsl _ => ⟨.func fn #[] (caps.map a.eval), ?_, fun X => by simp only [conc, hs R a hsl X, ← Array.toList_map, Array.toArray_toList]⟩⟩
    refine run_v ?_
    simp [Instr.makeFunc, hf']
  case slice T x lo hi mx =>
    split at h <;> try exact h.elim
    obtain ⟨d, hj, hd, hk⟩ := valK_spec h
    obtain ⟨lo', hk, hlo⟩ := optK_spec _ _ hk
    obtain ⟨hi', hk, hhi⟩ := optK_spec _ _ hk
    obtain ⟨hk, hptr⟩ := solidK_spec hk
    obtain ⟨r, hrj, hk, hr⟩ := sliceK_spec hk
    refine ⟨r, hrj, hk, fun F R a w hlen hsl hs => ?_⟩
    obtain ⟨v, hv, hi⟩ := hr R w _ _ _ (hd R a hsl) (hlo R a hsl) (hhi R a hsl) (hptr F R w _ hlen hs (hd R a hsl))
    exact ⟨v, run_v hv, hi⟩
  case fieldAddr S x i =>
    obtain ⟨d, hj, hd, hk⟩ := valK_spec h
    obtain ⟨hk, hptr⟩ := solidK_spec hk
    have hptr' : (∃ hh p, d = .ptr hh p) ∨ ∃ u, d = .val (.pointer (some u)) := by
      unfold fieldAddrK at hk
      split at hk <;> try exact hk.elim
      · exact .inl ⟨_, _, rfl⟩
      · split at hk <;> try exact hk.elim
        exact .inr ⟨_, rfl⟩
    obtain ⟨r, hrj, hk, hr⟩ := fieldAddrK_spec hk
    refine ⟨r, hrj, hk, fun F R a w hlen hsl hs => ?_⟩
    have hu : ∃ u, a.eval x = .pointer (some u) := by
      rcases hptr' with ⟨hh, p, e⟩ | ⟨u, e⟩
      · exact hptr F R w _ hlen hs (hd R a hsl) hh p e
      · have := (hd R a hsl).conc
        rw [e] at this
        exact ⟨u, this.symm⟩
    obtain ⟨u, hu⟩ := hu
    obtain ⟨v, hv, hi⟩ := hr R w _ (hd R a hsl) u hu
    exact ⟨v, run_v hv, hi⟩
  case field S x i =>
    obtain ⟨d, hj, hd, hk⟩ := valK_spec h
    obtain ⟨r, hk, hr⟩ := fieldK_spec hk
    obtain ⟨hrj, hk⟩ := (known_iff _ _).1 hk
    refine ⟨r, hrj, hk, fun F R a w hlen hsl hs => ?_⟩
    obtain ⟨v, hv, hi⟩ := hr R w _ (hd R a hsl)
    exact ⟨v, run_v hv, hi⟩
  case indexAddr T x i =>
    obtain ⟨d, hj, hd, hk⟩ := valK_spec h
    obtain ⟨e, hej, he, hk⟩ := valK_spec hk
    obtain ⟨hk, hptr⟩ := solidK_spec hk
    obtain ⟨r, hrj, hk, hr⟩ := indexAddrK_spec hk
    refine ⟨r, hrj, hk, fun F R a w hlen hsl hs => ?_⟩
    obtain ⟨v, hv, hi⟩ := hr F R w _ _ hlen hs (hd R a hsl) (he R a hsl) (hptr F R w _ hlen hs (hd R a hsl))
    exact ⟨v, run_v hv, hi⟩
  case index T x i =>
    obtain ⟨d, hj, hd, hk⟩ := valK_spec h
    obtain ⟨e, hej, he, hk⟩ := valK_spec hk
    obtain ⟨r, hrj, hk, hr⟩ := indexK_spec hk
    refine ⟨r, hrj, hk, fun F R a w hlen hsl hs => ?_⟩
    obtain ⟨v, hv, hi⟩ := hr R w _ _ (hd R a hsl) (he R a hsl)
    exact ⟨v, run_v hv, hi⟩
  case lookup T x i ok =>
    obtain ⟨d, hj, hd, hk⟩ := valK_spec h
    obtain ⟨e, hej, he, hk⟩ := valK_spec hk
    obtain ⟨r, hrj, hk, hr⟩ := lookupK_spec hZ hk
    refine ⟨r, hrj, hk, fun F R a w hlen hsl hs => ?_⟩
    obtain ⟨v, hv, hi⟩ := hr F R w _ _ hlen hs (hd R a hsl) (he R a hsl)
    exact ⟨v, run_v hv, hi⟩
  case extract x i =>
    obtain ⟨d, hj, hd, hk⟩ := valK_spec h
    split at hk <;> try exact hk.elim
    obtain ⟨r, hrj, hk, hg⟩ := extractK_spec _ _ _ hk
    refine ⟨r, hrj, hk, fun F R a w hlen hsl hs => ?_⟩
    obtain ⟨v, hv, hi⟩ := run_extract (P := P) hg (hd R a hsl) w
    exact ⟨v, run_v hv, hi⟩
  case call c =>
    obtain ⟨callee, args, ats⟩ := c
    simp only at h
    split at h <;> try exact h.elim
    · split at h <;> try exact h.elim
      rename_i x T hx hT
      obtain ⟨d, hj, hd, hk⟩ := valK_spec h
      have hT' : ats = #[T] := by obtain ⟨l⟩ := ats; simp at hT; subst hT; rfl
      split at hk
      · rename_i kt et hu
        obtain ⟨r, hrj, hk, hr⟩ := lenMK_spec hu hk
        refine ⟨r, hrj, hk, fun F R a w hlen hsl hs => ?_⟩
        obtain ⟨v, hv, hi⟩ := hr F R w _ type hlen hs (hd R a hsl)
        refine ⟨v, ?_, hi⟩
        rw [BigFrame.execOp_builtin, BigFrame.builtin_len, eval_args1 hx, hT']
        exact run_v (by simpa using hv)
      · obtain ⟨r, hrj, hk, hr⟩ := lengthK_spec hk
        refine ⟨r, hrj, hk, fun F R a w hlen hsl hs => ?_⟩
        obtain ⟨v, hv, hi⟩ := hr R w _ type #[] (hd R a hsl)
        refine ⟨v, ?_, hi⟩
        rw [BigFrame.execOp_builtin, BigFrame.builtin_len, eval_args1 hx, hT']
        exact run_v (by simpa using hv)
    · split at h <;> try exact h.elim
      rename_i x y hx
      obtain ⟨d, hj, hd, hk⟩ := valK_spec h
      obtain ⟨e, hej, he, hk⟩ := valK_spec hk
      unfold minK at hk
      split at hk <;> try exact hk.elim
      rename_i q m q' n _
      refine ⟨_, rfl, hk, fun F R a w hlen hsl hs => ⟨.int q (if n < m then n else m), ?_, fun _ => rfl⟩⟩
      have e1 := int_of_is (hd R a hsl)
      have e2 := int_of_is (he R a hsl)
      rw [BigFrame.execOp_builtin, BigFrame.builtin_min, eval_args2 hx, e1, e2]
      exact run_v rfl
end Go.Proofs.Ytdgnnboljgpcmaa.E
