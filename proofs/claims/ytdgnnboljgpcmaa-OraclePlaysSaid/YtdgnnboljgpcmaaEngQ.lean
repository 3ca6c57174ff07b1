import Derived.Test.YtdgnnboljgpcmaaEngU
import Derived.Test.YtdgnnboljgpcmaaEngOz
namespace Go.Proofs.Ytdgnnboljgpcmaa.E
open Go

/-! ### Code -/
def forceL : List D → (List D → Prop) → Prop
  | [], k => k []
  | d :: r, k => force d fun d => forceL r fun r => k (d :: r)
theorem forceL_iff : ∀ (l : List D) (k : List D → Prop), forceL l k ↔ k l
  | [], _ => Iff.rfl
  | d :: r, k => by rw [forceL, force_iff, forceL_iff r]
def forceHL : List SObj → (List SObj → Prop) → Prop
  | [], k => k []
  | d :: r, k => forceHL r fun r => k (d :: r)
theorem forceHL_iff : ∀ (l : List SObj) (k : List SObj → Prop), forceHL l k ↔ k l
  | [], _ => Iff.rfl
  | d :: r, k => by rw [forceHL, forceHL_iff r]
/-- A state written out. -/
def forceK (st : St) (k : St → Prop) : Prop := match st with
  | ⟨ts, H⟩ => forceL ts fun ts => forceHL H fun H => k ⟨ts, H⟩
theorem forceK_iff (st : St) (k : St → Prop) : forceK st k ↔ k st := by
  obtain ⟨ts, H⟩ := st
  simp only [forceK, forceL_iff, forceHL_iff]
/-- So many slots, of which these are known (in order). -/
def slotsGo : Nat → Nat → List (Nat × D) → List D
  | _, 0, _ => []
  | i, n + 1, [] => .junk :: slotsGo (i + 1) n []
  | i, n + 1, (j, d) :: r => match Nat.beq i j with
    | true => d :: slotsGo (i + 1) n r
    | false => .junk :: slotsGo (i + 1) n ((j, d) :: r)
abbrev slotsOf (n : Nat) (l : List (Nat × D)) : List D := slotsGo 0 n l
/-- Two ways come together: go on on each, or forget in what they differ. -/
inductive JoinAt (n0 : Nat) (first : (St → Prop) → Prop) (next : St → Prop) : Prop where
  | through (h : first next)
  | cut (X : Type) (S : X → St) (hn : ∀ x, n0 ≤ (S x).H.length) (h : first fun st => ∃ x, fitsK st (S x)) (hnext : ∀ x, forceK (S x) next)
/-- A loop: what holds at each round's head. -/
inductive LoopAt (n0 : Nat) (round : St → (St → Prop) → Prop) (st : St) : Prop where
  | of (X : Type) (I : X → Prop) (μ : X → Nat) (S : X → St) (hn : ∀ x, n0 ≤ (S x).H.length) (x0 : X) (h0 : I x0) (hf : fitsK st (S x0))
      (h : ∀ x, I x → forceK (S x) fun st => round st fun st => ∃ x', (I x' ∧ μ x' < μ x) ∧ fitsK st (S x'))
/-- A loop, in whose rounds the blocks may be numbered anew. -/
inductive LoopR (n0 : Nat) (round : St → (St → Prop) → Prop) (st : St) : Prop where
  | of (X : Type) (I : X → Prop) (μ : X → Nat) (S : X → St) (hn : ∀ x, n0 ≤ (S x).H.length) (x0 : X) (h0 : I x0) (hf : fitsK st (S x0))
      (h : ∀ x, I x → forceK (S x) fun st => round st fun st => ∃ x', (I x' ∧ μ x' < μ x) ∧ ∃ σ, fitsR n0 σ st (S x'))
/-- A loop, ahead of which nil slices are told as slices of rows that are not there. -/
inductive LoopN (n0 : Nat) (round : St → (St → Prop) → Prop) : St → Prop where
  | here {st : St} (h : LoopAt n0 round st) : LoopN n0 round st
  | hereR {st : St} (h : LoopR n0 round st) : LoopN n0 round st
  | nil {st : St} (S : St) (hf : nilK st S) (h : LoopN n0 round S) : LoopN n0 round st
theorem LoopN.ofR {n0 : Nat} {round : St → (St → Prop) → Prop} {st : St} (X : Type) (I : X → Prop) (μ : X → Nat) (S : X → St) (hn : ∀ x, n0 ≤ (S x).H.length) (x0 : X) (h0 : I x0) (hf : fitsK st (S x0))
    (h : ∀ x, I x → forceK (S x) fun st => round st fun st => ∃ x', (I x' ∧ μ x' < μ x) ∧ ∃ σ, fitsR n0 σ st (S x')) : LoopN n0 round st := .hereR (.of X I μ S hn x0 h0 hf h)
theorem LoopN.of {n0 : Nat} {round : St → (St → Prop) → Prop} {st : St} (X : Type) (I : X → Prop) (μ : X → Nat) (S : X → St) (hn : ∀ x, n0 ≤ (S x).H.length) (x0 : X) (h0 : I x0) (hf : fitsK st (S x0))
    (h : ∀ x, I x → forceK (S x) fun st => round st fun st => ∃ x', (I x' ∧ μ x' < μ x) ∧ fitsK st (S x')) : LoopN n0 round st := .here (.of X I μ S hn x0 h0 hf h)
/-- A region whose order is drawn. -/
inductive DrawAt (P : Program) (Z : TypeId → D) (ops : List Oper) (ts : List D) (H : List SObj) (k : St → Prop) : Prop where
  | all (hB : Region.lexB .any ops.toArray = true) (h : quietK P Z ops H ops ts fun ts => k ⟨ts, H⟩)
  | mixed (E L mods : List Nat) (hB : mixedB ops.toArray E L = true) (h : maskK mods 0 H fun m r => quietK P Z ops r (pickOps ops E) ts fun ts => opsK P Z ops (pickOps ops L) ⟨ts, m⟩ fun st => match st with
      | ⟨ts, H⟩ => mergeK H r fun H => k ⟨ts, H⟩)
  | last (E L : List Nat) (z : Nat) (zr mods : List Nat) (hB : lastB ops.toArray E L z zr = true) (h : maskK mods 0 H fun m r => quietK P Z ops r (pickOps ops E) ts fun ts => opsK P Z ops (pickOps ops L) ⟨ts, m⟩ fun st => match st with
      | ⟨ts, H⟩ => mergeK H r fun H => opsK P Z ops (pickOps ops (z :: zr)) ⟨ts, H⟩ k)
  | tail (n : Nat) (hB : Region.lexTailB .any ops.toArray n = true) (h : quietK P Z ops H (ops.take n) ts fun ts => opsK P Z ops (ops.drop n) ⟨ts, H⟩ k)
mutual
/-- How often control may come out of the code at its end. -/
def ways : Code → Nat
  | .seq a b => ways a * ways b
  | .cond _ a b => ways a + ways b
  | .block id a => ways a + outs id a
  | .exit _ | .ret | .goto _ | .refuse _ => 0
  | .loop _ => 0
  | _ => 1
def outs (id : Nat) : Code → Nat
  | .seq a b => outs id a + ways a * outs id b
  | .cond _ a b => outs id a + outs id b
  | .block _ a => outs id a
  | .exit i => if Nat.beq i id then 1 else 0
  | .loop a => outs id a
  | _ => 0
end
abbrev ExT : Type 1 := St → (St → Prop) → (Nat → St → Prop) → (St → Prop) → Prop
def exRegion (P : Program) (Z : TypeId → D) (ops : Array Oper) (d : Bool) (st : St) (kn : St → Prop) : Prop :=
  match d with
  | false => opsK P Z ops.toList ops.toList st kn
  | true => match st with
    | ⟨ts, H⟩ => DrawAt P Z ops.toList ts H kn
def exSeq (n0 : Nat) (many : Bool) (a b : ExT) (st : St) (kn : St → Prop) (ke : Nat → St → Prop) (kr : St → Prop) : Prop :=
  match many with
  | true => JoinAt n0 (fun k => a st k ke kr) (fun st => b st kn ke kr)
  | false => a st (fun st => b st kn ke kr) ke kr
def exCond (c : Operand) (a b : ExT) (st : St) (kn : St → Prop) (ke : Nat → St → Prop) (kr : St → Prop) : Prop :=
  match st with
  | ⟨ts, H⟩ => match c with
    | .tmp t => match getT ts t with
      | .tup [] => False
      | _ => splitK ts t (fun ts => a ⟨ts, H⟩ kn ke kr) (fun ts => b ⟨ts, H⟩ kn ke kr)
    | .const (.bool true) => a ⟨ts, H⟩ kn ke kr
    | .const (.bool false) => b ⟨ts, H⟩ kn ke kr
    | _ => False
def exBlock (id : Nat) (a : ExT) (st : St) (kn : St → Prop) (ke : Nat → St → Prop) (kr : St → Prop) : Prop :=
  a st kn (fun i st => match Nat.beq i id with
    | true => kn st
    | false => ke i st) kr
/-- What the code does (by the recursor itself: so the checker and the tactics come to the same term). -/
noncomputable def exec (P : Program) (Z : TypeId → D) (n0 : Nat) (c : Code) : ExT :=
  Code.rec (motive := fun _ => ExT)
    (fun st kn _ _ => kn st)
    (fun _ ops d st kn _ _ => exRegion P Z ops d st kn)
    (fun a _ iha ihb => exSeq n0 (Nat.ble 2 (ways a)) iha ihb)
    (fun c _ _ iha ihb => exCond c iha ihb)
    (fun id _ ih => exBlock id ih)
    (fun _ ih st _ ke kr => LoopN n0 (fun st k => ih st k ke kr) st)
    (fun _ _ _ _ _ _ _ _ _ _ => False)
    (fun id st _ ke _ => ke id st)
    (fun _ _ _ _ _ _ => False)
    (fun _ st kn _ _ => kn st)
    (fun _ _ _ _ _ => False)
    (fun st _ _ kr => kr st)
    (fun _ _ _ _ _ => False) c

structure Agrees (F : HP) (w0 : World) (R0 : Env) (Q : Exit → Act → World → Prop) (kn : St → Prop) (ke : Nat → St → Prop) (kr : St → Prop) : Prop where
  n : ∀ st R a w, kn st → Rep F w0 R0 st R a w → Q .normal a w
  e : ∀ id st R a w, ke id st → Rep F w0 R0 st R a w → Q (.exit id) a w
  r : ∀ st R a w, kr st → Rep F w0 R0 st R a w → Q .ret a w
theorem Rep.ts {F : HP} {w0 : World} {R0 : Env} {ts ts' : List D} {H : List SObj} {R : Env} {a : Act} {w : World} (h : Rep F w0 R0 ⟨ts, H⟩ R a w) (hs : Slots R ts' a.tmps.toList) : Rep F w0 R0 ⟨ts', H⟩ R a w :=
  ⟨h.pre, h.len, hs, h.defers, h.sat, h.same⟩
theorem Rep.drew {F : HP} {w0 : World} {R0 : Env} {st : St} {R : Env} {a : Act} {w : World} (h : Rep F w0 R0 st R a w) : Rep F w0 R0 st R a { w with drawn := w.drawn + 1 } :=
  ⟨h.pre, h.len, h.slots, h.defers, h.sat.heap rfl, h.same.trans ⟨rfl, rfl, rfl, Nat.le_refl _⟩⟩

theorem LoopN.start {n0 : Nat} {round : St → (St → Prop) → Prop} {st : St} (h : LoopN n0 round st) {F : HP} {w0 : World} {R0 : Env} {a : Act} {w : World} : ∀ R, Rep F w0 R0 st R a w → ∃ st1 R1, (LoopAt n0 round st1 ∨ LoopR n0 round st1) ∧ Rep F w0 R0 st1 R1 a w := by
  induction h with
  | here h => exact fun R hr => ⟨_, R, .inl h, hr⟩
  | hereR h => exact fun R hr => ⟨_, R, .inr h, hr⟩
  | nil S hf h ih => exact fun R hr => ih (R ++ [none]) (nilK_spec hf hr)
theorem exec_spec {P : Program} {Z : TypeId → D} (hZ : Zeros P Z) (hm : P.follows .mixedOrders = true) {F : HP} {w0 : World} {R0 : Env} {n0 : Nat} (hn0 : R0.length = n0) : ∀ (c : Code) (st : St) (kn : St → Prop) (ke : Nat → St → Prop) (kr : St → Prop),
    exec P Z n0 c st kn ke kr → ∀ (Q : Exit → Act → World → Prop), Agrees F w0 R0 Q kn ke kr → ∀ R a w, Rep F w0 R0 st R a w → c.wp P Q a w
  | .skip, st, kn, ke, kr, h, Q, hq, R, a, w, hr => wp_skip (hq.n _ _ _ _ h hr)
  | .label _, st, kn, ke, kr, h, Q, hq, R, a, w, hr => wp_label (hq.n _ _ _ _ h hr)
  | .exit id, st, kn, ke, kr, h, Q, hq, R, a, w, hr => wp_exit (hq.e _ _ _ _ _ h hr)
  | .ret, st, kn, ke, kr, h, Q, hq, R, a, w, hr => wp_ret (hq.r _ _ _ _ h hr)
  | .region id ops d, st, kn, ke, kr, h, Q, hq, R, a, w, hr => by
    cases d with
    | false =>
      have h : opsK P Z ops.toList ops.toList st kn := h
      have := opsK_spec hZ (Q := Q) hq.n ops.toList st R a w hr h
      exact wp_region_lit (l := ops.toList) this
    | true =>
      obtain ⟨ts, H⟩ := st
      have h : DrawAt P Z ops.toList ts H kn := h
      have hr' := hr.drew
      have hl := hr.len
      have hown : Owns F R H { w with drawn := w.drawn + 1 } { w with drawn := w.drawn + 1 } := ⟨hr'.sat, Same.refl _⟩
      have hrep : ∀ ts a' w', Slots R ts a'.tmps.toList → a'.defers = [] → Owns F R H { w with drawn := w.drawn + 1 } w' → Rep F w0 R0 ⟨ts, H⟩ R a' w' := fun ts a' w' h1 h2 h3 =>
        ⟨hr.pre, hr.len, h1, h2, h3.1, hr'.same.trans h3.2⟩
      cases h with
      | mixed E L mods hB h => exact region_mixed hZ hm hq.n E L mods hB hr h
      | last E L z zr mods hB h => exact region_last hZ hm hq.n E L z zr mods hB hr h
      | all hB h =>
        have := quietK_spec (Q := fun a' => ∀ w', Owns F R H { w with drawn := w.drawn + 1 } w' → Q .normal a' w') hZ hl ⟨_, hown⟩ (fun ts a' hk hs hd w' hw' => hq.n _ _ _ _ hk (hrep ts a' w' hs hd hw')) ops.toList ts a hr.slots hr.defers h
        exact wp_region_quiet hm (by simpa using hB) hown (by simpa using this)
      | tail n hB h =>
        have := quietK_spec (Q := fun a' => ∀ w', Owns F R H { w with drawn := w.drawn + 1 } w' → wpList P ops.toList.toArray Q (ops.toList.drop n) a' w') hZ hl ⟨_, hown⟩
          (fun ts a' hk hs hd w' hw' => opsK_spec hZ hq.n _ _ _ _ _ (hrep ts a' w' hs hd hw') hk) (ops.toList.take n) ts a hr.slots hr.defers h
        exact region_quiet_tail (l := ops.toList) n hm hB hown this
  | .seq x y, st, kn, ke, kr, h, Q, hq, R, a, w, hr => by
    have h : exSeq n0 (Nat.ble 2 (ways x)) (exec P Z n0 x) (exec P Z n0 y) st kn ke kr := h
    unfold exSeq at h
    have one : exec P Z n0 x st (fun st => exec P Z n0 y st kn ke kr) ke kr → (Code.seq x y).wp P Q a w := fun h =>
      wp_seq (exec_spec hZ hm hn0 x st _ ke kr h (Exit.then (y.wp P Q) Q) ⟨fun st R a w hk hr => exec_spec hZ hm hn0 y st kn ke kr hk Q hq R a w hr, hq.e, hq.r⟩ R a w hr)
    split at h
    · cases h with
      | through h => exact one h
      | cut X S hn h hnext =>
        exact wp_seq (exec_spec hZ hm hn0 x st _ ke kr h (Exit.then (y.wp P Q) Q) ⟨fun st R a w ⟨x, hk⟩ hr => exec_spec hZ hm hn0 y (S x) kn ke kr ((forceK_iff _ _).1 (hnext x)) Q hq _ a w (fitsK_spec hk hr (by rw [hn0]; exact hn x)), hq.e, hq.r⟩ R a w hr)
    · exact one h
  | .cond c x y, st, kn, ke, kr, h0, Q, hq, R, a, w, hr => by
    obtain ⟨ts, H⟩ := st
    have h : exCond c (exec P Z n0 x) (exec P Z n0 y) ⟨ts, H⟩ kn ke kr := h0
    clear h0
    unfold exCond at h
    simp only at h
    split at h <;> try exact h.elim
    · rename_i t
      split at h <;> try exact h.elim
      rename_i hnt
      have ev : ∀ v, a.tmps.toList[t]? = some v → a.eval (.tmp t) = v := fun v hv => by
        rw [Array.getElem?_toList] at hv
        simp [Act.eval, hv]
      rcases splitK_spec h hr.slots with ⟨ts', h1, h2, h3⟩ | ⟨ts', h1, h2, h3 | ⟨h3, h4⟩⟩
      · exact wp_cond_true (ev _ h3) (exec_spec hZ hm hn0 x _ kn ke kr h1 Q hq R a w (hr.ts h2))
      · exact wp_cond_false (ev _ h3) (exec_spec hZ hm hn0 y _ kn ke kr h1 Q hq R a w (hr.ts h2))
      · exact absurd h3 hnt
    · exact wp_cond_true rfl (exec_spec hZ hm hn0 x _ kn ke kr h Q hq R a w hr)
    · exact wp_cond_false rfl (exec_spec hZ hm hn0 y _ kn ke kr h Q hq R a w hr)
  | .block id x, st, kn, ke, kr, h, Q, hq, R, a, w, hr => by
    have h : exBlock id (exec P Z n0 x) st kn ke kr := h
    unfold exBlock at h
    refine wp_block (exec_spec hZ hm hn0 x st _ _ kr h (Exit.inBlock id Q) ⟨hq.n, fun i st R a w hk hr => ?_, hq.r⟩ R a w hr)
    simp only [Exit.inBlock]
    split at hk
    · rename_i he
      rw [if_pos (Nat.eq_of_beq_eq_true he)]
      exact hq.n _ _ _ _ hk hr
    · rename_i he
      rw [if_neg (fun e => by rw [e, Nat.beq_refl] at he; cases he)]
      exact hq.e _ _ _ _ _ hk hr
  | .loop x, st, kn, ke, kr, h, Q, hq, R, a, w, hr => by
    have h : LoopN n0 (fun st k => exec P Z n0 x st k ke kr) st := h
    obtain ⟨st, R, h, hr⟩ := h.start R hr
    rcases h with h | h
    rotate_left
    · obtain ⟨X, I, μ, S, hn, x0, h0, hf, h⟩ := h
      refine wp_loop_ghost (fun n a w => ∃ x R, I x ∧ μ x = n ∧ Rep F w0 R0 (S x) R a w) (μ x0) ⟨x0, _, h0, rfl, fitsK_spec hf hr (by rw [hn0]; exact hn x0)⟩ ?_
      rintro n a w ⟨x1, R1, hI, rfl, hr1⟩
      refine exec_spec hZ hm hn0 x (S x1) _ ke kr ((forceK_iff _ _).1 (h x1 hI)) (Exit.then (fun a' w' => ∃ n', n' < μ x1 ∧ ∃ x R, I x ∧ μ x = n' ∧ Rep F w0 R0 (S x) R a' w') Q) ⟨fun st R a w ⟨x2, ⟨hI2, hlt⟩, σ, hf2⟩ hr2 => ?_, hq.e, hq.r⟩ R1 a w hr1
      rw [← hn0] at hf2
      exact ⟨μ x2, hlt, x2, _, hI2, rfl, fitsR_spec hf2 hr2⟩
    obtain ⟨X, I, μ, S, hn, x0, h0, hf, h⟩ := h
    refine wp_loop_ghost (fun n a w => ∃ x R, I x ∧ μ x = n ∧ Rep F w0 R0 (S x) R a w) (μ x0) ⟨x0, _, h0, rfl, fitsK_spec hf hr (by rw [hn0]; exact hn x0)⟩ ?_
    rintro n a w ⟨x1, R1, hI, rfl, hr1⟩
    refine exec_spec hZ hm hn0 x (S x1) _ ke kr ((forceK_iff _ _).1 (h x1 hI)) (Exit.then (fun a' w' => ∃ n', n' < μ x1 ∧ ∃ x R, I x ∧ μ x = n' ∧ Rep F w0 R0 (S x) R a' w') Q) ⟨fun st R a w ⟨x2, ⟨hI2, hlt⟩, hf2⟩ hr2 => ?_, hq.e, hq.r⟩ R1 a w hr1
    exact ⟨μ x2, hlt, x2, _, hI2, rfl, fitsK_spec hf2 hr2 (by rw [hn0]; exact hn x2)⟩
  | .rangeFunc .., st, kn, ke, kr, h, Q, hq, R, a, w, hr => h.elim
  | .scope _, st, kn, ke, kr, h, Q, hq, R, a, w, hr => h.elim
  | .goto _, st, kn, ke, kr, h, Q, hq, R, a, w, hr => h.elim
  | .refuse _, st, kn, ke, kr, h, Q, hq, R, a, w, hr => h.elim

/-! ### A function's end, and a function -/
def resK (P : Program) (ts : List D) (H : List SObj) : List ResultVar → (List D → Prop) → Prop
  | [], k => k []
  | .tmp t :: r, k => known (getT ts t) fun d => resK P ts H r fun ds => k (d :: ds)
  | .cell t T :: r, k => known (getT ts t) fun a => loadK H a fun e => known e fun e => kindK P T e (resK P ts H r fun ds => k (e :: ds))
def resD : List D → (D → Prop) → Prop
  | [d], k => k d
  | ds, k => k (.tup ds)
/-- What is handed back, and what of the blocks is told. -/
def retK (d : D) (H : List SObj) (post : D → List SObj → Prop) : Prop :=
  ∃ d' H', post d' H' ∧ lenK H 0 fun n => lenK H' 0 fun m => Eqv d d' ∧ (match Nat.beq n m with | true => fitHs true m H H' True | false => belK m d' (fitHs false m H H' True))
def endK (P : Program) (rs : List ResultVar) (post : D → List SObj → Prop) (st : St) : Prop := match st with
  | ⟨ts, H⟩ => resK P ts H rs fun ds => resD ds fun d => retK d H post

def oneRes (tmps : Array Value) : ResultVar → Sem Value
  | .tmp t => pure (tmps.getD t undef)
  | .cell b t => do loadVar t (← asAddr (tmps.getD b undef))
theorem resK_spec {P : Program} {ts : List D} {H : List SObj} : ∀ (rs : List ResultVar) (k : List D → Prop), resK P ts H rs k → ∃ ds, k ds ∧ ds.length = rs.length ∧ (∀ d ∈ ds, isJunk d = false) ∧
    ∀ F R (a : Act) w, R.length = H.length → Slots R ts a.tmps.toList → Sat (star (hpH R R H) F) w → ∃ vs : List Value, IsL R ds vs ∧
      (rs.mapM (oneRes a.tmps)).run P w = .ok vs w
  | [], k, h => ⟨[], h, rfl, by simp, fun F R a w _ _ _ => ⟨[], fun _ => rfl, rfl⟩⟩
  | .tmp t :: r, k, h => by
    obtain ⟨hj, h⟩ := (known_iff _ _).1 h
    obtain ⟨ds, hk, hl, hjs, hrun⟩ := resK_spec r _ h
    refine ⟨_, hk, by simp [hl], by simpa [hj] using hjs, fun F R a w hlen hsl hs => ?_⟩
    obtain ⟨vs, hvs, hr⟩ := hrun F R a w hlen hsl hs
    obtain ⟨v, hv, hi⟩ := hsl.get t hj
    have hv' : a.tmps.getD t undef = v := by rw [Array.getElem?_toList] at hv; simp [hv]
    refine ⟨v :: vs, fun X => by simp only [concL]; rw [hi X, hvs X], ?_⟩
    rw [List.mapM_cons, Sem.run_bind]
    simp only [oneRes, hv', Sem.run_pure]
    simp only [Result.andThen_ok]
    rw [Sem.run_bind, hr]
    rfl
  | .cell t T :: r, k, h => by
    obtain ⟨hj, h⟩ := (known_iff _ _).1 h
    obtain ⟨e, hlies, h⟩ := loadK_spec H _ _ h
    obtain ⟨hej, h⟩ := (known_iff _ _).1 h
    obtain ⟨h, hload⟩ := run_loadVar_lies h
    obtain ⟨ds, hk, hl, hjs, hrun⟩ := resK_spec r _ h
    refine ⟨_, hk, by simp [hl], by simpa [hej] using hjs, fun F R a w hlen hsl hs => ?_⟩
    obtain ⟨vs, hvs, hr⟩ := hrun F R a w hlen hsl hs
    obtain ⟨v, hv, hi⟩ := hsl.get t hj
    have hv' : a.tmps.getD t undef = v := by rw [Array.getElem?_toList] at hv; simp [hv]
    obtain ⟨b, o, c, ty, fr, hx, hb, hsz, hc⟩ := hlies F R w v hlen hs hi
    obtain ⟨u, hu, hui⟩ := hload w b o c ty fr R hb hsz hc
    refine ⟨u :: vs, fun X => by simp only [concL]; rw [hui X, hvs X], ?_⟩
    rw [List.mapM_cons, Sem.run_bind]
    simp only [oneRes, hv', hx, asAddr, pure_bind]
    rw [hu]
    simp only [Result.andThen_ok]
    rw [Sem.run_bind, hr]
    rfl

theorem callAt_of_exec {P : Program} {Z : TypeId → D} (hZ : Zeros P Z) (hm : P.follows .mixedOrders = true) {f : FuncId} {fn : Func} {c : Code} {ds : List D} {H : List SObj} {post : D → List SObj → Prop}
    (hf : P.funcs[f]? = some fn) (hb : fn.body = some c) (hn : (fn.name == "runtime.NumGoroutine") = false) (hpost : ∀ d H', post d H' → H.length ≤ H'.length)
    (h : forceK ⟨ds ++ List.replicate (fn.ntmps - ds.length) .junk, H⟩ fun st => exec P Z H.length c st (endK P fn.results.toList post) (fun _ _ => False) (endK P fn.results.toList post)) : CallAt P f ds H post := by
  have h := (forceK_iff _ _).1 h
  refine ⟨⟨fn, c, hf, hb, hn⟩, fun F R w vs hl hs hv => calls_of_wp hf hb ?_⟩
  have hvl : vs.length = ds.length := by
    have := hv []
    rw [← this]
    have gen : ∀ (R : Env) (l : List D), (concL R l).length = l.length := fun R l => by induction l with
      | nil => rfl
      | cons x l ih => simp [concL, ih]
    rw [gen]
  have hslots : ∀ (ds : List D) (vs : List Value) (m : Nat), IsL R ds vs → Slots R (ds ++ List.replicate m .junk) (vs ++ List.replicate m undef) := by
    intro ds
    induction ds with
    | nil =>
      intro vs m hv
      have : vs = [] := (hv []).symm
      subst this
      simp only [List.nil_append]
      induction m with
      | zero => trivial
      | succ m ih => rw [List.replicate_succ, List.replicate_succ]; exact ⟨.inl rfl, ih⟩
    | cons d ds ih =>
      intro vs m hv
      have h0 := hv []
      simp only [concL] at h0
      subst h0
      refine ⟨.inr fun X => ?_, ih _ m fun X => ?_⟩
      · have := hv X
        simp only [concL] at this
        simpa using (List.cons.inj this).1
      · have := hv X
        simp only [concL] at this
        simpa using (List.cons.inj this).2
  have hrep : Rep F w R ⟨ds ++ List.replicate (fn.ntmps - ds.length) .junk, H⟩ R { tmps := vs.toArray ++ Array.replicate (fn.ntmps - vs.toArray.size) undef, defers := [] } w := by
    refine ⟨⟨[], by simp⟩, hl, ?_, rfl, hs, Same.refl w⟩
    have := hslots ds vs (fn.ntmps - ds.length) hv
    simpa [hvl] using this
  have fin : ∀ st R' a w', endK P fn.results.toList post st → Rep F w R st R' a w' → a.defers = [] ∧ ∃ v, (results fn a.tmps).run P w' = .ok v w' ∧ ∃ d H' X v', post d H' ∧ Ending.returned v = .returned v' ∧ (R ++ X).length = H'.length ∧ (isJunk d = true ∨ Is (R ++ X) d v') ∧
      Sat (star (hpH (R ++ X) (R ++ X) H') F) w' ∧ Same w w' := by
    rintro ⟨ts, H1⟩ R' a w' he hr
    obtain ⟨ds1, hk, hdl, hjs, hrun⟩ := resK_spec _ _ he
    have hlen := hr.len
    simp only at hlen
    obtain ⟨vs1, hvs1, hr1⟩ := hrun F R' a w' hlen hr.slots hr.sat
    have hd : ∃ d v, retK d H1 post ∧ Is R' d v ∧ (if h : vs1.toArray.size = 1 then vs1.toArray[0] else .tuple vs1.toArray) = v := by
      have hvl1 : vs1.length = ds1.length := by
        rw [← hvs1 []]
        have gen : ∀ (R : Env) (l : List D), (concL R l).length = l.length := fun R l => by induction l with
          | nil => rfl
          | cons x l ih => simp [concL, ih]
        rw [gen]
      match ds1, hk, hvs1, hvl1 with
      | [], hk, hvs1, hvl1 =>
        have : vs1 = [] := by simpa using hvl1
        subst this
        exact ⟨_, _, hk, fun X => by simp [conc, concL], rfl⟩
      | [d], hk, hvs1, hvl1 =>
        have h0 := hvs1 []
        simp only [concL] at h0
        subst h0
        refine ⟨d, _, hk, fun X => ?_, rfl⟩
        have := hvs1 X
        simp only [concL] at this
        simpa using (List.cons.inj this).1
      | d :: e :: r, hk, hvs1, hvl1 =>
        refine ⟨.tup (d :: e :: r), .tuple vs1.toArray, hk, fun X => by simp only [conc]; rw [hvs1 X], ?_⟩
        rw [dif_neg]
        simp only [List.size_toArray, hvl1, List.length_cons]
        omega
    obtain ⟨d, v, ⟨d', H', hp, hfit⟩, hi, hve⟩ := hd
    have hfit := (lenK_iff _ _ _).1 ((lenK_iff _ _ _).1 hfit)
    simp only [Nat.zero_add] at hfit
    obtain ⟨heq, hfit⟩ := hfit
    have hi := heq.is hi
    have hres : (results fn a.tmps).run P w' = .ok v w' := by
      unfold results
      rw [Sem.run_bind]
      have : (fn.results.mapM (oneRes a.tmps)).run P w' = .ok vs1.toArray w' := by
        rw [Array.mapM_eq_mapM_toList, Sem.run_map, hr1]
        rfl
      refine Eq.trans (congrArg (fun r => Result.andThen r _) this) ?_
      simp only [Result.andThen_ok, Sem.run_pure, hve]
    refine ⟨hr.defers, v, hres, d', H', ?_⟩
    have hlen2 : R'.length = H1.length := hlen
    obtain ⟨X, hX⟩ := hr.pre
    have hH0 : R.length ≤ H'.length := by rw [hl]; exact hpost _ _ hp
    have fit2 : H'.length ≤ R'.length ∧ Imp (hpH R' R' H1) (hpH (R'.take H'.length) (R'.take H'.length) H') ∧ Is (R'.take H'.length) d' v := by
      split at hfit
      · rename_i he
        have he := Nat.eq_of_beq_eq_true he
        have hle : H'.length ≤ R'.length := by omega
        obtain ⟨h1, h2, _⟩ := fitHs_spec (R := R') (ρ := R') hle (fun _ => by omega) hfit
        exact ⟨hle, h1, by rw [List.take_of_length_le (by omega)]; exact hi⟩
      · obtain ⟨hb, hfit⟩ := belK_spec _ _ _ hfit
        have hlen3 : ∀ (m : Nat) (H H' : List SObj) (k : Prop), fitHs false m H H' k → H'.length ≤ H.length := by
          intro m H
          induction H with
          | nil => intro H' k h; cases H' with
            | nil => simp
            | cons _ _ => exact h.elim
          | cons o r ih =>
            intro H' k h
            cases H' with
            | nil => simp
            | cons p r' =>
              have : fitHs false m r r' k := by
                simp only [fitHs] at h
                split at h
                · exact h
                · exact (belOK_spec h.2).1
              have := ih r' k this
              simpa using this
        have hle : H'.length ≤ R'.length := by have := hlen3 _ _ _ _ hfit; omega
        obtain ⟨h1, h2, _⟩ := fitHs_spec (R := R') (ρ := R') hle (fun e => by cases e) hfit
        exact ⟨hle, h1, is_drop hb hle hi⟩
    obtain ⟨hle, himp, his⟩ := fit2
    have hRX : R'.take H'.length = R ++ X.take (H'.length - R.length) := by rw [hX, List.take_append, List.take_of_length_le hH0]
    rw [hRX] at himp his
    refine ⟨X.take (H'.length - R.length), v, hp, rfl, ?_, .inr his, hr.sat.mono (star_mono himp (Imp.refl F)), hr.same⟩
    rw [← hRX, List.length_take]; omega
  refine exec_spec hZ hm hl c _ _ _ _ h _ ⟨fin, fun _ _ _ _ _ h => h.elim, fin⟩ R _ w hrep
/-- What is handed back, and what of the blocks is told, numbered anew. -/
def retR (n0 : Nat) (d : D) (H : List SObj) (post : D → List SObj → Prop) : Prop :=
  ∃ (σ : List Nat) (d' : D) (H' : List SObj), post d' H' ∧ lenK H 0 fun n => when (idB 0 n0 σ) (when (σ.all (Nat.blt · n)) (True ∧ Eqv d (ren σ n d') ∧ takeK σ n σ H' H fun _ => True))
def endR (P : Program) (n0 : Nat) (rs : List ResultVar) (post : D → List SObj → Prop) (st : St) : Prop := match st with
  | ⟨ts, H⟩ => resK P ts H rs fun ds => resD ds fun d => retR n0 d H post
theorem callAt_of_execR {P : Program} {Z : TypeId → D} (hZ : Zeros P Z) (hm : P.follows .mixedOrders = true) {f : FuncId} {fn : Func} {c : Code} {ds : List D} {H : List SObj} {post : D → List SObj → Prop}
    (hf : P.funcs[f]? = some fn) (hb : fn.body = some c) (hn : (fn.name == "runtime.NumGoroutine") = false)
    (h : forceK ⟨ds ++ List.replicate (fn.ntmps - ds.length) .junk, H⟩ fun st => exec P Z H.length c st (endR P H.length fn.results.toList post) (fun _ _ => False) (endR P H.length fn.results.toList post)) : CallAt P f ds H post := by
  have h := (forceK_iff _ _).1 h
  refine ⟨⟨fn, c, hf, hb, hn⟩, fun F R w vs hl hs hv => calls_of_wp hf hb ?_⟩
  have hvl : vs.length = ds.length := by
    have := hv []
    rw [← this]
    have gen : ∀ (R : Env) (l : List D), (concL R l).length = l.length := fun R l => by induction l with
      | nil => rfl
      | cons x l ih => simp [concL, ih]
    rw [gen]
  have hslots : ∀ (ds : List D) (vs : List Value) (m : Nat), IsL R ds vs → Slots R (ds ++ List.replicate m .junk) (vs ++ List.replicate m undef) := by
    intro ds
    induction ds with
    | nil =>
      intro vs m hv
      have : vs = [] := (hv []).symm
      subst this
      simp only [List.nil_append]
      induction m with
      | zero => trivial
      | succ m ih => rw [List.replicate_succ, List.replicate_succ]; exact ⟨.inl rfl, ih⟩
    | cons d ds ih =>
      intro vs m hv
      have h0 := hv []
      simp only [concL] at h0
      subst h0
      refine ⟨.inr fun X => ?_, ih _ m fun X => ?_⟩
      · have := hv X
        simp only [concL] at this
        simpa using (List.cons.inj this).1
      · have := hv X
        simp only [concL] at this
        simpa using (List.cons.inj this).2
  have hrep : Rep F w R ⟨ds ++ List.replicate (fn.ntmps - ds.length) .junk, H⟩ R { tmps := vs.toArray ++ Array.replicate (fn.ntmps - vs.toArray.size) undef, defers := [] } w := by
    refine ⟨⟨[], by simp⟩, hl, ?_, rfl, hs, Same.refl w⟩
    have := hslots ds vs (fn.ntmps - ds.length) hv
    simpa [hvl] using this
  have fin : ∀ st R' a w', endR P H.length fn.results.toList post st → Rep F w R st R' a w' → a.defers = [] ∧ ∃ v, (results fn a.tmps).run P w' = .ok v w' ∧ ∃ d H' X v', post d H' ∧ Ending.returned v = .returned v' ∧ (R ++ X).length = H'.length ∧ (isJunk d = true ∨ Is (R ++ X) d v') ∧
      Sat (star (hpH (R ++ X) (R ++ X) H') F) w' ∧ Same w w' := by
    rintro ⟨ts, H1⟩ R' a w' he hr
    obtain ⟨ds1, hk, hdl, hjs, hrun⟩ := resK_spec _ _ he
    have hlen := hr.len
    simp only at hlen
    obtain ⟨vs1, hvs1, hr1⟩ := hrun F R' a w' hlen hr.slots hr.sat
    have hd : ∃ d v, retR H.length d H1 post ∧ Is R' d v ∧ (if h : vs1.toArray.size = 1 then vs1.toArray[0] else .tuple vs1.toArray) = v := by
      have hvl1 : vs1.length = ds1.length := by
        rw [← hvs1 []]
        have gen : ∀ (R : Env) (l : List D), (concL R l).length = l.length := fun R l => by induction l with
          | nil => rfl
          | cons x l ih => simp [concL, ih]
        rw [gen]
      match ds1, hk, hvs1, hvl1 with
      | [], hk, hvs1, hvl1 =>
        have : vs1 = [] := by simpa using hvl1
        subst this
        exact ⟨_, _, hk, fun X => by simp [conc, concL], rfl⟩
      | [d], hk, hvs1, hvl1 =>
        have h0 := hvs1 []
        simp only [concL] at h0
        subst h0
        refine ⟨d, _, hk, fun X => ?_, rfl⟩
        have := hvs1 X
        simp only [concL] at this
        simpa using (List.cons.inj this).1
      | d :: e :: r, hk, hvs1, hvl1 =>
        refine ⟨.tup (d :: e :: r), .tuple vs1.toArray, hk, fun X => by simp only [conc]; rw [hvs1 X], ?_⟩
        rw [dif_neg]
        simp only [List.size_toArray, hvl1, List.length_cons]
        omega
    obtain ⟨d, v, ⟨σ, d', H', hp, hfit⟩, hi, hve⟩ := hd
    have hfit := (lenK_iff _ _ _).1 hfit
    simp only [Nat.zero_add] at hfit
    obtain ⟨hid, hfit⟩ := when_iff.1 hfit
    obtain ⟨hall, hnj, heq, hfit⟩ := when_iff.1 hfit
    have hres : (results fn a.tmps).run P w' = .ok v w' := by
      unfold results
      rw [Sem.run_bind]
      have : (fn.results.mapM (oneRes a.tmps)).run P w' = .ok vs1.toArray w' := by
        rw [Array.mapM_eq_mapM_toList, Sem.run_map, hr1]
        rfl
      refine Eq.trans (congrArg (fun r => Result.andThen r _) this) ?_
      simp only [Result.andThen_ok, Sem.run_pure, hve]
    rw [← hlen] at hall heq hfit
    rw [← hl] at hid
    have hsub := sub_of hall
    obtain ⟨X, hX⟩ := hr.pre
    obtain ⟨Y, hY⟩ := pre_of hX hid hall
    obtain ⟨R2, hR2⟩ : ∃ R2, R2 = σ.map fun i => (R'[i]?).getD none := ⟨_, rfl⟩
    rw [← hR2] at hsub hY
    obtain ⟨Hr, _, _, h0l, hsat⟩ := takeK_spec hsub σ H' H1 R2 _ (fun j i hj => (hsub.2 j i hj).1) hsub.1 hlen hfit hr.sat
    have his : Is R2 d' v := by
      have := (is_ren hsub (X := []) (d := d') (v := v)).1 (by simpa using heq.is hi)
      simpa using this
    refine ⟨hr.defers, v, hres, d', H', Y, v, hp, rfl, ?_, .inr (by rw [← hY]; exact his), ?_, hr.same⟩
    · rw [← hY, hsub.1, h0l]
    · rw [← hY]; exact hsat.mono (star_drop2 _ _ _)
  refine exec_spec hZ hm hl c _ _ _ _ h _ ⟨fin, fun _ _ _ _ _ h => h.elim, fin⟩ R _ w hrep
end Go.Proofs.Ytdgnnboljgpcmaa.E
