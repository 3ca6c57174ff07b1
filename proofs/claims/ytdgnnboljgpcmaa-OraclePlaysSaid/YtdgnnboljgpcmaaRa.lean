/- The reference's oracle: what each of its calls answers. -/
import Derived.Test.YtdgnnboljgpcmaaOj
namespace Go.Proofs.Ytdgnnboljgpcmaa.E
open Go
set_option maxRecDepth 8000
structure Txn where
  n : UInt64
  start : UInt32
  live : Bool
def encT (t : Txn) : D := .st [kU t.n, vU t.start, .bool t.live]
theorem encOK_txn : EncOK 3 encT where
  size := fun _ => rfl
  stor := fun e R v hv u hu => by
    rw [← hv.conc] at hu
    simp [conc, encT, cellsL, Value.cells] at hu
    rcases hu with rfl | rfl | rfl <;> rfl
abbrev refH (last max : UInt32) (L : List Txn) (cap : Nat) : List SObj := [.var 64 (.st [vU last, vU max, .slc 1 [] 3 0 L.length cap]), .vec 72 3 encT L cap]
def liveL (L : List Txn) : List Txn := L.filter (·.live)
theorem take_step {α : Type} {L : List α} {i : Nat} {t : α} (h : L[i]? = some t) : L.take (i + 1) = L.take i ++ [t] := by rw [List.take_add_one, h]; rfl
set_option maxHeartbeats 4000000 in
theorem f42 (last max : UInt32) (L : List Txn) (cap : Nat) (hL : L.length ≤ 100) : Rd Try.prog 42 [.ptr 0 []] (refH last max L cap) (.int .i64 (liveL L).length) := by
  refine ⟨rfl, callAt_of_execR zeros mixed (fn := Try.f42) rfl rfl rfl ?_⟩
  let S : Nat → St := fun i => ⟨slotsOf 21 [(3, .int .i64 (liveL (L.take i)).length), (9, .slc 1 [] 3 0 L.length cap), (10, .int .i64 L.length), (11, .int .i64 i)], refH last max L cap⟩
  refine LoopN.ofR Nat (fun i => i ≤ L.length) (fun i => L.length - i) S (fun _ => Nat.le_of_ble_eq_true rfl) 0 (Nat.zero_le _) ?_ ?_
  · exact ⟨Eqv.rfl, Eqv.rfl, Eqv.rfl, Eqv.rfl, EqvO.rfl, EqvO.rfl, trivial⟩
  rintro i hi
  dsimp only [S] at hi ⊢
  refine And.intro (fun h => ?_) (fun h => ?_)
  · have hi' : i < L.length := by have := of_decide_eq_true h; omega
    have hw : IntKind.i64.wrap ((i : Int) + 1) = ((i + 1 : Nat) : Int) := by rw [w64 (by omega)]; rfl
    repeat refine JoinAt.through ?_
    refine And.intro ⟨by omega, by omega⟩ ?_
    refine And.intro (by omega) ?_
    refine And.intro (by omega) ?_
    intro t ht
    have ht2 : L[i]? = some t := by simpa using ht
    have htk := take_step ht2
    have hll : (liveL (L.take i)).length ≤ i := Nat.le_trans (List.length_filter_le _ _) (by simp; omega)
    repeat refine JoinAt.through ?_
    refine And.intro (fun h => ?_) (fun h => ?_)
    · have e : liveL (L.take (i + 1)) = liveL (L.take i) ++ [t] := by rw [htk]; simp [liveL, h]
      refine ⟨i + 1, ⟨hi', by omega⟩, [0, 1], ?_⟩
      refine ⟨Eqv.of ?_, Eqv.rfl, Eqv.rfl, Eqv.of (congrArg (D.int .i64) hw), EqvO.rfl, EqvO.rfl, trivial⟩
      rw [e, List.length_append, w64 (by omega)]; rfl
    · have e : liveL (L.take (i + 1)) = liveL (L.take i) := by rw [htk]; simp [liveL, h]
      refine ⟨i + 1, ⟨hi', by omega⟩, [0, 1], ?_⟩
      exact ⟨Eqv.of (by rw [e]; rfl), Eqv.rfl, Eqv.rfl, Eqv.of (congrArg (D.int .i64) hw), EqvO.rfl, EqvO.rfl, trivial⟩
  · have hi' : i = L.length := by have := of_decide_eq_false h; omega
    subst hi'
    rw [List.take_length]
    exact ⟨[0, 1], _, _, ⟨rfl, rfl⟩, trivial, Eqv.rfl, EqvO.rfl, EqvO.rfl, trivial⟩
/-- Where the first live one of that number stands. -/
def isAt (n : UInt64) (t : Txn) : Bool := decide (t.n = n) && t.live
def atI (L : List Txn) (n : UInt64) : Int := match L.findIdx? (isAt n) with | some k => k | none => -1
set_option maxHeartbeats 4000000 in
theorem f27 (last max : UInt32) (L : List Txn) (cap : Nat) (hL : L.length ≤ 100) (n : UInt64) : Rd Try.prog 27 [.ptr 0 [], kU n] (refH last max L cap) (.int .i64 (atI L n)) := by
  refine ⟨rfl, callAt_of_execR zeros mixed (fn := Try.f27) rfl rfl rfl ?_⟩
  let S : Nat → St := fun i => ⟨slotsOf 36 [(0, .ptr 0 []), (1, kU n), (10, .int .i64 L.length), (11, .int .i64 i)], refH last max L cap⟩
  refine LoopN.of Nat (fun i => i ≤ L.length ∧ (L.take i).findIdx? (isAt n) = none) (fun i => L.length - i) S (fun _ => Nat.le_of_ble_eq_true rfl) 0 ⟨Nat.zero_le _, rfl⟩ ?_ ?_
  · exact ⟨Eqv.rfl, Eqv.rfl, Eqv.rfl, Eqv.rfl, EqvO.rfl, EqvO.rfl, trivial⟩
  rintro i ⟨hi, hno⟩
  dsimp only [S] at hi hno ⊢
  refine And.intro (fun h => ?_) (fun h => ?_)
  · have hi' : i < L.length := by have := of_decide_eq_true h; omega
    have hw : IntKind.i64.wrap ((i : Int) + 1) = ((i + 1 : Nat) : Int) := by rw [w64 (by omega)]; rfl
    have hLi : L[i]? = some L[i] := List.getElem?_eq_getElem hi'
    have htk := take_step hLi
    have hnext : isAt n L[i] = false → (L.take (i + 1)).findIdx? (isAt n) = none := fun hf => by
      rw [htk, List.findIdx?_append, hno]; simp [List.findIdx?_cons, hf]
    have hsplit : L = L.take i ++ L[i] :: L.drop (i + 1) := by
      conv => lhs; rw [← List.take_append_drop i L, List.drop_eq_getElem_cons hi']
    refine And.intro ⟨by omega, by omega⟩ ?_
    refine And.intro (by omega) ?_
    refine And.intro (by omega) ?_
    refine And.intro (by omega) ?_
    intro t ht
    have ht2 : L[i] = t := by have : L[i]? = some t := by simpa using ht
                              rw [hLi] at this; exact Option.some.inj this
    have hstep : ∀ (hf : isAt n L[i] = false), (i + 1 ≤ L.length ∧ (L.take (i + 1)).findIdx? (isAt n) = none) ∧ L.length - (i + 1) < L.length - i := fun hf => ⟨⟨hi', hnext hf⟩, by omega⟩
    refine And.intro (fun h => ?_) (fun h => ?_)
    · have hn : t.n = n := u64i.1 (of_decide_eq_true h)
      refine And.intro ⟨by omega, by omega⟩ ?_
      refine And.intro (by omega) ?_
      refine And.intro (by omega) ?_
      refine And.intro (by omega) ?_
      intro t' ht'
      have ht3 : t' = t := by
        have : L[i]? = some t' := by simpa using ht'
        rw [hLi] at this; rw [← ht2]; exact (Option.some.inj this).symm
      subst ht3
      refine And.intro (fun hl => ?_) (fun hl => ?_)
      · have e : atI L n = i := by
          have : isAt n L[i] = true := by rw [ht2]; simp [isAt, hn, hl]
          have h2 : L.findIdx? (isAt n) = some i := by
            rw [hsplit, List.findIdx?_append, hno, List.findIdx?_cons, this]
            simp; omega
          simp only [atI, h2]
        rw [e]
        exact ⟨[0, 1], _, _, ⟨rfl, rfl⟩, trivial, Eqv.rfl, EqvO.rfl, EqvO.rfl, trivial⟩
      · refine ⟨i + 1, hstep (by rw [ht2]; simp [isAt, hl]), ?_⟩
        exact ⟨Eqv.rfl, Eqv.rfl, Eqv.rfl, Eqv.of (congrArg (D.int .i64) hw), EqvO.rfl, EqvO.rfl, trivial⟩
    · have hn : ¬ t.n = n := fun e => of_decide_eq_false h (u64i.2 e)
      refine ⟨i + 1, hstep (by rw [ht2]; simp [isAt, hn]), ?_⟩
      exact ⟨Eqv.rfl, Eqv.rfl, Eqv.rfl, Eqv.of (congrArg (D.int .i64) hw), EqvO.rfl, EqvO.rfl, trivial⟩
  · have hi' : i = L.length := by have := of_decide_eq_false h; omega
    subst hi'
    rw [List.take_length] at hno
    have e : atI L n = -1 := by simp only [atI, hno]
    rw [e]
    exact ⟨[0, 1], _, _, ⟨rfl, rfl⟩, trivial, Eqv.rfl, EqvO.rfl, EqvO.rfl, trivial⟩
/-- Horizon -/
def hzStep (h : UInt32) (t : Txn) : UInt32 := if t.live = true ∧ t.start < h then t.start else h
def hzR (L : List Txn) (h : UInt32) : UInt32 := L.foldl hzStep h
set_option maxHeartbeats 4000000 in
theorem f33 (last max : UInt32) (L : List Txn) (cap : Nat) (hL : L.length ≤ 100) : Rd Try.prog 33 [.ptr 0 []] (refH last max L cap) (vU (hzR L last)) := by
  refine ⟨rfl, callAt_of_execR zeros mixed (fn := Try.f33) rfl rfl rfl ?_⟩
  let S : Nat → St := fun i => ⟨slotsOf 31 [(3, vU (hzR (L.take i) last)), (13, .slc 1 [] 3 0 L.length cap), (14, .int .i64 L.length), (15, .int .i64 i)], refH last max L cap⟩
  refine LoopN.ofR Nat (fun i => i ≤ L.length) (fun i => L.length - i) S (fun _ => Nat.le_of_ble_eq_true rfl) 0 (Nat.zero_le _) ?_ ?_
  · exact ⟨Eqv.rfl, Eqv.rfl, Eqv.rfl, Eqv.rfl, EqvO.rfl, EqvO.rfl, trivial⟩
  rintro i hi
  dsimp only [S] at hi ⊢
  refine And.intro (fun h => ?_) (fun h => ?_)
  · have hi' : i < L.length := by have := of_decide_eq_true h; omega
    have hw : IntKind.i64.wrap ((i : Int) + 1) = ((i + 1 : Nat) : Int) := by rw [w64 (by omega)]; rfl
    repeat refine JoinAt.through ?_
    refine And.intro ⟨by omega, by omega⟩ ?_
    refine And.intro (by omega) ?_
    refine And.intro (by omega) ?_
    intro t ht
    have ht2 : L[i]? = some t := by simpa using ht
    have e : hzR (L.take (i + 1)) last = hzStep (hzR (L.take i) last) t := by rw [take_step ht2, hzR, List.foldl_append]; rfl
    repeat refine JoinAt.through ?_
    refine And.intro (fun hl => ?_) (fun hl => ?_)
    · refine And.intro (fun h => ?_) (fun h => ?_)
      · have h' : t.start < hzR (L.take i) last := UInt32.lt_iff_toNat_lt.2 (by have := of_decide_eq_true h; omega)
        have e2 : hzR (L.take (i + 1)) last = t.start := by rw [e, hzStep, if_pos ⟨hl, h'⟩]
        refine ⟨i + 1, ⟨hi', by omega⟩, [0, 1], ?_⟩
        exact ⟨Eqv.of (by rw [e2]; rfl), Eqv.rfl, Eqv.rfl, Eqv.of (congrArg (D.int .i64) hw), EqvO.rfl, EqvO.rfl, trivial⟩
      · have h' : ¬ t.start < hzR (L.take i) last := fun k => of_decide_eq_false h (by have := UInt32.lt_iff_toNat_lt.1 k; omega)
        have e2 : hzR (L.take (i + 1)) last = hzR (L.take i) last := by rw [e, hzStep, if_neg (fun k => h' k.2)]
        refine ⟨i + 1, ⟨hi', by omega⟩, [0, 1], ?_⟩
        exact ⟨Eqv.of (by rw [e2]; rfl), Eqv.rfl, Eqv.rfl, Eqv.of (congrArg (D.int .i64) hw), EqvO.rfl, EqvO.rfl, trivial⟩
    · have e2 : hzR (L.take (i + 1)) last = hzR (L.take i) last := by rw [e, hzStep, if_neg (fun k => by rw [hl] at k; exact absurd k.1 (by decide))]
      refine ⟨i + 1, ⟨hi', by omega⟩, [0, 1], ?_⟩
      exact ⟨Eqv.of (by rw [e2]; rfl), Eqv.rfl, Eqv.rfl, Eqv.of (congrArg (D.int .i64) hw), EqvO.rfl, EqvO.rfl, trivial⟩
  · have hi' : i = L.length := by have := of_decide_eq_false h; omega
    subst hi'
    rw [List.take_length]
    exact ⟨[0, 1], _, _, ⟨rfl, rfl⟩, trivial, Eqv.rfl, EqvO.rfl, EqvO.rfl, trivial⟩
/-- Begin -/
def newT (last : UInt32) (L : List Txn) : Txn := ⟨UInt64.ofNat (L.length + 1), last, true⟩
abbrev refN (last max : UInt32) (L : List Txn) (cap : Nat) : List SObj := [.var 64 (.st [vU last, vU max, .slc 2 [] 3 0 L.length cap]), .gone, .vec 72 3 encT L cap]
def refBeg (last max : UInt32) (L : List Txn) (cap : Nat) (d : D) (H : List SObj) : Prop :=
  if 8 ≤ (liveL L).length then d = .tup [.int .u64 0, .int .u32 0, .int .i64 10] ∧ H = refH last max L cap
  else ∃ cap', L.length + 1 ≤ cap' ∧ d = .tup [kU (newT last L).n, vU last, .int .i64 0] ∧ H = refN last max (L ++ [newT last L]) cap'
set_option maxHeartbeats 4000000 in
theorem f30 (last max : UInt32) (L : List Txn) (cap : Nat) (hL : L.length ≤ 90) (hcap : L.length ≤ cap) : CallAt Try.prog 30 [.ptr 0 []] (refH last max L cap) (refBeg last max L cap) := by
  refine callAt_of_execR zeros mixed (fn := Try.f30) rfl rfl rfl ?_
  refine (f42 last max L cap (by omega)).c [0, 1] rfl (fun _ => rfl) (by exact ⟨EqvS.rfl, EqvS.rfl, trivial⟩) ?_
  refine And.intro (fun h => ?_) (fun h => ?_)
  · have h8 : 8 ≤ (liveL L).length := by have := of_decide_eq_true h; omega
    exact ⟨[0, 1], .tup [.int .u64 0, .int .u32 0, .int .i64 10], refH last max L cap, by unfold refBeg; rw [if_pos h8]; exact ⟨rfl, rfl⟩, trivial, Eqv.rfl, EqvO.rfl, EqvO.rfl, trivial⟩
  · have h8 : ¬ 8 ≤ (liveL L).length := by have := of_decide_eq_false h; omega
    refine DrawAt.last [0, 1, 2, 3, 4, 5, 6, 7, 8, 9, 10, 11, 12, 13, 14, 15, 16] [17, 18] 19 [20, 21] [1] (by kernel_rfl) ?_
    have hw1 : IntKind.i64.wrap ((L.length : Int) + 1) = ((L.length + 1 : Nat) : Int) := by rw [w64 (by omega)]; rfl
    have hw2 : ∀ n : Nat, n ≤ 100 → IntKind.u64.wrap (n : Int) = ((UInt64.ofNat n).toNat : Int) := fun n hn => by rw [IntWalk.u64_in _ (by omega), UInt64.toNat_ofNat']; omega
    refine And.intro (by omega) ?_
    refine And.intro (fun _ => rfl) ?_
    refine And.intro (by omega) ?_
    refine And.intro (by omega) ?_
    refine ⟨Txn, encT, L ++ [newT last L], ⟨?_, fun R => ?_⟩, encOK_txn, ?_, ?_⟩
    · simp
    · rw [List.drop_zero, List.take_of_length_le (Nat.le_refl _), List.map_append, hw1, hw2 _ (by omega), cellsL_append, cellsL_append]; rfl
    · have : Try.prog.bytesOf 72 = 16 := by kernel_rfl
      rw [this]
      simp only [List.length_append, List.length_cons, List.length_nil]
      omega
    intro cap' hcap'
    simp only [List.length_append, List.length_cons, List.length_nil] at hcap'
    refine DrawAt.all (by kernel_rfl) ?_
    refine ⟨[0, 1, 3], .tup [kU (newT last L).n, vU last, .int .i64 0], refN last max (L ++ [newT last L]) cap', by unfold refBeg; rw [if_neg h8]; exact ⟨cap', by omega, rfl, rfl⟩, trivial, Eqv.of ?_, EqvO.var (Eqv.of ?_), EqvO.rfl, EqvO.rfl, trivial⟩
    · simp only [List.length_append, List.length_cons, List.length_nil]
      rw [hw2 _ (by omega)]; rfl
    · rfl
end Go.Proofs.Ytdgnnboljgpcmaa.E
