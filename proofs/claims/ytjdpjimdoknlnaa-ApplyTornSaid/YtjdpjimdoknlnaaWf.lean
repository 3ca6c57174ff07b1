import Derived.Test.YtjdpjimdoknlnaaWe
namespace Go.Proofs.Ytjdpjimdoknlnaa.E
open Go
set_option maxRecDepth 4000
def zeroOld : Old := ⟨false, 0, 0, ⟨0, 0⟩, []⟩
def mayOld (o : Old) : Bool := (o.live || decide (o = zeroOld)) && decide (o.delta.length ≤ 66)
def mayU (olds : List Old) : Bool := decide (olds.length ≤ 15) && (olds.getLast?.map (·.live)).getD true && olds.all mayOld && decide (sizeU olds ≤ 224)
theorem eqOld (o : Old) : EqAt Try.prog 33 (encOld o) z33 (decide (o = zeroOld)) := by
  have h := eqAt_of (P := Try.prog) (T := 33) (x := encOld o) (y := z33) (b := (decide (o.live = false) && (decide ((o.page.toNat : Int) = 0) && (decide ((o.ts.toNat : Int) = 0) && ((decide ((o.next.page.toNat : Int) = 0) && (decide ((o.next.slot.toNat : Int) = 0) && true)) && (decide (o.delta = []) && true)))))) (by kernel_rfl) rfl rfl rfl
  have e : (decide (o.live = false) && (decide ((o.page.toNat : Int) = 0) && (decide ((o.ts.toNat : Int) = 0) && ((decide ((o.next.page.toNat : Int) = 0) && (decide ((o.next.slot.toNat : Int) = 0) && true)) && (decide (o.delta = []) && true))))) = decide (o = zeroOld) := by
    obtain ⟨l, p, t, ⟨np, ns⟩, d⟩ := o
    simp only [zeroOld, Old.mk.injEq, Ref.mk.injEq, ← UInt16.toNat_inj, ← UInt32.toNat_inj, ← UInt8.toNat_inj]
    simp [Bool.decide_and]
  rwa [e] at h
structure Held (T : Prop) : Prop where
  out : T
theorem share {T G : Prop} (main : Held T → G) (key : T) : G := main ⟨key⟩
theorem f110 (lsn : UInt64) (olds : List Old) (cap : Nat) (hs : Short olds) (hd : ∀ o ∈ olds, Short o.delta) : Rd Try.prog 110 [undoD lsn 0 olds.length cap] [oldsO olds cap] (.bool (mayU olds)) := by
  refine ⟨rfl, callAt_of_exec zeros mixed (fn := Try.f110) rfl rfl rfl (by rintro _ _ ⟨rfl, rfl⟩; exact Nat.le_refl _) ?_⟩
  refine And.intro (fun h1 => ?_) (fun h1 => ?_)
  · have g1 := of_decide_eq_true h1
    refine ⟨_, _, ⟨rfl, rfl⟩, fun R => ?_, EqvO.rfl, closedOld, trivial⟩
    have : ¬ olds.length ≤ 15 := by omega
    simp [conc, mayU, this]
  have g1 := of_decide_eq_false h1
  apply share
  case main =>
    intro key
    refine And.intro (fun h2 => ?_) (fun h2 => ?_)
    · have g2 := of_decide_eq_true h2
      have hw : IntKind.i64.wrap ((olds.length : Int) - 1) = ((olds.length - 1 : Nat) : Int) := by rw [w64 (by omega)]; omega
      refine And.intro ⟨by omega, by omega⟩ ?_
      refine And.intro (by omega) ?_
      refine And.intro (by omega) ?_
      refine And.intro (by rw [hw]; omega) ?_
      intro o ho
      rw [hw, Int.toNat_natCast, Nat.zero_add] at ho
      refine And.intro (fun h3 => ?_) (fun h3 => ?_)
      · refine ⟨_, _, ⟨rfl, rfl⟩, fun R => ?_, EqvO.rfl, closedOld, trivial⟩
        have hl : olds.getLast? = some o := by rw [List.getLast?_eq_getElem?]; simpa using ho
        have : o.live = false := by simpa using h3
        simp [conc, mayU, hl, this]
      · refine LoopN.of Nat (fun j => j ≤ olds.length ∧ (olds.getLast?.map (·.live)).getD true = true ∧ ((olds.take j).all mayOld) = true) (fun j => olds.length - j) (fun j => ⟨slotsOf 52 [(1, .ptr 1 []), (28, .slc 0 [] 6 0 olds.length cap), (29, .int .i64 olds.length), (30, .int .i64 j)],
          [oldsO olds cap, .var 139 (undoD lsn 0 olds.length cap)]⟩) (fun _ => Nat.le_of_ble_eq_true rfl) 0 ⟨Nat.zero_le _, ?_, rfl⟩ ?_ key.out
        · have hl : olds.getLast? = some o := by rw [List.getLast?_eq_getElem?]; simpa using ho
          simpa [hl] using h3
        · exact ⟨Eqv.rfl, Eqv.rfl, Eqv.rfl, Eqv.rfl, EqvO.rfl, EqvO.rfl, trivial⟩
    · have g2 := of_decide_eq_false h2
      have hnil : olds = [] := by rw [← List.length_eq_zero_iff]; omega
      refine LoopN.of Nat (fun j => j ≤ olds.length ∧ (olds.getLast?.map (·.live)).getD true = true ∧ ((olds.take j).all mayOld) = true) (fun j => olds.length - j) (fun j => ⟨slotsOf 52 [(1, .ptr 1 []), (28, .slc 0 [] 6 0 olds.length cap), (29, .int .i64 olds.length), (30, .int .i64 j)],
          [oldsO olds cap, .var 139 (undoD lsn 0 olds.length cap)]⟩) (fun _ => Nat.le_of_ble_eq_true rfl) 0 ⟨Nat.zero_le _, by rw [hnil]; rfl, rfl⟩ ?_ key.out
      exact ⟨Eqv.rfl, Eqv.rfl, Eqv.rfl, Eqv.rfl, EqvO.rfl, EqvO.rfl, trivial⟩
  case key =>
    rintro j ⟨hj, hlast, hall⟩
    have hlen15 : olds.length ≤ 15 := by omega
    refine And.intro (fun h2 => ?_) (fun h2 => ?_)
    · have g2 := of_decide_eq_true h2
      have hlt : j < olds.length := by omega
      refine And.intro ⟨by omega, by omega⟩ ?_
      refine And.intro (by omega) ?_
      refine And.intro (by omega) ?_
      intro o ho
      have ho' : olds[j]? = some o := by simpa using ho
      have hmem : o ∈ olds := List.mem_of_getElem? ho'
      have hbad : mayOld o = false → mayU olds = false := fun h => by
        have : olds.all mayOld = false := by
          rw [List.all_eq_false]; exact ⟨o, hmem, by simp [h]⟩
        simp [mayU, this]
      have hgood : mayOld o = true → (olds.take (j + 1)).all mayOld = true := fun h => by
        rw [List.take_add_one, ho']; simp [hall, h]
      have hw : D.int .i64 (IntKind.wrap .i64 ((j : Int) + 1)) = D.int .i64 ((j + 1 : Nat) : Int) := by rw [w64 (by omega)]; rfl
      refine And.intro (fun h3 => ?_) (fun h3 => ?_)
      · have hl : o.live = false := by simpa using h3
        refine ⟨decide (o = zeroOld), eqOld o, ?_⟩
        refine And.intro (fun h4 => ?_) (fun h4 => ?_)
        · have hne : decide (o = zeroOld) = false := by simpa using h4
          have hf := hbad (by simp only [mayOld, hl, hne, Bool.or_self, Bool.false_and])
          exact ⟨_, _, ⟨rfl, rfl⟩, fun R => by simp [conc, hf], EqvO.rfl, closedOld, trivial⟩
        · have he : decide (o = zeroOld) = true := by simpa using h4
          refine And.intro (fun h5 => ?_) (fun h5 => ?_)
          · have g5 := of_decide_eq_true h5
            have : ¬ o.delta.length ≤ 66 := by omega
            have hf := hbad (by simp [mayOld, this])
            exact ⟨_, _, ⟨rfl, rfl⟩, fun R => by simp [conc, hf], EqvO.rfl, closedOld, trivial⟩
          · have g5 := of_decide_eq_false h5
            have h66 : o.delta.length ≤ 66 := by omega
            exact ⟨j + 1, ⟨⟨by omega, hlast, hgood (by simp [mayOld, he, h66])⟩, by omega⟩, Eqv.rfl, Eqv.rfl, Eqv.rfl, Eqv.of hw, EqvO.rfl, closedOld, EqvO.rfl, trivial⟩
      · have hl : o.live = true := by simpa using h3
        refine And.intro (fun h5 => ?_) (fun h5 => ?_)
        · have g5 := of_decide_eq_true h5
          have : ¬ o.delta.length ≤ 66 := by omega
          have hf := hbad (by simp [mayOld, this])
          exact ⟨_, _, ⟨rfl, rfl⟩, fun R => by simp [conc, hf], EqvO.rfl, closedOld, trivial⟩
        · have g5 := of_decide_eq_false h5
          have h66 : o.delta.length ≤ 66 := by omega
          exact ⟨j + 1, ⟨⟨by omega, hlast, hgood (by simp [mayOld, hl, h66])⟩, by omega⟩, Eqv.rfl, Eqv.rfl, Eqv.rfl, Eqv.of hw, EqvO.rfl, closedOld, EqvO.rfl, trivial⟩
    · have g2 := of_decide_eq_false h2
      have hall' : olds.all mayOld = true := by rwa [List.take_of_length_le (by omega)] at hall
      have htame : Tame olds := ⟨hlen15, fun o ho => by
        have := List.all_eq_true.1 hall' o ho
        simp only [mayOld, Bool.and_eq_true, decide_eq_true_eq] at this
        exact this.2⟩
      refine (f137 lsn olds cap htame).c [0] rfl (fun _ => rfl) (by exact ⟨EqvS.rfl, trivial⟩) ?_
      refine ⟨_, _, ⟨rfl, rfl⟩, fun R => ?_, EqvO.rfl, closedOld, trivial⟩
      simp only [conc, mayU, hlast, hall', hlen15, decide_true, Bool.true_and]
      congr 1
      exact decide_eq_decide.2 ⟨fun h => by omega, fun h => by omega⟩
end Go.Proofs.Ytjdpjimdoknlnaa.E
