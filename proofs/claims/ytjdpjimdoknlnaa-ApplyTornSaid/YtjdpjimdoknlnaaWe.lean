import Derived.Test.YtjdpjimdoknlnaaWd
import Derived.Test.YtjdpjimdoknlnaaEngT
namespace Go.Proofs.Ytjdpjimdoknlnaa.E
open Go
set_option maxRecDepth 4000
structure Old where
  live : Bool
  page : UInt16
  ts : UInt32
  next : Ref
  delta : Bytes
deriving DecidableEq
def encOld (o : Old) : D := .st [.bool o.live, .int .u16 o.page.toNat, .int .u32 o.ts.toNat, encRef o.next, .str o.delta]
/-- A row of an undo page's records. -/
abbrev oldsO (olds : List Old) (cap : Nat) : SObj := .vec 33 6 encOld olds cap
/-- An undo page, its records in block h. -/
abbrev undoD (lsn : UInt64) (h n cap : Nat) : D := .st [.int .u64 lsn.toNat, .slc h [] 6 0 n cap]
def oldSize (o : Old) : Nat := if o.live then 11 + o.delta.length else 1
def sizeU (olds : List Old) : Nat := 16 + (olds.map oldSize).sum
def Tame (olds : List Old) : Prop := olds.length ≤ 15 ∧ ∀ o ∈ olds, o.delta.length ≤ 66
theorem sum_tame : ∀ (olds : List Old), (∀ o ∈ olds, o.delta.length ≤ 66) → (olds.map oldSize).sum ≤ olds.length * 77
  | [], _ => by simp
  | o :: l, h => by
    have h1 := sum_tame l (fun x hx => h x (by simp [hx]))
    have h2 := h o (by simp)
    have h3 : oldSize o ≤ 77 := by unfold oldSize; split <;> omega
    simp only [List.map_cons, List.sum_cons, List.length_cons]; omega
theorem closedOld : Closed encOld := fun _ _ _ => rfl
theorem f137 (lsn : UInt64) (olds : List Old) (cap : Nat) (ht : Tame olds) : Rd Try.prog 137 [undoD lsn 0 olds.length cap] [oldsO olds cap] (.int .i64 (sizeU olds)) := by
  refine ⟨rfl, callAt_of_exec zeros mixed (fn := Try.f137) rfl rfl rfl (by rintro _ _ ⟨rfl, rfl⟩; exact Nat.le_refl _) ?_⟩
  refine LoopN.of Nat (fun j => j ≤ olds.length) (fun j => olds.length - j) (fun j => ⟨slotsOf 25 [(3, .int .i64 (sizeU (olds.take j))), (7, .slc 0 [] 6 0 olds.length cap), (8, .int .i64 olds.length), (9, .int .i64 j)],
    [oldsO olds cap]⟩) (fun _ => Nat.le_refl _) 0 (Nat.zero_le _) ?_ ?_
  · exact ⟨Eqv.rfl, Eqv.rfl, Eqv.rfl, Eqv.rfl, EqvO.rfl, closedOld, trivial⟩
  intro j hj
  have hs : ∀ m, sizeU (olds.take m) ≤ 16 + 15 * 77 := fun m => by
    have h1 := sum_tame (olds.take m) (fun o ho => ht.2 o (List.mem_of_mem_take ho))
    have h2 := ht.1
    simp only [sizeU, List.length_take] at h1 ⊢
    have : min m olds.length * 77 ≤ 15 * 77 := Nat.mul_le_mul_right _ (by omega)
    omega
  refine And.intro (fun h2 => ?_) (fun h2 => ?_)
  · have g2 := of_decide_eq_true h2
    have hlt : j < olds.length := by omega
    refine JoinAt.through ?_
    refine And.intro ⟨by omega, by omega⟩ ?_
    refine And.intro (by omega) ?_
    refine And.intro (by omega) ?_
    intro o ho
    have ho' : olds[j]? = some o := by simpa using ho
    have hmem : o ∈ olds := List.mem_of_getElem? ho'
    have hd := ht.2 o hmem
    have hw1 : IntKind.i64.wrap ((sizeU (olds.take j) : Int) + 1) = (sizeU (olds.take j) : Int) + 1 := w64 (by have := hs j; omega)
    have hstep : sizeU (olds.take (j + 1)) = sizeU (olds.take j) + oldSize o := by
      simp only [sizeU, List.take_add_one, ho', Option.toList_some, List.map_append, List.sum_append, List.map_cons, List.map_nil, List.sum_cons, List.sum_nil]; omega
    refine And.intro (fun h3 => ?_) (fun h3 => ?_)
    · refine ⟨j + 1, ⟨by omega, by omega⟩, Eqv.of ?_, Eqv.rfl, Eqv.rfl, Eqv.of ?_, EqvO.rfl, closedOld, trivial⟩
      · rw [hstep, hw1, w64 (x := 10 + (o.delta.length : Int)) (by omega), w64 (by have := hs j; omega)]
        simp only [oldSize, h3, if_true]; congr 1; omega
      · rw [w64 (by have := ht.1; omega)]; rfl
    · refine ⟨j + 1, ⟨by omega, by omega⟩, Eqv.of ?_, Eqv.rfl, Eqv.rfl, Eqv.of ?_, EqvO.rfl, closedOld, trivial⟩
      · rw [hstep, hw1]
        simp only [oldSize, h3, Bool.false_eq_true, if_false]; rfl
      · rw [w64 (by have := ht.1; omega)]; rfl
  · have g2 := of_decide_eq_false h2
    refine ⟨_, _, ⟨rfl, rfl⟩, Eqv.of ?_, EqvO.rfl, trivial⟩
    rw [List.take_of_length_le (by omega)]
end Go.Proofs.Ytjdpjimdoknlnaa.E
