import Derived.Test.YtjdpjimdoknlnaaWu
import Derived.Test.YtjdpjimdoknlnaaPa
import Derived.Test.YtjdpjimdoknlnaaEngX
namespace Go.Proofs.Ytjdpjimdoknlnaa.E
open Go
set_option maxRecDepth 4000
/-- A log that came in, as memory tells it. -/
abbrev RawLog (A : HP) (v : Value) (log : List Entry) : Prop := RawRow A 239 encEntry v log
def fewFrom : List Entry → Nat → List Entry
  | [], _ => []
  | e :: l, i => { e with lsn := UInt64.ofNat (i + 1) } :: fewFrom l (i + 1)
def fewL (log : List Entry) : List Entry := fewFrom (log.take 40) 0
theorem fewFrom_snoc : ∀ (l : List Entry) (e : Entry) (i : Nat), fewFrom (l ++ [e]) i = fewFrom l i ++ [{ e with lsn := UInt64.ofNat (i + l.length + 1) }]
  | [], e, i => rfl
  | x :: l, e, i => by
    simp only [List.cons_append, fewFrom, fewFrom_snoc l e (i + 1), List.length_cons]
    rw [show i + 1 + l.length + 1 = i + (l.length + 1) + 1 by omega]
theorem fewFrom_length : ∀ (l : List Entry) (i : Nat), (fewFrom l i).length = l.length
  | [], _ => rfl
  | x :: l, i => by simp [fewFrom, fewFrom_length l]
theorem encOK_entry : EncOK 239 encEntry where
  size := fun _ => rfl
  stor := fun e R v hv u hu => by
    rw [← hv.conc] at hu
    simp [conc, encEntry, encRec, encID, encOld, encRef, cellsL, Value.cells] at hu
    have hb : ∀ c : UInt8, (byteV c).oneCell' = true := fun c => rfl
    rcases hu with rfl | rfl | rfl | rfl | hu | rfl | rfl | rfl | rfl | rfl | rfl | rfl | rfl | rfl | rfl | rfl <;> first | rfl | (obtain ⟨c, _, rfl⟩ := hu; rfl)
def fewPost (A : HP) (log : List Entry) (d : D) (H : List SObj) : Prop := ∃ cap, d = .slc 1 [] 239 0 (fewL log).length cap ∧ H = [.res A, logO (fewL log) cap]
theorem f15 (A : HP) (v : Value) (log : List Entry) (hl : Short log) (hv : RawLog A v log) : CallAt Try.prog 15 [.val v] [.res A] (fewPost A log) := by
  refine callAt_of_execR zeros mixed (fn := Try.f15) rfl rfl rfl ?_
  unfold Short at hl
  obtain ⟨a, cap0, rfl, hraw⟩ := hv
  let S : Nat × Nat → St := fun x => ⟨slotsOf 29 [(0, .val (.slice a log.length cap0)), (2, .nils), (3, .slc 1 [] 239 0 x.1 x.2), (4, .int .i64 x.1)],
    [.res A, logO (fewFrom (log.take x.1) 0) x.2]⟩
  refine LoopN.nil (S (0, 0)) ?_ ?_
  · exact ⟨EqvN.rfl, EqvN.rfl, EqvN.nil, EqvN.rfl, EqvON.rfl, rfl, rfl⟩
  refine LoopN.ofR (Nat × Nat) (fun x => x.1 ≤ log.length ∧ x.1 ≤ 40 ∧ x.1 ≤ x.2) (fun x => log.length - x.1) S (fun _ => Nat.le_of_ble_eq_true rfl) (0, 0) ⟨Nat.zero_le _, Nat.zero_le _, Nat.zero_le _⟩ ?_ ?_
  · exact ⟨Eqv.rfl, Eqv.rfl, Eqv.rfl, Eqv.rfl, EqvO.rfl, EqvO.rfl, trivial⟩
  rintro ⟨j, cap⟩ ⟨hj, hj40, hjc⟩
  dsimp only [S] at hj hj40 hjc ⊢
  have hfl : (fewFrom (log.take j) 0).length = j := by rw [fewFrom_length, List.length_take, Nat.min_eq_left hj]
  refine And.intro (fun h1 => ?_) (fun h1 => ?_)
  · have g1 : j < log.length := by have := of_decide_eq_true h1; omega
    refine And.intro (fun h2 => ?_) (fun h2 => ?_)
    · have g2 : j < 40 := by have := of_decide_eq_true h2; omega
      have he : log[j]? = some log[j] := List.getElem?_eq_getElem g1
      obtain ⟨b, o, rfl, hat⟩ := hraw j _ he
      refine And.intro ⟨by omega, by omega⟩ ?_
      refine ⟨encEntry log[j], hat, ?_⟩
      have hw1 : IntKind.i64.wrap ((j : Int) + 1) = ((j + 1 : Nat) : Int) := by rw [w64 (by omega)]; rfl
      have hw2 : IntKind.u64.wrap ((j + 1 : Nat) : Int) = (UInt64.ofNat (j + 1)).toNat := by rw [IntWalk.u64_in _ (by omega), UInt64.toNat_ofNat']; omega
      have hsn : fewFrom (log.take (j + 1)) 0 = fewFrom (log.take j) 0 ++ [{ log[j] with lsn := UInt64.ofNat (j + 1) }] := by
        rw [List.take_add_one, he, Option.toList_some, fewFrom_snoc, List.length_take, Nat.min_eq_left hj, Nat.zero_add]
      have htk : ((fewFrom (log.take j) 0).drop 0).take j = fewFrom (log.take j) 0 := by rw [List.drop_zero]; exact List.take_of_length_le (by omega)
      have hl2 : (fewFrom (log.take (j + 1)) 0).length = j + 1 := by rw [fewFrom_length, List.length_take, Nat.min_eq_left g1]
      refine And.intro (by omega) ?_
      refine And.intro (fun _ => rfl) ?_
      refine And.intro (by omega) ?_
      refine And.intro (by omega) ?_
      refine ⟨Entry, encEntry, fewFrom (log.take (j + 1)) 0, ⟨?_, fun R => congrArg (cellsL R) ?_⟩, encOK_entry, ?_, ?_⟩
      · rw [htk, hsn]; simp
      · rw [htk, hsn, List.map_append, hw1, hw2]; rfl
      · have : Try.prog.bytesOf 37 = 304 := by kernel_rfl
        rw [this, hl2]
        omega
      intro cap' hcap'
      rw [hl2] at hcap'
      refine ⟨(j + 1, cap'), ⟨⟨g1, by omega, hcap'⟩, by show log.length - (j + 1) < log.length - j; omega⟩, [0, 4], ?_⟩
      refine ⟨Eqv.rfl, Eqv.rfl, Eqv.of ?_, Eqv.of ?_, EqvO.rfl, EqvO.rfl, trivial⟩
      · rw [hl2]; rfl
      · rw [hw1]; rfl
    · have g2 : j = 40 := by have := of_decide_eq_false h2; omega
      have hf : fewFrom (log.take j) 0 = fewL log := by rw [fewL, g2]
      refine ⟨[0, 1], _, _, ⟨cap, rfl, rfl⟩, trivial, Eqv.of ?_, EqvO.rfl, EqvO.of ?_, trivial⟩
      · rw [← hf, hfl]; rfl
      · rw [← hf]; rfl
  · have g1 : j = log.length := by have := of_decide_eq_false h1; omega
    have hf : fewFrom (log.take j) 0 = fewL log := by
      rw [fewL]; congr 1
      rw [List.take_of_length_le (by omega), List.take_of_length_le (by omega)]
    refine ⟨[0, 1], _, _, ⟨cap, rfl, rfl⟩, trivial, Eqv.of ?_, EqvO.rfl, EqvO.of ?_, trivial⟩
    · rw [← hf, hfl]; rfl
    · rw [← hf]; rfl
end Go.Proofs.Ytjdpjimdoknlnaa.E
