import Derived.Test.YtjdpjimdoknlnaaWm
namespace Go.Proofs.Ytjdpjimdoknlnaa.E
open Go
set_option maxRecDepth 4000
/-- The records up to the last live one. -/
def trim : List Old → List Old
  | [] => []
  | o :: l => match trim l with
    | [] => if o.live then [o] else []
    | x :: r => o :: x :: r
theorem trim_dead : ∀ (a b : List Old), (∀ o ∈ b, o.live = false) → trim (a ++ b) = trim a
  | [], b, h => by
    induction b with
    | nil => rfl
    | cons o b ih =>
      have := ih (fun x hx => h x (by simp [hx]))
      simp only [List.nil_append] at this ⊢
      simp [trim, this, h o (by simp)]
  | x :: a, b, h => by simp only [List.cons_append, trim, trim_dead a b h]
theorem trim_live : ∀ (a : List Old) (o : Old), o.live = true → trim (a ++ [o]) = a ++ [o]
  | [], o, h => by simp [trim, h]
  | x :: a, o, h => by
    simp only [List.cons_append, trim, trim_live a o h]
    cases a <;> rfl
def slotFree (olds : List Old) (slot : UInt8) : Option (List Old) :=
  match slotGet olds slot with
  | none => none
  | some _ => if mayU olds then some (trim (olds.set slot.toNat zeroOld)) else none
theorem f140 (lsn : UInt64) (olds : List Old) (cap : Nat) (slot : UInt8) (hs : Short olds) (hd : ∀ o ∈ olds, Short o.delta) : CallAt Try.prog 140 [undoD lsn 0 olds.length cap, .int .u8 slot.toNat] [oldsO olds cap] (newPost lsn olds cap 1 (slotFree olds slot)) := by
  refine callAt_of_execR zeros mixed (fn := Try.f140) rfl rfl rfl ?_
  have hc := f153 lsn olds cap slot
  cases hg : slotGet olds slot with
  | none =>
    have hcut : slotFree olds slot = none := by simp [slotFree, hg]
    rw [hcut]
    rw [hg] at hc
    refine hc.c [0] rfl (fun _ => rfl) (by exact ⟨EqvS.rfl, trivial⟩) ?_
    exact ⟨[0], _, _, ⟨rfl, rfl⟩, trivial, Eqv.rfl, EqvO.rfl, trivial⟩
  | some o =>
    rw [hg] at hc
    obtain ⟨ho, hl⟩ := slotGet_some hg
    refine hc.c [0] rfl (fun _ => rfl) (by exact ⟨EqvS.rfl, trivial⟩) ?_
    refine (f110 lsn olds cap hs hd).c [0] rfl (fun _ => rfl) (by exact ⟨EqvS.rfl, trivial⟩) ?_
    refine And.intro (fun h3 => ?_) (fun h3 => ?_)
    · have g3 : mayU olds = false := by simpa using h3
      have hcut : slotFree olds slot = none := by simp [slotFree, hg, g3]
      rw [hcut]
      exact ⟨[0], _, _, ⟨rfl, rfl⟩, trivial, Eqv.rfl, EqvO.rfl, trivial⟩
    have g3 : mayU olds = true := by simpa using h3
    obtain ⟨xs, hxs⟩ : ∃ xs, xs = olds.set slot.toNat zeroOld := ⟨_, rfl⟩
    have hcut : slotFree olds slot = some (trim xs) := by simp [slotFree, hg, g3, hxs]
    rw [hcut]
    obtain ⟨ht, hz⟩ := tame_of_may g3
    refine (f152 lsn olds cap ht.1).lift [0] rfl (fun _ => rfl) (by rintro d H1 ⟨cap', _, rfl, rfl⟩ hj; cases hj) ?_
    refine ⟨EqvO.rfl, ?_⟩
    rintro d H1 ⟨cap', hcap', rfl, rfl⟩
    have hlt : slot.toNat < olds.length := (List.getElem?_eq_some_iff.1 ho).1
    have ho' : olds[0 + (slot.toNat : Int).toNat]? = some o := by simpa using ho
    refine And.intro ⟨by omega, by omega⟩ ?_
    refine And.intro (by omega) ?_
    refine And.intro (by omega) ?_
    intro x hx
    refine ⟨zeroOld, Eqv.rfl, ?_⟩
    have hxl : xs.length = olds.length := by rw [hxs, List.length_set]
    have hl15 := ht.1
    refine LoopN.of Nat (fun m => m ≤ xs.length ∧ ∀ k y, m ≤ k → xs[k]? = some y → y.live = false) (fun m => m) (fun m => ⟨slotsOf 54 [(2, .ptr 1 []), (4, .ptr 2 []), (5, .int .i64 0)],
      [oldsO olds cap, .var 139 (undoD lsn 4 m cap'), .var 139 z139, .gone, oldsO xs cap']⟩) (fun _ => Nat.le_of_ble_eq_true rfl) xs.length ⟨Nat.le_refl _, fun k y hk hy => ?_⟩ ?_ ?_
    · rw [List.getElem?_eq_none hk] at hy; cases hy
    · refine ⟨Eqv.rfl, Eqv.rfl, Eqv.rfl, EqvO.rfl, EqvO.var (Eqv.of ?_), EqvO.rfl, EqvO.of ?_, trivial⟩
      · rw [hxl]; rfl
      · show SObj.vec 33 6 encOld (olds.set (0 + (slot.toNat : Int).toNat) zeroOld) cap' = _
        rw [Nat.zero_add, Int.toNat_natCast, hxs]
    rintro m ⟨hm, hdead⟩
    refine And.intro (fun h4 => ?_) (fun h4 => ?_)
    · have g4 := of_decide_eq_true h4
      have hw : IntKind.i64.wrap ((m : Int) - 1) = ((m - 1 : Nat) : Int) := by rw [w64 (by omega)]; omega
      refine And.intro (by rw [hw]; constructor <;> omega) ?_
      refine And.intro (by omega) ?_
      refine And.intro (by omega) ?_
      refine And.intro (by rw [hw]; omega) ?_
      intro y hy
      rw [hw, Int.toNat_natCast, Nat.zero_add] at hy
      have hxd : xs = xs.take m ++ xs.drop m := (List.take_append_drop m xs).symm
      have hdd : ∀ o ∈ xs.drop m, o.live = false := fun o ho => by
        obtain ⟨k, hk, rfl⟩ := List.getElem_of_mem ho
        refine hdead (m + k) _ (by omega) ?_
        rw [← List.getElem?_drop, List.getElem?_eq_getElem hk]
      refine And.intro (fun h5 => ?_) (fun h5 => ?_)
      · have hl : y.live = false := by simpa using h5
        refine And.intro (by rw [hw]; constructor <;> omega) ?_
        refine ⟨m - 1, ⟨⟨by omega, fun k z hk hz => ?_⟩, by omega⟩, Eqv.rfl, Eqv.rfl, Eqv.rfl, EqvO.rfl, EqvO.var (Eqv.of ?_), EqvO.rfl, EqvO.rfl, trivial⟩
        · by_cases hkm : k = m - 1
          · subst hkm; rw [hy] at hz; rw [← Option.some.inj hz]; exact hl
          · exact hdead k z (by omega) hz
        · rw [hw]; rfl
      · have hl : y.live = true := by simpa using h5
        have htr : trim xs = xs.take m := by
          rw [hxd, trim_dead _ _ hdd]
          have : xs.take m = xs.take (m - 1) ++ [y] := by
            conv => lhs; rw [show m = (m - 1) + 1 by omega]
            rw [List.take_add_one, hy]; rfl
          rw [← hxd, this, trim_live _ _ hl]
        rw [htr]
        refine ⟨[0, 4], _, _, ⟨cap', rfl, rfl⟩, trivial, Eqv.of ?_, EqvO.rfl, EqvO.take m, trivial⟩
        rw [List.length_take, Nat.min_eq_left hm]; rfl
    · have g4 := of_decide_eq_false h4
      have hm0 : m = 0 := by omega
      subst hm0
      have htr : trim xs = xs.take 0 := by
        have := trim_dead [] xs (fun o ho => by
          obtain ⟨k, hk, rfl⟩ := List.getElem_of_mem ho
          exact hdead k _ (Nat.zero_le _) (List.getElem?_eq_getElem hk))
        simpa [trim] using this
      rw [htr]
      exact ⟨[0, 4], _, _, ⟨cap', rfl, rfl⟩, trivial, Eqv.rfl, EqvO.rfl, EqvO.take 0, trivial⟩
end Go.Proofs.Ytjdpjimdoknlnaa.E
