import Derived.Test.YtjdpjimdoknlnaaWc
namespace Go.Proofs.Ytjdpjimdoknlnaa.E
open Go
set_option maxRecDepth 4000
theorem u32_wrap (x : Nat) : ((UInt32.ofNat x).toNat : Int) = IntKind.wrap .u32 x := by rw [IntKind.wrap_u32, UInt32.toNat_ofNat']; omega
theorem u16_wrap (x : Nat) : ((UInt16.ofNat x).toNat : Int) = IntKind.wrap .u16 x := by rw [IntKind.wrap_u16, UInt16.toNat_ofNat']; omega
theorem u64_of {x : Nat} (h : x < 18446744073709551616) : ((UInt64.ofNat x).toNat : Int) = x := by rw [UInt64.toNat_ofNat']; omega
theorem getNum_lt (s : Bytes) (i : Int) (n : Nat) : getNum s i n < 256 ^ n := by
  unfold getNum
  split
  · have h1 := leNum_lt ((s.drop i.toNat).take (n : Int).toNat)
    refine Nat.lt_of_lt_of_le h1 (Nat.pow_le_pow_right (by decide) ?_)
    simp only [List.length_take, Int.toNat_natCast]; omega
  · exact Nat.pow_pos (by decide)
theorem lsnI_lt (p : Payload) : lsnI p < 18446744073709551616 := getNum_lt p.toList 7 8
/-- What a function hands back together with an error's number. -/
def orErr {α : Type} (enc : α → D) (z : α) (e : Int) : Option α → D
  | some a => .tup [enc a, .int .i64 0]
  | none => .tup [enc z, .int .i64 e]
def zeroData : Data := ⟨0, 0, ⟨0, 0⟩, Vector.replicate 64 0⟩
def bareFrom (s : Bytes) (i : Nat) : Bool := (s.drop i).all fun c => c == 0
def getDataV (p : Payload) : Data :=
  ⟨UInt64.ofNat (lsnI p), UInt32.ofNat (getNum p.toList 15 4), ⟨UInt16.ofNat (getNum p.toList 19 2), p[21]⟩, splice (Vector.replicate 64 0) 0 ((p.toList.drop 22).take 64)⟩
def getData (no : UInt16) (p : Payload) : Option Data := if opensB 1 no p && bareFrom p.toList 86 then some (getDataV p) else none
theorem f71 (no : UInt16) (p : Payload) : Pure Try.prog 71 [.int .u16 no.toNat, .bytes 224 p] (orErr encData zeroData 2 (getData no p)) := by
  have cd : ∀ R R', conc R (orErr encData zeroData 2 (getData no p)) = conc R' (orErr encData zeroData 2 (getData no p)) := fun R R' => by cases getData no p <;> rfl
  refine ⟨fun _ _ => rfl, cd, by cases getData no p <;> rfl, callAt_of_exec zeros mixed (fn := Try.f71) rfl rfl rfl (by rintro _ _ ⟨rfl, rfl⟩; exact Nat.le_refl _) ?_⟩
  refine (f109 1 no p).c ?_
  refine And.intro (fun h1 => ?_) (fun h1 => ?_)
  · have h1 : opensB 1 no p = false := by simpa using h1
    have hg : getData no p = none := by simp [getData, h1]
    rw [hg]
    exact ⟨_, _, ⟨rfl, rfl⟩, Eqv.rfl, trivial⟩
  have h1 : opensB 1 no p = true := by simpa using h1
  refine And.intro (by decide) (And.intro (fun _ => ?_) (fun h => absurd h (by decide)))
  refine LoopN.of Nat (fun j => j ≤ 138 ∧ ((p.toList.drop 86).take j).all (fun c => c == 0) = true) (fun j => 138 - j) (fun j => ⟨slotsOf 58 [(3, .ptr 0 []), (4, .ptr 1 []), (5, .int .i64 0), (19, .slc 0 [] 1 86 138 138), (20, .int .i64 138), (21, .int .i64 j)],
    [.var 23 (.bytes 224 p), .var 145 (encData zeroData)]⟩) (fun _ => Nat.zero_le _) 0 ⟨Nat.zero_le _, rfl⟩ ?_ ?_
  · refine ⟨Eqv.rfl, Eqv.rfl, Eqv.rfl, Eqv.rfl, Eqv.rfl, Eqv.rfl, EqvO.rfl, EqvO.rfl, trivial⟩
  rintro j ⟨hj, hall⟩
  refine And.intro (fun h2 => ?_) (fun h2 => ?_)
  · have g2 := of_decide_eq_true h2
    refine And.intro ⟨by omega, by omega⟩ ?_
    refine And.intro (by omega) ?_
    intro c hc
    refine And.intro (fun h3 => ?_) (fun h3 => ?_)
    · have hne : c ≠ 0 := fun h => by subst h; simp at h3
      have hg : getData no p = none := by
        have : bareFrom p.toList 86 = false := by
          unfold bareFrom
          rw [List.all_eq_false]
          refine ⟨c, ?_, by simpa using hne⟩
          have hc' : (p.toList.drop 86)[j]? = some c := by rw [List.getElem?_drop]; simpa using hc
          exact List.mem_of_getElem? hc'
        simp [getData, this]
      rw [hg]
      exact ⟨_, _, ⟨rfl, rfl⟩, Eqv.rfl, trivial⟩
    · have hc0 : c = 0 := by
        have : (c.toNat : Int) = 0 := by simpa using h3
        exact UInt8.toNat_inj.1 (by simpa using this)
      have hc' : (p.toList.drop 86)[j]? = some c := by rw [List.getElem?_drop]; simpa using hc
      refine ⟨j + 1, ⟨⟨by omega, ?_⟩, by omega⟩, Eqv.rfl, Eqv.rfl, Eqv.rfl, Eqv.rfl, Eqv.rfl, Eqv.of ?_, EqvO.rfl, EqvO.rfl, trivial⟩
      · rw [List.take_add_one, hc']
        simp [hall, hc0]
      · rw [w64 (by omega)]; rfl
  · have g2 := of_decide_eq_false h2
    have : j = 138 := by omega
    subst this
    have hbare : bareFrom p.toList 86 = true := by
      unfold bareFrom
      rwa [List.take_of_length_le (by simp)] at hall
    have hg : getData no p = some (getDataV p) := by simp [getData, h1, hbare]
    rw [hg]
    refine And.intro (by decide) ⟨p.toList, by simp [List.take_of_length_le], ?_⟩
    refine (f17 _).c ?_
    refine (f72 _ (short_vec _ (by decide)) 15 4 (by decide) (by decide)).c ?_
    refine (f72 _ (short_vec _ (by decide)) 19 2 (by decide) (by decide)).c ?_
    refine And.intro (by decide) ?_
    refine And.intro (by decide) ?_
    intro c hc
    refine DrawAt.tail 3 (by kernel_rfl) ?_
    refine And.intro (by decide) (And.intro (fun _ => ?_) (fun h => absurd h (by decide)))
    refine And.intro (by decide) ?_
    refine ⟨p.toList.drop 22, by simp [List.take_of_length_le], ?_⟩
    refine And.intro (by decide) ?_
    refine ⟨_, _, ⟨rfl, rfl⟩, Eqv.of ?_, trivial⟩
    have hc0 : p[21] = c := by simpa using hc
    simp only [orErr, encData, encRef, getDataV, u32_wrap, u16_wrap, u64_of (lsnI_lt p), hc0]
end Go.Proofs.Ytjdpjimdoknlnaa.E
