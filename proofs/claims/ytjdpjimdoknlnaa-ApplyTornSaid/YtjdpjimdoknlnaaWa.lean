import Derived.Test.YtjdpjimdoknlnaaZero
import Derived.IntWalk
namespace Go.Proofs.Ytjdpjimdoknlnaa.E
open Go
set_option maxRecDepth 4000

/-! ### crc -/
def stepD (r : Int) : Int := ixor .u32 (ishr .u32 r 1) (iand .u32 3988292384 (IntKind.wrap .u32 (0 - iand .u32 r 1)))
def crcStep : Nat → Int → Int
  | 0, r => r
  | n + 1, r => stepD (crcStep n r)
def crcByte (r : Int) (c : UInt8) : Int := crcStep 8 (ixor .u32 r (IntKind.wrap .u32 c.toNat))
def crcRun (r : Int) (s : Bytes) : Int := s.foldl crcByte r
def crcMore (sum : Int) (s : Bytes) : Int := inot .u32 (crcRun (inot .u32 sum) s)
/-- No text and no slice is longer than this. -/
abbrev Short {α : Type} (l : List α) : Prop := l.length ≤ 140737488355328
theorem w64 {x : Int} (h : -9223372036854775808 ≤ x ∧ x ≤ 9223372036854775807) : IntKind.wrap .i64 x = x := IntWalk.i64_in x h

theorem f154 (r : Int) : Pure Try.prog 154 [.int .u32 r] (.int .u32 (stepD r)) := by
  refine ⟨fun _ _ => rfl, fun _ _ => rfl, rfl, callAt_of_exec zeros mixed (fn := Try.f154) rfl rfl rfl (by rintro _ _ ⟨rfl, rfl⟩; exact Nat.le_refl _) ?_⟩
  refine And.intro (by decide) ?_
  exact ⟨_, _, ⟨rfl, rfl⟩, Eqv.rfl, trivial⟩
theorem f144 (sum : Int) (s : Bytes) (hs : Short s) : Pure Try.prog 144 [.int .u32 sum, .str s] (.int .u32 (crcMore sum s)) := by
  refine ⟨fun _ _ => rfl, fun _ _ => rfl, rfl, callAt_of_exec zeros mixed (fn := Try.f144) rfl rfl rfl (by rintro _ _ ⟨rfl, rfl⟩; exact Nat.le_refl _) ?_⟩
  refine LoopN.of Nat (fun i => i ≤ s.length) (fun i => s.length - i) (fun i => ⟨slotsOf 28 [(1, .str s), (5, .int .u32 (crcRun (inot .u32 sum) (s.take i))), (6, .int .i64 i)], []⟩) (fun _ => Nat.le_refl _) 0 (Nat.zero_le _) ?_ ?_
  · exact ⟨Eqv.rfl, Eqv.rfl, Eqv.rfl, trivial⟩
  intro i hi
  refine And.intro ?_ ?_
  · intro hlt
    have hlt : (i : Int) < s.length := of_decide_eq_true hlt
    refine And.intro ⟨by omega, hlt⟩ ?_
    intro c hc
    refine LoopN.of Nat (fun j => j ≤ 8) (fun j => 8 - j) (fun j => ⟨slotsOf 28 [(1, .str s), (5, .int .u32 (crcStep j (ixor .u32 (crcRun (inot .u32 sum) (s.take i)) (IntKind.wrap .u32 c.toNat)))), (6, .int .i64 i), (21, .int .i64 j)], []⟩) (fun _ => Nat.le_refl _) 0 (Nat.zero_le _) ?_ ?_
    · exact ⟨Eqv.rfl, Eqv.rfl, Eqv.rfl, Eqv.rfl, trivial⟩
    intro j hj
    refine And.intro ?_ ?_
    · intro h8
      have h8 : (j : Int) < 8 := of_decide_eq_true h8
      refine (f154 _).c ?_
      refine ⟨j + 1, ⟨by omega, by omega⟩, Eqv.rfl, Eqv.rfl, Eqv.rfl, Eqv.of ?_, trivial⟩
      rw [w64 (by omega)]; rfl
    · intro h8
      have h8 : ¬ (j : Int) < 8 := of_decide_eq_false h8
      have : j = 8 := by omega
      subst this
      have hlt' : i < s.length := by omega
      refine ⟨i + 1, ⟨by omega, by omega⟩, Eqv.rfl, Eqv.of ?_, Eqv.of ?_, trivial⟩
      · have hc' : s[i]? = some c := by simpa using hc
        rw [List.take_add_one, hc']
        simp only [crcRun, Option.toList_some, List.foldl_append, List.foldl_cons, List.foldl_nil]
        rfl
      · rw [w64 (by omega)]; rfl
  · intro hge
    have hge : ¬ (i : Int) < s.length := of_decide_eq_false hge
    refine ⟨_, _, ⟨rfl, rfl⟩, Eqv.of ?_, trivial⟩
    rw [List.take_of_length_le (by omega)]; rfl
theorem f117 (s : Bytes) (hs : Short s) : Pure Try.prog 117 [.str s] (.int .u32 (crcMore 0 s)) := by
  refine ⟨fun _ _ => rfl, fun _ _ => rfl, rfl, callAt_of_exec zeros mixed (fn := Try.f117) rfl rfl rfl (by rintro _ _ ⟨rfl, rfl⟩; exact Nat.le_refl _) ?_⟩
  refine (f144 _ _ hs).c ?_
  exact ⟨_, _, ⟨rfl, rfl⟩, Eqv.rfl, trivial⟩

/-! ### word -/
/-- A number of bytes, the lowest first. -/
def leNum : Bytes → Nat
  | [] => 0
  | c :: s => c.toNat + 256 * leNum s
theorem leNum_lt : ∀ s : Bytes, leNum s < 256 ^ s.length
  | [] => by simp [leNum]
  | c :: s => by
    have := leNum_lt s
    have hc := c.toNat_lt
    simp only [leNum, List.length_cons, Nat.pow_succ]
    omega
def getOK (s : Bytes) (i n : Int) : Bool := !decide (n < 0) && !decide (8 < n) && !decide (i < 0) && !decide ((s.length : Int) < i) && !decide ((s.length : Int) - i < n)
def getNum (s : Bytes) (i n : Int) : Nat := if getOK s i n then leNum ((s.drop i.toNat).take n.toNat) else 0

theorem ior64 (v c : Nat) (hv : v * 256 + 255 < 18446744073709551616) (hc : c < 256) : ior .u64 ((v * 256 : Nat) : Int) (c : Int) = ((v * 256 + c : Nat) : Int) := by
  unfold ior
  rw [BitVec.ofInt_natCast, BitVec.ofInt_natCast, BitVec.toNat_or, BitVec.toNat_ofNat, BitVec.toNat_ofNat]
  have h1 : v * 256 % 2 ^ IntKind.u64.bits = v * 256 := Nat.mod_eq_of_lt (by show v * 256 < 18446744073709551616; omega)
  have h2 : c % 2 ^ IntKind.u64.bits = c := Nat.mod_eq_of_lt (by show c < 18446744073709551616; omega)
  rw [h1, h2]
  have h3 : v * 256 ||| c = v * 256 + c := by
    have := Nat.shiftLeft_add_eq_or_of_lt (show c < 2 ^ 8 by omega) v
    rw [Nat.shiftLeft_eq] at this
    exact this.symm
  rw [h3]
  exact IntWalk.u64_in _ (by omega)
theorem ishl64_8 (v : Nat) (hv : v * 256 < 18446744073709551616) : ishl .u64 (v : Int) 8 = ((v * 256 : Nat) : Int) := by
  have e : (2 : Int) ^ min (Int.toNat 8) IntKind.u64.bits = 256 := by decide
  unfold ishl
  rw [e, IntWalk.u64_in _ (by omega)]
  omega
theorem leNum_bytes (s : Bytes) (m : Nat) (h : s.length ≤ 7) : leNum s * 256 + 255 < 18446744073709551616 := by
  have h1 := leNum_lt s
  have h2 : 256 ^ s.length ≤ 256 ^ 7 := Nat.pow_le_pow_right (by decide) h
  have h3 : (256 : Nat) ^ 7 = 72057594037927936 := by decide
  omega
theorem f72 (s : Bytes) (hs : Short s) (i n : Int) (hi : i ≤ 9223372036854775807) (hn : n ≤ 9223372036854775807) : Pure Try.prog 72 [.str s, .int .i64 i, .int .i64 n] (.tup [.int .u64 (getNum s i n), .bool (getOK s i n)]) := by
  refine ⟨fun _ _ => rfl, fun _ _ => rfl, rfl, callAt_of_exec zeros mixed (fn := Try.f72) rfl rfl rfl (by rintro _ _ ⟨rfl, rfl⟩; exact Nat.le_refl _) ?_⟩
  refine And.intro (fun h1 => ?_) (fun h1 => ?_)
  · exact ⟨_, _, ⟨rfl, rfl⟩, fun R => by simp [conc, concL, getNum, getOK, h1], trivial⟩
  refine And.intro (fun h2 => ?_) (fun h2 => ?_)
  · exact ⟨_, _, ⟨rfl, rfl⟩, fun R => by simp [conc, concL, getNum, getOK, h2], trivial⟩
  refine And.intro (fun h3 => ?_) (fun h3 => ?_)
  · exact ⟨_, _, ⟨rfl, rfl⟩, fun R => by simp [conc, concL, getNum, getOK, h3], trivial⟩
  refine And.intro (fun h4 => ?_) (fun h4 => ?_)
  · exact ⟨_, _, ⟨rfl, rfl⟩, fun R => by simp [conc, concL, getNum, getOK, h4], trivial⟩
  have g1 := of_decide_eq_false h1
  have g2 := of_decide_eq_false h2
  have g3 := of_decide_eq_false h3
  have g4 := of_decide_eq_false h4
  have hw : IntKind.i64.wrap ((s.length : Int) - i) = (s.length : Int) - i := w64 (by unfold Short at hs; omega)
  refine And.intro (fun h5 => ?_) (fun h5 => ?_)
  · rw [hw] at h5
    exact ⟨_, _, ⟨rfl, rfl⟩, fun R => by simp [conc, concL, getNum, getOK, h5], trivial⟩
  rw [hw] at h5
  have g5 := of_decide_eq_false h5
  have hok : getOK s i n = true := by simp [getOK, h1, h2, h3, h4, h5]
  have hnum : getNum s i n = leNum ((s.drop i.toNat).take n.toNat) := by simp [getNum, hok]
  rw [hok, hnum]
  obtain ⟨a, rfl⟩ : ∃ a : Nat, i = a := ⟨i.toNat, by omega⟩
  obtain ⟨m, rfl⟩ : ∃ m : Nat, n = m := ⟨n.toNat, by omega⟩
  simp only [Int.toNat_natCast]
  refine LoopN.of Nat (fun j => j ≤ m) (fun j => m - j) (fun j => ⟨slotsOf 50 [(0, .str s), (1, .int .i64 a), (7, .ff), (8, .int .u64 (leNum ((s.drop (a + (m - j))).take j))), (9, .int .i64 (m - 1 - j))], []⟩) (fun _ => Nat.le_refl _) 0 (Nat.zero_le _) ?_ ?_
  · refine ⟨Eqv.rfl, Eqv.rfl, Eqv.rfl, Eqv.rfl, Eqv.of ?_, trivial⟩
    rw [w64 (by omega)]; simp
  intro j hj
  refine And.intro (fun h6 => ?_) (fun h6 => ?_)
  · have g6 := of_decide_eq_true h6
    have hlt : a + (m - (j + 1)) < s.length := by omega
    have hidx : IntKind.i64.wrap ((a : Int) + (m - 1 - j)) = ((a + (m - (j + 1)) : Nat) : Int) := by rw [w64 (by omega)]; omega
    refine And.intro (by decide) ?_
    refine And.intro ?_ ?_
    · rw [hidx]; omega
    intro c hc
    rw [hidx] at hc
    simp only [Int.toNat_natCast] at hc
    refine ⟨j + 1, ⟨by omega, by omega⟩, Eqv.rfl, Eqv.rfl, Eqv.rfl, Eqv.of ?_, Eqv.of ?_, trivial⟩
    · have hl7 : ((s.drop (a + (m - j))).take j).length ≤ 7 := by simp; omega
      have hb := leNum_bytes _ 0 hl7
      have hstep : (s.drop (a + (m - (j + 1)))).take (j + 1) = c :: (s.drop (a + (m - j))).take j := by
        rw [List.drop_eq_getElem_cons hlt, List.take_succ_cons]
        have hce : s[a + (m - (j + 1))] = c := by rw [List.getElem?_eq_getElem hlt] at hc; exact Option.some.inj hc
        rw [hce, show a + (m - (j + 1)) + 1 = a + (m - j) by omega]
      have hcl := c.toNat_lt
      rw [hstep, leNum, ishl64_8 _ (by omega), IntWalk.u64_in _ (by omega), ior64 _ _ hb (by omega)]
      congr 2; omega
    · rw [w64 (by omega)]; congr 1; omega
  · have g6 := of_decide_eq_false h6
    have : j = m := by omega
    subst this
    exact ⟨_, _, ⟨rfl, rfl⟩, fun R => by simp [conc, concL], trivial⟩
def putL (v : Nat) : Nat → Bytes
  | 0 => []
  | n + 1 => putL v n ++ [UInt8.ofNat (v / 256 ^ n)]
theorem putL_length (v : Nat) : ∀ n, (putL v n).length = n
  | 0 => rfl
  | n + 1 => by simp [putL, putL_length v n]
def putB (v : Nat) (n : Int) : Bytes := if n < 0 then [] else if 8 < n then [] else putL v n.toNat
theorem toB_u8 (v : Nat) : ((UInt8.ofNat v).toNat : Int) = IntKind.wrap .u8 v := by
  rw [IntKind.wrap_u8, UInt8.toNat_ofNat']; omega
theorem ishr_8 (v j : Nat) (hj : j ≤ 8) : ishr .u64 (v : Int) ((8 * j : Nat) : Int) = ((v / 256 ^ j : Nat) : Int) := by
  unfold ishr
  rw [Int.toNat_natCast, Nat.min_eq_left (show 8 * j ≤ IntKind.u64.bits by show 8 * j ≤ 64; omega), Int.pow_mul, show (2 : Int) ^ 8 = ((256 : Nat) : Int) from rfl, ← Int.natCast_pow, ← Int.natCast_ediv]
theorem f116 (v : Nat) (hv : v < 18446744073709551616) (n : Int) : Pure Try.prog 116 [.int .u64 v, .int .i64 n] (.str (putB v n)) := by
  refine ⟨fun _ _ => rfl, fun _ _ => rfl, rfl, callAt_of_exec zeros mixed (fn := Try.f116) rfl rfl rfl (by rintro _ _ ⟨rfl, rfl⟩; exact Nat.le_refl _) ?_⟩
  refine And.intro (fun h1 => ?_) (fun h1 => ?_)
  · exact ⟨_, _, ⟨rfl, rfl⟩, Eqv.of (by simp [putB, of_decide_eq_true h1]), trivial⟩
  have g1 := of_decide_eq_false h1
  refine And.intro (fun h2 => ?_) (fun h2 => ?_)
  · exact ⟨_, _, ⟨rfl, rfl⟩, Eqv.of (by simp [putB, g1, of_decide_eq_true h2]), trivial⟩
  have g2 := of_decide_eq_false h2
  have hput : putB v n = putL v n.toNat := by simp [putB, g1, g2]
  obtain ⟨m, rfl⟩ : ∃ m : Nat, n = m := ⟨n.toNat, by omega⟩
  rw [hput]
  refine And.intro ⟨rfl, by omega, by have : Try.prog.bytesOf 5 = 1 := by kernel_rfl
                                      rw [this]; omega, by omega⟩ ?_
  refine And.intro rfl ?_
  refine LoopN.of Nat (fun j => j ≤ m) (fun j => m - j) (fun j => ⟨slotsOf 31 [(0, .int .u64 v), (5, .slc 0 [] 1 0 m m), (16, .int .i64 m), (17, .int .i64 j)], [.vec 5 1 byteD (putL v j ++ List.replicate (m - j) 0) m]⟩) (fun _ => Nat.zero_le _) 0 (Nat.zero_le _) ?_ ?_
  · exact ⟨Eqv.rfl, Eqv.of (by simp), Eqv.of (by simp), Eqv.rfl, EqvO.of (by simp [putL]), trivial⟩
  intro j hj
  refine And.intro (fun h3 => ?_) (fun h3 => ?_)
  · have g3 := of_decide_eq_true h3
    have hw : IntKind.i64.wrap (8 * (j : Int)) = ((8 * j : Nat) : Int) := by rw [w64 (by omega)]; omega
    refine And.intro ?_ ?_
    · rw [hw]; omega
    refine And.intro ?_ ?_
    · omega
    refine And.intro ?_ ?_
    · simp [putL_length]; omega
    refine And.intro ?_ ?_
    · simp [putL_length]; omega
    intro x hx
    refine ⟨UInt8.ofNat (v / 256 ^ j), Eqv.of ?_, ?_⟩
    · unfold byteD
      rw [toB_u8, hw, ishr_8 v j (by omega)]
    refine ⟨j + 1, ⟨by omega, by omega⟩, Eqv.rfl, Eqv.rfl, Eqv.rfl, Eqv.of ?_, EqvO.of ?_, trivial⟩
    · rw [w64 (by omega)]; rfl
    · congr 1
      have hr : List.replicate (m - j) (0 : UInt8) = 0 :: List.replicate (m - (j + 1)) 0 := by
        rw [show m - j = (m - (j + 1)) + 1 by omega, List.replicate_succ]
      rw [hr, Nat.zero_add, Int.toNat_natCast, List.set_append_right _ _ (by rw [putL_length]; exact Nat.le_refl _), putL_length, Nat.sub_self]
      simp [putL]
  · have g3 := of_decide_eq_false h3
    have : j = m := by omega
    subst this
    refine And.intro (by simp [putL_length]) ?_
    refine And.intro (fun _ => rfl) ?_
    refine ⟨putL v j, by have := putL_length v j; simp [List.take_of_length_le, this], ?_⟩
    exact ⟨_, _, ⟨rfl, rfl⟩, Eqv.of (by simp), trivial⟩
end Go.Proofs.Ytjdpjimdoknlnaa.E
