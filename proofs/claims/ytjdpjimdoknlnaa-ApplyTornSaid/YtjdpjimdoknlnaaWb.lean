import Derived.Test.YtjdpjimdoknlnaaWa
namespace Go.Proofs.Ytjdpjimdoknlnaa.E
open Go
set_option maxRecDepth 4000
abbrev Payload := Vector UInt8 224
def lsnI (p : Payload) : Nat := getNum p.toList 7 8
theorem short_vec {n : Nat} (v : Vector UInt8 n) (h : n ≤ 140737488355328) : Short v.toList := by simpa [Short] using h
theorem f17 (p : Payload) : Pure Try.prog 17 [.bytes 224 p] (.int .u64 (lsnI p)) := by
  refine ⟨fun _ _ => rfl, fun _ _ => rfl, rfl, callAt_of_exec zeros mixed (fn := Try.f17) rfl rfl rfl (by rintro _ _ ⟨rfl, rfl⟩; exact Nat.le_refl _) ?_⟩
  refine And.intro (by decide) ⟨p.toList, by simp [List.take_of_length_le], ?_⟩
  refine (f72 _ (short_vec _ (by decide)) 7 8 (by decide) (by decide)).c ?_
  exact ⟨_, _, ⟨rfl, rfl⟩, Eqv.rfl, trivial⟩
def sumP (p : Payload) : Payload := splice p 3 [0, 0, 0, 0]
def sumI (p : Payload) : Int := crcMore 0 (sumP p).toList
theorem f136 (p : Payload) : Pure Try.prog 136 [.bytes 224 p] (.int .u32 (sumI p)) := by
  refine ⟨fun _ _ => rfl, fun _ _ => rfl, rfl, callAt_of_exec zeros mixed (fn := Try.f136) rfl rfl rfl (by rintro _ _ ⟨rfl, rfl⟩; exact Nat.le_refl _) ?_⟩
  refine And.intro (by decide) (And.intro (fun _ => ?_) (fun h => absurd h (by decide)))
  refine ⟨[0, 0, 0, 0], rfl, ?_⟩
  refine And.intro (by decide) ?_
  refine And.intro (by decide) ⟨(sumP p).toList, by simp [List.take_of_length_le, sumP], ?_⟩
  refine (f117 _ (short_vec _ (by decide))).c ?_
  exact ⟨_, _, ⟨rfl, rfl⟩, Eqv.rfl, trivial⟩
theorem sumI_range (p : Payload) : 0 ≤ sumI p ∧ sumI p < 4294967296 := by
  unfold sumI crcMore inot ixor
  rw [IntKind.wrap_u32]; omega
def opensB (kind : UInt8) (no : UInt16) (p : Payload) : Bool :=
  decide (p[0] = kind) && decide (getNum p.toList 1 2 = no.toNat) && decide ((getNum p.toList 3 4 : Int) = sumI p)
theorem f109 (kind : UInt8) (no : UInt16) (p : Payload) : Pure Try.prog 109 [.int .u8 kind.toNat, .int .u16 no.toNat, .bytes 224 p] (.bool (opensB kind no p)) := by
  refine ⟨fun _ _ => rfl, fun _ _ => rfl, rfl, callAt_of_exec zeros mixed (fn := Try.f109) rfl rfl rfl (by rintro _ _ ⟨rfl, rfl⟩; exact Nat.le_refl _) ?_⟩
  refine And.intro (by decide) ⟨p.toList, by simp [List.take_of_length_le], ?_⟩
  refine (f72 _ (short_vec _ (by decide)) 1 2 (by decide) (by decide)).c ?_
  refine And.intro (by decide) ⟨p.toList, by simp [List.take_of_length_le], ?_⟩
  refine (f72 _ (short_vec _ (by decide)) 3 4 (by decide) (by decide)).c ?_
  refine And.intro (by decide) ?_
  refine And.intro (by decide) ?_
  intro c hc
  have hc0 : p[0] = c := by simpa using hc
  have e1 : decide ((c.toNat : Int) = kind.toNat) = decide (p[0] = kind) := by rw [hc0]; exact decide_eq_decide.2 ⟨fun h => UInt8.toNat_inj.1 (by omega), fun h => by rw [h]⟩
  have e2 : decide ((getNum p.toList 1 2 : Int) = IntKind.wrap .u64 no.toNat) = decide (getNum p.toList 1 2 = no.toNat) := by
    have := no.toNat_lt
    rw [IntWalk.u64_in _ (by omega)]; exact decide_eq_decide.2 ⟨fun h => by omega, fun h => by omega⟩
  refine And.intro (fun h1 => ?_) (fun h1 => ?_)
  · refine And.intro (fun h2 => ?_) (fun h2 => ?_)
    · refine (f136 _).c ?_
      refine ⟨_, _, ⟨rfl, rfl⟩, Eqv.of ?_, trivial⟩
      rw [e1] at h1
      rw [e2] at h2
      have e3 : IntKind.wrap .u64 (sumI p) = sumI p := IntWalk.u64_in _ (by have := sumI_range p; omega)
      simp only [opensB, h1, h2, Bool.true_and, e3]
    · refine ⟨_, _, ⟨rfl, rfl⟩, fun R => ?_, trivial⟩
      rw [e2] at h2
      simp [opensB, conc, h2]
  · refine ⟨_, _, ⟨rfl, rfl⟩, fun R => ?_, trivial⟩
    rw [e1] at h1
    simp [opensB, conc, h1]
theorem range_u64 (x : Int) : 0 ≤ IntKind.wrap .u64 x ∧ IntKind.wrap .u64 x < 18446744073709551616 := by rw [IntKind.wrap_u64]; omega
theorem range_u32 (x : Int) : 0 ≤ IntKind.wrap .u32 x ∧ IntKind.wrap .u32 x < 4294967296 := by rw [IntKind.wrap_u32]; omega
theorem f116i (v : Int) (h : 0 ≤ v ∧ v < 18446744073709551616) (n : Int) : Pure Try.prog 116 [.int .u64 v, .int .i64 n] (.str (putB v.toNat n)) := by
  obtain ⟨a, rfl⟩ : ∃ a : Nat, v = a := ⟨v.toNat, by omega⟩
  rw [Int.toNat_natCast]
  exact f116 a (by omega) n
theorem toB_nat (c : UInt8) : toB (c.toNat : Int) = c := by simp [toB]
/-! ### pages, made -/
def laid (v : Payload) (i : Nat) (bs : Bytes) : Payload := splice v i (bs.take (224 - i))
def sealP (kind : UInt8) (no : UInt16) (lsn : Nat) (p : Payload) : Payload :=
  let p := p.setIfInBounds 0 kind
  let p := laid p 1 (putL no.toNat 2)
  let p := laid p 7 (putL lsn 8)
  laid p 3 (putL (sumI p).toNat 4)
theorem f134 (kind : UInt8) (no : UInt16) (lsn : Nat) (hl : lsn < 18446744073709551616) (p : Payload) : Pure Try.prog 134 [.int .u8 kind.toNat, .int .u16 no.toNat, .int .u64 lsn, .bytes 224 p] (.bytes 224 (sealP kind no lsn p)) := by
  refine ⟨fun _ _ => rfl, fun _ _ => rfl, rfl, callAt_of_exec zeros mixed (fn := Try.f134) rfl rfl rfl (by rintro _ _ ⟨rfl, rfl⟩; exact Nat.le_refl _) ?_⟩
  refine And.intro (by decide) ?_
  refine And.intro (by decide) ?_
  refine And.intro ⟨by omega, by have := kind.toNat_lt; omega⟩ ?_
  refine DrawAt.tail 4 (by kernel_rfl) ?_
  refine And.intro (by decide) (And.intro (fun _ => ?_) (fun h => absurd h (by decide)))
  refine (f116i _ (range_u64 _) _).q ?_
  refine ⟨_, rfl, ?_⟩
  refine And.intro (by decide) ?_
  refine DrawAt.tail 3 (by kernel_rfl) ?_
  refine And.intro (by decide) (And.intro (fun _ => ?_) (fun h => absurd h (by decide)))
  refine (f116 _ hl _).q ?_
  refine ⟨_, rfl, ?_⟩
  refine And.intro (by decide) ?_
  refine DrawAt.tail 5 (by kernel_rfl) ?_
  refine And.intro (by decide) (And.intro (fun _ => ?_) (fun h => absurd h (by decide)))
  refine (f136 _).q ?_
  refine (f116i _ (range_u64 _) _).q ?_
  refine ⟨_, rfl, ?_⟩
  refine And.intro (by decide) ?_
  refine ⟨_, _, ⟨rfl, rfl⟩, Eqv.of ?_, trivial⟩
  have e1 : (IntKind.wrap .u64 (no.toNat : Int)).toNat = no.toNat := by have := no.toNat_lt; rw [IntWalk.u64_in _ (by omega)]; rfl
  have e2 : ∀ q, (IntKind.wrap .u64 (sumI q)).toNat = (sumI q).toNat := fun q => by rw [IntWalk.u64_in _ (by have := sumI_range q; omega)]
  simp only [e1, e2, toB_nat]
  rfl
end Go.Proofs.Ytjdpjimdoknlnaa.E
