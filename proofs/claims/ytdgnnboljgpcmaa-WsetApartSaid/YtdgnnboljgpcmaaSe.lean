/- What a writing does to a write set, by itself. -/
import Derived.Test.YtdgnnboljgpcmaaSd
import Derived.Test.YtdgnnboljgpcmaaOj
namespace Go.Proofs.Ytdgnnboljgpcmaa.E
open Go
set_option maxRecDepth 4000
section
variable {κ β : Type} {dec : DecidableEq κ}
theorem look_upd {a b : κ} {v : β} : ∀ (m : List (κ × β)), look dec (upd dec m a v) b = if a = b then some v else look dec m b
  | [] => by
    simp only [upd, look]
    split
    · rename_i hx _; rw [if_pos hx.symm]
    · rename_i hx _; rw [if_neg (fun e => hx e.symm)]
  | (x, u) :: m => by
    simp only [upd]
    split
    · rename_i hx _; subst hx
      simp only [look]
      split
      · rename_i hb _; rw [if_pos hb.symm]
      · rename_i hb _; rw [if_neg (fun e => hb e.symm)]
    · rename_i hx _
      simp only [look]
      split
      · rename_i hb _
        rw [if_neg (fun e => hx (e.trans hb))]
      · exact look_upd m
theorem len_upd_some {a : κ} {v u : β} : ∀ (m : List (κ × β)), look dec m a = some u → (upd dec m a v).length = m.length
  | (x, w) :: m, h => by
    simp only [look, upd] at h ⊢
    split
    · rfl
    · rename_i hx hd
      rw [hd] at h
      simp only [List.length_cons, len_upd_some m h]
end
structure SInv (m : Pages) : Prop where
  nd : (m.map (·.1)).Nodup
  len : m.length ≤ 4
theorem write_inv {m : Pages} (h : SInv m) (p : UInt16) (base : Body) (off : Int) (s : Bytes) : SInv (writeP m p base off s).2 := by
  unfold writeP
  split
  · split
    · rename_i e he
      exact ⟨nodup_upd h.nd, by rw [len_upd_some m he]; exact h.len⟩
    · split
      · exact h
      · rename_i h4
        refine ⟨nodup_upd h.nd, ?_⟩
        have := len_upd (dec := decP) (a := p) (v := (base, splice base off.toNat s)) m
        have := h.len
        show (upd decP m p (base, splice base off.toNat s)).length ≤ 4
        omega
  · exact h
/-- A writing that is done: it is in place, and what was there, or what came in, is otherwise kept. -/
theorem write_done {m : Pages} {p : UInt16} {base : Body} {off : Int} {s : Bytes} (h : (writeP m p base off s).1 = 0) :
    okW off s = true ∧ readP (writeP m p base off s).2 p = (splice (if (readP m p).2 then (readP m p).1 else base) off.toNat s, true) ∧ ∀ q, q ≠ p → readP (writeP m p base off s).2 q = readP m q := by
  unfold writeP at h ⊢
  by_cases hk : okW off s = true
  · rw [if_pos hk] at h ⊢
    cases hl : look decP m p with
    | some e =>
      refine ⟨hk, ?_, fun q hq => ?_⟩
      · simp only [readP, look_upd, hl, if_true]
      · simp only [readP, look_upd, if_neg (Ne.symm hq)]
    | none =>
      rw [hl] at h
      by_cases h4 : m.length = 4
      · simp only [if_pos h4] at h; cases h
      · simp only [if_neg h4]
        refine ⟨hk, ?_, fun q hq => ?_⟩
        · simp [readP, look_upd, hl]
        · simp only [readP, look_upd, if_neg (Ne.symm hq)]
  · rw [if_neg hk] at h; cases h
theorem write_not {m : Pages} {p : UInt16} {base : Body} {off : Int} {s : Bytes} (h : (writeP m p base off s).1 ≠ 0) : (writeP m p base off s).2 = m := by
  unfold writeP at h ⊢
  by_cases hk : okW off s = true
  · rw [if_pos hk] at h ⊢
    cases hl : look decP m p with
    | some e => rw [hl] at h; exact absurd rfl h
    | none =>
      rw [hl] at h
      by_cases h4 : m.length = 4
      · simp only [if_pos h4]
      · simp only [if_neg h4] at h; exact absurd rfl h
  · rw [if_neg hk]
/-- What was there is there. -/
theorem read_there {m : Pages} {q : UInt16} (hq : q ∈ m.map (·.1)) : (readP m q).2 = true := by
  cases hl : look decP m q with
  | some e => simp only [readP, hl]
  | none => exact absurd hq (look_none_iff.1 hl)
theorem write_there {m : Pages} {p q : UInt16} {base : Body} {off : Int} {s : Bytes} (hq : q ∈ m.map (·.1)) : (readP (writeP m p base off s).2 q).2 = true := by
  by_cases h : (writeP m p base off s).1 = 0
  · obtain ⟨_, h2, h3⟩ := write_done h
    by_cases hp : q = p
    · subst hp; rw [h2]
    · rw [h3 q hp]; exact read_there hq
  · rw [write_not h]; exact read_there hq
theorem write_other {m : Pages} {p q : UInt16} {base : Body} {off : Int} {s : Bytes} (hp : q ≠ p) : readP (writeP m p base off s).2 q = readP m q := by
  by_cases h : (writeP m p base off s).1 = 0
  · exact (write_done h).2.2 q hp
  · rw [write_not h]
theorem eqBody (a b : Body) : EqAt Try.prog 25 (.bytes 64 a) (.bytes 64 b) (decide (a = b)) := by
  have h := eqAt_of (P := Try.prog) (T := 25) (x := .bytes 64 a) (y := .bytes 64 b) (b := decide (a.toList = b.toList)) (by kernel_rfl) rfl rfl rfl
  have e : decide (a.toList = b.toList) = decide (a = b) := decide_eq_decide.2 Vector.toList_inj
  rwa [e] at h
/-! ### Writings that came in -/
abbrev RawW (A : HP) (v : Value) (s : List WOp) : Prop := RawRow A 67 encW v s
/-- A part of a row's cells. -/
theorem raw_sub {A : HP} {b o : Nat} {d e : D} (h : RawAt A b o d) (n : Nat) (hs : n + size e ≤ size d) (hc : ∀ R, ((cells R d).drop n).take (size e) = cells R e) : RawAt A b (o + n) e := fun f hf => by
  obtain ⟨c, t, fr, hb, hz, hk⟩ := h f hf
  refine ⟨c, t, fr, hb, by omega, fun R => ?_⟩
  rw [← hc R, hk R, List.drop_take, List.drop_drop, List.take_take, Nat.min_eq_left (by omega)]
theorem cells_W (R : Env) (o : WOp) : cells R (encW o) = [Value.int .u16 o.page.toNat] ++ o.base.toList.map byteV ++ [Value.int .i64 o.off, .string ⟨o.s.toArray⟩] := by
  simp [cells, conc, cellsL, Value.cells]
theorem rawPage {A : HP} {b o : Nat} {x : WOp} (h : RawAt A b o (encW x)) : RawAt A b o (kP x.page) := raw_sub h 0 (by simp [size, sizeL]) (fun R => by rw [cells_W]; simp [size, cells, conc, Value.cells])
theorem rawBase {A : HP} {b o : Nat} {x : WOp} (h : RawAt A b o (encW x)) : RawAt A b (o + 1) (.bytes 64 x.base) := raw_sub h 1 (by simp [size, sizeL]) (fun R => by rw [cells_W]; simp [size, cells, conc, Value.cells])
theorem rawOff {A : HP} {b o : Nat} {x : WOp} (h : RawAt A b o (encW x)) : RawAt A b (o + 65) (.int .i64 x.off) := raw_sub h 65 (by simp [size, sizeL]) (fun R => by rw [cells_W]; simp [size, cells, conc, Value.cells])
theorem rawS {A : HP} {b o : Nat} {x : WOp} (h : RawAt A b o (encW x)) : RawAt A b (o + 66) (.str x.s) := raw_sub h 66 (by simp [size, sizeL]) (fun R => by
  have e : cells R (encW x) = ([Value.int .u16 x.page.toNat] ++ x.base.toList.map byteV ++ [Value.int .i64 x.off]) ++ [.string ⟨x.s.toArray⟩] := by rw [cells_W]; simp
  rw [e, List.drop_left' (by simp)]
  rfl)
end Go.Proofs.Ytdgnnboljgpcmaa.E
