/- A script's call upon an oracle; maps whose keys are apart. -/
import Derived.Test.YtdgnnboljgpcmaaOf
import Derived.Test.YtdgnnboljgpcmaaEngX
namespace Go.Proofs.Ytdgnnboljgpcmaa.E
open Go
set_option maxRecDepth 4000
/-! ### Maps -/
section
variable {κ β : Type} {dec : DecidableEq κ}
theorem look_mem {a : κ} {v : β} : ∀ {m : List (κ × β)}, look dec m a = some v → (a, v) ∈ m
  | (x, u) :: m, h => by
    simp only [look] at h
    split at h
    · rename_i hx _; subst hx; cases h; simp
    · exact List.mem_cons_of_mem _ (look_mem h)
theorem mem_look {a : κ} {v : β} : ∀ {m : List (κ × β)}, (m.map (·.1)).Nodup → (a, v) ∈ m → look dec m a = some v
  | (x, u) :: m, hn, h => by
    simp only [List.map_cons, List.nodup_cons] at hn
    simp only [look]
    split
    · rename_i hx _; subst hx
      rcases List.mem_cons.1 h with h | h
      · cases h; rfl
      · exact absurd (List.mem_map_of_mem (f := (·.1)) h) hn.1
    · rename_i hx _
      rcases List.mem_cons.1 h with h | h
      · cases h; exact absurd rfl hx
      · exact mem_look hn.2 h
theorem look_none_iff {a : κ} : ∀ {m : List (κ × β)}, look dec m a = none ↔ a ∉ m.map (·.1)
  | [] => by simp [look]
  | (x, u) :: m => by
    simp only [look, List.map_cons, List.mem_cons, not_or]
    split
    · rename_i hx _; subst hx; simp
    · rename_i hx _; simp only [look_none_iff (m := m)]; exact ⟨fun h => ⟨hx, h⟩, fun h => h.2⟩
theorem keys_upd {a : κ} {v : β} : ∀ (m : List (κ × β)), a ∈ m.map (·.1) → (upd dec m a v).map (·.1) = m.map (·.1)
  | (x, u) :: m, h => by
    simp only [upd]
    split
    · rfl
    · rename_i hx _
      simp only [List.map_cons, List.mem_cons] at h ⊢
      rw [keys_upd m (h.resolve_left hx)]
theorem nodup_upd {a : κ} {v : β} {m : List (κ × β)} (h : (m.map (·.1)).Nodup) : ((upd dec m a v).map (·.1)).Nodup := by
  by_cases ha : a ∈ m.map (·.1)
  · rw [keys_upd m ha]; exact h
  · rw [(look_none_upd (dec := dec) (v := v) m (look_none_iff.2 ha)).1, List.map_append, List.nodup_append]
    exact ⟨h, by simp, fun x hx y hy => by simp at hy; subst hy; exact fun e => ha (e ▸ hx)⟩
theorem del_sub {a : κ} : ∀ (m : List (κ × β)), List.Sublist (del dec m a) m
  | [] => List.Sublist.refl _
  | (x, u) :: m => by
    simp only [del]
    split
    · exact List.sublist_cons_self _ _
    · exact List.Sublist.cons_cons _ (del_sub m)
theorem nodup_del {a : κ} {m : List (κ × β)} (h : (m.map (·.1)).Nodup) : ((del dec m a).map (·.1)).Nodup := h.sublist ((del_sub m).map _)
theorem look_del {a : κ} : ∀ {m : List (κ × β)}, (m.map (·.1)).Nodup → look dec (del dec m a) a = none
  | [], _ => rfl
  | (x, u) :: m, h => by
    simp only [List.map_cons, List.nodup_cons] at h
    simp only [del]
    split
    · rename_i hx _; subst hx; exact look_none_iff.2 h.1
    · rename_i hx _
      simp only [look]
      split
      · rename_i hx' _; exact absurd hx' hx
      · exact look_del h.2
end
/-! ### A call of a script -/
def doO (o : Orc) (k : Int) (n : UInt64) : Orc :=
  if k = 0 then begO o else if k = 1 then endO o n else if k = 2 then pubO o n.toUInt32 else if k = 3 then (if o.last = o.max then o else pubO o (o.last + 1)) else o
def encOp (x : Int × UInt64) : D := .st [.int .i64 x.1, kU x.2]
theorem wrap_low (n : UInt64) : IntKind.wrap .u32 (n.toNat : Int) = ((n.toUInt32).toNat : Int) := by
  rw [IntKind.wrap_u32, UInt64.toNat_toUInt32]; omega
set_option maxHeartbeats 4000000 in
theorem f36 (o : Orc) (k : Int) (n : UInt64) : CallAt Try.prog 36 [.ptr 0 [], encOp (k, n)] o.H (fun d H => d = .tup [] ∧ H = (doO o k n).H) := by
  refine callAt_of_execR zeros mixed (fn := Try.f36) rfl rfl rfl ?_
  repeat refine JoinAt.through ?_
  refine And.intro (fun h => ?_) (fun h => ?_)
  · have h : k = 0 := of_decide_eq_true h
    have e : doO o k n = begO o := by simp only [doO, if_pos h]
    rw [e]
    refine (f29 o).lift [0, 1] rfl (fun _ => rfl) (by rintro d H1 ⟨rfl, rfl⟩ hj; unfold begD at hj; split at hj <;> cases hj) ?_
    refine ⟨EqvO.rfl, EqvO.rfl, ?_⟩
    rintro d H1 ⟨rfl, rfl⟩
    exact ⟨[0, 1], _, _, ⟨rfl, rfl⟩, trivial, Eqv.rfl, EqvO.rfl, EqvO.rfl, trivial⟩
  have h0 : ¬ k = 0 := of_decide_eq_false h
  repeat refine JoinAt.through ?_
  refine And.intro (fun h => ?_) (fun h => ?_)
  · have h1 : k = 1 := of_decide_eq_true h
    have e : doO o k n = endO o n := by simp only [doO, if_neg h0, if_pos h1]
    rw [e]
    refine (f31 o n).lift [0, 1] rfl (fun _ => rfl) (by rintro d H1 ⟨rfl, rfl⟩ hj; cases hj) ?_
    refine ⟨EqvO.rfl, EqvO.rfl, ?_⟩
    rintro d H1 ⟨rfl, rfl⟩
    exact ⟨[0, 1], _, _, ⟨rfl, rfl⟩, trivial, Eqv.rfl, EqvO.rfl, EqvO.rfl, trivial⟩
  have h1 : ¬ k = 1 := of_decide_eq_false h
  repeat refine JoinAt.through ?_
  refine And.intro (fun h => ?_) (fun h => ?_)
  · have h2 : k = 2 := of_decide_eq_true h
    have e : doO o k n = pubO o n.toUInt32 := by simp only [doO, if_neg h0, if_neg h1, if_pos h2]
    rw [e]
    refine (f20 o n.toUInt32).lift [0, 1] rfl (fun R => by simp only [conc, concL, renL, ren, wrap_low]; rfl) (by rintro d H1 ⟨rfl, rfl⟩ hj; unfold pubE at hj; split at hj <;> cases hj) ?_
    refine ⟨EqvO.rfl, EqvO.rfl, ?_⟩
    rintro d H1 ⟨rfl, rfl⟩
    exact ⟨[0, 1], _, _, ⟨rfl, rfl⟩, trivial, Eqv.rfl, EqvO.rfl, EqvO.rfl, trivial⟩
  have h2 : ¬ k = 2 := of_decide_eq_false h
  repeat refine JoinAt.through ?_
  refine And.intro (fun h => ?_) (fun h => ?_)
  · have h3 : k = 3 := of_decide_eq_true h
    by_cases hl : o.last = o.max
    · have e : doO o k n = o := by simp only [doO, if_neg h0, if_neg h1, if_neg h2, if_pos h3, if_pos hl]
      rw [e]
      have hc := f19 o
      have hn : nextO o = .tup [.int .u32 0, .int .i64 8] := by simp only [nextO, if_pos hl]
      rw [hn] at hc
      refine hc.c [0, 1] rfl (fun _ => rfl) (by exact ⟨EqvS.rfl, EqvS.rfl, trivial⟩) ?_
      refine And.intro (fun h => absurd h (by decide)) (fun _ => ?_)
      exact ⟨[0, 1], _, _, ⟨rfl, rfl⟩, trivial, Eqv.rfl, EqvO.rfl, EqvO.rfl, trivial⟩
    · have e : doO o k n = pubO o (o.last + 1) := by simp only [doO, if_neg h0, if_neg h1, if_neg h2, if_pos h3, if_neg hl]
      rw [e]
      have hc := f19 o
      have hn : nextO o = .tup [vU (o.last + 1), .int .i64 0] := by simp only [nextO, if_neg hl]
      rw [hn] at hc
      refine hc.c [0, 1] rfl (fun _ => rfl) (by exact ⟨EqvS.rfl, EqvS.rfl, trivial⟩) ?_
      refine And.intro (fun _ => ?_) (fun h => absurd h (by decide))
      refine (f20 o (o.last + 1)).lift [0, 1] rfl (fun _ => rfl) (by rintro d H1 ⟨rfl, rfl⟩ hj; unfold pubE at hj; split at hj <;> cases hj) ?_
      refine ⟨EqvO.rfl, EqvO.rfl, ?_⟩
      rintro d H1 ⟨rfl, rfl⟩
      exact ⟨[0, 1], _, _, ⟨rfl, rfl⟩, trivial, Eqv.rfl, EqvO.rfl, EqvO.rfl, trivial⟩
  have h3 : ¬ k = 3 := of_decide_eq_false h
  have e : doO o k n = o := by simp only [doO, if_neg h0, if_neg h1, if_neg h2, if_neg h3]
  rw [e]
  exact ⟨[0, 1], _, _, ⟨rfl, rfl⟩, trivial, Eqv.rfl, EqvO.rfl, EqvO.rfl, trivial⟩
/-! ### A script that came in -/
abbrev RawOps (A : HP) (v : Value) (s : List (Int × UInt64)) : Prop := RawRow A 2 encOp v s
theorem rawKind {A : HP} {b o : Nat} {x : Int × UInt64} (h : RawAt A b o (encOp x)) : RawAt A b o (.int .i64 x.1) := fun f hf => by
  obtain ⟨c, t, fr, hb, hs, hc⟩ := h f hf
  refine ⟨c, t, fr, hb, by simp only [encOp, size, sizeL] at hs ⊢; omega, fun R => ?_⟩
  have := congrArg (List.take 1) (hc R)
  rw [List.take_take] at this
  exact this
theorem rawNum {A : HP} {b o : Nat} {x : Int × UInt64} (h : RawAt A b o (encOp x)) : RawAt A b (o + 1) (kU x.2) := fun f hf => by
  obtain ⟨c, t, fr, hb, hs, hc⟩ := h f hf
  refine ⟨c, t, fr, hb, by simp only [encOp, size, sizeL] at hs ⊢; omega, fun R => ?_⟩
  have h2 : (cells R (encOp x)).drop 1 = ((c.toList.drop o).take (size (encOp x))).drop 1 := by rw [hc R]
  rw [List.drop_take, List.drop_drop] at h2
  exact h2
end Go.Proofs.Ytdgnnboljgpcmaa.E
