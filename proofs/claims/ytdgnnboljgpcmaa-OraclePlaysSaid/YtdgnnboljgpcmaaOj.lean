/- The horizon, by itself: the least of the starts and the last timestamp; what calls do to it. -/
import Derived.Test.YtdgnnboljgpcmaaOh
namespace Go.Proofs.Ytdgnnboljgpcmaa.E
open Go
set_option maxRecDepth 4000
def HorIs (o : Orc) (v : UInt32) : Prop := v.toNat ≤ o.last.toNat ∧ (∀ kt ∈ o.m, v.toNat ≤ kt.2.toNat) ∧ (v = o.last ∨ ∃ kt ∈ o.m, v = kt.2)
theorem min_toNat (a b : UInt32) : (min a b).toNat = min a.toNat b.toNat := by
  have e : min a b = if a ≤ b then a else b := rfl
  rw [e]
  by_cases h : a ≤ b
  · rw [if_pos h]; have := UInt32.le_iff_toNat_le.1 h; omega
  · rw [if_neg h]; have : ¬ a.toNat ≤ b.toNat := fun k => h (UInt32.le_iff_toNat_le.2 k); omega
theorem min_or (a b : UInt32) : min a b = a ∨ min a b = b := by
  have e : min a b = if a ≤ b then a else b := rfl
  rw [e]
  by_cases h : a ≤ b
  · rw [if_pos h]; exact .inl rfl
  · rw [if_neg h]; exact .inr rfl
theorem hzL_is (m : Live) : ∀ (ys : List UInt64) (h : UInt32), (hzL m h ys).toNat ≤ h.toNat ∧ (∀ y ∈ ys, (hzL m h ys).toNat ≤ ((look decU m y).getD 0).toNat) ∧ (hzL m h ys = h ∨ ∃ y ∈ ys, hzL m h ys = (look decU m y).getD 0)
  | [], h => ⟨Nat.le_refl _, by simp, .inl rfl⟩
  | y :: ys, h => by
    obtain ⟨h1, h2, h3⟩ := hzL_is m ys (min h ((look decU m y).getD 0))
    have e : hzL m h (y :: ys) = hzL m (min h ((look decU m y).getD 0)) ys := rfl
    rw [e]
    have hm := min_toNat h ((look decU m y).getD 0)
    refine ⟨by omega, fun z hz => ?_, ?_⟩
    · rcases List.mem_cons.1 hz with rfl | hz
      · omega
      · exact h2 z hz
    · rcases h3 with h3 | ⟨z, hz, h3⟩
      · rcases min_or h ((look decU m y).getD 0) with k | k
        · exact .inl (by rw [h3, k])
        · exact .inr ⟨y, by simp, by rw [h3, k]⟩
      · exact .inr ⟨z, by simp [hz], h3⟩
theorem hz_is {o : Orc} {ys : List UInt64} (hn : (o.m.map (·.1)).Nodup) (hp : ys.Perm (o.m.map (·.1))) : HorIs o (hzL o.m o.last ys) := by
  obtain ⟨h1, h2, h3⟩ := hzL_is o.m ys o.last
  refine ⟨h1, fun kt hk => ?_, ?_⟩
  · have := h2 kt.1 (hp.mem_iff.2 (List.mem_map_of_mem (f := (·.1)) hk))
    rw [mem_look (dec := decU) hn (show (kt.1, kt.2) ∈ o.m from hk)] at this
    exact this
  · rcases h3 with h3 | ⟨y, hy, h3⟩
    · exact .inl h3
    · have hy' := hp.mem_iff.1 hy
      obtain ⟨kt, hk, rfl⟩ := List.mem_map.1 hy'
      rw [mem_look (dec := decU) hn (show (kt.1, kt.2) ∈ o.m from hk)] at h3
      exact .inr ⟨kt, hk, h3⟩
theorem hor_unique {o : Orc} {v w : UInt32} (hv : HorIs o v) (hw : HorIs o w) : v = w := by
  apply UInt32.toNat_inj.1
  obtain ⟨a1, a2, a3⟩ := hv
  obtain ⟨b1, b2, b3⟩ := hw
  apply Nat.le_antisymm
  · rcases b3 with rfl | ⟨kt, hk, rfl⟩
    · exact a1
    · exact a2 kt hk
  · rcases a3 with rfl | ⟨kt, hk, rfl⟩
    · exact b1
    · exact b2 kt hk
def hzo (o : Orc) : UInt32 := hzL o.m o.last (o.m.map (·.1))
theorem hzo_is {o : Orc} (hn : (o.m.map (·.1)).Nodup) : HorIs o (hzo o) := hz_is hn (List.Perm.refl _)
theorem f32r {o : Orc} (hm : o.m.length ≤ 8) (hn : (o.m.map (·.1)).Nodup) : Rd Try.prog 32 [.ptr 0 []] o.H (vU (hzo o)) :=
  ⟨rfl, ⟨(f32 o hm).fn, fun F R w vs hl hs hv => ((f32 o hm).run F R w vs hl hs hv).mono fun _ _ ⟨d, H, X, v, ⟨ys, hy, hd, hH⟩, r⟩ =>
    ⟨d, H, X, v, ⟨by rw [hd, hor_unique (hz_is hn hy.1) (hzo_is hn)], hH⟩, r⟩⟩⟩
/-- What stays true of an oracle in a script. -/
structure HInv (mx : UInt32) (i : Nat) (o : Orc) : Prop where
  nd : (o.m.map (·.1)).Nodup
  len : o.m.length ≤ 8
  top : ∀ kt ∈ o.m, kt.2.toNat ≤ o.last.toNat
  last : o.last.toNat ≤ mx.toNat
  max : o.max = mx
  cnt : o.count.toNat ≤ i
theorem mem_upd {κ β : Type} {dec : DecidableEq κ} {a : κ} {v : β} {kt : κ × β} : ∀ {m : List (κ × β)}, kt ∈ upd dec m a v → kt ∈ m ∨ kt = (a, v)
  | [], h => by simp [upd] at h; exact .inr h
  | (x, u) :: m, h => by
    simp only [upd] at h
    split at h
    · rename_i hx _; subst hx
      rcases List.mem_cons.1 h with h | h
      · exact .inr h
      · exact .inl (List.mem_cons_of_mem _ h)
    · rcases List.mem_cons.1 h with h | h
      · exact .inl (by rw [h]; simp)
      · rcases mem_upd h with h | h
        · exact .inl (List.mem_cons_of_mem _ h)
        · exact .inr h
theorem len_upd {κ β : Type} {dec : DecidableEq κ} {a : κ} {v : β} : ∀ (m : List (κ × β)), (upd dec m a v).length ≤ m.length + 1
  | [] => by simp [upd]
  | (x, u) :: m => by
    simp only [upd]
    split
    · simp
    · have := len_upd (dec := dec) (a := a) (v := v) m; simp only [List.length_cons]; omega
/-- A step: the invariant stays; the last timestamp doesn't fall; of the starts none is new but the last timestamp. -/
structure Step (mx : UInt32) (i : Nat) (o o' : Orc) : Prop where
  inv : HInv mx (i + 1) o'
  up : o.last.toNat ≤ o'.last.toNat
  new : ∀ kt ∈ o'.m, kt ∈ o.m ∨ kt.2 = o.last
theorem Step.hz {mx : UInt32} {i : Nat} {o o' : Orc} (h : HInv mx i o) (s : Step mx i o o') : (hzo o).toNat ≤ (hzo o').toNat := by
  obtain ⟨a1, a2, _⟩ := hzo_is h.nd
  obtain ⟨_, _, b3⟩ := hzo_is s.inv.nd
  rcases b3 with e | ⟨kt, hk, e⟩
  · rw [e]; exact Nat.le_trans a1 s.up
  · rw [e]
    rcases s.new kt hk with k | k
    · exact a2 kt k
    · rw [k]; exact a1
theorem step_same {mx : UInt32} {i : Nat} {o : Orc} (h : HInv mx i o) : Step mx i o o :=
  ⟨⟨h.nd, h.len, h.top, h.last, h.max, Nat.le_succ_of_le h.cnt⟩, Nat.le_refl _, fun _ hk => .inl hk⟩
theorem step_beg {mx : UInt32} {i : Nat} {o : Orc} (h : HInv mx i o) : Step mx i o (begO o) := by
  unfold begO
  split
  · exact step_same h
  · rename_i h8
    refine ⟨⟨nodup_upd h.nd, ?_, fun kt hk => ?_, h.last, h.max, ?_⟩, Nat.le_refl _, fun kt hk => ?_⟩
    · have := len_upd (dec := decU) (a := o.count + 1) (v := o.last) o.m
      have := h.len
      show (upd decU o.m (o.count + 1) o.last).length ≤ 8
      omega
    · rcases mem_upd hk with k | k
      · exact h.top kt k
      · rw [k]; exact Nat.le_refl _
    · show (o.count + 1).toNat ≤ i + 1
      have := h.cnt
      rw [UInt64.toNat_add]; simp; omega
    · rcases mem_upd hk with k | k
      · exact .inl k
      · rw [k]; exact .inr rfl
theorem step_end {mx : UInt32} {i : Nat} {o : Orc} (n : UInt64) (h : HInv mx i o) : Step mx i o (endO o n) := by
  have hs := del_sub (dec := decU) (a := n) o.m
  exact ⟨⟨nodup_del h.nd, Nat.le_trans hs.length_le h.len, fun kt hk => h.top kt (hs.subset hk), h.last, h.max, Nat.le_succ_of_le h.cnt⟩, Nat.le_refl _, fun kt hk => .inl (hs.subset hk)⟩
theorem step_pub {mx : UInt32} {i : Nat} {o : Orc} (ts : UInt32) (h : HInv mx i o) : Step mx i o (pubO o ts) := by
  unfold pubO
  split
  · rename_i hp
    simp only [pubOK, Bool.and_eq_true, decide_eq_true_eq] at hp
    obtain ⟨hne, rfl⟩ := hp
    have hlt : o.last.toNat < mx.toNat := by
      have := h.last
      rw [h.max] at hne
      have : o.last.toNat ≠ mx.toNat := fun e => hne (UInt32.toNat_inj.1 e)
      omega
    have hmx := mx.toNat_lt
    have e : (o.last + 1).toNat = o.last.toNat + 1 := by rw [UInt32.toNat_add]; simp; omega
    refine ⟨⟨h.nd, h.len, fun kt hk => ?_, ?_, h.max, Nat.le_succ_of_le h.cnt⟩, ?_, fun kt hk => .inl hk⟩
    · have := h.top kt hk; show kt.2.toNat ≤ (o.last + 1).toNat; omega
    · show (o.last + 1).toNat ≤ mx.toNat; omega
    · show o.last.toNat ≤ (o.last + 1).toNat; omega
  · exact step_same h
theorem step_do {mx : UInt32} {i : Nat} {o : Orc} (k : Int) (n : UInt64) (h : HInv mx i o) : Step mx i o (doO o k n) := by
  unfold doO
  split
  · exact step_beg h
  split
  · exact step_end n h
  split
  · exact step_pub _ h
  split
  · split
    · exact step_same h
    · exact step_pub _ h
  · exact step_same h
end Go.Proofs.Ytdgnnboljgpcmaa.E
