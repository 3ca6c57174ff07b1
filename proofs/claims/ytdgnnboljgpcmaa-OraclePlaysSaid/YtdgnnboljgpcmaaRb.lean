/- The reference's transactions and the oracle's: one state; 'lives', walked. -/
import Derived.Test.YtdgnnboljgpcmaaRa
namespace Go.Proofs.Ytdgnnboljgpcmaa.E
open Go
set_option maxRecDepth 8000
def kv (t : Txn) : UInt64 × UInt32 := (t.n, t.start)
def lm (L : List Txn) : Live := (liveL L).map kv
theorem lm_cons (t : Txn) (L : List Txn) : lm (t :: L) = if t.live then kv t :: lm L else lm L := by
  unfold lm liveL
  cases h : t.live <;> simp [h]
theorem look_live (n : UInt64) : ∀ L : List Txn, look decU (lm L) n = (L.find? (isAt n)).map (·.start)
  | [] => rfl
  | t :: L => by
    rw [lm_cons, List.find?_cons]
    cases h : t.live with
    | false => simp only [isAt, h, Bool.and_false, Bool.false_eq_true, if_false]; exact look_live n L
    | true =>
      simp only [if_true, look, kv]
      split
      · rename_i hx _; simp [isAt, h, hx]
      · rename_i hx _
        have : isAt n t = false := by simp [isAt, h]; exact fun e => hx e.symm
        rw [this]; exact look_live n L
theorem find_at {L : List Txn} {n : UInt64} : (L.find? (isAt n) = none ∧ L.findIdx? (isAt n) = none) ∨ ∃ (k : Nat) (t : Txn), L.find? (isAt n) = some t ∧ L.findIdx? (isAt n) = some k ∧ L[k]? = some t ∧ isAt n t = true := by
  induction L with
  | nil => exact .inl ⟨rfl, rfl⟩
  | cons t L ih =>
    cases h : isAt n t with
    | true => exact .inr ⟨0, t, by simp [h], by simp [List.findIdx?_cons, h], rfl, h⟩
    | false =>
      rcases ih with ⟨h1, h2⟩ | ⟨k, u, h1, h2, h3, h4⟩
      · exact .inl ⟨by simp [h, h1], by simp [List.findIdx?_cons, h, h2]⟩
      · exact .inr ⟨k + 1, u, by simp [h, h1], by simp [List.findIdx?_cons, h, h2], by simpa using h3, h4⟩
def kill (L : List Txn) (k : Nat) : List Txn := match L[k]? with | some t => L.set k { t with live := false } | none => L
theorem kill_lm (n : UInt64) : ∀ (L : List Txn) (k : Nat), L.findIdx? (isAt n) = some k → lm (kill L k) = del decU (lm L) n
  | [], k, h => by simp at h
  | t :: L, k, h => by
    rw [List.findIdx?_cons] at h
    cases ha : isAt n t with
    | true =>
      rw [ha] at h
      have hk : k = 0 := by simpa using h.symm
      subst hk
      simp only [isAt, Bool.and_eq_true, decide_eq_true_eq] at ha
      have e : kill (t :: L) 0 = { t with live := false } :: L := rfl
      rw [e, lm_cons, lm_cons, if_pos ha.2]
      simp only [kv, del, Bool.false_eq_true, if_false]
      split
      · rfl
      · rename_i hx _; exact absurd ha.1.symm hx
    | false =>
      rw [ha] at h
      simp only [Bool.false_eq_true, if_false, Option.map_eq_some_iff] at h
      obtain ⟨j, hj, rfl⟩ := h
      have e : kill (t :: L) (j + 1) = t :: kill L j := by
        unfold kill
        simp only [List.getElem?_cons_succ]
        split <;> rfl
      rw [e, lm_cons, lm_cons, kill_lm n L j hj]
      cases hl : t.live with
      | false => rfl
      | true =>
        simp only [if_true, kv, del]
        split
        · rename_i hx _
          simp [isAt, hl, hx] at ha
        · rfl
def Nums (L : List Txn) : Prop := ∀ (i : Nat) (t : Txn), L[i]? = some t → t.n.toNat = i + 1
theorem nums_new {L : List Txn} {last : UInt32} (h : Nums L) (hl : L.length ≤ 90) : Nums (L ++ [newT last L]) := fun i t ht => by
  rcases Nat.lt_or_ge i L.length with hi | hi
  · rw [List.getElem?_append_left hi] at ht; exact h i t ht
  · rw [List.getElem?_append_right hi] at ht
    have h0 : i - L.length = 0 := by
      obtain ⟨h1, _⟩ := List.getElem?_eq_some_iff.1 ht
      simp at h1; exact h1
    rw [h0] at ht
    simp at ht
    subst ht
    simp only [newT, UInt64.toNat_ofNat']
    omega
theorem nums_kill {L : List Txn} {k : Nat} (h : Nums L) : Nums (kill L k) := fun i t ht => by
  unfold kill at ht
  cases hk : L[k]? with
  | none => rw [hk] at ht; exact h i t ht
  | some u =>
    rw [hk] at ht
    simp only at ht
    by_cases hi : k = i
    · subst hi
      rw [List.getElem?_set_self (List.getElem?_eq_some_iff.1 hk).1] at ht
      cases ht
      exact h k u hk
    · rw [List.getElem?_set_ne hi] at ht; exact h i t ht
theorem kill_length (L : List Txn) (k : Nat) : (kill L k).length = L.length := by
  unfold kill; split <;> simp
theorem lm_append (L : List Txn) (t : Txn) (h : t.live = true) : lm (L ++ [t]) = lm L ++ [kv t] := by
  simp [lm, liveL, h]
theorem lm_keys (L : List Txn) : (lm L).map (·.1) = (liveL L).map (·.n) := by simp [lm, kv]
theorem nums_sorted {L : List Txn} (h : Nums L) : L.Pairwise (fun a b => a.n.toNat < b.n.toNat) := by
  rw [List.pairwise_iff_getElem]
  intro i j hi hj hij
  rw [h i _ (List.getElem?_eq_getElem hi), h j _ (List.getElem?_eq_getElem hj)]
  omega
theorem live_sorted {L : List Txn} (h : Nums L) : ((liveL L).map (·.n)).Pairwise (fun a b => a.toNat ≤ b.toNat) := by
  rw [List.pairwise_map]
  exact ((nums_sorted h).sublist List.filter_sublist).imp (fun hab => Nat.le_of_lt hab)
theorem keys_are {L : List Txn} {ys : List UInt64} (h : Nums L) (hy : KeysOf (lm L) ys) : ys = (liveL L).map (·.n) := by
  have hp := hy.1
  rw [lm_keys] at hp
  exact List.Perm.eq_of_pairwise (le := fun a b => a.toNat ≤ b.toNat) (fun a b _ _ h1 h2 => UInt64.toNat_inj.1 (Nat.le_antisymm h1 h2)) hy.2 (live_sorted h) hp
theorem keys_le {L : List Txn} (h : Nums L) {x : UInt64} (hx : x ∈ (lm L).map (·.1)) : x.toNat ≤ L.length := by
  rw [lm_keys] at hx
  obtain ⟨t, ht, rfl⟩ := List.mem_map.1 hx
  obtain ⟨i, hi, rfl⟩ := List.getElem_of_mem ((List.mem_filter.1 ht).1)
  rw [h i _ (List.getElem?_eq_getElem hi)]
  omega
theorem hzR_is : ∀ (L : List Txn) (h : UInt32), (hzR L h).toNat ≤ h.toNat ∧ (∀ t ∈ L, t.live = true → (hzR L h).toNat ≤ t.start.toNat) ∧ (hzR L h = h ∨ ∃ t ∈ L, t.live = true ∧ hzR L h = t.start)
  | [], h => ⟨Nat.le_refl _, by simp, .inl rfl⟩
  | t :: L, h => by
    obtain ⟨h1, h2, h3⟩ := hzR_is L (hzStep h t)
    have e : hzR (t :: L) h = hzR L (hzStep h t) := rfl
    rw [e]
    have hs : (hzStep h t).toNat ≤ h.toNat ∧ (t.live = true → (hzStep h t).toNat ≤ t.start.toNat) ∧ (hzStep h t = h ∨ (t.live = true ∧ hzStep h t = t.start)) := by
      unfold hzStep
      split
      · rename_i hc
        exact ⟨Nat.le_of_lt (UInt32.lt_iff_toNat_lt.1 hc.2), fun _ => Nat.le_refl _, .inr ⟨hc.1, rfl⟩⟩
      · rename_i hc
        refine ⟨Nat.le_refl _, fun hl => ?_, .inl rfl⟩
        have : ¬ t.start.toNat < h.toNat := fun k => hc ⟨hl, UInt32.lt_iff_toNat_lt.2 k⟩
        omega
    refine ⟨Nat.le_trans h1 hs.1, fun u hu hl => ?_, ?_⟩
    · rcases List.mem_cons.1 hu with rfl | hu
      · exact Nat.le_trans h1 (hs.2.1 hl)
      · exact h2 u hu hl
    · rcases h3 with h3 | ⟨u, hu, hl, h3⟩
      · rcases hs.2.2 with k | ⟨kl, k⟩
        · exact .inl (by rw [h3, k])
        · exact .inr ⟨t, by simp, kl, by rw [h3, k]⟩
      · exact .inr ⟨u, by simp [hu], hl, h3⟩
theorem hz_same {o : Orc} {L : List Txn} (hn : (o.m.map (·.1)).Nodup) (hm : o.m = lm L) : hzR L o.last = hzo o := by
  refine hor_unique (o := o) ?_ (hzo_is hn)
  obtain ⟨h1, h2, h3⟩ := hzR_is L o.last
  refine ⟨h1, fun p hp => ?_, ?_⟩
  · rw [hm] at hp
    obtain ⟨t, ht, rfl⟩ := List.mem_map.1 hp
    exact h2 t ((List.mem_filter.1 ht).1) (by simpa using (List.mem_filter.1 ht).2)
  · rcases h3 with h3 | ⟨t, ht, hl, h3⟩
    · exact .inl h3
    · refine .inr ⟨kv t, ?_, h3⟩
      rw [hm]
      exact List.mem_map_of_mem (List.mem_filter.2 ⟨ht, by simpa using hl⟩)
set_option maxHeartbeats 4000000 in
theorem f34 (last max : UInt32) (L : List Txn) (cap cy : Nat) (hL : L.length ≤ 90) (h8 : (liveL L).length ≤ 8) :
    Rd Try.prog 34 [.slc 2 [] 1 0 ((liveL L).map (·.n)).length cy, .ptr 0 []] (refH last max L cap ++ [.vec 65 1 kU ((liveL L).map (·.n)) cy]) .tt := by
  refine ⟨rfl, callAt_of_execR zeros mixed (fn := Try.f34) rfl rfl rfl ?_⟩
  obtain ⟨ys, hys⟩ : ∃ ys, ys = (liveL L).map (·.n) := ⟨_, rfl⟩
  rw [← hys]
  have hyl : ys.length = (liveL L).length := by rw [hys, List.length_map]
  let S : Nat → St := fun i => ⟨slotsOf 43 [(0, .slc 2 [] 1 0 ys.length cy), (5, .int .i64 (liveL (L.take i)).length), (11, .slc 1 [] 3 0 L.length cap), (12, .int .i64 L.length), (13, .int .i64 i)], refH last max L cap ++ [.vec 65 1 kU ys cy]⟩
  refine LoopN.ofR Nat (fun i => i ≤ L.length) (fun i => L.length - i) S (fun _ => Nat.le_of_ble_eq_true rfl) 0 (Nat.zero_le _) ?_ ?_
  · exact ⟨Eqv.rfl, Eqv.rfl, Eqv.rfl, Eqv.rfl, Eqv.rfl, EqvO.rfl, EqvO.rfl, EqvO.rfl, trivial⟩
  rintro i hi
  dsimp only [S] at hi ⊢
  refine And.intro (fun h => ?_) (fun h => ?_)
  · have hi' : i < L.length := by have := of_decide_eq_true h; omega
    have hw : IntKind.i64.wrap ((i : Int) + 1) = ((i + 1 : Nat) : Int) := by rw [w64 (by omega)]; rfl
    repeat refine JoinAt.through ?_
    refine And.intro ⟨by omega, by omega⟩ ?_
    refine And.intro (by omega) ?_
    refine And.intro (by omega) ?_
    intro t ht
    have ht2 : L[i]? = some t := by simpa using ht
    have htk := take_step ht2
    repeat refine JoinAt.through ?_
    refine And.intro (fun hl => ?_) (fun hl => ?_)
    · have e : liveL (L.take (i + 1)) = liveL (L.take i) ++ [t] := by rw [htk]; simp [liveL, hl]
      have hsub : liveL (L.take (i + 1)) ++ liveL (L.drop (i + 1)) = liveL L := by unfold liveL; rw [← List.filter_append, List.take_append_drop]
      have hat : ys[(liveL (L.take i)).length]? = some t.n := by
        rw [hys, ← hsub, e, List.map_append, List.map_append, List.append_assoc, List.getElem?_append_right (by simp)]
        simp
      have hlt : (liveL (L.take i)).length < ys.length := (List.getElem?_eq_some_iff.1 hat).1
      refine DrawAt.all (by kernel_rfl) ?_
      refine And.intro (fun h => absurd (of_decide_eq_true h) (by omega)) (fun _ => ?_)
      refine And.intro ⟨by omega, by omega⟩ ?_
      refine And.intro (by omega) ?_
      refine And.intro (by omega) ?_
      intro y hy
      have hyt : y = t.n := by
        have : ys[(liveL (L.take i)).length]? = some y := by simpa using hy
        rw [hat] at this; exact (Option.some.inj this).symm
      subst hyt
      refine And.intro (fun h => absurd h (by simp)) (fun _ => ?_)
      refine ⟨i + 1, ⟨hi', by omega⟩, [0, 1, 2], ?_⟩
      refine ⟨Eqv.rfl, Eqv.of ?_, Eqv.rfl, Eqv.rfl, Eqv.of (congrArg (D.int .i64) hw), EqvO.rfl, EqvO.rfl, EqvO.rfl, trivial⟩
      rw [e, List.length_append, w64 (by omega)]; rfl
    · have e : liveL (L.take (i + 1)) = liveL (L.take i) := by rw [htk]; simp [liveL, hl]
      refine ⟨i + 1, ⟨hi', by omega⟩, [0, 1, 2], ?_⟩
      exact ⟨Eqv.rfl, Eqv.of (by rw [e]; rfl), Eqv.rfl, Eqv.rfl, Eqv.of (congrArg (D.int .i64) hw), EqvO.rfl, EqvO.rfl, EqvO.rfl, trivial⟩
  · have hi' : i = L.length := by have := of_decide_eq_false h; omega
    subst hi'
    rw [List.take_length]
    refine And.intro (fun _ => ?_) (fun h => absurd h (by rw [hyl]; simp))
    refine ⟨[0, 1, 2], _, _, ⟨rfl, rfl⟩, trivial, fun R => ?_, EqvO.rfl, EqvO.rfl, EqvO.rfl, trivial⟩
    have : decide (((liveL L).length : Int) ≤ 8) = true := decide_eq_true (by omega)
    simp only [conc, ren, this]
end Go.Proofs.Ytdgnnboljgpcmaa.E
