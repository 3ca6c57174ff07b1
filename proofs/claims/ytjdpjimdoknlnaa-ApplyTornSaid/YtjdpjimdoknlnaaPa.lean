import Derived.Test.YtjdpjimdoknlnaaWm
namespace Go.Proofs.Ytjdpjimdoknlnaa.E
open Go
set_option maxRecDepth 4000
/-! ### Pages that are put are pages that are got -/
theorem splice_get {n : Nat} (v : Vector UInt8 n) (lo : Nat) (bs : Bytes) (i : Nat) (h : i < n) : (splice v lo bs)[i] = if lo ≤ i ∧ i < lo + bs.length then (bs[i - lo]?).getD 0 else v[i] := by
  simp [splice]
theorem splice_out {n : Nat} (v : Vector UInt8 n) (lo : Nat) (bs : Bytes) (i : Nat) (h : i < n) (ho : i < lo ∨ lo + bs.length ≤ i) : (splice v lo bs)[i] = v[i] := by
  rw [splice_get, if_neg (by omega)]
theorem splice_in {n : Nat} (v : Vector UInt8 n) (lo : Nat) (bs : Bytes) (i : Nat) (h : i < n) (hl : lo ≤ i) (hi : i - lo < bs.length) : (splice v lo bs)[i] = bs[i - lo] := by
  rw [splice_get, if_pos (by omega), List.getElem?_eq_getElem hi]; rfl
theorem splice_splice {n : Nat} (p : Vector UInt8 n) (i : Nat) (a b : Bytes) : splice (splice p i a) (i + a.length) b = splice p i (a ++ b) := by
  ext k hk
  rw [splice_get, splice_get, splice_get]
  by_cases h1 : i + a.length ≤ k ∧ k < i + a.length + b.length
  · rw [if_pos h1, if_pos (by simp; omega), List.getElem?_append_right (by omega), show k - i - a.length = k - (i + a.length) by omega]
  · rw [if_neg h1]
    by_cases h2 : i ≤ k ∧ k < i + a.length
    · rw [if_pos h2, if_pos (by simp; omega), List.getElem?_append_left (by omega)]
    · rw [if_neg h2, if_neg (by simp; omega)]
theorem splice_nil {n : Nat} (p : Vector UInt8 n) (i : Nat) : splice p i [] = p := by
  ext k hk; rw [splice_get, if_neg (by simp)]
/-- So many bytes of a row from a place on. -/
def sub {n : Nat} (p : Vector UInt8 n) (i m : Nat) : Bytes := (p.toList.drop i).take m
theorem sub_get {n : Nat} (p : Vector UInt8 n) (i m j : Nat) (hj : j < m) (h : i + j < n) : (sub p i m)[j]? = some p[i + j] := by
  unfold sub
  rw [List.getElem?_take, if_pos hj, List.getElem?_drop, List.getElem?_eq_getElem (by simpa using h)]
  simp
theorem sub_length {n : Nat} (p : Vector UInt8 n) (i m : Nat) (h : i + m ≤ n) : (sub p i m).length = m := by
  unfold sub; simp; omega
theorem sub_eq {n : Nat} {p : Vector UInt8 n} {i : Nat} {bs : Bytes} (m : Nat) (hm : bs.length = m) (h : i + m ≤ n) (hg : ∀ j (hj : j < m), p[i + j] = bs[j]) : sub p i m = bs := by
  apply List.ext_getElem?
  intro j
  by_cases hj : j < m
  · rw [sub_get p i m j hj (by omega), hg j hj, List.getElem?_eq_getElem (by omega)]
  · rw [List.getElem?_eq_none (by rw [sub_length p i m h]; omega), List.getElem?_eq_none (by omega)]
theorem sub_congr {n : Nat} {p q : Vector UInt8 n} {i m : Nat} (h : i + m ≤ n) (hg : ∀ j (hj : j < m), p[i + j] = q[i + j]) : sub p i m = sub q i m :=
  sub_eq m (sub_length q i m h) h fun j hj => by
    rw [hg j hj]
    have := sub_get q i m j hj (by omega)
    rw [List.getElem?_eq_getElem (by rw [sub_length q i m h]; exact hj)] at this
    exact (Option.some.inj this).symm
theorem getNum_sub (p : Payload) (i n : Nat) (hn : n ≤ 8) (h : i + n ≤ 224) : getNum p.toList (i : Int) (n : Int) = leNum (sub p i n) := by
  have hok : getOK p.toList (i : Int) (n : Int) = true := by
    simp only [getOK, Vector.length_toList, Bool.and_eq_true, Bool.not_eq_true', decide_eq_false_iff_not]
    omega
  simp [getNum, hok, sub]
theorem leNum_append : ∀ a b : Bytes, leNum (a ++ b) = leNum a + 256 ^ a.length * leNum b
  | [], b => by simp [leNum]
  | c :: a, b => by
    simp only [List.cons_append, leNum, leNum_append a b, List.length_cons, Nat.pow_succ, Nat.mul_add]
    rw [Nat.mul_comm (256 ^ a.length) 256, Nat.mul_assoc]; omega
theorem leNum_putL (v : Nat) : ∀ n, leNum (putL v n) = v % 256 ^ n
  | 0 => by simp [putL, leNum, Nat.mod_one]
  | n + 1 => by
    rw [putL, leNum_append, leNum_putL v n, putL_length, Nat.mod_pow_succ]
    simp [leNum]
theorem leNum_put2 (v : UInt16) : leNum (putL v.toNat 2) = v.toNat := by
  rw [leNum_putL, Nat.mod_eq_of_lt (by have := v.toNat_lt; omega)]
theorem leNum_put4 (v : UInt32) : leNum (putL v.toNat 4) = v.toNat := by
  rw [leNum_putL, Nat.mod_eq_of_lt (by have := v.toNat_lt; omega)]
theorem leNum_put8 {v : Nat} (h : v < 18446744073709551616) : leNum (putL v 8) = v := by
  rw [leNum_putL, Nat.mod_eq_of_lt (by omega)]
theorem laid_eq (v : Payload) (i : Nat) (bs : Bytes) (h : i + bs.length ≤ 224) : laid v i bs = splice v i bs := by
  unfold laid; rw [List.take_of_length_le (by omega)]
theorem sub_splice {n : Nat} (v : Vector UInt8 n) (i m : Nat) (bs : Bytes) (hm : bs.length = m) (h : i + m ≤ n) : sub (splice v i bs) i m = bs :=
  sub_eq m hm h fun j hj => by rw [splice_in v i bs (i + j) (by omega) (by omega) (by omega)]; congr 1; omega
theorem sub_splice_out {n : Nat} (v : Vector UInt8 n) (i m lo : Nat) (bs : Bytes) (h : i + m ≤ n) (ho : i + m ≤ lo ∨ lo + bs.length ≤ i) : sub (splice v lo bs) i m = sub v i m :=
  sub_congr h fun j hj => splice_out v lo bs (i + j) (by omega) (by omega)
theorem splice_over {n : Nat} (v : Vector UInt8 n) (lo : Nat) (a b : Bytes) (h : a.length = b.length) : splice (splice v lo a) lo b = splice v lo b := by
  ext k hk
  by_cases hc : lo ≤ k ∧ k < lo + b.length
  · rw [splice_in _ _ _ _ hk hc.1 (by omega), splice_in _ _ _ _ hk hc.1 (by omega)]
  · rw [splice_out _ _ _ _ hk (by omega), splice_out _ _ _ _ hk (by omega), splice_out _ _ _ _ hk (by omega)]
theorem sumP_splice (v : Payload) (bs : Bytes) (h : bs.length = 4) : sumP (splice v 3 bs) = sumP v := splice_over v 3 bs [0, 0, 0, 0] h
section
variable (kind : UInt8) (no : UInt16) (lsn : Nat) (p : Payload)
def seal3 : Payload := splice (splice (p.setIfInBounds 0 kind) 1 (putL no.toNat 2)) 7 (putL lsn 8)
theorem sealP_eq : sealP kind no lsn p = splice (seal3 kind no lsn p) 3 (putL (sumI (seal3 kind no lsn p)).toNat 4) := by
  unfold sealP seal3
  simp only
  rw [laid_eq _ 1 _ (by rw [putL_length]; omega), laid_eq _ 7 _ (by rw [putL_length]; omega), laid_eq _ 3 _ (by rw [putL_length]; omega)]
theorem sealP_high (k : Nat) (hk : k < 224) (h : 15 ≤ k) : (sealP kind no lsn p)[k] = p[k] := by
  rw [sealP_eq, splice_out _ _ _ _ _ (by rw [putL_length]; omega), seal3, splice_out _ _ _ _ _ (by rw [putL_length]; omega), splice_out _ _ _ _ _ (by rw [putL_length]; omega), Vector.getElem_setIfInBounds]
  rw [if_neg (by omega)]
theorem sealP_lsn (hl : lsn < 18446744073709551616) : lsnI (sealP kind no lsn p) = lsn := by
  have h := getNum_sub (sealP kind no lsn p) 7 8 (by omega) (by omega)
  have e : lsnI (sealP kind no lsn p) = leNum (sub (sealP kind no lsn p) 7 8) := h
  rw [e, sealP_eq, sub_splice_out _ _ _ _ _ (by omega) (by rw [putL_length]; omega), seal3, sub_splice _ _ _ _ (putL_length _ _) (by omega), leNum_put8 hl]
theorem sealP_opens : opensB kind no (sealP kind no lsn p) = true := by
  have h1 := getNum_sub (sealP kind no lsn p) 1 2 (by omega) (by omega)
  have h3 := getNum_sub (sealP kind no lsn p) 3 4 (by omega) (by omega)
  have e1 : getNum (sealP kind no lsn p).toList 1 2 = no.toNat := by
    rw [show getNum (sealP kind no lsn p).toList 1 2 = leNum (sub (sealP kind no lsn p) 1 2) from h1, sealP_eq, sub_splice_out _ _ _ _ _ (by omega) (by rw [putL_length]; omega), seal3,
      sub_splice_out _ _ _ _ _ (by omega) (by rw [putL_length]; omega), sub_splice _ _ _ _ (putL_length _ _) (by omega), leNum_put2]
  have hr := sumI_range (seal3 kind no lsn p)
  have e3 : (getNum (sealP kind no lsn p).toList 3 4 : Int) = sumI (sealP kind no lsn p) := by
    rw [show getNum (sealP kind no lsn p).toList 3 4 = leNum (sub (sealP kind no lsn p) 3 4) from h3, sealP_eq, sub_splice _ _ _ _ (putL_length _ _) (by omega), leNum_putL, Nat.mod_eq_of_lt (by omega)]
    have : sumI (splice (seal3 kind no lsn p) 3 (putL (sumI (seal3 kind no lsn p)).toNat 4)) = sumI (seal3 kind no lsn p) := by
      unfold sumI; rw [sumP_splice _ _ (putL_length _ _)]
    rw [this]; omega
  have e0 : (sealP kind no lsn p)[0] = kind := by
    rw [sealP_eq, splice_out _ _ _ _ _ (by omega), seal3, splice_out _ _ _ _ _ (by omega), splice_out _ _ _ _ _ (by omega), Vector.getElem_setIfInBounds]
    simp
  simp only [opensB, e0, e1, e3, decide_true, Bool.and_self]
end
/-! ### Data pages -/
def data3 (d : Data) : Payload := splice ((splice (splice (Vector.replicate 224 0) 15 (putL d.ts.toNat 4)) 19 (putL d.prev.page.toNat 2)).setIfInBounds 21 d.prev.slot) 22 d.body.toList
theorem putDataP_eq (no : UInt16) (d : Data) : putDataP no d = sealP 1 no d.lsn.toNat (data3 d) := by
  have e1 : ∀ p : Payload, laid p 15 (putL d.ts.toNat 4) = splice p 15 (putL d.ts.toNat 4) := fun p => laid_eq p 15 _ (by rw [putL_length]; omega)
  have e2 : ∀ p : Payload, laid p 19 (putL d.prev.page.toNat 2) = splice p 19 (putL d.prev.page.toNat 2) := fun p => laid_eq p 19 _ (by rw [putL_length]; omega)
  have e3 : ∀ p : Payload, laid p 22 d.body.toList = splice p 22 d.body.toList := fun p => laid_eq p 22 _ (by rw [Vector.length_toList]; omega)
  show sealP 1 no d.lsn.toNat (laid ((laid (laid (Vector.replicate 224 0) 15 (putL d.ts.toNat 4)) 19 (putL d.prev.page.toNat 2)).setIfInBounds 21 d.prev.slot) 22 d.body.toList) = _
  rw [e3, e2, e1]
  unfold data3
  rfl
theorem putData_high (no : UInt16) (d : Data) (k : Nat) (hk : k < 224) (h : 15 ≤ k) : (putDataP no d)[k] = (data3 d)[k] :=
  (congrArg (fun v : Payload => v[k]) (putDataP_eq no d)).trans (sealP_high 1 no d.lsn.toNat (data3 d) k hk h)
theorem sealP_sub (kind : UInt8) (no : UInt16) (lsn : Nat) (p : Payload) (i m : Nat) (h : 15 ≤ i) (hm : i + m ≤ 224) : sub (sealP kind no lsn p) i m = sub p i m :=
  sub_congr hm fun j hj => sealP_high kind no lsn p (i + j) (by omega) (by omega)
theorem sub_set (p : Payload) (i m k : Nat) (c : UInt8) (hm : i + m ≤ 224) (h : k < i ∨ i + m ≤ k) : sub (p.setIfInBounds k c) i m = sub p i m :=
  sub_congr hm fun j hj => by rw [Vector.getElem_setIfInBounds, if_neg (by omega)]
theorem putData_right (no : UInt16) (d : Data) : getData no (putDataP no d) = some d := by
  have hlen : d.body.toList.length = 64 := by simp
  have hb : bareFrom (putDataP no d).toList 86 = true := by
    unfold bareFrom
    rw [List.all_eq_true]
    intro c hc
    obtain ⟨j, hj, rfl⟩ := List.getElem_of_mem hc
    simp only [List.length_drop, Vector.length_toList] at hj
    rw [List.getElem_drop, Vector.getElem_toList, beq_iff_eq]
    rw [putData_high no d (86 + j) (by omega) (by omega)]
    rw [data3, splice_out _ _ _ _ _ (by omega), Vector.getElem_setIfInBounds, if_neg (by omega), splice_out _ _ _ _ _ (by rw [putL_length]; omega), splice_out _ _ _ _ _ (by rw [putL_length]; omega)]
    simp
  have ho : opensB 1 no (putDataP no d) = true := by rw [putDataP_eq]; exact sealP_opens _ _ _ _
  have e1 : getNum (putDataP no d).toList 15 4 = d.ts.toNat := by
    rw [show getNum (putDataP no d).toList 15 4 = leNum (sub (putDataP no d) 15 4) from getNum_sub _ 15 4 (by omega) (by omega), putDataP_eq, sealP_sub _ _ _ _ _ _ (by omega) (by omega), data3,
      sub_splice_out _ _ _ _ _ (by omega) (by omega), sub_set _ _ _ _ _ (by omega) (by omega), sub_splice_out _ _ _ _ _ (by omega) (by omega), sub_splice _ _ _ _ (putL_length _ _) (by omega), leNum_put4]
  have e2 : getNum (putDataP no d).toList 19 2 = d.prev.page.toNat := by
    rw [show getNum (putDataP no d).toList 19 2 = leNum (sub (putDataP no d) 19 2) from getNum_sub _ 19 2 (by omega) (by omega), putDataP_eq, sealP_sub _ _ _ _ _ _ (by omega) (by omega), data3,
      sub_splice_out _ _ _ _ _ (by omega) (by omega), sub_set _ _ _ _ _ (by omega) (by omega), sub_splice _ _ _ _ (putL_length _ _) (by omega), leNum_put2]
  have e3 : (putDataP no d)[21] = d.prev.slot := by
    rw [putData_high no d 21 (by omega) (by omega)]
    rw [data3, splice_out _ _ _ _ _ (by omega), Vector.getElem_setIfInBounds]
    simp
  have e4 : ((putDataP no d).toList.drop 22).take 64 = d.body.toList := by
    rw [show ((putDataP no d).toList.drop 22).take 64 = sub (putDataP no d) 22 64 from rfl, putDataP_eq, sealP_sub _ _ _ _ _ _ (by omega) (by omega), data3, sub_splice _ _ _ _ hlen (by omega)]
  have e5 : lsnI (putDataP no d) = d.lsn.toNat := by rw [putDataP_eq]; exact sealP_lsn _ _ _ _ d.lsn.toNat_lt
  have e6 : splice (Vector.replicate 64 0) 0 d.body.toList = d.body := by
    ext k hk
    rw [splice_in _ _ _ _ _ (by omega) (by omega)]
    simp
  simp only [getData, ho, hb, Bool.and_self, if_true, getDataV, e1, e2, e3, e4, e5, e6]
  simp
/-! ### Undo pages -/
theorem layRecs_eq : ∀ (l : List Old) (p : Payload) (i : Nat), layRecs p i l = splice p i (l.flatMap recB)
  | [], p, i => by rw [layRecs, List.flatMap_nil, splice_nil]
  | o :: r, p, i => by
    rw [layRecs, layRecs_eq r, ← recB_length o, splice_splice, List.flatMap_cons]
theorem flat_recB_length : ∀ l : List Old, (l.flatMap recB).length = (l.map oldSize).sum
  | [] => rfl
  | o :: l => by simp only [List.flatMap_cons, List.length_append, recB_length, flat_recB_length l, List.map_cons, List.sum_cons]
theorem stepRec_recB {s : Bytes} {i : Nat} {o : Old} {rest : Bytes} (hs : s.drop i = recB o ++ rest) (hl : s.length = 224) (ho : mayOld o = true) : stepRec s i = some (o, i + oldSize o) := by
  have hlen : i + oldSize o ≤ 224 := by
    have := congrArg List.length hs
    simp only [List.length_drop, List.length_append, recB_length] at this
    have hz : 1 ≤ oldSize o := by unfold oldSize; split <;> omega
    omega
  have hz : 1 ≤ oldSize o := by unfold oldSize; split <;> omega
  have hg : ∀ k, s[i + k]? = (recB o ++ rest)[k]? := fun k => by rw [← hs, List.getElem?_drop]
  have hd : ∀ k, s.drop (i + k) = (recB o ++ rest).drop k := fun k => by rw [← hs, List.drop_drop]
  have hnum : ∀ (k n v : Nat), k + n ≤ oldSize o → n ≤ 8 → ((recB o ++ rest).drop k).take n = putL v n → getNum s ((i + k : Nat) : Int) (n : Int) = v % 256 ^ n := fun k n v h1 h2 h3 => by
    have hok : getOK s ((i + k : Nat) : Int) (n : Int) = true := by
      simp only [getOK, hl, Bool.and_eq_true, Bool.not_eq_true', decide_eq_false_iff_not]
      omega
    rw [getNum, if_pos hok, Int.toNat_natCast, Int.toNat_natCast, hd, h3, leNum_putL]
  cases hlv : o.live with
  | false =>
    have hzo : o = zeroOld := by simp only [mayOld, hlv, Bool.false_or, Bool.and_eq_true, decide_eq_true_eq] at ho; exact ho.1
    have hr : recB o = [0] := by simp [recB, hlv]
    have h0 : s[i]? = some 0 := by have := hg 0; rw [hr] at this; simpa using this
    have hsz : oldSize o = 1 := by simp [oldSize, hlv]
    rw [hsz] at hlen ⊢
    unfold stepRec
    rw [if_neg (by omega), h0]
    simp [hzo]
  | true =>
    have hdl : o.delta.length ≤ 66 := by
      simp only [mayOld, Bool.and_eq_true, decide_eq_true_eq] at ho; exact ho.2
    have hsz : oldSize o = 11 + o.delta.length := by simp [oldSize, hlv]
    have hr : recB o = [1] ++ putL o.page.toNat 2 ++ putL o.ts.toNat 4 ++ putL o.next.page.toNat 2 ++ [o.next.slot, UInt8.ofNat o.delta.length] ++ o.delta := by simp [recB, hlv]
    have p2 : ∀ v, ∃ a b, putL v 2 = [a, b] := fun v => ⟨_, _, rfl⟩
    have p4 : ∀ v, ∃ a b c d, putL v 4 = [a, b, c, d] := fun v => ⟨_, _, _, _, rfl⟩
    obtain ⟨a1, a2, ha⟩ := p2 o.page.toNat
    obtain ⟨b1, b2, b3, b4, hb⟩ := p4 o.ts.toNat
    obtain ⟨c1, c2, hc⟩ := p2 o.next.page.toNat
    have hfull : recB o ++ rest = 1 :: a1 :: a2 :: b1 :: b2 :: b3 :: b4 :: c1 :: c2 :: o.next.slot :: UInt8.ofNat o.delta.length :: (o.delta ++ rest) := by
      rw [hr, ha, hb, hc]; simp
    have h0 : s[i]? = some 1 := by have := hg 0; rw [hfull] at this; simpa using this
    have h9 : s[i + 9]? = some o.next.slot := by have := hg 9; rw [hfull] at this; simpa using this
    have h10 : s[i + 10]? = some (UInt8.ofNat o.delta.length) := by have := hg 10; rw [hfull] at this; simpa using this
    have hn1 := hnum 1 2 o.page.toNat (by omega) (by omega) (by rw [hfull, ha]; rfl)
    have hn3 := hnum 3 4 o.ts.toNat (by omega) (by omega) (by rw [hfull, hb]; rfl)
    have hn7 := hnum 7 2 o.next.page.toNat (by omega) (by omega) (by rw [hfull, hc]; rfl)
    have hk : (UInt8.ofNat o.delta.length).toNat = o.delta.length := by rw [UInt8.toNat_ofNat']; omega
    have hdel : (s.take (i + 11 + o.delta.length)).drop (i + 11) = o.delta := by
      rw [List.drop_take, show i + 11 + o.delta.length - (i + 11) = o.delta.length by omega, hd, hfull]
      simp
    have e1 : getNum s ((i + 1 : Nat) : Int) 2 = o.page.toNat := by rw [show getNum s ((i + 1 : Nat) : Int) 2 = _ from hn1, Nat.mod_eq_of_lt (by have := o.page.toNat_lt; omega)]
    have e3 : getNum s ((i + 3 : Nat) : Int) 4 = o.ts.toNat := by rw [show getNum s ((i + 3 : Nat) : Int) 4 = _ from hn3, Nat.mod_eq_of_lt (by have := o.ts.toNat_lt; omega)]
    have e7 : getNum s ((i + 7 : Nat) : Int) 2 = o.next.page.toNat := by rw [show getNum s ((i + 7 : Nat) : Int) 2 = _ from hn7, Nat.mod_eq_of_lt (by have := o.next.page.toNat_lt; omega)]
    unfold stepRec
    rw [if_neg (by omega), h0, h9, h10]
    simp only [Option.getD_some, hk, e1, e3, e7, hdel]
    rw [if_neg (by decide), if_pos trivial, if_neg (by omega), if_neg (by omega), hsz]
    obtain ⟨lv, pg, ts, ⟨np, ns⟩, dl⟩ := o
    simp only at hlv
    subst hlv
    simp; omega
theorem recsFrom_all {s : Bytes} (hl : s.length = 224) : ∀ (l : List Old) (i : Nat) (acc : List Old) (rest : Bytes), s.drop i = l.flatMap recB ++ rest → (∀ o ∈ l, mayOld o = true) → recsFrom s l.length i acc = some (acc ++ l, i + (l.map oldSize).sum)
  | [], i, acc, rest, _, _ => by simp [recsFrom]
  | o :: l, i, acc, rest, hs, hm => by
    rw [List.flatMap_cons, List.append_assoc] at hs
    have h1 := stepRec_recB hs hl (hm o (by simp))
    have hs2 : s.drop (i + oldSize o) = l.flatMap recB ++ rest := by
      rw [← List.drop_drop, hs, ← recB_length o, List.drop_left]
    rw [List.length_cons, recsFrom, h1]
    simp only
    rw [recsFrom_all hl l _ _ rest hs2 (fun x hx => hm x (by simp [hx]))]
    simp; omega
theorem putUndo_right (no : UInt16) (lsn : UInt64) (olds : List Old) (h : mayU olds = true) : getUndo no (putUndoP no lsn olds) = some olds ∧ lsnI (putUndoP no lsn olds) = lsn.toNat := by
  refine ⟨?_, sealP_lsn _ _ _ _ lsn.toNat_lt⟩
  obtain ⟨ht, hz⟩ := tame_of_may h
  have hall : ∀ o ∈ olds, mayOld o = true := by
    simp only [mayU, Bool.and_eq_true, List.all_eq_true] at h
    exact h.1.2
  have hfl := flat_recB_length olds
  have hlen : 16 + (olds.flatMap recB).length ≤ 224 := by rw [hfl]; exact hz
  have hlist : (putUndoP no lsn olds).toList.drop 16 = olds.flatMap recB ++ List.replicate (208 - (olds.flatMap recB).length) 0 := by
    apply List.ext_getElem?
    intro k
    rw [List.getElem?_drop]
    by_cases hk : k < 208
    · rw [List.getElem?_eq_getElem (by simp; omega), Vector.getElem_toList, putUndoP, sealP_high _ _ _ _ _ (by omega) (by omega), layRecs_eq]
      by_cases hb : k < (olds.flatMap recB).length
      · rw [splice_in _ _ _ _ _ (by omega) (by omega), List.getElem?_append_left hb, List.getElem?_eq_getElem hb]
        congr 2; omega
      · rw [splice_out _ _ _ _ _ (by omega), List.getElem?_append_right (by omega), undo0, Vector.getElem_setIfInBounds, if_neg (by omega), List.getElem?_eq_getElem (by rw [List.length_replicate]; omega)]
        simp
    · rw [List.getElem?_eq_none (by simp; omega), List.getElem?_eq_none (by rw [List.length_append, List.length_replicate]; omega)]
  have h15 : (putUndoP no lsn olds)[15].toNat = olds.length := by
    rw [putUndoP, sealP_high _ _ _ _ _ (by omega) (by omega), layRecs_eq, splice_out _ _ _ _ _ (by omega), undo0, Vector.getElem_setIfInBounds, if_pos rfl, UInt8.toNat_ofNat']
    have := ht.1; omega
  have hrec := recsFrom_all (s := (putUndoP no lsn olds).toList) (by simp) olds 16 [] _ hlist hall
  have hbare : bareFrom (putUndoP no lsn olds).toList (16 + (olds.map oldSize).sum) = true := by
    unfold bareFrom
    rw [← List.drop_drop, hlist, ← hfl, List.drop_left]
    rw [List.all_eq_true]
    intro c hc
    rw [List.eq_of_mem_replicate hc]; rfl
  have ho : opensB 2 no (putUndoP no lsn olds) = true := sealP_opens _ _ _ _
  rw [h15.symm] at hrec
  simp only [getUndo, ho, if_true, hrec, List.nil_append, hbare, h, Bool.and_self]
end Go.Proofs.Ytjdpjimdoknlnaa.E
