/- The keys of the map of live transactions, in order. -/
import Derived.Test.YtdgnnboljgpcmaaOc
namespace Go.Proofs.Ytdgnnboljgpcmaa.E
open Go
set_option maxRecDepth 4000
theorem nodup_len : ∀ (l1 l2 : List Nat), l1.Nodup → (∀ x ∈ l1, x ∈ l2) → l1.length ≤ l2.length
  | [], _, _, _ => Nat.zero_le _
  | a :: l1, l2, hn, hs => by
    have ha := hs a (by simp)
    have hn := List.nodup_cons.1 hn
    have := nodup_len l1 (l2.erase a) hn.2 (fun x hx => by
      have hxa : x ≠ a := fun e => hn.1 (e ▸ hx)
      exact (List.mem_erase_of_ne hxa).2 (hs x (by simp [hx])))
    rw [List.length_erase_of_mem ha] at this
    have := List.length_pos_of_mem ha
    simp only [List.length_cons]
    omega
theorem nodup_perm : ∀ (l1 l2 : List Nat), l1.Nodup → l2.Nodup → (∀ x ∈ l1, x ∈ l2) → (∀ x ∈ l2, x ∈ l1) → l1.Perm l2
  | [], l2, _, _, _, h => by
    cases l2 with
    | nil => exact List.Perm.refl _
    | cons a l => exact absurd (h a (by simp)) (by simp)
  | a :: l1, l2, hn, hn2, hs, ht => by
    have ha := hs a (by simp)
    have hn := List.nodup_cons.1 hn
    have := nodup_perm l1 (l2.erase a) hn.2 (hn2.erase a) (fun x hx => by
      have hxa : x ≠ a := fun e => hn.1 (e ▸ hx)
      exact (List.mem_erase_of_ne hxa).2 (hs x (by simp [hx]))) (fun x hx => by
      have h1 := (List.Nodup.mem_erase_iff hn2).1 hx
      have := ht x h1.2
      rcases List.mem_cons.1 this with h | h
      · exact absurd h h1.1
      · exact h)
    exact (List.Perm.cons a this).trans (List.perm_cons_erase ha).symm
section
variable {κ β : Type} (bs : List Nat) (m : List (κ × β)) (z : κ)
/-- The key of the entry that was born then. -/
def kAt (b : Nat) : κ := ((m[bs.idxOf b]?).map (·.1)).getD z
theorem kAt_eq {bs : List Nat} {m : List (κ × β)} {j b : Nat} {kv : κ × β} (hn : bs.Nodup) (h1 : m[j]? = some kv) (h2 : bs[j]? = some b) : kAt bs m z b = kv.1 := by
  obtain ⟨hj, rfl⟩ := List.getElem?_eq_some_iff.1 h2
  rw [kAt, List.Nodup.idxOf_getElem hn, h1]; rfl
theorem kAt_all {bs : List Nat} {m : List (κ × β)} (hn : bs.Nodup) (hl : bs.length = m.length) : bs.map (kAt bs m z) = m.map (·.1) := by
  apply List.ext_getElem
  · simp [hl]
  · intro i h1 h2
    simp only [List.length_map] at h1 h2
    rw [List.getElem_map, List.getElem_map]
    exact kAt_eq z hn (List.getElem?_eq_getElem h2) (List.getElem?_eq_getElem h1)
end
def keysP (m : Live) (d : D) (H : List SObj) : Prop := ∃ (ys : List UInt64) (cap : Nat), (ys.Perm (m.map (·.1)) ∧ ys.Pairwise (fun a b => a.toNat ≤ b.toNat)) ∧ d = .slc 1 [] 1 0 ys.length cap ∧ H = [mpO m, .vec 65 1 kU ys cap]
theorem encOK_u64 : EncOK 1 kU where
  size := fun _ => rfl
  stor := fun e R v hv u hu => by
    rw [← hv.conc] at hu
    simp [conc, Value.cells] at hu
    subst hu; rfl
set_option maxHeartbeats 1000000 in
theorem f43 (m : Live) (hm : m.length ≤ 8) : CallAt Try.prog 43 [.mapr 0] [mpO m] (keysP m) := by
  refine callAt_of_execR zeros mixed (fn := Try.f43) rfl rfl rfl ?_
  intro bs clock hbl hnd hck
  let S : List Nat × Nat → St := fun x => ⟨slotsOf 20 [(0, .mapr 0), (3, .ptr 1 []), (6, .ptr 2 [])],
    [.mpx decU kU vU m bs clock, .var 79 (.slc 3 [] 1 0 x.1.length x.2), .iter 0 x.1 clock, .vec 65 1 kU (x.1.map (kAt bs m 0)) x.2]⟩
  refine LoopN.nil (S ([], 0)) ?_ ?_
  · exact ⟨EqvN.rfl, EqvN.rfl, EqvN.rfl, EqvON.rfl, EqvON.var EqvN.nil, EqvON.rfl, rfl, rfl⟩
  refine LoopN.ofR (List Nat × Nat) (fun x => x.1.Nodup ∧ (∀ b ∈ x.1, b ∈ bs) ∧ x.1.length ≤ x.2) (fun x => m.length - x.1.length) S (fun _ => Nat.le_of_ble_eq_true rfl) ([], 0) ⟨List.nodup_nil, by simp, Nat.zero_le _⟩ ?_ ?_
  · exact ⟨Eqv.rfl, Eqv.rfl, Eqv.rfl, EqvO.rfl, EqvO.rfl, EqvO.rfl, EqvO.rfl, trivial⟩
  rintro ⟨seen, cap⟩ ⟨hsn, hsb, hcap⟩
  dsimp only [S] at hsn hsb hcap ⊢
  refine And.intro rfl (And.intro (fun hall => ?_) (fun j kv b hj hb hns => ?_))
  · have hp : seen.Perm bs := nodup_perm _ _ hsn hnd hsb hall
    have hlen : (seen.map (kAt bs m 0)).length = seen.length := by simp
    have hsl : seen.length ≤ 8 := by rw [hp.length_eq, hbl]; exact hm
    have hc := f46_8 (seen.map (kAt bs m 0)) cap (by rw [hlen]; omega)
    rw [hlen] at hc
    refine hc.lift [3, 1] rfl (fun _ => rfl) (by rintro d H1 ⟨ys, _, rfl, rfl⟩ hj; cases hj) ?_
    refine ⟨EqvO.rfl, EqvO.rfl, ?_⟩
    rintro d H1 ⟨ys, ⟨hy1, hy2⟩, rfl, rfl⟩
    have hyl : ys.length = seen.length := by have := hy1.length_eq; simpa using this
    have hym : ys.Perm (m.map (·.1)) := by
      rw [← kAt_all 0 hnd hbl]
      exact hy1.trans (hp.map _)
    refine ⟨[0, 3], _, _, ⟨ys, cap, ⟨hym, hy2⟩, rfl, rfl⟩, trivial, ?_⟩
    rw [hyl]
    exact ⟨Eqv.rfl, EqvO.mpx, EqvO.rfl, trivial⟩
  · refine ⟨seen, b, j, kv, ⟨rfl, rfl, hj, hb⟩, ?_⟩
    have hk := kAt_eq (0 : UInt64) hnd hj hb
    have hmem : b ∈ bs := List.mem_of_getElem? hb
    have hsn' : (seen ++ [b]).Nodup := by
      rw [List.nodup_append]
      exact ⟨hsn, by simp, fun x hx y hy => by simp at hy; subst hy; exact fun e => hns (e ▸ hx)⟩
    have hsb' : ∀ x ∈ seen ++ [b], x ∈ bs := fun x hx => by
      rcases List.mem_append.1 hx with h | h
      · exact hsb x h
      · simp at h; exact h ▸ hmem
    have hl' := nodup_len _ _ hsn' hsb'
    simp only [List.length_append, List.length_cons, List.length_nil] at hl'
    have hlen : (seen.map (kAt bs m 0)).length = seen.length := by simp
    refine And.intro (by omega) ?_
    refine And.intro (fun _ => rfl) ?_
    refine And.intro (by omega) ?_
    refine And.intro (by omega) ?_
    refine ⟨UInt64, kU, (seen ++ [b]).map (kAt bs m 0), ⟨?_, fun R => congrArg (cellsL R) ?_⟩, encOK_u64, ?_, ?_⟩
    · simp
    · rw [List.drop_zero, List.take_of_length_le (by omega), List.map_append, List.map_append]
      simp only [List.map_cons, List.map_nil, hk]
    · have : Try.prog.bytesOf 65 = 8 := by kernel_rfl
      rw [this]
      simp only [List.length_map, List.length_append, List.length_cons, List.length_nil]
      omega
    intro cap' hcap'
    simp only [List.length_map, List.length_append, List.length_cons, List.length_nil] at hcap'
    refine ⟨(seen ++ [b], cap'), ⟨⟨hsn', hsb', by simp; omega⟩, by simp only [List.length_append, List.length_cons, List.length_nil]; omega⟩, [0, 1, 2, 5], ?_⟩
    refine ⟨Eqv.rfl, Eqv.rfl, Eqv.rfl, EqvO.rfl, EqvO.var (Eqv.of ?_), EqvO.rfl, EqvO.rfl, trivial⟩
    simp only [List.length_map]; rfl
end Go.Proofs.Ytdgnnboljgpcmaa.E
