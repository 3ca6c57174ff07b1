import Derived.Test.YtdgnnboljgpcmaaEngJ
namespace Go.Proofs.Ytdgnnboljgpcmaa.E
open Go

/-! ### 'append' -/
theorem drew_heap (w : World) : w.drew.heap = w.heap := rfl
theorem same_drew (w : World) : Same w w.drew := ⟨rfl, rfl, rfl, Nat.le_refl _⟩
/-- The first n values of a slice or a string, read. -/
structure Reads (P : Program) (s n : Nat) (x : Value) (cs : List Value) (w : World) : Prop where
  len : ∀ w', (Builtin.lenOf x).run P w' = .ok n w'
  read : ∀ w', w'.heap = w.heap → (Builtin.firstCells s n x).run P w' = .ok cs.toArray w'
theorem cell_heap {w w' : World} (h : w'.heap = w.heap) (a : Addr) : w'.cell? a = w.cell? a := by unfold World.cell?; rw [h]
theorem reads_seg {P : Program} {F : HP} {H : List SObj} {x : D} {s : Nat} {ds : List D} (hs1 : ∀ b, x = .str b → s = 1) (h : SegAt F H x s ds) {R : Env} {w : World} {vx : Value} (hl : R.length = H.length) (hs : Sat (star (hpH R R H) F) w) (hx : Is R x vx) :
    ∃ cs : List Value, (∀ X, cellsL (R ++ X) ds = cs) ∧ cs.length = ds.length * s ∧ Reads P s ds.length vx cs w := by
  obtain ⟨cs, hcs, hlen, hv⟩ := h R w vx hl hs hx
  refine ⟨cs, hcs, hlen, ?_⟩
  rcases hv with ⟨a, cap, rfl, hcell⟩ | ⟨cap, rfl, hnil⟩ | ⟨b, rfl, rfl⟩
  · exact ⟨fun _ => rfl, fun w' hw => run_firstCells_some (P := P) w' s ds.length a ds.length cap cs hlen (fun j v hj => by rw [cell_heap hw]; exact hcell j v hj)⟩
  · subst hnil
    have : cs = [] := by simpa using hlen
    subst this
    exact ⟨fun _ => rfl, fun w' hw => rfl⟩
  · have h0 := hx.conc
    simp only [conc] at h0
    subst h0
    have e1 : cs = b.map byteV := by rw [← hcs [], cellsL_bytes]
    refine ⟨fun _ => by simp [Builtin.lenOf, ByteArray.size], fun w' hw => ?_⟩
    simp only [Builtin.firstCells, Sem.run_pure]
    congr 1
    apply Array.ext'
    rw [ByteArray.extract_mk]
    simp [e1, byteV]

theorem notInt {d : TypeDesc} (hd : ∀ q, d ≠ .int q) : (match d with | .int _ => true | _ => false) = false := by cases d <;> first | rfl | exact absurd rfl (hd _)
section
variable {P : Program} {w : World}
theorem run_app_room (t u ty e : TypeId) (d : TypeDesc) (i : TypeInfo) (ht : P.underlying t = some (.slice e)) (hu : P.underlying u = some d) (hd : ∀ q, d ≠ .int q) (hi : P.info? e = some i)
    (g o sLen sCap n : Nat) (cur : Array Value) (tt : TypeId) (hg : w.heap[g]? = some (.cells cur tt (0, 0))) (x : Value) (news : List Value) (hx : Reads P i.size n x news w) (h1 : ∀ u ∈ news, u.oneCell' = true)
    (hroom : sLen + n ≤ sCap) (hfit : o + sLen * i.size + news.length ≤ cur.size) :
    (Builtin.append_ #[t, u] ty #[.slice (some ⟨g, o, none⟩) sLen sCap, x]).run P w =
      .ok (.slice (some ⟨g, o, none⟩) (sLen + n) sCap) (w.setRow g (cur.toList.take (o + sLen * i.size) ++ news ++ cur.toList.drop (o + sLen * i.size + news.length)).toArray) := by
  have hst := run_storeCells_at (P := P) g (o + sLen * i.size) tt news 0 cur w hg (by simpa using hfit) h1
  simp only [Nat.add_zero] at hst
  have hz := notInt hd
  have hr := hx.read w rfl
  simp [Builtin.append_, run_underlying ht, run_underlying hu, hz, sizeOf, typeInfo, hi, hx.len, hroom, hr, add_none, hst]
theorem run_app_room_nil (t u ty e : TypeId) (d : TypeDesc) (i : TypeInfo) (ht : P.underlying t = some (.slice e)) (hu : P.underlying u = some d) (hd : ∀ q, d ≠ .int q) (hi : P.info? e = some i)
    (sLen sCap n : Nat) (x : Value) (news : List Value) (hx : Reads P i.size n x news w) (hroom : sLen + n ≤ sCap) :
    (Builtin.append_ #[t, u] ty #[.slice none sLen sCap, x]).run P w = .ok (.slice none (sLen + n) sCap) w := by
  have hz := notInt hd
  have hr := hx.read w rfl
  simp [Builtin.append_, run_underlying ht, run_underlying hu, hz, sizeOf, typeInfo, hi, hx.len, hroom, hr]
theorem run_app_grow (t u ty e : TypeId) (d : TypeDesc) (i : TypeInfo) (z : Value) (ht : P.underlying t = some (.slice e)) (hu : P.underlying u = some d) (hd : ∀ q, d ≠ .int q) (hi : P.info? e = some i) (hz : i.zero = some z)
    (base : Option Addr) (sLen sCap n : Nat) (olds : List Value) (ho : Reads P i.size sLen (.slice base sLen sCap) olds w) (x : Value) (news : List Value) (hx : Reads P i.size n x news w)
    (hg : sCap < sLen + n) (hb : (sLen + n) * i.bytes ≤ 140737488355328) (hm : sLen + n ≤ 140737488355328) :
    (Builtin.append_ #[t, u] ty #[.slice base sLen sCap, x]).run P w =
      .ok (.slice (some ⟨w.heap.size, 0, none⟩) (sLen + n) (grownCap w (sLen + n) sCap e))
        (w.drew.alloc (.cells (olds.toArray ++ news.toArray ++ Builtin.zeroCells z.cells (grownCap w (sLen + n) sCap e - (sLen + n))) e)) := by
  have hzz := notInt hd
  have hn : ¬ (sLen + n ≤ sCap) := by omega
  have h63 : ¬ (9223372036854775807 < ((sLen : Int) + (n : Int))) := by omega
  have hfit := growslice_fits (need := sLen + n) (old := sCap) (bytes := i.bytes) hg hb
  have h48 : ¬ (281474976710656 < Builtin.nextslicecap (sLen + n) sCap * i.bytes) := by omega
  have e1 := hx.read w.drew rfl
  have e2 := ho.read w.drew rfl
  simp [Builtin.append_, run_underlying ht, run_underlying hu, hzz, sizeOf, typeInfo, zeroValue, hi, hz, hx.len, hn, h63, h48, Question.forced, e1, e2, newRow, grownCap]
  congr 2
  apply Array.ext'
  simp
end

/-- The place of a slice's chunk, should the slice be one of a row of its own; what is left of the chunks. -/
def appDstK (H : List SObj) (e : TypeId) (x : D) (n : Nat) (k : List SObj → Prop) : Prop :=
  match x with
  | .nils => k H
  | .slc h p s lo len cap => match getH H h with
    | .vec t s' _ _ vc => match p with
      | [] => when (Nat.beq s s') (when (decide (t = e)) (lo + cap = vc ∧ len ≤ cap ∧ setHK H h .gone k))
      | _ => False
    | .var _ _ => (len = cap ∧ 0 < n) ∧ k H
    | _ => False
  | _ => False
def appendK (P : Program) (Z : TypeId → D) (H : List SObj) (T U : TypeId) (x y : D) (k : D → List SObj → Prop) : Prop :=
  match P.underlying T with
  | some (.slice e) => match P.underlying U with
    | some (.int _) => False
    | none => False
    | some _ => when (Nat.ble 1 (P.cellsOf e)) (known (Z e) fun _ => segK H x (P.cellsOf e) fun d1 => segK H y (P.cellsOf e) fun d2 => appDstK H e x d2.length fun H' =>
      ∃ (α : Type) (enc : α → D) (ys : List α), (ys.length = (d1 ++ d2).length ∧ ∀ R, cellsL R (ys.map enc) = cellsL R (d1 ++ d2)) ∧ EncOK (P.cellsOf e) enc ∧ (ys.length * P.bytesOf e ≤ 140737488355328 ∧ ys.length ≤ 140737488355328) ∧
        ∀ cap, ys.length ≤ cap → pushVecK H' e (P.cellsOf e) enc ys cap k)
  | _ => False

/-- What an operation does, the rest being told by 'k'. -/
def Eff (P : Program) (ts : List D) (H : List SObj) (o : Oper) (k : D → List SObj → Prop) : Prop :=
  ∀ F R (a : Act) w, R.length = H.length → Slots R ts a.tmps.toList → Sat (star (hpH R R H) F) w → ∃ d H', k d H' ∧ ∃ X w', (R ++ X).length = H'.length ∧ Sat (star (hpH (R ++ X) (R ++ X) H') F) w' ∧ Same w w' ∧
    ((∃ v, (execOp a.eval o).run P w = .ok (.value v) w' ∧ (isJunk d = true ∨ Is (R ++ X) d v)) ∨ ((execOp a.eval o).run P w = .ok .skip w' ∧ isJunk d = true))
theorem Does.eff {P : Program} {ts : List D} {H : List SObj} {o : Oper} {k : D → List SObj → Prop} {d : D} {H' : List SObj} (h : Does P ts H o d H') (hk : k d H') : Eff P ts H o k :=
  fun F R a w hl hsl hs => ⟨d, H', hk, h F R a w hl hsl hs⟩
theorem sat_gone {R : Env} {H : List SObj} {F : HP} {w : World} {h : Nat} (hl : R.length = H.length) (hs : Sat (star (hpH R R H) F) w) (hne : getH H h ≠ .gone) : Sat (star (hpH R R (H.set h .gone)) F) w := by
  have hH := getH_some H h hne
  have hlt := (List.getElem?_eq_some_iff.1 hH).1
  have hR : R[h]? = some R[h] := by simp
  exact (hs.mono ((star_mono (hpH_get R R H h _ _ hR hH) (Imp.refl F)).trans (star_assoc _ _ _))).right
theorem sat_pushed {R : Env} {H : List SObj} {F : HP} {w : World} {o : SObj} {ob : Option (Nat × Nat)} (hl : R.length = H.length) (hs : Sat (star (hpO (R ++ [ob]) ob o) (star (hpH R R H) F)) w) : Sat (star (hpH (R ++ [ob]) (R ++ [ob]) (H ++ [o])) F) w :=
  hs.mono ((star_assoc' _ _ _).trans (star_mono ((star_mono (Imp.refl _) (hpH_ext R [ob] R H)).trans (hpH_push _ R H ob o hl)) (Imp.refl F)))
theorem appDstK_spec {H : List SObj} {e : TypeId} {x : D} {n : Nat} {k : List SObj → Prop} (h : appDstK H e x n k) : ∃ H', k H' ∧ H'.length = H.length ∧ (∀ b, x ≠ .str b) ∧
    ∀ F R w vx, R.length = H.length → Sat (star (hpH R R H) F) w → Is R x vx → ∃ base sLen sCap, vx = .slice base sLen sCap ∧ Sat (star (hpH R R H') F) w ∧ (sLen + n ≤ sCap →
      (base = none ∧ sLen = 0 ∧ n = 0 ∧ sCap = 0) ∨ ∃ (s lo b z : Nat) (pre mid : List Value), base = some ⟨b, z + lo * s, none⟩ ∧ pre.length = z ∧ mid.length = (lo + sCap) * s ∧ (∃ hh p ll, x = .slc hh p s ll sLen sCap) ∧
        Sat (star (pt b (.cells (pre ++ mid).toArray e (0, 0))) (star (hpH R R H') F)) w) := by
  unfold appDstK at h
  split at h <;> try exact h.elim
  · refine ⟨H, h, rfl, (fun b h => nomatch h), fun F R w vx hl hs hx => ⟨none, 0, 0, ?_, hs, fun hn => .inl ⟨rfl, rfl, by omega, rfl⟩⟩⟩
    have := hx.conc
    simp only [conc] at this
    exact this.symm
  · rename_i hh p s lo len cap
    split at h <;> try exact h.elim
    · rename_i t s' α enc xs vc ho
      split at h <;> try exact h.elim
      obtain ⟨h1, h⟩ := when_iff.1 h
      obtain ⟨hte, h2, h3, h4⟩ := when_iff.1 h
      have h1 := Nat.eq_of_beq_eq_true h1
      subst h1
      have hte := of_decide_eq_true hte
      subst hte
      obtain ⟨hlt, hk⟩ := setHK_iff _ _ _ _ h4
      refine ⟨_, hk, by simp, (fun b h => nomatch h), fun F R w vx hl hs hx => ?_⟩
      have hg : Sat (star (hpH R R (H.set hh .gone)) F) w := sat_gone hl hs (by rw [ho]; simp)
      obtain ⟨_, hc⟩ := chunk_vec ho hl hs
      rcases hc with ⟨hR, rfl, hv0⟩ | ⟨b, z, cs, pre, rest, hR, hcs, hlen, hpre, hsat⟩
      · rcases slice_cases hx with ⟨b, z, hR', rfl⟩ | ⟨hR', rfl⟩
        · rw [hR'] at hR; cases hR
        · exact ⟨none, len, cap, rfl, hg, fun hn => .inl ⟨rfl, by omega, by omega, by omega⟩⟩
      · have hv := slice_of_is hx hR
        exact ⟨_, len, cap, hv, hg, fun hn => .inr ⟨s, lo, b, z, pre, cs ++ rest, by simp [offP], hpre, by rw [hlen, h2], ⟨_, _, _, rfl⟩, by rw [List.append_assoc] at hsat; exact hsat⟩⟩
    · refine ⟨H, h.2, rfl, (fun b h => nomatch h), fun F R w vx hl hs hx => ?_⟩
      obtain ⟨⟨h1, h2⟩, h3⟩ := h
      rcases slice_cases hx with ⟨b, z, hR', rfl⟩ | ⟨hR', rfl⟩
      · exact ⟨_, len, cap, rfl, hs, fun hn => by omega⟩
      · exact ⟨_, len, cap, rfl, hs, fun hn => by omega⟩
theorem lit_of_cells {w : World} {b o : Nat} {cur : Array Value} {t : TypeId} {fr : Nat × Nat} {l : List Value} (hb : w.heap[b]? = some (.cells cur t fr)) (h : ∀ j v, l[j]? = some v → w.cell? ((⟨b, o, none⟩ : Addr).add j) = some v) :
    (cur.toList.drop o).take l.length = l := by
  apply List.ext_getElem?
  intro j
  rw [List.getElem?_take]
  split
  · rename_i hj
    have h1 := h j l[j] (by simp)
    rw [add_none] at h1
    simp only [World.cell?, hb, Option.isSome_none, Bool.false_eq_true, if_false] at h1
    rw [List.getElem?_drop, Array.getElem?_toList, h1]; simp
  · rename_i hj
    rw [List.getElem?_eq_none (by omega)]
theorem flat_map {R : Env} {s : Nat} {α : Type} {enc : α → D} (h : EncOK s enc) (ys : List α) : flat R s enc ys = cellsL R (ys.map enc) := by
  rw [cellsL_map, flat]
  exact congrArg (fun g => List.flatMap g ys) (funext fun x => fit_self (by rw [cells_length, h.size]))
theorem encOK_one {s : Nat} {α : Type} {enc : α → D} (h : EncOK s enc) {R : Env} {ys : List α} {cs : List Value} (hc : ∀ X, cellsL (R ++ X) (ys.map enc) = cs) : ∀ u ∈ cs, u.oneCell' = true := by
  intro u hu
  rw [← hc [], cellsL_map, List.mem_flatMap] at hu
  obtain ⟨y, hy, hu⟩ := hu
  obtain ⟨j, hj, rfl⟩ := List.getElem_of_mem hy
  have hi : IsC R (enc ys[j]) ((cs.drop (j * s)).take s) := by
    intro X
    have hcs : cs = flat (R ++ X) s enc ys := by rw [flat_map h, hc]
    have := isF_part (R := R) (s := s) (enc := enc) (xs := ys) (cs := cs) (fun Y => by rw [flat_map h, hc]) (x := ys[j]) (List.getElem?_eq_getElem hj) (h.size _) X
    exact this
  have hu' : u ∈ cells R (enc ys[j]) := by simpa using hu
  exact h.stor _ R _ hi.is u hu'

theorem appendK_spec {P : Program} {Z : TypeId → D} (hZ : Zeros P Z) {H : List SObj} {T U ty : TypeId} {x y : D} {k : D → List SObj → Prop} (h : appendK P Z H T U x y k) :
    ∀ F R w vx vy, R.length = H.length → Sat (star (hpH R R H) F) w → Is R x vx → Is R y vy → ∃ d H', isJunk d = false ∧ k d H' ∧ ∃ X v w', (R ++ X).length = H'.length ∧ Sat (star (hpH (R ++ X) (R ++ X) H') F) w' ∧ Same w w' ∧
      (Builtin.append_ #[T, U] ty #[vx, vy]).run P w = .ok v w' ∧ Is (R ++ X) d v := by
  unfold appendK at h
  split at h <;> try exact h.elim
  rename_i e hu1
  split at h <;> try exact h.elim
  rename_i du hni hu2
  obtain ⟨hz, h⟩ := when_iff.1 h
  have hz := Nat.le_of_ble_eq_true hz
  obtain ⟨hj, h⟩ := (known_iff _ _).1 h
  have hx1 : ∀ hh p s ll len cap, x = .slc hh p s ll len cap → s = P.cellsOf e := fun hh p s ll len cap hx => by
    subst hx; exact Nat.eq_of_beq_eq_true (when_iff.1 h).1
  obtain ⟨d1, h, hseg1⟩ := segK_spec h
  have hy1 : ∀ b, y = .str b → P.cellsOf e = 1 := fun b hb => by
    subst hb; exact Nat.eq_of_beq_eq_true (when_iff.1 h).1
  obtain ⟨d2, h, hseg2⟩ := segK_spec h
  obtain ⟨H', ⟨α, enc, ys, ⟨hysl, hys⟩, henc, ⟨hb1, hb2⟩, hk⟩, hHl, hxs, hdst⟩ := appDstK_spec h
  obtain ⟨i, zv, hi, hzv, hzi, hsz⟩ := hZ e hj
  have hcell : P.cellsOf e = i.size := by simp [Program.cellsOf, hi]
  have hbytes : P.bytesOf e = i.bytes := by simp [Program.bytesOf, hi]
  have hni : ∀ q, du ≠ .int q := fun q hq => hni q hq
  intro F R w vx vy hl hs hx hy
  obtain ⟨news, hnews, hnl, hrn⟩ := reads_seg (P := P) hy1 (hseg2 F) hl hs hy
  obtain ⟨olds, holds, hol, hvo⟩ := hseg1 F R w vx hl hs hx
  obtain ⟨base, sLen, sCap, rfl, hsat', hroom⟩ := hdst F R w vx hl hs hx
  have hro : Reads P (P.cellsOf e) d1.length (.slice base sLen sCap) olds w ∧ sLen = d1.length := by
    rcases hvo with ⟨a, cap, he, hcell⟩ | ⟨cap, he, hnil⟩ | ⟨b, he, _⟩
    · cases he
      exact ⟨⟨fun _ => rfl, fun w' hw => run_firstCells_some (P := P) w' _ _ a _ _ olds hol (fun j v hj => by rw [cell_heap hw]; exact hcell j v hj)⟩, rfl⟩
    · cases he
      subst hnil
      have : olds = [] := by simpa using hol
      subst this
      exact ⟨⟨fun _ => rfl, fun w' hw => rfl⟩, rfl⟩
    · exact absurd he (hxs b)
  obtain ⟨hro, rfl⟩ := hro
  have hylen : ys.length = d1.length + d2.length := by rw [hysl, List.length_append]
  have hcells : ∀ X, cellsL (R ++ X) (ys.map enc) = olds ++ news := fun X => by rw [hys, cellsL_append, holds, hnews]
  have hflat : ∀ X, flat (R ++ X) (P.cellsOf e) enc ys = olds ++ news := fun X => by rw [flat_map henc, hcells]
  have hone : ∀ u ∈ olds ++ news, u.oneCell' = true := encOK_one henc hcells
  rw [hcell] at hrn hro
  by_cases hg : sCap < d1.length + d2.length
  · -- a new row
    have hr := run_app_grow (P := P) (w := w) T U ty e du i zv hu1 hu2 hni hi hzv base d1.length sCap d2.length olds hro vy news hrn hg (by rw [← hylen, ← hbytes]; exact hb1) (by rw [← hylen]; exact hb2)
    have hcap := grownCap_ge w (d1.length + d2.length) sCap e
    obtain ⟨cap, hcapd⟩ : ∃ c, grownCap w (d1.length + d2.length) sCap e = c := ⟨_, rfl⟩
    rw [hcapd] at hr hcap
    have hk := pushVecK_iff (hk cap (by omega))
    refine ⟨_, _, rfl, hk, [some (w.heap.size, 0)], _, _, by simp [hl, hHl], sat_new (by rw [hl, hHl]) hsat' (alloc_heap_new w.drew _) (alloc_heap_old w.drew _) ?_, (same_drew w).trans (same_alloc _ _), hr, ?_⟩
    · intro f hf
      refine .inr ⟨w.heap.size, 0, olds ++ news, [], (Builtin.zeroCells zv.cells (cap - (d1.length + d2.length))).toList, rfl, fun X => ?_, ?_, rfl, ?_⟩
      · rw [List.append_assoc]; exact hflat _
      · have hzs : zv.cells.size = i.size := by rw [hsz, ← Array.length_toList, ← (hzi []).cells [], cells_length]
        have hzl : (Builtin.zeroCells zv.cells (cap - (d1.length + d2.length))).toList.length = (cap - (d1.length + d2.length)) * i.size := by rw [Array.length_toList (xs := Builtin.zeroCells zv.cells (cap - (d1.length + d2.length))), size_zeroCells, hzs]
        rw [List.length_append, List.length_append, hol, hnl, hzl, hcell, ← Nat.add_mul, ← Nat.add_mul]
        congr 1; omega
      · rw [hf]
        congr 2
        apply Array.ext'
        simp
    · have := is_slice (R := R ++ [some (w.heap.size, 0)]) (h := H'.length) (b := w.heap.size) (z := 0) (by rw [hHl, ← hl]; simp) [] (P.cellsOf e) 0 ys.length cap
      rw [← hylen]
      simpa [offP] using this
  · rcases hroom (by omega) with ⟨rfl, h1, h2, rfl⟩ | ⟨s, lo, b, z, pre, mid, rfl, hpre, hmid, ⟨hh, p, ll, rfl⟩, hsat⟩
    · have hr := run_app_room_nil (P := P) (w := w) T U ty e du i hu1 hu2 hni hi d1.length 0 d2.length vy news hrn (by omega)
      have hy0 : ys = [] := by rw [← List.length_eq_zero_iff]; omega
      subst hy0
      have hk := pushVecK_iff (hk 0 (by simp))
      refine ⟨_, _, rfl, hk, [none], _, _, by simp [hl, hHl], sat_pushed (by rw [hl, hHl]) ?_, Same.refl w, hr, ?_⟩
      · refine (hsat'.emp_left).mono (star_mono (fun f _ => .inl ⟨rfl, rfl, rfl⟩) (Imp.refl _))
      · have := is_slice_none (R := R ++ [none]) (h := H'.length) (by rw [hHl, ← hl]; simp) [] (P.cellsOf e) 0 0 0
        rw [h1, h2]
        exact this
    · have hse : s = P.cellsOf e := hx1 _ _ _ _ _ _ rfl
      subst hse
      have hfit : z + lo * P.cellsOf e + d1.length * P.cellsOf e + news.length ≤ (pre ++ mid).length := by
        rw [List.length_append, hpre, hmid, hnl]
        have : (lo + (d1.length + d2.length)) * P.cellsOf e ≤ (lo + sCap) * P.cellsOf e := Nat.mul_le_mul_right _ (by omega)
        simp only [Nat.add_mul] at this ⊢
        omega
      have hr := run_app_room (P := P) (w := w) T U ty e du i hu1 hu2 hni hi b (z + lo * P.cellsOf e) d1.length sCap d2.length (pre ++ mid).toArray e hsat.get vy news hrn (fun u hu => hone u (List.mem_append_right _ hu)) (by omega) (by rw [← hcell]; simpa using hfit)
      rw [← hcell] at hr
      have hk := pushVecK_iff (hk sCap (by omega))
      have hold : ((pre ++ mid).drop (z + lo * P.cellsOf e)).take (d1.length * P.cellsOf e) = olds := by
        rcases hvo with ⟨a, cap, he, hcell⟩ | ⟨cap, he, hnil⟩ | ⟨b, he, _⟩
        · cases he
          have := lit_of_cells hsat.get hcell
          rw [hol] at this
          simpa using this
        · cases he
        · cases he
      refine ⟨_, _, rfl, hk, [some (b, z + lo * P.cellsOf e)], _, _, by simp [hl, hHl], sat_pushed (by rw [hl, hHl]) ((sat_setRow hsat).mono (star_mono ?_ (Imp.refl _))), same_setRow _ _ _, hr, ?_⟩
      · intro f hf
        refine .inr ⟨b, z + lo * P.cellsOf e, olds ++ news, (pre ++ mid).take (z + lo * P.cellsOf e), (pre ++ mid).drop (z + lo * P.cellsOf e + d1.length * P.cellsOf e + news.length), rfl, fun X => ?_, ?_, ?_, ?_⟩
        · rw [List.append_assoc]; exact hflat _
        · simp only [List.length_append, hol, hnl, List.length_drop, hpre, hmid, Nat.add_mul] at hfit ⊢
          omega
        · simp only [List.length_append, List.length_take, hpre, hmid, hnl, Nat.add_mul] at hfit ⊢
          omega
        · rw [show f b = _ from hf]
          congr 2
          apply Array.ext'
          simp only [List.append_assoc]
          rw [List.take_add, hold]
          simp
      · have := is_slice (R := R ++ [some (b, z + lo * P.cellsOf e)]) (h := H'.length) (b := b) (z := z + lo * P.cellsOf e) (by rw [hHl, ← hl]; simp) [] (P.cellsOf e) 0 ys.length sCap
        rw [← hylen]
        simpa [offP] using this
end Go.Proofs.Ytdgnnboljgpcmaa.E
