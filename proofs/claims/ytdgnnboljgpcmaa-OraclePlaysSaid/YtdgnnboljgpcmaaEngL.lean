import Derived.Test.YtdgnnboljgpcmaaEngK
namespace Go.Proofs.Ytdgnnboljgpcmaa.E
open Go

/-! ### 'copy', of bytes -/
def splice {n : Nat} (v : Vector UInt8 n) (lo : Nat) (bs : Bytes) : Vector UInt8 n :=
  Vector.ofFn fun i : Fin n => if lo ≤ i.val ∧ i.val < lo + bs.length then (bs[i.val - lo]?).getD 0 else v[i.val]
theorem splice_toList {n : Nat} (v : Vector UInt8 n) (lo : Nat) (bs : Bytes) (h : lo + bs.length ≤ n) : (splice v lo bs).toList = v.toList.take lo ++ bs ++ v.toList.drop (lo + bs.length) := by
  apply List.ext_getElem
  · simp; omega
  · intro i h1 h2
    have hi : i < n := by simpa using h1
    have hl : (splice v lo bs).toList[i] = if lo ≤ i ∧ i < lo + bs.length then (bs[i - lo]?).getD 0 else v[i] := by simp [splice]
    rw [hl]
    by_cases c : lo ≤ i ∧ i < lo + bs.length
    · rw [if_pos c, List.getElem_append_left (by simp; omega), List.getElem_append_right (by simp; omega)]
      have : i - lo < bs.length := by omega
      simp [Nat.min_eq_left (show lo ≤ n by omega), List.getElem?_eq_getElem this]
    · rw [if_neg c]
      by_cases c2 : i < lo
      · rw [List.getElem_append_left (by simp; omega), List.getElem_append_left (by simp; omega)]
        simp
      · rw [List.getElem_append_right (by simp; omega)]
        simp only [List.getElem_drop, List.length_append, List.length_take, Vector.length_toList, Vector.getElem_toList]
        congr 1; omega

def copyK (P : Program) (H : List SObj) (T : TypeId) (x y : D) (k : D → List SObj → Prop) : Prop :=
  match P.underlying T with
  | some (.slice e) => when (Nat.beq (P.cellsOf e) 1) (segK H y 1 fun d2 => ∃ bs : Bytes, d2 = bs.map byteD ∧ (match x with
    | .slc h p s lo len _ => when (Nat.beq s 1) (match getH H h with
      | .var t z => navK p z fun e => match e with
        | .bytes n v => lo + len ≤ n ∧ putK p z (.bytes n (splice v lo (bs.take len))) fun z' => setHK H h (.var t z') fun H' => k (.int .i64 (bs.take len).length) H'
        | _ => False
      | .vec t s' enc xs vc => match p with
        | [] => when (Nat.beq s' 1) (lo + len ≤ xs.length ∧ ∃ ys, ys.map enc = (xs.map enc).take lo ++ (bs.take len).map byteD ++ (xs.map enc).drop (lo + (bs.take len).length) ∧ EncOK 1 enc ∧
            setHK H h (.vec t s' enc ys vc) fun H' => k (.int .i64 (bs.take len).length) H')
        | _ => False
      | _ => False)
    | .nils => k (.int .i64 0) H
    | _ => False))
  | _ => False

theorem reads_seg1 {P : Program} {F : HP} {H : List SObj} {x : D} {ds : List D} (h : SegAt F H x 1 ds) {R : Env} {w : World} {vx : Value} (hl : R.length = H.length) (hs : Sat (star (hpH R R H) F) w) (hx : Is R x vx) :
    ∃ cs : List Value, (∀ X, cellsL (R ++ X) ds = cs) ∧ cs.length = ds.length ∧ (Builtin.lenOf vx).run P w = .ok ds.length w ∧ ∀ m, m ≤ ds.length → (Builtin.firstCells 1 m vx).run P w = .ok (cs.take m).toArray w := by
  obtain ⟨cs, hcs, hlen, hv⟩ := h R w vx hl hs hx
  rw [Nat.mul_one] at hlen
  refine ⟨cs, hcs, hlen, ?_⟩
  rcases hv with ⟨a, cap, rfl, hcell⟩ | ⟨cap, rfl, hnil⟩ | ⟨b, rfl, rfl⟩
  · refine ⟨rfl, fun m hm => run_firstCells_some (P := P) w 1 m a ds.length cap _ (by simp; omega) (fun j v hj => ?_)⟩
    rw [List.getElem?_take] at hj
    split at hj
    · exact hcell j v hj
    · cases hj
  · subst hnil
    have : cs = [] := by simpa using hlen
    subst this
    exact ⟨rfl, fun m hm => by simp [Builtin.firstCells]⟩
  · have h0 := hx.conc
    simp only [conc] at h0
    subst h0
    have e1 : cs = b.map byteV := by rw [← hcs [], cellsL_bytes]
    refine ⟨by simp [Builtin.lenOf, ByteArray.size], fun m hm => ?_⟩
    simp only [Builtin.firstCells, Sem.run_pure]
    congr 1
    apply Array.ext'
    rw [ByteArray.extract_mk]
    simp [e1]; rfl
theorem run_copy_some {P : Program} {w : World} (dT sT ty elem : TypeId) (g o dLen dCap n : Nat) (x : Value) (cur : Array Value) (t : TypeId) (cs : List Value)
    (hu : P.underlying dT = some (.slice elem)) (hs : P.cellsOf elem = 1) (hn : (Builtin.lenOf x).run P w = .ok n w) (hf : (Builtin.firstCells 1 (Nat.min n dLen) x).run P w = .ok cs.toArray w) (hcl : cs.length = Nat.min n dLen)
    (hg : w.heap[g]? = some (.cells cur t (0, 0))) (hfit : o + cs.length ≤ cur.size) (h1 : ∀ v ∈ cs, v.oneCell' = true) :
    (Builtin.copy_ #[dT, sT] ty #[.slice (some ⟨g, o, none⟩) dLen dCap, x]).run P w =
      .ok (.int .i64 cs.length) (w.setRow g (cur.toList.take o ++ cs ++ cur.toList.drop (o + cs.length)).toArray) := by
  have hst := run_storeCells_at P g o t cs 0 cur w hg (by simpa using hfit) h1
  simp only [Nat.add_zero] at hst
  have hsz := run_sizeOf' (P := P) (t := elem) (by omega) w
  rw [hs] at hsz
  simp [Builtin.copy_, run_underlying hu, hsz, hn, hf, hst, hcl, goInt]
theorem run_copy_none {P : Program} {w : World} (dT sT ty elem : TypeId) (dCap n : Nat) (x : Value) (cs : List Value)
    (hu : P.underlying dT = some (.slice elem)) (hs : P.cellsOf elem = 1) (hn : (Builtin.lenOf x).run P w = .ok n w) (hf : (Builtin.firstCells 1 0 x).run P w = .ok cs.toArray w) :
    (Builtin.copy_ #[dT, sT] ty #[.slice none 0 dCap, x]).run P w = .ok (.int .i64 0) w := by
  have hsz := run_sizeOf' (P := P) (t := elem) (by omega) w
  rw [hs] at hsz
  have h0 : Nat.min n 0 = 0 := Nat.min_zero n
  simp [Builtin.copy_, run_underlying hu, hsz, hn, h0, hf, goInt]

theorem mid_write (l V r N : List Value) (lo : Nat) (h : lo + N.length ≤ V.length) :
    l ++ (V.take lo ++ N ++ V.drop (lo + N.length)) ++ r = (l ++ V ++ r).take (l.length + lo) ++ N ++ (l ++ V ++ r).drop (l.length + lo + N.length) := by
  rw [List.append_assoc l V r, List.take_length_add_append, Nat.add_assoc, List.drop_length_add_append, List.take_append_of_le_length (by omega), List.drop_append_of_le_length h]
  simp
theorem cellsL_take (R : Env) : ∀ (l : List D) (n : Nat), (∀ d ∈ l, size d = 1) → cellsL R (l.take n) = (cellsL R l).take n
  | [], n, _ => by simp [cellsL]
  | d :: l, 0, _ => by simp [cellsL]
  | d :: l, n + 1, h => by
    have h1 : (cells R d).length = 1 := by rw [cells_length]; exact h d (by simp)
    rw [List.take_succ_cons, cellsL_cons, cellsL_cons, cellsL_take R l n (fun x hx => h x (by simp [hx])), List.take_append, h1, List.take_of_length_le (l := cells R d) (by omega)]
    simp
theorem cellsL_drop (R : Env) : ∀ (l : List D) (n : Nat), (∀ d ∈ l, size d = 1) → cellsL R (l.drop n) = (cellsL R l).drop n
  | [], n, _ => by simp [cellsL]
  | d :: l, 0, _ => by simp [cellsL]
  | d :: l, n + 1, h => by
    have h1 : (cells R d).length = 1 := by rw [cells_length]; exact h d (by simp)
    rw [List.drop_succ_cons, cellsL_cons, cellsL_drop R l n (fun x hx => h x (by simp [hx])), List.drop_append, h1, List.drop_of_length_le (l := cells R d) (by omega)]
    simp
theorem byteV_one (bs : Bytes) : ∀ u ∈ bs.map byteV, u.oneCell' = true := by
  intro u hu
  obtain ⟨c, -, rfl⟩ := List.mem_map.1 hu
  rfl
theorem copyK_spec {P : Program} {H : List SObj} {T U ty : TypeId} {x y : D} {k : D → List SObj → Prop} (h : copyK P H T x y k) :
    ∃ d H', isJunk d = false ∧ k d H' ∧ H'.length = H.length ∧ ∀ F R w vx vy, R.length = H.length → Sat (star (hpH R R H) F) w → Is R x vx → Is R y vy → ∃ v w', Sat (star (hpH R R H') F) w' ∧ Same w w' ∧
      (Builtin.copy_ #[T, U] ty #[vx, vy]).run P w = .ok v w' ∧ Is R d v := by
  unfold copyK at h
  split at h <;> try exact h.elim
  rename_i e hu
  obtain ⟨hz, h⟩ := when_iff.1 h
  have hz := Nat.eq_of_beq_eq_true hz
  obtain ⟨d2, ⟨bs, rfl, h⟩, hseg⟩ := segK_spec h
  split at h <;> try exact h.elim
  · rename_i hh p s lo len cap _ _
    obtain ⟨hs1, h⟩ := when_iff.1 h
    have hs1 := Nat.eq_of_beq_eq_true hs1
    subst hs1
    split at h <;> try exact h.elim
    · rename_i t z ho
      obtain ⟨q, hq, h⟩ := navK_spec _ _ _ h
      split at h <;> try exact h.elim
      rename_i n v
      obtain ⟨hle, h⟩ := h
      obtain ⟨z', ⟨hz1, hz2, hput⟩, h⟩ := putK_spec _ _ _ _ h
      obtain ⟨hlt, hk⟩ := setHK_iff _ _ _ _ h
      refine ⟨_, _, rfl, hk, by simp, fun F R w vx vy hl hs hx hy => ?_⟩
      obtain ⟨news, hnews, hnl, hrl, hrf⟩ := reads_seg1 (P := P) (hseg F) hl hs hy
      have hnb : news = bs.map byteV := by rw [← hnews [], cellsL_bytes]
      subst hnb
      obtain ⟨_, b, cs, hR, hc, hsat⟩ := chunk_var ho hl hs
      have hv := slice_of_is hx hR
      subst hv
      have htl : (bs.take len).length ≤ len := by simp; omega
      have hsp := splice_toList v lo (bs.take len) (by omega)
      have hsplit : ∀ X, ∃ l r, cs = l ++ v.toList.map byteV ++ r ∧ cells (R ++ X) z' = l ++ (splice v lo (bs.take len)).toList.map byteV ++ r ∧ l.length = offP p := by
        intro X
        obtain ⟨l, r, e1, hl1⟩ := hq (R ++ X)
        obtain ⟨l', m, r', e2, e3, hl2, hm⟩ := hput (R ++ X)
        rw [e1] at e2
        rw [List.append_assoc, List.append_assoc] at e2
        obtain ⟨rfl, e4⟩ := List.append_inj e2 (by rw [hl1, hl2])
        obtain ⟨e5, rfl⟩ := List.append_inj e4 (by rw [cells_length, hm]; simp [size])
        refine ⟨l, r, ?_, ?_, hl1⟩
        · rw [← hc X, e1, cells_bytes]
        · rw [e3, cells_bytes]
      obtain ⟨l, r, e1, e2, hl1⟩ := hsplit []
      have hrun := run_copy_some (P := P) (w := w) T U ty e b (0 + (offP p + lo * 1)) len cap bs.length vy cs.toArray t ((bs.take len).map byteV) hu hz (by simpa using hrl)
        (by have := hrf (Nat.min bs.length len) (by simpa using Nat.min_le_left _ _)
            rw [this, List.map_take]
            congr 2
            rw [show Nat.min bs.length len = min len bs.length from Nat.min_comm _ _, ← List.length_map (f := byteV) (as := bs)]
            rw [List.take_eq_take_iff]; simp)
        (by simp [Nat.min_comm]) hsat.get (by simp [e1, hl1]; omega) (byteV_one _)
      refine ⟨_, _, chunk_back hlt hR (o := .var t z') ?_ (sat_setRow hsat), same_setRow _ _ _, hrun, fun X => by simp [conc]⟩
      intro f hf
      refine ⟨b, _, rfl, fun X => ?_, by rw [hf]⟩
      obtain ⟨l, r, e1, e2, hl1⟩ := hsplit X
      rw [e2, hsp, e1]
      simp only [Nat.zero_add, Nat.mul_one, List.map_append, List.map_take, List.map_drop]
      have := mid_write l (v.toList.map byteV) r ((bs.map byteV).take len) lo (by simp; omega)
      rw [hl1] at this
      simpa using this
    · rename_i t s' α enc xs vc ho
      cases p <;> try exact h.elim
      dsimp only at h
      obtain ⟨_, h⟩ := when_iff.1 h
      obtain ⟨hs1, hle, ys, hys, henc, h⟩ := when_iff.1 h
      have hs1 := Nat.eq_of_beq_eq_true hs1
      subst hs1
      obtain ⟨hlt, hk⟩ := setHK_iff _ _ _ _ h
      refine ⟨_, _, rfl, hk, by simp, fun F R w vx vy hl hs hx hy => ?_⟩
      obtain ⟨news, hnews, hnl, hrl, hrf⟩ := reads_seg1 (P := P) (hseg F) hl hs hy
      have hnb : news = bs.map byteV := by rw [← hnews [], cellsL_bytes]
      subst hnb
      have htl : (bs.take len).length ≤ len := by simp; omega
      obtain ⟨_, hcc⟩ := chunk_vec ho hl hs
      rcases hcc with ⟨hR, rfl, rfl⟩ | ⟨b, z, cs, pre, rest, hR, hc, hlen, hpre, hsat⟩
      · simp only [List.length_nil] at hle
        have hl0 : len = 0 := by omega
        have hlo : lo = 0 := by omega
        subst hl0
        have hys0 : ys = [] := by
          have := congrArg List.length hys
          simpa using this
        subst hys0
        rcases slice_cases hx with ⟨b, z, hR', rfl⟩ | ⟨hR', rfl⟩
        · rw [hR'] at hR; cases hR
        · refine ⟨_, w, ?_, Same.refl w, run_copy_none (P := P) (w := w) T U ty e cap _ vy _ hu hz hrl (hrf 0 (by simp)), fun X => by simp [conc]⟩
          have hg : Sat (star (hpH R R (H.set hh .gone)) F) w := sat_gone hl hs (by rw [ho]; simp)
          refine (hg.emp_left).mono ((star_mono (B' := star (hpH R R (H.set hh .gone)) F) (A' := hpO R none (.vec t 1 enc [] 0)) (fun f _ => .inl ⟨rfl, rfl, rfl⟩) (Imp.refl _)).trans ((star_assoc' _ _ _).trans (star_mono (hpH_put R R H hh none _ hR hlt) (Imp.refl F))))
      · have hv := slice_of_is hx hR
        subst hv
        have hsz1 : ∀ d ∈ xs.map enc, size d = 1 := fun d hd => by obtain ⟨y, -, rfl⟩ := List.mem_map.1 hd; exact henc.size y
        have hcs : ∀ X, cellsL (R ++ X) (xs.map enc) = cs := fun X => by rw [← flat_map henc]; exact hc X
        have hcl : cs.length = xs.length := by rw [← hc [], flat_length, Nat.mul_one]
        have hyc : ∀ X, flat (R ++ X) 1 enc ys = cs.take lo ++ (bs.map byteV).take len ++ cs.drop (lo + ((bs.map byteV).take len).length) := fun X => by
          rw [flat_map henc, hys, cellsL_append, cellsL_append, cellsL_take _ _ _ hsz1, cellsL_drop _ _ _ hsz1, hcs, cellsL_bytes]
          simp
        have hrun := run_copy_some (P := P) (w := w) T U ty e b (z + (offP [] + lo * 1)) len cap bs.length vy (pre ++ cs ++ rest).toArray t ((bs.take len).map byteV) hu hz (by simpa using hrl)
          (by have := hrf (Nat.min bs.length len) (by simpa using Nat.min_le_left _ _)
              rw [this, List.map_take]
              congr 2
              rw [show Nat.min bs.length len = min len bs.length from Nat.min_comm _ _, ← List.length_map (f := byteV) (as := bs)]
              rw [List.take_eq_take_iff]; simp)
          (by simp [Nat.min_comm]) hsat.get (by simp [offP, hpre, hcl]; omega) (byteV_one _)
        refine ⟨_, _, chunk_back hlt hR (o := .vec t 1 enc ys vc) ?_ (sat_setRow hsat), same_setRow _ _ _, hrun, fun X => by simp [conc]⟩
        intro f hf
        refine .inr ⟨b, z, cs.take lo ++ (bs.map byteV).take len ++ cs.drop (lo + ((bs.map byteV).take len).length), pre, rest, rfl, hyc, ?_, hpre, ?_⟩
        · rw [← hlen]
          simp only [List.length_append, List.length_take, List.length_drop, List.length_map, hcl]
          omega
        · rw [hf]
          have := mid_write pre cs rest ((bs.map byteV).take len) lo (by simp [hcl]; omega)
          rw [hpre] at this
          rw [this]
          simp [offP, List.map_take]
  · refine ⟨_, _, rfl, h, rfl, fun F R w vx vy hl hs hx hy => ?_⟩
    obtain ⟨news, hnews, hnl, hrl, hrf⟩ := reads_seg1 (P := P) (hseg F) hl hs hy
    have := hx.conc
    simp only [conc] at this
    subst this
    exact ⟨_, w, hs, Same.refl w, run_copy_none (P := P) (w := w) T U ty e 0 _ vy _ hu hz hrl (hrf 0 (by simp)), fun _ => rfl⟩
end Go.Proofs.Ytdgnnboljgpcmaa.E
