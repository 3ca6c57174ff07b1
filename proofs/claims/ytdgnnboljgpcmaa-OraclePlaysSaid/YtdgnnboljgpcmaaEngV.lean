import Derived.Test.YtdgnnboljgpcmaaEngT
import Derived.OpenShut
import Derived.Carry
import Derived.ProofKit
import Derived.SizedLaws
namespace Go.Proofs.Ytdgnnboljgpcmaa.E
open Go Go.RowKit Go.WideShapes Go.ChangeShapes

/-! ### What comes in, told -/
/-- What reads as a value of the type is told by enc. -/
structure DecOK (P : Program) (t : TypeId) {α : Type} (enc : α → D) (ok : α → Prop) : Prop where
  dec : ∀ {H : Type} {en : TypeId × Value → H} {w : World} {base : Nat} {sp : Nat → Bool} {held : Bool} {fuel : Nat} {cs : List Value} {x : DataW H × List MemPlace},
    DataW.trod en P w base sp held fuel t cs = some x → ∃ a, (∀ R, cells R (enc a) = cs) ∧ ok a
section
variable {P : Program} {t : TypeId}
theorem dec_bool (hu : P.underlying t = some .bool) : DecOK P t (fun b : Bool => .bool b) (fun _ => True) where
  dec h := by
    obtain ⟨b, rfl, _⟩ := DataW.trod_bool hu h
    exact ⟨b, fun _ => rfl, trivial⟩
theorem dec_int (hu : P.underlying t = some (.int .i64)) : DecOK P t (fun n : Int => .int .i64 n) (fun n => -9223372036854775808 ≤ n ∧ n ≤ 9223372036854775807) where
  dec h := by
    obtain ⟨n, rfl, _, hw⟩ := DataW.trod_int hu h
    simp only [Lit.wf, Bool.and_eq_true, decide_eq_true_eq] at hw
    exact ⟨n, fun _ => rfl, hw⟩
theorem dec_u8 (hu : P.underlying t = some (.int .u8)) : DecOK P t (fun c : UInt8 => .int .u8 c.toNat) (fun _ => True) where
  dec h := by
    obtain ⟨n, rfl, _, hw⟩ := DataW.trod_int hu h
    simp only [Lit.wf, Bool.and_eq_true, decide_eq_true_eq] at hw
    have h1 : 0 ≤ n := hw.1
    have h2 : n ≤ 255 := hw.2
    refine ⟨UInt8.ofNat n.toNat, fun _ => ?_, trivial⟩
    have : ((UInt8.ofNat n.toNat).toNat : Int) = n := by rw [UInt8.toNat_ofNat']; omega
    simp only [this]; rfl
theorem dec_u16 (hu : P.underlying t = some (.int .u16)) : DecOK P t (fun c : UInt16 => .int .u16 c.toNat) (fun _ => True) where
  dec h := by
    obtain ⟨n, rfl, _, hw⟩ := DataW.trod_int hu h
    simp only [Lit.wf, Bool.and_eq_true, decide_eq_true_eq] at hw
    have h1 : 0 ≤ n := hw.1
    have h2 : n ≤ 65535 := hw.2
    refine ⟨UInt16.ofNat n.toNat, fun _ => ?_, trivial⟩
    have : ((UInt16.ofNat n.toNat).toNat : Int) = n := by rw [UInt16.toNat_ofNat']; omega
    simp only [this]; rfl
theorem dec_u32 (hu : P.underlying t = some (.int .u32)) : DecOK P t (fun c : UInt32 => .int .u32 c.toNat) (fun _ => True) where
  dec h := by
    obtain ⟨n, rfl, _, hw⟩ := DataW.trod_int hu h
    simp only [Lit.wf, Bool.and_eq_true, decide_eq_true_eq] at hw
    have h1 : 0 ≤ n := hw.1
    have h2 : n ≤ 4294967295 := hw.2
    refine ⟨UInt32.ofNat n.toNat, fun _ => ?_, trivial⟩
    have : ((UInt32.ofNat n.toNat).toNat : Int) = n := by rw [UInt32.toNat_ofNat']; omega
    simp only [this]; rfl
theorem dec_u64 (hu : P.underlying t = some (.int .u64)) : DecOK P t (fun c : UInt64 => .int .u64 c.toNat) (fun _ => True) where
  dec h := by
    obtain ⟨n, rfl, _, hw⟩ := DataW.trod_int hu h
    simp only [Lit.wf, Bool.and_eq_true, decide_eq_true_eq] at hw
    have h1 : 0 ≤ n := hw.1
    have h2 : n ≤ 18446744073709551615 := hw.2
    refine ⟨UInt64.ofNat n.toNat, fun _ => ?_, trivial⟩
    have : ((UInt64.ofNat n.toNat).toNat : Int) = n := by rw [UInt64.toNat_ofNat']; omega
    simp only [this]; rfl
theorem dec_str (hu : P.underlying t = some .string) : DecOK P t (fun s : Bytes => .str s) (fun s => s.length ≤ 9223372036854775807) where
  dec h := by
    obtain ⟨s, rfl, _, hs⟩ := DataW.trod_string hu h
    exact ⟨s.data.toList, fun _ => rfl, hs⟩
theorem dec_bytes {n : Nat} {e : TypeId} (hu : P.underlying t = some (.array n e)) (he : P.underlying e = some (.int .u8)) (hc : P.cellsOf e = 1) (hn : P.cellsOf t = n) : DecOK P t (fun v : Vector UInt8 n => .bytes n v) (fun _ => True) where
  dec h := by
    rename_i cs x
    obtain ⟨xs, m, _, _, hl, hxl, hel⟩ := DataW.trod_array hu h
    rw [hn] at hl
    have hget : ∀ i, i < n → ∃ c : UInt8, cs[i]? = some (byteV c) := fun i hi => by
      have h1 := hel i hi
      rw [List.getElem?_eq_getElem (by omega), hc, Nat.mul_one] at h1
      obtain ⟨c, hcells, _⟩ := (dec_u8 he).dec h1
      refine ⟨c, ?_⟩
      have h2 : [byteV c] = (cs.drop i).take 1 := hcells []
      have := congrArg (fun l => l[0]?) h2
      simp only [List.getElem?_cons_zero, List.getElem?_take, Nat.zero_lt_one, if_true, List.getElem?_drop, Nat.add_zero] at this
      exact this.symm
    refine ⟨Vector.ofFn fun i : Fin n => Classical.choose (hget i.val i.isLt), fun R => ?_, trivial⟩
    rw [cells_bytes]
    apply List.ext_getElem?
    intro i
    by_cases hi : i < n
    · rw [List.getElem?_map, List.getElem?_eq_getElem (by simpa using hi)]
      simp only [Vector.getElem_toList, Vector.getElem_ofFn, Option.map_some]
      exact (Classical.choose_spec (hget i hi)).symm
    · rw [List.getElem?_eq_none (by simp; omega), List.getElem?_eq_none (by omega)]
end
/-! ### Structs -/
def fieldRow (P : Program) (t : TypeId) : Option (List (TypeId × Nat)) := match P.underlying t with
  | some (.struct fs) => some (fs.toList.map fun f => (f.type, f.offset))
  | _ => none
def Tiled (cs : List Value) : Nat → List D → Prop
  | o, [] => cs.length = o
  | o, d :: ds => (∀ R, cells R d = (cs.drop o).take (size d)) ∧ Tiled cs (o + size d) ds
theorem tiled_cells {cs : List Value} : ∀ (ds : List D) (o : Nat), Tiled cs o ds → ∀ R, cellsL R ds = cs.drop o
  | [], o, h, R => by simp only [Tiled] at h; rw [List.drop_of_length_le (by omega)]; rfl
  | d :: ds, o, ⟨h1, h2⟩, R => by
    rw [cellsL_cons, h1 R, tiled_cells ds _ h2 R, ← List.drop_drop, List.take_append_drop]
structure DecF (P : Program) (l : List (TypeId × Nat)) (o : Nat) {α : Type} (encs : α → List D) (ok : α → Prop) : Prop where
  dec : ∀ {H : Type} {en : TypeId × Value → H} {w : World} {base : Nat} {sp : Nat → Bool} {held : Bool} {fuel : Nat} {cs : List Value},
    (∀ p ∈ l, ∃ x, DataW.trod en P w base sp held fuel p.1 ((cs.drop p.2).take (P.cellsOf p.1)) = some x) → (∀ a, cs.length = o + sizeL (encs a)) → ∃ a, Tiled cs o (encs a) ∧ ok a
theorem DecF.nil {P : Program} {o : Nat} : DecF P [] o (fun _ : Unit => []) (fun _ => True) where
  dec _ hl := ⟨(), by simpa [Tiled, sizeL] using hl (), trivial⟩
theorem DecF.cons {P : Program} {ty o k : Nat} {l : List (TypeId × Nat)} {α β : Type} {enc : α → D} {encs : β → List D} {ok : α → Prop} {ok' : β → Prop} (hd : DecOK P ty enc ok) (hk : P.cellsOf ty = k) (hs : ∀ a, size (enc a) = k) (hf : DecF P l (o + k) encs ok') :
    DecF P ((ty, o) :: l) o (fun p : α × β => enc p.1 :: encs p.2) (fun p => ok p.1 ∧ ok' p.2) where
  dec h hl := by
    rename_i cs
    obtain ⟨x, hx⟩ := h (ty, o) (by simp)
    obtain ⟨a, ha, hoa⟩ := hd.dec hx
    obtain ⟨b, hb, hob⟩ := hf.dec (fun p hp => h p (by simp [hp])) (fun b => by have := hl (a, b); simp only [sizeL, hs] at this; omega)
    refine ⟨(a, b), ⟨fun R => ?_, by simpa [hs] using hb⟩, hoa, hob⟩
    rw [ha R, hk, hs]
theorem DecOK.st {P : Program} {t : TypeId} {l : List (TypeId × Nat)} {α β : Type} {enc : α → D} {encs : β → List D} {ok : α → Prop} {ok' : β → Prop} (hf : fieldRow P t = some l) (hd : DecF P l 0 encs ok') (mk : β → α) (he : ∀ b, enc (mk b) = .st (encs b))
    (hn : ∀ b, sizeL (encs b) = P.cellsOf t) (hok : ∀ b, ok' b → ok (mk b)) : DecOK P t enc ok where
  dec h := by
    rename_i cs x
    unfold fieldRow at hf
    split at hf <;> try cases hf
    rename_i fs hu
    obtain ⟨xs, n, _, _, hl, hxl, hfl⟩ := DataW.trod_struct hu h
    obtain ⟨b, hb, hob⟩ := hd.dec (cs := cs) (fun p hp => by
      obtain ⟨f, hfm, rfl⟩ := List.mem_map.1 hp
      obtain ⟨i, hi, rfl⟩ := List.getElem_of_mem hfm
      have h1 := hfl i fs.toList[i] (by rw [← Array.getElem?_toList]; exact List.getElem?_eq_getElem hi)
      rw [List.getElem?_eq_getElem (by simpa [hxl] using hi)] at h1
      exact ⟨_, h1⟩) (fun b => by rw [hn, hl, Nat.zero_add])
    refine ⟨mk b, fun R => ?_, hok b hob⟩
    rw [he, cells_st, tiled_cells _ _ hb R, List.drop_zero]
/-! ### Arguments -/
theorem arg_agg {P : Program} {t : TypeId} {α : Type} {enc : α → D} {ok : α → Prop} (hd : DecOK P t enc ok) (hu : (match P.underlying t with | some (.struct _) | some (.array _ _) => true | _ => false) = true) (ha : ∀ a, isAgg (enc a) = true)
    {H : Type} {en : TypeId × Value → H} {W : World} {base b0 : Nat} {r : Reach} {sp : Nat → Bool} {held : Bool} {v : Value} {d : DataW H} {ps : List MemPlace} (hv : Value.okWide P W r base t v) (h : DataW.Trod en P W b0 sp held t v d ps) : ∃ a, (∀ R, conc R (enc a) = v) ∧ ok a := by
  obtain ⟨fuel, hf⟩ := h
  obtain ⟨a, hc, ho⟩ := hd.dec hf
  have : ∃ cs, v = .agg cs := by
    simp only [Value.okWide] at hv
    split at hv
    · obtain ⟨cs, e, _⟩ := hv; exact ⟨cs, e⟩
    · obtain ⟨cs, e, _⟩ := hv; exact ⟨cs, e⟩
    · rename_i h1 h2
      split at hu
      · exact absurd ‹_› (h1 _)
      · exact absurd ‹_› (h2 _ _)
      · cases hu
  obtain ⟨cs, rfl⟩ := this
  refine ⟨a, fun R => ?_, ho⟩
  rw [conc_agg (ha a), hc R]
  rfl
theorem arg_leaf {P : Program} {t : TypeId} {α : Type} {enc : α → D} {ok : α → Prop} (hd : DecOK P t enc ok) (hu : (match P.underlying t with | some (.struct _) | some (.array _ _) => true | _ => false) = false) (ha : ∀ a, isAgg (enc a) = false)
    {H : Type} {en : TypeId × Value → H} {W : World} {base b0 : Nat} {r : Reach} {sp : Nat → Bool} {held : Bool} {v : Value} {d : DataW H} {ps : List MemPlace} (hv : Value.okWide P W r base t v) (h : DataW.Trod en P W b0 sp held t v d ps) : ∃ a, (∀ R, conc R (enc a) = v) ∧ ok a := by
  obtain ⟨fuel, hf⟩ := h
  obtain ⟨a, hc, ho⟩ := hd.dec hf
  refine ⟨a, fun R => ?_, ho⟩
  have h1 := hc R
  rw [cells_leaf (ha a)] at h1
  have hn : ∀ cs, v ≠ .agg cs := by
    rintro cs rfl
    simp only [Value.okWide] at hv
    split at hv
    · rename_i h0; rw [h0] at hu; cases hu
    · rename_i h0; rw [h0] at hu; cases hu
    · simp only [Cell.okWide] at hv
      split at hv <;> simp_all [Cell.ok]
  rw [leaf_cells hn] at h1
  exact (List.cons.inj h1).1
/-- The memory as it was. -/
def oldM (W : World) : HP := fun f => ∀ b o, W.heap[b]? = some o → f b = some o
/-- A slice that came in: its elements as memory tells them. -/
def RawRow (A : HP) (s : Nat) {α : Type} (enc : α → D) (v : Value) (xs : List α) : Prop := ∃ a cap, v = .slice a xs.length cap ∧ ∀ i x, xs[i]? = some x → ∃ b o, a = some ⟨b, o, none⟩ ∧ RawAt A b (o + i * s) (enc x)
theorem cells_spot {W : World} {a : Addr} {n : Nat} {cs : List Value} (h : W.cells? 0 (a.add 0) n = some cs) (hn : 0 < n) : a.spot = none := by
  unfold World.cells? at h
  rw [if_pos (Nat.zero_le _)] at h
  have hlen := mapM_some_length h
  rw [List.length_range] at hlen
  have h0 : W.cell? ((a.add 0).add 0) = cs[0]? := mapM_some_get h 0 0 (by simp [hn])
  rw [List.getElem?_eq_getElem (by omega)] at h0
  have e : (a.add 0).add 0 = a := by simp [Addr.add]
  rw [e] at h0
  exact World.cell?_spot h0
theorem cells_at {W : World} {b o k n : Nat} {cs : List Value} (h : W.cells? 0 ((⟨b, o, none⟩ : Addr).add k) n = some cs) (hn : 0 < n) : ∃ c t fr, W.heap[b]? = some (.cells c t fr) ∧ o + k + n ≤ c.size ∧ cs = (c.toList.drop (o + k)).take n := by
  unfold World.cells? at h
  rw [if_pos (Nat.zero_le _)] at h
  have hlen := mapM_some_length h
  rw [List.length_range] at hlen
  have hall : ∀ i, i < n → W.cell? ⟨b, o + k + i, none⟩ = cs[i]? := fun i hi => by
    have : W.cell? (((⟨b, o, none⟩ : Addr).add k).add i) = cs[i]? := mapM_some_get h i i (by simp [hi])
    rwa [add_none, add_none] at this
  have h00 := hall 0 hn
  rw [List.getElem?_eq_getElem (by omega)] at h00
  unfold World.cell? at h00
  split at h00
  · rename_i c t fr hb
    have hb' : W.heap[b]? = some (.cells c t fr) := hb
    have hc : ∀ i, i < n → c[o + k + i]? = cs[i]? := fun i hi => by
      have := hall i hi
      unfold World.cell? at this
      simp only [hb'] at this
      simpa using this
    have hsz : o + k + n ≤ c.size := by
      have := hc (n - 1) (by omega)
      rw [List.getElem?_eq_getElem (by omega)] at this
      have := (Array.getElem?_eq_some_iff.1 this).1
      omega
    refine ⟨c, t, fr, hb', hsz, ?_⟩
    apply List.ext_getElem?
    intro i
    by_cases hi : i < n
    · rw [List.getElem?_take, if_pos hi, List.getElem?_drop, ← hc i hi, Array.getElem?_toList]
    · rw [List.getElem?_eq_none (by omega), List.getElem?_eq_none (by simp; omega)]
  · cases h00
theorem choose_list {α : Type} (n : Nat) (p : Nat → α → Prop) (h : ∀ i, i < n → ∃ x, p i x) : ∃ xs : List α, xs.length = n ∧ ∀ i x, xs[i]? = some x → p i x := by
  induction n with
  | zero => exact ⟨[], rfl, fun i x hx => by simp at hx⟩
  | succ n ih =>
    obtain ⟨xs, hl, hx⟩ := ih fun i hi => h i (by omega)
    obtain ⟨y, hy⟩ := h n (by omega)
    refine ⟨xs ++ [y], by simp [hl], fun i x hix => ?_⟩
    rw [List.getElem?_append] at hix
    split at hix
    · exact hx i x hix
    · rename_i hi
      have : i = n := by
        have := (List.getElem?_eq_some_iff.1 hix).1
        simp at this; omega
      subst this
      rw [hl, Nat.sub_self] at hix
      simp at hix
      rw [← hix]; exact hy
theorem arg_slice {P : Program} {t e : TypeId} {α : Type} {enc : α → D} {ok : α → Prop} {s : Nat} (hu : P.underlying t = some (.slice e)) (hd : DecOK P e enc ok) (hs : P.cellsOf e = s) (h0 : 0 < s) (hz : ∀ a, size (enc a) = s)
    {H : Type} {en : TypeId × Value → H} {W : World} {sp : Nat → Bool} {held : Bool} {v : Value} {d : DataW H} {ps : List MemPlace} {base : Nat} {r : Reach} (hv : Value.okWide P W r base t v) (h : DataW.Trod en P W 0 sp held t v d ps) :
    ∃ xs : List α, RawRow (oldM W) s enc v xs ∧ (∀ x ∈ xs, ok x) ∧ (∀ els spare, d = .slice els spare → xs.length = els.length) ∧ (d = .nil → xs = []) := by
  obtain ⟨a0, len0, cap0, rfl⟩ := okWide_slice hu hv
  obtain ⟨fuel, hf⟩ := h
  rcases DataW.trod_slice hu hf with ⟨hcs, hx⟩ | ⟨a, len, cap, elems, rest, n, _, hcs, hx, _, _, _, hel, hget, _, _⟩
  · simp [Value.cells] at hcs
    obtain ⟨rfl, rfl, rfl⟩ := hcs
    simp only [Prod.mk.injEq] at hx
    refine ⟨[], ⟨none, 0, rfl, fun i x hx => by simp at hx⟩, by simp, fun els spare he => ?_, fun _ => rfl⟩
    rw [hx.1] at he; cases he
  · simp [Value.cells] at hcs
    obtain ⟨rfl, rfl, rfl⟩ := hcs
    simp only [Prod.mk.injEq] at hx
    have hsp : 0 < len0 → a.spot = none := fun hp => by
      have h1 := hget 0 hp
      rw [List.getElem?_eq_getElem (by omega)] at h1
      obtain ⟨cs, hc1, _⟩ := Option.bind_eq_some_iff.1 h1
      rw [Nat.zero_mul, hs] at hc1
      exact cells_spot hc1 h0
    obtain ⟨xs, hxl, hxs⟩ := choose_list (α := α) len0 (fun i x => ok x ∧ ∃ b o, a = ⟨b, o, none⟩ ∧ RawAt (oldM W) b (o + i * s) (enc x)) fun i hi => by
      have hn := hsp (by omega)
      obtain ⟨b, o, sp⟩ := a
      simp only at hn
      subst hn
      have h1 := hget i hi
      rw [List.getElem?_eq_getElem (by omega)] at h1
      obtain ⟨cs, hc1, hc2⟩ := Option.bind_eq_some_iff.1 h1
      rw [hs] at hc1
      obtain ⟨c, ty, fr, hb, hsz, hcs⟩ := cells_at hc1 h0
      obtain ⟨x, hx, ho⟩ := hd.dec hc2
      exact ⟨x, ho, b, o, rfl, fun f hf => ⟨c, ty, fr, hf _ _ hb, by rw [hz]; exact hsz, fun R => by rw [hx R, hz, hcs]⟩⟩
    refine ⟨xs, ⟨some a, cap0, by rw [hxl], fun i x hx => ?_⟩, fun x hx => ?_, fun els spare he => ?_, fun he => ?_⟩
    · obtain ⟨_, b, o, ha, hr⟩ := hxs i x hx
      exact ⟨b, o, by rw [ha], hr⟩
    · obtain ⟨i, hi, rfl⟩ := List.getElem_of_mem hx
      exact (hxs i _ (List.getElem?_eq_getElem hi)).1
    · rw [hx.1] at he
      simp only [DataW.slice.injEq] at he
      rw [← he.1, List.length_map, hel, hxl]
    · rw [hx.1] at he; cases he
end Go.Proofs.Ytdgnnboljgpcmaa.E
