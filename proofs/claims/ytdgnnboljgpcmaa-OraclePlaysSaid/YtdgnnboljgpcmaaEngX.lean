import Derived.Test.YtdgnnboljgpcmaaEngV
namespace Go.Proofs.Ytdgnnboljgpcmaa.E
open Go Go.RowKit Go.WideShapes Go.ChangeShapes

/-! ### From a function's law to its row -/
section
variable {H : Type} {en : TypeId × Value → H} {P : Program}
theorem trodAll_stays (hl : laidOutB P = true) {W W' : World} {sp : Nat → Bool} : ∀ (ts : List TypeId) (vs : List Value) (ds : List (DataW H)) (ps : List MemPlace), DataW.TrodAll en P W 0 (fun _ => true) true ts vs ds ps →
    (∀ t ∈ ts, P.readableRec t = true ∧ t < P.types.size) → (∀ x ∈ ps, W.sameAt W' x) → (∀ x ∈ ps, sp x.block = true) → DataW.TrodAll en P W' 0 sp true ts vs ds ps
  | [], vs, ds, ps, h, _, _, _ => by
    obtain ⟨rfl, rfl, rfl⟩ := trodAll_nil h
    exact trodAll_mk0
  | t :: ts, vs, ds, ps, h, ht, hs, hp => by
    obtain ⟨v, vs', d, ds', p, q, rfl, rfl, rfl, h1, h2⟩ := trodAll_cons h
    obtain ⟨hr, hrow⟩ := ht t (by simp)
    refine ⟨p, q, WideElems.Trod_stays hl hr hrow h1 (fun x hx => hs x (by simp [hx])) (fun x hx => hp x (by simp [hx])), ?_, rfl⟩
    exact trodAll_stays hl ts vs' ds' q h2 (fun t ht' => ht t (by simp [ht'])) (fun x hx => hs x (by simp [hx])) (fun x hx => hp x (by simp [hx]))
theorem old_below {W w : World} (hs : Sat (oldM W) w) (hm : Same W w) : Below W.heap.size W w := by
  refine ⟨hm.os, hm.tape, hm.output, hm.size, fun k hk => ?_⟩
  obtain ⟨f, hf, ho⟩ := hs
  have e : W.heap[k]? = some W.heap[k] := by simp
  rw [e]
  exact hf k _ (ho k _ e)
/-- A law: it yields true, and what came in reads as it did. -/
theorem calls_said {f : FuncId} {fn : Func} {s : ChangeSpec} {apart fresh handsOn : Bool} {W : World} {args : Array Value} {ds gs : List (DataW H)} {before : List MemPlace} {T : TypeId} (hl : laidOutB P = true)
    (hr : ∀ t ∈ fn.params.toList, P.readableRec t = true ∧ t < P.types.size) (hres : fn.resultTypes = #[T]) (hT : P.underlying T = some .bool) (hvars : s.vars = [])
    (hs : (s.fn H ds).results = [.lit (.bool true)] ∧ (s.fn H ds).args = ds ∧ (s.fn H ds).vars = [])
    (hW : DataW.Whole en P fn.params.toList s.vars apart W args.toList ds gs before) {dargs : List D} (hd : ∀ R, concL R dargs = args.toList)
    (hc : CallAt P f dargs [.res (oldM W)] (fun d H => d = .tt ∧ H = [.res (oldM W)])) :
    Calls P f args W fun e W' => ∃ v, e = .returned v ∧ s.post en P fn apart fresh handsOn false W args v W' := by
  have hsat : Sat (star (hpH [none] [none] [.res (oldM W)]) emp) W := by
    refine ⟨fun b => W.heap[b]?, fun _ _ h => h, fun b => W.heap[b]?, fun _ => none, fun _ _ h => h, fun _ _ h => (nomatch h), fun _ => .inr rfl, ?_, trivial⟩
    exact ⟨fun b => W.heap[b]?, fun _ => none, fun _ _ h => h, fun _ _ h => (nomatch h), fun _ => .inr rfl, fun b o h => h, trivial⟩
  have hcall := hc.run emp [none] W args.toList rfl hsat (fun X => hd _)
  rw [Array.toArray_toList] at hcall
  refine hcall.mono ?_
  rintro e W' ⟨d, H', X, v, ⟨rfl, rfl⟩, rfl, hlen, hv, hsat', hsame⟩
  have hX : X = [] := by
    have : X.length = 0 := by simpa using hlen
    exact List.length_eq_zero_iff.1 this
  subst hX
  have hvt : v = .bool true := by
    rcases hv with hv | hv
    · cases hv
    · exact (hv []).symm
  subst hvt
  have hold : Sat (oldM W) W' := by
    have h1 := hsat'.left
    obtain ⟨g, hg, a, b, ha, _, _, hA, _⟩ := h1
    exact ⟨a, Frag.le_trans ha hg, hA⟩
  have hb := old_below hold hsame
  refine ⟨_, rfl, ?_⟩
  have hW0 := hW
  obtain ⟨p, q, hA, hV, hpq, hz, hn⟩ := hW
  rw [hvars] at hV
  obtain ⟨rfl, rfl⟩ := trodVars_none hV
  rw [List.append_nil] at hpq
  subst hpq
  have hlt : ∀ x ∈ before, x.block < W.heap.size := fun x hx => hW0.lt x hx
  have hargs : DataW.TrodAll en P W' 0 (fun b => decide (b < W.heap.size)) true fn.params.toList args.toList ds before :=
    trodAll_stays hl _ _ _ _ hA hr (fun x hx => hb.same (hlt x hx)) (fun x hx => by simpa using hlt x hx)
  refine ⟨ds, [], before, [], before, [], hW0, ?_, ?_, ?_, World.keptBut_mono (fun x hx => ⟨hx, .inr (.inl hx)⟩) (hb.frame (· ∈ before)), fun h => by cases h⟩
  · rw [List.append_nil, hs.1, hres]
    exact ⟨[], [], ⟨1, by simp [Value.resultList, Value.cells, DataW.trod, hT]⟩, rfl, rfl⟩
  · rw [List.append_nil, hs.2.1]; exact hargs
  · rw [List.append_nil, hs.2.2, hvars]; rfl
end
end Go.Proofs.Ytdgnnboljgpcmaa.E
