import Derived.Test.YtdgnnboljgpcmaaEngG
import Derived.MapKept
import Derived.WideKeyRuns
namespace Go.Proofs.Ytdgnnboljgpcmaa.E
open Go

/-! ### Maps, as rows of keys and values -/
section
variable {κ β : Type}
def look (dec : DecidableEq κ) : List (κ × β) → κ → Option β
  | [], _ => none
  | (x, v) :: r, a => match dec a x with
    | isTrue _ => some v
    | isFalse _ => look dec r a
def upd (dec : DecidableEq κ) : List (κ × β) → κ → β → List (κ × β)
  | [], a, v => [(a, v)]
  | (x, u) :: r, a, v => match dec a x with
    | isTrue _ => (x, v) :: r
    | isFalse _ => (x, u) :: upd dec r a v
def del (dec : DecidableEq κ) : List (κ × β) → κ → List (κ × β)
  | [], _ => []
  | (x, u) :: r, a => match dec a x with
    | isTrue _ => r
    | isFalse _ => (x, u) :: del dec r a
/-- Where the key stands, and its entry's value. -/
def findAt (dec : DecidableEq κ) (a : κ) : List κ → List MapEntry → Nat → Option (Nat × Value)
  | x :: ks, e :: es, i => match dec a x with
    | isTrue _ => some (i, e.val)
    | isFalse _ => findAt dec a ks es (i + 1)
  | _, _, _ => none
end
/-- Keys of a type that are told by ke: no two alike, and the machine finds them. -/
structure KeyOK (P : Program) (kt : TypeId) {κ : Type} (dec : DecidableEq κ) (ke : κ → D) : Prop where
  closed : ∀ a R R', conc R (ke a) = conc R' (ke a)
  check : ∀ e a R w, (Instr.checkKey e 10000 kt (conc R (ke a))).run P w = .ok () w
  bits : ∀ a R, Instr.sameBits 10000 (conc R (ke a)) (conc R (ke a)) = true
  find : ∀ (a : κ) (es : List MapEntry) (ks : List κ) R, es.map (·.key) = ks.map (fun x => conc R (ke x)) → ∀ w, (Instr.findKey kt (conc R (ke a)) es).run P w = .ok (findAt dec a ks es 0) w

theorem findNow_at {κ : Type} {dec : DecidableEq κ} {ke : κ → D} {kd : TypeDesc} {R : Env} (h : ∀ a b, Instr.sameNow kd (conc R (ke a)) (conc R (ke b)) = some (decide (a = b))) (a : κ) :
    ∀ (es : List MapEntry) (ks : List κ) (i : Nat), es.map (·.key) = ks.map (fun x => conc R (ke x)) → Instr.findNow kd (conc R (ke a)) es i = some (findAt dec a ks es i)
  | [], [], i, _ => rfl
  | [], _ :: _, _, h => by simp at h
  | _ :: _, [], _, h => by simp at h
  | e :: es, x :: ks, i, he => by
    simp only [List.map_cons, List.cons.injEq] at he
    rw [Instr.findNow, he.1, h a x, findAt]
    cases hd : dec a x with
    | isTrue hx => subst hx; simp
    | isFalse hx => simp only [hx, decide_false]; exact findNow_at h a es ks (i + 1) he.2
theorem keyOK_now {P : Program} {kt : TypeId} {κ : Type} {dec : DecidableEq κ} {ke : κ → D} {kd : TypeDesc} (hu : P.underlying kt = some kd) (hk : ∀ a R, MapKept.IsKey kd (conc R (ke a))) (hc : ∀ a R R', conc R (ke a) = conc R' (ke a))
    (h : ∀ a b R, Instr.sameNow kd (conc R (ke a)) (conc R (ke b)) = some (decide (a = b))) : KeyOK P kt dec ke where
  closed := hc
  check := fun e a R w => MapKept.run_checkKey hu (hk a R) e 9999
  bits := fun a R => MapKept.sameBits_self (hk a R) 10000
  find := fun a es ks R he w => MapKept.run_findKey hu (findNow_at (fun a b => h a b R) a es ks 0 he)
theorem findAsking_at {P : Program} {kt : TypeId} {κ : Type} {dec : DecidableEq κ} {ke : κ → D} {R : Env} (h : ∀ a b w, (Op.equal kt (conc R (ke a)) (conc R (ke b))).run P w = .ok (decide (a = b)) w) (a : κ) (w : World) :
    ∀ (es : List MapEntry) (ks : List κ) (i : Nat), es.map (·.key) = ks.map (fun x => conc R (ke x)) → (Instr.findAsking kt (conc R (ke a)) es i).run P w = .ok (findAt dec a ks es i) w
  | [], [], i, _ => rfl
  | [], _ :: _, _, h => by simp at h
  | _ :: _, [], _, h => by simp at h
  | e :: es, x :: ks, i, he => by
    simp only [List.map_cons, List.cons.injEq] at he
    rw [Instr.findAsking, he.1, Sem.run_bind, h a x w, Result.andThen_ok, findAt]
    cases hd : dec a x with
    | isTrue hx => subst hx; simp
    | isFalse hx => simp only [hx, decide_false, Bool.false_eq_true, if_false]; exact findAsking_at h a w es ks (i + 1) he.2
theorem keyOK_agg {P : Program} {kt : TypeId} {κ : Type} {dec : DecidableEq κ} {ke : κ → D} (hwide : (match P.underlying kt with | some (.array _ _) | some (.struct _) => true | _ => false) = true) (hc : ∀ a R R', conc R (ke a) = conc R' (ke a))
    (hk : ∀ e a w, (Instr.checkKey e 10000 kt (conc [] (ke a))).run P w = .ok () w) (hb : ∀ a, Instr.sameBits 10000 (conc [] (ke a)) (conc [] (ke a)) = true)
    (h : ∀ a b, EqAt P kt (ke a) (ke b) (decide (a = b))) : KeyOK P kt dec ke where
  closed := hc
  check := fun e a R w => by rw [hc a R []]; exact hk e a w
  bits := fun a R => by rw [hc a R []]; exact hb a
  find := fun a es ks R he w => by
    rw [run_findKey_eq w hwide]
    exact findAsking_at (R := R) (fun a b w => (h a b R _ _ (fun X => hc a _ _) (fun X => hc b _ _) w).2) a w es ks 0 he

section
variable {κ β : Type} {dec : DecidableEq κ}
theorem look_at {a : κ} : ∀ (m : List (κ × β)) (es : List MapEntry) (i : Nat), es.length = m.length →
    (look dec m a = none → findAt dec a (m.map (·.1)) es i = none) ∧ ∀ v, look dec m a = some v → ∃ j e, findAt dec a (m.map (·.1)) es i = some (i + j, e.val) ∧ es[j]? = some e ∧ m[j]? = some (a, v) ∧ ∀ u, upd dec m a u = m.set j (a, u) ∧ del dec m a = m.eraseIdx j
  | [], [], i, _ => ⟨fun _ => rfl, fun v h => by cases h⟩
  | [], _ :: _, _, h => by simp at h
  | _ :: _, [], _, h => by simp at h
  | (x, u) :: m, e :: es, i, hl => by
    simp only [List.length_cons, Nat.add_right_cancel_iff] at hl
    obtain ⟨ih1, ih2⟩ := look_at (a := a) m es (i + 1) hl
    simp only [look, List.map_cons, findAt, upd, del]
    cases hd : dec a x with
    | isTrue hx =>
      subst hx
      refine ⟨fun h => by simp at h, fun v h => ⟨0, e, rfl, rfl, ?_, fun _ => ⟨rfl, rfl⟩⟩⟩
      simp only [Option.some.injEq] at h
      simp [h]
    | isFalse hx =>
      refine ⟨ih1, fun v h => ?_⟩
      obtain ⟨j, e', h1, h2, h3, h4⟩ := ih2 v h
      refine ⟨j + 1, e', by rw [h1, show i + 1 + j = i + (j + 1) by omega], by simpa using h2, by simpa using h3, fun u => ?_⟩
      simp [(h4 u).1, (h4 u).2]
theorem look_none_upd {a : κ} {v : β} : ∀ (m : List (κ × β)), look dec m a = none → upd dec m a v = m ++ [(a, v)] ∧ del dec m a = m ∧ a ∉ m.map (·.1)
  | [], _ => ⟨rfl, rfl, by simp⟩
  | (x, u) :: m, h => by
    simp only [look, upd, del] at h ⊢
    cases hd : dec a x with
    | isTrue hx => rw [hd] at h; simp at h
    | isFalse hx =>
      rw [hd] at h
      obtain ⟨h1, h2, h3⟩ := look_none_upd (v := v) m h
      refine ⟨by simp [h1], by simp [h2], by simp only [List.map_cons, List.mem_cons, not_or]; exact ⟨hx, h3⟩⟩
end
theorem look_none_del {κ β : Type} {dec : DecidableEq κ} {a : κ} : ∀ (m : List (κ × β)), look dec m a = none → del dec m a = m
  | [], _ => rfl
  | (x, u) :: m, h => by
    simp only [look, del] at h ⊢
    cases hd : dec a x with
    | isTrue hx => rw [hd] at h; simp at h
    | isFalse hx =>
      rw [hd] at h
      simp [look_none_del m h]
theorem run_zeroOf {P : Program} {Z : TypeId → D} (hZ : Zeros P Z) {T : TypeId} (hj : isJunk (Z T) = false) : ∃ z, (∀ R, Is R (Z T) z) ∧ ∀ w, (zeroValue T).run P w = .ok z w := by
  obtain ⟨i, z, hi, hz, hzi, hsz⟩ := hZ T hj
  exact ⟨z, hzi, fun w => by simp [zeroValue, typeInfo, hi, hz]⟩

/-- A block of a map, taken out of what is owned. -/
theorem map_there {R : Env} {H : List SObj} {F : HP} {w : World} {h : Nat} {κ β : Type} {dec : DecidableEq κ} {ke : κ → D} {ve : β → D} {m : List (κ × β)} (ho : getH H h = .mp dec ke ve m) (hl : R.length = H.length) (hs : Sat (star (hpH R R H) F) w) :
    h < H.length ∧ ∃ b es clock, R[h]? = some (some (b, 0)) ∧ IsM R ke ve m es.toList ∧ (m.map (·.1)).Nodup ∧ (es.toList.map (·.born)).Nodup ∧ (∀ e ∈ es.toList, e.born < clock) ∧ w.heap[b]? = some (.map es clock) ∧
      Sat (star (pt b (.map es clock)) (star (hpH R R (H.set h .gone)) F)) w := by
  have hH := getH_some H h (by rw [ho]; intro h; cases h)
  rw [ho] at hH
  have hlt : h < H.length := (List.getElem?_eq_some_iff.1 hH).1
  have hR : R[h]? = some R[h] := List.getElem?_eq_getElem (by omega)
  have hs' := hs.mono ((star_mono (hpH_get R R H h _ _ hR hH) (Imp.refl F)).trans (star_assoc _ _ _))
  obtain ⟨f, hf, ⟨g, g', gf, hf', gh, hg, hg'⟩⟩ := hs'
  obtain ⟨b, es, clock, h1, h2, h3, h4, h5, h6⟩ := hg
  refine ⟨hlt, b, es, clock, by rw [hR, h1], h2, h3, h4, h5, ?_, ⟨f, hf, g, g', gf, hf', gh, h6, hg'⟩⟩
  exact hf b _ (gf b _ h6)
/-- The result of a look. -/
def lkK (ok : Bool) (v t : D) (k : D → Prop) : Prop := match ok with
  | true => k (.tup [v, t])
  | false => known v k
def lookupK (P : Program) (Z : TypeId → D) (H : List SObj) (T : TypeId) (x i : D) (ok : Bool) (k : D → Prop) : Prop :=
  match P.underlying T with
  | some (.map kt et) => match x with
    | .mapr h => match getH H h with
      | .mp dec ke ve m => known (Z et) fun z => ∃ a, KeyOK P kt dec ke ∧ Eqv (ke a) i ∧ (∀ v, look dec m a = some v → lkK ok (ve v) .tt k) ∧ (look dec m a = none → lkK ok z .ff k)
      | _ => False
    | .nilm => known (Z et) fun z => ∃ (κ : Type) (dec : DecidableEq κ) (ke : κ → D) (a : κ), KeyOK P kt dec ke ∧ Eqv (ke a) i ∧ lkK ok z .ff k
    | _ => False
  | _ => False
theorem lkK_spec {P : Program} {ok : Bool} {v t : D} {k : D → Prop} (h : lkK ok v t k) : ∃ d, isJunk d = false ∧ k d ∧ ∀ R u b, Is R v u → Is R t (.bool b) → Is R d (if ok then .tuple #[u, .bool b] else u) := by
  cases ok with
  | true => exact ⟨_, rfl, h, fun R u b hu hb X => by simp only [conc, concL, hu X, hb X]; rfl⟩
  | false =>
    obtain ⟨hj, hk⟩ := (known_iff _ _).1 h
    exact ⟨v, hj, hk, fun R u b hu _ => hu⟩
theorem lookupK_spec {P : Program} {Z : TypeId → D} (hZ : Zeros P Z) {H : List SObj} {T : TypeId} {x i : D} {ok : Bool} {k : D → Prop} (h : lookupK P Z H T x i ok k) : ∃ d, isJunk d = false ∧ k d ∧
    ∀ F R w vx vi, R.length = H.length → Sat (star (hpH R R H) F) w → Is R x vx → Is R i vi → ∃ v, (Instr.lookup T vx vi ok).run P w = .ok v w ∧ Is R d v := by
  unfold lookupK at h
  split at h <;> try exact h.elim
  rename_i kt et hu
  split at h <;> try exact h.elim
  · rename_i hh
    split at h <;> try exact h.elim
    rename_i κ β dec ke ve m ho
    obtain ⟨hj, h⟩ := (known_iff _ _).1 h
    obtain ⟨z, hz, hzr⟩ := run_zeroOf hZ hj
    obtain ⟨a, hK, hE, h1, h2⟩ := h
    cases hl : look dec m a with
    | none =>
      obtain ⟨d, hdj, hk, hd⟩ := lkK_spec (P := P) (h2 hl)
      refine ⟨d, hdj, hk, fun F R w vx vi hlen hs hx hi => ?_⟩
      obtain ⟨hlt, b, es, clock, hR, hm, _, _, _, hb, _⟩ := map_there ho hlen hs
      have hvx := hx []
      simp only [conc, mapV, List.append_nil, hR] at hvx
      have hvi := (hE R).trans hi.conc
      have hm0 := hm []
      simp only [List.append_nil] at hm0
      have hkeys : es.toList.map (·.key) = (m.map (·.1)).map (fun x => conc R (ke x)) := by
        have := congrArg (List.map Prod.fst) hm0
        simpa [Function.comp_def] using this
      have hlen2 : es.toList.length = m.length := by have := congrArg List.length hm0; simpa using this
      have hf := hK.find a es.toList (m.map (·.1)) R hkeys w
      rw [(look_at (dec := dec) m es.toList 0 hlen2).1 hl, hvi] at hf
      refine ⟨_, ?_, hd R z false (hz R) (fun _ => rfl)⟩
      have hc := hK.check es.isEmpty a R w
      rw [hvi] at hc
      subst hvx
      simp only [Instr.lookup, Sem.run_bind, run_underlying hu, Result.andThen_ok, MapKept.run_getObj_map hb, Sem.run_pure, hc, hf, hzr]
    | some u =>
      obtain ⟨d, hdj, hk, hd⟩ := lkK_spec (P := P) (h1 u hl)
      refine ⟨d, hdj, hk, fun F R w vx vi hlen hs hx hi => ?_⟩
      obtain ⟨hlt, b, es, clock, hR, hm, _, _, _, hb, _⟩ := map_there ho hlen hs
      have hvx := hx []
      simp only [conc, mapV, List.append_nil, hR] at hvx
      have hvi := (hE R).trans hi.conc
      have hm0 := hm []
      simp only [List.append_nil] at hm0
      have hkeys : es.toList.map (·.key) = (m.map (·.1)).map (fun x => conc R (ke x)) := by
        have := congrArg (List.map Prod.fst) hm0
        simpa [Function.comp_def] using this
      have hlen2 : es.toList.length = m.length := by have := congrArg List.length hm0; simpa using this
      have hf := hK.find a es.toList (m.map (·.1)) R hkeys w
      obtain ⟨j, e, hfa, hej, hmj, _⟩ := (look_at (dec := dec) m es.toList 0 hlen2).2 u hl
      rw [hfa, hvi] at hf
      have hv : Is R (ve u) e.val := fun X => by
        have := congrArg (fun l => l[j]?) (hm X)
        simp only [List.getElem?_map, hej, hmj, Option.map_some, Option.some.injEq, Prod.mk.injEq] at this
        exact this.2.symm
      refine ⟨_, ?_, hd R e.val true hv (fun _ => rfl)⟩
      have hc := hK.check es.isEmpty a R w
      rw [hvi] at hc
      subst hvx
      simp only [Instr.lookup, Sem.run_bind, run_underlying hu, Result.andThen_ok, MapKept.run_getObj_map hb, Sem.run_pure, hc, hf]
  · obtain ⟨hj, h⟩ := (known_iff _ _).1 h
    obtain ⟨z, hz, hzr⟩ := run_zeroOf hZ hj
    obtain ⟨κ, dec, ke, a, hK, hE, h⟩ := h
    obtain ⟨d, hdj, hk, hd⟩ := lkK_spec (P := P) h
    refine ⟨d, hdj, hk, fun F R w vx vi hlen hs hx hi => ?_⟩
    have hvx := hx []
    simp only [conc] at hvx
    have hvi := (hE R).trans hi.conc
    have hf := hK.find a [] [] R rfl w
    have hc := hK.check true a R w
    rw [hvi] at hc hf
    refine ⟨_, ?_, hd R z false (hz R) (fun _ => rfl)⟩
    subst hvx
    simp only [Instr.lookup, Sem.run_bind, run_underlying hu, Result.andThen_ok]
    have e1 : (#[] : Array MapEntry).isEmpty = true := rfl
    simp only [Sem.run_pure, Sem.run_bind, Result.andThen_ok, e1, hc, hf, findAt, hzr]
def lenMK (H : List SObj) (x : D) (k : D → Prop) : Prop :=
  match x with
  | .mapr h => match getH H h with
    | .mp _ _ _ m => k (.int .i64 m.length)
    | _ => False
  | .nilm => k (.int .i64 0)
  | _ => False
theorem lenMK_spec {P : Program} {H : List SObj} {T kt et : TypeId} {x : D} {k : D → Prop} (hu : P.underlying T = some (.map kt et)) (h : lenMK H x k) : ∃ d, isJunk d = false ∧ k d ∧
    ∀ F R w vx ty, R.length = H.length → Sat (star (hpH R R H) F) w → Is R x vx → ∃ v, (Builtin.len_ #[T] ty #[vx]).run P w = .ok v w ∧ Is R d v := by
  have h0 : (#[T] : Array TypeId)[0]? = some T := rfl
  have h1 : ∀ vx : Value, (#[vx] : Array Value)[0]? = some vx := fun _ => rfl
  unfold lenMK at h
  split at h <;> try exact h.elim
  · split at h <;> try exact h.elim
    rename_i hh κ β dec ke ve m ho
    refine ⟨_, rfl, h, fun F R w vx ty hl hs hx => ⟨.int .i64 m.length, ?_, fun _ => rfl⟩⟩
    obtain ⟨hlt, b, es, clock, hR, hm, _, _, _, hb, _⟩ := map_there ho hl hs
    have hvx := hx []
    simp only [conc, mapV, List.append_nil, hR] at hvx
    subst hvx
    have hlen : es.size = m.length := by have := congrArg List.length (hm []); simpa using this
    simp only [Builtin.len_, h0, h1, Sem.run_bind, run_underlying hu, Result.andThen_ok, MapKept.run_getObj_map hb, Sem.run_pure, goInt, hlen]
  · refine ⟨_, rfl, h, fun F R w vx ty hl hs hx => ⟨.int .i64 0, ?_, fun _ => rfl⟩⟩
    have := hx.conc
    simp only [conc] at this
    subst this
    simp only [Builtin.len_, h0, h1, Sem.run_bind, run_underlying hu, Result.andThen_ok, Sem.run_pure, goInt]
end Go.Proofs.Ytdgnnboljgpcmaa.E
