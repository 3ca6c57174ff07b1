/- WsetApart, walked. -/
import Derived.Test.YtdgnnboljgpcmaaSe
namespace Go.Proofs.Ytdgnnboljgpcmaa.E
open Go
set_option maxRecDepth 4000
structure Held (T : Prop) : Prop where
  out : T
theorem share {T G : Prop} (main : Held T → G) (key : T) : G := main ⟨key⟩
def encB (b : Body) : D := .bytes 64 b
theorem encOK_body : EncOK 64 encB where
  size := fun _ => rfl
  stor := fun e R v hv u hu => by
    rw [← hv.conc] at hu
    simp [conc, encB, Value.cells] at hu
    obtain ⟨c, _, rfl⟩ := hu; rfl
abbrev var89 (n : Nat) : SObj := .var 89 (.st [.mapr n])
set_option maxRecDepth 60000 in
set_option maxHeartbeats 64000000 in
theorem f3 (A : HP) (v : Value) (s : List WOp) (o : WOp) (hv : RawW A v s) (hok : ∀ x ∈ s, x.s.length ≤ 9223372036854775807) (ho : o.s.length ≤ 9223372036854775807) :
    CallAt Try.prog 3 [.val v, encW o] [.res A] (fun d H => d = .tt ∧ H = [.res A]) := by
  refine callAt_of_execR zeros mixed (fn := Try.f3) rfl rfl rfl ?_
  obtain ⟨a, cap0, rfl, hraw⟩ := hv
  refine f12.lift [] rfl (fun _ => rfl) (by rintro d H1 ⟨rfl, rfl⟩ hj; cases hj) ?_
  rintro d H1 ⟨rfl, rfl⟩
  let S1 : Nat × Pages → St := fun x => ⟨slotsOf 223 [(0, .val (.slice a s.length cap0)), (3, .ptr 1 []), (5, .ptr 2 []), (6, .int .i64 x.1)], [.res A, .var 27 (encW o), var89 3, mpS x.2]⟩
  refine LoopN.of (Nat × Pages) (fun x => x.1 ≤ s.length ∧ x.1 ≤ 30 ∧ SInv x.2) (fun x => s.length - x.1) S1 (fun _ => Nat.le_of_ble_eq_true rfl) (0, []) ⟨Nat.zero_le _, Nat.zero_le _, ⟨List.nodup_nil, Nat.zero_le _⟩⟩ ?_ ?_
  · exact ⟨Eqv.rfl, Eqv.rfl, Eqv.rfl, Eqv.rfl, EqvO.rfl, EqvO.rfl, EqvO.rfl, EqvO.rfl, trivial⟩
  rintro ⟨i, m⟩ ⟨hi, hi30, inv⟩
  dsimp only [S1] at hi hi30 inv ⊢
  have hw : IntKind.i64.wrap ((i : Int) + 1) = ((i + 1 : Nat) : Int) := by rw [w64 (by omega)]; rfl
  let S2 : Nat × Nat × List UInt16 × Nat → St := fun x => ⟨slotsOf 223 [(3, .ptr 1 []), (5, .ptr 2 []), (7, .slc 4 [] 1 0 x.2.2.1.length x.2.2.2), (8, .slc 5 [] 64 0 (x.2.2.1.take x.1).length x.2.1), (61, .slc 4 [] 1 0 x.2.2.1.length x.2.2.2), (62, .int .i64 x.2.2.1.length), (63, .int .i64 x.1)],
    [.res A, .var 27 (encW o), var89 3, mpS m, .vec 23 1 kP x.2.2.1 x.2.2.2, .vec 25 64 encB ((x.2.2.1.take x.1).map fun p => (readP m p).1) x.2.1]⟩
  let I2 : Nat × Nat × List UInt16 × Nat → Prop := fun x => x.1 ≤ x.2.2.1.length ∧ PagesOf m x.2.2.1 ∧ x.1 ≤ x.2.1
  apply share
  case main =>
    intro key
    refine And.intro (fun h => ?_) (fun h => ?_)
    · have hi' : i < s.length := by have := of_decide_eq_true h; omega
      refine And.intro (fun h => ?_) (fun h => ?_)
      · have hi30' : i < 30 := by have := of_decide_eq_true h; omega
        have hs : s[i]? = some s[i] := List.getElem?_eq_getElem hi'
        obtain ⟨b, off, rfl, hat⟩ := hraw i _ hs
        refine DrawAt.tail 21 (by kernel_rfl) ?_
        refine And.intro ⟨by omega, by omega⟩ ?_
        refine ⟨_, rawPage hat, ?_⟩
        refine And.intro ⟨by omega, by omega⟩ ?_
        refine ⟨_, rawBase hat, ?_⟩
        refine And.intro ⟨by omega, by omega⟩ ?_
        refine ⟨_, rawOff hat, ?_⟩
        refine And.intro ⟨by omega, by omega⟩ ?_
        refine ⟨_, rawS hat, ?_⟩
        refine (f13 m s[i].page s[i].base s[i].off s[i].s (hok _ (List.getElem_mem _))).lift [2, 3] rfl (fun _ => rfl) (by rintro d H1 ⟨rfl, rfl⟩ hj; cases hj) ?_
        refine ⟨EqvO.rfl, EqvO.rfl, ?_⟩
        rintro d H1 ⟨rfl, rfl⟩
        have inv' := write_inv inv s[i].page s[i].base s[i].off s[i].s
        refine ⟨(i + 1, _), ⟨⟨hi', hi30', inv'⟩, by show s.length - (i + 1) < s.length - i; omega⟩, ?_⟩
        exact ⟨Eqv.rfl, Eqv.rfl, Eqv.rfl, Eqv.of (congrArg (D.int .i64) hw), EqvO.rfl, EqvO.rfl, EqvO.rfl, EqvO.rfl, trivial⟩
      · refine (f14 m inv.len).lift [2, 3] rfl (fun _ => rfl) (by rintro d H1 ⟨ys, cap, _, rfl, rfl⟩ hj; cases hj) ?_
        refine ⟨EqvO.rfl, EqvO.rfl, ?_⟩
        rintro d H1 ⟨ys, cap, hy, rfl, rfl⟩
        refine LoopN.nil (S2 (0, 0, ys, cap)) ?_ ?_
        · exact ⟨EqvN.rfl, EqvN.rfl, EqvN.rfl, EqvN.nil, EqvN.rfl, EqvN.rfl, EqvN.rfl, EqvON.rfl, EqvON.rfl, EqvON.rfl, EqvON.rfl, EqvON.rfl, rfl, rfl⟩
        refine LoopN.ofR (Nat × Nat × List UInt16 × Nat) I2 (fun x => x.2.2.1.length - x.1) S2 (fun _ => Nat.le_of_ble_eq_true rfl) (0, 0, ys, cap) ⟨Nat.zero_le _, hy, Nat.zero_le _⟩ ?_ key.out
        exact ⟨Eqv.rfl, Eqv.rfl, Eqv.rfl, Eqv.rfl, Eqv.rfl, Eqv.rfl, Eqv.rfl, EqvO.rfl, EqvO.rfl, EqvO.rfl, EqvO.rfl, EqvO.rfl, EqvO.rfl, trivial⟩
    · refine (f14 m inv.len).lift [2, 3] rfl (fun _ => rfl) (by rintro d H1 ⟨ys, cap, _, rfl, rfl⟩ hj; cases hj) ?_
      refine ⟨EqvO.rfl, EqvO.rfl, ?_⟩
      rintro d H1 ⟨ys, cap, hy, rfl, rfl⟩
      refine LoopN.nil (S2 (0, 0, ys, cap)) ?_ ?_
      · exact ⟨EqvN.rfl, EqvN.rfl, EqvN.rfl, EqvN.nil, EqvN.rfl, EqvN.rfl, EqvN.rfl, EqvON.rfl, EqvON.rfl, EqvON.rfl, EqvON.rfl, EqvON.rfl, rfl, rfl⟩
      refine LoopN.ofR (Nat × Nat × List UInt16 × Nat) I2 (fun x => x.2.2.1.length - x.1) S2 (fun _ => Nat.le_of_ble_eq_true rfl) (0, 0, ys, cap) ⟨Nat.zero_le _, hy, Nat.zero_le _⟩ ?_ key.out
      exact ⟨Eqv.rfl, Eqv.rfl, Eqv.rfl, Eqv.rfl, Eqv.rfl, Eqv.rfl, Eqv.rfl, EqvO.rfl, EqvO.rfl, EqvO.rfl, EqvO.rfl, EqvO.rfl, EqvO.rfl, trivial⟩
  case key =>
  rintro ⟨j, cap2, ys, cap⟩ ⟨hj, hy, hcap2⟩
  dsimp only [S2, I2] at hj hy hcap2 ⊢
  have hyl : ys.length ≤ 4 := by have := hy.1.length_eq; have := inv.len; simp at *; omega
  refine And.intro (fun h => ?_) (fun h => ?_)
  · have hj' : j < ys.length := by have := of_decide_eq_true h; omega
    have hwj : IntKind.i64.wrap ((j : Int) + 1) = ((j + 1 : Nat) : Int) := by rw [w64 (by omega)]; rfl
    refine And.intro ⟨by omega, by omega⟩ ?_
    refine And.intro (by omega) ?_
    refine And.intro (by omega) ?_
    intro y hy'
    have hy2 : ys[j]? = some y := by simpa using hy'
    have htk : ys.take (j + 1) = ys.take j ++ [y] := by rw [List.take_add_one, hy2]; rfl
    refine (f15 m y).c [2, 3] rfl (fun _ => rfl) (by exact ⟨EqvS.rfl, EqvS.rfl, trivial⟩) ?_
    have hml : ((ys.take j).map fun p => (readP m p).1).length = j := by simp; omega
    have hml2 : (ys.take j).length = j := by simp; omega
    refine And.intro (by omega) ?_
    refine And.intro (fun _ => rfl) ?_
    refine And.intro (by omega) ?_
    refine And.intro (by omega) ?_
    refine ⟨Body, encB, (ys.take (j + 1)).map fun p => (readP m p).1, ⟨?_, fun R => congrArg (cellsL R) ?_⟩, encOK_body, ?_, ?_⟩
    · rw [htk]; simp
    · have e1 : (List.drop 0 ((ys.take j).map fun p => (readP m p).1)).take (ys.take j).length = (ys.take j).map fun p => (readP m p).1 := by
        rw [List.drop_zero]; exact List.take_of_length_le (by simp)
      rw [e1, htk, List.map_append, List.map_append]
      rfl
    · have : Try.prog.bytesOf 25 = 64 := by kernel_rfl
      rw [this, htk]
      simp only [List.length_map, List.length_append, List.length_cons, List.length_nil]
      omega
    intro cap' hcap'
    have hl1 : (ys.take (j + 1)).length = j + 1 := by simp; omega
    rw [List.length_map, hl1] at hcap'
    refine ⟨(j + 1, cap', ys, cap), ⟨⟨hj', hy, hcap'⟩, by show ys.length - (j + 1) < ys.length - j; omega⟩, [0, 1, 2, 3, 4, 8], ?_⟩
    refine ⟨Eqv.rfl, Eqv.rfl, Eqv.rfl, Eqv.of ?_, Eqv.rfl, Eqv.rfl, Eqv.of (congrArg (D.int .i64) hwj), EqvO.rfl, EqvO.rfl, EqvO.rfl, EqvO.rfl, EqvO.rfl, EqvO.rfl, trivial⟩
    rw [List.length_map]; rfl
  · have hj' : j = ys.length := by have := of_decide_eq_false h; omega
    subst hj'
    rw [List.take_length]
    refine (f15 m o.page).c [2, 3] rfl (fun _ => rfl) (by exact ⟨EqvS.rfl, EqvS.rfl, trivial⟩) ?_
    refine (f13 m o.page o.base o.off o.s ho).lift [2, 3] rfl (fun _ => rfl) (by rintro d H1 ⟨rfl, rfl⟩ hj; cases hj) ?_
    refine ⟨EqvO.rfl, EqvO.rfl, ?_⟩
    rintro d H1 ⟨rfl, rfl⟩
    obtain ⟨r, hr⟩ : ∃ r, r = writeP m o.page o.base o.off o.s := ⟨_, rfl⟩
    have inv' := write_inv inv o.page o.base o.off o.s
    have hthere : ∀ q, q ∈ ys → (readP r.2 q).2 = true := fun q hq => by rw [hr]; exact write_there (hy.1.mem_iff.1 hq)
    have hother : ∀ q, q ≠ o.page → readP r.2 q = readP m q := fun q hq => by rw [hr]; exact write_other hq
    rw [← hr] at inv' ⊢
    let S3 : Nat → St := fun j => ⟨slotsOf 223 [(3, .ptr 1 []), (5, .ptr 2 []), (7, .slc 4 [] 1 0 ys.length cap), (8, .slc 5 [] 64 0 ys.length cap2), (13, .ptr 6 []), (14, .bool (readP m o.page).2), (15, .int .i64 r.1), (95, .slc 4 [] 1 0 ys.length cap), (96, .int .i64 ys.length), (97, .int .i64 j)],
      [.res A, .var 27 (encW o), var89 3, mpS r.2, .vec 23 1 kP ys cap, .vec 25 64 encB (ys.map fun p => (readP m p).1) cap2, .var 25 (.bytes 64 (readP m o.page).1)]⟩
    refine LoopN.ofR Nat (fun j => j ≤ ys.length) (fun j => ys.length - j) S3 (fun _ => Nat.le_of_ble_eq_true rfl) 0 (Nat.zero_le _) ?_ ?_
    · exact ⟨Eqv.rfl, Eqv.rfl, Eqv.rfl, Eqv.rfl, Eqv.rfl, Eqv.rfl, Eqv.rfl, Eqv.rfl, Eqv.rfl, Eqv.rfl, EqvO.rfl, EqvO.rfl, EqvO.rfl, EqvO.rfl, EqvO.rfl, EqvO.rfl, EqvO.rfl, trivial⟩
    rintro j hj
    dsimp only [S3] at hj ⊢
    refine And.intro (fun h => ?_) (fun h => ?_)
    · have hj' : j < ys.length := by have := of_decide_eq_true h; omega
      have hwj : IntKind.i64.wrap ((j : Int) + 1) = ((j + 1 : Nat) : Int) := by rw [w64 (by omega)]; rfl
      refine And.intro ⟨by omega, by omega⟩ ?_
      refine And.intro (by omega) ?_
      refine And.intro (by omega) ?_
      intro y hy'
      have hy2 : ys[j]? = some y := by simpa using hy'
      have hymem : y ∈ ys := List.mem_of_getElem? hy2
      have hyt := hthere y hymem
      refine (f15 r.2 y).c [2, 3] rfl (fun _ => rfl) (by exact ⟨EqvS.rfl, EqvS.rfl, trivial⟩) ?_
      refine DrawAt.all (by kernel_rfl) ?_
      refine And.intro (fun h => absurd h (by rw [hyt]; decide)) (fun _ => ?_)
      refine And.intro (fun h => ?_) (fun h => ?_)
      · have hne : y ≠ o.page := by
          have h' : ¬ ((y.toNat : Int) = o.page.toNat) := by simpa using h
          exact fun e => h' (u16i.2 e)
        refine And.intro ⟨by omega, by omega⟩ ?_
        refine And.intro (by simp; omega) ?_
        refine And.intro (by simp; omega) ?_
        intro w hw'
        have hww : w = (readP m y).1 := by
          simp only [Nat.zero_add, Int.toNat_natCast, List.getElem?_map, hy2, Option.map_some, Option.some.injEq] at hw'
          exact hw'.symm
        refine ⟨_, eqBody _ _, ?_⟩
        refine And.intro (fun h => absurd h ?_) (fun _ => ?_)
        · rw [hww, hother y hne]; simp
        refine ⟨j + 1, ⟨hj', by omega⟩, [0, 1, 2, 3, 4, 5, 6], ?_⟩
        exact ⟨Eqv.rfl, Eqv.rfl, Eqv.rfl, Eqv.rfl, Eqv.rfl, Eqv.rfl, Eqv.rfl, Eqv.rfl, Eqv.rfl, Eqv.of (congrArg (D.int .i64) hwj), EqvO.rfl, EqvO.rfl, EqvO.rfl, EqvO.rfl, EqvO.rfl, EqvO.rfl, EqvO.rfl, trivial⟩
      · refine ⟨j + 1, ⟨hj', by omega⟩, [0, 1, 2, 3, 4, 5, 6], ?_⟩
        exact ⟨Eqv.rfl, Eqv.rfl, Eqv.rfl, Eqv.rfl, Eqv.rfl, Eqv.rfl, Eqv.rfl, Eqv.rfl, Eqv.rfl, Eqv.of (congrArg (D.int .i64) hwj), EqvO.rfl, EqvO.rfl, EqvO.rfl, EqvO.rfl, EqvO.rfl, EqvO.rfl, EqvO.rfl, trivial⟩
    · refine (f15 r.2 o.page).c [2, 3] rfl (fun _ => rfl) (by exact ⟨EqvS.rfl, EqvS.rfl, trivial⟩) ?_
      refine And.intro (fun h => ?_) (fun h => ?_)
      · have hr0 : r.1 ≠ 0 := by simpa using h
        have hrm : r.2 = m := by rw [hr]; exact write_not (by rw [← hr]; exact hr0)
        rw [hrm]
        refine ⟨_, eqBody _ _, ?_⟩
        refine And.intro (fun _ => ?_) (fun h => absurd h (by simp))
        refine And.intro (fun _ => ?_) (fun h => absurd h (by simp))
        refine (f14 m inv.len).lift [2, 3] rfl (fun _ => rfl) (by rintro d H1 ⟨ys, cap, _, rfl, rfl⟩ hj; cases hj) ?_
        refine ⟨EqvO.rfl, EqvO.rfl, ?_⟩
        rintro d H1 ⟨zs, capz, hz, rfl, rfl⟩
        have hzl : zs.length = ys.length := by rw [hz.1.length_eq, hy.1.length_eq]
        refine And.intro (fun _ => ?_) (fun h => absurd h (by rw [hzl]; simp))
        refine f16.c ?_
        exact ⟨[0], _, _, ⟨rfl, rfl⟩, trivial, Eqv.rfl, EqvO.rfl, trivial⟩
      · have hr0 : r.1 = 0 := by simpa using h
        obtain ⟨hkw, hnow, _⟩ := write_done (m := m) (p := o.page) (base := o.base) (off := o.off) (s := o.s) (by rw [← hr]; exact hr0)
        rw [← hr] at hnow
        obtain ⟨x, hx⟩ : ∃ x, x = if (readP m o.page).2 then (readP m o.page).1 else o.base := ⟨_, rfl⟩
        rw [← hx] at hnow
        rw [hnow]
        obtain ⟨had, hhad⟩ : ∃ had, had = (readP m o.page).2 := ⟨_, rfl⟩
        obtain ⟨mine, hmine⟩ : ∃ mine, mine = (readP m o.page).1 := ⟨_, rfl⟩
        rw [← hhad, ← hmine] at hx ⊢
        simp only [okW, Bool.and_eq_true, decide_eq_true_eq] at hkw
        obtain ⟨⟨w1, w2⟩, w3⟩ := hkw
        obtain ⟨now, hnw⟩ : ∃ now, now = splice x o.off.toNat o.s := ⟨_, rfl⟩
        rw [← hnw]
        have hin : ∀ (k : Nat) (hk : k < 64), o.off.toNat ≤ k → ∀ c, o.s[k - o.off.toNat]? = some c → now[k] = c := fun k hk h1 c hc => by
          obtain ⟨h2, rfl⟩ := List.getElem?_eq_some_iff.1 hc
          rw [hnw]; simp only [splice, Vector.getElem_ofFn]
          rw [if_pos ⟨h1, by omega⟩, hc]; rfl
        have hout : ∀ (k : Nat) (hk : k < 64), ¬ (o.off.toNat ≤ k ∧ k < o.off.toNat + o.s.length) → now[k] = x[k] := fun k hk h1 => by
          rw [hnw]; simp only [splice, Vector.getElem_ofFn]
          rw [if_neg h1]
        let S4 : Nat → St := fun k => ⟨slotsOf 223 [(3, .ptr 1 []), (13, .ptr 6 []), (14, .bool had), (20, .ptr 7 []), (21, .bool true), (22, .int .i64 k)],
          [.res A, .var 27 (encW o), var89 3, mpS r.2, .vec 23 1 kP ys cap, .vec 25 64 encB (ys.map fun p => (readP m p).1) cap2, .var 25 (.bytes 64 mine), .var 25 (.bytes 64 now)]⟩
        refine LoopN.of Nat (fun k => k ≤ 64) (fun k => 64 - k) S4 (fun _ => Nat.le_of_ble_eq_true rfl) 0 (Nat.zero_le _) ?_ ?_
        · exact ⟨Eqv.rfl, Eqv.rfl, Eqv.rfl, Eqv.rfl, Eqv.rfl, Eqv.rfl, EqvO.rfl, EqvO.rfl, EqvO.rfl, EqvO.rfl, EqvO.rfl, EqvO.rfl, EqvO.rfl, EqvO.rfl, trivial⟩
        rintro k hk
        dsimp only [S4] at hk ⊢
        refine And.intro (fun h => ?_) (fun h => ?_)
        · have hk' : k < 64 := by have := of_decide_eq_true h; omega
          have hwk : IntKind.i64.wrap ((k : Int) + 1) = ((k + 1 : Nat) : Int) := by rw [w64 (by omega)]; rfl
          have hwo : IntKind.i64.wrap ((k : Int) - o.off) = (k : Int) - o.off := w64 (by omega)
          refine And.intro (fun h => ?_) (fun h => ?_)
          · have h1 : o.off ≤ k := of_decide_eq_true h
            refine DrawAt.all (by kernel_rfl) ?_
            refine And.intro (fun hd => ?_) (fun hd => ?_)
            · have h2 : (k : Int) - o.off < o.s.length := by rw [hwo] at hd; exact of_decide_eq_true hd
              refine And.intro ⟨by omega, by omega⟩ ?_
              refine And.intro (by omega) ?_
              intro c hc
              refine And.intro (by rw [hwo]; constructor <;> omega) ?_
              intro c' hc'
              have hcc : c = c' := by
                have e1 : now[k] = c := by
                  rw [Int.toNat_natCast, Vector.getElem?_eq_getElem hk'] at hc; exact Option.some.inj hc
                have e2 : o.s[k - o.off.toNat]? = some c' := by rw [← hc', hwo]; congr 1; omega
                rw [← e1]; exact hin k hk' (by omega) c' e2
              subst hcc
              refine And.intro (fun h => absurd h (by simp)) (fun _ => ?_)
              refine And.intro (fun h => absurd h (by rw [hd]; decide)) (fun _ => ?_)
              refine And.intro (fun h => absurd h (by rw [hd]; decide)) (fun _ => ?_)
              refine ⟨k + 1, ⟨hk', by omega⟩, ?_⟩
              exact ⟨Eqv.rfl, Eqv.rfl, Eqv.rfl, Eqv.rfl, Eqv.rfl, Eqv.of (congrArg (D.int .i64) hwk), EqvO.rfl, EqvO.rfl, EqvO.rfl, EqvO.rfl, EqvO.rfl, EqvO.rfl, EqvO.rfl, EqvO.rfl, trivial⟩
            · have h2 : ¬ ((k : Int) - o.off < o.s.length) := by rw [hwo] at hd; exact of_decide_eq_false hd
              refine And.intro (fun _ => ?_) (fun h => absurd h (by rw [hd]; decide))
              have hxk : now[k] = x[k] := hout k hk' (by omega)
              refine And.intro (fun hh => ?_) (fun hh => ?_)
              · have hxm : x = mine := by rw [hx, if_pos hh]
                refine And.intro ⟨by omega, by omega⟩ ?_
                refine And.intro (by omega) ?_
                intro c hc
                refine And.intro ⟨by omega, by omega⟩ ?_
                refine And.intro (by omega) ?_
                intro c' hc'
                have hcc : c = c' := by
                  rw [Int.toNat_natCast, Vector.getElem?_eq_getElem hk'] at hc hc'
                  rw [← Option.some.inj hc, ← Option.some.inj hc', hxk, hxm]
                subst hcc
                refine And.intro (fun h => absurd h (by simp)) (fun _ => ?_)
                refine And.intro (fun _ => ?_) (fun h => absurd h (by rw [hd]; decide))
                refine And.intro (fun h => absurd h (by rw [hh]; decide)) (fun _ => ?_)
                refine ⟨k + 1, ⟨hk', by omega⟩, ?_⟩
                exact ⟨Eqv.rfl, Eqv.rfl, Eqv.rfl, Eqv.rfl, Eqv.rfl, Eqv.of (congrArg (D.int .i64) hwk), EqvO.rfl, EqvO.rfl, EqvO.rfl, EqvO.rfl, EqvO.rfl, EqvO.rfl, EqvO.rfl, EqvO.rfl, trivial⟩
              · have hxb : x = o.base := by rw [hx, hh]; rfl
                refine And.intro (fun _ => ?_) (fun h => absurd h (by rw [hd]; decide))
                refine And.intro (fun _ => ?_) (fun h => absurd h (by rw [hh]; decide))
                refine And.intro ⟨by omega, by omega⟩ ?_
                refine And.intro (by omega) ?_
                intro c hc
                refine And.intro ⟨by omega, by omega⟩ ?_
                refine And.intro (by omega) ?_
                intro c' hc'
                have hcc : c = c' := by
                  rw [Int.toNat_natCast, Vector.getElem?_eq_getElem hk'] at hc hc'
                  rw [← Option.some.inj hc, ← Option.some.inj hc', hxk, hxb]
                subst hcc
                refine And.intro (fun h => absurd h (by simp)) (fun _ => ?_)
                refine ⟨k + 1, ⟨hk', by omega⟩, ?_⟩
                exact ⟨Eqv.rfl, Eqv.rfl, Eqv.rfl, Eqv.rfl, Eqv.rfl, Eqv.of (congrArg (D.int .i64) hwk), EqvO.rfl, EqvO.rfl, EqvO.rfl, EqvO.rfl, EqvO.rfl, EqvO.rfl, EqvO.rfl, EqvO.rfl, trivial⟩
          · have h1 : ¬ o.off ≤ k := of_decide_eq_false h
            refine DrawAt.all (by kernel_rfl) ?_
            have hxk : now[k] = x[k] := hout k hk' (by omega)
            refine And.intro (fun hh => ?_) (fun hh => ?_)
            · have hxm : x = mine := by rw [hx, if_pos hh]
              refine And.intro ⟨by omega, by omega⟩ ?_
              refine And.intro (by omega) ?_
              intro c hc
              refine And.intro ⟨by omega, by omega⟩ ?_
              refine And.intro (by omega) ?_
              intro c' hc'
              have hcc : c = c' := by
                rw [Int.toNat_natCast, Vector.getElem?_eq_getElem hk'] at hc hc'
                rw [← Option.some.inj hc, ← Option.some.inj hc', hxk, hxm]
              subst hcc
              refine And.intro (fun h => absurd h (by simp)) (fun _ => ?_)
              refine And.intro (fun h => absurd h (by rw [hh]; decide)) (fun _ => ?_)
              refine ⟨k + 1, ⟨hk', by omega⟩, ?_⟩
              exact ⟨Eqv.rfl, Eqv.rfl, Eqv.rfl, Eqv.rfl, Eqv.rfl, Eqv.of (congrArg (D.int .i64) hwk), EqvO.rfl, EqvO.rfl, EqvO.rfl, EqvO.rfl, EqvO.rfl, EqvO.rfl, EqvO.rfl, EqvO.rfl, trivial⟩
            · have hxb : x = o.base := by rw [hx, hh]; rfl
              refine And.intro (fun _ => ?_) (fun h => absurd h (by rw [hh]; decide))
              refine And.intro ⟨by omega, by omega⟩ ?_
              refine And.intro (by omega) ?_
              intro c hc
              refine And.intro ⟨by omega, by omega⟩ ?_
              refine And.intro (by omega) ?_
              intro c' hc'
              have hcc : c = c' := by
                rw [Int.toNat_natCast, Vector.getElem?_eq_getElem hk'] at hc hc'
                rw [← Option.some.inj hc, ← Option.some.inj hc', hxk, hxb]
              subst hcc
              refine And.intro (fun h => absurd h (by simp)) (fun _ => ?_)
              refine ⟨k + 1, ⟨hk', by omega⟩, ?_⟩
              exact ⟨Eqv.rfl, Eqv.rfl, Eqv.rfl, Eqv.rfl, Eqv.rfl, Eqv.of (congrArg (D.int .i64) hwk), EqvO.rfl, EqvO.rfl, EqvO.rfl, EqvO.rfl, EqvO.rfl, EqvO.rfl, EqvO.rfl, EqvO.rfl, trivial⟩
        · refine And.intro (fun _ => ?_) (fun h => absurd h (by decide))
          refine f16.c ?_
          exact ⟨[0], _, _, ⟨rfl, rfl⟩, trivial, Eqv.rfl, EqvO.rfl, trivial⟩
end Go.Proofs.Ytdgnnboljgpcmaa.E
