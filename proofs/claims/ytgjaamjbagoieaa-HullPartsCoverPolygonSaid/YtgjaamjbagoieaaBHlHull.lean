import Derived.Test.YtgjaamjbagoieaaBHlE
import Derived.Test.YtgjaamjbagoieaaBAmD
import Derived.Test.YtgjaamjbagoieaaBHuDed
set_option linter.unusedVariables false
set_option linter.unusedSimpArgs false
set_option linter.unnecessarySimpa false
/-
  THE HULL: what the program's hull gives.
-/
namespace Go.Hl
open Go Go.Am Go.Proofs Go.Hu

/-- Coordinates that leave room for a product. -/
def Bd (p : Pt) : Prop := (-1000000000 ≤ p.1 ∧ p.1 ≤ 1000000000) ∧ (-1000000000 ≤ p.2 ∧ p.2 ≤ 1000000000)
theorem mul_bd {a b : Int} (ha : -2000000000 ≤ a ∧ a ≤ 2000000000) (hb : -2000000000 ≤ b ∧ b ≤ 2000000000) : -4000000000000000000 ≤ a * b ∧ a * b ≤ 4000000000000000000 := by
  have h1 := Int.mul_nonneg (show 0 ≤ a + 2000000000 by omega) (show 0 ≤ b + 2000000000 by omega)
  have h2 := Int.mul_nonneg (show 0 ≤ 2000000000 - a by omega) (show 0 ≤ 2000000000 - b by omega)
  have h3 := Int.mul_nonneg (show 0 ≤ a + 2000000000 by omega) (show 0 ≤ 2000000000 - b by omega)
  have h4 := Int.mul_nonneg (show 0 ≤ 2000000000 - a by omega) (show 0 ≤ b + 2000000000 by omega)
  simp only [Int.add_mul, Int.mul_add, Int.sub_mul, Int.mul_sub] at h1 h2 h3 h4
  omega
theorem side_wrap {a b p : Pt} (ha : Bd a) (hb : Bd b) (hp : Bd p) : IntKind.i64.wrap (IntKind.i64.wrap (IntKind.i64.wrap (b.1 - a.1) * IntKind.i64.wrap (p.2 - a.2)) - IntKind.i64.wrap (IntKind.i64.wrap (b.2 - a.2) * IntKind.i64.wrap (p.1 - a.1))) = side a b p := by
  obtain ⟨⟨a1, a2⟩, a3, a4⟩ := ha
  obtain ⟨⟨b1, b2⟩, b3, b4⟩ := hb
  obtain ⟨⟨p1, p2⟩, p3, p4⟩ := hp
  rw [w64 (n := b.1 - a.1) (by omega) (by omega), w64 (n := p.2 - a.2) (by omega) (by omega), w64 (n := b.2 - a.2) (by omega) (by omega), w64 (n := p.1 - a.1) (by omega) (by omega)]
  have m1 := mul_bd (a := b.1 - a.1) (b := p.2 - a.2) (by omega) (by omega)
  have m2 := mul_bd (a := b.2 - a.2) (b := p.1 - a.1) (by omega) (by omega)
  rw [w64 (n := (b.1 - a.1) * (p.2 - a.2)) (by omega) (by omega), w64 (n := (b.2 - a.2) * (p.1 - a.1)) (by omega) (by omega), w64 (by omega) (by omega)]
  rfl
theorem sideEv {a b p : Pt} (ha : Bd a) (hb : Bd b) (hp : Bd p) : Ev (fun n => hullSide n a.1 a.2 b.1 b.2 p.1 p.2) (side a b p) := by
  refine Ev.of_eq 1 ?_
  simp only [hullSideEq, side_wrap ha hb hp]
  exact Ev.pure _
theorem beq_pt (a b : Pt) : Ty.beq (.pair (.int .i64) (.int .i64)) ((a.1, a.2) : Int × Int) ((b.1, b.2) : Int × Int) = decide (a = b) := by
  show (decide (a.1 = b.1) && decide (a.2 = b.2)) = decide (a = b)
  rw [← Bool.decide_and]
  exact decide_eq_decide.2 Prod.ext_iff.symm
theorem pop_suffix {p : Pt} : ∀ (l : List Pt), ∃ v, l = v ++ pop p l := by
  intro l
  induction l with
  | nil => exact ⟨[], rfl⟩
  | cons b l ih =>
    cases l with
    | nil => exact ⟨[], rfl⟩
    | cons a r =>
      unfold pop
      split
      · obtain ⟨v, hv⟩ := ih
        exact ⟨b :: v, by rw [List.cons_append, ← hv]⟩
      · exact ⟨[], rfl⟩
theorem take_pop {p : Pt} {B U xs : List Pt} {len : Nat} (h : xs.take len = B ++ U.reverse) (hl : len = B.length + U.length) : xs.take (B.length + (pop p U).length) = B ++ (pop p U).reverse ∧ (pop p U).length ≤ U.length := by
  obtain ⟨v, hv⟩ := pop_suffix (p := p) U
  have hle : (pop p U).length ≤ U.length := by
    have := congrArg List.length hv
    simp at this; omega
  refine ⟨?_, hle⟩
  have e : xs.take (B.length + (pop p U).length) = (xs.take len).take (B.length + (pop p U).length) := by rw [List.take_take]; congr 1; omega
  rw [e, h, List.take_append, List.take_of_length_le (by omega), Nat.add_sub_cancel_left]
  congr 1
  have h2 : U.reverse = (pop p U).reverse ++ v.reverse := by
    have := congrArg List.reverse hv
    rwa [List.reverse_append] at this
  rw [h2, List.take_append_of_le_length (by simp), List.take_of_length_le (by simp)]
def pushAll (U rest : List Pt) : List Pt := rest.foldl (fun st p => p :: pop p st) U
theorem push_take {p : Pt} {B V ys : List Pt} {k : Nat} (h : ys.take k = B ++ V.reverse) (hk : k = B.length + V.length) (hl : k ≤ ys.length) : ((ys.take k) ++ [p] ++ ys.drop (k + [p].length)).take (k + [p].length) = B ++ (p :: V).reverse ∧ k + [p].length ≤ ((ys.take k) ++ [p] ++ ys.drop (k + [p].length)).length := by
  refine ⟨?_, by simp; omega⟩
  have h1 : ((ys.take k) ++ [p]).length = k + [p].length := by simp; omega
  rw [List.take_append_of_le_length (by omega), List.take_of_length_le (by omega), h]
  simp

theorem hullOfc2L1Ev  (B : List Pt) (p : Pt) (hp : Bd p) (xs : List Pt) (least : Int) (hB : least = ((B.length + 1 : Nat) : Int)) : ∀ (U : List Pt), (∀ u ∈ U, Bd u) → ∀ (len : Nat), len = B.length + U.length → xs.take len = B ++ U.reverse → len ≤ xs.length → len < 1000000000000 →
    Ev (fun n => hullOfc2L1 n ((least, ((), ((), ()))), (((((len : Nat) : Int)), ()), (xs, ((p.1, (p.2, ())), ()))))) (((), ((), ())), (((((B.length + (pop p U).length : Nat) : Int)), ()), (xs, ((p.1, (p.2, ())), ())))) := by
  intro U
  induction U with
  | nil =>
    intro _ len hlen ht hle hlt
    simp only [List.length_nil, Nat.add_zero] at hlen
    refine Ev.of_eq 1 ?_
    simp (disch := omega) only [hullOfc2L1Eq, Int.toNat_natCast, br_neg]
    exact (Ev.pure _).congr (by simp only [pop, List.length_nil, Nat.add_zero, hlen])
  | cons b r ih =>
    intro hU len hlen ht hle hlt
    cases r with
    | nil =>
      simp only [List.length_cons, List.length_nil] at hlen
      refine Ev.of_eq 1 ?_
      simp (disch := omega) only [hullOfc2L1Eq, Int.toNat_natCast, br_neg]
      exact (Ev.pure _).congr (by simp only [pop, List.length_nil, List.length_cons, hlen])
    | cons a r =>
      have hlen' : len = B.length + r.length + 2 := by simp only [List.length_cons] at hlen; omega
      have hform : xs.take len = (B ++ r.reverse) ++ [a, b] := by rw [ht]; simp
      have hbl : (B ++ r.reverse).length = len - 2 := by simp; omega
      have g1 : xs[len - 2]? = some a := by
        have : (xs.take len)[len - 2]? = some a := by rw [hform, List.getElem?_append_right (by omega), hbl, Nat.sub_self]; rfl
        rwa [List.getElem?_take_of_lt (by omega)] at this
      have g2 : xs[len - 1]? = some b := by
        have : (xs.take len)[len - 1]? = some b := by rw [hform, List.getElem?_append_right (by omega), hbl, show len - 1 - (len - 2) = 1 by omega]; rfl
        rwa [List.getElem?_take_of_lt (by omega)] at this
      refine Ev.of_eq 1 ?_
      simp (disch := omega) only [hullOfc2L1Eq, Int.toNat_natCast, br_pos, wm1, wm2, tonat_sub1, tonat_sub2, Nat.zero_add, g1, g2, Option.bind_some]
      refine Ev.bind (sideEv (hU a (by simp)) (hU b (by simp)) hp) ?_
      by_cases hs : side a b p ≤ 0
      · simp (disch := omega) only [br_pos, hs]
        have hpop : pop p (b :: a :: r) = pop p (a :: r) := by rw [pop, if_pos hs]
        have := ih (fun u hu => hU u (List.mem_cons_of_mem _ hu)) (len - 1) (by simp only [List.length_cons]; omega) (by
          have : xs.take (len - 1) = (xs.take len).take (len - 1) := by rw [List.take_take]; congr 1; omega
          rw [this, ht]
          rw [show (b :: a :: r).reverse = (a :: r).reverse ++ [b] by simp, ← List.append_assoc]
          rw [List.take_append_of_le_length (by simp; omega)]
          rw [List.take_of_length_le (by simp; omega)]) (by omega) (by omega)
        rw [hpop]
        exact this
      · simp (disch := omega) only [br_neg, hs]
        have hpop : pop p (b :: a :: r) = b :: a :: r := by rw [pop, if_neg hs]
        exact (Ev.pure _).congr (by rw [hpop, hlen])

theorem hullOfc2L1v2Ev (c0 : List Pt) (c1 : Bool) (c2 c3 c4 c5 : Nat) (c6 : Int) (c7 c8 c9 c10 : Nat) (c11 c12 : Int) (c13 c14 : Nat) (s : List Pt) (l0 : Int) (m0 : Nat) (B : List Pt) (p : Pt) (hp : Bd p) (xs : List Pt) (least : Int) (hB : least = ((B.length + 1 : Nat) : Int)) : ∀ (U : List Pt), (∀ u ∈ U, Bd u) → ∀ (len : Nat), len = B.length + U.length → xs.take len = B ++ U.reverse → len ≤ xs.length → len < 1000000000000 →
    Ev (fun n => hullOfc2L1v2 n c0 c1 c2 c3 c4 c5 c6 c7 c8 c9 c10 c11 c12 c13 c14 ((least, ((), ((), ()))), (s, (((((len : Nat) : Int)), ()), ((((), ((), ())), ()), (xs, ((l0, ()), ((((m0 : Nat) : Int), ()), ((p.1, (p.2, ())), ()))))))))) (((), ((), ())), (s, (((((B.length + (pop p U).length : Nat) : Int)), ()), ((((), ((), ())), ()), (xs, ((l0, ()), ((((m0 : Nat) : Int), ()), ((p.1, (p.2, ())), ())))))))) := by
  intro U
  induction U with
  | nil =>
    intro _ len hlen ht hle hlt
    simp only [List.length_nil, Nat.add_zero] at hlen
    refine Ev.of_eq 1 ?_
    simp (disch := omega) only [hullOfc2L1v2Eq, Int.toNat_natCast, br_neg]
    exact (Ev.pure _).congr (by simp only [pop, List.length_nil, Nat.add_zero, hlen])
  | cons b r ih =>
    intro hU len hlen ht hle hlt
    cases r with
    | nil =>
      simp only [List.length_cons, List.length_nil] at hlen
      refine Ev.of_eq 1 ?_
      simp (disch := omega) only [hullOfc2L1v2Eq, Int.toNat_natCast, br_neg]
      exact (Ev.pure _).congr (by simp only [pop, List.length_nil, List.length_cons, hlen])
    | cons a r =>
      have hlen' : len = B.length + r.length + 2 := by simp only [List.length_cons] at hlen; omega
      have hform : xs.take len = (B ++ r.reverse) ++ [a, b] := by rw [ht]; simp
      have hbl : (B ++ r.reverse).length = len - 2 := by simp; omega
      have g1 : xs[len - 2]? = some a := by
        have : (xs.take len)[len - 2]? = some a := by rw [hform, List.getElem?_append_right (by omega), hbl, Nat.sub_self]; rfl
        rwa [List.getElem?_take_of_lt (by omega)] at this
      have g2 : xs[len - 1]? = some b := by
        have : (xs.take len)[len - 1]? = some b := by rw [hform, List.getElem?_append_right (by omega), hbl, show len - 1 - (len - 2) = 1 by omega]; rfl
        rwa [List.getElem?_take_of_lt (by omega)] at this
      refine Ev.of_eq 1 ?_
      simp (disch := omega) only [hullOfc2L1v2Eq, Int.toNat_natCast, br_pos, wm1, wm2, tonat_sub1, tonat_sub2, Nat.zero_add, g1, g2, Option.bind_some]
      refine Ev.bind (sideEv (hU a (by simp)) (hU b (by simp)) hp) ?_
      by_cases hs : side a b p ≤ 0
      · simp (disch := omega) only [br_pos, hs]
        have hpop : pop p (b :: a :: r) = pop p (a :: r) := by rw [pop, if_pos hs]
        have := ih (fun u hu => hU u (List.mem_cons_of_mem _ hu)) (len - 1) (by simp only [List.length_cons]; omega) (by
          have : xs.take (len - 1) = (xs.take len).take (len - 1) := by rw [List.take_take]; congr 1; omega
          rw [this, ht]
          rw [show (b :: a :: r).reverse = (a :: r).reverse ++ [b] by simp, ← List.append_assoc]
          rw [List.take_append_of_le_length (by simp; omega)]
          rw [List.take_of_length_le (by simp; omega)]) (by omega) (by omega)
        rw [hpop]
        exact this
      · simp (disch := omega) only [br_neg, hs]
        have hpop : pop p (b :: a :: r) = b :: a :: r := by rw [pop, if_neg hs]
        exact (Ev.pure _).congr (by rw [hpop, hlen])

theorem hullOfc2L1v3Ev (c0 : List Pt) (c1 : Bool) (c2 c3 c4 c5 : Nat) (c6 : Int) (c7 c8 c9 c10 : Nat) (c11 c12 : Int) (c13 c14 : Nat) (s : List Pt) (l0 : Int) (m0 : Nat) (B : List Pt) (p : Pt) (hp : Bd p) (xs : List Pt) (least : Int) (hB : least = ((B.length + 1 : Nat) : Int)) : ∀ (U : List Pt), (∀ u ∈ U, Bd u) → ∀ (len : Nat), len = B.length + U.length → xs.take len = B ++ U.reverse → len ≤ xs.length → len < 1000000000000 →
    Ev (fun n => hullOfc2L1v3 n c0 c1 c2 c3 c4 c5 c6 c7 c8 c9 c10 c11 c12 c13 c14 ((least, ((), ((), ()))), (s, (((((len : Nat) : Int)), ()), ((((), ((), ())), ()), ((), ((l0, ()), ((((m0 : Nat) : Int), ()), (xs, ((p.1, (p.2, ())), ())))))))))) (((), ((), ())), (s, (((((B.length + (pop p U).length : Nat) : Int)), ()), ((((), ((), ())), ()), ((), ((l0, ()), ((((m0 : Nat) : Int), ()), (xs, ((p.1, (p.2, ())), ()))))))))) := by
  intro U
  induction U with
  | nil =>
    intro _ len hlen ht hle hlt
    simp only [List.length_nil, Nat.add_zero] at hlen
    refine Ev.of_eq 1 ?_
    simp (disch := omega) only [hullOfc2L1v3Eq, Int.toNat_natCast, br_neg]
    exact (Ev.pure _).congr (by simp only [pop, List.length_nil, Nat.add_zero, hlen])
  | cons b r ih =>
    intro hU len hlen ht hle hlt
    cases r with
    | nil =>
      simp only [List.length_cons, List.length_nil] at hlen
      refine Ev.of_eq 1 ?_
      simp (disch := omega) only [hullOfc2L1v3Eq, Int.toNat_natCast, br_neg]
      exact (Ev.pure _).congr (by simp only [pop, List.length_nil, List.length_cons, hlen])
    | cons a r =>
      have hlen' : len = B.length + r.length + 2 := by simp only [List.length_cons] at hlen; omega
      have hform : xs.take len = (B ++ r.reverse) ++ [a, b] := by rw [ht]; simp
      have hbl : (B ++ r.reverse).length = len - 2 := by simp; omega
      have g1 : xs[len - 2]? = some a := by
        have : (xs.take len)[len - 2]? = some a := by rw [hform, List.getElem?_append_right (by omega), hbl, Nat.sub_self]; rfl
        rwa [List.getElem?_take_of_lt (by omega)] at this
      have g2 : xs[len - 1]? = some b := by
        have : (xs.take len)[len - 1]? = some b := by rw [hform, List.getElem?_append_right (by omega), hbl, show len - 1 - (len - 2) = 1 by omega]; rfl
        rwa [List.getElem?_take_of_lt (by omega)] at this
      refine Ev.of_eq 1 ?_
      simp (disch := omega) only [hullOfc2L1v3Eq, Int.toNat_natCast, br_pos, wm1, wm2, tonat_sub1, tonat_sub2, Nat.zero_add, g1, g2, Option.bind_some]
      refine Ev.bind (sideEv (hU a (by simp)) (hU b (by simp)) hp) ?_
      by_cases hs : side a b p ≤ 0
      · simp (disch := omega) only [br_pos, hs]
        have hpop : pop p (b :: a :: r) = pop p (a :: r) := by rw [pop, if_pos hs]
        have := ih (fun u hu => hU u (List.mem_cons_of_mem _ hu)) (len - 1) (by simp only [List.length_cons]; omega) (by
          have : xs.take (len - 1) = (xs.take len).take (len - 1) := by rw [List.take_take]; congr 1; omega
          rw [this, ht]
          rw [show (b :: a :: r).reverse = (a :: r).reverse ++ [b] by simp, ← List.append_assoc]
          rw [List.take_append_of_le_length (by simp; omega)]
          rw [List.take_of_length_le (by simp; omega)]) (by omega) (by omega)
        rw [hpop]
        exact this
      · simp (disch := omega) only [br_neg, hs]
        have hpop : pop p (b :: a :: r) = b :: a :: r := by rw [pop, if_neg hs]
        exact (Ev.pure _).congr (by rw [hpop, hlen])

/-! ### Up -/
theorem upEv (r0 : List Pt) (r1 : Bool) (s : List Pt) (m : Nat) (hm : m ≤ s.length) (hmm : m < 1000000000) (hs : ∀ x ∈ s.take m, Bd x) : ∀ (rest U : List Pt) (i : Nat) (ys : List Pt), (s.take m).drop i = rest → i ≤ m → (∀ u ∈ U, Bd u) → U.length ≤ i → ys.take U.length = U.reverse → U.length ≤ ys.length →
    ∃ ys', Ev (fun n => hullOfL9 n ((r0, (r1, (((m : Nat) : Int), ((), ((), (((m : Nat) : Int), (((m : Nat) : Int), (((i : Nat) : Int), ())))))))), (s, ((((U.length : Nat) : Int), ()), ((((), ((), ())), ()), (ys, ())))))) ((r0, (r1, (((m : Nat) : Int), ((), ((), ()))))), (s, (((((pushAll U rest).length : Nat) : Int), ()), ((((), ((), ())), ()), (ys', ()))))) ∧
      ys'.take (pushAll U rest).length = (pushAll U rest).reverse ∧ (pushAll U rest).length ≤ ys'.length ∧ (pushAll U rest).length ≤ m ∧ ∀ u ∈ pushAll U rest, Bd u := by
  intro rest
  induction rest with
  | nil =>
    intro U i ys hd hi hU hUi ht hl
    have hge := gdrop_nil hd
    rw [List.length_take] at hge
    refine ⟨ys, ?_, ht, hl, by show U.length ≤ m; omega, hU⟩
    refine Ev.of_eq 2 ?_
    simp (disch := omega) only [hullOfL9Eq, Int.toNat_natCast, br_neg]
    exact Ev.pure _
  | cons p rest ih =>
    intro U i ys hd hi hU hUi ht hl
    obtain ⟨h1, h2, h3⟩ := gdrop hd
    rw [List.length_take] at h3
    have hp : Bd p := hs p (List.mem_of_getElem? h1)
    have hsi : s[i]? = some p := by
      rw [List.getElem?_take] at h1
      split at h1
      · exact h1
      · cases h1
    have hU' : ∀ u ∈ p :: pop p U, Bd u := fun u hu => by
      rcases List.mem_cons.1 hu with rfl | hu
      · exact hp
      · exact hU u (pop_mem _ _ hu)
    obtain ⟨t1, t2⟩ := take_pop (p := p) (B := []) (U := U) (xs := ys) (len := U.length) (by simpa using ht) (by simp)
    simp only [List.length_nil, Nat.zero_add, List.nil_append] at t1
    obtain ⟨k1, k2⟩ := push_take (p := p) (B := []) (V := pop p U) (ys := ys) (k := (pop p U).length) (by simpa using t1) (by simp) (by omega)
    have hadd2 : (pop p U).length + [p].length = (p :: pop p U).length := by simp only [List.length_cons, List.length_nil]
    simp only [List.nil_append, hadd2] at k1 k2
    obtain ⟨ys', i1, i2⟩ := ih (p :: pop p U) (i + 1) (ys.take (pop p U).length ++ [p] ++ ys.drop (p :: pop p U).length) h2 (by omega) hU' (by simp only [List.length_cons]; omega) k1 k2
    refine ⟨ys', ?_, i2⟩
    refine Ev.of_eq 2 ?_
    simp (disch := omega) only [hullOfL9Eq, Int.toNat_natCast, br_pos, Nat.zero_add, hsi, Option.bind_some]
    have hpop := hullOfc2L1Ev [] p hp ys 1 rfl U hU U.length (by simp) (by simpa using ht) hl (by omega)
    simp only [List.length_nil, Nat.zero_add] at hpop
    refine Ev.bind hpop ?_
    have hcap : (pop p U).length ≤ ys.length ∧ ((pop p U).length + [(p.1, p.2)].length) * 16 ≤ 140737488355328 := ⟨by omega, by simp only [List.length_cons, List.length_nil]; omega⟩
    have hadd : (pop p U).length + [(p.1, p.2)].length = (p :: pop p U).length := by simp only [List.length_cons, List.length_nil]
    simp only [Int.toNat_natCast, br_pos hcap]
    simp (disch := omega) only [wr1, hadd]
    exact i1.shift 1

/-! ### Down -/
theorem downEv (c0 : List Pt) (c1 : Bool) (c2 c3 c4 c5 : Nat) (c6 : Int) (c7 c8 c9 c10 : Nat) (c11 c12 : Int) (c13 c14 : Nat) (B : List Pt) (l0 : Int) (hl0 : l0 = ((B.length + 1 : Nat) : Int)) (s : List Pt) (m0 : Nat) (hm : m0 ≤ s.length) (hmm : m0 < 1000000000) (hBl : B.length < 1000000000) (hs : ∀ x ∈ s.take m0, Bd x) : ∀ (k : Nat) (U ys : List Pt), k ≤ m0 → (∀ u ∈ U, Bd u) → U.length < 1000000000 - k → ys.take (B.length + U.length) = B ++ U.reverse → B.length + U.length ≤ ys.length →
    ∃ ys', Ev (fun n => slicesBackwardL1v2 n c0 c1 c2 c3 c4 c5 c6 c7 c8 c9 c10 c11 c12 c13 c14 ((((), ()), ((), ((((k : Nat) : Int) - 1), ()))), (s, ((((B.length + U.length : Nat) : Int), ()), ((((), ((), ())), ()), ((), ((l0, ()), ((((m0 : Nat) : Int), ()), ((), ((), (ys, ()))))))))))) ((), (s, ((((B.length + (pushAll U (s.take k).reverse).length : Nat) : Int), ()), ((((), ((), ())), ()), ((), ((l0, ()), ((((m0 : Nat) : Int), ()), ((), ((), (ys', ())))))))))) ∧
      ys'.take (B.length + (pushAll U (s.take k).reverse).length) = B ++ (pushAll U (s.take k).reverse).reverse ∧ B.length + (pushAll U (s.take k).reverse).length ≤ ys'.length ∧ (pushAll U (s.take k).reverse).length ≤ U.length + k := by
  intro k
  induction k with
  | zero =>
    intro U ys hk hU hUl ht hl
    refine ⟨ys, ?_, by simpa [pushAll] using ht, by simpa [pushAll] using hl, by simp [pushAll]⟩
    refine Ev.of_eq 3 ?_
    simp (disch := omega) only [slicesBackwardL1v2Eq, Int.toNat_natCast, br_neg, List.take_zero, List.reverse_nil, pushAll, List.foldl_nil]
    exact Ev.pure _
  | succ k ih =>
    intro U ys hk hU hUl ht hl
    have hlt : k < s.length := by omega
    have hsk : s[k]? = some s[k] := List.getElem?_eq_getElem hlt
    generalize s[k] = p at hsk
    have hp : Bd p := hs p (List.mem_of_getElem? (i := k) (by rw [List.getElem?_take_of_lt (by omega)]; exact hsk))
    have htk : (s.take (k + 1)).reverse = p :: (s.take k).reverse := by
      rw [List.take_add_one, hsk]; simp
    have hpa : pushAll U (s.take (k + 1)).reverse = pushAll (p :: pop p U) (s.take k).reverse := by rw [htk]; rfl
    have hU' : ∀ u ∈ p :: pop p U, Bd u := fun u hu => by
      rcases List.mem_cons.1 hu with rfl | hu
      · exact hp
      · exact hU u (pop_mem _ _ hu)
    obtain ⟨t1, t2⟩ := take_pop (p := p) (B := B) (U := U) (xs := ys) ht rfl
    obtain ⟨k1, k2⟩ := push_take (p := p) (B := B) (V := pop p U) (ys := ys) t1 rfl (by omega)
    have hadd : B.length + (pop p U).length + [p].length = B.length + (p :: pop p U).length := by simp only [List.length_cons, List.length_nil]; omega
    rw [hadd] at k1 k2
    obtain ⟨ys', i1, i2, i3, i4⟩ := ih (p :: pop p U) _ (by omega) hU' (by simp only [List.length_cons]; omega) k1 k2
    rw [hpa]
    refine ⟨ys', ?_, i2, i3, by simp only [List.length_cons] at i4; omega⟩
    have e1 : (((k + 1 : Nat) : Int) - 1) = (k : Int) := by omega
    refine Ev.of_eq 3 ?_
    rw [e1]
    simp (disch := omega) only [slicesBackwardL1v2Eq, Int.toNat_natCast, br_pos, Nat.zero_add, hsk, Option.bind_some]
    refine Ev.bind (hullOfc2L1v3Ev c0 c1 c2 c3 c4 c5 c6 c7 c8 c9 c10 c11 c12 c13 c14 s l0 m0 B p hp ys l0 hl0 U hU _ rfl ht hl (by omega)) ?_
    have hcap : B.length + (pop p U).length ≤ ys.length ∧ (B.length + (pop p U).length + [(p.1, p.2)].length) * 16 ≤ 140737488355328 := ⟨by omega, by simp only [List.length_cons, List.length_nil]; omega⟩
    have hadd' : B.length + (pop p U).length + [(p.1, p.2)].length = B.length + (p :: pop p U).length := hadd
    simp only [Int.toNat_natCast, br_pos hcap]
    simp (disch := omega) only [wm1, hadd']
    exact i1.shift 2
theorem down1Ev (c0 : List Pt) (c1 : Bool) (c2 c3 c4 c5 : Nat) (c6 : Int) (c7 c8 c9 c10 : Nat) (c11 c12 : Int) (c13 c14 : Nat) (B : List Pt) (l0 : Int) (hl0 : l0 = ((B.length + 1 : Nat) : Int)) (s : List Pt) (m0 : Nat) (hm : m0 ≤ s.length) (h0 : 0 < m0) (hmm : m0 < 1000000000) (hBl : B.length < 1000000000) (hs : ∀ x ∈ s.take m0, Bd x) (U ys : List Pt) (hU : ∀ u ∈ U, Bd u) (hUl : U.length < 1000000000 - m0) (ht : ys.take (B.length + U.length) = B ++ U.reverse) (hl : B.length + U.length ≤ ys.length) :
    ∃ ys', Ev (fun n => slicesBackwardL1 n c0 c1 c2 c3 c4 c5 c6 c7 c8 c9 c10 c11 c12 c13 c14 ((((), ()), ((), ((((m0 : Nat) : Int) - 1), ()))), (s, ((((B.length + U.length : Nat) : Int), ()), ((((), ((), ())), ()), (ys, ((l0, ()), ((((m0 : Nat) : Int), ()), ())))))))) (.inl ((), (s, ((((B.length + (pushAll U (s.take m0).reverse).length : Nat) : Int), ()), ((((), ((), ())), ()), ((), ((l0, ()), ((((m0 : Nat) : Int), ()), ((), ((), (ys', ()))))))))))) ∧
      ys'.take (B.length + (pushAll U (s.take m0).reverse).length) = B ++ (pushAll U (s.take m0).reverse).reverse ∧ B.length + (pushAll U (s.take m0).reverse).length ≤ ys'.length ∧ (pushAll U (s.take m0).reverse).length ≤ U.length + m0 := by
  obtain ⟨k, rfl⟩ : ∃ k, m0 = k + 1 := ⟨m0 - 1, by omega⟩
  have hlt : k < s.length := by omega
  have hsk : s[k]? = some s[k] := List.getElem?_eq_getElem hlt
  generalize s[k] = p at hsk
  have hp : Bd p := hs p (List.mem_of_getElem? (i := k) (by rw [List.getElem?_take_of_lt (by omega)]; exact hsk))
  have htk : (s.take (k + 1)).reverse = p :: (s.take k).reverse := by
    rw [List.take_add_one, hsk]; simp
  have hpa : pushAll U (s.take (k + 1)).reverse = pushAll (p :: pop p U) (s.take k).reverse := by rw [htk]; rfl
  have hU' : ∀ u ∈ p :: pop p U, Bd u := fun u hu => by
    rcases List.mem_cons.1 hu with rfl | hu
    · exact hp
    · exact hU u (pop_mem _ _ hu)
  obtain ⟨t1, t2⟩ := take_pop (p := p) (B := B) (U := U) (xs := ys) ht rfl
  obtain ⟨k1, k2⟩ := push_take (p := p) (B := B) (V := pop p U) (ys := ys) t1 rfl (by omega)
  have hadd : B.length + (pop p U).length + [p].length = B.length + (p :: pop p U).length := by simp only [List.length_cons, List.length_nil]; omega
  rw [hadd] at k1 k2
  obtain ⟨ys', i1, i2, i3, i4⟩ := downEv c0 c1 c2 c3 c4 c5 c6 c7 c8 c9 c10 c11 c12 c13 c14 B l0 hl0 s (k + 1) hm hmm hBl hs k (p :: pop p U) _ (by omega) hU' (by simp only [List.length_cons]; omega) k1 k2
  rw [hpa]
  refine ⟨ys', ?_, i2, i3, by simp only [List.length_cons] at i4; omega⟩
  have e1 : (((k + 1 : Nat) : Int) - 1) = (k : Int) := by omega
  refine Ev.of_eq 3 ?_
  rw [e1]
  simp (disch := omega) only [slicesBackwardL1Eq, Int.toNat_natCast, br_pos, Nat.zero_add, hsk, Option.bind_some]
  refine Ev.bind (hullOfc2L1v2Ev c0 c1 c2 c3 c4 c5 c6 c7 c8 c9 c10 c11 c12 c13 c14 s l0 (k + 1) B p hp ys l0 hl0 U hU _ rfl ht hl (by omega)) ?_
  have hcap : B.length + (pop p U).length ≤ ys.length ∧ (B.length + (pop p U).length + [(p.1, p.2)].length) * 16 ≤ 140737488355328 := ⟨by omega, by simp only [List.length_cons, List.length_nil]; omega⟩
  have hadd' : B.length + (pop p U).length + [(p.1, p.2)].length = B.length + (p :: pop p U).length := hadd
  simp only [Int.toNat_natCast, br_pos hcap]
  simp (disch := omega) only [wm1, hadd']
  refine Ev.bind (i1.shift 2) ?_
  simp only [Int.toNat_natCast]
  exact Ev.pure _

/-! ### Compact -/
theorem ddf_take_succ {t : List Pt} {i : Nat} {x y : Pt} (hx : t[i + 1]? = some x) (hy : t[i]? = some y) : ddf (t.take (i + 2)) = if y = x then ddf (t.take (i + 1)) else ddf (t.take (i + 1)) ++ [x] := by
  have e : t.take (i + 2) = t.take (i + 1) ++ [x] := by rw [List.take_add_one, hx]; rfl
  rw [e, ddf_snoc']
  have hl : (t.take (i + 1)).getLast? = some y := by rw [List.take_add_one, hy]; simp
  rw [hl]
  by_cases h : y = x
  · rw [if_pos h, if_pos (by rw [h])]
  · rw [if_neg h, if_neg (fun e => h (Option.some.inj e))]

theorem compEv9 (t : List Pt) (n k0 : Nat) (hn : n = t.length) (hnn : n < 1000000000) (hk0 : 1 ≤ k0) : ∀ (j k2 : Nat) (row : List Pt) (kk : Nat), k0 + k2 + j = n → 1 ≤ k2 → row.length = n → row.drop (k0 + k2 - 1) = t.drop (k0 + k2 - 1) → row.take kk = ddf (t.take (k0 + k2)) → kk = (ddf (t.take (k0 + k2))).length → kk ≤ k0 + k2 - 1 →
    ∃ row', Ev (fun m => slicesCompactL9 m ((((n : Nat) : Int), (((kk : Nat) : Int), ((((k0 : Nat) : Int), ((n - k0 : Nat) : Int)), (((k2 : Nat) : Int), ())))), (row, ()))) ((((n : Nat) : Int), ((((ddf t).length : Nat) : Int), ())), (row', ())) ∧ row'.take (ddf t).length = ddf t ∧ row'.length = n := by
  intro j
  induction j with
  | zero =>
    intro k2 row kk hj h2 hl hd ht hkk hle
    have hall : t.take (k0 + k2) = t := List.take_of_length_le (by omega)
    rw [hall] at ht hkk
    refine ⟨row, ?_, by rw [← hkk]; exact ht, hl⟩
    refine Ev.of_eq 1 ?_
    simp (disch := omega) only [slicesCompactL9Eq, Int.toNat_natCast, br_neg]
    rw [hkk]
    exact Ev.pure _
  | succ j ih =>
    intro k2 row kk hj h2 hl hd ht hkk hle
    obtain ⟨i, hi⟩ : ∃ i, k0 + k2 = i + 1 := ⟨k0 + k2 - 1, by omega⟩
    have hi' : k0 + (k2 - 1) = i := by omega
    rw [hi] at hd ht hkk hle hj
    simp only [Nat.add_sub_cancel] at hd hle
    have g0 : row[i]? = t[i]? := by
      have := congrArg (fun l => l[0]?) hd
      simpa [List.getElem?_drop] using this
    have g1 : row[i + 1]? = t[i + 1]? := by
      have := congrArg (fun l => l[1]?) hd
      simpa [List.getElem?_drop] using this
    obtain ⟨y, hy⟩ : ∃ y, t[i]? = some y := ⟨t[i]'(by omega), List.getElem?_eq_getElem _⟩
    obtain ⟨x, hx⟩ : ∃ x, t[i + 1]? = some x := ⟨t[i + 1]'(by omega), List.getElem?_eq_getElem _⟩
    rw [hy] at g0; rw [hx] at g1
    have hs := ddf_take_succ hx hy
    have hd1 : row.drop (i + 1) = t.drop (i + 1) := by
      rw [← List.drop_drop, hd, List.drop_drop]
    by_cases hxy : y = x
    · rw [if_pos hxy] at hs
      obtain ⟨row', r1, r2⟩ := ih (k2 + 1) row kk (by omega) (by omega) hl (by rw [show k0 + (k2 + 1) - 1 = i + 1 by omega]; exact hd1) (by rw [show k0 + (k2 + 1) = i + 2 by omega, hs]; exact ht) (by rw [show k0 + (k2 + 1) = i + 2 by omega, hs]; exact hkk) (by omega)
      refine ⟨row', ?_, r2⟩
      refine Ev.of_eq 1 ?_
      have hb : (!decide (x = y)) = false := by rw [decide_eq_true hxy.symm]; rfl
      simp (disch := omega) only [slicesCompactL9Eq, Int.toNat_natCast, br_pos, wm1, tonat_sub1, hi, hi', g0, g1, Option.bind_some, beq_pt, hb, br_f, wr1]
      exact r1
    · rw [if_neg hxy] at hs
      have hkl : kk < row.length := by omega
      obtain ⟨row', r1, r2⟩ := ih (k2 + 1) (row.set kk x) (kk + 1) (by omega) (by omega) (by simpa using hl) (by
        rw [show k0 + (k2 + 1) - 1 = i + 1 by omega, List.drop_set_of_lt (by omega)]; exact hd1) (by
        rw [show k0 + (k2 + 1) = i + 2 by omega, hs, List.take_add_one, List.take_set_of_le (by omega), ht]
        simp [hkl]) (by rw [show k0 + (k2 + 1) = i + 2 by omega, hs, List.length_append, ← hkk]; rfl) (by omega)
      refine ⟨row', ?_, r2⟩
      refine Ev.of_eq 1 ?_
      have hb : (!decide (x = y)) = true := by rw [decide_eq_false (Ne.symm hxy)]; rfl
      have gk : row[kk]? = some row[kk] := List.getElem?_eq_getElem hkl
      simp (disch := omega) only [slicesCompactL9Eq, Int.toNat_natCast, br_pos, wm1, tonat_sub1, hi, hi', g0, g1, Option.bind_some, beq_pt, hb, br_t, wr1, Nat.zero_add, gk]
      exact r1

theorem compEv4 (t : List Pt) (n : Nat) (hn : n = t.length) (hnn : n < 1000000000) : ∀ (j k : Nat), k + j = n → 1 ≤ k → ddf (t.take k) = t.take k →
    ∃ r, Ev (fun m => slicesCompactL4 m ((((n : Nat) : Int), (((k : Nat) : Int), ())), (t, ()))) r ∧ ((r = .inl ((((n : Nat) : Int), ()), (t, ())) ∧ ddf t = t) ∨ ∃ row', r = .inr (((((ddf t).length : Nat) : Int), ()), (row', ())) ∧ row'.take (ddf t).length = ddf t ∧ (ddf t).length ≤ row'.length) := by
  intro j
  induction j with
  | zero =>
    intro k hj hk hd
    have hall : t.take k = t := List.take_of_length_le (by omega)
    rw [hall] at hd
    refine ⟨_, ?_, .inl ⟨rfl, hd⟩⟩
    refine Ev.of_eq 1 ?_
    simp (disch := omega) only [slicesCompactL4Eq, Int.toNat_natCast, br_neg]
    exact Ev.pure _
  | succ j ih =>
    intro k hj hk hd
    obtain ⟨i, rfl⟩ : ∃ i, k = i + 1 := ⟨k - 1, by omega⟩
    obtain ⟨y, hy⟩ : ∃ y, t[i]? = some y := ⟨t[i]'(by omega), List.getElem?_eq_getElem _⟩
    obtain ⟨x, hx⟩ : ∃ x, t[i + 1]? = some x := ⟨t[i + 1]'(by omega), List.getElem?_eq_getElem _⟩
    have hs := ddf_take_succ hx hy
    have hk1 : i + 1 - 1 = i := rfl
    by_cases hxy : y = x
    · rw [if_pos hxy] at hs
      have hlen : (ddf (t.take (i + 2))).length = i + 1 := by rw [hs, hd, List.length_take]; omega
      obtain ⟨row', r1, r2, r3⟩ := compEv9 t n (i + 1) hn hnn (by omega) j 1 t (i + 1) (by omega) (by omega) hn.symm (by rw [show i + 1 + 1 - 1 = i + 1 by omega]) (by rw [show i + 1 + 1 = i + 2 by omega, hs, hd]) (by rw [show i + 1 + 1 = i + 2 by omega, hlen]) (by omega)
      have hdl := (ddf_main _ t rfl).2.2
      refine ⟨.inr (((((ddf t).length : Nat) : Int), ()), ((row'.take (ddf t).length ++ List.replicate (n - (ddf t).length) ((0 : Int), (0 : Int)) ++ row'.drop ((ddf t).length + (n - (ddf t).length))), ())), ?_, .inr ⟨_, rfl, ?_, ?_⟩⟩
      · refine Ev.of_eq 1 ?_
        have hb : decide (x = y) = true := decide_eq_true hxy.symm
        simp (disch := omega) only [slicesCompactL4Eq, Int.toNat_natCast, br_pos, wm1, tonat_sub1, hk1, Nat.zero_add, hx, hy, Option.bind_some, beq_pt, hb, br_t]
        refine Ev.bind r1 ?_
        simp (disch := omega) only [Int.toNat_natCast, br_pos, Nat.zero_add]
        exact Ev.pure _
      · rw [List.append_assoc, List.take_append_of_le_length (by simp; omega), List.take_take, Nat.min_self]; exact r2
      · simp; omega
    · rw [if_neg hxy] at hs
      obtain ⟨r, r1, r2⟩ := ih (i + 1 + 1) (by omega) (by omega) (by
        rw [show i + 1 + 1 = i + 2 by omega, hs, hd]
        rw [show i + 2 = (i + 1) + 1 by omega, List.take_add_one (i := i + 1), hx]; rfl)
      refine ⟨r, ?_, r2⟩
      refine Ev.of_eq 1 ?_
      have hb : decide (x = y) = false := decide_eq_false (Ne.symm hxy)
      simp (disch := omega) only [slicesCompactL4Eq, Int.toNat_natCast, br_pos, wm1, tonat_sub1, hk1, Nat.zero_add, hx, hy, Option.bind_some, beq_pt, hb, br_f, wr1]
      exact r1

/-! ### The hull -/
theorem pushAll_mem : ∀ (rest U : List Pt) (x : Pt), x ∈ pushAll U rest → x ∈ U ∨ x ∈ rest := by
  intro rest
  induction rest with
  | nil => intro U x h; exact .inl h
  | cons p rest ih =>
    intro U x h
    rcases ih (p :: pop p U) x h with h | h
    · rcases List.mem_cons.1 h with rfl | h
      · exact .inr (by simp)
      · exact .inl (pop_mem _ _ h)
    · exact .inr (List.mem_cons_of_mem _ h)

theorem hullEv (l : List Pt) (hl : l.length < 100000000) (hb : ∀ x ∈ l, Bd x) : Ev (fun n => hullOf n l) (hullRes l) := by
  have hsl := sort_length l
  have hsb : ∀ x ∈ sortPts l, Bd x := fun x hx => hb x (sort_mem.1 hx)
  have htk : Hu.sortPts (l.take l.length) ++ l.drop l.length = sortPts l := by simp
  refine Ev.of_eq 2 ?_
  have hc : l.length ≤ l.length ∧ l.length < 4611686018427387904 := ⟨Nat.le_refl _, by omega⟩
  have hc0 : l.length ≤ 8796093022208 := by omega
  simp only [hullOfEq, htk, br_pos hc, br_pos hc0]
  -- the points in order, each once
  have first : ∃ j : ((List (Int × Int)) × (Bool × (Int × Unit))) × ((List (Int × Int)) × Unit), Ev (fun n => br (decide (((l.length : Nat) : Int) < 2)) (some (([], (false, (((l.length : Nat) : Int), ()))), (sortPts l, ()))) ((slicesCompactL4 n ((((l.length : Nat) : Int), (1, ())), (sortPts l, ()))).bind fun l19 => (match l19 with | .inl y20 => some (([], (false, ((((Int.toNat y20.1.1) : Nat) : Int), ()))), (y20.2.1, ())) | .inr y21 => some (([], (false, ((((Int.toNat y21.1.1) : Nat) : Int), ()))), (y21.2.1, ()))))) j ∧
      j = (([], (false, ((((ddf (sortPts l)).length : Nat) : Int), ()))), (j.2.1, ())) ∧ j.2.1.take (ddf (sortPts l)).length = ddf (sortPts l) ∧ (ddf (sortPts l)).length ≤ j.2.1.length := by
    by_cases h2 : l.length < 2
    · have hd := ddf_short (l := sortPts l) (by omega)
      refine ⟨(([], (false, (((l.length : Nat) : Int), ()))), (sortPts l, ())), ?_, by rw [hd, hsl], by rw [hd]; simp, by rw [hd]; exact Nat.le_refl _⟩
      simp (disch := omega) only [br_pos]
      exact Ev.pure _
    · obtain ⟨r, r1, r2⟩ := compEv4 (sortPts l) l.length hsl.symm (by omega) (l.length - 1) 1 (by omega) (by omega) (ddf_short (by rw [List.length_take]; omega))
      simp (disch := omega) only [br_neg]
      rcases r2 with ⟨rfl, hd⟩ | ⟨row', rfl, h3, h4⟩
      · refine ⟨(([], (false, (((l.length : Nat) : Int), ()))), (sortPts l, ())), ?_, by rw [hd, hsl], by rw [hd]; simp, by rw [hd]; exact Nat.le_refl _⟩
        refine Ev.bind r1 ?_
        simp only [Int.toNat_natCast]
        exact Ev.pure _
      · refine ⟨(([], (false, ((((ddf (sortPts l)).length : Nat) : Int), ()))), (row', ())), ?_, rfl, h3, h4⟩
        refine Ev.bind r1 ?_
        simp only [Int.toNat_natCast]
        exact Ev.pure _
  obtain ⟨j, j1, j2, j3, j4⟩ := first
  refine Ev.bind j1 ?_
  rw [j2]
  generalize j.2.1 = row at j3 j4 ⊢
  clear j1 j2
  obtain ⟨dm, _, dl⟩ := ddf_main _ (sortPts l) rfl
  have hdb : ∀ x ∈ ddf (sortPts l), Bd x := fun x hx => hsb x ((dm x).1 hx)
  unfold hullRes
  simp only [Int.toNat_natCast]
  generalize hd : ddf (sortPts l) = d at j3 j4 dl hdb
  by_cases h3 : d.length < 3
  · simp (disch := omega) only [br_pos, h3, if_true]
    exact Ev.pure _
  · simp (disch := omega) only [br_neg, h3, if_false]
    -- only the part that counts
    have hne : d ≠ [] := fun e => by subst e; simp at h3
    obtain ⟨d', pm, rfl⟩ : ∃ d' pm, d = d' ++ [pm] := ⟨d.dropLast, d.getLast hne, (List.dropLast_concat_getLast hne).symm⟩
    have hlen : (d' ++ [pm]).length = d'.length + 1 := by simp
    have hdt : row.take d'.length = d' := by
      have : row.take d'.length = (row.take (d' ++ [pm]).length).take d'.length := by rw [List.take_take]; congr 1; omega
      rw [this, j3]; simp
    have hrow : ∀ x ∈ row.take (d' ++ [pm]).length, Bd x := fun x hx => hdb x (by rwa [j3] at hx)
    have hasc : Asc true (d' ++ [pm]) := by rw [← hd]; exact (ddf_main _ (sortPts l) rfl).2.1 (sort_sorted l)
    have hdl : (d' ++ [pm]).length < 1000000000 := by omega
    obtain ⟨ys, u1, u2, u3, u4, u5⟩ := upEv [] false row (d' ++ [pm]).length j4 hdl hrow (d' ++ [pm]) [] 0 [] (by rw [List.drop_zero]; exact j3) (Nat.zero_le _) (fun u hu => by simp at hu) (Nat.le_refl _) (by simp) (Nat.le_refl _)
    have hch : pushAll [] (d' ++ [pm]) = chain (d' ++ [pm]) := rfl
    obtain ⟨c1, c2, c3, c4⟩ := chain_good _ (d' ++ [pm]) rfl hne hasc
    rw [hch] at u1 u2 u3 u4 u5
    obtain ⟨rest, hrest⟩ : ∃ rest, chain (d' ++ [pm]) = pm :: rest := by
      rw [List.getLast?_concat] at c3
      cases hq : chain (d' ++ [pm]) with
      | nil => rw [hq] at c3; cases c3
      | cons a r => rw [hq] at c3; cases c3; exact ⟨r, rfl⟩
    rw [hrest] at u1 u2 u3 u4 u5
    have hrl : rest.length + 1 ≤ d'.length + 1 := by simpa using u4
    refine Ev.bind (u1.shift 1) ?_
    have hd0 : 0 < d'.length := by omega
    have e1 : IntKind.i64.wrap ((((d' ++ [pm]).length : Nat) : Int) - 1) = ((d'.length : Nat) : Int) := by rw [hlen, wm1 _ (by omega)]; omega
    have hcond : (0 : Int) ≤ 0 ∧ (0 : Int) ≤ ((d'.length : Nat) : Int) ∧ ((d'.length : Nat) : Int) ≤ (((d' ++ [pm]).length : Nat) : Int) := ⟨Int.le_refl _, by omega, by omega⟩
    simp only [Int.toNat_natCast, e1, br_pos hcond, wm1 _ (show d'.length < 9223372036854775807 by omega)]
    obtain ⟨zs, w1, w2, w3, w4⟩ := down1Ev ([] : List Pt) false 0 (d' ++ [pm]).length 0 (pm :: rest).length (((pm :: rest).length : Nat) : Int) 0 (d' ++ [pm]).length 0 (d' ++ [pm]).length (((d' ++ [pm]).length : Nat) : Int) ((d'.length : Nat) : Int) 0 d'.length
      rest.reverse (((pm :: rest).length : Nat) : Int) (by simp) row d'.length (by omega) hd0 (by omega) (by simp; omega) (fun x hx => hdb x (by rw [hdt] at hx; exact List.mem_append_left _ hx)) [pm] ys (fun u hu => u5 u (by simp only [List.mem_singleton] at hu; subst hu; simp)) (by simp only [List.length_cons, List.length_nil]; omega) (by
        have : rest.reverse.length + [pm].length = (pm :: rest).length := by simp
        rw [this, u2]; simp) (by simpa using u3)
    have hback : pushAll [pm] (row.take d'.length).reverse = chain (d' ++ [pm]).reverse := by
      rw [hdt, List.reverse_append]; rfl
    rw [hback] at w1 w2 w3 w4
    obtain ⟨k1, k2, k3, k4⟩ := chain_good (s := false) _ (d' ++ [pm]).reverse rfl (by simpa using hne) (asc_rev hasc)
    rw [List.head?_reverse, List.getLast?_concat] at k4
    obtain ⟨um, hum⟩ := List.getLast?_eq_some_iff.1 k4
    -- what is left of it
    have hring : Hu.hullOf (d' ++ [pm]) = (rest.reverse ++ (chain (d' ++ [pm]).reverse).reverse).dropLast := by
      unfold Hu.hullOf ringOf
      rw [hrest, hum]; simp
    have hT : (rest.reverse ++ (chain (d' ++ [pm]).reverse).reverse).length = rest.reverse.length + (chain (d' ++ [pm]).reverse).length := by simp
    have hup1 : 1 ≤ (chain (d' ++ [pm]).reverse).length := by rw [hum]; simp
    have hup2 : (chain (d' ++ [pm]).reverse).length ≤ 1 + d'.length := by simpa using w4
    have hrr : rest.reverse.length = rest.length := by simp
    have hl0 : rest.reverse.length + [pm].length = (pm :: rest).length := by simp
    rw [hl0] at w1
    have hhl : (Hu.hullOf (d' ++ [pm])).length = rest.reverse.length + (chain (d' ++ [pm]).reverse).length - 1 := by rw [hring, List.length_dropLast, hT]
    have hres : zs.take (rest.reverse.length + (chain (d' ++ [pm]).reverse).length - 1) = Hu.hullOf (d' ++ [pm]) := by
      have : zs.take (rest.reverse.length + (chain (d' ++ [pm]).reverse).length - 1) = (zs.take (rest.reverse.length + (chain (d' ++ [pm]).reverse).length)).take (rest.reverse.length + (chain (d' ++ [pm]).reverse).length - 1) := by rw [List.take_take]; congr 1; omega
      rw [this, w2, hring, List.dropLast_eq_take, hT]
    generalize hTT : rest.reverse.length + (chain (d' ++ [pm]).reverse).length = T at w1 w3 hhl hres
    have e2 : IntKind.i64.wrap (((T : Nat) : Int) - 1) = (((T - 1 : Nat)) : Int) := by rw [wm1 _ (by omega)]; omega
    refine Ev.bind (x := (((), ()), ((), ((((T : Nat) : Int), ()), ((), ((), ((), ((), ((), ((), (zs, ()))))))))))) (Ev.bind w1 ?_) ?_
    · simp only [Int.toNat_natCast]
      exact Ev.pure _
    · have hcond2 : (0 : Int) ≤ 0 ∧ (0 : Int) ≤ ((T - 1 : Nat) : Int) ∧ ((T - 1 : Nat) : Int) ≤ ((T : Nat) : Int) := ⟨Int.le_refl _, by omega, by omega⟩
      simp only [Int.toNat_natCast, e2, br_pos hcond2, hhl]
      by_cases h4 : T - 1 < 3
      · simp (disch := omega) only [br_pos, h4, if_true]
        exact Ev.pure _
      · simp (disch := omega) only [br_neg, br_pos, h4, if_false, Nat.zero_add, hres]
        exact Ev.pure _
end Go.Hl
