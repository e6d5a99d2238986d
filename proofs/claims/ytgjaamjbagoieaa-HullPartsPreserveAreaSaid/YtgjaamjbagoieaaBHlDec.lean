import Derived.Test.YtgjaamjbagoieaaBHlRef
import Derived.Test.YtgjaamjbagoieaaBHuEar
set_option linter.unusedVariables false
set_option linter.unusedSimpArgs false
set_option linter.unnecessarySimpa false
/-
  THE PARTS: IsConvex, ear, Decompose and their reference.
-/
namespace Go.Hl
open Go Go.Am Go.Proofs Go.Hu

theorem tm_nat (a b : Nat) : ((a : Nat) : Int).tmod ((b : Nat) : Int) = ((a % b : Nat) : Int) := by
  rw [Int.tmod_eq_emod_of_nonneg (by omega)]; rfl
theorem tm_nx (l : List Pt) (i : Nat) (hi : i < 1000000000) : (IntKind.i64.wrap (((i : Nat) : Int) + 1)).tmod ((l.length : Nat) : Int) = ((nx l i : Nat) : Int) := by
  rw [wr1 _ (by omega), tm_nat]; rfl
theorem tm_pv (l : List Pt) (i : Nat) (hi : i < l.length) (hb : l.length < 1000000000) : (IntKind.i64.wrap (IntKind.i64.wrap (((i : Nat) : Int) + ((l.length : Nat) : Int)) - 1)).tmod ((l.length : Nat) : Int) = ((pv l i : Nat) : Int) := by
  rw [w64 (n := ((i : Nat) : Int) + ((l.length : Nat) : Int)) (by omega) (by omega), w64 (by omega) (by omega)]
  have : ((i : Nat) : Int) + ((l.length : Nat) : Int) - 1 = ((i + l.length - 1 : Nat) : Int) := by omega
  rw [this, tm_nat]; rfl

theorem inEv {a b c x : Pt} (ha : Bd a) (hb : Bd b) (hc : Bd c) (hx : Bd x) : Ev (fun n => hullIn n a.1 a.2 b.1 b.2 c.1 c.2 x.1 x.2) (inT a b c x) := by
  refine Ev.of_eq 1 ?_
  simp only [hullInEq]
  refine Ev.bind (sideEv ha hb hx) ?_
  unfold inT
  by_cases h1 : 0 ≤ side a b x
  · rw [decide_eq_true h1]; simp only [br_t, Bool.true_and]
    refine Ev.bind (sideEv hb hc hx) ?_
    by_cases h2 : 0 ≤ side b c x
    · rw [decide_eq_true h2]; simp only [br_t, Bool.true_and]
      exact Ev.bind (sideEv hc ha hx) (Ev.pure _)
    · rw [decide_eq_false h2]; exact Ev.pure _
  · rw [decide_eq_false h1]; exact Ev.pure _
theorem rinEv {a b c x : Pt} (ha : Bd a) (hb : Bd b) (hc : Bd c) (hx : Bd x) : Ev (fun n => r04In n a.1 a.2 b.1 b.2 c.1 c.2 x.1 x.2) (inT a b c x) := by
  refine Ev.of_eq 1 ?_
  simp only [r04InEq]
  refine Ev.bind (rsideEv ha hb hx) (Ev.bind (rsideEv hb hc hx) (Ev.bind (rsideEv hc ha hx) ?_))
  unfold inT
  by_cases h1 : 0 ≤ side a b x
  · by_cases h2 : 0 ≤ side b c x
    · rw [decide_eq_true h1, decide_eq_true h2]; exact Ev.pure _
    · rw [decide_eq_true h1, decide_eq_false h2]; exact Ev.pure _
  · rw [decide_eq_false h1]; exact Ev.pure _

/-! ### IsConvex -/
theorem isL9 (l : List Pt) (hb : l.length < 1000000000) (hbd : ∀ x ∈ l, Bd x) (i : Nat) (hi : i < l.length) : ∀ (k j : Nat), j + k = l.length →
    Ev (fun n => hullIsConvexL9 n ((l, (((l.length : Nat) : Int), (((i : Nat) : Int), (((nx l i : Nat) : Int), (((l.length : Nat) : Int), (((i : Nat) : Int), (((l.length : Nat) : Int), (((j : Nat) : Int), ())))))))), ()))
      (if ((List.range' j k).all fun j => decide (j = i) || decide (j = nx l i) || decide (0 < side (at_ l i) (at_ l (nx l i)) (at_ l j))) = true then .inl ((l, (((l.length : Nat) : Int), (((l.length : Nat) : Int), (((i : Nat) : Int), ())))), ()) else .inr ((false, ()), ())) := by
  intro k
  have hn := nx_lt (h := l) (by omega) i
  induction k with
  | zero =>
    intro j hj
    refine Ev.of_eq 1 ?_
    simp (disch := omega) only [hullIsConvexL9Eq, br_neg]
    exact (Ev.pure _).congr (by simp)
  | succ k ih =>
    intro j hj
    have gi := Go.Hu.get_at hi
    have gn := Go.Hu.get_at hn
    have gj := Go.Hu.get_at (h := l) (i := j) (by omega)
    have hr : List.range' j (k + 1) = j :: List.range' (j + 1) k := by rw [List.range'_succ]
    rw [hr, List.all_cons]
    refine Ev.of_eq 1 ?_
    simp (disch := omega) only [hullIsConvexL9Eq, br_pos, Int.toNat_natCast, gi, gn, gj, Option.bind_some, wr1]
    have cont := ih (j + 1) (by omega)
    by_cases c1 : j = i
    · have e1 : ((j : Nat) : Int) = ((i : Nat) : Int) := by omega
      simp only [nbr_pos e1]
      refine cont.congr ?_
      rw [decide_eq_true c1]; rfl
    · have e1 : ¬ ((j : Nat) : Int) = ((i : Nat) : Int) := by omega
      by_cases c2 : j = nx l i
      · have e2 : ((j : Nat) : Int) = ((nx l i : Nat) : Int) := by omega
        simp only [nbr_neg e1, nbr_pos e2]
        refine cont.congr ?_
        rw [decide_eq_false c1, decide_eq_true c2]; rfl
      · have e2 : ¬ ((j : Nat) : Int) = ((nx l i : Nat) : Int) := by omega
        simp only [nbr_neg e1, nbr_neg e2]
        refine Ev.bind (sideEv (hbd _ (at_mem hi)) (hbd _ (at_mem hn)) (hbd _ (at_mem (by omega)))) ?_
        by_cases c3 : side (at_ l i) (at_ l (nx l i)) (at_ l j) ≤ 0
        · simp only [br_pos c3]
          refine (Ev.pure _).congr ?_
          rw [decide_eq_false c1, decide_eq_false c2, decide_eq_false (by omega)]; rfl
        · simp only [br_neg c3]
          refine cont.congr ?_
          rw [decide_eq_false c1, decide_eq_false c2, decide_eq_true (show 0 < side (at_ l i) (at_ l (nx l i)) (at_ l j) by omega)]; rfl
theorem isL5 (l : List Pt) (hb : l.length < 1000000000) (hbd : ∀ x ∈ l, Bd x) : ∀ (k i : Nat), i + k = l.length →
    Ev (fun n => hullIsConvexL5 n ((l, (((l.length : Nat) : Int), (((l.length : Nat) : Int), (((i : Nat) : Int), ())))), ())) (if ((List.range' i k).all fun i => (List.range l.length).all fun j => decide (j = i) || decide (j = nx l i) || decide (0 < side (at_ l i) (at_ l (nx l i)) (at_ l j))) = true then .inl ((), ()) else .inr ((false, ()), ())) := by
  intro k
  induction k with
  | zero =>
    intro i hi
    refine Ev.of_eq 1 ?_
    simp (disch := omega) only [hullIsConvexL5Eq, br_neg]
    exact (Ev.pure _).congr (by simp)
  | succ k ih =>
    intro i hi
    have hr : List.range' i (k + 1) = i :: List.range' (i + 1) k := by rw [List.range'_succ]
    rw [hr, List.all_cons]
    have h0 : ¬ ((l.length : Nat) : Int) = 0 := by omega
    have hil : ((i : Nat) : Int) < ((l.length : Nat) : Int) := by omega
    refine Ev.of_eq 1 ?_
    simp only [hullIsConvexL5Eq, br_pos hil, br_neg h0, tm_nx l i (by omega)]
    have h8 := isL9 l hb hbd i (by omega) l.length 0 (by omega)
    rw [← List.range_eq_range'] at h8
    refine Ev.bind h8 ?_
    by_cases c : ((List.range l.length).all fun j => decide (j = i) || decide (j = nx l i) || decide (0 < side (at_ l i) (at_ l (nx l i)) (at_ l j))) = true
    · simp (disch := omega) only [if_pos c, wr1]
      refine (ih (i + 1) (by omega)).congr ?_
      rw [c, Bool.true_and]
    · simp only [if_neg c]
      refine (Ev.pure _).congr ?_
      rw [Bool.not_eq_true] at c
      rw [c]; simp
theorem isConvexEv (l : List Pt) (hb : l.length < 1000000000) (hbd : ∀ x ∈ l, Bd x) : Ev (fun n => hullIsConvex n l) (convexB l) := by
  refine Ev.of_eq 1 ?_
  simp only [hullIsConvexEq]
  unfold convexB
  by_cases h3 : l.length < 3
  · have h3' : ((l.length : Nat) : Int) < 3 := by omega
    simp only [br_pos h3']
    refine (Ev.pure _).congr ?_
    rw [decide_eq_false (by omega)]; rfl
  · have h3' : ¬ ((l.length : Nat) : Int) < 3 := by omega
    simp only [br_neg h3']
    have h := isL5 l hb hbd l.length 0 (by omega)
    rw [← List.range_eq_range'] at h
    refine Ev.bind h ?_
    rw [decide_eq_true (by omega : 2 < l.length), Bool.true_and]
    by_cases c : ((List.range l.length).all fun i => (List.range l.length).all fun j => decide (j = i) || decide (j = nx l i) || decide (0 < side (at_ l i) (at_ l (nx l i)) (at_ l j))) = true
    · simp only [if_pos c, c]; exact Ev.pure _
    · simp only [if_neg c]
      refine (Ev.pure _).congr ?_
      rw [Bool.not_eq_true] at c
      rw [c]

/-! ### ear -/
theorem earL8 (l : List Pt) (hb : l.length < 1000000000) (hbd : ∀ x ∈ l, Bd x) (i : Nat) (hi : i < l.length) : ∀ (k j : Nat), j + k = l.length →
    Ev (fun n => hullEarL8 n ((l, (((l.length : Nat) : Int), (((i : Nat) : Int), (((pv l i : Nat) : Int), (((nx l i : Nat) : Int), (((l.length : Nat) : Int), (((i : Nat) : Int), (((l.length : Nat) : Int), (((j : Nat) : Int), ()))))))))), ()))
      (if (List.range' j k).all (clearB l i) = true then .inr ((((i : Nat) : Int), (((pv l i : Nat) : Int), (((nx l i : Nat) : Int), ()))), ()) else .inl ((l, (((l.length : Nat) : Int), (((l.length : Nat) : Int), (((i : Nat) : Int), ())))), ())) := by
  intro k
  have hn := nx_lt (h := l) (by omega) i
  have hp := pv_lt (l := l) (by omega) i
  induction k with
  | zero =>
    intro j hj
    refine Ev.of_eq 1 ?_
    simp (disch := omega) only [hullEarL8Eq, br_neg]
    exact (Ev.pure _).congr (by simp)
  | succ k ih =>
    intro j hj
    have gi := Go.Hu.get_at hi
    have gn := Go.Hu.get_at hn
    have gp := Go.Hu.get_at hp
    have gj := Go.Hu.get_at (h := l) (i := j) (by omega)
    have hr : List.range' j (k + 1) = j :: List.range' (j + 1) k := by rw [List.range'_succ]
    rw [hr, List.all_cons]
    refine Ev.of_eq 1 ?_
    simp (disch := omega) only [hullEarL8Eq, br_pos, Int.toNat_natCast, gi, gn, gj, gp, Option.bind_some, wr1]
    have cont := ih (j + 1) (by omega)
    by_cases c0 : j = pv l i
    · have e0 : ((j : Nat) : Int) = ((pv l i : Nat) : Int) := by omega
      simp only [nbr_pos e0]
      refine cont.congr ?_
      unfold clearB
      rw [decide_eq_true c0]; rfl
    have e0 : ¬ ((j : Nat) : Int) = ((pv l i : Nat) : Int) := by omega
    by_cases c1 : j = i
    · have e1 : ((j : Nat) : Int) = ((i : Nat) : Int) := by omega
      simp only [nbr_neg e0, nbr_pos e1]
      refine cont.congr ?_
      unfold clearB
      rw [decide_eq_false c0, decide_eq_true c1]; rfl
    have e1 : ¬ ((j : Nat) : Int) = ((i : Nat) : Int) := by omega
    by_cases c2 : j = nx l i
    · have e2 : ((j : Nat) : Int) = ((nx l i : Nat) : Int) := by omega
      simp only [nbr_neg e0, nbr_neg e1, nbr_pos e2]
      refine cont.congr ?_
      unfold clearB
      rw [decide_eq_false c0, decide_eq_false c1, decide_eq_true c2]; rfl
    have e2 : ¬ ((j : Nat) : Int) = ((nx l i : Nat) : Int) := by omega
    simp only [nbr_neg e0, nbr_neg e1, nbr_neg e2]
    refine Ev.bind (inEv (hbd _ (at_mem hp)) (hbd _ (at_mem hi)) (hbd _ (at_mem hn)) (hbd _ (at_mem (by omega)))) ?_
    have hcl : clearB l i j = !inT (at_ l (pv l i)) (at_ l i) (at_ l (nx l i)) (at_ l j) := by
      unfold clearB
      rw [decide_eq_false c0, decide_eq_false c1, decide_eq_false c2]; rfl
    rw [hcl]
    cases c3 : inT (at_ l (pv l i)) (at_ l i) (at_ l (nx l i)) (at_ l j) with
    | true => exact (Ev.pure _).congr rfl
    | false => exact cont
theorem earL3 (l : List Pt) (hb : l.length < 1000000000) (hbd : ∀ x ∈ l, Bd x) : ∀ (k i : Nat), i + k = l.length →
    Ev (fun n => hullEarL3 n ((l, (((l.length : Nat) : Int), (((l.length : Nat) : Int), (((i : Nat) : Int), ())))), ()))
      (match firstF (earB l) k i with | none => .inl ((), ()) | some i => .inr ((((pv l i : Nat) : Int), (((i : Nat) : Int), (((nx l i : Nat) : Int), ()))), ())) := by
  intro k
  induction k with
  | zero =>
    intro i hi
    refine Ev.of_eq 1 ?_
    simp (disch := omega) only [hullEarL3Eq, br_neg]
    exact Ev.pure _
  | succ k ih =>
    intro i hi
    have h0 : ¬ ((l.length : Nat) : Int) = 0 := by omega
    have hil : ((i : Nat) : Int) < ((l.length : Nat) : Int) := by omega
    have hi' : i < l.length := by omega
    have hn := nx_lt (h := l) (by omega) i
    have hp := pv_lt (l := l) (by omega) i
    have gi := Go.Hu.get_at hi'
    have gn := Go.Hu.get_at hn
    have gp := Go.Hu.get_at hp
    refine Ev.of_eq 1 ?_
    simp only [hullEarL3Eq, br_pos hil, br_neg h0, tm_nx l i (by omega), tm_pv l i hi' hb]
    simp (disch := omega) only [br_pos, Int.toNat_natCast, gi, gn, gp, Option.bind_some]
    unfold firstF
    have h8 := earL8 l hb hbd i hi' l.length 0 (by omega)
    rw [← List.range_eq_range'] at h8
    refine Ev.bind (x := if earB l i = true then .inr ((((pv l i : Nat) : Int), (((i : Nat) : Int), (((nx l i : Nat) : Int), ()))), ()) else .inl ((l, (((l.length : Nat) : Int), (((l.length : Nat) : Int), (((i : Nat) : Int), ())))), ())) (Ev.bind (sideEv (hbd _ (at_mem hp)) (hbd _ (at_mem hi')) (hbd _ (at_mem hn))) ?_) ?_
    · unfold earB
      by_cases c3 : side (at_ l (pv l i)) (at_ l i) (at_ l (nx l i)) ≤ 0
      · simp only [br_pos c3]
        refine (Ev.pure _).congr ?_
        rw [decide_eq_false (by omega)]; rfl
      · simp only [br_neg c3]
        refine Ev.bind h8 ?_
        rw [decide_eq_true (by omega : 0 < side (at_ l (pv l i)) (at_ l i) (at_ l (nx l i))), Bool.true_and]
        by_cases c : (List.range l.length).all (clearB l i) = true
        · simp only [if_pos c]; exact Ev.pure _
        · simp only [if_neg c]; exact Ev.pure _
    · by_cases c : earB l i = true
      · simp only [if_pos c]; exact Ev.pure _
      · simp (disch := omega) only [if_neg c, wr1]
        exact ih (i + 1) (by omega)
theorem earEv (l : List Pt) (hb : l.length < 1000000000) (hbd : ∀ x ∈ l, Bd x) : Ev (fun n => hullEar n l) (match ear l with | none => (-1, (-1, -1)) | some i => (((pv l i : Nat) : Int), (((i : Nat) : Int), ((nx l i : Nat) : Int)))) := by
  refine Ev.of_eq 1 ?_
  simp only [hullEarEq]
  refine Ev.bind (earL3 l hb hbd l.length 0 (by omega)) ?_
  unfold ear
  cases firstF (earB l) l.length 0 <;> exact Ev.pure _
end Go.Hl
