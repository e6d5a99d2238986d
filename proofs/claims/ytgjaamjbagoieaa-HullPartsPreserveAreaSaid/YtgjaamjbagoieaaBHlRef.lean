import Derived.Test.YtgjaamjbagoieaaBHlHull
import Derived.Test.YtgjaamjbagoieaaBHuSweep
set_option linter.unusedVariables false
set_option linter.unusedSimpArgs false
set_option linter.unnecessarySimpa false
/-
  THE REFERENCE'S HULL: what its functions give.
-/
namespace Go.Hl
open Go Go.Am Go.Proofs Go.Hu

theorem rsideEv {a b p : Pt} (ha : Bd a) (hb : Bd b) (hp : Bd p) : Ev (fun n => r04Side n a.1 a.2 b.1 b.2 p.1 p.2) (side a b p) := by
  refine Ev.of_eq 1 ?_
  simp only [r04SideEq, side_wrap ha hb hp]
  exact Ev.pure _
theorem far_wrap {a b : Pt} (ha : Bd a) (hb : Bd b) : IntKind.i64.wrap (IntKind.i64.wrap (IntKind.i64.wrap (a.1 - b.1) * IntKind.i64.wrap (a.1 - b.1)) + IntKind.i64.wrap (IntKind.i64.wrap (a.2 - b.2) * IntKind.i64.wrap (a.2 - b.2))) = far a b := by
  obtain ⟨⟨a1, a2⟩, a3, a4⟩ := ha
  obtain ⟨⟨b1, b2⟩, b3, b4⟩ := hb
  rw [w64 (n := a.1 - b.1) (by omega) (by omega), w64 (n := a.2 - b.2) (by omega) (by omega)]
  have m1 := mul_bd (a := a.1 - b.1) (b := a.1 - b.1) (by omega) (by omega)
  have m2 := mul_bd (a := a.2 - b.2) (b := a.2 - b.2) (by omega) (by omega)
  rw [w64 (n := (a.1 - b.1) * (a.1 - b.1)) (by omega) (by omega), w64 (n := (a.2 - b.2) * (a.2 - b.2)) (by omega) (by omega), w64 (by omega) (by omega)]
  rfl
theorem farEv {a b : Pt} (ha : Bd a) (hb : Bd b) : Ev (fun n => r04Far n a.1 a.2 b.1 b.2) (far a b) := by
  refine Ev.of_eq 1 ?_
  simp only [r04FarEq, far_wrap ha hb]
  exact Ev.pure _

theorem sameL4 (a b : List Pt) (hl : a.length = b.length) (hb : a.length < 1000000000) : ∀ (ra rb : List Pt) (i : Nat), a.drop i = ra → b.drop i = rb → i ≤ a.length →
    Ev (fun n => r04SameL4 n ((a, (b, (((i : Nat) : Int), ()))), ())) (if ra = rb then .inl ((), ()) else .inr ((false, ()), ())) := by
  intro ra
  induction ra with
  | nil =>
    intro rb i h1 h2 hi
    have := gdrop_nil h1
    have hrb : rb = [] := by rw [← h2]; exact List.drop_eq_nil_of_le (by omega)
    rw [if_pos hrb.symm]
    refine Ev.of_eq 1 ?_
    simp (disch := omega) only [r04SameL4Eq, br_neg]
    exact Ev.pure _
  | cons x ra ih =>
    intro rb i h1 h2 hi
    obtain ⟨g1, g2, g3⟩ := gdrop h1
    obtain ⟨y, rb', rfl⟩ : ∃ y rb', rb = y :: rb' := by
      cases rb with
      | nil => have := gdrop_nil h2; omega
      | cons y rb' => exact ⟨y, rb', rfl⟩
    obtain ⟨k1, k2, k3⟩ := gdrop h2
    refine Ev.of_eq 1 ?_
    by_cases hxy : x = y
    · have hb' : (!decide (x = y)) = false := by rw [decide_eq_true hxy]; rfl
      simp (disch := omega) only [r04SameL4Eq, br_pos, Int.toNat_natCast, g1, k1, Option.bind_some, beq_pt, hb', br_f, wr1]
      refine (ih rb' (i + 1) g2 k2 (by omega)).congr ?_
      by_cases hr : ra = rb'
      · rw [if_pos hr, if_pos (by rw [hxy, hr])]
      · rw [if_neg hr, if_neg (fun e => hr (List.cons.inj e).2)]
    · have hb' : (!decide (x = y)) = true := by rw [decide_eq_false hxy]; rfl
      simp (disch := omega) only [r04SameL4Eq, br_pos, Int.toNat_natCast, g1, k1, Option.bind_some, beq_pt, hb', br_t]
      exact (Ev.pure _).congr (by rw [if_neg (fun e => hxy (List.cons.inj e).1)])
theorem sameEv (a b : List Pt) (hb : a.length < 1000000000) : Ev (fun n => r04Same n a b) (decide (a = b)) := by
  refine Ev.of_eq 1 ?_
  by_cases hl : a.length = b.length
  · have h1 : (a.length : Int) = (b.length : Int) := by omega
    simp (disch := omega) only [r04SameEq, nbr_pos h1]
    have := sameL4 a b hl hb a b 0 rfl rfl (Nat.zero_le _)
    refine Ev.bind this ?_
    by_cases h : a = b
    · simp only [if_pos h, decide_eq_true h]; exact Ev.pure _
    · simp only [if_neg h, decide_eq_false h]; exact Ev.pure _
  · have h1 : ¬ (a.length : Int) = (b.length : Int) := by omega
    simp (disch := omega) only [r04SameEq, nbr_neg h1]
    exact (Ev.pure _).congr (decide_eq_false fun e => hl (by rw [e])).symm

theorem firstL3 (l : List Pt) (hb : l.length < 1000000000) (j1 j2 : Int) : ∀ (r : List Pt) (i : Nat) (f : Pt), l.drop i = r → i ≤ l.length →
    Ev (fun n => r04FirstL3 n ((l, ((), ((), (((i : Nat) : Int), ())))), ((j1, (j2, ())), ((f.1, (f.2, ())), ())))) (((), ((), ())), ((j1, (j2, ())), (((firstP f r).1, ((firstP f r).2, ())), ()))) := by
  intro r
  induction r with
  | nil =>
    intro i f hd hi
    have := gdrop_nil hd
    refine Ev.of_eq 1 ?_
    simp (disch := omega) only [r04FirstL3Eq, br_neg]
    exact Ev.pure _
  | cons x r ih =>
    intro i f hd hi
    obtain ⟨h1, h2, h3⟩ := gdrop hd
    have e : firstP f (x :: r) = firstP (if x.1 < f.1 ∨ (x.1 = f.1 ∧ x.2 < f.2) then x else f) r := rfl
    rw [e]
    refine Ev.of_eq 1 ?_
    by_cases c1 : x.1 < f.1
    · rw [if_pos (.inl c1)]
      simp (disch := omega) only [r04FirstL3Eq, br_pos, Int.toNat_natCast, h1, Option.bind_some, wr1]
      exact ih (i + 1) x h2 (by omega)
    · by_cases c2 : x.1 = f.1
      · by_cases c3 : x.2 < f.2
        · rw [if_pos (.inr ⟨c2, c3⟩)]
          simp (disch := omega) only [r04FirstL3Eq, br_pos, br_neg, Int.toNat_natCast, h1, Option.bind_some, wr1]
          exact ih (i + 1) x h2 (by omega)
        · rw [if_neg (by omega)]
          simp (disch := omega) only [r04FirstL3Eq, br_pos, br_neg, Int.toNat_natCast, h1, Option.bind_some, wr1]
          exact ih (i + 1) f h2 (by omega)
      · rw [if_neg (by omega)]
        simp (disch := omega) only [r04FirstL3Eq, br_pos, br_neg, Int.toNat_natCast, h1, Option.bind_some, wr1]
        exact ih (i + 1) f h2 (by omega)
theorem firstEv (o : Pt) (l : List Pt) (hb : (o :: l).length < 1000000000) : Ev (fun n => r04First n (o :: l)) (firstP o l) := by
  refine Ev.of_eq 1 ?_
  have h0 : (o :: l)[(0 : Int).toNat]? = some o := rfl
  simp only [r04FirstEq, h0, Option.bind_some]
  have := firstL3 (o :: l) hb 0 0 l 1 o rfl (by simp)
  exact Ev.bind this (Ev.pure _)

theorem nextL3 (l : List Pt) (hb : l.length < 1000000000) (hbd : ∀ x ∈ l, Bd x) (v : Pt) (hv : Bd v) (j1 j2 : Int) : ∀ (r : List Pt) (i : Nat) (w : Pt), l.drop i = r → i ≤ l.length → Bd w →
    Ev (fun n => r04NextL3 n ((l, ((), ((), ((), (((i : Nat) : Int), ()))))), ((v.1, (v.2, ())), ((j1, (j2, ())), ((w.1, (w.2, ())), ()))))) (((), ((), ())), ((), ((j1, (j2, ())), (((wrapN v r w).1, ((wrapN v r w).2, ())), ())))) := by
  intro r
  induction r with
  | nil =>
    intro i w hd hi hw
    have := gdrop_nil hd
    refine Ev.of_eq 1 ?_
    simp (disch := omega) only [r04NextL3Eq, br_neg]
    exact Ev.pure _
  | cons x r ih =>
    intro i w hd hi hw
    obtain ⟨h1, h2, h3⟩ := gdrop hd
    have hx : Bd x := hbd x (List.mem_of_getElem? h1)
    have e : wrapN v (x :: r) w = wrapN v r (wrap1 v w x) := rfl
    rw [e]
    have go : ∀ w', wrap1 v w x = w' → Bd w' → Ev (fun n => r04NextL3 n ((l, ((), ((), ((), (((i + 1 : Nat) : Int), ()))))), ((v.1, (v.2, ())), ((j1, (j2, ())), ((w'.1, (w'.2, ())), ()))))) (((), ((), ())), ((), ((j1, (j2, ())), (((wrapN v r (wrap1 v w x)).1, ((wrapN v r (wrap1 v w x)).2, ())), ())))) := fun w' hw' hbw => by
      rw [hw']; exact ih (i + 1) w' h2 (by omega) hbw
    refine Ev.of_eq 1 ?_
    by_cases c1 : x = v
    · have hb1 := decide_eq_true c1
      simp (disch := omega) only [r04NextL3Eq, br_pos, Int.toNat_natCast, h1, Option.bind_some, beq_pt, hb1, br_t, wr1]
      exact go w (by unfold wrap1; rw [if_pos c1]) hw
    · have hb1 := decide_eq_false c1
      by_cases c2 : w = v
      · have hb2 := decide_eq_true c2
        simp (disch := omega) only [r04NextL3Eq, br_pos, Int.toNat_natCast, h1, Option.bind_some, beq_pt, hb1, hb2, br_f, br_t, wr1]
        exact go x (by unfold wrap1; rw [if_neg c1, if_pos c2]) hx
      · have hb2 := decide_eq_false c2
        simp (disch := omega) only [r04NextL3Eq, br_pos, Int.toNat_natCast, h1, Option.bind_some, beq_pt, hb1, hb2, br_f]
        refine Ev.bind (x := ((l, ((), ((), ((), (((i : Nat) : Int), ()))))), ((v.1, (v.2, ())), ((j1, (j2, ())), (((wrap1 v w x).1, ((wrap1 v w x).2, ())), ()))))) ?_ ?_
        · refine Ev.bind (rsideEv hv hw hx) (Ev.bind (farEv hv hw) (Ev.bind (farEv hv hx) ?_))
          unfold wrap1
          rw [if_neg c1, if_neg c2]
          by_cases c3 : side v w x < 0
          · simp (disch := omega) only [br_pos, c3, if_true]; exact Ev.pure _
          · by_cases c4 : side v w x = 0
            · by_cases c5 : far v w < far v x
              · simp (disch := omega) only [br_pos, br_neg, c3, c4, c5, if_true, if_false]; exact Ev.pure _
              · simp (disch := omega) only [br_pos, br_neg, c3, c4, c5, if_true, if_false]; exact Ev.pure _
            · simp (disch := omega) only [br_neg, c3, c4, if_false]; exact Ev.pure _
        · simp (disch := omega) only [wr1]
          refine go _ rfl ?_
          unfold wrap1
          repeat' split
          all_goals first | exact hw | exact hx
theorem nextEv (l : List Pt) (hb : l.length < 1000000000) (hbd : ∀ x ∈ l, Bd x) (v : Pt) (hv : Bd v) : Ev (fun n => r04Next n l v.1 v.2) (wrapN v l v) := by
  refine Ev.of_eq 1 ?_
  simp only [r04NextEq]
  have := nextL3 l hb hbd v hv 0 0 l 0 v rfl (Nat.zero_le _) hv
  exact Ev.bind this (Ev.pure _)

theorem ofL6 (l : List Pt) (hb : l.length < 100000000) (hbd : ∀ x ∈ l, Bd x) (o : Pt) (hol : o ∈ l) : ∀ (k i : Nat) (out : List Pt) (v : Pt), i + k = l.length → out.head? = some o → v ∈ l → out.length ≤ i + 1 →
    Ev (fun n => r04OfL6 n ((l, ((), (out, (((i : Nat) : Int), ())))), ((v.1, (v.2, ())), ()))) ((wrapAll l o k out v, ()), ()) := by
  intro k
  induction k with
  | zero =>
    intro i out v hk _ _ _
    refine Ev.of_eq 1 ?_
    simp (disch := omega) only [r04OfL6Eq, br_neg]
    exact Ev.pure _
  | succ k ih =>
    intro i out v hk ho hv hout
    have hw : wrapN v l v ∈ l := by
      rcases wrapN_mem v l v with e | e
      · rw [e]; exact hv
      · exact e
    have ho' : out[(0 : Int).toNat]? = some o := by rw [← ho, List.head?_eq_getElem?]; rfl
    refine Ev.of_eq 1 ?_
    simp (disch := omega) only [r04OfL6Eq, br_pos]
    refine Ev.bind (nextEv l (by omega) hbd v (hbd v hv)) ?_
    simp only [ho', Option.bind_some, beq_pt, wrapAll]
    by_cases hwo : wrapN v l v = o
    · simp only [br_pos hwo, if_pos hwo]
      exact Ev.pure _
    · have hcap : (out.length + [((wrapN v l v).1, (wrapN v l v).2)].length) * 16 ≤ 140737488355328 := by simp only [List.length_cons, List.length_nil]; omega
      simp only [br_neg hwo, if_neg hwo, br_pos hcap]
      simp (disch := omega) only [wr1]
      refine ih (i + 1) (out ++ [wrapN v l v]) _ (by omega) ?_ hw (by simp; omega)
      cases out with
      | nil => cases ho
      | cons a r => exact ho

theorem at_get {l : List Pt} {i : Nat} (hi : i < l.length) : l[i]? = some (at_ l i) := Go.Hu.get_at hi
def convexRow (l : List Pt) (i k : Nat) : Bool := (List.range k).all fun j => decide (j = i) || decide (j = nx l i) || decide (0 < side (at_ l i) (at_ l (nx l i)) (at_ l j))
theorem convexL8 (l : List Pt) (hb : l.length < 1000000000) (hbd : ∀ x ∈ l, Bd x) (i : Nat) (hi : i < l.length) : ∀ (k j : Nat), j + k = l.length →
    Ev (fun n => r04ConvexL8 n ((l, (((i : Nat) : Int), (((nx l i : Nat) : Int), (((j : Nat) : Int), ())))), ())) (if ((List.range' j k).all fun j => decide (j = i) || decide (j = nx l i) || decide (0 < side (at_ l i) (at_ l (nx l i)) (at_ l j))) = true then .inl ((l, (((i : Nat) : Int), ())), ()) else .inr ((false, ()), ())) := by
  intro k
  have hn := nx_lt (h := l) (by omega) i
  induction k with
  | zero =>
    intro j hj
    refine Ev.of_eq 1 ?_
    simp (disch := omega) only [r04ConvexL8Eq, br_neg]
    exact (Ev.pure _).congr (by simp)
  | succ k ih =>
    intro j hj
    have gi := Go.Hu.get_at hi
    have gn := Go.Hu.get_at hn
    have gj := Go.Hu.get_at (h := l) (i := j) (by omega)
    refine Ev.of_eq 1 ?_
    simp (disch := omega) only [r04ConvexL8Eq, br_pos, Int.toNat_natCast, gi, gn, gj, Option.bind_some]
    refine Ev.bind (rsideEv (hbd _ (at_mem hi)) (hbd _ (at_mem hn)) (hbd _ (at_mem (by omega)))) ?_
    have hr : List.range' j (k + 1) = j :: List.range' (j + 1) k := by rw [List.range'_succ]
    rw [hr, List.all_cons]
    simp (disch := omega) only [wr1]
    have cont := ih (j + 1) (by omega)
    by_cases c1 : j = i
    · have e1 : ((j : Nat) : Int) = ((i : Nat) : Int) := by omega
      simp only [nbr_pos e1]
      refine cont.congr ?_
      rw [decide_eq_true c1]; rfl
    · have e1 : ¬ ((j : Nat) : Int) = ((i : Nat) : Int) := by omega
      by_cases c2 : j = nx l i
      · have e2 : ((j : Nat) : Int) = ((nx l i : Nat) : Int) := by omega
        simp only [nbr_neg e1, nbr_pos e2]
        refine cont.congr ?_
        rw [decide_eq_false c1, decide_eq_true c2]; rfl
      · have e2 : ¬ ((j : Nat) : Int) = ((nx l i : Nat) : Int) := by omega
        by_cases c3 : side (at_ l i) (at_ l (nx l i)) (at_ l j) ≤ 0
        · simp only [nbr_neg e1, nbr_neg e2, br_pos c3]
          refine (Ev.pure _).congr ?_
          rw [decide_eq_false c1, decide_eq_false c2, decide_eq_false (by omega)]; rfl
        · simp only [nbr_neg e1, nbr_neg e2, br_neg c3]
          refine cont.congr ?_
          rw [decide_eq_false c1, decide_eq_false c2, decide_eq_true (show 0 < side (at_ l i) (at_ l (nx l i)) (at_ l j) by omega)]; rfl
theorem convexL2 (l : List Pt) (hb : l.length < 1000000000) (hbd : ∀ x ∈ l, Bd x) : ∀ (k i : Nat), i + k = l.length →
    Ev (fun n => r04ConvexL2 n ((l, (((i : Nat) : Int), ())), ())) (if ((List.range' i k).all fun i => (List.range l.length).all fun j => decide (j = i) || decide (j = nx l i) || decide (0 < side (at_ l i) (at_ l (nx l i)) (at_ l j))) = true then .inl ((l, ()), ()) else .inr ((false, ()), ())) := by
  intro k
  induction k with
  | zero =>
    intro i hi
    refine Ev.of_eq 1 ?_
    simp (disch := omega) only [r04ConvexL2Eq, br_neg]
    exact (Ev.pure _).congr (by simp)
  | succ k ih =>
    intro i hi
    have hr : List.range' i (k + 1) = i :: List.range' (i + 1) k := by rw [List.range'_succ]
    rw [hr, List.all_cons]
    refine Ev.of_eq 1 ?_
    simp (disch := omega) only [r04ConvexL2Eq, br_pos, wr1]
    have h8 := convexL8 l hb hbd i (by omega) l.length 0 (by omega)
    rw [← List.range_eq_range'] at h8
    have hnx : ∀ (f : (((List (Int × Int)) × (Int × (Int × Unit))) × Unit)), f = ((l, (((i : Nat) : Int), (((nx l i : Nat) : Int), ()))), ()) → Ev (fun n => br (decide (((i + 1 : Nat) : Int) < ((l.length : Nat) : Int))) (some ((l, (((i : Nat) : Int), (((i + 1 : Nat) : Int), ()))), ())) (some ((l, (((i : Nat) : Int), ((0 : Int), ()))), ()))) f := fun f hf => by
      subst hf
      by_cases hl : i + 1 = l.length
      · have : nx l i = 0 := by rw [nx_val (by omega), if_pos hl]
        rw [this, br_neg (by omega)]; exact Ev.pure _
      · have : nx l i = i + 1 := by rw [nx_val (by omega), if_neg hl]
        rw [this, br_pos (by omega)]; exact Ev.pure _
    refine Ev.bind (x := if ((List.range l.length).all fun j => decide (j = i) || decide (j = nx l i) || decide (0 < side (at_ l i) (at_ l (nx l i)) (at_ l j))) = true then .inl ((l, (((i : Nat) : Int), ())), ()) else .inr ((false, ()), ())) (Ev.bind (hnx _ rfl) (Ev.bind h8 ?_)) ?_
    · by_cases c : ((List.range l.length).all fun j => decide (j = i) || decide (j = nx l i) || decide (0 < side (at_ l i) (at_ l (nx l i)) (at_ l j))) = true
      · simp only [if_pos c]; exact Ev.pure _
      · simp only [if_neg c]; exact Ev.pure _
    · by_cases c : ((List.range l.length).all fun j => decide (j = i) || decide (j = nx l i) || decide (0 < side (at_ l i) (at_ l (nx l i)) (at_ l j))) = true
      · simp (disch := omega) only [if_pos c, wr1]
        refine (ih (i + 1) (by omega)).congr ?_
        rw [c, Bool.true_and]
      · simp only [if_neg c]
        refine (Ev.pure _).congr ?_
        rw [Bool.not_eq_true] at c
        rw [c]; simp
theorem convexEv (l : List Pt) (hb : l.length < 1000000000) (hbd : ∀ x ∈ l, Bd x) : Ev (fun n => r04Convex n l) (convexB l) := by
  refine Ev.of_eq 1 ?_
  simp only [r04ConvexEq]
  have h := convexL2 l hb hbd l.length 0 (by omega)
  rw [← List.range_eq_range'] at h
  refine Ev.bind h ?_
  unfold convexB
  by_cases c : ((List.range l.length).all fun i => (List.range l.length).all fun j => decide (j = i) || decide (j = nx l i) || decide (0 < side (at_ l i) (at_ l (nx l i)) (at_ l j))) = true
  · simp only [if_pos c, c, Bool.and_true]
    refine (Ev.pure _).congr (decide_eq_decide.2 ?_)
    show (2 : Int) < (l.length : Int) ↔ 2 < l.length
    omega
  · simp only [if_neg c]
    refine (Ev.pure _).congr ?_
    rw [Bool.not_eq_true] at c
    rw [c, Bool.and_false]
theorem refOfEv (l : List Pt) (hb : l.length < 100000000) (hbd : ∀ x ∈ l, Bd x) : Ev (fun n => r04Of n l) (hullRes l) := by
  rw [← refRes_eq]
  refine Ev.of_eq 1 ?_
  cases l with
  | nil =>
    simp (disch := decide) only [r04OfEq, br_pos]
    exact Ev.pure _
  | cons o l =>
    rw [refRes_cons]
    by_cases h3 : (o :: l).length < 3
    · have h3' : (((o :: l).length : Nat) : Int) < 3 := by omega
      simp only [r04OfEq, br_pos h3', if_pos h3]
      exact Ev.pure _
    · have h3' : ¬ (((o :: l).length : Nat) : Int) < 3 := by omega
      simp only [r04OfEq, br_neg h3', if_neg h3]
      refine Ev.bind (firstEv o l (by omega)) ?_
      have hfm : firstP o l ∈ o :: l := by
        rcases (firstP_spec l o).1 with h | h
        · rw [h]; simp
        · exact List.mem_cons_of_mem _ h
      refine Ev.bind (ofL6 (o :: l) hb hbd (firstP o l) hfm (o :: l).length 0 [firstP o l] (firstP o l) (by omega) rfl hfm (by simp)) ?_
      have hm := wrapAll_mem (o :: l) (firstP o l) (o :: l).length [firstP o l] (firstP o l) hfm (fun x hx => by rw [List.mem_singleton.1 hx]; exact hfm)
      have hlen : (wrapAll (o :: l) (firstP o l) (o :: l).length [firstP o l] (firstP o l)).length < 1000000000 := by
        have : ∀ (k : Nat) (out : List Pt) (v : Pt), (wrapAll (o :: l) (firstP o l) k out v).length ≤ out.length + k := by
          intro k
          induction k with
          | zero => intro out v; exact Nat.le_refl _
          | succ k ih =>
            intro out v
            unfold wrapAll
            simp only
            split
            · omega
            · have := ih (out ++ [wrapN v (o :: l) v]) (wrapN v (o :: l) v)
              simp only [List.length_append, List.length_cons, List.length_nil] at this
              omega
        have := this (o :: l).length [firstP o l] (firstP o l)
        have h1 : [firstP o l].length = 1 := rfl
        omega
      refine Ev.bind (convexEv _ hlen fun x hx => hbd x (hm x hx)) ?_
      by_cases c : convexB (wrapAll (o :: l) (firstP o l) (o :: l).length [firstP o l] (firstP o l)) = true
      · simp only [c, if_true, Bool.not_true, br_f]; exact Ev.pure _
      · simp only [Bool.not_eq_true] at c
        simp only [c, Bool.not_false, br_t]; exact Ev.pure _
end Go.Hl
