import Derived.Test.YtlgocmlcniindaaBSwRef
set_option linter.unusedVariables false
set_option linter.unusedSimpArgs false
set_option linter.unnecessarySimpa false
/-
  SWEPT REGIONS: what the functions of program and reference give.
-/
namespace Go.Sw
open Go Go.Am Go.Proofs Go.Hu

/-- Coordinates of corners. -/
def Mid (p : Pt) : Prop := (-40000000 ≤ p.1 ∧ p.1 ≤ 40000000) ∧ (-40000000 ≤ p.2 ∧ p.2 ≤ 40000000)
theorem Mid.bd {p : Pt} (h : Mid p) : Bd p := by unfold Mid at h; unfold Bd; omega
theorem outerC_bd {o a b : Int} (ho : -40000000 ≤ o ∧ o ≤ 40000000) (ha : -40000000 ≤ a ∧ a ≤ 40000000) (hb : -40000000 ≤ b ∧ b ≤ 40000000) : -130000000 ≤ outerC o a b ∧ outerC o a b ≤ 130000000 := by
  have := tdiv16_bd (x := 9 * (a + b - 2 * o)) (M := 90000000) (by omega) (by omega)
  unfold outerC; omega
theorem outer_bd {o a b : Pt} (ho : Mid o) (ha : Mid a) (hb : Mid b) : Bd (outerP o a b) := by
  have h1 := outerC_bd ho.1 ha.1 hb.1
  have h2 := outerC_bd ho.2 ha.2 hb.2
  unfold outerP Bd; simp only; omega
theorem points_bd {o : Pt} {a b : List Pt} (ho : Mid o) (ha : ∀ x ∈ a, Mid x) (hb : ∀ x ∈ b, Mid x) : ∀ x ∈ points o a b, Bd x := by
  intro x hx
  unfold points at hx
  rcases List.mem_append.1 hx with hx | hx
  · rcases List.mem_append.1 hx with hx | hx
    · exact (ha x hx).bd
    · exact (hb x hx).bd
  · obtain ⟨i, hi⟩ := List.mem_iff_getElem?.1 hx
    rw [List.getElem?_zipWith_eq_some] at hi
    obtain ⟨p, q, h1, h2, rfl⟩ := hi
    exact outer_bd ho (ha p (List.mem_of_getElem? h1)) (hb q (List.mem_of_getElem? h2))
theorem points_len {o : Pt} {a b : List Pt} (h : a.length ≤ 1000000) (k : b.length ≤ 1000000) : (points o a b).length < 100000000 := by
  unfold points; simp; omega

theorem beyond1 {o a b : Int} (ho : -40000000 ≤ o ∧ o ≤ 40000000) (ha : -40000000 ≤ a ∧ a ≤ 40000000) (hb : -40000000 ≤ b ∧ b ≤ 40000000) : Ev (fun n => sweepAboutBeyondc1 n o a b) (outerC o a b) := by
  refine Ev.of_eq 1 ?_
  simp only [sweepAboutBeyondc1Eq]
  refine (Ev.pure _).congr ?_
  have hb' := outerC_bd ho ha hb
  have e : a - o + b - o = a + b - 2 * o := by omega
  have ht := tdiv16_bd (x := 9 * (a + b - 2 * o)) (M := 90000000) (by omega) (by omega)
  rw [w64 (n := a - o) (by omega) (by omega), w64 (n := a - o + b) (by omega) (by omega), w64 (n := a - o + b - o) (by omega) (by omega), e, w64 (n := 9 * (a + b - 2 * o)) (by omega) (by omega), w64 (n := (9 * (a + b - 2 * o)).tdiv 16) (by omega) (by omega)]
  unfold outerC at hb' ⊢
  exact w64 (by omega) (by omega)
theorem beyondEv {o a b : Pt} (ho : Mid o) (ha : Mid a) (hb : Mid b) : Ev (fun n => sweepAboutBeyond n o.1 o.2 a.1 a.2 b.1 b.2) (outerP o a b) := by
  refine Ev.of_eq 1 ?_
  simp only [sweepAboutBeyondEq]
  exact Ev.bind (beyond1 ho.1 ha.1 hb.1) (Ev.bind (beyond1 ho.2 ha.2 hb.2) (Ev.pure _))

theorem regionL6 (o : Pt) (ho : Mid o) (a b : List Pt) (hl : a.length = b.length) (hn : a.length < 1000000) (ha : ∀ x ∈ a, Mid x) (hb : ∀ x ∈ b, Mid x) : ∀ (ra rb : List Pt) (i : Nat) (out : List Pt), a.drop i = ra → b.drop i = rb → i ≤ a.length → out.length ≤ i →
    Ev (fun n => sweepRegionL6 n ((a, (b, ((((o.1, o.2), ()), ()), (out, (((a.length : Nat) : Int), (((i : Nat) : Int), ())))))), ())) ((a, (b, (out ++ List.zipWith (outerP o) ra rb, ()))), ()) := by
  intro ra
  induction ra with
  | nil =>
    intro rb i out h1 h2 hi ho'
    have := gdrop_nil h1
    refine Ev.of_eq 1 ?_
    simp (disch := omega) only [sweepRegionL6Eq, br_neg]
    exact (Ev.pure _).congr (by simp)
  | cons x ra ih =>
    intro rb i out h1 h2 hi ho'
    obtain ⟨g1, g2, g3⟩ := gdrop h1
    obtain ⟨y, rb', rfl⟩ : ∃ y rb', rb = y :: rb' := by
      cases rb with
      | nil => have := gdrop_nil h2; omega
      | cons y rb' => exact ⟨y, rb', rfl⟩
    obtain ⟨k1, k2, k3⟩ := gdrop h2
    refine Ev.of_eq 1 ?_
    simp (disch := omega) only [sweepRegionL6Eq, br_pos, Int.toNat_natCast, g1, k1, Option.bind_some]
    refine Ev.bind (beyondEv ho (ha x (List.mem_of_getElem? g1)) (hb y (List.mem_of_getElem? k1))) ?_
    have hcap : (out.length + [((outerP o x y).1, (outerP o x y).2)].length) * 16 ≤ 140737488355328 := by simp only [List.length_cons, List.length_nil]; omega
    simp only [br_pos hcap]
    simp (disch := omega) only [wr1]
    refine (ih rb' (i + 1) (out ++ [outerP o x y]) g2 k2 (by omega) (by simp; omega)).congr ?_
    simp

theorem allL3 (ls : List (List Pt)) (hn : ls.length < 1000000) : ∀ (r : List (List Pt)) (i : Nat) (out : List Pt), ls.drop i = r → i ≤ ls.length → (out.length + r.flatten.length) ≤ 100000000 →
    Ev (fun n => sweepAllL3 n ((out, (ls, (((ls.length : Nat) : Int), (((i : Nat) : Int), ())))), ())) ((out ++ r.flatten, ()), ()) := by
  intro r
  induction r with
  | nil =>
    intro i out h1 hi ho'
    have := gdrop_nil h1
    refine Ev.of_eq 1 ?_
    simp (disch := omega) only [sweepAllL3Eq, br_neg]
    exact (Ev.pure _).congr (by simp)
  | cons x r ih =>
    intro i out h1 hi ho'
    obtain ⟨g1, g2, g3⟩ := gdrop h1
    simp only [List.flatten_cons, List.length_append] at ho'
    refine Ev.of_eq 1 ?_
    have hcap : (out.length + x.length) * 16 ≤ 140737488355328 := by omega
    simp (disch := omega) only [sweepAllL3Eq, br_pos, Int.toNat_natCast, g1, Option.bind_some, wr1]
    refine (ih (i + 1) (out ++ x) g2 (by omega) (by rw [List.length_append]; omega)).congr ?_
    simp
theorem allEv (a b c : List Pt) (h : a.length + b.length + c.length ≤ 100000000) : Ev (fun n => sweepAll n [a, b, c]) (a ++ b ++ c) := by
  refine Ev.of_eq 1 ?_
  simp only [sweepAllEq]
  have := allL3 [a, b, c] (by simp) [a, b, c] 0 [] rfl (Nat.zero_le _) (by simp; omega)
  refine Ev.bind this ?_
  exact (Ev.pure _).congr (by simp)

theorem regionEv {o : Pt} {a b : List Pt} (ho : Mid o) (hn : a.length ≤ 1000000) (ha : ∀ x ∈ a, Mid x) (hb : ∀ x ∈ b, Mid x) : Ev (fun n => sweepRegionv2 n o.1 o.2 a b) (region o a b) := by
  unfold region
  refine Ev.of_eq 1 ?_
  by_cases hl : a.length = b.length
  · have h1 : (a.length : Int) = (b.length : Int) := by omega
    rw [if_neg (by simpa using hl)]
    simp only [sweepRegionv2Eq, nbr_pos h1]
    by_cases h12 : 12 < a.length
    · have h2 : (12 : Int) < (a.length : Int) := by omega
      simp only [br_pos h2, if_pos h12]; exact Ev.pure _
    · have h2 : ¬ (12 : Int) < (a.length : Int) := by omega
      simp only [br_neg h2, if_neg h12]
      refine Ev.bind (regionL6 o ho a b hl (by omega) ha hb a b 0 [] rfl rfl (Nat.zero_le _) (Nat.le_refl _)) ?_
      refine Ev.bind (allEv a b _ (by simp; omega)) ?_
      have := hullEv (points o a b) (points_len hn (by omega)) (points_bd ho ha hb)
      refine Ev.bind (x := hullRes (points o a b)) this ?_
      exact Ev.pure _
  · have h1 : ¬ (a.length : Int) = (b.length : Int) := by omega
    rw [if_pos hl]
    simp only [sweepRegionv2Eq, nbr_neg h1]
    exact Ev.pure _
theorem region0Ev {o : Pt} (ho : Mid o) : Ev (fun n => sweepRegion n o.1 o.2) (region o [] []) := by
  refine Ev.of_eq 1 ?_
  simp only [sweepRegionEq]
  refine Ev.bind (regionL6 o ho [] [] rfl (by simp) (by simp) (by simp) [] [] 0 [] rfl rfl (Nat.zero_le _) (Nat.le_refl _)) ?_
  refine Ev.bind (allEv [] [] _ (by simp)) ?_
  have := hullEv (points o [] []) (points_len (by simp) (by simp)) (points_bd ho (by simp) (by simp))
  refine Ev.bind (x := hullRes (points o [] [])) this ?_
  exact (Ev.pure _).congr (by simp [region])
theorem arcEv {o a b : Pt} (ho : Mid o) (ha : Mid a) (hb : Mid b) : Ev (fun n => sweepArcBound n o.1 o.2 a.1 a.2 b.1 b.2) (outerP o a b) := by
  refine Ev.of_eq 1 ?_
  simp only [sweepArcBoundEq]
  exact Ev.bind (beyondEv ho ha hb) (Ev.pure _)

/-! ### The reference -/
theorem routerEv {o a b : Pt} (ho : Mid o) (ha : Mid a) (hb : Mid b) : Ev (fun n => r06Outer n o.1 o.2 a.1 a.2 b.1 b.2) (outerP o a b) := by
  refine Ev.of_eq 1 ?_
  simp only [r06OuterEq]
  refine (Ev.pure _).congr ?_
  have one : ∀ {o a b : Int}, (-40000000 ≤ o ∧ o ≤ 40000000) → (-40000000 ≤ a ∧ a ≤ 40000000) → (-40000000 ≤ b ∧ b ≤ 40000000) → IntKind.i64.wrap (o + IntKind.i64.wrap ((IntKind.i64.wrap (9 * IntKind.i64.wrap (IntKind.i64.wrap (a + b) - IntKind.i64.wrap (2 * o)))).tdiv 16)) = outerC o a b := by
    intro o a b ho ha hb
    have hb' := outerC_bd ho ha hb
    have ht := tdiv16_bd (x := 9 * (a + b - 2 * o)) (M := 90000000) (by omega) (by omega)
    rw [w64 (n := a + b) (by omega) (by omega), w64 (n := 2 * o) (by omega) (by omega), w64 (n := a + b - 2 * o) (by omega) (by omega), w64 (n := 9 * (a + b - 2 * o)) (by omega) (by omega), w64 (n := (9 * (a + b - 2 * o)).tdiv 16) (by omega) (by omega)]
    unfold outerC at hb' ⊢
    exact w64 (by omega) (by omega)
  rw [one ho.1 ha.1 hb.1, one ho.2 ha.2 hb.2]
  rfl
theorem pointsL3 (a b : List Pt) (o1 o2 : Int) (hn : a.length < 1000000) : ∀ (r : List Pt) (i : Nat) (out : List Pt), a.drop i = r → i ≤ a.length → out.length ≤ i →
    Ev (fun n => r06PointsL3 n ((a, (b, ((), (out, (((i : Nat) : Int), ()))))), ((o1, (o2, ())), ()))) ((a, (b, ((), (out ++ r, ())))), ((o1, (o2, ())), ())) := by
  intro r
  induction r with
  | nil =>
    intro i out h1 hi ho'
    have := gdrop_nil h1
    refine Ev.of_eq 1 ?_
    simp (disch := omega) only [r06PointsL3Eq, br_neg]
    exact (Ev.pure _).congr (by simp)
  | cons x r ih =>
    intro i out h1 hi ho'
    obtain ⟨g1, g2, g3⟩ := gdrop h1
    refine Ev.of_eq 1 ?_
    have hcap : (out.length + [(x.1, x.2)].length) * 16 ≤ 140737488355328 := by simp only [List.length_cons, List.length_nil]; omega
    simp (disch := omega) only [r06PointsL3Eq, br_pos, Int.toNat_natCast, g1, Option.bind_some, br_pos hcap, wr1]
    refine (ih (i + 1) (out ++ [x]) g2 (by omega) (by simp; omega)).congr ?_
    simp
theorem pointsL7 (a b : List Pt) (o1 o2 : Int) (hn : b.length < 1000000) (k : Nat) (hk : k < 1000000) : ∀ (r : List Pt) (i : Nat) (out : List Pt), b.drop i = r → i ≤ b.length → out.length ≤ i + k →
    Ev (fun n => r06PointsL7 n ((a, (b, ((), (out, (((i : Nat) : Int), ()))))), ((o1, (o2, ())), ()))) ((a, (b, ((), (out ++ r, ())))), ((o1, (o2, ())), ())) := by
  intro r
  induction r with
  | nil =>
    intro i out h1 hi ho'
    have := gdrop_nil h1
    refine Ev.of_eq 1 ?_
    simp (disch := omega) only [r06PointsL7Eq, br_neg]
    exact (Ev.pure _).congr (by simp)
  | cons x r ih =>
    intro i out h1 hi ho'
    obtain ⟨g1, g2, g3⟩ := gdrop h1
    refine Ev.of_eq 1 ?_
    have hcap : (out.length + [(x.1, x.2)].length) * 16 ≤ 140737488355328 := by simp only [List.length_cons, List.length_nil]; omega
    simp (disch := omega) only [r06PointsL7Eq, br_pos, Int.toNat_natCast, g1, Option.bind_some, br_pos hcap, wr1]
    refine (ih (i + 1) (out ++ [x]) g2 (by omega) (by simp; omega)).congr ?_
    simp
theorem pointsL11 (o : Pt) (ho : Mid o) (a b : List Pt) (hn : a.length < 1000000) (k : Nat) (hk : k < 10000000) (ha : ∀ x ∈ a, Mid x) (hb : ∀ x ∈ b, Mid x) : ∀ (ra rb : List Pt) (i : Nat) (out : List Pt), a.drop i = ra → b.drop i = rb → i ≤ a.length → out.length ≤ i + k →
    Ev (fun n => r06PointsL11 n ((a, (b, ((), (out, (((i : Nat) : Int), ()))))), ((o.1, (o.2, ())), ()))) ((out ++ List.zipWith (outerP o) ra rb, ()), ()) := by
  intro ra
  induction ra with
  | nil =>
    intro rb i out h1 h2 hi ho'
    have := gdrop_nil h1
    refine Ev.of_eq 1 ?_
    simp (disch := omega) only [r06PointsL11Eq, br_neg]
    exact (Ev.pure _).congr (by simp)
  | cons x ra ih =>
    intro rb i out h1 h2 hi ho'
    obtain ⟨g1, g2, g3⟩ := gdrop h1
    cases rb with
    | nil =>
      have := gdrop_nil h2
      refine Ev.of_eq 1 ?_
      simp (disch := omega) only [r06PointsL11Eq, br_pos, br_neg]
      exact (Ev.pure _).congr (by simp)
    | cons y rb' =>
      obtain ⟨k1, k2, k3⟩ := gdrop h2
      refine Ev.of_eq 1 ?_
      simp (disch := omega) only [r06PointsL11Eq, br_pos, Int.toNat_natCast, g1, k1, Option.bind_some]
      refine Ev.bind (routerEv ho (ha x (List.mem_of_getElem? g1)) (hb y (List.mem_of_getElem? k1))) ?_
      have hcap : (out.length + [((outerP o x y).1, (outerP o x y).2)].length) * 16 ≤ 140737488355328 := by simp only [List.length_cons, List.length_nil]; omega
      simp only [br_pos hcap]
      simp (disch := omega) only [wr1]
      refine (ih rb' (i + 1) (out ++ [outerP o x y]) g2 k2 (by omega) (by simp; omega)).congr ?_
      simp
theorem pointsEv {o : Pt} {a b : List Pt} (ho : Mid o) (hn : a.length < 1000000) (hm : b.length < 1000000) (ha : ∀ x ∈ a, Mid x) (hb : ∀ x ∈ b, Mid x) : Ev (fun n => r06Points n o.1 o.2 a b) (points o a b) := by
  refine Ev.of_eq 1 ?_
  simp only [r06PointsEq]
  refine Ev.bind (pointsL3 a b o.1 o.2 hn a 0 [] rfl (Nat.zero_le _) (Nat.le_refl _)) ?_
  refine Ev.bind (pointsL7 a b o.1 o.2 hm a.length hn b 0 _ rfl (Nat.zero_le _) (by simp)) ?_
  refine Ev.bind (pointsL11 o ho a b hn (a.length + b.length) (by omega) ha hb a b 0 _ rfl rfl (Nat.zero_le _) (by simp)) ?_
  exact (Ev.pure _).congr (by simp [points])
theorem sweptEv {o : Pt} {a b : List Pt} (ho : Mid o) (hn : a.length < 1000000) (ha : ∀ x ∈ a, Mid x) (hb : ∀ x ∈ b, Mid x) : Ev (fun n => r06Swept n o.1 o.2 a b) (region o a b) := by
  unfold region
  refine Ev.of_eq 1 ?_
  by_cases hl : a.length = b.length
  · have h1 : (a.length : Int) = (b.length : Int) := by omega
    rw [if_neg (by simpa using hl)]
    simp only [r06SweptEq, nbr_pos h1]
    by_cases h12 : 12 < a.length
    · have h2 : (12 : Int) < (a.length : Int) := by omega
      simp only [br_pos h2, if_pos h12]; exact Ev.pure _
    · have h2 : ¬ (12 : Int) < (a.length : Int) := by omega
      simp only [br_neg h2, if_neg h12]
      refine Ev.bind (pointsEv ho hn (by omega) ha hb) ?_
      refine Ev.bind (refOfEv (points o a b) (points_len (by omega) (by omega)) (points_bd ho ha hb)) ?_
      exact Ev.pure _
  · have h1 : ¬ (a.length : Int) = (b.length : Int) := by omega
    rw [if_pos hl]
    simp only [r06SweptEq, nbr_neg h1]
    exact Ev.pure _

theorem tmod_nx {l : List Pt} {i : Nat} (hi : i < l.length) : (((i + 1 : Nat) : Int)).tmod ((l.length : Nat) : Int) = ((nx l i : Nat) : Int) := by
  rw [Int.tmod_eq_emod_of_nonneg (by omega)]
  unfold nx
  omega
theorem inL2 (p : List Pt) (hn : p.length < 1000000000) (hb : ∀ x ∈ p, Bd x) (x : Pt) (hx : Bd x) : ∀ (k i : Nat), i + k = p.length →
    Ev (fun n => r06InL2 n ((p, ((), (((i : Nat) : Int), ()))), ((x.1, (x.2, ())), ()))) (if ((List.range' i k).all fun i => decide (0 ≤ side (at_ p i) (at_ p (nx p i)) x)) = true then .inl ((p, ()), ()) else .inr ((false, ()), ())) := by
  intro k
  induction k with
  | zero =>
    intro i hi
    refine Ev.of_eq 1 ?_
    simp (disch := omega) only [r06InL2Eq, br_neg]
    exact (Ev.pure _).congr (by simp)
  | succ k ih =>
    intro i hi
    have hr : List.range' i (k + 1) = i :: List.range' (i + 1) k := by rw [List.range'_succ]
    rw [hr, List.all_cons]
    have hil : i < p.length := by omega
    have hnl := nx_lt (h := p) (by omega) i
    have gi := Go.Hu.get_at hil
    have gn := Go.Hu.get_at hnl
    refine Ev.of_eq 1 ?_
    simp (disch := omega) only [r06InL2Eq, br_pos, br_neg, Int.toNat_natCast, gi, Option.bind_some, wr1, tmod_nx hil, gn]
    refine Ev.bind (rsideEv (hb _ (at_mem hil)) (hb _ (at_mem hnl)) hx) ?_
    by_cases c : side (at_ p i) (at_ p (nx p i)) x < 0
    · simp only [br_pos c]
      refine (Ev.pure _).congr ?_
      rw [decide_eq_false (by omega)]; rfl
    · simp only [br_neg c]
      refine (ih (i + 1) (by omega)).congr ?_
      rw [decide_eq_true (show 0 ≤ side (at_ p i) (at_ p (nx p i)) x by omega)]; rfl
theorem inEv (p : List Pt) (hn : p.length < 1000000000) (hb : ∀ x ∈ p, Bd x) (x : Pt) (hx : Bd x) : Ev (fun n => r06In n p x.1 x.2) (inB p x) := by
  refine Ev.of_eq 1 ?_
  simp only [r06InEq]
  have h := inL2 p hn hb x hx p.length 0 (by omega)
  rw [← List.range_eq_range'] at h
  refine Ev.bind h ?_
  unfold inB
  by_cases c : ((List.range p.length).all fun i => decide (0 ≤ side (at_ p i) (at_ p (nx p i)) x)) = true
  · simp only [if_pos c, c, Bool.and_true]
    refine (Ev.pure _).congr (decide_eq_decide.2 ?_)
    show (0 : Int) < (p.length : Int) ↔ 0 < p.length
    omega
  · simp only [if_neg c]
    refine (Ev.pure _).congr ?_
    rw [Bool.not_eq_true] at c
    rw [c, Bool.and_false]

/-! ### What the laws share -/
def fit (p : Pt) : Pt := (p.1.tmod 10000001, p.2.tmod 10000001)
def Small (p : Pt) : Prop := (-10000000 ≤ p.1 ∧ p.1 ≤ 10000000) ∧ (-10000000 ≤ p.2 ∧ p.2 ≤ 10000000)
theorem Small.mid {p : Pt} (h : Small p) : Mid p := by unfold Small at h; unfold Mid; omega
theorem tmod_bd (x : Int) : -10000000 ≤ x.tmod 10000001 ∧ x.tmod 10000001 ≤ 10000000 := by
  by_cases h : 0 ≤ x
  · rw [Int.tmod_eq_emod_of_nonneg h]; omega
  · have : x.tmod 10000001 = -((-x).tmod 10000001) := by rw [Int.neg_tmod, Int.neg_neg]
    rw [this, Int.tmod_eq_emod_of_nonneg (by omega)]; omega
theorem fit_small (p : Pt) : Small (fit p) := ⟨tmod_bd _, tmod_bd _⟩
def fits (l : List Pt) : List Pt := (l.take 14).map fit
theorem fits_small {l : List Pt} : ∀ x ∈ fits l, Small x := fun x hx => by
  obtain ⟨y, _, rfl⟩ := List.mem_map.1 hx
  exact fit_small y
theorem fits_len (l : List Pt) : (fits l).length ≤ 14 := by simp [fits]; omega
theorem fitEv (p : Pt) : Ev (fun n => l06Fit n p.1 p.2) (fit p) := by
  refine Ev.of_eq 2 ?_
  simp only [l06FitEq, l06AtEq]
  exact Ev.pure _
theorem atEv (a b : Int) : Ev (fun n => l06At n a b) (a, b) := by
  refine Ev.of_eq 1 ?_
  simp only [l06AtEq]
  exact Ev.pure _
theorem fitsL3 (l : List Pt) : ∀ (k i : Nat) (out : List Pt), i + k = 14 → out.length ≤ i →
    Ev (fun n => l06FitsL3 n ((l, (out, (((i : Nat) : Int), ()))), ())) ((out ++ ((l.drop i).take k).map fit, ()), ()) := by
  intro k
  induction k with
  | zero =>
    intro i out hi ho
    refine Ev.of_eq 1 ?_
    by_cases hl : i < l.length
    · simp (disch := omega) only [l06FitsL3Eq, br_pos, br_neg]
      exact (Ev.pure _).congr (by simp)
    · simp (disch := omega) only [l06FitsL3Eq, br_neg]
      exact (Ev.pure _).congr (by simp)
  | succ k ih =>
    intro i out hi ho
    cases hd : l.drop i with
    | nil =>
      have := gdrop_nil hd
      refine Ev.of_eq 1 ?_
      simp (disch := omega) only [l06FitsL3Eq, br_neg]
      exact (Ev.pure _).congr (by simp)
    | cons x r =>
      obtain ⟨g1, g2, g3⟩ := gdrop hd
      refine Ev.of_eq 1 ?_
      simp (disch := omega) only [l06FitsL3Eq, br_pos, Int.toNat_natCast, g1, Option.bind_some]
      refine Ev.bind (fitEv x) ?_
      have hcap : (out.length + [((fit x).1, (fit x).2)].length) * 16 ≤ 140737488355328 := by simp only [List.length_cons, List.length_nil]; omega
      simp only [br_pos hcap]
      simp (disch := omega) only [wr1]
      refine (ih (i + 1) (out ++ [fit x]) (by omega) (by simp; omega)).congr ?_
      rw [g2]; simp
theorem fitsEv (l : List Pt) : Ev (fun n => l06Fits n l) (fits l) := by
  refine Ev.of_eq 1 ?_
  simp only [l06FitsEq]
  refine Ev.bind (fitsL3 l 14 0 [] rfl (Nat.le_refl _)) ?_
  exact (Ev.pure _).congr (by simp [fits])
def sameN (a b : List Pt) : Nat := min (min (fits a).length (fits b).length) 12
theorem sameLEv (a b : List Pt) : Ev (fun n => l06Same n a b) ((fits a).take (sameN a b), (fits b).take (sameN a b)) := by
  refine Ev.of_eq 1 ?_
  simp only [l06SameEq]
  refine Ev.bind (fitsEv a) (Ev.bind (fitsEv b) ?_)
  have e : (if decide ((12 : Int) < (if decide (((fits b).length : Int) < ((fits a).length : Int)) = true then ((fits b).length : Int) else ((fits a).length : Int))) = true then (12 : Int) else (if decide (((fits b).length : Int) < ((fits a).length : Int)) = true then ((fits b).length : Int) else ((fits a).length : Int))) = ((sameN a b : Nat) : Int) := by
    unfold sameN
    simp only [decide_eq_true_eq]
    split <;> split <;> omega
  rw [e]
  have h1 : (0 : Int) ≤ 0 ∧ (0 : Int) ≤ ((sameN a b : Nat) : Int) ∧ ((sameN a b : Nat) : Int) ≤ ((fits a).length : Int) := ⟨by omega, by omega, by unfold sameN; omega⟩
  have h2 : (0 : Int) ≤ 0 ∧ (0 : Int) ≤ ((sameN a b : Nat) : Int) ∧ ((sameN a b : Nat) : Int) ≤ ((fits b).length : Int) := ⟨by omega, by omega, by unfold sameN; omega⟩
  simp only [br_pos h1, br_pos h2, Int.toNat_natCast]
  exact (Ev.pure _).congr (by simp)

/-! ### The fixed examples -/
/-- A hull, checked corner by corner. -/
def isHullB (S h : List Pt) : Bool := decide (3 ≤ h.length) && (h.all fun x => S.contains x) && ((List.range h.length).all fun i => S.all fun q => decide (0 ≤ side (at_ h i) (at_ h (nx h i)) q)) &&
  ((List.range h.length).all fun i => (List.range h.length).all fun j => decide (j = i) || decide (j = nx h i) || decide (0 < side (at_ h i) (at_ h (nx h i)) (at_ h j))) &&
  (S.all fun q => decide (q = at_ h 0) || decide ((at_ h 0).1 < q.1) || (decide ((at_ h 0).1 = q.1) && decide ((at_ h 0).2 < q.2)))
theorem isHullB_spec {S h : List Pt} (e : isHullB S h = true) : IsHull S h := by
  simp only [isHullB, Bool.and_eq_true, decide_eq_true_eq, List.all_eq_true, List.mem_range, Bool.or_eq_true, List.contains_iff_mem] at e
  obtain ⟨⟨⟨⟨e1, e2⟩, e3⟩, e4⟩, e5⟩ := e
  refine ⟨⟨e1, e2, fun i hi q hq => e3 i hi q hq, fun i hi j hj h1 h2 => ?_⟩, fun q hq => ?_⟩
  · rcases e4 i hi j hj with (h | h) | h
    · exact absurd h h1
    · exact absurd h h2
    · exact h
  · rcases e5 q hq with (h | h) | h
    · exact .inl h
    · exact .inr (.inl h)
    · exact .inr (.inr h)
theorem hullRes_of {S h : List Pt} (e : isHullB S h = true) : hullRes S = (h, true) := by
  have H := isHullB_spec e
  rcases hullRes_spec S with ⟨_, h2⟩ | ⟨h', h1, H'⟩
  · exfalso
    have := H.strict 0 H.pos 2 (by have := H.len; omega) (by omega) (by rw [nx_val H.pos]; have := H.len; split <;> omega)
    have h0 := h2 _ _ _ (H.mem H.pos) (H.mem (nx_lt H.pos 0)) (H.mem (i := 2) (by have := H.len; omega))
    omega
  · rw [h1, H'.unique H fun _ => Iff.rfl]
theorem headEv : Ev (fun n => l06Head n) true := by
  refine Ev.of_eq 1 ?_
  simp only [l06HeadEq]
  have m : ∀ {a b : Int}, (-40000000 ≤ a ∧ a ≤ 40000000) → (-40000000 ≤ b ∧ b ≤ 40000000) → Mid (a, b) := fun h k => ⟨h, k⟩
  have r0 : region (0, 0) [] [] = ([], false) := by
    rcases hullRes_spec (points (0, 0) [] []) with ⟨h1, _⟩ | ⟨h', h1, H'⟩
    · exact h1
    · have := H'.sub _ (at_mem H'.pos)
      simp [points] at this
  have r1 : region (0, 0) [(0, 0), (32, 0), (32, 16)] [(0, 0), (0, 32), (-16, 32)] = ([(-16, 32), (0, 0), (32, 0), (32, 16), (0, 32)], true) := by
    show hullRes _ = _
    exact hullRes_of (by decide +kernel)
  refine Ev.bind (atEv 0 0) (Ev.bind (region0Ev (m (by omega) (by omega))) ?_)
  rw [r0]
  refine Ev.bind (atEv 0 0) (Ev.bind (atEv 0 0) (Ev.bind (atEv 32 0) (Ev.bind (atEv 32 16) (Ev.bind (atEv 0 0) (Ev.bind (atEv 0 32) (Ev.bind (atEv (-16) 32) ?_))))))
  refine Ev.bind (regionEv (o := (0, 0)) (a := [(0, 0), (32, 0), (32, 16)]) (b := [(0, 0), (0, 32), (-16, 32)]) (m (by omega) (by omega)) (by simp) ?_ ?_) ?_
  · intro x hx
    simp only [List.mem_cons, List.not_mem_nil, or_false] at hx
    rcases hx with rfl | rfl | rfl <;> exact m (by omega) (by omega)
  · intro x hx
    simp only [List.mem_cons, List.not_mem_nil, or_false] at hx
    rcases hx with rfl | rfl | rfl <;> exact m (by omega) (by omega)
  rw [r1]
  refine Ev.bind (atEv 0 0) (Ev.bind (atEv 32 0) (Ev.bind (atEv 0 32) ?_))
  refine Ev.bind (arcEv (o := (0, 0)) (a := (32, 0)) (b := (0, 32)) (m (by omega) (by omega)) (m (by omega) (by omega)) (m (by omega) (by omega))) ?_
  refine Ev.bind (atEv 18 18) ?_
  have a1 : outerP (0, 0) (32, 0) (0, 32) = (18, 18) := by decide
  have a2 : outerP (16, 0) (48, 0) (16, 32) = (34, 18) := by decide
  have a3 : outerP (0, 0) (-1, 1) (0, 0) = (0, 0) := by decide
  rw [a1]
  simp only [beq_pt (18, 18) (18, 18), decide_true, br_t]
  refine Ev.bind (atEv 16 0) (Ev.bind (atEv 48 0) (Ev.bind (atEv 16 32) ?_))
  refine Ev.bind (arcEv (o := (16, 0)) (a := (48, 0)) (b := (16, 32)) (m (by omega) (by omega)) (m (by omega) (by omega)) (m (by omega) (by omega))) ?_
  refine Ev.bind (atEv 34 18) ?_
  rw [a2]
  simp only [beq_pt (34, 18) (34, 18), decide_true, br_t]
  refine Ev.bind (atEv 0 0) (Ev.bind (atEv (-1) 1) (Ev.bind (atEv 0 0) ?_))
  refine Ev.bind (arcEv (o := (0, 0)) (a := (-1, 1)) (b := (0, 0)) (m (by omega) (by omega)) (m (by omega) (by omega)) (m (by omega) (by omega))) ?_
  refine Ev.bind (atEv 0 0) ?_
  rw [a3]
  simp only [beq_pt (0, 0) (0, 0), decide_true, br_t, Bool.not_false]
  refine Ev.bind (atEv (-16) 32) (Ev.bind (atEv 0 0) (Ev.bind (atEv 32 0) (Ev.bind (atEv 32 16) (Ev.bind (atEv 0 32) ?_))))
  refine Ev.bind (sameEv _ _ (by simp)) ?_
  exact Ev.pure _
end Go.Sw
