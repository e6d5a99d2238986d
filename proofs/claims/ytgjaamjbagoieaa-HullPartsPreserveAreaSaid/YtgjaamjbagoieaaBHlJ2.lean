import Derived.Test.YtgjaamjbagoieaaBHlJ1
set_option linter.unusedVariables false
set_option linter.unusedSimpArgs false
set_option linter.unnecessarySimpa false
/-
  HULL: the parts keep the area and cover the polygon.
-/
namespace Go.Hl
open Go Go.Am Go.Proofs Go.Hu

theorem conv_tri {x y z : Pt} (h : 0 < side x y z) : convexB [x, y, z] = true := by
  have h1 : 0 < side y z x := by rw [← side_cyc]; exact h
  have h2 : 0 < side z x y := by rw [side_cyc]; exact h
  have r : List.range 3 = [0, 1, 2] := rfl
  have n0 : nx [x, y, z] 0 = 1 := by simp [nx]
  have n1 : nx [x, y, z] 1 = 2 := by simp [nx]
  have n2 : nx [x, y, z] 2 = 0 := by simp [nx]
  have a0 : at_ [x, y, z] 0 = x := rfl
  have a1 : at_ [x, y, z] 1 = y := rfl
  have a2 : at_ [x, y, z] 2 = z := rfl
  unfold convexB
  simp only [List.length_cons, List.length_nil, r, List.all_cons, List.all_nil, n0, n1, n2, a0, a1, a2, Nat.zero_add, Nat.reduceAdd, h, h1, h2]
  rfl
theorem wrap_add2 (a b : Int) : IntKind.i64.wrap (IntKind.i64.wrap a + IntKind.i64.wrap b) = IntKind.i64.wrap (a + b) := by rw [i64_eq, i64_eq, i64_eq, i64_eq]; omega
theorem presL18 (p : List Pt) (hp : p.length < 1000) (up : Bool) (ps : List (List Pt)) (s : Int) (i : Nat) (q : List Pt) (hq : ps[i]? = some q) (hq3 : q.length < 1000) (hm : ∀ x ∈ q, x ∈ p) : ∀ (r : List Pt) (j : Nat), q.drop j = r → j ≤ q.length →
    Ev (fun n => l04HullPartsPreserveAreaL18 n ((p, (up, (ps, (s, (((i : Nat) : Int), (((j : Nat) : Int), ())))))), ())) (.inl ((p, (up, (ps, (s, (((i : Nat) : Int), ()))))), ())) := by
  intro r
  have d1 : (0 : Int) ≤ ((i : Nat) : Int) := by omega
  induction r with
  | nil =>
    intro j h1 hj
    have := gdrop_nil h1
    have hc : ¬ ((j : Nat) : Int) < ((q.length : Nat) : Int) := by omega
    refine Ev.of_eq 1 ?_
    simp only [l04HullPartsPreserveAreaL18Eq, br_pos d1, Int.toNat_natCast, hq, Option.bind_some, br_neg hc]
    exact Ev.pure _
  | cons y r ih =>
    intro j h1 hj
    obtain ⟨g1, g2, g3⟩ := gdrop h1
    have hc : ((j : Nat) : Int) < ((q.length : Nat) : Int) := by omega
    have d2 : (0 : Int) ≤ ((j : Nat) : Int) := by omega
    refine Ev.of_eq 1 ?_
    simp only [l04HullPartsPreserveAreaL18Eq, br_pos d1, br_pos d2, Int.toNat_natCast, hq, g1, Option.bind_some, br_pos hc, wr1 j (by omega)]
    refine Ev.bind (memEv p (by omega) y) ?_
    rw [decide_eq_true (hm y (List.mem_of_getElem? g1))]
    simp only [Bool.not_true, br_f]
    exact ih (j + 1) g2 (by omega)
theorem presL13 (p : List Pt) (hp : p.length < 1000) (hbd : ∀ x ∈ p, Bd x) (up : Bool) (ps : List (List Pt)) (hl : ps.length < 1000) (hps : ∀ q ∈ ps, ∃ x y z, q = [x, y, z] ∧ 0 < side x y z ∧ x ∈ p ∧ y ∈ p ∧ z ∈ p) : ∀ (r : List (List Pt)) (i : Nat) (s : Int), ps.drop i = r → i ≤ ps.length →
    Ev (fun n => l04HullPartsPreserveAreaL13 n ((p, (up, (ps, (IntKind.i64.wrap s, (((i : Nat) : Int), ()))))), ())) (.inl ((p, (up, (ps, (IntKind.i64.wrap (s + (r.map carea).sum), ())))), ())) := by
  intro r
  induction r with
  | nil =>
    intro i s h1 hi
    have := gdrop_nil h1
    refine Ev.of_eq 1 ?_
    simp (disch := omega) only [l04HullPartsPreserveAreaL13Eq, br_neg]
    exact (Ev.pure _).congr (by simp)
  | cons q r ih =>
    intro i s h1 hi
    obtain ⟨g1, g2, g3⟩ := gdrop h1
    have hc : ((i : Nat) : Int) < ((ps.length : Nat) : Int) := by omega
    have d1 : (0 : Int) ≤ ((i : Nat) : Int) := by omega
    obtain ⟨x, y, z, rfl, q2, q3, q4, q5⟩ := hps q (List.mem_of_getElem? g1)
    have sub : ∀ w ∈ [x, y, z], w ∈ p := fun w hw => by
      simp only [List.mem_cons, List.not_mem_nil, or_false] at hw
      rcases hw with rfl | rfl | rfl <;> assumption
    have h3 : (([x, y, z] : List Pt).length : Int) = 3 := rfl
    refine Ev.of_eq 1 ?_
    simp only [l04HullPartsPreserveAreaL13Eq, br_pos hc, br_pos d1, Int.toNat_natCast, g1, Option.bind_some, nbr_pos h3]
    refine Ev.bind (isConvexEv [x, y, z] (by simp) fun w hw => hbd w (sub w hw)) ?_
    rw [conv_tri q2]
    simp only [Bool.not_true, br_f]
    refine Ev.bind (presL18 p hp up ps (IntKind.i64.wrap s) i [x, y, z] g1 (by simp) sub [x, y, z] 0 rfl (Nat.zero_le _)) ?_
    simp only [br_pos d1, Int.toNat_natCast, g1, Option.bind_some, wr1 i (by omega)]
    refine Ev.bind (area2Ev [x, y, z] (by simp) (by simp) fun w hw => hbd w (sub w hw)) ?_
    rw [wrap_add2]
    refine (ih (i + 1) (s + carea [x, y, z]) g2 (by omega)).congr ?_
    rw [List.map_cons, List.sum_cons, Int.add_assoc]
theorem preserveEv (p : List Pt) (hb : p.length ≤ 9223372036854775807) : Ev (fun n => l04HullPartsPreserveArea n p) true := by
  refine Ev.of_eq 1 ?_
  simp only [l04HullPartsPreserveAreaEq]
  refine Ev.bind headEv ?_
  by_cases h12 : 12 < p.length
  · have h12' : (12 : Int) < ((p.length : Nat) : Int) := by omega
    simp only [br_pos h12']
    exact Ev.pure _
  have h12' : ¬ (12 : Int) < ((p.length : Nat) : Int) := by omega
  simp only [br_neg h12']
  obtain ⟨b, hr, hev⟩ := rightP p hb
  refine Ev.bind hev ?_
  cases b with
  | false => exact Ev.pure _
  | true =>
  obtain ⟨S, _, hbd⟩ := hr rfl
  simp only [Bool.not_true, br_f]
  refine Ev.bind (decompEv p (by omega) hbd) (Ev.bind (isConvexEv p (by omega) hbd) ?_)
  cases hc : convexB p with
  | true =>
    have hd : decomp p = [p] := by unfold decomp; rw [if_pos hc]
    simp only [br_t]
    rw [hd]
    refine Ev.bind (sameAllEv [p] [p] (by simp) (fun x hx => by simp at hx; rw [hx]; omega)) ?_
    exact (Ev.pure _).congr (by simp)
  | false =>
  simp only [br_f]
  obtain ⟨ps, hcut, hps⟩ := S.cut
  have hd : decomp p = ps := by unfold decomp; rw [if_neg (by rw [hc]; simp), hps]
  rw [hd]
  have hlen := hcut.len
  have hL := presL13 p (by omega) hbd true ps (by omega) hcut.part ps 0 0 rfl (Nat.zero_le _)
  refine Ev.bind hL ?_
  have e1 : ((ps.length : Nat) : Int) = IntKind.i64.wrap (((p.length : Nat) : Int) - 2) := by rw [w64 (by omega) (by omega)]; omega
  simp only [br_t, br_pos e1]
  refine Ev.bind (area2Ev p (by omega) S.len hbd) ?_
  exact (Ev.pure _).congr (by rw [Int.zero_add, hcut.area, decide_eq_true rfl])

/-! ### HullPartsCoverPolygon -/
def anyIn (x : Pt) : List (List Pt) → Bool → Bool
  | [], b => b
  | q :: ps, b => anyIn x ps (if b = true then true else decide (0 ≤ hasR q x))
theorem anyIn_iff (x : Pt) : ∀ (ps : List (List Pt)) (b : Bool), anyIn x ps b = true ↔ b = true ∨ ∃ q ∈ ps, 0 ≤ hasR q x := by
  intro ps
  induction ps with
  | nil => intro b; simp [anyIn]
  | cons q ps ih =>
    intro b
    unfold anyIn
    rw [ih]
    cases b with
    | true => simp
    | false => simp
theorem cnt_le (x : Pt) (ps : List (List Pt)) : cnt x ps ≤ ps.length := by
  induction ps with
  | nil => exact Int.le_refl _
  | cons q ps ih => simp only [cnt, List.length_cons]; split <;> omega
theorem coverL12 (p : List Pt) (x : Pt) (hx : Bd x) (up : Bool) (ps : List (List Pt)) (hl : ps.length < 1000) (hps : ∀ q ∈ ps, 3 ≤ q.length ∧ q.length < 1000 ∧ ∀ y ∈ q, Bd y) : ∀ (r : List (List Pt)) (i : Nat) (b : Bool) (w : Int), ps.drop i = r → i ≤ ps.length → 0 ≤ w → w ≤ i →
    Ev (fun n => l04HullPartsCoverPolygonL12 n ((p, ((), (up, (ps, (b, (w, (((i : Nat) : Int), ()))))))), ((x.1, (x.2, ())), ()))) (.inl ((p, ((), (up, (anyIn x r b, (w + cnt x r, ()))))), ((x.1, (x.2, ())), ()))) := by
  intro r
  induction r with
  | nil =>
    intro i b w h1 hi _ _
    have := gdrop_nil h1
    refine Ev.of_eq 1 ?_
    simp (disch := omega) only [l04HullPartsCoverPolygonL12Eq, br_neg]
    exact (Ev.pure _).congr (by simp [anyIn, cnt])
  | cons q r ih =>
    intro i b w h1 hi hw0 hwi
    obtain ⟨g1, g2, g3⟩ := gdrop h1
    have hc : ((i : Nat) : Int) < ((ps.length : Nat) : Int) := by omega
    have d1 : (0 : Int) ≤ ((i : Nat) : Int) := by omega
    obtain ⟨q1, q2, q3⟩ := hps q (List.mem_of_getElem? g1)
    have h3 : ¬ ((q.length : Nat) : Int) < 3 := by omega
    have ww : IntKind.i64.wrap (w + 1) = w + 1 := w64 (by omega) (by omega)
    refine Ev.of_eq 1 ?_
    simp only [l04HullPartsCoverPolygonL12Eq, br_pos hc, br_pos d1, Int.toNat_natCast, g1, Option.bind_some, br_neg h3, ww]
    refine Ev.bind (x := .inl ((p, ((), (up, (ps, ((if b = true then true else decide (0 ≤ hasR q x)), ((w + if 0 < hasR q x then 1 else 0), (((i : Nat) : Int), ()))))))), ((x.1, (x.2, ())), ()))) (Ev.bind (hasEv q (by omega) q3 x hx) ?_) ?_
    · cases b with
      | true =>
        simp only [br_t]
        by_cases c : 0 < hasR q x
        · simp only [br_pos c]
          exact (Ev.pure _).congr (by simp [c])
        · simp only [br_neg c]
          exact (Ev.pure _).congr (by simp [c])
      | false =>
        simp only [br_f]
        by_cases c : 0 < hasR q x
        · simp only [br_pos c]
          exact (Ev.pure _).congr (by simp [c])
        · simp only [br_neg c]
          exact (Ev.pure _).congr (by simp [c])
    · simp only [wr1 i (by omega)]
      refine (ih (i + 1) _ (w + if 0 < hasR q x then 1 else 0) g2 (by omega) (by split <;> omega) (by split <;> omega)).congr ?_
      simp only [anyIn, cnt]
      rw [Int.add_assoc]
theorem coverEv (p : List Pt) (x : Pt) (hb : p.length ≤ 9223372036854775807) : Ev (fun n => l04HullPartsCoverPolygon n p x.1 x.2) true := by
  refine Ev.of_eq 1 ?_
  simp only [l04HullPartsCoverPolygonEq]
  refine Ev.bind headEv ?_
  by_cases h12 : 12 < p.length
  · have h12' : (12 : Int) < ((p.length : Nat) : Int) := by omega
    simp only [br_pos h12']
    exact Ev.pure _
  have h12' : ¬ (12 : Int) < ((p.length : Nat) : Int) := by omega
  simp only [br_neg h12']
  obtain ⟨b, hr, hev⟩ := rightP p hb
  refine Ev.bind hev (Ev.bind (fitsEv [(x.1, x.2)] (by simp)) ?_)
  cases b with
  | false => exact Ev.pure _
  | true =>
  obtain ⟨S, _, hbd⟩ := hr rfl
  simp only [Bool.not_true, br_f]
  cases hf : fitB [(x.1, x.2)] with
  | false => exact Ev.pure _
  | true =>
  have hx : Bd x := (fit_spec hf).2 (x.1, x.2) (by simp)
  simp only [Bool.not_true, br_f]
  refine Ev.bind (decompEv p (by omega) hbd) ?_
  have key : ∃ ps, decomp p = ps ∧ ps.length ≤ 12 ∧ (∀ q ∈ ps, 3 ≤ q.length ∧ q.length < 1000 ∧ ∀ y ∈ q, Bd y) ∧ (0 ≤ hasR p x ↔ ∃ q ∈ ps, 0 ≤ hasR q x) ∧ cnt x ps ≤ 1 ∧ (0 < cnt x ps → 0 < hasR p x) := by
    cases hc : convexB p with
    | true =>
      refine ⟨[p], by unfold decomp; rw [if_pos hc], by simp, fun q hq => ?_, by simp, ?_, ?_⟩
      · simp at hq; subst hq; exact ⟨S.len, by omega, hbd⟩
      · simp only [cnt]; split <;> omega
      · simp only [cnt]; intro h; split at h <;> omega
    | false =>
      obtain ⟨ps, hcut, hps⟩ := S.cut
      have hlen := hcut.len
      obtain ⟨k1, k2, k3⟩ := hcut.cover x
      refine ⟨ps, by unfold decomp; rw [if_neg (by rw [hc]; simp), hps], by omega, fun q hq => ?_, k1, k2, k3⟩
      obtain ⟨a, b, c, rfl, _, m1, m2, m3⟩ := hcut.part q hq
      refine ⟨by simp, by simp, fun y hy => ?_⟩
      simp only [List.mem_cons, List.not_mem_nil, or_false] at hy
      rcases hy with rfl | rfl | rfl
      · exact hbd _ m1
      · exact hbd _ m2
      · exact hbd _ m3
  obtain ⟨ps, e1, e2, e3, e4, e5, e6⟩ := key
  rw [e1]
  have hL := coverL12 p x hx true ps (by omega) e3 ps 0 false 0 rfl (Nat.zero_le _) (Int.le_refl _) (Int.le_refl _)
  refine Ev.bind hL (Ev.bind (hasEv p (by omega) hbd x hx) ?_)
  have hn := cnt_nn x ps
  have a1 : anyIn x ps false = decide (0 ≤ hasR p x) := by
    rw [Bool.eq_iff_iff, anyIn_iff, decide_eq_true_eq, e4]
    simp
  have a2 : (0 + cnt x ps) ≤ 1 := by omega
  simp only [br_t, br_pos a1, br_pos a2]
  by_cases c : 0 + cnt x ps = 0
  · simp only [br_pos c]
    exact Ev.pure _
  · simp only [br_neg c]
    exact (Ev.pure _).congr (by rw [decide_eq_true (e6 (by omega))])
end Go.Hl
