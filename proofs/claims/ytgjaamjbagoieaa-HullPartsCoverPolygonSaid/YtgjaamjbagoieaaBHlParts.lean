import Derived.Test.YtgjaamjbagoieaaBHlHead
set_option linter.unusedVariables false
set_option linter.unusedSimpArgs false
set_option linter.unnecessarySimpa false
/-
  HULL: the reference's parts; the validity test ends.
-/
namespace Go.Hl
open Go Go.Am Go.Proofs Go.Hu

/-! ### Parts -/
theorem rearL8 (l : List Pt) (hb : l.length < 1000000000) (hbd : ∀ x ∈ l, Bd x) (i : Nat) (hi : i < l.length) : ∀ (k j : Nat), j + k = l.length →
    Ev (fun n => r04EarL8 n ((l, (((i : Nat) : Int), (((l.length : Nat) : Int), (((pv l i : Nat) : Int), (((nx l i : Nat) : Int), (((j : Nat) : Int), ())))))), ()))
      (if (List.range' j k).all (clearB l i) = true then .inl ((), ()) else .inr ((false, ()), ())) := by
  intro k
  have hn := nx_lt (h := l) (by omega) i
  have hp := pv_lt (l := l) (by omega) i
  induction k with
  | zero =>
    intro j hj
    refine Ev.of_eq 1 ?_
    simp (disch := omega) only [r04EarL8Eq, br_neg]
    exact (Ev.pure _).congr (by simp)
  | succ k ih =>
    intro j hj
    have gi := Go.Hu.get_at hi
    have gn := Go.Hu.get_at hn
    have gp := Go.Hu.get_at hp
    have gj := Go.Hu.get_at (h := l) (i := j) (by omega)
    have hr : List.range' j (k + 1) = j :: List.range' (j + 1) k := by rw [List.range'_succ]
    rw [hr, List.all_cons]
    refine Ev.of_eq 1 ?_
    simp (disch := omega) only [r04EarL8Eq, br_pos, Int.toNat_natCast, gi, gn, gj, gp, Option.bind_some, wr1]
    refine Ev.bind (rinEv (hbd _ (at_mem hp)) (hbd _ (at_mem hi)) (hbd _ (at_mem hn)) (hbd _ (at_mem (by omega)))) ?_
    have cont := ih (j + 1) (by omega)
    by_cases c0 : j = pv l i
    · have e0 : ((j : Nat) : Int) = ((pv l i : Nat) : Int) := by omega
      simp only [nbr_pos e0]
      refine cont.congr ?_
      unfold clearB
      rw [decide_eq_true c0]; rfl
    have e0 : ¬ ((j : Nat) : Int) = ((pv l i : Nat) : Int) := by omega
    by_cases c1 : j = i
    · have e1 : ((j : Nat) : Int) = ((i : Nat) : Int) := by omega
      simp only [nbr_neg e0, nbr_pos e1]
      refine cont.congr ?_
      unfold clearB
      rw [decide_eq_false c0, decide_eq_true c1]; rfl
    have e1 : ¬ ((j : Nat) : Int) = ((i : Nat) : Int) := by omega
    by_cases c2 : j = nx l i
    · have e2 : ((j : Nat) : Int) = ((nx l i : Nat) : Int) := by omega
      simp only [nbr_neg e0, nbr_neg e1, nbr_pos e2]
      refine cont.congr ?_
      unfold clearB
      rw [decide_eq_false c0, decide_eq_false c1, decide_eq_true c2]; rfl
    have e2 : ¬ ((j : Nat) : Int) = ((nx l i : Nat) : Int) := by omega
    simp only [nbr_neg e0, nbr_neg e1, nbr_neg e2]
    have hcl : clearB l i j = !inT (at_ l (pv l i)) (at_ l i) (at_ l (nx l i)) (at_ l j) := by
      unfold clearB
      rw [decide_eq_false c0, decide_eq_false c1, decide_eq_false c2]; rfl
    rw [hcl]
    cases c3 : inT (at_ l (pv l i)) (at_ l i) (at_ l (nx l i)) (at_ l j) with
    | true => exact (Ev.pure _).congr rfl
    | false => exact cont
theorem rearEv (l : List Pt) (hb : l.length < 1000000000) (hbd : ∀ x ∈ l, Bd x) (i : Nat) (hi' : i < l.length) : Ev (fun n => r04Ear n l ((i : Nat) : Int)) (earB l i) := by
  have h0 : ¬ ((l.length : Nat) : Int) = 0 := by omega
  have hn := nx_lt (h := l) (by omega) i
  have hp := pv_lt (l := l) (by omega) i
  have gi := Go.Hu.get_at hi'
  have gn := Go.Hu.get_at hn
  have gp := Go.Hu.get_at hp
  refine Ev.of_eq 1 ?_
  simp only [r04EarEq, br_neg h0, tm_nx l i (by omega), tm_pv l i hi' hb]
  simp (disch := omega) only [br_pos, Int.toNat_natCast, gi, gn, gp, Option.bind_some]
  have h8 := rearL8 l hb hbd i hi' l.length 0 (by omega)
  rw [← List.range_eq_range'] at h8
  refine Ev.bind (rsideEv (hbd _ (at_mem hp)) (hbd _ (at_mem hi')) (hbd _ (at_mem hn))) ?_
  unfold earB
  by_cases c3 : side (at_ l (pv l i)) (at_ l i) (at_ l (nx l i)) ≤ 0
  · simp only [br_pos c3]
    refine (Ev.pure _).congr ?_
    rw [decide_eq_false (by omega)]; rfl
  · simp only [br_neg c3]
    refine Ev.bind h8 ?_
    rw [decide_eq_true (by omega : 0 < side (at_ l (pv l i)) (at_ l i) (at_ l (nx l i))), Bool.true_and]
    cases (List.range l.length).all (clearB l i) with
    | true => exact Ev.pure _
    | false => exact Ev.pure _
theorem partsL8 (out : List (List Pt)) (l : List Pt) (hb : l.length < 1000000000) (hbd : ∀ x ∈ l, Bd x) : ∀ (k i : Nat), i + k = l.length →
    Ev (fun n => r04PartsL8 n ((out, (l, (((i : Nat) : Int), ()))), ())) ((out, (l, ((((match firstF (earB l) k i with | none => l.length | some j => j) : Nat) : Int), ()))), ()) := by
  intro k
  induction k with
  | zero =>
    intro i hi
    refine Ev.of_eq 1 ?_
    simp (disch := omega) only [r04PartsL8Eq, br_neg]
    have : i = l.length := by omega
    subst this
    exact Ev.pure _
  | succ k ih =>
    intro i hi
    have hil : ((i : Nat) : Int) < ((l.length : Nat) : Int) := by omega
    refine Ev.of_eq 1 ?_
    simp only [r04PartsL8Eq, br_pos hil]
    refine Ev.bind (rearEv l hb hbd i (by omega)) ?_
    unfold firstF
    cases c : earB l i with
    | true => exact Ev.pure _
    | false =>
      simp (disch := omega) only [br_f, wr1]
      exact ih (i + 1) (by omega)
theorem partsL6 : ∀ (k : Nat) (l : List Pt) (out : List (List Pt)), l.length ≤ k → out.length + l.length < 1000000 → (∀ x ∈ l, Bd x) →
    ∃ r, Ev (fun n => r04PartsL6 n ((out, (l, ())), ())) r ∧ ((∃ l' out', r = .inl ((out', (l', ())), ()) ∧ cutE k l out = out' ++ [l'] ∧ out'.length < 1000000) ∨ (r = .inr (([], ()), ()) ∧ cutE k l out = [])) := by
  intro k
  induction k with
  | zero =>
    intro l out hk ho hb
    refine ⟨_, Ev.of_eq 1 ?_, .inl ⟨l, out, rfl, rfl, by omega⟩⟩
    simp (disch := omega) only [r04PartsL6Eq, br_neg]
    exact Ev.pure _
  | succ k ih =>
    intro l out hk ho hb
    by_cases h3 : 3 < l.length
    · have h8 := partsL8 out l (by omega) hb l.length 0 (by omega)
      have c1 : (3 : Int) < ((l.length : Nat) : Int) := by omega
      cases he : ear l with
      | none =>
        refine ⟨.inr (([], ()), ()), Ev.of_eq 1 ?_, .inr ⟨rfl, by unfold cutE; rw [if_pos h3, he]⟩⟩
        simp only [r04PartsL6Eq, br_pos c1]
        refine Ev.bind h8 ?_
        unfold ear at he
        rw [he]
        simp only [br_pos trivial, decide_true, br_t]
        exact Ev.pure _
      | some i =>
        have hi : i < l.length := by have := (firstF_some he).2.1; omega
        have hn := nx_lt (h := l) (by omega) i
        have hp := pv_lt (l := l) (by omega) i
        have gi := Go.Hu.get_at hi
        have gn := Go.Hu.get_at hn
        have gp := Go.Hu.get_at hp
        have hrl := rest_len hi
        have c2 : ¬ ((i : Nat) : Int) = ((l.length : Nat) : Int) := by omega
        have c3 : ¬ ((l.length : Nat) : Int) = 0 := by omega
        have c7 : (out.length + [[at_ l (pv l i), at_ l i, at_ l (nx l i)]].length) * 24 ≤ 140737488355328 := by simp only [List.length_cons, List.length_nil]; omega
        have c8 : (0 : Int) ≤ 0 ∧ (0 : Int) ≤ ((i : Nat) : Int) ∧ ((i : Nat) : Int) ≤ ((l.length : Nat) : Int) := by omega
        have hA : (((l.take i).drop 0) : List Pt) = l.take i := by simp
        have hB : (l.take l.length).drop (i + 1) = l.drop (i + 1) := by simp
        have c9 : (l.take i).length * 16 ≤ 140737488355328 := by rw [List.length_take]; omega
        have c10 : (0 : Int) ≤ ((i + 1 : Nat) : Int) ∧ ((i + 1 : Nat) : Int) ≤ ((l.length : Nat) : Int) ∧ ((l.length : Nat) : Int) ≤ ((l.length : Nat) : Int) := by omega
        have c11 : ((l.take i).length + (l.drop (i + 1)).length) * 16 ≤ 140737488355328 := by rw [List.length_take, List.length_drop]; omega
        have d1 : (0 : Int) ≤ ((pv l i : Nat) : Int) := by omega
        have d2 : (0 : Int) ≤ ((i : Nat) : Int) := by omega
        have d3 : (0 : Int) ≤ ((nx l i : Nat) : Int) := by omega
        have t0 : Int.toNat 0 = 0 := rfl
        have tn : ((i + 1 : Nat) : Int).tmod ((l.length : Nat) : Int) = ((nx l i : Nat) : Int) := tm_nat _ _
        obtain ⟨r, hr, hres⟩ := ih (rest l i) (out ++ [tri l i]) (by omega) (by rw [List.length_append]; simp; omega) (fun x h => hb x (rest_mem x h))
        refine ⟨r, Ev.of_eq 1 ?_, by unfold cutE; rw [if_pos h3, he]; exact hres⟩
        simp only [r04PartsL6Eq, br_pos c1]
        refine Ev.bind h8 ?_
        unfold ear at he
        rw [he]
        simp only [br_neg c2, br_neg c3, tm_nx l i (by omega), tm_pv l i hi (by omega), br_pos d1, br_pos d2, br_pos d3, Int.toNat_natCast, gi, gn, gp, Option.bind_some, br_pos c7, br_pos c8, t0, hA, br_pos c9, wr1 i (by omega), tn, br_pos c10, hB, br_pos c11]
        exact hr
    · refine ⟨_, Ev.of_eq 1 ?_, .inl ⟨l, out, rfl, by unfold cutE; rw [if_neg h3], by omega⟩⟩
      simp (disch := omega) only [r04PartsL6Eq, br_neg]
      exact Ev.pure _
theorem partsEv (p : List Pt) (hl : p.length < 1000) (hb : ∀ x ∈ p, Bd x) : Ev (fun n => r04Parts n p) (decomp p) := by
  refine Ev.of_eq 1 ?_
  simp only [r04PartsEq]
  refine Ev.bind (convexEv p (by omega) hb) ?_
  unfold decomp
  cases hc : convexB p with
  | true => exact (Ev.pure _).congr (by simp)
  | false =>
    obtain ⟨r, hr, hres⟩ := partsL6 p.length p [] (Nat.le_refl _) (by simp; omega) hb
    simp only [br_f]
    refine Ev.bind hr ?_
    rcases hres with ⟨l', out', rfl, hcut, hlen⟩ | ⟨rfl, hcut⟩
    · have c3 : (out'.length + [l'].length) * 24 ≤ 140737488355328 := by simp only [List.length_cons, List.length_nil]; omega
      simp only [br_pos c3]
      refine (Ev.pure _).congr ?_
      rw [if_neg (by simp), hcut]
    · refine (Ev.pure _).congr ?_
      rw [if_neg (by simp), hcut]

/-! ### The validity test ends -/
def Tot {α : Type} (f : Nat → Option α) : Prop := ∃ x, Ev f x
theorem Tot.pure {α : Type} (x : α) : Tot (fun _ => some x) := ⟨x, Ev.pure x⟩
theorem Tot.bind {α β : Type} {f : Nat → Option α} {g : Nat → α → Option β} (h : Tot f) (k : ∀ x, Tot fun n => g n x) : Tot (fun n => (f n).bind (g n)) := by
  obtain ⟨x, hx⟩ := h
  obtain ⟨y, hy⟩ := k x
  exact ⟨y, Ev.bind hx hy⟩
theorem Tot.br {α : Type} {b : Bool} {f g : Nat → Option α} (h : Tot f) (k : Tot g) : Tot (fun n => br b (f n) (g n)) := by
  cases b
  · exact k
  · exact h
theorem Tot.of_eq {α : Type} {f : Nat → Option α} (k : Nat) (h : Tot fun n => f (n + k)) : Tot f := by
  obtain ⟨x, hx⟩ := h
  exact ⟨x, Ev.of_eq k hx⟩
theorem sideTot (a b c d e f : Int) : Tot fun n => r04Side n a b c d e f := by
  refine Tot.of_eq 1 ?_
  simp only [r04SideEq]
  exact Tot.pure _
theorem edgeTot (a b c d e f : Int) : Tot fun n => r04Edge n a b c d e f := by
  refine Tot.of_eq 1 ?_
  simp only [r04EdgeEq]
  refine Tot.bind (sideTot ..) fun x => ?_
  repeat (first | exact Tot.pure _ | refine Tot.br ?_ ?_)
theorem cutTot (a b c d e f g h : Int) : Tot fun n => r04Cut n a b c d e f g h := by
  refine Tot.of_eq 1 ?_
  simp only [r04CutEq]
  repeat (first | exact Tot.pure _ | refine Tot.bind (edgeTot ..) fun x => ?_ | refine Tot.bind (sideTot ..) fun x => ?_ | refine Tot.br ?_ ?_)
end Go.Hl
