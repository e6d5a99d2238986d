import Derived.Test.YtgjaamjbagoieaaBHlDec
set_option linter.unusedVariables false
set_option linter.unusedSimpArgs false
set_option linter.unnecessarySimpa false
/-
  THE PARTS: Decompose and its reference.
-/
namespace Go.Hl
open Go Go.Am Go.Proofs Go.Hu

theorem row_step {xs l M Y : List Pt} {i : Nat} (hl : xs.take l.length = l) (hx : l.length ≤ xs.length) (hi : i < l.length) (hM : M = (xs.drop (0 + (i + 1))).take (l.length - (i + 1))) (hY : Y = xs.take i ++ M ++ xs.drop (i + M.length)) :
    M.length = l.length - (i + 1) ∧ Y.length = xs.length ∧ Y.take (0 + (i + M.length)) = rest l i ∧ (rest l i).length = i + M.length := by
  have h1 : M.length = l.length - (i + 1) := by rw [hM]; simp; omega
  have h2 : Y.length = xs.length := by rw [hY]; simp; omega
  have h3 : M = l.drop (i + 1) := by
    rw [hM, Nat.zero_add]
    conv => rhs; rw [← hl]
    rw [List.drop_take]
  have h4 : xs.take i = l.take i := by
    conv => rhs; rw [← hl]
    rw [List.take_take, Nat.min_eq_left (by omega)]
  have h5 : (xs.take i ++ M).length = i + M.length := by simp; omega
  have h6 : rest l i = xs.take i ++ M := by unfold rest; rw [h4, h3]
  refine ⟨h1, h2, ?_, by rw [h6, h5]⟩
  rw [hY, Nat.zero_add, h6, ← h5, List.take_left']
  rfl

theorem decL5 : ∀ (k : Nat) (l : List Pt) (out : List (List Pt)) (xs : List Pt), l.length ≤ k → xs.take l.length = l → out.length + l.length < 1000000 → (∀ x ∈ l, Bd x) → xs.length < 1000000 →
    ∃ r, Ev (fun n => hullDecomposeL5 n ((((l.length : Nat) : Int), (out, ())), (xs, ()))) r ∧ ((∃ l' out' xs', r = .inl ((((l'.length : Nat) : Int), (out', ())), (xs', ())) ∧ cutE k l out = out' ++ [l'] ∧ xs'.take l'.length = l' ∧ out'.length < 1000000) ∨ (r = .inr (([], ()), ()) ∧ cutE k l out = [])) := by
  intro k
  induction k with
  | zero =>
    intro l out xs hk hl ho hb hx
    refine ⟨_, Ev.of_eq 2 ?_, .inl ⟨l, out, xs, rfl, rfl, hl, by omega⟩⟩
    simp (disch := omega) only [hullDecomposeL5Eq, Int.toNat_natCast, br_neg]
    exact Ev.pure _
  | succ k ih =>
    intro l out xs hk hl ho hb hx
    have hlx : l.length ≤ xs.length := by
      have := congrArg List.length hl
      rw [List.length_take] at this
      omega
    by_cases h3 : 3 < l.length
    · cases he : ear l with
      | none =>
        refine ⟨.inr (([], ()), ()), Ev.of_eq 2 ?_, .inr ⟨rfl, by unfold cutE; rw [if_pos h3, he]⟩⟩
        have c1 : (3 : Int) < ((l.length : Nat) : Int) := by omega
        have c2 : 0 + l.length ≤ xs.length := by omega
        simp only [hullDecomposeL5Eq, Int.toNat_natCast, br_pos c1, br_pos c2, hl]
        have hear := earEv l (by omega) hb
        rw [he] at hear
        refine Ev.bind (hear.shift 1) ?_
        exact Ev.pure _
      | some i =>
        have hi : i < l.length := by have := (firstF_some he).2.1; omega
        have hn := nx_lt (h := l) (by omega) i
        have hp := pv_lt (l := l) (by omega) i
        have gx : ∀ j, j < l.length → xs[0 + j]? = some (at_ l j) := fun j hj => by
          rw [Nat.zero_add, ← Go.Hu.get_at hj]
          conv => rhs; rw [← hl]
          rw [List.getElem?_take_of_lt hj]
        generalize hM : (xs.drop (0 + (i + 1))).take (l.length - (i + 1)) = M
        generalize hY : xs.take i ++ M ++ xs.drop (i + M.length) = Y
        obtain ⟨r1, r2, r3, r4⟩ := row_step hl hlx hi hM.symm hY.symm
        have hrl : (rest l i).length = l.length - 1 := by omega
        have hlo : (out ++ [tri l i]).length = out.length + 1 := by simp
        have c3 : ¬ ((i : Nat) : Int) < 0 := by omega
        have c4 : (0 : Int) ≤ ((pv l i : Nat) : Int) ∧ ((pv l i : Nat) : Int) < ((l.length : Nat) : Int) := by omega
        have c5 : (0 : Int) ≤ ((i : Nat) : Int) ∧ ((i : Nat) : Int) < ((l.length : Nat) : Int) := by omega
        have c6 : (0 : Int) ≤ ((nx l i : Nat) : Int) ∧ ((nx l i : Nat) : Int) < ((l.length : Nat) : Int) := by omega
        have c7 : (out.length + [[at_ l (pv l i), at_ l i, at_ l (nx l i)]].length) * 24 ≤ 140737488355328 := by simp only [List.length_cons, List.length_nil]; omega
        have c8 : (0 : Int) ≤ ((i : Nat) : Int) ∧ ((i : Nat) : Int) ≤ ((i + 1 : Nat) : Int) ∧ ((i + 1 : Nat) : Int) ≤ ((l.length : Nat) : Int) ∧ ((l.length : Nat) : Int) ≤ ((l.length : Nat) : Int) := by omega
        have c9 : ¬ (((i + 1 : Nat) : Int) = 0 ∧ ((l.length : Nat) : Int) = 0) := by omega
        have c10 : ¬ (((i : Nat) : Int) = ((i + 1 : Nat) : Int)) := by omega
        have c11 : (0 : Int) ≤ 0 ∧ (0 : Int) ≤ ((i : Nat) : Int) ∧ ((i : Nat) : Int) ≤ ((l.length : Nat) : Int) := by omega
        have c12 : (0 : Int) ≤ ((i + 1 : Nat) : Int) ∧ ((i + 1 : Nat) : Int) ≤ ((l.length : Nat) : Int) ∧ ((l.length : Nat) : Int) ≤ ((l.length : Nat) : Int) := by omega
        have c13 : 0 + (i + 1) + (l.length - (i + 1)) ≤ xs.length := by omega
        have c14 : i ≤ xs.length ∧ (i + M.length) * 16 ≤ 140737488355328 := by omega
        have c15 : (0 : Int) ≤ ((i + M.length : Nat) : Int) ∧ ((i + M.length : Nat) : Int) ≤ ((l.length : Nat) : Int) ∧ 0 + ((l.length : Nat) : Int) ≤ ((Y.length : Nat) : Int) := by omega
        have c16 : 0 + (i + M.length) ≤ Y.length := by omega
        have hY2 : (Y.take (0 + (i + M.length)) ++ List.replicate (l.length - (i + M.length)) ((0, 0) : Pt) ++ Y.drop (0 + (i + M.length) + (l.length - (i + M.length)))).take (rest l i).length = rest l i := by
          rw [r3, List.append_assoc, List.take_left']
          rfl
        have hY3 : (Y.take (0 + (i + M.length)) ++ List.replicate (l.length - (i + M.length)) ((0, 0) : Pt) ++ Y.drop (0 + (i + M.length) + (l.length - (i + M.length)))).length < 1000000 := by
          simp; omega
        obtain ⟨r, hr, hres⟩ := ih (rest l i) (out ++ [tri l i]) _ (by omega) hY2 (by omega) (fun x h => hb x (rest_mem x h)) hY3
        refine ⟨r, Ev.of_eq 2 ?_, ?_⟩
        · have c1 : (3 : Int) < ((l.length : Nat) : Int) := by omega
          have c2 : 0 + l.length ≤ xs.length := by omega
          simp only [hullDecomposeL5Eq, Int.toNat_natCast, br_pos c1, br_pos c2, hl]
          have hear := earEv l (by omega) hb
          rw [he] at hear
          refine Ev.bind (hear.shift 1) ?_
          simp only [br_neg c3, br_pos c4, br_pos c5, br_pos c6, Int.toNat_natCast, gx _ hi, gx _ hn, gx _ hp, Option.bind_some, wr1 i (by omega), hM, hY]
          simp only [br_pos c7, br_pos c8, br_neg c9, br_neg c10, br_pos c11, br_pos c12, br_pos c13, br_pos c14, br_pos c15, br_pos c16]
          rw [r4] at hr
          exact hr.shift 1
        · unfold cutE
          rw [if_pos h3, he]
          exact hres
    · refine ⟨_, Ev.of_eq 2 ?_, .inl ⟨l, out, xs, rfl, by unfold cutE; rw [if_neg h3], hl, by omega⟩⟩
      simp (disch := omega) only [hullDecomposeL5Eq, Int.toNat_natCast, br_neg]
      exact Ev.pure _

theorem decompEv (p : List Pt) (hl : p.length < 1000) (hb : ∀ x ∈ p, Bd x) : Ev (fun n => hullDecompose n p) (decomp p) := by
  refine Ev.of_eq 2 ?_
  have c0 : p.length ≤ 8796093022208 := by omega
  have c1 : 0 + p.length ≤ p.length := by omega
  simp only [hullDecomposeEq, br_pos c0, br_pos c1]
  refine Ev.bind ((isConvexEv p (by omega) hb).shift 1) ?_
  unfold decomp
  cases hc : convexB p with
  | true => exact (Ev.pure _).congr (by simp)
  | false =>
    obtain ⟨r, hr, hres⟩ := decL5 p.length p [] p (Nat.le_refl _) (by simp) (by simp; omega) hb (by omega)
    simp only [br_f]
    refine Ev.bind (hr.shift 1) ?_
    rcases hres with ⟨l', out', xs', rfl, hcut, htk, hlen⟩ | ⟨rfl, hcut⟩
    · have hlx : l'.length ≤ xs'.length := by
        have := congrArg List.length htk
        rw [List.length_take] at this
        omega
      have c2 : 0 + l'.length ≤ xs'.length := by omega
      have c3 : (out'.length + [l'].length) * 24 ≤ 140737488355328 := by simp only [List.length_cons, List.length_nil]; omega
      simp only [Int.toNat_natCast, htk, br_pos c2, br_pos c3]
      refine (Ev.pure _).congr ?_
      rw [if_neg (by simp), hcut]
    · refine (Ev.pure _).congr ?_
      rw [if_neg (by simp), hcut]
end Go.Hl
