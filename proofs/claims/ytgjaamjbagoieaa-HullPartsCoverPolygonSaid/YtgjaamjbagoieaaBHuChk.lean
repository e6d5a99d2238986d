import Derived.Test.YtgjaamjbagoieaaBHuLaws
set_option linter.unusedVariables false
set_option linter.unusedSimpArgs false
set_option linter.unnecessarySimpa false
/-
  A hull, checked corner by corner.
-/
namespace Go.Hu
/-- A hull, checked corner by corner. -/
def isHullB (S h : List Pt) : Bool := decide (3 ≤ h.length) && (h.all fun x => S.contains x) && ((List.range h.length).all fun i => S.all fun q => decide (0 ≤ side (at_ h i) (at_ h (nx h i)) q)) &&
  ((List.range h.length).all fun i => (List.range h.length).all fun j => decide (j = i) || decide (j = nx h i) || decide (0 < side (at_ h i) (at_ h (nx h i)) (at_ h j))) &&
  (S.all fun q => decide (q = at_ h 0) || decide ((at_ h 0).1 < q.1) || (decide ((at_ h 0).1 = q.1) && decide ((at_ h 0).2 < q.2)))
theorem isHullB_spec {S h : List Pt} (e : isHullB S h = true) : IsHull S h := by
  simp only [isHullB, Bool.and_eq_true, decide_eq_true_eq, List.all_eq_true, List.mem_range, Bool.or_eq_true, List.contains_iff_mem] at e
  obtain ⟨⟨⟨⟨e1, e2⟩, e3⟩, e4⟩, e5⟩ := e
  refine ⟨⟨e1, e2, fun i hi q hq => e3 i hi q hq, fun i hi j hj h1 h2 => ?_⟩, fun q hq => ?_⟩
  · rcases e4 i hi j hj with (h | h) | h
    · exact absurd h h1
    · exact absurd h h2
    · exact h
  · rcases e5 q hq with (h | h) | h
    · exact .inl h
    · exact .inr (.inl h)
    · exact .inr (.inr h)
theorem hullRes_of {S h : List Pt} (e : isHullB S h = true) : hullRes S = (h, true) := by
  have H := isHullB_spec e
  rcases hullRes_spec S with ⟨_, h2⟩ | ⟨h', h1, H'⟩
  · exfalso
    have := H.strict 0 H.pos 2 (by have := H.len; omega) (by omega) (by rw [nx_val H.pos]; have := H.len; split <;> omega)
    have h0 := h2 _ _ _ (H.mem H.pos) (H.mem (nx_lt H.pos 0)) (H.mem (i := 2) (by have := H.len; omega))
    omega
  · rw [h1, H'.unique H fun _ => Iff.rfl]
end Go.Hu
