import Derived.Test.YtgjaamjbagoieaaBHlRight
set_option linter.unusedVariables false
set_option linter.unusedSimpArgs false
set_option linter.unnecessarySimpa false
/-
  HULL: the laws.
-/
namespace Go.Hl
open Go Go.Am Go.Proofs Go.Hu

theorem decomp_len : ∀ (k : Nat) (l : List Pt) (out : List (List Pt)), (cutE k l out).length ≤ out.length + k + 1 ∧ ∀ x ∈ cutE k l out, x ∈ out ∨ x.length ≤ 3 ∨ x.length ≤ l.length := by
  intro k
  induction k with
  | zero =>
    intro l out
    refine ⟨by simp [cutE], fun x hx => ?_⟩
    rcases List.mem_append.1 hx with h | h
    · exact .inl h
    · rw [List.mem_singleton.1 h]; exact .inr (.inr (Nat.le_refl _))
  | succ k ih =>
    intro l out
    unfold cutE
    split
    · cases he : ear l with
      | none => exact ⟨by simp, fun x hx => by simp at hx⟩
      | some i =>
        have hi : i < l.length := by have := (firstF_some he).2.1; omega
        have hrl := rest_len hi
        obtain ⟨h1, h2⟩ := ih (rest l i) (out ++ [tri l i])
        refine ⟨by simp at h1 ⊢; omega, fun x hx => ?_⟩
        rcases h2 x hx with h | h | h
        · rcases List.mem_append.1 h with h | h
          · exact .inl h
          · rw [List.mem_singleton.1 h]; exact .inr (.inl (by simp [tri]))
        · exact .inr (.inl h)
        · exact .inr (.inr (by omega))
    · refine ⟨by rw [List.length_append, List.length_singleton]; omega, fun x hx => ?_⟩
      rcases List.mem_append.1 hx with h | h
      · exact .inl h
      · rw [List.mem_singleton.1 h]; exact .inr (.inr (Nat.le_refl _))
theorem decomp_small {p : List Pt} (hl : p.length < 1000) : (decomp p).length < 10000 ∧ ∀ x ∈ decomp p, x.length < 10000 := by
  unfold decomp
  split
  · exact ⟨by simp, fun x hx => by rw [List.mem_singleton.1 hx]; omega⟩
  · obtain ⟨h1, h2⟩ := decomp_len p.length p []
    refine ⟨by simp at h1; omega, fun x hx => ?_⟩
    rcases h2 x hx with h | h | h
    · simp at h
    · omega
    · omega

theorem matchesEv (l p : List Pt) (hl : l.length ≤ 9223372036854775807) (hp : p.length ≤ 9223372036854775807) : Ev (fun n => l04HullMatchesReference n l p) true := by
  refine Ev.of_eq 1 ?_
  simp only [l04HullMatchesReferenceEq]
  refine Ev.bind headEv (Ev.bind (fitsEv l hl) (Ev.bind (fitsEv p hp) ?_))
  cases h1 : fitB l with
  | false => exact Ev.pure _
  | true =>
  cases h2 : fitB p with
  | false => exact Ev.pure _
  | true =>
  obtain ⟨a1, a2⟩ := fit_spec h1
  obtain ⟨b1, b2⟩ := fit_spec h2
  simp only [Bool.not_true, br_f]
  refine Ev.bind (hullEv l (by omega) a2) (Ev.bind (refOfEv l (by omega) a2) ?_)
  have hlen : (hullRes l).1.length < 1000000000 := by have := hullRes_len l; omega
  refine Ev.bind (sameEv _ _ hlen) ?_
  simp only [decide_true, Bool.not_true, br_f]
  refine Ev.bind (isConvexEv p (by omega) b2) (Ev.bind (convexEv p (by omega) b2) ?_)
  simp only [decide_true, Bool.not_true, br_f]
  obtain ⟨x, hx⟩ := rightTot p (by omega)
  refine Ev.bind hx ?_
  cases x with
  | false => exact Ev.pure _
  | true =>
    simp only [Bool.not_true, br_f]
    obtain ⟨s1, s2⟩ := decomp_small (p := p) (by omega)
    refine Ev.bind (decompEv p (by omega) b2) (Ev.bind (partsEv p (by omega) b2) (Ev.bind (sameAllEv _ _ (by omega) fun x hx => by have := s2 x hx; omega) ?_))
    simp only [decide_true, br_t]
    exact Ev.pure _
end Go.Hl
