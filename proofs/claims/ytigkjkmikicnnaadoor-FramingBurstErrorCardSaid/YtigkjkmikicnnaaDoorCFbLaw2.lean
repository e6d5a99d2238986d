import Derived.Test.YtigkjkmikicnnaaDoorCFbLaw
set_option linter.unusedVariables false
set_option linter.unusedSimpArgs false
set_option linter.unnecessarySimpa false
/-
  FRAMING: more laws, with enough fuel.
-/
namespace Go.Fb
open Go Go.Am Go.Proofs
variable {m : Int}

/-! ### Streams -/
theorem rest_suffix : ∀ (l : List Int), ∃ u, l = u ++ rest l := by
  intro l
  by_cases h : (126 : Int) ∈ l
  · obtain ⟨u, v, rfl, hv⟩ := mem_split h
    exact ⟨u, by rw [rest_eq u v hv]⟩
  · exact ⟨l, by rw [rest_free h, List.append_nil]⟩
theorem ok_right {a b : List Int} (h : okBs (a ++ b) = true) : okBs b = true := by
  unfold okBs at *
  rw [List.all_append, Bool.and_eq_true] at h
  exact h.2
theorem ok_left {a b : List Int} (h : okBs (a ++ b) = true) : okBs a = true := by
  unfold okBs at *
  rw [List.all_append, Bool.and_eq_true] at h
  exact h.1
theorem ok_rest {l : List Int} (h : okBs l = true) : okBs (rest l) = true ∧ (rest l).length ≤ l.length := by
  obtain ⟨u, hu⟩ := rest_suffix l
  refine ⟨ok_right (a := u) (hu ▸ h), ?_⟩
  have := congrArg List.length hu
  rw [List.length_append] at this
  omega
theorem ok_take {l : List Int} (h : okBs l = true) (i : Nat) : okBs (l.take i) = true := by
  unfold okBs at h ⊢
  rw [List.all_eq_true] at h ⊢
  exact fun x hx => h x (List.mem_of_mem_take hx)
theorem msgs_valid {b : List Int} : ∀ a ∈ msgs b, valid a = true := by
  intro a h
  obtain ⟨p, _, hp⟩ := List.mem_filterMap.1 h
  exact (piece_some hp).1
theorem valid_nums {a : Msg} (h : valid a = true) : a.2.2.length ≤ 140737488355328 := by
  have := (valid_iff.1 h).2.2.2.2.1
  omega
theorem msgs_length (b : List Int) : (msgs b).length ≤ (splitB 126 b).length - 2 := by
  unfold msgs inner
  refine Nat.le_trans (List.length_filterMap_le _ _) ?_
  rw [List.length_dropLast, List.length_drop]
  omega
theorem msgs_le (b : List Int) : (msgs b).length ≤ b.length := by
  have h1 := msgs_length b
  have h2 := (splitB_len (y := 126) (l := b)).1
  omega
end Go.Fb
