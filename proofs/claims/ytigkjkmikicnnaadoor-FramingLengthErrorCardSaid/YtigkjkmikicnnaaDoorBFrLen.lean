import Derived.Test.YtigkjkmikicnnaaDoorBFrRef
set_option linter.unusedVariables false
set_option linter.unusedSimpArgs false
/-
  FRAMING: bytes off the end of a payload, or more of them: no message (P32.6).
-/
namespace Go.Fr
open Go Go.Am Go.Proofs
variable {m : Int}

theorem piece_len {c : List Int} (h : c.length % 4 ≠ 3) : piece (c.flatMap esc) = none := by
  cases hp : piece (c.flatMap esc) with
  | none => rfl
  | some a =>
    exfalso
    obtain ⟨_, h2⟩ := piece_some hp
    have h3 : plain (c.flatMap esc) = plain (body a) := by rw [h2]
    have e : plain (body a) = content a := plain_escs _
    rw [plain_escs, e] at h3
    have := content_length a
    rw [← h3] at this
    omega
theorem framed_eq (c : List Int) : framed c = [] ++ 126 :: (c.flatMap esc ++ 126 :: []) := by
  unfold framed; simp
theorem msgs_framed (c : List Int) : msgs (framed c) = [c.flatMap esc].filterMap piece := by
  rw [framed_eq]
  unfold msgs
  rw [splitB_append, splitB_append, splitB_none (escs_free c)]
  rfl
theorem msgs_len {c : List Int} (h : c.length % 4 ≠ 3) : msgs (framed c) = [] := by
  rw [msgs_framed, List.filterMap_cons, piece_len h]
  rfl
theorem ok_framed {c : List Int} (h : okBs c = true) : okBs (framed c) = true := by
  unfold framed
  exact ok_append (ok_append (by decide) (ok_escs h)) (by decide)
theorem framed_length (c : List Int) : (framed c).length ≤ 2 + 2 * c.length := by
  have := escs_length c
  unfold framed
  simp only [List.length_append, List.length_cons, List.length_nil]
  omega

theorem lengthError (a b : Int) (l : List Int) (y p q r : Int) (hy : 0 ≤ y ∧ y < 256) (hb : okBs [p, q, r] = true) : Ev (fun n => l32FramingLengthError m n a b l y p q r) true := by
  refine Ev.of_eq 1 ?_
  simp only [l32FramingLengthErrorEq]
  refine Ev.bind headEv ?_
  refine Ev.bind (greatEv a b l) ?_
  by_cases hg : 30 < (l.length : Int)
  · simp only [br_pos hg]; exact Ev.pure _
  · have hl : l.length ≤ 140737488355328 := by omega
    simp only [br_neg hg]
    refine Ev.bind (validEv a b l hl) ?_
    cases hv : valid (a, (b, l)) with
    | false => exact Ev.pure _
    | true =>
      refine Ev.br_false rfl ?_
      refine Ev.bind (contentEv a b l hv) ?_
      have hcl := content_length (a, (b, l))
      have hok := ok_content (a, (b, l))
      obtain ⟨_, _, _, _, v5, _⟩ := valid_iff.1 hv
      simp only at hcl v5
      generalize content (a, (b, l)) = c at hcl hok
      have h0 : IntKind.i64.wrap y = y := w64 (by omega) (by omega)
      obtain ⟨k, hk, hk1, hk3⟩ : ∃ k : Nat, IntKind.i64.wrap (1 + y.tmod 3) = (k : Int) ∧ 1 ≤ k ∧ k ≤ 3 := by
        rw [Int.tmod_eq_emod_of_nonneg hy.1]
        have : 0 ≤ y % 3 ∧ y % 3 < 3 := ⟨Int.emod_nonneg _ (by omega), Int.emod_lt_of_pos _ (by omega)⟩
        refine ⟨(1 + y % 3).toNat, ?_, by omega, by omega⟩
        rw [w64 (by omega) (by omega)]
        omega
      have h1 : IntKind.i64.wrap ((c.length : Int) - (k : Int)) = ((c.length - k : Nat) : Int) := by rw [w64 (by omega) (by omega)]; omega
      have z0 : ((0 : Int)).toNat = 0 := rfl
      have c1 : (0 : Int) ≤ 0 ∧ (0 : Int) ≤ ((c.length - k : Nat) : Int) ∧ ((c.length - k : Nat) : Int) ≤ (c.length : Int) := by omega
      have c2 : (0 : Int) ≤ 0 ∧ (0 : Int) ≤ (k : Int) ∧ (k : Int) ≤ 3 := by omega
      have c3 : ((([] : List Int)).length + c.length) * 1 ≤ 140737488355328 := by simp only [List.length_nil]; omega
      have ht : ([p, q, r].take k).length = k := by simp; omega
      have c4 : (([] ++ c).length + ([p, q, r].take k).length) * 1 ≤ 140737488355328 := by rw [ht, List.nil_append]; omega
      have o1 : okBs (c.take (c.length - k)) = true := ok_take hok _
      have o2 : okBs (([] ++ c) ++ [p, q, r].take k) = true := ok_append hok (ok_take hb _)
      have l1 : (c.take (c.length - k)).length = c.length - k := by rw [List.length_take]; omega
      have l2 : (([] ++ c) ++ [p, q, r].take k).length = c.length + k := by rw [List.length_append, ht, List.nil_append]
      have f1 := framed_length (c.take (c.length - k))
      have f2 := framed_length (([] ++ c) ++ [p, q, r].take k)
      simp only [h0, hk, h1, br_pos c1, br_pos c2, br_pos c3, z0, List.drop_zero, Int.toNat_natCast, br_pos c4]
      refine Ev.bind (framedEv _ (by omega)) ?_
      refine Ev.bind (decodeEv _ (ok_framed o1) (by omega)) ?_
      refine Ev.bind (framedEv _ (by omega)) ?_
      refine Ev.bind (decodeEv _ (ok_framed o2) (by omega)) ?_
      rw [msgs_len (by rw [l1]; omega), msgs_len (by rw [l2]; omega)]
      exact Ev.pure _
end Go.Fr
