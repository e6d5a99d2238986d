import Derived.Test.YtigkjkmikicnnaaDoorCFbFlip
set_option linter.unusedVariables false
set_option linter.unusedSimpArgs false
set_option linter.unnecessarySimpa false
/-
  FRAMING: the burst law.
-/
namespace Go.Fb
open Go Go.Am Go.Proofs
variable {m : Int}
theorem rowapp (xs ys : List Int) : xs.take xs.length ++ ys ++ xs.drop (xs.length + ys.length) = xs ++ ys := by
  rw [List.take_length, List.drop_eq_nil_of_le (by omega), List.append_nil]
theorem rowapp1 (xs : List Int) (y : Int) : xs.take xs.length ++ [y] ++ xs.drop (xs.length + 1) = xs ++ [y] := rowapp xs [y]
theorem u8m (x : Int) : IntKind.u8.wrap x = x % 256 := u8_eq x

theorem burstEv (a b : Int) (l : List Int) (at0 by0 : Nat) (a' b' : Int) (l' : List Int) (hat : at0 < 65536) (hby : by0 < 65536) : Ev (fun n => l32FramingBurstError m n a b l (at0 : Int) (by0 : Int) a' b' l') true := by
  refine Ev.of_eq 2 ?_
  simp only [l32FramingBurstErrorEq]
  refine Ev.bind (headEv.shift 1) (Ev.bind ((greatEv a b l).shift 1) (Ev.bind ((greatEv a' b' l').shift 1) ?_))
  by_cases hg : 30 < (l.length : Int)
  · simp only [br_pos hg]; exact Ev.pure _
  by_cases hg' : 30 < (l'.length : Int)
  · simp only [br_neg hg, br_pos hg']; exact Ev.pure _
  by_cases h0 : (by0 : Int) = 0
  · simp only [br_neg hg, br_neg hg', br_pos h0]; exact Ev.pure _
  simp only [br_neg hg, br_neg hg', br_neg h0]
  have hl : l.length ≤ 140737488355328 := by omega
  have hl' : l'.length ≤ 140737488355328 := by omega
  refine Ev.bind ((validEv a b l hl).shift 1) ?_
  cases hv : valid (a, (b, l)) with
  | false => exact Ev.pure _
  | true =>
  refine Ev.br_false rfl ?_
  refine Ev.bind ((validEv a' b' l' hl').shift 1) ?_
  cases hn : valid (a', (b', l')) with
  | false => exact Ev.pure _
  | true =>
  refine Ev.br_false rfl ?_
  obtain ⟨v1, v2, v3, v4, v5, v6⟩ := valid_iff.1 hv
  simp only at v1 v2 v3 v4 v5 v6
  have ho : odd a = false := by unfold odd; rw [decide_eq_false (by omega), decide_eq_false (by omega)]; rfl
  refine Ev.bind (refFour a ho) ?_
  have f4 : (four a).length = 4 := rfl
  have c1 : (four a).length * 1 ≤ 140737488355328 := by omega
  have c2 : (four a).length ≤ (four a).length ∧ ((four a).length + [IntKind.u8.wrap b].length) * 1 ≤ 140737488355328 := by simp only [List.length_cons, List.length_nil]; omega
  simp only [br_pos c1, br_pos c2, rowapp (four a) [IntKind.u8.wrap b]]
  have eL : (((four a).length + [IntKind.u8.wrap b].length : Nat) : Int) = (((four a ++ [IntKind.u8.wrap b]).length : Nat) : Int) := by rw [List.length_append]
  simp only [eL]
  refine Ev.bind (contentL5 a b l (by omega) v6 l 0 (four a ++ [IntKind.u8.wrap b]) rfl (Nat.zero_le _) (by rw [List.length_append, f4]; simp)) ?_
  have hh : four a ++ [IntKind.u8.wrap b] ++ l.flatMap four = head0 (a, (b, l)) := by rw [u8m]; rfl
  rw [hh]
  have hok := ok_head0 (a, (b, l))
  have hlen := head0_length (a, (b, l))
  have hcon : content (a, (b, l)) = head0 (a, (b, l)) ++ [(crc (head0 (a, (b, l))) : Int) / 256 % 256, (crc (head0 (a, (b, l))) : Int) % 256] := rfl
  have hclt := crc_lt hok
  have hokc := ok_content (a, (b, l))
  have hbn := fun (first : Nat) hf => burst_none (by' := by0) (first := first) (a := (a, (b, l))) hby (by omega) hokc hf
  rw [hcon] at hokc hbn
  simp only at hlen
  generalize head0 (a, (b, l)) = h at hok hlen hclt hokc hbn
  have c3 : 0 + h.length ≤ h.length := by omega
  simp only [Int.toNat_natCast, br_pos c3, List.take_length]
  refine Ev.bind (sumEv h (by omega) hok) ?_
  generalize crc h = c at hclt hokc hbn
  have w1 : IntKind.u8.wrap (IntKind.i64.wrap (((c : Nat) : Int).tdiv 256)) = (c : Int) / 256 % 256 := by
    rw [Int.tdiv_eq_ediv_of_nonneg (by omega), w64 (by omega) (by omega), u8m]
  have w2 : IntKind.u8.wrap (((c : Nat) : Int).tmod 256) = (c : Int) % 256 := by
    rw [Int.tmod_eq_emod_of_nonneg (by omega), u8m]; omega
  simp only [w1, w2, List.length_cons, List.length_nil, Nat.zero_add, rowapp1 h]
  have d1 : h.drop (h.length + 1) = [] := List.drop_eq_nil_of_le (by omega)
  have t1 : (h ++ [(c : Int) / 256 % 256]).take (h.length + 1) = h ++ [(c : Int) / 256 % 256] := by
    rw [List.take_of_length_le (by simp)]
  have d2 : (h ++ [(c : Int) / 256 % 256]).drop (h.length + 1 + 1) = [] := List.drop_eq_nil_of_le (by simp)
  have l1 : (h ++ [(c : Int) / 256 % 256]).length = h.length + 1 := by simp
  have e3 : h ++ [(c : Int) / 256 % 256] ++ [(c : Int) % 256] = h ++ [(c : Int) / 256 % 256, (c : Int) % 256] := by simp
  have c4 : h.length ≤ h.length ∧ (h.length + 1) * 1 ≤ 140737488355328 := by omega
  have c5 : h.length + 1 ≤ h.length + 1 ∧ (h.length + 1 + 1) * 1 ≤ 140737488355328 := by omega
  have hcl : (h ++ [(c : Int) / 256 % 256, (c : Int) % 256]).length = h.length + 1 + 1 := by simp
  have w3 : IntKind.i64.wrap (IntKind.i64.wrap (8 * ((h.length + 1 + 1 : Nat) : Int)) - 15) = ((8 * (h.length + 1 + 1) - 15 : Nat) : Int) := by
    rw [w64 (n := 8 * ((h.length + 1 + 1 : Nat) : Int)) (by omega) (by omega), w64 (by omega) (by omega)]; omega
  have c6 : ¬ ((8 * (h.length + 1 + 1) - 15 : Nat) : Int) = 0 := by omega
  have w4 : (IntKind.i64.wrap (at0 : Int)).tmod ((8 * (h.length + 1 + 1) - 15 : Nat) : Int) = ((at0 % (8 * (h.length + 1 + 1) - 15) : Nat) : Int) := by
    rw [w64 (by omega) (by omega), Int.tmod_eq_emod_of_nonneg (by omega)]; rfl
  simp only [d1, List.append_nil, l1, t1, d2, e3, br_pos c4, br_pos c5, w3, br_neg c6, w4]
  have hf : at0 % (8 * (h.length + 1 + 1) - 15) + 16 ≤ 8 * (h ++ [(c : Int) / 256 % 256, (c : Int) % 256]).length := by
    have := Nat.mod_lt at0 (show 0 < 8 * (h.length + 1 + 1) - 15 by omega)
    rw [hcl]; omega
  have hnone := hbn _ hf
  generalize at0 % (8 * (h.length + 1 + 1) - 15) = first at hf hnone
  rw [← hcl]
  generalize h ++ [(c : Int) / 256 % 256, (c : Int) % 256] = q at hf hnone hokc hcl
  have fl := flipL9 (m := m) by0 first true (a', (b', l')) hby 16 0 q (by omega) hokc (by omega) hf
  refine Ev.bind (fl.shift 1) ?_
  have hfl := flips_length by0 first 16 0 q
  have hfo := flips_ok (by' := by0) (first := first) 16 0 (by omega) hokc hf
  generalize flips by0 first 16 0 q = z at hnone hfl hfo
  have c7 : q.length ≤ z.length := by omega
  have t2 : z.take q.length = z := List.take_of_length_le (by omega)
  simp only [Int.toNat_natCast, br_pos c7, t2]
  refine Ev.bind ((framedEv z (by omega)).shift 1) (Ev.bind ((encodeEv a' b' l' hl').shift 1) ?_)
  have f1 := framed_length z
  have f2 := (encode_length (a := (a', (b', l'))) hn).2
  have c8 : ((framed z).length + (encode (a', (b', l'))).length) * 1 ≤ 140737488355328 := by omega
  simp only [br_pos c8]
  refine Ev.bind ((decodeEv _ (ok_append (ok_framed hfo) (ok_encode _)) (by rw [List.length_append]; omega)).shift 1) ?_
  simp only [msgs_burst hnone hn]
  refine Ev.bind ((sameAllEv [(a', (b', l'))] [(a', (b', l'))] (by simp) (fun x hx => by rw [List.mem_singleton.1 hx]; exact hl')).shift 1) ?_
  simp only [decide_true]
  exact Ev.pure _
theorem burstI (a b : Int) (l : List Int) (x y : Int) (a' b' : Int) (l' : List Int) (hx : 0 ≤ x ∧ x < 65536) (hy : 0 ≤ y ∧ y < 65536) : Ev (fun n => l32FramingBurstError m n a b l x y a' b' l') true := by
  obtain ⟨x', rfl⟩ : ∃ w : Nat, x = (w : Int) := ⟨x.toNat, by omega⟩
  obtain ⟨y', rfl⟩ : ∃ w : Nat, y = (w : Int) := ⟨y.toNat, by omega⟩
  exact burstEv a b l x' y' a' b' l' (by omega) (by omega)
end Go.Fb
