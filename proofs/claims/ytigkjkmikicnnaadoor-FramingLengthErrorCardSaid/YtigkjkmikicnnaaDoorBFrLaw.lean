import Derived.Test.YtigkjkmikicnnaaDoorBFrDec2
import Derived.Test.YtigkjkmikicnnaaDoorBFrPure
set_option linter.unusedVariables false
set_option linter.unusedSimpArgs false
/-
  FRAMING: the laws, with enough fuel.
-/
namespace Go.Fr
open Go Go.Am Go.Proofs
variable {m : Int}

theorem greatEv (a b : Int) (l : List Int) : Ev (fun n => l32Great m n a b l) (decide (30 < (l.length : Int))) := by
  refine Ev.of_eq 1 ?_
  simp only [l32GreatEq]
  exact Ev.pure _

theorem headEv : Ev (fun n => l32Head m n) true := by
  refine Ev.of_eq 1 ?_
  simp only [l32HeadEq]
  have h1 : encode (1, (5, [])) = [126, 1, 0, 0, 0, 5, 235, 248, 126] := by decide +kernel
  have h2 : encode (125, (9, [-2])) = [126, 125, 93, 0, 0, 0, 9, 254, 255, 255, 255, 170, 157, 126] := by decide +kernel
  refine Ev.bind (encode0Ev 1 5) ?_
  rw [h1]
  refine Ev.bind (bytesEv _ _ (by simp)) ?_
  refine Ev.bind (encodeEv 125 9 [-2] (by simp)) ?_
  rw [h2]
  refine Ev.bind (bytesEv _ _ (by simp)) ?_
  refine Ev.bind (decodeEv _ (by decide) (by simp)) ?_
  have h3 : msgs [9, 126, 1, 0, 0, 0, 5, 235, 248, 126, 126, 1, 0, 0, 0, 5, 235, 247, 126, 7, 7] = [(1, (5, []))] := by decide +kernel
  have h4 : rest [9, 126, 1, 0, 0, 0, 5, 235, 248, 126, 126, 1, 0, 0, 0, 5, 235, 247, 126, 7, 7] = [126, 7, 7] := by decide +kernel
  simp only [h3, h4]
  refine Ev.bind (sameAllEv _ _ (by simp) (by simp)) ?_
  refine Ev.bind (bytesEv _ _ (by simp)) ?_
  refine Ev.br_true (by decide) (Ev.br_true (by decide) (Ev.br_true (by decide) (Ev.br_true (by decide) ?_)))
  refine Ev.bind (checksum (by simp) (by decide)) ?_
  have h5 : ((crc [49, 50, 51, 52, 53, 54, 55, 56, 57] : Nat) : Int) = 10673 := by decide +kernel
  refine Ev.br_true (by rw [h5]; decide) ?_
  refine Ev.bind checksum0 ?_
  refine Ev.br_true (by decide) ?_
  refine Ev.bind (validEv 125 9 [-2] (by simp)) ?_
  refine Ev.br_true (by decide) ?_
  refine Ev.bind (valid0Ev (-1) 0) ?_
  refine Ev.br_true (by decide) ?_
  refine Ev.bind (encode0Ev 0 256) ?_
  have h6 : encode (0, (256, [])) = [] := by decide +kernel
  rw [h6]
  exact Ev.pure _

theorem content_length (a : Msg) : (content a).length = 7 + 4 * a.2.2.length := by
  unfold content
  rw [List.length_append, head0_length]
  simp
  omega
theorem escs_ge (c : List Int) : c.length ≤ (c.flatMap esc).length := by
  induction c with
  | nil => simp
  | cons x c ih =>
    rw [List.flatMap_cons, List.length_append, List.length_cons]
    have : 1 ≤ (esc x).length := by unfold esc; split <;> (try split) <;> simp
    omega
theorem encode_length {a : Msg} (h : valid a = true) : 9 ≤ (encode a).length ∧ (encode a).length ≤ 120 := by
  rw [encode_valid h]
  have h1 := content_length a
  have h2 := escs_ge (content a)
  have h3 := escs_length (content a)
  have h4 := (valid_iff.1 h).2.2.2.2.1
  have e : ([126] ++ body a ++ [126]).length = (body a).length + 2 := by simp
  rw [e]
  unfold body
  omega

/-! ### P32.2 -/
theorem roundL11 (up : Bool) (s k : Int) (l : List Int) (x : List Int) (hb : x.length ≤ 1000000) (hx : 126 ∉ (x.drop 1).dropLast) : ∀ (j i : Nat), i + j + 1 = x.length → 1 ≤ i →
    Ev (fun n => l32FramingRoundTripL11 m n (((), (up, (x, ((i : Int), ())))), ((s, (k, (l, ()))), ()))) (.inl (((), (up, (x, ()))), ((s, (k, (l, ()))), ()))) := by
  intro j
  have e0 : IntKind.i64.wrap ((x.length : Int) - 1) = (x.length : Int) - 1 := w64 (by omega) (by omega)
  induction j with
  | zero =>
    intro i hi h1
    refine Ev.of_eq 1 ?_
    simp (disch := omega) only [l32FramingRoundTripL11Eq, e0, br_neg]
    exact Ev.pure _
  | succ j ih =>
    intro i hi h1
    have hg : x[i]? = some x[i] := List.getElem?_eq_getElem (by omega)
    have hne : ¬ x[i] = 126 := fun e => hx (by
      rw [List.mem_iff_getElem?]
      refine ⟨i - 1, ?_⟩
      rw [List.getElem?_dropLast, List.length_drop, if_pos (by omega), List.getElem?_drop, show 1 + (i - 1) = i by omega, hg, e])
    refine Ev.of_eq 1 ?_
    simp (disch := omega) only [l32FramingRoundTripL11Eq, e0, br_pos, Int.toNat_natCast, hg, Option.bind_some, br_neg hne, wr i (by omega)]
    exact ih (i + 1) (by omega) (by omega)

theorem roundTrip (a b : Int) (l : List Int) : Ev (fun n => l32FramingRoundTrip m n a b l) true := by
  refine Ev.of_eq 1 ?_
  simp only [l32FramingRoundTripEq]
  refine Ev.bind headEv ?_
  refine Ev.bind (greatEv a b l) ?_
  by_cases hg : 30 < (l.length : Int)
  · simp only [br_pos hg]; exact Ev.pure _
  · have hl : l.length ≤ 140737488355328 := by omega
    simp only [br_neg hg]
    refine Ev.bind (encodeEv a b l hl) ?_
    refine Ev.bind (validEv a b l hl) ?_
    cases hv : valid (a, (b, l)) with
    | false =>
      have he : encode (a, (b, l)) = [] := by unfold encode; rw [hv]; rfl
      rw [he]
      exact Ev.pure _
    | true =>
      obtain ⟨h9, h120⟩ := encode_length hv
      have he := encode_valid hv
      have hx : 126 ∉ ((encode (a, (b, l))).drop 1).dropLast := by
        rw [he]
        have : (([126] ++ body (a, (b, l)) ++ [126]).drop 1).dropLast = body (a, (b, l)) := by simp
        rw [this]
        exact body_free _
      have g0 : (encode (a, (b, l)))[(0 : Int).toNat]? = some 126 := by rw [he]; rfl
      have gl : (encode (a, (b, l)))[(encode (a, (b, l))).length - 1]? = some 126 := by
        rw [he]
        have : ([126] ++ body (a, (b, l)) ++ [126]).length - 1 = ([126] ++ body (a, (b, l))).length := by simp
        rw [this, List.getElem?_append_right (Nat.le_refl _)]
        simp
      have hm := msgs_frame hv
      have hr : rest (encode (a, (b, l))) = [126] := by
        rw [he]
        exact rest_eq ([126] ++ body (a, (b, l))) [] (by simp)
      have hok := ok_encode (a, (b, l))
      generalize encode (a, (b, l)) = x at *
      have e0 : IntKind.i64.wrap ((x.length : Int) - 1) = ((x.length - 1 : Nat) : Int) := by rw [w64 (by omega) (by omega)]; omega
      refine Ev.br_false rfl ?_
      have t126 : (126 : Int) = 126 := rfl
      simp (disch := omega) only [br_neg, g0, Option.bind_some, e0, br_pos, Int.toNat_natCast, gl, nbr_pos t126]
      refine Ev.bind (roundL11 true a b l x (by omega) hx (x.length - 2) 1 (by omega) (Nat.le_refl _)) ?_
      simp only
      refine Ev.bind (decodeEv x hok (by omega)) ?_
      rw [hm, hr]
      refine Ev.bind (sameAllEv _ _ (by simp) (by simpa using hl)) ?_
      refine Ev.bind (bytesEv _ _ (by simp)) ?_
      exact Ev.br_true rfl (Ev.br_true (by simp) ((Ev.pure _).congr (by simp)))
end Go.Fr
