import Derived.Test.YtigkjkmikicnnaaDoorCFbDec2
import Derived.Test.YtigkjkmikicnnaaDoorCFbPure
set_option linter.unusedVariables false
set_option linter.unusedSimpArgs false
set_option linter.unnecessarySimpa false
/-
  FRAMING: the laws, with enough fuel.
-/
namespace Go.Fb
open Go Go.Am Go.Proofs
variable {m : Int}

theorem greatEv (a b : Int) (l : List Int) : Ev (fun n => l32Great m n a b l) (decide (30 < (l.length : Int))) := by
  refine Ev.of_eq 1 ?_
  simp only [l32GreatEq]
  exact Ev.pure _

theorem headEv : Ev (fun n => l32Head m n) true := by
  refine Ev.of_eq 1 ?_
  simp only [l32HeadEq]
  have h1 : encode (1, (5, [])) = [126, 1, 0, 0, 0, 5, 235, 248, 126] := by decide +kernel
  have h2 : encode (125, (9, [-2])) = [126, 125, 93, 0, 0, 0, 9, 254, 255, 255, 255, 170, 157, 126] := by decide +kernel
  refine Ev.bind (encode0Ev 1 5) ?_
  rw [h1]
  refine Ev.bind (bytesEv _ _ (by simp)) ?_
  refine Ev.bind (encodeEv 125 9 [-2] (by simp)) ?_
  rw [h2]
  refine Ev.bind (bytesEv _ _ (by simp)) ?_
  refine Ev.bind (decodeEv _ (by decide) (by simp)) ?_
  have h3 : msgs [9, 126, 1, 0, 0, 0, 5, 235, 248, 126, 126, 1, 0, 0, 0, 5, 235, 247, 126, 7, 7] = [(1, (5, []))] := by decide +kernel
  have h4 : rest [9, 126, 1, 0, 0, 0, 5, 235, 248, 126, 126, 1, 0, 0, 0, 5, 235, 247, 126, 7, 7] = [126, 7, 7] := by decide +kernel
  simp only [h3, h4]
  refine Ev.bind (sameAllEv _ _ (by simp) (by simp)) ?_
  refine Ev.bind (bytesEv _ _ (by simp)) ?_
  refine Ev.br_true (by decide) (Ev.br_true (by decide) (Ev.br_true (by decide) (Ev.br_true (by decide) ?_)))
  refine Ev.bind (checksum (by simp) (by decide)) ?_
  have h5 : ((crc [49, 50, 51, 52, 53, 54, 55, 56, 57] : Nat) : Int) = 10673 := by decide +kernel
  refine Ev.br_true (by rw [h5]; decide) ?_
  refine Ev.bind checksum0 ?_
  refine Ev.br_true (by decide) ?_
  refine Ev.bind (validEv 125 9 [-2] (by simp)) ?_
  refine Ev.br_true (by decide) ?_
  refine Ev.bind (valid0Ev (-1) 0) ?_
  refine Ev.br_true (by decide) ?_
  refine Ev.bind (encode0Ev 0 256) ?_
  have h6 : encode (0, (256, [])) = [] := by decide +kernel
  rw [h6]
  exact Ev.pure _

theorem content_length (a : Msg) : (content a).length = 7 + 4 * a.2.2.length := by
  unfold content
  rw [List.length_append, head0_length]
  simp
  omega
theorem escs_ge (c : List Int) : c.length ≤ (c.flatMap esc).length := by
  induction c with
  | nil => simp
  | cons x c ih =>
    rw [List.flatMap_cons, List.length_append, List.length_cons]
    have : 1 ≤ (esc x).length := by unfold esc; split <;> (try split) <;> simp
    omega
theorem encode_length {a : Msg} (h : valid a = true) : 9 ≤ (encode a).length ∧ (encode a).length ≤ 120 := by
  rw [encode_valid h]
  have h1 := content_length a
  have h2 := escs_ge (content a)
  have h3 := escs_length (content a)
  have h4 := (valid_iff.1 h).2.2.2.2.1
  have e : ([126] ++ body a ++ [126]).length = (body a).length + 2 := by simp
  rw [e]
  unfold body
  omega

/-! ### P32.2 -/
end Go.Fb
