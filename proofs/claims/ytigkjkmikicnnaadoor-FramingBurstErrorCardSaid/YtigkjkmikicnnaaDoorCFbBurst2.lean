import Derived.Test.YtigkjkmikicnnaaDoorCFbBurst
import Derived.Test.YtigkjkmikicnnaaDoorCFbRef
set_option linter.unusedVariables false
set_option linter.unusedSimpArgs false
set_option linter.unnecessarySimpa false
/-
  FRAMING: a burst in a frame's content.
-/
namespace Go.Fb
open Go Go.Am

def flip (by' first i : Nat) (l : List Int) : List Int := if by'.testBit (15 - i) = true then l.set ((first + i) / 8) (xorB (l.getD ((first + i) / 8) 0) (2 ^ (7 - (first + i) % 8))) else l
def flips (by' first : Nat) : Nat → Nat → List Int → List Int
  | 0, _, l => l
  | k + 1, i, l => flips by' first k (i + 1) (flip by' first i l)
theorem flip_length (by' first i : Nat) (l : List Int) : (flip by' first i l).length = l.length := by unfold flip; split <;> simp
theorem pow7 (j : Nat) : 2 ^ (7 - j) < 256 := by
  have : 2 ^ (7 - j) ≤ 2 ^ 7 := Nat.pow_le_pow_right (by decide) (by omega)
  omega
theorem xorB_ok {x : Int} {v : Nat} (hx : 0 ≤ x ∧ x < 256) (hv : v < 256) : 0 ≤ xorB x v ∧ xorB x v < 256 := by
  unfold xorB
  have := Nat.xor_lt_two_pow (x := x.toNat) (y := v) (n := 8) (by omega) (by omega)
  omega
theorem okBs_set {l : List Int} (h : okBs l = true) {p : Nat} {y : Int} (hy : 0 ≤ y ∧ y < 256) : okBs (l.set p y) = true := by
  unfold okBs at *
  rw [List.all_eq_true] at *
  intro x hx
  rcases List.mem_or_eq_of_mem_set hx with k | k
  · exact h x k
  · rw [k]; exact okB_iff.2 hy
theorem flip_ok {by' first i : Nat} {l : List Int} (h : okBs l = true) (hf : first + 16 ≤ 8 * l.length) (hi : i < 16) : okBs (flip by' first i l) = true := by
  unfold flip
  split
  · have hp : (first + i) / 8 < l.length := by omega
    have hx : l.getD ((first + i) / 8) 0 ∈ l := by
      rw [List.getD_eq_getElem?_getD, List.getElem?_eq_getElem hp]; exact List.getElem_mem hp
    have := List.all_eq_true.1 h _ hx
    rw [okB_iff] at this
    exact okBs_set h (xorB_ok this (pow7 _))
  · exact h
theorem crc_flip {by' first i s : Nat} {l : List Int} (h : okBs l = true) (hs : s < 65536) (hf : first + 16 ≤ 8 * l.length) (hi : i < 16) :
    crcFrom s (flip by' first i l) = crcFrom s l ^^^ (if by'.testBit (15 - i) = true then steps (8 * l.length - first) (2 ^ (15 - i)) else 0) := by
  unfold flip
  split
  · have hp : (first + i) / 8 < l.length := by omega
    have hx : l[(first + i) / 8]? = some (l.getD ((first + i) / 8) 0) := by rw [List.getD_eq_getElem?_getD, List.getElem?_eq_getElem hp]; rfl
    rw [crc_set l h hs hx (pow7 _), place hf hi]
  · simp
theorem mod_bit (x k : Nat) : x % 2 ^ (k + 1) = (if x.testBit k = true then 2 ^ k else 0) ^^^ (x % 2 ^ k) := by
  apply Nat.eq_of_testBit_eq
  intro j
  rw [Nat.testBit_mod_two_pow, Nat.testBit_xor, Nat.testBit_mod_two_pow]
  cases c : x.testBit k
  · simp only [Bool.false_eq_true, if_false, Nat.zero_testBit, Bool.false_xor]
    by_cases hj : j = k
    · subst hj; simp [c]
    · have : decide (j < k + 1) = decide (j < k) := decide_eq_decide.2 (by omega)
      rw [this]
  · simp only [if_true, Nat.testBit_two_pow]
    by_cases hj : j = k
    · subst hj; simp [c]
    · have e1 : decide (j < k + 1) = decide (j < k) := decide_eq_decide.2 (by omega)
      have e2 : decide (k = j) = false := decide_eq_false (fun e => hj e.symm)
      rw [e1, e2, Bool.false_xor]
theorem crc_flips {by' first : Nat} : ∀ (k i : Nat) {s : Nat} {l : List Int}, i + k = 16 → okBs l = true → s < 65536 → first + 16 ≤ 8 * l.length →
    crcFrom s (flips by' first k i l) = crcFrom s l ^^^ steps (8 * l.length - first) (by' % 2 ^ k) := by
  intro k
  induction k with
  | zero =>
    intro i s l _ _ _ _
    simp [flips, Nat.mod_one, steps_zero]
  | succ k ih =>
    intro i s l hi h hs hf
    show crcFrom s (flips by' first k (i + 1) (flip by' first i l)) = _
    rw [ih (i + 1) (by omega) (flip_ok h hf (by omega)) hs (by rw [flip_length]; exact hf), flip_length, crc_flip h hs hf (by omega), mod_bit, Nat.xor_assoc]
    have hk : 15 - i = k := by omega
    have hlt : 2 ^ k < 65536 := by
      have : 2 ^ k ≤ 2 ^ 15 := Nat.pow_le_pow_right (by decide) (by omega)
      omega
    have hm : by' % 2 ^ k < 65536 := Nat.lt_trans (Nat.mod_lt _ (Nat.pow_pos (by decide))) hlt
    rw [hk]
    congr 1
    cases by'.testBit k
    · simp
    · simp only [if_true]
      rw [steps_xor _ hlt hm]
theorem crcFrom_append : ∀ (a b : List Int) (s : Nat), crcFrom s (a ++ b) = crcFrom (crcFrom s a) b := by
  intro a
  induction a with
  | nil => intro b s; rfl
  | cons x a ih => intro b s; exact ih b _
theorem crc_word {c : Nat} (hc : c < 65536) : crcFrom c [(c : Int) / 256 % 256, (c : Int) % 256] = 0 := by
  have e1 : ((c : Int) / 256 % 256).toNat = c / 256 := by omega
  have e2 : ((c : Int) % 256).toNat = c % 256 := by omega
  show crcStep (crcStep c ((c : Int) / 256 % 256).toNat) ((c : Int) % 256).toNat = 0
  rw [e1, e2]
  have x1 : c ^^^ (256 * (c / 256)) = c % 256 := by
    have d1 : (c ^^^ (256 * (c / 256))) / 2 ^ 8 = 0 := by
      rw [Nat.xor_div_two_pow, show (2 : Nat) ^ 8 = 256 from rfl, Nat.mul_div_cancel_left _ (by decide), Nat.xor_self]
    have d2 : (c ^^^ (256 * (c / 256))) % 2 ^ 8 = c % 256 := by
      rw [Nat.xor_mod_two_pow, show (2 : Nat) ^ 8 = 256 from rfl, Nat.mul_mod_right, Nat.xor_zero]
    simp only [show (2 : Nat) ^ 8 = 256 from rfl] at d1 d2
    omega
  have x2 : crcStep c (c / 256) = 256 * (c % 256) := by
    unfold crcStep
    rw [x1, steps_shift 8 (c % 256) (by omega)]
    omega
  rw [x2]
  unfold crcStep
  rw [Nat.xor_self, steps_zero]
theorem crc_content (a : Msg) : crcFrom 65535 (content a) = 0 := by
  unfold content
  rw [crcFrom_append]
  exact crc_word (crc_lt (ok_head0 a))
theorem flips_length (by' first : Nat) : ∀ (k i : Nat) (l : List Int), (flips by' first k i l).length = l.length := by
  intro k
  induction k with
  | zero => intro i l; rfl
  | succ k ih => intro i l; show (flips by' first k (i + 1) (flip by' first i l)).length = _; rw [ih, flip_length]
theorem flips_ok {by' first : Nat} : ∀ (k i : Nat) {l : List Int}, i + k = 16 → okBs l = true → first + 16 ≤ 8 * l.length → okBs (flips by' first k i l) = true := by
  intro k
  induction k with
  | zero => intro i l _ h _; exact h
  | succ k ih =>
    intro i l hi h hf
    exact ih (i + 1) (by omega) (flip_ok h hf (by omega)) (by rw [flip_length]; exact hf)
/-- No message has a payload that is another's with a burst in it. -/
theorem burst_none {by' first : Nat} {a : Msg} (hb : by' < 65536) (hb0 : by' ≠ 0) (hok : okBs (content a) = true) (hf : first + 16 ≤ 8 * (content a).length) : piece ((flips by' first 16 0 (content a)).flatMap esc) = none := by
  cases hp : piece ((flips by' first 16 0 (content a)).flatMap esc) with
  | none => rfl
  | some b =>
    exfalso
    obtain ⟨_, e⟩ := piece_some hp
    have e2 : flips by' first 16 0 (content a) = content b := by
      have := congrArg plain e
      rw [plain_escs] at this
      rw [this]
      exact plain_escs _
    have k1 := crc_flips (by' := by') (first := first) 16 0 (s := 65535) (by omega) hok (by omega) hf
    rw [e2, crc_content, crc_content, Nat.zero_xor] at k1
    have k2 : by' % 2 ^ 16 = by' := Nat.mod_eq_of_lt (by simpa using hb)
    rw [k2] at k1
    exact steps_ne _ hb0 k1.symm
theorem msgs_burst {c : List Int} {next : Msg} (hc : piece (c.flatMap esc) = none) (hn : valid next = true) : msgs (framed c ++ encode next) = [next] := by
  have e : framed c ++ encode next = ([] ++ 126 :: c.flatMap esc) ++ 126 :: encode next := by
    unfold framed; simp
  have e2 : splitB 126 ([] ++ 126 :: c.flatMap esc) = [[], c.flatMap esc] := by
    rw [splitB_append, splitB_none (escs_free c)]; rfl
  have e3 : splitB 126 (encode next) = [[], body next, []] := by
    have : encode next = [] ++ 126 :: (body next ++ 126 :: []) := by rw [encode_valid hn]; simp
    rw [this, splitB_append, splitB_append, splitB_none (body_free next)]; rfl
  rw [e, msgs_mark, e2, e3]
  have e4 : piece [] = none := by decide +kernel
  show ([c.flatMap esc, [], body next] : List (List Int)).filterMap piece = _
  simp only [List.filterMap_cons, hc, e4, piece_body hn, List.filterMap_nil]
end Go.Fb
