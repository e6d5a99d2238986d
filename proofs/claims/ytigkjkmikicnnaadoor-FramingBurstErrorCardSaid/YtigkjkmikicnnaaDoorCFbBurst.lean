import Derived.Test.YtigkjkmikicnnaaDoorCFbPure
set_option linter.unusedVariables false
set_option linter.unusedSimpArgs false
set_option linter.unnecessarySimpa false
/-
  FRAMING: the checksum finds every burst of up to sixteen bits.
-/
namespace Go.Fb
open Go Go.Am

theorem dbl_xor (a b : Nat) : 2 * (a ^^^ b) = (2 * a) ^^^ (2 * b) := by
  have := Nat.shiftLeft_xor_distrib (a := a) (b := b) (i := 1)
  simp only [Nat.shiftLeft_eq, Nat.pow_one] at this
  rw [Nat.mul_comm 2, Nat.mul_comm 2 a, Nat.mul_comm 2 b]
  exact this
theorem hi_bit {s : Nat} (h : s < 65536) : decide (65536 ≤ 2 * s) = s.testBit 15 := by
  rw [Nat.testBit_eq_decide_div_mod_eq]
  exact decide_eq_decide.2 (by omega)
theorem step1_bit {s : Nat} (h : s < 65536) : step1 s = (2 * s) ^^^ (if s.testBit 15 = true then 69665 else 0) := by
  unfold step1
  rw [← hi_bit h]
  by_cases c : 65536 ≤ 2 * s
  · rw [if_pos c, decide_eq_true c]; rfl
  · rw [if_neg c, decide_eq_false c]; simp
theorem step1_xor {a b : Nat} (ha : a < 65536) (hb : b < 65536) : step1 (a ^^^ b) = step1 a ^^^ step1 b := by
  rw [step1_bit ha, step1_bit hb, step1_bit (xor_lt16 ha hb), Nat.testBit_xor, dbl_xor]
  cases a.testBit 15 <;> cases b.testBit 15
  · simp
  · simp [Nat.xor_assoc]
  · simp only [Bool.xor_false, if_true, Bool.false_eq_true, if_false, Nat.xor_zero]
    rw [Nat.xor_assoc, Nat.xor_assoc, Nat.xor_comm (2 * b)]
  · simp only [Bool.xor_self, Bool.false_eq_true, if_false, Nat.xor_zero, if_true]
    rw [Nat.xor_assoc, ← Nat.xor_assoc 69665, Nat.xor_comm 69665, Nat.xor_assoc (2 * b), Nat.xor_self, Nat.xor_zero]
theorem steps_xor : ∀ (k : Nat) {a b : Nat}, a < 65536 → b < 65536 → steps k (a ^^^ b) = steps k a ^^^ steps k b
  | 0, _, _, _, _ => rfl
  | k + 1, a, b, ha, hb => by
    show steps k (step1 (a ^^^ b)) = _
    rw [step1_xor ha hb]
    exact steps_xor k (step1_lt ha) (step1_lt hb)
theorem steps_zero : ∀ k : Nat, steps k 0 = 0
  | 0 => rfl
  | k + 1 => by
    have : step1 0 = 0 := by unfold step1; rfl
    show steps k (step1 0) = 0
    rw [this]; exact steps_zero k
theorem steps_add : ∀ (a b s : Nat), steps (a + b) s = steps b (steps a s)
  | 0, b, s => by rw [Nat.zero_add]; rfl
  | a + 1, b, s => by rw [Nat.succ_add]; exact steps_add a b (step1 s)
theorem step1_ne {s : Nat} (h : s ≠ 0) : step1 s ≠ 0 := by
  unfold step1
  split
  · intro e
    have e2 : 2 * s = 69665 := by
      have := congrArg (fun z => z ^^^ 69665) e
      simp only [Nat.xor_assoc, Nat.xor_self, Nat.xor_zero, Nat.zero_xor] at this
      exact this
    omega
  · omega
theorem steps_ne : ∀ (k : Nat) {s : Nat}, s ≠ 0 → steps k s ≠ 0
  | 0, _, h => h
  | k + 1, _, h => steps_ne k (step1_ne h)
theorem step1_small {s : Nat} (h : 2 * s < 65536) : step1 s = 2 * s := by
  unfold step1; rw [if_neg (by omega)]
theorem steps_pow : ∀ (k a : Nat), a + k ≤ 15 → steps k (2 ^ a) = 2 ^ (a + k)
  | 0, _, _ => rfl
  | k + 1, a, h => by
    show steps k (step1 (2 ^ a)) = _
    have hp : 2 * 2 ^ a < 65536 := by
      have : 2 ^ (a + 1) ≤ 2 ^ 15 := Nat.pow_le_pow_right (by decide) (by omega)
      rw [Nat.pow_succ] at this
      omega
    rw [step1_small hp, show 2 * 2 ^ a = 2 ^ (a + 1) by rw [Nat.pow_succ]; omega, steps_pow k (a + 1) (by omega)]
    congr 1; omega
theorem steps_shift : ∀ (k v : Nat), v * 2 ^ k < 65536 → steps k v = v * 2 ^ k
  | 0, v, _ => by simp [steps]
  | k + 1, v, h => by
    rw [Nat.pow_succ] at h
    have h2 : v * 2 * 2 ^ k < 65536 := by
      rw [Nat.mul_assoc, Nat.mul_comm 2]; exact h
    have hv : 2 * v < 65536 := by
      have : v * 2 * 1 ≤ v * 2 * 2 ^ k := Nat.mul_le_mul_left _ (Nat.one_le_two_pow)
      omega
    show steps k (step1 v) = _
    rw [step1_small hv, Nat.mul_comm 2 v, steps_shift k (v * 2) h2, Nat.pow_succ, Nat.mul_assoc, Nat.mul_comm 2]

/-! ### Whole words -/
theorem crcStep_xor {s t x : Nat} (hs : s < 65536) (ht : t < 65536) (hx : x < 256) : crcStep (s ^^^ t) x = crcStep s x ^^^ steps 8 t := by
  unfold crcStep
  rw [Nat.xor_assoc, Nat.xor_comm t, ← Nat.xor_assoc, steps_xor 8 (xor_lt16 hs (by omega)) ht]
theorem crc_shift : ∀ (l : List Int) {s t : Nat}, okBs l = true → s < 65536 → t < 65536 → crcFrom (s ^^^ t) l = crcFrom s l ^^^ steps (8 * l.length) t := by
  intro l
  induction l with
  | nil => intro s t _ _ _; rfl
  | cons x l ih =>
    intro s t h hs ht
    simp only [okBs, List.all_cons, Bool.and_eq_true, okB, decide_eq_true_eq] at h
    have hl : okBs l = true := by simpa [okBs, okB] using h.2
    show crcFrom (crcStep (s ^^^ t) x.toNat) l = crcFrom (crcStep s x.toNat) l ^^^ _
    rw [crcStep_xor hs ht (by omega), ih hl (crcStep_lt hs (by omega)) (steps_lt 8 ht), ← steps_add]
    congr 2
    simp only [List.length_cons]; omega
/-- A byte with some of its bits inverted. -/
def xorB (x : Int) (v : Nat) : Int := ((x.toNat ^^^ v : Nat) : Int)
theorem crcStep_byte {s x v : Nat} (hs : s < 65536) (hx : x < 256) (hv : v < 256) : crcStep s (x ^^^ v) = crcStep s x ^^^ steps 8 (256 * v) := by
  unfold crcStep
  have e : 256 * (x ^^^ v) = (256 * x) ^^^ (256 * v) := by
    have := Nat.shiftLeft_xor_distrib (a := x) (b := v) (i := 8)
    simp only [Nat.shiftLeft_eq, show (2 : Nat) ^ 8 = 256 from rfl] at this
    rw [Nat.mul_comm 256, Nat.mul_comm 256 x, Nat.mul_comm 256 v]
    exact this
  rw [e, ← Nat.xor_assoc, steps_xor 8 (xor_lt16 hs (by omega)) (by omega)]
theorem crc_set : ∀ (l : List Int) {s p : Nat} {x : Int} {v : Nat}, okBs l = true → s < 65536 → l[p]? = some x → v < 256 → crcFrom s (l.set p (xorB x v)) = crcFrom s l ^^^ steps (8 * (l.length - p)) (256 * v) := by
  intro l
  induction l with
  | nil => intro s p x v _ _ h; simp at h
  | cons y l ih =>
    intro s p x v h hs hp hv
    simp only [okBs, List.all_cons, Bool.and_eq_true, okB, decide_eq_true_eq] at h
    have hl : okBs l = true := by simpa [okBs, okB] using h.2
    cases p with
    | zero =>
      simp only [List.getElem?_cons_zero, Option.some.injEq] at hp
      subst hp
      show crcFrom (crcStep s (xorB y v).toNat) l = crcFrom (crcStep s y.toNat) l ^^^ _
      have e : (xorB y v).toNat = y.toNat ^^^ v := by unfold xorB; omega
      rw [e, crcStep_byte hs (by omega) hv, crc_shift l hl (crcStep_lt hs (by omega)) (steps_lt 8 (by omega)), ← steps_add]
      congr 2
      simp only [List.length_cons]; omega
    | succ p =>
      simp only [List.getElem?_cons_succ] at hp
      show crcFrom (crcStep s y.toNat) (l.set p (xorB x v)) = crcFrom (crcStep s y.toNat) l ^^^ _
      rw [ih hl (crcStep_lt hs (by omega)) hp hv]
      congr 2
      simp only [List.length_cons]; omega
theorem place {len first i : Nat} (h : first + 16 ≤ 8 * len) (hi : i < 16) : steps (8 * (len - (first + i) / 8)) (256 * 2 ^ (7 - (first + i) % 8)) = steps (8 * len - first) (2 ^ (15 - i)) := by
  have e : 256 * 2 ^ (7 - (first + i) % 8) = 2 ^ (15 - (first + i) % 8) := by
    rw [show (256 : Nat) = 2 ^ 8 by decide, ← Nat.pow_add]
    congr 1; omega
  rw [e]
  rcases Nat.lt_or_ge i ((first + i) % 8) with c | c
  · rw [show 8 * (len - (first + i) / 8) = ((first + i) % 8 - i) + (8 * len - first) by omega, steps_add, steps_pow ((first + i) % 8 - i) (15 - (first + i) % 8) (by omega)]
    congr 2; omega
  · rw [show 8 * len - first = (i - (first + i) % 8) + 8 * (len - (first + i) / 8) by omega, steps_add, steps_pow (i - (first + i) % 8) (15 - i) (by omega)]
    congr 2; omega
end Go.Fb
