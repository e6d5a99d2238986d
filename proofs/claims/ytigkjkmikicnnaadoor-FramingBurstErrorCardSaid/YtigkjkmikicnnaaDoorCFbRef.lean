import Derived.Test.YtigkjkmikicnnaaDoorCFbLaw2
set_option linter.unusedVariables false
set_option linter.unusedSimpArgs false
set_option linter.unnecessarySimpa false
/-
  FRAMING: the reference, with enough fuel; P32.1.
-/
namespace Go.Fb
open Go Go.Am Go.Proofs
variable {m : Int}

/-! ### May -/
theorem turnedL4 (a b : Nat) (ha : a < 131072) (hb : b < 131072) : ∀ (k i : Nat), i + k = 17 →
    Ev (fun n => r32TurnedL4 m n (((a : Int), ((b : Int), ((((a ^^^ b) % 2 ^ i : Nat) : Int), (((2 ^ i : Nat) : Int), ((i : Int), ()))))), ())) ((((a ^^^ b : Nat) : Int), ()), ()) := by
  intro k
  have hx := xor_lt17 ha hb
  induction k with
  | zero =>
    intro i hi
    have : i = 17 := by omega
    subst this
    refine Ev.of_eq 1 ?_
    simp (disch := omega) only [r32TurnedL4Eq, br_neg]
    refine (Ev.pure _).congr ?_
    have : (a ^^^ b) % 2 ^ 17 = a ^^^ b := Nat.mod_eq_of_lt hx
    rw [this]
  | succ k ih =>
    intro i hi
    have hp : 0 < 2 ^ i := Nat.two_pow_pos i
    have hp2 : 2 ^ i ≤ 65536 := by
      have := Nat.pow_le_pow_right (n := 2) (by omega) (show i ≤ 16 by omega)
      exact this
    have key := ih (i + 1) (by omega)
    have hs : 2 ^ (i + 1) = 2 * 2 ^ i := by rw [Nat.pow_succ]; omega
    have hbit : (a ^^^ b) / 2 ^ i % 2 = ((a / 2 ^ i % 2) + (b / 2 ^ i % 2)) % 2 := by
      have h1 := Nat.testBit_xor a b i
      rw [Nat.testBit_eq_decide_div_mod_eq, Nat.testBit_eq_decide_div_mod_eq, Nat.testBit_eq_decide_div_mod_eq] at h1
      have ha2 := Nat.mod_lt (a / 2 ^ i) (show 0 < 2 by omega)
      have hb2 := Nat.mod_lt (b / 2 ^ i) (show 0 < 2 by omega)
      have hx2 := Nat.mod_lt ((a ^^^ b) / 2 ^ i) (show 0 < 2 by omega)
      rcases (show a / 2 ^ i % 2 = 0 ∨ a / 2 ^ i % 2 = 1 by omega) with h2 | h2 <;> rcases (show b / 2 ^ i % 2 = 0 ∨ b / 2 ^ i % 2 = 1 by omega) with h3 | h3 <;> rw [h2, h3] at h1 ⊢ <;> simp at h1 <;> omega
    have hmod : (a ^^^ b) % 2 ^ (i + 1) = (a ^^^ b) % 2 ^ i + 2 ^ i * ((a ^^^ b) / 2 ^ i % 2) := by rw [Nat.pow_succ]; exact Nat.mod_mul
    have hml : (a ^^^ b) % 2 ^ i < 2 ^ i := Nat.mod_lt _ hp
    generalize hP : 2 ^ i = P at *
    have t1 : ∀ c : Nat, c < 131072 → (IntKind.i64.wrap (((c : Int)).tdiv ((P : Nat) : Int))).tmod 2 = ((c / P % 2 : Nat) : Int) := fun c hc => by
      have h1 : ((c : Int)).tdiv ((P : Nat) : Int) = ((c / P : Nat) : Int) := by rw [Int.tdiv_eq_ediv_of_nonneg (by omega)]; rfl
      have h2 : c / P ≤ c := Nat.div_le_self _ _
      rw [h1]
      generalize c / P = q at h2 ⊢
      rw [w64 (by omega) (by omega), Int.tmod_eq_emod_of_nonneg (by omega)]
      omega
    have w2 : IntKind.i64.wrap (2 * ((P : Nat) : Int)) = ((2 ^ (i + 1) : Nat) : Int) := by rw [w64 (by omega) (by omega), hs]; omega
    have np : ¬ ((P : Nat) : Int) = 0 := by omega
    refine Ev.of_eq 1 ?_
    by_cases hd : a / P % 2 = b / P % 2
    · have hz : (a ^^^ b) / P % 2 = 0 := by rw [hbit, hd]; omega
      rw [hz, Nat.mul_zero, Nat.add_zero] at hmod
      rw [hmod] at key
      have hd' : ((a / P % 2 : Nat) : Int) = ((b / P % 2 : Nat) : Int) := by omega
      simp (disch := omega) only [r32TurnedL4Eq, br_pos, br_neg np, t1 a ha, t1 b hb, nbr_pos hd', Option.bind_some, w2, wr i (by omega)]
      exact key
    · have hz : (a ^^^ b) / P % 2 = 1 := by rw [hbit]; omega
      rw [hz, Nat.mul_one] at hmod
      rw [hmod] at key
      have hd' : ¬ ((a / P % 2 : Nat) : Int) = ((b / P % 2 : Nat) : Int) := by omega
      have w3 : IntKind.i64.wrap ((((a ^^^ b) % P : Nat) : Int) + ((P : Nat) : Int)) = (((a ^^^ b) % P + P : Nat) : Int) := by rw [w64 (by omega) (by omega)]; omega
      simp (disch := omega) only [r32TurnedL4Eq, br_pos, br_neg np, t1 a ha, t1 b hb, nbr_neg hd', Option.bind_some, w2, w3, wr i (by omega)]
      exact key
theorem turnedEv (a b : Nat) (ha : a < 131072) (hb : b < 131072) : Ev (fun n => r32Turned m n (a : Int) (b : Int)) ((a ^^^ b : Nat) : Int) := by
  refine Ev.of_eq 1 ?_
  simp only [r32TurnedEq]
  have h := turnedL4 (m := m) a b ha hb 17 0 rfl
  have e : (((a ^^^ b) % 2 ^ 0 : Nat) : Int) = 0 := by rw [Nat.pow_zero, Nat.mod_one]; rfl
  rw [e] at h
  exact Ev.bind h (Ev.pure _)

theorem sumL7 (l : List Int) (q : Int) : ∀ (k i s : Nat), i + k = 8 → s < 65536 → Ev (fun n => r32SumL7 m n ((l, ((s : Int), (q, ((i : Int), ())))), ())) ((l, (((steps k s : Nat) : Int), (q, ()))), ()) := by
  intro k
  induction k with
  | zero =>
    intro i s hi hs
    refine Ev.of_eq 1 ?_
    simp (disch := omega) only [r32SumL7Eq, br_neg]
    exact Ev.pure _
  | succ k ih =>
    intro i s hi hs
    have e1 : IntKind.i64.wrap (2 * (s : Int)) = ((2 * s : Nat) : Int) := by rw [w64 (by omega) (by omega)]; omega
    have e3 : step1 s < 65536 := step1_lt hs
    have key := ih (i + 1) (step1 s) (by omega) e3
    refine Ev.of_eq 1 ?_
    simp (disch := omega) only [r32SumL7Eq, br_pos, e1]
    have e69 : (69665 : Int) = ((69665 : Nat) : Int) := rfl
    by_cases h : 65536 ≤ 2 * s
    · have e5 : step1 s = (2 * s) ^^^ 69665 := by unfold step1; rw [if_pos h]
      have h' : (65536 : Int) ≤ ((2 * s : Nat) : Int) := by omega
      simp only [br_pos h', e69]
      refine Ev.bind (x := ((l, (((step1 s : Nat) : Int), (q, ((i : Int), ())))), ())) ?_ ?_
      · refine Ev.bind (turnedEv (2 * s) 69665 (by omega) (by omega)) ?_
        exact (Ev.pure _).congr (by rw [e5])
      · simp only [wr i (by omega)]
        exact key
    · have e5 : step1 s = 2 * s := by unfold step1; rw [if_neg h]
      simp (disch := omega) only [br_neg, Option.bind_some, wr i (by omega)]
      rw [e5] at key
      exact key.congr (by rw [show steps (k + 1) s = steps k (step1 s) from rfl, e5])
theorem sumL3 (l : List Int) (hl : l.length ≤ 1000000) : ∀ (r : List Int) (i s : Nat), l.drop i = r → i ≤ l.length → s < 65536 → okBs r = true →
    Ev (fun n => r32SumL3 m n ((l, ((s : Int), ((i : Int), ()))), ())) ((((crcFrom s r : Nat) : Int), ()), ()) := by
  intro r
  induction r with
  | nil =>
    intro i s hd hi hs _
    have := drop_nil hd
    refine Ev.of_eq 1 ?_
    simp (disch := omega) only [r32SumL3Eq, br_neg]
    exact Ev.pure _
  | cons x r ih =>
    intro i s hd hi hs hok
    obtain ⟨h1, h2, h3⟩ := drop_get hd
    obtain ⟨hx, hr⟩ := ok_cons hok
    have e1 : IntKind.i64.wrap (256 * IntKind.i64.wrap x) = ((256 * x.toNat : Nat) : Int) := by rw [w64 (n := x) (by omega) (by omega), w64 (by omega) (by omega)]; omega
    refine Ev.of_eq 1 ?_
    simp (disch := omega) only [r32SumL3Eq, br_pos, Int.toNat_natCast, h1, Option.bind_some, e1]
    refine Ev.bind (turnedEv s (256 * x.toNat) (by omega) (by omega)) ?_
    refine Ev.bind (sumL7 l (i : Int) 8 0 (s ^^^ (256 * x.toNat)) rfl (xor_lt16 hs (by omega))) ?_
    have h4 : steps 8 (s ^^^ (256 * x.toNat)) = crcStep s x.toNat := by unfold crcStep; rfl
    simp only [wr i (by omega), h4]
    exact ih (i + 1) _ h2 (by omega) (crcStep_lt hs (by omega)) hr
theorem sumEv (l : List Int) (hl : l.length ≤ 1000000) (hok : okBs l = true) : Ev (fun n => r32Sum m n l) ((crc l : Nat) : Int) := by
  refine Ev.of_eq 1 ?_
  simp only [r32SumEq]
  have h := sumL3 (m := m) l hl l 0 65535 rfl (Nat.zero_le _) (by omega) hok
  exact Ev.bind h (Ev.pure _)

/-! ### Pack -/
theorem refFour (a : Int) (h : odd a = false) : Ev (fun n => r32Four m n a) (four a) := by
  unfold odd at h
  simp only [Bool.or_eq_false_iff, decide_eq_false_iff_not] at h
  have fin : ∀ x : Int, 0 ≤ x → x < 4294967296 → (x - a) % 4294967296 = 0 → [IntKind.u8.wrap (x.tmod 256), IntKind.u8.wrap ((IntKind.i64.wrap (x.tdiv 256)).tmod 256), IntKind.u8.wrap ((IntKind.i64.wrap (x.tdiv 65536)).tmod 256), IntKind.u8.wrap (IntKind.i64.wrap (x.tdiv 16777216))] = four a := by
    intro x h0 h1 h2
    have d1 : x.tdiv 256 = x / 256 := Int.tdiv_eq_ediv_of_nonneg h0
    have d2 : x.tdiv 65536 = x / 65536 := Int.tdiv_eq_ediv_of_nonneg h0
    have d3 : x.tdiv 16777216 = x / 16777216 := Int.tdiv_eq_ediv_of_nonneg h0
    have w1 : IntKind.i64.wrap (x / 256) = x / 256 := w64 (by omega) (by omega)
    have w2 : IntKind.i64.wrap (x / 65536) = x / 65536 := w64 (by omega) (by omega)
    have w3 : IntKind.i64.wrap (x / 16777216) = x / 16777216 := w64 (by omega) (by omega)
    rw [d1, d2, d3, w1, w2, w3, Int.tmod_eq_emod_of_nonneg h0, Int.tmod_eq_emod_of_nonneg (by omega), Int.tmod_eq_emod_of_nonneg (by omega), u8_eq, u8_eq, u8_eq, u8_eq]
    unfold four
    congr 1
    · omega
    · congr 1
      · omega
      · congr 1
        · omega
        · congr 1
          omega
  refine Ev.of_eq 1 ?_
  simp only [r32FourEq]
  by_cases hn : a < 0
  · have w : IntKind.i64.wrap (a + 4294967296) = a + 4294967296 := w64 (by omega) (by omega)
    simp only [br_pos hn, w, Option.bind_some]
    exact (Ev.pure _).congr (fin _ (by omega) (by omega) (by omega))
  · simp only [br_neg hn, Option.bind_some]
    exact (Ev.pure _).congr (fin _ (by omega) (by omega) (by omega))

theorem framedL3 (l : List Int) (hl : l.length ≤ 100000) : ∀ (r : List Int) (i : Nat) (out : List Int), l.drop i = r → i ≤ l.length → out.length ≤ 1 + 2 * i →
    Ev (fun n => r32FramedL3 m n ((l, (out, ((i : Int), ()))), ())) ((out ++ r.flatMap esc, ()), ()) := by
  intro r
  induction r with
  | nil =>
    intro i out hd hi ho
    have := drop_nil hd
    refine Ev.of_eq 1 ?_
    simp (disch := omega) only [r32FramedL3Eq, br_neg]
    exact (Ev.pure _).congr (by simp)
  | cons x r ih =>
    intro i out hd hi ho
    obtain ⟨h1, h2, h3⟩ := drop_get hd
    have h5 := esc_length x
    have key := ih (i + 1) (out ++ esc x) h2 (by omega) (by rw [List.length_append]; omega)
    have key := key.congr (y := ((out ++ (x :: r).flatMap esc, ()), ())) (by rw [List.flatMap_cons, List.append_assoc])
    refine Ev.of_eq 1 ?_
    simp (disch := omega) only [r32FramedL3Eq, br_pos, Int.toNat_natCast, h1, Option.bind_some]
    have q1 : ∀ z : Int, (out.length + [z].length) * 1 ≤ 140737488355328 := fun z => by simp only [List.length_cons, List.length_nil]; omega
    have q2 : ∀ y z : Int, ((out ++ [y]).length + [z].length) * 1 ≤ 140737488355328 := fun y z => by rw [List.length_append]; simp only [List.length_cons, List.length_nil]; omega
    by_cases ha : x = 126
    · subst ha
      have he : esc 126 = [125, 94] := rfl
      rw [he] at key
      simp (disch := omega) only [br_pos (q1 125), br_pos (q2 125 94), br_T, br_neg, Option.bind_some, wr i (by omega)]
      have e : out ++ [125] ++ [94] = out ++ [125, 94] := by simp
      rw [e]
      exact key
    · by_cases hb : x = 125
      · subst hb
        have he : esc 125 = [125, 93] := rfl
        rw [he] at key
        simp (disch := omega) only [br_pos (q1 125), br_pos (q2 125 93), br_T, br_neg, Option.bind_some, wr i (by omega)]
        have e : out ++ [125] ++ [93] = out ++ [125, 93] := by simp
        rw [e]
        exact key
      · have he : esc x = [x] := by unfold esc; rw [if_neg ha, if_neg hb]
        rw [he] at key
        simp (disch := omega) only [br_neg ha, br_neg hb, br_pos, br_pos (q1 x), Int.toNat_natCast, h1, Option.bind_some, wr i (by omega)]
        exact key

theorem framedEv (c : List Int) (hc : c.length ≤ 100000) : Ev (fun n => r32Framed m n c) (framed c) := by
  refine Ev.of_eq 1 ?_
  simp only [r32FramedEq]
  refine Ev.bind (framedL3 _ hc _ 0 [126] rfl (Nat.zero_le _) (by simp)) ?_
  rw [List.drop_zero]
  have hb := escs_length c
  have hfl : (([126] ++ c.flatMap esc).length + [(126 : Int)].length) * 1 ≤ 140737488355328 := by
    rw [List.length_append]
    simp only [List.length_cons, List.length_nil]
    omega
  simp only [br_pos hfl]
  exact Ev.pure _
end Go.Fb
