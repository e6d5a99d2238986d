import Derived.Test.YtigkjkmikicnnaaDoorCFbMath
import Derived.Test.YtigkjkmikicnnaaDoorCFbE
import Derived.Test.YtigkjkmikicnnaaDoorCAmD
set_option linter.unusedVariables false
set_option linter.unusedSimpArgs false
set_option linter.unnecessarySimpa false
/-
  FRAMING: what the program's functions give, with enough fuel.
-/
namespace Go.Fb
open Go Go.Am Go.Proofs
variable {m : Int}

theorem br_pos {R : Type} {p : Prop} [Decidable p] {x y : Option R} (h : p) : br (decide p) x y = x := by rw [decide_eq_true h]; rfl
theorem br_neg {R : Type} {p : Prop} [Decidable p] {x y : Option R} (h : ¬ p) : br (decide p) x y = y := by rw [decide_eq_false h]; rfl
theorem nbr_pos {R : Type} {p : Prop} [Decidable p] {x y : Option R} (h : p) : br (!decide p) x y = y := by rw [decide_eq_true h]; rfl
theorem nbr_neg {R : Type} {p : Prop} [Decidable p] {x y : Option R} (h : ¬ p) : br (!decide p) x y = x := by rw [decide_eq_false h]; rfl
theorem br_T {R : Type} {x y : Option R} : br (decide True) x y = x := rfl
theorem wr (i : Nat) (h : i < 9223372036854775807) : IntKind.i64.wrap ((i : Int) + 1) = ((i + 1 : Nat) : Int) := by rw [w64 (by omega) (by omega)]; rfl

/-! ### XOR -/
theorem xor64 {a b : Nat} (ha : a < 131072) (hb : b < 131072) : IntKind.i64.wrap ((BitVec.ofInt IntKind.i64.bits (a : Int) ^^^ BitVec.ofInt IntKind.i64.bits (b : Int)).toNat : Int) = ((a ^^^ b : Nat) : Int) := by
  have h : (BitVec.ofInt IntKind.i64.bits (a : Int) ^^^ BitVec.ofInt IntKind.i64.bits (b : Int)).toNat = a ^^^ b := by
    show (BitVec.ofInt 64 (a : Int) ^^^ BitVec.ofInt 64 (b : Int)).toNat = a ^^^ b
    rw [BitVec.ofInt_natCast, BitVec.ofInt_natCast, BitVec.toNat_xor, BitVec.toNat_ofNat, BitVec.toNat_ofNat, Nat.mod_eq_of_lt (by omega), Nat.mod_eq_of_lt (by omega)]
  rw [h]
  have := xor_lt17 ha hb
  exact w64 (by omega) (by omega)

theorem checksumL7 (l : List Int) (a b : Int) : ∀ (k i s : Nat), i + k = 8 → s < 65536 → Ev (fun n => framingChecksumL7 m n (((s : Int), (l, (a, (b, ((i : Int), ()))))), ())) ((((steps k s : Nat) : Int), (l, (a, (b, ())))), ()) := by
  intro k
  induction k with
  | zero =>
    intro i s hi hs
    refine Ev.of_eq 1 ?_
    simp (disch := omega) only [framingChecksumL7Eq, br_neg]
    exact Ev.pure _
  | succ k ih =>
    intro i s hi hs
    refine Ev.of_eq 1 ?_
    have e1 : IntKind.i64.wrap ((s : Int) * 2) = ((2 * s : Nat) : Int) := by rw [w64 (by omega) (by omega)]; omega
    simp (disch := omega) only [framingChecksumL7Eq, br_pos, e1]
    have e3 : step1 s < 65536 := step1_lt hs
    have e4 : ((65536 : Int) ≤ ((2 * s : Nat) : Int)) ↔ 65536 ≤ 2 * s := by omega
    by_cases h : 65536 ≤ 2 * s
    · have e2 := xor64 (a := 2 * s) (b := 69665) (by omega) (by omega)
      have e5 : step1 s = (2 * s) ^^^ 69665 := by unfold step1; rw [if_pos h]
      rw [← e5] at e2
      simp (disch := omega) only [br_pos, Option.bind_some]
      have e6 : ((69665 : Nat) : Int) = 69665 := rfl
      rw [e6] at e2
      simp only [e2, wr i (by omega)]
      exact ih (i + 1) (step1 s) (by omega) e3
    · have e5 : step1 s = 2 * s := by unfold step1; rw [if_neg h]
      simp (disch := omega) only [br_neg, Option.bind_some, wr i (by omega)]
      have := ih (i + 1) (step1 s) (by omega) e3
      rw [e5] at this
      exact this.congr (by rw [show steps (k + 1) s = steps k (step1 s) from rfl, e5])

theorem ok_cons {x : Int} {l : List Int} (h : okBs (x :: l) = true) : (0 ≤ x ∧ x < 256) ∧ okBs l = true := by
  simp only [okBs, List.all_cons, Bool.and_eq_true] at h
  exact ⟨okB_iff.1 h.1, h.2⟩
theorem ok_drop {l : List Int} (h : okBs l = true) (i : Nat) : okBs (l.drop i) = true := by
  unfold okBs at h ⊢
  rw [List.all_eq_true] at h ⊢
  exact fun x hx => h x (List.mem_of_mem_drop hx)
theorem drop_get {l : List Int} {i : Nat} {x : Int} {r : List Int} (h : l.drop i = x :: r) : l[i]? = some x ∧ l.drop (i + 1) = r ∧ i < l.length := by
  have h1 : (l.drop i)[0]? = some x := by rw [h]; rfl
  rw [List.getElem?_drop, Nat.add_zero] at h1
  refine ⟨h1, ?_, (List.getElem?_eq_some_iff.1 h1).1⟩
  rw [← List.drop_drop, h]
  rfl
theorem drop_nil {l : List Int} {i : Nat} (h : l.drop i = []) : l.length ≤ i := List.drop_eq_nil_iff.1 h

theorem checksumL3 (l : List Int) (hl : l.length ≤ 140737488355328) : ∀ (r : List Int) (i s : Nat), l.drop i = r → i ≤ l.length → s < 65536 → okBs r = true →
    Ev (fun n => framingChecksumL3 m n (((s : Int), (l, ((l.length : Int), ((i : Int), ())))), ())) ((((crcFrom s r : Nat) : Int), ()), ()) := by
  intro r
  induction r with
  | nil =>
    intro i s hd hi hs _
    have := drop_nil hd
    refine Ev.of_eq 1 ?_
    simp (disch := omega) only [framingChecksumL3Eq, br_neg]
    exact Ev.pure _
  | cons x r ih =>
    intro i s hd hi hs hok
    obtain ⟨h1, h2, h3⟩ := drop_get hd
    obtain ⟨hx, hr⟩ := ok_cons hok
    refine Ev.of_eq 1 ?_
    have e1 : IntKind.i64.wrap (IntKind.i64.wrap x * 2 ^ 8) = ((256 * x.toNat : Nat) : Int) := by rw [w64 (n := x) (by omega) (by omega), w64 (by omega) (by omega)]; omega
    have e2 := xor64 (a := s) (b := 256 * x.toNat) (by omega) (by omega)
    simp (disch := omega) only [framingChecksumL3Eq, br_pos, Int.toNat_natCast, h1, Option.bind_some, e1, e2]
    have h0 := checksumL7 (m := m) l (l.length : Int) (i : Int) 8 0 (s ^^^ (256 * x.toNat)) (by omega) (xor_lt16 hs (by omega))
    refine Ev.bind h0 ?_
    simp only [wr i (by omega)]
    have h4 : steps 8 (s ^^^ (256 * x.toNat)) = crcStep s x.toNat := by unfold crcStep; rfl
    rw [h4]
    exact ih (i + 1) _ h2 (by omega) (crcStep_lt hs (by omega)) hr

theorem checksum {l : List Int} (hl : l.length ≤ 140737488355328) (hok : okBs l = true) : Ev (fun n => framingChecksum m n l) ((crc l : Nat) : Int) := by
  refine Ev.of_eq 1 ?_
  simp only [framingChecksumEq]
  have h := checksumL3 (m := m) l hl l 0 65535 rfl (Nat.zero_le _) (by omega) hok
  exact Ev.bind h (Ev.pure _)

theorem fourEv {a : Int} : Ev (fun n => framingFour m n a) (four a) := by
  refine Ev.of_eq 1 ?_
  simp only [framingFourEq]
  refine (Ev.pure _).congr ?_
  simp only [u8_eq, four]
  have h8 : a.fdiv (2 ^ 8) = a / 256 := Int.fdiv_eq_ediv_of_nonneg _ (by decide)
  have h16 : a.fdiv (2 ^ 16) = a / 65536 := Int.fdiv_eq_ediv_of_nonneg _ (by decide)
  have h24 : a.fdiv (2 ^ 24) = a / 16777216 := Int.fdiv_eq_ediv_of_nonneg _ (by decide)
  rw [h8, h16, h24]

/-! ### Valid -/
theorem oddEv {a : Int} : Ev (fun n => framingValidc1 m n a) (odd a) := by
  refine Ev.of_eq 1 ?_
  simp only [framingValidc1Eq]
  by_cases h : a < -2147483648
  · simp (disch := omega) only [br_pos]
    exact (Ev.pure _).congr (by unfold odd; simp [h])
  · simp (disch := omega) only [br_neg]
    exact (Ev.pure _).congr (by unfold odd; simp [h])

theorem indexL2 (l : List Int) (hl : l.length ≤ 140737488355328) : ∀ (r : List Int) (i : Nat), l.drop i = r → i ≤ l.length →
    ∃ y, Ev (fun n => slicesIndexFuncL2 m n ((l, (((), ()), ((l.length : Int), ((i : Int), ())))), ())) y ∧ ((r.any odd = false ∧ y = .inl ((), ())) ∨ (r.any odd = true ∧ ∃ k : Nat, y = .inr ((((k : Int), ()), ())))) := by
  intro r
  induction r with
  | nil =>
    intro i hd hi
    have := drop_nil hd
    refine ⟨_, Ev.of_eq 1 ?_, .inl ⟨rfl, rfl⟩⟩
    simp (disch := omega) only [slicesIndexFuncL2Eq, br_neg]
    exact Ev.pure _
  | cons x r ih =>
    intro i hd hi
    obtain ⟨h1, h2, h3⟩ := drop_get hd
    obtain ⟨y, k1, k2⟩ := ih (i + 1) h2 (by omega)
    cases ho : odd x with
    | true =>
      refine ⟨.inr ((((i : Nat) : Int), ()), ()), Ev.of_eq 1 ?_, .inr ⟨by simp [ho], i, rfl⟩⟩
      simp (disch := omega) only [slicesIndexFuncL2Eq, br_pos, Int.toNat_natCast, h1, Option.bind_some]
      refine Ev.bind oddEv ?_
      rw [ho]
      exact Ev.pure _
    | false =>
      refine ⟨y, Ev.of_eq 1 ?_, by simpa [ho] using k2⟩
      simp (disch := omega) only [slicesIndexFuncL2Eq, br_pos, Int.toNat_natCast, h1, Option.bind_some]
      refine Ev.bind oddEv ?_
      rw [ho]
      simp only [wr i (by omega)]
      exact k1

theorem containsEv (l : List Int) (hl : l.length ≤ 140737488355328) : Ev (fun n => slicesContainsFuncv2 m n l) (l.any odd) := by
  obtain ⟨y, k1, k2⟩ := indexL2 (m := m) l hl l 0 rfl (Nat.zero_le _)
  refine Ev.of_eq 2 ?_
  simp only [slicesContainsFuncv2Eq, slicesIndexFuncv2Eq]
  rcases k2 with ⟨h, rfl⟩ | ⟨h, k, rfl⟩
  · refine Ev.bind (x := (-1 : Int)) (Ev.bind k1 (Ev.pure _)) ?_
    rw [h]
    exact (Ev.pure _).congr (by decide)
  · refine Ev.bind (x := (k : Int)) (Ev.bind k1 (Ev.pure _)) ?_
    rw [h]
    exact (Ev.pure _).congr (by simp)

theorem validEv (a b : Int) (l : List Int) (hl : l.length ≤ 140737488355328) : Ev (fun n => framingValidv2 m n a b l) (valid (a, (b, l))) := by
  refine Ev.of_eq 1 ?_
  simp only [framingValidv2Eq]
  unfold valid
  by_cases h1 : 0 ≤ a
  · by_cases h2 : a ≤ 2147483647
    · by_cases h3 : 0 ≤ b
      · by_cases h4 : b < 256
        · by_cases h5 : l.length ≤ 13
          · simp (disch := omega) only [br_pos]
            refine Ev.bind (containsEv l hl) ?_
            exact (Ev.pure _).congr (by simp [h1, h2, h3, h4, h5])
          · simp (disch := omega) only [br_pos, br_neg]
            exact (Ev.pure _).congr (by simp [h5])
        · simp (disch := omega) only [br_pos, br_neg]
          exact (Ev.pure _).congr (by simp [h4])
      · simp (disch := omega) only [br_pos, br_neg]
        exact (Ev.pure _).congr (by simp [h3])
    · simp (disch := omega) only [br_pos, br_neg]
      exact (Ev.pure _).congr (by simp [h2])
  · simp (disch := omega) only [br_neg]
    exact (Ev.pure _).congr (by simp [h1])

/-! ### Encode -/
theorem ok_append {a b : List Int} (ha : okBs a = true) (hb : okBs b = true) : okBs (a ++ b) = true := by
  unfold okBs at *
  rw [List.all_append, ha, hb]; rfl
theorem ok_four (a : Int) : okBs (four a) = true := by
  simp only [okBs, four, okB, List.all_cons, List.all_nil, Bool.and_true, Bool.and_eq_true, decide_eq_true_eq]
  omega
theorem ok_fours (l : List Int) : okBs (l.flatMap four) = true := by
  induction l with
  | nil => rfl
  | cons x l ih => rw [List.flatMap_cons]; exact ok_append (ok_four x) ih
theorem ok_head0 (a : Msg) : okBs (head0 a) = true := by
  unfold head0
  refine ok_append (ok_append (ok_four _) ?_) (ok_fours _)
  simp only [okBs, okB, List.all_cons, List.all_nil, Bool.and_true, decide_eq_true_eq]
  omega
theorem fours_length (l : List Int) : (l.flatMap four).length = 4 * l.length := by
  induction l with
  | nil => rfl
  | cons x l ih => rw [List.flatMap_cons, List.length_append, ih]; simp [four]; omega
theorem head0_length (a : Msg) : (head0 a).length = 5 + 4 * a.2.2.length := by
  unfold head0
  rw [List.length_append, List.length_append, fours_length]
  simp [four]

theorem encodeL5 (l : List Int) (hl : l.length ≤ 1000) : ∀ (r : List Int) (i : Nat) (out : List Int), l.drop i = r → i ≤ l.length → out.length ≤ 5 + 4 * i →
    Ev (fun n => framingEncodeL5 m n ((out, (l, ((l.length : Int), ((i : Int), ())))), ())) ((out ++ r.flatMap four, ()), ()) := by
  intro r
  induction r with
  | nil =>
    intro i out hd hi ho
    have := drop_nil hd
    refine Ev.of_eq 1 ?_
    simp (disch := omega) only [framingEncodeL5Eq, br_neg]
    exact (Ev.pure _).congr (by simp)
  | cons x r ih =>
    intro i out hd hi ho
    obtain ⟨h1, h2, h3⟩ := drop_get hd
    refine Ev.of_eq 1 ?_
    simp (disch := omega) only [framingEncodeL5Eq, br_pos, Int.toNat_natCast, h1, Option.bind_some]
    refine Ev.bind fourEv ?_
    have h4 : (four x).length = 4 := rfl
    simp (disch := omega) only [br_pos, wr i (by omega)]
    refine (ih (i + 1) (out ++ four x) h2 (by omega) (by rw [List.length_append]; omega)).congr ?_
    rw [List.flatMap_cons, List.append_assoc]

theorem esc126 : [(125 : Int), IntKind.u8.wrap ((BitVec.ofInt IntKind.u8.bits (126 : Int) ^^^ BitVec.ofInt IntKind.u8.bits (32 : Int)).toNat : Int)] = esc 126 := by decide
theorem esc125 : [(125 : Int), IntKind.u8.wrap ((BitVec.ofInt IntKind.u8.bits (125 : Int) ^^^ BitVec.ofInt IntKind.u8.bits (32 : Int)).toNat : Int)] = esc 125 := by decide
theorem esc_length (x : Int) : (esc x).length ≤ 2 := by unfold esc; split <;> (try split) <;> simp
theorem escs_length (l : List Int) : (l.flatMap esc).length ≤ 2 * l.length := by
  induction l with
  | nil => simp
  | cons x l ih => rw [List.flatMap_cons, List.length_append]; have := esc_length x; simp only [List.length_cons]; omega

theorem encodeL13 (l : List Int) (hl : l.length ≤ 100000) : ∀ (r : List Int) (i : Nat) (out : List Int), l.drop i = r → i ≤ l.length → out.length ≤ 1 + 2 * i →
    Ev (fun n => framingEncodeL13 m n ((out, (l, ((l.length : Int), ((i : Int), ())))), ())) ((out ++ r.flatMap esc, ()), ()) := by
  intro r
  induction r with
  | nil =>
    intro i out hd hi ho
    have := drop_nil hd
    refine Ev.of_eq 1 ?_
    simp (disch := omega) only [framingEncodeL13Eq, br_neg]
    exact (Ev.pure _).congr (by simp)
  | cons x r ih =>
    intro i out hd hi ho
    obtain ⟨h1, h2, h3⟩ := drop_get hd
    have h5 := esc_length x
    have key := ih (i + 1) (out ++ esc x) h2 (by omega) (by rw [List.length_append]; omega)
    have key := key.congr (y := ((out ++ (x :: r).flatMap esc, ()), ())) (by rw [List.flatMap_cons, List.append_assoc])
    refine Ev.of_eq 1 ?_
    simp (disch := omega) only [framingEncodeL13Eq, br_pos, Int.toNat_natCast, h1, Option.bind_some]
    by_cases ha : x = 126
    · subst ha
      simp (disch := omega) only [br_pos, br_T, esc126, Option.bind_some, wr i (by omega)]
      exact key
    · by_cases hb : x = 125
      · subst hb
        simp (disch := omega) only [br_pos, br_T, br_neg, esc125, Option.bind_some, wr i (by omega)]
        exact key
      · have he : esc x = [x] := by unfold esc; rw [if_neg ha, if_neg hb]
        rw [he] at key
        simp (disch := first | omega | simp; omega) only [br_pos, br_neg, Option.bind_some, wr i (by omega)]
        exact key

theorem encodeEv (a b : Int) (l : List Int) (hl : l.length ≤ 140737488355328) : Ev (fun n => framingEncodev2 m n a b l) (encode (a, (b, l))) := by
  refine Ev.of_eq 1 ?_
  simp only [framingEncodev2Eq]
  refine Ev.bind (validEv a b l hl) ?_
  unfold encode
  cases hv : valid (a, (b, l)) with
  | false => exact Ev.pure _
  | true =>
    have hlen : l.length ≤ 13 := by
      unfold valid at hv
      simp only [Bool.and_eq_true, decide_eq_true_eq] at hv
      exact hv.1.2
    refine Ev.bind fourEv ?_
    have h4 : (four a).length = 4 := rfl
    simp (disch := first | omega | simp; omega) only [br_pos]
    refine Ev.bind (encodeL5 l (by omega) l 0 (four a ++ [IntKind.u8.wrap b]) rfl (Nat.zero_le _) (by simp; omega)) ?_
    have hh : four a ++ [IntKind.u8.wrap b] ++ l.flatMap four = head0 (a, (b, l)) := by unfold head0; rw [u8_eq]
    simp only [hh]
    have hl0 := head0_length (a, (b, l))
    simp only at hl0
    refine Ev.bind (checksum (by omega) (ok_head0 _)) ?_
    have hc := crc_lt (ok_head0 (a, (b, l)))
    have h8 : ((crc (head0 (a, (b, l))) : Nat) : Int).fdiv (2 ^ 8) = ((crc (head0 (a, (b, l))) : Nat) : Int) / 256 := Int.fdiv_eq_ediv_of_nonneg _ (by decide)
    have hcc : head0 (a, (b, l)) ++ [IntKind.u8.wrap (((crc (head0 (a, (b, l))) : Nat) : Int).fdiv (2 ^ 8)), IntKind.u8.wrap ((crc (head0 (a, (b, l))) : Nat) : Int)] = content (a, (b, l)) := by
      unfold content; rw [h8, u8_eq, u8_eq]
    have hcl : (content (a, (b, l))).length = 7 + 4 * l.length := by unfold content; rw [List.length_append, hl0]; simp; omega
    simp (disch := first | omega | simp; omega) only [br_pos, hcc]
    refine Ev.bind (encodeL13 _ (by omega) _ 0 [126] rfl (Nat.zero_le _) (by simp)) ?_
    have hb := escs_length (content (a, (b, l)))
    rw [List.drop_zero]
    have hfl : (([126] ++ (content (a, (b, l))).flatMap esc).length + [(126 : Int)].length) * 1 ≤ 140737488355328 := by
      rw [List.length_append]
      simp only [List.length_cons, List.length_nil]
      omega
    simp only [br_pos hfl]
    exact Ev.congr (x := framed (content (a, (b, l)))) (Ev.pure _) (by simp)

/-! ### The nil row -/
theorem indexFn : Ev (fun n => slicesContainsFunc m n) false := by
  obtain ⟨y, k1, k2⟩ := indexL2 (m := m) [] (by simp) [] 0 rfl (Nat.zero_le _)
  refine Ev.of_eq 2 ?_
  simp only [slicesContainsFuncEq, slicesIndexFuncEq]
  rcases k2 with ⟨h, rfl⟩ | ⟨h, k, rfl⟩
  · refine Ev.bind (x := (-1 : Int)) (Ev.bind k1 (Ev.pure _)) ?_
    exact (Ev.pure _).congr (by decide)
  · cases h
theorem valid0Ev (a b : Int) : Ev (fun n => framingValid m n a b) (valid (a, (b, []))) := by
  refine Ev.of_eq 1 ?_
  simp only [framingValidEq]
  unfold valid
  by_cases h1 : 0 ≤ a
  · by_cases h2 : a ≤ 2147483647
    · by_cases h3 : 0 ≤ b
      · by_cases h4 : b < 256
        · simp (disch := omega) only [br_pos]
          refine Ev.bind indexFn ?_
          exact (Ev.pure _).congr (by simp [h1, h2, h3, h4])
        · simp (disch := omega) only [br_pos, br_neg]
          exact (Ev.pure _).congr (by simp [h4])
      · simp (disch := omega) only [br_pos, br_neg]
        exact (Ev.pure _).congr (by simp [h3])
    · simp (disch := omega) only [br_pos, br_neg]
      exact (Ev.pure _).congr (by simp [h2])
  · simp (disch := omega) only [br_neg]
    exact (Ev.pure _).congr (by simp [h1])
theorem encode0Ev (a b : Int) : Ev (fun n => framingEncode m n a b) (encode (a, (b, []))) := by
  have h := encodeEv (m := m) a b [] (by simp)
  have hv := validEv (m := m) a b [] (by simp)
  obtain ⟨N, h⟩ := h
  obtain ⟨M, hv⟩ := hv
  obtain ⟨K, h0⟩ := valid0Ev (m := m) a b
  refine ⟨max N (max M K) + 1, fun n hn => ?_⟩
  have e1 := h n (by omega)
  simp only at e1
  obtain ⟨k, rfl⟩ : ∃ k, n = k + 1 := ⟨n - 1, by omega⟩
  show framingEncode m (k + 1) a b = _
  rw [← e1, framingEncodeEq, framingEncodev2Eq]
  have e2 := hv k (by omega)
  have e3 := h0 k (by omega)
  simp only at e2 e3
  rw [e2, e3]
  rfl
theorem checksum0 : Ev (fun n => framingChecksumv2 m n) 65535 := by
  refine Ev.of_eq 1 ?_
  simp only [framingChecksumv2Eq]
  have h := checksumL3 (m := m) [] (by simp) [] 0 65535 rfl (Nat.zero_le _) (by omega) rfl
  exact Ev.bind h (Ev.pure _)

/-! ### Comparing -/
theorem bytesL4 (a b : List Int) (hl : a.length = b.length) (hb : a.length ≤ 140737488355328) : ∀ (r q : List Int) (i : Nat), a.drop i = r → b.drop i = q → i ≤ a.length →
    Ev (fun n => r32BytesL4 m n ((a, (b, ((i : Int), ()))), ())) (if r = q then .inl ((), ()) else .inr ((false, ()), ())) := by
  intro r
  induction r with
  | nil =>
    intro q i hd hq hi
    have h1 := drop_nil hd
    have h2 : q = [] := by rw [← hq]; exact List.drop_eq_nil_iff.2 (by omega)
    subst h2
    refine Ev.of_eq 1 ?_
    simp (disch := omega) only [r32BytesL4Eq, br_neg]
    exact Ev.pure _
  | cons x r ih =>
    intro q i hd hq hi
    obtain ⟨h1, h2, h3⟩ := drop_get hd
    cases q with
    | nil => have := drop_nil hq; omega
    | cons y q =>
      obtain ⟨k1, k2, k3⟩ := drop_get hq
      refine Ev.of_eq 1 ?_
      simp (disch := omega) only [r32BytesL4Eq, br_pos, Int.toNat_natCast, h1, k1, Option.bind_some]
      by_cases hxy : x = y
      · subst hxy
        simp (disch := omega) only [nbr_pos, wr i (by omega)]
        exact (ih q (i + 1) h2 k2 (by omega)).congr (by simp)
      · simp (disch := omega) only [nbr_neg]
        exact (Ev.pure _).congr (by rw [if_neg (by simp [hxy])])
theorem bytesEv (a b : List Int) (hb : a.length ≤ 140737488355328) : Ev (fun n => r32Bytes m n a b) (decide (a = b)) := by
  refine Ev.of_eq 1 ?_
  simp only [r32BytesEq]
  by_cases hl : a.length = b.length
  · simp (disch := omega) only [nbr_pos]
    refine Ev.bind (bytesL4 a b hl hb a b 0 rfl rfl (Nat.zero_le _)) ?_
    by_cases h : a = b
    · rw [if_pos h]; exact (Ev.pure _).congr (by simp [h])
    · rw [if_neg h]; exact (Ev.pure _).congr (by simp [h])
  · simp (disch := omega) only [nbr_neg]
    refine (Ev.pure _).congr ?_
    symm
    rw [decide_eq_false_iff_not]
    rintro rfl
    exact hl rfl

theorem sameL4 (p1 p2 q1 q2 : Int) (a b : List Int) (hl : a.length = b.length) (hb : a.length ≤ 140737488355328) : ∀ (r q : List Int) (i : Nat), a.drop i = r → b.drop i = q → i ≤ a.length →
    Ev (fun n => r32SameL4 m n (((), ((), ((i : Int), ()))), ((p1, (p2, (a, ()))), ((q1, (q2, (b, ()))), ())))) (if r = q then .inl ((), ()) else .inr ((false, ()), ())) := by
  intro r
  induction r with
  | nil =>
    intro q i hd hq hi
    have h1 := drop_nil hd
    have h2 : q = [] := by rw [← hq]; exact List.drop_eq_nil_iff.2 (by omega)
    subst h2
    refine Ev.of_eq 1 ?_
    simp (disch := omega) only [r32SameL4Eq, br_neg]
    exact Ev.pure _
  | cons x r ih =>
    intro q i hd hq hi
    obtain ⟨h1, h2, h3⟩ := drop_get hd
    cases q with
    | nil => have := drop_nil hq; omega
    | cons y q =>
      obtain ⟨k1, k2, k3⟩ := drop_get hq
      refine Ev.of_eq 1 ?_
      simp (disch := omega) only [r32SameL4Eq, br_pos, Int.toNat_natCast, h1, k1, Option.bind_some]
      by_cases hxy : x = y
      · subst hxy
        simp (disch := omega) only [nbr_pos, wr i (by omega)]
        exact (ih q (i + 1) h2 k2 (by omega)).congr (by simp)
      · simp (disch := omega) only [nbr_neg]
        exact (Ev.pure _).congr (by rw [if_neg (by simp [hxy])])
theorem sameEv (x y : Msg) (hb : x.2.2.length ≤ 140737488355328) : Ev (fun n => r32Same m n x.1 x.2.1 x.2.2 y.1 y.2.1 y.2.2) (decide (x = y)) := by
  obtain ⟨p1, p2, a⟩ := x
  obtain ⟨q1, q2, b⟩ := y
  refine Ev.of_eq 1 ?_
  simp only [r32SameEq]
  simp only at hb
  by_cases h1 : p1 = q1
  · by_cases h2 : p2 = q2
    · by_cases hl : a.length = b.length
      · subst h1; subst h2
        simp (disch := omega) only [nbr_pos]
        refine Ev.bind (sameL4 p1 p2 p1 p2 a b hl hb a b 0 rfl rfl (Nat.zero_le _)) ?_
        by_cases h : a = b
        · rw [if_pos h]; exact (Ev.pure _).congr (by simp [h])
        · rw [if_neg h]; exact (Ev.pure _).congr (by simp [h])
      · simp (disch := omega) only [nbr_pos, nbr_neg]
        refine (Ev.pure _).congr ?_
        symm
        rw [decide_eq_false_iff_not]
        intro h
        simp only [Prod.mk.injEq] at h
        exact hl (by rw [h.2.2])
    · simp (disch := omega) only [nbr_pos, nbr_neg]
      exact (Ev.pure _).congr (by simp [h2])
  · simp (disch := omega) only [nbr_neg]
    exact (Ev.pure _).congr (by simp [h1])

theorem dropA {α : Type} {l : List α} {i : Nat} {x : α} {r : List α} (h : l.drop i = x :: r) : l[i]? = some x ∧ l.drop (i + 1) = r ∧ i < l.length := by
  have h1 : (l.drop i)[0]? = some x := by rw [h]; rfl
  rw [List.getElem?_drop, Nat.add_zero] at h1
  refine ⟨h1, ?_, (List.getElem?_eq_some_iff.1 h1).1⟩
  rw [← List.drop_drop, h]
  rfl

theorem sameAllL4 (a b : List Msg) (hl : a.length = b.length) (hb : a.length ≤ 140737488355328) (hn : ∀ x ∈ a, x.2.2.length ≤ 140737488355328) : ∀ (r q : List Msg) (i : Nat), a.drop i = r → b.drop i = q → i ≤ a.length →
    Ev (fun n => r32SameAllL4 m n ((a, (b, ((i : Int), ()))), ())) (if r = q then .inl ((), ()) else .inr ((false, ()), ())) := by
  intro r
  induction r with
  | nil =>
    intro q i hd hq hi
    have h1 : a.length ≤ i := List.drop_eq_nil_iff.1 hd
    have h2 : q = [] := by rw [← hq]; exact List.drop_eq_nil_iff.2 (by omega)
    subst h2
    refine Ev.of_eq 1 ?_
    simp (disch := omega) only [r32SameAllL4Eq, br_neg]
    exact Ev.pure _
  | cons x r ih =>
    intro q i hd hq hi
    obtain ⟨h1, h2, h3⟩ := dropA hd
    cases q with
    | nil => have : b.length ≤ i := List.drop_eq_nil_iff.1 hq; omega
    | cons y q =>
      obtain ⟨k1, k2, k3⟩ := dropA hq
      refine Ev.of_eq 1 ?_
      simp (disch := omega) only [r32SameAllL4Eq, br_pos, Int.toNat_natCast, h1, k1, Option.bind_some]
      refine Ev.bind (sameEv x y (hn x (List.mem_of_getElem? h1))) ?_
      by_cases hxy : x = y
      · subst hxy
        simp (disch := omega) only [nbr_pos, wr i (by omega)]
        exact (ih q (i + 1) h2 k2 (by omega)).congr (by simp)
      · simp (disch := assumption) only [nbr_neg]
        exact (Ev.pure _).congr (by rw [if_neg (by simp [hxy])])
theorem sameAllEv (a b : List Msg) (hb : a.length ≤ 140737488355328) (hn : ∀ x ∈ a, x.2.2.length ≤ 140737488355328) : Ev (fun n => r32SameAll m n a b) (decide (a = b)) := by
  refine Ev.of_eq 1 ?_
  simp only [r32SameAllEq]
  by_cases hl : a.length = b.length
  · simp (disch := omega) only [nbr_pos]
    refine Ev.bind (sameAllL4 a b hl hb hn a b 0 rfl rfl (Nat.zero_le _)) ?_
    by_cases h : a = b
    · rw [if_pos h]; exact (Ev.pure _).congr (by simp [h])
    · rw [if_neg h]; exact (Ev.pure _).congr (by simp [h])
  · simp (disch := omega) only [nbr_neg]
    refine (Ev.pure _).congr ?_
    symm
    rw [decide_eq_false_iff_not]
    rintro rfl
    exact hl rfl
end Go.Fb
