import Derived.Test.YtigkjkmikicnnaaDoorCFbWalk
set_option linter.unusedVariables false
set_option linter.unusedSimpArgs false
set_option linter.unnecessarySimpa false
/-
  FRAMING: decoding: what the program's functions give, with enough fuel.
-/
namespace Go.Fb
open Go Go.Am Go.Proofs
variable {m : Int}

theorem plain_nil : plain [] = [] := by unfold plain; rfl
theorem plain_one (x : Int) : plain [x] = [x] := by unfold plain; rfl
theorem plain_esc (y : Int) (r : List Int) : plain (125 :: y :: r) = x32 y :: plain r := by rw [plain]; rw [if_pos rfl]
theorem plain_ne (x y : Int) (r : List Int) (h : x ≠ 125) : plain (x :: y :: r) = x :: plain (y :: r) := by rw [plain]; rw [if_neg h]

theorem plainL3 (l : List Int) (hl : l.length ≤ 140737488355000) : ∀ (k i : Nat) (out : List Int), l.length ≤ i + k → i ≤ l.length → out.length ≤ i →
    Ev (fun n => framingPlainL3 m n ((l, (out, ((i : Int), ()))), ())) ((out ++ plain (l.drop i), ()), ()) := by
  intro k
  induction k using Nat.strongRecOn with
  | _ k ih =>
    intro i out hk hi ho
    match hd : l.drop i with
    | [] =>
      have := drop_nil hd
      refine Ev.of_eq 1 ?_
      simp (disch := omega) only [framingPlainL3Eq, br_neg]
      exact (Ev.pure _).congr (by rw [plain_nil, List.append_nil])
    | [x] =>
      obtain ⟨h1, h2, h3⟩ := drop_get hd
      have h4 := drop_nil h2
      have e1 : IntKind.i64.wrap ((i : Int) + 1) = ((i + 1 : Nat) : Int) := wr i (by omega)
      have key := ih 0 (by omega) (i + 1) (out ++ [x]) (by omega) (by omega) (by simp; omega)
      rw [h2, plain_nil, List.append_nil] at key
      rw [plain_one]
      refine Ev.of_eq 1 ?_
      have hb : (out.length + [x].length) * 1 ≤ 140737488355328 := by simp only [List.length_cons, List.length_nil]; omega
      by_cases hx : x = 125
      · subst hx
        simp (disch := omega) only [framingPlainL3Eq, br_pos, br_neg, br_T, Int.toNat_natCast, h1, Option.bind_some, e1, br_pos hb]
        exact key
      · simp (disch := omega) only [framingPlainL3Eq, br_pos, br_neg, Int.toNat_natCast, h1, Option.bind_some, e1, br_pos hb]
        exact key
    | x :: y :: r =>
      obtain ⟨h1, h2, h3⟩ := drop_get hd
      obtain ⟨h4, h5, h6⟩ := drop_get h2
      have e1 : IntKind.i64.wrap ((i : Int) + 1) = ((i + 1 : Nat) : Int) := wr i (by omega)
      have e2 : IntKind.i64.wrap (((i + 1 : Nat) : Int) + 1) = ((i + 1 + 1 : Nat) : Int) := wr (i + 1) (by omega)
      refine Ev.of_eq 1 ?_
      by_cases hx : x = 125
      · subst hx
        have hb : (out.length + [IntKind.u8.wrap ((BitVec.ofInt IntKind.u8.bits y ^^^ BitVec.ofInt IntKind.u8.bits (32 : Int)).toNat : Int)].length) * 1 ≤ 140737488355328 := by simp only [List.length_cons, List.length_nil]; omega
        have key := ih (k - 2) (by omega) (i + 1 + 1) (out ++ [x32 y]) (by omega) (by omega) (by simp; omega)
        rw [h5] at key
        rw [plain_esc]
        simp (disch := omega) only [framingPlainL3Eq, br_pos, br_neg, br_T, Int.toNat_natCast, h1, h4, Option.bind_some, e1, e2, br_pos hb]
        exact key.congr (by simp)
      · have hb : (out.length + [x].length) * 1 ≤ 140737488355328 := by simp only [List.length_cons, List.length_nil]; omega
        have key := ih (k - 1) (by omega) (i + 1) (out ++ [x]) (by omega) (by omega) (by simp; omega)
        rw [h2] at key
        rw [plain_ne x y r hx]
        simp (disch := omega) only [framingPlainL3Eq, br_pos, br_neg, Int.toNat_natCast, h1, Option.bind_some, e1, br_pos hb]
        exact key.congr (by simp)
theorem plainEv (l : List Int) (hl : l.length ≤ 140737488355000) : Ev (fun n => framingPlain m n l) (plain l) := by
  refine Ev.of_eq 1 ?_
  simp only [framingPlainEq]
  exact Ev.bind (plainL3 l hl l.length 0 [] (by omega) (Nat.zero_le _) (Nat.le_refl _)) (Ev.pure _)

/-! ### Numbers -/
theorem or4 {a b c d : Nat} (ha : a < 256) (hb : b < 256) (hc : c < 256) (_hd : d < 256) : ((a ||| 256 * b) ||| 65536 * c) ||| 16777216 * d = a + 256 * b + 65536 * c + 16777216 * d := by
  have p8 : (2 : Nat) ^ 8 = 256 := by decide
  have p16 : (2 : Nat) ^ 16 = 65536 := by decide
  have p24 : (2 : Nat) ^ 24 = 16777216 := by decide
  have h1 := Nat.shiftLeft_add_eq_or_of_lt (b := a) (i := 8) ha b
  have h2 := Nat.shiftLeft_add_eq_or_of_lt (b := a + 256 * b) (i := 16) (by rw [p16]; omega) c
  have h3 := Nat.shiftLeft_add_eq_or_of_lt (b := a + 256 * b + 65536 * c) (i := 24) (by rw [p24]; omega) d
  rw [Nat.shiftLeft_eq, p8, Nat.mul_comm b] at h1
  rw [Nat.shiftLeft_eq, p16, Nat.mul_comm c] at h2
  rw [Nat.shiftLeft_eq, p24, Nat.mul_comm d] at h3
  rw [Nat.or_comm a, ← h1, Nat.add_comm (256 * b) a, Nat.or_comm (a + 256 * b), ← h2, Nat.add_comm (65536 * c), Nat.or_comm (a + 256 * b + 65536 * c), ← h3]
  omega
theorem ofInt32 (n : Int) : BitVec.ofInt 32 (IntKind.i32.wrap n) = BitVec.ofInt 32 n := by
  apply BitVec.eq_of_toNat_eq
  have p : ((2 ^ 32 : Nat) : Int) = 4294967296 := by decide
  rw [BitVec.toNat_ofInt, BitVec.toNat_ofInt, i32_eq, p]
  congr 1
  omega
theorem ofNat32 (n : Nat) : BitVec.ofInt 32 (n : Int) = BitVec.ofNat 32 n := BitVec.ofInt_natCast 32 n
theorem or32 (a b : Nat) (ha : a < 4294967296) (hb : b < 4294967296) : (BitVec.ofNat 32 a ||| BitVec.ofNat 32 b).toNat = a ||| b := by
  rw [BitVec.toNat_or, BitVec.toNat_ofNat, BitVec.toNat_ofNat, Nat.mod_eq_of_lt (by omega), Nat.mod_eq_of_lt (by omega)]
theorem or_lt {a b : Nat} (ha : a < 4294967296) (hb : b < 4294967296) : a ||| b < 4294967296 := Nat.or_lt_two_pow (n := 32) ha hb

theorem num_or (a b c d : Nat) (ha : a < 256) (hb : b < 256) (hc : c < 256) (hd : d < 256) :
    ((BitVec.ofInt IntKind.i32.bits (IntKind.i32.wrap ((BitVec.ofInt IntKind.i32.bits (IntKind.i32.wrap ((BitVec.ofInt IntKind.i32.bits (IntKind.i32.wrap (a : Int)) ||| BitVec.ofInt IntKind.i32.bits (IntKind.i32.wrap ((256 * b : Nat) : Int))).toNat : Int)) ||| BitVec.ofInt IntKind.i32.bits (IntKind.i32.wrap ((65536 * c : Nat) : Int))).toNat : Int)) ||| BitVec.ofInt IntKind.i32.bits (IntKind.i32.wrap ((16777216 * d : Nat) : Int))).toNat) = a + 256 * b + 65536 * c + 16777216 * d := by
  have hw : IntKind.i32.bits = 32 := rfl
  rw [hw]
  simp only [ofInt32, ofNat32]
  have h1 : a ||| 256 * b < 4294967296 := or_lt (by omega) (by omega)
  have h2 : (a ||| 256 * b) ||| 65536 * c < 4294967296 := or_lt h1 (by omega)
  have o1 := or32 a (256 * b) (by omega) (by omega)
  have o2 := or32 (a ||| 256 * b) (65536 * c) h1 (by omega)
  have o3 := or32 ((a ||| 256 * b) ||| 65536 * c) (16777216 * d) h2 (by omega)
  rw [o1, o2, o3]
  exact or4 ha hb hc hd
theorem num_fin (a b c d x : Nat) (ha : a < 256) (hb : b < 256) (hc : c < 256) (hd : d < 256) (hx : x = a + 256 * b + 65536 * c + 16777216 * d) : IntKind.i64.wrap (IntKind.i32.wrap (x : Int)) = num a b c d := by
  subst hx
  rw [i32_eq, i64_eq]
  unfold num
  omega
theorem num_eq {a b c d : Int} (ha : 0 ≤ a ∧ a < 256) (hb : 0 ≤ b ∧ b < 256) (hc : 0 ≤ c ∧ c < 256) (hd : 0 ≤ d ∧ d < 256) :
    IntKind.i64.wrap (IntKind.i32.wrap ((BitVec.ofInt IntKind.i32.bits (IntKind.i32.wrap ((BitVec.ofInt IntKind.i32.bits (IntKind.i32.wrap ((BitVec.ofInt IntKind.i32.bits (IntKind.i32.wrap a) ||| BitVec.ofInt IntKind.i32.bits (IntKind.i32.wrap ((IntKind.i32.wrap b) * 2 ^ 8))).toNat : Int)) ||| BitVec.ofInt IntKind.i32.bits (IntKind.i32.wrap ((IntKind.i32.wrap c) * 2 ^ 16))).toNat : Int)) ||| BitVec.ofInt IntKind.i32.bits (IntKind.i32.wrap ((IntKind.i32.wrap d) * 2 ^ 24))).toNat : Int)) = num a b c d := by
  obtain ⟨a, rfl⟩ : ∃ k : Nat, a = k := ⟨a.toNat, by omega⟩
  obtain ⟨b, rfl⟩ : ∃ k : Nat, b = k := ⟨b.toNat, by omega⟩
  obtain ⟨c, rfl⟩ : ∃ k : Nat, c = k := ⟨c.toNat, by omega⟩
  obtain ⟨d, rfl⟩ : ∃ k : Nat, d = k := ⟨d.toNat, by omega⟩
  have e1 : IntKind.i32.wrap (b : Int) * 2 ^ 8 = ((256 * b : Nat) : Int) := by rw [i32_eq]; omega
  have e2 : IntKind.i32.wrap (c : Int) * 2 ^ 16 = ((65536 * c : Nat) : Int) := by rw [i32_eq]; omega
  have e3 : IntKind.i32.wrap (d : Int) * 2 ^ 24 = ((16777216 * d : Nat) : Int) := by rw [i32_eq]; omega
  rw [e1, e2, e3]
  exact num_fin a b c d _ (by omega) (by omega) (by omega) (by omega) (num_or a b c d (by omega) (by omega) (by omega) (by omega))

theorem get4 {a b c d : Int} {r : List Int} : (a :: b :: c :: d :: r)[(0 : Int).toNat]? = some a ∧ (a :: b :: c :: d :: r)[(1 : Int).toNat]? = some b ∧ (a :: b :: c :: d :: r)[(2 : Int).toNat]? = some c ∧ (a :: b :: c :: d :: r)[(3 : Int).toNat]? = some d := ⟨rfl, rfl, rfl, rfl⟩

theorem nums_short {l : List Int} (h : l.length ≤ 2) : nums l = [] := by
  match l, h with
  | [], _ => rfl
  | [_], _ => rfl
  | [_, _], _ => rfl
theorem nums_length : ∀ (k : Nat) (l : List Int), l.length ≤ k → (nums l).length ≤ l.length := by
  intro k
  induction k using Nat.strongRecOn with
  | _ k ih =>
    intro l hl
    match l with
    | [] => exact Nat.le_refl _
    | [_] => exact Nat.zero_le _
    | [_, _] => exact Nat.zero_le _
    | [_, _, _] => exact Nat.zero_le _
    | a :: b :: c :: d :: r =>
      unfold nums
      simp only [List.length_cons] at hl ⊢
      split
      · have := ih (k - 4) (by omega) r (by omega)
        simp only [List.length_cons]
        omega
      · simp

theorem messageL8 (s0 k0 seq kind : Int) (nm0 : List Int) : ∀ (k : Nat) (b out : List Int), b.length ≤ k → b.length % 4 = 2 → okBs b = true → out.length + b.length ≤ 1000000 →
    Ev (fun n => framingMessageL8 m n (((), ((), ((((), ()), ()), ((), ())))), ((s0, (k0, (nm0, ()))), ((b, ()), ((seq, (kind, (out, ()))), ())))))
      (((), ((), ())), ((s0, (k0, (nm0, ()))), ((), ((seq, (kind, (out ++ nums b, ()))), ())))) := by
  intro k
  induction k using Nat.strongRecOn with
  | _ k ih =>
    intro b out hk h4 hok hlen
    by_cases hs : b.length ≤ 2
    · refine Ev.of_eq 2 ?_
      simp (disch := omega) only [framingMessageL8Eq, br_neg]
      exact (Ev.pure _).congr (by rw [nums_short hs, List.append_nil])
    · match b with
      | [] => simp at hs
      | [_] => simp at hs
      | [_, _] => simp at hs
      | [_, _, _] => simp at h4
      | a :: b :: c :: d :: r =>
        obtain ⟨ha, hok⟩ := ok_cons hok
        obtain ⟨hb, hok⟩ := ok_cons hok
        obtain ⟨hc, hok⟩ := ok_cons hok
        obtain ⟨hd, hok⟩ := ok_cons hok
        simp only [List.length_cons] at hk h4 hlen hs
        have hlb : (a :: b :: c :: d :: r).length = r.length + 4 := rfl
        obtain ⟨g0, g1, g2, g3⟩ := get4 (a := a) (b := b) (c := c) (d := d) (r := r)
        have hdrop : ((a :: b :: c :: d :: r).take (((a :: b :: c :: d :: r).length : Int)).toNat).drop ((4 : Int)).toNat = r := by
          rw [Int.toNat_natCast, List.take_length]; rfl
        have hcond : (0 ≤ (4 : Int) ∧ (4 : Int) ≤ ((a :: b :: c :: d :: r).length : Int) ∧ ((a :: b :: c :: d :: r).length : Int) ≤ ((a :: b :: c :: d :: r).length : Int)) := by rw [hlb]; omega
        have hbd : (out.length + [num a b c d].length) * 8 ≤ 140737488355328 := by simp only [List.length_cons, List.length_nil]; omega
        have hgt : (2 : Int) < ((a :: b :: c :: d :: r).length : Int) := by rw [hlb]; omega
        refine Ev.of_eq 2 ?_
        simp only [framingMessageL8Eq, br_pos hgt, g0, g1, g2, g3, Option.bind_some, br_pos hcond, num_eq ha hb hc hd, br_pos hbd, hdrop]
        have key := ih (k - 4) (by omega) r (out ++ [num a b c d]) (by omega) (by omega) hok (by simp; omega)
        refine ((key.shift 1).congr ?_)
        have hn : nums (a :: b :: c :: d :: r) = num a b c d :: nums r := by
          rw [nums]; rw [if_pos (by omega)]
        rw [hn]
        simp

theorem message_cons (a b c d k : Int) (r : List Int) : message (a :: b :: c :: d :: k :: r) = if 2 ≤ r.length ∧ (r.length + 5 - 7) % 4 = 0 then ((num a b c d, (k, nums r)), true) else ((0, (0, [])), false) := rfl
theorem messageEv (l : List Int) (hok : okBs l = true) (hlen : l.length ≤ 100000) : Ev (fun n => framingMessage m n l) (message l) := by
  by_cases h7 : l.length < 7
  · refine Ev.of_eq 2 ?_
    simp (disch := omega) only [framingMessageEq, br_pos]
    refine (Ev.pure _).congr ?_
    match l, h7 with
    | [], _ => rfl
    | [_], _ => rfl
    | [_, _], _ => rfl
    | [_, _, _], _ => rfl
    | [_, _, _, _], _ => rfl
    | [_, _, _, _, _], _ => rfl
    | [_, _, _, _, _, _], _ => rfl
  · have e0 : IntKind.i64.wrap ((l.length : Int) - 7) = ((l.length - 7 : Nat) : Int) := by rw [w64 (by omega) (by omega)]; omega
    have e1 : (((l.length - 7 : Nat) : Int)).tmod 4 = (((l.length - 7) % 4 : Nat) : Int) := by rw [Int.tmod_eq_emod_of_nonneg (by omega)]; omega
    match l with
    | a :: b :: c :: d :: kd :: r =>
      have hlb : (a :: b :: c :: d :: kd :: r).length = r.length + 5 := rfl
      by_cases h4 : (r.length + 5 - 7) % 4 = 0
      · obtain ⟨ha, hok⟩ := ok_cons hok
        obtain ⟨hb, hok⟩ := ok_cons hok
        obtain ⟨hc, hok⟩ := ok_cons hok
        obtain ⟨hd, hok⟩ := ok_cons hok
        obtain ⟨hkd, hok⟩ := ok_cons hok
        obtain ⟨g0, g1, g2, g3⟩ := get4 (a := a) (b := b) (c := c) (d := d) (r := kd :: r)
        have hdrop : ((a :: b :: c :: d :: kd :: r).take (((a :: b :: c :: d :: kd :: r).length : Int)).toNat).drop ((4 : Int)).toNat = kd :: r := by
          rw [Int.toNat_natCast, List.take_length]; rfl
        have hdrop2 : ((kd :: r).take (((kd :: r).length : Int)).toNat).drop ((1 : Int)).toNat = r := by
          rw [Int.toNat_natCast, List.take_length]; rfl
        have hcond : (0 ≤ (4 : Int) ∧ (4 : Int) ≤ ((a :: b :: c :: d :: kd :: r).length : Int) ∧ ((a :: b :: c :: d :: kd :: r).length : Int) ≤ ((a :: b :: c :: d :: kd :: r).length : Int)) := by rw [hlb]; omega
        have hcond2 : (0 ≤ (1 : Int) ∧ (1 : Int) ≤ ((kd :: r).length : Int) ∧ ((kd :: r).length : Int) ≤ ((kd :: r).length : Int)) := by simp only [List.length_cons]; omega
        have g4 : (kd :: r)[(0 : Int).toNat]? = some kd := rfl
        have hn7 : ¬ ((a :: b :: c :: d :: kd :: r).length : Int) < 7 := by omega
        have hm4 : ((((a :: b :: c :: d :: kd :: r).length - 7) % 4 : Nat) : Int) = 0 := by rw [hlb]; omega
        refine Ev.of_eq 2 ?_
        simp only [framingMessageEq, br_neg hn7, e0, e1, nbr_pos hm4, g0, g1, g2, g3, Option.bind_some, br_pos hcond, hdrop, g4, br_pos hcond2, hdrop2, num_eq ha hb hc hd]
        have hk : IntKind.i64.wrap kd = kd := w64 (by omega) (by omega)
        rw [hk]
        refine Ev.bind ((messageL8 0 0 (num a b c d) kd [] r.length r [] (Nat.le_refl _) (by simp only [List.length_cons] at h7; omega) hok (by simp only [List.length_cons] at hlen; simp; omega)).shift 1) ?_
        refine (Ev.pure _).congr ?_
        rw [message_cons, if_pos ⟨by simp only [List.length_cons] at h7; omega, h4⟩]
        rfl
      · have hn7 : ¬ ((a :: b :: c :: d :: kd :: r).length : Int) < 7 := by omega
        have hm4 : ¬ ((((a :: b :: c :: d :: kd :: r).length - 7) % 4 : Nat) : Int) = 0 := by rw [hlb]; omega
        refine Ev.of_eq 2 ?_
        simp only [framingMessageEq, br_neg hn7, e0, e1, nbr_neg hm4]
        refine (Ev.pure _).congr ?_
        rw [message_cons, if_neg (fun h => h4 h.2)]
    | [] => simp at h7
    | [_] => simp at h7
    | [_, _] => simp at h7
    | [_, _, _] => simp at h7
    | [_, _, _, _] => simp at h7
end Go.Fb
