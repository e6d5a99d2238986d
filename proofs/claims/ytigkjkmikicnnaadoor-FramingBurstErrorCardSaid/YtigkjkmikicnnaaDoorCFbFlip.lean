import Derived.Test.YtigkjkmikicnnaaDoorCFbBurst2
import Derived.Test.YtigkjkmikicnnaaDoorCFbLaw2
import Derived.Test.YtigkjkmikicnnaaDoorCFbRef
set_option linter.unusedVariables false
set_option linter.unusedSimpArgs false
set_option linter.unnecessarySimpa false
/-
  FRAMING: the content as a row; the burst.
-/
namespace Go.Fb
open Go Go.Am Go.Proofs
variable {m : Int}

theorem ok_framed {c : List Int} (h : okBs c = true) : okBs (framed c) = true := by
  unfold framed
  exact ok_append (ok_append (by decide) (ok_escs h)) (by decide)
theorem framed_length (c : List Int) : (framed c).length ≤ 2 + 2 * c.length := by
  have := escs_length c
  unfold framed
  rw [List.length_append, List.length_append]
  simp only [List.length_cons, List.length_nil]
  omega
theorem contentL5 (s k : Int) (l : List Int) (hl : l.length ≤ 1000) (ho : l.any odd = false) : ∀ (r : List Int) (i : Nat) (out : List Int), l.drop i = r → i ≤ l.length → out.length ≤ 5 + 4 * i →
    Ev (fun n => r32ContentL5 m n (((), ((((out.length : Nat)) : Int), ((i : Int), ()))), ((s, (k, (l, ()))), ((), (out, ()))))) (((((out ++ r.flatMap four).length : Nat) : Int), ()), ((), ((), (out ++ r.flatMap four, ())))) := by
  intro r
  induction r with
  | nil =>
    intro i out hd hi hlen
    have := drop_nil hd
    refine Ev.of_eq 1 ?_
    simp (disch := omega) only [r32ContentL5Eq, br_neg, Int.toNat_natCast]
    exact (Ev.pure _).congr (by simp)
  | cons x r ih =>
    intro i out hd hi hlen
    obtain ⟨h1, h2, h3⟩ := drop_get hd
    have hx : odd x = false := by
      rw [List.any_eq_false] at ho
      simpa using ho x (List.mem_of_getElem? h1)
    refine Ev.of_eq 1 ?_
    simp (disch := omega) only [r32ContentL5Eq, br_pos, Int.toNat_natCast, h1, Option.bind_some]
    refine Ev.bind (refFour x hx) ?_
    have h4 : (four x).length = 4 := rfl
    have c1 : out.length ≤ out.length ∧ (out.length + (four x).length) * 1 ≤ 140737488355328 := by omega
    have e1 : out.take out.length ++ four x ++ out.drop (out.length + (four x).length) = out ++ four x := by
      rw [List.take_length, List.drop_eq_nil_of_le (by omega), List.append_nil]
    have e2 : out.length + (four x).length = (out ++ four x).length := by simp
    simp only [br_pos c1, wr i (by omega), e1]
    rw [e2]
    refine (ih (i + 1) (out ++ four x) h2 (by omega) (by rw [List.length_append]; omega)).congr ?_
    rw [List.flatMap_cons, List.append_assoc]

theorem xor8 {x : Int} {v : Nat} (hx : 0 ≤ x ∧ x < 256) (hv : v < 256) : IntKind.u8.wrap ((BitVec.ofInt IntKind.u8.bits x ^^^ BitVec.ofInt IntKind.u8.bits (v : Int)).toNat : Int) = xorB x v := by
  obtain ⟨x', rfl⟩ : ∃ w : Nat, x = (w : Int) := ⟨x.toNat, by omega⟩
  have h : (BitVec.ofInt IntKind.u8.bits (x' : Int) ^^^ BitVec.ofInt IntKind.u8.bits (v : Int)).toNat = x' ^^^ v := by
    show (BitVec.ofInt 8 (x' : Int) ^^^ BitVec.ofInt 8 (v : Int)).toNat = x' ^^^ v
    rw [BitVec.ofInt_natCast, BitVec.ofInt_natCast, BitVec.toNat_xor, BitVec.toNat_ofNat, BitVec.toNat_ofNat, Nat.mod_eq_of_lt (by omega), Nat.mod_eq_of_lt (by omega)]
  rw [h]
  have := Nat.xor_lt_two_pow (x := x') (y := v) (n := 8) (by omega) (by omega)
  rw [u8_eq, Int.emod_eq_of_lt (by omega) (by omega)]
  unfold xorB
  rw [Int.toNat_natCast]
theorem bit_test {b i : Nat} (hb : b < 65536) (hi : i < 16) : ((((IntKind.i64.wrap (b : Int)).fdiv (2 ^ (min (IntKind.i64.wrap (15 - (i : Int))).toNat IntKind.i64.bits))).tmod 2) = 1) ↔ b.testBit (15 - i) = true := by
  have w1 : IntKind.i64.wrap (b : Int) = (b : Int) := w64 (by omega) (by omega)
  have w2 : IntKind.i64.wrap (15 - (i : Int)) = ((15 - i : Nat) : Int) := by rw [w64 (by omega) (by omega)]; omega
  have e : min ((15 - i : Nat) : Int).toNat IntKind.i64.bits = 15 - i := by
    rw [Int.toNat_natCast]
    show min (15 - i) 64 = 15 - i
    omega
  rw [w1, w2, e, Nat.testBit_eq_decide_div_mod_eq]
  have e2 : ((2 : Int) ^ (15 - i)) = ((2 ^ (15 - i) : Nat) : Int) := by simp
  have e3 : (b : Int).fdiv ((2 ^ (15 - i) : Nat) : Int) = ((b / 2 ^ (15 - i) : Nat) : Int) := by
    rw [Int.fdiv_eq_ediv_of_nonneg _ (Int.natCast_nonneg _)]; rfl
  rw [e2, e3, Int.tmod_eq_emod_of_nonneg (Int.natCast_nonneg _)]
  simp only [decide_eq_true_eq]
  omega
theorem flipL9 (b first : Nat) (up : Bool) (msg : Msg) (hb : b < 65536) : ∀ (k i : Nat) (c : List Int), i + k = 16 → okBs c = true → c.length ≤ 1000 → first + 16 ≤ 8 * c.length →
    Ev (fun n => l32FramingBurstErrorL9 m n (((b : Int), ((), (up, (((c.length : Nat) : Int), (((first : Nat) : Int), ((i : Int), ())))))), ((), ((msg.1, (msg.2.1, (msg.2.2, ()))), ((), ((), ((), ((), (c, ())))))))))
      (((), (up, (((c.length : Nat) : Int), ()))), ((), ((msg.1, (msg.2.1, (msg.2.2, ()))), ((), ((), ((), ((), (flips b first k i c, ())))))))) := by
  intro k
  induction k with
  | zero =>
    intro i c hi _ _ _
    refine Ev.of_eq 1 ?_
    simp (disch := omega) only [l32FramingBurstErrorL9Eq, br_neg, Int.toNat_natCast]
    exact Ev.pure _
  | succ k ih =>
    intro i c hi hok hl hf
    have c0 : ((i : Nat) : Int) < 16 := by omega
    have c1 : (0 : Int) ≤ IntKind.i64.wrap (15 - (i : Int)) := by rw [w64 (by omega) (by omega)]; omega
    have w1 : IntKind.i64.wrap (((first : Nat) : Int) + (i : Int)) = ((first + i : Nat) : Int) := by rw [w64 (by omega) (by omega)]; omega
    have w2 : IntKind.i64.wrap ((((first + i : Nat)) : Int).tdiv 8) = (((first + i) / 8 : Nat) : Int) := by
      have : (((first + i : Nat)) : Int).tdiv 8 = (((first + i) / 8 : Nat) : Int) := by rw [Int.tdiv_eq_ediv_of_nonneg (by omega)]; rfl
      rw [this, w64 (by omega) (by omega)]
    have w3 : (((first + i : Nat)) : Int).tmod 8 = (((first + i) % 8 : Nat) : Int) := by rw [Int.tmod_eq_emod_of_nonneg (by omega)]; rfl
    have w4 : IntKind.i64.wrap (7 - (((first + i) % 8 : Nat) : Int)) = ((7 - (first + i) % 8 : Nat) : Int) := by rw [w64 (by omega) (by omega)]; omega
    have hp : (first + i) / 8 < c.length := by omega
    have c2 : (0 : Int) ≤ (((first + i) / 8 : Nat) : Int) ∧ (((first + i) / 8 : Nat) : Int) < ((c.length : Nat) : Int) := by omega
    have c3 : (0 : Int) ≤ ((7 - (first + i) % 8 : Nat) : Int) := by omega
    have hx : c[0 + (first + i) / 8]? = some (c.getD ((first + i) / 8) 0) := by rw [Nat.zero_add, List.getD_eq_getElem?_getD, List.getElem?_eq_getElem hp]; rfl
    have hxb : 0 ≤ c.getD ((first + i) / 8) 0 ∧ c.getD ((first + i) / 8) 0 < 256 := by
      have hm : c.getD ((first + i) / 8) 0 ∈ c := by rw [List.getD_eq_getElem?_getD, List.getElem?_eq_getElem hp]; exact List.getElem_mem hp
      exact okB_iff.1 (List.all_eq_true.1 hok _ hm)
    have e1 : min (7 - (first + i) % 8) IntKind.u8.bits = 7 - (first + i) % 8 := by
      show min (7 - (first + i) % 8) 8 = _
      omega
    have e2 : IntKind.u8.wrap (1 * 2 ^ (7 - (first + i) % 8)) = ((2 ^ (7 - (first + i) % 8) : Nat) : Int) := by
      have := pow7 ((first + i) % 8)
      have e : (1 * 2 ^ (7 - (first + i) % 8) : Int) = ((2 ^ (7 - (first + i) % 8) : Nat) : Int) := by simp
      rw [e, u8_eq]
      exact Int.emod_eq_of_lt (Int.natCast_nonneg _) (Int.ofNat_lt.2 this)
    have cont := ih (i + 1) (flip b first i c) (by omega) (flip_ok hok hf (by omega)) (by rw [flip_length]; exact hl) (by rw [flip_length]; exact hf)
    rw [flip_length] at cont
    refine Ev.of_eq 1 ?_
    simp only [l32FramingBurstErrorL9Eq, br_pos c0, br_pos c1, Int.toNat_natCast, w1, w2, w3, w4, br_pos c2, br_pos c3, hx, Option.bind_some, e1, e2, xor8 hxb (pow7 ((first + i) % 8))]
    refine Ev.bind (x := (((b : Int), ((), (up, (((c.length : Nat) : Int), (((first : Nat) : Int), ((i : Int), ())))))), ((), ((msg.1, (msg.2.1, (msg.2.2, ()))), ((), ((), ((), ((), (flip b first i c, ()))))))))) ?_ ?_
    · by_cases t : b.testBit (15 - i) = true
      · rw [br_pos ((bit_test hb (by omega)).2 t)]
        refine (Ev.pure _).congr ?_
        unfold flip
        rw [if_pos t, Nat.zero_add]
      · rw [br_neg (fun h => t ((bit_test hb (by omega)).1 h))]
        refine (Ev.pure _).congr ?_
        unfold flip
        rw [if_neg t]
    · simp only [Int.toNat_natCast, wr i (by omega)]
      exact cont
end Go.Fb
