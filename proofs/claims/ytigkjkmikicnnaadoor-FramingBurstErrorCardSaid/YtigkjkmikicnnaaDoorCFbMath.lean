import Derived.Test.YtigkjkmikicnnaaDoorCFbSpec
set_option linter.unusedVariables false
set_option linter.unusedSimpArgs false
set_option linter.unnecessarySimpa false
/-
  FRAMING: what the functions compute, in plain Lean.
-/
namespace Go.Fb
open Go Go.Am

abbrev Msg := Int × (Int × List Int)

/-! ### The checksum -/
@[irreducible] def step1 (s : Nat) : Nat := if 65536 ≤ 2 * s then (2 * s) ^^^ 69665 else 2 * s
def steps : Nat → Nat → Nat
  | 0, s => s
  | k + 1, s => steps k (step1 s)
@[irreducible] def crcStep (s x : Nat) : Nat := steps 8 (s ^^^ (256 * x))
def crcFrom : Nat → List Int → Nat
  | s, [] => s
  | s, x :: l => crcFrom (crcStep s x.toNat) l
def crc (l : List Int) : Nat := crcFrom 65535 l

theorem xor_lt16 {a b : Nat} (ha : a < 65536) (hb : b < 65536) : a ^^^ b < 65536 := Nat.xor_lt_two_pow (n := 16) ha hb
theorem xor_lt17 {a b : Nat} (ha : a < 131072) (hb : b < 131072) : a ^^^ b < 131072 := Nat.xor_lt_two_pow (n := 17) ha hb

theorem step1_lt {s : Nat} (h : s < 65536) : step1 s < 65536 := by
  unfold step1
  split
  · rename_i h1
    have h2 : ((2 * s) ^^^ 69665) >>> 16 = 0 := by
      rw [Nat.shiftRight_xor_distrib]
      have e1 : (2 * s) >>> 16 = 1 := by rw [Nat.shiftRight_eq_div_pow]; omega
      rw [e1]
      rfl
    rw [Nat.shiftRight_eq_div_pow] at h2
    have := (Nat.div_eq_zero_iff).1 h2
    omega
  · omega
theorem steps_lt : ∀ (k : Nat) {s : Nat}, s < 65536 → steps k s < 65536
  | 0, _, h => h
  | k + 1, _, h => steps_lt k (step1_lt h)
theorem crcStep_lt {s x : Nat} (h : s < 65536) (hx : x < 256) : crcStep s x < 65536 := by
  unfold crcStep
  exact steps_lt 8 (xor_lt16 h (by omega))
theorem crcFrom_lt : ∀ {l : List Int} {s : Nat}, s < 65536 → okBs l = true → crcFrom s l < 65536 := by
  intro l
  induction l with
  | nil => intro s h _; exact h
  | cons x l ih =>
    intro s h hl
    simp only [okBs, List.all_cons, Bool.and_eq_true, okB, decide_eq_true_eq] at hl
    rw [crcFrom]
    exact ih (crcStep_lt h (by omega)) (by simpa [okBs, okB] using hl.2)
theorem crc_lt {l : List Int} (h : okBs l = true) : crc l < 65536 := by
  unfold crc
  exact crcFrom_lt (by omega) h

/-! ### Encoding -/
def four (n : Int) : List Int := [n % 256, n / 256 % 256, n / 65536 % 256, n / 16777216 % 256]
def odd (n : Int) : Bool := decide (n < -2147483648) || decide (2147483647 < n)
def valid (m : Msg) : Bool := decide (0 ≤ m.1) && decide (m.1 ≤ 2147483647) && decide (0 ≤ m.2.1) && decide (m.2.1 < 256) && decide (m.2.2.length ≤ 13) && !m.2.2.any odd
def head0 (m : Msg) : List Int := four m.1 ++ [m.2.1 % 256] ++ m.2.2.flatMap four
def content (m : Msg) : List Int := head0 m ++ [(crc (head0 m) : Int) / 256 % 256, (crc (head0 m) : Int) % 256]
def esc (x : Int) : List Int := if x = 126 then [125, 94] else if x = 125 then [125, 93] else [x]
def body (m : Msg) : List Int := (content m).flatMap esc
def framed (c : List Int) : List Int := [126] ++ c.flatMap esc ++ [126]
def encode (m : Msg) : List Int := if valid m = true then framed (content m) else []

/-! ### Decoding -/
def x32 (y : Int) : Int := IntKind.u8.wrap ((BitVec.ofInt IntKind.u8.bits y ^^^ BitVec.ofInt IntKind.u8.bits (32 : Int)).toNat : Int)
def plain : List Int → List Int
  | [] => []
  | [x] => [x]
  | x :: y :: r => if x = 125 then x32 y :: plain r else x :: plain (y :: r)
def num (a b c d : Int) : Int := (a + 256 * b + 65536 * c + 16777216 * d + 2147483648) % 4294967296 - 2147483648
def nums : List Int → List Int
  | a :: b :: c :: d :: r => if 2 < r.length + 4 then num a b c d :: nums r else []
  | _ => []
def message (l : List Int) : Msg × Bool :=
  match l with
  | a :: b :: c :: d :: k :: r => if 2 ≤ r.length ∧ (r.length + 5 - 7) % 4 = 0 then ((num a b c d, (k, nums r)), true) else ((0, (0, [])), false)
  | _ => ((0, (0, [])), false)
def piece (p : List Int) : Option Msg :=
  let x := message (plain p)
  if x.2 = true ∧ encode x.1 = [126] ++ p ++ [126] then some x.1 else none
def inner (l : List (List Int)) : List (List Int) := (l.drop 1).dropLast
def msgs (b : List Int) : List Msg := (inner (splitB 126 b)).filterMap piece
/-- What is left behind the last mark, and the mark. -/
def rest : List Int → List Int
  | [] => []
  | x :: l => if 126 ∈ l then rest l else if x = 126 then x :: l else []
end Go.Fb
