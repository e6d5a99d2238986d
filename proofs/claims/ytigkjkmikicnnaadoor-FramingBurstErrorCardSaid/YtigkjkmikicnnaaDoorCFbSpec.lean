import Derived.Test.YtigkjkmikicnnaaDoorCAmA
set_option linter.unusedVariables false
set_option linter.unusedSimpArgs false
set_option linter.unnecessarySimpa false
/-
  FRAMING: what the library's functions that are not walked give.
-/
namespace Go.Fb
open Go Go.Am

def okB (x : Int) : Bool := decide (0 ≤ x ∧ x < 256)
theorem okB_iff {x : Int} : okB x = true ↔ 0 ≤ x ∧ x < 256 := by unfold okB; simp
def okBs (l : List Int) : Bool := l.all okB

/-- The pieces between the places of y. -/
def splitB (y : Int) : List Int → List (List Int)
  | [] => [[]]
  | x :: l => if x = y then [] :: splitB y l else match splitB y l with
    | p :: r => (x :: p) :: r
    | [] => [[x]]

def specEqual : List AV → Option Bool
  | [a, b] => (asRow (.int .u8) a).bind fun xs => (asRow (.int .u8) b).bind fun ys => if okBs xs = true ∧ okBs ys = true then some (decide (xs = ys)) else none
  | _ => none
def specClone : List AV → Option (List Int)
  | [a] => (asRow (.int .u8) a).bind fun xs => if xs.length ≤ 140737488355328 then some xs else none
  | _ => none
def specSplit : List AV → Option (List (List Int))
  | [a, b] => (asRow (.int .u8) a).bind fun xs => (asRow (.int .u8) b).bind fun ys => match ys with
    | [y] => if okBs xs = true ∧ okB y = true ∧ xs.length < 4294967281 then some (splitB y xs) else none
    | _ => none
  | _ => none
def specGrow : List AV → Option (List Int)
  | [.nil, .int .i64 n] => if 0 ≤ n ∧ n ≤ 140737488355328 then some [] else none
  | _ => none
end Go.Fb
