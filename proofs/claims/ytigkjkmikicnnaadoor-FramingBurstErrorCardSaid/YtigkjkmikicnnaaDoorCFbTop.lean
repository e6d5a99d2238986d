import Derived.Test.YtigkjkmikicnnaaDoorCFbLaw3
import Derived.Test.YtigkjkmikicnnaaDoorCFbOk
import Derived.Test.YtigkjkmikicnnaaDoorCards
import Derived.Test.YtigkjkmikicnnaaDoorTie
import Derived.WalkKit
import Derived.ProofKit
import Derived.OpenShut
import Derived.Deep.DeepHandedRow
import Derived.Lib.LaidTab
import Derived.Shelf.Vars
set_option linter.unusedVariables false
set_option linter.unusedSimpArgs false
set_option linter.unnecessarySimpa false
/-
  FRAMING: from the machine to the rows: what all laws of this seat have alike.
-/
namespace Go.Proofs.YtigkjkmikicnnaaDoor
open Go Go.Am Go.Fb Go.ChangeShapes Go.WideShapes Go.ChangeAt Go.RowKit

theorem own : ownKnob Tryd.prog.godebug = none := by kernel_rfl
theorem laidOut : laidOutB Tryd.prog = true := by kernel_rfl

theorem globOk {W : World} {k : Int} (h : W.cell? ⟨0, 0, none⟩ = some (.int .i64 k)) : GlobOk (X0 k) (snap W) := by
  intro g l hg
  change (if g = 0 then some [AV.int .i64 k] else none) = some l at hg
  split at hg
  · rename_i hg0
    subst hg0
    cases hg
    refine ⟨[.int .i64 k], .cons _ _ _ _ (.int _ _ _) .nil, fun i v hv => ?_⟩
    cases i with
    | succ i => simp at hv
    | zero =>
      simp only [List.getElem?_cons_zero, Option.some.injEq] at hv
      subst hv
      exact snap_at (by rw [add_none]; exact h)
  · cases hg

theorem maxLenCell {W : World} (h : W.ShapedOpen Tryd.prog) : ∃ k, W.cell? ⟨0, 0, none⟩ = some (.int .i64 k) :=
  Go.Proofs.cell_of_shapedOpen_int (zero := #[.int .i64 0]) (t := 3) h (of_decide_eq_true (by kernel_rfl)) (by kernel_rfl) rfl (by kernel_rfl) (by kernel_rfl) Tryd.underlying3

theorem wf_bytes {l : List Int} (h : (Ty.slice (.int .u8)).wf l) : okBs l = true := by
  unfold okBs
  rw [List.all_eq_true]
  intro x hx
  have h1 : (Lit.int .u8 x).wf = true := h.2 x hx
  simp only [Lit.wf, Bool.and_eq_true, decide_eq_true_eq] at h1
  rw [okB_iff]
  have h2 : (0 : Int) ≤ x := h1.1
  have h3 : x ≤ 255 := h1.2
  omega
theorem wf_u16 {x : Int} (h : (Ty.int .u16).wf x) : 0 ≤ x ∧ x < 65536 := by
  have h1 : (Lit.int .u16 x).wf = true := h
  simp only [Lit.wf, Bool.and_eq_true, decide_eq_true_eq] at h1
  have h2 : (0 : Int) ≤ x := h1.1
  have h3 : x ≤ 65535 := h1.2
  omega
theorem wf_u8 {x : Int} (h : (Ty.int .u8).wf x) : 0 ≤ x ∧ x < 256 := by
  have h1 : (Lit.int .u8 x).wf = true := h
  simp only [Lit.wf, Bool.and_eq_true, decide_eq_true_eq] at h1
  have h2 : (0 : Int) ≤ x := h1.1
  have h3 : x ≤ 255 := h1.2
  omega

/-- A WORLD FOR THE WITNESS: the settled one, with the two tables. -/
def numOf {H : Type} : DataW H → Value
  | .lit (.int k n) => .int k n
  | _ => .int .u8 0
def numsOf {H : Type} : DataW H → List Value
  | .agg l => l.map numOf
  | _ => []
def withCells (cs : List Value) : Obj → Obj
  | .cells _ t frozen => .cells cs.toArray t frozen
  | o => o
def ranges : List Value := ([128, 191, 160, 191, 128, 159, 144, 191, 128, 143] ++ List.replicate 22 (0 : Int)).map fun n => Value.int .u8 n
noncomputable def laidWorld (os : Os) : World :=
  { World.holding Tryd.prog os ⟨#[], #[], []⟩ with heap := ((World.holding Tryd.prog os ⟨#[], #[], []⟩).heap.modify 1 (withCells (numsOf Rows.laid_unicode_utf8_first))).modify 2 (withCells ranges) }
def aMsg : Value := .agg #[.int .i64 0, .int .i64 0, .slice none 0 0]
def dMsg {H : Type} : DataW H := .agg [.lit (.int .i64 0), .lit (.int .i64 0), .nil]
end Go.Proofs.YtigkjkmikicnnaaDoor
