import Derived.Test.YtgjaamjbagoieaaBHlLaw3
import Derived.Test.YtgjaamjbagoieaaBHlOk
import Derived.Test.YtgjaamjbagoieaaRows
import Derived.WalkKit
import Derived.ProofKit
import Derived.OpenShut
import Derived.Deep.DeepHandedRow
import Derived.Lib.LaidTab
import Derived.Shelf.Vars
set_option linter.unusedVariables false
set_option linter.unusedSimpArgs false
set_option linter.unnecessarySimpa false
/-
  HULL: from the machine to the rows: what all laws of this seat have alike.
-/
namespace Go.Proofs.Ytgjaamjbagoieaa
open Go Go.Am Go.Hl Go.ChangeShapes Go.WideShapes Go.ChangeAt Go.RowKit

theorem own : ownKnob Try.prog.godebug = none := by kernel_rfl
theorem laidOut : laidOutB Try.prog = true := by kernel_rfl
theorem globOk {W : World} : GlobOk X0 (snap W) := fun g l hg => by cases hg

theorem wf_u8 {x : Int} (h : (Ty.int .u8).wf x) : 0 ≤ x ∧ x < 256 := by
  have h1 : (Lit.int .u8 x).wf = true := h
  simp only [Lit.wf, Bool.and_eq_true, decide_eq_true_eq] at h1
  have h2 : (0 : Int) ≤ x := h1.1
  have h3 : x ≤ 255 := h1.2
  omega

theorem wf_len {e : Ty} {l : List e.den} (h : (Ty.slice e).wf l) : l.length ≤ 9223372036854775807 := by
  have := h.1
  unfold maxLen at this
  omega
noncomputable def plainWorld (os : Os) : World := World.holding Try.prog os ⟨#[], #[], []⟩
theorem laidMet_nil (P : Program) (w : World) : laidMet P [] w := ⟨[], rfl, List.nodup_nil, fun b off h => by cases h⟩
def aPt : Value := .agg #[.int .i64 0, .int .i64 0]
def dPt {H : Type} : DataW H := .agg [.lit (.int .i64 0), .lit (.int .i64 0)]
end Go.Proofs.Ytgjaamjbagoieaa
