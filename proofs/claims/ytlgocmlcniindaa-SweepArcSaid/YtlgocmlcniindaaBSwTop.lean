import Derived.Test.YtlgocmlcniindaaBSwLaw
import Derived.Test.YtlgocmlcniindaaBSwOk
import Derived.Test.YtlgocmlcniindaaRows
import Derived.WalkKit
import Derived.ProofKit
import Derived.OpenShut
import Derived.Deep.DeepHandedRow
import Derived.Lib.LaidTab
import Derived.Shelf.Vars
set_option linter.unusedVariables false
set_option linter.unusedSimpArgs false
set_option linter.unnecessarySimpa false
/-
  SWEEP: from the machine to the rows: what all laws of this seat have alike.
-/
namespace Go.Proofs.Ytlgocmlcniindaa
open Go Go.Am Go.Sw Go.ChangeShapes Go.WideShapes Go.ChangeAt Go.RowKit

theorem own : ownKnob Try.prog.godebug = none := by kernel_rfl
theorem laidOut : laidOutB Try.prog = true := by kernel_rfl
theorem globOk {W : World} : GlobOk X0 (snap W) := fun g l hg => by cases hg

theorem wf_u8 {x : Int} (h : (Ty.int .u8).wf x) : 0 ≤ x ∧ x < 256 := by
  have h1 : (Lit.int .u8 x).wf = true := h
  simp only [Lit.wf, Bool.and_eq_true, decide_eq_true_eq] at h1
  have h2 : (0 : Int) ≤ x := h1.1
  have h3 : x ≤ 255 := h1.2
  omega

noncomputable def plainWorld (os : Os) : World := World.holding Try.prog os ⟨#[], #[], []⟩
theorem laidMet_nil (P : Program) (w : World) : laidMet P [] w := ⟨[], rfl, List.nodup_nil, fun b off h => by cases h⟩
def aPt : Value := .agg #[.int .i64 0, .int .i64 0]
def dPt {H : Type} : DataW H := .agg [.lit (.int .i64 0), .lit (.int .i64 0)]
end Go.Proofs.Ytlgocmlcniindaa
