import Derived.Test.YtlgocmlcniindaaBSwTop
import Derived.Test.YtlgocmlcniindaaBSwArc3
set_option linter.unusedVariables false
set_option linter.unusedSimpArgs false
set_option linter.unnecessarySimpa false
/-
  ambidexterlaw06.SweepArc answers true for every pivot, every list of points, every turn and every two numbers; each reads behind the call as it read before.
-/
namespace Go.Proofs.Ytlgocmlcniindaa.arc
open Go Go.Am Go.Sw Go.ChangeShapes Go.WideShapes Go.ChangeAt Go.RowKit

theorem contract (H : Type) (enc : TypeId × Value → H) (W : World) (base : Nat) (args : Array Value) (ds gs : List (DataW H)) (before : List MemPlace)
    (hval : ∀ (j : Nat) t v, Try.f5.params[j]? = some t → args[j]? = some v → Value.okWide Try.prog W .any base t v)
    (hW : DataW.Whole enc Try.prog Try.f5.params.toList Rows.sweepArcSpec.vars false W args.toList ds gs before) (hS : W.ShapedOpen Try.prog) :
    Calls Try.prog 5 args W fun e W' => ∃ v, e = .returned v ∧ Rows.sweepArcSpec.post enc Try.prog Try.f5 false true false false W args v W' := by
  refine law_contract (X := X0) (τs := [.pair (.int .i64) (.int .i64), .slice (.pair (.int .i64) (.int .i64)), .int .u8, .int .u8, .int .u8]) prog_ok spec_ok specH_ok laidOut rfl (by kernel_rfl) (by kernel_rfl) Try.underlying4 (by kernel_rfl) (by kernel_rfl) hval hW globOk ?_ ?_
  · intro hl
    have : Try.f5.params.size = 5 := by kernel_rfl
    rw [this] at hl
    match ds, hl with
    | [d0, d1, d2, d3, d4], _ => rfl
  · rintro ⟨⟨a, b⟩, l, t, i, k, _⟩ ⟨_, _, h3, h4, h5, _⟩
    obtain ⟨N, hN⟩ := Sw.sweepArcEv (a, b) l t i k (wf_u8 h3) (wf_u8 h4) (wf_u8 h5)
    exact ⟨N, hN N (Nat.le_refl _)⟩

set_option maxRecDepth 100000 in
theorem laid_met (os : Os) : laidMet Try.prog Rows.sweepArcRow.laid ((plainWorld os).forCall (fun _ _ => 0) ⟨#[], #[aPt, .slice none 0 0, .int .u8 0, .int .u8 0, .int .u8 0], []⟩).memory :=
  laidMet_nil _ _
theorem reads (os : Os) {H : Type} (enc : TypeId × Value → H) : ∃ places, DataW.whole enc Try.prog ((plainWorld os).forCall (fun _ _ => 0) ⟨#[], #[aPt, .slice none 0 0, .int .u8 0, .int .u8 0, .int .u8 0], []⟩).memory Try.f5.params.toList Rows.sweepArcSpec.vars false #[aPt, .slice none 0 0, .int .u8 0, .int .u8 0, .int .u8 0].toList 8 = some ([dPt, .nil, .lit (.int .u8 0), .lit (.int .u8 0), .lit (.int .u8 0)], [], places) :=
  ⟨[], by kernel_rfl⟩

set_option maxRecDepth 100000 in
theorem lifted (os : Os) (started : os.Started) (H : Type) (enc : TypeId × Value → H) (F : Stop.Interp) :
    ReturnsInHanded {} Try.checked os 5 .any ((OpenSpec.ofChange Rows.sweepArcSpec).preRow enc Try.prog Try.f5 Rows.sweepArcRow.domain false Rows.sweepArcRow.laid) (((OpenSpec.ofChange Rows.sweepArcSpec).at F).post enc Try.prog Try.f5 false true false false) := by
  obtain ⟨places, hx⟩ := reads os enc
  refine returnsInHanded_of_row (C := Try.checked) (s := OpenSpec.ofChange Rows.sweepArcSpec) own started (by kernel_rfl) Try.func5
    (witness_row_at (enc := enc) (C := Try.checked) false (plainWorld os) #[aPt, .slice none 0 0, .int .u8 0, .int .u8 0, .int .u8 0] rfl (by kernel_rfl) (by kernel_rfl) (by kernel_rfl)
      (OpenSpec.preRow_of_cond 8 hx (by kernel_rfl) (fun k hk => by cases hk) (by kernel_rfl) (laid_met os))) ?_
  intro W base args ds gs before hval hW _ _ _ _ hS _
  exact contract H enc W base args ds gs before hval hW hS

theorem said : Rows.SweepArcSaid :=
  OpenClaim.holds_of_cond 5 Try.f5 rfl rfl rfl rfl rfl rfl rfl ⟨rfl, rfl, rfl, rfl, rfl⟩ rfl rfl rfl rfl rfl (by kernel_rfl) Try.func5 (by kernel_rfl)
    (of_decide_eq_true (by kernel_rfl)) (by unfold Func.isWrapper; first | (rw [if_pos (by decide +kernel)]; kernel_rfl) | (rw [if_neg (by decide +kernel)]; exact ⟨rfl, rfl⟩))
    (fun os started H enc _ F => by rw [OpenClaim.pre_eq_preRow]; exact lifted os started H enc F)

#print axioms said
end Go.Proofs.Ytlgocmlcniindaa.arc
