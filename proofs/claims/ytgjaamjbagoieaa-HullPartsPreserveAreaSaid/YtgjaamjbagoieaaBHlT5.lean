import Derived.Test.YtgjaamjbagoieaaBHlTop
import Derived.Test.YtgjaamjbagoieaaBHlJ2
set_option linter.unusedVariables false
set_option linter.unusedSimpArgs false
set_option linter.unnecessarySimpa false
/-
  ambidexterlaw04.HullPartsPreserveArea answers true for every polygon; it reads behind the call as it read before.
-/
namespace Go.Proofs.Ytgjaamjbagoieaa.preserve
open Go Go.Am Go.Hl Go.ChangeShapes Go.WideShapes Go.ChangeAt Go.RowKit

theorem contract (H : Type) (enc : TypeId × Value → H) (W : World) (base : Nat) (args : Array Value) (ds gs : List (DataW H)) (before : List MemPlace)
    (hval : ∀ (j : Nat) t v, Try.f7.params[j]? = some t → args[j]? = some v → Value.okWide Try.prog W .any base t v)
    (hW : DataW.Whole enc Try.prog Try.f7.params.toList Rows.hullPartsPreserveAreaSpec.vars false W args.toList ds gs before) (hS : W.ShapedOpen Try.prog) :
    Calls Try.prog 7 args W fun e W' => ∃ v, e = .returned v ∧ Rows.hullPartsPreserveAreaSpec.post enc Try.prog Try.f7 false true false false W args v W' := by
  refine law_contract (X := X0) (τs := [.slice (.pair (.int .i64) (.int .i64))]) prog_ok spec_ok specH_ok laidOut rfl (by kernel_rfl) (by kernel_rfl) Try.underlying4 (by kernel_rfl) (by kernel_rfl) hval hW globOk ?_ ?_
  · intro hl
    have : Try.f7.params.size = 1 := by kernel_rfl
    rw [this] at hl
    match ds, hl with
    | [d0], _ => rfl
  · rintro ⟨p, _⟩ ⟨h1, _⟩
    obtain ⟨N, hN⟩ := Hl.preserveEv p (wf_len h1)
    exact ⟨N, hN N (Nat.le_refl _)⟩

set_option maxRecDepth 100000 in
theorem laid_met (os : Os) : laidMet Try.prog Rows.hullPartsPreserveAreaRow.laid ((plainWorld os).forCall (fun _ _ => 0) ⟨#[], #[.slice none 0 0], []⟩).memory :=
  laidMet_nil _ _
theorem reads (os : Os) {H : Type} (enc : TypeId × Value → H) : ∃ places, DataW.whole enc Try.prog ((plainWorld os).forCall (fun _ _ => 0) ⟨#[], #[.slice none 0 0], []⟩).memory Try.f7.params.toList Rows.hullPartsPreserveAreaSpec.vars false #[.slice none 0 0].toList 8 = some ([.nil], [], places) :=
  ⟨[], by kernel_rfl⟩

set_option maxRecDepth 100000 in
theorem lifted (os : Os) (started : os.Started) (H : Type) (enc : TypeId × Value → H) (F : Stop.Interp) :
    ReturnsInHanded {} Try.checked os 7 .any ((OpenSpec.ofChange Rows.hullPartsPreserveAreaSpec).preRow enc Try.prog Try.f7 Rows.hullPartsPreserveAreaRow.domain false Rows.hullPartsPreserveAreaRow.laid) (((OpenSpec.ofChange Rows.hullPartsPreserveAreaSpec).at F).post enc Try.prog Try.f7 false true false false) := by
  obtain ⟨places, hx⟩ := reads os enc
  refine returnsInHanded_of_row (C := Try.checked) (s := OpenSpec.ofChange Rows.hullPartsPreserveAreaSpec) own started (by kernel_rfl) Try.func7
    (witness_row_at (enc := enc) (C := Try.checked) false (plainWorld os) #[.slice none 0 0] rfl (by kernel_rfl) (by kernel_rfl) (by kernel_rfl)
      (OpenSpec.preRow_of_cond 8 hx (by kernel_rfl) (fun k hk => by cases hk) (by kernel_rfl) (laid_met os))) ?_
  intro W base args ds gs before hval hW _ _ _ _ hS _
  exact contract H enc W base args ds gs before hval hW hS

theorem said : Rows.HullPartsPreserveAreaSaid :=
  OpenClaim.holds_of_cond 7 Try.f7 rfl rfl rfl rfl rfl rfl rfl ⟨rfl, rfl, rfl, rfl, rfl⟩ rfl rfl rfl rfl rfl (by kernel_rfl) Try.func7 (by kernel_rfl)
    (of_decide_eq_true (by kernel_rfl)) (by unfold Func.isWrapper; first | (rw [if_pos (by decide +kernel)]; kernel_rfl) | (rw [if_neg (by decide +kernel)]; exact ⟨rfl, rfl⟩))
    (fun os started H enc _ F => by rw [OpenClaim.pre_eq_preRow]; exact lifted os started H enc F)

#print axioms said
end Go.Proofs.Ytgjaamjbagoieaa.preserve
