import Derived.Test.YtgjaamjbagoieaaHlTop
import Derived.Test.YtgjaamjbagoieaaHlAdd
import Derived.Test.YtgjaamjbagoieaaAmTop2
set_option linter.unusedVariables false
set_option linter.unusedSimpArgs false
set_option linter.unnecessarySimpa false
/-
  ambidexterlaw04.HullAddPoint answers true for every list of points and every point; each reads behind the call as it read before.
-/
namespace Go.Proofs.Ytgjaamjbagoieaa.addPoint
open Go Go.Am Go.Hl Go.ChangeShapes Go.WideShapes Go.ChangeAt Go.RowKit

theorem contract (H : Type) (enc : TypeId × Value → H) (W : World) (base : Nat) (args : Array Value) (ds gs : List (DataW H)) (before : List MemPlace)
    (hval : ∀ (j : Nat) t v, Try.f6.params[j]? = some t → args[j]? = some v → Value.okWide Try.prog W .any base t v)
    (hW : DataW.Whole enc Try.prog Try.f6.params.toList Rows.hullAddPointSpec.vars false W args.toList ds gs before) (hz : (DataW.weightsEach Try.prog (Try.f6.params.toList ++ (OpenSpec.ofChange Rows.hullAddPointSpec).bare.plain.varTypes Try.prog) (ds ++ gs)).all (· ≤ reachBytes) = true) (hS : W.ShapedOpen Try.prog) :
    Calls Try.prog 6 args W fun e W' => ∃ v, e = .returned v ∧ Rows.hullAddPointSpec.post enc Try.prog Try.f6 false true false false W args v W' := by
  refine law_contractR (X := X0) (τs := [.slice (.pair (.int .i64) (.int .i64)), .pair (.int .i64) (.int .i64)]) prog_ok spec_ok specH_ok laidOut rfl (by kernel_rfl) (by kernel_rfl) Try.underlying4 (by kernel_rfl) (by kernel_rfl) hval hW globOk ?_ ?_
  · intro hl
    have : Try.f6.params.size = 2 := by kernel_rfl
    rw [this] at hl
    match ds, hl with
    | [d0, d1], _ => rfl
  · rintro ⟨l, ⟨a, b⟩, _⟩ _ hrep
    have hpar : Try.f6.params.toList = [22, 35] := by kernel_rfl
    have hsz : l.length * 16 ≤ 140737488351232 := by
      obtain ⟨p, q, h1, h2, h3, h4, h5⟩ := id hW
      rw [hpar] at h1 hz hrep
      generalize args.toList = vs at h1 hrep
      cases hrep with
      | cons _ v _ vs' hr t =>
      have hb : Try.prog.bytesOf 35 = 16 := by kernel_rfl
      have := reach_slice (us := (OpenSpec.ofChange Rows.hullAddPointSpec).bare.plain.varTypes Try.prog) (e := 35) Try.underlying22 h1 hz (τ := .pair (.int .i64) (.int .i64)) (xs := l) (o := false) hr
      rw [hb] at this
      exact this
    obtain ⟨N, hN⟩ := Hl.addEv l (a, b) hsz
    exact ⟨N, hN N (Nat.le_refl _)⟩

set_option maxRecDepth 100000 in
theorem laid_met (os : Os) : laidMet Try.prog Rows.hullAddPointRow.laid ((plainWorld os).forCall (fun _ _ => 0) ⟨#[], #[.slice none 0 0, aPt], []⟩).memory :=
  laidMet_nil _ _
theorem reads (os : Os) {H : Type} (enc : TypeId × Value → H) : ∃ places, DataW.whole enc Try.prog ((plainWorld os).forCall (fun _ _ => 0) ⟨#[], #[.slice none 0 0, aPt], []⟩).memory Try.f6.params.toList Rows.hullAddPointSpec.vars false #[.slice none 0 0, aPt].toList 8 = some ([.nil, dPt], [], places) :=
  ⟨[], by kernel_rfl⟩

set_option maxRecDepth 100000 in
theorem lifted (os : Os) (started : os.Started) (H : Type) (enc : TypeId × Value → H) (F : Stop.Interp) :
    ReturnsInHanded {} Try.checked os 6 .any ((OpenSpec.ofChange Rows.hullAddPointSpec).preRow enc Try.prog Try.f6 Rows.hullAddPointRow.domain false Rows.hullAddPointRow.laid) (((OpenSpec.ofChange Rows.hullAddPointSpec).at F).post enc Try.prog Try.f6 false true false false) := by
  obtain ⟨places, hx⟩ := reads os enc
  refine returnsInHanded_of_row (C := Try.checked) (s := OpenSpec.ofChange Rows.hullAddPointSpec) own started (by kernel_rfl) Try.func6
    (witness_row_at (enc := enc) (C := Try.checked) false (plainWorld os) #[.slice none 0 0, aPt] rfl (by kernel_rfl) (by kernel_rfl) (by kernel_rfl)
      (OpenSpec.preRow_of_cond 8 hx (by kernel_rfl) (fun k hk => by cases hk) (by kernel_rfl) (laid_met os))) ?_
  intro W base args ds gs before hval hW _ _ hz _ hS _
  exact contract H enc W base args ds gs before hval hW hz hS

theorem said : Rows.HullAddPointSaid :=
  OpenClaim.holds_of_cond 6 Try.f6 rfl rfl rfl rfl rfl rfl rfl ⟨rfl, rfl, rfl, rfl, rfl⟩ rfl rfl rfl rfl rfl (by kernel_rfl) Try.func6 (by kernel_rfl)
    (of_decide_eq_true (by kernel_rfl)) (by unfold Func.isWrapper; first | (rw [if_pos (by decide +kernel)]; kernel_rfl) | (rw [if_neg (by decide +kernel)]; exact ⟨rfl, rfl⟩))
    (fun os started H enc _ F => by rw [OpenClaim.pre_eq_preRow]; exact lifted os started H enc F)

#print axioms said
end Go.Proofs.Ytgjaamjbagoieaa.addPoint
