import Derived.Test.YtigkjkmikicnnaaDoorBFrTop
import Derived.Test.YtigkjkmikicnnaaDoorBFrLen
set_option linter.unusedVariables false
set_option linter.unusedSimpArgs false
/-
  ambidexterlaw32.FramingLengthError answers true for every message, every number of bytes from one to three and every three bytes that are appended; the arguments read behind the call as they read before. The row lists two tables of package unicode/utf8; the card ties them to the program's text.
-/
namespace Go.Proofs.YtigkjkmikicnnaaDoor.lengthErr
open Go Go.Am Go.Fr Go.ChangeShapes Go.WideShapes Go.ChangeAt Go.RowKit

theorem contract (H : Type) (enc : TypeId × Value → H) (W : World) (base : Nat) (args : Array Value) (ds gs : List (DataW H)) (before : List MemPlace)
    (hval : ∀ (j : Nat) t v, Tryd.f8.params[j]? = some t → args[j]? = some v → Value.okWide Tryd.prog W .any base t v)
    (hW : DataW.Whole enc Tryd.prog Tryd.f8.params.toList Rows.framingLengthErrorSpec.vars false W args.toList ds gs before) (hS : W.ShapedOpen Tryd.prog) :
    Calls Tryd.prog 8 args W fun e W' => ∃ v, e = .returned v ∧ Rows.framingLengthErrorSpec.post enc Tryd.prog Tryd.f8 false true false false W args v W' := by
  obtain ⟨k, hk⟩ := maxLenCell hS
  refine law_contract (X := X0 k) (τs := [.pair (.int .i64) (.pair (.int .i64) (.slice (.int .i64))), .int .u8, .pair (.int .u8) (.pair (.int .u8) (.int .u8))]) (prog_ok k) (spec_ok k) laidOut rfl (by kernel_rfl) (by kernel_rfl) Tryd.underlying4 (by kernel_rfl) (by kernel_rfl) hval hW (globOk hk) ?_ ?_
  · intro hl
    have : Tryd.f8.params.size = 3 := by kernel_rfl
    rw [this] at hl
    match ds, hl with
    | [d0, d1, d2], _ => rfl
  · rintro ⟨⟨a, b, l⟩, y, ⟨p, q, r⟩, _⟩ ⟨_, h2, h3, _⟩
    obtain ⟨N, hN⟩ := Fr.lengthError (m := k) a b l y p q r (wf_u8 h2) (by
      have e1 := wf_u8 h3.1
      have e2 := wf_u8 h3.2.1
      have e3 := wf_u8 h3.2.2
      simp only [okBs, List.all_cons, List.all_nil, Bool.and_true, Bool.and_eq_true, okB_iff]
      exact ⟨e1, e2, e3⟩)
    exact ⟨N, hN N (Nat.le_refl _)⟩

set_option maxRecDepth 100000 in
theorem laid_met (os : Os) : laidMet Tryd.prog Rows.framingLengthErrorRow.laid ((laidWorld os).forCall (fun _ _ => 0) ⟨#[], #[aMsg, .int .u8 0, .agg #[.int .u8 0, .int .u8 0, .int .u8 0]], []⟩).memory :=
  laidMet_of_run' 8 (by kernel_rfl) (by kernel_rfl)
theorem reads (os : Os) {H : Type} (enc : TypeId × Value → H) : ∃ places, DataW.whole enc Tryd.prog ((laidWorld os).forCall (fun _ _ => 0) ⟨#[], #[aMsg, .int .u8 0, .agg #[.int .u8 0, .int .u8 0, .int .u8 0]], []⟩).memory Tryd.f8.params.toList Rows.framingLengthErrorSpec.vars false #[aMsg, .int .u8 0, .agg #[.int .u8 0, .int .u8 0, .int .u8 0]].toList 8 = some ([dMsg, .lit (.int .u8 0), .agg [.lit (.int .u8 0), .lit (.int .u8 0), .lit (.int .u8 0)]], [], places) :=
  ⟨[], by kernel_rfl⟩

set_option maxRecDepth 100000 in
theorem lifted (os : Os) (started : os.Started) (H : Type) (enc : TypeId × Value → H) (F : Stop.Interp) :
    ReturnsInHanded {} Tryd.checked os 8 .any ((OpenSpec.ofChange Rows.framingLengthErrorSpec).preRow enc Tryd.prog Tryd.f8 Rows.framingLengthErrorRow.domain false Rows.framingLengthErrorRow.laid) (((OpenSpec.ofChange Rows.framingLengthErrorSpec).at F).post enc Tryd.prog Tryd.f8 false true false false) := by
  obtain ⟨places, hx⟩ := reads os enc
  refine returnsInHanded_of_row (C := Tryd.checked) (s := OpenSpec.ofChange Rows.framingLengthErrorSpec) own started (by kernel_rfl) Tryd.func8
    (witness_row_at (enc := enc) (C := Tryd.checked) false (laidWorld os) #[aMsg, .int .u8 0, .agg #[.int .u8 0, .int .u8 0, .int .u8 0]] rfl (by kernel_rfl) (by kernel_rfl) (by kernel_rfl)
      (OpenSpec.preRow_of_cond 8 hx (by kernel_rfl) (fun k hk => by cases hk) (by kernel_rfl) (laid_met os))) ?_
  intro W base args ds gs before hval hW _ _ _ _ hS _
  exact contract H enc W base args ds gs before hval hW hS

theorem said : Rows.FramingLengthErrorSaid :=
  OpenClaim.holds_of_cond 8 Tryd.f8 rfl rfl rfl rfl rfl rfl rfl ⟨rfl, rfl, rfl, rfl, rfl⟩ rfl rfl rfl rfl rfl (by kernel_rfl) Tryd.func8 (by kernel_rfl)
    (of_decide_eq_true (by kernel_rfl)) (by unfold Func.isWrapper; first | (rw [if_pos (by decide +kernel)]; kernel_rfl) | (rw [if_neg (by decide +kernel)]; exact ⟨rfl, rfl⟩))
    (fun os started H enc _ F => by rw [OpenClaim.pre_eq_preRow]; exact lifted os started H enc F)

theorem plain (f : FuncId) (fn : Func) (hf : Tryd.pinned.checked.prog.funcNamed "ambidexter/ambidexterlaw32.FramingLengthError" = some f) (hfn : Tryd.pinned.checked.prog.funcs[f]? = some fn) :
    false = Tryd.pinned.checked.prog.looks [] ∧ ∀ (j : Nat) t, fn.params[j]? = some t → Tryd.pinned.checked.prog.wantsStandIn t = false := by
  obtain rfl : f = 8 := Option.some.inj ((show Tryd.prog.funcNamed "ambidexter/ambidexterlaw32.FramingLengthError" = some 8 by kernel_rfl).symm.trans hf) |>.symm
  obtain rfl : fn = Tryd.f8 := (Option.some.inj (Tryd.func8.symm.trans hfn)).symm
  refine ⟨by kernel_rfl, fun j t ht => ?_⟩
  have h : (Tryd.f8.params.toList.all fun t => !Tryd.pinned.checked.prog.wantsStandIn t) = true := by kernel_rfl
  rw [List.all_eq_true] at h
  simpa using h t (List.mem_of_getElem? (by rw [Array.getElem?_toList]; exact ht))

theorem card : Rows.FramingLengthErrorCardSaid :=
  Claim7.holds_tied_plain_at .later [] _ _ _ _ said (fun _ h => by cases h) (by kernel_rfl) (fun _ h => by cases h) framingLengthError_row_tie rfl ⟨rfl, rfl⟩ (by kernel_rfl) rfl plain (by kernel_rfl)
#print axioms card
end Go.Proofs.YtigkjkmikicnnaaDoor.lengthErr
