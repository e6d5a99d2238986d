import Derived.Test.YtigkjkmikicnnaaDoorCFbTop
set_option linter.unusedVariables false
set_option linter.unusedSimpArgs false
set_option linter.unnecessarySimpa false
/-
  ambidexterlaw32.FramingBurstError answers true for every message, every window of sixteen bits and every following message; the arguments read behind the call as they read before. The row lists two tables of package unicode/utf8; the card ties them to the program's text.
-/
namespace Go.Proofs.YtigkjkmikicnnaaDoor.burst
open Go Go.Am Go.Fb Go.ChangeShapes Go.WideShapes Go.ChangeAt Go.RowKit

theorem contract (H : Type) (enc : TypeId × Value → H) (W : World) (base : Nat) (args : Array Value) (ds gs : List (DataW H)) (before : List MemPlace)
    (hval : ∀ (j : Nat) t v, Tryd.f7.params[j]? = some t → args[j]? = some v → Value.okWide Tryd.prog W .any base t v)
    (hW : DataW.Whole enc Tryd.prog Tryd.f7.params.toList Rows.framingBurstErrorSpec.vars false W args.toList ds gs before) (hS : W.ShapedOpen Tryd.prog) :
    Calls Tryd.prog 7 args W fun e W' => ∃ v, e = .returned v ∧ Rows.framingBurstErrorSpec.post enc Tryd.prog Tryd.f7 false true false false W args v W' := by
  obtain ⟨k, hk⟩ := maxLenCell hS
  refine law_contract (X := X0 k) (τs := [.pair (.int .i64) (.pair (.int .i64) (.slice (.int .i64))), .int .u16, .int .u16, .pair (.int .i64) (.pair (.int .i64) (.slice (.int .i64)))]) (prog_ok k) (spec_ok k) (specH_none fun _ => rfl) laidOut rfl (by kernel_rfl) (by kernel_rfl) Tryd.underlying4 (by kernel_rfl) (by kernel_rfl) hval hW (globOk hk) ?_ ?_
  · intro hl
    have : Tryd.f7.params.size = 4 := by kernel_rfl
    rw [this] at hl
    match ds, hl with
    | [d0, d1, d2, d3], _ => rfl
  · rintro ⟨⟨a, b, l⟩, x, y, ⟨a', b', l'⟩, _⟩ ⟨_, h2, h3, _⟩
    obtain ⟨N, hN⟩ := Fb.burstI (m := k) a b l x y a' b' l' (wf_u16 h2) (wf_u16 h3)
    exact ⟨N, hN N (Nat.le_refl _)⟩

set_option maxRecDepth 100000 in
theorem laid_met (os : Os) : laidMet Tryd.prog Rows.framingBurstErrorRow.laid ((laidWorld os).forCall (fun _ _ => 0) ⟨#[], #[aMsg, .int .u16 0, .int .u16 0, aMsg], []⟩).memory :=
  laidMet_of_run' 8 (by kernel_rfl) (by kernel_rfl)
theorem reads (os : Os) {H : Type} (enc : TypeId × Value → H) : ∃ places, DataW.whole enc Tryd.prog ((laidWorld os).forCall (fun _ _ => 0) ⟨#[], #[aMsg, .int .u16 0, .int .u16 0, aMsg], []⟩).memory Tryd.f7.params.toList Rows.framingBurstErrorSpec.vars false #[aMsg, .int .u16 0, .int .u16 0, aMsg].toList 8 = some ([dMsg, .lit (.int .u16 0), .lit (.int .u16 0), dMsg], [], places) :=
  ⟨[], by kernel_rfl⟩

set_option maxRecDepth 100000 in
theorem lifted (os : Os) (started : os.Started) (H : Type) (enc : TypeId × Value → H) (F : Stop.Interp) :
    ReturnsInHanded {} Tryd.checked os 7 .any ((OpenSpec.ofChange Rows.framingBurstErrorSpec).preRow enc Tryd.prog Tryd.f7 Rows.framingBurstErrorRow.domain false Rows.framingBurstErrorRow.laid) (((OpenSpec.ofChange Rows.framingBurstErrorSpec).at F).post enc Tryd.prog Tryd.f7 false true false false) := by
  obtain ⟨places, hx⟩ := reads os enc
  refine returnsInHanded_of_row (C := Tryd.checked) (s := OpenSpec.ofChange Rows.framingBurstErrorSpec) own started (by kernel_rfl) Tryd.func7
    (witness_row_at (enc := enc) (C := Tryd.checked) false (laidWorld os) #[aMsg, .int .u16 0, .int .u16 0, aMsg] rfl (by kernel_rfl) (by kernel_rfl) (by kernel_rfl)
      (OpenSpec.preRow_of_cond 8 hx (by kernel_rfl) (fun k hk => by cases hk) (by kernel_rfl) (laid_met os))) ?_
  intro W base args ds gs before hval hW _ _ _ _ hS _
  exact contract H enc W base args ds gs before hval hW hS

theorem said : Rows.FramingBurstErrorSaid :=
  OpenClaim.holds_of_cond 7 Tryd.f7 rfl rfl rfl rfl rfl rfl rfl ⟨rfl, rfl, rfl, rfl, rfl⟩ rfl rfl rfl rfl rfl (by kernel_rfl) Tryd.func7 (by kernel_rfl)
    (of_decide_eq_true (by kernel_rfl)) (by unfold Func.isWrapper; first | (rw [if_pos (by decide +kernel)]; kernel_rfl) | (rw [if_neg (by decide +kernel)]; exact ⟨rfl, rfl⟩))
    (fun os started H enc _ F => by rw [OpenClaim.pre_eq_preRow]; exact lifted os started H enc F)

theorem plain (f : FuncId) (fn : Func) (hf : Tryd.pinned.checked.prog.funcNamed "ambidexter/ambidexterlaw32.FramingBurstError" = some f) (hfn : Tryd.pinned.checked.prog.funcs[f]? = some fn) :
    false = Tryd.pinned.checked.prog.looks [] ∧ ∀ (j : Nat) t, fn.params[j]? = some t → Tryd.pinned.checked.prog.wantsStandIn t = false := by
  obtain rfl : f = 7 := Option.some.inj ((show Tryd.prog.funcNamed "ambidexter/ambidexterlaw32.FramingBurstError" = some 7 by kernel_rfl).symm.trans hf) |>.symm
  obtain rfl : fn = Tryd.f7 := (Option.some.inj (Tryd.func7.symm.trans hfn)).symm
  refine ⟨by kernel_rfl, fun j t ht => ?_⟩
  have h : (Tryd.f7.params.toList.all fun t => !Tryd.pinned.checked.prog.wantsStandIn t) = true := by kernel_rfl
  rw [List.all_eq_true] at h
  simpa using h t (List.mem_of_getElem? (by rw [Array.getElem?_toList]; exact ht))

theorem card : Rows.FramingBurstErrorCardSaid :=
  Claim7.holds_tied_plain_at .later [] _ _ _ _ said (fun _ h => by cases h) (by kernel_rfl) (fun _ h => by cases h) framingBurstError_row_tie rfl ⟨rfl, rfl⟩ (by kernel_rfl) rfl plain (by kernel_rfl)
#print axioms card
end Go.Proofs.YtigkjkmikicnnaaDoor.burst
