/-
  ambidexterlaw15.JointmoveMatchesReference answers true for every cell, every state, every move; each reads behind the call as it read before.
-/
import Derived.Test.YtipafalnnbojkaaGreatPE
import Derived.Test.YtipafalnnbojkaaGreatPM
set_option linter.unusedVariables false
set_option linter.unusedSimpArgs false
set_option linter.unnecessarySimpa false
set_option linter.unusedSectionVars false
namespace Go.Jm
open Go Go.Am Go.Proofs Go.Hu Go.Mo
theorem matchRefLaw (c:CellT) (w:Mo.StateT) (m:MoveT)   : Ev (fun n=>Z3 n c.1.1.1.1 c.1.1.1.2 c.1.1.2.1.1 c.1.1.2.1.2.1 c.1.1.2.1.2.2 c.1.1.2.2.1 c.1.1.2.2.2.1.1 c.1.1.2.2.2.1.2.1 c.1.1.2.2.2.1.2.2 c.1.1.2.2.2.2.1 c.1.1.2.2.2.2.2.1 c.1.1.2.2.2.2.2.2 c.1.2.1.1 c.1.2.1.2 c.1.2.2.1.1 c.1.2.2.1.2.1 c.1.2.2.1.2.2 c.1.2.2.2.1 c.1.2.2.2.2.1.1 c.1.2.2.2.2.1.2.1 c.1.2.2.2.2.1.2.2 c.1.2.2.2.2.2.1 c.1.2.2.2.2.2.2.1 c.1.2.2.2.2.2.2.2 c.2.1.1.1 c.2.1.1.2.1 c.2.1.1.2.2 c.2.1.2.1 c.2.1.2.2.1 c.2.1.2.2.2 c.2.2.1 c.2.2.2.1 c.2.2.2.2.1 c.2.2.2.2.2.1 c.2.2.2.2.2.2.1 c.2.2.2.2.2.2.2.1.1 c.2.2.2.2.2.2.2.1.2.1 c.2.2.2.2.2.2.2.1.2.2 c.2.2.2.2.2.2.2.2.1.1 c.2.2.2.2.2.2.2.2.1.2.1 c.2.2.2.2.2.2.2.2.1.2.2 c.2.2.2.2.2.2.2.2.2.1 c.2.2.2.2.2.2.2.2.2.2.1 c.2.2.2.2.2.2.2.2.2.2.2 w.1.1.1 w.1.1.2.1 w.1.1.2.2 w.1.2.1 w.1.2.2.1 w.1.2.2.2 w.2.1.1 w.2.1.2 w.2.2 m.1 m.2.1 m.2.2) true:=by
 obtain⟨⟨⟨⟨a0,a1⟩,⟨⟨a2,⟨a3,a4⟩⟩,⟨a5,⟨⟨a6,⟨a7,a8⟩⟩,⟨a9,⟨a10,a11⟩⟩⟩⟩⟩⟩,⟨⟨a12,a13⟩,⟨⟨a14,⟨a15,a16⟩⟩,⟨a17,⟨⟨a18,⟨a19,a20⟩⟩,⟨a21,⟨a22,a23⟩⟩⟩⟩⟩⟩⟩,⟨⟨⟨a24,⟨a25,a26⟩⟩,⟨a27,⟨a28,a29⟩⟩⟩,⟨a30,⟨a31,⟨a32,⟨a33,⟨a34,⟨⟨a35,⟨a36,a37⟩⟩,⟨⟨a38,⟨a39,a40⟩⟩,⟨a41,⟨a42,a43⟩⟩⟩⟩⟩⟩⟩⟩⟩⟩⟩:=c
 obtain⟨⟨⟨a44,⟨a45,a46⟩⟩,⟨a47,⟨a48,a49⟩⟩⟩,⟨⟨a50,a51⟩,a52⟩⟩:=w
 obtain⟨a53,⟨a54,a55⟩⟩:=m
 refine Ev.of_eq 1 ?_
 simp only[Z3Eq]
 exact matchLawEv ((((a0,a1),((a2,(a3,a4)),(a5,((a6,(a7,a8)),(a9,(a10,a11)))))),((a12,a13),((a14,(a15,a16)),(a17,((a18,(a19,a20)),(a21,(a22,a23))))))),(((a24,(a25,a26)),(a27,(a28,a29))),(a30,(a31,(a32,(a33,(a34,((a35,(a36,a37)),((a38,(a39,a40)),(a41,(a42,a43))))))))))) (((a44,(a45,a46)),(a47,(a48,a49))),((a50,a51),a52)) (a53,(a54,a55))
end Go.Jm
namespace Go.Proofs.YtipafalnnbojkaaGreat.matchRef
open Go Go.Am Go.Jm Go.ChangeShapes Go.WideShapes Go.ChangeAt Go.RowKit
set_option maxRecDepth 100000 in
theorem contract (H:Type) (enc:TypeId×Value→H) (W:World) (base:Nat) (args:Array Value) (ds gs:List (DataW H)) (before:List MemPlace)
  (hval:∀ (j:Nat) t v,Tryz.f3.params[j]?=some t→args[j]?=some v→Value.okWide Tryz.prog W .any base t v)
  (hW:DataW.Whole enc Tryz.prog Tryz.f3.params.toList Rows.jointmoveMatchesReferenceSpec.vars false W args.toList ds gs before) (hS:W.ShapedOpen Tryz.prog) :
  Calls Tryz.prog 3 args W fun e W'=>∃ v,e=.returned v∧Rows.jointmoveMatchesReferenceSpec.post enc Tryz.prog Tryz.f3 false true false false W args v W':=by
 refine law_contract (X:=X0) (g:=3) (f:=Tryz.f3) (s:=Rows.jointmoveMatchesReferenceSpec) (τs:=[tCell,tState,tMove]) prog_ok spec_ok specH_ok laidOut rfl (by kernel_rfl) (by kernel_rfl) Tryz.underlying4 (by kernel_rfl) (by kernel_rfl) hval hW globOk ?_ ?_
 ·intro hl
  have:Tryz.f3.params.size=3:=by kernel_rfl
  rw[this] at hl
  match ds,hl with
  | [d0,d1,d2],_=>rfl
 ·rintro⟨⟨⟨⟨⟨a0,a1⟩,⟨⟨a2,⟨a3,a4⟩⟩,⟨a5,⟨⟨a6,⟨a7,a8⟩⟩,⟨a9,⟨a10,a11⟩⟩⟩⟩⟩⟩,⟨⟨a12,a13⟩,⟨⟨a14,⟨a15,a16⟩⟩,⟨a17,⟨⟨a18,⟨a19,a20⟩⟩,⟨a21,⟨a22,a23⟩⟩⟩⟩⟩⟩⟩,⟨⟨⟨a24,⟨a25,a26⟩⟩,⟨a27,⟨a28,a29⟩⟩⟩,⟨a30,⟨a31,⟨a32,⟨a33,⟨a34,⟨⟨a35,⟨a36,a37⟩⟩,⟨⟨a38,⟨a39,a40⟩⟩,⟨a41,⟨a42,a43⟩⟩⟩⟩⟩⟩⟩⟩⟩⟩⟩,⟨⟨⟨a44,⟨a45,a46⟩⟩,⟨a47,⟨a48,a49⟩⟩⟩,⟨⟨a50,a51⟩,a52⟩⟩,⟨a53,⟨a54,a55⟩⟩,_⟩ ⟨_,_,_,_⟩
  obtain⟨N,hN⟩:=Jm.matchRefLaw ((((a0,a1),((a2,(a3,a4)),(a5,((a6,(a7,a8)),(a9,(a10,a11)))))),((a12,a13),((a14,(a15,a16)),(a17,((a18,(a19,a20)),(a21,(a22,a23))))))),(((a24,(a25,a26)),(a27,(a28,a29))),(a30,(a31,(a32,(a33,(a34,((a35,(a36,a37)),((a38,(a39,a40)),(a41,(a42,a43))))))))))) (((a44,(a45,a46)),(a47,(a48,a49))),((a50,a51),a52)) (a53,(a54,a55))
  exact⟨N,hN N (Nat.le_refl _)⟩
set_option maxRecDepth 100000 in
theorem laid_met (os:Os):laidMet Tryz.prog Rows.jointmoveMatchesReferenceRow.laid ((plainWorld os).forCall (fun _ _=>0) ⟨#[],#[aCell,aState,aMove],[]⟩).memory :=
 laidMet_nil _ _
theorem reads (os:Os) {H:Type} (enc:TypeId×Value→H):∃ places,DataW.whole enc Tryz.prog ((plainWorld os).forCall (fun _ _=>0) ⟨#[],#[aCell,aState,aMove],[]⟩).memory Tryz.f3.params.toList Rows.jointmoveMatchesReferenceSpec.vars false #[aCell,aState,aMove].toList 8=some ([dCell,dState,dMove],[],places) :=
 ⟨[],by kernel_rfl⟩
set_option maxRecDepth 100000 in
theorem lifted (os:Os) (started:os.Started) (H:Type) (enc:TypeId×Value→H) (F:Stop.Interp) :
  ReturnsInHanded {} Tryz.checked os 3 .any ((OpenSpec.ofChange Rows.jointmoveMatchesReferenceSpec).preRow enc Tryz.prog Tryz.f3 Rows.jointmoveMatchesReferenceRow.domain false Rows.jointmoveMatchesReferenceRow.laid) (((OpenSpec.ofChange Rows.jointmoveMatchesReferenceSpec).at F).post enc Tryz.prog Tryz.f3 false true false false):=by
 obtain⟨places,hx⟩:=reads os enc
 refine returnsInHanded_of_row (C:=Tryz.checked) (s:=OpenSpec.ofChange Rows.jointmoveMatchesReferenceSpec) own started (by kernel_rfl) Tryz.func3
  (witness_row_at (enc:=enc) (C:=Tryz.checked) false (plainWorld os) #[aCell,aState,aMove] rfl (by kernel_rfl) (by kernel_rfl) (by kernel_rfl)
   (OpenSpec.preRow_of_cond 8 hx (by kernel_rfl) (fun k hk=>by cases hk) (by kernel_rfl) (laid_met os))) ?_
 intro W base args ds gs before hval hW _ _ _ _ hS _
 exact contract H enc W base args ds gs before hval hW hS
theorem andI {a b:Bool} (h1:a=true) (h2:b=true):(a && b)=true:=by rw[h1,h2];rfl
set_option maxHeartbeats 4000000 in
theorem joined:joinedFacts Tryz.checked.prog 3 Tryz.f3 (OpenSpec.ofChange Rows.jointmoveMatchesReferenceSpec).bare Rows.jointmoveMatchesReferenceRow=true:=by
 unfold joinedFacts
 repeat' (with_reducible refine andI ?_ ?_)
 all_goals as_aux_lemma=>kernel_rfl
set_option maxHeartbeats 4000000 in
theorem said:Rows.JointmoveMatchesReferenceSaid :=
 OpenClaim.holds_of_cond 3 Tryz.f3 rfl rfl rfl rfl rfl rfl rfl ⟨rfl,rfl,rfl,rfl,rfl⟩ rfl rfl rfl rfl rfl (by kernel_rfl) Tryz.func3 joined
  (of_decide_eq_true (by kernel_rfl)) (by unfold Func.isWrapper;first | (rw[if_pos (by decide +kernel)];kernel_rfl) | (rw[if_neg (by decide +kernel)];exact⟨rfl,rfl⟩))
  (fun os started H enc _ F=>by rw[OpenClaim.pre_eq_preRow];exact lifted os started H enc F)
#print axioms said
end Go.Proofs.YtipafalnnbojkaaGreat.matchRef
