/-
  ambidexterlaw17.RoadmapMatchesReference answers true for every cell, every state and every 3 numbers; each reads behind the call as it read before.
-/
import Derived.Test.YtcpkcfgipfalaaaGreatCPE
import Derived.Test.YtcpkcfgipfalaaaGreatCPM
set_option linter.unusedVariables false
set_option linter.unusedSimpArgs false
set_option linter.unnecessarySimpa false
set_option linter.unusedSectionVars false
namespace Go.Rm
open Go Go.Am Go.Proofs Go.Hu Go.Mo
theorem matchRefLaw (a0:Int) (a1:Int) (a2:Int) (a3:Int) (a4:Int) (a5:Int) (a6:Int) (a7:Int) (a8:Int) (a9:Int) (a10:Int) (a11:Int) (a12:Int) (a13:Int) (a14:Int) (a15:Int) (a16:Int) (a17:Int) (a18:Int) (a19:Int) (a20:Int) (a21:Int) (a22:Int) (a23:Int) (a24:Int) (a25:Int) (a26:Int) (a27:Int) (a28:Int) (a29:Int) (a30:List (List (Int×Int))) (a31:List (ByteArray×((Int×Int)×(Int×(Int×Int))))) (a32:List (ByteArray×((List (Int×Int))×Int))) (a33:List Int) (a34:Int) (a35:Int) (a36:Int) (a37:Int) (a38:Int) (a39:Int) (a40:Int) (a41:List (List (Int×Int))) (a42:Int) (a43:Int) (a44:Int) (a45:Int) (a46:Int) (a47:Int) (a48:Int) (a49:Int) (a50:Int) (a51:Int) (a52:List Int) (a53:Int) (a54:Int) (a55:Int) (h53:0≤a53∧a53<256) (h54:0≤a54∧a54<256) (h55:0≤a55∧a55<256):Ev (fun n=>Z3 n a0 a1 a2 a3 a4 a5 a6 a7 a8 a9 a10 a11 a12 a13 a14 a15 a16 a17 a18 a19 a20 a21 a22 a23 a24 a25 a26 a27 a28 a29 a30 a31 a32 a33 a34 a35 a36 a37 a38 a39 a40 a41 a42 a43 a44 a45 a46 a47 a48 a49 a50 a51 a52 a53 a54 a55) true:=by
 refine Ev.of_eq 1 ?_
 simp only[Z3Eq]
 exact matchesEv (c:=((((a0,a1),((a2,(a3,a4)),(a5,((a6,(a7,a8)),(a9,(a10,a11)))))),((a12,a13),((a14,(a15,a16)),(a17,((a18,(a19,a20)),(a21,(a22,a23))))))),(((a24,(a25,a26)),(a27,(a28,a29))),(a30,(a31,(a32,(a33,(a34,((a35,(a36,a37)),((a38,(a39,a40)),(a41,(a42,a43)))))))))))) (w:=(((a44,(a45,a46)),(a47,(a48,a49))),((a50,a51),a52))) h53 h54 h55
end Go.Rm
namespace Go.Proofs.YtcpkcfgipfalaaaGreat.matchRef
open Go Go.Am Go.Rm Go.ChangeShapes Go.WideShapes Go.ChangeAt Go.RowKit
set_option maxRecDepth 100000 in
theorem contract (H:Type) (enc:TypeId×Value→H) (W:World) (base:Nat) (args:Array Value) (ds gs:List (DataW H)) (before:List MemPlace)
  (hval:∀ (j:Nat) t v,Tryz.f3.params[j]?=some t→args[j]?=some v→Value.okWide Tryz.prog W .any base t v)
  (hW:DataW.Whole enc Tryz.prog Tryz.f3.params.toList Rows.roadmapMatchesReferenceSpec.vars false W args.toList ds gs before) (hS:W.ShapedOpen Tryz.prog) :
  Calls Tryz.prog 3 args W fun e W'=>∃ v,e=.returned v∧Rows.roadmapMatchesReferenceSpec.post enc Tryz.prog Tryz.f3 false true false false W args v W':=by
 refine law_contract (X:=X0) (g:=3) (f:=Tryz.f3) (s:=Rows.roadmapMatchesReferenceSpec) (τs:=[tCell,tState,.int .u8,.int .u8,.int .u8]) prog_ok spec_ok specH_ok laidOut rfl (by kernel_rfl) (by kernel_rfl) Tryz.underlying4 (by kernel_rfl) (by kernel_rfl) hval hW globOk ?_ ?_
 ·intro hl
  have:Tryz.f3.params.size=5:=by kernel_rfl
  rw[this] at hl
  match ds,hl with
  | [d0,d1,d2,d3,d4],_=>rfl
 ·rintro⟨⟨⟨⟨⟨a0,a1⟩,⟨⟨a2,⟨a3,a4⟩⟩,⟨a5,⟨⟨a6,⟨a7,a8⟩⟩,⟨a9,⟨a10,a11⟩⟩⟩⟩⟩⟩,⟨⟨a12,a13⟩,⟨⟨a14,⟨a15,a16⟩⟩,⟨a17,⟨⟨a18,⟨a19,a20⟩⟩,⟨a21,⟨a22,a23⟩⟩⟩⟩⟩⟩⟩,⟨⟨⟨a24,⟨a25,a26⟩⟩,⟨a27,⟨a28,a29⟩⟩⟩,⟨a30,⟨a31,⟨a32,⟨a33,⟨a34,⟨⟨a35,⟨a36,a37⟩⟩,⟨⟨a38,⟨a39,a40⟩⟩,⟨a41,⟨a42,a43⟩⟩⟩⟩⟩⟩⟩⟩⟩⟩⟩,⟨⟨⟨a44,⟨a45,a46⟩⟩,⟨a47,⟨a48,a49⟩⟩⟩,⟨⟨a50,a51⟩,a52⟩⟩,a53,a54,a55,_⟩ ⟨_,_,h0,h1,h2,_⟩
  obtain⟨N,hN⟩:=Rm.matchRefLaw a0 a1 a2 a3 a4 a5 a6 a7 a8 a9 a10 a11 a12 a13 a14 a15 a16 a17 a18 a19 a20 a21 a22 a23 a24 a25 a26 a27 a28 a29 a30 a31 a32 a33 a34 a35 a36 a37 a38 a39 a40 a41 a42 a43 a44 a45 a46 a47 a48 a49 a50 a51 a52 a53 a54 a55 (wf_u8 h0) (wf_u8 h1) (wf_u8 h2)
  exact⟨N,hN N (Nat.le_refl _)⟩
set_option maxRecDepth 100000 in
theorem laid_met (os:Os):laidMet Tryz.prog Rows.roadmapMatchesReferenceRow.laid ((plainWorld os).forCall (fun _ _=>0) ⟨#[],#[aCell,aState,.int .u8 0,.int .u8 0,.int .u8 0],[]⟩).memory :=
 laidMet_nil _ _
theorem reads (os:Os) {H:Type} (enc:TypeId×Value→H):∃ places,DataW.whole enc Tryz.prog ((plainWorld os).forCall (fun _ _=>0) ⟨#[],#[aCell,aState,.int .u8 0,.int .u8 0,.int .u8 0],[]⟩).memory Tryz.f3.params.toList Rows.roadmapMatchesReferenceSpec.vars false #[aCell,aState,.int .u8 0,.int .u8 0,.int .u8 0].toList 8=some ([dCell,dState,.lit (.int .u8 0),.lit (.int .u8 0),.lit (.int .u8 0)],[],places) :=
 ⟨[],by kernel_rfl⟩
set_option maxRecDepth 100000 in
theorem lifted (os:Os) (started:os.Started) (H:Type) (enc:TypeId×Value→H) (F:Stop.Interp) :
  ReturnsInHanded {} Tryz.checked os 3 .any ((OpenSpec.ofChange Rows.roadmapMatchesReferenceSpec).preRow enc Tryz.prog Tryz.f3 Rows.roadmapMatchesReferenceRow.domain false Rows.roadmapMatchesReferenceRow.laid) (((OpenSpec.ofChange Rows.roadmapMatchesReferenceSpec).at F).post enc Tryz.prog Tryz.f3 false true false false):=by
 obtain⟨places,hx⟩:=reads os enc
 refine returnsInHanded_of_row (C:=Tryz.checked) (s:=OpenSpec.ofChange Rows.roadmapMatchesReferenceSpec) own started (by kernel_rfl) Tryz.func3
  (witness_row_at (enc:=enc) (C:=Tryz.checked) false (plainWorld os) #[aCell,aState,.int .u8 0,.int .u8 0,.int .u8 0] rfl (by kernel_rfl) (by kernel_rfl) (by kernel_rfl)
   (OpenSpec.preRow_of_cond 8 hx (by kernel_rfl) (fun k hk=>by cases hk) (by kernel_rfl) (laid_met os))) ?_
 intro W base args ds gs before hval hW _ _ _ _ hS _
 exact contract H enc W base args ds gs before hval hW hS
theorem said:Rows.RoadmapMatchesReferenceSaid :=
 OpenClaim.holds_of_cond 3 Tryz.f3 rfl rfl rfl rfl rfl rfl rfl ⟨rfl,rfl,rfl,rfl,rfl⟩ rfl rfl rfl rfl rfl (by kernel_rfl) Tryz.func3 (by kernel_rfl)
  (of_decide_eq_true (by kernel_rfl)) (by unfold Func.isWrapper;first | (rw[if_pos (by decide +kernel)];kernel_rfl) | (rw[if_neg (by decide +kernel)];exact⟨rfl,rfl⟩))
  (fun os started H enc _ F=>by rw[OpenClaim.pre_eq_preRow];exact lifted os started H enc F)
#print axioms said
end Go.Proofs.YtcpkcfgipfalaaaGreat.matchRef
