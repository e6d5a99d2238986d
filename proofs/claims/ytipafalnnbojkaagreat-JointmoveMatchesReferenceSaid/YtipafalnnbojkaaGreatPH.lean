import Derived.Test.YtipafalnnbojkaaGreatPD
set_option linter.unusedVariables false
set_option linter.unusedSimpArgs false
set_option linter.unnecessarySimpa false
set_option linter.unusedSectionVars false
set_option maxRecDepth 100000
set_option linter.unusedVariables false
namespace Go.Jm
open Go Go.Am Go.Proofs IntKind
theorem Z80Eq (n:Nat) (a0:List D1):Z80 (n+2) a0 =
 (br (decide (a0.length≤8796093022208)) ((Z120 (n+1) a0).bind fun x251=>(br x251 (br (decide (0+a0.length≤a0.length)) (some [(a0.take (a0.length))]) none) ((Z80L5 (n+1) ((((a0.length:Nat):Int),([],())),(a0,()))).bind fun l281=>(match l281 with | .inl y282=>(br (decide (0+(Int.toNat y282.1.1)≤(y282.2.1).length)) (br (decide (((y282.1.2.1).length+([((y282.2.1).take (Int.toNat y282.1.1))]).length)*24≤140737488355328)) (some (y282.1.2.1 ++ [((y282.2.1).take (Int.toNat y282.1.1))])) none) none) | .inr y283=>some y283.1.1)))) none):=by
 refine ((fun n=>Eq.trans (Eq.refl _) (Eq.refl _):∀ n,Z80 n a0=(run X0 n).callT 80 K11 [.slice false K0 a0]) (n+2)).trans ((run_callT1 X0 n _ _ _).trans ?_)
 simp -implicitDefEqProofs only [← Z80L5F,← Z120F]
 generalize (run X0 (n+1)).callT=T1;generalize (run X0 (n+1)).loop=L1
 generalize run X0 n=R
 as_aux_lemma=>kernel_rfl
theorem Z105Eq (n:Nat) (a0:D1) (a1:D1) (a2:D1):Z105 (n+1) a0 a1 a2 =
 (Z151 n a1 a0).bind fun x295=>(Z151 n a2 a0).bind fun x296=>(br (decide ((0:Int)<(i64.wrap ((i64.wrap (x295.1*x296.2))-(i64.wrap (x295.2*x296.1)))))) (some (1:Int)) (br (decide ((i64.wrap ((i64.wrap (x295.1*x296.2))-(i64.wrap (x295.2*x296.1))))<(0:Int))) (some (-1:Int)) (some (0:Int)))):=by kernel_rfl
theorem Z109L2Eq (n:Nat) (z:((D18×(D6×D10))×(((D1×D1)×Unit)×Unit))):Z109L2 (n+2)  z =
 (fun (p:Int)=>(br (decide (p<z.1.2.2.1)) (br (decide (0≤p)) (((z.1.2.1)[p.toNat]?).bind fun e294=>(Z105 n z.2.1.1.1 z.2.1.1.2 e294).bind fun x297=>(br (!(decide (x297<0))) (some (.inr (((false,()),z.2)))) (Z109L2 (n+1) ((((),((),())),(z.1.2.1,(z.1.2.2.1,((i64.wrap (p+1)),())))),z.2)))) none) (some (.inl ((),z.2))))) z.1.2.2.2.1:=by
 refine ((fun n=>Eq.trans (Eq.refl _) (Eq.refl _):∀ n,Z109L2 n  z=(run X0 n).loop (loopOf X0 109 2) sh109x2x0 { fn:=109,base:=1,nt:=18,loops:=[] } z) (n+2)).trans ((run_loop1 X0 n _ _ _ _).trans ?_)
 simp -implicitDefEqProofs only [← Z105F,← Z109L2F]
 generalize (run X0 (n+1)).callT=T1;generalize (run X0 (n+1)).loop=L1
 generalize run X0 n=R
 as_aux_lemma=>kernel_rfl
theorem Z68Eq (n:Nat) (a0:(D1×D1)) (a1:List D1):Z68 (n+2) a0 a1 =
 (Z109L2 n ((((),((),())),(a1,((a1.length:Int),((0:Int),())))),((a0,()),()))).bind fun l298=>(match l298 with | .inl y299=>some true | .inr y300=>some y300.1.1):=by
 refine ((fun n=>Eq.trans (Eq.refl _) (Eq.refl _):∀ n,Z68 n a0 a1=(run X0 n).callT 68 .bool (Z68A a0 a1)) (n+2)).trans ((run_callT1 X0 n _ _ _).trans ?_)
 simp -implicitDefEqProofs only [← Z109L2F]
 generalize (run X0 (n+1)).callT=T1;generalize (run X0 (n+1)).loop=L1
 generalize run X0 n=R
 as_aux_lemma=>kernel_rfl
theorem Z123L1Eq (n:Nat) (c0:List D1) (c1:List D1) (c2:List D1) (c3:(D6×D6)) (c4:Int) (c5:Bool) (c6:Int) (c7:List D1) (c8:List D1) (c9:List D1) (c10:(D6×D6)) (c11:Int) (c12:List D1) (c13:List D1) (z:(D27×(D17×(D12×(D4×(D13×D38)))))):Z123L1 (n+2) c0 c1 c2 c3 c4 c5 c6 c7 c8 c9 c10 c11 c12 c13 z =
 (fun (p:Int) (p0:D6)=>(br (decide (p<z.1.2.2.2.1)) (br (decide (0≤p)) (((z.1.2.2.1)[p.toNat]?).bind fun e291=>(br (decide ((p0.length:Int)=0)) none (br (decide (0≤(((i64.wrap (p+1))).tmod (p0.length:Int)))) ((p0[((((i64.wrap (p+1))).tmod (p0.length:Int))).toNat]?).bind fun e292=>(Z68 n (e291,e292) z.2.2.2.2.1.1).bind fun x301=>(br x301 (some (.inr (((),(((z.2.2.2.1.1,p),()),((true,()),z.2.2.2)))))) (Z123L1 (n+1) c0 c1 c2 c3 c4 c5 c6 c7 c8 c9 c10 c11 c12 c13 ((((),()),((),(z.1.2.2.1,(z.1.2.2.2.1,((i64.wrap (p+1)),()))))),z.2)))) none))) none) (some (.inl ((),z.2))))) z.1.2.2.2.2.1 z.2.2.2.2.2.1.1:=by
 refine ((fun n=>Eq.trans (Eq.refl _) (Eq.refl _):∀ n,Z123L1 n c0 c1 c2 c3 c4 c5 c6 c7 c8 c9 c10 c11 c12 c13 z=(run X0 n).loop (loopOf X0 123 1) sh123x1x0 (Z123L1M c0 c1 c2 c3 c4 c5 c6 c7 c8 c9 c10 c11 c12 c13) z) (n+2)).trans ((run_loop1 X0 n _ _ _ _).trans ?_)
 simp -implicitDefEqProofs only [← Z68F,← Z123L1F]
 generalize (run X0 (n+1)).callT=T1;generalize (run X0 (n+1)).loop=L1
 generalize run X0 n=R
 as_aux_lemma=>kernel_rfl
theorem Z41L2Eq (n:Nat) (z:((D6×(D6×(Unit×(Unit×((D6×D6)×D4)))))×(D17×D20))):Z41L2 (n+2)  z =
 (fun (p:Int) (p0:D6) (p1:D6) (p2:D6) (p3:(List D1×List D1)) (p4:D6) (p5:D4)=>(br (decide (p<2)) (br (decide (p=1)) (br (decide (p=1)) ((Z123L1 n p4 p2 p0 p3 p true p p0 p2 p4 (p2,p4) p p4 p0 ((((),()),((),(p0,((p0.length:Int),((0:Int),()))))),(z.2.1,(z.2.2.1,(p5,((p4,()),((p0,()),()))))))).bind fun l311=>(match l311 with | .inl y312=>Z41L2 (n+1) ((p4,(p2,((),((),(p3,((i64.wrap (p+1)),())))))),(y312.2.1,(y312.2.2.1,()))) | .inr y313=>some (.inr ((((),((),())),(y313.2.1,(y313.2.2.1,()))))))) (br (decide (p=0)) ((Z123L1 n p4 p2 p0 p3 p true p p0 p2 p4 (p2,p4) p p2 p0 ((((),()),((),(p0,((p0.length:Int),((0:Int),()))))),(z.2.1,(z.2.2.1,(p5,((p2,()),((p0,()),()))))))).bind fun l308=>(match l308 with | .inl y309=>Z41L2 (n+1) ((p4,(p2,((),((),(p3,((i64.wrap (p+1)),())))))),(y309.2.1,(y309.2.2.1,()))) | .inr y310=>some (.inr ((((),((),())),(y310.2.1,(y310.2.2.1,()))))))) none)) (br (decide (p=0)) (br (decide (p=1)) ((Z123L1 n p4 p2 p1 p3 p true p p1 p2 p4 (p2,p4) p p4 p1 ((((),()),((),(p1,((p1.length:Int),((0:Int),()))))),(z.2.1,(z.2.2.1,(p5,((p4,()),((p1,()),()))))))).bind fun l305=>(match l305 with | .inl y306=>Z41L2 (n+1) ((p4,(p2,((),((),(p3,((i64.wrap (p+1)),())))))),(y306.2.1,(y306.2.2.1,()))) | .inr y307=>some (.inr ((((),((),())),(y307.2.1,(y307.2.2.1,()))))))) (br (decide (p=0)) ((Z123L1 n p4 p2 p1 p3 p true p p1 p2 p4 (p2,p4) p p2 p1 ((((),()),((),(p1,((p1.length:Int),((0:Int),()))))),(z.2.1,(z.2.2.1,(p5,((p2,()),((p1,()),()))))))).bind fun l302=>(match l302 with | .inl y303=>Z41L2 (n+1) ((p4,(p2,((),((),(p3,((i64.wrap (p+1)),())))))),(y303.2.1,(y303.2.2.1,()))) | .inr y304=>some (.inr ((((),((),())),(y304.2.1,(y304.2.2.1,()))))))) none)) none)) (some (.inl (((),((),())),z.2))))) z.1.2.2.2.2.2.1 z.1.2.2.2.2.1.2 z.1.2.2.2.2.1.1 z.1.2.1 z.1.2.2.2.2.1 z.1.1 z.1.2.2.2.2.2:=by
 refine ((fun n=>Eq.trans (Eq.refl _) (Eq.refl _):∀ n,Z41L2 n  z=(run X0 n).loop (loopOf X0 41 2) sh41x2x0 { fn:=41,base:=0,nt:=35,loops:=[] } z) (n+2)).trans ((run_loop1 X0 n _ _ _ _).trans ?_)
 simp -implicitDefEqProofs only [← Z123L1F,← Z41L2F]
 generalize (run X0 (n+1)).callT=T1;generalize (run X0 (n+1)).loop=L1
 generalize run X0 n=R
 as_aux_lemma=>kernel_rfl
theorem Z41Eq (n:Nat) (a0:List D1) (a1:List D1):Z41 (n+1) a0 a1 =
 (Z41L2 n ((a0,(a1,((),((),((a0,a1),((0:Int),())))))),((((0:Int),(0:Int)),()),((false,()),())))).bind fun l314=>(match l314 with | .inl y315=>some (((0:Int),(0:Int)),false) | .inr y316=>some (y316.2.1.1,y316.2.2.1.1)):=by kernel_rfl
theorem Z177Eq (n:Nat) (a0:D1) (a1:D1):Z177 (n+1) a0 a1 =
 some ((if decide (a1.1<a0.1)=true then a1.1 else a0.1),(if decide (a1.2<a0.2)=true then a1.2 else a0.2)):=by kernel_rfl
theorem Z176L2Eq (n:Nat) (z:D46):Z176L2 (n+1)  z =
 (fun (p:Int)=>(br (decide (p<z.1.2.2.2.2.1)) (br (decide (0≤p)) (((z.1.2.2.2.1)[p.toNat]?).bind fun e331=>(Z177 n z.2.1.1 e331).bind fun x332=>Z176L2 n ((((),()),((),((),(z.1.2.2.2.1,(z.1.2.2.2.2.1,((i64.wrap (p+1)),())))))),((x332,()),z.2.2))) none) (some (((),((),())),z.2)))) z.1.2.2.2.2.2.1:=by kernel_rfl
theorem Z176c1Eq (n:Nat) (a0:List D1) (a1:D1):Z176c1 (n+1) a0 a1 =
 (Z176L2 n ((((),()),((),((),(a0,((a0.length:Int),((0:Int),())))))),((a1,()),((((0:Int),(0:Int)),()),())))).bind fun l333=>some l333.2.1.1:=by kernel_rfl
theorem Z178Eq (n:Nat) (a0:D1) (a1:D1):Z178 (n+1) a0 a1 =
 some ((if decide (a0.1<a1.1)=true then a1.1 else a0.1),(if decide (a0.2<a1.2)=true then a1.2 else a0.2)):=by kernel_rfl
theorem Z176L2v1Eq (n:Nat) (z:D46):Z176L2v1 (n+1)  z =
 (fun (p:Int)=>(br (decide (p<z.1.2.2.2.2.1)) (br (decide (0≤p)) (((z.1.2.2.2.1)[p.toNat]?).bind fun e336=>(Z178 n z.2.1.1 e336).bind fun x337=>Z176L2v1 n ((((),()),((),((),(z.1.2.2.2.1,(z.1.2.2.2.2.1,((i64.wrap (p+1)),())))))),((x337,()),z.2.2))) none) (some (((),((),())),z.2)))) z.1.2.2.2.2.2.1:=by kernel_rfl
theorem Z176c2Eq (n:Nat) (a0:List D1) (a1:D1):Z176c2 (n+1) a0 a1 =
 (Z176L2v1 n ((((),()),((),((),(a0,((a0.length:Int),((0:Int),())))))),((a1,()),((((0:Int),(0:Int)),()),())))).bind fun l338=>some l338.2.1.1:=by kernel_rfl
theorem Z152Eq (n:Nat) (a0:List D1):Z152 (n+1) a0 =
 (br (decide ((a0.length:Int)=(0:Int))) (some (((0:Int),(0:Int)),((0:Int),(0:Int)))) ((a0[((0:Int)).toNat]?).bind fun e330=>(Z176c1 n a0 e330).bind fun x334=>((a0[((0:Int)).toNat]?).bind fun e335=>(Z176c2 n a0 e335).bind fun x339=>some (x334,x339)))):=by kernel_rfl
theorem Z112Eq (n:Nat) (a0:D1) (a1:D1) (a2:D1):Z112 (n+1) a0 a1 a2 =
 (Z152 n [a0,a1]).bind fun x340=>(br (decide (x340.1.1≤a2.1)) (br (decide (a2.1≤x340.2.1)) (br (decide (x340.1.2≤a2.2)) (some (decide (a2.2≤x340.2.2))) (some false)) (some false)) (some false)):=by kernel_rfl
theorem Z111Eq (n:Nat) (a0:D1) (a1:D1) (a2:D1) (a3:D1):Z111 (n+1) a0 a1 a2 a3 =
 (Z105 n a0 a1 a2).bind fun x328=>(Z105 n a0 a1 a3).bind fun x329=>(br (decide (x328=0)) ((Z112 n a0 a1 a2).bind fun x341=>(br x341 (some ((decide ((i64.wrap (x328*x329))<(0:Int))),true)) (br (decide (x329=0)) ((Z112 n a0 a1 a3).bind fun x342=>some ((decide ((i64.wrap (x328*x329))<(0:Int))),x342)) (some ((decide ((i64.wrap (x328*x329))<(0:Int))),false))))) (br (decide (x329=0)) ((Z112 n a0 a1 a3).bind fun x343=>some ((decide ((i64.wrap (x328*x329))<(0:Int))),x343)) (some ((decide ((i64.wrap (x328*x329))<(0:Int))),false)))):=by kernel_rfl
theorem Z69Eq (n:Nat) (a0:D1) (a1:D1) (a2:D1) (a3:D1):Z69 (n+1) a0 a1 a2 a3 =
 (Z111 n a0 a1 a2 a3).bind fun x344=>(Z111 n a2 a3 a0 a1).bind fun x345=>(br x344.1 (br x345.1 (some true) (br x344.2 (some true) (some x345.2))) (br x344.2 (some true) (some x345.2))):=by kernel_rfl
theorem Z123L1v2Eq (n:Nat) (c0:List D1) (c1:List D1) (c2:List D1) (c3:List D1) (c4:List D1) (c5:List D1) (c6:Int) (c7:Int) (c8:Int) (c9:Int) (c10:Int) (c11:List D1) (z:(D27×D64)):Z123L1v2 (n+2) c0 c1 c2 c3 c4 c5 c6 c7 c8 c9 c10 c11 z =
 (fun (p:Int) (p0:D6)=>(br (decide (p<z.1.2.2.2.1)) (br (decide (0≤p)) (((z.1.2.2.1)[p.toNat]?).bind fun e326=>(br (decide ((p0.length:Int)=0)) none (br (decide (0≤(((i64.wrap (p+1))).tmod (p0.length:Int)))) ((p0[((((i64.wrap (p+1))).tmod (p0.length:Int))).toNat]?).bind fun e327=>(Z69 n z.2.2.2.2.2.2.1.1.1 z.2.2.2.2.2.2.1.1.2 e326 e327).bind fun x346=>(br x346 (some (.inr (((),(z.2.1,((((1:Int),(z.2.2.2.2.2.1.1,p)),()),((true,()),z.2.2.2.2))))))) (Z123L1v2 (n+1) c0 c1 c2 c3 c4 c5 c6 c7 c8 c9 c10 c11 ((((),()),((),(z.1.2.2.1,(z.1.2.2.2.1,((i64.wrap (p+1)),()))))),z.2)))) none))) none) (some (.inl ((),z.2))))) z.1.2.2.2.2.1 z.2.2.2.2.2.2.2.1.1:=by
 refine ((fun n=>Eq.trans (Eq.refl _) (Eq.refl _):∀ n,Z123L1v2 n c0 c1 c2 c3 c4 c5 c6 c7 c8 c9 c10 c11 z=(run X0 n).loop (loopOf X0 123 1) sh123x1x2 (Z123L1v2M c0 c1 c2 c3 c4 c5 c6 c7 c8 c9 c10 c11) z) (n+2)).trans ((run_loop1 X0 n _ _ _ _).trans ?_)
 simp -implicitDefEqProofs only [← Z69F,← Z123L1v2F]
 generalize (run X0 (n+1)).callT=T1;generalize (run X0 (n+1)).loop=L1
 generalize run X0 n=R
 as_aux_lemma=>kernel_rfl
theorem Z123L1v1Eq (n:Nat) (c0:List D1) (c1:List D1) (c2:List D1) (z:(D27×D65)):Z123L1v1 (n+3) c0 c1 c2 z =
 (fun (p:Int) (p0:D6)=>(br (decide (p<z.1.2.2.2.1)) (br (decide (0≤p)) (((z.1.2.2.1)[p.toNat]?).bind fun e322=>(br (decide ((p0.length:Int)=0)) none (br (decide (0≤(((i64.wrap (p+1))).tmod (p0.length:Int)))) ((p0[((((i64.wrap (p+1))).tmod (p0.length:Int))).toNat]?).bind fun e323=>(Z123L1v2 n c0 c1 c2 c0 c1 c2 p e322.1 e322.2 e323.1 e323.2 z.2.1.1 ((((),()),((),(z.2.1.1,(((z.2.1.1).length:Int),((0:Int),()))))),(z.2.1,(z.2.2.1,(z.2.2.2.1,(z.2.2.2.2.1,(z.1.2.2.2.2,(((e322,e323),()),(z.2.1,()))))))))).bind fun l347=>(match l347 with | .inl y348=>Z123L1v1 (n+2) c0 c1 c2 ((((),()),((),(z.1.2.2.1,(z.1.2.2.2.1,((i64.wrap (p+1)),()))))),(y348.2.1,(y348.2.2.1,(y348.2.2.2.1,(y348.2.2.2.2.1,()))))) | .inr y349=>some (.inr (((),(y349.2.1,(y349.2.2.1,(y349.2.2.2.1,(y349.2.2.2.2.1,()))))))))) none))) none) (some (.inl ((),z.2))))) z.1.2.2.2.2.1 z.2.2.2.2.1.1:=by
 refine ((fun n=>Eq.trans (Eq.refl _) (Eq.refl _):∀ n,Z123L1v1 n c0 c1 c2 z=(run X0 n).loop (loopOf X0 123 1) sh123x1x1 (Z123L1v1M c0 c1 c2) z) (n+3)).trans ((run_loop2 X0 n _ _ _ _).trans ?_)
 simp -implicitDefEqProofs only [← Z123L1v1F,← Z123L1v2F]
 generalize (run X0 (n+2)).callT=T2;generalize (run X0 (n+2)).loop=L2
 generalize (run X0 (n+1)).callT=T1;generalize (run X0 (n+1)).loop=L1
 generalize run X0 n=R
 as_aux_lemma=>kernel_rfl
theorem Z106Eq (n:Nat) (a0:D1) (a1:D1) (a2:D1):Z106 (n+1) a0 a1 a2 =
 (Z112 n a0 a1 a2).bind fun x358=>(br x358 ((Z105 n a0 a1 a2).bind fun x359=>some (decide (x359=0))) (some false)):=by kernel_rfl
theorem Z150L1Eq (n:Nat) (c0:List D1) (c1:D1) (c2:List D1) (z:(D27×(D17×(D4×(D12×D38))))):Z150L1 (n+2) c0 c1 c2 z =
 (fun (p:Int) (p0:D6) (p1:Int)=>(br (decide (p<p1)) (br (decide (0≤p)) (((z.1.2.2.1)[p.toNat]?).bind fun e356=>(br (decide ((p0.length:Int)=0)) none (br (decide (0≤(((i64.wrap (p+1))).tmod (p0.length:Int)))) ((p0[((((i64.wrap (p+1))).tmod (p0.length:Int))).toNat]?).bind fun e357=>(Z106 n e356 e357 z.2.1.1).bind fun x360=>(br x360 (some (.inr (((),(z.2.1,(((0:Int),()),z.2.2.2)))))) (br (decide ((decide (z.2.1.1.2<e356.2))=(decide (z.2.1.1.2<e357.2)))) (Z150L1 (n+1) c0 c1 c2 ((((),()),((),(z.1.2.2.1,(p1,((i64.wrap (p+1)),()))))),z.2)) ((Z105 n e356 e357 z.2.1.1).bind fun x361=>(br (decide ((decide (0<x361))=(decide (e356.2<e357.2)))) (Z150L1 (n+1) c0 c1 c2 ((((),()),((),(z.1.2.2.1,(p1,((i64.wrap (p+1)),()))))),(z.2.1,(z.2.2.1,(((!z.2.2.2.1.1),()),z.2.2.2.2))))) (Z150L1 (n+1) c0 c1 c2 ((((),()),((),(z.1.2.2.1,(p1,((i64.wrap (p+1)),()))))),z.2))))))) none))) none) (some (.inl ((),z.2))))) z.1.2.2.2.2.1 z.2.2.2.2.1.1 z.1.2.2.2.1:=by
 refine ((fun n=>Eq.trans (Eq.refl _) (Eq.refl _):∀ n,Z150L1 n c0 c1 c2 z=(run X0 n).loop (loopOf X0 150 1) sh150x1x0 (Z150L1M c0 c1 c2) z) (n+2)).trans ((run_loop1 X0 n _ _ _ _).trans ?_)
 simp -implicitDefEqProofs only [← Z106F,← Z105F,← Z150L1F]
 generalize (run X0 (n+1)).callT=T1;generalize (run X0 (n+1)).loop=L1
 generalize run X0 n=R
 as_aux_lemma=>kernel_rfl
theorem Z63Eq (n:Nat) (a0:List D1) (a1:D1):Z63 (n+2) a0 a1 =
 (Z150L1 n a0 a1 a0 ((((),()),((),(a0,((a0.length:Int),((0:Int),()))))),((a1,()),(((0:Int),()),((false,()),((a0,()),())))))).bind fun l362=>(match l362 with | .inl y363=>(br y363.2.2.2.1.1 (some (1:Int)) (some (-1:Int))) | .inr y364=>some y364.2.2.1.1):=by
 refine ((fun n=>Eq.trans (Eq.refl _) (Eq.refl _):∀ n,Z63 n a0 a1=(run X0 n).callT 63 (.int .i64) (Z63A a0 a1)) (n+2)).trans ((run_callT1 X0 n _ _ _).trans ?_)
 simp -implicitDefEqProofs only [← Z150L1F]
 generalize (run X0 (n+1)).callT=T1;generalize (run X0 (n+1)).loop=L1
 generalize run X0 n=R
 as_aux_lemma=>kernel_rfl
theorem Z70Eq (n:Nat) (a0:List D1) (a1:Int) (a2:List D1):Z70 (n+1) a0 a1 a2 =
 (br (decide (0≤a1)) (br (decide (a1<(a0.length:Int))) (br (decide (0≤a1)) ((a0[a1.toNat]?).bind fun e353=>(Z63 n a2 e353).bind fun x365=>some (!decide (x365 = -1))) none) (some false)) (some false)):=by kernel_rfl
theorem Z43L10Eq (n:Nat) (z:D34):Z43L10 (n+1)  z =
 (fun (p:Int)=>(br (decide (p<z.1.2.2.2.2.1)) ((Z70 n z.1.1 p z.2.1.1).bind fun x366=>(br x366 (some (.inr ((((),((),())),((),((((2:Int),(p,(0:Int))),()),((true,()),()))))))) (Z43L10 n ((z.1.1,((),((),((),(z.1.2.2.2.2.1,((i64.wrap (p+1)),())))))),z.2)))) (some (.inl ((z.1.1,((),((),((),())))),z.2))))) z.1.2.2.2.2.2.1:=by kernel_rfl
theorem Z43L16Eq (n:Nat) (z:D34):Z43L16 (n+1)  z =
 (fun (p:Int)=>(br (decide (p<z.1.2.2.2.2.1)) ((Z70 n z.2.1.1 p z.1.1).bind fun x370=>(br x370 (some (.inr ((((),((),())),((),((((3:Int),((0:Int),p)),()),((true,()),()))))))) (Z43L16 n ((z.1.1,((),((),((),(z.1.2.2.2.2.1,((i64.wrap (p+1)),())))))),z.2)))) (some (.inl (((),((),())),((),z.2.2)))))) z.1.2.2.2.2.2.1:=by kernel_rfl
theorem Z43Eq (n:Nat) (a0:List D1) (a1:List D1):Z43 (n+2) a0 a1 =
 (Z123L1v1 n a0 a1 a0 ((((),()),((),(a0,((a0.length:Int),((0:Int),()))))),((a1,()),((((0:Int),((0:Int),(0:Int))),()),((false,()),((a0,()),())))))).bind fun l350=>(match l350 with | .inl y351=>(Z43L10 (n+1) ((a0,((),((),((),((a0.length:Int),((0:Int),())))))),(y351.2.1,(y351.2.2.1,(y351.2.2.2.1,()))))).bind fun l367=>(match l367 with | .inl y368=>(Z43L16 (n+1) ((y368.1.1,((),((),((),(((y368.2.1.1).length:Int),((0:Int),())))))),y368.2)).bind fun l371=>(match l371 with | .inl y372=>some (((0:Int),((0:Int),(0:Int))),false) | .inr y373=>some (y373.2.2.1.1,y373.2.2.2.1.1)) | .inr y369=>some (y369.2.2.1.1,y369.2.2.2.1.1)) | .inr y352=>some (y352.2.2.1.1,y352.2.2.2.1.1)):=by
 refine ((fun n=>Eq.trans (Eq.refl _) (Eq.refl _):∀ n,Z43 n a0 a1=(run X0 n).callT 43 (.pair K3 .bool) (Z43A a0 a1)) (n+2)).trans ((run_callT1 X0 n _ _ _).trans ?_)
 simp -implicitDefEqProofs only [← Z123L1v1F,← Z43L10F,← Z43L16F]
 generalize (run X0 (n+1)).callT=T1;generalize (run X0 (n+1)).loop=L1
 generalize run X0 n=R
 as_aux_lemma=>kernel_rfl
theorem Z79L8Eq (n:Nat) (c0:D0) (c1:D2) (c2:D5) (c3:D0) (c4:D2) (c5:D5) (c6:List D59) (z:(D19×D7)):Z79L8 (n+2) c0 c1 c2 c3 c4 c5 c6 z =
 (fun (p:Int) (p0:Int) (p1:D44) (p2:Int) (p3:D6)=>(br (decide (p<p0)) (br (decide (0≤p)) ((p1[p.toNat]?).bind fun e288=>(Z41 n p3 e288).bind fun x317=>(br (!x317.2) ((Z43 n p3 e288).bind fun x374=>some (.inr (((),(z.2.1,(z.2.2.1,(z.2.2.2.1,((((0:Int),(z.2.2.2.1.1,(z.1.2.1,(z.1.2.2.2.1,(p,x374.1))))),()),((true,()),z.2.2.2.2.2.2))))))))) (Z79L8 (n+1) c0 c1 c2 c3 c4 c5 c6 ((((),()),(z.1.2.1,(z.1.2.2.1,(z.1.2.2.2.1,(p3,(z.1.2.2.2.2.2.1,(z.1.2.2.2.2.2.2.1,(z.1.2.2.2.2.2.2.2.1,(z.1.2.2.2.2.2.2.2.2.1,(z.1.2.2.2.2.2.2.2.2.2.1,(p2,(p1,(p0,((i64.wrap (p+1)),())))))))))))))),z.2)))) none) (some (.inl ((((),()),(z.1.2.1,(z.1.2.2.1,(z.1.2.2.2.2.2.1,(z.1.2.2.2.2.2.2.1,(z.1.2.2.2.2.2.2.2.1,(z.1.2.2.2.2.2.2.2.2.1,(z.1.2.2.2.2.2.2.2.2.2.1,(p2,()))))))))),z.2))))) z.1.2.2.2.2.2.2.2.2.2.2.2.2.2.1 z.1.2.2.2.2.2.2.2.2.2.2.2.2.1 z.1.2.2.2.2.2.2.2.2.2.2.2.1 z.1.2.2.2.2.2.2.2.2.2.2.1 z.1.2.2.2.2.1:=by
 refine ((fun n=>Eq.trans (Eq.refl _) (Eq.refl _):∀ n,Z79L8 n c0 c1 c2 c3 c4 c5 c6 z=(run X0 n).loop (loopOf X0 79 8) sh79x8x0 (Z79L8M c0 c1 c2 c3 c4 c5 c6) z) (n+2)).trans ((run_loop1 X0 n _ _ _ _).trans ?_)
 simp -implicitDefEqProofs only [← Z43F,← Z41F,← Z79L8F]
 generalize (run X0 (n+1)).callT=T1;generalize (run X0 (n+1)).loop=L1
 generalize run X0 n=R
 as_aux_lemma=>kernel_rfl
theorem Z79L5Eq (n:Nat) (c0:D0) (c1:D2) (c2:D5) (c3:D0) (c4:D2) (c5:D5) (c6:List D59) (z:(D21×D7)):Z79L5 (n+1) c0 c1 c2 c3 c4 c5 c6 z =
 (fun (p:Int)=>(br (decide (p<z.1.2.2.2.2.2.2.2.1)) (br (decide (0≤p)) (((z.1.2.2.2.2.2.2.1)[p.toNat]?).bind fun e286=>(Z79L8 n c0 c1 c2 c3 c4 c5 c6 ((((),()),(z.1.2.1,(z.1.2.2.1,(p,(e286,(z.1.2.2.2.1,(z.1.2.2.2.2.1,(z.1.2.2.2.2.2.1,(z.1.2.2.2.2.2.2.1,(z.1.2.2.2.2.2.2.2.1,(p,(z.1.2.2.1,(((z.1.2.2.1).length:Int),((0:Int),())))))))))))))),z.2)).bind fun l375=>(match l375 with | .inl y376=>Z79L5 n c0 c1 c2 c3 c4 c5 c6 ((((),()),(y376.1.2.1,(y376.1.2.2.1,(y376.1.2.2.2.1,(y376.1.2.2.2.2.1,(y376.1.2.2.2.2.2.1,(y376.1.2.2.2.2.2.2.1,(y376.1.2.2.2.2.2.2.2.1,((i64.wrap (y376.1.2.2.2.2.2.2.2.2.1+1)),()))))))))),y376.2) | .inr y377=>some (.inr y377))) none) (some (.inl ((((),()),(z.1.2.2.2.1,(z.1.2.2.2.2.1,(z.1.2.2.2.2.2.1,())))),z.2))))) z.1.2.2.2.2.2.2.2.2.1:=by kernel_rfl
theorem Z79L1Eq (n:Nat) (c0:D0) (c1:D2) (c2:D5) (c3:D0) (c4:D2) (c5:D5) (c6:List D59) (z:((D9×(D14×D10))×D7)):Z79L1 (n+1) c0 c1 c2 c3 c4 c5 c6 z =
 (fun (p:Int)=>(br (decide (p<z.1.2.2.1)) (br (decide (0≤p)) (((z.1.2.1)[p.toNat]?).bind fun e240=>(Z80 n e240.2.2.2.2).bind fun x284=>(Z80 n e240.1.2.2.2).bind fun x285=>(Z79L5 n c0 c1 c2 c3 c4 c5 c6 ((((),()),(p,(x284,(z.1.2.1,(z.1.2.2.1,(p,(x285,((x285.length:Int),((0:Int),()))))))))),z.2)).bind fun l378=>(match l378 with | .inl y379=>Z79L1 n c0 c1 c2 c3 c4 c5 c6 ((((),()),(y379.1.2.1,(y379.1.2.2.1,((i64.wrap (y379.1.2.2.2.1+1)),())))),y379.2) | .inr y380=>some (.inr y380))) none) (some (.inl ((),z.2))))) z.1.2.2.2.1:=by kernel_rfl
theorem Z15Eq (n:Nat) (a0:D0) (a1:D2) (a2:D5):Z15 (n+2) a0 a1 a2 =
 (Z20 (n+1) a0 a1 a2).bind fun x239=>(Z79L1 n a0 a1 a2 a0 a1 a2 x239 ((((),()),(x239,((x239.length:Int),((0:Int),())))),((a0,()),((a1,()),((a2,()),((((0:Int),(((0:Int),((0:Int),(0:Int))),((0:Int),((0:Int),((0:Int),((0:Int),((0:Int),(0:Int)))))))),()),((false,()),((x239,()),())))))))).bind fun l381=>(match l381 with | .inl y382=>some (((0:Int),(((0:Int),((0:Int),(0:Int))),((0:Int),((0:Int),((0:Int),((0:Int),((0:Int),(0:Int)))))))),false) | .inr y383=>some (y383.2.2.2.2.1.1,y383.2.2.2.2.2.1.1)):=by
 refine ((fun n=>Eq.trans (Eq.refl _) (Eq.refl _):∀ n,Z15 n a0 a1 a2=(run X0 n).callT 15 (.pair K6 .bool) (Z15A a0 a1 a2)) (n+2)).trans ((run_callT1 X0 n _ _ _).trans ?_)
 simp -implicitDefEqProofs only [← Z79L1F,← Z20F]
 generalize (run X0 (n+1)).callT=T1;generalize (run X0 (n+1)).loop=L1
 generalize run X0 n=R
 as_aux_lemma=>kernel_rfl
theorem Z79L8v1Eq (n:Nat) (c0:D0) (c1:D2) (c2:D5) (c3:Bool) (c4:Int) (c5:Int) (c6:Int) (c7:Int) (c8:Int) (c9:Int) (c10:Int) (c11:Int) (c12:List Int) (c13:Bool) (c14:D0) (c15:D2) (c16:D5) (c17:Int) (c18:Int) (c19:Int) (c20:Int) (c21:Int) (c22:Int) (c23:Int) (c24:Int) (c25:List Int) (c26:Bool) (c27:D2) (c28:Bool) (c29:Bool) (c30:Bool) (c31:D0) (c32:D2) (c33:D5) (c34:List D59) (z:(D19×D8)):Z79L8v1 (n+2) c0 c1 c2 c3 c4 c5 c6 c7 c8 c9 c10 c11 c12 c13 c14 c15 c16 c17 c18 c19 c20 c21 c22 c23 c24 c25 c26 c27 c28 c29 c30 c31 c32 c33 c34 z =
 (fun (p:Int) (p0:Int) (p1:D44) (p2:Int)=>(br (decide (p<p0)) (br (decide (0≤p)) ((p1[p.toNat]?).bind fun e394=>(Z41 n z.1.2.2.2.2.1 e394).bind fun x395=>(br (!x395.2) (some (.inr (((),(z.2.1,(z.2.2.1,(z.2.2.2.1,(([],()),((false,()),z.2.2.2.2.2.2))))))))) (br (decide (((z.2.2.2.2.2.2.2.1.1).length+([x395.1]).length)*16≤140737488355328)) (Z79L8v1 (n+1) c0 c1 c2 c3 c4 c5 c6 c7 c8 c9 c10 c11 c12 c13 c14 c15 c16 c17 c18 c19 c20 c21 c22 c23 c24 c25 c26 c27 c28 c29 c30 c31 c32 c33 c34 ((((),()),(z.1.2.1,(z.1.2.2.1,(z.1.2.2.2.1,(z.1.2.2.2.2.1,(z.1.2.2.2.2.2.1,(z.1.2.2.2.2.2.2.1,(z.1.2.2.2.2.2.2.2.1,(z.1.2.2.2.2.2.2.2.2.1,(z.1.2.2.2.2.2.2.2.2.2.1,(p2,(p1,(p0,((i64.wrap (p+1)),())))))))))))))),(z.2.1,(z.2.2.1,(z.2.2.2.1,(z.2.2.2.2.1,(z.2.2.2.2.2.1,(z.2.2.2.2.2.2.1,(((z.2.2.2.2.2.2.2.1.1 ++ [x395.1]),()),z.2.2.2.2.2.2.2.2))))))))) none))) none) (some (.inl ((((),()),(z.1.2.1,(z.1.2.2.1,(z.1.2.2.2.2.2.1,(z.1.2.2.2.2.2.2.1,(z.1.2.2.2.2.2.2.2.1,(z.1.2.2.2.2.2.2.2.2.1,(z.1.2.2.2.2.2.2.2.2.2.1,(p2,()))))))))),z.2))))) z.1.2.2.2.2.2.2.2.2.2.2.2.2.2.1 z.1.2.2.2.2.2.2.2.2.2.2.2.2.1 z.1.2.2.2.2.2.2.2.2.2.2.2.1 z.1.2.2.2.2.2.2.2.2.2.2.1:=by
 refine ((fun n=>Eq.trans (Eq.refl _) (Eq.refl _):∀ n,Z79L8v1 n c0 c1 c2 c3 c4 c5 c6 c7 c8 c9 c10 c11 c12 c13 c14 c15 c16 c17 c18 c19 c20 c21 c22 c23 c24 c25 c26 c27 c28 c29 c30 c31 c32 c33 c34 z=(run X0 n).loop (loopOf X0 79 8) sh79x8x1 (Z79L8v1M c0 c1 c2 c3 c4 c5 c6 c7 c8 c9 c10 c11 c12 c13 c14 c15 c16 c17 c18 c19 c20 c21 c22 c23 c24 c25 c26 c27 c28 c29 c30 c31 c32 c33 c34) z) (n+2)).trans ((run_loop1 X0 n _ _ _ _).trans ?_)
 simp -implicitDefEqProofs only [← Z41F,← Z79L8v1F]
 generalize (run X0 (n+1)).callT=T1;generalize (run X0 (n+1)).loop=L1
 generalize run X0 n=R
 as_aux_lemma=>kernel_rfl
theorem Z79L5v1Eq (n:Nat) (c0:D0) (c1:D2) (c2:D5) (c3:Bool) (c4:Int) (c5:Int) (c6:Int) (c7:Int) (c8:Int) (c9:Int) (c10:Int) (c11:Int) (c12:List Int) (c13:Bool) (c14:D0) (c15:D2) (c16:D5) (c17:Int) (c18:Int) (c19:Int) (c20:Int) (c21:Int) (c22:Int) (c23:Int) (c24:Int) (c25:List Int) (c26:Bool) (c27:D2) (c28:Bool) (c29:Bool) (c30:Bool) (c31:D0) (c32:D2) (c33:D5) (c34:List D59) (z:(D21×D8)):Z79L5v1 (n+1) c0 c1 c2 c3 c4 c5 c6 c7 c8 c9 c10 c11 c12 c13 c14 c15 c16 c17 c18 c19 c20 c21 c22 c23 c24 c25 c26 c27 c28 c29 c30 c31 c32 c33 c34 z =
 (fun (p:Int)=>(br (decide (p<z.1.2.2.2.2.2.2.2.1)) (br (decide (0≤p)) (((z.1.2.2.2.2.2.2.1)[p.toNat]?).bind fun e392=>(Z79L8v1 n c0 c1 c2 c3 c4 c5 c6 c7 c8 c9 c10 c11 c12 c13 c14 c15 c16 c17 c18 c19 c20 c21 c22 c23 c24 c25 c26 c27 c28 c29 c30 c31 c32 c33 c34 ((((),()),(z.1.2.1,(z.1.2.2.1,(p,(e392,(z.1.2.2.2.1,(z.1.2.2.2.2.1,(z.1.2.2.2.2.2.1,(z.1.2.2.2.2.2.2.1,(z.1.2.2.2.2.2.2.2.1,(p,(z.1.2.2.1,(((z.1.2.2.1).length:Int),((0:Int),())))))))))))))),z.2)).bind fun l396=>(match l396 with | .inl y397=>Z79L5v1 n c0 c1 c2 c3 c4 c5 c6 c7 c8 c9 c10 c11 c12 c13 c14 c15 c16 c17 c18 c19 c20 c21 c22 c23 c24 c25 c26 c27 c28 c29 c30 c31 c32 c33 c34 ((((),()),(y397.1.2.1,(y397.1.2.2.1,(y397.1.2.2.2.1,(y397.1.2.2.2.2.1,(y397.1.2.2.2.2.2.1,(y397.1.2.2.2.2.2.2.1,(y397.1.2.2.2.2.2.2.2.1,((i64.wrap (y397.1.2.2.2.2.2.2.2.2.1+1)),()))))))))),y397.2) | .inr y398=>some (.inr y398))) none) (some (.inl ((((),()),(z.1.2.2.2.1,(z.1.2.2.2.2.1,(z.1.2.2.2.2.2.1,())))),z.2))))) z.1.2.2.2.2.2.2.2.2.1:=by kernel_rfl
theorem Z79L1v1Eq (n:Nat) (c0:D0) (c1:D2) (c2:D5) (c3:Bool) (c4:Int) (c5:Int) (c6:Int) (c7:Int) (c8:Int) (c9:Int) (c10:Int) (c11:Int) (c12:List Int) (c13:Bool) (c14:D0) (c15:D2) (c16:D5) (c17:Int) (c18:Int) (c19:Int) (c20:Int) (c21:Int) (c22:Int) (c23:Int) (c24:Int) (c25:List Int) (c26:Bool) (c27:D2) (c28:Bool) (c29:Bool) (c30:Bool) (c31:D0) (c32:D2) (c33:D5) (c34:List D59) (z:((D9×(D14×D10))×D8)):Z79L1v1 (n+1) c0 c1 c2 c3 c4 c5 c6 c7 c8 c9 c10 c11 c12 c13 c14 c15 c16 c17 c18 c19 c20 c21 c22 c23 c24 c25 c26 c27 c28 c29 c30 c31 c32 c33 c34 z =
 (fun (p:Int)=>(br (decide (p<z.1.2.2.1)) (br (decide (0≤p)) (((z.1.2.1)[p.toNat]?).bind fun e389=>(Z80 n e389.2.2.2.2).bind fun x390=>(Z80 n e389.1.2.2.2).bind fun x391=>(Z79L5v1 n c0 c1 c2 c3 c4 c5 c6 c7 c8 c9 c10 c11 c12 c13 c14 c15 c16 c17 c18 c19 c20 c21 c22 c23 c24 c25 c26 c27 c28 c29 c30 c31 c32 c33 c34 ((((),()),(p,(x390,(z.1.2.1,(z.1.2.2.1,(p,(x391,((x391.length:Int),((0:Int),()))))))))),z.2)).bind fun l399=>(match l399 with | .inl y400=>Z79L1v1 n c0 c1 c2 c3 c4 c5 c6 c7 c8 c9 c10 c11 c12 c13 c14 c15 c16 c17 c18 c19 c20 c21 c22 c23 c24 c25 c26 c27 c28 c29 c30 c31 c32 c33 c34 ((((),()),(y400.1.2.1,(y400.1.2.2.1,((i64.wrap (y400.1.2.2.2.1+1)),())))),y400.2) | .inr y401=>some (.inr y401))) none) (some (.inl ((),z.2))))) z.1.2.2.2.1:=by kernel_rfl
theorem Z13Eq (n:Nat) (a0:D0) (a1:D2) (a2:D5):Z13 (n+2) a0 a1 a2 =
 (Z11 (n+1) a0 a1 a2).bind fun x387=>(br (!x387.2) (some ([],false)) ((Z20 (n+1) a0 a1 a2).bind fun x388=>(Z79L1v1 n a0 a1 a2 x387.2 x387.1.1.1.1 x387.1.1.1.2.1 x387.1.1.1.2.2 x387.1.1.2.1 x387.1.1.2.2.1 x387.1.1.2.2.2 x387.1.2.1.1 x387.1.2.1.2 x387.1.2.2 x387.2 a0 a1 a2 x387.1.1.1.1 x387.1.1.1.2.1 x387.1.1.1.2.2 x387.1.1.2.1 x387.1.1.2.2.1 x387.1.1.2.2.2 x387.1.2.1.1 x387.1.2.1.2 x387.1.2.2 x387.2 x387.1 x387.2 x387.2 false a0 a1 a2 x388 ((((),()),(x388,((x388.length:Int),((0:Int),())))),((a0,()),((a1,()),((a2,()),(([],()),((false,()),((x387.1,()),(([],()),((x388,()),())))))))))).bind fun l402=>(match l402 with | .inl y403=>some (y403.2.2.2.2.2.2.2.1.1,true) | .inr y404=>some (y404.2.2.2.2.1.1,y404.2.2.2.2.2.1.1)))):=by
 refine ((fun n=>Eq.trans (Eq.refl _) (Eq.refl _):∀ n,Z13 n a0 a1 a2=(run X0 n).callT 13 (.pair K5 .bool) (Z13A a0 a1 a2)) (n+2)).trans ((run_callT1 X0 n _ _ _).trans ?_)
 simp -implicitDefEqProofs only [← Z11F,← Z79L1v1F,← Z20F]
 generalize (run X0 (n+1)).callT=T1;generalize (run X0 (n+1)).loop=L1
 generalize run X0 n=R
 as_aux_lemma=>kernel_rfl
theorem Z34Eq (n:Nat) (a0:List D1) (a1:List D1):Z34 (n+1) a0 a1 =
 (Z43 n a0 a1).bind fun x414=>some x414.2:=by kernel_rfl
theorem Z98L6v1Eq (n:Nat) (c0:D0) (c1:D2) (c2:D0) (c3:D2) (z:(D37×(D24×(D26×(D12×D53))))):Z98L6v1 (n+2) c0 c1 c2 c3 z =
 (fun (p:Int) (p0:Int) (p1:D22) (p2:Int) (p3:Int) (p4:D22) (p5:D6) (p6:Int) (p7:D22) (p8:D3) (p9:D26) (q:D24) (q0:D26)=>(br (decide (p<p0)) (br (decide (0≤p)) ((p1[p.toNat]?).bind fun e412=>(br (Ty.beq K0 (p6,e412.1) ((1:Int),(1:Int))) ((Z143 (n+1) p8 e412).bind fun x413=>(br x413 ((Z34 n p5 e412.2.2.2).bind fun x415=>(br x415 (some (.inr (((),(z.2.1,(q0,((false,()),(q,(p9,()))))))))) (Z98L6v1 (n+1) c0 c1 c2 c3 ((((),()),((),(p7,((),(p4,(p3,(p2,(p1,(p0,((i64.wrap (p+1)),())))))))))),z.2)))) (Z98L6v1 (n+1) c0 c1 c2 c3 ((((),()),((),(p7,((),(p4,(p3,(p2,(p1,(p0,((i64.wrap (p+1)),())))))))))),z.2)))) (br (Ty.beq K0 (p6,e412.1) ((1:Int),(2:Int))) ((Z144 (n+1) p8 e412).bind fun x416=>(br x416 ((Z34 n p5 e412.2.2.2).bind fun x417=>(br x417 (some (.inr (((),(z.2.1,(q0,((false,()),(q,(p9,()))))))))) (Z98L6v1 (n+1) c0 c1 c2 c3 ((((),()),((),(p7,((),(p4,(p3,(p2,(p1,(p0,((i64.wrap (p+1)),())))))))))),z.2)))) (Z98L6v1 (n+1) c0 c1 c2 c3 ((((),()),((),(p7,((),(p4,(p3,(p2,(p1,(p0,((i64.wrap (p+1)),())))))))))),z.2)))) (br (Ty.beq K0 (p6,e412.1) ((1:Int),(3:Int))) ((Z145 (n+1) p8 e412).bind fun x418=>(br x418 ((Z34 n p5 e412.2.2.2).bind fun x419=>(br x419 (some (.inr (((),(z.2.1,(q0,((false,()),(q,(p9,()))))))))) (Z98L6v1 (n+1) c0 c1 c2 c3 ((((),()),((),(p7,((),(p4,(p3,(p2,(p1,(p0,((i64.wrap (p+1)),())))))))))),z.2)))) (Z98L6v1 (n+1) c0 c1 c2 c3 ((((),()),((),(p7,((),(p4,(p3,(p2,(p1,(p0,((i64.wrap (p+1)),())))))))))),z.2)))) (br (Ty.beq K0 (p6,e412.1) ((1:Int),(4:Int))) ((Z146 (n+1) p8 e412).bind fun x420=>(br x420 ((Z34 n p5 e412.2.2.2).bind fun x421=>(br x421 (some (.inr (((),(z.2.1,(q0,((false,()),(q,(p9,()))))))))) (Z98L6v1 (n+1) c0 c1 c2 c3 ((((),()),((),(p7,((),(p4,(p3,(p2,(p1,(p0,((i64.wrap (p+1)),())))))))))),z.2)))) (Z98L6v1 (n+1) c0 c1 c2 c3 ((((),()),((),(p7,((),(p4,(p3,(p2,(p1,(p0,((i64.wrap (p+1)),())))))))))),z.2)))) (br (Ty.beq K0 (p6,e412.1) ((2:Int),(2:Int))) ((Z146 (n+1) p8 e412).bind fun x422=>(br x422 ((Z34 n p5 e412.2.2.2).bind fun x423=>(br x423 (some (.inr (((),(z.2.1,(q0,((false,()),(q,(p9,()))))))))) (Z98L6v1 (n+1) c0 c1 c2 c3 ((((),()),((),(p7,((),(p4,(p3,(p2,(p1,(p0,((i64.wrap (p+1)),())))))))))),z.2)))) (Z98L6v1 (n+1) c0 c1 c2 c3 ((((),()),((),(p7,((),(p4,(p3,(p2,(p1,(p0,((i64.wrap (p+1)),())))))))))),z.2)))) (br (Ty.beq K0 (p6,e412.1) ((2:Int),(3:Int))) ((Z146 (n+1) p8 e412).bind fun x424=>(br x424 ((Z34 n p5 e412.2.2.2).bind fun x425=>(br x425 (some (.inr (((),(z.2.1,(q0,((false,()),(q,(p9,()))))))))) (Z98L6v1 (n+1) c0 c1 c2 c3 ((((),()),((),(p7,((),(p4,(p3,(p2,(p1,(p0,((i64.wrap (p+1)),())))))))))),z.2)))) (Z98L6v1 (n+1) c0 c1 c2 c3 ((((),()),((),(p7,((),(p4,(p3,(p2,(p1,(p0,((i64.wrap (p+1)),())))))))))),z.2)))) (br (Ty.beq K0 (p6,e412.1) ((2:Int),(4:Int))) ((Z146 (n+1) p8 e412).bind fun x426=>(br x426 ((Z34 n p5 e412.2.2.2).bind fun x427=>(br x427 (some (.inr (((),(z.2.1,(q0,((false,()),(q,(p9,()))))))))) (Z98L6v1 (n+1) c0 c1 c2 c3 ((((),()),((),(p7,((),(p4,(p3,(p2,(p1,(p0,((i64.wrap (p+1)),())))))))))),z.2)))) (Z98L6v1 (n+1) c0 c1 c2 c3 ((((),()),((),(p7,((),(p4,(p3,(p2,(p1,(p0,((i64.wrap (p+1)),())))))))))),z.2)))) (Z98L6v1 (n+1) c0 c1 c2 c3 ((((),()),((),(p7,((),(p4,(p3,(p2,(p1,(p0,((i64.wrap (p+1)),())))))))))),z.2)))))))))) none) (some (.inl ((((),()),((),(p7,(p4,(p3,(p2,())))))),(z.2.1,(q0,(z.2.2.2.1,(q,(p9,((),()))))))))))) z.1.2.2.2.2.2.2.2.2.2.1 z.1.2.2.2.2.2.2.2.2.1 z.1.2.2.2.2.2.2.2.1 z.1.2.2.2.2.2.2.1 z.1.2.2.2.2.2.1 z.1.2.2.2.2.1 z.2.2.2.2.2.2.2.1.1.2.2.2 z.2.2.2.2.2.2.2.1.1.1 z.1.2.2.1 z.2.2.2.2.2.2.2.1.1 z.2.2.2.2.2.1 z.2.2.2.2.1 z.2.2.1:=by
 refine ((fun n=>Eq.trans (Eq.refl _) (Eq.refl _):∀ n,Z98L6v1 n c0 c1 c2 c3 z=(run X0 n).loop (loopOf X0 98 6) sh98x6x1 (Z98L6v1M c0 c1 c2 c3) z) (n+2)).trans ((run_loop1 X0 n _ _ _ _).trans ?_)
 simp -implicitDefEqProofs only [← Z146F,← Z145F,← Z144F,← Z143F,← Z98L6v1F,← Z34F]
 generalize (run X0 (n+1)).callT=T1;generalize (run X0 (n+1)).loop=L1
 generalize run X0 n=R
 as_aux_lemma=>kernel_rfl
theorem Z98L3v1Eq (n:Nat) (c0:D0) (c1:D2) (c2:D0) (c3:D2) (z:D43):Z98L3v1 (n+1) c0 c1 c2 c3 z =
 (fun (p:Int) (p0:D22)=>(br (decide (p<z.1.2.2.2.2.1)) (br (decide (0≤p)) (((z.1.2.2.2.1)[p.toNat]?).bind fun e409=>(br (decide (0≤(i64.wrap (p+1))∧(i64.wrap (p+1))≤(p0.length:Int)∧(p0.length:Int)≤(p0.length:Int))) ((Z98L6v1 n c0 c1 c2 c3 ((((),()),((),(p0,((),(z.1.2.2.2.1,(z.1.2.2.2.2.1,(p,(((p0.take ((p0.length:Int)).toNat).drop ((i64.wrap (p+1))).toNat),(((((p0.take ((p0.length:Int)).toNat).drop ((i64.wrap (p+1))).toNat)).length:Int),((0:Int),())))))))))),(z.2.1,(z.2.2.1,(z.2.2.2.1,(z.2.2.2.2.1,(z.2.2.2.2.2.1,((),((e409,()),()))))))))).bind fun l428=>(match l428 with | .inl y429=>Z98L3v1 n c0 c1 c2 c3 ((((),()),((),(y429.1.2.2.1,(y429.1.2.2.2.1,(y429.1.2.2.2.2.1,((i64.wrap (y429.1.2.2.2.2.2.1+1)),())))))),y429.2) | .inr y430=>some (.inr y430))) none)) none) (some (.inl ((),(z.2.1,(z.2.2.1,(z.2.2.2.1,(z.2.2.2.2.1,(z.2.2.2.2.2.1,())))))))))) z.1.2.2.2.2.2.1 z.1.2.2.1:=by kernel_rfl
theorem Z24Eq (n:Nat) (a0:D0) (a1:D2):Z24 (n+3) a0 a1 =
 (Z25 (n+1) a0 a1).bind fun x408=>(Z98L3v1 (n+1) a0 a1 a0 a1 ((((),()),((),(x408,(x408,((x408.length:Int),((0:Int),())))))),((a0,()),((a1,()),((false,()),((a0,()),((a1,()),((),())))))))).bind fun l431=>(match l431 with | .inl y432=>some true | .inr y433=>some y433.2.2.2.1.1):=by
 refine ((fun n=>Eq.trans (Eq.refl _) (Eq.refl _):∀ n,Z24 n a0 a1=(run X0 n).callT 24 .bool (Z24A a0 a1)) (n+3)).trans ((run_callT2 X0 n _ _ _).trans ?_)
 simp -implicitDefEqProofs only [← Z25F,← Z98L3v1F]
 generalize (run X0 (n+2)).callT=T2;generalize (run X0 (n+2)).loop=L2
 generalize (run X0 (n+1)).callT=T1;generalize (run X0 (n+1)).loop=L1
 generalize run X0 n=R
 as_aux_lemma=>kernel_rfl
theorem Z22Eq (n:Nat) (a0:D0) (a1:D2) (a2:D5):Z22 (n+1) a0 a1 a2 =
 (Z13 n a0 a1 a2).bind fun x435=>some x435.2:=by kernel_rfl
theorem Z60Eq (n:Nat) (a0:D1):Z60 (n+1) a0 =
 (br (decide ((if decide (a0.1<a0.2)=true then a0.2 else a0.1)≤(439400000:Int))) (some (decide ((-439400000:Int)≤(if decide (a0.2<a0.1)=true then a0.2 else a0.1)))) (some false)):=by kernel_rfl
theorem Z59Eq (n:Nat) (a0:D1):Z59 (n+1) a0 =
 (Z60 n a0).bind fun x441=>some (!x441):=by kernel_rfl
theorem Z103L2Eq (n:Nat) (z:((D6×(D9×D10))×Unit)):Z103L2 (n+1)  z =
 (fun (p:Int)=>(br (decide (p<z.1.2.2.1)) (br (decide (0≤p)) (((z.1.1)[p.toNat]?).bind fun e440=>(Z59 n e440).bind fun x442=>(br x442 (some (.inr ((z.1.2.2.2,())))) (Z103L2 n ((z.1.1,(((),()),(z.1.2.2.1,((i64.wrap (p+1)),())))),())))) none) (some (.inl ((),()))))) z.1.2.2.2.1:=by kernel_rfl
end Go.Jm
