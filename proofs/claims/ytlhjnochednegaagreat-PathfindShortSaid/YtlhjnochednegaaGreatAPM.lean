import Derived.Test.YtlhjnochednegaaGreatAPL
set_option linter.unusedVariables false
set_option linter.unusedSimpArgs false
set_option linter.unnecessarySimpa false
set_option linter.unusedSectionVars false
namespace Go.Pf
open Go Go.Am Go.Proofs Go.Hu Go.Mo
def PL (c:CellT) (q:Prop) (y:((Unit×Unit)×((CellT×Unit)×Unit)) ⊕ ((Bool×Unit)×Unit)):Prop:=(y=.inl (((),()),((c,()),()))∧q)∨y=.inr ((false,()),())
theorem cellL2 (c:CellT):∃ y,Ev (fun n=>Z33L2 n (((),((0:Int),())),((c,()),()))) y∧PL c (ArmOk c.1.1∧ArmOk c.1.2) y:=by
 have e2:Ev (fun n=>Z33L2 n (((),((2:Int),())),((c,()),()))) (.inl (((),()),((c,()),()))):=by
  refine Ev.of_eq 1 ?_
  simp (disch:=omega) only [Z33L2Eq,br_neg]
  exact Ev.pure _
 have e1:∃ y,Ev (fun n=>Z33L2 n (((),((1:Int),())),((c,()),()))) y∧PL c (ArmOk c.1.2) y:=by
  obtain⟨v,hv,hvt⟩:=armEv c.1.2
  cases v with
  | false =>
   refine⟨_,Ev.of_eq 1 ?_,.inr rfl⟩
   simp (disch:=omega) only [Z33L2Eq,br_pos,br_T]
   exact Ev.bind hv (Ev.pure _)
  | true =>
   cases hq:inLim c.1.2 c.2.1.2 with
   | false =>
    have hl:=rlimEv c.1.2 c.2.1.2
    rw[hq] at hl
    refine⟨_,Ev.of_eq 1 ?_,.inr rfl⟩
    simp (disch:=omega) only [Z33L2Eq,br_pos,br_T]
    refine Ev.bind hv ?_
    simp only[Bool.not_true,br_f]
    exact Ev.bind hl (Ev.pure _)
   | true =>
    have hl:=rlimEv c.1.2 c.2.1.2
    rw[hq] at hl
    obtain⟨y,e,hy⟩:=near_pick (hvt rfl) (F:=(.inr ((false,()),()):((Unit×Unit)×((CellT×Unit)×Unit)) ⊕ ((Bool×Unit)×Unit))) (N:=fun n=>Z33L2 n (((),((2:Int),())),((c,()),()))) (P:=PL c (ArmOk c.1.2)) (.inr rfl) fun hn=>⟨_,e2,.inl ⟨rfl,(hvt rfl).ok hn⟩⟩
    refine⟨y,Ev.of_eq 1 ?_,hy⟩
    simp (disch:=omega) only [Z33L2Eq,br_pos,br_T]
    refine Ev.bind hv ?_
    simp only[Bool.not_true,br_f]
    refine Ev.bind hl ?_
    have w2:IntKind.i64.wrap ((1:Int)+1)=2:=by rw[w64 (by omega) (by omega)];rfl
    simp only[Bool.not_true,br_f,w2]
    exact e
 obtain⟨y1,e1,hy1⟩:=e1
 obtain⟨v,hv,hvt⟩:=armEv c.1.1
 cases v with
 | false =>
  refine⟨_,Ev.of_eq 1 ?_,.inr rfl⟩
  simp (disch:=omega) only [Z33L2Eq,br_pos,br_neg,br_T]
  exact Ev.bind hv (Ev.pure _)
 | true =>
  cases hq:inLim c.1.1 c.2.1.1 with
  | false =>
   have hl:=rlimEv c.1.1 c.2.1.1
   rw[hq] at hl
   refine⟨_,Ev.of_eq 1 ?_,.inr rfl⟩
   simp (disch:=omega) only [Z33L2Eq,br_pos,br_neg,br_T]
   refine Ev.bind hv ?_
   simp only[Bool.not_true,br_f]
   exact Ev.bind hl (Ev.pure _)
  | true =>
   have hl:=rlimEv c.1.1 c.2.1.1
   rw[hq] at hl
   obtain⟨y,e,hy⟩:=near_pick (hvt rfl) (F:=(.inr ((false,()),()):((Unit×Unit)×((CellT×Unit)×Unit)) ⊕ ((Bool×Unit)×Unit))) (N:=fun n=>Z33L2 n (((),((1:Int),())),((c,()),()))) (P:=PL c (ArmOk c.1.1∧ArmOk c.1.2)) (.inr rfl) fun hn=>⟨y1,e1,by
    rcases hy1 with ⟨h1,h2⟩ | h1
    ·exact .inl ⟨h1,(hvt rfl).ok hn,h2⟩
    ·exact .inr h1⟩
   refine⟨y,Ev.of_eq 1 ?_,hy⟩
   simp (disch:=omega) only [Z33L2Eq,br_pos,br_neg,br_T]
   refine Ev.bind hv ?_
   simp only[Bool.not_true,br_f]
   refine Ev.bind hl ?_
   have w1:IntKind.i64.wrap ((0:Int)+1)=1:=by rw[w64 (by omega) (by omega)];rfl
   simp only[Bool.not_true,br_f,w1]
   exact e
theorem cellEv (c:CellT) (l2:c.2.2.2.2.2.2.2.2.2.1.length≤1000):∃ b,Ev (fun n=>Z33 n c) b∧(b=true→COk c):=by
 obtain⟨y,e,hy⟩:=cellL2 c
 rcases hy with ⟨rfl,ha,hb⟩ | rfl
 rotate_left
 ·refine⟨false,Ev.of_eq 1 ?_,fun e=>by cases e⟩
  simp only[Z33Eq]
  exact Ev.bind e (Ev.pure _)
 by_cases k1:(16:Int)<((c.2.2.2.1.length:Nat):Int)
 ·refine⟨false,Ev.of_eq 1 ?_,fun e=>by cases e⟩
  simp only[Z33Eq]
  refine Ev.bind e ?_
  simp only[br_pos k1]
  exact Ev.pure _
 by_cases k2:(8:Int)<((c.2.2.2.2.1.length:Nat):Int)
 ·refine⟨false,Ev.of_eq 1 ?_,fun e=>by cases e⟩
  simp only[Z33Eq]
  refine Ev.bind e ?_
  simp only[br_neg k1,br_pos k2]
  exact Ev.pure _
 by_cases k3:(16:Int)<((c.2.2.2.2.2.1.length:Nat):Int)
 ·refine⟨false,Ev.of_eq 1 ?_,fun e=>by cases e⟩
  simp only[Z33Eq]
  refine Ev.bind e ?_
  simp only[br_neg k1,br_neg k2,br_pos k3]
  exact Ev.pure _
 have l3:c.2.2.2.1.length≤16:=by omega
 have l4:c.2.2.2.2.1.length≤8:=by omega
 have l5:c.2.2.2.2.2.1.length≤16:=by omega
 obtain⟨u1,h1⟩:=boundedTot c.2.2.2.2.2.2.2.1
 obtain⟨u2,h2⟩:=boundedTot c.2.2.2.2.2.2.2.2.1
 obtain⟨t,ht⟩:∃ t:Bool,Ev (fun n=>(Z56 n c.2.2.2.2.2.2.2.1).bind fun x=>br x ((Z56 n c.2.2.2.2.2.2.2.2.1).bind fun x=>br x (br (decide (c.2.2.2.2.2.2.2.2.1.1≤c.2.2.2.2.2.2.2.1.1)) (br (decide (c.2.2.2.2.2.2.2.2.1.2.1≤c.2.2.2.2.2.2.2.1.2.1)) (some ((((),((decide (c.2.2.2.2.2.2.2.2.1.2.2≤c.2.2.2.2.2.2.2.1.2.2)),())),((c,()),())):(Unit×(Bool×Unit))×((CellT×Unit)×Unit))) (some (((),(false,())),((c,()),())))) (some (((),(false,())),((c,()),())))) (some (((),(false,())),((c,()),())))) (some (((),(false,())),((c,()),())))) (((),(t,())),((c,()),())):=by
  cases u1 with
  | false=>exact⟨_,Ev.bind h1 (Ev.pure _)⟩
  | true =>
   cases u2 with
   | false=>exact⟨_,Ev.bind h1 (Ev.bind h2 (Ev.pure _))⟩
   | true =>
    by_cases g1:c.2.2.2.2.2.2.2.2.1.1≤c.2.2.2.2.2.2.2.1.1
    ·by_cases g2:c.2.2.2.2.2.2.2.2.1.2.1≤c.2.2.2.2.2.2.2.1.2.1
     ·refine⟨decide (c.2.2.2.2.2.2.2.2.1.2.2≤c.2.2.2.2.2.2.2.1.2.2),Ev.bind h1 (Ev.bind h2 ?_)⟩
      simp only[br_t,br_pos g1,br_pos g2];exact Ev.pure _
     ·refine⟨false,Ev.bind h1 (Ev.bind h2 ?_)⟩
      simp only[br_t,br_pos g1,br_neg g2];exact Ev.pure _
    ·refine⟨false,Ev.bind h1 (Ev.bind h2 ?_)⟩
     simp only[br_t,br_neg g1];exact Ev.pure _
 obtain⟨b1,f1,p1⟩:=polysEv c.2.2.1
 obtain⟨b2,f2,p2⟩:=polysEv c.2.2.2.2.2.2.2.2.2.1
 obtain⟨b3,f3,p3⟩:=placesEv c.2.2.2.1 l3
 obtain⟨b4,f4,p4⟩:=partsOkEv c.2.2.2.2.1 ((c.2.2.2.1.length:Nat):Int) l4
 obtain⟨b5,f5⟩:=unlikeTot c.2.2.2.2.2.1 ((c.2.2.2.1.length:Nat):Int) (by omega)
 have fa:=areasEv c (by omega)
 have start:∀ {res:Bool} ,Ev (fun n=>(Z57 n c.2.2.1).bind fun x=>br x ((Z58 n c).bind fun x=>(Z57 n x).bind fun x=>br x ((Z59 n c.2.2.2.1).bind fun x=>br x ((Z60 n c.2.2.2.2.1 ((c.2.2.2.1.length:Nat):Int)).bind fun x=>br x ((Z61 n c.2.2.2.2.2.1 ((c.2.2.2.1.length:Nat):Int)).bind fun x=>br x (br (decide ((0:Int)≤c.2.2.2.2.2.2.1)) (br (decide (c.2.2.2.2.2.2.1≤(100:Int))) (br t (br (decide ((0:Int)≤c.2.2.2.2.2.2.2.2.2.2.1)) (br (decide (c.2.2.2.2.2.2.2.2.2.2.1≤(20:Int))) (br (decide ((1:Int)≤c.2.2.2.2.2.2.2.2.2.2.2)) (some (decide (c.2.2.2.2.2.2.2.2.2.2.2≤(8:Int)))) (some false)) (some false)) (some false)) (some false)) (some false)) (some false)) (some false)) (some false)) (some false)) (some false)) (some false)) res→Ev (fun n=>Z33 n c) res:=fun hres=>by
  refine Ev.of_eq 1 ?_
  simp only[Z33Eq]
  refine Ev.bind e ?_
  simp only[br_neg k1,br_neg k2,br_neg k3]
  refine Ev.bind ht ?_
  exact hres
 cases b1 with
 | false=>exact⟨false,start (Ev.bind f1 (Ev.pure _)),fun e=>by cases e⟩
 | true =>
 cases b2 with
 | false=>exact⟨false,start (Ev.bind f1 (Ev.bind fa (Ev.bind f2 (Ev.pure _)))),fun e=>by cases e⟩
 | true =>
 cases b3 with
 | false=>exact⟨false,start (Ev.bind f1 (Ev.bind fa (Ev.bind f2 (Ev.bind f3 (Ev.pure _))))),fun e=>by cases e⟩
 | true =>
 cases b4 with
 | false=>exact⟨false,start (Ev.bind f1 (Ev.bind fa (Ev.bind f2 (Ev.bind f3 (Ev.bind f4 (Ev.pure _)))))),fun e=>by cases e⟩
 | true =>
 cases b5 with
 | false=>exact⟨false,start (Ev.bind f1 (Ev.bind fa (Ev.bind f2 (Ev.bind f3 (Ev.bind f4 (Ev.bind f5 (Ev.pure _))))))),fun e=>by cases e⟩
 | true =>
  have hok:COk c:=⟨ha,hb,(p1 rfl).1,fun p hp=>⟨((p1 rfl).2 p hp).1.2,((p1 rfl).2 p hp).2⟩,l4,p4 rfl,l3,p3 rfl⟩
  have fin:∀ (u1 u2 u3 u4 u5 u6 u7:Bool),∃ b,br u1 (br u2 (br u3 (br u4 (br u5 (br u6 (some u7) (some false)) (some false)) (some false)) (some false)) (some false)) (some false)=some b:=by
   intro u1 u2 u3 u4 u5 u6 u7
   cases u1 <;> cases u2 <;> cases u3 <;> cases u4 <;> cases u5 <;> cases u6 <;> exact⟨_,rfl⟩
  obtain⟨b,hbb⟩:=fin (decide ((0:Int)≤c.2.2.2.2.2.2.1)) (decide (c.2.2.2.2.2.2.1≤(100:Int))) t (decide ((0:Int)≤c.2.2.2.2.2.2.2.2.2.2.1)) (decide (c.2.2.2.2.2.2.2.2.2.2.1≤(20:Int))) (decide ((1:Int)≤c.2.2.2.2.2.2.2.2.2.2.2)) (decide (c.2.2.2.2.2.2.2.2.2.2.2≤(8:Int)))
  exact⟨b,start (Ev.bind f1 (Ev.bind fa (Ev.bind f2 (Ev.bind f3 (Ev.bind f4 (Ev.bind f5 (Ev.const hbb))))))),fun _=>hok⟩
end Go.Pf
namespace Go.Pf
open Go Go.Am Go.Proofs Go.Hu Go.Mo
abbrev CW:=(CellT×Unit)×((Mo.StateT×Unit)×Unit)
theorem placedL15 (c:CellT) (w:Mo.StateT) (hl:w.2.2.length≤8) (i:Nat) (hi:i<w.2.2.length):∀ (k j:Nat),j+k=i →
  ∃ y,Ev (fun n=>Z50L15 n (((),((),(((i:Nat):Int),(((j:Nat):Int),())))),((c,()),((w,()),())))) y∧(y=.inl (((),((),(((i:Nat):Int),()))),((c,()),((w,()),())))∨y=.inr ((false,()),())):=by
 intro k
 induction k with
 | zero =>
  intro j h
  refine⟨_,Ev.of_eq 1 ?_,.inl rfl⟩
  simp (disch:=omega) only [Z50L15Eq,br_neg]
  exact Ev.pure _
 | succ k ih =>
  intro j h
  obtain⟨y,e,hy⟩:=ih (j+1) (by omega)
  have g1:w.2.2[j]?=some w.2.2[j]:=List.getElem?_eq_getElem (by omega)
  have g2:w.2.2[i]?=some w.2.2[i]:=List.getElem?_eq_getElem hi
  by_cases h0:(0:Int)≤w.2.2[i]
  ·by_cases hb:w.2.2[i]=w.2.2[j]
   ·refine⟨_,Ev.of_eq 1 ?_,.inr rfl⟩
    simp (disch:=omega) only [Z50L15Eq,br_pos,Int.toNat_natCast,g1,g2,Option.bind_some,br_pos h0,br_pos hb]
    exact Ev.pure _
   ·refine⟨y,Ev.of_eq 1 ?_,hy⟩
    simp (disch:=omega) only [Z50L15Eq,br_pos,Int.toNat_natCast,g1,g2,Option.bind_some,br_pos h0,br_neg hb,wr1]
    exact e
  ·refine⟨y,Ev.of_eq 1 ?_,hy⟩
   simp (disch:=omega) only [Z50L15Eq,br_pos,Int.toNat_natCast,g1,g2,Option.bind_some,br_neg h0,wr1]
   exact e
theorem placedL10 (c:CellT) (w:Mo.StateT) (hl:w.2.2.length≤8):∀ (r:List Int) (i:Nat),w.2.2.drop i=r→i≤w.2.2.length →
  ∃ y,Ev (fun n=>Z50L10 n (((),((),(((i:Nat):Int),()))),((c,()),((w,()),())))) y∧((y=.inl ((),())∧∀ k∈r,-1≤k∧k<(c.2.2.2.1.length:Int))∨y=.inr ((false,()),())):=by
 intro r
 induction r with
 | nil =>
  intro i h hi
  have:=gdrop_nil h
  refine⟨_,Ev.of_eq 1 ?_,.inl ⟨rfl,fun k hk=>by cases hk⟩⟩
  simp (disch:=omega) only [Z50L10Eq,br_neg]
  exact Ev.pure _
 | cons x r ih =>
  intro i h hi
  obtain⟨g1,g2,g3⟩:=gdrop h
  obtain⟨y,e,hy⟩:=ih (i+1) g2 (by omega)
  obtain⟨z,ez,hz⟩:=placedL15 c w hl i g3 i 0 (by omega)
  by_cases h1:x < -1
  ·refine⟨_,Ev.of_eq 1 ?_,.inr rfl⟩
   simp (disch:=omega) only [Z50L10Eq,br_pos,Int.toNat_natCast,g1,Option.bind_some,br_pos h1]
   exact Ev.pure _
  by_cases h2:((c.2.2.2.1.length:Nat):Int)≤x
  ·refine⟨_,Ev.of_eq 1 ?_,.inr rfl⟩
   simp (disch:=omega) only [Z50L10Eq,br_pos,Int.toNat_natCast,g1,Option.bind_some,br_neg h1,br_pos h2]
   exact Ev.pure _
  rcases hz with rfl | rfl
  ·refine⟨y,Ev.of_eq 1 ?_,?_⟩
   ·simp (disch:=omega) only [Z50L10Eq,br_pos,Int.toNat_natCast,g1,Option.bind_some,br_neg h1,br_neg h2]
    refine Ev.bind ez ?_
    simp (disch:=omega) only [wr1]
    exact e
   ·rcases hy with ⟨h3,h4⟩ | h3
    ·exact .inl ⟨h3,fun k hk=>by
      rcases List.mem_cons.1 hk with rfl | hk
      ·omega
      ·exact h4 k hk⟩
    ·exact .inr h3
  ·refine⟨_,Ev.of_eq 1 ?_,.inr rfl⟩
   simp (disch:=omega) only [Z50L10Eq,br_pos,Int.toNat_natCast,g1,Option.bind_some,br_neg h1,br_neg h2]
   exact Ev.bind ez (Ev.pure _)
def HB (c:CellT) (h:Int):Prop:=-1≤h∧h<(c.2.2.2.2.1.length:Int)
theorem held_pick {R:Type} {c:CellT} {w:Mo.StateT} (hwl:w.2.2.length=c.2.2.2.2.1.length) {h:Int} {F:R} {N:Nat→Option R} {P:R→Prop} (hF:P F) (hN:HB c h→∃ y,Ev N y∧P y) :
  ∃ y,Ev (fun n=>br (decide (h<(-1:Int))) (some F) (br (decide (((c.2.2.2.2.1.length:Nat):Int)≤h)) (some F) (br (decide ((0:Int)≤h)) (br (decide (0≤h)) ((w.2.2[h.toNat]?).bind fun e=>br (!decide (e=(-1:Int))) (some F) (N n)) none) (N n)))) y∧P y:=by
 by_cases h1:h < -1
 ·simp only[br_pos h1];exact⟨_,Ev.pure _,hF⟩
 by_cases h2:((c.2.2.2.2.1.length:Nat):Int)≤h
 ·simp only[br_neg h1,br_pos h2];exact⟨_,Ev.pure _,hF⟩
 by_cases h3:0≤h
 ·have g:w.2.2[h.toNat]?=some w.2.2[h.toNat]:=List.getElem?_eq_getElem (by omega)
  by_cases h4:w.2.2[h.toNat] = -1
  ·simp only[br_neg h1,br_neg h2,br_pos h3,g,Option.bind_some,nbr_pos h4]
   exact hN ⟨by omega,by omega⟩
  ·simp only[br_neg h1,br_neg h2,br_pos h3,g,Option.bind_some,nbr_neg h4]
   exact⟨_,Ev.pure _,hF⟩
 ·simp only[br_neg h1,br_neg h2,br_neg h3]
  exact hN ⟨by omega,by omega⟩
theorem placedL4 (c:CellT) (w:Mo.StateT) (hwl:w.2.2.length=c.2.2.2.2.1.length):∃ y,Ev (fun n=>Z50L4 n (((),((),((0:Int),()))),((c,()),((w,()),())))) y∧((y=.inl (((),((),())),((c,()),((w,()),())))∧HB c w.2.1.1∧HB c w.2.1.2)∨y=.inr ((false,()),())):=by
 have e2:Ev (fun n=>Z50L4 n (((),((),((2:Int),()))),((c,()),((w,()),())))) (.inl (((),((),())),((c,()),((w,()),())))):=by
  refine Ev.of_eq 1 ?_
  simp (disch:=omega) only [Z50L4Eq,br_neg]
  exact Ev.pure _
 have w1:IntKind.i64.wrap ((0:Int)+1)=1:=by rw[w64 (by omega) (by omega)];rfl
 have w2:IntKind.i64.wrap ((1:Int)+1)=2:=by rw[w64 (by omega) (by omega)];rfl
 obtain⟨y1,e1,hy1⟩:=held_pick (w:=w) hwl (h:=w.2.1.2) (F:=(.inr ((false,()),()):((Unit×(Unit×Unit))×CW) ⊕ ((Bool×Unit)×Unit))) (N:=fun n=>Z50L4 n (((),((),((2:Int),()))),((c,()),((w,()),())))) (P:=fun y=>(y=.inl (((),((),())),((c,()),((w,()),())))∧HB c w.2.1.2)∨y=.inr ((false,()),())) (.inr rfl) fun h=>⟨_,e2,.inl ⟨rfl,h⟩⟩
 have e1':Ev (fun n=>Z50L4 n (((),((),((1:Int),()))),((c,()),((w,()),())))) y1:=by
  refine Ev.of_eq 1 ?_
  have t1:(1:Int)<2:=by omega
  have t2:(1:Int)=1:=rfl
  simp only[Z50L4Eq,br_pos t1,br_pos t2,w2]
  exact e1
 obtain⟨y0,e0,hy0⟩:=held_pick (w:=w) hwl (h:=w.2.1.1) (F:=(.inr ((false,()),()):((Unit×(Unit×Unit))×CW) ⊕ ((Bool×Unit)×Unit))) (N:=fun n=>Z50L4 n (((),((),((1:Int),()))),((c,()),((w,()),())))) (P:=fun y=>(y=.inl (((),((),())),((c,()),((w,()),())))∧HB c w.2.1.1∧HB c w.2.1.2)∨y=.inr ((false,()),())) (.inr rfl) fun h=>⟨y1,e1',by
  rcases hy1 with ⟨k1,k2⟩ | k1
  ·exact .inl ⟨k1,h,k2⟩
  ·exact .inr k1⟩
 refine⟨y0,Ev.of_eq 1 ?_,hy0⟩
 have t1:(0:Int)<2:=by omega
 have t2:¬ (0:Int)=1:=by omega
 have t3:(0:Int)=0:=rfl
 simp only[Z50L4Eq,br_pos t1,br_neg t2,br_pos t3,w1]
 exact e0
theorem placedEv (c:CellT) (w:Mo.StateT) (hl:w.2.2.length≤8):∃ b,Ev (fun n=>Z50 n c w) b∧(b=true→w.2.2.length=c.2.2.2.2.1.length∧(HB c w.2.1.1∧HB c w.2.1.2)∧∀ k∈w.2.2,-1≤k∧k<(c.2.2.2.1.length:Int)):=by
 by_cases hwl:w.2.2.length=c.2.2.2.2.1.length
 rotate_left
 ·have h1:¬ ((w.2.2.length:Nat):Int)=((c.2.2.2.2.1.length:Nat):Int):=by omega
  refine⟨false,Ev.of_eq 1 ?_,fun e=>by cases e⟩
  simp only[Z50Eq,nbr_neg h1]
  exact Ev.pure _
 have h1:((w.2.2.length:Nat):Int)=((c.2.2.2.2.1.length:Nat):Int):=by omega
 obtain⟨y,e,hy⟩:=placedL4 c w hwl
 obtain⟨z,ez,hz⟩:=placedL10 c w hl w.2.2 0 rfl (Nat.zero_le _)
 have tail:∃ b,Ev (fun n=>(Z50L4 n (((),((),((0:Int),()))),((c,()),((w,()),())))).bind fun l=>(match l with | .inl y=>(Z50L10 n (((),((),((0:Int),()))),y.2)).bind fun l=>(match l with | .inl y=>some true | .inr y=>some y.1.1) | .inr y=>some y.1.1)) b∧(b=true→w.2.2.length=c.2.2.2.2.1.length∧(HB c w.2.1.1∧HB c w.2.1.2)∧∀ k∈w.2.2,-1≤k∧k<(c.2.2.2.1.length:Int)):=by
  rcases hy with ⟨rfl,h2⟩ | rfl
  ·rcases hz with ⟨rfl,h3⟩ | rfl
   ·exact⟨true,Ev.bind e (Ev.bind ez (Ev.pure _)),fun _=>⟨hwl,h2,h3⟩⟩
   ·exact⟨false,Ev.bind e (Ev.bind ez (Ev.pure _)),fun e=>by cases e⟩
  ·exact⟨false,Ev.bind e (Ev.pure _),fun e=>by cases e⟩
 by_cases h2:0≤w.2.1.1
 ·by_cases h3:w.2.1.1=w.2.1.2
  ·refine⟨false,Ev.of_eq 1 ?_,fun e=>by cases e⟩
   simp only[Z50Eq,nbr_pos h1,br_pos h2,br_pos h3]
   exact Ev.pure _
  ·obtain⟨b,hb,hbt⟩:=tail
   refine⟨b,Ev.of_eq 1 ?_,hbt⟩
   simp only[Z50Eq,nbr_pos h1,br_pos h2,br_neg h3]
   exact hb
 ·obtain⟨b,hb,hbt⟩:=tail
  refine⟨b,Ev.of_eq 1 ?_,hbt⟩
  simp only[Z50Eq,nbr_pos h1,br_neg h2]
  exact hb
end Go.Pf
namespace Go.Pf
open Go Go.Am Go.Proofs Go.Hu Go.Mo
section
variable {c:CellT} {w:Mo.StateT} (hc:COk c) (hw:WOk c w)
include hc hw
theorem rrestL:∀ (r:List Int) (i:Nat) (out:List BodyT),w.2.2.drop i=r→i≤w.2.2.length→out.length≤1000+i →
  Ev (fun n=>Z51L18 n (((),((),(out,(((i:Nat):Int),())))),((c,()),((w,()),())))) (((),(out ++ resting c i r,())),((c,()),())):=by
 have hwl:=hw.wlen
 have hpl:=hc.partl
 intro r
 induction r with
 | nil =>
  intro i out h hi ho'
  have:=gdrop_nil h
  have hlen:¬ (((i:Nat):Int)<((c.2.2.2.2.1.length:Nat):Int)):=by omega
  refine Ev.of_eq 1 ?_
  simp only[Z51L18Eq,br_neg hlen]
  exact (Ev.pure _).congr (by simp[resting])
 | cons k r ih =>
  intro i out h hi ho'
  obtain⟨g1,g2,g3⟩:=gdrop h
  obtain⟨k1,k2⟩:=hw.whr k (List.mem_of_getElem? g1)
  by_cases hk:0≤k
  ·have gp:c.2.2.2.2.1[i]?=some c.2.2.2.2.1[i]:=List.getElem?_eq_getElem (by omega)
   have gq:c.2.2.2.1[k.toNat]?=some c.2.2.2.1[k.toNat]:=List.getElem?_eq_getElem (by omega)
   obtain⟨p1,p2⟩:=hc.part _ (List.mem_of_getElem? gp)
   obtain⟨q1,q2⟩:=hc.place _ (List.mem_of_getElem? gq)
   have e1:=get_part gp
   have e2:plcOf c k=c.2.2.2.1[k.toNat]:=by unfold plcOf;rw[gq];rfl
   have e:=ih (i+1) (out ++ [((3:Int),(((i:Nat):Int),((0:Int),outlAt c.2.2.2.2.1[i] (c.2.2.2.1[k.toNat]).2.1 (c.2.2.2.1[k.toNat]).2.2)))]) g2 (by omega) (by simp;omega)
   have hcap:(out.length + [((3:Int),(((i:Nat):Int),((0:Int),outlAt c.2.2.2.2.1[i] (c.2.2.2.1[k.toNat]).2.1 (c.2.2.2.1[k.toNat]).2.2)))].length)*48≤140737488355328:=by simp only[List.length_cons,List.length_nil];omega
   refine Ev.of_eq 1 ?_
   simp (disch:=omega) only [Z51L18Eq,br_pos,Int.toNat_natCast,g1,gp,gq,Option.bind_some]
   refine Ev.bind (Ev.bind (laidEv q1 q2 (by omega) p2) (Ev.pure _)) ?_
   simp (disch:=omega) only [wr1]
   refine e.congr ?_
   simp[resting,hk,e1,e2]
  ·have e:=ih (i+1) out g2 (by omega) (by omega)
   refine Ev.of_eq 1 ?_
   simp (disch:=omega) only [Z51L18Eq,br_pos,br_neg,Int.toNat_natCast,g1,Option.bind_some,wr1]
   refine e.congr ?_
   simp[resting,hk]
theorem rfixL:∀ (r:List (List Pt)) (i:Nat) (out:List BodyT),c.2.2.1.drop i=r→i≤c.2.2.1.length→out.length≤10000+i →
  Ev (fun n=>Z51L24 n (((),(out,(((i:Nat):Int),()))),((c,()),()))) ((out ++ fixed i r,()),()):=by
 have hfl:=hc.fixl
 intro r
 induction r with
 | nil =>
  intro i out h hi ho'
  have:=gdrop_nil h
  refine Ev.of_eq 1 ?_
  simp (disch:=omega) only [Z51L24Eq,br_neg]
  exact (Ev.pure _).congr (by simp[fixed])
 | cons k r ih =>
  intro i out h hi ho'
  obtain⟨g1,g2,g3⟩:=gdrop h
  have hcap:(out.length + [((4:Int),(((i:Nat):Int),((0:Int),k)))].length)*48≤140737488355328:=by simp only[List.length_cons,List.length_nil];omega
  refine Ev.of_eq 1 ?_
  simp (disch:=omega) only [Z51L24Eq,br_pos,Int.toNat_natCast,g1,Option.bind_some,br_pos hcap,wr1]
  refine (ih (i+1) _ g2 (by omega) (by simp;omega)).congr ?_
  simp[fixed]
end
set_option maxRecDepth 20000 in
set_option maxHeartbeats 2000000 in
theorem rbodiesEv {c:CellT} {w:Mo.StateT} (hc:COk c) (hw:WOk c w):Ev (fun n=>Z51 n c w) (bodies c w):=by
 have q0:=hw.q0 hc
 have q1:=hw.q1 hc
 have tail:∀ (out:List BodyT),out.length≤100→out=arms6 c w ++ (held c c.1.1 w.1.1 0 w.2.1.1 ++ held c c.1.2 w.1.2 1 w.2.1.2) →
   Ev (fun n=>(Z51L18 n (((),((),(out,((0:Int),())))),((c,()),((w,()),())))).bind fun l598=>(Z51L24 n (((),(l598.1.2.1,((0:Int),()))),l598.2)).bind fun l600=>some l600.1.1) (bodies c w):=fun out hl e=>by
  have hwl:=hw.wlen
  have hpl:=hc.partl
  have hr:=resting_len c w.2.2 0
  refine Ev.bind (rrestL hc hw w.2.2 0 out rfl (Nat.zero_le _) (by omega)) ?_
  refine Ev.bind (rfixL hc hw c.2.2.1 0 (out ++ resting c 0 w.2.2) rfl (Nat.zero_le _) (by rw[List.length_append];omega)) ?_
  exact (Ev.pure _).congr (by rw[e];simp[bodies])
 refine Ev.of_eq 1 ?_
 simp only[Z51Eq]
 refine Ev.bind (rlinksEv hc.arm0 q0) ?_
 simp (disch:=omega) only [List.length_append,List.length_cons,List.length_nil,w64,br_T,br_pos]
 refine Ev.bind (rlinksEv hc.arm1 q1) ?_
 by_cases h0:0≤w.2.1.1 <;> by_cases h1:0≤w.2.1.2
 ·obtain⟨p,g1,g2,g3,g4⟩:=heldOk hc hw 0 c.1.1 w.1.1 hc.arm0 q0 (h:=w.2.1.1) (by have:=hw.held0;omega)
  obtain⟨p',k1,k2,k3,k4⟩:=heldOk hc hw 1 c.1.2 w.1.2 hc.arm1 q1 (h:=w.2.1.2) (by have:=hw.held1;omega)
  simp (disch:=omega) only [br_pos,br_neg,g1,k1,Option.bind_some]
  refine Ev.bind (Ev.bind (rjptsEv hc.arm0 q0) (Ev.bind (rdirsEv c.1.1 q0) (Ev.bind g4 (Ev.bind (rjptsEv hc.arm1 q1) (Ev.bind (rdirsEv c.1.2 q1) (Ev.bind k4 (Ev.pure _))))))) ?_
  exact tail _ (by simp) (by rw[held_pos (by omega),held_pos (by omega),g2,k2];rfl)
 ·obtain⟨p,g1,g2,g3,g4⟩:=heldOk hc hw 0 c.1.1 w.1.1 hc.arm0 q0 (h:=w.2.1.1) (by have:=hw.held0;omega)
  simp (disch:=omega) only [br_pos,br_neg,g1,Option.bind_some]
  refine Ev.bind (Ev.bind (rjptsEv hc.arm0 q0) (Ev.bind (rdirsEv c.1.1 q0) (Ev.bind g4 (Ev.pure _)))) ?_
  exact tail _ (by simp) (by rw[held_pos (by omega),held_neg (by omega),g2];rfl)
 ·obtain⟨p',k1,k2,k3,k4⟩:=heldOk hc hw 1 c.1.2 w.1.2 hc.arm1 q1 (h:=w.2.1.2) (by have:=hw.held1;omega)
  simp (disch:=omega) only [br_pos,br_neg,k1,Option.bind_some]
  refine Ev.bind (Ev.bind (rjptsEv hc.arm1 q1) (Ev.bind (rdirsEv c.1.2 q1) (Ev.bind k4 (Ev.pure _)))) ?_
  exact tail _ (by simp) (by rw[held_neg (by omega),held_pos (by omega),k2];rfl)
 ·simp (disch:=omega) only [br_neg,Option.bind_some]
  exact tail _ (by simp) (by rw[held_neg (by omega),held_neg (by omega)];rfl)
end Go.Pf
namespace Go.Pf
open Go Go.Am Go.Proofs Go.Hu Go.Mo
def TotP {α:Type} (f:Nat→Option α) (P:α→Prop):Prop:=∃ x,Ev f x∧P x
theorem TotP.pure {α:Type} {P:α→Prop} {x:α} (h:P x):TotP (fun _=>some x) P:=⟨x,Ev.pure x,h⟩
theorem TotP.bind {α β:Type} {f:Nat→Option α} {g:Nat→α→Option β} {P:α→Prop} {Q:β→Prop} (h:TotP f P) (k:∀ x,P x→TotP (fun n=>g n x) Q):TotP (fun n=>(f n).bind (g n)) Q:=by
 obtain⟨x,h1,h2⟩:=h
 obtain⟨y,k1,k2⟩:=k x h2
 exact⟨y,Ev.bind h1 k1,k2⟩
theorem TotP.of_eq {α:Type} {f:Nat→Option α} {P:α→Prop} (k:Nat) (h:TotP (fun n=>f (n+k)) P):TotP f P:=by
 obtain⟨x,h1,h2⟩:=h
 exact⟨x,Ev.of_eq k h1,h2⟩
theorem TotP.ite {α:Type} {p:Prop} [Decidable p] {f g:Nat→Option α} {P:α→Prop} (h:p→TotP f P) (k:¬ p→TotP g P):TotP (fun n=>br (decide p) (f n) (g n)) P:=by
 by_cases hp:p
 ·rw[decide_eq_true hp];exact h hp
 ·rw[decide_eq_false hp];exact k hp
theorem TotP.get {α β:Type} {l:List α} {i:Nat} {f:Nat→α→Option β} {P:β→Prop} {a:α} (h:l[i]?=some a) (k:TotP (fun n=>f n a) P):TotP (fun n=>(l[i]?).bind (f n)) P:=by
 rw[h];exact k
abbrev QH:=(J3×J3)×(Int×Int)
section
variable (c:CellT) (hp:c.2.2.2.1.length≤16) (hq:c.2.2.2.2.1.length≤8) (raw:List Int) (hraw:∀ x∈raw,0≤x∧x<256) (held:Int×Int) (q8 q9:QH)
abbrev WR (c:CellT) (held:Int×Int) (q8 q9:QH) (taken:List Bool) (w9:List Int):(CellT×Unit)×(Unit×(((Int×Int)×Unit)×((QH×(Int×Unit))×((QH×(Int×Unit))×(List Bool×(List Int×(List Int×Unit))))))) :=
 ((c,()),((),((held,()),((q8,((0:Int),())),((q9,(((w9.length:Nat):Int),())),(taken,([],(w9,()))))))))
include hp hq hraw in
theorem worldL8:∀ (k i:Nat) (taken:List Bool) (w9:List Int),i+k=c.2.2.2.2.1.length→taken.length=c.2.2.2.1.length→w9.length=i →
  TotP (fun n=>Z54L8 n ((raw,((),((),((),((),(((c.2.2.2.1.length:Nat):Int),((i:Int),()))))))),WR c held q8 q9 taken w9))
   (fun y=>∃ w9':List Int,w9'.length=c.2.2.2.2.1.length∧y=(((),((),((),((),())))),((c,()),((),((held,()),((q8,((0:Int),())),((q9,(((w9'.length:Nat):Int),())),((),([],(w9',()))))))))))
 | 0,i,taken,w9,hk,ht,hw=>by
  refine TotP.of_eq 1 ?_
  simp (disch:=omega) only [Z54L8Eq,br_neg,Int.toNat_natCast]
  exact TotP.pure ⟨w9,by omega,rfl⟩
 | k+1,i,taken,w9,hk,ht,hw=>by
  have wp:IntKind.i64.wrap (((c.2.2.2.1.length:Nat):Int)+1)=((c.2.2.2.1.length:Nat):Int)+1:=w64 (by omega) (by omega)
  refine TotP.of_eq 1 ?_
  simp (disch:=omega) only [Z54L8Eq,br_pos,Int.toNat_natCast,wp]
  refine TotP.bind (P:=fun j=>∃ at_:Int,∃ taken':List Bool,taken'.length=c.2.2.2.1.length∧j=((raw,((),((),((),((),(((c.2.2.2.1.length:Nat):Int),((i:Int),()))))))),((c,()),((),((held,()),((q8,((0:Int),())),((q9,((((w9 ++ [at_]).length:Nat):Int),())),(taken',([],((),(w9 ++ [at_],()))))))))))) ?_ ?_
  ·refine TotP.bind (P:=fun j=>∃ kk:Int,0≤kk∧j=((raw,((),((),((),((),(((c.2.2.2.1.length:Nat):Int),((i:Int),((-1:Int),(kk,()))))))))),WR c held q8 q9 taken w9)) ?_ ?_
   ·refine TotP.ite (fun h=>?_) (fun h=>TotP.pure ⟨0,Int.le_refl _,rfl⟩)
    have g:raw[i]?=some raw[i]:=List.getElem?_eq_getElem (by omega)
    refine TotP.get g ?_
    have hr:=hraw _ (List.mem_of_getElem? g)
    refine TotP.ite (fun h0=>by omega) (fun h0=>TotP.pure ⟨_,?_,rfl⟩)
    rw[w64 (by omega) (by omega)]
    exact Int.tmod_nonneg _ hr.1
   ·rintro j ⟨kk,hkk,rfl⟩
    have hcap:w9.length≤w9.length∧∀ v:Int,(w9.length + [v].length)*8≤140737488355328:=⟨Nat.le_refl _,fun v=>by simp only[List.length_cons,List.length_nil];omega⟩
    refine TotP.bind (P:=fun j=>∃ v:Int,∃ taken':List Bool,taken'.length=c.2.2.2.1.length∧j=((raw,((),((),((),((),(((c.2.2.2.1.length:Nat):Int),((i:Int),(v,())))))))),WR c held q8 q9 taken' w9)) ?_ ?_
    ·simp only[Int.toNat_natCast,Nat.zero_add]
     refine TotP.ite (fun h=>?_) (fun h=>TotP.pure ⟨_,taken,ht,rfl⟩)
     refine TotP.ite (fun h2=>?_) (fun h2=>absurd ⟨hkk,h⟩ h2)
     have g:taken[kk.toNat]?=some taken[kk.toNat]:=List.getElem?_eq_getElem (by omega)
     refine TotP.get g ?_
     cases taken[kk.toNat] with
     | true=>exact TotP.pure ⟨_,taken,ht,rfl⟩
     | false =>
      refine TotP.ite (fun h3=>?_) (fun h3=>absurd ⟨hkk,h⟩ h3)
      refine TotP.get g ?_
      exact TotP.pure ⟨_,taken.set kk.toNat true,by rw[List.length_set];exact ht,rfl⟩
    ·rintro j ⟨v,taken',ht',rfl⟩
     simp only[Int.toNat_natCast,br_pos (show w9.length≤w9.length∧(w9.length + [v].length)*8≤140737488355328 from ⟨Nat.le_refl _,hcap.2 v⟩)]
     refine TotP.pure ⟨v,taken',ht',?_⟩
     simp
  ·rintro j ⟨v,taken',ht',rfl⟩
   have ih:=worldL8 k (i+1) taken' (w9 ++ [v]) (by omega) ht' (by simp[hw])
   simp (disch:=omega) only [wr1,Int.toNat_natCast]
   exact ih
end
end Go.Pf
namespace Go.Pf
open Go Go.Am Go.Proofs Go.Hu Go.Mo
def U8 (x:Int):Prop:=0≤x∧x<256
def U3 (q:J3):Prop:=U8 q.1∧U8 q.2.1∧U8 q.2.2
theorem TotP.iten {α:Type} {p:Prop} [Decidable p] {f g:Nat→Option α} {P:α→Prop} (h:¬ p→TotP f P) (k:p→TotP g P):TotP (fun n=>br (!decide p) (f n) (g n)) P:=by
 by_cases hp:p
 ·rw[decide_eq_true hp];exact k hp
 ·rw[decide_eq_false hp];exact h hp
theorem jointTot {a:ArmT} (ha:ArmOk a) (q:J3):TotP (fun n=>Z32 n a q) (fun _=>True):=by
 have hl:=ha.low
 have hh:=ha.high
 have ho:=ha.ord
 refine TotP.of_eq 1 ?_
 have e1:IntKind.i64.wrap (IntKind.i64.wrap (a.2.2.2.2.1-a.2.2.2.1.1)+1)=a.2.2.2.2.1-a.2.2.2.1.1+1:=by rw[w64 (n:=a.2.2.2.2.1-a.2.2.2.1.1) (by omega) (by omega),w64 (by omega) (by omega)]
 have e2:IntKind.i64.wrap (IntKind.i64.wrap (a.2.2.2.2.2.1-a.2.2.2.1.2.1)+1)=a.2.2.2.2.2.1-a.2.2.2.1.2.1+1:=by rw[w64 (n:=a.2.2.2.2.2.1-a.2.2.2.1.2.1) (by omega) (by omega),w64 (by omega) (by omega)]
 have e3:IntKind.i64.wrap (IntKind.i64.wrap (a.2.2.2.2.2.2-a.2.2.2.1.2.2)+1)=a.2.2.2.2.2.2-a.2.2.2.1.2.2+1:=by rw[w64 (n:=a.2.2.2.2.2.2-a.2.2.2.1.2.2) (by omega) (by omega),w64 (by omega) (by omega)]
 simp (disch:=omega) only [Z32Eq,e1,e2,e3,br_neg]
 exact TotP.pure trivial
theorem worldTot {c:CellT} (hc:COk c) (rq:J3×J3) (held:Int×Int) (raw:List Int) (hh:U8 held.1∧U8 held.2) (hraw:∀ x∈raw,U8 x) :
  TotP (fun n=>Z54 n c rq held raw) (fun w:Mo.StateT=>w.2.2.length≤8):=by
 have hpl:=hc.placel
 have hpa:=hc.partl
 refine TotP.of_eq 1 ?_
 simp only[Z54Eq]
 refine TotP.bind (jointTot hc.arm0 _) fun j0 _=>?_
 refine TotP.bind (jointTot hc.arm1 _) fun j1 _=>?_
 have hcap:(0:Int)≤((c.2.2.2.1.length:Nat):Int)∧((c.2.2.2.1.length:Nat):Int)≤((c.2.2.2.1.length:Nat):Int)∧((c.2.2.2.1.length:Nat):Int)*((1:Nat):Int)≤140737488355328:=by omega
 simp only[br_pos hcap,Int.toNat_natCast]
 refine TotP.bind (worldL8 c hpl hpa raw hraw held _ ((j0,j1),((-1:Int),(-1:Int))) c.2.2.2.2.1.length 0 _ [] (by omega) (by rw[List.length_replicate]) rfl) ?_
 rintro _ ⟨w9,hw9,rfl⟩
 have e:IntKind.i64.wrap (IntKind.i64.wrap ((2:Int)*((c.2.2.2.2.1.length:Nat):Int))+1)=2*((c.2.2.2.2.1.length:Nat):Int)+1:=by rw[w64 (n:=(2:Int)*((c.2.2.2.2.1.length:Nat):Int)) (by omega) (by omega),w64 (by omega) (by omega)]
 have h1:=hh.1
 have h2:=hh.2
 unfold U8 at h1 h2
 have x1:=Int.tmod_nonneg (2*((c.2.2.2.2.1.length:Nat):Int)+1) h1.1
 have x2:=Int.tmod_nonneg (2*((c.2.2.2.2.1.length:Nat):Int)+1) h2.1
 have u1:IntKind.i64.wrap held.1=held.1:=w64 (by omega) (by omega)
 have u2:IntKind.i64.wrap held.2=held.2:=w64 (by omega) (by omega)
 simp (disch:=omega) only [e,u1,u2,br_neg,Int.toNat_natCast,Nat.zero_add]
 generalize held.1.tmod (2*((c.2.2.2.2.1.length:Nat):Int)+1)=x at *
 generalize held.2.tmod (2*((c.2.2.2.2.1.length:Nat):Int)+1)=y at *
 refine TotP.bind (P:=fun j=>0+(Int.toNat j.2.2.2.2.2.1.2.1)≤j.2.2.2.2.2.2.2.2.1.length∧j.2.2.2.2.2.2.2.2.1.length≤8) ?_ ?_
 ·repeat' first
   | exact TotP.pure ⟨by simp only[List.length_set,Int.toNat_natCast];omega,by simp only[List.length_set];omega⟩
   | exact TotP.pure ⟨by simp only[Int.toNat_natCast];omega,by omega⟩
   | refine TotP.ite (fun _=>?_) (fun _=>?_)
   | refine TotP.iten (fun _=>?_) (fun _=>?_)
   | exact absurd (show 0≤x∧x<((w9.length:Nat):Int) from ⟨by omega,by omega⟩) (by assumption)
   | exact absurd (show 0≤y∧y<((w9.length:Nat):Int) from ⟨by omega,by omega⟩) (by assumption)
   | refine TotP.get (List.getElem?_eq_getElem (by first | (simp only[List.length_set];omega) | omega)) ?_
 ·rintro j ⟨h5,h6⟩
  refine TotP.ite (fun _=>TotP.pure ?_) (fun h=>absurd (show j.2.2.2.2.2.1.2.1.toNat≤j.2.2.2.2.2.2.2.2.1.length by omega) h)
  simp only[List.length_take]
  exact Nat.le_trans (Nat.min_le_right _ _) h6
end Go.Pf
namespace Go.Pf
open Go Go.Am Go.Proofs Go.Hu Go.Mo
def nlow (l q n:Int):Int:=if decide (l<IntKind.i64.wrap (q-n.tmod 2))=true then IntKind.i64.wrap (q-n.tmod 2) else l
def nhigh (h q n:Int):Int:=if decide (IntKind.i64.wrap (q+(IntKind.i64.wrap (n.tdiv 2)).tmod 2)<h)=true then IntKind.i64.wrap (q+(IntKind.i64.wrap (n.tdiv 2)).tmod 2) else h
def n4 (n:Int):Int:=IntKind.i64.wrap (n.tdiv 4)
def narA (a:ArmT) (q:J3) (n:Int):ArmT :=
 (a.1,(a.2.1,(a.2.2.1,((nlow a.2.2.2.1.1 q.1 n,(nlow a.2.2.2.1.2.1 q.2.1 (n4 n),nlow a.2.2.2.1.2.2 q.2.2 (n4 (n4 n)))),
  (nhigh a.2.2.2.2.1 q.1 n,(nhigh a.2.2.2.2.2.1 q.2.1 (n4 n),nhigh a.2.2.2.2.2.2 q.2.2 (n4 (n4 n))))))))
def nar0 (c:CellT) (w:Mo.StateT) (bits:Int):CellT:=((narA c.1.1 w.1.1 bits,c.1.2),(w.1,c.2.2))
def nar1 (c:CellT) (w:Mo.StateT) (bits:Int):CellT:=((c.1.1,narA c.1.2 w.1.2 bits),(w.1,c.2.2))
abbrev ZT:=((ArmT×ArmT)×(J3×J3))×(List (List Pt)×(List PlaceT×(List PartT×(List Int×(Int×(Int×(Int×(Int×(Int×(Int×(Int×(List (List Pt)×(Int×(Int×Unit))))))))))))))
abbrev NR (d:CellT) (w:Mo.StateT) (z:ZT):(CellT×Unit)×((Mo.StateT×Unit)×(ZT×Unit)):=((d,()),((w,()),(z,())))
theorem narL00 (a0 a1:ArmT) (r:(J3×J3)×(List (List Pt)×(List PlaceT×(List PartT×(List Int×(Int×(LimT×(LimT×(List (List Pt)×(Int×Int)))))))))) (w:Mo.StateT) (n:Int) (z:ZT) (m:Nat) :
  Z28L4 (m+1) (((0:Int),((),((),((),(n,((0:Int),())))))),NR ((a0,a1),r) w z) =
  Z28L4 m (((0:Int),((),((),((),(n4 n,((1:Int),())))))),NR (((a0.1,(a0.2.1,(a0.2.2.1,((nlow a0.2.2.2.1.1 w.1.1.1 n,a0.2.2.2.1.2),(nhigh a0.2.2.2.2.1 w.1.1.1 n,a0.2.2.2.2.2))))),a1),r) w z):=by
 have e:IntKind.i64.wrap ((0:Int)+1)=1:=by decide
 simp (disch:=decide) only [Z28L4Eq,br_pos,br_neg,Option.bind_some,e,n4,nlow,nhigh]
theorem narL01 (a0 a1:ArmT) (r:(J3×J3)×(List (List Pt)×(List PlaceT×(List PartT×(List Int×(Int×(LimT×(LimT×(List (List Pt)×(Int×Int)))))))))) (w:Mo.StateT) (n:Int) (z:ZT) (m:Nat) :
  Z28L4 (m+1) (((0:Int),((),((),((),(n,((1:Int),())))))),NR ((a0,a1),r) w z) =
  Z28L4 m (((0:Int),((),((),((),(n4 n,((2:Int),())))))),NR (((a0.1,(a0.2.1,(a0.2.2.1,((a0.2.2.2.1.1,(nlow a0.2.2.2.1.2.1 w.1.1.2.1 n,a0.2.2.2.1.2.2)),(a0.2.2.2.2.1,(nhigh a0.2.2.2.2.2.1 w.1.1.2.1 n,a0.2.2.2.2.2.2)))))),a1),r) w z):=by
 have e:IntKind.i64.wrap ((1:Int)+1)=2:=by decide
 simp (disch:=decide) only [Z28L4Eq,br_pos,br_neg,Option.bind_some,e,n4,nlow,nhigh]
theorem narL02 (a0 a1:ArmT) (r:(J3×J3)×(List (List Pt)×(List PlaceT×(List PartT×(List Int×(Int×(LimT×(LimT×(List (List Pt)×(Int×Int)))))))))) (w:Mo.StateT) (n:Int) (z:ZT) (m:Nat) :
  Z28L4 (m+1) (((0:Int),((),((),((),(n,((2:Int),())))))),NR ((a0,a1),r) w z) =
  Z28L4 m (((0:Int),((),((),((),(n4 n,((3:Int),())))))),NR (((a0.1,(a0.2.1,(a0.2.2.1,((a0.2.2.2.1.1,(a0.2.2.2.1.2.1,nlow a0.2.2.2.1.2.2 w.1.1.2.2 n)),(a0.2.2.2.2.1,(a0.2.2.2.2.2.1,nhigh a0.2.2.2.2.2.2 w.1.1.2.2 n)))))),a1),r) w z):=by
 have e:IntKind.i64.wrap ((2:Int)+1)=3:=by decide
 simp (disch:=decide) only [Z28L4Eq,br_pos,br_neg,Option.bind_some,e,n4,nlow,nhigh]
theorem nar0Ev (c:CellT) (w:Mo.StateT) (bits:Int) (hb:U8 bits):Ev (fun n=>Z28 n c w 0 bits) (nar0 c w bits):=by
 unfold U8 at hb
 have e:IntKind.i64.wrap bits=bits:=w64 (by omega) (by omega)
 refine Ev.of_eq 5 ?_
 simp (disch:=decide) only [Z28Eq,narL00,narL01,narL02,e]
 simp (disch:=decide) only [Z28L4Eq,br_neg,Option.bind_some]
 exact Ev.pure _
theorem narL10 (a0 a1:ArmT) (r:(J3×J3)×(List (List Pt)×(List PlaceT×(List PartT×(List Int×(Int×(LimT×(LimT×(List (List Pt)×(Int×Int)))))))))) (w:Mo.StateT) (n:Int) (z:ZT) (m:Nat) :
  Z28L4 (m+1) (((1:Int),((),((),((),(n,((0:Int),())))))),NR ((a0,a1),r) w z) =
  Z28L4 m (((1:Int),((),((),((),(n4 n,((1:Int),())))))),NR ((a0,(a1.1,(a1.2.1,(a1.2.2.1,((nlow a1.2.2.2.1.1 w.1.2.1 n,a1.2.2.2.1.2),(nhigh a1.2.2.2.2.1 w.1.2.1 n,a1.2.2.2.2.2)))))),r) w z):=by
 have e:IntKind.i64.wrap ((0:Int)+1)=1:=by decide
 simp (disch:=decide) only [Z28L4Eq,br_pos,br_neg,Option.bind_some,e,n4,nlow,nhigh]
theorem narL11 (a0 a1:ArmT) (r:(J3×J3)×(List (List Pt)×(List PlaceT×(List PartT×(List Int×(Int×(LimT×(LimT×(List (List Pt)×(Int×Int)))))))))) (w:Mo.StateT) (n:Int) (z:ZT) (m:Nat) :
  Z28L4 (m+1) (((1:Int),((),((),((),(n,((1:Int),())))))),NR ((a0,a1),r) w z) =
  Z28L4 m (((1:Int),((),((),((),(n4 n,((2:Int),())))))),NR ((a0,(a1.1,(a1.2.1,(a1.2.2.1,((a1.2.2.2.1.1,(nlow a1.2.2.2.1.2.1 w.1.2.2.1 n,a1.2.2.2.1.2.2)),(a1.2.2.2.2.1,(nhigh a1.2.2.2.2.2.1 w.1.2.2.1 n,a1.2.2.2.2.2.2))))))),r) w z):=by
 have e:IntKind.i64.wrap ((1:Int)+1)=2:=by decide
 simp (disch:=decide) only [Z28L4Eq,br_pos,br_neg,Option.bind_some,e,n4,nlow,nhigh]
theorem narL12 (a0 a1:ArmT) (r:(J3×J3)×(List (List Pt)×(List PlaceT×(List PartT×(List Int×(Int×(LimT×(LimT×(List (List Pt)×(Int×Int)))))))))) (w:Mo.StateT) (n:Int) (z:ZT) (m:Nat) :
  Z28L4 (m+1) (((1:Int),((),((),((),(n,((2:Int),())))))),NR ((a0,a1),r) w z) =
  Z28L4 m (((1:Int),((),((),((),(n4 n,((3:Int),())))))),NR ((a0,(a1.1,(a1.2.1,(a1.2.2.1,((a1.2.2.2.1.1,(a1.2.2.2.1.2.1,nlow a1.2.2.2.1.2.2 w.1.2.2.2 n)),(a1.2.2.2.2.1,(a1.2.2.2.2.2.1,nhigh a1.2.2.2.2.2.2 w.1.2.2.2 n))))))),r) w z):=by
 have e:IntKind.i64.wrap ((2:Int)+1)=3:=by decide
 simp (disch:=decide) only [Z28L4Eq,br_pos,br_neg,Option.bind_some,e,n4,nlow,nhigh]
theorem nar1Ev (c:CellT) (w:Mo.StateT) (bits:Int) (hb:U8 bits):Ev (fun n=>Z28 n c w 1 bits) (nar1 c w bits):=by
 unfold U8 at hb
 have e:IntKind.i64.wrap bits=bits:=w64 (by omega) (by omega)
 refine Ev.of_eq 5 ?_
 simp (disch:=decide) only [Z28Eq,narL10,narL11,narL12,e]
 simp (disch:=decide) only [Z28L4Eq,br_neg,Option.bind_some]
 exact Ev.pure _
end Go.Pf
namespace Go.Pf
open Go Go.Am Go.Proofs Go.Hu Go.Mo
theorem may14Tot (x:Pt):Tot fun n=>Z52 n x:=Tot.of_eq 1 (by
 simp only[Z52Eq]
 exact Tot.br (Tot.br (Tot.br (Tot.pure _) (Tot.pure _)) (Tot.pure _)) (Tot.pure _))
theorem right14L8 (L:List BodyT) (hL:L.length≤1000) (i:Nat) (hi:i<L.length) (hp:(L[i]).2.2.2.length≤1000):∀ (k j:Nat),j+k=(L[i]).2.2.2.length →
  ∃ y,Ev (fun n=>Z26L8 n ((L,(((i:Nat):Int),(((j:Nat):Int),()))),())) y∧(y=.inl ((L,(((i:Nat):Int),())),())∨y=.inr ((false,()),())):=by
 have g:L[i]?=some L[i]:=List.getElem?_eq_getElem hi
 intro k
 induction k with
 | zero =>
  intro j h
  have hn:¬ ((j:Nat):Int)<(((L[i]).2.2.2.length:Nat):Int):=by omega
  refine⟨_,Ev.of_eq 1 ?_,.inl rfl⟩
  simp (disch:=omega) only [Z26L8Eq,br_pos,Int.toNat_natCast,g,Option.bind_some,br_neg hn]
  exact Ev.pure _
 | succ k ih =>
  intro j h
  obtain⟨y,e,hy⟩:=ih (j+1) (by omega)
  have g2:(L[i]).2.2.2[j]?=some (L[i]).2.2.2[j]:=List.getElem?_eq_getElem (by omega)
  have hn:((j:Nat):Int)<(((L[i]).2.2.2.length:Nat):Int):=by omega
  obtain⟨v,hv⟩:=may14Tot (L[i]).2.2.2[j]
  cases v with
  | false =>
   refine⟨_,Ev.of_eq 1 ?_,.inr rfl⟩
   simp (disch:=omega) only [Z26L8Eq,br_pos,Int.toNat_natCast,g,g2,Option.bind_some,br_pos hn]
   exact Ev.bind hv (Ev.pure _)
  | true =>
   refine⟨y,Ev.of_eq 1 ?_,hy⟩
   simp (disch:=omega) only [Z26L8Eq,br_pos,Int.toNat_natCast,g,g2,Option.bind_some,br_pos hn,wr1]
   refine Ev.bind hv ?_
   simp only[Bool.not_true,br_f]
   exact e
theorem right14L5 (L:List BodyT) (hL:L.length≤1000) (hp:∀ b∈L,b.2.2.2.length≤1000):∀ (k i:Nat),i+k=L.length →
  ∃ y,Ev (fun n=>Z26L5 n ((L,(((i:Nat):Int),())),())) y∧(y=.inl ((),())∨y=.inr ((false,()),())):=by
 intro k
 induction k with
 | zero =>
  intro i h
  refine⟨_,Ev.of_eq 1 ?_,.inl rfl⟩
  simp (disch:=omega) only [Z26L5Eq,br_neg]
  exact Ev.pure _
 | succ k ih =>
  intro i h
  obtain⟨y,e,hy⟩:=ih (i+1) (by omega)
  have hi:i<L.length:=by omega
  obtain⟨z,ez,hz⟩:=right14L8 L hL i hi (hp _ (List.getElem_mem hi)) (L[i]).2.2.2.length 0 (by omega)
  rcases hz with rfl | rfl
  ·refine⟨y,Ev.of_eq 1 ?_,hy⟩
   simp (disch:=omega) only [Z26L5Eq,br_pos]
   refine Ev.bind ez ?_
   simp (disch:=omega) only [wr1]
   exact e
  ·refine⟨_,Ev.of_eq 1 ?_,.inr rfl⟩
   simp (disch:=omega) only [Z26L5Eq,br_pos]
   exact Ev.bind ez (Ev.pure _)
theorem stateEv {c:CellT} (hc:COk c) (w:Mo.StateT) (hl:w.2.2.length≤8):∃ b,Ev (fun n=>Z26 n c w) b∧(b=true→WOk c w):=by
 have f0:=rlimEv c.1.1 w.1.1
 have f1:=rlimEv c.1.2 w.1.2
 obtain⟨b,hb,hbt⟩:=placedEv c w hl
 cases h0:inLim c.1.1 w.1.1 with
 | false =>
  rw[h0] at f0
  refine⟨false,Ev.of_eq 1 ?_,fun e=>by cases e⟩
  simp only[Z26Eq]
  exact Ev.bind f0 (Ev.pure _)
 | true =>
 rw[h0] at f0
 cases h1:inLim c.1.2 w.1.2 with
 | false =>
  rw[h1] at f1
  refine⟨false,Ev.of_eq 1 ?_,fun e=>by cases e⟩
  simp only[Z26Eq]
  refine Ev.bind f0 ?_
  simp only[Bool.not_true,br_f]
  exact Ev.bind f1 (Ev.pure _)
 | true =>
 rw[h1] at f1
 cases b with
 | false =>
  refine⟨false,Ev.of_eq 1 ?_,fun e=>by cases e⟩
  simp only[Z26Eq]
  refine Ev.bind f0 ?_
  simp only[Bool.not_true,br_f]
  refine Ev.bind f1 ?_
  simp only[Bool.not_true,br_f]
  exact Ev.bind hb (Ev.pure _)
 | true =>
  obtain⟨k1,⟨k2,k3⟩,k4⟩:=hbt rfl
  have hw:WOk c w:=⟨h0,h1,k1,k4,k2,k3⟩
  have hbl:=bodies_len hc hw
  obtain⟨z,ez,hz⟩:=right14L5 (bodies c w) (by omega) (fun b hb=>by have:=(bodies_ok hc hw b hb).1;omega) (bodies c w).length 0 (by omega)
  have start:∀ {res:Bool},Ev (fun n=>(Z51 n c w).bind fun x=>(Z26L5 n ((x,((0:Int),())),())).bind fun l=>(match l with | .inl _=>some true | .inr y=>some y.1.1)) res→Ev (fun n=>Z26 n c w) res:=fun h=>by
   refine Ev.of_eq 1 ?_
   simp only[Z26Eq]
   refine Ev.bind f0 ?_
   simp only[Bool.not_true,br_f]
   refine Ev.bind f1 ?_
   simp only[Bool.not_true,br_f]
   refine Ev.bind hb ?_
   simp only[Bool.not_true,br_f]
   exact h
  rcases hz with rfl | rfl
  ·exact⟨true,start (Ev.bind (rbodiesEv hc hw) (Ev.bind ez (Ev.pure _))),fun _=>hw⟩
  ·exact⟨false,start (Ev.bind (rbodiesEv hc hw) (Ev.bind ez (Ev.pure _))),fun e=>by cases e⟩
end Go.Pf
namespace Go.Pf
open Go Go.Am Go.Proofs Go.Hu Go.Mo
theorem great4 (c:CellT) (hl:c.2.2.1.length≤20):∀ (k i:Nat),i+k=c.2.2.1.length →
  TotP (fun n=>Z53L4 n (((),((i:Int),())),((c,()),()))) (fun y=>y=.inl (((),()),((c,()),()))∨y=.inr (((true,()),())))
 | 0,i,h=>by
  refine TotP.of_eq 1 ?_
  simp (disch:=omega) only [Z53L4Eq,br_neg]
  exact TotP.pure (.inl rfl)
 | k+1,i,h=>by
  have ih:=great4 c hl k (i+1) (by omega)
  refine TotP.of_eq 1 ?_
  simp (disch:=omega) only [Z53L4Eq,br_pos,Int.toNat_natCast,wr1]
  refine TotP.get (List.getElem?_eq_getElem (by omega)) ?_
  exact TotP.ite (fun _=>TotP.pure (.inr rfl)) (fun _=>ih)
theorem great9 (c:CellT) (hl:c.2.2.2.2.2.2.2.2.2.1.length≤20):∀ (k i:Nat),i+k=c.2.2.2.2.2.2.2.2.2.1.length →
  TotP (fun n=>Z53L9 n (((),((i:Int),())),((c,()),()))) (fun y=>y=.inl (((),()),((c,()),()))∨y=.inr (((true,()),())))
 | 0,i,h=>by
  refine TotP.of_eq 1 ?_
  simp (disch:=omega) only [Z53L9Eq,br_neg]
  exact TotP.pure (.inl rfl)
 | k+1,i,h=>by
  have ih:=great9 c hl k (i+1) (by omega)
  refine TotP.of_eq 1 ?_
  simp (disch:=omega) only [Z53L9Eq,br_pos,Int.toNat_natCast,wr1]
  refine TotP.get (List.getElem?_eq_getElem (by omega)) ?_
  exact TotP.ite (fun _=>TotP.pure (.inr rfl)) (fun _=>ih)
theorem great14 (c:CellT) (hl:c.2.2.2.2.1.length≤20):∀ (k i:Nat),i+k=c.2.2.2.2.1.length →
  TotP (fun n=>Z53L14 n (((),((i:Int),())),((c,()),()))) (fun y=>y=.inl (((),()),((c,()),()))∨y=.inr (((true,()),())))
 | 0,i,h=>by
  refine TotP.of_eq 1 ?_
  simp (disch:=omega) only [Z53L14Eq,br_neg]
  exact TotP.pure (.inl rfl)
 | k+1,i,h=>by
  have ih:=great14 c hl k (i+1) (by omega)
  refine TotP.of_eq 1 ?_
  simp (disch:=omega) only [Z53L14Eq,br_pos,Int.toNat_natCast,wr1]
  refine TotP.get (List.getElem?_eq_getElem (by omega)) ?_
  refine TotP.ite (fun _=>TotP.pure (.inr rfl)) (fun _=>?_)
  refine TotP.get (List.getElem?_eq_getElem (by omega)) ?_
  exact TotP.ite (fun _=>TotP.pure (.inr rfl)) (fun _=>ih)
theorem great19 (c:CellT) (hl:c.2.2.2.1.length≤20):∀ (k i:Nat),i+k=c.2.2.2.1.length →
  TotP (fun n=>Z53L19 n (((),((i:Int),())),((c,()),()))) (fun y=>y=.inl ((),())∨y=.inr (((true,()),())))
 | 0,i,h=>by
  refine TotP.of_eq 1 ?_
  simp (disch:=omega) only [Z53L19Eq,br_neg]
  exact TotP.pure (.inl rfl)
 | k+1,i,h=>by
  have ih:=great19 c hl k (i+1) (by omega)
  refine TotP.of_eq 1 ?_
  simp (disch:=omega) only [Z53L19Eq,br_pos,Int.toNat_natCast,wr1]
  refine TotP.get (List.getElem?_eq_getElem (by omega)) ?_
  exact TotP.ite (fun _=>TotP.pure (.inr rfl)) (fun _=>ih)
theorem greatTot (c:CellT):TotP (fun n=>Z53 n c) (fun b=>b=false→c.2.2.2.2.2.2.2.2.2.1.length≤20):=by
 refine TotP.of_eq 1 ?_
 simp only[Z53Eq]
 refine TotP.ite (fun _=>TotP.pure (by intro h;cases h)) fun h1=>?_
 refine TotP.ite (fun _=>TotP.pure (by intro h;cases h)) fun h2=>?_
 refine TotP.ite (fun _=>TotP.pure (by intro h;cases h)) fun h3=>?_
 refine TotP.ite (fun _=>TotP.pure (by intro h;cases h)) fun h4=>?_
 refine TotP.ite (fun _=>TotP.pure (by intro h;cases h)) fun h5=>?_
 refine TotP.bind (great4 c (by omega) _ 0 (Nat.zero_add _)) ?_
 rintro y (rfl | rfl)
 ·refine TotP.bind (great9 c (by omega) _ 0 (Nat.zero_add _)) ?_
  rintro y (rfl | rfl)
  ·refine TotP.bind (great14 c (by omega) _ 0 (Nat.zero_add _)) ?_
   rintro y (rfl | rfl)
   ·refine TotP.bind (great19 c (by omega) _ 0 (Nat.zero_add _)) ?_
    rintro y (rfl | rfl)
    ·exact TotP.pure (fun _=>by omega)
    ·exact TotP.pure (by intro h;cases h)
   ·exact TotP.pure (by intro h;cases h)
  ·exact TotP.pure (by intro h;cases h)
 ·exact TotP.pure (by intro h;cases h)
theorem TotP.of_ex {α:Type} {f:Nat→Option α} {P:α→Prop} (h:∃ x,Ev f x∧P x):TotP f P:=h
theorem TotP.mono {α:Type} {f:Nat→Option α} {P Q:α→Prop} (h:TotP f P) (k:∀ x,P x→Q x):TotP f Q:=⟨h.choose,h.choose_spec.1,k _ h.choose_spec.2⟩
theorem TotP.cases {α:Type} {b:Bool} {f g:Nat→Option α} {P:α→Prop} (h:b=true→TotP f P) (k:b=false→TotP g P):TotP (fun n=>br b (f n) (g n)) P:=by
 cases b with
 | true=>exact h rfl
 | false=>exact k rfl
theorem TotP.casesn {α:Type} {b:Bool} {f g:Nat→Option α} {P:α→Prop} (h:b=true→TotP g P) (k:b=false→TotP f P):TotP (fun n=>br (!b) (f n) (g n)) P:=by
 cases b with
 | true=>exact h rfl
 | false=>exact k rfl
abbrev RawT:=(J3×J3)×((Int×Int)×List Int)
def RawU (x:RawT):Prop:=(U8 x.2.1.1∧U8 x.2.1.2)∧∀ k∈x.2.2,U8 k
theorem fits14 (c:CellT) (x:RawT) (hx:RawU x):TotP (fun n=>Z31 n c x) (fun y=>y.2=true→COk c∧WOk c y.1∧c.2.2.2.2.2.2.2.2.2.1.length≤20):=by
 refine TotP.of_eq 1 ?_
 simp only[Z31Eq]
 refine TotP.bind (greatTot c) fun g hg=>?_
 refine TotP.cases (fun _=>TotP.pure (by intro h;cases h)) fun hg0=>?_
 refine TotP.bind (TotP.of_ex (cellEv c (by have:=hg hg0;omega))) fun b hb=>?_
 refine TotP.casesn (fun hb0=>?_) fun _=>TotP.pure (by intro h;cases h)
 have hc:=hb hb0
 refine TotP.bind (worldTot hc x.1 x.2.1 x.2.2 hx.1 hx.2) fun w hw=>?_
 refine TotP.bind (TotP.of_ex (stateEv hc w hw)) fun v hv=>?_
 exact TotP.pure fun e=>⟨hc,hv e,hg hg0⟩
end Go.Pf
namespace Go.Pf
open Go Go.Am Go.Proofs Go.Hu Go.Mo
theorem nlow_eq {l q n:Int} (hq:-100≤q∧q≤100) (hn:U8 n):nlow l q n=max l (q-n % 2):=by
 unfold U8 at hn
 unfold nlow
 rw[Int.tmod_eq_emod_of_nonneg hn.1,w64 (by omega) (by omega)]
 by_cases h:l<q-n % 2
 ·rw[decide_eq_true h,if_pos rfl];omega
 ·rw[decide_eq_false h,if_neg (by simp)];omega
theorem nhigh_eq {l q n:Int} (hq:-100≤q∧q≤100) (hn:U8 n):nhigh l q n=min l (q+n / 2 % 2):=by
 unfold U8 at hn
 unfold nhigh
 rw[Int.tdiv_eq_ediv_of_nonneg hn.1,w64 (n:=n / 2) (by omega) (by omega),Int.tmod_eq_emod_of_nonneg (by omega),w64 (by omega) (by omega)]
 by_cases h:q+n / 2 % 2<l
 ·rw[decide_eq_true h,if_pos rfl];omega
 ·rw[decide_eq_false h,if_neg (by simp)];omega
theorem n4_eq {n:Int} (hn:U8 n):n4 n=n / 4:=by
 unfold U8 at hn
 unfold n4
 rw[Int.tdiv_eq_ediv_of_nonneg hn.1,w64 (by omega) (by omega)]
theorem U8.div {n:Int} (hn:U8 n):U8 (n / 4):=by unfold U8 at *;omega
theorem narA_eq {a:ArmT} {q:J3} {n:Int} (hq:(-100≤q.1∧q.1≤100)∧(-100≤q.2.1∧q.2.1≤100)∧(-100≤q.2.2∧q.2.2≤100)) (hn:U8 n) :
  narA a q n=(a.1,(a.2.1,(a.2.2.1,((max a.2.2.2.1.1 (q.1-n % 2),(max a.2.2.2.1.2.1 (q.2.1-n / 4 % 2),max a.2.2.2.1.2.2 (q.2.2-n / 4 / 4 % 2))),
   (min a.2.2.2.2.1 (q.1+n / 2 % 2),(min a.2.2.2.2.2.1 (q.2.1+n / 4 / 2 % 2),min a.2.2.2.2.2.2 (q.2.2+n / 4 / 4 / 2 % 2))))))):=by
 unfold narA
 rw[n4_eq hn,n4_eq hn.div,nlow_eq hq.1 hn,nlow_eq hq.2.1 hn.div,nlow_eq hq.2.2 hn.div.div,nhigh_eq hq.1 hn,nhigh_eq hq.2.1 hn.div,nhigh_eq hq.2.2 hn.div.div]
structure Rng (a:ArmT):Prop where
 low:(-100≤a.2.2.2.1.1∧-100≤a.2.2.2.1.2.1∧-100≤a.2.2.2.1.2.2)
 high:(a.2.2.2.2.1≤100∧a.2.2.2.2.2.1≤100∧a.2.2.2.2.2.2≤100)
 ord:(a.2.2.2.1.1≤a.2.2.2.2.1∧a.2.2.2.1.2.1≤a.2.2.2.2.2.1∧a.2.2.2.1.2.2≤a.2.2.2.2.2.2)
theorem tm {x k:Int} (hx:0≤x) (hk:0<k):0≤x.tmod k∧x.tmod k<k:=by
 rw[Int.tmod_eq_emod_of_nonneg hx];exact⟨Int.emod_nonneg _ (by omega),Int.emod_lt_of_pos _ hk⟩
theorem tmrng {l h r:Int} (hl:-100≤l) (hh:h≤100) (ho:l≤h) (hr:U8 r) :
  IntKind.i64.wrap (IntKind.i64.wrap (h-l)+1)=h-l+1∧l≤IntKind.i64.wrap (l+(IntKind.i64.wrap r).tmod (h-l+1))∧IntKind.i64.wrap (l+(IntKind.i64.wrap r).tmod (h-l+1))≤h:=by
 unfold U8 at hr
 have t:=tm hr.1 (show 0<h-l+1 by omega)
 rw[w64 (n:=h-l) (by omega) (by omega),w64 (n:=h-l+1) (by omega) (by omega),w64 (n:=r) (by omega) (by omega),w64 (by omega) (by omega)]
 exact⟨rfl,by omega,by omega⟩
theorem jointLim {a:ArmT} (ha:Rng a) (q:J3) (hq:U3 q):TotP (fun n=>Z32 n a q) (fun x=>inLim a x=true):=by
 obtain⟨l1,l2,l3⟩:=ha.low
 obtain⟨h1,h2,h3⟩:=ha.high
 obtain⟨o1,o2,o3⟩:=ha.ord
 obtain⟨e1,a1,b1⟩:=tmrng l1 h1 o1 hq.1
 obtain⟨e2,a2,b2⟩:=tmrng l2 h2 o2 hq.2.1
 obtain⟨e3,a3,b3⟩:=tmrng l3 h3 o3 hq.2.2
 refine TotP.of_eq 1 ?_
 simp (disch:=omega) only [Z32Eq,e1,e2,e3,br_neg]
 refine TotP.pure ?_
 unfold inLim
 rw[decide_eq_true_eq]
 exact⟨⟨a1,b1⟩,⟨a2,b2⟩,⟨a3,b3⟩⟩
theorem narRng {a:ArmT} {q:J3} {n:Int} (ha:ArmOk a) (hq:inLim a q=true) (hn:U8 n):Rng (narA a q n) ∧
  ((narA a q n).2.2.2.2.1≤(narA a q n).2.2.2.1.1+2∧(narA a q n).2.2.2.2.2.1≤(narA a q n).2.2.2.1.2.1+2∧(narA a q n).2.2.2.2.2.2≤(narA a q n).2.2.2.1.2.2+2):=by
 have hb:=ha.q hq
 have hl:=ha.low
 have hh:=ha.high
 have ho:=ha.ord
 unfold inLim at hq
 rw[decide_eq_true_eq] at hq
 obtain⟨⟨p1,p2⟩,⟨p3,p4⟩,p5,p6⟩:=hq
 rw[narA_eq (by omega) hn]
 exact⟨⟨by simp only;omega,by simp only;omega,by simp only;omega⟩,by simp only;omega⟩
abbrev CaseT:=RawT×(Int×(Int×J3))
def CaseU (x:CaseT):Prop:=RawU x.1∧U8 x.2.1∧U8 x.2.2.1∧U3 x.2.2.2
abbrev FitT:=CellT×(Mo.StateT×(Int×(J3×Bool)))
structure FitP (c:CellT) (bits:Int) (y:FitT):Prop where
 cok:COk c
 wok:WOk c y.2.1
 dok:COk y.1
 dwok:WOk y.1 y.2.1
 arm:(y.2.2.1=0∧y.1=nar0 c y.2.1 bits)∨(y.2.2.1=1∧y.1=nar1 c y.2.1 bits)
 to:inLim (armOf y.1 y.2.2.1) y.2.2.2.1=true
theorem fits18 (c:CellT) (x:CaseT) (hx:CaseU x):TotP (fun n=>Z11 n c x) (fun y=>y.2.2.2.2=true→FitP c x.2.2.1 y):=by
 obtain⟨hr,hm,hb,ht⟩:=hx
 refine TotP.of_eq 1 ?_
 simp only[Z11Eq]
 refine TotP.bind (fits14 c x.1 hr) fun y hy=>?_
 refine TotP.casesn (fun h1=>?_) fun _=>TotP.pure (by intro h;cases h)
 obtain⟨hc,hw,hz⟩:=hy h1
 have e:IntKind.i64.wrap x.2.1=x.2.1:=by unfold U8 at hm;exact w64 (by omega) (by omega)
 rw[e]
 have hm2:=tm hm.1 (show (0:Int)<2 by decide)
 rcases (show x.2.1.tmod 2=0∨x.2.1.tmod 2=1 by omega) with ha | ha
 ·rw[ha]
  obtain⟨hR,hS⟩:=narRng hc.arm0 hw.lim0 hb
  refine TotP.bind (P:=fun d=>d=nar0 c y.1 x.2.2.1) ⟨_,nar0Ev c y.1 x.2.2.1 hb,rfl⟩ ?_
  rintro _ rfl
  simp (disch:=decide) only [br_pos,br_neg]
  refine TotP.bind (jointLim (a:=(nar0 c y.1 x.2.2.1).1.1) hR _ ht) fun to hto=>?_
  refine TotP.bind (TotP.of_ex (cellEv (nar0 c y.1 x.2.2.1) (Nat.le_trans hz (by decide)))) fun b hb=>?_
  refine TotP.cases (fun hb1=>?_) fun _=>TotP.pure (by intro h;cases h)
  refine TotP.bind (TotP.of_ex (stateEv (hb hb1) y.1 (by have:=hw.wlen;have:=hc.partl;omega))) fun v hv=>?_
  exact TotP.pure fun hv1=>⟨hc,hw,hb hb1,hv hv1,.inl ⟨rfl,rfl⟩,hto⟩
 ·rw[ha]
  obtain⟨hR,hS⟩:=narRng hc.arm1 hw.lim1 hb
  refine TotP.bind (P:=fun d=>d=nar1 c y.1 x.2.2.1) ⟨_,nar1Ev c y.1 x.2.2.1 hb,rfl⟩ ?_
  rintro _ rfl
  simp (disch:=decide) only [br_pos]
  refine TotP.bind (jointLim (a:=(nar1 c y.1 x.2.2.1).1.2) hR _ ht) fun to hto=>?_
  refine TotP.bind (TotP.of_ex (cellEv (nar1 c y.1 x.2.2.1) (Nat.le_trans hz (by decide)))) fun b hb=>?_
  refine TotP.cases (fun hb1=>?_) fun _=>TotP.pure (by intro h;cases h)
  refine TotP.bind (TotP.of_ex (stateEv (hb hb1) y.1 (by have:=hw.wlen;have:=hc.partl;omega))) fun v hv=>?_
  exact TotP.pure fun hv1=>⟨hc,hw,hb hb1,hv hv1,.inr ⟨rfl,rfl⟩,hto⟩
end Go.Pf
namespace Go.Mo
open Go.Hu
theorem tryAll_ext (c:CellT) (w:StateT) (a i most:Int) (q:J3):∀ (x:List (Int×Int)) (l:List NodeT),∃ t,(tryAll c w a i most q x l).1=l ++ t
 | [],l=>⟨[],by simp[tryAll]⟩
 | v :: x,l=>by
  unfold tryAll
  split
  ·split
   ·exact⟨[],by simp⟩
   ·obtain⟨t,h⟩:=tryAll_ext c w a i most q x (l ++ [((stepJ (armOf c a) q v.1 v.2).1,(i,(a,v)))])
    exact⟨_ :: t,by rw[h,List.append_assoc];rfl⟩
  ·exact tryAll_ext c w a i most q x l
theorem tryAll_le (c:CellT) (w:StateT) (a i most:Int) (q:J3):∀ (x:List (Int×Int)) (l:List NodeT),(l.length:Int)≤most→((tryAll c w a i most q x l).1.length:Int)≤most
 | [],l,h=>h
 | v :: x,l,h=>by
  unfold tryAll
  split
  ·split
   ·exact h
   ·exact tryAll_le c w a i most q x _ (by simp only[List.length_append,List.length_cons,List.length_nil];omega)
  ·exact tryAll_le c w a i most q x l h
end Go.Mo
namespace Go.Mo
open Go.Hu
section
variable (c:CellT) (w:StateT) (a:Int)
def Leads (q:J3) (x:Int×Int) (q':J3):Prop:=stepJ (armOf c a) q x.1 x.2=(q',true)∧free c (setQ w a q) (a,x)=true
def NodeAt (l:List NodeT) (i:Nat) (n:NodeT):Prop :=
 ∃ (p:Nat) (m:NodeT) (x:Int×Int),l[p]?=some m∧p<i∧n.2=((p:Int),(a,x))∧x∈six∧Leads c w a m.1 x n.1∧∀ (j:Nat) (m:NodeT),j<i→l[j]?=some m→m.1≠n.1
structure Good (l:List NodeT):Prop where
 start:l[0]?=some (startN (conf w a))
 node:∀ (i:Nat) (n:NodeT),l[i]?=some n→0<i→NodeAt c w a l i n
 mono:∀ (i j:Nat) (n m:NodeT),l[i]?=some n→l[j]?=some m→i≤j→n.2.1≤m.2.1
def Closed (l:List NodeT) (i:Nat):Prop:=∀ (j:Nat) (n:NodeT),j<i→l[j]?=some n→∀ x∈six,∀ q',Leads c w a n.1 x q'→∃ (t:Nat) (m:NodeT),l[t]?=some m∧m.1=q'∧m.2.1≤(j:Int)
end
theorem hasN_iff {l:List NodeT} {q:J3}:hasN l q=true↔∃ (t:Nat) (m:NodeT),l[t]?=some m∧m.1=q:=by
 unfold hasN
 rw[List.any_eq_true]
 constructor
 ·rintro⟨m,hm,he⟩
  obtain⟨t,ht⟩:=List.mem_iff_getElem?.1 hm
  exact⟨t,m,ht,by simpa using he⟩
 ·rintro⟨t,m,ht,he⟩
  exact⟨m,List.mem_of_getElem? ht,by simpa using he⟩
theorem hasN_not {l:List NodeT} {q:J3} (h:hasN l q=false) {t:Nat} {m:NodeT} (ht:l[t]?=some m):m.1≠q:=fun e=>by
 rw[hasN_iff.2 ⟨t,m,ht,e⟩] at h;cases h
variable {c:CellT} {w:StateT} {a:Int}
theorem newB_pos {q:J3} {l:List NodeT} {x:Int×Int} (h:newB c w a q l x=true):Leads c w a q x (stepJ (armOf c a) q x.1 x.2).1∧hasN l (stepJ (armOf c a) q x.1 x.2).1=false:=by
 unfold newB at h
 simp only[Bool.and_eq_true,Bool.not_eq_true'] at h
 exact⟨⟨Prod.ext rfl h.1,h.2.2⟩,h.2.1⟩
theorem newB_neg {q:J3} {l:List NodeT} {x:Int×Int} (h:¬ newB c w a q l x=true) {q':J3} (hl:Leads c w a q x q'):hasN l q'=true:=by
 obtain⟨h1,h2⟩:=hl
 unfold newB at h
 rw[h1,h2] at h
 simpa using h
theorem Good.append {l:List NodeT} (h:Good c w a l) {i:Nat} {n:NodeT} (hi:l[i]?=some n) (hle:∀ m∈l,m.2.1≤(i:Int)) {x:Int×Int} {q':J3} (hx:x∈six) (hL:Leads c w a n.1 x q') (hn:hasN l q'=false) :
  Good c w a (l ++ [(q',((i:Int),(a,x)))]):=by
 have hlt:i<l.length:=by
  rcases Nat.lt_or_ge i l.length with h | h
  ·exact h
  ·rw[List.getElem?_eq_none h] at hi;cases hi
 have old:∀ {j:Nat} {m:NodeT},l[j]?=some m→(l ++ [(q',((i:Int),(a,x)))])[j]?=some m:=fun {j m} e=>by
  rw[List.getElem?_append_left (by
   rcases Nat.lt_or_ge j l.length with h | h
   ·exact h
   ·rw[List.getElem?_eq_none h] at e;cases e)]
  exact e
 have back:∀ {j:Nat} {m:NodeT},(l ++ [(q',((i:Int),(a,x)))])[j]?=some m→(j<l.length∧l[j]?=some m)∨(j=l.length∧m=(q',((i:Int),(a,x)))):=fun {j m} e=>by
  rcases Nat.lt_or_ge j l.length with h | h
  ·rw[List.getElem?_append_left h] at e;exact .inl ⟨h,e⟩
  ·rw[List.getElem?_append_right h] at e
   rcases Nat.eq_or_lt_of_le h with h1 | h1
   ·subst h1;simp at e;exact .inr ⟨rfl,e.symm⟩
   ·rw[List.getElem?_eq_none (by simp;omega)] at e;cases e
 refine⟨old h.start,fun j m e hj=>?_,fun j k m m' e1 e2 hjk=>?_⟩
 ·rcases back e with ⟨h1,h2⟩ | ⟨rfl,rfl⟩
  ·obtain⟨p,m',x',g1,g2,g3,g4,g5,g6⟩:=h.node j m h2 hj
   exact⟨p,m',x',old g1,g2,g3,g4,g5,fun k m'' hk e'=>by
    rcases back e' with ⟨_,h3⟩ | ⟨rfl,_⟩
    ·exact g6 k m'' hk h3
    ·omega⟩
  ·exact⟨i,n,x,old hi,hlt,rfl,hx,hL,fun k m'' hk e'=>by
    rcases back e' with ⟨_,h3⟩ | ⟨rfl,_⟩
    ·exact hasN_not hn h3
    ·omega⟩
 ·rcases back e1 with ⟨h1,h2⟩ | ⟨rfl,rfl⟩
  ·rcases back e2 with ⟨h3,h4⟩ | ⟨rfl,rfl⟩
   ·exact h.mono j k m m' h2 h4 hjk
   ·exact hle m (List.mem_of_getElem? h2)
  ·rcases back e2 with ⟨h3,h4⟩ | ⟨rfl,rfl⟩
   ·omega
   ·exact Int.le_refl _
theorem tryAll_good {i:Nat} {n:NodeT} (most:Int):∀ (r:List (Int×Int)) (l:List NodeT),(∀ x∈r,x∈six)→Good c w a l→l[i]?=some n→(∀ m∈l,m.2.1≤(i:Int)) →
  Good c w a (tryAll c w a i most n.1 r l).1∧(∀ m∈(tryAll c w a i most n.1 r l).1,m.2.1≤(i:Int)) ∧
  ((tryAll c w a i most n.1 r l).2=true→∀ x∈r,∀ q',Leads c w a n.1 x q'→hasN (tryAll c w a i most n.1 r l).1 q'=true) ∧
  ((tryAll c w a i most n.1 r l).2=false→most≤((tryAll c w a i most n.1 r l).1.length:Int)∧∃ x∈six,∃ q',Leads c w a n.1 x q'∧hasN (tryAll c w a i most n.1 r l).1 q'=false)
 | [],l,hr,hG,hi,hle=>⟨hG,hle,fun _ x hx=>by simp at hx,fun e=>by cases e⟩
 | x :: r,l,hr,hG,hi,hle=>by
  unfold tryAll
  by_cases hb:newB c w a n.1 l x=true
  ·rw[if_pos hb]
   obtain⟨h1,h2⟩:=newB_pos hb
   by_cases hm:most≤(l.length:Int)
   ·rw[if_pos hm]
    exact⟨hG,hle,fun e=>(by cases e),fun _=>⟨hm,x,hr x (by simp),_,h1,h2⟩⟩
   ·rw[if_neg hm]
    have hG':=hG.append hi hle (hr x (by simp)) h1 h2
    have hi':(l ++ [((stepJ (armOf c a) n.1 x.1 x.2).1,((i:Int),(a,x)))])[i]?=some n:=by
     rw[List.getElem?_append_left (by
      rcases Nat.lt_or_ge i l.length with h | h
      ·exact h
      ·rw[List.getElem?_eq_none h] at hi;cases hi)]
     exact hi
    obtain⟨g1,g2,g3,g4⟩:=tryAll_good most r _ (fun y hy=>hr y (by simp[hy])) hG' hi' (fun m hm=>by
     rcases List.mem_append.1 hm with h | h
     ·exact hle m h
     ·simp at h;subst h;exact Int.le_refl _)
    refine⟨g1,g2,fun e y hy q' hL=>?_,g4⟩
    rcases List.mem_cons.1 hy with rfl | hy
    ·obtain⟨t,ht⟩:=tryAll_ext c w a i most n.1 r (l ++ [((stepJ (armOf c a) n.1 y.1 y.2).1,((i:Int),(a,y)))])
     rw[ht]
     have hq:q'=(stepJ (armOf c a) n.1 y.1 y.2).1:=by rw[hL.1]
     unfold hasN
     rw[List.any_eq_true]
     exact⟨_,List.mem_append_left _ (List.mem_append_right _ (List.mem_singleton.2 rfl)),by simp[hq]⟩
    ·exact g3 e y hy q' hL
  ·rw[if_neg hb]
   obtain⟨g1,g2,g3,g4⟩:=tryAll_good most r l (fun y hy=>hr y (by simp[hy])) hG hi hle
   refine⟨g1,g2,fun e y hy q' hL=>?_,g4⟩
   rcases List.mem_cons.1 hy with rfl | hy
   ·obtain⟨t,ht⟩:=tryAll_ext c w a i most n.1 r l
    obtain⟨k,m,h1,h2⟩:=hasN_iff.1 (newB_neg hb hL)
    rw[ht]
    exact hasN_iff.2 ⟨k,m,by
     rw[List.getElem?_append_left (by
      rcases Nat.lt_or_ge k l.length with h | h
      ·exact h
      ·rw[List.getElem?_eq_none h] at h1;cases h1)]
     exact h1,h2⟩
   ·exact g3 e y hy q' hL
theorem get_append {α:Type} {l t:List α} {k:Nat} {m:α} (h:l[k]?=some m):(l ++ t)[k]?=some m:=by
 rw[List.getElem?_append_left (by
  rcases Nat.lt_or_ge k l.length with h' | h'
  ·exact h'
  ·rw[List.getElem?_eq_none h'] at h;cases h)]
 exact h
theorem Closed.ext {l t:List NodeT} {i:Nat} (h:Closed c w a l i) (hi:i≤l.length):Closed c w a (l ++ t) i:=fun j n hj hn x hx q' hL=>by
 rw[List.getElem?_append_left (by omega)] at hn
 obtain⟨k,m,h1,h2,h3⟩:=h j n hj hn x hx q' hL
 exact⟨k,m,get_append h1,h2,h3⟩
theorem grow_good (most:Int):∀ (k i:Nat) (l:List NodeT),Good c w a l→(∀ m∈l,m.2.1<(i:Int))→Closed c w a l i→i≤l.length→(l.length:Int)≤most→most+1≤(k:Int)+i →
  Good c w a (grow c w a most k i l).1∧((grow c w a most k i l).1.length:Int)≤most∧((grow c w a most k i l).2=true→Closed c w a (grow c w a most k i l).1 (grow c w a most k i l).1.length) ∧
  ((grow c w a most k i l).2=false→most≤((grow c w a most k i l).1.length:Int)∧∃ (j:Nat) (n:NodeT),(grow c w a most k i l).1[j]?=some n∧Closed c w a (grow c w a most k i l).1 j∧(∀ m∈(grow c w a most k i l).1,m.2.1≤(j:Int)) ∧
   ∃ x∈six,∃ q',Leads c w a n.1 x q'∧hasN (grow c w a most k i l).1 q'=false)
 | 0,i,l,hG,hlt,hC,hi,hl,hk=>by omega
 | k+1,i,l,hG,hlt,hC,hi,hl,hk=>by
  unfold grow
  rcases Nat.lt_or_ge i l.length with h | h
  ·have g:l[i]?=some l[i]:=List.getElem?_eq_getElem h
   rw[g]
   simp only
   obtain⟨t1,t2,t3,t4⟩:=tryAll_good (i:=i) (n:=l[i]) most six l (fun x hx=>hx) hG g (fun m hm=>by have:=hlt m hm;omega)
   obtain⟨t,ht⟩:=tryAll_ext c w a i most (l[i]).1 six l
   have hle:=tryAll_le c w a i most (l[i]).1 six l hl
   cases hb:(tryAll c w a i most (l[i]).1 six l).2 with
   | true =>
    simp only[if_true]
    refine grow_good most k (i+1) _ t1 (fun m hm=>by have:=t2 m hm;omega) ?_ (by rw[ht,List.length_append];omega) hle (by omega)
    intro j n hj hn x hx q' hL
    rcases Nat.lt_or_ge j i with hji | hji
    ·rw[ht] at hn ⊢
     exact hC.ext (by omega) j n hji hn x hx q' hL
    ·have:j=i:=by omega
     subst this
     have hn':n=l[j]:=by
      rw[ht,List.getElem?_append_left h,g] at hn
      exact (Option.some.inj hn).symm
     subst hn'
     obtain⟨u,m,h1,h2⟩:=hasN_iff.1 (t3 hb x hx q' hL)
     exact⟨u,m,h1,h2,t2 m (List.mem_of_getElem? h1)⟩
   | false =>
    simp only[Bool.false_eq_true,if_false]
    obtain⟨u1,u2⟩:=t4 hb
    refine⟨t1,hle,fun e=>(by rw[hb] at e;cases e),fun _=>⟨u1,i,l[i],by rw[ht];exact get_append g,by rw[ht];exact hC.ext (by omega),t2,u2⟩⟩
  ·have g:l[i]?=none:=List.getElem?_eq_none h
   rw[g]
   simp only
   have:i=l.length:=by omega
   subst this
   exact⟨hG,hl,fun _=>hC,fun e=>by cases e⟩
structure Explored (c:CellT) (w:StateT) (a most:Int) (l:List NodeT) (b:Bool):Prop where
 good:Good c w a l
 len:0<l.length∧(l.length:Int)≤most
 all:b=true→Closed c w a l l.length
 part:b=false→(l.length:Int)=most∧∃ (j:Nat) (n:NodeT),l[j]?=some n∧Closed c w a l j∧(∀ m∈l,m.2.1≤(j:Int))∧∃ x∈six,∃ q',Leads c w a n.1 x q'∧hasN l q'=false
theorem explored (c:CellT) (w:StateT) (a:Int) {most:Int} (h:1≤most):Explored c w a most (explore c w a most).1 (explore c w a most).2:=by
 have hG:Good c w a [startN (conf w a)]:=⟨rfl,fun i n e hi=>(by
  rw[List.getElem?_eq_none (by simp;omega)] at e;cases e),fun i j n m e1 e2 hij=>by
  have:∀ {i:Nat} {n:NodeT},[startN (conf w a)][i]?=some n→n=startN (conf w a):=fun {i n} e=>by
   have:=List.mem_of_getElem? e;simpa using this
  rw[this e1,this e2];exact Int.le_refl _⟩
 obtain⟨h1,h2,h3,h4⟩:=grow_good (c:=c) (w:=w) (a:=a) most (most.toNat+1) 0 [startN (conf w a)] hG (fun m hm=>by
  simp at hm;subst hm;show (-1:Int)<_;omega) (fun j n hj=>by omega) (Nat.zero_le _) (by simp;omega) (by omega)
 have hpos:0<(explore c w a most).1.length:=by
  have:=h1.start
  rcases Nat.eq_zero_or_pos (explore c w a most).1.length with h0 | h0
  ·unfold explore at h0
   rw[List.getElem?_eq_none (by omega)] at this;cases this
  ·exact h0
 exact⟨h1,⟨hpos,h2⟩,h3,fun e=>by obtain⟨u1,u2⟩:=h4 e;exact⟨Int.le_antisymm h2 u1,u2⟩⟩
theorem Good.inj {l:List NodeT} (h:Good c w a l) {i j:Nat} {n m:NodeT} (hi:l[i]?=some n) (hj:l[j]?=some m) (e:n.1=m.1):i=j:=by
 rcases Nat.lt_trichotomy i j with hl | hl | hl
 ·obtain⟨_,_,_,_,_,_,_,_,g⟩:=h.node j m hj (by omega)
  exact absurd e (g i n hl hi)
 ·exact hl
 ·obtain⟨_,_,_,_,_,_,_,_,g⟩:=h.node i n hi (by omega)
  exact absurd e.symm (g j m hl hj)
theorem Explored.short {most:Int} {l:List NodeT} {b:Bool} (h:Explored c w a most l b) {i t:Nat} {n m:NodeT} (hi:l[i]?=some n) (ht:l[t]?=some m) {x:Int×Int} (hx:x∈six) (hL:Leads c w a n.1 x m.1):m.2.1≤(i:Int):=by
 have key:∀ k,Closed c w a l k→i<k→m.2.1≤(i:Int):=fun k hC hk=>by
  obtain⟨t',m',h1,h2,h3⟩:=hC i n hk hi x hx m.1 hL
  have:=h.good.inj h1 ht h2
  subst this
  rw[h1] at ht;cases ht
  exact h3
 have hlt:i<l.length:=by
  rcases Nat.lt_or_ge i l.length with h | h
  ·exact h
  ·rw[List.getElem?_eq_none h] at hi;cases hi
 cases b with
 | true=>exact key _ (h.all rfl) hlt
 | false =>
  obtain⟨_,j,n',_,h2,h3,_⟩:=h.part rfl
  rcases Nat.lt_or_ge i j with hij | hij
  ·exact key j h2 hij
  ·have:=h3 m (List.mem_of_getElem? ht);omega
end Go.Mo
namespace Go.Mo
open Go.Hu
theorem region_comm (o:Pt) (a b:List Pt):region o a b=region o b a:=by
 unfold region
 by_cases h:a.length=b.length
 ·rw[if_neg (not_not_intro h),if_neg (not_not_intro h.symm),h,hullRes_congr (points_comm o a b)]
 ·rw[if_pos h,if_pos (Ne.symm h)]
abbrev BZT:=List (BodyT×BodyT)
def Ids (z:BodyT×BodyT):Prop:=z.1.1=z.2.1∧z.1.2.1=z.2.2.1∧z.1.2.2.1=z.2.2.2.1
theorem bar_ids {y z:BodyT×BodyT} (hy:Ids y) (hz:Ids z):bar y.1 z.1=bar y.2 z.2:=by
 unfold bar;rw[hy.1,hy.2.1,hy.2.2,hz.1,hz.2.1,hz.2.2]
theorem alike_ids {y z:BodyT×BodyT} (hy:Ids y) (hz:Ids z):alike y.1 z.1=alike y.2 z.2∧alike y.2 z.1=alike y.1 z.1:=by
 unfold alike;rw[hy.1,hy.2.1,hy.2.2,hz.1,hz.2.1,hz.2.2];exact⟨rfl,rfl⟩
theorem moves_ids (m:MoveT) {z:BodyT×BodyT} (hz:Ids z):moves m z.1=moves m z.2:=by
 unfold moves;rw[hz.1,hz.2.1,hz.2.2]
def pairsZ:BZT→List ((BodyT×BodyT)×(BodyT×BodyT))
 | []=>[]
 | a :: l=>(l.filter fun b=>bar a.1 b.1).map (fun b=>(a,b)) ++ pairsZ l
theorem pairsZ_fst:∀ (Z:BZT),pairsOf (Z.map Prod.fst)=(pairsZ Z).map fun p=>(p.1.1,p.2.1)
 | []=>rfl
 | a :: l=>by
  simp only[List.map_cons,pairsOf,pairsZ,List.map_append,List.map_map,pairsZ_fst l,List.filter_map]
  rfl
theorem pairsZ_snd:∀ (Z:BZT),(∀ z∈Z,Ids z)→pairsOf (Z.map Prod.snd)=(pairsZ Z).map fun p=>(p.1.2,p.2.2)
 | [],_=>rfl
 | a :: l,h=>by
  have ha:=h a (List.mem_cons_self ..)
  have e:l.filter (fun b=>bar a.1 b.1)=l.filter (fun b=>bar a.2 b.2):=List.filter_congr fun b hb=>bar_ids ha (h b (List.mem_cons_of_mem _ hb))
  simp only[List.map_cons,pairsOf,pairsZ,List.map_append,List.map_map,pairsZ_snd l (fun z hz=>h z (List.mem_cons_of_mem _ hz)),List.filter_map,e]
  rfl
theorem pairsZ_mem:∀ (Z:BZT) (p:(BodyT×BodyT)×(BodyT×BodyT)),p∈pairsZ Z→p.1∈Z∧p.2∈Z
 | [],p,h=>by simp[pairsZ] at h
 | a :: l,p,h=>by
  simp only[pairsZ,List.mem_append,List.mem_map,List.mem_filter] at h
  rcases h with ⟨b,⟨h1,_⟩,rfl⟩ | h
  ·exact⟨List.mem_cons_self ..,List.mem_cons_of_mem _ h1⟩
  ·have:=pairsZ_mem l p h
   exact⟨List.mem_cons_of_mem _ this.1,List.mem_cons_of_mem _ this.2⟩
theorem sweptB_fst (o:Pt) (z:BodyT×BodyT) (hz:Ids z):∀ (Z:BZT),(∀ y∈Z,Ids y)→z∈Z→(∀ y∈Z,alike y.1 z.1=true→y=z) →
  sweptB o z.1 (Z.map Prod.snd)=(z.1.1,(z.1.2.1,(z.1.2.2.1,(region o z.1.2.2.2 z.2.2.2.2).1))) ∧
  sweptB o z.2 (Z.map Prod.fst)=(z.1.1,(z.1.2.1,(z.1.2.2.1,(region o z.1.2.2.2 z.2.2.2.2).1)))
 | [],_,h,_=>by simp at h
 | y :: Z,hi,h,hu=>by
  have hy:=hi y (List.mem_cons_self ..)
  have a1:=alike_ids hy hz
  simp only[List.map_cons,sweptB]
  cases ha:alike y.1 z.1 with
  | true =>
   have:=hu y (List.mem_cons_self ..) ha
   subst this
   have e:alike y.1 y.2=true:=by
    have:alike y.1 y.2=alike y.1 y.1:=by unfold alike;rw[hz.1,hz.2.1,hz.2.2]
    rw[this,ha]
   rw[a1.2,ha,e,if_pos rfl,if_pos rfl,region_comm o y.2.2.2.2 y.1.2.2.2,← hy.1,← hy.2.1,← hy.2.2]
   exact⟨rfl,rfl⟩
  | false =>
   have e:alike y.1 z.2=false:=by
    have:alike y.1 z.2=alike y.1 z.1:=by unfold alike;rw[hz.1,hz.2.1,hz.2.2]
    rw[this,ha]
   rw[a1.2,ha,e,if_neg (by simp),if_neg (by simp)]
   have hzZ:z∈Z:=by
    rcases List.mem_cons.1 h with h | h
    ·subst h
     have:alike z.1 z.1=true:=by unfold alike;simp
     rw[this] at ha;cases ha
    ·exact h
   exact sweptB_fst o z hz Z (fun y hy=>hi y (List.mem_cons_of_mem _ hy)) hzZ (fun y hy=>hu y (List.mem_cons_of_mem _ hy))
structure Twin (o:Pt) (m m':MoveT) (Z:BZT):Prop where
 ids:∀ z∈Z,Ids z
 still:∀ z∈Z,moves m z.1=false→z.1=z.2
 same:∀ b,moves m b=moves m' b
 uniq:∀ z∈Z,moves m z.1=true→∀ y∈Z,alike y.1 z.1=true→y=z
theorem sweptP_twin {o:Pt} {m m':MoveT} {Z:BZT} (h:Twin o m m' Z):∀ (L:List ((BodyT×BodyT)×(BodyT×BodyT))),(∀ p∈L,p.1∈Z∧p.2∈Z) →
  sweptP o m (Z.map Prod.snd) (L.map fun p=>(p.1.1,p.2.1))=sweptP o m' (Z.map Prod.fst) (L.map fun p=>(p.1.2,p.2.2))
 | [],_=>rfl
 | p :: L,hL=>by
  obtain⟨h1,h2⟩:=hL p (List.mem_cons_self ..)
  have ih:=sweptP_twin h L (fun q hq=>hL q (List.mem_cons_of_mem _ hq))
  simp only[List.map_cons,sweptP,ih]
  congr 1
  rw[← h.same,← h.same,← moves_ids m (h.ids _ h1),← moves_ids m (h.ids _ h2)]
  cases m1:moves m p.1.1 with
  | true =>
   cases m2:moves m p.2.1 with
   | true=>simp
   | false =>
    obtain⟨e1,e2⟩:=sweptB_fst o p.1 (h.ids _ h1) Z h.ids h1 (h.uniq _ h1 m1)
    have e3:=h.still _ h2 m2
    simp[e1,e2,e3]
  | false =>
   cases m2:moves m p.2.1 with
   | true =>
    obtain⟨e1,e2⟩:=sweptB_fst o p.2 (h.ids _ h2) Z h.ids h2 (h.uniq _ h2 m2)
    have e3:=h.still _ h1 m1
    simp[e1,e2,e3]
   | false=>simp
def lz (i:Int) (l l':List Pt×(List Pt×List Pt)):BZT:=[((1,(i,(0,l.1))),(1,(i,(0,l'.1)))),((1,(i,(1,l.2.1))),(1,(i,(1,l'.2.1)))),((1,(i,(2,l.2.2))),(1,(i,(2,l'.2.2))))]
def hz (c:CellT) (a:ArmT) (q q':J3) (i h:Int):BZT:=if h<0 then [] else [((2,(i,(0,outlAt (prtOf c h) (jpts a q).2.2.2 (dirs q).2.2))),(2,(i,(0,outlAt (prtOf c h) (jpts a q').2.2.2 (dirs q').2.2))))]
def bz (c:CellT) (w:StateT) (p:J3×J3):BZT :=
 (lz 0 (links c.1.1 w.1.1) (links c.1.1 p.1) ++ lz 1 (links c.1.2 w.1.2) (links c.1.2 p.2)) ++ (hz c c.1.1 w.1.1 p.1 0 w.2.1.1 ++ (hz c c.1.2 w.1.2 p.2 1 w.2.1.2 ++ (resting c 0 w.2.2 ++ fixed 0 c.2.2.1).map fun b=>(b,b)))
theorem hz_fst (c:CellT) (a:ArmT) (q q':J3) (i h:Int):(hz c a q q' i h).map Prod.fst=held c a q i h∧(hz c a q q' i h).map Prod.snd=held c a q' i h:=by
 unfold hz held
 by_cases e:h<0
 ·rw[if_pos e,if_pos e,if_pos e];exact⟨rfl,rfl⟩
 ·rw[if_neg e,if_neg e,if_neg e];exact⟨rfl,rfl⟩
theorem bz_fst (c:CellT) (w:StateT) (p:J3×J3):(bz c w p).map Prod.fst=bodies c w∧(bz c w p).map Prod.snd=bodies c (p,w.2):=by
 have e0:=hz_fst c c.1.1 w.1.1 p.1 0 w.2.1.1
 have e1:=hz_fst c c.1.2 w.1.2 p.2 1 w.2.1.2
 unfold bz bodies
 simp only[List.map_append,List.map_map,e0.1,e0.2,e1.1,e1.2]
 constructor <;> simp[lz,lset,arms6,Function.comp_def]
theorem rest_kind (c:CellT):∀ (l:List Int) (i:Nat) (b:BodyT),b∈resting c i l→b.1=3
 | [],_,b,h=>by simp[resting] at h
 | k :: l,i,b,h=>by
  simp only[resting,List.mem_append] at h
  rcases h with h | h
  ·by_cases hk:0≤k
   ·rw[if_pos hk] at h;simp at h;rw[h]
   ·rw[if_neg hk] at h;simp at h
  ·exact rest_kind c l (i+1) b h
theorem fix_kind:∀ (l:List (List Pt)) (i:Nat) (b:BodyT),b∈fixed i l→b.1=4
 | [],_,b,h=>by simp[fixed] at h
 | p :: l,i,b,h=>by
  simp only[fixed,List.mem_cons] at h
  rcases h with rfl | h
  ·rfl
  ·exact fix_kind l (i+1) b h
theorem bz_mem {c:CellT} {w:StateT} {p:J3×J3} {z:BodyT×BodyT} (h:z∈bz c w p) :
  z∈lz 0 (links c.1.1 w.1.1) (links c.1.1 p.1)∨z∈lz 1 (links c.1.2 w.1.2) (links c.1.2 p.2)∨z∈hz c c.1.1 w.1.1 p.1 0 w.2.1.1∨z∈hz c c.1.2 w.1.2 p.2 1 w.2.1.2∨(z.1=z.2∧3≤z.1.1):=by
 unfold bz at h
 simp only[List.mem_append,List.mem_map] at h
 rcases h with (h | h) | h | h | ⟨b,h,rfl⟩
 ·exact .inl h
 ·exact .inr (.inl h)
 ·exact .inr (.inr (.inl h))
 ·exact .inr (.inr (.inr (.inl h)))
 ·refine .inr (.inr (.inr (.inr ⟨rfl,?_⟩)))
  rcases h with h | h
  ·show 3≤b.1
   rw[rest_kind _ _ _ _ h];decide
  ·show 3≤b.1
   rw[fix_kind _ _ _ h];decide
theorem hz_mem {c:CellT} {a:ArmT} {q q':J3} {i h:Int} {z:BodyT×BodyT} (hm:z∈hz c a q q' i h) :
  z=((2,(i,(0,outlAt (prtOf c h) (jpts a q).2.2.2 (dirs q).2.2))),(2,(i,(0,outlAt (prtOf c h) (jpts a q').2.2.2 (dirs q').2.2)))):=by
 unfold hz at hm
 by_cases e:h<0
 ·rw[if_pos e] at hm;simp at hm
 ·rw[if_neg e] at hm;simpa using hm
theorem bz_ids {c:CellT} {w:StateT} {p:J3×J3} {z:BodyT×BodyT} (h:z∈bz c w p):Ids z:=by
 rcases bz_mem h with h | h | h | h | ⟨h,_⟩
 ·simp only[lz,List.mem_cons,List.not_mem_nil,or_false] at h
  rcases h with rfl | rfl | rfl <;> exact⟨rfl,rfl,rfl⟩
 ·simp only[lz,List.mem_cons,List.not_mem_nil,or_false] at h
  rcases h with rfl | rfl | rfl <;> exact⟨rfl,rfl,rfl⟩
 ·rw[hz_mem h];exact⟨rfl,rfl,rfl⟩
 ·rw[hz_mem h];exact⟨rfl,rfl,rfl⟩
 ·unfold Ids;rw[h];exact⟨rfl,rfl,rfl⟩
theorem alike_iff {a b:BodyT}:alike a b=true↔a.1=b.1∧a.2.1=b.2.1∧a.2.2.1=b.2.2.1:=by
 unfold alike;simp
theorem moves_kind {m:MoveT} {b:BodyT} (h:moves m b=true):b.1=1∨b.1=2:=by
 unfold moves at h
 simp at h
 omega
theorem bz_uniq {c:CellT} {w:StateT} {p:J3×J3} {z y:BodyT×BodyT} (hzm:z∈bz c w p) (hym:y∈bz c w p) (hk:z.1.1=1∨z.1.1=2) (ha:alike y.1 z.1=true):y=z:=by
 obtain⟨a1,a2,a3⟩:=alike_iff.1 ha
 have hzz:z∈lz 0 (links c.1.1 w.1.1) (links c.1.1 p.1)∨z∈lz 1 (links c.1.2 w.1.2) (links c.1.2 p.2)∨z∈hz c c.1.1 w.1.1 p.1 0 w.2.1.1∨z∈hz c c.1.2 w.1.2 p.2 1 w.2.1.2:=by
  rcases bz_mem hzm with h | h | h | h | ⟨_,h⟩
  ·exact .inl h
  ·exact .inr (.inl h)
  ·exact .inr (.inr (.inl h))
  ·exact .inr (.inr (.inr h))
  ·omega
 have hyy:y∈lz 0 (links c.1.1 w.1.1) (links c.1.1 p.1)∨y∈lz 1 (links c.1.2 w.1.2) (links c.1.2 p.2)∨y∈hz c c.1.1 w.1.1 p.1 0 w.2.1.1∨y∈hz c c.1.2 w.1.2 p.2 1 w.2.1.2:=by
  rcases bz_mem hym with h | h | h | h | ⟨_,h⟩
  ·exact .inl h
  ·exact .inr (.inl h)
  ·exact .inr (.inr (.inl h))
  ·exact .inr (.inr (.inr h))
  ·omega
 have key:∀ u,(u∈lz 0 (links c.1.1 w.1.1) (links c.1.1 p.1)∨u∈lz 1 (links c.1.2 w.1.2) (links c.1.2 p.2)∨u∈hz c c.1.1 w.1.1 p.1 0 w.2.1.1∨u∈hz c c.1.2 w.1.2 p.2 1 w.2.1.2) →
   ((u.1.1,(u.1.2.1,u.1.2.2.1))=(1,(0,0))∧u=((1,(0,(0,(links c.1.1 w.1.1).1))),(1,(0,(0,(links c.1.1 p.1).1))))) ∨
   ((u.1.1,(u.1.2.1,u.1.2.2.1))=(1,(0,1))∧u=((1,(0,(1,(links c.1.1 w.1.1).2.1))),(1,(0,(1,(links c.1.1 p.1).2.1))))) ∨
   ((u.1.1,(u.1.2.1,u.1.2.2.1))=(1,(0,2))∧u=((1,(0,(2,(links c.1.1 w.1.1).2.2))),(1,(0,(2,(links c.1.1 p.1).2.2))))) ∨
   ((u.1.1,(u.1.2.1,u.1.2.2.1))=(1,(1,0))∧u=((1,(1,(0,(links c.1.2 w.1.2).1))),(1,(1,(0,(links c.1.2 p.2).1))))) ∨
   ((u.1.1,(u.1.2.1,u.1.2.2.1))=(1,(1,1))∧u=((1,(1,(1,(links c.1.2 w.1.2).2.1))),(1,(1,(1,(links c.1.2 p.2).2.1))))) ∨
   ((u.1.1,(u.1.2.1,u.1.2.2.1))=(1,(1,2))∧u=((1,(1,(2,(links c.1.2 w.1.2).2.2))),(1,(1,(2,(links c.1.2 p.2).2.2))))) ∨
   ((u.1.1,(u.1.2.1,u.1.2.2.1))=(2,(0,0))∧u=((2,(0,(0,outlAt (prtOf c w.2.1.1) (jpts c.1.1 w.1.1).2.2.2 (dirs w.1.1).2.2))),(2,(0,(0,outlAt (prtOf c w.2.1.1) (jpts c.1.1 p.1).2.2.2 (dirs p.1).2.2))))) ∨
   ((u.1.1,(u.1.2.1,u.1.2.2.1))=(2,(1,0))∧u=((2,(1,(0,outlAt (prtOf c w.2.1.2) (jpts c.1.2 w.1.2).2.2.2 (dirs w.1.2).2.2))),(2,(1,(0,outlAt (prtOf c w.2.1.2) (jpts c.1.2 p.2).2.2.2 (dirs p.2).2.2))))):=by
  intro u hu
  rcases hu with h | h | h | h
  ·simp only[lz,List.mem_cons,List.not_mem_nil,or_false] at h
   rcases h with rfl | rfl | rfl <;> simp
  ·simp only[lz,List.mem_cons,List.not_mem_nil,or_false] at h
   rcases h with rfl | rfl | rfl <;> simp
  ·rw[hz_mem h];simp
  ·rw[hz_mem h];simp
 have e:(y.1.1,(y.1.2.1,y.1.2.2.1))=(z.1.1,(z.1.2.1,z.1.2.2.1)):=by rw[a1,a2,a3]
 rcases key z hzz with ⟨k1,k2⟩ | ⟨k1,k2⟩ | ⟨k1,k2⟩ | ⟨k1,k2⟩ | ⟨k1,k2⟩ | ⟨k1,k2⟩ | ⟨k1,k2⟩ | ⟨k1,k2⟩ <;>
 rcases key y hyy with ⟨g1,g2⟩ | ⟨g1,g2⟩ | ⟨g1,g2⟩ | ⟨g1,g2⟩ | ⟨g1,g2⟩ | ⟨g1,g2⟩ | ⟨g1,g2⟩ | ⟨g1,g2⟩ <;>
 first
  | (rw[k2,g2];done)
  | (rw[k1,g1] at e;simp at e)
end Go.Mo
namespace Go.Mo
open Go.Hu
theorem links_still (a:ArmT) (q:J3) (j b:Int):(1≤j→(links a (bump q j b)).1=(links a q).1)∧(2≤j→(links a (bump q j b)).2.1=(links a q).2.1):=by
 constructor
 ·intro h
  unfold bump
  rw[if_neg (by omega)]
  by_cases h1:j=1
  ·rw[if_pos h1];rfl
  ·rw[if_neg h1];rfl
 ·intro h
  unfold bump
  rw[if_neg (by omega),if_neg (by omega)];rfl
theorem jpt_still (a:ArmT) (q:J3) (j b:Int) (h:0≤j∧j<3):jpt a (bump q j b) j=jpt a q j:=by
 rcases (show j=0∨j=1∨j=2 by omega) with rfl | rfl | rfl <;> rfl
theorem lz_same {i:Int} {l:List Pt×(List Pt×List Pt)} {z:BodyT×BodyT} (h:z∈lz i l l):z.1=z.2:=by
 simp only[lz,List.mem_cons,List.not_mem_nil,or_false] at h
 rcases h with rfl | rfl | rfl <;> rfl
theorem lz_still {i j b:Int} {a:ArmT} {q:J3} (hj:0≤j∧j<3) {z:BodyT×BodyT} (h:z∈lz i (links a q) (links a (bump q j b))) (hm:moves (i,(j,b)) z.1=false):z.1=z.2:=by
 have hs:=links_still a q j b
 simp only[lz,List.mem_cons,List.not_mem_nil,or_false] at h
 rcases h with rfl | rfl | rfl
 ·simp[moves] at hm
  rw[hs.1 (by omega)]
 ·simp[moves] at hm
  rw[hs.2 (by omega)]
 ·simp[moves] at hm
  omega
theorem hz_same {c:CellT} {a:ArmT} {q:J3} {i h:Int} {z:BodyT×BodyT} (hm:z∈hz c a q q i h):z.1=z.2:=by rw[hz_mem hm]
theorem hz_still {c:CellT} {a:ArmT} {q q':J3} {i h j b:Int} {z:BodyT×BodyT} (hm:z∈hz c a q q' i h) (hs:moves (i,(j,b)) z.1=false):z.1=z.2:=by
 rw[hz_mem hm] at hs
 simp[moves] at hs
theorem twin0 (c:CellT) (w:StateT) (j b:Int) (hj:0≤j∧j<3) (o:Pt):Twin o (0,(j,b)) (0,(j,-b)) (bz c w (bump w.1.1 j b,w.1.2)) where
 ids:=fun z hz=>bz_ids hz
 still:=fun z hz hm=>by
  rcases bz_mem hz with h | h | h | h | ⟨h,_⟩
  ·exact lz_still hj h hm
  ·exact lz_same h
  ·exact hz_still h hm
  ·exact hz_same h
  ·exact h
 same:=fun x=>rfl
 uniq:=fun z hz hm y hy ha=>bz_uniq hz hy (moves_kind hm) ha
theorem twin1 (c:CellT) (w:StateT) (j b:Int) (hj:0≤j∧j<3) (o:Pt):Twin o (1,(j,b)) (1,(j,-b)) (bz c w (w.1.1,bump w.1.2 j b)) where
 ids:=fun z hz=>bz_ids hz
 still:=fun z hz hm=>by
  rcases bz_mem hz with h | h | h | h | ⟨h,_⟩
  ·exact lz_same h
  ·exact lz_still hj h hm
  ·exact hz_same h
  ·exact hz_still h hm
  ·exact h
 same:=fun x=>rfl
 uniq:=fun z hz hm y hy ha=>bz_uniq hz hy (moves_kind hm) ha
theorem stepJ_iff {a:ArmT} {q q':J3} {j b:Int}:stepJ a q j b=(q',true)↔(0≤j∧j<3)∧(b=1∨b = -1)∧inLim a (bump q j b)=true∧q'=bump q j b:=by
 unfold stepJ
 by_cases h:(0≤j∧j<3)∧(b=1∨b = -1)∧inLim a (bump q j b)=true
 ·rw[if_pos h]
  constructor
  ·intro e;cases e;exact⟨h.1,h.2.1,h.2.2,rfl⟩
  ·rintro⟨_,_,_,rfl⟩;rfl
 ·rw[if_neg h]
  constructor
  ·intro e;cases e
  ·rintro⟨h1,h2,h3,_⟩;exact absurd ⟨h1,h2,h3⟩ h
theorem bump_back (q:J3) (j b:Int):bump (bump q j b) j (-b)=q:=by
 unfold bump
 by_cases h:j=0
 ·simp only[if_pos h];ext <;> simp <;> omega
 ·by_cases h1:j=1
  ·simp only[if_neg h,if_pos h1];ext <;> simp <;> omega
  ·simp only[if_neg h,if_neg h1];ext <;> simp <;> omega
theorem stepJ_back {a:ArmT} {q q':J3} {j b:Int} (hq:inLim a q=true) (h:stepJ a q j b=(q',true)):stepJ a q' j (-b)=(q,true):=by
 obtain⟨h1,h2,h3,rfl⟩:=stepJ_iff.1 h
 exact stepJ_iff.2 ⟨h1,by omega,by rw[bump_back];exact hq,by rw[bump_back]⟩
theorem next_ok {c:CellT} {w:StateT} {a j b:Int} (ha:a=0∨a=1) {q':J3} (h:stepJ (armOf c a) (conf w a) j b=(q',true)):next c w (a,(j,b))=(setQ w a q',true):=by
 unfold next
 simp only[h]
 rw[if_pos ⟨by omega,by omega,trivial⟩]
theorem sweptPairs_back {c:CellT} {w:StateT} {a j b:Int} (ha:a=0∨a=1) {q':J3} (hq:inLim (armOf c a) (conf w a)=true) (h:stepJ (armOf c a) (conf w a) j b=(q',true)) :
  sweptPairs c (setQ w a q') (a,(j,-b))=sweptPairs c w (a,(j,b)):=by
 have hb:=stepJ_back hq h
 obtain⟨h1,_,_,hq'⟩:=stepJ_iff.1 h
 have e1:=next_ok ha h
 rcases ha with rfl | rfl
 ·have e2:next c (setQ w 0 q') (0,(j,-b))=(setQ (setQ w 0 q') 0 (conf w 0),true):=next_ok (.inl rfl) hb
  have e3:setQ (setQ w 0 q') 0 (conf w 0)=w:=rfl
  rw[e3] at e2
  unfold sweptPairs
  rw[e1,e2,if_pos rfl,if_pos rfl]
  simp only
  have hj:jpt (armOf c 0) (conf (setQ w 0 q') 0) j=jpt (armOf c 0) (conf w 0) j:=by
   show jpt (armOf c 0) q' j=_
   rw[hq'];exact jpt_still _ _ _ _ h1
  rw[hj]
  have hw:setQ w 0 q'=((bump w.1.1 j b,w.1.2),w.2):=by rw[hq'];rfl
  have T:=twin0 c w j b h1 (jpt (armOf c 0) (conf w 0) j)
  have F:=bz_fst c w (bump w.1.1 j b,w.1.2)
  have P:=sweptP_twin T (pairsZ (bz c w (bump w.1.1 j b,w.1.2))) (fun p hp=>pairsZ_mem _ _ hp)
  rw[hw,← F.1,← F.2,pairsZ_fst,pairsZ_snd _ T.ids]
  exact P.symm
 ·have e2:next c (setQ w 1 q') (1,(j,-b))=(setQ (setQ w 1 q') 1 (conf w 1),true):=next_ok (.inr rfl) hb
  have e3:setQ (setQ w 1 q') 1 (conf w 1)=w:=rfl
  rw[e3] at e2
  unfold sweptPairs
  rw[e1,e2,if_pos rfl,if_pos rfl]
  simp only
  have hj:jpt (armOf c 1) (conf (setQ w 1 q') 1) j=jpt (armOf c 1) (conf w 1) j:=by
   show jpt (armOf c 1) q' j=_
   rw[hq'];exact jpt_still _ _ _ _ h1
  rw[hj]
  have hw:setQ w 1 q'=((w.1.1,bump w.1.2 j b),w.2):=by rw[hq'];rfl
  have T:=twin1 c w j b h1 (jpt (armOf c 1) (conf w 1) j)
  have F:=bz_fst c w (w.1.1,bump w.1.2 j b)
  have P:=sweptP_twin T (pairsZ (bz c w (w.1.1,bump w.1.2 j b))) (fun p hp=>pairsZ_mem _ _ hp)
  rw[hw,← F.1,← F.2,pairsZ_fst,pairsZ_snd _ T.ids]
  exact P.symm
theorem free_back {c:CellT} {w:StateT} {a j b:Int} (ha:a=0∨a=1) {q':J3} (hq:inLim (armOf c a) (conf w a)=true) (h:stepJ (armOf c a) (conf w a) j b=(q',true)) :
  free c (setQ w a q') (a,(j,-b))=free c w (a,(j,b)):=by
 have hs:=sweptPairs_back ha hq h
 have e1:=next_ok ha h
 have e2:(next c (setQ w a q') (a,(j,-b))).2=true:=by
  rw[next_ok ha (w:=setQ w a q') (q':=conf w a)]
  have:conf (setQ w a q') a=q':=by rcases ha with rfl | rfl <;> rfl
  rw[this]
  exact stepJ_back hq h
 unfold free cert
 rw[hs,e1,if_pos rfl,if_pos e2]
theorem Leads.back {c:CellT} {w:StateT} {a:Int} (ha:a=0∨a=1) {q q':J3} {x:Int×Int} (hq:inLim (armOf c a) q=true) (h:Leads c w a q x q'):Leads c w a q' (x.1,-x.2) q:=by
 have hc:conf (setQ w a q) a=q:=by rcases ha with rfl | rfl <;> rfl
 have hs:setQ (setQ w a q) a q'=setQ w a q':=by rcases ha with rfl | rfl <;> rfl
 have h1:stepJ (armOf c a) (conf (setQ w a q) a) x.1 x.2=(q',true):=by rw[hc];exact h.1
 refine⟨stepJ_back hq h.1,?_⟩
 have:=free_back ha (w:=setQ w a q) (by rw[hc];exact hq) h1
 rw[hs] at this
 exact this.trans h.2
end Go.Mo
namespace Go.Mo
open Go.Hu
def Like (a a':ArmT):Prop:=a'.1=a.1∧a'.2.1=a.2.1∧a'.2.2.1=a.2.2.1
theorem Like.jpts {a a':ArmT} (h:Like a a') (q:J3):jpts a' q=jpts a q:=by
 unfold Mo.jpts;rw[h.1,h.2.1]
theorem Like.links {a a':ArmT} (h:Like a a') (q:J3):links a' q=links a q:=by
 unfold Mo.links Mo.link;rw[h.jpts,h.2.2]
structure Wider (d f:CellT):Prop where
 arm0:Like d.1.1 f.1.1
 arm1:Like d.1.2 f.1.2
 lim0:∀ q,inLim d.1.1 q=true→inLim f.1.1 q=true
 lim1:∀ q,inLim d.1.2 q=true→inLim f.1.2 q=true
 parts:f.2.2.2.2.1=d.2.2.2.2.1
 places:f.2.2.2.1=d.2.2.2.1
 fix:∀ p∈f.2.2.1,p∈d.2.2.1
def mob (c:CellT) (w:StateT):List BodyT:=arms6 c w ++ (held c c.1.1 w.1.1 0 w.2.1.1 ++ (held c c.1.2 w.1.2 1 w.2.1.2 ++ resting c 0 w.2.2))
theorem bodies_mob (c:CellT) (w:StateT):bodies c w=mob c w ++ fixed 0 c.2.2.1:=by
 unfold bodies mob;simp only[List.append_assoc]
theorem resting_congr {d f:CellT} (h:f.2.2.2.2.1=d.2.2.2.2.1) (h2:f.2.2.2.1=d.2.2.2.1):∀ (l:List Int) (i:Nat),resting f i l=resting d i l
 | [],_=>rfl
 | k :: l,i=>by
  have e1:prtOf f i=prtOf d i:=by unfold prtOf;rw[h]
  have e2:plcOf f k=plcOf d k:=by unfold plcOf;rw[h2]
  simp only[resting,resting_congr h h2 l,e1,e2]
theorem Wider.mob {d f:CellT} (h:Wider d f) (w:StateT):mob f w=mob d w:=by
 have e:∀ k,prtOf f k=prtOf d k:=fun k=>by unfold prtOf;rw[h.parts]
 unfold Mo.mob arms6 held
 rw[h.arm0.links,h.arm1.links,h.arm0.jpts,h.arm1.jpts,e,e,resting_congr h.parts h.places]
theorem mob_kind {c:CellT} {w:StateT} {b:BodyT} (h:b∈mob c w):b.1=1∨b.1=2∨b.1=3:=by
 unfold mob arms6 at h
 simp only[List.mem_append] at h
 rcases h with (h | h) | h | h | h
 ·simp only[lset,List.mem_cons,List.not_mem_nil,or_false] at h
  rcases h with rfl | rfl | rfl <;> exact .inl rfl
 ·simp only[lset,List.mem_cons,List.not_mem_nil,or_false] at h
  rcases h with rfl | rfl | rfl <;> exact .inl rfl
 ·unfold held at h
  split at h
  ·simp at h
  ·simp at h;rw[h];exact .inr (.inl rfl)
 ·unfold held at h
  split at h
  ·simp at h
  ·simp at h;rw[h];exact .inr (.inl rfl)
 ·exact .inr (.inr (rest_kind _ _ _ _ h))
theorem fixed_mem:∀ (l:List (List Pt)) (i:Nat) (b:BodyT),b∈fixed i l→∃ (k:Nat) (p:List Pt),p∈l∧b=(4,((k:Int),(0,p)))
 | [],_,b,h=>by simp[fixed] at h
 | p :: l,i,b,h=>by
  simp only[fixed,List.mem_cons] at h
  rcases h with rfl | h
  ·exact⟨i,p,List.mem_cons_self ..,rfl⟩
  ·obtain⟨k,p',h1,h2⟩:=fixed_mem l (i+1) b h
   exact⟨k,p',List.mem_cons_of_mem _ h1,h2⟩
theorem fixed_has:∀ (l:List (List Pt)) (i:Nat) (p:List Pt),p∈l→∃ k:Nat,((4,((k:Int),(0,p))):BodyT)∈fixed i l
 | [],_,p,h=>by simp at h
 | x :: l,i,p,h=>by
  simp only[fixed,List.mem_cons]
  rcases List.mem_cons.1 h with rfl | h
  ·exact⟨i,.inl rfl⟩
  ·obtain⟨k,h⟩:=fixed_has l (i+1) p h
   exact⟨k,.inr h⟩
theorem bar4 {a b:BodyT} (h:a.1=4):bar a b=false:=by unfold bar;rw[if_neg (by omega),if_neg (by omega)]
theorem pairs4:∀ (l:List BodyT),(∀ b∈l,b.1=4)→pairsOf l=[]
 | [],_=>rfl
 | a :: l,h=>by
  have e:l.filter (bar a)=[]:=List.filter_eq_nil_iff.2 fun b _=>by rw[bar4 (h a (List.mem_cons_self ..))];simp
  simp only[pairsOf,e,List.map_nil,List.nil_append]
  exact pairs4 l fun b hb=>h b (List.mem_cons_of_mem _ hb)
theorem pairs_mem {F:List BodyT} (hF:∀ b∈F,b.1=4) (p:PairT):∀ (P:List BodyT),p∈pairsOf (P ++ F)↔p∈pairsOf P∨(p.1∈P∧p.2∈F∧bar p.1 p.2=true)
 | []=>by
  rw[List.nil_append,pairs4 F hF]
  simp[pairsOf]
 | a :: P=>by
  simp only[List.cons_append,pairsOf,List.mem_append,pairs_mem hF p P,List.filter_append,List.map_append,List.mem_map,List.mem_filter,List.mem_cons]
  constructor
  ·rintro ((⟨b,⟨h1,h2⟩,rfl⟩ | ⟨b,⟨h1,h2⟩,rfl⟩) | h | ⟨h1,h2,h3⟩)
   ·exact .inl (.inl ⟨b,⟨h1,h2⟩,rfl⟩)
   ·exact .inr ⟨.inl rfl,h1,h2⟩
   ·exact .inl (.inr h)
   ·exact .inr ⟨.inr h1,h2,h3⟩
  ·rintro ((⟨b,⟨h1,h2⟩,rfl⟩ | h) | ⟨h1 | h1,h2,h3⟩)
   ·exact .inl (.inl ⟨b,⟨h1,h2⟩,rfl⟩)
   ·exact .inr (.inl h)
   ·exact .inl (.inr ⟨p.2,⟨h2,by rw[← h1];exact h3⟩,by rw[← h1]⟩)
   ·exact .inr (.inr ⟨h1,h2,h3⟩)
theorem pairs_in:∀ (P:List BodyT) (p:PairT),p∈pairsOf P→p.1∈P∧p.2∈P
 | [],p,h=>by simp[pairsOf] at h
 | a :: P,p,h=>by
  simp only[pairsOf,List.mem_append,List.mem_map,List.mem_filter] at h
  rcases h with ⟨b,⟨h1,_⟩,rfl⟩ | h
  ·exact⟨List.mem_cons_self ..,List.mem_cons_of_mem _ h1⟩
  ·have:=pairs_in P p h
   exact⟨List.mem_cons_of_mem _ this.1,List.mem_cons_of_mem _ this.2⟩
theorem sweptB_fix (o:Pt) {b:BodyT} (hb:b.1≠4) {F F':List BodyT} (hF:∀ b∈F,b.1=4) (hF':∀ b∈F',b.1=4):∀ (P:List BodyT),sweptB o b (P ++ F)=sweptB o b (P ++ F')
 | []=>by
  have key:∀ (G:List BodyT),(∀ b∈G,b.1=4)→sweptB o b G=b:=fun G=>by
   induction G with
   | nil=>intro _;rfl
   | cons x G ih =>
    intro h
    have:alike x b=false:=by
     have:=h x (List.mem_cons_self ..)
     unfold alike;rw[decide_eq_false (by omega),Bool.false_and]
    unfold sweptB
    rw[this,if_neg (by simp)]
    exact ih fun y hy=>h y (List.mem_cons_of_mem _ hy)
  rw[List.nil_append,List.nil_append,key F hF,key F' hF']
 | x :: P=>by
  simp only[List.cons_append,sweptB,sweptB_fix o hb hF hF' P]
theorem sweptP_mem (o:Pt) (m:MoveT) (thn:List BodyT) (r:PairT):∀ (L:List PairT),r∈sweptP o m thn L ↔
  ∃ p∈L,(moves m p.1=true∧moves m p.2=false∧r=(sweptB o p.1 thn,p.2))∨(moves m p.2=true∧moves m p.1=false∧r=(p.1,sweptB o p.2 thn))
 | []=>by simp[sweptP]
 | p :: L=>by
  simp only[sweptP,List.mem_append,sweptP_mem o m thn r L,List.mem_cons,exists_eq_or_imp]
  apply or_congr _ Iff.rfl
  cases moves m p.1 <;> cases moves m p.2 <;> simp
def areas (p:PairT):List Pt×List Pt:=(p.1.2.2.2,p.2.2.2.2)
theorem checks_areas {p r:PairT} (h:areas p=areas r):checks p=checks r:=by
 unfold areas at h
 obtain⟨e1,e2⟩:=Prod.ext_iff.1 h
 simp only at e1 e2
 unfold checks
 rw[e1,e2]
theorem sepAll_some:∀ (l:List (List Pt×List Pt)),(∃ r,sepAll l=some r)↔∀ x∈l,(sepEdge x.1 x.2).2=true
 | []=>by simp[sepAll]
 | x :: l=>by
  have ih:=sepAll_some l
  simp only[sepAll,List.mem_cons,forall_eq_or_imp]
  by_cases h:(sepEdge x.1 x.2).2=true
  ·rw[if_pos h,← ih]
   constructor
   ·rintro⟨r,hr⟩
    cases e:sepAll l with
    | none=>rw[e] at hr;cases hr
    | some y=>exact⟨h,y,rfl⟩
   ·rintro⟨_,y,e⟩
    rw[e];exact⟨_,rfl⟩
  ·rw[if_neg h]
   constructor
   ·rintro⟨r,hr⟩;cases hr
   ·rintro⟨h',_⟩;exact absurd h' h
theorem free_iff {c:CellT} {w:StateT} {m:MoveT}:free c w m=true↔(next c w m).2=true∧∀ p∈sweptPairs c w m,∀ x∈checks p,(sepEdge x.1 x.2).2=true:=by
 unfold free cert
 by_cases h:(next c w m).2=true
 ·rw[if_pos h]
  have:=sepAll_some ((sweptPairs c w m).flatMap checks)
  simp only[List.mem_flatMap,forall_exists_index,and_imp] at this
  constructor
  ·intro e
   refine⟨h,fun p hp x hx=>?_⟩
   refine this.1 ?_ x p hp hx
   cases g:sepAll ((sweptPairs c w m).flatMap checks) with
   | none=>rw[g] at e;cases e
   | some r=>exact⟨r,rfl⟩
  ·rintro⟨_,h2⟩
   obtain⟨r,hr⟩:=this.2 fun x p hp hx=>h2 p hp x hx
   rw[hr]
 ·rw[if_neg h]
  constructor
  ·intro e;cases e
  ·rintro⟨h',_⟩;exact absurd h' h
theorem Wider.stepJ {d f:CellT} (h:Wider d f) {a:Int} {q q':J3} {j b:Int} (hs:stepJ (armOf d a) q j b=(q',true)):stepJ (armOf f a) q j b=(q',true):=by
 obtain⟨h1,h2,h3,h4⟩:=stepJ_iff.1 hs
 refine stepJ_iff.2 ⟨h1,h2,?_,h4⟩
 unfold armOf at *
 by_cases e:a=0
 ·rw[if_pos e] at *;exact h.lim0 _ h3
 ·rw[if_neg e] at *;exact h.lim1 _ h3
theorem Wider.next {d f:CellT} (h:Wider d f) {w:StateT} {m:MoveT} (hn:(next d w m).2=true):next f w m=next d w m:=by
 unfold Mo.next at *
 by_cases e:0≤m.1∧m.1≤1∧(Mo.stepJ (armOf d m.1) (conf w m.1) m.2.1 m.2.2).2=true
 ·have s:Mo.stepJ (armOf f m.1) (conf w m.1) m.2.1 m.2.2=((Mo.stepJ (armOf d m.1) (conf w m.1) m.2.1 m.2.2).1,true):=h.stepJ (Prod.ext rfl e.2.2)
  rw[if_pos e,if_pos ⟨e.1,e.2.1,by rw[s]⟩,s]
 ·rw[if_neg e] at hn;cases hn
theorem bar_fix {a b b':BodyT} (hb:b.1=4) (hb':b'.1=4):bar a b=bar a b':=by
 unfold bar;rw[hb,hb'];simp
theorem moves_fix {m:MoveT} {b:BodyT} (hb:b.1=4):moves m b=false:=by
 unfold moves;rw[hb];simp
theorem Wider.swept {d f:CellT} (h:Wider d f) {w:StateT} {m:MoveT} (hn:(Mo.next d w m).2=true):∀ r∈sweptPairs f w m,∃ p∈sweptPairs d w m,areas p=areas r:=by
 have e:=h.next hn
 have hj:jpt (armOf f m.1) (conf w m.1) m.2.1=jpt (armOf d m.1) (conf w m.1) m.2.1:=by
  unfold jpt armOf
  by_cases e:m.1=0
  ·rw[if_pos e,if_pos e,h.arm0.jpts]
  ·rw[if_neg e,if_neg e,h.arm1.jpts]
 unfold sweptPairs
 rw[e,if_pos hn,if_pos hn,hj]
 generalize jpt (armOf d m.1) (conf w m.1) m.2.1=o
 generalize (Mo.next d w m).1=w'
 have F4:∀ {c:CellT} {b:BodyT},b∈fixed 0 c.2.2.1→b.1=4:=fun hb=>fix_kind _ _ _ hb
 have sw:∀ b:BodyT,b.1≠4→sweptB o b (bodies f w')=sweptB o b (bodies d w'):=fun b hb=>by
  rw[bodies_mob,bodies_mob,h.mob]
  exact sweptB_fix o hb (fun b hb=>F4 hb) (fun b hb=>F4 hb) _
 intro r hr
 rw[sweptP_mem] at hr
 obtain⟨p,hp,hr⟩:=hr
 rw[bodies_mob,pairs_mem (fun b hb=>F4 hb),h.mob] at hp
 have k4:∀ {b:BodyT},b∈Mo.mob d w→b.1≠4:=fun hb=>by rcases mob_kind hb with h | h | h <;> omega
 rcases hp with hp | ⟨h1,h2,h3⟩
 ·obtain⟨i1,i2⟩:=pairs_in _ _ hp
  refine⟨r,?_,rfl⟩
  rw[sweptP_mem]
  refine⟨p,?_,?_⟩
  ·rw[bodies_mob,pairs_mem (fun b hb=>F4 hb)];exact .inl hp
  ·rw[← sw _ (k4 i1),← sw _ (k4 i2)];exact hr
 ·obtain⟨k,pl,g1,g2⟩:=fixed_mem _ _ _ h2
  obtain⟨k',g3⟩:=fixed_has d.2.2.1 0 pl (h.fix _ g1)
  have m2:moves m p.2=false:=moves_fix (F4 h2)
  rcases hr with ⟨r1,_,r3⟩ | ⟨r1,_,_⟩
  ·refine⟨(sweptB o p.1 (bodies d w'),(4,((k':Int),(0,pl)))),?_,?_⟩
   ·rw[sweptP_mem]
    refine⟨(p.1,(4,((k':Int),(0,pl)))),?_,.inl ⟨r1,moves_fix rfl,rfl⟩⟩
    rw[bodies_mob,pairs_mem (fun b hb=>F4 hb)]
    exact .inr ⟨h1,g3,by rw[← h3];exact bar_fix rfl (F4 h2)⟩
   ·rw[r3,← sw _ (k4 h1),g2];rfl
  ·rw[m2] at r1;cases r1
theorem Wider.free {d f:CellT} (h:Wider d f) {w:StateT} {m:MoveT} (hf:Mo.free d w m=true):Mo.free f w m=true:=by
 obtain⟨h1,h2⟩:=free_iff.1 hf
 refine free_iff.2 ⟨by rw[h.next h1];exact h1,fun r hr x hx=>?_⟩
 obtain⟨p,hp,e⟩:=h.swept h1 r hr
 exact h2 p hp x (by rw[checks_areas e];exact hx)
end Go.Mo
namespace Go.Mo
open Go.Hu
def deepF (out:List Int) (n:NodeT):Int:=if n.2.1<0 then 0 else if (out.length:Int)≤n.2.1 then 0 else (out[n.2.1.toNat]?).getD 0+1
def deepG:List NodeT→List Int→List Int
 | [],out=>out
 | n :: r,out=>deepG r (out ++ [deepF out n])
theorem deepG_ext:∀ (r:List NodeT) (out:List Int),∃ t,deepG r out=out ++ t∧t.length=r.length
 | [],out=>⟨[],by simp[deepG],rfl⟩
 | n :: r,out=>by
  obtain⟨t,h,h2⟩:=deepG_ext r (out ++ [deepF out n])
  exact⟨deepF out n :: t,by unfold deepG;rw[h,List.append_assoc];rfl,by simp[h2]⟩
def dep (l:List NodeT) (i:Nat):Int:=((deepG l [])[i]?).getD 0
theorem deep_len (l:List NodeT):(deepG l []).length=l.length:=by
 obtain⟨t,h,h2⟩:=deepG_ext l []
 rw[h];simpa using h2
theorem deepG_append:∀ (a b:List NodeT) (out:List Int),deepG (a ++ b) out=deepG b (deepG a out)
 | [],b,out=>rfl
 | n :: a,b,out=>by simp only[List.cons_append,deepG];exact deepG_append a b _
theorem dep_get {l:List NodeT} {i:Nat} (h:i<l.length):(deepG l [])[i]?=some (dep l i):=by
 have:i<(deepG l []).length:=by rw[deep_len];exact h
 unfold dep
 rw[List.getElem?_eq_getElem this];rfl
theorem dep_eq {l:List NodeT} {i:Nat} {n:NodeT} (hi:l[i]?=some n):dep l i=deepF (deepG (l.take i) []) n:=by
 have hlt:=(List.getElem?_eq_some_iff.1 hi).1
 have e:l=l.take i ++ n :: l.drop (i+1):=by
  have:=(List.getElem?_eq_some_iff.1 hi).2
  rw[← this,List.getElem_cons_drop,List.take_append_drop]
 have h1:deepG l []=deepG (l.drop (i+1)) (deepG (l.take i) [] ++ [deepF (deepG (l.take i) []) n]):=by
  conv=>lhs;rw[e]
  rw[deepG_append];rfl
 obtain⟨t,h2,_⟩:=deepG_ext (l.drop (i+1)) (deepG (l.take i) [] ++ [deepF (deepG (l.take i) []) n])
 unfold dep
 rw[h1,h2]
 have hlen:(deepG (l.take i) []).length=i:=by rw[deep_len,List.length_take];omega
 rw[List.append_assoc,List.getElem?_append_right (by omega),hlen,Nat.sub_self]
 rfl
theorem dep_take {l:List NodeT} {i p:Nat} (hp:p<i) (hi:i≤l.length):(deepG (l.take i) [])[p]?=some (dep l p):=by
 obtain⟨t,h2,_⟩:=deepG_ext (l.drop i) (deepG (l.take i) [])
 rw[← deepG_append,List.take_append_drop] at h2
 have hlen:(deepG (l.take i) []).length=i:=by rw[deep_len,List.length_take];omega
 have:=dep_get (l:=l) (i:=p) (by omega)
 rw[h2,List.getElem?_append_left (by omega)] at this
 exact this
variable {c:CellT} {w:StateT} {a:Int}
theorem dep_zero {l:List NodeT} (h:Good c w a l):dep l 0=0:=by
 rw[dep_eq h.start];rfl
theorem dep_succ {l:List NodeT} (h:Good c w a l) {i:Nat} {n:NodeT} (hi:l[i]?=some n) (h0:0<i):∃ p:Nat,n.2.1=(p:Int)∧p<i∧dep l i=dep l p+1:=by
 obtain⟨p,m,x,e1,e2,e3,e4,e5,e6⟩:=h.node i n hi h0
 have hlt:=(List.getElem?_eq_some_iff.1 hi).1
 refine⟨p,by rw[e3],e2,?_⟩
 rw[dep_eq hi]
 unfold deepF
 have hlen:(deepG (l.take i) []).length=i:=by rw[deep_len,List.length_take];omega
 have e:n.2.1=(p:Int):=by rw[e3]
 rw[e,if_neg (by omega),hlen,if_neg (by omega),Int.toNat_natCast,dep_take e2 (by omega)]
 rfl
theorem dep_bd {l:List NodeT} (h:Good c w a l):∀ (i:Nat),i<l.length→0≤dep l i∧dep l i≤(i:Int):=by
 intro i
 induction i using Nat.strongRecOn with
 | ind i ih =>
  intro hi
  rcases Nat.eq_zero_or_pos i with h0 | h0
  ·subst h0;rw[dep_zero h];omega
  ·obtain⟨p,_,h2,h3⟩:=dep_succ h (List.getElem?_eq_getElem hi) h0
   have:=ih p h2 (by omega)
   omega
theorem dep_mono {l:List NodeT} (h:Good c w a l):∀ (j i:Nat),i≤j→j<l.length→dep l i≤dep l j:=by
 intro j
 induction j using Nat.strongRecOn with
 | ind j ih =>
  intro i hij hj
  rcases Nat.eq_zero_or_pos i with h0 | h0
  ·subst h0;rw[dep_zero h];exact (dep_bd h j hj).1
  ·obtain⟨p,e1,h2,h3⟩:=dep_succ h (List.getElem?_eq_getElem (show i<l.length by omega)) h0
   obtain⟨q,f1,g2,g3⟩:=dep_succ h (List.getElem?_eq_getElem hj) (by omega)
   have hm:=h.mono i j _ _ (List.getElem?_eq_getElem (show i<l.length by omega)) (List.getElem?_eq_getElem hj) hij
   have:=ih q g2 p (by omega) (by omega)
   omega
theorem dep_short {most:Int} {l:List NodeT} {b:Bool} (E:Explored c w a most l b) {i t:Nat} {n m:NodeT} (hi:l[i]?=some n) (ht:l[t]?=some m) {x:Int×Int} (hx:x∈six) (hL:Leads c w a n.1 x m.1):dep l t≤dep l i+1:=by
 have hs:=E.short hi ht hx hL
 have hil:=(List.getElem?_eq_some_iff.1 hi).1
 rcases Nat.eq_zero_or_pos t with h0 | h0
 ·subst h0;rw[dep_zero E.good];have:=(dep_bd E.good i hil).1;omega
 ·obtain⟨p,e1,h2,h3⟩:=dep_succ E.good ht h0
  have:=dep_mono E.good i p (by omega) hil
  omega
end Go.Mo
namespace Go.Mo
open Go.Hu
def Runs (c:CellT) (w:StateT) (a:Int):J3→List MoveT→J3→Prop
 | q,[],q'=>q=q'
 | q,m :: r,q'=>∃ x q1,m=(a,x)∧Leads c w a q x q1∧Runs c w a q1 r q'
theorem Runs.append {c:CellT} {w:StateT} {a:Int}:∀ {r s:List MoveT} {q q1 q2:J3},Runs c w a q r q1→Runs c w a q1 s q2→Runs c w a q (r ++ s) q2
 | [],s,q,q1,q2,h,hL=>by
  have:q=q1:=h
  subst this
  exact hL
 | m :: r,s,q,q1,q2,h,hL=>by
  obtain⟨y,q3,h1,h2,h3⟩:=h
  exact⟨y,q3,h1,h2,Runs.append h3 hL⟩
theorem Runs.one {c:CellT} {w:StateT} {a:Int} {q q':J3} {x:Int×Int} (h:Leads c w a q x q'):Runs c w a q [(a,x)] q':=⟨x,q',rfl,h,rfl⟩
theorem leads_lim {c:CellT} {w:StateT} {a:Int} {q q':J3} {x:Int×Int} (h:Leads c w a q x q'):inLim (armOf c a) q'=true:=by
 obtain⟨_,_,h3,h4⟩:=stepJ_iff.1 h.1
 rw[h4];exact h3
theorem Runs.lim {c:CellT} {w:StateT} {a:Int}:∀ {r:List MoveT} {q q':J3},inLim (armOf c a) q=true→Runs c w a q r q'→inLim (armOf c a) q'=true
 | [],q,q',hq,e=>by have:q=q':=e;rw[← this];exact hq
 | m :: r,q,q',hq,e=>by
  obtain⟨x,q1,h1,h2,h3⟩:=e
  exact Runs.lim (leads_lim h2) h3
theorem Runs.back {c:CellT} {w:StateT} {a:Int} (ha:a=0∨a=1):∀ {r:List MoveT} {q q':J3},inLim (armOf c a) q=true→Runs c w a q r q'→∃ s:List MoveT,s.length=r.length∧Runs c w a q' s q
 | [],q,q',_,e=>⟨[],rfl,(show q=q' from e).symm⟩
 | m :: r,q,q',hq,e=>by
  obtain⟨x,q1,h1,h2,h3⟩:=e
  obtain⟨s,e1,e2⟩:=Runs.back ha (leads_lim h2) h3
  exact⟨s ++ [(a,(x.1,-x.2))],by simp[e1],e2.append (Runs.one (h2.back ha hq))⟩
theorem setQ_twice (w:StateT) {a:Int} (ha:a=0∨a=1) (q q':J3):setQ (setQ w a q) a q'=setQ w a q':=by rcases ha with rfl | rfl <;> rfl
theorem conf_set (w:StateT) {a:Int} (ha:a=0∨a=1) (q:J3):conf (setQ w a q) a=q:=by rcases ha with rfl | rfl <;> rfl
theorem set_conf (w:StateT) {a:Int} (ha:a=0∨a=1):setQ w a (conf w a)=w:=by rcases ha with rfl | rfl <;> rfl
theorem leads_six {c:CellT} {w:StateT} {a:Int} {q q':J3} {x:Int×Int} (h:Leads c w a q x q'):x∈six:=by
 obtain⟨h1,h2,_,_⟩:=stepJ_iff.1 h.1
 obtain⟨j,b⟩:=x
 simp only at h1 h2
 rcases (show j=0∨j=1∨j=2 by omega) with rfl | rfl | rfl <;> rcases h2 with rfl | rfl <;> decide
theorem pigeon:∀ (n:Nat) (l:List Nat),l.Nodup→(∀ x∈l,x<n)→l.length≤n
 | 0,l,_,h=>by
  cases l with
  | nil=>exact Nat.le_refl _
  | cons x l=>exact absurd (h x (List.mem_cons_self ..)) (Nat.not_lt_zero _)
 | n+1,l,hn,h=>by
  have h2:=pigeon n (l.erase n) (hn.erase n) fun x hx=>by
   have:=(hn.mem_erase_iff).1 hx
   have:=h x this.2
   omega
  rw[List.length_erase] at h2
  split at h2 <;> omega
def Box (a:ArmT):Prop:=a.2.2.2.2.1≤a.2.2.2.1.1+2∧a.2.2.2.2.2.1≤a.2.2.2.1.2.1+2∧a.2.2.2.2.2.2≤a.2.2.2.1.2.2+2
theorem box_len {a:ArmT} (hb:Box a) (l:List J3) (hl:∀ q∈l,inLim a q=true) (hn:l.Nodup):l.length≤27:=by
 obtain⟨b1,b2,b3⟩:=hb
 have lim:∀ q∈l,(a.2.2.2.1.1≤q.1∧q.1≤a.2.2.2.1.1+2)∧(a.2.2.2.1.2.1≤q.2.1∧q.2.1≤a.2.2.2.1.2.1+2)∧(a.2.2.2.1.2.2≤q.2.2∧q.2.2≤a.2.2.2.1.2.2+2):=fun q hq=>by
  have:=hl q hq
  unfold inLim at this
  rw[decide_eq_true_eq] at this
  omega
 have:=pigeon 27 (l.map fun q=>((q.1-a.2.2.2.1.1).toNat*9+(q.2.1-a.2.2.2.1.2.1).toNat*3+(q.2.2-a.2.2.2.1.2.2).toNat)) ?_ ?_
 ·simpa using this
 ·unfold List.Nodup
  rw[List.pairwise_map]
  refine List.Pairwise.imp_of_mem ?_ hn
  intro p q hp hq hpq e
  have l1:=lim p hp
  have l2:=lim q hq
  apply hpq
  obtain⟨p1,p2,p3⟩:=p
  obtain⟨q1,q2,q3⟩:=q
  simp only at l1 l2 e
  have:p1=q1∧p2=q2∧p3=q3:=by omega
  rw[this.1,this.2.1,this.2.2]
 ·intro x hx
  obtain⟨q,hq,rfl⟩:=List.mem_map.1 hx
  have l1:=lim q hq
  omega
theorem good_lim {c:CellT} {w:StateT} {a:Int} (h0:inLim (armOf c a) (conf w a)=true) {l:List NodeT} (hG:Good c w a l) {i:Nat} {n:NodeT} (hi:l[i]?=some n):inLim (armOf c a) n.1=true:=by
 rcases Nat.eq_zero_or_pos i with h | h
 ·subst h;rw[hG.start] at hi;cases hi;exact h0
 ·obtain⟨p,m,x,e1,e2,e3,e4,e5,e6⟩:=hG.node i n hi h
  exact leads_lim e5
theorem small_all {c:CellT} {w:StateT} {a most:Int} {l:List NodeT} {b:Bool} (h0:inLim (armOf c a) (conf w a)=true) (hB:Box (armOf c a)) (hm:28≤most) (E:Explored c w a most l b):b=true∧l.length≤27:=by
 have hl:l.length≤27:=by
  have:=box_len hB (l.map Prod.fst) (fun q hq=>by
   obtain⟨n,hn,rfl⟩:=List.mem_map.1 hq
   obtain⟨i,hi⟩:=List.mem_iff_getElem?.1 hn
   exact good_lim h0 E.good hi) (by
   rw[List.nodup_iff_pairwise_ne,List.pairwise_iff_getElem]
   intro i j hi hj hij e
   simp only[List.length_map] at hi hj
   simp only[List.getElem_map] at e
   have:=E.good.inj (List.getElem?_eq_getElem hi) (List.getElem?_eq_getElem hj) e
   omega)
  simpa using this
 refine⟨?_,hl⟩
 cases b with
 | true=>rfl
 | false=>have:=(E.part rfl).1;omega
theorem reach_node {c:CellT} {w:StateT} {a most:Int} {l:List NodeT} (E:Explored c w a most l true):∀ {r:List MoveT} {q q':J3} {i:Nat} {n:NodeT},l[i]?=some n→n.1=q→Runs c w a q r q' →
  ∃ (t:Nat) (m:NodeT),l[t]?=some m∧m.1=q'∧dep l t≤dep l i+r.length
 | [],q,q',i,n,hi,hq,hr=>⟨i,n,hi,by rw[hq];exact hr,by simp⟩
 | m :: r,q,q',i,n,hi,hq,hr=>by
  obtain⟨x,q1,h1,h2,h3⟩:=hr
  subst hq
  obtain⟨t,m',e1,e2,_⟩:=E.all rfl i n ((List.getElem?_eq_some_iff.1 hi).1) hi x (leads_six h2) q1 h2
  have d1:=dep_short E hi e1 (leads_six h2) (by rw[e2];exact h2)
  obtain⟨u,m2,f1,f2,f3⟩:=reach_node E e1 e2 h3
  exact⟨u,m2,f1,f2,by simp only[List.length_cons];omega⟩
end Go.Mo
namespace Go.Pf
open Go Go.Am Go.Proofs Go.Hu Go.Mo
theorem indexL2 (l:List NodeT) (hl:l.length<1000000000) (q:J3):∀ (r:List NodeT) (i:Nat),l.drop i=r→i≤l.length →
  Ev (fun n=>Z64L2 n ((l,(((),((),())),(((l.length:Nat):Int),(((i:Nat):Int),())))),((q.1,(q.2.1,(q.2.2,()))),())))
   (if hasN r q=true then .inr ((idxN q i r,()),((q.1,(q.2.1,(q.2.2,()))),())) else .inl ((),((q.1,(q.2.1,(q.2.2,()))),()))):=by
 intro r
 induction r with
 | nil =>
  intro i h hi
  have:=gdrop_nil h
  refine Ev.of_eq 2 ?_
  simp (disch:=omega) only [Z64L2Eq,br_neg]
  exact (Ev.pure _).congr (by simp[hasN])
 | cons x r ih =>
  intro i h hi
  obtain⟨g1,g2,g3⟩:=gdrop h
  have e0:hasN (x :: r) q=(decide (x.1=q) || hasN r q):=rfl
  refine Ev.of_eq 2 ?_
  have hb:Ty.beq (.pair (.int .i64) (.pair (.int .i64) (.int .i64))) x.1 (q.1,(q.2.1,q.2.2))=decide (x.1=q):=beqJ x.1 q
  simp (disch:=omega) only [Z64L2Eq,br_pos,Int.toNat_natCast,g1,Option.bind_some,wr1,hb]
  by_cases hq:x.1=q
  ·simp only[br_pos hq]
   exact (Ev.pure _).congr (by rw[e0,decide_eq_true hq,Bool.true_or,if_pos rfl];unfold idxN;rw[if_pos hq])
  ·simp only[br_neg hq]
   refine ((ih (i+1) g2 (by omega)).shift 1).congr ?_
   have e1:idxN q i (x :: r)=if x.1=q then (i:Int) else idxN q (i+1) r:=rfl
   rw[e0,decide_eq_false hq,Bool.false_or,e1,if_neg hq]
theorem idxN_first {q:J3}:∀ (l:List NodeT) (i k:Nat) (n:NodeT),l[i]?=some n→n.1=q→(∀ (j:Nat) (m:NodeT),j<i→l[j]?=some m→m.1≠q)→idxN q k l=((k+i:Nat):Int)
 | [],i,k,n,h,_,_=>by simp at h
 | x :: l,0,k,n,h,e,_=>by
  simp at h;subst h
  unfold idxN
  rw[if_pos e];simp
 | x :: l,i+1,k,n,h,e,hd=>by
  have h0:=hd 0 x (by omega) rfl
  unfold idxN
  rw[if_neg h0,idxN_first l i (k+1) n (by simpa using h) e (fun j m hj hm=>hd (j+1) m (by omega) (by simpa using hm))]
  omega
def grown (c:CellT) (w:Mo.StateT) (a:Int) (to:J3):List NodeT×(Int×Int) :=
 if hasN (explore c w a 400).1 to=true then ((explore c w a 400).1,(idxN to 0 (explore c w a 400).1,0))
 else if (explore c w a 400).2=true then ((explore c w a 400).1,(-1,180)) else ((explore c w a 400).1,(-1,2))
section
variable {c:CellT} {w:Mo.StateT} (hc:COk c) (hw:WOk c w) {a:Int} (ha:a=0∨a=1)
include hc hw ha
theorem grownEv {to:J3} (ht:inLim (armOf c a) to=true):Ev (fun n=>Z34 n c w a to) (grown c w a to):=by
 have E:=explored c w a (most:=400) (by omega)
 have hl:=E.len.2
 have ix:=indexL2 (explore c w a 400).1 (by omega) to (explore c w a 400).1 0 rfl (Nat.zero_le _)
 have ex:=exploreEv hc hw ha (most:=400) (by omega)
 have fin:∀ {y:List NodeT×(Int×Int)},y=grown c w a to→Ev (fun n=>(Z64L2 n (((explore c w a 400).1,(((),((),())),((((explore c w a 400).1.length:Nat):Int),((0:Int),())))),((to.1,(to.2.1,(to.2.2,()))),()))).bind fun l374=>(match l374 with | .inl y375=>(br (explore c w a 400).2 (some ((explore c w a 400).1,((-1:Int),(180:Int)))) (some ((explore c w a 400).1,((-1:Int),(2:Int))))) | .inr y376=>(br (decide (0≤y376.1.1)) (some ((explore c w a 400).1,(y376.1.1,(0:Int)))) (br (explore c w a 400).2 (some ((explore c w a 400).1,((-1:Int),(180:Int)))) (some ((explore c w a 400).1,((-1:Int),(2:Int)))))))) y:=by
  rintro _ rfl
  refine Ev.bind ix ?_
  unfold grown
  cases h:hasN (explore c w a 400).1 to with
  | true =>
   simp only[if_true]
   obtain⟨t,n,e1,e2⟩:=hasN_iff.1 h
   have e3:=idxN_first (explore c w a 400).1 t 0 n e1 e2 (fun j m hj hm e=>by
    have:=E.good.inj hm e1 (e.trans e2.symm);omega)
   rw[e3]
   simp (disch:=omega) only [br_pos]
   exact Ev.pure _
  | false =>
   simp only[Bool.false_eq_true,if_false]
   cases (explore c w a 400).2 with
   | true=>simp only[br_t,if_true];exact Ev.pure _
   | false=>simp only[br_f,Bool.false_eq_true,if_false];exact Ev.pure _
 refine Ev.of_eq 2 ?_
 rcases ha with rfl | rfl
 ·have l0:=(limEv c.1.1 to).shift 1
  rw[show inLim c.1.1 to=true from ht] at l0
  simp (disch:=decide) only [Z34Eq,br_pos,br_neg]
  refine Ev.bind l0 ?_
  simp only[Bool.not_true,br_f]
  exact Ev.bind (ex.shift 1) (fin rfl)
 ·have l0:=(limEv c.1.2 to).shift 1
  rw[show inLim c.1.2 to=true from ht] at l0
  simp (disch:=decide) only [Z34Eq,br_pos,br_neg]
  refine Ev.bind l0 ?_
  simp only[Bool.not_true,br_f]
  exact Ev.bind (ex.shift 1) (fin rfl)
end
theorem good_back {c:CellT} {w:Mo.StateT} {a:Int} {l:List NodeT} (h:Mo.Good c w a l):Back l:=by
 intro i n hi
 rcases Nat.eq_zero_or_pos i with h0 | h0
 ·subst h0;rw[h.start] at hi;cases hi;show (-1:Int)<_;omega
 ·obtain⟨p,e,h2,_⟩:=dep_succ h hi h0
  omega
theorem path_len {c:CellT} {w:Mo.StateT} {a:Int} {l:List NodeT} (h:Mo.Good c w a l):∀ (k i:Nat),i≤k→i<l.length→((pathR l k i).length:Int)=dep l i
 | 0,i,hk,hi=>by
  obtain rfl:i=0:=by omega
  rw[dep_zero h];rfl
 | k+1,i,hk,hi=>by
  rcases Nat.eq_zero_or_pos i with h0 | h0
  ·subst h0;rw[dep_zero h];rfl
  ·have g:=List.getElem?_eq_getElem hi
   obtain⟨p,e,h2,h3⟩:=dep_succ h g h0
   have ih:=path_len h k p (by omega) (by omega)
   unfold pathR
   rw[if_pos (by omega),Int.toNat_natCast,g]
   simp only[e]
   rw[h3,List.length_cons];omega
theorem path_runs {c:CellT} {w:Mo.StateT} {a:Int} {l:List NodeT} (h:Mo.Good c w a l):∀ (k i:Nat) (n:NodeT),i≤k→l[i]?=some n→Runs c w a (conf w a) (pathR l k i).reverse n.1
 | 0,i,n,hk,hi=>by
  obtain rfl:i=0:=by omega
  rw[h.start] at hi;cases hi;rfl
 | k+1,i,n,hk,hi=>by
  rcases Nat.eq_zero_or_pos i with h0 | h0
  ·subst h0
   rw[h.start] at hi;cases hi;rfl
  ·obtain⟨p,m,x,e1,e2,e3,e4,e5,e6⟩:=h.node i n hi h0
   have ih:=path_runs h k p m (by omega) e1
   unfold pathR
   rw[if_pos (by omega),Int.toNat_natCast,hi]
   simp only[e3]
   rw[List.reverse_cons]
   exact ih.append (Runs.one e5)
def find (c:CellT) (w:Mo.StateT) (a:Int) (to:J3):List MoveT×Int :=
 if (grown c w a to).2.2=0 then (pathTo (grown c w a to).1 (grown c w a to).2.1,0) else ([],(grown c w a to).2.2)
theorem findEv {c:CellT} {w:Mo.StateT} (hc:COk c) (hw:WOk c w) {a:Int} (ha:a=0∨a=1) {to:J3} (ht:inLim (armOf c a) to=true):Ev (fun n=>Z12 n c w a to) (find c w a to):=by
 have E:=explored c w a (most:=400) (by omega)
 have hl:=E.len.2
 refine Ev.of_eq 1 ?_
 simp only[Z12Eq]
 refine Ev.bind (grownEv hc hw ha ht) ?_
 unfold find
 by_cases h:(grown c w a to).2.2=0
 ·rw[if_pos h,decide_eq_true h]
  simp only[Bool.not_true,br_f]
  have hg:(grown c w a to).1=(explore c w a 400).1∧(grown c w a to).2.1≤((explore c w a 400).1.length:Int):=by
   unfold grown at *
   by_cases h1:hasN (explore c w a 400).1 to=true
   ·rw[if_pos h1] at *
    obtain⟨t,n,e1,e2⟩:=hasN_iff.1 h1
    have e3:=idxN_first (explore c w a 400).1 t 0 n e1 e2 (fun j m hj hm e=>by
     have:=E.good.inj hm e1 (e.trans e2.symm);omega)
    have:=(List.getElem?_eq_some_iff.1 e1).1
    exact⟨rfl,by rw[e3];show ((0+t:Nat):Int)≤_;omega⟩
   ·rw[if_neg h1] at h
    split at h <;> simp at h
  rw[hg.1]
  exact Ev.bind (pathEv (explore c w a 400).1 (by omega) (good_back E.good) _ hg.2) (Ev.pure _)
 ·rw[if_neg h,decide_eq_false h]
  exact Ev.pure _
def PathP (c:CellT) (w:Mo.StateT) (a:Int) (to:J3) (y:List MoveT×Int):Prop :=
 (y.2=0∧y.1.length≤27∧Runs c w a (conf w a) y.1 to∧∀ r,Runs c w a (conf w a) r to→y.1.length≤r.length)∨(y.2=180∧y.1=[]∧∀ r,¬ Runs c w a (conf w a) r to)
theorem find_path {c:CellT} {w:Mo.StateT} {a:Int} {to:J3} (h0:inLim (armOf c a) (conf w a)=true) (hB:Box (armOf c a)):PathP c w a to (find c w a to):=by
 have E:=explored c w a (most:=400) (by omega)
 obtain⟨hb,hl⟩:=small_all h0 hB (by omega) E
 rw[hb] at E
 have key:∀ r,Runs c w a (conf w a) r to→∃ (t:Nat) (m:NodeT),(explore c w a 400).1[t]?=some m∧m.1=to∧dep (explore c w a 400).1 t≤r.length:=fun r hr=>by
  obtain⟨t,m,e1,e2,e3⟩:=reach_node E E.good.start rfl hr
  rw[dep_zero E.good] at e3
  exact⟨t,m,e1,e2,by omega⟩
 unfold find grown
 by_cases h1:hasN (explore c w a 400).1 to=true
 ·simp only[if_pos h1,if_true]
  obtain⟨t,n,e1,e2⟩:=hasN_iff.1 h1
  have e3:=idxN_first (explore c w a 400).1 t 0 n e1 e2 (fun j m hj hm e=>by
   have:=E.good.inj hm e1 (e.trans e2.symm);omega)
  have ht:=(List.getElem?_eq_some_iff.1 e1).1
  rw[e3,Nat.zero_add]
  have pl:((pathTo (explore c w a 400).1 (t:Int)).length:Int)=dep (explore c w a 400).1 t:=by
   unfold pathTo
   rw[List.length_reverse]
   exact path_len E.good _ t (by omega) ht
  have pb:=(dep_bd E.good t ht).2
  refine .inl ⟨rfl,by show (pathTo _ _).length≤27;omega,?_,fun r hr=>?_⟩
  ·rw[← e2]
   exact path_runs E.good _ t n (by omega) e1
  ·obtain⟨t',m,f1,f2,f3⟩:=key r hr
   have:=E.good.inj e1 f1 (e2.trans f2.symm)
   subst this
   show (pathTo _ _).length≤_
   omega
 ·simp only[if_neg h1,hb,if_true]
  refine .inr ⟨rfl,rfl,fun r hr=>?_⟩
  obtain⟨t',m,f1,f2,f3⟩:=key r hr
  exact h1 (hasN_iff.2 ⟨t',m,f1,f2⟩)
end Go.Pf
namespace Go.Pf
open Go Go.Am Go.Proofs Go.Hu Go.Mo
theorem conf_lim {c:CellT} {w:Mo.StateT} (hw:WOk c w) {a:Int} (ha:a=0∨a=1):inLim (armOf c a) (conf w a)=true:=by
 rcases ha with rfl | rfl
 ·exact hw.lim0
 ·exact hw.lim1
theorem next_leads {c:CellT} {w:Mo.StateT} {a:Int} (ha:a=0∨a=1) {q q':J3} {x:Int×Int} (h:Leads c w a q x q'):next c (setQ w a q) (a,x)=(setQ w a q',true):=by
 have e:stepJ (armOf c a) (conf (setQ w a q) a) x.1 x.2=(q',true):=by rw[conf_set w ha];exact h.1
 have:=next_ok ha e
 rw[setQ_twice w ha] at this
 exact this
section
variable {c:CellT} {w:Mo.StateT} (hc:COk c) (hw:WOk c w) {a:Int} (ha:a=0∨a=1)
include hc hw ha
theorem applyL3 (ms:List MoveT) (hms:ms.length≤1000) (zz:((J3×J3)×(Int×Int))×(List Int×Unit)):∀ (r:List MoveT) (k:Nat) (q q':J3),ms.drop k=r→k≤ms.length→inLim (armOf c a) q=true→Runs c w a q r q' →
  Ev (fun n=>Z16L3 n (((),((),((),(true,(ms,(((ms.length:Nat):Int),((k:Int),()))))))),((c,()),((setQ w a q,()),(zz,())))))
   (((),((),(true,()))),((),((setQ w a q',()),(zz,()))))
 | [],k,q,q',h,hk,hq,hr=>by
  have:=gdrop_nil h
  have e:q=q':=hr
  subst e
  refine Ev.of_eq 1 ?_
  simp (disch:=omega) only [Z16L3Eq,br_neg]
  exact Ev.pure _
 | m :: r,k,q,q',h,hk,hq,hr=>by
  obtain⟨g1,g2,g3⟩:=gdrop h
  obtain⟨x,q1,rfl,hL,hr⟩:=hr
  have hq1:=leads_lim hL
  have hv:=setQ_ok hw ha hq
  have nx:=nextStEv c (setQ w a q) (a,x) (hc.arm0.qbd hv.lim0) (hc.arm1.qbd hv.lim1)
  rw[next_leads ha hL] at nx
  have f:=freeEv hc hv (a,x)
  rw[hL.2] at f
  have ih:=applyL3 ms hms zz r (k+1) q1 q' g2 (by omega) hq1 hr
  refine Ev.of_eq 1 ?_
  simp (disch:=omega) only [Z16L3Eq,br_pos,Int.toNat_natCast,g1,Option.bind_some]
  refine Ev.bind (Ev.bind nx (Ev.bind (Ev.br_false rfl (Ev.bind f (Ev.br_false rfl (Ev.pure _)))) (Ev.pure _))) ?_
  simp (disch:=omega) only [wr1]
  exact ih
theorem applyEv (ms:List MoveT) (hms:ms.length≤1000) {q':J3} (hr:Runs c w a (conf w a) ms q'):Ev (fun n=>Z16 n c w ms) (setQ w a q',true):=by
 have e:=applyL3 hc hw ha ms hms (((((0:Int),((0:Int),(0:Int))),((0:Int),((0:Int),(0:Int)))),((0:Int),(0:Int))),([],())) ms 0 (conf w a) q' rfl (Nat.zero_le _) (conf_lim hw ha) hr
 rw[set_conf w ha] at e
 refine Ev.of_eq 1 ?_
 simp only[Z16Eq]
 exact Ev.bind e (Ev.pure _)
end
end Go.Pf
namespace Go.Mo
open Go.Hu
def regionR (o:Pt) (a b:List Pt):List Pt×Bool:=if a.length≠b.length then ([],false) else if 12<a.length then ([],false) else refRes (points o a b)
theorem regionR_eq (o:Pt) (a b:List Pt):region o a b=regionR o a b:=by unfold region regionR;rw[refRes_eq]
def sweptBR (o:Pt) (b:BodyT):List BodyT→BodyT
 | []=>b
 | x :: l=>if alike x b=true then (b.1,(b.2.1,(b.2.2.1,(regionR o b.2.2.2 x.2.2.2).1))) else sweptBR o b l
theorem sweptBR_eq (o:Pt) (b:BodyT):∀ l,sweptB o b l=sweptBR o b l
 | []=>rfl
 | x :: l=>by unfold sweptB sweptBR;rw[regionR_eq,sweptBR_eq o b l]
def sweptPR (o:Pt) (m:MoveT) (thn:List BodyT):List PairT→List PairT
 | []=>[]
 | p :: l=>(if moves m p.1=true∧moves m p.2=false then [(sweptBR o p.1 thn,p.2)] else if moves m p.2=true∧moves m p.1=false then [(p.1,sweptBR o p.2 thn)] else []) ++ sweptPR o m thn l
theorem sweptPR_eq (o:Pt) (m:MoveT) (thn:List BodyT):∀ l,sweptP o m thn l=sweptPR o m thn l
 | []=>rfl
 | p :: l=>by unfold sweptP sweptPR;rw[sweptBR_eq,sweptBR_eq,sweptPR_eq o m thn l]
def sweptPairsR (c:CellT) (w:StateT) (m:MoveT):List PairT :=
 if (next c w m).2=true then sweptPR (jpt (armOf c m.1) (conf w m.1) m.2.1) m (bodies c (next c w m).1) (pairsOf (bodies c w)) else []
def freeR (c:CellT) (w:StateT) (m:MoveT):Bool :=
 if (next c w m).2=true then (sepAll ((sweptPairsR c w m).flatMap checks)).isSome else false
theorem freeR_eq (c:CellT) (w:StateT) (m:MoveT):free c w m=freeR c w m:=by
 have e:sweptPairs c w m=sweptPairsR c w m:=by unfold sweptPairs sweptPairsR;rw[sweptPR_eq]
 unfold free cert freeR
 rw[e]
 split
 ·split <;> rename_i h <;> rw[h] <;> rfl
 ·rfl
def newBR (c:CellT) (w:StateT) (a:Int) (q:J3) (l:List NodeT) (x:Int×Int):Bool :=
 (stepJ (armOf c a) q x.1 x.2).2 && (!hasN l (stepJ (armOf c a) q x.1 x.2).1 && freeR c (setQ w a q) (a,x))
theorem newBR_eq (c:CellT) (w:StateT) (a:Int) (q:J3) (l:List NodeT) (x:Int×Int):newB c w a q l x=newBR c w a q l x:=by unfold newB newBR;rw[freeR_eq]
def tryAllR (c:CellT) (w:StateT) (a i most:Int) (q:J3):List (Int×Int)→List NodeT→List NodeT×Bool
 | [],l=>(l,true)
 | x :: r,l=>if newBR c w a q l x=true then
   (if most≤(l.length:Int) then (l,false) else tryAllR c w a i most q r (l ++ [((stepJ (armOf c a) q x.1 x.2).1,(i,(a,x)))]))
  else tryAllR c w a i most q r l
theorem tryAllR_eq (c:CellT) (w:StateT) (a i most:Int) (q:J3):∀ r l,tryAll c w a i most q r l=tryAllR c w a i most q r l
 | [],l=>rfl
 | x :: r,l=>by unfold tryAll tryAllR;rw[newBR_eq,tryAllR_eq c w a i most q r _,tryAllR_eq c w a i most q r l]
def growR (c:CellT) (w:StateT) (a most:Int):Nat→Nat→List NodeT→List NodeT×Bool
 | 0,_,l=>(l,true)
 | k+1,i,l=>match l[i]? with
  | none=>(l,true)
  | some n=>match tryAllR c w a i most n.1 six l with
   | (l',true)=>growR c w a most k (i+1) l'
   | (l',false)=>(l',false)
theorem growR_eq (c:CellT) (w:StateT) (a most:Int):∀ k i l,grow c w a most k i l=growR c w a most k i l
 | 0,i,l=>rfl
 | k+1,i,l=>by
  unfold grow growR
  cases l[i]? with
  | none=>rfl
  | some n =>
   simp only
   rw[tryAllR_eq,growR_eq c w a most k]
   cases tryAllR c w a i most n.1 six l with
   | mk l' b=>cases b <;> rfl
def exploreR (c:CellT) (w:StateT) (a most:Int):List NodeT×Bool:=growR c w a most (most.toNat+1) 0 [startN (conf w a)]
theorem exploreR_eq (c:CellT) (w:StateT) (a most:Int):explore c w a most=exploreR c w a most:=growR_eq c w a most _ _ _
end Go.Mo
namespace Go.Mo
open Go.Hu
def exP (x:Int):ArmT:=((x,0),((10,(8,4)),(1,((-17,(-17,-17)),(18,(18,18))))))
def exT:(List (List Pt)×(List PlaceT×(List PartT×(List Int×(Int×(LimT×(LimT×(List (List Pt)×(Int×Int))))))))) :=
 ([[(-4394000,-4394000),(4394000,-4394000),(4394000,4394000),(-4394000,4394000)]],
 ([(⟨#[108,101,102,116]⟩,((-87880000,52728000),(274625,(0,3)))),(⟨#[109,105,100]⟩,((0,52728000),(0,(274625,3))))],
 ([(⟨#[99,97,112]⟩,([(0,0),(2,0),(2,1),(0,1)],1))],([0,1],(30,((6,(2,1)),((4,(2,1)),([[(-131820000,-131820000),(-109850000,-131820000),(-109850000,-87880000)]],(2,1)))))))))
def exB:CellT:=((exP (-87880000),exP 87880000),(((9,(0,0)),(9,(0,0))),exT))
def exV:StateT:=(((9,(0,0)),(9,(0,0))),((-1,-1),[1]))
def exN:CellT:=((((-87880000,0),((10,(8,4)),(1,((8,(0,0)),(10,(0,0)))))),exP 87880000),(((9,(0,0)),(9,(0,0))),exT))
def ex3:List NodeT:=[((9,(0,0)),(-1,(0,(0,0)))),((8,(0,0)),(0,(0,(0,-1)))),((10,(0,0)),(0,(0,(0,1))))]
theorem explore_ex3:explore exN exV 0 400=(ex3,true):=by
 rw[exploreR_eq]
 decide +kernel
end Go.Mo
namespace Go.Pf
open Go Go.Am Go.Proofs Go.Hu Go.Mo
theorem exn_c:COk exN:=by
 refine⟨?_,?_,by decide,fun p hp=>?_,by decide,fun p hp=>?_,by decide,fun p hp=>?_⟩
 ·refine⟨?_,?_,?_,?_,?_,?_,?_⟩ <;> (try unfold Bb) <;> unfold exN <;> simp only <;> omega
 ·refine⟨?_,?_,?_,?_,?_,?_,?_⟩ <;> (try unfold Bb) <;> unfold exN exP <;> simp only <;> omega
 ·have:p=[(-4394000,-4394000),(4394000,-4394000),(4394000,4394000),(-4394000,4394000)]:=by
   have h:p∈[[(-4394000,-4394000),(4394000,-4394000),(4394000,4394000),((-4394000:Int),(4394000:Int))]]:=hp
   simpa using h
  subst this
  refine⟨by decide,fun x hx=>?_⟩
  simp at hx
  unfold Bb
  rcases hx with rfl | rfl | rfl | rfl <;> simp only <;> omega
 ·have:p=(⟨#[99,97,112]⟩,([(0,0),(2,0),(2,1),(0,1)],1)):=by
   have h:p∈[((⟨#[99,97,112]⟩:ByteArray),([((0:Int),(0:Int)),(2,0),(2,1),(0,1)],(1:Int)))]:=hp
   exact List.mem_singleton.1 h
  subst this
  refine⟨by decide,fun x hx=>?_⟩
  simp at hx
  unfold Bb
  rcases hx with rfl | rfl | rfl | rfl <;> simp only <;> omega
 ·have h:p∈[((⟨#[108,101,102,116]⟩:ByteArray),(((-87880000:Int),(52728000:Int)),((274625:Int),((0:Int),(3:Int))))),(⟨#[109,105,100]⟩,((0,52728000),(0,(274625,3))))]:=hp
  rcases List.mem_cons.1 h with rfl | h
  ·refine⟨by unfold Bb;simp only;omega,rfl,by decide,by decide⟩
  ·obtain rfl:=List.mem_singleton.1 h
   refine⟨by unfold Bb;simp only;omega,rfl,by decide,by decide⟩
theorem exn_w:WOk exN exV:=⟨by decide,by decide,by decide,by decide,by decide,by decide⟩
theorem baseEv:Ev (fun n=>Z29 n) exB:=by
 refine Ev.of_eq 1 ?_
 simp only[Z29Eq]
 exact (Ev.pure _).congr (by kernel_rfl)
theorem firstExEv:Ev (fun n=>Z30 n exB) exV:=by
 refine Ev.of_eq 3 ?_
 simp only[Z30Eq,Z30L3Eq]
 exact⟨0,fun n _=>by kernel_rfl⟩
theorem narExEv:Ev (fun n=>Z28 n exB exV 0 3) exN:=(nar0Ev exB exV 3 ⟨by decide,by decide⟩).congr (by kernel_rfl)
theorem findArg {c:CellT} {w:Mo.StateT} {to:J3} (ht:inLim c.1.1 to=false):Ev (fun n=>Z12 n c w 0 to) ([],1):=by
 have l0:=(limEv c.1.1 to).shift 1
 rw[ht] at l0
 have g:Ev (fun n=>Z34 n c w 0 to) ([],((-1:Int),(1:Int))):=by
  refine Ev.of_eq 2 ?_
  simp (disch:=decide) only [Z34Eq,br_pos,br_neg]
  exact Ev.bind l0 (Ev.pure _)
 refine Ev.of_eq 1 ?_
 simp only[Z12Eq]
 exact Ev.bind g (Ev.pure _)
theorem findArg2 {c:CellT} {w:Mo.StateT} {to:J3}:Ev (fun n=>Z12 n c w 2 to) ([],1):=by
 have g:Ev (fun n=>Z34 n c w 2 to) ([],((-1:Int),(1:Int))):=by
  refine Ev.of_eq 2 ?_
  simp (disch:=decide) only [Z34Eq,br_pos,br_neg]
  exact Ev.pure _
 refine Ev.of_eq 1 ?_
 simp only[Z12Eq]
 exact Ev.bind g (Ev.pure _)
theorem ex_to:find exN exV 0 (10,(0,0))=([(0,(0,1))],0):=by
 unfold find grown
 rw[explore_ex3]
 decide +kernel
theorem ex_stay:find exN exV 0 (9,(0,0))=([],0):=by
 unfold find grown
 rw[explore_ex3]
 decide +kernel
theorem headEv:Ev (fun n=>Z10 n) true:=by
 refine Ev.of_eq 1 ?_
 simp only[Z10Eq]
 refine Ev.bind baseEv ?_
 refine Ev.bind firstExEv ?_
 refine Ev.bind narExEv ?_
 have f1:=findEv exn_c exn_w (.inl rfl) (to:=(10,(0,0))) (by decide)
 rw[ex_to] at f1
 have f3:=findEv exn_c exn_w (.inl rfl) (to:=(9,(0,0))) (by decide)
 rw[ex_stay] at f3
 have P:=find_path (to:=(10,(0,0))) (conf_lim exn_w (.inl rfl)) (show Box (armOf exN 0) from ⟨by decide,by decide,by decide⟩)
 rw[ex_to] at P
 have hr:Runs exN exV 0 (conf exV 0) [(0,(0,1))] (10,(0,0)):=by
  rcases P with ⟨_,_,h,_⟩ | ⟨h,_⟩
  ·exact h
  ·cases h
 refine Ev.bind f1 ?_
 refine Ev.bind (findArg (by decide)) ?_
 refine Ev.bind findArg2 ?_
 refine Ev.bind f3 ?_
 refine Ev.bind (applyEv exn_c exn_w (.inl rfl) _ (by decide) hr) ?_
 have pv:Ev (fun n=>Z14 n exN exV 0 (10,(0,0))) (([],[]),false):=by
  have g:=grownEv exn_c exn_w (.inl rfl) (to:=(10,(0,0))) (by decide)
  have e:(grown exN exV 0 (10,(0,0))).2.2=0:=by
   unfold grown;rw[explore_ex3];decide +kernel
  refine Ev.of_eq 1 ?_
  simp only[Z14Eq]
  refine Ev.bind g ?_
  rw[e]
  exact Ev.pure _
 refine Ev.bind pv ?_
 exact⟨0,fun n _=>by kernel_rfl⟩
end Go.Pf
namespace Go.Pf
open Go Go.Am Go.Proofs Go.Hu Go.Mo
theorem arm01 {c:CellT} {bits:Int} {y:FitT} (h:FitP c bits y):y.2.2.1=0∨y.2.2.1=1:=by
 rcases h.arm with ⟨h,_⟩ | ⟨h,_⟩
 ·exact .inl h
 ·exact .inr h
theorem fitBox {c:CellT} {bits:Int} {y:FitT} (h:FitP c bits y) (hb:U8 bits):Box (armOf y.1 y.2.2.1):=by
 rcases h.arm with ⟨h1,h2⟩ | ⟨h1,h2⟩
 ·rw[h1,h2];exact (narRng h.cok.arm0 h.wok.lim0 hb).2
 ·rw[h1,h2];exact (narRng h.cok.arm1 h.wok.lim1 hb).2
theorem fitPath {c:CellT} {bits:Int} {y:FitT} (h:FitP c bits y) (hb:U8 bits) (to:J3):PathP y.1 y.2.1 y.2.2.1 to (find y.1 y.2.1 y.2.2.1 to) :=
 find_path (conf_lim h.dwok (arm01 h)) (fitBox h hb)
end Go.Pf
namespace Go.Pf
open Go Go.Am Go.Proofs Go.Hu Go.Mo
theorem next_no {c:CellT} {w:Mo.StateT} {a:Int} (ha:a=0∨a=1) {q:J3} {x:Int×Int} (h:(stepJ (armOf c a) q x.1 x.2).2=false):(next c (setQ w a q) (a,x)).2=false:=by
 unfold next
 rw[conf_set w ha,h,if_neg (by simp)]
theorem six_get (a:Int) {t:Int} (h0:0≤t) (h1:t<6):∃ x,(six.map fun x=>(a,x))[t.toNat]?=some (a,x):=by
 have:t.toNat<(six.map fun x=>(a,x)).length:=by rw[List.length_map];show t.toNat<6;omega
 refine⟨(six[t.toNat]'(by simpa using this)),?_⟩
 rw[List.getElem?_eq_getElem this,List.getElem_map]
section
variable {c:CellT} {w:Mo.StateT} (hc:COk c) (hw:WOk c w) {a:Int} (ha:a=0∨a=1)
include hc hw ha
theorem shortL9 (up:Bool) (w0:Mo.StateT) (raw:List Int) (hraw:∀ k∈raw,U8 k):∀ (k i:Nat) (q:J3) (r:List MoveT),i+k=12→r.length≤i→inLim (armOf c a) q=true→Runs c w a (conf w a) r q →
  ∃ (q':J3) (r':List MoveT),inLim (armOf c a) q'=true∧Runs c w a (conf w a) r' q' ∧
  Ev (fun n=>Z5L9 n ((raw,(up,((),((),(a,((),(((r.length:Nat):Int),((six.map fun x=>(a,x)),(((i:Nat):Int),()))))))))),((),((),((c,()),((w0,()),((),((setQ w a q,()),()))))))))
   ((up,((),((),(a,((),(((r'.length:Nat):Int),())))))),((),((),((c,()),((w0,()),((),((setQ w a q',()),()))))))):=by
 intro k
 induction k with
 | zero =>
  intro i q r h hr hq hR
  obtain rfl:i=12:=by omega
  refine⟨q,r,hq,hR,Ev.of_eq 1 ?_⟩
  simp only[Z5L9Eq]
  by_cases hi:((12:Nat):Int)<(raw.length:Int)
  ·simp (disch:=omega) only [br_pos,br_neg]
   exact Ev.pure _
  ·simp (disch:=omega) only [br_neg]
   exact Ev.pure _
 | succ k ih =>
  intro i q r h hr hq hR
  by_cases hi:i<raw.length
  ·have g:raw[i]?=some raw[i]:=List.getElem?_eq_getElem hi
   have hu:=hraw _ (List.getElem_mem hi)
   have t:=tm hu.1 (show (0:Int)<6 by decide)
   have hwr:IntKind.i64.wrap raw[i]=raw[i]:=by unfold U8 at hu;exact w64 (by omega) (by omega)
   obtain⟨x,hx⟩:=six_get a t.1 t.2
   have hv:=setQ_ok hw ha hq
   have nx:=nextStEv c (setQ w a q) (a,x) (hc.arm0.qbd hv.lim0) (hc.arm1.qbd hv.lim1)
   have stop:∀ (res:_) ,((next c (setQ w a q) (a,x)).2=false∨free c (setQ w a q) (a,x)=false)→Ev (fun n=>Z5L9 n ((raw,(up,((),((),(a,((),(((r.length:Nat):Int),((six.map fun x=>(a,x)),((((i+1:Nat):Nat):Int),()))))))))),((),((),((c,()),((w0,()),((),((setQ w a q,()),())))))))) res →
     Ev (fun n=>Z5L9 n ((raw,(up,((),((),(a,((),(((r.length:Nat):Int),((six.map fun x=>(a,x)),(((i:Nat):Int),()))))))))),((),((),((c,()),((w0,()),((),((setQ w a q,()),())))))))) res:=by
    intro res hno hres
    refine Ev.of_eq 1 ?_
    simp only[Z5L9Eq]
    simp (disch:=omega) only [br_pos,Int.toNat_natCast,g,Option.bind_some,hwr,hx]
    refine Ev.bind (x:=((raw,(up,((),((),(a,((),(((r.length:Nat):Int),((six.map fun x=>(a,x)),(((i:Nat):Int),()))))))))),((),((),((c,()),((w0,()),((),((setQ w a q,()),())))))))) (Ev.bind nx ?_) ?_
    ·cases hn:(next c (setQ w a q) (a,x)).2 with
     | false=>simp only[Bool.not_false,br_t];exact Ev.pure _
     | true =>
      have hf:free c (setQ w a q) (a,x)=false:=by
       rcases hno with h | h
       ·rw[hn] at h;cases h
       ·exact h
      simp only[Bool.not_true,br_f]
      refine Ev.bind (freeEv hc hv (a,x)) ?_
      rw[hf]
      exact Ev.pure _
    ·simp (disch:=omega) only [wr1]
     exact hres
   cases hs:(stepJ (armOf c a) q x.1 x.2).2 with
   | false =>
    obtain⟨q',r',e1,e2,e3⟩:=ih (i+1) q r (by omega) (by omega) hq hR
    exact⟨q',r',e1,e2,stop _ (.inl (next_no ha hs)) e3⟩
   | true =>
    cases hf:free c (setQ w a q) (a,x) with
    | false =>
     obtain⟨q',r',e1,e2,e3⟩:=ih (i+1) q r (by omega) (by omega) hq hR
     exact⟨q',r',e1,e2,stop _ (.inr hf) e3⟩
    | true =>
     have hL:Leads c w a q x (stepJ (armOf c a) q x.1 x.2).1:=⟨Prod.ext rfl hs,hf⟩
     have hR2:=Runs.append hR (Runs.one hL)
     obtain⟨q',r',e1,e2,e3⟩:=ih (i+1) _ _ (by omega) (by rw[List.length_append];show r.length+1≤_;omega) (leads_lim hL) hR2
     rw[List.length_append,show r.length + [(a,x)].length=r.length+1 from rfl] at e3
     refine⟨q',r',e1,e2,Ev.of_eq 1 ?_⟩
     simp only[Z5L9Eq]
     simp (disch:=omega) only [br_pos,Int.toNat_natCast,g,Option.bind_some,hwr,hx]
     rw[next_leads ha hL] at nx
     refine Ev.bind (Ev.bind nx (Ev.br_false rfl (Ev.bind (freeEv hc hv (a,x)) (Ev.br_false (by rw[hf];rfl) (Ev.pure _))))) ?_
     simp (disch:=omega) only [wr1]
     exact e3
  ·refine⟨q,r,hq,hR,Ev.of_eq 1 ?_⟩
   simp only[Z5L9Eq]
   simp (disch:=omega) only [br_neg]
   exact Ev.pure _
end
theorem shortLawEv (hh:Ev (fun n=>Z10 n) true) (c:CellT) (x:CaseT) (raw:List Int) (hx:CaseU x) (hraw:∀ k∈raw,U8 k) :
  Ev (fun n=>(Z10 n).bind fun x1164=>(Z11 n c x).bind fun x1165=>(br (!x1165.2.2.2.2) (some x1164) ((Z24 n x1165.2.2.1).bind fun x1166=>(Z5L9 n ((raw,(x1164,((),((),(x1165.2.2.1,((),((0:Int),(x1166,((0:Int),()))))))))),((),((),((x1165.1,()),((x1165.2.1,()),((),((x1165.2.1,()),())))))))).bind fun l1172=>(br (decide (l1172.1.2.2.2.1=1)) ((Z12 n l1172.2.2.2.1.1 l1172.2.2.2.2.1.1 l1172.1.2.2.2.1 l1172.2.2.2.2.2.2.1.1.1.2).bind fun x1174=>(br l1172.1.1 (br (decide (x1174.2=0)) (some (decide (((x1174.1).length:Int)≤l1172.1.2.2.2.2.2.1))) (some false)) (some false))) (br (decide (l1172.1.2.2.2.1=0)) ((Z12 n l1172.2.2.2.1.1 l1172.2.2.2.2.1.1 l1172.1.2.2.2.1 l1172.2.2.2.2.2.2.1.1.1.1).bind fun x1173=>(br l1172.1.1 (br (decide (x1173.2=0)) (some (decide (((x1173.1).length:Int)≤l1172.1.2.2.2.2.2.1))) (some false)) (some false))) none))))) true:=by
 refine Ev.bind hh ?_
 obtain⟨y,ey,hy⟩:=fits18 c x hx
 refine Ev.bind ey ?_
 cases hf:y.2.2.2.2 with
 | false=>exact Ev.pure _
 | true =>
  have F:=hy hf
  have ha:=arm01 F
  have hc:=F.dok
  have hw:=F.dwok
  have P:=fitPath F hx.2.2.1
  simp only[Bool.not_true,br_f]
  refine Ev.bind (sixEv y.2.2.1) ?_
  obtain⟨q',r',e1,e2,e3⟩:=shortL9 hc hw ha true y.2.1 raw hraw 12 0 (conf y.2.1 y.2.2.1) [] rfl (Nat.le_refl _) (conf_lim hw ha) rfl
  rw[set_conf y.2.1 ha] at e3
  refine Ev.bind e3 ?_
  have go:Ev (fun n=>(Z12 n y.1 y.2.1 y.2.2.1 q').bind fun s=>(br true (br (decide (s.2=0)) (some (decide (((s.1).length:Int)≤((r'.length:Nat):Int)))) (some false)) (some false))) true:=by
   refine Ev.bind (findEv hc hw ha e1) ?_
   have Q:=P q'
   generalize find y.1 y.2.1 y.2.2.1 q'=s at *
   rcases Q with ⟨p1,_,p3,p4⟩ | ⟨p1,p2,p3⟩
   ·have:=p4 _ e2
    rw[br_t,decide_eq_true p1,br_t,decide_eq_true (by omega)]
    exact Ev.pure _
   ·exact absurd e2 (p3 _)
  rcases ha with e | e
  ·simp (disch:=omega) only [br_neg,br_pos]
   rw[e];rw[e] at go
   exact go
  ·simp (disch:=omega) only [br_pos]
   rw[e];rw[e] at go
   exact go
end Go.Pf
