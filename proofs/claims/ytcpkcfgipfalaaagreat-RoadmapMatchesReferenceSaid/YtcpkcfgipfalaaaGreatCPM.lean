import Derived.Test.YtcpkcfgipfalaaaGreatCPL
set_option linter.unusedVariables false
set_option linter.unusedSimpArgs false
set_option linter.unnecessarySimpa false
set_option linter.unusedSectionVars false
namespace Go.Rm
open Go Go.Am Go.Proofs Go.Hu Go.Mo
theorem side2Tot (a b c:Pt):Tot fun n=>Z82 n a b c:=Tot.of_eq 2 (by
 simp only[Z82Eq,Z111Eq,Option.bind_some]
 exact Tot.br (Tot.pure _) (Tot.br (Tot.pure _) (Tot.pure _)))
theorem shapeL9 (p:List Pt) (hl:p.length≤12) (i:Nat) (hi:i<p.length):∀ (k j:Nat),j+k=p.length →
  ∃ y,Ev (fun n=>Z57L9 n ((p,(((i:Nat):Int),(((j:Nat):Int),()))),())) y∧(y=.inl ((p,(((i:Nat):Int),())),())∨y=.inr ((false,()),())):=by
 intro k
 induction k with
 | zero =>
  intro j h
  refine⟨_,Ev.of_eq 1 ?_,.inl rfl⟩
  simp (disch:=omega) only [Z57L9Eq,br_neg]
  exact Ev.pure _
 | succ k ih =>
  intro j h
  obtain⟨y,e,hy⟩:=ih (j+1) (by omega)
  have g1:=at_get (l:=p) (i:=i) hi
  have g2:=at_get (l:=p) (i:=nx p i) (nx_lt (by omega) i)
  have g3:=at_get (l:=p) (i:=j) (by omega)
  have en:=tm_nx p i (by omega)
  obtain⟨v,hv⟩:=side2Tot (at_ p i) (at_ p (nx p i)) (at_ p j)
  by_cases h0:v<0
  ·refine⟨_,Ev.of_eq 1 ?_,.inr rfl⟩
   simp (disch:=omega) only [Z57L9Eq,br_pos,br_neg,Int.toNat_natCast,g1,en,g2,g3,Option.bind_some]
   refine Ev.bind hv ?_
   simp only[br_pos h0]
   exact Ev.pure _
  ·refine⟨y,Ev.of_eq 1 ?_,hy⟩
   simp (disch:=omega) only [Z57L9Eq,br_pos,br_neg,Int.toNat_natCast,g1,en,g2,g3,Option.bind_some]
   refine Ev.bind hv ?_
   simp only[br_neg h0]
   simp (disch:=omega) only [wr1]
   exact e
theorem shapeL4 (p:List Pt) (hl:p.length≤12):∀ (r:List Pt) (i:Nat),p.drop i=r→i≤p.length →
  ∃ y,Ev (fun n=>Z57L4 n ((p,(((i:Nat):Int),())),())) y∧((y=.inl ((),())∧∀ x∈r,Bb 10 x)∨y=.inr ((false,()),())):=by
 intro r
 induction r with
 | nil =>
  intro i h hi
  have:=gdrop_nil h
  refine⟨_,Ev.of_eq 1 ?_,.inl ⟨rfl,fun x hx=>by cases hx⟩⟩
  simp (disch:=omega) only [Z57L4Eq,br_neg]
  exact Ev.pure _
 | cons x r ih =>
  intro i h hi
  obtain⟨g1,g2,g3⟩:=gdrop h
  obtain⟨y,e,hy⟩:=ih (i+1) g2 (by omega)
  obtain⟨z,ez,hz⟩:=shapeL9 p hl i g3 p.length 0 (by omega)
  by_cases h1:x.1 < -10
  ·refine⟨_,Ev.of_eq 1 ?_,.inr rfl⟩
   simp (disch:=omega) only [Z57L4Eq,br_pos,Int.toNat_natCast,g1,Option.bind_some]
   exact Ev.pure _
  by_cases h2:10<x.1
  ·refine⟨_,Ev.of_eq 1 ?_,.inr rfl⟩
   simp (disch:=omega) only [Z57L4Eq,br_pos,br_neg,Int.toNat_natCast,g1,Option.bind_some]
   exact Ev.pure _
  by_cases h3:x.2 < -10
  ·refine⟨_,Ev.of_eq 1 ?_,.inr rfl⟩
   simp (disch:=omega) only [Z57L4Eq,br_pos,br_neg,Int.toNat_natCast,g1,Option.bind_some]
   exact Ev.pure _
  by_cases h4:10<x.2
  ·refine⟨_,Ev.of_eq 1 ?_,.inr rfl⟩
   simp (disch:=omega) only [Z57L4Eq,br_pos,br_neg,Int.toNat_natCast,g1,Option.bind_some]
   exact Ev.pure _
  rcases hz with rfl | rfl
  ·refine⟨y,Ev.of_eq 1 ?_,?_⟩
   ·simp (disch:=omega) only [Z57L4Eq,br_pos,br_neg,Int.toNat_natCast,g1,Option.bind_some]
    refine Ev.bind ez ?_
    simp (disch:=omega) only [wr1]
    exact e
   ·rcases hy with ⟨h5,h6⟩ | h5
    ·exact .inl ⟨h5,fun q hq=>by
      rcases List.mem_cons.1 hq with rfl | hq
      ·unfold Bb;omega
      ·exact h6 q hq⟩
    ·exact .inr h5
  ·refine⟨_,Ev.of_eq 1 ?_,.inr rfl⟩
   simp (disch:=omega) only [Z57L4Eq,br_pos,br_neg,Int.toNat_natCast,g1,Option.bind_some]
   exact Ev.bind ez (Ev.pure _)
theorem shapeEv (p:List Pt):∃ b,Ev (fun n=>Z57 n p) b∧(b=true→p.length≤4∧∀ x∈p,Bb 10 x):=by
 by_cases h1:(4:Int)<((p.length:Nat):Int)
 ·refine⟨false,Ev.of_eq 1 ?_,fun e=>by cases e⟩
  simp only[Z57Eq,br_pos h1];exact Ev.pure _
 obtain⟨b,hb,-⟩:=polyEv p
 obtain⟨y,e,hy⟩:=shapeL4 p (by omega) p 0 rfl (Nat.zero_le _)
 cases b with
 | false =>
  refine⟨false,Ev.of_eq 1 ?_,fun e=>by cases e⟩
  simp only[Z57Eq,br_neg h1]
  exact Ev.bind hb (Ev.pure _)
 | true =>
  rcases hy with ⟨rfl,h2⟩ | rfl
  ·refine⟨true,Ev.of_eq 1 ?_,fun _=>⟨by omega,h2⟩⟩
   simp only[Z57Eq,br_neg h1]
   refine Ev.bind hb ?_
   simp only[Bool.not_true,br_f]
   exact Ev.bind e (Ev.pure _)
  ·refine⟨false,Ev.of_eq 1 ?_,fun e=>by cases e⟩
   simp only[Z57Eq,br_neg h1]
   refine Ev.bind hb ?_
   simp only[Bool.not_true,br_f]
   exact Ev.bind e (Ev.pure _)
theorem partsL4 (l:List PartT) (m:Int) (hl:l.length≤8):∀ (r:List PartT) (i:Nat) (a:List ByteArray) (b:List Int),l.drop i=r→i≤l.length→a.length≤i→b.length≤i →
  ∃ y,Ev (fun n=>Z42L4 n ((l,(m,(a,(b,(((i:Nat):Int),()))))),())) y∧((∃ a' b',y=.inl ((l,(m,(a',(b',())))),())∧a'.length≤8∧b'.length≤8∧∀ p∈r,p.2.1.length≤4∧∀ x∈p.2.1,Bb 10 x)∨y=.inr ((false,()),())):=by
 intro r
 induction r with
 | nil =>
  intro i a b h hi ha hb
  have:=gdrop_nil h
  refine⟨_,Ev.of_eq 1 ?_,.inl ⟨a,b,rfl,by omega,by omega,fun p hp=>by cases hp⟩⟩
  simp (disch:=omega) only [Z42L4Eq,br_neg]
  exact Ev.pure _
 | cons p r ih =>
  intro i a b h hi ha hb
  obtain⟨g1,g2,g3⟩:=gdrop h
  obtain⟨v,hv,hvt⟩:=shapeEv p.2.1
  obtain⟨y,e,hy⟩:=ih (i+1) (a ++ [p.1]) (b ++ [p.2.2]) g2 (by omega) (by simp;omega) (by simp;omega)
  have c1:(a.length + [p.1].length)*16≤140737488355328:=by simp only[List.length_cons,List.length_nil];omega
  have c2:(b.length + [p.2.2].length)*8≤140737488355328:=by simp only[List.length_cons,List.length_nil];omega
  cases v with
  | false =>
   refine⟨_,Ev.of_eq 1 ?_,.inr rfl⟩
   simp (disch:=omega) only [Z42L4Eq,br_pos,Int.toNat_natCast,g1,Option.bind_some,br_pos c1,br_pos c2]
   exact Ev.bind hv (Ev.pure _)
  | true =>
   refine⟨y,Ev.of_eq 1 ?_,?_⟩
   ·simp (disch:=omega) only [Z42L4Eq,br_pos,Int.toNat_natCast,g1,Option.bind_some,br_pos c1,br_pos c2,wr1]
    refine Ev.bind hv ?_
    simp only[Bool.not_true,br_f]
    exact e
   ·rcases hy with ⟨a',b',h1,h2,h3,h4⟩ | h1
    ·exact .inl ⟨a',b',h1,h2,h3,fun q hq=>by
      rcases List.mem_cons.1 hq with rfl | hq
      ·exact hvt rfl
      ·exact h4 q hq⟩
    ·exact .inr h1
theorem partsOkEv (l:List PartT) (m:Int) (hl:l.length≤8):∃ b,Ev (fun n=>Z42 n l m) b∧(b=true→∀ p∈l,p.2.1.length≤4∧∀ x∈p.2.1,Bb 10 x):=by
 obtain⟨y,e,hy⟩:=partsL4 l m hl l 0 [] [] rfl (Nat.zero_le _) (Nat.le_refl _) (Nat.le_refl _)
 rcases hy with ⟨a',b',rfl,h2,h3,h4⟩ | rfl
 ·obtain⟨v,hv⟩:=namesTot a' (by omega)
  obtain⟨u,hu⟩:=unlikeTot b' m (by omega)
  have c1:((l.length:Nat):Int)≤8:=by omega
  cases v with
  | false =>
   refine⟨false,Ev.of_eq 1 ?_,fun e=>by cases e⟩
   simp only[Z42Eq]
   refine Ev.bind e ?_
   simp only[br_pos c1]
   exact Ev.bind hv (Ev.pure _)
  | true =>
   refine⟨u,Ev.of_eq 1 ?_,fun _=>h4⟩
   simp only[Z42Eq]
   refine Ev.bind e ?_
   simp only[br_pos c1]
   refine Ev.bind hv ?_
   simp only[br_t]
   exact Ev.bind hu (Ev.pure _)
 ·refine⟨false,Ev.of_eq 1 ?_,fun e=>by cases e⟩
  simp only[Z42Eq]
  exact Ev.bind e (Ev.pure _)
end Go.Rm
namespace Go.Rm
open Go Go.Am Go.Proofs Go.Hu Go.Mo
theorem dirEv (d:Dir):∃ b,Ev (fun n=>Z55 n d) b∧(b=true→DirOk d.2.2 d):=by
 by_cases h1:d.2.2<0
 ·refine⟨false,Ev.of_eq 1 ?_,fun e=>by cases e⟩
  simp only[Z55Eq,br_pos h1];exact Ev.pure _
 by_cases h2:3<d.2.2
 ·refine⟨false,Ev.of_eq 1 ?_,fun e=>by cases e⟩
  simp only[Z55Eq,br_neg h1,br_pos h2];exact Ev.pure _
 have hp:=pow65_pos d.2.2
 have hpw:=rpowEv (m:=d.2.2) (by omega)
 have e0:IntKind.i64.wrap (0-pow65 d.2.2) = -pow65 d.2.2:=by rw[w64 (by omega) (by omega)];omega
 by_cases g1:-pow65 d.2.2≤d.1
 ·by_cases g2:d.1≤pow65 d.2.2
  ·by_cases g3:-pow65 d.2.2≤d.2.1
   ·by_cases g4:d.2.1≤pow65 d.2.2
    ·have hx:=mul_bd2 (a:=d.1) (b:=d.1) (A:=274625) (B:=274625) (by omega) (by omega)
     have hy:=mul_bd2 (a:=d.2.1) (b:=d.2.1) (A:=274625) (B:=274625) (by omega) (by omega)
     have hz:=mul_bd2 (a:=pow65 d.2.2) (b:=pow65 d.2.2) (A:=274625) (B:=274625) (by omega) (by omega)
     refine⟨decide (d.1*d.1+d.2.1*d.2.1=pow65 d.2.2*pow65 d.2.2),Ev.of_eq 1 ?_,fun e=>⟨rfl,by omega,by simpa using e⟩⟩
     simp only[Z55Eq,br_neg h1,br_neg h2]
     refine Ev.bind hpw ?_
     simp only[e0,br_pos g1,br_pos g2,br_pos g3,br_pos g4]
     rw[w64 (n:=d.1*d.1) (by omega) (by omega),w64 (n:=d.2.1*d.2.1) (by omega) (by omega),w64 (n:=d.1*d.1+d.2.1*d.2.1) (by omega) (by omega),w64 (n:=pow65 d.2.2*pow65 d.2.2) (by omega) (by omega)]
     exact Ev.pure _
    ·refine⟨false,Ev.of_eq 1 ?_,fun e=>by cases e⟩
     simp only[Z55Eq,br_neg h1,br_neg h2]
     refine Ev.bind hpw ?_
     simp only[e0,br_pos g1,br_pos g2,br_pos g3,br_neg g4];exact Ev.pure _
   ·refine⟨false,Ev.of_eq 1 ?_,fun e=>by cases e⟩
    simp only[Z55Eq,br_neg h1,br_neg h2]
    refine Ev.bind hpw ?_
    simp only[e0,br_pos g1,br_pos g2,br_neg g3];exact Ev.pure _
  ·refine⟨false,Ev.of_eq 1 ?_,fun e=>by cases e⟩
   simp only[Z55Eq,br_neg h1,br_neg h2]
   refine Ev.bind hpw ?_
   simp only[e0,br_pos g1,br_neg g2];exact Ev.pure _
 ·refine⟨false,Ev.of_eq 1 ?_,fun e=>by cases e⟩
  simp only[Z55Eq,br_neg h1,br_neg h2]
  refine Ev.bind hpw ?_
  simp only[e0,br_neg g1];exact Ev.pure _
theorem placesL3 (l:List PlaceT) (hl:l.length≤1000):∀ (r:List PlaceT) (i:Nat) (a:List ByteArray),l.drop i=r→i≤l.length→a.length≤i →
  ∃ y,Ev (fun n=>Z41L3 n ((l,(a,(((i:Nat):Int),()))),())) y∧((∃ a',y=.inl ((l,(a',())),())∧a'.length≤1000∧∀ p∈r,Bb 439400000 p.2.1∧DirOk 3 p.2.2)∨y=.inr ((false,()),())):=by
 intro r
 induction r with
 | nil =>
  intro i a h hi ha
  have:=gdrop_nil h
  refine⟨_,Ev.of_eq 1 ?_,.inl ⟨a,rfl,by omega,fun p hp=>by cases hp⟩⟩
  simp (disch:=omega) only [Z41L3Eq,br_neg]
  exact Ev.pure _
 | cons p r ih =>
  intro i a h hi ha
  obtain⟨g1,g2,g3⟩:=gdrop h
  obtain⟨v,hv,hvt⟩:=dirEv p.2.2
  obtain⟨y,e,hy⟩:=ih (i+1) (a ++ [p.1]) g2 (by omega) (by simp;omega)
  have c1:(a.length + [p.1].length)*16≤140737488355328:=by simp only[List.length_cons,List.length_nil];omega
  by_cases m1:p.2.1.1.tmod 16=0
  rotate_left
  ·refine⟨_,Ev.of_eq 1 ?_,.inr rfl⟩
   simp (disch:=omega) only [Z41L3Eq,br_pos,Int.toNat_natCast,g1,Option.bind_some,br_pos c1,nbr_neg m1]
   exact Ev.pure _
  by_cases m2:p.2.1.2.tmod 16=0
  rotate_left
  ·refine⟨_,Ev.of_eq 1 ?_,.inr rfl⟩
   simp (disch:=omega) only [Z41L3Eq,br_pos,Int.toNat_natCast,g1,Option.bind_some,br_pos c1,nbr_pos m1,nbr_neg m2]
   exact Ev.pure _
  by_cases m3:(373490000:Int)<(if decide (p.2.1.1<p.2.1.2)=true then p.2.1.2 else p.2.1.1)
  ·refine⟨_,Ev.of_eq 1 ?_,.inr rfl⟩
   simp (disch:=omega) only [Z41L3Eq,br_pos,Int.toNat_natCast,g1,Option.bind_some,br_pos c1,nbr_pos m1,nbr_pos m2,br_pos m3]
   exact Ev.pure _
  by_cases m4:(if decide (p.2.1.2<p.2.1.1)=true then p.2.1.2 else p.2.1.1)<(-373490000:Int)
  ·refine⟨_,Ev.of_eq 1 ?_,.inr rfl⟩
   simp (disch:=omega) only [Z41L3Eq,br_pos,Int.toNat_natCast,g1,Option.bind_some,br_pos c1,nbr_pos m1,nbr_pos m2,br_neg m3,br_pos m4]
   exact Ev.pure _
  by_cases m5:p.2.2.2.2=3
  rotate_left
  ·refine⟨_,Ev.of_eq 1 ?_,.inr rfl⟩
   simp (disch:=omega) only [Z41L3Eq,br_pos,Int.toNat_natCast,g1,Option.bind_some,br_pos c1,nbr_pos m1,nbr_pos m2,br_neg m3,br_neg m4,nbr_neg m5]
   exact Ev.pure _
  cases v with
  | false =>
   refine⟨_,Ev.of_eq 1 ?_,.inr rfl⟩
   simp (disch:=omega) only [Z41L3Eq,br_pos,Int.toNat_natCast,g1,Option.bind_some,br_pos c1,nbr_pos m1,nbr_pos m2,br_neg m3,br_neg m4,nbr_pos m5]
   exact Ev.bind hv (Ev.pure _)
  | true =>
   refine⟨y,Ev.of_eq 1 ?_,?_⟩
   ·simp (disch:=omega) only [Z41L3Eq,br_pos,Int.toNat_natCast,g1,Option.bind_some,br_pos c1,nbr_pos m1,nbr_pos m2,br_neg m3,br_neg m4,nbr_pos m5,wr1]
    refine Ev.bind hv ?_
    simp only[Bool.not_true,br_f]
    exact e
   ·rcases hy with ⟨a',h1,h2,h3⟩ | h1
    ·exact .inl ⟨a',h1,h2,fun q hq=>by
      rcases List.mem_cons.1 hq with rfl | hq
      ·refine⟨?_,by have:=hvt rfl;rw[m5] at this;exact this⟩
       simp only[decide_eq_true_eq] at m3 m4
       unfold Bb
       split at m3 <;> split at m4 <;> omega
      ·exact h3 q hq⟩
    ·exact .inr h1
theorem placesEv (l:List PlaceT) (hl:l.length≤16):∃ b,Ev (fun n=>Z41 n l) b∧(b=true→∀ p∈l,Bb 439400000 p.2.1∧DirOk 3 p.2.2):=by
 obtain⟨y,e,hy⟩:=placesL3 l (by omega) l 0 [] rfl (Nat.zero_le _) (Nat.le_refl _)
 have c1:((l.length:Nat):Int)≤16:=by omega
 rcases hy with ⟨a',rfl,h2,h3⟩ | rfl
 ·obtain⟨v,hv⟩:=namesTot a' h2
  refine⟨v,Ev.of_eq 1 ?_,fun _=>h3⟩
  simp only[Z41Eq]
  refine Ev.bind e ?_
  simp only[br_pos c1]
  exact Ev.bind hv (Ev.pure _)
 ·refine⟨false,Ev.of_eq 1 ?_,fun e=>by cases e⟩
  simp only[Z41Eq]
  exact Ev.bind e (Ev.pure _)
end Go.Rm
namespace Go.Rm
open Go Go.Am Go.Proofs Go.Hu Go.Mo
theorem farTot (a:ArmT):∃ b,Ev (fun n=>Z52 n a) b∧(b=false→Bb 1000000000 a.1):=by
 by_cases h1:(1000000000:Int)<a.1.1
 ·refine⟨true,Ev.of_eq 1 ?_,fun e=>by cases e⟩
  simp only[Z52Eq,br_pos h1];exact Ev.pure _
 by_cases h2:a.1.1<(-1000000000:Int)
 ·refine⟨true,Ev.of_eq 1 ?_,fun e=>by cases e⟩
  simp only[Z52Eq,br_neg h1,br_pos h2];exact Ev.pure _
 by_cases h3:(1000000000:Int)<a.1.2
 ·refine⟨true,Ev.of_eq 1 ?_,fun e=>by cases e⟩
  simp only[Z52Eq,br_neg h1,br_neg h2,br_pos h3];exact Ev.pure _
 refine⟨decide (a.1.2<(-1000000000:Int)),Ev.of_eq 1 ?_,fun e=>?_⟩
 ·simp only[Z52Eq,br_neg h1,br_neg h2,br_neg h3];exact Ev.pure _
 ·rw[decide_eq_false_iff_not] at e
  unfold Bb;omega
theorem sizeEv {x:Int} (h:-1000000000≤x∧x≤1000000000):Ev (fun n=>Z53 n x) (if x<0 then -x else x):=by
 refine Ev.of_eq 1 ?_
 by_cases h1:x<0
 ·simp (disch:=omega) only [Z53Eq,br_pos h1,w64,if_pos h1]
  exact (Ev.pure _).congr (by omega)
 ·simp only[Z53Eq,br_neg h1,if_neg h1]
  exact Ev.pure _
def ArmR (a:ArmT):Prop:=Bb 439400000 a.1∧((1≤a.2.1.1∧a.2.1.1≤40)∧(1≤a.2.1.2.1∧a.2.1.2.1≤40)∧(1≤a.2.1.2.2∧a.2.1.2.2≤40))∧(1≤a.2.2.1∧a.2.2.1≤4) ∧
 ((-17≤a.2.2.2.1.1∧a.2.2.2.1.1≤18)∧(-17≤a.2.2.2.1.2.1∧a.2.2.2.1.2.1≤18)∧(-17≤a.2.2.2.1.2.2∧a.2.2.2.1.2.2≤18)) ∧
 ((-17≤a.2.2.2.2.1∧a.2.2.2.2.1≤18)∧(-17≤a.2.2.2.2.2.1∧a.2.2.2.2.2.1≤18)∧(-17≤a.2.2.2.2.2.2∧a.2.2.2.2.2.2≤18))
theorem armEv (a:ArmT):∃ b,Ev (fun n=>Z37 n a) b∧(b=true→ArmR a):=by
 obtain⟨v,hv,hvf⟩:=farTot a
 cases v with
 | true =>
  refine⟨false,Ev.of_eq 1 ?_,fun e=>by cases e⟩
  simp only[Z37Eq]
  exact Ev.bind hv (Ev.pure _)
 | false =>
 have hb:=hvf rfl
 unfold Bb at hb
 by_cases h0:a.2.2.1<(1:Int)
 ·refine⟨false,Ev.of_eq 1 ?_,fun e=>by cases e⟩
  simp only[Z37Eq]
  refine Ev.bind hv ?_
  simp only[br_f,br_pos h0]
  exact Ev.pure _
 by_cases h1:(4:Int)<a.2.2.1
 ·refine⟨false,Ev.of_eq 1 ?_,fun e=>by cases e⟩
  simp only[Z37Eq]
  refine Ev.bind hv ?_
  simp only[br_f,br_neg h0,br_pos h1]
  exact Ev.pure _
 by_cases h2:((a.1.1).tmod (16:Int))=(0:Int)
 rotate_left
 ·refine⟨false,Ev.of_eq 1 ?_,fun e=>by cases e⟩
  simp only[Z37Eq]
  refine Ev.bind hv ?_
  simp only[br_f,br_neg h0,br_neg h1,nbr_neg h2]
  exact Ev.pure _
 by_cases h3:((a.1.2).tmod (16:Int))=(0:Int)
 rotate_left
 ·refine⟨false,Ev.of_eq 1 ?_,fun e=>by cases e⟩
  simp only[Z37Eq]
  refine Ev.bind hv ?_
  simp only[br_f,br_neg h0,br_neg h1,nbr_pos h2,nbr_neg h3]
  exact Ev.pure _
 by_cases h4:a.2.1.1<(1:Int)
 ·refine⟨false,Ev.of_eq 1 ?_,fun e=>by cases e⟩
  simp only[Z37Eq]
  refine Ev.bind hv ?_
  simp only[br_f,br_neg h0,br_neg h1,nbr_pos h2,nbr_pos h3,br_pos h4]
  exact Ev.pure _
 by_cases h5:(40:Int)<a.2.1.1
 ·refine⟨false,Ev.of_eq 1 ?_,fun e=>by cases e⟩
  simp only[Z37Eq]
  refine Ev.bind hv ?_
  simp only[br_f,br_neg h0,br_neg h1,nbr_pos h2,nbr_pos h3,br_neg h4,br_pos h5]
  exact Ev.pure _
 by_cases h6:a.2.2.2.1.1<(-17:Int)
 ·refine⟨false,Ev.of_eq 1 ?_,fun e=>by cases e⟩
  simp only[Z37Eq]
  refine Ev.bind hv ?_
  simp only[br_f,br_neg h0,br_neg h1,nbr_pos h2,nbr_pos h3,br_neg h4,br_neg h5,br_pos h6]
  exact Ev.pure _
 by_cases h7:(18:Int)<a.2.2.2.1.1
 ·refine⟨false,Ev.of_eq 1 ?_,fun e=>by cases e⟩
  simp only[Z37Eq]
  refine Ev.bind hv ?_
  simp only[br_f,br_neg h0,br_neg h1,nbr_pos h2,nbr_pos h3,br_neg h4,br_neg h5,br_neg h6,br_pos h7]
  exact Ev.pure _
 by_cases h8:a.2.2.2.2.1<(-17:Int)
 ·refine⟨false,Ev.of_eq 1 ?_,fun e=>by cases e⟩
  simp only[Z37Eq]
  refine Ev.bind hv ?_
  simp only[br_f,br_neg h0,br_neg h1,nbr_pos h2,nbr_pos h3,br_neg h4,br_neg h5,br_neg h6,br_neg h7,br_pos h8]
  exact Ev.pure _
 by_cases h9:(18:Int)<a.2.2.2.2.1
 ·refine⟨false,Ev.of_eq 1 ?_,fun e=>by cases e⟩
  simp only[Z37Eq]
  refine Ev.bind hv ?_
  simp only[br_f,br_neg h0,br_neg h1,nbr_pos h2,nbr_pos h3,br_neg h4,br_neg h5,br_neg h6,br_neg h7,br_neg h8,br_pos h9]
  exact Ev.pure _
 by_cases h10:a.2.2.2.2.1<a.2.2.2.1.1
 ·refine⟨false,Ev.of_eq 1 ?_,fun e=>by cases e⟩
  simp only[Z37Eq]
  refine Ev.bind hv ?_
  simp only[br_f,br_neg h0,br_neg h1,nbr_pos h2,nbr_pos h3,br_neg h4,br_neg h5,br_neg h6,br_neg h7,br_neg h8,br_neg h9,br_pos h10]
  exact Ev.pure _
 by_cases h11:a.2.1.2.1<(1:Int)
 ·refine⟨false,Ev.of_eq 1 ?_,fun e=>by cases e⟩
  simp only[Z37Eq]
  refine Ev.bind hv ?_
  simp only[br_f,br_neg h0,br_neg h1,nbr_pos h2,nbr_pos h3,br_neg h4,br_neg h5,br_neg h6,br_neg h7,br_neg h8,br_neg h9,br_neg h10,br_pos h11]
  exact Ev.pure _
 by_cases h12:(40:Int)<a.2.1.2.1
 ·refine⟨false,Ev.of_eq 1 ?_,fun e=>by cases e⟩
  simp only[Z37Eq]
  refine Ev.bind hv ?_
  simp only[br_f,br_neg h0,br_neg h1,nbr_pos h2,nbr_pos h3,br_neg h4,br_neg h5,br_neg h6,br_neg h7,br_neg h8,br_neg h9,br_neg h10,br_neg h11,br_pos h12]
  exact Ev.pure _
 by_cases h13:a.2.2.2.1.2.1<(-17:Int)
 ·refine⟨false,Ev.of_eq 1 ?_,fun e=>by cases e⟩
  simp only[Z37Eq]
  refine Ev.bind hv ?_
  simp only[br_f,br_neg h0,br_neg h1,nbr_pos h2,nbr_pos h3,br_neg h4,br_neg h5,br_neg h6,br_neg h7,br_neg h8,br_neg h9,br_neg h10,br_neg h11,br_neg h12,br_pos h13]
  exact Ev.pure _
 by_cases h14:(18:Int)<a.2.2.2.1.2.1
 ·refine⟨false,Ev.of_eq 1 ?_,fun e=>by cases e⟩
  simp only[Z37Eq]
  refine Ev.bind hv ?_
  simp only[br_f,br_neg h0,br_neg h1,nbr_pos h2,nbr_pos h3,br_neg h4,br_neg h5,br_neg h6,br_neg h7,br_neg h8,br_neg h9,br_neg h10,br_neg h11,br_neg h12,br_neg h13,br_pos h14]
  exact Ev.pure _
 by_cases h15:a.2.2.2.2.2.1<(-17:Int)
 ·refine⟨false,Ev.of_eq 1 ?_,fun e=>by cases e⟩
  simp only[Z37Eq]
  refine Ev.bind hv ?_
  simp only[br_f,br_neg h0,br_neg h1,nbr_pos h2,nbr_pos h3,br_neg h4,br_neg h5,br_neg h6,br_neg h7,br_neg h8,br_neg h9,br_neg h10,br_neg h11,br_neg h12,br_neg h13,br_neg h14,br_pos h15]
  exact Ev.pure _
 by_cases h16:(18:Int)<a.2.2.2.2.2.1
 ·refine⟨false,Ev.of_eq 1 ?_,fun e=>by cases e⟩
  simp only[Z37Eq]
  refine Ev.bind hv ?_
  simp only[br_f,br_neg h0,br_neg h1,nbr_pos h2,nbr_pos h3,br_neg h4,br_neg h5,br_neg h6,br_neg h7,br_neg h8,br_neg h9,br_neg h10,br_neg h11,br_neg h12,br_neg h13,br_neg h14,br_neg h15,br_pos h16]
  exact Ev.pure _
 by_cases h17:a.2.2.2.2.2.1<a.2.2.2.1.2.1
 ·refine⟨false,Ev.of_eq 1 ?_,fun e=>by cases e⟩
  simp only[Z37Eq]
  refine Ev.bind hv ?_
  simp only[br_f,br_neg h0,br_neg h1,nbr_pos h2,nbr_pos h3,br_neg h4,br_neg h5,br_neg h6,br_neg h7,br_neg h8,br_neg h9,br_neg h10,br_neg h11,br_neg h12,br_neg h13,br_neg h14,br_neg h15,br_neg h16,br_pos h17]
  exact Ev.pure _
 by_cases h18:a.2.1.2.2<(1:Int)
 ·refine⟨false,Ev.of_eq 1 ?_,fun e=>by cases e⟩
  simp only[Z37Eq]
  refine Ev.bind hv ?_
  simp only[br_f,br_neg h0,br_neg h1,nbr_pos h2,nbr_pos h3,br_neg h4,br_neg h5,br_neg h6,br_neg h7,br_neg h8,br_neg h9,br_neg h10,br_neg h11,br_neg h12,br_neg h13,br_neg h14,br_neg h15,br_neg h16,br_neg h17,br_pos h18]
  exact Ev.pure _
 by_cases h19:(40:Int)<a.2.1.2.2
 ·refine⟨false,Ev.of_eq 1 ?_,fun e=>by cases e⟩
  simp only[Z37Eq]
  refine Ev.bind hv ?_
  simp only[br_f,br_neg h0,br_neg h1,nbr_pos h2,nbr_pos h3,br_neg h4,br_neg h5,br_neg h6,br_neg h7,br_neg h8,br_neg h9,br_neg h10,br_neg h11,br_neg h12,br_neg h13,br_neg h14,br_neg h15,br_neg h16,br_neg h17,br_neg h18,br_pos h19]
  exact Ev.pure _
 by_cases h20:a.2.2.2.1.2.2<(-17:Int)
 ·refine⟨false,Ev.of_eq 1 ?_,fun e=>by cases e⟩
  simp only[Z37Eq]
  refine Ev.bind hv ?_
  simp only[br_f,br_neg h0,br_neg h1,nbr_pos h2,nbr_pos h3,br_neg h4,br_neg h5,br_neg h6,br_neg h7,br_neg h8,br_neg h9,br_neg h10,br_neg h11,br_neg h12,br_neg h13,br_neg h14,br_neg h15,br_neg h16,br_neg h17,br_neg h18,br_neg h19,br_pos h20]
  exact Ev.pure _
 by_cases h21:(18:Int)<a.2.2.2.1.2.2
 ·refine⟨false,Ev.of_eq 1 ?_,fun e=>by cases e⟩
  simp only[Z37Eq]
  refine Ev.bind hv ?_
  simp only[br_f,br_neg h0,br_neg h1,nbr_pos h2,nbr_pos h3,br_neg h4,br_neg h5,br_neg h6,br_neg h7,br_neg h8,br_neg h9,br_neg h10,br_neg h11,br_neg h12,br_neg h13,br_neg h14,br_neg h15,br_neg h16,br_neg h17,br_neg h18,br_neg h19,br_neg h20,br_pos h21]
  exact Ev.pure _
 by_cases h22:a.2.2.2.2.2.2<(-17:Int)
 ·refine⟨false,Ev.of_eq 1 ?_,fun e=>by cases e⟩
  simp only[Z37Eq]
  refine Ev.bind hv ?_
  simp only[br_f,br_neg h0,br_neg h1,nbr_pos h2,nbr_pos h3,br_neg h4,br_neg h5,br_neg h6,br_neg h7,br_neg h8,br_neg h9,br_neg h10,br_neg h11,br_neg h12,br_neg h13,br_neg h14,br_neg h15,br_neg h16,br_neg h17,br_neg h18,br_neg h19,br_neg h20,br_neg h21,br_pos h22]
  exact Ev.pure _
 by_cases h23:(18:Int)<a.2.2.2.2.2.2
 ·refine⟨false,Ev.of_eq 1 ?_,fun e=>by cases e⟩
  simp only[Z37Eq]
  refine Ev.bind hv ?_
  simp only[br_f,br_neg h0,br_neg h1,nbr_pos h2,nbr_pos h3,br_neg h4,br_neg h5,br_neg h6,br_neg h7,br_neg h8,br_neg h9,br_neg h10,br_neg h11,br_neg h12,br_neg h13,br_neg h14,br_neg h15,br_neg h16,br_neg h17,br_neg h18,br_neg h19,br_neg h20,br_neg h21,br_neg h22,br_pos h23]
  exact Ev.pure _
 by_cases h24:a.2.2.2.2.2.2<a.2.2.2.1.2.2
 ·refine⟨false,Ev.of_eq 1 ?_,fun e=>by cases e⟩
  simp only[Z37Eq]
  refine Ev.bind hv ?_
  simp only[br_f,br_neg h0,br_neg h1,nbr_pos h2,nbr_pos h3,br_neg h4,br_neg h5,br_neg h6,br_neg h7,br_neg h8,br_neg h9,br_neg h10,br_neg h11,br_neg h12,br_neg h13,br_neg h14,br_neg h15,br_neg h16,br_neg h17,br_neg h18,br_neg h19,br_neg h20,br_neg h21,br_neg h22,br_neg h23,br_pos h24]
  exact Ev.pure _
 have s1:=sizeEv (x:=a.1.1) (by omega)
 have s2:=sizeEv (x:=a.1.2) (by omega)
 by_cases g:(if a.1.1<0 then -a.1.1 else a.1.1)+(a.2.2.1+a.2.1.1+a.2.1.2.1+a.2.1.2.2)*4394000≤439400000
 ·refine⟨decide ((if a.1.2<0 then -a.1.2 else a.1.2)+(a.2.2.1+a.2.1.1+a.2.1.2.1+a.2.1.2.2)*4394000≤439400000),Ev.of_eq 1 ?_,fun e=>?_⟩
  ·simp only[Z37Eq]
   refine Ev.bind hv ?_
   simp only[br_f,br_neg h0,br_neg h1,nbr_pos h2,nbr_pos h3,br_neg h4,br_neg h5,br_neg h6,br_neg h7,br_neg h8,br_neg h9,br_neg h10,br_neg h11,br_neg h12,br_neg h13,br_neg h14,br_neg h15,br_neg h16,br_neg h17,br_neg h18,br_neg h19,br_neg h20,br_neg h21,br_neg h22,br_neg h23,br_neg h24]
   refine Ev.bind s1 ?_
   rw[show (fun n=>_)=fun n=>_ from rfl]
   have b1:-1000000000≤(if a.1.1<0 then -a.1.1 else a.1.1)∧(if a.1.1<0 then -a.1.1 else a.1.1)≤1000000000:=by split <;> omega
   have b2:-1000000000≤(if a.1.2<0 then -a.1.2 else a.1.2)∧(if a.1.2<0 then -a.1.2 else a.1.2)≤1000000000:=by split <;> omega
   generalize (if a.1.1<0 then -a.1.1 else a.1.1)=u1 at b1 g ⊢
   generalize (if a.1.2<0 then -a.1.2 else a.1.2)=u2 at b2 s2 ⊢
   simp (disch:=omega) only [w64,br_pos g]
   refine Ev.bind s2 ?_
   simp (disch:=omega) only [w64]
   exact Ev.pure _
  ·simp only[decide_eq_true_eq] at e
   unfold ArmR Bb
   split at g <;> split at e <;> omega
 ·refine⟨false,Ev.of_eq 1 ?_,fun e=>by cases e⟩
  simp only[Z37Eq]
  refine Ev.bind hv ?_
  simp only[br_f,br_neg h0,br_neg h1,nbr_pos h2,nbr_pos h3,br_neg h4,br_neg h5,br_neg h6,br_neg h7,br_neg h8,br_neg h9,br_neg h10,br_neg h11,br_neg h12,br_neg h13,br_neg h14,br_neg h15,br_neg h16,br_neg h17,br_neg h18,br_neg h19,br_neg h20,br_neg h21,br_neg h22,br_neg h23,br_neg h24]
  refine Ev.bind s1 ?_
  have b1:-1000000000≤(if a.1.1<0 then -a.1.1 else a.1.1)∧(if a.1.1<0 then -a.1.1 else a.1.1)≤1000000000:=by split <;> omega
  generalize (if a.1.1<0 then -a.1.1 else a.1.1)=u1 at b1 g ⊢
  simp (disch:=omega) only [w64,br_neg g]
  exact Ev.pure _
end Go.Rm
namespace Go.Rm
open Go Go.Am Go.Proofs Go.Hu Go.Mo
def Near (a:ArmT):Prop:=(8*a.1.1+39546000*(a.2.1.1+a.2.1.2.1+a.2.1.2.2+15)≤3515200000∧-(8*a.1.1)+39546000*(a.2.1.1+a.2.1.2.1+a.2.1.2.2+15)≤3515200000) ∧
  (8*a.1.2+39546000*(a.2.1.1+a.2.1.2.1+a.2.1.2.2+15)≤3515200000∧-(8*a.1.2)+39546000*(a.2.1.1+a.2.1.2.1+a.2.1.2.2+15)≤3515200000)
theorem ArmR.ok {a:ArmT} (h:ArmR a) (n:Near a):ArmOk a:=by
 obtain⟨h1,h2,h3,h4,h5⟩:=h
 exact⟨h1,h2,h3,h4,n,h5⟩
theorem max_wrap {x:Int} (h:-439400000≤x∧x≤439400000):(if decide (x<IntKind.i64.wrap (0-x))=true then IntKind.i64.wrap (0-x) else x)=(if x<0 then -x else x):=by
 have e:IntKind.i64.wrap (0-x) = -x:=by rw[w64 (by omega) (by omega)];omega
 rw[e]
 by_cases h1:x<0
 ·rw[if_pos h1,if_pos (by rw[decide_eq_true_eq];omega)]
 ·rw[if_neg h1,if_neg (by rw[decide_eq_true_eq];omega)]
theorem near_pick {R:Type} {a:ArmT} (ha:ArmR a) {F:R} {N:Nat→Option R} {P:R→Prop} (hF:P F) (hN:Near a→∃ y,Ev N y∧P y) :
  ∃ y,Ev (fun n=>br (decide ((3515200000:Int)<(IntKind.i64.wrap ((IntKind.i64.wrap ((8:Int)*(if decide (a.1.1<(IntKind.i64.wrap (0-a.1.1)))=true then (IntKind.i64.wrap (0-a.1.1)) else a.1.1)))+(IntKind.i64.wrap ((39546000:Int)*(IntKind.i64.wrap ((IntKind.i64.wrap ((IntKind.i64.wrap (a.2.1.1+a.2.1.2.1))+a.2.1.2.2))+(15:Int))))))))) (some F)
   (br (decide ((3515200000:Int)<(IntKind.i64.wrap ((IntKind.i64.wrap ((8:Int)*(if decide (a.1.2<(IntKind.i64.wrap (0-a.1.2)))=true then (IntKind.i64.wrap (0-a.1.2)) else a.1.2)))+(IntKind.i64.wrap ((39546000:Int)*(IntKind.i64.wrap ((IntKind.i64.wrap ((IntKind.i64.wrap (a.2.1.1+a.2.1.2.1))+a.2.1.2.2))+(15:Int))))))))) (some F) (N n))) y∧P y:=by
 obtain⟨h1,h2,h3,h4,h5⟩:=ha
 unfold Bb at h1
 have e1:=max_wrap (x:=a.1.1) (by omega)
 have e2:=max_wrap (x:=a.1.2) (by omega)
 rw[e1,e2]
 have b1:0≤(if a.1.1<0 then -a.1.1 else a.1.1)∧(if a.1.1<0 then -a.1.1 else a.1.1)≤439400000:=by split <;> omega
 have b2:0≤(if a.1.2<0 then -a.1.2 else a.1.2)∧(if a.1.2<0 then -a.1.2 else a.1.2)≤439400000:=by split <;> omega
 have u1:∀ x:Int,0≤x∧x≤439400000→IntKind.i64.wrap (IntKind.i64.wrap (8*x)+IntKind.i64.wrap (39546000*IntKind.i64.wrap (IntKind.i64.wrap (IntKind.i64.wrap (a.2.1.1+a.2.1.2.1)+a.2.1.2.2)+15)))=8*x+39546000*(a.2.1.1+a.2.1.2.1+a.2.1.2.2+15):=fun x hx=>by
  rw[w64 (n:=a.2.1.1+a.2.1.2.1) (by omega) (by omega),w64 (n:=a.2.1.1+a.2.1.2.1+a.2.1.2.2) (by omega) (by omega),w64 (n:=a.2.1.1+a.2.1.2.1+a.2.1.2.2+15) (by omega) (by omega),w64 (n:=8*x) (by omega) (by omega),w64 (n:=39546000*(a.2.1.1+a.2.1.2.1+a.2.1.2.2+15)) (by omega) (by omega),w64 (by omega) (by omega)]
 rw[u1 _ b1,u1 _ b2]
 by_cases g1:(3515200000:Int)<8*(if a.1.1<0 then -a.1.1 else a.1.1)+39546000*(a.2.1.1+a.2.1.2.1+a.2.1.2.2+15)
 ·simp only[br_pos g1];exact⟨_,Ev.pure _,hF⟩
 by_cases g2:(3515200000:Int)<8*(if a.1.2<0 then -a.1.2 else a.1.2)+39546000*(a.2.1.1+a.2.1.2.1+a.2.1.2.2+15)
 ·simp only[br_neg g1,br_pos g2];exact⟨_,Ev.pure _,hF⟩
 simp only[br_neg g1,br_neg g2]
 refine hN ?_
 unfold Near
 split at g1 <;> split at g2 <;> omega
end Go.Rm
namespace Go.Rm
open Go Go.Am Go.Proofs Go.Hu Go.Mo
def PL (c:CellT) (q:Prop) (y:((Unit×Unit)×((CellT×Unit)×Unit)) ⊕ ((Bool×Unit)×Unit)):Prop:=(y=.inl (((),()),((c,()),()))∧q)∨y=.inr ((false,()),())
theorem cellL2 (c:CellT):∃ y,Ev (fun n=>Z29L2 n (((),((0:Int),())),((c,()),()))) y∧PL c (ArmOk c.1.1∧ArmOk c.1.2) y:=by
 have e2:Ev (fun n=>Z29L2 n (((),((2:Int),())),((c,()),()))) (.inl (((),()),((c,()),()))):=by
  refine Ev.of_eq 1 ?_
  simp (disch:=omega) only [Z29L2Eq,br_neg]
  exact Ev.pure _
 have e1:∃ y,Ev (fun n=>Z29L2 n (((),((1:Int),())),((c,()),()))) y∧PL c (ArmOk c.1.2) y:=by
  obtain⟨v,hv,hvt⟩:=armEv c.1.2
  cases v with
  | false =>
   refine⟨_,Ev.of_eq 1 ?_,.inr rfl⟩
   simp (disch:=omega) only [Z29L2Eq,br_pos,br_T]
   exact Ev.bind hv (Ev.pure _)
  | true =>
   cases hq:inLim c.1.2 c.2.1.2 with
   | false =>
    have hl:=rlimEv c.1.2 c.2.1.2
    rw[hq] at hl
    refine⟨_,Ev.of_eq 1 ?_,.inr rfl⟩
    simp (disch:=omega) only [Z29L2Eq,br_pos,br_T]
    refine Ev.bind hv ?_
    simp only[Bool.not_true,br_f]
    exact Ev.bind hl (Ev.pure _)
   | true =>
    have hl:=rlimEv c.1.2 c.2.1.2
    rw[hq] at hl
    obtain⟨y,e,hy⟩:=near_pick (hvt rfl) (F:=(.inr ((false,()),()):((Unit×Unit)×((CellT×Unit)×Unit)) ⊕ ((Bool×Unit)×Unit))) (N:=fun n=>Z29L2 n (((),((2:Int),())),((c,()),()))) (P:=PL c (ArmOk c.1.2)) (.inr rfl) fun hn=>⟨_,e2,.inl ⟨rfl,(hvt rfl).ok hn⟩⟩
    refine⟨y,Ev.of_eq 1 ?_,hy⟩
    simp (disch:=omega) only [Z29L2Eq,br_pos,br_T]
    refine Ev.bind hv ?_
    simp only[Bool.not_true,br_f]
    refine Ev.bind hl ?_
    have w2:IntKind.i64.wrap ((1:Int)+1)=2:=by rw[w64 (by omega) (by omega)];rfl
    simp only[Bool.not_true,br_f,w2]
    exact e
 obtain⟨y1,e1,hy1⟩:=e1
 obtain⟨v,hv,hvt⟩:=armEv c.1.1
 cases v with
 | false =>
  refine⟨_,Ev.of_eq 1 ?_,.inr rfl⟩
  simp (disch:=omega) only [Z29L2Eq,br_pos,br_neg,br_T]
  exact Ev.bind hv (Ev.pure _)
 | true =>
  cases hq:inLim c.1.1 c.2.1.1 with
  | false =>
   have hl:=rlimEv c.1.1 c.2.1.1
   rw[hq] at hl
   refine⟨_,Ev.of_eq 1 ?_,.inr rfl⟩
   simp (disch:=omega) only [Z29L2Eq,br_pos,br_neg,br_T]
   refine Ev.bind hv ?_
   simp only[Bool.not_true,br_f]
   exact Ev.bind hl (Ev.pure _)
  | true =>
   have hl:=rlimEv c.1.1 c.2.1.1
   rw[hq] at hl
   obtain⟨y,e,hy⟩:=near_pick (hvt rfl) (F:=(.inr ((false,()),()):((Unit×Unit)×((CellT×Unit)×Unit)) ⊕ ((Bool×Unit)×Unit))) (N:=fun n=>Z29L2 n (((),((1:Int),())),((c,()),()))) (P:=PL c (ArmOk c.1.1∧ArmOk c.1.2)) (.inr rfl) fun hn=>⟨y1,e1,by
    rcases hy1 with ⟨h1,h2⟩ | h1
    ·exact .inl ⟨h1,(hvt rfl).ok hn,h2⟩
    ·exact .inr h1⟩
   refine⟨y,Ev.of_eq 1 ?_,hy⟩
   simp (disch:=omega) only [Z29L2Eq,br_pos,br_neg,br_T]
   refine Ev.bind hv ?_
   simp only[Bool.not_true,br_f]
   refine Ev.bind hl ?_
   have w1:IntKind.i64.wrap ((0:Int)+1)=1:=by rw[w64 (by omega) (by omega)];rfl
   simp only[Bool.not_true,br_f,w1]
   exact e
def CLen (c:CellT):Prop:=c.2.2.1.length≤16∧c.2.2.2.2.2.2.2.2.2.1.length≤16∧c.2.2.2.1.length≤16∧c.2.2.2.2.1.length≤8∧c.2.2.2.2.2.1.length≤16
theorem cellEv (c:CellT) (hl:CLen c):∃ b,Ev (fun n=>Z29 n c) b∧(b=true→COk c):=by
 obtain⟨l1,l2,l3,l4,l5⟩:=hl
 have k1:¬ (16:Int)<((c.2.2.2.1.length:Nat):Int):=by omega
 have k2:¬ (8:Int)<((c.2.2.2.2.1.length:Nat):Int):=by omega
 have k3:¬ (16:Int)<((c.2.2.2.2.2.1.length:Nat):Int):=by omega
 obtain⟨y,e,hy⟩:=cellL2 c
 rcases hy with ⟨rfl,ha,hb⟩ | rfl
 rotate_left
 ·refine⟨false,Ev.of_eq 1 ?_,fun e=>by cases e⟩
  simp only[Z29Eq]
  exact Ev.bind e (Ev.pure _)
 -- the limits
 obtain⟨u1,h1⟩:=boundedTot c.2.2.2.2.2.2.2.1
 obtain⟨u2,h2⟩:=boundedTot c.2.2.2.2.2.2.2.2.1
 obtain⟨t,ht⟩:∃ t:Bool,Ev (fun n=>(Z38 n c.2.2.2.2.2.2.2.1).bind fun x=>br x ((Z38 n c.2.2.2.2.2.2.2.2.1).bind fun x=>br x (br (decide (c.2.2.2.2.2.2.2.2.1.1≤c.2.2.2.2.2.2.2.1.1)) (br (decide (c.2.2.2.2.2.2.2.2.1.2.1≤c.2.2.2.2.2.2.2.1.2.1)) (some ((((),((decide (c.2.2.2.2.2.2.2.2.1.2.2≤c.2.2.2.2.2.2.2.1.2.2)),())),((c,()),())):(Unit×(Bool×Unit))×((CellT×Unit)×Unit))) (some (((),(false,())),((c,()),())))) (some (((),(false,())),((c,()),())))) (some (((),(false,())),((c,()),())))) (some (((),(false,())),((c,()),())))) (((),(t,())),((c,()),())):=by
  cases u1 with
  | false=>exact⟨_,Ev.bind h1 (Ev.pure _)⟩
  | true =>
   cases u2 with
   | false=>exact⟨_,Ev.bind h1 (Ev.bind h2 (Ev.pure _))⟩
   | true =>
    by_cases g1:c.2.2.2.2.2.2.2.2.1.1≤c.2.2.2.2.2.2.2.1.1
    ·by_cases g2:c.2.2.2.2.2.2.2.2.1.2.1≤c.2.2.2.2.2.2.2.1.2.1
     ·refine⟨decide (c.2.2.2.2.2.2.2.2.1.2.2≤c.2.2.2.2.2.2.2.1.2.2),Ev.bind h1 (Ev.bind h2 ?_)⟩
      simp only[br_t,br_pos g1,br_pos g2];exact Ev.pure _
     ·refine⟨false,Ev.bind h1 (Ev.bind h2 ?_)⟩
      simp only[br_t,br_pos g1,br_neg g2];exact Ev.pure _
    ·refine⟨false,Ev.bind h1 (Ev.bind h2 ?_)⟩
     simp only[br_t,br_neg g1];exact Ev.pure _
 obtain⟨b1,f1,p1⟩:=polysEv c.2.2.1
 obtain⟨b2,f2,p2⟩:=polysEv c.2.2.2.2.2.2.2.2.2.1
 obtain⟨b3,f3,p3⟩:=placesEv c.2.2.2.1 l3
 obtain⟨b4,f4,p4⟩:=partsOkEv c.2.2.2.2.1 ((c.2.2.2.1.length:Nat):Int) l4
 obtain⟨b5,f5⟩:=unlikeTot c.2.2.2.2.2.1 ((c.2.2.2.1.length:Nat):Int) (by omega)
 have fa:=areasEv c (by omega)
 have start:∀ {res:Bool} ,Ev (fun n=>(Z39 n c.2.2.1).bind fun x=>br x ((Z40 n c).bind fun x=>(Z39 n x).bind fun x=>br x ((Z41 n c.2.2.2.1).bind fun x=>br x ((Z42 n c.2.2.2.2.1 ((c.2.2.2.1.length:Nat):Int)).bind fun x=>br x ((Z43 n c.2.2.2.2.2.1 ((c.2.2.2.1.length:Nat):Int)).bind fun x=>br x (br (decide ((0:Int)≤c.2.2.2.2.2.2.1)) (br (decide (c.2.2.2.2.2.2.1≤(100:Int))) (br t (br (decide ((0:Int)≤c.2.2.2.2.2.2.2.2.2.2.1)) (br (decide (c.2.2.2.2.2.2.2.2.2.2.1≤(20:Int))) (br (decide ((1:Int)≤c.2.2.2.2.2.2.2.2.2.2.2)) (some (decide (c.2.2.2.2.2.2.2.2.2.2.2≤(8:Int)))) (some false)) (some false)) (some false)) (some false)) (some false)) (some false)) (some false)) (some false)) (some false)) (some false)) (some false)) res→Ev (fun n=>Z29 n c) res:=fun hres=>by
  refine Ev.of_eq 1 ?_
  simp only[Z29Eq]
  refine Ev.bind e ?_
  simp only[br_neg k1,br_neg k2,br_neg k3]
  refine Ev.bind ht ?_
  exact hres
 cases b1 with
 | false=>exact⟨false,start (Ev.bind f1 (Ev.pure _)),fun e=>by cases e⟩
 | true =>
 cases b2 with
 | false=>exact⟨false,start (Ev.bind f1 (Ev.bind fa (Ev.bind f2 (Ev.pure _)))),fun e=>by cases e⟩
 | true =>
 cases b3 with
 | false=>exact⟨false,start (Ev.bind f1 (Ev.bind fa (Ev.bind f2 (Ev.bind f3 (Ev.pure _))))),fun e=>by cases e⟩
 | true =>
 cases b4 with
 | false=>exact⟨false,start (Ev.bind f1 (Ev.bind fa (Ev.bind f2 (Ev.bind f3 (Ev.bind f4 (Ev.pure _)))))),fun e=>by cases e⟩
 | true =>
 cases b5 with
 | false=>exact⟨false,start (Ev.bind f1 (Ev.bind fa (Ev.bind f2 (Ev.bind f3 (Ev.bind f4 (Ev.bind f5 (Ev.pure _))))))),fun e=>by cases e⟩
 | true =>
  have hok:COk c:=⟨ha,hb,l1,fun p hp=>⟨((p1 rfl).2 p hp).1.2,((p1 rfl).2 p hp).2⟩,l4,p4 rfl,l3,p3 rfl⟩
  have fin:∀ (u1 u2 u3 u4 u5 u6 u7:Bool),∃ b,br u1 (br u2 (br u3 (br u4 (br u5 (br u6 (some u7) (some false)) (some false)) (some false)) (some false)) (some false)) (some false)=some b:=by
   intro u1 u2 u3 u4 u5 u6 u7
   cases u1 <;> cases u2 <;> cases u3 <;> cases u4 <;> cases u5 <;> cases u6 <;> exact⟨_,rfl⟩
  obtain⟨b,hbb⟩:=fin (decide ((0:Int)≤c.2.2.2.2.2.2.1)) (decide (c.2.2.2.2.2.2.1≤(100:Int))) t (decide ((0:Int)≤c.2.2.2.2.2.2.2.2.2.2.1)) (decide (c.2.2.2.2.2.2.2.2.2.2.1≤(20:Int))) (decide ((1:Int)≤c.2.2.2.2.2.2.2.2.2.2.2)) (decide (c.2.2.2.2.2.2.2.2.2.2.2≤(8:Int)))
  exact⟨b,start (Ev.bind f1 (Ev.bind fa (Ev.bind f2 (Ev.bind f3 (Ev.bind f4 (Ev.bind f5 (Ev.const hbb))))))),fun _=>hok⟩
end Go.Rm
namespace Go.Rm
open Go Go.Am Go.Proofs Go.Hu Go.Mo
abbrev CW:=(CellT×Unit)×((Mo.StateT×Unit)×Unit)
theorem placedL15 (c:CellT) (w:Mo.StateT) (hl:w.2.2.length≤8) (i:Nat) (hi:i<w.2.2.length):∀ (k j:Nat),j+k=i →
  ∃ y,Ev (fun n=>Z44L15 n (((),((),(((i:Nat):Int),(((j:Nat):Int),())))),((c,()),((w,()),())))) y∧(y=.inl (((),((),(((i:Nat):Int),()))),((c,()),((w,()),())))∨y=.inr ((false,()),())):=by
 intro k
 induction k with
 | zero =>
  intro j h
  refine⟨_,Ev.of_eq 1 ?_,.inl rfl⟩
  simp (disch:=omega) only [Z44L15Eq,br_neg]
  exact Ev.pure _
 | succ k ih =>
  intro j h
  obtain⟨y,e,hy⟩:=ih (j+1) (by omega)
  have g1:w.2.2[j]?=some w.2.2[j]:=List.getElem?_eq_getElem (by omega)
  have g2:w.2.2[i]?=some w.2.2[i]:=List.getElem?_eq_getElem hi
  by_cases h0:(0:Int)≤w.2.2[i]
  ·by_cases hb:w.2.2[i]=w.2.2[j]
   ·refine⟨_,Ev.of_eq 1 ?_,.inr rfl⟩
    simp (disch:=omega) only [Z44L15Eq,br_pos,Int.toNat_natCast,g1,g2,Option.bind_some,br_pos h0,br_pos hb]
    exact Ev.pure _
   ·refine⟨y,Ev.of_eq 1 ?_,hy⟩
    simp (disch:=omega) only [Z44L15Eq,br_pos,Int.toNat_natCast,g1,g2,Option.bind_some,br_pos h0,br_neg hb,wr1]
    exact e
  ·refine⟨y,Ev.of_eq 1 ?_,hy⟩
   simp (disch:=omega) only [Z44L15Eq,br_pos,Int.toNat_natCast,g1,g2,Option.bind_some,br_neg h0,wr1]
   exact e
theorem placedL10 (c:CellT) (w:Mo.StateT) (hl:w.2.2.length≤8):∀ (r:List Int) (i:Nat),w.2.2.drop i=r→i≤w.2.2.length →
  ∃ y,Ev (fun n=>Z44L10 n (((),((),(((i:Nat):Int),()))),((c,()),((w,()),())))) y∧((y=.inl ((),())∧∀ k∈r,-1≤k∧k<(c.2.2.2.1.length:Int))∨y=.inr ((false,()),())):=by
 intro r
 induction r with
 | nil =>
  intro i h hi
  have:=gdrop_nil h
  refine⟨_,Ev.of_eq 1 ?_,.inl ⟨rfl,fun k hk=>by cases hk⟩⟩
  simp (disch:=omega) only [Z44L10Eq,br_neg]
  exact Ev.pure _
 | cons x r ih =>
  intro i h hi
  obtain⟨g1,g2,g3⟩:=gdrop h
  obtain⟨y,e,hy⟩:=ih (i+1) g2 (by omega)
  obtain⟨z,ez,hz⟩:=placedL15 c w hl i g3 i 0 (by omega)
  by_cases h1:x < -1
  ·refine⟨_,Ev.of_eq 1 ?_,.inr rfl⟩
   simp (disch:=omega) only [Z44L10Eq,br_pos,Int.toNat_natCast,g1,Option.bind_some,br_pos h1]
   exact Ev.pure _
  by_cases h2:((c.2.2.2.1.length:Nat):Int)≤x
  ·refine⟨_,Ev.of_eq 1 ?_,.inr rfl⟩
   simp (disch:=omega) only [Z44L10Eq,br_pos,Int.toNat_natCast,g1,Option.bind_some,br_neg h1,br_pos h2]
   exact Ev.pure _
  rcases hz with rfl | rfl
  ·refine⟨y,Ev.of_eq 1 ?_,?_⟩
   ·simp (disch:=omega) only [Z44L10Eq,br_pos,Int.toNat_natCast,g1,Option.bind_some,br_neg h1,br_neg h2]
    refine Ev.bind ez ?_
    simp (disch:=omega) only [wr1]
    exact e
   ·rcases hy with ⟨h3,h4⟩ | h3
    ·exact .inl ⟨h3,fun k hk=>by
      rcases List.mem_cons.1 hk with rfl | hk
      ·omega
      ·exact h4 k hk⟩
    ·exact .inr h3
  ·refine⟨_,Ev.of_eq 1 ?_,.inr rfl⟩
   simp (disch:=omega) only [Z44L10Eq,br_pos,Int.toNat_natCast,g1,Option.bind_some,br_neg h1,br_neg h2]
   exact Ev.bind ez (Ev.pure _)
def HB (c:CellT) (h:Int):Prop:=-1≤h∧h<(c.2.2.2.2.1.length:Int)
theorem held_pick {R:Type} {c:CellT} {w:Mo.StateT} (hwl:w.2.2.length=c.2.2.2.2.1.length) {h:Int} {F:R} {N:Nat→Option R} {P:R→Prop} (hF:P F) (hN:HB c h→∃ y,Ev N y∧P y) :
  ∃ y,Ev (fun n=>br (decide (h<(-1:Int))) (some F) (br (decide (((c.2.2.2.2.1.length:Nat):Int)≤h)) (some F) (br (decide ((0:Int)≤h)) (br (decide (0≤h)) ((w.2.2[h.toNat]?).bind fun e=>br (!decide (e=(-1:Int))) (some F) (N n)) none) (N n)))) y∧P y:=by
 by_cases h1:h < -1
 ·simp only[br_pos h1];exact⟨_,Ev.pure _,hF⟩
 by_cases h2:((c.2.2.2.2.1.length:Nat):Int)≤h
 ·simp only[br_neg h1,br_pos h2];exact⟨_,Ev.pure _,hF⟩
 by_cases h3:0≤h
 ·have g:w.2.2[h.toNat]?=some w.2.2[h.toNat]:=List.getElem?_eq_getElem (by omega)
  by_cases h4:w.2.2[h.toNat] = -1
  ·simp only[br_neg h1,br_neg h2,br_pos h3,g,Option.bind_some,nbr_pos h4]
   exact hN ⟨by omega,by omega⟩
  ·simp only[br_neg h1,br_neg h2,br_pos h3,g,Option.bind_some,nbr_neg h4]
   exact⟨_,Ev.pure _,hF⟩
 ·simp only[br_neg h1,br_neg h2,br_neg h3]
  exact hN ⟨by omega,by omega⟩
theorem placedL4 (c:CellT) (w:Mo.StateT) (hwl:w.2.2.length=c.2.2.2.2.1.length):∃ y,Ev (fun n=>Z44L4 n (((),((),((0:Int),()))),((c,()),((w,()),())))) y∧((y=.inl (((),((),())),((c,()),((w,()),())))∧HB c w.2.1.1∧HB c w.2.1.2)∨y=.inr ((false,()),())):=by
 have e2:Ev (fun n=>Z44L4 n (((),((),((2:Int),()))),((c,()),((w,()),())))) (.inl (((),((),())),((c,()),((w,()),())))):=by
  refine Ev.of_eq 1 ?_
  simp (disch:=omega) only [Z44L4Eq,br_neg]
  exact Ev.pure _
 have w1:IntKind.i64.wrap ((0:Int)+1)=1:=by rw[w64 (by omega) (by omega)];rfl
 have w2:IntKind.i64.wrap ((1:Int)+1)=2:=by rw[w64 (by omega) (by omega)];rfl
 obtain⟨y1,e1,hy1⟩:=held_pick (w:=w) hwl (h:=w.2.1.2) (F:=(.inr ((false,()),()):((Unit×(Unit×Unit))×CW) ⊕ ((Bool×Unit)×Unit))) (N:=fun n=>Z44L4 n (((),((),((2:Int),()))),((c,()),((w,()),())))) (P:=fun y=>(y=.inl (((),((),())),((c,()),((w,()),())))∧HB c w.2.1.2)∨y=.inr ((false,()),())) (.inr rfl) fun h=>⟨_,e2,.inl ⟨rfl,h⟩⟩
 have e1':Ev (fun n=>Z44L4 n (((),((),((1:Int),()))),((c,()),((w,()),())))) y1:=by
  refine Ev.of_eq 1 ?_
  have t1:(1:Int)<2:=by omega
  have t2:(1:Int)=1:=rfl
  simp only[Z44L4Eq,br_pos t1,br_pos t2,w2]
  exact e1
 obtain⟨y0,e0,hy0⟩:=held_pick (w:=w) hwl (h:=w.2.1.1) (F:=(.inr ((false,()),()):((Unit×(Unit×Unit))×CW) ⊕ ((Bool×Unit)×Unit))) (N:=fun n=>Z44L4 n (((),((),((1:Int),()))),((c,()),((w,()),())))) (P:=fun y=>(y=.inl (((),((),())),((c,()),((w,()),())))∧HB c w.2.1.1∧HB c w.2.1.2)∨y=.inr ((false,()),())) (.inr rfl) fun h=>⟨y1,e1',by
  rcases hy1 with ⟨k1,k2⟩ | k1
  ·exact .inl ⟨k1,h,k2⟩
  ·exact .inr k1⟩
 refine⟨y0,Ev.of_eq 1 ?_,hy0⟩
 have t1:(0:Int)<2:=by omega
 have t2:¬ (0:Int)=1:=by omega
 have t3:(0:Int)=0:=rfl
 simp only[Z44L4Eq,br_pos t1,br_neg t2,br_pos t3,w1]
 exact e0
theorem placedEv (c:CellT) (w:Mo.StateT) (hl:w.2.2.length≤8):∃ b,Ev (fun n=>Z44 n c w) b∧(b=true→w.2.2.length=c.2.2.2.2.1.length∧(HB c w.2.1.1∧HB c w.2.1.2)∧∀ k∈w.2.2,-1≤k∧k<(c.2.2.2.1.length:Int)):=by
 by_cases hwl:w.2.2.length=c.2.2.2.2.1.length
 rotate_left
 ·have h1:¬ ((w.2.2.length:Nat):Int)=((c.2.2.2.2.1.length:Nat):Int):=by omega
  refine⟨false,Ev.of_eq 1 ?_,fun e=>by cases e⟩
  simp only[Z44Eq,nbr_neg h1]
  exact Ev.pure _
 have h1:((w.2.2.length:Nat):Int)=((c.2.2.2.2.1.length:Nat):Int):=by omega
 obtain⟨y,e,hy⟩:=placedL4 c w hwl
 obtain⟨z,ez,hz⟩:=placedL10 c w hl w.2.2 0 rfl (Nat.zero_le _)
 have tail:∃ b,Ev (fun n=>(Z44L4 n (((),((),((0:Int),()))),((c,()),((w,()),())))).bind fun l=>(match l with | .inl y=>(Z44L10 n (((),((),((0:Int),()))),y.2)).bind fun l=>(match l with | .inl y=>some true | .inr y=>some y.1.1) | .inr y=>some y.1.1)) b∧(b=true→w.2.2.length=c.2.2.2.2.1.length∧(HB c w.2.1.1∧HB c w.2.1.2)∧∀ k∈w.2.2,-1≤k∧k<(c.2.2.2.1.length:Int)):=by
  rcases hy with ⟨rfl,h2⟩ | rfl
  ·rcases hz with ⟨rfl,h3⟩ | rfl
   ·exact⟨true,Ev.bind e (Ev.bind ez (Ev.pure _)),fun _=>⟨hwl,h2,h3⟩⟩
   ·exact⟨false,Ev.bind e (Ev.bind ez (Ev.pure _)),fun e=>by cases e⟩
  ·exact⟨false,Ev.bind e (Ev.pure _),fun e=>by cases e⟩
 by_cases h2:0≤w.2.1.1
 ·by_cases h3:w.2.1.1=w.2.1.2
  ·refine⟨false,Ev.of_eq 1 ?_,fun e=>by cases e⟩
   simp only[Z44Eq,nbr_pos h1,br_pos h2,br_pos h3]
   exact Ev.pure _
  ·obtain⟨b,hb,hbt⟩:=tail
   refine⟨b,Ev.of_eq 1 ?_,hbt⟩
   simp only[Z44Eq,nbr_pos h1,br_pos h2,br_neg h3]
   exact hb
 ·obtain⟨b,hb,hbt⟩:=tail
  refine⟨b,Ev.of_eq 1 ?_,hbt⟩
  simp only[Z44Eq,nbr_pos h1,br_neg h2]
  exact hb
end Go.Rm
namespace Go.Rm
open Go Go.Am Go.Proofs Go.Hu Go.Mo
section
variable {c:CellT} {w:Mo.StateT} (hc:COk c) (hw:WOk c w)
include hc hw
theorem rrestL:∀ (r:List Int) (i:Nat) (out:List BodyT),w.2.2.drop i=r→i≤w.2.2.length→out.length≤1000+i →
  Ev (fun n=>Z45L18 n (((),((),(out,(((i:Nat):Int),())))),((c,()),((w,()),())))) (((),(out ++ resting c i r,())),((c,()),())):=by
 have hwl:=hw.wlen
 have hpl:=hc.partl
 intro r
 induction r with
 | nil =>
  intro i out h hi ho'
  have:=gdrop_nil h
  have hlen:¬ (((i:Nat):Int)<((c.2.2.2.2.1.length:Nat):Int)):=by omega
  refine Ev.of_eq 1 ?_
  simp only[Z45L18Eq,br_neg hlen]
  exact (Ev.pure _).congr (by simp[resting])
 | cons k r ih =>
  intro i out h hi ho'
  obtain⟨g1,g2,g3⟩:=gdrop h
  obtain⟨k1,k2⟩:=hw.whr k (List.mem_of_getElem? g1)
  by_cases hk:0≤k
  ·have gp:c.2.2.2.2.1[i]?=some c.2.2.2.2.1[i]:=List.getElem?_eq_getElem (by omega)
   have gq:c.2.2.2.1[k.toNat]?=some c.2.2.2.1[k.toNat]:=List.getElem?_eq_getElem (by omega)
   obtain⟨p1,p2⟩:=hc.part _ (List.mem_of_getElem? gp)
   obtain⟨q1,q2⟩:=hc.place _ (List.mem_of_getElem? gq)
   have e1:=get_part gp
   have e2:plcOf c k=c.2.2.2.1[k.toNat]:=by unfold plcOf;rw[gq];rfl
   have e:=ih (i+1) (out ++ [((3:Int),(((i:Nat):Int),((0:Int),outlAt c.2.2.2.2.1[i] (c.2.2.2.1[k.toNat]).2.1 (c.2.2.2.1[k.toNat]).2.2)))]) g2 (by omega) (by simp;omega)
   have hcap:(out.length + [((3:Int),(((i:Nat):Int),((0:Int),outlAt c.2.2.2.2.1[i] (c.2.2.2.1[k.toNat]).2.1 (c.2.2.2.1[k.toNat]).2.2)))].length)*48≤140737488355328:=by simp only[List.length_cons,List.length_nil];omega
   refine Ev.of_eq 1 ?_
   simp (disch:=omega) only [Z45L18Eq,br_pos,Int.toNat_natCast,g1,gp,gq,Option.bind_some]
   refine Ev.bind (Ev.bind (laidEv q1 q2 (by omega) p2) (Ev.pure _)) ?_
   simp (disch:=omega) only [wr1]
   refine e.congr ?_
   simp[resting,hk,e1,e2]
  ·have e:=ih (i+1) out g2 (by omega) (by omega)
   refine Ev.of_eq 1 ?_
   simp (disch:=omega) only [Z45L18Eq,br_pos,br_neg,Int.toNat_natCast,g1,Option.bind_some,wr1]
   refine e.congr ?_
   simp[resting,hk]
theorem rfixL:∀ (r:List (List Pt)) (i:Nat) (out:List BodyT),c.2.2.1.drop i=r→i≤c.2.2.1.length→out.length≤10000+i →
  Ev (fun n=>Z45L24 n (((),(out,(((i:Nat):Int),()))),((c,()),()))) ((out ++ fixed i r,()),()):=by
 have hfl:=hc.fixl
 intro r
 induction r with
 | nil =>
  intro i out h hi ho'
  have:=gdrop_nil h
  refine Ev.of_eq 1 ?_
  simp (disch:=omega) only [Z45L24Eq,br_neg]
  exact (Ev.pure _).congr (by simp[fixed])
 | cons k r ih =>
  intro i out h hi ho'
  obtain⟨g1,g2,g3⟩:=gdrop h
  have hcap:(out.length + [((4:Int),(((i:Nat):Int),((0:Int),k)))].length)*48≤140737488355328:=by simp only[List.length_cons,List.length_nil];omega
  refine Ev.of_eq 1 ?_
  simp (disch:=omega) only [Z45L24Eq,br_pos,Int.toNat_natCast,g1,Option.bind_some,br_pos hcap,wr1]
  refine (ih (i+1) _ g2 (by omega) (by simp;omega)).congr ?_
  simp[fixed]
end
set_option maxRecDepth 20000 in
set_option maxHeartbeats 2000000 in
theorem rbodiesEv {c:CellT} {w:Mo.StateT} (hc:COk c) (hw:WOk c w):Ev (fun n=>Z45 n c w) (bodies c w):=by
 have q0:=hw.q0 hc
 have q1:=hw.q1 hc
 have tail:∀ (out:List BodyT),out.length≤100→out=arms6 c w ++ (held c c.1.1 w.1.1 0 w.2.1.1 ++ held c c.1.2 w.1.2 1 w.2.1.2) →
   Ev (fun n=>(Z45L18 n (((),((),(out,((0:Int),())))),((c,()),((w,()),())))).bind fun l598=>(Z45L24 n (((),(l598.1.2.1,((0:Int),()))),l598.2)).bind fun l600=>some l600.1.1) (bodies c w):=fun out hl e=>by
  have hwl:=hw.wlen
  have hpl:=hc.partl
  have hr:=resting_len c w.2.2 0
  refine Ev.bind (rrestL hc hw w.2.2 0 out rfl (Nat.zero_le _) (by omega)) ?_
  refine Ev.bind (rfixL hc hw c.2.2.1 0 (out ++ resting c 0 w.2.2) rfl (Nat.zero_le _) (by rw[List.length_append];omega)) ?_
  exact (Ev.pure _).congr (by rw[e];simp[bodies])
 refine Ev.of_eq 1 ?_
 simp only[Z45Eq]
 refine Ev.bind (rlinksEv hc.arm0 q0) ?_
 simp (disch:=omega) only [List.length_append,List.length_cons,List.length_nil,w64,br_T,br_pos]
 refine Ev.bind (rlinksEv hc.arm1 q1) ?_
 by_cases h0:0≤w.2.1.1 <;> by_cases h1:0≤w.2.1.2
 ·obtain⟨p,g1,g2,g3,g4⟩:=heldOk hc hw 0 c.1.1 w.1.1 hc.arm0 q0 (h:=w.2.1.1) (by have:=hw.held0;omega)
  obtain⟨p',k1,k2,k3,k4⟩:=heldOk hc hw 1 c.1.2 w.1.2 hc.arm1 q1 (h:=w.2.1.2) (by have:=hw.held1;omega)
  simp (disch:=omega) only [br_pos,br_neg,g1,k1,Option.bind_some]
  refine Ev.bind (Ev.bind (rjptsEv hc.arm0 q0) (Ev.bind (rdirsEv c.1.1 q0) (Ev.bind g4 (Ev.bind (rjptsEv hc.arm1 q1) (Ev.bind (rdirsEv c.1.2 q1) (Ev.bind k4 (Ev.pure _))))))) ?_
  exact tail _ (by simp) (by rw[held_pos (by omega),held_pos (by omega),g2,k2];rfl)
 ·obtain⟨p,g1,g2,g3,g4⟩:=heldOk hc hw 0 c.1.1 w.1.1 hc.arm0 q0 (h:=w.2.1.1) (by have:=hw.held0;omega)
  simp (disch:=omega) only [br_pos,br_neg,g1,Option.bind_some]
  refine Ev.bind (Ev.bind (rjptsEv hc.arm0 q0) (Ev.bind (rdirsEv c.1.1 q0) (Ev.bind g4 (Ev.pure _)))) ?_
  exact tail _ (by simp) (by rw[held_pos (by omega),held_neg (by omega),g2];rfl)
 ·obtain⟨p',k1,k2,k3,k4⟩:=heldOk hc hw 1 c.1.2 w.1.2 hc.arm1 q1 (h:=w.2.1.2) (by have:=hw.held1;omega)
  simp (disch:=omega) only [br_pos,br_neg,k1,Option.bind_some]
  refine Ev.bind (Ev.bind (rjptsEv hc.arm1 q1) (Ev.bind (rdirsEv c.1.2 q1) (Ev.bind k4 (Ev.pure _)))) ?_
  exact tail _ (by simp) (by rw[held_neg (by omega),held_pos (by omega),k2];rfl)
 ·simp (disch:=omega) only [br_neg,Option.bind_some]
  exact tail _ (by simp) (by rw[held_neg (by omega),held_neg (by omega)];rfl)
end Go.Rm
namespace Go.Rm
open Go Go.Am Go.Proofs Go.Hu Go.Mo
theorem may14Tot (x:Pt):Tot fun n=>Z46 n x:=Tot.of_eq 1 (by
 simp only[Z46Eq]
 exact Tot.br (Tot.br (Tot.br (Tot.pure _) (Tot.pure _)) (Tot.pure _)) (Tot.pure _))
theorem right14L8 (L:List BodyT) (hL:L.length≤1000) (i:Nat) (hi:i<L.length) (hp:(L[i]).2.2.2.length≤1000):∀ (k j:Nat),j+k=(L[i]).2.2.2.length →
  ∃ y,Ev (fun n=>Z30L8 n ((L,(((i:Nat):Int),(((j:Nat):Int),()))),())) y∧(y=.inl ((L,(((i:Nat):Int),())),())∨y=.inr ((false,()),())):=by
 have g:L[i]?=some L[i]:=List.getElem?_eq_getElem hi
 intro k
 induction k with
 | zero =>
  intro j h
  have hn:¬ ((j:Nat):Int)<(((L[i]).2.2.2.length:Nat):Int):=by omega
  refine⟨_,Ev.of_eq 1 ?_,.inl rfl⟩
  simp (disch:=omega) only [Z30L8Eq,br_pos,Int.toNat_natCast,g,Option.bind_some,br_neg hn]
  exact Ev.pure _
 | succ k ih =>
  intro j h
  obtain⟨y,e,hy⟩:=ih (j+1) (by omega)
  have g2:(L[i]).2.2.2[j]?=some (L[i]).2.2.2[j]:=List.getElem?_eq_getElem (by omega)
  have hn:((j:Nat):Int)<(((L[i]).2.2.2.length:Nat):Int):=by omega
  obtain⟨v,hv⟩:=may14Tot (L[i]).2.2.2[j]
  cases v with
  | false =>
   refine⟨_,Ev.of_eq 1 ?_,.inr rfl⟩
   simp (disch:=omega) only [Z30L8Eq,br_pos,Int.toNat_natCast,g,g2,Option.bind_some,br_pos hn]
   exact Ev.bind hv (Ev.pure _)
  | true =>
   refine⟨y,Ev.of_eq 1 ?_,hy⟩
   simp (disch:=omega) only [Z30L8Eq,br_pos,Int.toNat_natCast,g,g2,Option.bind_some,br_pos hn,wr1]
   refine Ev.bind hv ?_
   simp only[Bool.not_true,br_f]
   exact e
theorem right14L5 (L:List BodyT) (hL:L.length≤1000) (hp:∀ b∈L,b.2.2.2.length≤1000):∀ (k i:Nat),i+k=L.length →
  ∃ y,Ev (fun n=>Z30L5 n ((L,(((i:Nat):Int),())),())) y∧(y=.inl ((),())∨y=.inr ((false,()),())):=by
 intro k
 induction k with
 | zero =>
  intro i h
  refine⟨_,Ev.of_eq 1 ?_,.inl rfl⟩
  simp (disch:=omega) only [Z30L5Eq,br_neg]
  exact Ev.pure _
 | succ k ih =>
  intro i h
  obtain⟨y,e,hy⟩:=ih (i+1) (by omega)
  have hi:i<L.length:=by omega
  obtain⟨z,ez,hz⟩:=right14L8 L hL i hi (hp _ (List.getElem_mem hi)) (L[i]).2.2.2.length 0 (by omega)
  rcases hz with rfl | rfl
  ·refine⟨y,Ev.of_eq 1 ?_,hy⟩
   simp (disch:=omega) only [Z30L5Eq,br_pos]
   refine Ev.bind ez ?_
   simp (disch:=omega) only [wr1]
   exact e
  ·refine⟨_,Ev.of_eq 1 ?_,.inr rfl⟩
   simp (disch:=omega) only [Z30L5Eq,br_pos]
   exact Ev.bind ez (Ev.pure _)
theorem stateEv {c:CellT} (hc:COk c) (w:Mo.StateT) (hl:w.2.2.length≤8):∃ b,Ev (fun n=>Z30 n c w) b∧(b=true→WOk c w):=by
 have f0:=rlimEv c.1.1 w.1.1
 have f1:=rlimEv c.1.2 w.1.2
 obtain⟨b,hb,hbt⟩:=placedEv c w hl
 cases h0:inLim c.1.1 w.1.1 with
 | false =>
  rw[h0] at f0
  refine⟨false,Ev.of_eq 1 ?_,fun e=>by cases e⟩
  simp only[Z30Eq]
  exact Ev.bind f0 (Ev.pure _)
 | true =>
 rw[h0] at f0
 cases h1:inLim c.1.2 w.1.2 with
 | false =>
  rw[h1] at f1
  refine⟨false,Ev.of_eq 1 ?_,fun e=>by cases e⟩
  simp only[Z30Eq]
  refine Ev.bind f0 ?_
  simp only[Bool.not_true,br_f]
  exact Ev.bind f1 (Ev.pure _)
 | true =>
 rw[h1] at f1
 cases b with
 | false =>
  refine⟨false,Ev.of_eq 1 ?_,fun e=>by cases e⟩
  simp only[Z30Eq]
  refine Ev.bind f0 ?_
  simp only[Bool.not_true,br_f]
  refine Ev.bind f1 ?_
  simp only[Bool.not_true,br_f]
  exact Ev.bind hb (Ev.pure _)
 | true =>
  obtain⟨k1,⟨k2,k3⟩,k4⟩:=hbt rfl
  have hw:WOk c w:=⟨h0,h1,k1,k4,k2,k3⟩
  have hbl:=bodies_len hc hw
  obtain⟨z,ez,hz⟩:=right14L5 (bodies c w) (by omega) (fun b hb=>by have:=(bodies_ok hc hw b hb).1;omega) (bodies c w).length 0 (by omega)
  have start:∀ {res:Bool},Ev (fun n=>(Z45 n c w).bind fun x=>(Z30L5 n ((x,((0:Int),())),())).bind fun l=>(match l with | .inl _=>some true | .inr y=>some y.1.1)) res→Ev (fun n=>Z30 n c w) res:=fun h=>by
   refine Ev.of_eq 1 ?_
   simp only[Z30Eq]
   refine Ev.bind f0 ?_
   simp only[Bool.not_true,br_f]
   refine Ev.bind f1 ?_
   simp only[Bool.not_true,br_f]
   refine Ev.bind hb ?_
   simp only[Bool.not_true,br_f]
   exact h
  rcases hz with rfl | rfl
  ·exact⟨true,start (Ev.bind (rbodiesEv hc hw) (Ev.bind ez (Ev.pure _))),fun _=>hw⟩
  ·exact⟨false,start (Ev.bind (rbodiesEv hc hw) (Ev.bind ez (Ev.pure _))),fun e=>by cases e⟩
theorem fitsEv (c:CellT) (w:Mo.StateT):∃ b,Ev (fun n=>Z10 n c w) b∧(b=true→COk c∧WOk c w):=by
 by_cases h1:(16:Int)<((c.2.2.1.length:Nat):Int)
 ·refine⟨false,Ev.of_eq 1 ?_,fun e=>by cases e⟩
  simp only[Z10Eq,br_pos h1];exact Ev.pure _
 by_cases h2:(16:Int)<((c.2.2.2.2.2.2.2.2.2.1.length:Nat):Int)
 ·refine⟨false,Ev.of_eq 1 ?_,fun e=>by cases e⟩
  simp only[Z10Eq,br_neg h1,br_pos h2];exact Ev.pure _
 by_cases h3:(16:Int)<((c.2.2.2.1.length:Nat):Int)
 ·refine⟨false,Ev.of_eq 1 ?_,fun e=>by cases e⟩
  simp only[Z10Eq,br_neg h1,br_neg h2,br_pos h3];exact Ev.pure _
 by_cases h4:(8:Int)<((c.2.2.2.2.1.length:Nat):Int)
 ·refine⟨false,Ev.of_eq 1 ?_,fun e=>by cases e⟩
  simp only[Z10Eq,br_neg h1,br_neg h2,br_neg h3,br_pos h4];exact Ev.pure _
 by_cases h5:(16:Int)<((c.2.2.2.2.2.1.length:Nat):Int)
 ·refine⟨false,Ev.of_eq 1 ?_,fun e=>by cases e⟩
  simp only[Z10Eq,br_neg h1,br_neg h2,br_neg h3,br_neg h4,br_pos h5];exact Ev.pure _
 by_cases h6:(8:Int)<((w.2.2.length:Nat):Int)
 ·refine⟨false,Ev.of_eq 1 ?_,fun e=>by cases e⟩
  simp only[Z10Eq,br_neg h1,br_neg h2,br_neg h3,br_neg h4,br_neg h5,br_pos h6];exact Ev.pure _
 obtain⟨b,hb,hbt⟩:=cellEv c ⟨by omega,by omega,by omega,by omega,by omega⟩
 cases b with
 | false =>
  refine⟨false,Ev.of_eq 1 ?_,fun e=>by cases e⟩
  simp only[Z10Eq,br_neg h1,br_neg h2,br_neg h3,br_neg h4,br_neg h5,br_neg h6]
  exact Ev.bind hb (Ev.pure _)
 | true =>
  have hc:=hbt rfl
  obtain⟨v,hv,hvt⟩:=stateEv hc w (by omega)
  refine⟨v,Ev.of_eq 1 ?_,fun e=>⟨hc,hvt e⟩⟩
  simp only[Z10Eq,br_neg h1,br_neg h2,br_neg h3,br_neg h4,br_neg h5,br_neg h6]
  refine Ev.bind hb ?_
  simp only[br_t]
  exact Ev.bind hv (Ev.pure _)
end Go.Rm
namespace Go.Rm
open Go Go.Am Go.Proofs Go.Hu Go.Mo
theorem apartEv {a b:BodyT} (h1:1≤a.1) (h2:a.1≤b.1) (h3:b.1≤4):Ev (fun n=>Z141 n a b) (bar a b):=by
 refine Ev.of_eq 1 ?_
 simp only[Z141Eq]
 unfold bar
 by_cases a1:a.1=1
 ·rw[if_pos a1]
  refine Ev.ite_pos a1 ?_
  by_cases b1:b.1=1
  ·rw[if_pos b1]
   refine Ev.ite_pos b1 ?_
   by_cases e:a.2.1=b.2.1
   ·refine Ev.nite_pos e ?_
    by_cases e2:a.2.2.1=0
    ·exact Ev.ite_pos e2 ((Ev.pure _).congr (by simp[e,e2]))
    ·exact Ev.ite_neg e2 ((Ev.pure _).congr (by simp[e,e2]))
   ·exact Ev.nite_neg e ((Ev.pure _).congr (by simp[e]))
  ·rw[if_neg b1]
   refine Ev.ite_neg b1 ?_
   by_cases b2:b.1=2
   ·rw[if_pos b2]
    refine Ev.ite_pos b2 ?_
    by_cases e:a.2.1=b.2.1
    ·exact Ev.nite_pos e ((Ev.pure _).congr (by simp[e]))
    ·exact Ev.nite_neg e ((Ev.pure _).congr (by simp[e]))
   ·rw[if_neg b2]
    refine Ev.ite_neg b2 ?_
    by_cases b3:b.1=3
    ·rw[if_pos b3]
     exact Ev.ite_pos b3 (Ev.pure _)
    ·rw[if_neg b3]
     exact Ev.ite_neg b3 ((Ev.pure _).congr (by symm;rw[decide_eq_true_eq];omega))
 ·rw[if_neg a1]
  refine Ev.ite_neg a1 ?_
  by_cases a2:a.1=2
  ·rw[if_pos a2]
   refine (Ev.pure _).congr ?_
   rw[decide_eq_true a2]
   symm
   simp only[Bool.or_eq_true,decide_eq_true_eq]
   omega
  ·rw[if_neg a2]
   exact (Ev.pure _).congr (decide_eq_false a2)
theorem rpairsL7 (L:List BodyT) (hL:L.length≤1000) {i:Nat} {a:BodyT} (hi:L[i]?=some a) (ha:1≤a.1):∀ (r:List BodyT) (j:Nat) (out:List PairT),L.drop j=r→j≤L.length→out.length≤1000000+j→(∀ b∈r,a.1≤b.1∧b.1≤4) →
  Ev (fun n=>Z113L7 n ((out,(L,((i:Int),((j:Int),())))),())) ((out ++ (r.filter (bar a)).map (fun b=>(a,b)),(L,((i:Int),()))),())
 | [],j,out,h,hj,ho,hr=>by
  have:=gdrop_nil h
  refine Ev.of_eq 1 ?_
  simp (disch:=omega) only [Z113L7Eq,br_neg]
  exact (Ev.pure _).congr (by simp)
 | b :: r,j,out,h,hj,ho,hr=>by
  obtain⟨g1,g2,g3⟩:=gdrop h
  have hb:=hr b (by simp)
  have ih:=fun out ho=>rpairsL7 L hL hi ha r (j+1) out g2 (by omega) ho fun b hb=>hr b (by simp[hb])
  have hcap:(out.length + [((a,b):PairT)].length)*96≤140737488355328:=by simp only[List.length_cons,List.length_nil];omega
  refine Ev.of_eq 1 ?_
  simp (disch:=omega) only [Z113L7Eq,br_pos,Int.toNat_natCast,hi,g1,Option.bind_some,wr1,br_pos hcap]
  refine Ev.bind (x:=(((if bar a b=true then out ++ [(a,b)] else out),(L,((i:Int),((j:Int),())))),())) ?_ ?_
  ·refine Ev.bind (apartEv ha hb.1 hb.2) ?_
   cases bar a b with
   | true=>exact Ev.br_true rfl (Ev.pure _)
   | false=>exact Ev.br_false rfl (Ev.pure _)
  ·simp (disch:=omega) only [wr1]
   refine (ih _ (by
    split
    ·simp only[List.length_append,List.length_cons,List.length_nil];omega
    ·omega)).congr ?_
   cases hb:bar a b <;> simp[hb]
theorem rpairsL4 (L:List BodyT) (hL:L.length≤1000):∀ (r:List BodyT) (i:Nat) (out:List PairT),L.drop i=r→i≤L.length→out.length≤1000*i→(∀ b∈r,1≤b.1∧b.1≤4)→r.Pairwise (fun a b=>a.1≤b.1) →
  Ev (fun n=>Z113L4 n ((out,(L,((i:Int),()))),())) ((out ++ pairsOf r,()),())
 | [],i,out,h,hi,ho,hk,hp=>by
  have:=gdrop_nil h
  refine Ev.of_eq 1 ?_
  simp (disch:=omega) only [Z113L4Eq,br_neg]
  exact (Ev.pure _).congr (by simp[pairsOf])
 | a :: r,i,out,h,hi,ho,hk,hp=>by
  obtain⟨g1,g2,g3⟩:=gdrop h
  obtain⟨p1,p2⟩:=List.pairwise_cons.1 hp
  have l7:=rpairsL7 L hL g1 (hk a (by simp)).1 r (i+1) out g2 (by omega) (by omega) fun b hb=>⟨p1 b hb,(hk b (by simp[hb])).2⟩
  have hlen:(r.filter (bar a)).length≤1000:=by
   have:=List.length_filter_le (bar a) r
   have:r.length≤L.length:=by rw[← g2,List.length_drop];omega
   omega
  have ih:=rpairsL4 L hL r (i+1) (out ++ (r.filter (bar a)).map (fun b=>(a,b))) g2 (by omega) (by simp only[List.length_append,List.length_map];omega) (fun b hb=>hk b (by simp[hb])) p2
  refine Ev.of_eq 1 ?_
  simp (disch:=omega) only [Z113L4Eq,br_pos,wr1]
  refine Ev.bind l7 ?_
  simp (disch:=omega) only [wr1]
  exact ih.congr (by simp[pairsOf])
theorem kind_resting (c:CellT):∀ (l:List Int) (i:Nat),∀ b∈resting c i l,b.1=3
 | [],i,b,h=>by simp[resting] at h
 | k :: l,i,b,h=>by
  unfold resting at h
  rcases List.mem_append.1 h with h | h
  ·split at h
   ·simp at h;subst h;rfl
   ·simp at h
  ·exact kind_resting c l (i+1) b h
theorem kind_fixed:∀ (l:List (List Pt)) (i:Nat),∀ b∈fixed i l,b.1=4
 | [],i,b,h=>by simp[fixed] at h
 | p :: l,i,b,h=>by
  unfold fixed at h
  rcases List.mem_cons.1 h with h | h
  ·subst h;rfl
  ·exact kind_fixed l (i+1) b h
theorem kind_held {c:CellT} {a:ArmT} {q:J3} {i h:Int}:∀ b∈held c a q i h,b.1=2:=by
 intro b hb
 unfold held at hb
 split at hb
 ·simp at hb
 ·simp at hb;subst hb;rfl
theorem kind_arms {c:CellT} {w:Mo.StateT}:∀ b∈arms6 c w,b.1=1:=by
 intro b hb
 simp only[arms6,lset,List.mem_append,List.mem_cons,List.not_mem_nil,or_false] at hb
 rcases hb with (h | h | h) | (h | h | h) <;> subst h <;> rfl
theorem pw_const {l:List BodyT} {k:Int} (h:∀ b∈l,b.1=k):l.Pairwise (fun a b=>a.1≤b.1):=by
 rw[List.pairwise_iff_forall_sublist]
 intro a b hs
 have h1:=h a (hs.subset (by simp))
 have h2:=h b (hs.subset (by simp))
 omega
theorem kinds (c:CellT) (w:Mo.StateT):(∀ b∈bodies c w,1≤b.1∧b.1≤4)∧(bodies c w).Pairwise (fun a b=>a.1≤b.1):=by
 have k1:=kind_arms (c:=c) (w:=w)
 have k2:=kind_held (c:=c) (a:=c.1.1) (q:=w.1.1) (i:=0) (h:=w.2.1.1)
 have k3:=kind_held (c:=c) (a:=c.1.2) (q:=w.1.2) (i:=1) (h:=w.2.1.2)
 have k4:=kind_resting c w.2.2 0
 have k5:=kind_fixed c.2.2.1 0
 unfold bodies
 refine⟨fun b hb=>?_,?_⟩
 ·simp only[List.mem_append] at hb
  rcases hb with h | h | h | h | h
  ·have:=k1 b h;omega
  ·have:=k2 b h;omega
  ·have:=k3 b h;omega
  ·have:=k4 b h;omega
  ·have:=k5 b h;omega
 ·simp only[List.pairwise_append,List.mem_append]
  refine⟨pw_const k1,⟨pw_const k2,⟨pw_const k3,⟨pw_const k4,pw_const k5,?_⟩,?_⟩,?_⟩,?_⟩
  ·intro a h1 b h2;have:=k4 a h1;have:=k5 b h2;omega
  ·intro a h1 b h2
   have:=k3 a h1
   rcases h2 with h | h
   ·have:=k4 b h;omega
   ·have:=k5 b h;omega
  ·intro a h1 b h2
   have:=k2 a h1
   rcases h2 with h | h | h
   ·have:=k3 b h;omega
   ·have:=k4 b h;omega
   ·have:=k5 b h;omega
  ·intro a h1 b h2
   have:=k1 a h1
   rcases h2 with h | h | h | h
   ·have:=k2 b h;omega
   ·have:=k3 b h;omega
   ·have:=k4 b h;omega
   ·have:=k5 b h;omega
theorem rpairsEv {c:CellT} {w:Mo.StateT} (hc:COk c) (hw:WOk c w):Ev (fun n=>Z113 n c w) (pairsOf (bodies c w)):=by
 obtain⟨h1,h2⟩:=kinds c w
 have hl:=bodies_len hc hw
 refine Ev.of_eq 1 ?_
 simp only[Z113Eq]
 refine Ev.bind (rbodiesEv hc hw) ?_
 refine Ev.bind (rpairsL4 (bodies c w) (by omega) (bodies c w) 0 [] rfl (Nat.zero_le _) (by simp) h1 h2) ?_
 exact (Ev.pure _).congr (by simp)
theorem rnextEv (c:CellT) (w:Mo.StateT) (m:MoveT) (h1:QBd w.1.1) (h2:QBd w.1.2):Ev (fun n=>Z62 n c w m) (next c w m):=by
 obtain⟨a,j,b⟩:=m
 refine Ev.of_eq 1 ?_
 unfold next
 by_cases a0:a=0
 ·subst a0
  simp (disch:=omega) only [Z62Eq,nbr_pos,br_pos,br_neg]
  refine Ev.bind (rstepEv c.1.1 h1 j b) ?_
  have e:(stepJ (armOf c 0) (conf w 0) j b)=stepJ c.1.1 w.1.1 j b:=rfl
  rw[e]
  cases hs:(stepJ c.1.1 w.1.1 j b).2 with
  | true=>exact Ev.br_false rfl ((Ev.pure _).congr (by rw[if_pos ⟨by omega,by omega,rfl⟩];rfl))
  | false=>exact Ev.br_true rfl ((Ev.pure _).congr (by rw[if_neg (fun h=>by cases h.2.2)]))
 ·by_cases a1:a=1
  ·subst a1
   simp (disch:=omega) only [Z62Eq,nbr_pos,nbr_neg,br_pos,br_neg]
   refine Ev.bind (rstepEv c.1.2 h2 j b) ?_
   have e:(stepJ (armOf c 1) (conf w 1) j b)=stepJ c.1.2 w.1.2 j b:=rfl
   rw[e]
   cases hs:(stepJ c.1.2 w.1.2 j b).2 with
   | true=>exact Ev.br_false rfl ((Ev.pure _).congr (by rw[if_pos ⟨by omega,by omega,rfl⟩];rfl))
   | false=>exact Ev.br_true rfl ((Ev.pure _).congr (by rw[if_neg (fun h=>by cases h.2.2)]))
  ·simp (disch:=omega) only [Z62Eq,nbr_neg]
   exact (Ev.pure _).congr (by rw[if_neg (fun h=>by have h1:0≤a:=h.1;have h2:a≤1:=h.2.1;omega)])
theorem rmovesEv (m:MoveT) (b:BodyT):Ev (fun n=>Z114 n m b) (Mo.moves m b):=by
 refine Ev.of_eq 1 ?_
 simp only[Z114Eq]
 unfold Mo.moves
 by_cases h1:b.2.1=m.1
 ·refine Ev.nite_pos h1 ?_
  by_cases h2:b.1=2
  ·exact Ev.ite_pos h2 ((Ev.pure _).congr (by simp[h1,h2]))
  ·refine Ev.ite_neg h2 ?_
   by_cases h3:b.1=1
   ·exact Ev.ite_pos h3 ((Ev.pure _).congr (by simp[h1,h3]))
   ·exact Ev.ite_neg h3 ((Ev.pure _).congr (by simp[h2,h3]))
 ·exact Ev.nite_neg h1 ((Ev.pure _).congr (by simp[h1]))
end Go.Rm
namespace Go.Rm
open Go Go.Am Go.Proofs Go.Hu Go.Mo
theorem sweptB_none {o:Pt} {b:BodyT}:∀ {r:List BodyT},r.any (fun x=>alike x b)=false→sweptB o b r=b
 | [],_=>rfl
 | x :: r,h=>by
  rw[List.any_cons,Bool.or_eq_false_iff] at h
  unfold sweptB
  rw[if_neg (by rw[h.1];simp)]
  exact sweptB_none h.2
abbrev RB0:(Int×(Int×Int))×(List Pt×Unit):=(((0:Int),((0:Int),(0:Int))),([],()))
theorem rsweptL4 {o:Pt} (ho:Mid o) (L:List BodyT) (hL:L.length≤1000) (hb:∀ x∈L,BOk x) {b:BodyT} (hbb:BOk b):∀ (r:List BodyT) (i:Nat),L.drop i=r→i≤L.length →
  Ev (fun n=>Z115L4 n (((),((),((),(L,((i:Int),()))))),((),((),((),((),((b,()),(RB0,((o,()),())))))))))
   (if r.any (fun x=>alike x b)=true then .inr (((),()),((),((),((),((),((),((sweptB o b r,()),()))))))) else .inl (((),((),())),((),((),((),((),((b,()),(RB0,()))))))))
 | [],i,h,hi=>by
  have:=gdrop_nil h
  refine Ev.of_eq 1 ?_
  simp (disch:=omega) only [Z115L4Eq,br_neg]
  exact (Ev.pure _).congr (by simp)
 | x :: r,i,h,hi=>by
  obtain⟨g1,g2,g3⟩:=gdrop h
  have ih:=rsweptL4 ho L hL hb hbb r (i+1) g2 (by omega)
  have sw:=sweptEv ho (by have:=hbb.1;omega) hbb.2 (hb x (List.mem_of_getElem? g1)).2
  refine Ev.of_eq 1 ?_
  simp (disch:=omega) only [Z115L4Eq,br_pos,Int.toNat_natCast,g1,Option.bind_some,wr1]
  by_cases h1:x.1=b.1
  ·refine Ev.ite_pos h1 ?_
   by_cases h2:x.2.1=b.2.1
   ·refine Ev.ite_pos h2 ?_
    by_cases h3:x.2.2.1=b.2.2.1
    ·refine Ev.ite_pos h3 ?_
     refine Ev.bind sw ?_
     have e:alike x b=true:=by unfold alike;simp[h1,h2,h3]
     exact (Ev.pure _).congr (by
      have e2:sweptB o b (x :: r)=(b.1,(b.2.1,(b.2.2.1,(region o b.2.2.2 x.2.2.2).1))):=by show (if alike x b=true then _ else _)=_;rw[e];rfl
      rw[e2,List.any_cons,e,Bool.true_or,if_pos rfl])
    ·exact Ev.ite_neg h3 (ih.congr (by
     have e:alike x b=false:=by unfold alike;simp[h3]
     have e2:sweptB o b (x :: r)=sweptB o b r:=by show (if alike x b=true then _ else _)=_;rw[e];rfl
     rw[e2,List.any_cons,e,Bool.false_or]))
   ·exact Ev.ite_neg h2 (ih.congr (by
     have e:alike x b=false:=by unfold alike;simp[h2]
     have e2:sweptB o b (x :: r)=sweptB o b r:=by show (if alike x b=true then _ else _)=_;rw[e];rfl
     rw[e2,List.any_cons,e,Bool.false_or]))
  ·exact Ev.ite_neg h1 (ih.congr (by
     have e:alike x b=false:=by unfold alike;simp[h1]
     have e2:sweptB o b (x :: r)=sweptB o b r:=by show (if alike x b=true then _ else _)=_;rw[e];rfl
     rw[e2,List.any_cons,e,Bool.false_or]))
theorem rsweptEv {c:CellT} {w v:Mo.StateT} (hc:COk c) (hw:WOk c w) (hv:WOk c v) {m:MoveT} (ha:m.1=0∨m.1=1) (hj:m.2.1=0∨m.2.1=1∨m.2.1=2) {b:BodyT} (hb:BOk b) :
  Ev (fun n=>Z115 n c w v m b) (sweptB (jpt (armOf c m.1) (conf w m.1) m.2.1) b (bodies c v)):=by
 have hl:=bodies_len hc hv
 have bo:=rbodiesEv hc hv
 have p0:=rjptsEv hc.arm0 (hc.arm0.qbd hw.lim0)
 have p1:=rjptsEv hc.arm1 (hc.arm1.qbd hw.lim1)
 have fin:∀ {o:Pt},Mid o→Ev (fun n=>(Z45 n c v).bind fun x775=>(Z115L4 n (((),((),((),(x775,((0:Int),()))))),((),((),((),((),((b,()),(RB0,((o,()),()))))))))).bind fun l776=>(match l776 with | .inl y777=>some y777.2.2.2.2.2.1.1 | .inr y778=>some y778.2.2.2.2.2.2.1.1)) (sweptB o b (bodies c v)):=fun {o} ho=>by
  refine Ev.bind bo ?_
  refine Ev.bind (rsweptL4 ho (bodies c v) (by omega) (bodies_ok hc hv) hb (bodies c v) 0 rfl (Nat.zero_le _)) ?_
  cases h:(bodies c v).any (fun x=>alike x b) with
  | true=>simp only[if_true];exact Ev.pure _
  | false=>simp only[Bool.false_eq_true,if_false];exact (Ev.pure _).congr (sweptB_none h).symm
 have md:=fun j=>jpt_mid hc hw m.1 j
 obtain⟨a,j,s⟩:=m
 simp only at ha hj md ⊢
 refine Ev.of_eq 1 ?_
 rcases ha with rfl | rfl
 ·have e:∀ j,jpt (armOf c 0) (conf w 0) j=jpt c.1.1 w.1.1 j:=fun j=>rfl
  simp only[e] at md ⊢
  rcases hj with rfl | rfl | rfl
  ·simp (disch:=omega) only [Z115Eq,br_pos,br_neg]
   exact Ev.bind p0 (fin (md 0))
  ·simp (disch:=omega) only [Z115Eq,br_pos,br_neg]
   exact Ev.bind p0 (fin (md 1))
  ·simp (disch:=omega) only [Z115Eq,br_pos,br_neg]
   exact Ev.bind p0 (fin (md 2))
 ·have e:∀ j,jpt (armOf c 1) (conf w 1) j=jpt c.1.2 w.1.2 j:=fun j=>rfl
  simp only[e] at md ⊢
  rcases hj with rfl | rfl | rfl
  ·simp (disch:=omega) only [Z115Eq,br_pos,br_neg]
   exact Ev.bind p1 (fin (md 0))
  ·simp (disch:=omega) only [Z115Eq,br_pos,br_neg]
   exact Ev.bind p1 (fin (md 1))
  ·simp (disch:=omega) only [Z115Eq,br_pos,br_neg]
   exact Ev.bind p1 (fin (md 2))
abbrev RZ (c:CellT) (w:Mo.StateT) (m:MoveT) (v:Mo.StateT):(CellT×Unit)×((Mo.StateT×Unit)×((MoveT×Unit)×((Mo.StateT×Unit)×Unit))):=((c,()),((w,()),((m,()),((v,()),()))))
theorem rspL7 {c:CellT} {w v:Mo.StateT} (hc:COk c) (hw:WOk c w) (hv:WOk c v) {m:MoveT} (ha:m.1=0∨m.1=1) (hj:m.2.1=0∨m.2.1=1∨m.2.1=2) (P:List PairT) (hP:P.length≤1000000) (hp:∀ p∈P,BOk p.1∧BOk p.2):∀ (r:List PairT) (i:Nat) (out:List PairT),P.drop i=r→i≤P.length→out.length≤i →
  Ev (fun n=>Z86L7 n (((),((),((),(out,((),(P,((i:Int),()))))))),RZ c w m v)) ((out ++ sweptP (jpt (armOf c m.1) (conf w m.1) m.2.1) m (bodies c v) r,()),())
 | [],i,out,h,hi,ho=>by
  have:=gdrop_nil h
  refine Ev.of_eq 1 ?_
  simp (disch:=omega) only [Z86L7Eq,br_neg]
  exact (Ev.pure _).congr (by simp[sweptP])
 | p :: r,i,out,h,hi,ho=>by
  obtain⟨g1,g2,g3⟩:=gdrop h
  obtain⟨b1,b2⟩:=hp p (List.mem_of_getElem? g1)
  have s1:=rsweptEv hc hw hv ha hj b1
  have s2:=rsweptEv hc hw hv ha hj b2
  have ih:=fun out ho=>rspL7 (v:=v) hc hw hv ha hj P hP hp r (i+1) out g2 (by omega) ho
  generalize jpt (armOf c m.1) (conf w m.1) m.2.1=o at *
  have hcap:∀ q:PairT,(out.length + [q].length)*96≤140737488355328:=fun q=>by simp only[List.length_cons,List.length_nil];omega
  refine Ev.of_eq 1 ?_
  simp (disch:=omega) only [Z86L7Eq,br_pos,Int.toNat_natCast,g1,Option.bind_some]
  have fin:∀ out':List PairT,out'.length≤i+1→out' ++ sweptP o m (bodies c v) r=out ++ sweptP o m (bodies c v) (p :: r) →
    Ev (fun n=>Z86L7 n (((),((),((),(out',((),(P,((IntKind.i64.wrap ((i:Int)+1)),()))))))),RZ c w m v)) ((out ++ sweptP o m (bodies c v) (p :: r),()),()):=fun out' h1 h2=>by
   simp (disch:=omega) only [wr1]
   exact (ih out' (by omega)).congr (by rw[h2])
  refine Ev.bind (x:=(((),((),((),(out ++ step1P o m (bodies c v) p,((),(P,((i:Int),()))))))),RZ c w m v)) ?_ ?_
  ·refine Ev.bind (rmovesEv m p.1) ?_
   refine Ev.bind (rmovesEv m p.2) ?_
   unfold step1P
   refine Ev.bind (x:=(((),((),((),((if Mo.moves m p.1=true∧Mo.moves m p.2=false then out ++ [(sweptB o p.1 (bodies c v),p.2)] else out),((),(P,((i:Int),(Mo.moves m p.1,(Mo.moves m p.2,()))))))))),RZ c w m v)) ?_ ?_
   ·cases Mo.moves m p.1 with
    | false=>exact Ev.br_false rfl (Ev.pure _)
    | true =>
     cases Mo.moves m p.2 with
     | true=>exact Ev.br_true rfl (Ev.br_false rfl (Ev.pure _))
     | false =>
      refine Ev.br_true rfl (Ev.br_true rfl (Ev.bind s1 ?_))
      exact Ev.ite_pos (hcap _) (Ev.pure _)
   ·cases Mo.moves m p.2 with
    | false =>
     refine Ev.br_false rfl ((Ev.pure _).congr ?_)
     cases Mo.moves m p.1 <;> simp
    | true =>
     cases Mo.moves m p.1 with
     | true=>exact Ev.br_true rfl (Ev.br_false rfl ((Ev.pure _).congr (by simp)))
     | false =>
      refine Ev.br_true rfl (Ev.br_true rfl ?_)
      simp (disch:=omega) only [br_pos,Int.toNat_natCast,g1,Option.bind_some]
      refine Ev.bind s2 ?_
      exact Ev.ite_pos (hcap _) ((Ev.pure _).congr (by simp))
  ·refine fin _ ?_ ?_
   ·unfold step1P;rw[List.length_append];split
    ·simp only[List.length_cons,List.length_nil];omega
    ·split
     ·simp only[List.length_cons,List.length_nil];omega
     ·simp only[List.length_nil];omega
   ·rw[List.append_assoc];rfl
theorem sweptPairs_none {c:CellT} {w:Mo.StateT} {m:MoveT} (h:(next c w m).2=false):sweptPairs c w m=[]:=by
 unfold sweptPairs;rw[if_neg (by rw[h];simp)]
theorem rsweptPairsEv {c:CellT} {w:Mo.StateT} (hc:COk c) (hw:WOk c w) (m:MoveT):Ev (fun n=>Z86 n c w m) (sweptPairs c w m):=by
 refine Ev.of_eq 1 ?_
 simp only[Z86Eq]
 refine Ev.bind (rnextEv c w m (hc.arm0.qbd hw.lim0) (hc.arm1.qbd hw.lim1)) ?_
 cases h:(next c w m).2 with
 | false=>exact Ev.br_true rfl ((Ev.pure _).congr (sweptPairs_none h).symm)
 | true =>
  refine Ev.br_false rfl ?_
  refine Ev.bind (rpairsEv hc hw) ?_
  obtain⟨⟨n1,n2⟩,n3,n4,n5⟩:=next_some h
  have hv:=hw.next h
  have hl:=bodies_len hc hw
  have hpl:=pairsOf_len (bodies c w)
  have hbo:=bodies_ok hc hw
  have hsq:(bodies c w).length*(bodies c w).length≤40*40:=Nat.mul_le_mul hl hl
  refine Ev.bind (rspL7 (v:=(next c w m).1) hc hw hv (by omega) (by omega) (pairsOf (bodies c w)) (by omega) (fun p hp=>by
   obtain⟨q1,q2⟩:=mem_pairs hp
   exact⟨hbo _ q1,hbo _ q2⟩) (pairsOf (bodies c w)) 0 [] rfl (Nat.zero_le _) (Nat.zero_le _)) ?_
  refine (Ev.pure _).congr ?_
  unfold sweptPairs
  rw[if_pos h,List.nil_append]
end Go.Rm
namespace Go.Rm
open Go Go.Am Go.Proofs Go.Hu Go.Mo
def TotP {α:Type} (f:Nat→Option α) (P:α→Prop):Prop:=∃ x,Ev f x∧P x
theorem TotP.pure {α:Type} {P:α→Prop} {x:α} (h:P x):TotP (fun _=>some x) P:=⟨x,Ev.pure x,h⟩
theorem TotP.bind {α β:Type} {f:Nat→Option α} {g:Nat→α→Option β} {P:α→Prop} {Q:β→Prop} (h:TotP f P) (k:∀ x,P x→TotP (fun n=>g n x) Q):TotP (fun n=>(f n).bind (g n)) Q:=by
 obtain⟨x,h1,h2⟩:=h
 obtain⟨y,k1,k2⟩:=k x h2
 exact⟨y,Ev.bind h1 k1,k2⟩
theorem TotP.bindT {α β:Type} {f:Nat→Option α} {g:Nat→α→Option β} {Q:β→Prop} (h:Tot f) (k:∀ x,TotP (fun n=>g n x) Q):TotP (fun n=>(f n).bind (g n)) Q:=by
 obtain⟨x,h1⟩:=h
 obtain⟨y,k1,k2⟩:=k x
 exact⟨y,Ev.bind h1 k1,k2⟩
theorem TotP.br {α:Type} {b:Bool} {f g:Nat→Option α} {P:α→Prop} (h:TotP f P) (k:TotP g P):TotP (fun n=>br b (f n) (g n)) P:=by
 cases b
 ·exact k
 ·exact h
theorem TotP.of_eq {α:Type} {f:Nat→Option α} {P:α→Prop} (k:Nat) (h:TotP (fun n=>f (n+k)) P):TotP f P:=by
 obtain⟨x,h1,h2⟩:=h
 exact⟨x,Ev.of_eq k h1,h2⟩
theorem TotP.ev {α β:Type} {f:Nat→Option α} {g:Nat→α→Option β} {x:α} {Q:β→Prop} (h:Ev f x) (k:TotP (fun n=>g n x) Q):TotP (fun n=>(f n).bind (g n)) Q:=by
 obtain⟨y,k1,k2⟩:=k
 exact⟨y,Ev.bind h k1,k2⟩
theorem TotP.tot {α:Type} {f:Nat→Option α} {P:α→Prop} (h:TotP f P):Tot f:=⟨h.choose,h.choose_spec.1⟩
theorem between2Tot (a b c:Int):Tot fun n=>Z180 n a b c:=Tot.of_eq 1 (by
 simp only[Z180Eq]
 exact Tot.br (Tot.pure _) (Tot.pure _))
theorem on2Tot (a b c:Pt):Tot fun n=>Z163 n a b c:=Tot.of_eq 1 (by
 simp only[Z163Eq]
 exact Tot.bind (side2Tot a b c) fun x=>Tot.br (Tot.bind (between2Tot _ _ _) fun y=>Tot.br (Tot.bind (between2Tot _ _ _) fun z=>Tot.pure _) (Tot.pure _)) (Tot.pure _))
theorem cut2Tot (a b c d:Pt):Tot fun n=>Z146 n a b c d:=Tot.of_eq 1 (by
 simp only[Z146Eq]
 exact Tot.bind (on2Tot _ _ _) fun _=>Tot.br (Tot.pure _) (Tot.bind (on2Tot _ _ _) fun _=>Tot.br (Tot.pure _) (Tot.bind (on2Tot _ _ _) fun _=>Tot.br (Tot.pure _) (Tot.bind (on2Tot _ _ _) fun _=>Tot.br (Tot.pure _)
  (Tot.bind (side2Tot _ _ _) fun _=>Tot.bind (side2Tot _ _ _) fun _=>Tot.br (Tot.bind (side2Tot _ _ _) fun _=>Tot.bind (side2Tot _ _ _) fun _=>Tot.pure _) (Tot.pure _))))))
theorem hasL3 (p:List Pt) (hp:0<p.length) (hl:p.length<100000) (x:Pt):∀ (k i:Nat) (cnt:Int),i+k=p.length→Tot fun n=>Z147L3 n ((p,((),(cnt,((i:Int),())))),((x,()),()))
 | 0,i,cnt,h=>Tot.of_eq 1 (by
  simp (disch:=omega) only [Z147L3Eq,br_neg]
  exact Tot.pure _)
 | k+1,i,cnt,h=>by
  have a1:=atTot hp (i:=(i:Int)) (by omega)
  have a2:=atTot hp (i:=((i+1:Nat):Int)) (by omega)
  refine Tot.of_eq 1 ?_
  simp (disch:=omega) only [Z147L3Eq,br_pos,wr1]
  have key:∀ {A:Nat→Option (((List Pt×(Unit×(Int×(Int×Unit))))×((Pt×Unit)×Unit)) ⊕ ((Int×Unit)×Unit))} {g:Nat→_→Option (((Int×Unit)×Unit) ⊕ ((Int×Unit)×Unit))},
    TotP A (fun y=>(∃ cnt',y=.inl ((p,((),(cnt',((i:Int),())))),((x,()),())))∨∃ q,y=.inr q)→(∀ cnt',Tot fun n=>g n (.inl ((p,((),(cnt',((i:Int),())))),((x,()),()))))→(∀ q,Tot fun n=>g n (.inr q))→Tot fun n=>(A n).bind (g n):=fun {A g} hA h1 h2=>by
   obtain⟨y,hy,hc⟩:=hA
   rcases hc with ⟨cnt',rfl⟩ | ⟨q,rfl⟩
   ·obtain⟨z,hz⟩:=h1 cnt';exact⟨z,Ev.bind hy hz⟩
   ·obtain⟨z,hz⟩:=h2 q;exact⟨z,Ev.bind hy hz⟩
  refine key ?_ (fun cnt'=>?_) (fun q=>Tot.pure _)
  ·refine TotP.bindT a1 fun u=>TotP.bindT a2 fun v=>TotP.bindT (onTot u v x) fun b=>TotP.br (TotP.pure (.inr ⟨_,rfl⟩)) ?_
   refine TotP.bind (P:=fun j=>∃ cnt',j=((p,((),(cnt',((i:Int),((),((),())))))),((x,()),((u,()),((v,()),()))))) ?_ ?_
   ·exact TotP.br (TotP.br (TotP.bindT (crossTot u v x) fun c=>TotP.br (TotP.pure ⟨_,rfl⟩) (TotP.pure ⟨_,rfl⟩)) (TotP.pure ⟨_,rfl⟩)) (TotP.pure ⟨_,rfl⟩)
   ·rintro j ⟨cnt',rfl⟩
    exact TotP.br (TotP.br (TotP.bindT (crossTot _ _ _) fun c=>TotP.br (TotP.pure (.inl ⟨_,rfl⟩)) (TotP.pure (.inl ⟨_,rfl⟩))) (TotP.pure (.inl ⟨_,rfl⟩))) (TotP.pure (.inl ⟨_,rfl⟩))
  ·simp (disch:=omega) only [wr1]
   exact hasL3 p hp hl x k (i+1) cnt' (by omega)
theorem hasTot {p:List Pt} (hp:0<p.length) (hl:p.length<100000) (x:Pt):Tot fun n=>Z147 n p x:=Tot.of_eq 1 (by
 simp only[Z147Eq]
 refine Tot.bind (hasL3 p hp hl x p.length 0 0 (by omega)) fun y=>?_
 cases y with
 | inl y=>exact Tot.br (Tot.pure _) (Tot.pure _)
 | inr y=>exact Tot.pure _)
theorem rnxEv {l:List Pt} {i:Nat} (hi:i<l.length) (hl:l.length<100000):Ev (fun n=>Z145 n l (i:Int)) ((nx l i:Nat):Int):=by
 refine Ev.of_eq 1 ?_
 simp (disch:=omega) only [Z145Eq,br_neg,wr1]
 exact (Ev.pure _).congr (by unfold nx;rw[tm_nat])
theorem get_at {l:List Pt} {i:Nat} (hi:i<l.length):l[i]?=some (at_ l i):=by
 unfold at_
 rw[List.getD_eq_getElem?_getD,List.getElem?_eq_getElem hi];rfl
theorem showsTot {a b:List Pt} (ha:a.length<100000) (hb:b.length<100000) {i j:Nat} (hi:i<a.length) (hj:j<b.length) (kd:Int):Tot fun n=>Z119 n a b (kd,((i:Int),(j:Int))):=Tot.of_eq 1 (by
 have h1:=rnxEv hi ha
 have h2:=rnxEv hj hb
 have g1:=get_at hi
 have g2:=get_at hj
 have n1:=nx_lt (show 0<a.length by omega) i
 have n2:=nx_lt (show 0<b.length by omega) j
 have g3:=get_at n1
 have g4:=get_at n2
 simp (disch:=omega) only [Z119Eq,br_pos,Int.toNat_natCast,g1,g2,Option.bind_some]
 refine Tot.br ?_ (Tot.br (Tot.br (Tot.bind (hasTot (by omega) hb _) fun _=>Tot.pure _) (Tot.pure _)) (Tot.br (Tot.br (Tot.bind (hasTot (by omega) ha _) fun _=>Tot.pure _) (Tot.pure _)) (Tot.pure _)))
 obtain⟨y,hy⟩:=cut2Tot (at_ a i) (at_ a (nx a i)) (at_ b j) (at_ b (nx b j))
 refine⟨y,Ev.bind h1 ?_⟩
 refine Ev.ite_pos (by omega) ?_
 refine Ev.get (by rw[Int.toNat_natCast];exact g3) ?_
 refine Ev.bind h2 ?_
 refine Ev.ite_pos (by omega) ?_
 refine Ev.get (by rw[Int.toNat_natCast];exact g4) ?_
 exact Ev.bind hy (Ev.pure _))
theorem touchL8 {a b:List Pt} (ha:a.length<100000) (hb:b.length<100000) (kd:Int) (o:(Int×(Int×Int))×Unit) {i:Nat} (hi:i<a.length):∀ (k j:Nat),j+k=b.length →
  TotP (fun n=>Z89L8 n ((a,(b,((),(kd,((i:Int),((j:Int),())))))),(o,()))) (fun y=>y=.inl ((a,(b,((),(kd,((i:Int),()))))),(o,()))∨∃ q,y=.inr q)
 | 0,j,h=>by
  refine⟨_,Ev.of_eq 1 ?_,.inl rfl⟩
  simp (disch:=omega) only [Z89L8Eq,br_neg]
  exact Ev.pure _
 | k+1,j,h=>by
  obtain⟨y,hy,hc⟩:=touchL8 ha hb kd o hi k (j+1) (by omega)
  obtain⟨s,hs⟩:=showsTot ha hb hi (show j<b.length by omega) kd
  cases s with
  | true =>
   refine TotP.of_eq 1 ?_
   simp (disch:=omega) only [Z89L8Eq,br_pos,wr1]
   exact TotP.ev hs (TotP.pure (.inr ⟨_,rfl⟩))
  | false =>
   refine⟨y,Ev.of_eq 1 ?_,hc⟩
   simp (disch:=omega) only [Z89L8Eq,br_pos,wr1]
   exact Ev.bind hs (Ev.br_false rfl hy)
theorem touchL5 {a b:List Pt} (ha:a.length<100000) (hb:b.length<100000) (kd:Int) (o:(Int×(Int×Int))×Unit):∀ (k i:Nat),i+k=a.length →
  TotP (fun n=>Z89L5 n ((a,(b,((),(kd,((i:Int),()))))),(o,()))) (fun y=>y=.inl ((a,(b,((),(kd,())))),(o,()))∨∃ q,y=.inr q)
 | 0,i,h=>by
  refine⟨_,Ev.of_eq 1 ?_,.inl rfl⟩
  simp (disch:=omega) only [Z89L5Eq,br_neg]
  exact Ev.pure _
 | k+1,i,h=>by
  obtain⟨y,hy,hc⟩:=touchL5 ha hb kd o k (i+1) (by omega)
  obtain⟨s,hs,h8⟩:=touchL8 ha hb kd o (show i<a.length by omega) b.length 0 (by omega)
  rcases h8 with rfl | ⟨q,rfl⟩
  ·refine⟨y,Ev.of_eq 1 ?_,hc⟩
   simp (disch:=omega) only [Z89L5Eq,br_pos]
   refine Ev.bind hs ?_
   simp (disch:=omega) only [wr1]
   exact hy
  ·refine TotP.of_eq 1 ?_
   simp (disch:=omega) only [Z89L5Eq,br_pos]
   exact TotP.ev hs (TotP.pure (.inr ⟨_,rfl⟩))
theorem touchL2 {a b:List Pt} (ha:a.length<100000) (hb:b.length<100000) (o:(Int×(Int×Int))×Unit):∀ (k:Nat) (kd:Int),1≤kd→kd+k=4→Tot fun n=>Z89L2 n ((a,(b,((),(kd,())))),(o,()))
 | 0,kd,h0,h=>Tot.of_eq 1 (by
  simp (disch:=omega) only [Z89L2Eq,br_neg]
  exact Tot.pure _)
 | k+1,kd,h0,h=>by
  obtain⟨s,hs,h8⟩:=touchL5 ha hb kd o a.length 0 (by omega)
  obtain⟨y,hy⟩:=touchL2 ha hb o k (kd+1) (by omega) (by omega)
  rcases h8 with rfl | ⟨q,rfl⟩
  ·refine⟨y,Ev.of_eq 1 ?_⟩
   simp (disch:=omega) only [Z89L2Eq,br_pos]
   refine Ev.bind hs ?_
   simp (disch:=omega) only [w64]
   exact hy
  ·refine Tot.of_eq 1 ?_
   simp (disch:=omega) only [Z89L2Eq,br_pos]
   refine TotP.tot (P:=fun _=>True) (TotP.ev hs ?_)
   exact TotP.pure trivial
theorem touchTot {a b:List Pt} (ha:a.length<100000) (hb:b.length<100000):Tot fun n=>Z89 n a b:=Tot.of_eq 1 (by
 simp only[Z89Eq]
 refine Tot.bind (touchL2 ha hb _ 3 1 (by omega) (by omega)) fun y=>?_
 cases y <;> exact Tot.pure _)
theorem side2Ev {a b p:Pt} (ha:Bd a) (hb:Bd b) (hp:Bd p):Ev (fun n=>Z82 n a b p) (sgn (side a b p)):=by
 refine Ev.of_eq 2 ?_
 have h1:=mul_bd (a:=b.1-a.1) (b:=p.2-a.2) (by unfold Bd at *;omega) (by unfold Bd at *;omega)
 have h2:=mul_bd (a:=b.2-a.2) (b:=p.1-a.1) (by unfold Bd at *;omega) (by unfold Bd at *;omega)
 have q1:IntKind.i64.wrap (b.1-a.1)=b.1-a.1:=w64 (by unfold Bd at *;omega) (by unfold Bd at *;omega)
 have q2:IntKind.i64.wrap (p.2-a.2)=p.2-a.2:=w64 (by unfold Bd at *;omega) (by unfold Bd at *;omega)
 have q3:IntKind.i64.wrap (b.2-a.2)=b.2-a.2:=w64 (by unfold Bd at *;omega) (by unfold Bd at *;omega)
 have q4:IntKind.i64.wrap (p.1-a.1)=p.1-a.1:=w64 (by unfold Bd at *;omega) (by unfold Bd at *;omega)
 have e1:IntKind.i64.wrap ((b.1-a.1)*(p.2-a.2))=(b.1-a.1)*(p.2-a.2):=w64 (by omega) (by omega)
 have e2:IntKind.i64.wrap ((b.2-a.2)*(p.1-a.1))=(b.2-a.2)*(p.1-a.1):=w64 (by omega) (by omega)
 have e3:IntKind.i64.wrap ((b.1-a.1)*(p.2-a.2)-(b.2-a.2)*(p.1-a.1))=side a b p:=by rw[w64 (by omega) (by omega)];rfl
 simp only[Z82Eq,Z111Eq,q1,q2,q3,q4,e1,e2,e3,Option.bind_some]
 unfold sgn
 by_cases g1:0<side a b p
 ·simp only[br_pos g1,if_pos g1];exact Ev.pure _
 ·by_cases g2:side a b p<0
  ·simp only[br_neg g1,br_pos g2,if_neg g1,if_pos g2];exact Ev.pure _
  ·simp only[br_neg g1,br_neg g2,if_neg g1,if_neg g2];exact Ev.pure _
theorem sgn_m1 (x:Int):sgn x = -1↔x<0:=by
 unfold sgn
 split
 ·omega
 ·split <;> omega
theorem rbeyondL2 {a b:List Pt} (hla:a.length<100000) (hlb:b.length<100000) (ha:∀ x∈a,Bd x) (hb:∀ x∈b,Bd x) {i:Nat} (hi:i<a.length):∀ (r:List Pt) (j:Nat),b.drop j=r→j≤b.length →
  Ev (fun n=>Z118L2 n ((a,((i:Int),(b,((j:Int),())))),())) (if beyondB (at_ a i) (at_ a (nx a i)) r=true then .inl ((),()) else .inr ((false,()),()))
 | [],j,h,hj=>by
  have:=gdrop_nil h
  refine Ev.of_eq 1 ?_
  simp (disch:=omega) only [Z118L2Eq,br_neg]
  exact (Ev.pure _).congr (by simp[beyondB])
 | x :: r,j,h,hj=>by
  obtain⟨g1,g2,g3⟩:=gdrop h
  have n1:=nx_lt (show 0<a.length by omega) i
  have e1:=get_at hi
  have e2:=get_at n1
  have ih:=rbeyondL2 hla hlb ha hb hi r (j+1) g2 (by omega)
  have sd:=side2Ev (ha _ (List.mem_of_getElem? e1)) (ha _ (List.mem_of_getElem? e2)) (hb x (List.mem_of_getElem? g1))
  refine Ev.of_eq 1 ?_
  simp (disch:=omega) only [Z118L2Eq,br_pos,Int.toNat_natCast,g1,e1,Option.bind_some,wr1]
  refine Ev.bind (rnxEv hi hla) ?_
  refine Ev.ite_pos (by omega) ?_
  refine Ev.get (by rw[Int.toNat_natCast];exact e2) ?_
  refine Ev.bind sd ?_
  by_cases hs:side (at_ a i) (at_ a (nx a i)) x<0
  ·have q:beyondB (at_ a i) (at_ a (nx a i)) (x :: r)=beyondB (at_ a i) (at_ a (nx a i)) r:=by unfold beyondB;rw[List.all_cons,decide_eq_true hs,Bool.true_and]
   rw[q]
   exact Ev.nite_pos ((sgn_m1 _).2 hs) ih
  ·have q:beyondB (at_ a i) (at_ a (nx a i)) (x :: r)=false:=by unfold beyondB;rw[List.all_cons,decide_eq_false hs,Bool.false_and]
   rw[q]
   exact Ev.nite_neg (fun h=>hs ((sgn_m1 _).1 h)) ((Ev.pure _).congr (by simp))
theorem rbeyondEv {a b:List Pt} (hla:a.length<100000) (hlb:b.length<100000) (ha:∀ x∈a,Bd x) (hb:∀ x∈b,Bd x) {i:Nat} (hi:i<a.length):Ev (fun n=>Z118 n a (i:Int) b) (beyondB (at_ a i) (at_ a (nx a i)) b):=by
 refine Ev.of_eq 1 ?_
 simp only[Z118Eq]
 refine Ev.bind (rbeyondL2 hla hlb ha hb hi b 0 rfl (Nat.zero_le _)) ?_
 cases h:beyondB (at_ a i) (at_ a (nx a i)) b with
 | true=>simp only[if_true];exact Ev.pure _
 | false=>simp only[Bool.false_eq_true,if_false];exact Ev.pure _
theorem rapartL2 {a b:List Pt} (hla:a.length<100000) (hlb:b.length<100000) (ha:∀ x∈a,Bd x) (hb:∀ x∈b,Bd x) (o:(Int×Int)×Unit):∀ (k i:Nat),i+k=a.length →
  Ev (fun n=>Z88L2 n ((a,(b,((),((i:Int),())))),(o,()))) (match sepFrom a b k i with | some t=>.inr (((),(true,())),((((0:Int),(t:Int)),()),())) | none=>.inl ((a,(b,((),()))),(o,())))
 | 0,i,h=>by
  refine Ev.of_eq 1 ?_
  simp (disch:=omega) only [Z88L2Eq,br_neg]
  exact Ev.pure _
 | k+1,i,h=>by
  have ih:=rapartL2 hla hlb ha hb o k (i+1) (by omega)
  refine Ev.of_eq 1 ?_
  simp (disch:=omega) only [Z88L2Eq,br_pos,wr1]
  refine Ev.bind (rbeyondEv hla hlb ha hb (show i<a.length by omega)) ?_
  unfold sepFrom
  cases hq:beyondB (at_ a i) (at_ a (nx a i)) b with
  | true=>exact Ev.br_true rfl (Ev.pure _)
  | false=>exact Ev.br_false rfl ih
theorem rapartL7 {a b:List Pt} (hla:a.length<100000) (hlb:b.length<100000) (ha:∀ x∈a,Bd x) (hb:∀ x∈b,Bd x) (o:(Int×Int)×Unit):∀ (k i:Nat),i+k=b.length →
  Ev (fun n=>Z88L7 n ((a,(b,((),((i:Int),())))),(o,()))) (match sepFrom b a k i with | some t=>.inr (((),(true,())),((((1:Int),(t:Int)),()),())) | none=>.inl (((),()),(o,())))
 | 0,i,h=>by
  refine Ev.of_eq 1 ?_
  simp (disch:=omega) only [Z88L7Eq,br_neg]
  exact Ev.pure _
 | k+1,i,h=>by
  have ih:=rapartL7 hla hlb ha hb o k (i+1) (by omega)
  refine Ev.of_eq 1 ?_
  simp (disch:=omega) only [Z88L7Eq,br_pos,wr1]
  refine Ev.bind (rbeyondEv hlb hla hb ha (show i<b.length by omega)) ?_
  unfold sepFrom
  cases hq:beyondB (at_ b i) (at_ b (nx b i)) a with
  | true=>exact Ev.br_true rfl (Ev.pure _)
  | false=>exact Ev.br_false rfl ih
theorem rapartEv {a b:List Pt} (hla:a.length<100000) (hlb:b.length<100000) (ha:∀ x∈a,Bd x) (hb:∀ x∈b,Bd x):Ev (fun n=>Z88 n a b) (sepEdge a b):=by
 have l2:=rapartL2 hla hlb ha hb ((0,0),()) a.length 0 (by omega)
 have l7:=rapartL7 hla hlb ha hb ((0,0),()) b.length 0 (by omega)
 refine Ev.of_eq 1 ?_
 simp only[Z88Eq]
 refine Ev.bind l2 ?_
 unfold sepEdge
 cases h1:sepFrom a b a.length 0 with
 | some t=>exact Ev.pure _
 | none =>
  refine Ev.bind l7 ?_
  cases h2:sepFrom b a b.length 0 with
  | some t=>exact Ev.pure _
  | none=>exact Ev.pure _
end Go.Rm
namespace Go.Rm
open Go Go.Am Go.Proofs Go.Hu Go.Mo
abbrev ObT:=Int×(MoveT×(Int×(Int×(Int×(Int×(Int×Int))))))
abbrev O0:ObT:=((0:Int),(((0:Int),((0:Int),(0:Int))),((0:Int),((0:Int),((0:Int),((0:Int),((0:Int),(0:Int))))))))
abbrev ZZ (m:MoveT):Unit×(Unit×((MoveT×Unit)×((ObT×Unit)×Unit))):=((),((),((m,()),((O0,()),()))))
abbrev NR (o:ObT):(List (Int×Int)×(Unit×(Bool×Unit)))×(Unit×(Unit×(Unit×((ObT×Unit)×Unit)))):=(([],((),(false,()))),((),((),((),((o,()),())))))
def Small (x:List Pt):Prop:=x.length<100000∧∀ y∈x,Bd y
section
variable (m:MoveT) (P:List PairT) (nn:Int)
theorem lookL12 (A B:List (List Pt)) {i:Nat} {a:List Pt} (hi:A[i]?=some a) (ha:Small a) (hBl:B.length≤1000000) (hAl:A.length≤1000000) (hB:∀ b∈B,Small b):∀ (r:List (List Pt)) (k:Nat) (out:List (Int×Int)),B.drop k=r→k≤B.length→out.length+r.length≤2000000000000 →
  TotP (fun n=>Z63L12 n (((),((),(out,(P,(nn,(A,(B,((i:Int),((k:Int),()))))))))),ZZ m))
   (fun y=>((sepRun (r.map fun b=>(a,b)) out).2=true∧y=.inl (((),((),((sepRun (r.map fun b=>(a,b)) out).1,(P,(nn,(A,(B,((i:Int),())))))))),ZZ m))∨((sepRun (r.map fun b=>(a,b)) out).2=false∧∃ o,y=.inr (NR o)))
 | [],k,out,h,hk,ho=>by
  have:=gdrop_nil h
  refine⟨_,Ev.of_eq 1 ?_,.inl ⟨rfl,rfl⟩⟩
  simp (disch:=omega) only [Z63L12Eq,br_neg]
  exact Ev.pure _
 | b :: r,k,out,h,hk,ho=>by
  obtain⟨g1,g2,g3⟩:=gdrop h
  have hb:=hB b (List.mem_of_getElem? g1)
  have ap:=rapartEv ha.1 hb.1 ha.2 hb.2
  have tt:=touchTot ha.1 hb.1
  simp only[List.length_cons] at ho
  have hcap:∀ s:Int×Int,(out.length + [s].length)*16≤140737488355328:=fun s=>by simp only[List.length_cons,List.length_nil];omega
  refine TotP.of_eq 1 ?_
  simp (disch:=omega) only [Z63L12Eq,br_pos,Int.toNat_natCast,g1,hi,Option.bind_some,wr1]
  refine TotP.ev ap ?_
  simp only[List.map_cons,sepRun]
  cases hs:(sepEdge a b).2 with
  | false =>
   obtain⟨t,ht⟩:=tt
   refine⟨_,Ev.br_true rfl (Ev.bind ht (Ev.pure _)),.inr ⟨by simp,⟨_,rfl⟩⟩⟩
  | true =>
   obtain⟨y,h1,h2⟩:=lookL12 A B hi ha hBl hAl hB r (k+1) (out ++ [(sepEdge a b).1]) g2 (by omega) (by simp only[List.length_append,List.length_cons,List.length_nil];omega)
   refine⟨y,Ev.br_false rfl (Ev.ite_pos (hcap _) h1),?_⟩
   simpa using h2
theorem lookL9 (A B:List (List Pt)) (hBl:B.length≤1000000) (hAl:A.length≤1000000) (hA:∀ b∈A,Small b) (hB:∀ b∈B,Small b):∀ (r:List (List Pt)) (i:Nat) (out:List (Int×Int)),A.drop i=r→i≤A.length→out.length+(r.flatMap fun a=>B.map fun b=>(a,b)).length≤2000000000000 →
  TotP (fun n=>Z63L9 n (((),((),(out,(P,(nn,(A,(B,((i:Int),())))))))),ZZ m))
   (fun y=>((sepRun (r.flatMap fun a=>B.map fun b=>(a,b)) out).2=true∧y=.inl (((),((),((sepRun (r.flatMap fun a=>B.map fun b=>(a,b)) out).1,(P,(nn,()))))),ZZ m))∨((sepRun (r.flatMap fun a=>B.map fun b=>(a,b)) out).2=false∧∃ o,y=.inr (NR o)))
 | [],i,out,h,hk,ho=>by
  have:=gdrop_nil h
  refine⟨_,Ev.of_eq 1 ?_,.inl ⟨rfl,rfl⟩⟩
  simp (disch:=omega) only [Z63L9Eq,br_neg]
  exact Ev.pure _
 | a :: r,i,out,h,hk,ho=>by
  obtain⟨g1,g2,g3⟩:=gdrop h
  have ha:=hA a (List.mem_of_getElem? g1)
  simp only[List.flatMap_cons,List.length_append,List.length_map] at ho
  obtain⟨y,h1,h2⟩:=lookL12 m P nn A B g1 ha hBl hAl hB B 0 out rfl (Nat.zero_le _) (by omega)
  refine TotP.of_eq 1 ?_
  simp (disch:=omega) only [Z63L9Eq,br_pos]
  refine TotP.ev h1 ?_
  rw[List.flatMap_cons,sepRun_append]
  rcases h2 with ⟨h2,rfl⟩ | ⟨h2,o,rfl⟩
  ·rw[if_pos h2]
   simp (disch:=omega) only [wr1]
   refine lookL9 A B hBl hAl hA hB r (i+1) _ g2 (by omega) ?_
   have:=sepRun_len (B.map fun b=>(a,b)) out
   rw[List.length_map] at this
   omega
  ·rw[if_neg (by rw[h2];simp)]
   exact TotP.pure (.inr ⟨h2,o,rfl⟩)
end
theorem lookL4 (m:MoveT) (P:List PairT) (hP:P.length≤5000) (hp:∀ p∈P,Aok p.1∧Aok p.2):∀ (r:List PairT) (i:Nat) (out:List (Int×Int)),P.drop i=r→i≤P.length→out.length≤100000000*i →
  TotP (fun n=>Z63L4 n (((),((),(out,(P,((i:Int),()))))),ZZ m))
   (fun y=>((sepRun (r.flatMap checks) out).2=true∧y=.inl (((),((sepRun (r.flatMap checks) out).1,())),((),((),((),((O0,()),()))))))∨((sepRun (r.flatMap checks) out).2=false∧∃ o,y=.inr (NR o)))
 | [],i,out,h,hk,ho=>by
  have:=gdrop_nil h
  refine⟨_,Ev.of_eq 1 ?_,.inl ⟨rfl,rfl⟩⟩
  simp (disch:=omega) only [Z63L4Eq,br_neg]
  exact Ev.pure _
 | p :: r,i,out,h,hk,ho=>by
  obtain⟨g1,g2,g3⟩:=gdrop h
  obtain⟨p1,p2⟩:=hp p (List.mem_of_getElem? g1)
  have q1:=partsEv p.1.2.2.2 p1.1 p1.2
  have q2:=partsEv p.2.2.2.2 p2.1 p2.2
  obtain⟨d1,d2⟩:=decomp_part p1.1 p1.2
  obtain⟨d3,d4⟩:=decomp_part p2.1 p2.2
  have s1:=(decomp_small p1.1).2
  have s2:=(decomp_small p2.1).2
  have hlen:=checks_len p1 p2
  have hch:checks p=(decomp p.1.2.2.2).flatMap fun a=>(decomp p.2.2.2.2).map fun b=>(a,b):=rfl
  obtain⟨y,h1,h2⟩:=lookL9 m P (i:Int) (decomp p.1.2.2.2) (decomp p.2.2.2.2) (by omega) (by omega) (fun b hb=>⟨by have:=s1 b hb;omega,(d2 b hb).2⟩) (fun b hb=>⟨by have:=s2 b hb;omega,(d4 b hb).2⟩) (decomp p.1.2.2.2) 0 out rfl (Nat.zero_le _) (by rw[← hch];omega)
  rw[← hch] at h2
  refine TotP.of_eq 1 ?_
  simp (disch:=omega) only [Z63L4Eq,br_pos,Int.toNat_natCast,g1,Option.bind_some]
  refine TotP.ev q1 ?_
  refine TotP.ev q2 ?_
  refine TotP.ev h1 ?_
  rw[List.flatMap_cons,sepRun_append]
  rcases h2 with ⟨h2,rfl⟩ | ⟨h2,o,rfl⟩
  ·rw[if_pos h2]
   simp (disch:=omega) only [wr1]
   refine lookL4 m P hP hp r (i+1) _ g2 (by omega) ?_
   have:=sepRun_len (checks p) out
   omega
  ·rw[if_neg (by rw[h2];simp)]
   exact TotP.pure (.inr ⟨h2,o,rfl⟩)
theorem lookTot {c:CellT} {w:Mo.StateT} (hc:COk c) (hw:WOk c w) (m:MoveT):TotP (fun n=>Z63 n c w m) (fun y=>match sepAll ((sweptPairs c w m).flatMap checks) with | some s=>y=(s,(O0,true)) | none=>∃ o,y=([],(o,false))):=by
 obtain⟨h1,h2⟩:=sweptPairs_ok hc hw m
 refine TotP.of_eq 1 ?_
 simp only[Z63Eq]
 refine TotP.ev (rsweptPairsEv hc hw m) ?_
 obtain⟨y,e1,e2⟩:=lookL4 m (sweptPairs c w m) h1 h2 (sweptPairs c w m) 0 [] rfl (Nat.zero_le _) (Nat.zero_le _)
 refine TotP.ev e1 ?_
 have:=sepRun_all ((sweptPairs c w m).flatMap checks) []
 cases hs:sepAll ((sweptPairs c w m).flatMap checks) with
 | some s =>
  rw[hs] at this
  simp only[List.nil_append] at this
  rw[this] at e2
  rcases e2 with ⟨_,rfl⟩ | ⟨h,_⟩
  ·exact TotP.pure rfl
  ·cases h
 | none =>
  rw[hs] at this
  simp only at this
  rcases e2 with ⟨h,_⟩ | ⟨_,o,rfl⟩
  ·rw[this] at h;cases h
  ·exact TotP.pure ⟨o,rfl⟩
theorem rcertEv {c:CellT} {w:Mo.StateT} (hc:COk c) (hw:WOk c w) (m:MoveT):Ev (fun n=>Z48 n c w m) (cert c w m):=by
 obtain⟨y,e1,e2⟩:=lookTot hc hw m
 refine Ev.of_eq 1 ?_
 simp only[Z48Eq]
 refine Ev.bind (rnextEv c w m (hc.arm0.qbd hw.lim0) (hc.arm1.qbd hw.lim1)) ?_
 refine Ev.bind e1 ?_
 unfold cert
 cases h:(next c w m).2 with
 | false=>exact Ev.br_true rfl ((Ev.pure _).congr (by simp))
 | true =>
  refine Ev.br_false rfl ?_
  rw[if_pos rfl]
  cases hs:sepAll ((sweptPairs c w m).flatMap checks) with
  | some s =>
   rw[hs] at e2
   simp only at e2
   subst e2
   exact Ev.br_false rfl (Ev.pure _)
  | none =>
   rw[hs] at e2
   simp only at e2
   obtain⟨o,rfl⟩:=e2
   exact Ev.br_true rfl (Ev.pure _)
theorem rfreeEv {c:CellT} {w:Mo.StateT} (hc:COk c) (hw:WOk c w) (m:MoveT):Ev (fun n=>Z33 n c w m) (free c w m):=by
 refine Ev.of_eq 1 ?_
 simp only[Z33Eq]
 exact Ev.bind (rcertEv hc hw m) (Ev.pure _)
end Go.Rm
namespace Go.Rm
open Go Go.Am Go.Proofs Go.Hu Go.Mo
def mx (l x:Int):Int:=if decide (l<x)=true then x else l
def mn (h x:Int):Int:=if decide (x<h)=true then x else h
def armN (a:ArmT) (q:J3) (d u:Int):ArmT :=
 (a.1,(a.2.1,(a.2.2.1,((mx a.2.2.2.1.1 (q.1-d),(mx a.2.2.2.1.2.1 (q.2.1-d),mx a.2.2.2.1.2.2 (q.2.2-d))),(mn a.2.2.2.2.1 (q.1+u),(mn a.2.2.2.2.2.1 (q.2.1+u),mn a.2.2.2.2.2.2 (q.2.2+u)))))))
def narrow (c:CellT) (w:Mo.StateT) (x:Int):CellT :=
 ((armN c.1.1 w.1.1 (x.tmod 2) ((x.tdiv 2).tmod 2),armN c.1.2 w.1.2 (x.tmod 2) ((x.tdiv 2).tmod 2)),(w.1,c.2.2))
theorem mx_le {l x q:Int} (h1:l≤q) (h2:x≤q):l≤mx l x∧mx l x≤q:=by
 unfold mx;split <;> simp_all <;> omega
theorem mn_le {h x q:Int} (h1:q≤h) (h2:q≤x):q≤mn h x∧mn h x≤h:=by
 unfold mn;split <;> simp_all <;> omega
theorem armN_ok {a:ArmT} (h:ArmOk a) {q:J3} (hq:inLim a q=true) {d u:Int} (hd:0≤d) (hu:0≤u):ArmOk (armN a q d u)∧inLim (armN a q d u) q=true:=by
 have e:=hq
 unfold inLim at e
 simp only[decide_eq_true_eq] at e
 have h1:=h.low
 have h2:=h.high
 have a1:=mx_le (l:=a.2.2.2.1.1) (x:=q.1-d) (q:=q.1) (by omega) (by omega)
 have a2:=mx_le (l:=a.2.2.2.1.2.1) (x:=q.2.1-d) (q:=q.2.1) (by omega) (by omega)
 have a3:=mx_le (l:=a.2.2.2.1.2.2) (x:=q.2.2-d) (q:=q.2.2) (by omega) (by omega)
 have b1:=mn_le (h:=a.2.2.2.2.1) (x:=q.1+u) (q:=q.1) (by omega) (by omega)
 have b2:=mn_le (h:=a.2.2.2.2.2.1) (x:=q.2.1+u) (q:=q.2.1) (by omega) (by omega)
 have b3:=mn_le (h:=a.2.2.2.2.2.2) (x:=q.2.2+u) (q:=q.2.2) (by omega) (by omega)
 refine⟨⟨h.base,h.lens,h.wide,?_,h.near,?_⟩,?_⟩
 ·unfold armN;simp only;omega
 ·unfold armN;simp only;omega
 ·unfold inLim armN;simp only[decide_eq_true_eq];omega
theorem tm2 {x:Int} (h:0≤x):0≤x.tmod 2∧x.tmod 2≤1:=by
 rw[Int.tmod_eq_emod_of_nonneg h];omega
theorem td2 {x:Int} (h:0≤x):0≤x.tdiv 2∧x.tdiv 2≤x:=by
 rw[Int.tdiv_eq_ediv_of_nonneg h];omega
theorem narrow_ok {c:CellT} {w:Mo.StateT} (hc:COk c) (hw:WOk c w) {x:Int} (hx:0≤x):COk (narrow c w x)∧WOk (narrow c w x) w:=by
 have d:=(tm2 hx).1
 have u:=(tm2 (td2 hx).1).1
 obtain⟨a1,a2⟩:=armN_ok hc.arm0 hw.lim0 d u
 obtain⟨b1,b2⟩:=armN_ok hc.arm1 hw.lim1 d u
 exact⟨⟨a1,b1,hc.fixl,hc.fix,hc.partl,hc.part,hc.placel,hc.place⟩,⟨a2,b2,hw.wlen,hw.whr,hw.held0,hw.held1⟩⟩
theorem narrowEv {c:CellT} {w:Mo.StateT} (hc:COk c) (hw:WOk c w) {x:Int} (hx:0≤x∧x<256):Ev (fun n=>Z11 n c w x) (narrow c w x):=by
 have q0:=hc.arm0.q hw.lim0
 have q1:=hc.arm1.q hw.lim1
 have d:=tm2 hx.1
 have t:=td2 hx.1
 have u:=tm2 t.1
 have e1:IntKind.i64.wrap x=x:=w64 (by omega) (by omega)
 have e2:IntKind.i64.wrap (x.tdiv 2)=x.tdiv 2:=w64 (by omega) (by omega)
 refine Ev.of_eq 1 ?_
 generalize hd:x.tmod 2=D at d
 generalize ht:x.tdiv 2=T at t u e2
 generalize hu:T.tmod 2=U at u
 have em:∀ q:Int,-17≤q→q≤18→IntKind.i64.wrap (q-D)=q-D∧IntKind.i64.wrap (q+U)=q+U:=fun q h1 h2=>⟨w64 (by omega) (by omega),w64 (by omega) (by omega)⟩
 simp only[Z11Eq,e1,hd,ht,e2,hu,(em _ q0.1.1 q0.1.2).1,(em _ q0.1.1 q0.1.2).2,(em _ q0.2.1.1 q0.2.1.2).1,(em _ q0.2.1.1 q0.2.1.2).2,(em _ q0.2.2.1 q0.2.2.2).1,(em _ q0.2.2.1 q0.2.2.2).2,
  (em _ q1.1.1 q1.1.2).1,(em _ q1.1.1 q1.1.2).2,(em _ q1.2.1.1 q1.2.1.2).1,(em _ q1.2.1.1 q1.2.1.2).2,(em _ q1.2.2.1 q1.2.2.2).1,(em _ q1.2.2.1 q1.2.2.2).2]
 refine (Ev.pure _).congr ?_
 unfold narrow armN mx mn
 rw[hd,ht,hu]
end Go.Rm
namespace Go.Mo
open Go.Hu
def regionR (o:Pt) (a b:List Pt):List Pt×Bool:=if a.length≠b.length then ([],false) else if 12<a.length then ([],false) else refRes (points o a b)
theorem regionR_eq (o:Pt) (a b:List Pt):region o a b=regionR o a b:=by unfold region regionR;rw[refRes_eq]
def sweptBR (o:Pt) (b:BodyT):List BodyT→BodyT
 | []=>b
 | x :: l=>if alike x b=true then (b.1,(b.2.1,(b.2.2.1,(regionR o b.2.2.2 x.2.2.2).1))) else sweptBR o b l
theorem sweptBR_eq (o:Pt) (b:BodyT):∀ l,sweptB o b l=sweptBR o b l
 | []=>rfl
 | x :: l=>by unfold sweptB sweptBR;rw[regionR_eq,sweptBR_eq o b l]
def sweptPR (o:Pt) (m:MoveT) (thn:List BodyT):List PairT→List PairT
 | []=>[]
 | p :: l=>(if moves m p.1=true∧moves m p.2=false then [(sweptBR o p.1 thn,p.2)] else if moves m p.2=true∧moves m p.1=false then [(p.1,sweptBR o p.2 thn)] else []) ++ sweptPR o m thn l
theorem sweptPR_eq (o:Pt) (m:MoveT) (thn:List BodyT):∀ l,sweptP o m thn l=sweptPR o m thn l
 | []=>rfl
 | p :: l=>by unfold sweptP sweptPR;rw[sweptBR_eq,sweptBR_eq,sweptPR_eq o m thn l]
def sweptPairsR (c:CellT) (w:StateT) (m:MoveT):List PairT :=
 if (next c w m).2=true then sweptPR (jpt (armOf c m.1) (conf w m.1) m.2.1) m (bodies c (next c w m).1) (pairsOf (bodies c w)) else []
def freeR (c:CellT) (w:StateT) (m:MoveT):Bool :=
 if (next c w m).2=true then (sepAll ((sweptPairsR c w m).flatMap checks)).isSome else false
theorem freeR_eq (c:CellT) (w:StateT) (m:MoveT):free c w m=freeR c w m:=by
 have e:sweptPairs c w m=sweptPairsR c w m:=by unfold sweptPairs sweptPairsR;rw[sweptPR_eq]
 unfold free cert freeR
 rw[e]
 split
 ·split <;> rename_i h <;> rw[h] <;> rfl
 ·rfl
def newBR (c:CellT) (w:StateT) (a:Int) (q:J3) (l:List NodeT) (x:Int×Int):Bool :=
 (stepJ (armOf c a) q x.1 x.2).2 && (!hasN l (stepJ (armOf c a) q x.1 x.2).1 && freeR c (setQ w a q) (a,x))
theorem newBR_eq (c:CellT) (w:StateT) (a:Int) (q:J3) (l:List NodeT) (x:Int×Int):newB c w a q l x=newBR c w a q l x:=by unfold newB newBR;rw[freeR_eq]
def tryAllR (c:CellT) (w:StateT) (a i most:Int) (q:J3):List (Int×Int)→List NodeT→List NodeT×Bool
 | [],l=>(l,true)
 | x :: r,l=>if newBR c w a q l x=true then
   (if most≤(l.length:Int) then (l,false) else tryAllR c w a i most q r (l ++ [((stepJ (armOf c a) q x.1 x.2).1,(i,(a,x)))]))
  else tryAllR c w a i most q r l
theorem tryAllR_eq (c:CellT) (w:StateT) (a i most:Int) (q:J3):∀ r l,tryAll c w a i most q r l=tryAllR c w a i most q r l
 | [],l=>rfl
 | x :: r,l=>by unfold tryAll tryAllR;rw[newBR_eq,tryAllR_eq c w a i most q r _,tryAllR_eq c w a i most q r l]
def growR (c:CellT) (w:StateT) (a most:Int):Nat→Nat→List NodeT→List NodeT×Bool
 | 0,_,l=>(l,true)
 | k+1,i,l=>match l[i]? with
  | none=>(l,true)
  | some n=>match tryAllR c w a i most n.1 six l with
   | (l',true)=>growR c w a most k (i+1) l'
   | (l',false)=>(l',false)
theorem growR_eq (c:CellT) (w:StateT) (a most:Int):∀ k i l,grow c w a most k i l=growR c w a most k i l
 | 0,i,l=>rfl
 | k+1,i,l=>by
  unfold grow growR
  cases l[i]? with
  | none=>rfl
  | some n =>
   simp only
   rw[tryAllR_eq,growR_eq c w a most k]
   cases tryAllR c w a i most n.1 six l with
   | mk l' b=>cases b <;> rfl
def exploreR (c:CellT) (w:StateT) (a most:Int):List NodeT×Bool:=growR c w a most (most.toNat+1) 0 [startN (conf w a)]
theorem exploreR_eq (c:CellT) (w:StateT) (a most:Int):explore c w a most=exploreR c w a most:=growR_eq c w a most _ _ _
def exA (x:Int):ArmT:=((x,0),((4,(3,2)),(1,((-17,(-17,-17)),(18,(18,18))))))
def exC:CellT:=((exA 0,exA 175760000),(((0,(0,0)),(9,(0,0))),([[(26364000,8788000),(39546000,8788000),(39546000,17576000),(26364000,17576000)]],([],([],([],(0,((8,(4,2)),((4,(2,1)),([],(0,2)))))))))))
def exW:StateT:=(((0,(0,0)),(9,(0,0))),((-1,-1),[]))
def ex7:List NodeT:=[((9,(0,0)),(-1,(0,(0,0)))),((8,(0,0)),(0,(1,(0,-1)))),((10,(0,0)),(0,(1,(0,1)))),((9,(-1,0)),(0,(1,(1,-1)))),((9,(1,0)),(0,(1,(1,1)))),((9,(0,-1)),(0,(1,(2,-1)))),((9,(0,1)),(0,(1,(2,1))))]
def ex2:List NodeT:=[((0,(0,0)),(-1,(0,(0,0)))),((-1,(0,0)),(0,(0,(0,-1))))]
theorem explore_ex2:explore exC exW 0 2=(ex2,false):=by
 rw[exploreR_eq]
 decide +kernel
theorem explore_ex7:explore exC exW 1 7=(ex7,false):=by
 rw[exploreR_eq]
 decide +kernel
end Go.Mo
namespace Go.Rm
open Go Go.Am Go.Proofs Go.Hu Go.Mo
theorem ex_arm {x:Int} (h:0≤x∧x≤175760000):ArmOk (exA x):=by
 refine⟨?_,?_,?_,?_,?_,?_⟩ <;> (try unfold Bb) <;> unfold exA <;> simp only <;> omega
theorem ex_c:COk exC:=by
 refine⟨ex_arm (by omega),ex_arm (by omega),by decide,fun p hp=>?_,by decide,fun p hp=>?_,by decide,fun p hp=>?_⟩
 ·have:p=[(26364000,8788000),(39546000,8788000),(39546000,17576000),(26364000,17576000)]:=by
   have h:p∈[[(26364000,8788000),(39546000,8788000),(39546000,17576000),((26364000:Int),(17576000:Int))]]:=hp
   simpa using h
  subst this
  refine⟨by decide,fun x hx=>?_⟩
  simp at hx
  unfold Bb
  rcases hx with rfl | rfl | rfl | rfl <;> simp only <;> omega
 ·exact absurd hp (List.not_mem_nil)
 ·exact absurd hp (List.not_mem_nil)
theorem ex_w:WOk exC exW:=⟨by decide,by decide,by decide,fun k hk=>absurd hk List.not_mem_nil,by decide,by decide⟩
theorem cell15Ev:Ev (fun n=>Z27 n) exC:=by
 refine Ev.of_eq 1 ?_
 simp only[Z27Eq]
 exact (Ev.pure _).congr (by kernel_rfl)
theorem firstStEv:Ev (fun n=>Z28 n exC) exW:=by
 refine Ev.of_eq 2 ?_
 simp only[Z28Eq,Z28L3Eq]
 exact⟨0,fun n _=>by kernel_rfl⟩
theorem back2:Back ex2:=by
 intro i n h
 match i,h with
 | 0,h=>cases h;decide
 | 1,h=>cases h;decide
 | k+2,h=>cases h
theorem headEv:Ev (fun n=>Z9 n) true:=by
 refine Ev.of_eq 1 ?_
 simp only[Z9Eq]
 refine Ev.bind cell15Ev ?_
 refine Ev.bind firstStEv ?_
 refine Ev.bind ((exploreEv ex_c ex_w (.inr rfl) (by omega)).congr explore_ex7) ?_
 refine Ev.bind ((exploreEv ex_c ex_w (.inl rfl) (by omega)).congr explore_ex2) ?_
 have p1:=pathEv ex2 (by decide) back2 1 (by decide)
 have p0:=pathEv ex2 (by decide) back2 0 (by decide)
 have p2:=pathEv ex2 (by decide) back2 2 (by decide)
 have s1:=sameMEv (pathTo ex2 1) [((0:Int),((0:Int),(-1:Int)))] (by decide)
 refine Ev.congr (x:=true) ?_ rfl
 change Ev (fun n=>(Z16 n ex2 1).bind fun x368=>(Z15 n x368 [((0:Int),((0:Int),(-1:Int)))]).bind fun x374=>(br x374 ((Z16 n ex2 (0:Int)).bind fun x375=>(br (decide (((x375).length:Int)=(0:Int))) ((Z16 n ex2 (2:Int)).bind fun x376=>some (decide (((x376).length:Int)=(0:Int)))) (some false))) (some false))) true
 refine Ev.bind p1 ?_
 refine Ev.bind s1 ?_
 refine Ev.br_true (by decide) ?_
 refine Ev.bind p0 ?_
 refine Ev.br_true (by decide) ?_
 refine Ev.bind p2 ?_
 exact (Ev.pure _).congr (by decide)
end Go.Rm
namespace Go.Mo
open Go.Hu
theorem tryAll_ext (c:CellT) (w:StateT) (a i most:Int) (q:J3):∀ (x:List (Int×Int)) (l:List NodeT),∃ t,(tryAll c w a i most q x l).1=l ++ t
 | [],l=>⟨[],by simp[tryAll]⟩
 | v :: x,l=>by
  unfold tryAll
  split
  ·split
   ·exact⟨[],by simp⟩
   ·obtain⟨t,h⟩:=tryAll_ext c w a i most q x (l ++ [((stepJ (armOf c a) q v.1 v.2).1,(i,(a,v)))])
    exact⟨_ :: t,by rw[h,List.append_assoc];rfl⟩
  ·exact tryAll_ext c w a i most q x l
theorem tryAll_le (c:CellT) (w:StateT) (a i most:Int) (q:J3):∀ (x:List (Int×Int)) (l:List NodeT),(l.length:Int)≤most→((tryAll c w a i most q x l).1.length:Int)≤most
 | [],l,h=>h
 | v :: x,l,h=>by
  unfold tryAll
  split
  ·split
   ·exact h
   ·exact tryAll_le c w a i most q x _ (by simp only[List.length_append,List.length_cons,List.length_nil];omega)
  ·exact tryAll_le c w a i most q x l h
end Go.Mo
namespace Go.Mo
open Go.Hu
section
variable (c:CellT) (w:StateT) (a:Int)
def Leads (q:J3) (x:Int×Int) (q':J3):Prop:=stepJ (armOf c a) q x.1 x.2=(q',true)∧free c (setQ w a q) (a,x)=true
def NodeAt (l:List NodeT) (i:Nat) (n:NodeT):Prop :=
 ∃ (p:Nat) (m:NodeT) (x:Int×Int),l[p]?=some m∧p<i∧n.2=((p:Int),(a,x))∧x∈six∧Leads c w a m.1 x n.1∧∀ (j:Nat) (m:NodeT),j<i→l[j]?=some m→m.1≠n.1
structure Good (l:List NodeT):Prop where
 start:l[0]?=some (startN (conf w a))
 node:∀ (i:Nat) (n:NodeT),l[i]?=some n→0<i→NodeAt c w a l i n
 mono:∀ (i j:Nat) (n m:NodeT),l[i]?=some n→l[j]?=some m→i≤j→n.2.1≤m.2.1
def Closed (l:List NodeT) (i:Nat):Prop:=∀ (j:Nat) (n:NodeT),j<i→l[j]?=some n→∀ x∈six,∀ q',Leads c w a n.1 x q'→∃ (t:Nat) (m:NodeT),l[t]?=some m∧m.1=q'∧m.2.1≤(j:Int)
end
theorem hasN_iff {l:List NodeT} {q:J3}:hasN l q=true↔∃ (t:Nat) (m:NodeT),l[t]?=some m∧m.1=q:=by
 unfold hasN
 rw[List.any_eq_true]
 constructor
 ·rintro⟨m,hm,he⟩
  obtain⟨t,ht⟩:=List.mem_iff_getElem?.1 hm
  exact⟨t,m,ht,by simpa using he⟩
 ·rintro⟨t,m,ht,he⟩
  exact⟨m,List.mem_of_getElem? ht,by simpa using he⟩
theorem hasN_not {l:List NodeT} {q:J3} (h:hasN l q=false) {t:Nat} {m:NodeT} (ht:l[t]?=some m):m.1≠q:=fun e=>by
 rw[hasN_iff.2 ⟨t,m,ht,e⟩] at h;cases h
variable {c:CellT} {w:StateT} {a:Int}
theorem newB_pos {q:J3} {l:List NodeT} {x:Int×Int} (h:newB c w a q l x=true):Leads c w a q x (stepJ (armOf c a) q x.1 x.2).1∧hasN l (stepJ (armOf c a) q x.1 x.2).1=false:=by
 unfold newB at h
 simp only[Bool.and_eq_true,Bool.not_eq_true'] at h
 exact⟨⟨Prod.ext rfl h.1,h.2.2⟩,h.2.1⟩
theorem newB_neg {q:J3} {l:List NodeT} {x:Int×Int} (h:¬ newB c w a q l x=true) {q':J3} (hl:Leads c w a q x q'):hasN l q'=true:=by
 obtain⟨h1,h2⟩:=hl
 unfold newB at h
 rw[h1,h2] at h
 simpa using h
theorem Good.append {l:List NodeT} (h:Good c w a l) {i:Nat} {n:NodeT} (hi:l[i]?=some n) (hle:∀ m∈l,m.2.1≤(i:Int)) {x:Int×Int} {q':J3} (hx:x∈six) (hL:Leads c w a n.1 x q') (hn:hasN l q'=false) :
  Good c w a (l ++ [(q',((i:Int),(a,x)))]):=by
 have hlt:i<l.length:=by
  rcases Nat.lt_or_ge i l.length with h | h
  ·exact h
  ·rw[List.getElem?_eq_none h] at hi;cases hi
 have old:∀ {j:Nat} {m:NodeT},l[j]?=some m→(l ++ [(q',((i:Int),(a,x)))])[j]?=some m:=fun {j m} e=>by
  rw[List.getElem?_append_left (by
   rcases Nat.lt_or_ge j l.length with h | h
   ·exact h
   ·rw[List.getElem?_eq_none h] at e;cases e)]
  exact e
 have back:∀ {j:Nat} {m:NodeT},(l ++ [(q',((i:Int),(a,x)))])[j]?=some m→(j<l.length∧l[j]?=some m)∨(j=l.length∧m=(q',((i:Int),(a,x)))):=fun {j m} e=>by
  rcases Nat.lt_or_ge j l.length with h | h
  ·rw[List.getElem?_append_left h] at e;exact .inl ⟨h,e⟩
  ·rw[List.getElem?_append_right h] at e
   rcases Nat.eq_or_lt_of_le h with h1 | h1
   ·subst h1;simp at e;exact .inr ⟨rfl,e.symm⟩
   ·rw[List.getElem?_eq_none (by simp;omega)] at e;cases e
 refine⟨old h.start,fun j m e hj=>?_,fun j k m m' e1 e2 hjk=>?_⟩
 ·rcases back e with ⟨h1,h2⟩ | ⟨rfl,rfl⟩
  ·obtain⟨p,m',x',g1,g2,g3,g4,g5,g6⟩:=h.node j m h2 hj
   exact⟨p,m',x',old g1,g2,g3,g4,g5,fun k m'' hk e'=>by
    rcases back e' with ⟨_,h3⟩ | ⟨rfl,_⟩
    ·exact g6 k m'' hk h3
    ·omega⟩
  ·exact⟨i,n,x,old hi,hlt,rfl,hx,hL,fun k m'' hk e'=>by
    rcases back e' with ⟨_,h3⟩ | ⟨rfl,_⟩
    ·exact hasN_not hn h3
    ·omega⟩
 ·rcases back e1 with ⟨h1,h2⟩ | ⟨rfl,rfl⟩
  ·rcases back e2 with ⟨h3,h4⟩ | ⟨rfl,rfl⟩
   ·exact h.mono j k m m' h2 h4 hjk
   ·exact hle m (List.mem_of_getElem? h2)
  ·rcases back e2 with ⟨h3,h4⟩ | ⟨rfl,rfl⟩
   ·omega
   ·exact Int.le_refl _
theorem tryAll_good {i:Nat} {n:NodeT} (most:Int):∀ (r:List (Int×Int)) (l:List NodeT),(∀ x∈r,x∈six)→Good c w a l→l[i]?=some n→(∀ m∈l,m.2.1≤(i:Int)) →
  Good c w a (tryAll c w a i most n.1 r l).1∧(∀ m∈(tryAll c w a i most n.1 r l).1,m.2.1≤(i:Int)) ∧
  ((tryAll c w a i most n.1 r l).2=true→∀ x∈r,∀ q',Leads c w a n.1 x q'→hasN (tryAll c w a i most n.1 r l).1 q'=true) ∧
  ((tryAll c w a i most n.1 r l).2=false→most≤((tryAll c w a i most n.1 r l).1.length:Int)∧∃ x∈six,∃ q',Leads c w a n.1 x q'∧hasN (tryAll c w a i most n.1 r l).1 q'=false)
 | [],l,hr,hG,hi,hle=>⟨hG,hle,fun _ x hx=>by simp at hx,fun e=>by cases e⟩
 | x :: r,l,hr,hG,hi,hle=>by
  unfold tryAll
  by_cases hb:newB c w a n.1 l x=true
  ·rw[if_pos hb]
   obtain⟨h1,h2⟩:=newB_pos hb
   by_cases hm:most≤(l.length:Int)
   ·rw[if_pos hm]
    exact⟨hG,hle,fun e=>(by cases e),fun _=>⟨hm,x,hr x (by simp),_,h1,h2⟩⟩
   ·rw[if_neg hm]
    have hG':=hG.append hi hle (hr x (by simp)) h1 h2
    have hi':(l ++ [((stepJ (armOf c a) n.1 x.1 x.2).1,((i:Int),(a,x)))])[i]?=some n:=by
     rw[List.getElem?_append_left (by
      rcases Nat.lt_or_ge i l.length with h | h
      ·exact h
      ·rw[List.getElem?_eq_none h] at hi;cases hi)]
     exact hi
    obtain⟨g1,g2,g3,g4⟩:=tryAll_good most r _ (fun y hy=>hr y (by simp[hy])) hG' hi' (fun m hm=>by
     rcases List.mem_append.1 hm with h | h
     ·exact hle m h
     ·simp at h;subst h;exact Int.le_refl _)
    refine⟨g1,g2,fun e y hy q' hL=>?_,g4⟩
    rcases List.mem_cons.1 hy with rfl | hy
    ·obtain⟨t,ht⟩:=tryAll_ext c w a i most n.1 r (l ++ [((stepJ (armOf c a) n.1 y.1 y.2).1,((i:Int),(a,y)))])
     rw[ht]
     have hq:q'=(stepJ (armOf c a) n.1 y.1 y.2).1:=by rw[hL.1]
     unfold hasN
     rw[List.any_eq_true]
     exact⟨_,List.mem_append_left _ (List.mem_append_right _ (List.mem_singleton.2 rfl)),by simp[hq]⟩
    ·exact g3 e y hy q' hL
  ·rw[if_neg hb]
   obtain⟨g1,g2,g3,g4⟩:=tryAll_good most r l (fun y hy=>hr y (by simp[hy])) hG hi hle
   refine⟨g1,g2,fun e y hy q' hL=>?_,g4⟩
   rcases List.mem_cons.1 hy with rfl | hy
   ·obtain⟨t,ht⟩:=tryAll_ext c w a i most n.1 r l
    obtain⟨k,m,h1,h2⟩:=hasN_iff.1 (newB_neg hb hL)
    rw[ht]
    exact hasN_iff.2 ⟨k,m,by
     rw[List.getElem?_append_left (by
      rcases Nat.lt_or_ge k l.length with h | h
      ·exact h
      ·rw[List.getElem?_eq_none h] at h1;cases h1)]
     exact h1,h2⟩
   ·exact g3 e y hy q' hL
theorem get_append {α:Type} {l t:List α} {k:Nat} {m:α} (h:l[k]?=some m):(l ++ t)[k]?=some m:=by
 rw[List.getElem?_append_left (by
  rcases Nat.lt_or_ge k l.length with h' | h'
  ·exact h'
  ·rw[List.getElem?_eq_none h'] at h;cases h)]
 exact h
theorem Closed.ext {l t:List NodeT} {i:Nat} (h:Closed c w a l i) (hi:i≤l.length):Closed c w a (l ++ t) i:=fun j n hj hn x hx q' hL=>by
 rw[List.getElem?_append_left (by omega)] at hn
 obtain⟨k,m,h1,h2,h3⟩:=h j n hj hn x hx q' hL
 exact⟨k,m,get_append h1,h2,h3⟩
theorem grow_good (most:Int):∀ (k i:Nat) (l:List NodeT),Good c w a l→(∀ m∈l,m.2.1<(i:Int))→Closed c w a l i→i≤l.length→(l.length:Int)≤most→most+1≤(k:Int)+i →
  Good c w a (grow c w a most k i l).1∧((grow c w a most k i l).1.length:Int)≤most∧((grow c w a most k i l).2=true→Closed c w a (grow c w a most k i l).1 (grow c w a most k i l).1.length) ∧
  ((grow c w a most k i l).2=false→most≤((grow c w a most k i l).1.length:Int)∧∃ (j:Nat) (n:NodeT),(grow c w a most k i l).1[j]?=some n∧Closed c w a (grow c w a most k i l).1 j∧(∀ m∈(grow c w a most k i l).1,m.2.1≤(j:Int)) ∧
   ∃ x∈six,∃ q',Leads c w a n.1 x q'∧hasN (grow c w a most k i l).1 q'=false)
 | 0,i,l,hG,hlt,hC,hi,hl,hk=>by omega
 | k+1,i,l,hG,hlt,hC,hi,hl,hk=>by
  unfold grow
  rcases Nat.lt_or_ge i l.length with h | h
  ·have g:l[i]?=some l[i]:=List.getElem?_eq_getElem h
   rw[g]
   simp only
   obtain⟨t1,t2,t3,t4⟩:=tryAll_good (i:=i) (n:=l[i]) most six l (fun x hx=>hx) hG g (fun m hm=>by have:=hlt m hm;omega)
   obtain⟨t,ht⟩:=tryAll_ext c w a i most (l[i]).1 six l
   have hle:=tryAll_le c w a i most (l[i]).1 six l hl
   cases hb:(tryAll c w a i most (l[i]).1 six l).2 with
   | true =>
    simp only[if_true]
    refine grow_good most k (i+1) _ t1 (fun m hm=>by have:=t2 m hm;omega) ?_ (by rw[ht,List.length_append];omega) hle (by omega)
    intro j n hj hn x hx q' hL
    rcases Nat.lt_or_ge j i with hji | hji
    ·rw[ht] at hn ⊢
     exact hC.ext (by omega) j n hji hn x hx q' hL
    ·have:j=i:=by omega
     subst this
     have hn':n=l[j]:=by
      rw[ht,List.getElem?_append_left h,g] at hn
      exact (Option.some.inj hn).symm
     subst hn'
     obtain⟨u,m,h1,h2⟩:=hasN_iff.1 (t3 hb x hx q' hL)
     exact⟨u,m,h1,h2,t2 m (List.mem_of_getElem? h1)⟩
   | false =>
    simp only[Bool.false_eq_true,if_false]
    obtain⟨u1,u2⟩:=t4 hb
    refine⟨t1,hle,fun e=>(by rw[hb] at e;cases e),fun _=>⟨u1,i,l[i],by rw[ht];exact get_append g,by rw[ht];exact hC.ext (by omega),t2,u2⟩⟩
  ·have g:l[i]?=none:=List.getElem?_eq_none h
   rw[g]
   simp only
   have:i=l.length:=by omega
   subst this
   exact⟨hG,hl,fun _=>hC,fun e=>by cases e⟩
structure Explored (c:CellT) (w:StateT) (a most:Int) (l:List NodeT) (b:Bool):Prop where
 good:Good c w a l
 len:0<l.length∧(l.length:Int)≤most
 all:b=true→Closed c w a l l.length
 part:b=false→(l.length:Int)=most∧∃ (j:Nat) (n:NodeT),l[j]?=some n∧Closed c w a l j∧(∀ m∈l,m.2.1≤(j:Int))∧∃ x∈six,∃ q',Leads c w a n.1 x q'∧hasN l q'=false
theorem explored (c:CellT) (w:StateT) (a:Int) {most:Int} (h:1≤most):Explored c w a most (explore c w a most).1 (explore c w a most).2:=by
 have hG:Good c w a [startN (conf w a)]:=⟨rfl,fun i n e hi=>(by
  rw[List.getElem?_eq_none (by simp;omega)] at e;cases e),fun i j n m e1 e2 hij=>by
  have:∀ {i:Nat} {n:NodeT},[startN (conf w a)][i]?=some n→n=startN (conf w a):=fun {i n} e=>by
   have:=List.mem_of_getElem? e;simpa using this
  rw[this e1,this e2];exact Int.le_refl _⟩
 obtain⟨h1,h2,h3,h4⟩:=grow_good (c:=c) (w:=w) (a:=a) most (most.toNat+1) 0 [startN (conf w a)] hG (fun m hm=>by
  simp at hm;subst hm;show (-1:Int)<_;omega) (fun j n hj=>by omega) (Nat.zero_le _) (by simp;omega) (by omega)
 have hpos:0<(explore c w a most).1.length:=by
  have:=h1.start
  rcases Nat.eq_zero_or_pos (explore c w a most).1.length with h0 | h0
  ·unfold explore at h0
   rw[List.getElem?_eq_none (by omega)] at this;cases this
  ·exact h0
 exact⟨h1,⟨hpos,h2⟩,h3,fun e=>by obtain⟨u1,u2⟩:=h4 e;exact⟨Int.le_antisymm h2 u1,u2⟩⟩
theorem Good.inj {l:List NodeT} (h:Good c w a l) {i j:Nat} {n m:NodeT} (hi:l[i]?=some n) (hj:l[j]?=some m) (e:n.1=m.1):i=j:=by
 rcases Nat.lt_trichotomy i j with hl | hl | hl
 ·obtain⟨_,_,_,_,_,_,_,_,g⟩:=h.node j m hj (by omega)
  exact absurd e (g i n hl hi)
 ·exact hl
 ·obtain⟨_,_,_,_,_,_,_,_,g⟩:=h.node i n hi (by omega)
  exact absurd e.symm (g j m hl hj)
end Go.Mo
namespace Go.Rm
open Go Go.Am Go.Proofs Go.Hu Go.Mo
theorem tmB {x k:Int} (h:0≤x) (hk:0<k):0≤x.tmod k∧x.tmod k<k:=by
 rw[Int.tmod_eq_emod_of_nonneg h];exact⟨Int.emod_nonneg _ (by omega),Int.emod_lt_of_pos _ hk⟩
theorem who01 {x:Int} (h:0≤x):x.tmod 2=0∨x.tmod 2=1:=by
 have:=tmB h (show (0:Int)<2 by decide);omega
end Go.Rm
namespace Go.Rm
open Go Go.Am Go.Proofs Go.Hu Go.Mo
theorem conf_lim {c:CellT} {w:Mo.StateT} (hw:WOk c w) {a:Int} (ha:a=0∨a=1):inLim (armOf c a) (conf w a)=true:=by
 rcases ha with rfl | rfl
 ·exact hw.lim0
 ·exact hw.lim1
end Go.Rm
namespace Go.Rm
open Go Go.Am Go.Proofs Go.Hu Go.Mo
theorem idxN_has {q:J3}:∀ (l:List NodeT) (k:Nat),hasN l q=true→(k:Int)≤idxN q k l
 | [],k,h=>by simp[hasN] at h
 | x :: l,k,h=>by
  unfold idxN
  split
  ·exact Int.le_refl _
  ·rename_i hx
   have e0:hasN (x :: l) q=(decide (x.1=q) || hasN l q):=rfl
   rw[e0,decide_eq_false hx,Bool.false_or] at h
   have:=idxN_has l (k+1) h
   omega
abbrev sixA (a:Int):List MoveT:=six.map fun x=>(a,x)
theorem sixA_get (a:Int) {k:Nat} {x:Int×Int} {r:List (Int×Int)} (h:six.drop k=x :: r):(sixA a)[k]?=some (a,x)∧six.drop (k+1)=r∧k<(sixA a).length∧x∈six:=by
 obtain⟨h1,h2,h3⟩:=gdrop h
 exact⟨by simp[sixA,h1],h2,by simpa[sixA] using h3,List.mem_of_getElem? h1⟩
section
variable {c:CellT} {w:Mo.StateT} (hc:COk c) (hw:WOk c w) {a:Int} (ha:a=0∨a=1) {l:List NodeT} (hl:l.length≤1000) (hlim:∀ n∈l,inLim (armOf c a) n.1=true)
include hc hw ha hl hlim in
include hc hw ha hl hlim in
end
end Go.Rm
namespace Go.Mo
open Go.Hu
def deepF (out:List Int) (n:NodeT):Int:=if n.2.1<0 then 0 else if (out.length:Int)≤n.2.1 then 0 else (out[n.2.1.toNat]?).getD 0+1
def deepG:List NodeT→List Int→List Int
 | [],out=>out
 | n :: r,out=>deepG r (out ++ [deepF out n])
theorem deepG_ext:∀ (r:List NodeT) (out:List Int),∃ t,deepG r out=out ++ t∧t.length=r.length
 | [],out=>⟨[],by simp[deepG],rfl⟩
 | n :: r,out=>by
  obtain⟨t,h,h2⟩:=deepG_ext r (out ++ [deepF out n])
  exact⟨deepF out n :: t,by unfold deepG;rw[h,List.append_assoc];rfl,by simp[h2]⟩
def dep (l:List NodeT) (i:Nat):Int:=((deepG l [])[i]?).getD 0
theorem deep_len (l:List NodeT):(deepG l []).length=l.length:=by
 obtain⟨t,h,h2⟩:=deepG_ext l []
 rw[h];simpa using h2
theorem deepG_append:∀ (a b:List NodeT) (out:List Int),deepG (a ++ b) out=deepG b (deepG a out)
 | [],b,out=>rfl
 | n :: a,b,out=>by simp only[List.cons_append,deepG];exact deepG_append a b _
theorem dep_get {l:List NodeT} {i:Nat} (h:i<l.length):(deepG l [])[i]?=some (dep l i):=by
 have:i<(deepG l []).length:=by rw[deep_len];exact h
 unfold dep
 rw[List.getElem?_eq_getElem this];rfl
theorem dep_eq {l:List NodeT} {i:Nat} {n:NodeT} (hi:l[i]?=some n):dep l i=deepF (deepG (l.take i) []) n:=by
 have hlt:=(List.getElem?_eq_some_iff.1 hi).1
 have e:l=l.take i ++ n :: l.drop (i+1):=by
  have:=(List.getElem?_eq_some_iff.1 hi).2
  rw[← this,List.getElem_cons_drop,List.take_append_drop]
 have h1:deepG l []=deepG (l.drop (i+1)) (deepG (l.take i) [] ++ [deepF (deepG (l.take i) []) n]):=by
  conv=>lhs;rw[e]
  rw[deepG_append];rfl
 obtain⟨t,h2,_⟩:=deepG_ext (l.drop (i+1)) (deepG (l.take i) [] ++ [deepF (deepG (l.take i) []) n])
 unfold dep
 rw[h1,h2]
 have hlen:(deepG (l.take i) []).length=i:=by rw[deep_len,List.length_take];omega
 rw[List.append_assoc,List.getElem?_append_right (by omega),hlen,Nat.sub_self]
 rfl
theorem dep_take {l:List NodeT} {i p:Nat} (hp:p<i) (hi:i≤l.length):(deepG (l.take i) [])[p]?=some (dep l p):=by
 obtain⟨t,h2,_⟩:=deepG_ext (l.drop i) (deepG (l.take i) [])
 rw[← deepG_append,List.take_append_drop] at h2
 have hlen:(deepG (l.take i) []).length=i:=by rw[deep_len,List.length_take];omega
 have:=dep_get (l:=l) (i:=p) (by omega)
 rw[h2,List.getElem?_append_left (by omega)] at this
 exact this
variable {c:CellT} {w:StateT} {a:Int}
theorem dep_succ {l:List NodeT} (h:Good c w a l) {i:Nat} {n:NodeT} (hi:l[i]?=some n) (h0:0<i):∃ p:Nat,n.2.1=(p:Int)∧p<i∧dep l i=dep l p+1:=by
 obtain⟨p,m,x,e1,e2,e3,e4,e5,e6⟩:=h.node i n hi h0
 have hlt:=(List.getElem?_eq_some_iff.1 hi).1
 refine⟨p,by rw[e3],e2,?_⟩
 rw[dep_eq hi]
 unfold deepF
 have hlen:(deepG (l.take i) []).length=i:=by rw[deep_len,List.length_take];omega
 have e:n.2.1=(p:Int):=by rw[e3]
 rw[e,if_neg (by omega),hlen,if_neg (by omega),Int.toNat_natCast,dep_take e2 (by omega)]
 rfl
end Go.Mo
namespace Go.Rm
open Go Go.Am Go.Proofs Go.Hu Go.Mo
theorem good_back {c:CellT} {w:Mo.StateT} {a:Int} {l:List NodeT} (h:Mo.Good c w a l):Back l:=by
 intro i n hi
 rcases Nat.eq_zero_or_pos i with h0 | h0
 ·subst h0;rw[h.start] at hi;cases hi;show (-1:Int)<_;omega
 ·obtain⟨p,e,h2,_⟩:=dep_succ h hi h0
  omega
section
variable {c:CellT} {w:Mo.StateT} (hc:COk c) (hw:WOk c w) {a:Int} (ha:a=0∨a=1) {most:Int} {l:List NodeT} {b:Bool} (E:Explored c w a most l b) (hl:l.length≤1000)
include hc hw ha E hl in
include hc hw ha E hl in
end
end Go.Rm
namespace Go.Mo
open Go.Hu
def Runs (c:CellT) (w:StateT) (a:Int):J3→List MoveT→J3→Prop
 | q,[],q'=>q=q'
 | q,m :: r,q'=>∃ x q1,m=(a,x)∧Leads c w a q x q1∧Runs c w a q1 r q'
theorem Runs.append {c:CellT} {w:StateT} {a:Int}:∀ {r:List MoveT} {q q1 q2:J3} {x:Int×Int},Runs c w a q r q1→Leads c w a q1 x q2→Runs c w a q (r ++ [(a,x)]) q2
 | [],q,q1,q2,x,h,hL=>by
  have:q=q1:=h
  subst this
  exact⟨x,q2,rfl,hL,rfl⟩
 | m :: r,q,q1,q2,x,h,hL=>by
  obtain⟨y,q3,h1,h2,h3⟩:=h
  exact⟨y,q3,h1,h2,Runs.append h3 hL⟩
end Go.Mo
namespace Go.Rm
open Go Go.Am Go.Proofs Go.Hu Go.Mo
section
variable {c:CellT} {w:Mo.StateT} (hc:COk c) (hw:WOk c w) {a:Int} (ha:a=0∨a=1)
include hc hw ha in
end
end Go.Rm
namespace Go.Rm
open Go Go.Am Go.Proofs Go.Hu Go.Mo
section
variable {c:CellT} {w:Mo.StateT} (hc:COk c) (hw:WOk c w) {a:Int} (ha:a=0∨a=1) {most:Int}
abbrev G7 (a most:Int) (l:List NodeT) (i k:Int) (c:CellT) (w:Mo.StateT):(Int×(Int×(Unit×(Unit×(List NodeT×(List MoveT×(Int×(Int×Unit))))))))×((CellT×Unit)×((Mo.StateT×Unit)×Unit)) :=
 ((a,(most,((),((),(l,(sixA a,(i,(k,())))))))),((c,()),((w,()),())))
abbrev G4 (a most:Int) (l:List NodeT) (i:Int) (c:CellT) (w:Mo.StateT):(Int×(Int×(Unit×(Unit×(List NodeT×(List MoveT×(Int×Unit)))))))×((CellT×Unit)×((Mo.StateT×Unit)×Unit)) :=
 ((a,(most,((),((),(l,(sixA a,(i,()))))))),((c,()),((w,()),())))
abbrev GR (l:List NodeT):(List NodeT×(Bool×Unit))×Unit:=((l,(false,())),())
include hc hw ha in
theorem growL7 (i:Nat) {n0:NodeT} (hq:inLim (armOf c a) n0.1=true):∀ (r:List (Int×Int)) (k:Nat) (l:List NodeT),six.drop k=r→k≤6→l[i]?=some n0→l.length+r.length≤800000 →
  Ev (fun n=>Z13L7 n (G7 a most l i k c w)) (if (tryAll c w a i most n0.1 r l).2=true then .inl (G4 a most (tryAll c w a i most n0.1 r l).1 i c w) else .inr (GR (tryAll c w a i most n0.1 r l).1))
 | [],k,l,h,hk,hi,hl=>by
  have:=gdrop_nil h
  have h6:(sixA a).length=6:=rfl
  have h6':six.length=6:=rfl
  refine Ev.of_eq 1 ?_
  simp (disch:=omega) only [Z13L7Eq,br_neg]
  exact Ev.pure _
 | x :: r,k,l,h,hk,hi,hl=>by
  obtain⟨g1,g2,g3,g4⟩:=sixA_get a h
  have h6:(sixA a).length=6:=rfl
  have s:=rstepEv (armOf c a) ((arm_ok hc a).qbd hq) x.1 x.2
  have f:=rfreeEv hc (setQ_ok hw ha hq) (a,x)
  have wi:=withEv w ha n0.1
  simp only[List.length_cons] at hl
  have hh:=fun q=>hasEv l (by omega) q
  have hcap:∀ q:NodeT,(l.length + [q].length)*56≤140737488355328:=fun q=>by simp only[List.length_cons,List.length_nil];omega
  have ih:=fun l hi hl=>growL7 i hq r (k+1) l g2 (by omega) hi hl
  have body:∀ {A:Nat→Option (((Int×(Int×(Unit×(Unit×(List NodeT×(List MoveT×(Int×(Int×Unit))))))))×((CellT×Unit)×((Mo.StateT×Unit)×Unit))) ⊕ ((List NodeT×(Bool×Unit))×Unit))},
    (∀ n,A n=(Z25 n (armOf c a) n0.1 x.1 x.2).bind fun x907=>(br (!x907.2) (some (.inl (G7 a most l i k c w))) ((Z18 n l x907.1).bind fun x908=>(br (decide ((0:Int)≤x908)) (some (.inl (G7 a most l i k c w))) ((Z21 n w a n0.1).bind fun x910=>(Z33 n c x910 (a,x)).bind fun x911=>(br (!x911) (some (.inl (G7 a most l i k c w))) (br (decide (most≤(l.length:Int))) (some (.inr (GR l))) (br (decide ((l.length+([(x907.1,((i:Int),((a,x):MoveT)))]).length)*56≤140737488355328)) (some (.inl (G7 a most (l ++ [(x907.1,((i:Int),((a,x):MoveT)))]) i k c w))) none)))))))) →
    Ev A (if newB c w a n0.1 l x=true then (if most≤(l.length:Int) then .inr (GR l) else .inl (G7 a most (l ++ [((stepJ (armOf c a) n0.1 x.1 x.2).1,((i:Int),((a,x):MoveT)))]) i k c w)) else .inl (G7 a most l i k c w)):=fun {A} hA=>by
   have e:A=_:=funext hA
   rw[e]
   refine Ev.bind s ?_
   unfold newB
   cases h1:(stepJ (armOf c a) n0.1 x.1 x.2).2 with
   | false=>exact Ev.br_true rfl ((Ev.pure _).congr (by simp))
   | true =>
    refine Ev.br_false rfl ?_
    refine Ev.bind (hh _) ?_
    cases h2:hasN l (stepJ (armOf c a) n0.1 x.1 x.2).1 with
    | true =>
     have:=idxN_has l 0 h2
     exact Ev.ite_pos (by omega) ((Ev.pure _).congr (by simp))
    | false =>
     refine Ev.ite_neg (by rw[idxN_not _ _ _ h2];omega) ?_
     refine Ev.bind wi ?_
     refine Ev.bind f ?_
     cases h3:free c (setQ w a n0.1) (a,x) with
     | false=>exact Ev.br_true rfl ((Ev.pure _).congr (by simp))
     | true =>
      refine Ev.br_false rfl ?_
      by_cases h4:most≤(l.length:Int)
      ·exact Ev.ite_pos h4 ((Ev.pure _).congr (by simp[h4]))
      ·exact Ev.ite_neg h4 (Ev.ite_pos (hcap _) ((Ev.pure _).congr (by simp[h4])))
  refine Ev.of_eq 1 ?_
  have fin:∀ {y:((Int×(Int×(Unit×(Unit×(List NodeT×(List MoveT×(Int×(Int×Unit))))))))×((CellT×Unit)×((Mo.StateT×Unit)×Unit))) ⊕ ((List NodeT×(Bool×Unit))×Unit)},
    y=(if newB c w a n0.1 l x=true then (if most≤(l.length:Int) then .inr (GR l) else .inl (G7 a most (l ++ [((stepJ (armOf c a) n0.1 x.1 x.2).1,((i:Int),((a,x):MoveT)))]) i k c w)) else .inl (G7 a most l i k c w)) →
    Ev (fun n=>(match y with | .inl y913=>Z13L7 n ((y913.1.1,(y913.1.2.1,((),((),(y913.1.2.2.2.2.1,(y913.1.2.2.2.2.2.1,(y913.1.2.2.2.2.2.2.1,((IntKind.i64.wrap (y913.1.2.2.2.2.2.2.2.1+(1:Int))),())))))))),y913.2) | .inr y914=>some (.inr (y914))))
     (if (tryAll c w a i most n0.1 (x :: r) l).2=true then .inl (G4 a most (tryAll c w a i most n0.1 (x :: r) l).1 i c w) else .inr (GR (tryAll c w a i most n0.1 (x :: r) l).1)):=fun {y} hy=>by
   subst hy
   unfold tryAll
   by_cases hn:newB c w a n0.1 l x=true
   ·simp only[if_pos hn]
    by_cases h4:most≤(l.length:Int)
    ·simp only[if_pos h4,Bool.false_eq_true,if_false];exact Ev.pure _
    ·simp only[if_neg h4]
     simp (disch:=omega) only [wr1]
     exact ih _ (get_append hi) (by simp only[List.length_append,List.length_cons,List.length_nil];omega)
   ·simp only[if_neg hn]
    simp (disch:=omega) only [wr1]
    exact ih _ hi (by omega)
  rcases ha with rfl | rfl
  ·simp (disch:=omega) only [Z13L7Eq,br_pos,br_neg,Int.toNat_natCast,hi,g1,Option.bind_some]
   exact Ev.bind (body fun n=>rfl) (fin rfl)
  ·simp (disch:=omega) only [Z13L7Eq,br_pos,br_neg,Int.toNat_natCast,hi,g1,Option.bind_some]
   exact Ev.bind (body fun n=>rfl) (fin rfl)
include hc hw ha in
theorem growL4 (hmost:1≤most∧most≤700000):∀ (k i:Nat) (l:List NodeT),(∀ n∈l,inLim (armOf c a) n.1=true)→(l.length:Int)≤most→i≤l.length→(k:Int)+i=most+1 →
  Ev (fun n=>Z13L4 n (G4 a most l i c w)) (if (grow c w a most k i l).2=true then .inl (((grow c w a most k i l).1,()),()) else .inr (GR (grow c w a most k i l).1))
 | 0,i,l,hlim,hl,hi,hk=>by omega
 | k+1,i,l,hlim,hl,hi,hk=>by
  unfold grow
  rcases Nat.lt_or_ge i l.length with h | h
  ·have g:l[i]?=some l[i]:=List.getElem?_eq_getElem h
   have h6':six.length=6:=rfl
   have l7:=growL7 (most:=most) hc hw ha i (hlim _ (List.mem_of_getElem? g)) six 0 l rfl (by omega) g (by omega)
   obtain⟨t1,t2,t3⟩:=tryAll_len c w a i most (l[i]).1 six l
   have tl:=tryAll_lim c w a i most (l[i]).1 six l hlim
   have ih:=growL4 hmost k (i+1) (tryAll c w a i most (l[i]).1 six l).1 tl (t3 hl) (by omega) (by omega)
   refine Ev.of_eq 1 ?_
   simp (disch:=omega) only [Z13L4Eq,br_pos]
   refine Ev.bind l7 ?_
   rw[g]
   simp only
   cases hb:(tryAll c w a i most (l[i]).1 six l).2 with
   | true =>
    simp only[if_true]
    simp (disch:=omega) only [wr1]
    exact ih
   | false =>
    simp only[Bool.false_eq_true,if_false,hb]
    exact Ev.pure _
  ·have g:l[i]?=none:=List.getElem?_eq_none h
   rw[g]
   refine Ev.of_eq 1 ?_
   simp (disch:=omega) only [Z13L4Eq,br_neg]
   exact Ev.pure _
include hc hw ha in
theorem rgrowEv (hmost:1≤most∧most≤700000):Ev (fun n=>Z13 n c w a most) (explore c w a most):=by
 have l4:=growL4 hc hw ha hmost (most.toNat+1) 0 [startN (conf w a)] (fun n hn=>by rw[List.mem_singleton.1 hn];exact conf_lim hw ha) (by simp;omega) (Nat.zero_le _) (by omega)
 refine Ev.of_eq 1 ?_
 unfold explore
 rcases ha with rfl | rfl
 ·simp (disch:=omega) only [Z13Eq,br_pos,br_neg]
  refine Ev.bind (sixEv 0) ?_
  refine Ev.bind l4 ?_
  cases hg:(grow c w 0 most (most.toNat+1) 0 [startN (conf w 0)]).2 with
  | true=>simp only[if_true];exact (Ev.pure _).congr (by rw[← hg])
  | false=>simp only[Bool.false_eq_true,if_false];exact (Ev.pure _).congr (by rw[← hg])
 ·simp (disch:=omega) only [Z13Eq,br_pos,br_neg]
  refine Ev.bind (sixEv 1) ?_
  refine Ev.bind l4 ?_
  cases hg:(grow c w 1 most (most.toNat+1) 0 [startN (conf w 1)]).2 with
  | true=>simp only[if_true];exact (Ev.pure _).congr (by rw[← hg])
  | false=>simp only[Bool.false_eq_true,if_false];exact (Ev.pure _).congr (by rw[← hg])
end
theorem rmovesL2 (l:List NodeT) (hl:l.length<1000000) (hB:Back l):∀ (k:Nat) (i:Int) (out:List MoveT),i≤(k:Int)→out.length+k≤10000000 →
  Ev (fun n=>Z17L2 n ((l,(i,(out,()))),())) (((pathR l k i).reverse ++ out,()),())
 | 0,i,out,hi,ho=>by
  refine Ev.of_eq 1 ?_
  simp (disch:=omega) only [Z17L2Eq,br_neg]
  exact (Ev.pure _).congr (by simp[pathR])
 | k+1,i,out,hi,ho=>by
  by_cases h0:0<i
  ·by_cases h1:i<(l.length:Int)
   ·have g:l[i.toNat]?=some l[i.toNat]:=List.getElem?_eq_getElem (by omega)
    have hb:=hB i.toNat _ g
    have ih:=rmovesL2 l hl hB k (l[i.toNat]).2.1 ([(l[i.toNat]).2.2] ++ out) (by omega) (by simp;omega)
    have hcap:([(l[i.toNat]).2.2].length+out.length)*24≤140737488355328:=by simp only[List.length_cons,List.length_nil];omega
    refine Ev.of_eq 1 ?_
    simp (disch:=omega) only [Z17L2Eq,br_pos,g,Option.bind_some,br_pos hcap]
    exact ih.congr (by simp[pathR,h0,g])
   ·have g:l[i.toNat]?=none:=List.getElem?_eq_none (by omega)
    refine Ev.of_eq 1 ?_
    simp (disch:=omega) only [Z17L2Eq,br_pos,br_neg]
    exact (Ev.pure _).congr (by simp[pathR,g])
  ·refine Ev.of_eq 1 ?_
   simp (disch:=omega) only [Z17L2Eq,br_neg]
   exact (Ev.pure _).congr (by simp[pathR,h0])
theorem rpathEv (l:List NodeT) (hl:l.length<1000000) (hB:Back l) (i:Int) (hi:i≤(l.length:Int)):Ev (fun n=>Z17 n l i) (pathTo l i):=by
 refine Ev.of_eq 1 ?_
 simp only[Z17Eq]
 refine Ev.bind (rmovesL2 l hl hB l.length i [] hi (by simp;omega)) ?_
 exact (Ev.pure _).congr (by simp[pathTo])
theorem pathTo_len (l:List NodeT) (i:Int):(pathTo l i).length≤l.length:=by
 have:∀ (k:Nat) (i:Int),(pathR l k i).length≤k:=by
  intro k
  induction k with
  | zero=>intro i;simp[pathR]
  | succ k ih =>
   intro i
   unfold pathR
   split
   ·split
    ·rw[List.length_cons];have:=ih ‹NodeT›.2.1;omega
    ·simp
   ·simp
 unfold pathTo
 rw[List.length_reverse]
 exact this _ _
theorem matchL12 (up:Bool) (l:List NodeT) (hl:l.length≤1000) (hB:Back l):∀ (k:Nat) (i:Int),-1≤i→i+k=(l.length:Int)+1→Ev (fun n=>Z3L12 n ((up,(l,(i,()))),())) (.inl ((up,()),()))
 | 0,i,h0,h=>by
  refine Ev.of_eq 1 ?_
  simp (disch:=omega) only [Z3L12Eq,br_neg]
  exact Ev.pure _
 | k+1,i,h0,h=>by
  have ih:=matchL12 up l hl hB k (i+1) (by omega) (by omega)
  have hp:=pathTo_len l i
  refine Ev.of_eq 1 ?_
  simp (disch:=omega) only [Z3L12Eq,br_pos,w64]
  refine Ev.bind (pathEv l (by omega) hB i (by omega)) ?_
  refine Ev.bind (rpathEv l (by omega) hB i (by omega)) ?_
  refine Ev.bind ((sameMEv _ _ (by omega)).congr (decide_eq_true rfl)) ?_
  exact Ev.br_false rfl ih
theorem matchesEv {c:CellT} {w:Mo.StateT} {x y z:Int} (hx:0≤x∧x<256) (hy:0≤y∧y<256) (hz:0≤z∧z<256) :
  Ev (fun n=>(Z9 n).bind fun x377=>(Z10 n c w).bind fun x613=>(br (!x613) (some x377) ((Z11 n c w z).bind fun x614=>(Z12 n x614 w (((IntKind.i64.wrap x)).tmod (2:Int)) (IntKind.i64.wrap ((((IntKind.i64.wrap y)).tmod (20:Int))+(1:Int)))).bind fun x615=>(Z13 n x614 w (((IntKind.i64.wrap x)).tmod (2:Int)) (IntKind.i64.wrap ((((IntKind.i64.wrap y)).tmod (20:Int))+(1:Int)))).bind fun x925=>(Z12 n c w (((IntKind.i64.wrap x)).tmod (2:Int)) (IntKind.i64.wrap ((((IntKind.i64.wrap y)).tmod (12:Int))+(1:Int)))).bind fun x926=>(Z13 n c w (((IntKind.i64.wrap x)).tmod (2:Int)) (IntKind.i64.wrap ((((IntKind.i64.wrap y)).tmod (12:Int))+(1:Int)))).bind fun x927=>(Z14 n x615.1 x925.1).bind fun x933=>(br (!x933) (some false) (br (!(decide (x615.2=x925.2))) (some false) ((Z14 n x926.1 x927.1).bind fun x934=>(br (!x934) (some false) (br (!(decide (x926.2=x927.2))) (some false) ((Z3L12 n ((x377,(x615.1,((-1:Int),()))),())).bind fun l941=>(match l941 with | .inl y942=>some y942.1.1 | .inr y943=>some y943.1.1)))))))))) true:=by
 have w1:IntKind.i64.wrap x=x:=w64 (by omega) (by omega)
 have w2:IntKind.i64.wrap y=y:=w64 (by omega) (by omega)
 have b2:=tmB hy.1 (show (0:Int)<20 by decide)
 have b3:=tmB hy.1 (show (0:Int)<12 by decide)
 have w4:IntKind.i64.wrap (y.tmod 20+1)=y.tmod 20+1:=w64 (by omega) (by omega)
 have w5:IntKind.i64.wrap (y.tmod 12+1)=y.tmod 12+1:=w64 (by omega) (by omega)
 have ha:=who01 hx.1
 simp only[w1,w2,w4,w5]
 generalize hM:y.tmod 20+1=M at *
 generalize hN:y.tmod 12+1=N at *
 generalize hA:x.tmod 2=A at *
 refine Ev.bind headEv ?_
 obtain⟨b,f1,f2⟩:=fitsEv c w
 refine Ev.bind f1 ?_
 cases b with
 | false=>exact Ev.pure _
 | true =>
  obtain⟨hc',hw'⟩:=f2 rfl
  refine Ev.br_false rfl ?_
  refine Ev.bind (narrowEv hc' hw' hz) ?_
  obtain⟨hc,hw⟩:=narrow_ok hc' hw' (x:=z) hz.1
  generalize narrow c w z=d at *
  refine Ev.bind (exploreEv hc hw ha (by omega)) ?_
  refine Ev.bind (rgrowEv hc hw ha (by omega)) ?_
  refine Ev.bind (exploreEv hc' hw' ha (by omega)) ?_
  refine Ev.bind (rgrowEv hc' hw' ha (by omega)) ?_
  have E:=explored d w A (most:=M) (by omega)
  have E':=explored c w A (most:=N) (by omega)
  generalize explore d w A M=L at *
  generalize explore c w A N=K at *
  obtain⟨e1,e2⟩:=E.len
  obtain⟨e3,e4⟩:=E'.len
  refine Ev.bind ((sameNEv _ _ (by omega)).congr (decide_eq_true rfl)) ?_
  refine Ev.br_false rfl ?_
  refine Ev.br_false (by simp) ?_
  refine Ev.bind ((sameNEv _ _ (by omega)).congr (decide_eq_true rfl)) ?_
  refine Ev.br_false rfl ?_
  refine Ev.br_false (by simp) ?_
  refine Ev.bind (matchL12 true L.1 (by omega) (good_back E.good) (L.1.length+2) (-1) (by omega) (by omega)) ?_
  exact Ev.pure _
end Go.Rm
