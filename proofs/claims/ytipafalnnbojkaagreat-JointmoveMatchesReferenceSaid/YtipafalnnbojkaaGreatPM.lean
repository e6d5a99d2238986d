import Derived.Test.YtipafalnnbojkaaGreatPL
set_option linter.unusedVariables false
set_option linter.unusedSimpArgs false
set_option linter.unnecessarySimpa false
set_option linter.unusedSectionVars false
namespace Go.Jm
open Go Go.Am Go.Proofs Go.Hu Go.Mo
theorem letterTot (x:Int):Tot fun n=>Z181 n x:=Tot.of_eq 1 (by
 simp only[Z181Eq]
 exact Tot.br (Tot.br (Tot.pure _) (Tot.br (Tot.pure _) (Tot.pure _))) (Tot.br (Tot.pure _) (Tot.pure _)))
theorem byte_get (s:ByteArray) {i:Nat} (h:i<s.size):∃ b,s.data.toList[i]?=some b:=⟨_,List.getElem?_eq_getElem (by rw[Array.length_toList];exact h)⟩
theorem nameL4 (s:ByteArray) (hs:s.size≤12):∀ (k i:Nat),s.size≤i+k→i≤100 →
  ∃ y,Ev (fun n=>Z159L4 n ((s,(((i:Nat):Int),())),())) y∧(y=.inl ((),())∨y=.inr ((false,()),())):=by
 intro k
 induction k with
 | zero =>
  intro i h hi
  refine⟨_,Ev.of_eq 1 ?_,.inl rfl⟩
  simp (disch:=omega) only [Z159L4Eq,br_neg]
  exact Ev.pure _
 | succ k ih =>
  intro i h hi
  by_cases hlt:i<s.size
  ·rcases Nat.lt_or_ge i 100 with h100 | h100
   ·obtain⟨y,e,hy⟩:=ih (i+1) (by omega) (by omega)
    obtain⟨b,hb⟩:=byte_get s hlt
    obtain⟨v,hv⟩:=letterTot (b.toNat:Int)
    cases v with
    | true =>
     refine⟨y,Ev.of_eq 1 ?_,hy⟩
     simp (disch:=omega) only [Z159L4Eq,br_pos,Int.toNat_natCast,hb,Option.bind_some,wr1]
     exact Ev.bind hv e
    | false =>
     by_cases h95:(b.toNat:Int)=95
     ·refine⟨y,Ev.of_eq 1 ?_,hy⟩
      simp (disch:=omega) only [Z159L4Eq,br_pos,nbr_pos,Int.toNat_natCast,hb,Option.bind_some,wr1]
      refine Ev.bind hv ?_
      simp only[Bool.not_false,br_t]
      exact e
     ·by_cases h48:(b.toNat:Int)<48
      ·refine⟨_,Ev.of_eq 1 ?_,.inr rfl⟩
       simp (disch:=omega) only [Z159L4Eq,br_pos,nbr_neg,Int.toNat_natCast,hb,Option.bind_some,wr1]
       refine Ev.bind hv ?_
       simp only[Bool.not_false,br_t]
       exact Ev.pure _
      ·by_cases h57:57<(b.toNat:Int)
       ·refine⟨_,Ev.of_eq 1 ?_,.inr rfl⟩
        simp (disch:=omega) only [Z159L4Eq,br_pos,br_neg,nbr_neg,Int.toNat_natCast,hb,Option.bind_some,wr1]
        refine Ev.bind hv ?_
        simp only[Bool.not_false,br_t]
        exact Ev.pure _
       ·refine⟨y,Ev.of_eq 1 ?_,hy⟩
        simp (disch:=omega) only [Z159L4Eq,br_pos,br_neg,nbr_neg,Int.toNat_natCast,hb,Option.bind_some,wr1]
        refine Ev.bind hv ?_
        simp only[Bool.not_false,br_t]
        exact e
   ·omega
  ·refine⟨_,Ev.of_eq 1 ?_,.inl rfl⟩
   simp (disch:=omega) only [Z159L4Eq,br_neg]
   exact Ev.pure _
theorem nameTot (s:ByteArray):Tot fun n=>Z159 n s:=Tot.of_eq 1 (by
 simp only[Z159Eq]
 by_cases h1:((s.size:Nat):Int)<1
 ·simp only[br_pos h1];exact Tot.pure _
 by_cases h2:(12:Int)<((s.size:Nat):Int)
 ·simp only[br_neg h1,br_pos h2];exact Tot.pure _
 obtain⟨b,hb⟩:=byte_get s (i:=0) (by omega)
 have h0:(0:Int)≤0:=by omega
 have e0:(0:Int).toNat=0:=rfl
 simp only[br_neg h1,br_neg h2,br_pos h0,e0,hb,Option.bind_some]
 refine Tot.bind (letterTot _) fun v=>Tot.br (Tot.pure _) ?_
 obtain⟨y,e,hy⟩:=nameL4 s (by omega) s.size 1 (by omega) (by omega)
 rcases hy with rfl | rfl
 ·exact⟨_,Ev.bind e (Ev.pure _)⟩
 ·exact⟨_,Ev.bind e (Ev.pure _)⟩)
theorem namesL7 (l:List ByteArray) (hl:l.length≤1000) (i:Nat) (hi:i<l.length):∀ (k j:Nat),j+k=i →
  ∃ y,Ev (fun n=>Z117L7 n ((l,(((i:Nat):Int),(((j:Nat):Int),()))),())) y∧(y=.inl ((l,(((i:Nat):Int),())),())∨y=.inr ((false,()),())):=by
 intro k
 induction k with
 | zero =>
  intro j h
  refine⟨_,Ev.of_eq 1 ?_,.inl rfl⟩
  simp (disch:=omega) only [Z117L7Eq,br_neg]
  exact Ev.pure _
 | succ k ih =>
  intro j h
  obtain⟨y,e,hy⟩:=ih (j+1) (by omega)
  have g1:l[j]?=some l[j]:=List.getElem?_eq_getElem (by omega)
  have g2:l[i]?=some l[i]:=List.getElem?_eq_getElem hi
  cases hb:((l[j]).toList == (l[i]).toList) with
  | true =>
   refine⟨_,Ev.of_eq 1 ?_,.inr rfl⟩
   simp (disch:=omega) only [Z117L7Eq,br_pos,Int.toNat_natCast,g1,g2,Option.bind_some,hb,br_t]
   exact Ev.pure _
  | false =>
   refine⟨y,Ev.of_eq 1 ?_,hy⟩
   simp (disch:=omega) only [Z117L7Eq,br_pos,Int.toNat_natCast,g1,g2,Option.bind_some,hb,br_f,wr1]
   exact e
theorem namesL2 (l:List ByteArray) (hl:l.length≤1000):∀ (k i:Nat),i+k=l.length →
  ∃ y,Ev (fun n=>Z117L2 n ((l,(((i:Nat):Int),())),())) y∧(y=.inl ((),())∨y=.inr ((false,()),())):=by
 intro k
 induction k with
 | zero =>
  intro i h
  refine⟨_,Ev.of_eq 1 ?_,.inl rfl⟩
  simp (disch:=omega) only [Z117L2Eq,br_neg]
  exact Ev.pure _
 | succ k ih =>
  intro i h
  obtain⟨y,e,hy⟩:=ih (i+1) (by omega)
  have g2:l[i]?=some l[i]:=List.getElem?_eq_getElem (by omega)
  obtain⟨v,hv⟩:=nameTot l[i]
  obtain⟨z,ez,hz⟩:=namesL7 l hl i (by omega) i 0 (by omega)
  cases v with
  | false =>
   refine⟨_,Ev.of_eq 1 ?_,.inr rfl⟩
   simp (disch:=omega) only [Z117L2Eq,br_pos,Int.toNat_natCast,g2,Option.bind_some]
   exact Ev.bind hv (Ev.pure _)
  | true =>
   rcases hz with rfl | rfl
   ·refine⟨y,Ev.of_eq 1 ?_,hy⟩
    simp (disch:=omega) only [Z117L2Eq,br_pos,Int.toNat_natCast,g2,Option.bind_some]
    refine Ev.bind hv ?_
    simp only[Bool.not_true,br_f]
    refine Ev.bind ez ?_
    simp (disch:=omega) only [wr1]
    exact e
   ·refine⟨_,Ev.of_eq 1 ?_,.inr rfl⟩
    simp (disch:=omega) only [Z117L2Eq,br_pos,Int.toNat_natCast,g2,Option.bind_some]
    refine Ev.bind hv ?_
    simp only[Bool.not_true,br_f]
    exact Ev.bind ez (Ev.pure _)
theorem namesTot (l:List ByteArray) (hl:l.length≤1000):Tot fun n=>Z117 n l:=Tot.of_eq 1 (by
 simp only[Z117Eq]
 obtain⟨y,e,hy⟩:=namesL2 l hl l.length 0 (by omega)
 rcases hy with rfl | rfl
 ·exact⟨_,Ev.bind e (Ev.pure _)⟩
 ·exact⟨_,Ev.bind e (Ev.pure _)⟩)
theorem unlikeL7 (l:List Int) (m:Int) (hl:l.length≤1000) (i:Nat) (hi:i<l.length):∀ (k j:Nat),j+k=i →
  ∃ y,Ev (fun n=>Z77L7 n ((l,(m,(((i:Nat):Int),(((j:Nat):Int),())))),())) y∧(y=.inl ((l,(m,(((i:Nat):Int),()))),())∨y=.inr ((false,()),())):=by
 intro k
 induction k with
 | zero =>
  intro j h
  refine⟨_,Ev.of_eq 1 ?_,.inl rfl⟩
  simp (disch:=omega) only [Z77L7Eq,br_neg]
  exact Ev.pure _
 | succ k ih =>
  intro j h
  obtain⟨y,e,hy⟩:=ih (j+1) (by omega)
  have g1:l[j]?=some l[j]:=List.getElem?_eq_getElem (by omega)
  have g2:l[i]?=some l[i]:=List.getElem?_eq_getElem hi
  by_cases hb:l[j]=l[i]
  ·refine⟨_,Ev.of_eq 1 ?_,.inr rfl⟩
   simp (disch:=omega) only [Z77L7Eq,br_pos,Int.toNat_natCast,g1,g2,Option.bind_some,br_pos hb]
   exact Ev.pure _
  ·refine⟨y,Ev.of_eq 1 ?_,hy⟩
   simp (disch:=omega) only [Z77L7Eq,br_pos,Int.toNat_natCast,g1,g2,Option.bind_some,br_neg hb,wr1]
   exact e
theorem unlikeL2 (l:List Int) (m:Int) (hl:l.length≤1000):∀ (k i:Nat),i+k=l.length →
  ∃ y,Ev (fun n=>Z77L2 n ((l,(m,(((i:Nat):Int),()))),())) y∧(y=.inl ((),())∨y=.inr ((false,()),())):=by
 intro k
 induction k with
 | zero =>
  intro i h
  refine⟨_,Ev.of_eq 1 ?_,.inl rfl⟩
  simp (disch:=omega) only [Z77L2Eq,br_neg]
  exact Ev.pure _
 | succ k ih =>
  intro i h
  obtain⟨y,e,hy⟩:=ih (i+1) (by omega)
  have g2:l[i]?=some l[i]:=List.getElem?_eq_getElem (by omega)
  obtain⟨z,ez,hz⟩:=unlikeL7 l m hl i (by omega) i 0 (by omega)
  by_cases h1:l[i]<0
  ·refine⟨_,Ev.of_eq 1 ?_,.inr rfl⟩
   simp (disch:=omega) only [Z77L2Eq,br_pos,Int.toNat_natCast,g2,Option.bind_some,br_pos h1]
   exact Ev.pure _
  by_cases h2:m≤l[i]
  ·refine⟨_,Ev.of_eq 1 ?_,.inr rfl⟩
   simp (disch:=omega) only [Z77L2Eq,br_pos,Int.toNat_natCast,g2,Option.bind_some,br_neg h1,br_pos h2]
   exact Ev.pure _
  rcases hz with rfl | rfl
  ·refine⟨y,Ev.of_eq 1 ?_,hy⟩
   simp (disch:=omega) only [Z77L2Eq,br_pos,Int.toNat_natCast,g2,Option.bind_some,br_neg h1,br_neg h2]
   refine Ev.bind ez ?_
   simp (disch:=omega) only [wr1]
   exact e
  ·refine⟨_,Ev.of_eq 1 ?_,.inr rfl⟩
   simp (disch:=omega) only [Z77L2Eq,br_pos,Int.toNat_natCast,g2,Option.bind_some,br_neg h1,br_neg h2]
   exact Ev.bind ez (Ev.pure _)
theorem unlikeTot (l:List Int) (m:Int) (hl:l.length≤1000):Tot fun n=>Z77 n l m:=Tot.of_eq 1 (by
 simp only[Z77Eq]
 obtain⟨y,e,hy⟩:=unlikeL2 l m hl l.length 0 (by omega)
 rcases hy with rfl | rfl
 ·exact⟨_,Ev.bind e (Ev.pure _)⟩
 ·exact⟨_,Ev.bind e (Ev.pure _)⟩)
theorem boundedTot (l:LimT):Tot fun n=>Z72 n l:=Tot.of_eq 1 (by
 simp only[Z72Eq]
 exact Tot.br (Tot.br (Tot.br (Tot.br (Tot.br (Tot.pure _) (Tot.pure _)) (Tot.pure _)) (Tot.pure _)) (Tot.pure _)) (Tot.pure _))
theorem areasL3 (c:CellT) (hl:c.2.2.2.2.2.2.2.2.2.1.length≤1000):∀ (r:List (List Pt)) (i:Nat) (out:List (List Pt)),c.2.2.2.2.2.2.2.2.2.1.drop i=r→i≤c.2.2.2.2.2.2.2.2.2.1.length→out.length≤i →
  Ev (fun n=>Z74L3 n (((),(out,(((i:Nat):Int),()))),((c,()),()))) ((out ++ r,()),()):=by
 intro r
 induction r with
 | nil =>
  intro i out h hi ho
  have:=gdrop_nil h
  refine Ev.of_eq 1 ?_
  simp (disch:=omega) only [Z74L3Eq,br_neg]
  exact (Ev.pure _).congr (by simp)
 | cons p r ih =>
  intro i out h hi ho
  obtain⟨g1,g2,g3⟩:=gdrop h
  have hcap:(out.length + [p].length)*24≤140737488355328:=by simp only[List.length_cons,List.length_nil];omega
  refine Ev.of_eq 1 ?_
  simp (disch:=omega) only [Z74L3Eq,br_pos,Int.toNat_natCast,g1,Option.bind_some,wr1,br_pos hcap]
  refine (ih (i+1) (out ++ [p]) g2 (by omega) (by simp;omega)).congr ?_
  simp
theorem areasEv (c:CellT) (hl:c.2.2.2.2.2.2.2.2.2.1.length≤1000):Ev (fun n=>Z74 n c) c.2.2.2.2.2.2.2.2.2.1:=by
 refine Ev.of_eq 1 ?_
 simp only[Z74Eq]
 refine Ev.bind (areasL3 c hl c.2.2.2.2.2.2.2.2.2.1 0 [] rfl (Nat.zero_le _) (Nat.le_refl _)) ?_
 exact (Ev.pure _).congr (by simp)
end Go.Jm
namespace Go.Jm
open Go Go.Am Go.Proofs Go.Hu Go.Mo
theorem side2Tot (a b c:Pt):Tot fun n=>Z160 n a b c:=Tot.of_eq 2 (by
 simp only[Z160Eq,Z182Eq,Option.bind_some]
 exact Tot.br (Tot.pure _) (Tot.br (Tot.pure _) (Tot.pure _)))
theorem shapeL9 (p:List Pt) (hl:p.length≤12) (i:Nat) (hi:i<p.length):∀ (k j:Nat),j+k=p.length →
  ∃ y,Ev (fun n=>Z118L9 n ((p,(((i:Nat):Int),(((j:Nat):Int),()))),())) y∧(y=.inl ((p,(((i:Nat):Int),())),())∨y=.inr ((false,()),())):=by
 intro k
 induction k with
 | zero =>
  intro j h
  refine⟨_,Ev.of_eq 1 ?_,.inl rfl⟩
  simp (disch:=omega) only [Z118L9Eq,br_neg]
  exact Ev.pure _
 | succ k ih =>
  intro j h
  obtain⟨y,e,hy⟩:=ih (j+1) (by omega)
  have g1:=at_get (l:=p) (i:=i) hi
  have g2:=at_get (l:=p) (i:=nx p i) (nx_lt (by omega) i)
  have g3:=at_get (l:=p) (i:=j) (by omega)
  have en:=tm_nx p i (by omega)
  obtain⟨v,hv⟩:=side2Tot (at_ p i) (at_ p (nx p i)) (at_ p j)
  by_cases h0:v<0
  ·refine⟨_,Ev.of_eq 1 ?_,.inr rfl⟩
   simp (disch:=omega) only [Z118L9Eq,br_pos,br_neg,Int.toNat_natCast,g1,en,g2,g3,Option.bind_some]
   refine Ev.bind hv ?_
   simp only[br_pos h0]
   exact Ev.pure _
  ·refine⟨y,Ev.of_eq 1 ?_,hy⟩
   simp (disch:=omega) only [Z118L9Eq,br_pos,br_neg,Int.toNat_natCast,g1,en,g2,g3,Option.bind_some]
   refine Ev.bind hv ?_
   simp only[br_neg h0]
   simp (disch:=omega) only [wr1]
   exact e
theorem shapeL4 (p:List Pt) (hl:p.length≤12):∀ (r:List Pt) (i:Nat),p.drop i=r→i≤p.length →
  ∃ y,Ev (fun n=>Z118L4 n ((p,(((i:Nat):Int),())),())) y∧((y=.inl ((),())∧∀ x∈r,Bb 10 x)∨y=.inr ((false,()),())):=by
 intro r
 induction r with
 | nil =>
  intro i h hi
  have:=gdrop_nil h
  refine⟨_,Ev.of_eq 1 ?_,.inl ⟨rfl,fun x hx=>by cases hx⟩⟩
  simp (disch:=omega) only [Z118L4Eq,br_neg]
  exact Ev.pure _
 | cons x r ih =>
  intro i h hi
  obtain⟨g1,g2,g3⟩:=gdrop h
  obtain⟨y,e,hy⟩:=ih (i+1) g2 (by omega)
  obtain⟨z,ez,hz⟩:=shapeL9 p hl i g3 p.length 0 (by omega)
  by_cases h1:x.1 < -10
  ·refine⟨_,Ev.of_eq 1 ?_,.inr rfl⟩
   simp (disch:=omega) only [Z118L4Eq,br_pos,Int.toNat_natCast,g1,Option.bind_some]
   exact Ev.pure _
  by_cases h2:10<x.1
  ·refine⟨_,Ev.of_eq 1 ?_,.inr rfl⟩
   simp (disch:=omega) only [Z118L4Eq,br_pos,br_neg,Int.toNat_natCast,g1,Option.bind_some]
   exact Ev.pure _
  by_cases h3:x.2 < -10
  ·refine⟨_,Ev.of_eq 1 ?_,.inr rfl⟩
   simp (disch:=omega) only [Z118L4Eq,br_pos,br_neg,Int.toNat_natCast,g1,Option.bind_some]
   exact Ev.pure _
  by_cases h4:10<x.2
  ·refine⟨_,Ev.of_eq 1 ?_,.inr rfl⟩
   simp (disch:=omega) only [Z118L4Eq,br_pos,br_neg,Int.toNat_natCast,g1,Option.bind_some]
   exact Ev.pure _
  rcases hz with rfl | rfl
  ·refine⟨y,Ev.of_eq 1 ?_,?_⟩
   ·simp (disch:=omega) only [Z118L4Eq,br_pos,br_neg,Int.toNat_natCast,g1,Option.bind_some]
    refine Ev.bind ez ?_
    simp (disch:=omega) only [wr1]
    exact e
   ·rcases hy with ⟨h5,h6⟩ | h5
    ·exact .inl ⟨h5,fun q hq=>by
      rcases List.mem_cons.1 hq with rfl | hq
      ·unfold Bb;omega
      ·exact h6 q hq⟩
    ·exact .inr h5
  ·refine⟨_,Ev.of_eq 1 ?_,.inr rfl⟩
   simp (disch:=omega) only [Z118L4Eq,br_pos,br_neg,Int.toNat_natCast,g1,Option.bind_some]
   exact Ev.bind ez (Ev.pure _)
theorem shapeEv (p:List Pt):∃ b,Ev (fun n=>Z118 n p) b∧(b=true→p.length≤4∧∀ x∈p,Bb 10 x):=by
 by_cases h1:(4:Int)<((p.length:Nat):Int)
 ·refine⟨false,Ev.of_eq 1 ?_,fun e=>by cases e⟩
  simp only[Z118Eq,br_pos h1];exact Ev.pure _
 obtain⟨b,hb,-⟩:=polyEv p
 obtain⟨y,e,hy⟩:=shapeL4 p (by omega) p 0 rfl (Nat.zero_le _)
 cases b with
 | false =>
  refine⟨false,Ev.of_eq 1 ?_,fun e=>by cases e⟩
  simp only[Z118Eq,br_neg h1]
  exact Ev.bind hb (Ev.pure _)
 | true =>
  rcases hy with ⟨rfl,h2⟩ | rfl
  ·refine⟨true,Ev.of_eq 1 ?_,fun _=>⟨by omega,h2⟩⟩
   simp only[Z118Eq,br_neg h1]
   refine Ev.bind hb ?_
   simp only[Bool.not_true,br_f]
   exact Ev.bind e (Ev.pure _)
  ·refine⟨false,Ev.of_eq 1 ?_,fun e=>by cases e⟩
   simp only[Z118Eq,br_neg h1]
   refine Ev.bind hb ?_
   simp only[Bool.not_true,br_f]
   exact Ev.bind e (Ev.pure _)
theorem partsL4 (l:List PartT) (m:Int) (hl:l.length≤8):∀ (r:List PartT) (i:Nat) (a:List ByteArray) (b:List Int),l.drop i=r→i≤l.length→a.length≤i→b.length≤i →
  ∃ y,Ev (fun n=>Z76L4 n ((l,(m,(a,(b,(((i:Nat):Int),()))))),())) y∧((∃ a' b',y=.inl ((l,(m,(a',(b',())))),())∧a'.length≤8∧b'.length≤8∧∀ p∈r,p.2.1.length≤4∧∀ x∈p.2.1,Bb 10 x)∨y=.inr ((false,()),())):=by
 intro r
 induction r with
 | nil =>
  intro i a b h hi ha hb
  have:=gdrop_nil h
  refine⟨_,Ev.of_eq 1 ?_,.inl ⟨a,b,rfl,by omega,by omega,fun p hp=>by cases hp⟩⟩
  simp (disch:=omega) only [Z76L4Eq,br_neg]
  exact Ev.pure _
 | cons p r ih =>
  intro i a b h hi ha hb
  obtain⟨g1,g2,g3⟩:=gdrop h
  obtain⟨v,hv,hvt⟩:=shapeEv p.2.1
  obtain⟨y,e,hy⟩:=ih (i+1) (a ++ [p.1]) (b ++ [p.2.2]) g2 (by omega) (by simp;omega) (by simp;omega)
  have c1:(a.length + [p.1].length)*16≤140737488355328:=by simp only[List.length_cons,List.length_nil];omega
  have c2:(b.length + [p.2.2].length)*8≤140737488355328:=by simp only[List.length_cons,List.length_nil];omega
  cases v with
  | false =>
   refine⟨_,Ev.of_eq 1 ?_,.inr rfl⟩
   simp (disch:=omega) only [Z76L4Eq,br_pos,Int.toNat_natCast,g1,Option.bind_some,br_pos c1,br_pos c2]
   exact Ev.bind hv (Ev.pure _)
  | true =>
   refine⟨y,Ev.of_eq 1 ?_,?_⟩
   ·simp (disch:=omega) only [Z76L4Eq,br_pos,Int.toNat_natCast,g1,Option.bind_some,br_pos c1,br_pos c2,wr1]
    refine Ev.bind hv ?_
    simp only[Bool.not_true,br_f]
    exact e
   ·rcases hy with ⟨a',b',h1,h2,h3,h4⟩ | h1
    ·exact .inl ⟨a',b',h1,h2,h3,fun q hq=>by
      rcases List.mem_cons.1 hq with rfl | hq
      ·exact hvt rfl
      ·exact h4 q hq⟩
    ·exact .inr h1
theorem partsOkEv (l:List PartT) (m:Int) (hl:l.length≤8):∃ b,Ev (fun n=>Z76 n l m) b∧(b=true→∀ p∈l,p.2.1.length≤4∧∀ x∈p.2.1,Bb 10 x):=by
 obtain⟨y,e,hy⟩:=partsL4 l m hl l 0 [] [] rfl (Nat.zero_le _) (Nat.le_refl _) (Nat.le_refl _)
 rcases hy with ⟨a',b',rfl,h2,h3,h4⟩ | rfl
 ·obtain⟨v,hv⟩:=namesTot a' (by omega)
  obtain⟨u,hu⟩:=unlikeTot b' m (by omega)
  have c1:((l.length:Nat):Int)≤8:=by omega
  cases v with
  | false =>
   refine⟨false,Ev.of_eq 1 ?_,fun e=>by cases e⟩
   simp only[Z76Eq]
   refine Ev.bind e ?_
   simp only[br_pos c1]
   exact Ev.bind hv (Ev.pure _)
  | true =>
   refine⟨u,Ev.of_eq 1 ?_,fun _=>h4⟩
   simp only[Z76Eq]
   refine Ev.bind e ?_
   simp only[br_pos c1]
   refine Ev.bind hv ?_
   simp only[br_t]
   exact Ev.bind hu (Ev.pure _)
 ·refine⟨false,Ev.of_eq 1 ?_,fun e=>by cases e⟩
  simp only[Z76Eq]
  exact Ev.bind e (Ev.pure _)
end Go.Jm
namespace Go.Jm
open Go Go.Am Go.Proofs Go.Hu Go.Mo
theorem dirEv (d:Dir):∃ b,Ev (fun n=>Z116 n d) b∧(b=true→DirOk d.2.2 d):=by
 by_cases h1:d.2.2<0
 ·refine⟨false,Ev.of_eq 1 ?_,fun e=>by cases e⟩
  simp only[Z116Eq,br_pos h1];exact Ev.pure _
 by_cases h2:3<d.2.2
 ·refine⟨false,Ev.of_eq 1 ?_,fun e=>by cases e⟩
  simp only[Z116Eq,br_neg h1,br_pos h2];exact Ev.pure _
 have hp:=pow65_pos d.2.2
 have hpw:=rpowEv (m:=d.2.2) (by omega)
 have e0:IntKind.i64.wrap (0-pow65 d.2.2) = -pow65 d.2.2:=by rw[w64 (by omega) (by omega)];omega
 by_cases g1:-pow65 d.2.2≤d.1
 ·by_cases g2:d.1≤pow65 d.2.2
  ·by_cases g3:-pow65 d.2.2≤d.2.1
   ·by_cases g4:d.2.1≤pow65 d.2.2
    ·have hx:=mul_bd2 (a:=d.1) (b:=d.1) (A:=274625) (B:=274625) (by omega) (by omega)
     have hy:=mul_bd2 (a:=d.2.1) (b:=d.2.1) (A:=274625) (B:=274625) (by omega) (by omega)
     have hz:=mul_bd2 (a:=pow65 d.2.2) (b:=pow65 d.2.2) (A:=274625) (B:=274625) (by omega) (by omega)
     refine⟨decide (d.1*d.1+d.2.1*d.2.1=pow65 d.2.2*pow65 d.2.2),Ev.of_eq 1 ?_,fun e=>⟨rfl,by omega,by simpa using e⟩⟩
     simp only[Z116Eq,br_neg h1,br_neg h2]
     refine Ev.bind hpw ?_
     simp only[e0,br_pos g1,br_pos g2,br_pos g3,br_pos g4]
     rw[w64 (n:=d.1*d.1) (by omega) (by omega),w64 (n:=d.2.1*d.2.1) (by omega) (by omega),w64 (n:=d.1*d.1+d.2.1*d.2.1) (by omega) (by omega),w64 (n:=pow65 d.2.2*pow65 d.2.2) (by omega) (by omega)]
     exact Ev.pure _
    ·refine⟨false,Ev.of_eq 1 ?_,fun e=>by cases e⟩
     simp only[Z116Eq,br_neg h1,br_neg h2]
     refine Ev.bind hpw ?_
     simp only[e0,br_pos g1,br_pos g2,br_pos g3,br_neg g4];exact Ev.pure _
   ·refine⟨false,Ev.of_eq 1 ?_,fun e=>by cases e⟩
    simp only[Z116Eq,br_neg h1,br_neg h2]
    refine Ev.bind hpw ?_
    simp only[e0,br_pos g1,br_pos g2,br_neg g3];exact Ev.pure _
  ·refine⟨false,Ev.of_eq 1 ?_,fun e=>by cases e⟩
   simp only[Z116Eq,br_neg h1,br_neg h2]
   refine Ev.bind hpw ?_
   simp only[e0,br_pos g1,br_neg g2];exact Ev.pure _
 ·refine⟨false,Ev.of_eq 1 ?_,fun e=>by cases e⟩
  simp only[Z116Eq,br_neg h1,br_neg h2]
  refine Ev.bind hpw ?_
  simp only[e0,br_neg g1];exact Ev.pure _
theorem placesL3 (l:List PlaceT) (hl:l.length≤1000):∀ (r:List PlaceT) (i:Nat) (a:List ByteArray),l.drop i=r→i≤l.length→a.length≤i →
  ∃ y,Ev (fun n=>Z75L3 n ((l,(a,(((i:Nat):Int),()))),())) y∧((∃ a',y=.inl ((l,(a',())),())∧a'.length≤1000∧∀ p∈r,Bb 439400000 p.2.1∧DirOk 3 p.2.2)∨y=.inr ((false,()),())):=by
 intro r
 induction r with
 | nil =>
  intro i a h hi ha
  have:=gdrop_nil h
  refine⟨_,Ev.of_eq 1 ?_,.inl ⟨a,rfl,by omega,fun p hp=>by cases hp⟩⟩
  simp (disch:=omega) only [Z75L3Eq,br_neg]
  exact Ev.pure _
 | cons p r ih =>
  intro i a h hi ha
  obtain⟨g1,g2,g3⟩:=gdrop h
  obtain⟨v,hv,hvt⟩:=dirEv p.2.2
  obtain⟨y,e,hy⟩:=ih (i+1) (a ++ [p.1]) g2 (by omega) (by simp;omega)
  have c1:(a.length + [p.1].length)*16≤140737488355328:=by simp only[List.length_cons,List.length_nil];omega
  by_cases m1:p.2.1.1.tmod 16=0
  rotate_left
  ·refine⟨_,Ev.of_eq 1 ?_,.inr rfl⟩
   simp (disch:=omega) only [Z75L3Eq,br_pos,Int.toNat_natCast,g1,Option.bind_some,br_pos c1,nbr_neg m1]
   exact Ev.pure _
  by_cases m2:p.2.1.2.tmod 16=0
  rotate_left
  ·refine⟨_,Ev.of_eq 1 ?_,.inr rfl⟩
   simp (disch:=omega) only [Z75L3Eq,br_pos,Int.toNat_natCast,g1,Option.bind_some,br_pos c1,nbr_pos m1,nbr_neg m2]
   exact Ev.pure _
  by_cases m3:(373490000:Int)<(if decide (p.2.1.1<p.2.1.2)=true then p.2.1.2 else p.2.1.1)
  ·refine⟨_,Ev.of_eq 1 ?_,.inr rfl⟩
   simp (disch:=omega) only [Z75L3Eq,br_pos,Int.toNat_natCast,g1,Option.bind_some,br_pos c1,nbr_pos m1,nbr_pos m2,br_pos m3]
   exact Ev.pure _
  by_cases m4:(if decide (p.2.1.2<p.2.1.1)=true then p.2.1.2 else p.2.1.1)<(-373490000:Int)
  ·refine⟨_,Ev.of_eq 1 ?_,.inr rfl⟩
   simp (disch:=omega) only [Z75L3Eq,br_pos,Int.toNat_natCast,g1,Option.bind_some,br_pos c1,nbr_pos m1,nbr_pos m2,br_neg m3,br_pos m4]
   exact Ev.pure _
  by_cases m5:p.2.2.2.2=3
  rotate_left
  ·refine⟨_,Ev.of_eq 1 ?_,.inr rfl⟩
   simp (disch:=omega) only [Z75L3Eq,br_pos,Int.toNat_natCast,g1,Option.bind_some,br_pos c1,nbr_pos m1,nbr_pos m2,br_neg m3,br_neg m4,nbr_neg m5]
   exact Ev.pure _
  cases v with
  | false =>
   refine⟨_,Ev.of_eq 1 ?_,.inr rfl⟩
   simp (disch:=omega) only [Z75L3Eq,br_pos,Int.toNat_natCast,g1,Option.bind_some,br_pos c1,nbr_pos m1,nbr_pos m2,br_neg m3,br_neg m4,nbr_pos m5]
   exact Ev.bind hv (Ev.pure _)
  | true =>
   refine⟨y,Ev.of_eq 1 ?_,?_⟩
   ·simp (disch:=omega) only [Z75L3Eq,br_pos,Int.toNat_natCast,g1,Option.bind_some,br_pos c1,nbr_pos m1,nbr_pos m2,br_neg m3,br_neg m4,nbr_pos m5,wr1]
    refine Ev.bind hv ?_
    simp only[Bool.not_true,br_f]
    exact e
   ·rcases hy with ⟨a',h1,h2,h3⟩ | h1
    ·exact .inl ⟨a',h1,h2,fun q hq=>by
      rcases List.mem_cons.1 hq with rfl | hq
      ·refine⟨?_,by have:=hvt rfl;rw[m5] at this;exact this⟩
       simp only[decide_eq_true_eq] at m3 m4
       unfold Bb
       split at m3 <;> split at m4 <;> omega
      ·exact h3 q hq⟩
    ·exact .inr h1
theorem placesEv (l:List PlaceT) (hl:l.length≤16):∃ b,Ev (fun n=>Z75 n l) b∧(b=true→∀ p∈l,Bb 439400000 p.2.1∧DirOk 3 p.2.2):=by
 obtain⟨y,e,hy⟩:=placesL3 l (by omega) l 0 [] rfl (Nat.zero_le _) (Nat.le_refl _)
 have c1:((l.length:Nat):Int)≤16:=by omega
 rcases hy with ⟨a',rfl,h2,h3⟩ | rfl
 ·obtain⟨v,hv⟩:=namesTot a' h2
  refine⟨v,Ev.of_eq 1 ?_,fun _=>h3⟩
  simp only[Z75Eq]
  refine Ev.bind e ?_
  simp only[br_pos c1]
  exact Ev.bind hv (Ev.pure _)
 ·refine⟨false,Ev.of_eq 1 ?_,fun e=>by cases e⟩
  simp only[Z75Eq]
  exact Ev.bind e (Ev.pure _)
end Go.Jm
namespace Go.Jm
open Go Go.Am Go.Proofs Go.Hu Go.Mo
theorem farTot (a:ArmT):∃ b,Ev (fun n=>Z113 n a) b∧(b=false→Bb 1000000000 a.1):=by
 by_cases h1:(1000000000:Int)<a.1.1
 ·refine⟨true,Ev.of_eq 1 ?_,fun e=>by cases e⟩
  simp only[Z113Eq,br_pos h1];exact Ev.pure _
 by_cases h2:a.1.1<(-1000000000:Int)
 ·refine⟨true,Ev.of_eq 1 ?_,fun e=>by cases e⟩
  simp only[Z113Eq,br_neg h1,br_pos h2];exact Ev.pure _
 by_cases h3:(1000000000:Int)<a.1.2
 ·refine⟨true,Ev.of_eq 1 ?_,fun e=>by cases e⟩
  simp only[Z113Eq,br_neg h1,br_neg h2,br_pos h3];exact Ev.pure _
 refine⟨decide (a.1.2<(-1000000000:Int)),Ev.of_eq 1 ?_,fun e=>?_⟩
 ·simp only[Z113Eq,br_neg h1,br_neg h2,br_neg h3];exact Ev.pure _
 ·rw[decide_eq_false_iff_not] at e
  unfold Bb;omega
theorem sizeEv {x:Int} (h:-1000000000≤x∧x≤1000000000):Ev (fun n=>Z114 n x) (if x<0 then -x else x):=by
 refine Ev.of_eq 1 ?_
 by_cases h1:x<0
 ·simp (disch:=omega) only [Z114Eq,br_pos h1,w64,if_pos h1]
  exact (Ev.pure _).congr (by omega)
 ·simp only[Z114Eq,br_neg h1,if_neg h1]
  exact Ev.pure _
def ArmR (a:ArmT):Prop:=Bb 439400000 a.1∧((1≤a.2.1.1∧a.2.1.1≤40)∧(1≤a.2.1.2.1∧a.2.1.2.1≤40)∧(1≤a.2.1.2.2∧a.2.1.2.2≤40))∧(1≤a.2.2.1∧a.2.2.1≤4) ∧
 ((-17≤a.2.2.2.1.1∧a.2.2.2.1.1≤18)∧(-17≤a.2.2.2.1.2.1∧a.2.2.2.1.2.1≤18)∧(-17≤a.2.2.2.1.2.2∧a.2.2.2.1.2.2≤18)) ∧
 ((-17≤a.2.2.2.2.1∧a.2.2.2.2.1≤18)∧(-17≤a.2.2.2.2.2.1∧a.2.2.2.2.2.1≤18)∧(-17≤a.2.2.2.2.2.2∧a.2.2.2.2.2.2≤18))
theorem armEv (a:ArmT):∃ b,Ev (fun n=>Z71 n a) b∧(b=true→ArmR a):=by
 obtain⟨v,hv,hvf⟩:=farTot a
 cases v with
 | true =>
  refine⟨false,Ev.of_eq 1 ?_,fun e=>by cases e⟩
  simp only[Z71Eq]
  exact Ev.bind hv (Ev.pure _)
 | false =>
 have hb:=hvf rfl
 unfold Bb at hb
 by_cases h0:a.2.2.1<(1:Int)
 ·refine⟨false,Ev.of_eq 1 ?_,fun e=>by cases e⟩
  simp only[Z71Eq]
  refine Ev.bind hv ?_
  simp only[br_f,br_pos h0]
  exact Ev.pure _
 by_cases h1:(4:Int)<a.2.2.1
 ·refine⟨false,Ev.of_eq 1 ?_,fun e=>by cases e⟩
  simp only[Z71Eq]
  refine Ev.bind hv ?_
  simp only[br_f,br_neg h0,br_pos h1]
  exact Ev.pure _
 by_cases h2:((a.1.1).tmod (16:Int))=(0:Int)
 rotate_left
 ·refine⟨false,Ev.of_eq 1 ?_,fun e=>by cases e⟩
  simp only[Z71Eq]
  refine Ev.bind hv ?_
  simp only[br_f,br_neg h0,br_neg h1,nbr_neg h2]
  exact Ev.pure _
 by_cases h3:((a.1.2).tmod (16:Int))=(0:Int)
 rotate_left
 ·refine⟨false,Ev.of_eq 1 ?_,fun e=>by cases e⟩
  simp only[Z71Eq]
  refine Ev.bind hv ?_
  simp only[br_f,br_neg h0,br_neg h1,nbr_pos h2,nbr_neg h3]
  exact Ev.pure _
 by_cases h4:a.2.1.1<(1:Int)
 ·refine⟨false,Ev.of_eq 1 ?_,fun e=>by cases e⟩
  simp only[Z71Eq]
  refine Ev.bind hv ?_
  simp only[br_f,br_neg h0,br_neg h1,nbr_pos h2,nbr_pos h3,br_pos h4]
  exact Ev.pure _
 by_cases h5:(40:Int)<a.2.1.1
 ·refine⟨false,Ev.of_eq 1 ?_,fun e=>by cases e⟩
  simp only[Z71Eq]
  refine Ev.bind hv ?_
  simp only[br_f,br_neg h0,br_neg h1,nbr_pos h2,nbr_pos h3,br_neg h4,br_pos h5]
  exact Ev.pure _
 by_cases h6:a.2.2.2.1.1<(-17:Int)
 ·refine⟨false,Ev.of_eq 1 ?_,fun e=>by cases e⟩
  simp only[Z71Eq]
  refine Ev.bind hv ?_
  simp only[br_f,br_neg h0,br_neg h1,nbr_pos h2,nbr_pos h3,br_neg h4,br_neg h5,br_pos h6]
  exact Ev.pure _
 by_cases h7:(18:Int)<a.2.2.2.1.1
 ·refine⟨false,Ev.of_eq 1 ?_,fun e=>by cases e⟩
  simp only[Z71Eq]
  refine Ev.bind hv ?_
  simp only[br_f,br_neg h0,br_neg h1,nbr_pos h2,nbr_pos h3,br_neg h4,br_neg h5,br_neg h6,br_pos h7]
  exact Ev.pure _
 by_cases h8:a.2.2.2.2.1<(-17:Int)
 ·refine⟨false,Ev.of_eq 1 ?_,fun e=>by cases e⟩
  simp only[Z71Eq]
  refine Ev.bind hv ?_
  simp only[br_f,br_neg h0,br_neg h1,nbr_pos h2,nbr_pos h3,br_neg h4,br_neg h5,br_neg h6,br_neg h7,br_pos h8]
  exact Ev.pure _
 by_cases h9:(18:Int)<a.2.2.2.2.1
 ·refine⟨false,Ev.of_eq 1 ?_,fun e=>by cases e⟩
  simp only[Z71Eq]
  refine Ev.bind hv ?_
  simp only[br_f,br_neg h0,br_neg h1,nbr_pos h2,nbr_pos h3,br_neg h4,br_neg h5,br_neg h6,br_neg h7,br_neg h8,br_pos h9]
  exact Ev.pure _
 by_cases h10:a.2.2.2.2.1<a.2.2.2.1.1
 ·refine⟨false,Ev.of_eq 1 ?_,fun e=>by cases e⟩
  simp only[Z71Eq]
  refine Ev.bind hv ?_
  simp only[br_f,br_neg h0,br_neg h1,nbr_pos h2,nbr_pos h3,br_neg h4,br_neg h5,br_neg h6,br_neg h7,br_neg h8,br_neg h9,br_pos h10]
  exact Ev.pure _
 by_cases h11:a.2.1.2.1<(1:Int)
 ·refine⟨false,Ev.of_eq 1 ?_,fun e=>by cases e⟩
  simp only[Z71Eq]
  refine Ev.bind hv ?_
  simp only[br_f,br_neg h0,br_neg h1,nbr_pos h2,nbr_pos h3,br_neg h4,br_neg h5,br_neg h6,br_neg h7,br_neg h8,br_neg h9,br_neg h10,br_pos h11]
  exact Ev.pure _
 by_cases h12:(40:Int)<a.2.1.2.1
 ·refine⟨false,Ev.of_eq 1 ?_,fun e=>by cases e⟩
  simp only[Z71Eq]
  refine Ev.bind hv ?_
  simp only[br_f,br_neg h0,br_neg h1,nbr_pos h2,nbr_pos h3,br_neg h4,br_neg h5,br_neg h6,br_neg h7,br_neg h8,br_neg h9,br_neg h10,br_neg h11,br_pos h12]
  exact Ev.pure _
 by_cases h13:a.2.2.2.1.2.1<(-17:Int)
 ·refine⟨false,Ev.of_eq 1 ?_,fun e=>by cases e⟩
  simp only[Z71Eq]
  refine Ev.bind hv ?_
  simp only[br_f,br_neg h0,br_neg h1,nbr_pos h2,nbr_pos h3,br_neg h4,br_neg h5,br_neg h6,br_neg h7,br_neg h8,br_neg h9,br_neg h10,br_neg h11,br_neg h12,br_pos h13]
  exact Ev.pure _
 by_cases h14:(18:Int)<a.2.2.2.1.2.1
 ·refine⟨false,Ev.of_eq 1 ?_,fun e=>by cases e⟩
  simp only[Z71Eq]
  refine Ev.bind hv ?_
  simp only[br_f,br_neg h0,br_neg h1,nbr_pos h2,nbr_pos h3,br_neg h4,br_neg h5,br_neg h6,br_neg h7,br_neg h8,br_neg h9,br_neg h10,br_neg h11,br_neg h12,br_neg h13,br_pos h14]
  exact Ev.pure _
 by_cases h15:a.2.2.2.2.2.1<(-17:Int)
 ·refine⟨false,Ev.of_eq 1 ?_,fun e=>by cases e⟩
  simp only[Z71Eq]
  refine Ev.bind hv ?_
  simp only[br_f,br_neg h0,br_neg h1,nbr_pos h2,nbr_pos h3,br_neg h4,br_neg h5,br_neg h6,br_neg h7,br_neg h8,br_neg h9,br_neg h10,br_neg h11,br_neg h12,br_neg h13,br_neg h14,br_pos h15]
  exact Ev.pure _
 by_cases h16:(18:Int)<a.2.2.2.2.2.1
 ·refine⟨false,Ev.of_eq 1 ?_,fun e=>by cases e⟩
  simp only[Z71Eq]
  refine Ev.bind hv ?_
  simp only[br_f,br_neg h0,br_neg h1,nbr_pos h2,nbr_pos h3,br_neg h4,br_neg h5,br_neg h6,br_neg h7,br_neg h8,br_neg h9,br_neg h10,br_neg h11,br_neg h12,br_neg h13,br_neg h14,br_neg h15,br_pos h16]
  exact Ev.pure _
 by_cases h17:a.2.2.2.2.2.1<a.2.2.2.1.2.1
 ·refine⟨false,Ev.of_eq 1 ?_,fun e=>by cases e⟩
  simp only[Z71Eq]
  refine Ev.bind hv ?_
  simp only[br_f,br_neg h0,br_neg h1,nbr_pos h2,nbr_pos h3,br_neg h4,br_neg h5,br_neg h6,br_neg h7,br_neg h8,br_neg h9,br_neg h10,br_neg h11,br_neg h12,br_neg h13,br_neg h14,br_neg h15,br_neg h16,br_pos h17]
  exact Ev.pure _
 by_cases h18:a.2.1.2.2<(1:Int)
 ·refine⟨false,Ev.of_eq 1 ?_,fun e=>by cases e⟩
  simp only[Z71Eq]
  refine Ev.bind hv ?_
  simp only[br_f,br_neg h0,br_neg h1,nbr_pos h2,nbr_pos h3,br_neg h4,br_neg h5,br_neg h6,br_neg h7,br_neg h8,br_neg h9,br_neg h10,br_neg h11,br_neg h12,br_neg h13,br_neg h14,br_neg h15,br_neg h16,br_neg h17,br_pos h18]
  exact Ev.pure _
 by_cases h19:(40:Int)<a.2.1.2.2
 ·refine⟨false,Ev.of_eq 1 ?_,fun e=>by cases e⟩
  simp only[Z71Eq]
  refine Ev.bind hv ?_
  simp only[br_f,br_neg h0,br_neg h1,nbr_pos h2,nbr_pos h3,br_neg h4,br_neg h5,br_neg h6,br_neg h7,br_neg h8,br_neg h9,br_neg h10,br_neg h11,br_neg h12,br_neg h13,br_neg h14,br_neg h15,br_neg h16,br_neg h17,br_neg h18,br_pos h19]
  exact Ev.pure _
 by_cases h20:a.2.2.2.1.2.2<(-17:Int)
 ·refine⟨false,Ev.of_eq 1 ?_,fun e=>by cases e⟩
  simp only[Z71Eq]
  refine Ev.bind hv ?_
  simp only[br_f,br_neg h0,br_neg h1,nbr_pos h2,nbr_pos h3,br_neg h4,br_neg h5,br_neg h6,br_neg h7,br_neg h8,br_neg h9,br_neg h10,br_neg h11,br_neg h12,br_neg h13,br_neg h14,br_neg h15,br_neg h16,br_neg h17,br_neg h18,br_neg h19,br_pos h20]
  exact Ev.pure _
 by_cases h21:(18:Int)<a.2.2.2.1.2.2
 ·refine⟨false,Ev.of_eq 1 ?_,fun e=>by cases e⟩
  simp only[Z71Eq]
  refine Ev.bind hv ?_
  simp only[br_f,br_neg h0,br_neg h1,nbr_pos h2,nbr_pos h3,br_neg h4,br_neg h5,br_neg h6,br_neg h7,br_neg h8,br_neg h9,br_neg h10,br_neg h11,br_neg h12,br_neg h13,br_neg h14,br_neg h15,br_neg h16,br_neg h17,br_neg h18,br_neg h19,br_neg h20,br_pos h21]
  exact Ev.pure _
 by_cases h22:a.2.2.2.2.2.2<(-17:Int)
 ·refine⟨false,Ev.of_eq 1 ?_,fun e=>by cases e⟩
  simp only[Z71Eq]
  refine Ev.bind hv ?_
  simp only[br_f,br_neg h0,br_neg h1,nbr_pos h2,nbr_pos h3,br_neg h4,br_neg h5,br_neg h6,br_neg h7,br_neg h8,br_neg h9,br_neg h10,br_neg h11,br_neg h12,br_neg h13,br_neg h14,br_neg h15,br_neg h16,br_neg h17,br_neg h18,br_neg h19,br_neg h20,br_neg h21,br_pos h22]
  exact Ev.pure _
 by_cases h23:(18:Int)<a.2.2.2.2.2.2
 ·refine⟨false,Ev.of_eq 1 ?_,fun e=>by cases e⟩
  simp only[Z71Eq]
  refine Ev.bind hv ?_
  simp only[br_f,br_neg h0,br_neg h1,nbr_pos h2,nbr_pos h3,br_neg h4,br_neg h5,br_neg h6,br_neg h7,br_neg h8,br_neg h9,br_neg h10,br_neg h11,br_neg h12,br_neg h13,br_neg h14,br_neg h15,br_neg h16,br_neg h17,br_neg h18,br_neg h19,br_neg h20,br_neg h21,br_neg h22,br_pos h23]
  exact Ev.pure _
 by_cases h24:a.2.2.2.2.2.2<a.2.2.2.1.2.2
 ·refine⟨false,Ev.of_eq 1 ?_,fun e=>by cases e⟩
  simp only[Z71Eq]
  refine Ev.bind hv ?_
  simp only[br_f,br_neg h0,br_neg h1,nbr_pos h2,nbr_pos h3,br_neg h4,br_neg h5,br_neg h6,br_neg h7,br_neg h8,br_neg h9,br_neg h10,br_neg h11,br_neg h12,br_neg h13,br_neg h14,br_neg h15,br_neg h16,br_neg h17,br_neg h18,br_neg h19,br_neg h20,br_neg h21,br_neg h22,br_neg h23,br_pos h24]
  exact Ev.pure _
 have s1:=sizeEv (x:=a.1.1) (by omega)
 have s2:=sizeEv (x:=a.1.2) (by omega)
 by_cases g:(if a.1.1<0 then -a.1.1 else a.1.1)+(a.2.2.1+a.2.1.1+a.2.1.2.1+a.2.1.2.2)*4394000≤439400000
 ·refine⟨decide ((if a.1.2<0 then -a.1.2 else a.1.2)+(a.2.2.1+a.2.1.1+a.2.1.2.1+a.2.1.2.2)*4394000≤439400000),Ev.of_eq 1 ?_,fun e=>?_⟩
  ·simp only[Z71Eq]
   refine Ev.bind hv ?_
   simp only[br_f,br_neg h0,br_neg h1,nbr_pos h2,nbr_pos h3,br_neg h4,br_neg h5,br_neg h6,br_neg h7,br_neg h8,br_neg h9,br_neg h10,br_neg h11,br_neg h12,br_neg h13,br_neg h14,br_neg h15,br_neg h16,br_neg h17,br_neg h18,br_neg h19,br_neg h20,br_neg h21,br_neg h22,br_neg h23,br_neg h24]
   refine Ev.bind s1 ?_
   rw[show (fun n=>_)=fun n=>_ from rfl]
   have b1:-1000000000≤(if a.1.1<0 then -a.1.1 else a.1.1)∧(if a.1.1<0 then -a.1.1 else a.1.1)≤1000000000:=by split <;> omega
   have b2:-1000000000≤(if a.1.2<0 then -a.1.2 else a.1.2)∧(if a.1.2<0 then -a.1.2 else a.1.2)≤1000000000:=by split <;> omega
   generalize (if a.1.1<0 then -a.1.1 else a.1.1)=u1 at b1 g ⊢
   generalize (if a.1.2<0 then -a.1.2 else a.1.2)=u2 at b2 s2 ⊢
   simp (disch:=omega) only [w64,br_pos g]
   refine Ev.bind s2 ?_
   simp (disch:=omega) only [w64]
   exact Ev.pure _
  ·simp only[decide_eq_true_eq] at e
   unfold ArmR Bb
   split at g <;> split at e <;> omega
 ·refine⟨false,Ev.of_eq 1 ?_,fun e=>by cases e⟩
  simp only[Z71Eq]
  refine Ev.bind hv ?_
  simp only[br_f,br_neg h0,br_neg h1,nbr_pos h2,nbr_pos h3,br_neg h4,br_neg h5,br_neg h6,br_neg h7,br_neg h8,br_neg h9,br_neg h10,br_neg h11,br_neg h12,br_neg h13,br_neg h14,br_neg h15,br_neg h16,br_neg h17,br_neg h18,br_neg h19,br_neg h20,br_neg h21,br_neg h22,br_neg h23,br_neg h24]
  refine Ev.bind s1 ?_
  have b1:-1000000000≤(if a.1.1<0 then -a.1.1 else a.1.1)∧(if a.1.1<0 then -a.1.1 else a.1.1)≤1000000000:=by split <;> omega
  generalize (if a.1.1<0 then -a.1.1 else a.1.1)=u1 at b1 g ⊢
  simp (disch:=omega) only [w64,br_neg g]
  exact Ev.pure _
end Go.Jm
namespace Go.Jm
open Go Go.Am Go.Proofs Go.Hu Go.Mo
def Near (a:ArmT):Prop:=(8*a.1.1+39546000*(a.2.1.1+a.2.1.2.1+a.2.1.2.2+15)≤3515200000∧-(8*a.1.1)+39546000*(a.2.1.1+a.2.1.2.1+a.2.1.2.2+15)≤3515200000) ∧
  (8*a.1.2+39546000*(a.2.1.1+a.2.1.2.1+a.2.1.2.2+15)≤3515200000∧-(8*a.1.2)+39546000*(a.2.1.1+a.2.1.2.1+a.2.1.2.2+15)≤3515200000)
theorem ArmR.ok {a:ArmT} (h:ArmR a) (n:Near a):ArmOk a:=by
 obtain⟨h1,h2,h3,h4,h5⟩:=h
 exact⟨h1,h2,h3,h4,n,h5⟩
theorem max_wrap {x:Int} (h:-439400000≤x∧x≤439400000):(if decide (x<IntKind.i64.wrap (0-x))=true then IntKind.i64.wrap (0-x) else x)=(if x<0 then -x else x):=by
 have e:IntKind.i64.wrap (0-x) = -x:=by rw[w64 (by omega) (by omega)];omega
 rw[e]
 by_cases h1:x<0
 ·rw[if_pos h1,if_pos (by rw[decide_eq_true_eq];omega)]
 ·rw[if_neg h1,if_neg (by rw[decide_eq_true_eq];omega)]
theorem near_pick {R:Type} {a:ArmT} (ha:ArmR a) {F:R} {N:Nat→Option R} {P:R→Prop} (hF:P F) (hN:Near a→∃ y,Ev N y∧P y) :
  ∃ y,Ev (fun n=>br (decide ((3515200000:Int)<(IntKind.i64.wrap ((IntKind.i64.wrap ((8:Int)*(if decide (a.1.1<(IntKind.i64.wrap (0-a.1.1)))=true then (IntKind.i64.wrap (0-a.1.1)) else a.1.1)))+(IntKind.i64.wrap ((39546000:Int)*(IntKind.i64.wrap ((IntKind.i64.wrap ((IntKind.i64.wrap (a.2.1.1+a.2.1.2.1))+a.2.1.2.2))+(15:Int))))))))) (some F)
   (br (decide ((3515200000:Int)<(IntKind.i64.wrap ((IntKind.i64.wrap ((8:Int)*(if decide (a.1.2<(IntKind.i64.wrap (0-a.1.2)))=true then (IntKind.i64.wrap (0-a.1.2)) else a.1.2)))+(IntKind.i64.wrap ((39546000:Int)*(IntKind.i64.wrap ((IntKind.i64.wrap ((IntKind.i64.wrap (a.2.1.1+a.2.1.2.1))+a.2.1.2.2))+(15:Int))))))))) (some F) (N n))) y∧P y:=by
 obtain⟨h1,h2,h3,h4,h5⟩:=ha
 unfold Bb at h1
 have e1:=max_wrap (x:=a.1.1) (by omega)
 have e2:=max_wrap (x:=a.1.2) (by omega)
 rw[e1,e2]
 have b1:0≤(if a.1.1<0 then -a.1.1 else a.1.1)∧(if a.1.1<0 then -a.1.1 else a.1.1)≤439400000:=by split <;> omega
 have b2:0≤(if a.1.2<0 then -a.1.2 else a.1.2)∧(if a.1.2<0 then -a.1.2 else a.1.2)≤439400000:=by split <;> omega
 have u1:∀ x:Int,0≤x∧x≤439400000→IntKind.i64.wrap (IntKind.i64.wrap (8*x)+IntKind.i64.wrap (39546000*IntKind.i64.wrap (IntKind.i64.wrap (IntKind.i64.wrap (a.2.1.1+a.2.1.2.1)+a.2.1.2.2)+15)))=8*x+39546000*(a.2.1.1+a.2.1.2.1+a.2.1.2.2+15):=fun x hx=>by
  rw[w64 (n:=a.2.1.1+a.2.1.2.1) (by omega) (by omega),w64 (n:=a.2.1.1+a.2.1.2.1+a.2.1.2.2) (by omega) (by omega),w64 (n:=a.2.1.1+a.2.1.2.1+a.2.1.2.2+15) (by omega) (by omega),w64 (n:=8*x) (by omega) (by omega),w64 (n:=39546000*(a.2.1.1+a.2.1.2.1+a.2.1.2.2+15)) (by omega) (by omega),w64 (by omega) (by omega)]
 rw[u1 _ b1,u1 _ b2]
 by_cases g1:(3515200000:Int)<8*(if a.1.1<0 then -a.1.1 else a.1.1)+39546000*(a.2.1.1+a.2.1.2.1+a.2.1.2.2+15)
 ·simp only[br_pos g1];exact⟨_,Ev.pure _,hF⟩
 by_cases g2:(3515200000:Int)<8*(if a.1.2<0 then -a.1.2 else a.1.2)+39546000*(a.2.1.1+a.2.1.2.1+a.2.1.2.2+15)
 ·simp only[br_neg g1,br_pos g2];exact⟨_,Ev.pure _,hF⟩
 simp only[br_neg g1,br_neg g2]
 refine hN ?_
 unfold Near
 split at g1 <;> split at g2 <;> omega
end Go.Jm
namespace Go.Jm
open Go Go.Am Go.Proofs Go.Hu Go.Mo
def PL (c:CellT) (q:Prop) (y:((Unit×Unit)×((CellT×Unit)×Unit)) ⊕ ((Bool×Unit)×Unit)):Prop:=(y=.inl (((),()),((c,()),()))∧q)∨y=.inr ((false,()),())
theorem cellL2 (c:CellT):∃ y,Ev (fun n=>Z37L2 n (((),((0:Int),())),((c,()),()))) y∧PL c (ArmOk c.1.1∧ArmOk c.1.2) y:=by
 have e2:Ev (fun n=>Z37L2 n (((),((2:Int),())),((c,()),()))) (.inl (((),()),((c,()),()))):=by
  refine Ev.of_eq 1 ?_
  simp (disch:=omega) only [Z37L2Eq,br_neg]
  exact Ev.pure _
 have e1:∃ y,Ev (fun n=>Z37L2 n (((),((1:Int),())),((c,()),()))) y∧PL c (ArmOk c.1.2) y:=by
  obtain⟨v,hv,hvt⟩:=armEv c.1.2
  cases v with
  | false =>
   refine⟨_,Ev.of_eq 1 ?_,.inr rfl⟩
   simp (disch:=omega) only [Z37L2Eq,br_pos,br_T]
   exact Ev.bind hv (Ev.pure _)
  | true =>
   cases hq:inLim c.1.2 c.2.1.2 with
   | false =>
    have hl:=rlimEv c.1.2 c.2.1.2
    rw[hq] at hl
    refine⟨_,Ev.of_eq 1 ?_,.inr rfl⟩
    simp (disch:=omega) only [Z37L2Eq,br_pos,br_T]
    refine Ev.bind hv ?_
    simp only[Bool.not_true,br_f]
    exact Ev.bind hl (Ev.pure _)
   | true =>
    have hl:=rlimEv c.1.2 c.2.1.2
    rw[hq] at hl
    obtain⟨y,e,hy⟩:=near_pick (hvt rfl) (F:=(.inr ((false,()),()):((Unit×Unit)×((CellT×Unit)×Unit)) ⊕ ((Bool×Unit)×Unit))) (N:=fun n=>Z37L2 n (((),((2:Int),())),((c,()),()))) (P:=PL c (ArmOk c.1.2)) (.inr rfl) fun hn=>⟨_,e2,.inl ⟨rfl,(hvt rfl).ok hn⟩⟩
    refine⟨y,Ev.of_eq 1 ?_,hy⟩
    simp (disch:=omega) only [Z37L2Eq,br_pos,br_T]
    refine Ev.bind hv ?_
    simp only[Bool.not_true,br_f]
    refine Ev.bind hl ?_
    have w2:IntKind.i64.wrap ((1:Int)+1)=2:=by rw[w64 (by omega) (by omega)];rfl
    simp only[Bool.not_true,br_f,w2]
    exact e
 obtain⟨y1,e1,hy1⟩:=e1
 obtain⟨v,hv,hvt⟩:=armEv c.1.1
 cases v with
 | false =>
  refine⟨_,Ev.of_eq 1 ?_,.inr rfl⟩
  simp (disch:=omega) only [Z37L2Eq,br_pos,br_neg,br_T]
  exact Ev.bind hv (Ev.pure _)
 | true =>
  cases hq:inLim c.1.1 c.2.1.1 with
  | false =>
   have hl:=rlimEv c.1.1 c.2.1.1
   rw[hq] at hl
   refine⟨_,Ev.of_eq 1 ?_,.inr rfl⟩
   simp (disch:=omega) only [Z37L2Eq,br_pos,br_neg,br_T]
   refine Ev.bind hv ?_
   simp only[Bool.not_true,br_f]
   exact Ev.bind hl (Ev.pure _)
  | true =>
   have hl:=rlimEv c.1.1 c.2.1.1
   rw[hq] at hl
   obtain⟨y,e,hy⟩:=near_pick (hvt rfl) (F:=(.inr ((false,()),()):((Unit×Unit)×((CellT×Unit)×Unit)) ⊕ ((Bool×Unit)×Unit))) (N:=fun n=>Z37L2 n (((),((1:Int),())),((c,()),()))) (P:=PL c (ArmOk c.1.1∧ArmOk c.1.2)) (.inr rfl) fun hn=>⟨y1,e1,by
    rcases hy1 with ⟨h1,h2⟩ | h1
    ·exact .inl ⟨h1,(hvt rfl).ok hn,h2⟩
    ·exact .inr h1⟩
   refine⟨y,Ev.of_eq 1 ?_,hy⟩
   simp (disch:=omega) only [Z37L2Eq,br_pos,br_neg,br_T]
   refine Ev.bind hv ?_
   simp only[Bool.not_true,br_f]
   refine Ev.bind hl ?_
   have w1:IntKind.i64.wrap ((0:Int)+1)=1:=by rw[w64 (by omega) (by omega)];rfl
   simp only[Bool.not_true,br_f,w1]
   exact e
def CLen (c:CellT):Prop:=c.2.2.1.length≤16∧c.2.2.2.2.2.2.2.2.2.1.length≤16∧c.2.2.2.1.length≤16∧c.2.2.2.2.1.length≤8∧c.2.2.2.2.2.1.length≤16
theorem cellEv (c:CellT) (hl:CLen c):∃ b,Ev (fun n=>Z37 n c) b∧(b=true→COk c):=by
 obtain⟨l1,l2,l3,l4,l5⟩:=hl
 have k1:¬ (16:Int)<((c.2.2.2.1.length:Nat):Int):=by omega
 have k2:¬ (8:Int)<((c.2.2.2.2.1.length:Nat):Int):=by omega
 have k3:¬ (16:Int)<((c.2.2.2.2.2.1.length:Nat):Int):=by omega
 obtain⟨y,e,hy⟩:=cellL2 c
 rcases hy with ⟨rfl,ha,hb⟩ | rfl
 rotate_left
 ·refine⟨false,Ev.of_eq 1 ?_,fun e=>by cases e⟩
  simp only[Z37Eq]
  exact Ev.bind e (Ev.pure _)
 obtain⟨u1,h1⟩:=boundedTot c.2.2.2.2.2.2.2.1
 obtain⟨u2,h2⟩:=boundedTot c.2.2.2.2.2.2.2.2.1
 obtain⟨t,ht⟩:∃ t:Bool,Ev (fun n=>(Z72 n c.2.2.2.2.2.2.2.1).bind fun x=>br x ((Z72 n c.2.2.2.2.2.2.2.2.1).bind fun x=>br x (br (decide (c.2.2.2.2.2.2.2.2.1.1≤c.2.2.2.2.2.2.2.1.1)) (br (decide (c.2.2.2.2.2.2.2.2.1.2.1≤c.2.2.2.2.2.2.2.1.2.1)) (some ((((),((decide (c.2.2.2.2.2.2.2.2.1.2.2≤c.2.2.2.2.2.2.2.1.2.2)),())),((c,()),())):(Unit×(Bool×Unit))×((CellT×Unit)×Unit))) (some (((),(false,())),((c,()),())))) (some (((),(false,())),((c,()),())))) (some (((),(false,())),((c,()),())))) (some (((),(false,())),((c,()),())))) (((),(t,())),((c,()),())):=by
  cases u1 with
  | false=>exact⟨_,Ev.bind h1 (Ev.pure _)⟩
  | true =>
   cases u2 with
   | false=>exact⟨_,Ev.bind h1 (Ev.bind h2 (Ev.pure _))⟩
   | true =>
    by_cases g1:c.2.2.2.2.2.2.2.2.1.1≤c.2.2.2.2.2.2.2.1.1
    ·by_cases g2:c.2.2.2.2.2.2.2.2.1.2.1≤c.2.2.2.2.2.2.2.1.2.1
     ·refine⟨decide (c.2.2.2.2.2.2.2.2.1.2.2≤c.2.2.2.2.2.2.2.1.2.2),Ev.bind h1 (Ev.bind h2 ?_)⟩
      simp only[br_t,br_pos g1,br_pos g2];exact Ev.pure _
     ·refine⟨false,Ev.bind h1 (Ev.bind h2 ?_)⟩
      simp only[br_t,br_pos g1,br_neg g2];exact Ev.pure _
    ·refine⟨false,Ev.bind h1 (Ev.bind h2 ?_)⟩
     simp only[br_t,br_neg g1];exact Ev.pure _
 obtain⟨b1,f1,p1⟩:=polysEv c.2.2.1
 obtain⟨b2,f2,p2⟩:=polysEv c.2.2.2.2.2.2.2.2.2.1
 obtain⟨b3,f3,p3⟩:=placesEv c.2.2.2.1 l3
 obtain⟨b4,f4,p4⟩:=partsOkEv c.2.2.2.2.1 ((c.2.2.2.1.length:Nat):Int) l4
 obtain⟨b5,f5⟩:=unlikeTot c.2.2.2.2.2.1 ((c.2.2.2.1.length:Nat):Int) (by omega)
 have fa:=areasEv c (by omega)
 have start:∀ {res:Bool} ,Ev (fun n=>(Z73 n c.2.2.1).bind fun x=>br x ((Z74 n c).bind fun x=>(Z73 n x).bind fun x=>br x ((Z75 n c.2.2.2.1).bind fun x=>br x ((Z76 n c.2.2.2.2.1 ((c.2.2.2.1.length:Nat):Int)).bind fun x=>br x ((Z77 n c.2.2.2.2.2.1 ((c.2.2.2.1.length:Nat):Int)).bind fun x=>br x (br (decide ((0:Int)≤c.2.2.2.2.2.2.1)) (br (decide (c.2.2.2.2.2.2.1≤(100:Int))) (br t (br (decide ((0:Int)≤c.2.2.2.2.2.2.2.2.2.2.1)) (br (decide (c.2.2.2.2.2.2.2.2.2.2.1≤(20:Int))) (br (decide ((1:Int)≤c.2.2.2.2.2.2.2.2.2.2.2)) (some (decide (c.2.2.2.2.2.2.2.2.2.2.2≤(8:Int)))) (some false)) (some false)) (some false)) (some false)) (some false)) (some false)) (some false)) (some false)) (some false)) (some false)) (some false)) res→Ev (fun n=>Z37 n c) res:=fun hres=>by
  refine Ev.of_eq 1 ?_
  simp only[Z37Eq]
  refine Ev.bind e ?_
  simp only[br_neg k1,br_neg k2,br_neg k3]
  refine Ev.bind ht ?_
  exact hres
 cases b1 with
 | false=>exact⟨false,start (Ev.bind f1 (Ev.pure _)),fun e=>by cases e⟩
 | true =>
 cases b2 with
 | false=>exact⟨false,start (Ev.bind f1 (Ev.bind fa (Ev.bind f2 (Ev.pure _)))),fun e=>by cases e⟩
 | true =>
 cases b3 with
 | false=>exact⟨false,start (Ev.bind f1 (Ev.bind fa (Ev.bind f2 (Ev.bind f3 (Ev.pure _))))),fun e=>by cases e⟩
 | true =>
 cases b4 with
 | false=>exact⟨false,start (Ev.bind f1 (Ev.bind fa (Ev.bind f2 (Ev.bind f3 (Ev.bind f4 (Ev.pure _)))))),fun e=>by cases e⟩
 | true =>
 cases b5 with
 | false=>exact⟨false,start (Ev.bind f1 (Ev.bind fa (Ev.bind f2 (Ev.bind f3 (Ev.bind f4 (Ev.bind f5 (Ev.pure _))))))),fun e=>by cases e⟩
 | true =>
  have hok:COk c:=⟨ha,hb,l1,fun p hp=>⟨((p1 rfl).2 p hp).1.2,((p1 rfl).2 p hp).2⟩,l4,p4 rfl,l3,p3 rfl⟩
  have fin:∀ (u1 u2 u3 u4 u5 u6 u7:Bool),∃ b,br u1 (br u2 (br u3 (br u4 (br u5 (br u6 (some u7) (some false)) (some false)) (some false)) (some false)) (some false)) (some false)=some b:=by
   intro u1 u2 u3 u4 u5 u6 u7
   cases u1 <;> cases u2 <;> cases u3 <;> cases u4 <;> cases u5 <;> cases u6 <;> exact⟨_,rfl⟩
  obtain⟨b,hbb⟩:=fin (decide ((0:Int)≤c.2.2.2.2.2.2.1)) (decide (c.2.2.2.2.2.2.1≤(100:Int))) t (decide ((0:Int)≤c.2.2.2.2.2.2.2.2.2.2.1)) (decide (c.2.2.2.2.2.2.2.2.2.2.1≤(20:Int))) (decide ((1:Int)≤c.2.2.2.2.2.2.2.2.2.2.2)) (decide (c.2.2.2.2.2.2.2.2.2.2.2≤(8:Int)))
  exact⟨b,start (Ev.bind f1 (Ev.bind fa (Ev.bind f2 (Ev.bind f3 (Ev.bind f4 (Ev.bind f5 (Ev.const hbb))))))),fun _=>hok⟩
end Go.Jm
namespace Go.Jm
open Go Go.Am Go.Proofs Go.Hu Go.Mo
abbrev CW:=(CellT×Unit)×((Mo.StateT×Unit)×Unit)
theorem placedL15 (c:CellT) (w:Mo.StateT) (hl:w.2.2.length≤8) (i:Nat) (hi:i<w.2.2.length):∀ (k j:Nat),j+k=i →
  ∃ y,Ev (fun n=>Z53L15 n (((),((),(((i:Nat):Int),(((j:Nat):Int),())))),((c,()),((w,()),())))) y∧(y=.inl (((),((),(((i:Nat):Int),()))),((c,()),((w,()),())))∨y=.inr ((false,()),())):=by
 intro k
 induction k with
 | zero =>
  intro j h
  refine⟨_,Ev.of_eq 1 ?_,.inl rfl⟩
  simp (disch:=omega) only [Z53L15Eq,br_neg]
  exact Ev.pure _
 | succ k ih =>
  intro j h
  obtain⟨y,e,hy⟩:=ih (j+1) (by omega)
  have g1:w.2.2[j]?=some w.2.2[j]:=List.getElem?_eq_getElem (by omega)
  have g2:w.2.2[i]?=some w.2.2[i]:=List.getElem?_eq_getElem hi
  by_cases h0:(0:Int)≤w.2.2[i]
  ·by_cases hb:w.2.2[i]=w.2.2[j]
   ·refine⟨_,Ev.of_eq 1 ?_,.inr rfl⟩
    simp (disch:=omega) only [Z53L15Eq,br_pos,Int.toNat_natCast,g1,g2,Option.bind_some,br_pos h0,br_pos hb]
    exact Ev.pure _
   ·refine⟨y,Ev.of_eq 1 ?_,hy⟩
    simp (disch:=omega) only [Z53L15Eq,br_pos,Int.toNat_natCast,g1,g2,Option.bind_some,br_pos h0,br_neg hb,wr1]
    exact e
  ·refine⟨y,Ev.of_eq 1 ?_,hy⟩
   simp (disch:=omega) only [Z53L15Eq,br_pos,Int.toNat_natCast,g1,g2,Option.bind_some,br_neg h0,wr1]
   exact e
theorem placedL10 (c:CellT) (w:Mo.StateT) (hl:w.2.2.length≤8):∀ (r:List Int) (i:Nat),w.2.2.drop i=r→i≤w.2.2.length →
  ∃ y,Ev (fun n=>Z53L10 n (((),((),(((i:Nat):Int),()))),((c,()),((w,()),())))) y∧((y=.inl ((),())∧∀ k∈r,-1≤k∧k<(c.2.2.2.1.length:Int))∨y=.inr ((false,()),())):=by
 intro r
 induction r with
 | nil =>
  intro i h hi
  have:=gdrop_nil h
  refine⟨_,Ev.of_eq 1 ?_,.inl ⟨rfl,fun k hk=>by cases hk⟩⟩
  simp (disch:=omega) only [Z53L10Eq,br_neg]
  exact Ev.pure _
 | cons x r ih =>
  intro i h hi
  obtain⟨g1,g2,g3⟩:=gdrop h
  obtain⟨y,e,hy⟩:=ih (i+1) g2 (by omega)
  obtain⟨z,ez,hz⟩:=placedL15 c w hl i g3 i 0 (by omega)
  by_cases h1:x < -1
  ·refine⟨_,Ev.of_eq 1 ?_,.inr rfl⟩
   simp (disch:=omega) only [Z53L10Eq,br_pos,Int.toNat_natCast,g1,Option.bind_some,br_pos h1]
   exact Ev.pure _
  by_cases h2:((c.2.2.2.1.length:Nat):Int)≤x
  ·refine⟨_,Ev.of_eq 1 ?_,.inr rfl⟩
   simp (disch:=omega) only [Z53L10Eq,br_pos,Int.toNat_natCast,g1,Option.bind_some,br_neg h1,br_pos h2]
   exact Ev.pure _
  rcases hz with rfl | rfl
  ·refine⟨y,Ev.of_eq 1 ?_,?_⟩
   ·simp (disch:=omega) only [Z53L10Eq,br_pos,Int.toNat_natCast,g1,Option.bind_some,br_neg h1,br_neg h2]
    refine Ev.bind ez ?_
    simp (disch:=omega) only [wr1]
    exact e
   ·rcases hy with ⟨h3,h4⟩ | h3
    ·exact .inl ⟨h3,fun k hk=>by
      rcases List.mem_cons.1 hk with rfl | hk
      ·omega
      ·exact h4 k hk⟩
    ·exact .inr h3
  ·refine⟨_,Ev.of_eq 1 ?_,.inr rfl⟩
   simp (disch:=omega) only [Z53L10Eq,br_pos,Int.toNat_natCast,g1,Option.bind_some,br_neg h1,br_neg h2]
   exact Ev.bind ez (Ev.pure _)
def HB (c:CellT) (h:Int):Prop:=-1≤h∧h<(c.2.2.2.2.1.length:Int)
theorem held_pick {R:Type} {c:CellT} {w:Mo.StateT} (hwl:w.2.2.length=c.2.2.2.2.1.length) {h:Int} {F:R} {N:Nat→Option R} {P:R→Prop} (hF:P F) (hN:HB c h→∃ y,Ev N y∧P y) :
  ∃ y,Ev (fun n=>br (decide (h<(-1:Int))) (some F) (br (decide (((c.2.2.2.2.1.length:Nat):Int)≤h)) (some F) (br (decide ((0:Int)≤h)) (br (decide (0≤h)) ((w.2.2[h.toNat]?).bind fun e=>br (!decide (e=(-1:Int))) (some F) (N n)) none) (N n)))) y∧P y:=by
 by_cases h1:h < -1
 ·simp only[br_pos h1];exact⟨_,Ev.pure _,hF⟩
 by_cases h2:((c.2.2.2.2.1.length:Nat):Int)≤h
 ·simp only[br_neg h1,br_pos h2];exact⟨_,Ev.pure _,hF⟩
 by_cases h3:0≤h
 ·have g:w.2.2[h.toNat]?=some w.2.2[h.toNat]:=List.getElem?_eq_getElem (by omega)
  by_cases h4:w.2.2[h.toNat] = -1
  ·simp only[br_neg h1,br_neg h2,br_pos h3,g,Option.bind_some,nbr_pos h4]
   exact hN ⟨by omega,by omega⟩
  ·simp only[br_neg h1,br_neg h2,br_pos h3,g,Option.bind_some,nbr_neg h4]
   exact⟨_,Ev.pure _,hF⟩
 ·simp only[br_neg h1,br_neg h2,br_neg h3]
  exact hN ⟨by omega,by omega⟩
theorem placedL4 (c:CellT) (w:Mo.StateT) (hwl:w.2.2.length=c.2.2.2.2.1.length):∃ y,Ev (fun n=>Z53L4 n (((),((),((0:Int),()))),((c,()),((w,()),())))) y∧((y=.inl (((),((),())),((c,()),((w,()),())))∧HB c w.2.1.1∧HB c w.2.1.2)∨y=.inr ((false,()),())):=by
 have e2:Ev (fun n=>Z53L4 n (((),((),((2:Int),()))),((c,()),((w,()),())))) (.inl (((),((),())),((c,()),((w,()),())))):=by
  refine Ev.of_eq 1 ?_
  simp (disch:=omega) only [Z53L4Eq,br_neg]
  exact Ev.pure _
 have w1:IntKind.i64.wrap ((0:Int)+1)=1:=by rw[w64 (by omega) (by omega)];rfl
 have w2:IntKind.i64.wrap ((1:Int)+1)=2:=by rw[w64 (by omega) (by omega)];rfl
 obtain⟨y1,e1,hy1⟩:=held_pick (w:=w) hwl (h:=w.2.1.2) (F:=(.inr ((false,()),()):((Unit×(Unit×Unit))×CW) ⊕ ((Bool×Unit)×Unit))) (N:=fun n=>Z53L4 n (((),((),((2:Int),()))),((c,()),((w,()),())))) (P:=fun y=>(y=.inl (((),((),())),((c,()),((w,()),())))∧HB c w.2.1.2)∨y=.inr ((false,()),())) (.inr rfl) fun h=>⟨_,e2,.inl ⟨rfl,h⟩⟩
 have e1':Ev (fun n=>Z53L4 n (((),((),((1:Int),()))),((c,()),((w,()),())))) y1:=by
  refine Ev.of_eq 1 ?_
  have t1:(1:Int)<2:=by omega
  have t2:(1:Int)=1:=rfl
  simp only[Z53L4Eq,br_pos t1,br_pos t2,w2]
  exact e1
 obtain⟨y0,e0,hy0⟩:=held_pick (w:=w) hwl (h:=w.2.1.1) (F:=(.inr ((false,()),()):((Unit×(Unit×Unit))×CW) ⊕ ((Bool×Unit)×Unit))) (N:=fun n=>Z53L4 n (((),((),((1:Int),()))),((c,()),((w,()),())))) (P:=fun y=>(y=.inl (((),((),())),((c,()),((w,()),())))∧HB c w.2.1.1∧HB c w.2.1.2)∨y=.inr ((false,()),())) (.inr rfl) fun h=>⟨y1,e1',by
  rcases hy1 with ⟨k1,k2⟩ | k1
  ·exact .inl ⟨k1,h,k2⟩
  ·exact .inr k1⟩
 refine⟨y0,Ev.of_eq 1 ?_,hy0⟩
 have t1:(0:Int)<2:=by omega
 have t2:¬ (0:Int)=1:=by omega
 have t3:(0:Int)=0:=rfl
 simp only[Z53L4Eq,br_pos t1,br_neg t2,br_pos t3,w1]
 exact e0
theorem placedEv (c:CellT) (w:Mo.StateT) (hl:w.2.2.length≤8):∃ b,Ev (fun n=>Z53 n c w) b∧(b=true→w.2.2.length=c.2.2.2.2.1.length∧(HB c w.2.1.1∧HB c w.2.1.2)∧∀ k∈w.2.2,-1≤k∧k<(c.2.2.2.1.length:Int)):=by
 by_cases hwl:w.2.2.length=c.2.2.2.2.1.length
 rotate_left
 ·have h1:¬ ((w.2.2.length:Nat):Int)=((c.2.2.2.2.1.length:Nat):Int):=by omega
  refine⟨false,Ev.of_eq 1 ?_,fun e=>by cases e⟩
  simp only[Z53Eq,nbr_neg h1]
  exact Ev.pure _
 have h1:((w.2.2.length:Nat):Int)=((c.2.2.2.2.1.length:Nat):Int):=by omega
 obtain⟨y,e,hy⟩:=placedL4 c w hwl
 obtain⟨z,ez,hz⟩:=placedL10 c w hl w.2.2 0 rfl (Nat.zero_le _)
 have tail:∃ b,Ev (fun n=>(Z53L4 n (((),((),((0:Int),()))),((c,()),((w,()),())))).bind fun l=>(match l with | .inl y=>(Z53L10 n (((),((),((0:Int),()))),y.2)).bind fun l=>(match l with | .inl y=>some true | .inr y=>some y.1.1) | .inr y=>some y.1.1)) b∧(b=true→w.2.2.length=c.2.2.2.2.1.length∧(HB c w.2.1.1∧HB c w.2.1.2)∧∀ k∈w.2.2,-1≤k∧k<(c.2.2.2.1.length:Int)):=by
  rcases hy with ⟨rfl,h2⟩ | rfl
  ·rcases hz with ⟨rfl,h3⟩ | rfl
   ·exact⟨true,Ev.bind e (Ev.bind ez (Ev.pure _)),fun _=>⟨hwl,h2,h3⟩⟩
   ·exact⟨false,Ev.bind e (Ev.bind ez (Ev.pure _)),fun e=>by cases e⟩
  ·exact⟨false,Ev.bind e (Ev.pure _),fun e=>by cases e⟩
 by_cases h2:0≤w.2.1.1
 ·by_cases h3:w.2.1.1=w.2.1.2
  ·refine⟨false,Ev.of_eq 1 ?_,fun e=>by cases e⟩
   simp only[Z53Eq,nbr_pos h1,br_pos h2,br_pos h3]
   exact Ev.pure _
  ·obtain⟨b,hb,hbt⟩:=tail
   refine⟨b,Ev.of_eq 1 ?_,hbt⟩
   simp only[Z53Eq,nbr_pos h1,br_pos h2,br_neg h3]
   exact hb
 ·obtain⟨b,hb,hbt⟩:=tail
  refine⟨b,Ev.of_eq 1 ?_,hbt⟩
  simp only[Z53Eq,nbr_pos h1,br_neg h2]
  exact hb
end Go.Jm
namespace Go.Jm
open Go Go.Am Go.Proofs Go.Hu Go.Mo
section
variable {c:CellT} {w:Mo.StateT} (hc:COk c) (hw:WOk c w)
include hc hw
theorem rrestL:∀ (r:List Int) (i:Nat) (out:List BodyT),w.2.2.drop i=r→i≤w.2.2.length→out.length≤1000+i →
  Ev (fun n=>Z54L18 n (((),((),(out,(((i:Nat):Int),())))),((c,()),((w,()),())))) (((),(out ++ resting c i r,())),((c,()),())):=by
 have hwl:=hw.wlen
 have hpl:=hc.partl
 intro r
 induction r with
 | nil =>
  intro i out h hi ho'
  have:=gdrop_nil h
  have hlen:¬ (((i:Nat):Int)<((c.2.2.2.2.1.length:Nat):Int)):=by omega
  refine Ev.of_eq 1 ?_
  simp only[Z54L18Eq,br_neg hlen]
  exact (Ev.pure _).congr (by simp[resting])
 | cons k r ih =>
  intro i out h hi ho'
  obtain⟨g1,g2,g3⟩:=gdrop h
  obtain⟨k1,k2⟩:=hw.whr k (List.mem_of_getElem? g1)
  by_cases hk:0≤k
  ·have gp:c.2.2.2.2.1[i]?=some c.2.2.2.2.1[i]:=List.getElem?_eq_getElem (by omega)
   have gq:c.2.2.2.1[k.toNat]?=some c.2.2.2.1[k.toNat]:=List.getElem?_eq_getElem (by omega)
   obtain⟨p1,p2⟩:=hc.part _ (List.mem_of_getElem? gp)
   obtain⟨q1,q2⟩:=hc.place _ (List.mem_of_getElem? gq)
   have e1:=get_part gp
   have e2:plcOf c k=c.2.2.2.1[k.toNat]:=by unfold plcOf;rw[gq];rfl
   have e:=ih (i+1) (out ++ [((3:Int),(((i:Nat):Int),((0:Int),outlAt c.2.2.2.2.1[i] (c.2.2.2.1[k.toNat]).2.1 (c.2.2.2.1[k.toNat]).2.2)))]) g2 (by omega) (by simp;omega)
   have hcap:(out.length + [((3:Int),(((i:Nat):Int),((0:Int),outlAt c.2.2.2.2.1[i] (c.2.2.2.1[k.toNat]).2.1 (c.2.2.2.1[k.toNat]).2.2)))].length)*48≤140737488355328:=by simp only[List.length_cons,List.length_nil];omega
   refine Ev.of_eq 1 ?_
   simp (disch:=omega) only [Z54L18Eq,br_pos,Int.toNat_natCast,g1,gp,gq,Option.bind_some]
   refine Ev.bind (Ev.bind (laidEv q1 q2 (by omega) p2) (Ev.pure _)) ?_
   simp (disch:=omega) only [wr1]
   refine e.congr ?_
   simp[resting,hk,e1,e2]
  ·have e:=ih (i+1) out g2 (by omega) (by omega)
   refine Ev.of_eq 1 ?_
   simp (disch:=omega) only [Z54L18Eq,br_pos,br_neg,Int.toNat_natCast,g1,Option.bind_some,wr1]
   refine e.congr ?_
   simp[resting,hk]
theorem rfixL:∀ (r:List (List Pt)) (i:Nat) (out:List BodyT),c.2.2.1.drop i=r→i≤c.2.2.1.length→out.length≤10000+i →
  Ev (fun n=>Z54L24 n (((),(out,(((i:Nat):Int),()))),((c,()),()))) ((out ++ fixed i r,()),()):=by
 have hfl:=hc.fixl
 intro r
 induction r with
 | nil =>
  intro i out h hi ho'
  have:=gdrop_nil h
  refine Ev.of_eq 1 ?_
  simp (disch:=omega) only [Z54L24Eq,br_neg]
  exact (Ev.pure _).congr (by simp[fixed])
 | cons k r ih =>
  intro i out h hi ho'
  obtain⟨g1,g2,g3⟩:=gdrop h
  have hcap:(out.length + [((4:Int),(((i:Nat):Int),((0:Int),k)))].length)*48≤140737488355328:=by simp only[List.length_cons,List.length_nil];omega
  refine Ev.of_eq 1 ?_
  simp (disch:=omega) only [Z54L24Eq,br_pos,Int.toNat_natCast,g1,Option.bind_some,br_pos hcap,wr1]
  refine (ih (i+1) _ g2 (by omega) (by simp;omega)).congr ?_
  simp[fixed]
end
set_option maxRecDepth 20000 in
set_option maxHeartbeats 2000000 in
theorem rbodiesEv {c:CellT} {w:Mo.StateT} (hc:COk c) (hw:WOk c w):Ev (fun n=>Z54 n c w) (bodies c w):=by
 have q0:=hw.q0 hc
 have q1:=hw.q1 hc
 have tail:∀ (out:List BodyT),out.length≤100→out=arms6 c w ++ (held c c.1.1 w.1.1 0 w.2.1.1 ++ held c c.1.2 w.1.2 1 w.2.1.2) →
   Ev (fun n=>(Z54L18 n (((),((),(out,((0:Int),())))),((c,()),((w,()),())))).bind fun l598=>(Z54L24 n (((),(l598.1.2.1,((0:Int),()))),l598.2)).bind fun l600=>some l600.1.1) (bodies c w):=fun out hl e=>by
  have hwl:=hw.wlen
  have hpl:=hc.partl
  have hr:=resting_len c w.2.2 0
  refine Ev.bind (rrestL hc hw w.2.2 0 out rfl (Nat.zero_le _) (by omega)) ?_
  refine Ev.bind (rfixL hc hw c.2.2.1 0 (out ++ resting c 0 w.2.2) rfl (Nat.zero_le _) (by rw[List.length_append];omega)) ?_
  exact (Ev.pure _).congr (by rw[e];simp[bodies])
 refine Ev.of_eq 1 ?_
 simp only[Z54Eq]
 refine Ev.bind (rlinksEv hc.arm0 q0) ?_
 simp (disch:=omega) only [List.length_append,List.length_cons,List.length_nil,w64,br_T,br_pos]
 refine Ev.bind (rlinksEv hc.arm1 q1) ?_
 by_cases h0:0≤w.2.1.1 <;> by_cases h1:0≤w.2.1.2
 ·obtain⟨p,g1,g2,g3,g4⟩:=heldOk hc hw 0 c.1.1 w.1.1 hc.arm0 q0 (h:=w.2.1.1) (by have:=hw.held0;omega)
  obtain⟨p',k1,k2,k3,k4⟩:=heldOk hc hw 1 c.1.2 w.1.2 hc.arm1 q1 (h:=w.2.1.2) (by have:=hw.held1;omega)
  simp (disch:=omega) only [br_pos,br_neg,g1,k1,Option.bind_some]
  refine Ev.bind (Ev.bind (rjptsEv hc.arm0 q0) (Ev.bind (rdirsEv c.1.1 q0) (Ev.bind g4 (Ev.bind (rjptsEv hc.arm1 q1) (Ev.bind (rdirsEv c.1.2 q1) (Ev.bind k4 (Ev.pure _))))))) ?_
  exact tail _ (by simp) (by rw[held_pos (by omega),held_pos (by omega),g2,k2];rfl)
 ·obtain⟨p,g1,g2,g3,g4⟩:=heldOk hc hw 0 c.1.1 w.1.1 hc.arm0 q0 (h:=w.2.1.1) (by have:=hw.held0;omega)
  simp (disch:=omega) only [br_pos,br_neg,g1,Option.bind_some]
  refine Ev.bind (Ev.bind (rjptsEv hc.arm0 q0) (Ev.bind (rdirsEv c.1.1 q0) (Ev.bind g4 (Ev.pure _)))) ?_
  exact tail _ (by simp) (by rw[held_pos (by omega),held_neg (by omega),g2];rfl)
 ·obtain⟨p',k1,k2,k3,k4⟩:=heldOk hc hw 1 c.1.2 w.1.2 hc.arm1 q1 (h:=w.2.1.2) (by have:=hw.held1;omega)
  simp (disch:=omega) only [br_pos,br_neg,k1,Option.bind_some]
  refine Ev.bind (Ev.bind (rjptsEv hc.arm1 q1) (Ev.bind (rdirsEv c.1.2 q1) (Ev.bind k4 (Ev.pure _)))) ?_
  exact tail _ (by simp) (by rw[held_neg (by omega),held_pos (by omega),k2];rfl)
 ·simp (disch:=omega) only [br_neg,Option.bind_some]
  exact tail _ (by simp) (by rw[held_neg (by omega),held_neg (by omega)];rfl)
end Go.Jm
namespace Go.Jm
open Go Go.Am Go.Proofs Go.Hu Go.Mo
theorem may14Tot (x:Pt):Tot fun n=>Z55 n x:=Tot.of_eq 1 (by
 simp only[Z55Eq]
 exact Tot.br (Tot.br (Tot.br (Tot.pure _) (Tot.pure _)) (Tot.pure _)) (Tot.pure _))
theorem right14L8 (L:List BodyT) (hL:L.length≤1000) (i:Nat) (hi:i<L.length) (hp:(L[i]).2.2.2.length≤1000):∀ (k j:Nat),j+k=(L[i]).2.2.2.length →
  ∃ y,Ev (fun n=>Z23L8 n ((L,(((i:Nat):Int),(((j:Nat):Int),()))),())) y∧(y=.inl ((L,(((i:Nat):Int),())),())∨y=.inr ((false,()),())):=by
 have g:L[i]?=some L[i]:=List.getElem?_eq_getElem hi
 intro k
 induction k with
 | zero =>
  intro j h
  have hn:¬ ((j:Nat):Int)<(((L[i]).2.2.2.length:Nat):Int):=by omega
  refine⟨_,Ev.of_eq 1 ?_,.inl rfl⟩
  simp (disch:=omega) only [Z23L8Eq,br_pos,Int.toNat_natCast,g,Option.bind_some,br_neg hn]
  exact Ev.pure _
 | succ k ih =>
  intro j h
  obtain⟨y,e,hy⟩:=ih (j+1) (by omega)
  have g2:(L[i]).2.2.2[j]?=some (L[i]).2.2.2[j]:=List.getElem?_eq_getElem (by omega)
  have hn:((j:Nat):Int)<(((L[i]).2.2.2.length:Nat):Int):=by omega
  obtain⟨v,hv⟩:=may14Tot (L[i]).2.2.2[j]
  cases v with
  | false =>
   refine⟨_,Ev.of_eq 1 ?_,.inr rfl⟩
   simp (disch:=omega) only [Z23L8Eq,br_pos,Int.toNat_natCast,g,g2,Option.bind_some,br_pos hn]
   exact Ev.bind hv (Ev.pure _)
  | true =>
   refine⟨y,Ev.of_eq 1 ?_,hy⟩
   simp (disch:=omega) only [Z23L8Eq,br_pos,Int.toNat_natCast,g,g2,Option.bind_some,br_pos hn,wr1]
   refine Ev.bind hv ?_
   simp only[Bool.not_true,br_f]
   exact e
theorem right14L5 (L:List BodyT) (hL:L.length≤1000) (hp:∀ b∈L,b.2.2.2.length≤1000):∀ (k i:Nat),i+k=L.length →
  ∃ y,Ev (fun n=>Z23L5 n ((L,(((i:Nat):Int),())),())) y∧(y=.inl ((),())∨y=.inr ((false,()),())):=by
 intro k
 induction k with
 | zero =>
  intro i h
  refine⟨_,Ev.of_eq 1 ?_,.inl rfl⟩
  simp (disch:=omega) only [Z23L5Eq,br_neg]
  exact Ev.pure _
 | succ k ih =>
  intro i h
  obtain⟨y,e,hy⟩:=ih (i+1) (by omega)
  have hi:i<L.length:=by omega
  obtain⟨z,ez,hz⟩:=right14L8 L hL i hi (hp _ (List.getElem_mem hi)) (L[i]).2.2.2.length 0 (by omega)
  rcases hz with rfl | rfl
  ·refine⟨y,Ev.of_eq 1 ?_,hy⟩
   simp (disch:=omega) only [Z23L5Eq,br_pos]
   refine Ev.bind ez ?_
   simp (disch:=omega) only [wr1]
   exact e
  ·refine⟨_,Ev.of_eq 1 ?_,.inr rfl⟩
   simp (disch:=omega) only [Z23L5Eq,br_pos]
   exact Ev.bind ez (Ev.pure _)
theorem stateEv {c:CellT} (hc:COk c) (w:Mo.StateT) (hl:w.2.2.length≤8):∃ b,Ev (fun n=>Z23 n c w) b∧(b=true→WOk c w):=by
 have f0:=rlimEv c.1.1 w.1.1
 have f1:=rlimEv c.1.2 w.1.2
 obtain⟨b,hb,hbt⟩:=placedEv c w hl
 cases h0:inLim c.1.1 w.1.1 with
 | false =>
  rw[h0] at f0
  refine⟨false,Ev.of_eq 1 ?_,fun e=>by cases e⟩
  simp only[Z23Eq]
  exact Ev.bind f0 (Ev.pure _)
 | true =>
 rw[h0] at f0
 cases h1:inLim c.1.2 w.1.2 with
 | false =>
  rw[h1] at f1
  refine⟨false,Ev.of_eq 1 ?_,fun e=>by cases e⟩
  simp only[Z23Eq]
  refine Ev.bind f0 ?_
  simp only[Bool.not_true,br_f]
  exact Ev.bind f1 (Ev.pure _)
 | true =>
 rw[h1] at f1
 cases b with
 | false =>
  refine⟨false,Ev.of_eq 1 ?_,fun e=>by cases e⟩
  simp only[Z23Eq]
  refine Ev.bind f0 ?_
  simp only[Bool.not_true,br_f]
  refine Ev.bind f1 ?_
  simp only[Bool.not_true,br_f]
  exact Ev.bind hb (Ev.pure _)
 | true =>
  obtain⟨k1,⟨k2,k3⟩,k4⟩:=hbt rfl
  have hw:WOk c w:=⟨h0,h1,k1,k4,k2,k3⟩
  have hbl:=bodies_len hc hw
  obtain⟨z,ez,hz⟩:=right14L5 (bodies c w) (by omega) (fun b hb=>by have:=(bodies_ok hc hw b hb).1;omega) (bodies c w).length 0 (by omega)
  have start:∀ {res:Bool},Ev (fun n=>(Z54 n c w).bind fun x=>(Z23L5 n ((x,((0:Int),())),())).bind fun l=>(match l with | .inl _=>some true | .inr y=>some y.1.1)) res→Ev (fun n=>Z23 n c w) res:=fun h=>by
   refine Ev.of_eq 1 ?_
   simp only[Z23Eq]
   refine Ev.bind f0 ?_
   simp only[Bool.not_true,br_f]
   refine Ev.bind f1 ?_
   simp only[Bool.not_true,br_f]
   refine Ev.bind hb ?_
   simp only[Bool.not_true,br_f]
   exact h
  rcases hz with rfl | rfl
  ·exact⟨true,start (Ev.bind (rbodiesEv hc hw) (Ev.bind ez (Ev.pure _))),fun _=>hw⟩
  ·exact⟨false,start (Ev.bind (rbodiesEv hc hw) (Ev.bind ez (Ev.pure _))),fun e=>by cases e⟩
theorem fitsEv (c:CellT) (w:Mo.StateT):∃ b,Ev (fun n=>Z10 n c w) b∧(b=true→COk c∧WOk c w):=by
 by_cases h1:(16:Int)<((c.2.2.1.length:Nat):Int)
 ·refine⟨false,Ev.of_eq 1 ?_,fun e=>by cases e⟩
  simp only[Z10Eq,br_pos h1];exact Ev.pure _
 by_cases h2:(16:Int)<((c.2.2.2.2.2.2.2.2.2.1.length:Nat):Int)
 ·refine⟨false,Ev.of_eq 1 ?_,fun e=>by cases e⟩
  simp only[Z10Eq,br_neg h1,br_pos h2];exact Ev.pure _
 by_cases h3:(16:Int)<((c.2.2.2.1.length:Nat):Int)
 ·refine⟨false,Ev.of_eq 1 ?_,fun e=>by cases e⟩
  simp only[Z10Eq,br_neg h1,br_neg h2,br_pos h3];exact Ev.pure _
 by_cases h4:(8:Int)<((c.2.2.2.2.1.length:Nat):Int)
 ·refine⟨false,Ev.of_eq 1 ?_,fun e=>by cases e⟩
  simp only[Z10Eq,br_neg h1,br_neg h2,br_neg h3,br_pos h4];exact Ev.pure _
 by_cases h5:(16:Int)<((c.2.2.2.2.2.1.length:Nat):Int)
 ·refine⟨false,Ev.of_eq 1 ?_,fun e=>by cases e⟩
  simp only[Z10Eq,br_neg h1,br_neg h2,br_neg h3,br_neg h4,br_pos h5];exact Ev.pure _
 by_cases h6:(8:Int)<((w.2.2.length:Nat):Int)
 ·refine⟨false,Ev.of_eq 1 ?_,fun e=>by cases e⟩
  simp only[Z10Eq,br_neg h1,br_neg h2,br_neg h3,br_neg h4,br_neg h5,br_pos h6];exact Ev.pure _
 obtain⟨b,hb,hbt⟩:=cellEv c ⟨by omega,by omega,by omega,by omega,by omega⟩
 cases b with
 | false =>
  refine⟨false,Ev.of_eq 1 ?_,fun e=>by cases e⟩
  simp only[Z10Eq,br_neg h1,br_neg h2,br_neg h3,br_neg h4,br_neg h5,br_neg h6]
  exact Ev.bind hb (Ev.pure _)
 | true =>
  have hc:=hbt rfl
  obtain⟨v,hv,hvt⟩:=stateEv hc w (by omega)
  refine⟨v,Ev.of_eq 1 ?_,fun e=>⟨hc,hvt e⟩⟩
  simp only[Z10Eq,br_neg h1,br_neg h2,br_neg h3,br_neg h4,br_neg h5,br_neg h6]
  refine Ev.bind hb ?_
  simp only[br_t]
  exact Ev.bind hv (Ev.pure _)
end Go.Jm
namespace Go.Mo
open Go.Hu
abbrev NodeT:=J3×(Int×MoveT)
def hasN (l:List NodeT) (q:J3):Bool:=l.any fun n=>decide (n.1=q)
def newB (c:CellT) (w:StateT) (a:Int) (q:J3) (l:List NodeT) (x:Int×Int):Bool :=
 (stepJ (armOf c a) q x.1 x.2).2 && (!hasN l (stepJ (armOf c a) q x.1 x.2).1 && free c (setQ w a q) (a,x))
def tryAll (c:CellT) (w:StateT) (a i most:Int) (q:J3):List (Int×Int)→List NodeT→List NodeT×Bool
 | [],l=>(l,true)
 | x :: r,l=>if newB c w a q l x=true then
   (if most≤(l.length:Int) then (l,false) else tryAll c w a i most q r (l ++ [((stepJ (armOf c a) q x.1 x.2).1,(i,(a,x)))]))
  else tryAll c w a i most q r l
def six:List (Int×Int):=[(0,-1),(0,1),(1,-1),(1,1),(2,-1),(2,1)]
def grow (c:CellT) (w:StateT) (a most:Int):Nat→Nat→List NodeT→List NodeT×Bool
 | 0,_,l=>(l,true)
 | k+1,i,l=>match l[i]? with
  | none=>(l,true)
  | some n=>if (tryAll c w a i most n.1 six l).2=true then grow c w a most k (i+1) (tryAll c w a i most n.1 six l).1 else tryAll c w a i most n.1 six l
end Go.Mo
namespace Go.Mo
open Go.Hu
def regionR (o:Pt) (a b:List Pt):List Pt×Bool:=if a.length≠b.length then ([],false) else if 12<a.length then ([],false) else refRes (points o a b)
theorem regionR_eq (o:Pt) (a b:List Pt):region o a b=regionR o a b:=by unfold region regionR;rw[refRes_eq]
def sweptBR (o:Pt) (b:BodyT):List BodyT→BodyT
 | []=>b
 | x :: l=>if alike x b=true then (b.1,(b.2.1,(b.2.2.1,(regionR o b.2.2.2 x.2.2.2).1))) else sweptBR o b l
theorem sweptBR_eq (o:Pt) (b:BodyT):∀ l,sweptB o b l=sweptBR o b l
 | []=>rfl
 | x :: l=>by unfold sweptB sweptBR;rw[regionR_eq,sweptBR_eq o b l]
def sweptPR (o:Pt) (m:MoveT) (thn:List BodyT):List PairT→List PairT
 | []=>[]
 | p :: l=>(if moves m p.1=true∧moves m p.2=false then [(sweptBR o p.1 thn,p.2)] else if moves m p.2=true∧moves m p.1=false then [(p.1,sweptBR o p.2 thn)] else []) ++ sweptPR o m thn l
theorem sweptPR_eq (o:Pt) (m:MoveT) (thn:List BodyT):∀ l,sweptP o m thn l=sweptPR o m thn l
 | []=>rfl
 | p :: l=>by unfold sweptP sweptPR;rw[sweptBR_eq,sweptBR_eq,sweptPR_eq o m thn l]
def sweptPairsR (c:CellT) (w:StateT) (m:MoveT):List PairT :=
 if (next c w m).2=true then sweptPR (jpt (armOf c m.1) (conf w m.1) m.2.1) m (bodies c (next c w m).1) (pairsOf (bodies c w)) else []
def freeR (c:CellT) (w:StateT) (m:MoveT):Bool :=
 if (next c w m).2=true then (sepAll ((sweptPairsR c w m).flatMap checks)).isSome else false
theorem freeR_eq (c:CellT) (w:StateT) (m:MoveT):free c w m=freeR c w m:=by
 have e:sweptPairs c w m=sweptPairsR c w m:=by unfold sweptPairs sweptPairsR;rw[sweptPR_eq]
 unfold free cert freeR
 rw[e]
 split
 ·split <;> rename_i h <;> rw[h] <;> rfl
 ·rfl
def exA (x:Int):ArmT:=((x,0),((4,(3,2)),(1,((-17,(-17,-17)),(18,(18,18))))))
def exC:CellT:=((exA 0,exA 175760000),(((0,(0,0)),(9,(0,0))),([[(26364000,8788000),(39546000,8788000),(39546000,17576000),(26364000,17576000)]],([],([],([],(0,((8,(4,2)),((4,(2,1)),([],(0,2)))))))))))
def exW:StateT:=(((0,(0,0)),(9,(0,0))),((-1,-1),[]))
end Go.Mo
namespace Go.Mo
open Go.Hu
theorem sweptPairsR_eq (c:CellT) (w:StateT) (m:MoveT):sweptPairs c w m=sweptPairsR c w m:=by
 unfold sweptPairs sweptPairsR;rw[sweptPR_eq]
theorem ex5_next:next exC exW (0,(1,-1))=((((0,(-1,0)),(9,(0,0))),((-1,-1),[])),true)∧(next exC exW (2,(0,1))).2=false∧(next exC exW (0,(3,1))).2=false:=by decide +kernel
theorem ex5_obst:obst exC exW (0,(1,1))=((0,((0,(1,1)),(8,(0,(0,(1,(4,0))))))),true):=by
 have h:obsP (sweptPairsR exC exW (0,(1,1))) 0=some ((8:Nat),((0:Nat),((0:Nat),((1:Int),((4:Int),(0:Int)))))):=by decide +kernel
 unfold obst
 rw[sweptPairsR_eq,h]
 rfl
def ex5_t (l:List PairT):Bool:=decide (l.length=9) && (match l[8]? with
 | some x=>decide (x.1.1=1) && (decide (x.2.1=4) && (meets x.1.2.2.2 x.2.2.2.2 && validB x.1.2.2.2))
 | none=>false)
theorem ex5_swept:ex5_t (sweptPairs exC exW (0,(1,1)))=true:=by
 rw[sweptPairsR_eq]
 decide +kernel
theorem ex5_cert:(cert exC exW (0,(1,-1))).1.length=9∧(cert exC exW (0,(1,-1))).2=true∧(sweptPairs exC exW (0,(1,-1))).length=9:=by
 unfold cert
 rw[sweptPairsR_eq]
 decide +kernel
theorem ex5_free:free exC exW (0,(1,1))=false∧free exC exW (0,(1,-1))=true:=by
 rw[freeR_eq,freeR_eq]
 decide +kernel
theorem ex5_clear:clear exC exW=true:=by decide +kernel
end Go.Mo
namespace Go.Jm
open Go Go.Am Go.Proofs Go.Hu Go.Mo
theorem ex_arm {x:Int} (h:0≤x∧x≤175760000):ArmOk (exA x):=by
 refine⟨?_,?_,?_,?_,?_,?_⟩ <;> (try unfold Bb) <;> unfold exA <;> simp only <;> omega
theorem ex_c:COk exC:=by
 refine⟨ex_arm (by omega),ex_arm (by omega),by decide,fun p hp=>?_,by decide,fun p hp=>?_,by decide,fun p hp=>?_⟩
 ·have:p=[(26364000,8788000),(39546000,8788000),(39546000,17576000),(26364000,17576000)]:=by
   have h:p∈[[(26364000,8788000),(39546000,8788000),(39546000,17576000),((26364000:Int),(17576000:Int))]]:=hp
   simpa using h
  subst this
  refine⟨by decide,fun x hx=>?_⟩
  simp at hx
  unfold Bb
  rcases hx with rfl | rfl | rfl | rfl <;> simp only <;> omega
 ·exact absurd hp (List.not_mem_nil)
 ·exact absurd hp (List.not_mem_nil)
theorem ex_w:WOk exC exW:=⟨by decide,by decide,by decide,fun k hk=>absurd hk List.not_mem_nil,by decide,by decide⟩
theorem cell15Ev:Ev (fun n=>Z35 n) exC:=by
 refine Ev.of_eq 1 ?_
 simp only[Z35Eq]
 exact (Ev.pure _).congr (by kernel_rfl)
theorem firstStEv:Ev (fun n=>Z36 n exC) exW:=by
 refine Ev.of_eq 2 ?_
 simp only[Z36Eq,Z36L3Eq]
 exact⟨0,fun n _=>by kernel_rfl⟩
theorem headEv:Ev (fun n=>Z9 n) true:=by
 have q0:=ex_w.q0 ex_c
 have q1:=ex_w.q1 ex_c
 obtain⟨n1,n2,n3⟩:=ex5_next
 obtain⟨c1,c2,c3⟩:=ex5_cert
 obtain⟨f1,f2⟩:=ex5_free
 have hs:=ex5_swept
 have hok:=(sweptPairs_ok ex_c ex_w (0,(1,1))).2
 have sw1:=sweptPairsEv ex_c ex_w (0,(1,1))
 have sw2:=sweptPairsEv ex_c ex_w (0,(1,-1))
 have ce:=certEv ex_c ex_w (0,(1,-1))
 generalize sweptPairs exC exW (0,(1,1))=P at *
 generalize sweptPairs exC exW (0,(1,-1))=P2 at *
 generalize cert exC exW (0,(1,-1))=ct at *
 unfold ex5_t at hs
 rw[Bool.and_eq_true,decide_eq_true_eq] at hs
 obtain⟨hl,hs⟩:=hs
 cases hx:P[8]? with
 | none=>rw[hx] at hs;cases hs
 | some x =>
 rw[hx] at hs
 simp only[Bool.and_eq_true,decide_eq_true_eq] at hs
 obtain⟨h1,h2,h3,h4⟩:=hs
 obtain⟨o1,o2⟩:=hok x (List.mem_of_getElem? hx)
 have hlz:¬ ((P.length:Nat):Int)=0:=by omega
 refine Ev.of_eq 1 ?_
 simp only[Z9Eq]
 refine Ev.bind cell15Ev ?_
 refine Ev.bind firstStEv ?_
 refine Ev.bind ((nextStEv exC exW (0,(1,-1)) q0 q1).congr n1) ?_
 refine Ev.bind (nextStEv exC exW (2,(0,1)) q0 q1) ?_
 refine Ev.bind (nextStEv exC exW (0,(3,1)) q0 q1) ?_
 refine Ev.bind ((obstEv ex_c ex_w (0,(1,1))).congr ex5_obst) ?_
 refine Ev.bind ce ?_
 refine Ev.bind sw1 ?_
 have hx':P[((8:Int)).toNat]?=some x:=hx
 simp (disch:=omega) only [br_neg,br_pos,hx',Option.bind_some,n2,n3,Bool.not_false,br_t]
 refine Ev.br_true (by decide) ?_
 refine Ev.bind ((clearEv ex_c ex_w).congr ex5_clear) ?_
 refine Ev.br_true rfl ?_
 refine Ev.bind ((freeEv ex_c ex_w (0,(1,1))).congr f1) ?_
 refine Ev.br_true rfl ?_
 refine Ev.bind ((freeEv ex_c ex_w (0,(1,-1))).congr f2) ?_
 refine Ev.br_true rfl ?_
 refine Ev.br_true c2 ?_
 refine Ev.bind sw2 ?_
 refine Ev.br_true (by rw[c1,c3];rfl) ?_
 refine Ev.br_true (by decide) ?_
 refine Ev.bind ((meetsEv (by have:=o1.1;omega) o1.2 (by have:=o2.1;omega) o2.2).congr h3) ?_
 refine Ev.br_true rfl ?_
 exact Ev.bind ((polyValidEv (by have:=o1.1;omega) o1.2).congr h4) (Ev.pure _)
end Go.Jm
namespace Go.Jm
open Go Go.Am Go.Proofs Go.Hu Go.Mo
theorem beqP2 (a b:Pt):Ty.beq (.pair (.int .i64) (.int .i64)) a b=decide (a=b):=by
 have e:Ty.beq (.pair (.int .i64) (.int .i64)) a b=(decide (a.1=b.1) && decide (a.2=b.2)):=rfl
 rw[e,Bool.eq_iff_iff];simp[Prod.ext_iff]
theorem beqJ3 (a b:J3):Ty.beq (.pair (.int .i64) (.pair (.int .i64) (.int .i64))) a b=decide (a=b):=by
 have e:Ty.beq (.pair (.int .i64) (.pair (.int .i64) (.int .i64))) a b=(decide (a.1=b.1) && (decide (a.2.1=b.2.1) && decide (a.2.2=b.2.2))):=rfl
 rw[e,Bool.eq_iff_iff];simp[Prod.ext_iff]
theorem beqJ6 (a b:J3×J3):Ty.beq (.pair (.pair (.int .i64) (.pair (.int .i64) (.int .i64))) (.pair (.int .i64) (.pair (.int .i64) (.int .i64)))) a b=decide (a=b):=by
 have e:Ty.beq (.pair (.pair (.int .i64) (.pair (.int .i64) (.int .i64))) (.pair (.int .i64) (.pair (.int .i64) (.int .i64)))) a b=(Ty.beq (.pair (.int .i64) (.pair (.int .i64) (.int .i64))) a.1 b.1 && Ty.beq (.pair (.int .i64) (.pair (.int .i64) (.int .i64))) a.2 b.2):=rfl
 rw[e,beqJ3,beqJ3,Bool.eq_iff_iff];simp[Prod.ext_iff]
theorem sameL4 (p:List Pt) (hl:p.length<1000000000):∀ (k i:Nat),i+k=p.length→Ev (fun n=>Z64L4 n ((p,(p,((i:Int),()))),())) (.inl ((),()))
 | 0,i,h=>by
  refine Ev.of_eq 1 ?_
  simp (disch:=omega) only [Z64L4Eq,br_neg]
  exact Ev.pure _
 | k+1,i,h=>by
  have g:p[i]?=some p[i]:=List.getElem?_eq_getElem (by omega)
  refine Ev.of_eq 1 ?_
  simp (disch:=omega) only [Z64L4Eq,br_pos,Int.toNat_natCast,g,Option.bind_some,wr1,beqP2,decide_true,Bool.not_true,br_f]
  exact sameL4 p hl k (i+1) (by omega)
theorem sameEv (p:List Pt) (hl:p.length<1000000000):Ev (fun n=>Z64 n p p) true:=by
 refine Ev.of_eq 1 ?_
 simp only[Z64Eq,decide_true,Bool.not_true,br_f]
 exact Ev.bind (sameL4 p hl p.length 0 (by omega)) (Ev.pure _)
theorem bodySelf {b:BodyT} (hb:Aok b):Ev (fun n=>Z30 n b b) true:=by
 refine Ev.of_eq 1 ?_
 simp only[Z30Eq,decide_true,br_t]
 exact Ev.bind (sameEv b.2.2.2 (by have:=hb.1;omega)) (Ev.pure _)
theorem pairsSelfL4 (P:List PairT) (hl:P.length<1000000000) (hP:∀ p∈P,Aok p.1∧Aok p.2):∀ (k i:Nat),i+k=P.length→Ev (fun n=>Z19L4 n ((P,(P,((i:Int),()))),())) (.inl ((),()))
 | 0,i,h=>by
  refine Ev.of_eq 1 ?_
  simp (disch:=omega) only [Z19L4Eq,br_neg]
  exact Ev.pure _
 | k+1,i,h=>by
  have g:P[i]?=some P[i]:=List.getElem?_eq_getElem (by omega)
  obtain⟨h1,h2⟩:=hP _ (List.mem_of_getElem? g)
  refine Ev.of_eq 1 ?_
  simp (disch:=omega) only [Z19L4Eq,br_pos,Int.toNat_natCast,g,Option.bind_some,wr1]
  refine Ev.bind (bodySelf h1) ?_
  simp only[Bool.not_true,br_f]
  refine Ev.bind (bodySelf h2) ?_
  simp only[Bool.not_true,br_f]
  exact pairsSelfL4 P hl hP k (i+1) (by omega)
theorem pairsSelf {P:List PairT} (hl:P.length<1000000000) (hP:∀ p∈P,Aok p.1∧Aok p.2):Ev (fun n=>Z19 n P P) true:=by
 refine Ev.of_eq 1 ?_
 simp only[Z19Eq,decide_true,Bool.not_true,br_f]
 exact Ev.bind (pairsSelfL4 P hl hP P.length 0 (by omega)) (Ev.pure _)
theorem worldL4 (w:Mo.StateT) (hl:w.2.2.length<1000000000):∀ (k i:Nat),i+k=w.2.2.length→Ev (fun n=>Z17L4 n (((),((),((i:Int),()))),((w,()),((w,()),())))) (.inl ((),()))
 | 0,i,h=>by
  refine Ev.of_eq 1 ?_
  simp (disch:=omega) only [Z17L4Eq,br_neg]
  exact Ev.pure _
 | k+1,i,h=>by
  have g:w.2.2[i]?=some w.2.2[i]:=List.getElem?_eq_getElem (by omega)
  refine Ev.of_eq 1 ?_
  simp (disch:=omega) only [Z17L4Eq,br_pos,Int.toNat_natCast,g,Option.bind_some,wr1,decide_true,Bool.not_true,br_f]
  exact worldL4 w hl k (i+1) (by omega)
theorem worldSelf {w:Mo.StateT} (hl:w.2.2.length<1000000000):Ev (fun n=>Z17 n w w) true:=by
 refine Ev.of_eq 1 ?_
 simp only[Z17Eq,beqJ6,beqP2,decide_true,Bool.not_true,br_f]
 exact Ev.bind (worldL4 w hl w.2.2.length 0 (by omega)) (Ev.pure _)
theorem linesL4 (l:List (Int×Int)) (hl:l.length<1000000000000):∀ (k i:Nat),i+k=l.length→Ev (fun n=>Z18L4 n ((l,(l,((i:Int),()))),())) (.inl ((),()))
 | 0,i,h=>by
  refine Ev.of_eq 1 ?_
  simp (disch:=omega) only [Z18L4Eq,br_neg]
  exact Ev.pure _
 | k+1,i,h=>by
  have g:l[i]?=some l[i]:=List.getElem?_eq_getElem (by omega)
  refine Ev.of_eq 1 ?_
  simp (disch:=omega) only [Z18L4Eq,br_pos,Int.toNat_natCast,g,Option.bind_some,wr1,beqP2,decide_true,Bool.not_true,br_f]
  exact linesL4 l hl k (i+1) (by omega)
theorem linesSelf {l:List (Int×Int)} (hl:l.length<1000000000000):Ev (fun n=>Z18 n l l) true:=by
 refine Ev.of_eq 1 ?_
 simp only[Z18Eq,decide_true,Bool.not_true,br_f]
 exact Ev.bind (linesL4 l hl l.length 0 (by omega)) (Ev.pure _)
end Go.Jm
namespace Go.Jm
open Go Go.Am Go.Proofs Go.Hu Go.Mo
theorem apartEv {a b:BodyT} (h1:1≤a.1) (h2:a.1≤b.1) (h3:b.1≤4):Ev (fun n=>Z92 n a b) (bar a b):=by
 refine Ev.of_eq 1 ?_
 simp only[Z92Eq]
 unfold bar
 by_cases a1:a.1=1
 ·rw[if_pos a1]
  refine Ev.ite_pos a1 ?_
  by_cases b1:b.1=1
  ·rw[if_pos b1]
   refine Ev.ite_pos b1 ?_
   by_cases e:a.2.1=b.2.1
   ·refine Ev.nite_pos e ?_
    by_cases e2:a.2.2.1=0
    ·exact Ev.ite_pos e2 ((Ev.pure _).congr (by simp[e,e2]))
    ·exact Ev.ite_neg e2 ((Ev.pure _).congr (by simp[e,e2]))
   ·exact Ev.nite_neg e ((Ev.pure _).congr (by simp[e]))
  ·rw[if_neg b1]
   refine Ev.ite_neg b1 ?_
   by_cases b2:b.1=2
   ·rw[if_pos b2]
    refine Ev.ite_pos b2 ?_
    by_cases e:a.2.1=b.2.1
    ·exact Ev.nite_pos e ((Ev.pure _).congr (by simp[e]))
    ·exact Ev.nite_neg e ((Ev.pure _).congr (by simp[e]))
   ·rw[if_neg b2]
    refine Ev.ite_neg b2 ?_
    by_cases b3:b.1=3
    ·rw[if_pos b3]
     exact Ev.ite_pos b3 (Ev.pure _)
    ·rw[if_neg b3]
     exact Ev.ite_neg b3 ((Ev.pure _).congr (by symm;rw[decide_eq_true_eq];omega))
 ·rw[if_neg a1]
  refine Ev.ite_neg a1 ?_
  by_cases a2:a.1=2
  ·rw[if_pos a2]
   refine (Ev.pure _).congr ?_
   rw[decide_eq_true a2]
   symm
   simp only[Bool.or_eq_true,decide_eq_true_eq]
   omega
  ·rw[if_neg a2]
   exact (Ev.pure _).congr (decide_eq_false a2)
theorem rpairsL7 (L:List BodyT) (hL:L.length≤1000) {i:Nat} {a:BodyT} (hi:L[i]?=some a) (ha:1≤a.1):∀ (r:List BodyT) (j:Nat) (out:List PairT),L.drop j=r→j≤L.length→out.length≤1000000+j→(∀ b∈r,a.1≤b.1∧b.1≤4) →
  Ev (fun n=>Z50L7 n ((out,(L,((i:Int),((j:Int),())))),())) ((out ++ (r.filter (bar a)).map (fun b=>(a,b)),(L,((i:Int),()))),())
 | [],j,out,h,hj,ho,hr=>by
  have:=gdrop_nil h
  refine Ev.of_eq 1 ?_
  simp (disch:=omega) only [Z50L7Eq,br_neg]
  exact (Ev.pure _).congr (by simp)
 | b :: r,j,out,h,hj,ho,hr=>by
  obtain⟨g1,g2,g3⟩:=gdrop h
  have hb:=hr b (by simp)
  have ih:=fun out ho=>rpairsL7 L hL hi ha r (j+1) out g2 (by omega) ho fun b hb=>hr b (by simp[hb])
  have hcap:(out.length + [((a,b):PairT)].length)*96≤140737488355328:=by simp only[List.length_cons,List.length_nil];omega
  refine Ev.of_eq 1 ?_
  simp (disch:=omega) only [Z50L7Eq,br_pos,Int.toNat_natCast,hi,g1,Option.bind_some,wr1,br_pos hcap]
  refine Ev.bind (x:=(((if bar a b=true then out ++ [(a,b)] else out),(L,((i:Int),((j:Int),())))),())) ?_ ?_
  ·refine Ev.bind (apartEv ha hb.1 hb.2) ?_
   cases bar a b with
   | true=>exact Ev.br_true rfl (Ev.pure _)
   | false=>exact Ev.br_false rfl (Ev.pure _)
  ·simp (disch:=omega) only [wr1]
   refine (ih _ (by
    split
    ·simp only[List.length_append,List.length_cons,List.length_nil];omega
    ·omega)).congr ?_
   cases hb:bar a b <;> simp[hb]
theorem rpairsL4 (L:List BodyT) (hL:L.length≤1000):∀ (r:List BodyT) (i:Nat) (out:List PairT),L.drop i=r→i≤L.length→out.length≤1000*i→(∀ b∈r,1≤b.1∧b.1≤4)→r.Pairwise (fun a b=>a.1≤b.1) →
  Ev (fun n=>Z50L4 n ((out,(L,((i:Int),()))),())) ((out ++ pairsOf r,()),())
 | [],i,out,h,hi,ho,hk,hp=>by
  have:=gdrop_nil h
  refine Ev.of_eq 1 ?_
  simp (disch:=omega) only [Z50L4Eq,br_neg]
  exact (Ev.pure _).congr (by simp[pairsOf])
 | a :: r,i,out,h,hi,ho,hk,hp=>by
  obtain⟨g1,g2,g3⟩:=gdrop h
  obtain⟨p1,p2⟩:=List.pairwise_cons.1 hp
  have l7:=rpairsL7 L hL g1 (hk a (by simp)).1 r (i+1) out g2 (by omega) (by omega) fun b hb=>⟨p1 b hb,(hk b (by simp[hb])).2⟩
  have hlen:(r.filter (bar a)).length≤1000:=by
   have:=List.length_filter_le (bar a) r
   have:r.length≤L.length:=by rw[← g2,List.length_drop];omega
   omega
  have ih:=rpairsL4 L hL r (i+1) (out ++ (r.filter (bar a)).map (fun b=>(a,b))) g2 (by omega) (by simp only[List.length_append,List.length_map];omega) (fun b hb=>hk b (by simp[hb])) p2
  refine Ev.of_eq 1 ?_
  simp (disch:=omega) only [Z50L4Eq,br_pos,wr1]
  refine Ev.bind l7 ?_
  simp (disch:=omega) only [wr1]
  exact ih.congr (by simp[pairsOf])
theorem kind_resting (c:CellT):∀ (l:List Int) (i:Nat),∀ b∈resting c i l,b.1=3
 | [],i,b,h=>by simp[resting] at h
 | k :: l,i,b,h=>by
  unfold resting at h
  rcases List.mem_append.1 h with h | h
  ·split at h
   ·simp at h;subst h;rfl
   ·simp at h
  ·exact kind_resting c l (i+1) b h
theorem kind_fixed:∀ (l:List (List Pt)) (i:Nat),∀ b∈fixed i l,b.1=4
 | [],i,b,h=>by simp[fixed] at h
 | p :: l,i,b,h=>by
  unfold fixed at h
  rcases List.mem_cons.1 h with h | h
  ·subst h;rfl
  ·exact kind_fixed l (i+1) b h
theorem kind_held {c:CellT} {a:ArmT} {q:J3} {i h:Int}:∀ b∈held c a q i h,b.1=2:=by
 intro b hb
 unfold held at hb
 split at hb
 ·simp at hb
 ·simp at hb;subst hb;rfl
theorem kind_arms {c:CellT} {w:Mo.StateT}:∀ b∈arms6 c w,b.1=1:=by
 intro b hb
 simp only[arms6,lset,List.mem_append,List.mem_cons,List.not_mem_nil,or_false] at hb
 rcases hb with (h | h | h) | (h | h | h) <;> subst h <;> rfl
theorem pw_const {l:List BodyT} {k:Int} (h:∀ b∈l,b.1=k):l.Pairwise (fun a b=>a.1≤b.1):=by
 rw[List.pairwise_iff_forall_sublist]
 intro a b hs
 have h1:=h a (hs.subset (by simp))
 have h2:=h b (hs.subset (by simp))
 omega
theorem kinds (c:CellT) (w:Mo.StateT):(∀ b∈bodies c w,1≤b.1∧b.1≤4)∧(bodies c w).Pairwise (fun a b=>a.1≤b.1):=by
 have k1:=kind_arms (c:=c) (w:=w)
 have k2:=kind_held (c:=c) (a:=c.1.1) (q:=w.1.1) (i:=0) (h:=w.2.1.1)
 have k3:=kind_held (c:=c) (a:=c.1.2) (q:=w.1.2) (i:=1) (h:=w.2.1.2)
 have k4:=kind_resting c w.2.2 0
 have k5:=kind_fixed c.2.2.1 0
 unfold bodies
 refine⟨fun b hb=>?_,?_⟩
 ·simp only[List.mem_append] at hb
  rcases hb with h | h | h | h | h
  ·have:=k1 b h;omega
  ·have:=k2 b h;omega
  ·have:=k3 b h;omega
  ·have:=k4 b h;omega
  ·have:=k5 b h;omega
 ·simp only[List.pairwise_append,List.mem_append]
  refine⟨pw_const k1,⟨pw_const k2,⟨pw_const k3,⟨pw_const k4,pw_const k5,?_⟩,?_⟩,?_⟩,?_⟩
  ·intro a h1 b h2;have:=k4 a h1;have:=k5 b h2;omega
  ·intro a h1 b h2
   have:=k3 a h1
   rcases h2 with h | h
   ·have:=k4 b h;omega
   ·have:=k5 b h;omega
  ·intro a h1 b h2
   have:=k2 a h1
   rcases h2 with h | h | h
   ·have:=k3 b h;omega
   ·have:=k4 b h;omega
   ·have:=k5 b h;omega
  ·intro a h1 b h2
   have:=k1 a h1
   rcases h2 with h | h | h | h
   ·have:=k2 b h;omega
   ·have:=k3 b h;omega
   ·have:=k4 b h;omega
   ·have:=k5 b h;omega
theorem rpairsEv {c:CellT} {w:Mo.StateT} (hc:COk c) (hw:WOk c w):Ev (fun n=>Z50 n c w) (pairsOf (bodies c w)):=by
 obtain⟨h1,h2⟩:=kinds c w
 have hl:=bodies_len hc hw
 refine Ev.of_eq 1 ?_
 simp only[Z50Eq]
 refine Ev.bind (rbodiesEv hc hw) ?_
 refine Ev.bind (rpairsL4 (bodies c w) (by omega) (bodies c w) 0 [] rfl (Nat.zero_le _) (by simp) h1 h2) ?_
 exact (Ev.pure _).congr (by simp)
theorem rnextEv (c:CellT) (w:Mo.StateT) (m:MoveT) (h1:QBd w.1.1) (h2:QBd w.1.2):Ev (fun n=>Z12 n c w m) (next c w m):=by
 obtain⟨a,j,b⟩:=m
 refine Ev.of_eq 1 ?_
 unfold next
 by_cases a0:a=0
 ·subst a0
  simp (disch:=omega) only [Z12Eq,nbr_pos,br_pos,br_neg]
  refine Ev.bind (rstepEv c.1.1 h1 j b) ?_
  have e:(stepJ (armOf c 0) (conf w 0) j b)=stepJ c.1.1 w.1.1 j b:=rfl
  rw[e]
  cases hs:(stepJ c.1.1 w.1.1 j b).2 with
  | true=>exact Ev.br_false rfl ((Ev.pure _).congr (by rw[if_pos ⟨by omega,by omega,rfl⟩];rfl))
  | false=>exact Ev.br_true rfl ((Ev.pure _).congr (by rw[if_neg (fun h=>by cases h.2.2)]))
 ·by_cases a1:a=1
  ·subst a1
   simp (disch:=omega) only [Z12Eq,nbr_pos,nbr_neg,br_pos,br_neg]
   refine Ev.bind (rstepEv c.1.2 h2 j b) ?_
   have e:(stepJ (armOf c 1) (conf w 1) j b)=stepJ c.1.2 w.1.2 j b:=rfl
   rw[e]
   cases hs:(stepJ c.1.2 w.1.2 j b).2 with
   | true=>exact Ev.br_false rfl ((Ev.pure _).congr (by rw[if_pos ⟨by omega,by omega,rfl⟩];rfl))
   | false=>exact Ev.br_true rfl ((Ev.pure _).congr (by rw[if_neg (fun h=>by cases h.2.2)]))
  ·simp (disch:=omega) only [Z12Eq,nbr_neg]
   exact (Ev.pure _).congr (by rw[if_neg (fun h=>by have h1:0≤a:=h.1;have h2:a≤1:=h.2.1;omega)])
theorem rmovesEv (m:MoveT) (b:BodyT):Ev (fun n=>Z26 n m b) (Mo.moves m b):=by
 refine Ev.of_eq 1 ?_
 simp only[Z26Eq]
 unfold Mo.moves
 by_cases h1:b.2.1=m.1
 ·refine Ev.nite_pos h1 ?_
  by_cases h2:b.1=2
  ·exact Ev.ite_pos h2 ((Ev.pure _).congr (by simp[h1,h2]))
  ·refine Ev.ite_neg h2 ?_
   by_cases h3:b.1=1
   ·exact Ev.ite_pos h3 ((Ev.pure _).congr (by simp[h1,h3]))
   ·exact Ev.ite_neg h3 ((Ev.pure _).congr (by simp[h2,h3]))
 ·exact Ev.nite_neg h1 ((Ev.pure _).congr (by simp[h1]))
end Go.Jm
namespace Go.Jm
open Go Go.Am Go.Proofs Go.Hu Go.Mo
theorem sweptB_none {o:Pt} {b:BodyT}:∀ {r:List BodyT},r.any (fun x=>alike x b)=false→sweptB o b r=b
 | [],_=>rfl
 | x :: r,h=>by
  rw[List.any_cons,Bool.or_eq_false_iff] at h
  unfold sweptB
  rw[if_neg (by rw[h.1];simp)]
  exact sweptB_none h.2
abbrev RB0:(Int×(Int×Int))×(List Pt×Unit):=(((0:Int),((0:Int),(0:Int))),([],()))
theorem rsweptL4 {o:Pt} (ho:Mid o) (L:List BodyT) (hL:L.length≤1000) (hb:∀ x∈L,BOk x) {b:BodyT} (hbb:BOk b):∀ (r:List BodyT) (i:Nat),L.drop i=r→i≤L.length →
  Ev (fun n=>Z51L4 n (((),((),((),(L,((i:Int),()))))),((),((),((),((),((b,()),(RB0,((o,()),())))))))))
   (if r.any (fun x=>alike x b)=true then .inr (((),()),((),((),((),((),((),((sweptB o b r,()),()))))))) else .inl (((),((),())),((),((),((),((),((b,()),(RB0,()))))))))
 | [],i,h,hi=>by
  have:=gdrop_nil h
  refine Ev.of_eq 1 ?_
  simp (disch:=omega) only [Z51L4Eq,br_neg]
  exact (Ev.pure _).congr (by simp)
 | x :: r,i,h,hi=>by
  obtain⟨g1,g2,g3⟩:=gdrop h
  have ih:=rsweptL4 ho L hL hb hbb r (i+1) g2 (by omega)
  have sw:=sweptEv ho (by have:=hbb.1;omega) hbb.2 (hb x (List.mem_of_getElem? g1)).2
  refine Ev.of_eq 1 ?_
  simp (disch:=omega) only [Z51L4Eq,br_pos,Int.toNat_natCast,g1,Option.bind_some,wr1]
  by_cases h1:x.1=b.1
  ·refine Ev.ite_pos h1 ?_
   by_cases h2:x.2.1=b.2.1
   ·refine Ev.ite_pos h2 ?_
    by_cases h3:x.2.2.1=b.2.2.1
    ·refine Ev.ite_pos h3 ?_
     refine Ev.bind sw ?_
     have e:alike x b=true:=by unfold alike;simp[h1,h2,h3]
     exact (Ev.pure _).congr (by
      have e2:sweptB o b (x :: r)=(b.1,(b.2.1,(b.2.2.1,(region o b.2.2.2 x.2.2.2).1))):=by show (if alike x b=true then _ else _)=_;rw[e];rfl
      rw[e2,List.any_cons,e,Bool.true_or,if_pos rfl])
    ·exact Ev.ite_neg h3 (ih.congr (by
     have e:alike x b=false:=by unfold alike;simp[h3]
     have e2:sweptB o b (x :: r)=sweptB o b r:=by show (if alike x b=true then _ else _)=_;rw[e];rfl
     rw[e2,List.any_cons,e,Bool.false_or]))
   ·exact Ev.ite_neg h2 (ih.congr (by
     have e:alike x b=false:=by unfold alike;simp[h2]
     have e2:sweptB o b (x :: r)=sweptB o b r:=by show (if alike x b=true then _ else _)=_;rw[e];rfl
     rw[e2,List.any_cons,e,Bool.false_or]))
  ·exact Ev.ite_neg h1 (ih.congr (by
     have e:alike x b=false:=by unfold alike;simp[h1]
     have e2:sweptB o b (x :: r)=sweptB o b r:=by show (if alike x b=true then _ else _)=_;rw[e];rfl
     rw[e2,List.any_cons,e,Bool.false_or]))
theorem rsweptEv {c:CellT} {w v:Mo.StateT} (hc:COk c) (hw:WOk c w) (hv:WOk c v) {m:MoveT} (ha:m.1=0∨m.1=1) (hj:m.2.1=0∨m.2.1=1∨m.2.1=2) {b:BodyT} (hb:BOk b) :
  Ev (fun n=>Z51 n c w v m b) (sweptB (jpt (armOf c m.1) (conf w m.1) m.2.1) b (bodies c v)):=by
 have hl:=bodies_len hc hv
 have bo:=rbodiesEv hc hv
 have p0:=rjptsEv hc.arm0 (hc.arm0.qbd hw.lim0)
 have p1:=rjptsEv hc.arm1 (hc.arm1.qbd hw.lim1)
 have fin:∀ {o:Pt},Mid o→Ev (fun n=>(Z54 n c v).bind fun x775=>(Z51L4 n (((),((),((),(x775,((0:Int),()))))),((),((),((),((),((b,()),(RB0,((o,()),()))))))))).bind fun l776=>(match l776 with | .inl y777=>some y777.2.2.2.2.2.1.1 | .inr y778=>some y778.2.2.2.2.2.2.1.1)) (sweptB o b (bodies c v)):=fun {o} ho=>by
  refine Ev.bind bo ?_
  refine Ev.bind (rsweptL4 ho (bodies c v) (by omega) (bodies_ok hc hv) hb (bodies c v) 0 rfl (Nat.zero_le _)) ?_
  cases h:(bodies c v).any (fun x=>alike x b) with
  | true=>simp only[if_true];exact Ev.pure _
  | false=>simp only[Bool.false_eq_true,if_false];exact (Ev.pure _).congr (sweptB_none h).symm
 have md:=fun j=>jpt_mid hc hw m.1 j
 obtain⟨a,j,s⟩:=m
 simp only at ha hj md ⊢
 refine Ev.of_eq 1 ?_
 rcases ha with rfl | rfl
 ·have e:∀ j,jpt (armOf c 0) (conf w 0) j=jpt c.1.1 w.1.1 j:=fun j=>rfl
  simp only[e] at md ⊢
  rcases hj with rfl | rfl | rfl
  ·simp (disch:=omega) only [Z51Eq,br_pos,br_neg]
   exact Ev.bind p0 (fin (md 0))
  ·simp (disch:=omega) only [Z51Eq,br_pos,br_neg]
   exact Ev.bind p0 (fin (md 1))
  ·simp (disch:=omega) only [Z51Eq,br_pos,br_neg]
   exact Ev.bind p0 (fin (md 2))
 ·have e:∀ j,jpt (armOf c 1) (conf w 1) j=jpt c.1.2 w.1.2 j:=fun j=>rfl
  simp only[e] at md ⊢
  rcases hj with rfl | rfl | rfl
  ·simp (disch:=omega) only [Z51Eq,br_pos,br_neg]
   exact Ev.bind p1 (fin (md 0))
  ·simp (disch:=omega) only [Z51Eq,br_pos,br_neg]
   exact Ev.bind p1 (fin (md 1))
  ·simp (disch:=omega) only [Z51Eq,br_pos,br_neg]
   exact Ev.bind p1 (fin (md 2))
abbrev RZ (c:CellT) (w:Mo.StateT) (m:MoveT) (v:Mo.StateT):(CellT×Unit)×((Mo.StateT×Unit)×((MoveT×Unit)×((Mo.StateT×Unit)×Unit))):=((c,()),((w,()),((m,()),((v,()),()))))
theorem rspL7 {c:CellT} {w v:Mo.StateT} (hc:COk c) (hw:WOk c w) (hv:WOk c v) {m:MoveT} (ha:m.1=0∨m.1=1) (hj:m.2.1=0∨m.2.1=1∨m.2.1=2) (P:List PairT) (hP:P.length≤1000000) (hp:∀ p∈P,BOk p.1∧BOk p.2):∀ (r:List PairT) (i:Nat) (out:List PairT),P.drop i=r→i≤P.length→out.length≤i →
  Ev (fun n=>Z21L7 n (((),((),((),(out,((),(P,((i:Int),()))))))),RZ c w m v)) ((out ++ sweptP (jpt (armOf c m.1) (conf w m.1) m.2.1) m (bodies c v) r,()),())
 | [],i,out,h,hi,ho=>by
  have:=gdrop_nil h
  refine Ev.of_eq 1 ?_
  simp (disch:=omega) only [Z21L7Eq,br_neg]
  exact (Ev.pure _).congr (by simp[sweptP])
 | p :: r,i,out,h,hi,ho=>by
  obtain⟨g1,g2,g3⟩:=gdrop h
  obtain⟨b1,b2⟩:=hp p (List.mem_of_getElem? g1)
  have s1:=rsweptEv hc hw hv ha hj b1
  have s2:=rsweptEv hc hw hv ha hj b2
  have ih:=fun out ho=>rspL7 (v:=v) hc hw hv ha hj P hP hp r (i+1) out g2 (by omega) ho
  generalize jpt (armOf c m.1) (conf w m.1) m.2.1=o at *
  have hcap:∀ q:PairT,(out.length + [q].length)*96≤140737488355328:=fun q=>by simp only[List.length_cons,List.length_nil];omega
  refine Ev.of_eq 1 ?_
  simp (disch:=omega) only [Z21L7Eq,br_pos,Int.toNat_natCast,g1,Option.bind_some]
  have fin:∀ out':List PairT,out'.length≤i+1→out' ++ sweptP o m (bodies c v) r=out ++ sweptP o m (bodies c v) (p :: r) →
    Ev (fun n=>Z21L7 n (((),((),((),(out',((),(P,((IntKind.i64.wrap ((i:Int)+1)),()))))))),RZ c w m v)) ((out ++ sweptP o m (bodies c v) (p :: r),()),()):=fun out' h1 h2=>by
   simp (disch:=omega) only [wr1]
   exact (ih out' (by omega)).congr (by rw[h2])
  refine Ev.bind (x:=(((),((),((),(out ++ step1P o m (bodies c v) p,((),(P,((i:Int),()))))))),RZ c w m v)) ?_ ?_
  ·refine Ev.bind (rmovesEv m p.1) ?_
   refine Ev.bind (rmovesEv m p.2) ?_
   unfold step1P
   refine Ev.bind (x:=(((),((),((),((if Mo.moves m p.1=true∧Mo.moves m p.2=false then out ++ [(sweptB o p.1 (bodies c v),p.2)] else out),((),(P,((i:Int),(Mo.moves m p.1,(Mo.moves m p.2,()))))))))),RZ c w m v)) ?_ ?_
   ·cases Mo.moves m p.1 with
    | false=>exact Ev.br_false rfl (Ev.pure _)
    | true =>
     cases Mo.moves m p.2 with
     | true=>exact Ev.br_true rfl (Ev.br_false rfl (Ev.pure _))
     | false =>
      refine Ev.br_true rfl (Ev.br_true rfl (Ev.bind s1 ?_))
      exact Ev.ite_pos (hcap _) (Ev.pure _)
   ·cases Mo.moves m p.2 with
    | false =>
     refine Ev.br_false rfl ((Ev.pure _).congr ?_)
     cases Mo.moves m p.1 <;> simp
    | true =>
     cases Mo.moves m p.1 with
     | true=>exact Ev.br_true rfl (Ev.br_false rfl ((Ev.pure _).congr (by simp)))
     | false =>
      refine Ev.br_true rfl (Ev.br_true rfl ?_)
      simp (disch:=omega) only [br_pos,Int.toNat_natCast,g1,Option.bind_some]
      refine Ev.bind s2 ?_
      exact Ev.ite_pos (hcap _) ((Ev.pure _).congr (by simp))
  ·refine fin _ ?_ ?_
   ·unfold step1P;rw[List.length_append];split
    ·simp only[List.length_cons,List.length_nil];omega
    ·split
     ·simp only[List.length_cons,List.length_nil];omega
     ·simp only[List.length_nil];omega
   ·rw[List.append_assoc];rfl
theorem sweptPairs_none {c:CellT} {w:Mo.StateT} {m:MoveT} (h:(next c w m).2=false):sweptPairs c w m=[]:=by
 unfold sweptPairs;rw[if_neg (by rw[h];simp)]
theorem rsweptPairsEv {c:CellT} {w:Mo.StateT} (hc:COk c) (hw:WOk c w) (m:MoveT):Ev (fun n=>Z21 n c w m) (sweptPairs c w m):=by
 refine Ev.of_eq 1 ?_
 simp only[Z21Eq]
 refine Ev.bind (rnextEv c w m (hc.arm0.qbd hw.lim0) (hc.arm1.qbd hw.lim1)) ?_
 cases h:(next c w m).2 with
 | false=>exact Ev.br_true rfl ((Ev.pure _).congr (sweptPairs_none h).symm)
 | true =>
  refine Ev.br_false rfl ?_
  refine Ev.bind (rpairsEv hc hw) ?_
  obtain⟨⟨n1,n2⟩,n3,n4,n5⟩:=next_some h
  have hv:=hw.next h
  have hl:=bodies_len hc hw
  have hpl:=pairsOf_len (bodies c w)
  have hbo:=bodies_ok hc hw
  have hsq:(bodies c w).length*(bodies c w).length≤40*40:=Nat.mul_le_mul hl hl
  refine Ev.bind (rspL7 (v:=(next c w m).1) hc hw hv (by omega) (by omega) (pairsOf (bodies c w)) (by omega) (fun p hp=>by
   obtain⟨q1,q2⟩:=mem_pairs hp
   exact⟨hbo _ q1,hbo _ q2⟩) (pairsOf (bodies c w)) 0 [] rfl (Nat.zero_le _) (Nat.zero_le _)) ?_
  refine (Ev.pure _).congr ?_
  unfold sweptPairs
  rw[if_pos h,List.nil_append]
end Go.Jm
namespace Go.Jm
open Go Go.Am Go.Proofs Go.Hu Go.Mo
def TotP {α:Type} (f:Nat→Option α) (P:α→Prop):Prop:=∃ x,Ev f x∧P x
theorem TotP.pure {α:Type} {P:α→Prop} {x:α} (h:P x):TotP (fun _=>some x) P:=⟨x,Ev.pure x,h⟩
theorem TotP.bind {α β:Type} {f:Nat→Option α} {g:Nat→α→Option β} {P:α→Prop} {Q:β→Prop} (h:TotP f P) (k:∀ x,P x→TotP (fun n=>g n x) Q):TotP (fun n=>(f n).bind (g n)) Q:=by
 obtain⟨x,h1,h2⟩:=h
 obtain⟨y,k1,k2⟩:=k x h2
 exact⟨y,Ev.bind h1 k1,k2⟩
theorem TotP.bindT {α β:Type} {f:Nat→Option α} {g:Nat→α→Option β} {Q:β→Prop} (h:Tot f) (k:∀ x,TotP (fun n=>g n x) Q):TotP (fun n=>(f n).bind (g n)) Q:=by
 obtain⟨x,h1⟩:=h
 obtain⟨y,k1,k2⟩:=k x
 exact⟨y,Ev.bind h1 k1,k2⟩
theorem TotP.br {α:Type} {b:Bool} {f g:Nat→Option α} {P:α→Prop} (h:TotP f P) (k:TotP g P):TotP (fun n=>br b (f n) (g n)) P:=by
 cases b
 ·exact k
 ·exact h
theorem TotP.of_eq {α:Type} {f:Nat→Option α} {P:α→Prop} (k:Nat) (h:TotP (fun n=>f (n+k)) P):TotP f P:=by
 obtain⟨x,h1,h2⟩:=h
 exact⟨x,Ev.of_eq k h1,h2⟩
theorem TotP.ev {α β:Type} {f:Nat→Option α} {g:Nat→α→Option β} {x:α} {Q:β→Prop} (h:Ev f x) (k:TotP (fun n=>g n x) Q):TotP (fun n=>(f n).bind (g n)) Q:=by
 obtain⟨y,k1,k2⟩:=k
 exact⟨y,Ev.bind h k1,k2⟩
theorem TotP.tot {α:Type} {f:Nat→Option α} {P:α→Prop} (h:TotP f P):Tot f:=⟨h.choose,h.choose_spec.1⟩
theorem between2Tot (a b c:Int):Tot fun n=>Z200 n a b c:=Tot.of_eq 1 (by
 simp only[Z200Eq]
 exact Tot.br (Tot.pure _) (Tot.pure _))
theorem on2Tot (a b c:Pt):Tot fun n=>Z183 n a b c:=Tot.of_eq 1 (by
 simp only[Z183Eq]
 exact Tot.bind (side2Tot a b c) fun x=>Tot.br (Tot.bind (between2Tot _ _ _) fun y=>Tot.br (Tot.bind (between2Tot _ _ _) fun z=>Tot.pure _) (Tot.pure _)) (Tot.pure _))
theorem cut2Tot (a b c d:Pt):Tot fun n=>Z163 n a b c d:=Tot.of_eq 1 (by
 simp only[Z163Eq]
 exact Tot.bind (on2Tot _ _ _) fun _=>Tot.br (Tot.pure _) (Tot.bind (on2Tot _ _ _) fun _=>Tot.br (Tot.pure _) (Tot.bind (on2Tot _ _ _) fun _=>Tot.br (Tot.pure _) (Tot.bind (on2Tot _ _ _) fun _=>Tot.br (Tot.pure _)
  (Tot.bind (side2Tot _ _ _) fun _=>Tot.bind (side2Tot _ _ _) fun _=>Tot.br (Tot.bind (side2Tot _ _ _) fun _=>Tot.bind (side2Tot _ _ _) fun _=>Tot.pure _) (Tot.pure _))))))
theorem hasL3 (p:List Pt) (hp:0<p.length) (hl:p.length<100000) (x:Pt):∀ (k i:Nat) (cnt:Int),i+k=p.length→Tot fun n=>Z164L3 n ((p,((),(cnt,((i:Int),())))),((x,()),()))
 | 0,i,cnt,h=>Tot.of_eq 1 (by
  simp (disch:=omega) only [Z164L3Eq,br_neg]
  exact Tot.pure _)
 | k+1,i,cnt,h=>by
  have a1:=atTot hp (i:=(i:Int)) (by omega)
  have a2:=atTot hp (i:=((i+1:Nat):Int)) (by omega)
  refine Tot.of_eq 1 ?_
  simp (disch:=omega) only [Z164L3Eq,br_pos,wr1]
  have key:∀ {A:Nat→Option (((List Pt×(Unit×(Int×(Int×Unit))))×((Pt×Unit)×Unit)) ⊕ ((Int×Unit)×Unit))} {g:Nat→_→Option (((Int×Unit)×Unit) ⊕ ((Int×Unit)×Unit))},
    TotP A (fun y=>(∃ cnt',y=.inl ((p,((),(cnt',((i:Int),())))),((x,()),())))∨∃ q,y=.inr q)→(∀ cnt',Tot fun n=>g n (.inl ((p,((),(cnt',((i:Int),())))),((x,()),()))))→(∀ q,Tot fun n=>g n (.inr q))→Tot fun n=>(A n).bind (g n):=fun {A g} hA h1 h2=>by
   obtain⟨y,hy,hc⟩:=hA
   rcases hc with ⟨cnt',rfl⟩ | ⟨q,rfl⟩
   ·obtain⟨z,hz⟩:=h1 cnt';exact⟨z,Ev.bind hy hz⟩
   ·obtain⟨z,hz⟩:=h2 q;exact⟨z,Ev.bind hy hz⟩
  refine key ?_ (fun cnt'=>?_) (fun q=>Tot.pure _)
  ·refine TotP.bindT a1 fun u=>TotP.bindT a2 fun v=>TotP.bindT (onTot u v x) fun b=>TotP.br (TotP.pure (.inr ⟨_,rfl⟩)) ?_
   refine TotP.bind (P:=fun j=>∃ cnt',j=((p,((),(cnt',((i:Int),((),((),())))))),((x,()),((u,()),((v,()),()))))) ?_ ?_
   ·exact TotP.br (TotP.br (TotP.bindT (crossTot u v x) fun c=>TotP.br (TotP.pure ⟨_,rfl⟩) (TotP.pure ⟨_,rfl⟩)) (TotP.pure ⟨_,rfl⟩)) (TotP.pure ⟨_,rfl⟩)
   ·rintro j ⟨cnt',rfl⟩
    exact TotP.br (TotP.br (TotP.bindT (crossTot _ _ _) fun c=>TotP.br (TotP.pure (.inl ⟨_,rfl⟩)) (TotP.pure (.inl ⟨_,rfl⟩))) (TotP.pure (.inl ⟨_,rfl⟩))) (TotP.pure (.inl ⟨_,rfl⟩))
  ·simp (disch:=omega) only [wr1]
   exact hasL3 p hp hl x k (i+1) cnt' (by omega)
theorem hasTot {p:List Pt} (hp:0<p.length) (hl:p.length<100000) (x:Pt):Tot fun n=>Z164 n p x:=Tot.of_eq 1 (by
 simp only[Z164Eq]
 refine Tot.bind (hasL3 p hp hl x p.length 0 0 (by omega)) fun y=>?_
 cases y with
 | inl y=>exact Tot.br (Tot.pure _) (Tot.pure _)
 | inr y=>exact Tot.pure _)
theorem rnxEv {l:List Pt} {i:Nat} (hi:i<l.length) (hl:l.length<100000):Ev (fun n=>Z162 n l (i:Int)) ((nx l i:Nat):Int):=by
 refine Ev.of_eq 1 ?_
 simp (disch:=omega) only [Z162Eq,br_neg,wr1]
 exact (Ev.pure _).congr (by unfold nx;rw[tm_nat])
theorem get_at {l:List Pt} {i:Nat} (hi:i<l.length):l[i]?=some (at_ l i):=by
 unfold at_
 rw[List.getD_eq_getElem?_getD,List.getElem?_eq_getElem hi];rfl
theorem showsTot {a b:List Pt} (ha:a.length<100000) (hb:b.length<100000) {i j:Nat} (hi:i<a.length) (hj:j<b.length) (kd:Int):Tot fun n=>Z125 n a b (kd,((i:Int),(j:Int))):=Tot.of_eq 1 (by
 have h1:=rnxEv hi ha
 have h2:=rnxEv hj hb
 have g1:=get_at hi
 have g2:=get_at hj
 have n1:=nx_lt (show 0<a.length by omega) i
 have n2:=nx_lt (show 0<b.length by omega) j
 have g3:=get_at n1
 have g4:=get_at n2
 simp (disch:=omega) only [Z125Eq,br_pos,Int.toNat_natCast,g1,g2,Option.bind_some]
 refine Tot.br ?_ (Tot.br (Tot.br (Tot.bind (hasTot (by omega) hb _) fun _=>Tot.pure _) (Tot.pure _)) (Tot.br (Tot.br (Tot.bind (hasTot (by omega) ha _) fun _=>Tot.pure _) (Tot.pure _)) (Tot.pure _)))
 obtain⟨y,hy⟩:=cut2Tot (at_ a i) (at_ a (nx a i)) (at_ b j) (at_ b (nx b j))
 refine⟨y,Ev.bind h1 ?_⟩
 refine Ev.ite_pos (by omega) ?_
 refine Ev.get (by rw[Int.toNat_natCast];exact g3) ?_
 refine Ev.bind h2 ?_
 refine Ev.ite_pos (by omega) ?_
 refine Ev.get (by rw[Int.toNat_natCast];exact g4) ?_
 exact Ev.bind hy (Ev.pure _))
theorem touchL8 {a b:List Pt} (ha:a.length<100000) (hb:b.length<100000) (kd:Int) (o:(Int×(Int×Int))×Unit) {i:Nat} (hi:i<a.length):∀ (k j:Nat),j+k=b.length →
  TotP (fun n=>Z83L8 n ((a,(b,((),(kd,((i:Int),((j:Int),())))))),(o,()))) (fun y=>y=.inl ((a,(b,((),(kd,((i:Int),()))))),(o,()))∨∃ q,y=.inr q)
 | 0,j,h=>by
  refine⟨_,Ev.of_eq 1 ?_,.inl rfl⟩
  simp (disch:=omega) only [Z83L8Eq,br_neg]
  exact Ev.pure _
 | k+1,j,h=>by
  obtain⟨y,hy,hc⟩:=touchL8 ha hb kd o hi k (j+1) (by omega)
  obtain⟨s,hs⟩:=showsTot ha hb hi (show j<b.length by omega) kd
  cases s with
  | true =>
   refine TotP.of_eq 1 ?_
   simp (disch:=omega) only [Z83L8Eq,br_pos,wr1]
   exact TotP.ev hs (TotP.pure (.inr ⟨_,rfl⟩))
  | false =>
   refine⟨y,Ev.of_eq 1 ?_,hc⟩
   simp (disch:=omega) only [Z83L8Eq,br_pos,wr1]
   exact Ev.bind hs (Ev.br_false rfl hy)
theorem touchL5 {a b:List Pt} (ha:a.length<100000) (hb:b.length<100000) (kd:Int) (o:(Int×(Int×Int))×Unit):∀ (k i:Nat),i+k=a.length →
  TotP (fun n=>Z83L5 n ((a,(b,((),(kd,((i:Int),()))))),(o,()))) (fun y=>y=.inl ((a,(b,((),(kd,())))),(o,()))∨∃ q,y=.inr q)
 | 0,i,h=>by
  refine⟨_,Ev.of_eq 1 ?_,.inl rfl⟩
  simp (disch:=omega) only [Z83L5Eq,br_neg]
  exact Ev.pure _
 | k+1,i,h=>by
  obtain⟨y,hy,hc⟩:=touchL5 ha hb kd o k (i+1) (by omega)
  obtain⟨s,hs,h8⟩:=touchL8 ha hb kd o (show i<a.length by omega) b.length 0 (by omega)
  rcases h8 with rfl | ⟨q,rfl⟩
  ·refine⟨y,Ev.of_eq 1 ?_,hc⟩
   simp (disch:=omega) only [Z83L5Eq,br_pos]
   refine Ev.bind hs ?_
   simp (disch:=omega) only [wr1]
   exact hy
  ·refine TotP.of_eq 1 ?_
   simp (disch:=omega) only [Z83L5Eq,br_pos]
   exact TotP.ev hs (TotP.pure (.inr ⟨_,rfl⟩))
theorem touchL2 {a b:List Pt} (ha:a.length<100000) (hb:b.length<100000) (o:(Int×(Int×Int))×Unit):∀ (k:Nat) (kd:Int),1≤kd→kd+k=4→Tot fun n=>Z83L2 n ((a,(b,((),(kd,())))),(o,()))
 | 0,kd,h0,h=>Tot.of_eq 1 (by
  simp (disch:=omega) only [Z83L2Eq,br_neg]
  exact Tot.pure _)
 | k+1,kd,h0,h=>by
  obtain⟨s,hs,h8⟩:=touchL5 ha hb kd o a.length 0 (by omega)
  obtain⟨y,hy⟩:=touchL2 ha hb o k (kd+1) (by omega) (by omega)
  rcases h8 with rfl | ⟨q,rfl⟩
  ·refine⟨y,Ev.of_eq 1 ?_⟩
   simp (disch:=omega) only [Z83L2Eq,br_pos]
   refine Ev.bind hs ?_
   simp (disch:=omega) only [w64]
   exact hy
  ·refine Tot.of_eq 1 ?_
   simp (disch:=omega) only [Z83L2Eq,br_pos]
   refine TotP.tot (P:=fun _=>True) (TotP.ev hs ?_)
   exact TotP.pure trivial
theorem touchTot {a b:List Pt} (ha:a.length<100000) (hb:b.length<100000):Tot fun n=>Z83 n a b:=Tot.of_eq 1 (by
 simp only[Z83Eq]
 refine Tot.bind (touchL2 ha hb _ 3 1 (by omega) (by omega)) fun y=>?_
 cases y <;> exact Tot.pure _)
theorem side2Ev {a b p:Pt} (ha:Bd a) (hb:Bd b) (hp:Bd p):Ev (fun n=>Z160 n a b p) (sgn (side a b p)):=by
 refine Ev.of_eq 2 ?_
 have h1:=mul_bd (a:=b.1-a.1) (b:=p.2-a.2) (by unfold Bd at *;omega) (by unfold Bd at *;omega)
 have h2:=mul_bd (a:=b.2-a.2) (b:=p.1-a.1) (by unfold Bd at *;omega) (by unfold Bd at *;omega)
 have q1:IntKind.i64.wrap (b.1-a.1)=b.1-a.1:=w64 (by unfold Bd at *;omega) (by unfold Bd at *;omega)
 have q2:IntKind.i64.wrap (p.2-a.2)=p.2-a.2:=w64 (by unfold Bd at *;omega) (by unfold Bd at *;omega)
 have q3:IntKind.i64.wrap (b.2-a.2)=b.2-a.2:=w64 (by unfold Bd at *;omega) (by unfold Bd at *;omega)
 have q4:IntKind.i64.wrap (p.1-a.1)=p.1-a.1:=w64 (by unfold Bd at *;omega) (by unfold Bd at *;omega)
 have e1:IntKind.i64.wrap ((b.1-a.1)*(p.2-a.2))=(b.1-a.1)*(p.2-a.2):=w64 (by omega) (by omega)
 have e2:IntKind.i64.wrap ((b.2-a.2)*(p.1-a.1))=(b.2-a.2)*(p.1-a.1):=w64 (by omega) (by omega)
 have e3:IntKind.i64.wrap ((b.1-a.1)*(p.2-a.2)-(b.2-a.2)*(p.1-a.1))=side a b p:=by rw[w64 (by omega) (by omega)];rfl
 simp only[Z160Eq,Z182Eq,q1,q2,q3,q4,e1,e2,e3,Option.bind_some]
 unfold sgn
 by_cases g1:0<side a b p
 ·simp only[br_pos g1,if_pos g1];exact Ev.pure _
 ·by_cases g2:side a b p<0
  ·simp only[br_neg g1,br_pos g2,if_neg g1,if_pos g2];exact Ev.pure _
  ·simp only[br_neg g1,br_neg g2,if_neg g1,if_neg g2];exact Ev.pure _
theorem sgn_m1 (x:Int):sgn x = -1↔x<0:=by
 unfold sgn
 split
 ·omega
 ·split <;> omega
theorem rbeyondL2 {a b:List Pt} (hla:a.length<100000) (hlb:b.length<100000) (ha:∀ x∈a,Bd x) (hb:∀ x∈b,Bd x) {i:Nat} (hi:i<a.length):∀ (r:List Pt) (j:Nat),b.drop j=r→j≤b.length →
  Ev (fun n=>Z124L2 n ((a,((i:Int),(b,((j:Int),())))),())) (if beyondB (at_ a i) (at_ a (nx a i)) r=true then .inl ((),()) else .inr ((false,()),()))
 | [],j,h,hj=>by
  have:=gdrop_nil h
  refine Ev.of_eq 1 ?_
  simp (disch:=omega) only [Z124L2Eq,br_neg]
  exact (Ev.pure _).congr (by simp[beyondB])
 | x :: r,j,h,hj=>by
  obtain⟨g1,g2,g3⟩:=gdrop h
  have n1:=nx_lt (show 0<a.length by omega) i
  have e1:=get_at hi
  have e2:=get_at n1
  have ih:=rbeyondL2 hla hlb ha hb hi r (j+1) g2 (by omega)
  have sd:=side2Ev (ha _ (List.mem_of_getElem? e1)) (ha _ (List.mem_of_getElem? e2)) (hb x (List.mem_of_getElem? g1))
  refine Ev.of_eq 1 ?_
  simp (disch:=omega) only [Z124L2Eq,br_pos,Int.toNat_natCast,g1,e1,Option.bind_some,wr1]
  refine Ev.bind (rnxEv hi hla) ?_
  refine Ev.ite_pos (by omega) ?_
  refine Ev.get (by rw[Int.toNat_natCast];exact e2) ?_
  refine Ev.bind sd ?_
  by_cases hs:side (at_ a i) (at_ a (nx a i)) x<0
  ·have q:beyondB (at_ a i) (at_ a (nx a i)) (x :: r)=beyondB (at_ a i) (at_ a (nx a i)) r:=by unfold beyondB;rw[List.all_cons,decide_eq_true hs,Bool.true_and]
   rw[q]
   exact Ev.nite_pos ((sgn_m1 _).2 hs) ih
  ·have q:beyondB (at_ a i) (at_ a (nx a i)) (x :: r)=false:=by unfold beyondB;rw[List.all_cons,decide_eq_false hs,Bool.false_and]
   rw[q]
   exact Ev.nite_neg (fun h=>hs ((sgn_m1 _).1 h)) ((Ev.pure _).congr (by simp))
theorem rbeyondEv {a b:List Pt} (hla:a.length<100000) (hlb:b.length<100000) (ha:∀ x∈a,Bd x) (hb:∀ x∈b,Bd x) {i:Nat} (hi:i<a.length):Ev (fun n=>Z124 n a (i:Int) b) (beyondB (at_ a i) (at_ a (nx a i)) b):=by
 refine Ev.of_eq 1 ?_
 simp only[Z124Eq]
 refine Ev.bind (rbeyondL2 hla hlb ha hb hi b 0 rfl (Nat.zero_le _)) ?_
 cases h:beyondB (at_ a i) (at_ a (nx a i)) b with
 | true=>simp only[if_true];exact Ev.pure _
 | false=>simp only[Bool.false_eq_true,if_false];exact Ev.pure _
theorem rapartL2 {a b:List Pt} (hla:a.length<100000) (hlb:b.length<100000) (ha:∀ x∈a,Bd x) (hb:∀ x∈b,Bd x) (o:(Int×Int)×Unit):∀ (k i:Nat),i+k=a.length →
  Ev (fun n=>Z82L2 n ((a,(b,((),((i:Int),())))),(o,()))) (match sepFrom a b k i with | some t=>.inr (((),(true,())),((((0:Int),(t:Int)),()),())) | none=>.inl ((a,(b,((),()))),(o,())))
 | 0,i,h=>by
  refine Ev.of_eq 1 ?_
  simp (disch:=omega) only [Z82L2Eq,br_neg]
  exact Ev.pure _
 | k+1,i,h=>by
  have ih:=rapartL2 hla hlb ha hb o k (i+1) (by omega)
  refine Ev.of_eq 1 ?_
  simp (disch:=omega) only [Z82L2Eq,br_pos,wr1]
  refine Ev.bind (rbeyondEv hla hlb ha hb (show i<a.length by omega)) ?_
  unfold sepFrom
  cases hq:beyondB (at_ a i) (at_ a (nx a i)) b with
  | true=>exact Ev.br_true rfl (Ev.pure _)
  | false=>exact Ev.br_false rfl ih
theorem rapartL7 {a b:List Pt} (hla:a.length<100000) (hlb:b.length<100000) (ha:∀ x∈a,Bd x) (hb:∀ x∈b,Bd x) (o:(Int×Int)×Unit):∀ (k i:Nat),i+k=b.length →
  Ev (fun n=>Z82L7 n ((a,(b,((),((i:Int),())))),(o,()))) (match sepFrom b a k i with | some t=>.inr (((),(true,())),((((1:Int),(t:Int)),()),())) | none=>.inl (((),()),(o,())))
 | 0,i,h=>by
  refine Ev.of_eq 1 ?_
  simp (disch:=omega) only [Z82L7Eq,br_neg]
  exact Ev.pure _
 | k+1,i,h=>by
  have ih:=rapartL7 hla hlb ha hb o k (i+1) (by omega)
  refine Ev.of_eq 1 ?_
  simp (disch:=omega) only [Z82L7Eq,br_pos,wr1]
  refine Ev.bind (rbeyondEv hlb hla hb ha (show i<b.length by omega)) ?_
  unfold sepFrom
  cases hq:beyondB (at_ b i) (at_ b (nx b i)) a with
  | true=>exact Ev.br_true rfl (Ev.pure _)
  | false=>exact Ev.br_false rfl ih
theorem rapartEv {a b:List Pt} (hla:a.length<100000) (hlb:b.length<100000) (ha:∀ x∈a,Bd x) (hb:∀ x∈b,Bd x):Ev (fun n=>Z82 n a b) (sepEdge a b):=by
 have l2:=rapartL2 hla hlb ha hb ((0,0),()) a.length 0 (by omega)
 have l7:=rapartL7 hla hlb ha hb ((0,0),()) b.length 0 (by omega)
 refine Ev.of_eq 1 ?_
 simp only[Z82Eq]
 refine Ev.bind l2 ?_
 unfold sepEdge
 cases h1:sepFrom a b a.length 0 with
 | some t=>exact Ev.pure _
 | none =>
  refine Ev.bind l7 ?_
  cases h2:sepFrom b a b.length 0 with
  | some t=>exact Ev.pure _
  | none=>exact Ev.pure _
end Go.Jm
namespace Go.Jm
open Go Go.Am Go.Proofs Go.Hu Go.Mo
abbrev ObT:=Int×(MoveT×(Int×(Int×(Int×(Int×(Int×Int))))))
abbrev O0:ObT:=((0:Int),(((0:Int),((0:Int),(0:Int))),((0:Int),((0:Int),((0:Int),((0:Int),((0:Int),(0:Int))))))))
abbrev ZZ (m:MoveT):Unit×(Unit×((MoveT×Unit)×((ObT×Unit)×Unit))):=((),((),((m,()),((O0,()),()))))
abbrev NR (o:ObT):(List (Int×Int)×(Unit×(Bool×Unit)))×(Unit×(Unit×(Unit×((ObT×Unit)×Unit)))):=(([],((),(false,()))),((),((),((),((o,()),())))))
def Small (x:List Pt):Prop:=x.length<100000∧∀ y∈x,Bd y
section
variable (m:MoveT) (P:List PairT) (nn:Int)
theorem lookL12 (A B:List (List Pt)) {i:Nat} {a:List Pt} (hi:A[i]?=some a) (ha:Small a) (hBl:B.length≤1000000) (hAl:A.length≤1000000) (hB:∀ b∈B,Small b):∀ (r:List (List Pt)) (k:Nat) (out:List (Int×Int)),B.drop k=r→k≤B.length→out.length+r.length≤2000000000000 →
  TotP (fun n=>Z42L12 n (((),((),(out,(P,(nn,(A,(B,((i:Int),((k:Int),()))))))))),ZZ m))
   (fun y=>((sepRun (r.map fun b=>(a,b)) out).2=true∧y=.inl (((),((),((sepRun (r.map fun b=>(a,b)) out).1,(P,(nn,(A,(B,((i:Int),())))))))),ZZ m))∨((sepRun (r.map fun b=>(a,b)) out).2=false∧∃ o,y=.inr (NR o)))
 | [],k,out,h,hk,ho=>by
  have:=gdrop_nil h
  refine⟨_,Ev.of_eq 1 ?_,.inl ⟨rfl,rfl⟩⟩
  simp (disch:=omega) only [Z42L12Eq,br_neg]
  exact Ev.pure _
 | b :: r,k,out,h,hk,ho=>by
  obtain⟨g1,g2,g3⟩:=gdrop h
  have hb:=hB b (List.mem_of_getElem? g1)
  have ap:=rapartEv ha.1 hb.1 ha.2 hb.2
  have tt:=touchTot ha.1 hb.1
  simp only[List.length_cons] at ho
  have hcap:∀ s:Int×Int,(out.length + [s].length)*16≤140737488355328:=fun s=>by simp only[List.length_cons,List.length_nil];omega
  refine TotP.of_eq 1 ?_
  simp (disch:=omega) only [Z42L12Eq,br_pos,Int.toNat_natCast,g1,hi,Option.bind_some,wr1]
  refine TotP.ev ap ?_
  simp only[List.map_cons,sepRun]
  cases hs:(sepEdge a b).2 with
  | false =>
   obtain⟨t,ht⟩:=tt
   refine⟨_,Ev.br_true rfl (Ev.bind ht (Ev.pure _)),.inr ⟨by simp,⟨_,rfl⟩⟩⟩
  | true =>
   obtain⟨y,h1,h2⟩:=lookL12 A B hi ha hBl hAl hB r (k+1) (out ++ [(sepEdge a b).1]) g2 (by omega) (by simp only[List.length_append,List.length_cons,List.length_nil];omega)
   refine⟨y,Ev.br_false rfl (Ev.ite_pos (hcap _) h1),?_⟩
   simpa using h2
theorem lookL9 (A B:List (List Pt)) (hBl:B.length≤1000000) (hAl:A.length≤1000000) (hA:∀ b∈A,Small b) (hB:∀ b∈B,Small b):∀ (r:List (List Pt)) (i:Nat) (out:List (Int×Int)),A.drop i=r→i≤A.length→out.length+(r.flatMap fun a=>B.map fun b=>(a,b)).length≤2000000000000 →
  TotP (fun n=>Z42L9 n (((),((),(out,(P,(nn,(A,(B,((i:Int),())))))))),ZZ m))
   (fun y=>((sepRun (r.flatMap fun a=>B.map fun b=>(a,b)) out).2=true∧y=.inl (((),((),((sepRun (r.flatMap fun a=>B.map fun b=>(a,b)) out).1,(P,(nn,()))))),ZZ m))∨((sepRun (r.flatMap fun a=>B.map fun b=>(a,b)) out).2=false∧∃ o,y=.inr (NR o)))
 | [],i,out,h,hk,ho=>by
  have:=gdrop_nil h
  refine⟨_,Ev.of_eq 1 ?_,.inl ⟨rfl,rfl⟩⟩
  simp (disch:=omega) only [Z42L9Eq,br_neg]
  exact Ev.pure _
 | a :: r,i,out,h,hk,ho=>by
  obtain⟨g1,g2,g3⟩:=gdrop h
  have ha:=hA a (List.mem_of_getElem? g1)
  simp only[List.flatMap_cons,List.length_append,List.length_map] at ho
  obtain⟨y,h1,h2⟩:=lookL12 m P nn A B g1 ha hBl hAl hB B 0 out rfl (Nat.zero_le _) (by omega)
  refine TotP.of_eq 1 ?_
  simp (disch:=omega) only [Z42L9Eq,br_pos]
  refine TotP.ev h1 ?_
  rw[List.flatMap_cons,sepRun_append]
  rcases h2 with ⟨h2,rfl⟩ | ⟨h2,o,rfl⟩
  ·rw[if_pos h2]
   simp (disch:=omega) only [wr1]
   refine lookL9 A B hBl hAl hA hB r (i+1) _ g2 (by omega) ?_
   have:=sepRun_len (B.map fun b=>(a,b)) out
   rw[List.length_map] at this
   omega
  ·rw[if_neg (by rw[h2];simp)]
   exact TotP.pure (.inr ⟨h2,o,rfl⟩)
end
theorem lookL4 (m:MoveT) (P:List PairT) (hP:P.length≤5000) (hp:∀ p∈P,Aok p.1∧Aok p.2):∀ (r:List PairT) (i:Nat) (out:List (Int×Int)),P.drop i=r→i≤P.length→out.length≤100000000*i →
  TotP (fun n=>Z42L4 n (((),((),(out,(P,((i:Int),()))))),ZZ m))
   (fun y=>((sepRun (r.flatMap checks) out).2=true∧y=.inl (((),((sepRun (r.flatMap checks) out).1,())),((),((),((),((O0,()),()))))))∨((sepRun (r.flatMap checks) out).2=false∧∃ o,y=.inr (NR o)))
 | [],i,out,h,hk,ho=>by
  have:=gdrop_nil h
  refine⟨_,Ev.of_eq 1 ?_,.inl ⟨rfl,rfl⟩⟩
  simp (disch:=omega) only [Z42L4Eq,br_neg]
  exact Ev.pure _
 | p :: r,i,out,h,hk,ho=>by
  obtain⟨g1,g2,g3⟩:=gdrop h
  obtain⟨p1,p2⟩:=hp p (List.mem_of_getElem? g1)
  have q1:=partsEv p.1.2.2.2 p1.1 p1.2
  have q2:=partsEv p.2.2.2.2 p2.1 p2.2
  obtain⟨d1,d2⟩:=decomp_part p1.1 p1.2
  obtain⟨d3,d4⟩:=decomp_part p2.1 p2.2
  have s1:=(decomp_small p1.1).2
  have s2:=(decomp_small p2.1).2
  have hlen:=checks_len p1 p2
  have hch:checks p=(decomp p.1.2.2.2).flatMap fun a=>(decomp p.2.2.2.2).map fun b=>(a,b):=rfl
  obtain⟨y,h1,h2⟩:=lookL9 m P (i:Int) (decomp p.1.2.2.2) (decomp p.2.2.2.2) (by omega) (by omega) (fun b hb=>⟨by have:=s1 b hb;omega,(d2 b hb).2⟩) (fun b hb=>⟨by have:=s2 b hb;omega,(d4 b hb).2⟩) (decomp p.1.2.2.2) 0 out rfl (Nat.zero_le _) (by rw[← hch];omega)
  rw[← hch] at h2
  refine TotP.of_eq 1 ?_
  simp (disch:=omega) only [Z42L4Eq,br_pos,Int.toNat_natCast,g1,Option.bind_some]
  refine TotP.ev q1 ?_
  refine TotP.ev q2 ?_
  refine TotP.ev h1 ?_
  rw[List.flatMap_cons,sepRun_append]
  rcases h2 with ⟨h2,rfl⟩ | ⟨h2,o,rfl⟩
  ·rw[if_pos h2]
   simp (disch:=omega) only [wr1]
   refine lookL4 m P hP hp r (i+1) _ g2 (by omega) ?_
   have:=sepRun_len (checks p) out
   omega
  ·rw[if_neg (by rw[h2];simp)]
   exact TotP.pure (.inr ⟨h2,o,rfl⟩)
theorem lookTot {c:CellT} {w:Mo.StateT} (hc:COk c) (hw:WOk c w) (m:MoveT):TotP (fun n=>Z42 n c w m) (fun y=>match sepAll ((sweptPairs c w m).flatMap checks) with | some s=>y=(s,(O0,true)) | none=>∃ o,y=([],(o,false))):=by
 obtain⟨h1,h2⟩:=sweptPairs_ok hc hw m
 refine TotP.of_eq 1 ?_
 simp only[Z42Eq]
 refine TotP.ev (rsweptPairsEv hc hw m) ?_
 obtain⟨y,e1,e2⟩:=lookL4 m (sweptPairs c w m) h1 h2 (sweptPairs c w m) 0 [] rfl (Nat.zero_le _) (Nat.zero_le _)
 refine TotP.ev e1 ?_
 have:=sepRun_all ((sweptPairs c w m).flatMap checks) []
 cases hs:sepAll ((sweptPairs c w m).flatMap checks) with
 | some s =>
  rw[hs] at this
  simp only[List.nil_append] at this
  rw[this] at e2
  rcases e2 with ⟨_,rfl⟩ | ⟨h,_⟩
  ·exact TotP.pure rfl
  ·cases h
 | none =>
  rw[hs] at this
  simp only at this
  rcases e2 with ⟨h,_⟩ | ⟨_,o,rfl⟩
  ·rw[this] at h;cases h
  ·exact TotP.pure ⟨o,rfl⟩
theorem rcertEv {c:CellT} {w:Mo.StateT} (hc:COk c) (hw:WOk c w) (m:MoveT):Ev (fun n=>Z14 n c w m) (cert c w m):=by
 obtain⟨y,e1,e2⟩:=lookTot hc hw m
 refine Ev.of_eq 1 ?_
 simp only[Z14Eq]
 refine Ev.bind (rnextEv c w m (hc.arm0.qbd hw.lim0) (hc.arm1.qbd hw.lim1)) ?_
 refine Ev.bind e1 ?_
 unfold cert
 cases h:(next c w m).2 with
 | false=>exact Ev.br_true rfl ((Ev.pure _).congr (by simp))
 | true =>
  refine Ev.br_false rfl ?_
  rw[if_pos rfl]
  cases hs:sepAll ((sweptPairs c w m).flatMap checks) with
  | some s =>
   rw[hs] at e2
   simp only at e2
   subst e2
   exact Ev.br_false rfl (Ev.pure _)
  | none =>
   rw[hs] at e2
   simp only at e2
   obtain⟨o,rfl⟩:=e2
   exact Ev.br_true rfl (Ev.pure _)
end Go.Jm
namespace Go.Jm
open Go Go.Am Go.Proofs Go.Hu Go.Mo
theorem between2Ev (a b c:Int):Ev (fun n=>Z200 n a b c) (decide (min a b≤c) && decide (c≤max a b)):=by
 refine Ev.of_eq 1 ?_
 simp only[Z200Eq]
 have e1:(if decide (b<a)=true then b else a)=min a b:=by
  by_cases h:b<a
  ·rw[decide_eq_true h,if_pos rfl];omega
  ·rw[decide_eq_false h,if_neg (by simp)];omega
 have e2:(if decide (a<b)=true then b else a)=max a b:=by
  by_cases h:a<b
  ·rw[decide_eq_true h,if_pos rfl];omega
  ·rw[decide_eq_false h,if_neg (by simp)];omega
 rw[e1,e2]
 exact andEv _ (Ev.pure _)
theorem dsgn (x:Int):decide (sgn x=0)=decide (x=0):=by rw[Bool.eq_iff_iff];simp[sgn_zero]
theorem on2Ev {a b p:Pt} (ha:Bd a) (hb:Bd b) (hp:Bd p):Ev (fun n=>Z183 n a b p) (onB a b p):=by
 refine Ev.of_eq 1 ?_
 simp only[Z183Eq]
 refine Ev.bind (side2Ev ha hb hp) ?_
 rw[dsgn]
 unfold onB withinB
 cases h:decide (side a b p=0) with
 | false=>exact (Ev.pure _).congr (by simp)
 | true =>
  simp only[br_t,Bool.and_true]
  refine Ev.bind (between2Ev a.1 b.1 p.1) ?_
  cases decide (min a.1 b.1≤p.1) with
  | false=>exact Ev.pure _
  | true =>
   cases decide (p.1≤max a.1 b.1) with
   | false=>exact Ev.pure _
   | true=>exact Ev.bind (between2Ev a.2 b.2 p.2) (Ev.pure _)
theorem cutEv {a b c d:Pt} (ha:Bd a) (hb:Bd b) (hc:Bd c) (hd:Bd d):Ev (fun n=>Z163 n a b c d) (crossB a b c d):=by
 have e:∀ x y:Int,IntKind.i64.wrap (sgn x*sgn y)=sgn x*sgn y:=fun x y=>by
  have h:=mul_bd2 (sgn_bd x) (sgn_bd y)
  exact w64 (by omega) (by omega)
 have key:crossB a b c d=(onB a b c || (onB a b d || (onB c d a || (onB c d b || (decide (sgn (side a b c)*sgn (side a b d)<0) && decide (sgn (side c d a)*sgn (side c d b)<0)))))):=by
  unfold crossB partsB onB
  show ((decide (sgn (side a b c)*sgn (side a b d)<0) && decide (sgn (side c d a)*sgn (side c d b)<0)) || _)=_
  generalize decide (sgn (side a b c)*sgn (side a b d)<0)=x1
  generalize decide (sgn (side c d a)*sgn (side c d b)<0)=x2
  generalize decide (side a b c=0)=y1
  generalize decide (side a b d=0)=y2
  generalize decide (side c d a=0)=y3
  generalize decide (side c d b=0)=y4
  generalize withinB a b c=z1
  generalize withinB a b d=z2
  generalize withinB c d a=z3
  generalize withinB c d b=z4
  cases x1 <;> cases x2 <;> cases y1 <;> cases y2 <;> cases y3 <;> cases y4 <;> cases z1 <;> cases z2 <;> cases z3 <;> cases z4 <;> rfl
 rw[key]
 refine Ev.of_eq 1 ?_
 simp only[Z163Eq]
 refine Ev.bind (on2Ev ha hb hc) (orEv _ ?_)
 refine Ev.bind (on2Ev ha hb hd) (orEv _ ?_)
 refine Ev.bind (on2Ev hc hd ha) (orEv _ ?_)
 refine Ev.bind (on2Ev hc hd hb) (orEv _ ?_)
 refine Ev.bind (side2Ev ha hb hc) ?_
 refine Ev.bind (side2Ev ha hb hd) ?_
 rw[e]
 refine andEv _ ?_
 refine Ev.bind (side2Ev hc hd ha) ?_
 refine Ev.bind (side2Ev hc hd hb) ?_
 rw[e]
 exact Ev.pure _
theorem cross3Ev {a b p:Pt} (ha:Bd a) (hb:Bd b) (hp:Bd p):Ev (fun n=>Z154 n a b p) (side a b p):=by
 refine Ev.of_eq 1 ?_
 simp only[Z154Eq,side_wrap ha hb hp]
 exact Ev.pure _
theorem between3Ev (a b c:Int):Ev (fun n=>Z199 n a b c) (decide (min a b≤c) && decide (c≤max a b)):=by
 refine Ev.of_eq 1 ?_
 simp only[Z199Eq]
 by_cases h1:a≤c
 ·by_cases h2:c≤b
  ·simp only[br_pos h1,br_pos h2]
   exact (Ev.pure _).congr (by rw[decide_eq_true (by omega),decide_eq_true (by omega)];rfl)
  ·by_cases h3:b≤c
   ·simp only[br_pos h1,br_neg h2,br_pos h3]
    refine (Ev.pure _).congr ?_
    rw[decide_eq_true (show min a b≤c by omega),Bool.true_and,Bool.eq_iff_iff]
    simp only[decide_eq_true_eq]
    omega
   ·omega
 ·by_cases h3:b≤c
  ·simp only[br_neg h1,br_pos h3]
   refine (Ev.pure _).congr ?_
   rw[decide_eq_true (show min a b≤c by omega),Bool.true_and,Bool.eq_iff_iff]
   simp only[decide_eq_true_eq]
   omega
  ·simp only[br_neg h1,br_neg h3]
   exact (Ev.pure _).congr (by rw[decide_eq_false (show ¬ min a b≤c by omega)];rfl)
theorem on3Ev {a b p:Pt} (ha:Bd a) (hb:Bd b) (hp:Bd p):Ev (fun n=>Z179 n a b p) (onB a b p):=by
 refine Ev.of_eq 1 ?_
 simp only[Z179Eq]
 refine Ev.bind (cross3Ev ha hb hp) ?_
 unfold onB withinB
 cases h:decide (side a b p=0) with
 | false=>exact (Ev.pure _).congr (by simp)
 | true =>
  simp only[br_t,Bool.and_true]
  refine Ev.bind (between3Ev a.1 b.1 p.1) ?_
  cases decide (min a.1 b.1≤p.1) with
  | false=>exact Ev.pure _
  | true =>
   cases decide (p.1≤max a.1 b.1) with
   | false=>exact Ev.pure _
   | true=>exact Ev.bind (between3Ev a.2 b.2 p.2) (Ev.pure _)
theorem at3Ev {p:List Pt} (hl:p.length<100000) (h0:0<p.length) {i:Nat} (hi:i≤p.length):Ev (fun n=>Z155 n p (i:Int)) (at_ p (i % p.length)):=by
 have hm:i % p.length<p.length:=Nat.mod_lt _ h0
 have g:=at_get (l:=p) (i:=i % p.length) hm
 refine Ev.of_eq 1 ?_
 simp (disch:=omega) only [Z155Eq,br_neg,tm_nat,br_pos,Int.toNat_natCast,g,Option.bind_some]
 exact Ev.pure _
def incr (u v x:Pt):Int:=if u.2≤x.2∧x.2<v.2∧0<side u v x then 1 else 0
theorem incEv {α:Type} (F:Int→α) {u v x:Pt} (hu:Bd u) (hv:Bd v) (hx:Bd x) {cnt:Int} (hc:0≤cnt∧cnt≤1000000) :
  Ev (fun n=>br (decide (u.2≤x.2)) (br (decide (x.2<v.2)) ((Z154 n u v x).bind fun c=>br (decide (0<c)) (some (F (IntKind.i64.wrap (cnt+1)))) (some (F cnt))) (some (F cnt))) (some (F cnt))) (F (cnt+incr u v x)):=by
 unfold incr
 by_cases h1:u.2≤x.2
 ·by_cases h2:x.2<v.2
  ·simp only[br_pos h1,br_pos h2]
   refine Ev.bind (cross3Ev hu hv hx) ?_
   by_cases h3:0<side u v x
   ·simp only[br_pos h3]
    rw[if_pos ⟨h1,h2,h3⟩,w64 (by omega) (by omega)]
    exact Ev.pure _
   ·simp only[br_neg h3]
    rw[if_neg (fun h=>h3 h.2.2),Int.add_zero]
    exact Ev.pure _
  ·simp only[br_pos h1,br_neg h2]
   rw[if_neg (fun h=>h2 h.2.1),Int.add_zero]
   exact Ev.pure _
 ·simp only[br_neg h1]
  rw[if_neg (fun h=>h1 h.1),Int.add_zero]
  exact Ev.pure _
theorem on_line {u v x:Pt} (h:side u v x=0) (h1:v.2≤x.2) (h2:x.2<u.2):onB u v x=true:=by
 have hs:(v.1-u.1)*(u.2-x.2)=(u.2-v.2)*(x.1-u.1):=by
  unfold side at h
  have e1:(v.1-u.1)*(x.2-u.2) = -((v.1-u.1)*(u.2-x.2)):=by grind
  have e2:(v.2-u.2)*(x.1-u.1) = -((u.2-v.2)*(x.1-u.1)):=by grind
  rw[e1,e2] at h
  omega
 have hD:0<u.2-v.2:=by omega
 have ht0:0≤u.2-x.2:=by omega
 have htD:u.2-x.2≤u.2-v.2:=by omega
 have key:min u.1 v.1≤x.1∧x.1≤max u.1 v.1:=by
  rcases Int.le_total u.1 v.1 with hle | hle
  ·have a1:0≤(v.1-u.1)*(u.2-x.2):=Int.mul_nonneg (by omega) ht0
   have a2:(v.1-u.1)*(u.2-x.2)≤(v.1-u.1)*(u.2-v.2):=Int.mul_le_mul_of_nonneg_left htD (by omega)
   rw[hs] at a1 a2
   rw[Int.mul_comm (v.1-u.1)] at a2
   have b2:=Int.le_of_mul_le_mul_left a2 hD
   have b1:0≤x.1-u.1:=by
    rcases Int.lt_or_le (x.1-u.1) 0 with g | g
    ·have:=Int.mul_neg_of_pos_of_neg hD g;omega
    ·exact g
   omega
  ·have a1:0≤(u.1-v.1)*(u.2-x.2):=Int.mul_nonneg (by omega) ht0
   have a2:(u.1-v.1)*(u.2-x.2)≤(u.1-v.1)*(u.2-v.2):=Int.mul_le_mul_of_nonneg_left htD (by omega)
   have e:(u.1-v.1)*(u.2-x.2)=(u.2-v.2)*(u.1-x.1):=by
    have e1:(u.1-v.1)*(u.2-x.2) = -((v.1-u.1)*(u.2-x.2)):=by grind
    have e2:(u.2-v.2)*(u.1-x.1) = -((u.2-v.2)*(x.1-u.1)):=by grind
    rw[e1,e2,hs]
   rw[e] at a1 a2
   rw[Int.mul_comm (u.1-v.1)] at a2
   have b2:=Int.le_of_mul_le_mul_left a2 hD
   have b1:0≤u.1-x.1:=by
    rcases Int.lt_or_le (u.1-x.1) 0 with g | g
    ·have:=Int.mul_neg_of_pos_of_neg hD g;omega
    ·exact g
   omega
 unfold onB withinB
 simp only[Bool.and_eq_true,decide_eq_true_eq]
 exact⟨⟨key.1,key.2,by omega,by omega⟩,h⟩
theorem parity {u v x:Pt} (hn:onB u v x=false) {cnt:Int} (hc:0≤cnt) :
  (if decide (x.2<u.2)=decide (x.2<v.2) then decide (cnt % 2=1) else if decide (0<side u v x)=decide (u.2<v.2) then !decide (cnt % 2=1) else decide (cnt % 2=1)) =
  decide ((cnt+incr u v x+incr v u x) % 2=1):=by
 have hsw:=side_swap u v x
 have i0:∀ u v:Pt,¬ (u.2≤x.2∧x.2<v.2∧0<side u v x)→incr u v x=0:=fun u v h=>if_neg h
 have i1:∀ u v:Pt,(u.2≤x.2∧x.2<v.2∧0<side u v x)→incr u v x=1:=fun u v h=>if_pos h
 have flip:∀ c:Int,0≤c→(!decide (c % 2=1))=decide ((c+1) % 2=1):=fun c hc=>by
  rw[Bool.eq_iff_iff];simp only[Bool.not_eq_true',decide_eq_false_iff_not,decide_eq_true_eq];omega
 by_cases h1:x.2<u.2
 ·by_cases h2:x.2<v.2
  ·rw[if_pos (by rw[decide_eq_true h1,decide_eq_true h2]),i0 u v (by omega),i0 v u (by omega),Int.add_zero,Int.add_zero]
  ·rw[if_neg (by rw[decide_eq_true h1,decide_eq_false h2];simp),i0 u v (by omega),Int.add_zero]
   have hz:side u v x≠0:=fun h=>by rw[on_line h (by omega) h1] at hn;cases hn
   by_cases h3:0<side u v x
   ·rw[if_neg (by rw[decide_eq_true h3,decide_eq_false (by omega)];simp),i0 v u (by omega),Int.add_zero]
   ·rw[if_pos (by rw[decide_eq_false h3,decide_eq_false (by omega)]),i1 v u (by omega),flip cnt hc]
 ·by_cases h2:x.2<v.2
  ·rw[if_neg (by rw[decide_eq_false h1,decide_eq_true h2];simp),i0 v u (by omega),Int.add_zero]
   by_cases h3:0<side u v x
   ·rw[if_pos (by rw[decide_eq_true h3,decide_eq_true (by omega)]),i1 u v (by omega),flip cnt hc]
   ·rw[if_neg (by rw[decide_eq_false h3,decide_eq_true (by omega)];simp),i0 u v (by omega),Int.add_zero]
  ·rw[if_pos (by rw[decide_eq_false h1,decide_eq_false h2]),i0 u v (by omega),i0 v u (by omega),Int.add_zero,Int.add_zero]
theorem rhasL3 {p:List Pt} (hl:p.length<100000) (hp:∀ y∈p,Bd y) {x:Pt} (hx:Bd x):∀ (k i:Nat) (cnt:Int),i+k=p.length→(0≤cnt∧cnt≤2*(i:Int)) →
    ∃ y,Ev (fun n=>Z164L3 n ((p,((),(cnt,((i:Int),())))),((x,()),()))) y ∧
      ((∃ c':Int,0≤c'∧y=.inl ((c',()),())∧locF p x k i (decide (cnt % 2=1))=if decide (c' % 2=1)=true then 1 else -1) ∨
       (y=.inr ((0,()),())∧locF p x k i (decide (cnt % 2=1))=0)):=by
  intro k
  induction k with
  | zero =>
    intro i cnt hi hc
    refine⟨_,Ev.of_eq 1 ?_,.inl ⟨cnt,hc.1,rfl,rfl⟩⟩
    simp (disch:=omega) only [Z164L3Eq,br_neg]
    exact Ev.pure _
  | succ k ih =>
    intro i cnt hi hc
    have hlt:i<p.length:=by omega
    have g1:=at_get (l:=p) (i:=i) hlt
    have hnx:nx p i<p.length:=nx_lt (by omega) i
    have g2:=at_get (l:=p) (i:=nx p i) hnx
    have b1:=hp _ (List.mem_of_getElem? g1)
    have b2:=hp _ (List.mem_of_getElem? g2)
    have a1:=at3Ev hl (by omega) (show i≤p.length by omega)
    rw[Nat.mod_eq_of_lt hlt] at a1
    have a2:Ev (fun n=>Z155 n p ((i+1:Nat):Int)) (at_ p (nx p i)):=at3Ev hl (by omega) (show i+1≤p.length by omega)
    have on:=on3Ev b1 b2 hx
    unfold locF
    generalize at_ p i=u at *
    generalize at_ p (nx p i)=v at *
    have hi1:incr u v x=0∨incr u v x=1:=by unfold incr;split <;> simp
    have hi2:incr v u x=0∨incr v u x=1:=by unfold incr;split <;> simp
    cases h0:onB u v x with
    | true =>
      refine⟨_,Ev.of_eq 1 ?_,.inr ⟨rfl,by simp⟩⟩
      rw[h0] at on
      simp (disch:=omega) only [Z164L3Eq,br_pos,wr1]
      refine Ev.bind (Ev.bind a1 (Ev.bind a2 (Ev.bind on (Ev.br_true rfl (Ev.pure _))))) ?_
      exact Ev.pure _
    | false =>
      rw[h0] at on
      simp only[Bool.false_eq_true,if_false]
      rw[parity h0 hc.1]
      have q1:0≤cnt∧cnt≤1000000:=by omega
      have q2:0≤cnt+incr u v x∧cnt+incr u v x≤1000000:=by omega
      obtain⟨y,ey,hy⟩:=ih (i+1) (cnt+incr u v x+incr v u x) (by omega) (by omega)
      refine⟨y,Ev.of_eq 1 ?_,hy⟩
      have f1:=incEv (fun c=>((p,((),(c,((i:Int),((),((),())))))),((x,()),((u,()),((v,()),()))))) b1 b2 hx (cnt:=cnt) q1
      have f2:=incEv (α:=((List Pt×(Unit×(Int×(Int×Unit))))×((Pt×Unit)×Unit)) ⊕ ((Int×Unit)×Unit)) (fun c=>.inl ((p,((),(c,((i:Int),())))),((x,()),()))) b2 b1 hx (cnt:=cnt+incr u v x) q2
      simp (disch:=omega) only [Z164L3Eq,br_pos,wr1]
      refine Ev.bind (Ev.bind a1 (Ev.bind a2 (Ev.bind on (Ev.br_false rfl (Ev.bind f1 f2))))) ?_
      simp (disch:=omega) only [wr1]
      exact ey
theorem rhasEv {p:List Pt} (hl:p.length<100000) (hp:∀ y∈p,Bd y) {x:Pt} (hx:Bd x):Ev (fun n=>Z164 n p x) (locate p x):=by
 obtain⟨y,ey,hy⟩:=rhasL3 hl hp hx p.length 0 0 (by omega) (by omega)
 refine Ev.of_eq 1 ?_
 simp only[Z164Eq]
 refine Ev.bind ey ?_
 unfold locate
 have e0:decide ((0:Int) % 2=1)=false:=by decide
 rw[e0] at hy
 rcases hy with ⟨c,h0,rfl,e⟩ | ⟨rfl,e⟩
 ·rw[e]
  simp only[Int.tmod_eq_emod_of_nonneg h0]
  cases decide (c % 2=1) <;> exact Ev.pure _
 ·rw[e];exact Ev.pure _
theorem loc_ins (p:List Pt) (x:Pt):decide (0≤locate p x)=insP p x:=by
 have h:∀ (k i:Nat) (t:Bool),locF p x k i t=1∨locF p x k i t=0∨locF p x k i t = -1:=fun k=>by
  induction k with
  | zero=>intro i t;unfold locF;cases t <;> simp
  | succ k ih =>
   intro i t
   unfold locF
   split
   ·exact .inr (.inl rfl)
   ·exact ih _ _
 unfold insP locate
 rcases h p.length 0 false with h | h | h <;> rw[h] <;> decide
def showB (a b:List Pt) (kd:Int) (i j:Nat):Bool :=
 if kd=1 then meet a b i j else if kd=2 then decide (j=0) && insP b (at_ a i) else if kd=3 then decide (i=0) && insP a (at_ b j) else false
section
variable {a b:List Pt} (hla:a.length<100000) (ha:∀ x∈a,Bd x) (hlb:b.length<100000) (hb:∀ x∈b,Bd x)
include hla ha hlb hb
theorem showsEv {i j:Nat} (hi:i<a.length) (hj:j<b.length) (kd:Int):Ev (fun n=>Z125 n a b (kd,((i:Int),(j:Int)))) (showB a b kd i j):=by
 have g1:=at_get (l:=a) (i:=i) hi
 have g2:=at_get (l:=a) (i:=nx a i) (nx_lt (by omega) i)
 have g3:=at_get (l:=b) (i:=j) hj
 have g4:=at_get (l:=b) (i:=nx b j) (nx_lt (by omega) j)
 have b1:=ha _ (List.mem_of_getElem? g1)
 have b2:=ha _ (List.mem_of_getElem? g2)
 have b3:=hb _ (List.mem_of_getElem? g3)
 have b4:=hb _ (List.mem_of_getElem? g4)
 unfold showB
 refine Ev.of_eq 1 ?_
 by_cases k1:kd=1
 ·rw[if_pos k1]
  simp (disch:=omega) only [Z125Eq,br_pos,Int.toNat_natCast,g1,g3,Option.bind_some]
  refine Ev.bind (rnxEv hi hla) ?_
  simp (disch:=omega) only [br_pos,Int.toNat_natCast,g2,Option.bind_some]
  refine Ev.bind (rnxEv hj hlb) ?_
  simp (disch:=omega) only [br_pos,Int.toNat_natCast,g4,Option.bind_some]
  exact Ev.bind (cutEv b1 b2 b3 b4) (Ev.pure _)
 ·rw[if_neg k1]
  by_cases k2:kd=2
  ·rw[if_pos k2]
   by_cases h0:j=0
   ·simp (disch:=omega) only [Z125Eq,br_pos,br_neg,Int.toNat_natCast,g1,Option.bind_some]
    refine Ev.bind (rhasEv hlb hb b1) ?_
    rw[loc_ins,decide_eq_true h0,Bool.true_and]
    exact Ev.pure _
   ·simp (disch:=omega) only [Z125Eq,br_pos,br_neg]
    rw[decide_eq_false h0,Bool.false_and]
    exact Ev.pure _
  ·rw[if_neg k2]
   by_cases k3:kd=3
   ·rw[if_pos k3]
    by_cases h0:i=0
    ·simp (disch:=omega) only [Z125Eq,br_pos,br_neg,Int.toNat_natCast,g3,Option.bind_some]
     refine Ev.bind (rhasEv hla ha b3) ?_
     rw[loc_ins,decide_eq_true h0,Bool.true_and]
     exact Ev.pure _
    ·simp (disch:=omega) only [Z125Eq,br_pos,br_neg]
     rw[decide_eq_false h0,Bool.false_and]
     exact Ev.pure _
   ·rw[if_neg k3]
    simp (disch:=omega) only [Z125Eq,br_neg]
    exact Ev.pure _
theorem rtouchL8 (kd:Int) (o:TouchT×Unit) {i:Nat} (hi:i<a.length):∀ (k j:Nat),j+k=b.length →
    Ev (fun n=>Z83L8 n ((a,(b,((),(kd,((i:Int),((j:Int),())))))),(o,())))
      (match firstN (showB a b kd i) k j with
       | none=>.inl ((a,(b,((),(kd,((i:Int),()))))),(o,()))
       | some j=>.inr (((),(true,())),(((kd,((i:Int),(j:Int))),()),()))):=by
  intro k
  induction k with
  | zero =>
    intro j h
    refine Ev.of_eq 1 ?_
    simp (disch:=omega) only [Z83L8Eq,br_neg,firstN]
    exact Ev.pure _
  | succ k ih =>
    intro j h
    refine Ev.of_eq 1 ?_
    simp (disch:=omega) only [Z83L8Eq,br_pos]
    refine Ev.bind (showsEv hla ha hlb hb hi (show j<b.length by omega) kd) ?_
    simp only[firstN]
    by_cases h:showB a b kd i j=true
    · simp only[h,br_t,if_true];exact Ev.pure _
    · rw[Bool.not_eq_true] at h
      simp (disch:=omega) only [h,br_f,Bool.false_eq_true,if_false,wr1]
      exact ih (j+1) (by omega)
theorem rtouchL5 (kd:Int) (o:TouchT×Unit):∀ (k i:Nat),i+k=a.length →
    Ev (fun n=>Z83L5 n ((a,(b,((),(kd,((i:Int),()))))),(o,())))
      (match firstP2 (fun i=>firstN (showB a b kd i) b.length 0) k i with
       | none=>.inl ((a,(b,((),(kd,())))),(o,()))
       | some x=>.inr (((),(true,())),(((kd,((x.1:Int),(x.2:Int))),()),()))):=by
  intro k
  induction k with
  | zero =>
    intro i h
    refine Ev.of_eq 1 ?_
    simp (disch:=omega) only [Z83L5Eq,br_neg,firstP2]
    exact Ev.pure _
  | succ k ih =>
    intro i h
    refine Ev.of_eq 1 ?_
    simp (disch:=omega) only [Z83L5Eq,br_pos]
    refine Ev.bind (rtouchL8 hla ha hlb hb kd o (show i<a.length by omega) b.length 0 (by omega)) ?_
    simp only[firstP2]
    cases h8:firstN (showB a b kd i) b.length 0 with
    | some j=>exact Ev.pure _
    | none =>
      simp (disch:=omega) only [wr1]
      exact ih (i+1) (by omega)
end
theorem firstN_congr {f g:Nat→Bool}:∀ (k i:Nat),(∀ j,i≤j→j<i+k→f j=g j)→firstN f k i=firstN g k i
 | 0,_,_=>rfl
 | k+1,i,h=>by
  unfold firstN
  rw[h i (Nat.le_refl _) (by omega),firstN_congr k (i+1) fun j h1 h2=>h j (by omega) (by omega)]
theorem firstN_false {f:Nat→Bool}:∀ (k i:Nat),(∀ j,i≤j→j<i+k→f j=false)→firstN f k i=none
 | 0,_,_=>rfl
 | k+1,i,h=>by
  unfold firstN
  rw[h i (Nat.le_refl _) (by omega),if_neg (by simp)]
  exact firstN_false k (i+1) fun j h1 h2=>h j (by omega) (by omega)
theorem firstP2_none {g:Nat→Option Nat}:∀ (k i:Nat),(∀ j,i≤j→j<i+k→g j=none)→firstP2 g k i=none
 | 0,_,_=>rfl
 | k+1,i,h=>by
  unfold firstP2
  rw[h i (Nat.le_refl _) (by omega)]
  exact firstP2_none k (i+1) fun j h1 h2=>h j (by omega) (by omega)
theorem firstN_succ (f:Nat→Bool) (k i:Nat):firstN f (k+1) i=if f i=true then some i else firstN f k (i+1):=rfl
theorem firstP2_succ (g:Nat→Option Nat) (k i:Nat):firstP2 g (k+1) i=match g i with | some j=>some (i,j) | none=>firstP2 g k (i+1):=rfl
theorem p2_two (a b:List Pt) (hb0:0<b.length):∀ (k i:Nat),firstP2 (fun i=>firstN (showB a b 2 i) b.length 0) k i=(firstN (fun i=>insP b (at_ a i)) k i).map fun i=>(i,0)
 | 0,_=>rfl
 | k+1,i=>by
  have e:firstN (showB a b 2 i) b.length 0=if insP b (at_ a i)=true then some 0 else none:=by
   obtain⟨n,hn⟩:∃ n,b.length=n+1:=⟨b.length-1,by omega⟩
   rw[hn]
   unfold firstN
   have e0:showB a b 2 i 0=insP b (at_ a i):=by unfold showB;simp
   rw[e0]
   split
   ·rfl
   ·exact firstN_false _ _ fun j h1 h2=>by unfold showB;simp;omega
  rw[firstP2_succ,firstN_succ,p2_two a b hb0 k (i+1)]
  simp only[e]
  by_cases h:insP b (at_ a i)=true
  ·simp only[if_pos h];rfl
  ·simp only[if_neg h]
theorem p2_three (a b:List Pt) (ha0:0<a.length):firstP2 (fun i=>firstN (showB a b 3 i) b.length 0) a.length 0=(firstN (fun j=>insP a (at_ b j)) b.length 0).map fun j=>(0,j):=by
 obtain⟨n,hn⟩:∃ n,a.length=n+1:=⟨a.length-1,by omega⟩
 rw[hn,firstP2_succ]
 have e:firstN (showB a b 3 0) b.length 0=firstN (fun j=>insP a (at_ b j)) b.length 0:=firstN_congr _ _ fun j _ _=>by unfold showB;simp
 simp only[e]
 cases firstN (fun j=>insP a (at_ b j)) b.length 0 with
 | some j=>rfl
 | none=>exact firstP2_none _ _ fun i h1 h2=>firstN_false _ _ fun j _ _=>by unfold showB;simp;omega
theorem ins_nil (x:Pt):insP [] x=false:=rfl
theorem rtouchEv {a b:List Pt} (hla:a.length<100000) (ha:∀ x∈a,Bd x) (hlb:b.length<100000) (hb:∀ x∈b,Bd x):Ev (fun n=>Z83 n a b) (contact a b):=by
 have L:=fun kd o=>rtouchL5 hla ha hlb hb kd o a.length 0 (by omega)
 have e1:(fun i=>firstN (showB a b 1 i) b.length 0)=fun i=>firstN (meet a b i) b.length 0:=by
  funext i
  exact firstN_congr _ _ fun j _ _=>by unfold showB;simp
 have n0:∀ (g:Nat→Option Nat),a.length=0→firstP2 g a.length 0=none:=fun g h=>by rw[h];rfl
 have z2:firstP2 (fun i=>firstN (showB a b 2 i) b.length 0) a.length 0=(firstN (fun i=>insP b (at_ a i)) a.length 0).map fun i=>(i,0):=by
  rcases Nat.eq_zero_or_pos b.length with h | h
  ·have hbn:b=[]:=List.eq_nil_of_length_eq_zero h
   subst hbn
   rw[firstP2_none (g:=fun i=>firstN (showB a [] 2 i) [].length 0) _ _ (fun i _ _=>rfl),firstN_false (f:=fun i=>insP [] (at_ a i)) _ _ (fun i _ _=>ins_nil _)]
   rfl
  ·exact p2_two a b h a.length 0
 have z3:firstP2 (fun i=>firstN (showB a b 3 i) b.length 0) a.length 0=(firstN (fun j=>insP a (at_ b j)) b.length 0).map fun j=>(0,j):=by
  rcases Nat.eq_zero_or_pos a.length with h | h
  ·have han:a=[]:=List.eq_nil_of_length_eq_zero h
   subst han
   rw[firstN_false (f:=fun j=>insP [] (at_ b j)) _ _ (fun i _ _=>ins_nil _)]
   rfl
  ·exact p2_three a b h
 have step:∀ (kd:Int) (o:TouchT×Unit) (R:_),(1≤kd∧kd≤3)→Ev (fun n=>Z83L2 n ((a,(b,((),(kd+1,())))),(o,()))) R →
   Ev (fun n=>Z83L2 n ((a,(b,((),(kd,())))),(o,()))) (match firstP2 (fun i=>firstN (showB a b kd i) b.length 0) a.length 0 with
    | some x=>.inr (((),(true,())),(((kd,((x.1:Int),(x.2:Int))),()),()))
    | none=>R):=fun kd o R hk hR=>by
  refine Ev.of_eq 1 ?_
  simp only[Z83L2Eq,br_pos hk.2]
  refine Ev.bind (L kd o) ?_
  cases firstP2 (fun i=>firstN (showB a b kd i) b.length 0) a.length 0 with
  | some x=>exact Ev.pure _
  | none =>
   simp only
   rw[w64 (by omega) (by omega)]
   exact hR
 have last:∀ o:TouchT×Unit,Ev (fun n=>Z83L2 n ((a,(b,((),((4:Int),())))),(o,()))) (.inl (((),()),(o,()))):=fun o=>by
  refine Ev.of_eq 1 ?_
  simp (disch:=decide) only [Z83L2Eq,br_neg]
  exact Ev.pure _
 have all:=fun o=>step 1 o _ (by decide) (step 2 o _ (by decide) (step 3 o _ (by decide) (last o)))
 refine Ev.of_eq 1 ?_
 simp only[Z83Eq]
 refine Ev.bind (all _) ?_
 rw[e1,z2,z3]
 unfold contact
 cases firstP2 (fun i=>firstN (meet a b i) b.length 0) a.length 0 with
 | some x=>exact Ev.pure _
 | none =>
  cases firstN (fun i=>insP b (at_ a i)) a.length 0 with
  | some x=>exact Ev.pure _
  | none =>
   cases firstN (fun j=>insP a (at_ b j)) b.length 0 with
   | some x=>exact Ev.pure _
   | none=>exact Ev.pure _
end Go.Jm
namespace Go.Jm
open Go Go.Am Go.Proofs Go.Hu Go.Mo
theorem obsB_run (a:List Pt):∀ (r:List (List Pt)) (k:Nat) (out:List (Int×Int)),obsB a r k=none→(sepRun (r.map fun b=>(a,b)) out).2=true
 | [],_,_,_=>rfl
 | b :: r,k,out,h=>by
  unfold obsB at h
  split at h
  ·rename_i hs
   simp only[List.map_cons,sepRun,if_pos hs]
   exact obsB_run a r (k+1) _ h
  ·cases h
theorem obsA_run (B:List (List Pt)):∀ (r:List (List Pt)) (i:Nat) (out:List (Int×Int)),obsA B r i=none→(sepRun (r.flatMap fun a=>B.map fun b=>(a,b)) out).2=true
 | [],_,_,_=>rfl
 | a :: r,i,out,h=>by
  unfold obsA at h
  rw[List.flatMap_cons,sepRun_append]
  cases hb:obsB a B 0 with
  | some x=>rw[hb] at h;cases h
  | none =>
   rw[hb] at h
   rw[if_pos (obsB_run a B 0 out hb)]
   exact obsA_run B r (i+1) _ h
section
variable (m:MoveT) (P:List PairT) (nn:Int)
theorem lookoL12 (A B:List (List Pt)) {i:Nat} {a:List Pt} (hi:A[i]?=some a) (ha:Small a) (hBl:B.length≤1000000) (hAl:A.length≤1000000) (hB:∀ b∈B,Small b):∀ (r:List (List Pt)) (k:Nat) (out:List (Int×Int)),B.drop k=r→k≤B.length→out.length+r.length≤2000000000000 →
  TotP (fun n=>Z42L12 n (((),((),(out,(P,(nn,(A,(B,((i:Int),((k:Int),()))))))))),ZZ m))
   (fun y=>(obsB a r k=none∧y=.inl (((),((),((sepRun (r.map fun b=>(a,b)) out).1,(P,(nn,(A,(B,((i:Int),())))))))),ZZ m))∨∃ x,obsB a r k=some x∧y=.inr (NR (0,(m,(nn,((i:Int),(((x.1:Nat):Int),x.2)))))))
 | [],k,out,h,hk,ho=>by
  have:=gdrop_nil h
  refine⟨_,Ev.of_eq 1 ?_,.inl ⟨rfl,rfl⟩⟩
  simp (disch:=omega) only [Z42L12Eq,br_neg]
  exact Ev.pure _
 | b :: r,k,out,h,hk,ho=>by
  obtain⟨g1,g2,g3⟩:=gdrop h
  have hb:=hB b (List.mem_of_getElem? g1)
  have ap:=rapartEv ha.1 hb.1 ha.2 hb.2
  have tt:=rtouchEv ha.1 ha.2 hb.1 hb.2
  simp only[List.length_cons] at ho
  have hcap:∀ s:Int×Int,(out.length + [s].length)*16≤140737488355328:=fun s=>by simp only[List.length_cons,List.length_nil];omega
  refine TotP.of_eq 1 ?_
  simp (disch:=omega) only [Z42L12Eq,br_pos,Int.toNat_natCast,g1,hi,Option.bind_some,wr1]
  refine TotP.ev ap ?_
  simp only[List.map_cons,sepRun]
  cases hs:(sepEdge a b).2 with
  | false =>
   have eo:obsB a (b :: r) k=some (k,(contact a b).1):=by unfold obsB;rw[hs,if_neg (by simp)]
   exact⟨_,Ev.br_true rfl (Ev.bind tt (Ev.pure _)),.inr ⟨_,eo,rfl⟩⟩
  | true =>
   obtain⟨y,h1,h2⟩:=lookoL12 A B hi ha hBl hAl hB r (k+1) (out ++ [(sepEdge a b).1]) g2 (by omega) (by simp only[List.length_append,List.length_cons,List.length_nil];omega)
   have eo:obsB a (b :: r) k=obsB a r (k+1):=by show (if (sepEdge a b).2=true then _ else _)=_;rw[hs,if_pos rfl]
   refine⟨y,Ev.br_false rfl (Ev.ite_pos (hcap _) h1),?_⟩
   rw[eo]
   simpa using h2
theorem lookoL9 (A B:List (List Pt)) (hBl:B.length≤1000000) (hAl:A.length≤1000000) (hA:∀ b∈A,Small b) (hB:∀ b∈B,Small b):∀ (r:List (List Pt)) (i:Nat) (out:List (Int×Int)),A.drop i=r→i≤A.length→out.length+(r.flatMap fun a=>B.map fun b=>(a,b)).length≤2000000000000 →
  TotP (fun n=>Z42L9 n (((),((),(out,(P,(nn,(A,(B,((i:Int),())))))))),ZZ m))
   (fun y=>(obsA B r i=none∧y=.inl (((),((),((sepRun (r.flatMap fun a=>B.map fun b=>(a,b)) out).1,(P,(nn,()))))),ZZ m))∨∃ x,obsA B r i=some x∧y=.inr (NR (0,(m,(nn,(((x.1:Nat):Int),(((x.2.1:Nat):Int),x.2.2)))))))
 | [],i,out,h,hk,ho=>by
  have:=gdrop_nil h
  refine⟨_,Ev.of_eq 1 ?_,.inl ⟨rfl,rfl⟩⟩
  simp (disch:=omega) only [Z42L9Eq,br_neg]
  exact Ev.pure _
 | a :: r,i,out,h,hk,ho=>by
  obtain⟨g1,g2,g3⟩:=gdrop h
  have ha:=hA a (List.mem_of_getElem? g1)
  simp only[List.flatMap_cons,List.length_append,List.length_map] at ho
  obtain⟨y,h1,h2⟩:=lookoL12 m P nn A B g1 ha hBl hAl hB B 0 out rfl (Nat.zero_le _) (by omega)
  refine TotP.of_eq 1 ?_
  simp (disch:=omega) only [Z42L9Eq,br_pos]
  refine TotP.ev h1 ?_
  rw[List.flatMap_cons,sepRun_append]
  rcases h2 with ⟨h2,rfl⟩ | ⟨o,h2,rfl⟩
  ·have eo:obsA B (a :: r) i=obsA B r (i+1):=by show (match obsB a B 0 with | some x=>some (i,x) | none=>obsA B r (i+1))=_;rw[h2]
   rw[eo,if_pos (obsB_run a B 0 out h2)]
   simp (disch:=omega) only [wr1]
   refine lookoL9 A B hBl hAl hA hB r (i+1) _ g2 (by omega) ?_
   have:=sepRun_len (B.map fun b=>(a,b)) out
   rw[List.length_map] at this
   omega
  ·have eo:obsA B (a :: r) i=some (i,o):=by show (match obsB a B 0 with | some x=>some (i,x) | none=>obsA B r (i+1))=_;rw[h2]
   exact TotP.pure (.inr ⟨_,eo,rfl⟩)
end
theorem lookoL4 (m:MoveT) (P:List PairT) (hP:P.length≤5000) (hp:∀ p∈P,Aok p.1∧Aok p.2):∀ (r:List PairT) (i:Nat) (out:List (Int×Int)),P.drop i=r→i≤P.length→out.length≤100000000*i →
  TotP (fun n=>Z42L4 n (((),((),(out,(P,((i:Int),()))))),ZZ m))
   (fun y=>(obsP r i=none∧y=.inl (((),((sepRun (r.flatMap checks) out).1,())),((),((),((),((O0,()),()))))))∨∃ x,obsP r i=some x∧y=.inr (NR (0,(m,(((x.1:Nat):Int),(((x.2.1:Nat):Int),(((x.2.2.1:Nat):Int),x.2.2.2)))))))
 | [],i,out,h,hk,ho=>by
  have:=gdrop_nil h
  refine⟨_,Ev.of_eq 1 ?_,.inl ⟨rfl,rfl⟩⟩
  simp (disch:=omega) only [Z42L4Eq,br_neg]
  exact Ev.pure _
 | p :: r,i,out,h,hk,ho=>by
  obtain⟨g1,g2,g3⟩:=gdrop h
  obtain⟨p1,p2⟩:=hp p (List.mem_of_getElem? g1)
  have q1:=partsEv p.1.2.2.2 p1.1 p1.2
  have q2:=partsEv p.2.2.2.2 p2.1 p2.2
  obtain⟨d1,d2⟩:=decomp_part p1.1 p1.2
  obtain⟨d3,d4⟩:=decomp_part p2.1 p2.2
  have s1:=(decomp_small p1.1).2
  have s2:=(decomp_small p2.1).2
  have hlen:=checks_len p1 p2
  have hch:checks p=(decomp p.1.2.2.2).flatMap fun a=>(decomp p.2.2.2.2).map fun b=>(a,b):=rfl
  obtain⟨y,h1,h2⟩:=lookoL9 m P (i:Int) (decomp p.1.2.2.2) (decomp p.2.2.2.2) (by omega) (by omega) (fun b hb=>⟨by have:=s1 b hb;omega,(d2 b hb).2⟩) (fun b hb=>⟨by have:=s2 b hb;omega,(d4 b hb).2⟩) (decomp p.1.2.2.2) 0 out rfl (Nat.zero_le _) (by rw[← hch];omega)
  rw[← hch] at h2
  refine TotP.of_eq 1 ?_
  simp (disch:=omega) only [Z42L4Eq,br_pos,Int.toNat_natCast,g1,Option.bind_some]
  refine TotP.ev q1 ?_
  refine TotP.ev q2 ?_
  refine TotP.ev h1 ?_
  rw[List.flatMap_cons,sepRun_append]
  rcases h2 with ⟨h2,rfl⟩ | ⟨o,h2,rfl⟩
  ·have eo:obsP (p :: r) i=obsP r (i+1):=by show (match obsA (decomp p.2.2.2.2) (decomp p.1.2.2.2) 0 with | some x=>some (i,x) | none=>obsP r (i+1))=_;rw[h2]
   rw[eo,if_pos (by rw[hch];exact obsA_run _ _ 0 out h2)]
   simp (disch:=omega) only [wr1]
   refine lookoL4 m P hP hp r (i+1) _ g2 (by omega) ?_
   have:=sepRun_len (checks p) out
   omega
  ·have eo:obsP (p :: r) i=some (i,o):=by show (match obsA (decomp p.2.2.2.2) (decomp p.1.2.2.2) 0 with | some x=>some (i,x) | none=>obsP r (i+1))=_;rw[h2]
   exact TotP.pure (.inr ⟨_,eo,rfl⟩)
theorem lookoEv {c:CellT} {w:Mo.StateT} (hc:COk c) (hw:WOk c w) (m:MoveT):TotP (fun n=>Z42 n c w m) (fun y=>(obsP (sweptPairs c w m) 0=none∧y.2.2=true)∨∃ x,obsP (sweptPairs c w m) 0=some x∧y=([],((0,(m,(((x.1:Nat):Int),(((x.2.1:Nat):Int),(((x.2.2.1:Nat):Int),x.2.2.2))))),false))):=by
 obtain⟨h1,h2⟩:=sweptPairs_ok hc hw m
 refine TotP.of_eq 1 ?_
 simp only[Z42Eq]
 refine TotP.ev (rsweptPairsEv hc hw m) ?_
 obtain⟨y,e1,e2⟩:=lookoL4 m (sweptPairs c w m) h1 h2 (sweptPairs c w m) 0 [] rfl (Nat.zero_le _) (Nat.zero_le _)
 refine TotP.ev e1 ?_
 rcases e2 with ⟨h,rfl⟩ | ⟨x,h,rfl⟩
 ·exact TotP.pure (.inl ⟨h,rfl⟩)
 ·exact TotP.pure (.inr ⟨x,h,rfl⟩)
theorem next_none {c:CellT} {w:Mo.StateT} {m:MoveT} (h:(next c w m).2=false):obst c w m=(ob0,false):=by
 have e:sweptPairs c w m=[]:=by unfold sweptPairs;rw[h,if_neg (by simp)]
 unfold obst
 rw[e]
 rfl
theorem whyEv {c:CellT} {w:Mo.StateT} (hc:COk c) (hw:WOk c w) (m:MoveT):Ev (fun n=>Z16 n c w m) (obst c w m):=by
 obtain⟨y,e1,e2⟩:=lookoEv hc hw m
 refine Ev.of_eq 1 ?_
 simp only[Z16Eq]
 refine Ev.bind (rnextEv c w m (hw.q0 hc) (hw.q1 hc)) ?_
 refine Ev.bind e1 ?_
 cases hn:(next c w m).2 with
 | false=>rw[next_none hn];exact Ev.pure _
 | true =>
  simp only[Bool.not_true,br_f]
  unfold obst
  rcases e2 with ⟨h,hy⟩ | ⟨x,h,rfl⟩
  ·rw[h,hy];exact Ev.pure _
  ·rw[h];exact Ev.pure _
end Go.Jm
namespace Go.Jm
open Go Go.Am Go.Proofs Go.Hu Go.Mo
theorem beqO (a:ObsT):Ty.beq (.pair (.int .i64) (.pair (.pair (.int .i64) (.pair (.int .i64) (.int .i64))) (.pair (.int .i64) (.pair (.int .i64) (.pair (.int .i64) (.pair (.int .i64) (.pair (.int .i64) (.int .i64)))))))) a a=true:=by
 have e:Ty.beq (.pair (.int .i64) (.pair (.pair (.int .i64) (.pair (.int .i64) (.int .i64))) (.pair (.int .i64) (.pair (.int .i64) (.pair (.int .i64) (.pair (.int .i64) (.pair (.int .i64) (.int .i64)))))))) a a =
  (decide (a.1=a.1) && ((decide (a.2.1.1=a.2.1.1) && (decide (a.2.1.2.1=a.2.1.2.1) && decide (a.2.1.2.2=a.2.1.2.2))) && (decide (a.2.2.1=a.2.2.1) && (decide (a.2.2.2.1=a.2.2.2.1) && (decide (a.2.2.2.2.1=a.2.2.2.2.1) && (decide (a.2.2.2.2.2.1=a.2.2.2.2.2.1) && (decide (a.2.2.2.2.2.2.1=a.2.2.2.2.2.2.1) && decide (a.2.2.2.2.2.2.2=a.2.2.2.2.2.2.2)))))))):=rfl
 rw[e];simp
theorem checks_all:∀ (l:List PairT),(∀ p∈l,Aok p.1∧Aok p.2)→(l.flatMap checks).length≤100000000*l.length
 | [],_=>by simp
 | p :: l,h=>by
  have h1:=checks_len (h p (List.mem_cons_self ..)).1 (h p (List.mem_cons_self ..)).2
  have h2:=checks_all l fun q hq=>h q (List.mem_cons_of_mem _ hq)
  rw[List.flatMap_cons,List.length_append,List.length_cons]
  omega
theorem cert_small {c:CellT} {w:Mo.StateT} (hc:COk c) (hw:WOk c w) (m:MoveT):(cert c w m).1.length<1000000000000:=by
 obtain⟨h1,h2⟩:=sweptPairs_ok hc hw m
 have h3:=checks_all _ h2
 unfold cert
 by_cases h:(next c w m).2=true
 ·rw[if_pos h]
  have hr:=sepRun_all ((sweptPairs c w m).flatMap checks) []
  have hl:=sepRun_len ((sweptPairs c w m).flatMap checks) []
  cases hs:sepAll ((sweptPairs c w m).flatMap checks) with
  | none=>show ([]:List (Int×Int)).length<_;simp
  | some r =>
   rw[hs] at hr
   simp only[List.nil_append] at hr
   rw[hr] at hl
   simp only[List.length_nil] at hl
   show r.length<_
   omega
 ·rw[if_neg h];show ([]:List (Int×Int)).length<_;simp
theorem next_small {c:CellT} {w:Mo.StateT} (hc:COk c) (hw:WOk c w) (m:MoveT):(next c w m).1.2.2.length<1000000000:=by
 have hwl:w.2.2.length≤8:=by have:=hw.wlen;have:=hc.partl;omega
 unfold next setQ
 split
 ·split <;> (show w.2.2.length<_;omega)
 ·show ([]:List Int).length<_;simp
theorem matchLawEv (c:CellT) (w:Mo.StateT) (m:MoveT):Ev (fun n=>(Z9 n).bind fun x477=>(Z10 n c w).bind fun x713=>(br (!x713) (some x477) ((Z11 n c w m).bind fun x714=>(Z12 n c w m).bind fun x741=>(Z13 n c w m).bind fun x742=>(Z14 n c w m).bind fun x994=>(Z15 n c w m).bind fun x995=>(Z16 n c w m).bind fun x998=>(br x477 (br (decide (x714.2=x741.2)) ((Z17 n x714.1 x741.1).bind fun x1004=>(br x1004 (br (decide (x742.2=x994.2)) ((Z18 n x742.1 x994.1).bind fun x1010=>(br x1010 (br (decide (x995.2=x998.2)) (br (Ty.beq (.pair (.int .i64) (.pair (.pair (.int .i64) (.pair (.int .i64) (.int .i64))) (.pair (.int .i64) (.pair (.int .i64) (.pair (.int .i64) (.pair (.int .i64) (.pair (.int .i64) (.int .i64)))))))) x995.1 x998.1) ((Z20 n c w m).bind fun x1011=>(Z21 n c w m).bind fun x1012=>(Z19 n x1011 x1012).bind fun x1028=>(br x1028 ((Z22 n c w m).bind fun x1029=>some (decide (x1029=x994.2))) (some false))) (some false)) (some false)) (some false))) (some false)) (some false))) (some false)) (some false))))) true:=by
 refine Ev.bind headEv ?_
 obtain⟨b,eb,hb⟩:=fitsEv c w
 refine Ev.bind eb ?_
 cases b with
 | false=>exact Ev.pure _
 | true =>
  obtain⟨hc,hw⟩:=hb rfl
  obtain⟨h1,h2⟩:=sweptPairs_ok hc hw m
  simp only[Bool.not_true,br_f]
  refine Ev.bind (nextStEv c w m (hw.q0 hc) (hw.q1 hc)) ?_
  refine Ev.bind (rnextEv c w m (hw.q0 hc) (hw.q1 hc)) ?_
  refine Ev.bind (certEv hc hw m) ?_
  refine Ev.bind (rcertEv hc hw m) ?_
  refine Ev.bind (obstEv hc hw m) ?_
  refine Ev.bind (whyEv hc hw m) ?_
  refine Ev.br_true rfl ?_
  refine Ev.br_true (decide_eq_true rfl) ?_
  refine Ev.bind (worldSelf (next_small hc hw m)) ?_
  refine Ev.br_true rfl ?_
  refine Ev.br_true (decide_eq_true rfl) ?_
  refine Ev.bind (linesSelf (cert_small hc hw m)) ?_
  refine Ev.br_true rfl ?_
  refine Ev.br_true (decide_eq_true rfl) ?_
  refine Ev.br_true (beqO _) ?_
  refine Ev.bind (sweptPairsEv hc hw m) ?_
  refine Ev.bind (rsweptPairsEv hc hw m) ?_
  refine Ev.bind (pairsSelf (by omega) h2) ?_
  refine Ev.br_true rfl ?_
  refine Ev.bind (freeEv hc hw m) ?_
  exact (Ev.pure _).congr (decide_eq_true rfl)
end Go.Jm
