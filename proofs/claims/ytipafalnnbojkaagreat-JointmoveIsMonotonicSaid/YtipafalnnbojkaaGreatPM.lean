import Derived.Test.YtipafalnnbojkaaGreatPL
set_option linter.unusedVariables false
set_option linter.unusedSimpArgs false
set_option linter.unnecessarySimpa false
set_option linter.unusedSectionVars false
namespace Go.Jm
open Go Go.Am Go.Proofs Go.Hu Go.Mo
theorem farTot (a:ArmT):∃ b,Ev (fun n=>Z113 n a) b∧(b=false→Bb 1000000000 a.1):=by
 by_cases h1:(1000000000:Int)<a.1.1
 ·refine⟨true,Ev.of_eq 1 ?_,fun e=>by cases e⟩
  simp only[Z113Eq,br_pos h1];exact Ev.pure _
 by_cases h2:a.1.1<(-1000000000:Int)
 ·refine⟨true,Ev.of_eq 1 ?_,fun e=>by cases e⟩
  simp only[Z113Eq,br_neg h1,br_pos h2];exact Ev.pure _
 by_cases h3:(1000000000:Int)<a.1.2
 ·refine⟨true,Ev.of_eq 1 ?_,fun e=>by cases e⟩
  simp only[Z113Eq,br_neg h1,br_neg h2,br_pos h3];exact Ev.pure _
 refine⟨decide (a.1.2<(-1000000000:Int)),Ev.of_eq 1 ?_,fun e=>?_⟩
 ·simp only[Z113Eq,br_neg h1,br_neg h2,br_neg h3];exact Ev.pure _
 ·rw[decide_eq_false_iff_not] at e
  unfold Bb;omega
theorem sizeEv {x:Int} (h:-1000000000≤x∧x≤1000000000):Ev (fun n=>Z114 n x) (if x<0 then -x else x):=by
 refine Ev.of_eq 1 ?_
 by_cases h1:x<0
 ·simp (disch:=omega) only [Z114Eq,br_pos h1,w64,if_pos h1]
  exact (Ev.pure _).congr (by omega)
 ·simp only[Z114Eq,br_neg h1,if_neg h1]
  exact Ev.pure _
def ArmR (a:ArmT):Prop:=Bb 439400000 a.1∧((1≤a.2.1.1∧a.2.1.1≤40)∧(1≤a.2.1.2.1∧a.2.1.2.1≤40)∧(1≤a.2.1.2.2∧a.2.1.2.2≤40))∧(1≤a.2.2.1∧a.2.2.1≤4) ∧
 ((-17≤a.2.2.2.1.1∧a.2.2.2.1.1≤18)∧(-17≤a.2.2.2.1.2.1∧a.2.2.2.1.2.1≤18)∧(-17≤a.2.2.2.1.2.2∧a.2.2.2.1.2.2≤18)) ∧
 ((-17≤a.2.2.2.2.1∧a.2.2.2.2.1≤18)∧(-17≤a.2.2.2.2.2.1∧a.2.2.2.2.2.1≤18)∧(-17≤a.2.2.2.2.2.2∧a.2.2.2.2.2.2≤18))
theorem armEv (a:ArmT):∃ b,Ev (fun n=>Z71 n a) b∧(b=true→ArmR a):=by
 obtain⟨v,hv,hvf⟩:=farTot a
 cases v with
 | true =>
  refine⟨false,Ev.of_eq 1 ?_,fun e=>by cases e⟩
  simp only[Z71Eq]
  exact Ev.bind hv (Ev.pure _)
 | false =>
 have hb:=hvf rfl
 unfold Bb at hb
 by_cases h0:a.2.2.1<(1:Int)
 ·refine⟨false,Ev.of_eq 1 ?_,fun e=>by cases e⟩
  simp only[Z71Eq]
  refine Ev.bind hv ?_
  simp only[br_f,br_pos h0]
  exact Ev.pure _
 by_cases h1:(4:Int)<a.2.2.1
 ·refine⟨false,Ev.of_eq 1 ?_,fun e=>by cases e⟩
  simp only[Z71Eq]
  refine Ev.bind hv ?_
  simp only[br_f,br_neg h0,br_pos h1]
  exact Ev.pure _
 by_cases h2:((a.1.1).tmod (16:Int))=(0:Int)
 rotate_left
 ·refine⟨false,Ev.of_eq 1 ?_,fun e=>by cases e⟩
  simp only[Z71Eq]
  refine Ev.bind hv ?_
  simp only[br_f,br_neg h0,br_neg h1,nbr_neg h2]
  exact Ev.pure _
 by_cases h3:((a.1.2).tmod (16:Int))=(0:Int)
 rotate_left
 ·refine⟨false,Ev.of_eq 1 ?_,fun e=>by cases e⟩
  simp only[Z71Eq]
  refine Ev.bind hv ?_
  simp only[br_f,br_neg h0,br_neg h1,nbr_pos h2,nbr_neg h3]
  exact Ev.pure _
 by_cases h4:a.2.1.1<(1:Int)
 ·refine⟨false,Ev.of_eq 1 ?_,fun e=>by cases e⟩
  simp only[Z71Eq]
  refine Ev.bind hv ?_
  simp only[br_f,br_neg h0,br_neg h1,nbr_pos h2,nbr_pos h3,br_pos h4]
  exact Ev.pure _
 by_cases h5:(40:Int)<a.2.1.1
 ·refine⟨false,Ev.of_eq 1 ?_,fun e=>by cases e⟩
  simp only[Z71Eq]
  refine Ev.bind hv ?_
  simp only[br_f,br_neg h0,br_neg h1,nbr_pos h2,nbr_pos h3,br_neg h4,br_pos h5]
  exact Ev.pure _
 by_cases h6:a.2.2.2.1.1<(-17:Int)
 ·refine⟨false,Ev.of_eq 1 ?_,fun e=>by cases e⟩
  simp only[Z71Eq]
  refine Ev.bind hv ?_
  simp only[br_f,br_neg h0,br_neg h1,nbr_pos h2,nbr_pos h3,br_neg h4,br_neg h5,br_pos h6]
  exact Ev.pure _
 by_cases h7:(18:Int)<a.2.2.2.1.1
 ·refine⟨false,Ev.of_eq 1 ?_,fun e=>by cases e⟩
  simp only[Z71Eq]
  refine Ev.bind hv ?_
  simp only[br_f,br_neg h0,br_neg h1,nbr_pos h2,nbr_pos h3,br_neg h4,br_neg h5,br_neg h6,br_pos h7]
  exact Ev.pure _
 by_cases h8:a.2.2.2.2.1<(-17:Int)
 ·refine⟨false,Ev.of_eq 1 ?_,fun e=>by cases e⟩
  simp only[Z71Eq]
  refine Ev.bind hv ?_
  simp only[br_f,br_neg h0,br_neg h1,nbr_pos h2,nbr_pos h3,br_neg h4,br_neg h5,br_neg h6,br_neg h7,br_pos h8]
  exact Ev.pure _
 by_cases h9:(18:Int)<a.2.2.2.2.1
 ·refine⟨false,Ev.of_eq 1 ?_,fun e=>by cases e⟩
  simp only[Z71Eq]
  refine Ev.bind hv ?_
  simp only[br_f,br_neg h0,br_neg h1,nbr_pos h2,nbr_pos h3,br_neg h4,br_neg h5,br_neg h6,br_neg h7,br_neg h8,br_pos h9]
  exact Ev.pure _
 by_cases h10:a.2.2.2.2.1<a.2.2.2.1.1
 ·refine⟨false,Ev.of_eq 1 ?_,fun e=>by cases e⟩
  simp only[Z71Eq]
  refine Ev.bind hv ?_
  simp only[br_f,br_neg h0,br_neg h1,nbr_pos h2,nbr_pos h3,br_neg h4,br_neg h5,br_neg h6,br_neg h7,br_neg h8,br_neg h9,br_pos h10]
  exact Ev.pure _
 by_cases h11:a.2.1.2.1<(1:Int)
 ·refine⟨false,Ev.of_eq 1 ?_,fun e=>by cases e⟩
  simp only[Z71Eq]
  refine Ev.bind hv ?_
  simp only[br_f,br_neg h0,br_neg h1,nbr_pos h2,nbr_pos h3,br_neg h4,br_neg h5,br_neg h6,br_neg h7,br_neg h8,br_neg h9,br_neg h10,br_pos h11]
  exact Ev.pure _
 by_cases h12:(40:Int)<a.2.1.2.1
 ·refine⟨false,Ev.of_eq 1 ?_,fun e=>by cases e⟩
  simp only[Z71Eq]
  refine Ev.bind hv ?_
  simp only[br_f,br_neg h0,br_neg h1,nbr_pos h2,nbr_pos h3,br_neg h4,br_neg h5,br_neg h6,br_neg h7,br_neg h8,br_neg h9,br_neg h10,br_neg h11,br_pos h12]
  exact Ev.pure _
 by_cases h13:a.2.2.2.1.2.1<(-17:Int)
 ·refine⟨false,Ev.of_eq 1 ?_,fun e=>by cases e⟩
  simp only[Z71Eq]
  refine Ev.bind hv ?_
  simp only[br_f,br_neg h0,br_neg h1,nbr_pos h2,nbr_pos h3,br_neg h4,br_neg h5,br_neg h6,br_neg h7,br_neg h8,br_neg h9,br_neg h10,br_neg h11,br_neg h12,br_pos h13]
  exact Ev.pure _
 by_cases h14:(18:Int)<a.2.2.2.1.2.1
 ·refine⟨false,Ev.of_eq 1 ?_,fun e=>by cases e⟩
  simp only[Z71Eq]
  refine Ev.bind hv ?_
  simp only[br_f,br_neg h0,br_neg h1,nbr_pos h2,nbr_pos h3,br_neg h4,br_neg h5,br_neg h6,br_neg h7,br_neg h8,br_neg h9,br_neg h10,br_neg h11,br_neg h12,br_neg h13,br_pos h14]
  exact Ev.pure _
 by_cases h15:a.2.2.2.2.2.1<(-17:Int)
 ·refine⟨false,Ev.of_eq 1 ?_,fun e=>by cases e⟩
  simp only[Z71Eq]
  refine Ev.bind hv ?_
  simp only[br_f,br_neg h0,br_neg h1,nbr_pos h2,nbr_pos h3,br_neg h4,br_neg h5,br_neg h6,br_neg h7,br_neg h8,br_neg h9,br_neg h10,br_neg h11,br_neg h12,br_neg h13,br_neg h14,br_pos h15]
  exact Ev.pure _
 by_cases h16:(18:Int)<a.2.2.2.2.2.1
 ·refine⟨false,Ev.of_eq 1 ?_,fun e=>by cases e⟩
  simp only[Z71Eq]
  refine Ev.bind hv ?_
  simp only[br_f,br_neg h0,br_neg h1,nbr_pos h2,nbr_pos h3,br_neg h4,br_neg h5,br_neg h6,br_neg h7,br_neg h8,br_neg h9,br_neg h10,br_neg h11,br_neg h12,br_neg h13,br_neg h14,br_neg h15,br_pos h16]
  exact Ev.pure _
 by_cases h17:a.2.2.2.2.2.1<a.2.2.2.1.2.1
 ·refine⟨false,Ev.of_eq 1 ?_,fun e=>by cases e⟩
  simp only[Z71Eq]
  refine Ev.bind hv ?_
  simp only[br_f,br_neg h0,br_neg h1,nbr_pos h2,nbr_pos h3,br_neg h4,br_neg h5,br_neg h6,br_neg h7,br_neg h8,br_neg h9,br_neg h10,br_neg h11,br_neg h12,br_neg h13,br_neg h14,br_neg h15,br_neg h16,br_pos h17]
  exact Ev.pure _
 by_cases h18:a.2.1.2.2<(1:Int)
 ·refine⟨false,Ev.of_eq 1 ?_,fun e=>by cases e⟩
  simp only[Z71Eq]
  refine Ev.bind hv ?_
  simp only[br_f,br_neg h0,br_neg h1,nbr_pos h2,nbr_pos h3,br_neg h4,br_neg h5,br_neg h6,br_neg h7,br_neg h8,br_neg h9,br_neg h10,br_neg h11,br_neg h12,br_neg h13,br_neg h14,br_neg h15,br_neg h16,br_neg h17,br_pos h18]
  exact Ev.pure _
 by_cases h19:(40:Int)<a.2.1.2.2
 ·refine⟨false,Ev.of_eq 1 ?_,fun e=>by cases e⟩
  simp only[Z71Eq]
  refine Ev.bind hv ?_
  simp only[br_f,br_neg h0,br_neg h1,nbr_pos h2,nbr_pos h3,br_neg h4,br_neg h5,br_neg h6,br_neg h7,br_neg h8,br_neg h9,br_neg h10,br_neg h11,br_neg h12,br_neg h13,br_neg h14,br_neg h15,br_neg h16,br_neg h17,br_neg h18,br_pos h19]
  exact Ev.pure _
 by_cases h20:a.2.2.2.1.2.2<(-17:Int)
 ·refine⟨false,Ev.of_eq 1 ?_,fun e=>by cases e⟩
  simp only[Z71Eq]
  refine Ev.bind hv ?_
  simp only[br_f,br_neg h0,br_neg h1,nbr_pos h2,nbr_pos h3,br_neg h4,br_neg h5,br_neg h6,br_neg h7,br_neg h8,br_neg h9,br_neg h10,br_neg h11,br_neg h12,br_neg h13,br_neg h14,br_neg h15,br_neg h16,br_neg h17,br_neg h18,br_neg h19,br_pos h20]
  exact Ev.pure _
 by_cases h21:(18:Int)<a.2.2.2.1.2.2
 ·refine⟨false,Ev.of_eq 1 ?_,fun e=>by cases e⟩
  simp only[Z71Eq]
  refine Ev.bind hv ?_
  simp only[br_f,br_neg h0,br_neg h1,nbr_pos h2,nbr_pos h3,br_neg h4,br_neg h5,br_neg h6,br_neg h7,br_neg h8,br_neg h9,br_neg h10,br_neg h11,br_neg h12,br_neg h13,br_neg h14,br_neg h15,br_neg h16,br_neg h17,br_neg h18,br_neg h19,br_neg h20,br_pos h21]
  exact Ev.pure _
 by_cases h22:a.2.2.2.2.2.2<(-17:Int)
 ·refine⟨false,Ev.of_eq 1 ?_,fun e=>by cases e⟩
  simp only[Z71Eq]
  refine Ev.bind hv ?_
  simp only[br_f,br_neg h0,br_neg h1,nbr_pos h2,nbr_pos h3,br_neg h4,br_neg h5,br_neg h6,br_neg h7,br_neg h8,br_neg h9,br_neg h10,br_neg h11,br_neg h12,br_neg h13,br_neg h14,br_neg h15,br_neg h16,br_neg h17,br_neg h18,br_neg h19,br_neg h20,br_neg h21,br_pos h22]
  exact Ev.pure _
 by_cases h23:(18:Int)<a.2.2.2.2.2.2
 ·refine⟨false,Ev.of_eq 1 ?_,fun e=>by cases e⟩
  simp only[Z71Eq]
  refine Ev.bind hv ?_
  simp only[br_f,br_neg h0,br_neg h1,nbr_pos h2,nbr_pos h3,br_neg h4,br_neg h5,br_neg h6,br_neg h7,br_neg h8,br_neg h9,br_neg h10,br_neg h11,br_neg h12,br_neg h13,br_neg h14,br_neg h15,br_neg h16,br_neg h17,br_neg h18,br_neg h19,br_neg h20,br_neg h21,br_neg h22,br_pos h23]
  exact Ev.pure _
 by_cases h24:a.2.2.2.2.2.2<a.2.2.2.1.2.2
 ·refine⟨false,Ev.of_eq 1 ?_,fun e=>by cases e⟩
  simp only[Z71Eq]
  refine Ev.bind hv ?_
  simp only[br_f,br_neg h0,br_neg h1,nbr_pos h2,nbr_pos h3,br_neg h4,br_neg h5,br_neg h6,br_neg h7,br_neg h8,br_neg h9,br_neg h10,br_neg h11,br_neg h12,br_neg h13,br_neg h14,br_neg h15,br_neg h16,br_neg h17,br_neg h18,br_neg h19,br_neg h20,br_neg h21,br_neg h22,br_neg h23,br_pos h24]
  exact Ev.pure _
 have s1:=sizeEv (x:=a.1.1) (by omega)
 have s2:=sizeEv (x:=a.1.2) (by omega)
 by_cases g:(if a.1.1<0 then -a.1.1 else a.1.1)+(a.2.2.1+a.2.1.1+a.2.1.2.1+a.2.1.2.2)*4394000≤439400000
 ·refine⟨decide ((if a.1.2<0 then -a.1.2 else a.1.2)+(a.2.2.1+a.2.1.1+a.2.1.2.1+a.2.1.2.2)*4394000≤439400000),Ev.of_eq 1 ?_,fun e=>?_⟩
  ·simp only[Z71Eq]
   refine Ev.bind hv ?_
   simp only[br_f,br_neg h0,br_neg h1,nbr_pos h2,nbr_pos h3,br_neg h4,br_neg h5,br_neg h6,br_neg h7,br_neg h8,br_neg h9,br_neg h10,br_neg h11,br_neg h12,br_neg h13,br_neg h14,br_neg h15,br_neg h16,br_neg h17,br_neg h18,br_neg h19,br_neg h20,br_neg h21,br_neg h22,br_neg h23,br_neg h24]
   refine Ev.bind s1 ?_
   rw[show (fun n=>_)=fun n=>_ from rfl]
   have b1:-1000000000≤(if a.1.1<0 then -a.1.1 else a.1.1)∧(if a.1.1<0 then -a.1.1 else a.1.1)≤1000000000:=by split <;> omega
   have b2:-1000000000≤(if a.1.2<0 then -a.1.2 else a.1.2)∧(if a.1.2<0 then -a.1.2 else a.1.2)≤1000000000:=by split <;> omega
   generalize (if a.1.1<0 then -a.1.1 else a.1.1)=u1 at b1 g ⊢
   generalize (if a.1.2<0 then -a.1.2 else a.1.2)=u2 at b2 s2 ⊢
   simp (disch:=omega) only [w64,br_pos g]
   refine Ev.bind s2 ?_
   simp (disch:=omega) only [w64]
   exact Ev.pure _
  ·simp only[decide_eq_true_eq] at e
   unfold ArmR Bb
   split at g <;> split at e <;> omega
 ·refine⟨false,Ev.of_eq 1 ?_,fun e=>by cases e⟩
  simp only[Z71Eq]
  refine Ev.bind hv ?_
  simp only[br_f,br_neg h0,br_neg h1,nbr_pos h2,nbr_pos h3,br_neg h4,br_neg h5,br_neg h6,br_neg h7,br_neg h8,br_neg h9,br_neg h10,br_neg h11,br_neg h12,br_neg h13,br_neg h14,br_neg h15,br_neg h16,br_neg h17,br_neg h18,br_neg h19,br_neg h20,br_neg h21,br_neg h22,br_neg h23,br_neg h24]
  refine Ev.bind s1 ?_
  have b1:-1000000000≤(if a.1.1<0 then -a.1.1 else a.1.1)∧(if a.1.1<0 then -a.1.1 else a.1.1)≤1000000000:=by split <;> omega
  generalize (if a.1.1<0 then -a.1.1 else a.1.1)=u1 at b1 g ⊢
  simp (disch:=omega) only [w64,br_neg g]
  exact Ev.pure _
end Go.Jm
namespace Go.Jm
open Go Go.Am Go.Proofs Go.Hu Go.Mo
def Near (a:ArmT):Prop:=(8*a.1.1+39546000*(a.2.1.1+a.2.1.2.1+a.2.1.2.2+15)≤3515200000∧-(8*a.1.1)+39546000*(a.2.1.1+a.2.1.2.1+a.2.1.2.2+15)≤3515200000) ∧
  (8*a.1.2+39546000*(a.2.1.1+a.2.1.2.1+a.2.1.2.2+15)≤3515200000∧-(8*a.1.2)+39546000*(a.2.1.1+a.2.1.2.1+a.2.1.2.2+15)≤3515200000)
theorem ArmR.ok {a:ArmT} (h:ArmR a) (n:Near a):ArmOk a:=by
 obtain⟨h1,h2,h3,h4,h5⟩:=h
 exact⟨h1,h2,h3,h4,n,h5⟩
theorem max_wrap {x:Int} (h:-439400000≤x∧x≤439400000):(if decide (x<IntKind.i64.wrap (0-x))=true then IntKind.i64.wrap (0-x) else x)=(if x<0 then -x else x):=by
 have e:IntKind.i64.wrap (0-x) = -x:=by rw[w64 (by omega) (by omega)];omega
 rw[e]
 by_cases h1:x<0
 ·rw[if_pos h1,if_pos (by rw[decide_eq_true_eq];omega)]
 ·rw[if_neg h1,if_neg (by rw[decide_eq_true_eq];omega)]
theorem near_pick {R:Type} {a:ArmT} (ha:ArmR a) {F:R} {N:Nat→Option R} {P:R→Prop} (hF:P F) (hN:Near a→∃ y,Ev N y∧P y) :
  ∃ y,Ev (fun n=>br (decide ((3515200000:Int)<(IntKind.i64.wrap ((IntKind.i64.wrap ((8:Int)*(if decide (a.1.1<(IntKind.i64.wrap (0-a.1.1)))=true then (IntKind.i64.wrap (0-a.1.1)) else a.1.1)))+(IntKind.i64.wrap ((39546000:Int)*(IntKind.i64.wrap ((IntKind.i64.wrap ((IntKind.i64.wrap (a.2.1.1+a.2.1.2.1))+a.2.1.2.2))+(15:Int))))))))) (some F)
   (br (decide ((3515200000:Int)<(IntKind.i64.wrap ((IntKind.i64.wrap ((8:Int)*(if decide (a.1.2<(IntKind.i64.wrap (0-a.1.2)))=true then (IntKind.i64.wrap (0-a.1.2)) else a.1.2)))+(IntKind.i64.wrap ((39546000:Int)*(IntKind.i64.wrap ((IntKind.i64.wrap ((IntKind.i64.wrap (a.2.1.1+a.2.1.2.1))+a.2.1.2.2))+(15:Int))))))))) (some F) (N n))) y∧P y:=by
 obtain⟨h1,h2,h3,h4,h5⟩:=ha
 unfold Bb at h1
 have e1:=max_wrap (x:=a.1.1) (by omega)
 have e2:=max_wrap (x:=a.1.2) (by omega)
 rw[e1,e2]
 have b1:0≤(if a.1.1<0 then -a.1.1 else a.1.1)∧(if a.1.1<0 then -a.1.1 else a.1.1)≤439400000:=by split <;> omega
 have b2:0≤(if a.1.2<0 then -a.1.2 else a.1.2)∧(if a.1.2<0 then -a.1.2 else a.1.2)≤439400000:=by split <;> omega
 have u1:∀ x:Int,0≤x∧x≤439400000→IntKind.i64.wrap (IntKind.i64.wrap (8*x)+IntKind.i64.wrap (39546000*IntKind.i64.wrap (IntKind.i64.wrap (IntKind.i64.wrap (a.2.1.1+a.2.1.2.1)+a.2.1.2.2)+15)))=8*x+39546000*(a.2.1.1+a.2.1.2.1+a.2.1.2.2+15):=fun x hx=>by
  rw[w64 (n:=a.2.1.1+a.2.1.2.1) (by omega) (by omega),w64 (n:=a.2.1.1+a.2.1.2.1+a.2.1.2.2) (by omega) (by omega),w64 (n:=a.2.1.1+a.2.1.2.1+a.2.1.2.2+15) (by omega) (by omega),w64 (n:=8*x) (by omega) (by omega),w64 (n:=39546000*(a.2.1.1+a.2.1.2.1+a.2.1.2.2+15)) (by omega) (by omega),w64 (by omega) (by omega)]
 rw[u1 _ b1,u1 _ b2]
 by_cases g1:(3515200000:Int)<8*(if a.1.1<0 then -a.1.1 else a.1.1)+39546000*(a.2.1.1+a.2.1.2.1+a.2.1.2.2+15)
 ·simp only[br_pos g1];exact⟨_,Ev.pure _,hF⟩
 by_cases g2:(3515200000:Int)<8*(if a.1.2<0 then -a.1.2 else a.1.2)+39546000*(a.2.1.1+a.2.1.2.1+a.2.1.2.2+15)
 ·simp only[br_neg g1,br_pos g2];exact⟨_,Ev.pure _,hF⟩
 simp only[br_neg g1,br_neg g2]
 refine hN ?_
 unfold Near
 split at g1 <;> split at g2 <;> omega
end Go.Jm
namespace Go.Jm
open Go Go.Am Go.Proofs Go.Hu Go.Mo
def PL (c:CellT) (q:Prop) (y:((Unit×Unit)×((CellT×Unit)×Unit)) ⊕ ((Bool×Unit)×Unit)):Prop:=(y=.inl (((),()),((c,()),()))∧q)∨y=.inr ((false,()),())
theorem cellL2 (c:CellT):∃ y,Ev (fun n=>Z37L2 n (((),((0:Int),())),((c,()),()))) y∧PL c (ArmOk c.1.1∧ArmOk c.1.2) y:=by
 have e2:Ev (fun n=>Z37L2 n (((),((2:Int),())),((c,()),()))) (.inl (((),()),((c,()),()))):=by
  refine Ev.of_eq 1 ?_
  simp (disch:=omega) only [Z37L2Eq,br_neg]
  exact Ev.pure _
 have e1:∃ y,Ev (fun n=>Z37L2 n (((),((1:Int),())),((c,()),()))) y∧PL c (ArmOk c.1.2) y:=by
  obtain⟨v,hv,hvt⟩:=armEv c.1.2
  cases v with
  | false =>
   refine⟨_,Ev.of_eq 1 ?_,.inr rfl⟩
   simp (disch:=omega) only [Z37L2Eq,br_pos,br_T]
   exact Ev.bind hv (Ev.pure _)
  | true =>
   cases hq:inLim c.1.2 c.2.1.2 with
   | false =>
    have hl:=rlimEv c.1.2 c.2.1.2
    rw[hq] at hl
    refine⟨_,Ev.of_eq 1 ?_,.inr rfl⟩
    simp (disch:=omega) only [Z37L2Eq,br_pos,br_T]
    refine Ev.bind hv ?_
    simp only[Bool.not_true,br_f]
    exact Ev.bind hl (Ev.pure _)
   | true =>
    have hl:=rlimEv c.1.2 c.2.1.2
    rw[hq] at hl
    obtain⟨y,e,hy⟩:=near_pick (hvt rfl) (F:=(.inr ((false,()),()):((Unit×Unit)×((CellT×Unit)×Unit)) ⊕ ((Bool×Unit)×Unit))) (N:=fun n=>Z37L2 n (((),((2:Int),())),((c,()),()))) (P:=PL c (ArmOk c.1.2)) (.inr rfl) fun hn=>⟨_,e2,.inl ⟨rfl,(hvt rfl).ok hn⟩⟩
    refine⟨y,Ev.of_eq 1 ?_,hy⟩
    simp (disch:=omega) only [Z37L2Eq,br_pos,br_T]
    refine Ev.bind hv ?_
    simp only[Bool.not_true,br_f]
    refine Ev.bind hl ?_
    have w2:IntKind.i64.wrap ((1:Int)+1)=2:=by rw[w64 (by omega) (by omega)];rfl
    simp only[Bool.not_true,br_f,w2]
    exact e
 obtain⟨y1,e1,hy1⟩:=e1
 obtain⟨v,hv,hvt⟩:=armEv c.1.1
 cases v with
 | false =>
  refine⟨_,Ev.of_eq 1 ?_,.inr rfl⟩
  simp (disch:=omega) only [Z37L2Eq,br_pos,br_neg,br_T]
  exact Ev.bind hv (Ev.pure _)
 | true =>
  cases hq:inLim c.1.1 c.2.1.1 with
  | false =>
   have hl:=rlimEv c.1.1 c.2.1.1
   rw[hq] at hl
   refine⟨_,Ev.of_eq 1 ?_,.inr rfl⟩
   simp (disch:=omega) only [Z37L2Eq,br_pos,br_neg,br_T]
   refine Ev.bind hv ?_
   simp only[Bool.not_true,br_f]
   exact Ev.bind hl (Ev.pure _)
  | true =>
   have hl:=rlimEv c.1.1 c.2.1.1
   rw[hq] at hl
   obtain⟨y,e,hy⟩:=near_pick (hvt rfl) (F:=(.inr ((false,()),()):((Unit×Unit)×((CellT×Unit)×Unit)) ⊕ ((Bool×Unit)×Unit))) (N:=fun n=>Z37L2 n (((),((1:Int),())),((c,()),()))) (P:=PL c (ArmOk c.1.1∧ArmOk c.1.2)) (.inr rfl) fun hn=>⟨y1,e1,by
    rcases hy1 with ⟨h1,h2⟩ | h1
    ·exact .inl ⟨h1,(hvt rfl).ok hn,h2⟩
    ·exact .inr h1⟩
   refine⟨y,Ev.of_eq 1 ?_,hy⟩
   simp (disch:=omega) only [Z37L2Eq,br_pos,br_neg,br_T]
   refine Ev.bind hv ?_
   simp only[Bool.not_true,br_f]
   refine Ev.bind hl ?_
   have w1:IntKind.i64.wrap ((0:Int)+1)=1:=by rw[w64 (by omega) (by omega)];rfl
   simp only[Bool.not_true,br_f,w1]
   exact e
def CLen (c:CellT):Prop:=c.2.2.1.length≤16∧c.2.2.2.2.2.2.2.2.2.1.length≤16∧c.2.2.2.1.length≤16∧c.2.2.2.2.1.length≤8∧c.2.2.2.2.2.1.length≤16
theorem cellEv (c:CellT) (hl:CLen c):∃ b,Ev (fun n=>Z37 n c) b∧(b=true→COk c):=by
 obtain⟨l1,l2,l3,l4,l5⟩:=hl
 have k1:¬ (16:Int)<((c.2.2.2.1.length:Nat):Int):=by omega
 have k2:¬ (8:Int)<((c.2.2.2.2.1.length:Nat):Int):=by omega
 have k3:¬ (16:Int)<((c.2.2.2.2.2.1.length:Nat):Int):=by omega
 obtain⟨y,e,hy⟩:=cellL2 c
 rcases hy with ⟨rfl,ha,hb⟩ | rfl
 rotate_left
 ·refine⟨false,Ev.of_eq 1 ?_,fun e=>by cases e⟩
  simp only[Z37Eq]
  exact Ev.bind e (Ev.pure _)
 obtain⟨u1,h1⟩:=boundedTot c.2.2.2.2.2.2.2.1
 obtain⟨u2,h2⟩:=boundedTot c.2.2.2.2.2.2.2.2.1
 obtain⟨t,ht⟩:∃ t:Bool,Ev (fun n=>(Z72 n c.2.2.2.2.2.2.2.1).bind fun x=>br x ((Z72 n c.2.2.2.2.2.2.2.2.1).bind fun x=>br x (br (decide (c.2.2.2.2.2.2.2.2.1.1≤c.2.2.2.2.2.2.2.1.1)) (br (decide (c.2.2.2.2.2.2.2.2.1.2.1≤c.2.2.2.2.2.2.2.1.2.1)) (some ((((),((decide (c.2.2.2.2.2.2.2.2.1.2.2≤c.2.2.2.2.2.2.2.1.2.2)),())),((c,()),())):(Unit×(Bool×Unit))×((CellT×Unit)×Unit))) (some (((),(false,())),((c,()),())))) (some (((),(false,())),((c,()),())))) (some (((),(false,())),((c,()),())))) (some (((),(false,())),((c,()),())))) (((),(t,())),((c,()),())):=by
  cases u1 with
  | false=>exact⟨_,Ev.bind h1 (Ev.pure _)⟩
  | true =>
   cases u2 with
   | false=>exact⟨_,Ev.bind h1 (Ev.bind h2 (Ev.pure _))⟩
   | true =>
    by_cases g1:c.2.2.2.2.2.2.2.2.1.1≤c.2.2.2.2.2.2.2.1.1
    ·by_cases g2:c.2.2.2.2.2.2.2.2.1.2.1≤c.2.2.2.2.2.2.2.1.2.1
     ·refine⟨decide (c.2.2.2.2.2.2.2.2.1.2.2≤c.2.2.2.2.2.2.2.1.2.2),Ev.bind h1 (Ev.bind h2 ?_)⟩
      simp only[br_t,br_pos g1,br_pos g2];exact Ev.pure _
     ·refine⟨false,Ev.bind h1 (Ev.bind h2 ?_)⟩
      simp only[br_t,br_pos g1,br_neg g2];exact Ev.pure _
    ·refine⟨false,Ev.bind h1 (Ev.bind h2 ?_)⟩
     simp only[br_t,br_neg g1];exact Ev.pure _
 obtain⟨b1,f1,p1⟩:=polysEv c.2.2.1
 obtain⟨b2,f2,p2⟩:=polysEv c.2.2.2.2.2.2.2.2.2.1
 obtain⟨b3,f3,p3⟩:=placesEv c.2.2.2.1 l3
 obtain⟨b4,f4,p4⟩:=partsOkEv c.2.2.2.2.1 ((c.2.2.2.1.length:Nat):Int) l4
 obtain⟨b5,f5⟩:=unlikeTot c.2.2.2.2.2.1 ((c.2.2.2.1.length:Nat):Int) (by omega)
 have fa:=areasEv c (by omega)
 have start:∀ {res:Bool} ,Ev (fun n=>(Z73 n c.2.2.1).bind fun x=>br x ((Z74 n c).bind fun x=>(Z73 n x).bind fun x=>br x ((Z75 n c.2.2.2.1).bind fun x=>br x ((Z76 n c.2.2.2.2.1 ((c.2.2.2.1.length:Nat):Int)).bind fun x=>br x ((Z77 n c.2.2.2.2.2.1 ((c.2.2.2.1.length:Nat):Int)).bind fun x=>br x (br (decide ((0:Int)≤c.2.2.2.2.2.2.1)) (br (decide (c.2.2.2.2.2.2.1≤(100:Int))) (br t (br (decide ((0:Int)≤c.2.2.2.2.2.2.2.2.2.2.1)) (br (decide (c.2.2.2.2.2.2.2.2.2.2.1≤(20:Int))) (br (decide ((1:Int)≤c.2.2.2.2.2.2.2.2.2.2.2)) (some (decide (c.2.2.2.2.2.2.2.2.2.2.2≤(8:Int)))) (some false)) (some false)) (some false)) (some false)) (some false)) (some false)) (some false)) (some false)) (some false)) (some false)) (some false)) res→Ev (fun n=>Z37 n c) res:=fun hres=>by
  refine Ev.of_eq 1 ?_
  simp only[Z37Eq]
  refine Ev.bind e ?_
  simp only[br_neg k1,br_neg k2,br_neg k3]
  refine Ev.bind ht ?_
  exact hres
 cases b1 with
 | false=>exact⟨false,start (Ev.bind f1 (Ev.pure _)),fun e=>by cases e⟩
 | true =>
 cases b2 with
 | false=>exact⟨false,start (Ev.bind f1 (Ev.bind fa (Ev.bind f2 (Ev.pure _)))),fun e=>by cases e⟩
 | true =>
 cases b3 with
 | false=>exact⟨false,start (Ev.bind f1 (Ev.bind fa (Ev.bind f2 (Ev.bind f3 (Ev.pure _))))),fun e=>by cases e⟩
 | true =>
 cases b4 with
 | false=>exact⟨false,start (Ev.bind f1 (Ev.bind fa (Ev.bind f2 (Ev.bind f3 (Ev.bind f4 (Ev.pure _)))))),fun e=>by cases e⟩
 | true =>
 cases b5 with
 | false=>exact⟨false,start (Ev.bind f1 (Ev.bind fa (Ev.bind f2 (Ev.bind f3 (Ev.bind f4 (Ev.bind f5 (Ev.pure _))))))),fun e=>by cases e⟩
 | true =>
  have hok:COk c:=⟨ha,hb,l1,fun p hp=>⟨((p1 rfl).2 p hp).1.2,((p1 rfl).2 p hp).2⟩,l4,p4 rfl,l3,p3 rfl⟩
  have fin:∀ (u1 u2 u3 u4 u5 u6 u7:Bool),∃ b,br u1 (br u2 (br u3 (br u4 (br u5 (br u6 (some u7) (some false)) (some false)) (some false)) (some false)) (some false)) (some false)=some b:=by
   intro u1 u2 u3 u4 u5 u6 u7
   cases u1 <;> cases u2 <;> cases u3 <;> cases u4 <;> cases u5 <;> cases u6 <;> exact⟨_,rfl⟩
  obtain⟨b,hbb⟩:=fin (decide ((0:Int)≤c.2.2.2.2.2.2.1)) (decide (c.2.2.2.2.2.2.1≤(100:Int))) t (decide ((0:Int)≤c.2.2.2.2.2.2.2.2.2.2.1)) (decide (c.2.2.2.2.2.2.2.2.2.2.1≤(20:Int))) (decide ((1:Int)≤c.2.2.2.2.2.2.2.2.2.2.2)) (decide (c.2.2.2.2.2.2.2.2.2.2.2≤(8:Int)))
  exact⟨b,start (Ev.bind f1 (Ev.bind fa (Ev.bind f2 (Ev.bind f3 (Ev.bind f4 (Ev.bind f5 (Ev.const hbb))))))),fun _=>hok⟩
end Go.Jm
namespace Go.Jm
open Go Go.Am Go.Proofs Go.Hu Go.Mo
abbrev CW:=(CellT×Unit)×((Mo.StateT×Unit)×Unit)
theorem placedL15 (c:CellT) (w:Mo.StateT) (hl:w.2.2.length≤8) (i:Nat) (hi:i<w.2.2.length):∀ (k j:Nat),j+k=i →
  ∃ y,Ev (fun n=>Z53L15 n (((),((),(((i:Nat):Int),(((j:Nat):Int),())))),((c,()),((w,()),())))) y∧(y=.inl (((),((),(((i:Nat):Int),()))),((c,()),((w,()),())))∨y=.inr ((false,()),())):=by
 intro k
 induction k with
 | zero =>
  intro j h
  refine⟨_,Ev.of_eq 1 ?_,.inl rfl⟩
  simp (disch:=omega) only [Z53L15Eq,br_neg]
  exact Ev.pure _
 | succ k ih =>
  intro j h
  obtain⟨y,e,hy⟩:=ih (j+1) (by omega)
  have g1:w.2.2[j]?=some w.2.2[j]:=List.getElem?_eq_getElem (by omega)
  have g2:w.2.2[i]?=some w.2.2[i]:=List.getElem?_eq_getElem hi
  by_cases h0:(0:Int)≤w.2.2[i]
  ·by_cases hb:w.2.2[i]=w.2.2[j]
   ·refine⟨_,Ev.of_eq 1 ?_,.inr rfl⟩
    simp (disch:=omega) only [Z53L15Eq,br_pos,Int.toNat_natCast,g1,g2,Option.bind_some,br_pos h0,br_pos hb]
    exact Ev.pure _
   ·refine⟨y,Ev.of_eq 1 ?_,hy⟩
    simp (disch:=omega) only [Z53L15Eq,br_pos,Int.toNat_natCast,g1,g2,Option.bind_some,br_pos h0,br_neg hb,wr1]
    exact e
  ·refine⟨y,Ev.of_eq 1 ?_,hy⟩
   simp (disch:=omega) only [Z53L15Eq,br_pos,Int.toNat_natCast,g1,g2,Option.bind_some,br_neg h0,wr1]
   exact e
theorem placedL10 (c:CellT) (w:Mo.StateT) (hl:w.2.2.length≤8):∀ (r:List Int) (i:Nat),w.2.2.drop i=r→i≤w.2.2.length →
  ∃ y,Ev (fun n=>Z53L10 n (((),((),(((i:Nat):Int),()))),((c,()),((w,()),())))) y∧((y=.inl ((),())∧∀ k∈r,-1≤k∧k<(c.2.2.2.1.length:Int))∨y=.inr ((false,()),())):=by
 intro r
 induction r with
 | nil =>
  intro i h hi
  have:=gdrop_nil h
  refine⟨_,Ev.of_eq 1 ?_,.inl ⟨rfl,fun k hk=>by cases hk⟩⟩
  simp (disch:=omega) only [Z53L10Eq,br_neg]
  exact Ev.pure _
 | cons x r ih =>
  intro i h hi
  obtain⟨g1,g2,g3⟩:=gdrop h
  obtain⟨y,e,hy⟩:=ih (i+1) g2 (by omega)
  obtain⟨z,ez,hz⟩:=placedL15 c w hl i g3 i 0 (by omega)
  by_cases h1:x < -1
  ·refine⟨_,Ev.of_eq 1 ?_,.inr rfl⟩
   simp (disch:=omega) only [Z53L10Eq,br_pos,Int.toNat_natCast,g1,Option.bind_some,br_pos h1]
   exact Ev.pure _
  by_cases h2:((c.2.2.2.1.length:Nat):Int)≤x
  ·refine⟨_,Ev.of_eq 1 ?_,.inr rfl⟩
   simp (disch:=omega) only [Z53L10Eq,br_pos,Int.toNat_natCast,g1,Option.bind_some,br_neg h1,br_pos h2]
   exact Ev.pure _
  rcases hz with rfl | rfl
  ·refine⟨y,Ev.of_eq 1 ?_,?_⟩
   ·simp (disch:=omega) only [Z53L10Eq,br_pos,Int.toNat_natCast,g1,Option.bind_some,br_neg h1,br_neg h2]
    refine Ev.bind ez ?_
    simp (disch:=omega) only [wr1]
    exact e
   ·rcases hy with ⟨h3,h4⟩ | h3
    ·exact .inl ⟨h3,fun k hk=>by
      rcases List.mem_cons.1 hk with rfl | hk
      ·omega
      ·exact h4 k hk⟩
    ·exact .inr h3
  ·refine⟨_,Ev.of_eq 1 ?_,.inr rfl⟩
   simp (disch:=omega) only [Z53L10Eq,br_pos,Int.toNat_natCast,g1,Option.bind_some,br_neg h1,br_neg h2]
   exact Ev.bind ez (Ev.pure _)
def HB (c:CellT) (h:Int):Prop:=-1≤h∧h<(c.2.2.2.2.1.length:Int)
theorem held_pick {R:Type} {c:CellT} {w:Mo.StateT} (hwl:w.2.2.length=c.2.2.2.2.1.length) {h:Int} {F:R} {N:Nat→Option R} {P:R→Prop} (hF:P F) (hN:HB c h→∃ y,Ev N y∧P y) :
  ∃ y,Ev (fun n=>br (decide (h<(-1:Int))) (some F) (br (decide (((c.2.2.2.2.1.length:Nat):Int)≤h)) (some F) (br (decide ((0:Int)≤h)) (br (decide (0≤h)) ((w.2.2[h.toNat]?).bind fun e=>br (!decide (e=(-1:Int))) (some F) (N n)) none) (N n)))) y∧P y:=by
 by_cases h1:h < -1
 ·simp only[br_pos h1];exact⟨_,Ev.pure _,hF⟩
 by_cases h2:((c.2.2.2.2.1.length:Nat):Int)≤h
 ·simp only[br_neg h1,br_pos h2];exact⟨_,Ev.pure _,hF⟩
 by_cases h3:0≤h
 ·have g:w.2.2[h.toNat]?=some w.2.2[h.toNat]:=List.getElem?_eq_getElem (by omega)
  by_cases h4:w.2.2[h.toNat] = -1
  ·simp only[br_neg h1,br_neg h2,br_pos h3,g,Option.bind_some,nbr_pos h4]
   exact hN ⟨by omega,by omega⟩
  ·simp only[br_neg h1,br_neg h2,br_pos h3,g,Option.bind_some,nbr_neg h4]
   exact⟨_,Ev.pure _,hF⟩
 ·simp only[br_neg h1,br_neg h2,br_neg h3]
  exact hN ⟨by omega,by omega⟩
theorem placedL4 (c:CellT) (w:Mo.StateT) (hwl:w.2.2.length=c.2.2.2.2.1.length):∃ y,Ev (fun n=>Z53L4 n (((),((),((0:Int),()))),((c,()),((w,()),())))) y∧((y=.inl (((),((),())),((c,()),((w,()),())))∧HB c w.2.1.1∧HB c w.2.1.2)∨y=.inr ((false,()),())):=by
 have e2:Ev (fun n=>Z53L4 n (((),((),((2:Int),()))),((c,()),((w,()),())))) (.inl (((),((),())),((c,()),((w,()),())))):=by
  refine Ev.of_eq 1 ?_
  simp (disch:=omega) only [Z53L4Eq,br_neg]
  exact Ev.pure _
 have w1:IntKind.i64.wrap ((0:Int)+1)=1:=by rw[w64 (by omega) (by omega)];rfl
 have w2:IntKind.i64.wrap ((1:Int)+1)=2:=by rw[w64 (by omega) (by omega)];rfl
 obtain⟨y1,e1,hy1⟩:=held_pick (w:=w) hwl (h:=w.2.1.2) (F:=(.inr ((false,()),()):((Unit×(Unit×Unit))×CW) ⊕ ((Bool×Unit)×Unit))) (N:=fun n=>Z53L4 n (((),((),((2:Int),()))),((c,()),((w,()),())))) (P:=fun y=>(y=.inl (((),((),())),((c,()),((w,()),())))∧HB c w.2.1.2)∨y=.inr ((false,()),())) (.inr rfl) fun h=>⟨_,e2,.inl ⟨rfl,h⟩⟩
 have e1':Ev (fun n=>Z53L4 n (((),((),((1:Int),()))),((c,()),((w,()),())))) y1:=by
  refine Ev.of_eq 1 ?_
  have t1:(1:Int)<2:=by omega
  have t2:(1:Int)=1:=rfl
  simp only[Z53L4Eq,br_pos t1,br_pos t2,w2]
  exact e1
 obtain⟨y0,e0,hy0⟩:=held_pick (w:=w) hwl (h:=w.2.1.1) (F:=(.inr ((false,()),()):((Unit×(Unit×Unit))×CW) ⊕ ((Bool×Unit)×Unit))) (N:=fun n=>Z53L4 n (((),((),((1:Int),()))),((c,()),((w,()),())))) (P:=fun y=>(y=.inl (((),((),())),((c,()),((w,()),())))∧HB c w.2.1.1∧HB c w.2.1.2)∨y=.inr ((false,()),())) (.inr rfl) fun h=>⟨y1,e1',by
  rcases hy1 with ⟨k1,k2⟩ | k1
  ·exact .inl ⟨k1,h,k2⟩
  ·exact .inr k1⟩
 refine⟨y0,Ev.of_eq 1 ?_,hy0⟩
 have t1:(0:Int)<2:=by omega
 have t2:¬ (0:Int)=1:=by omega
 have t3:(0:Int)=0:=rfl
 simp only[Z53L4Eq,br_pos t1,br_neg t2,br_pos t3,w1]
 exact e0
theorem placedEv (c:CellT) (w:Mo.StateT) (hl:w.2.2.length≤8):∃ b,Ev (fun n=>Z53 n c w) b∧(b=true→w.2.2.length=c.2.2.2.2.1.length∧(HB c w.2.1.1∧HB c w.2.1.2)∧∀ k∈w.2.2,-1≤k∧k<(c.2.2.2.1.length:Int)):=by
 by_cases hwl:w.2.2.length=c.2.2.2.2.1.length
 rotate_left
 ·have h1:¬ ((w.2.2.length:Nat):Int)=((c.2.2.2.2.1.length:Nat):Int):=by omega
  refine⟨false,Ev.of_eq 1 ?_,fun e=>by cases e⟩
  simp only[Z53Eq,nbr_neg h1]
  exact Ev.pure _
 have h1:((w.2.2.length:Nat):Int)=((c.2.2.2.2.1.length:Nat):Int):=by omega
 obtain⟨y,e,hy⟩:=placedL4 c w hwl
 obtain⟨z,ez,hz⟩:=placedL10 c w hl w.2.2 0 rfl (Nat.zero_le _)
 have tail:∃ b,Ev (fun n=>(Z53L4 n (((),((),((0:Int),()))),((c,()),((w,()),())))).bind fun l=>(match l with | .inl y=>(Z53L10 n (((),((),((0:Int),()))),y.2)).bind fun l=>(match l with | .inl y=>some true | .inr y=>some y.1.1) | .inr y=>some y.1.1)) b∧(b=true→w.2.2.length=c.2.2.2.2.1.length∧(HB c w.2.1.1∧HB c w.2.1.2)∧∀ k∈w.2.2,-1≤k∧k<(c.2.2.2.1.length:Int)):=by
  rcases hy with ⟨rfl,h2⟩ | rfl
  ·rcases hz with ⟨rfl,h3⟩ | rfl
   ·exact⟨true,Ev.bind e (Ev.bind ez (Ev.pure _)),fun _=>⟨hwl,h2,h3⟩⟩
   ·exact⟨false,Ev.bind e (Ev.bind ez (Ev.pure _)),fun e=>by cases e⟩
  ·exact⟨false,Ev.bind e (Ev.pure _),fun e=>by cases e⟩
 by_cases h2:0≤w.2.1.1
 ·by_cases h3:w.2.1.1=w.2.1.2
  ·refine⟨false,Ev.of_eq 1 ?_,fun e=>by cases e⟩
   simp only[Z53Eq,nbr_pos h1,br_pos h2,br_pos h3]
   exact Ev.pure _
  ·obtain⟨b,hb,hbt⟩:=tail
   refine⟨b,Ev.of_eq 1 ?_,hbt⟩
   simp only[Z53Eq,nbr_pos h1,br_pos h2,br_neg h3]
   exact hb
 ·obtain⟨b,hb,hbt⟩:=tail
  refine⟨b,Ev.of_eq 1 ?_,hbt⟩
  simp only[Z53Eq,nbr_pos h1,br_neg h2]
  exact hb
end Go.Jm
namespace Go.Jm
open Go Go.Am Go.Proofs Go.Hu Go.Mo
section
variable {c:CellT} {w:Mo.StateT} (hc:COk c) (hw:WOk c w)
include hc hw
theorem rrestL:∀ (r:List Int) (i:Nat) (out:List BodyT),w.2.2.drop i=r→i≤w.2.2.length→out.length≤1000+i →
  Ev (fun n=>Z54L18 n (((),((),(out,(((i:Nat):Int),())))),((c,()),((w,()),())))) (((),(out ++ resting c i r,())),((c,()),())):=by
 have hwl:=hw.wlen
 have hpl:=hc.partl
 intro r
 induction r with
 | nil =>
  intro i out h hi ho'
  have:=gdrop_nil h
  have hlen:¬ (((i:Nat):Int)<((c.2.2.2.2.1.length:Nat):Int)):=by omega
  refine Ev.of_eq 1 ?_
  simp only[Z54L18Eq,br_neg hlen]
  exact (Ev.pure _).congr (by simp[resting])
 | cons k r ih =>
  intro i out h hi ho'
  obtain⟨g1,g2,g3⟩:=gdrop h
  obtain⟨k1,k2⟩:=hw.whr k (List.mem_of_getElem? g1)
  by_cases hk:0≤k
  ·have gp:c.2.2.2.2.1[i]?=some c.2.2.2.2.1[i]:=List.getElem?_eq_getElem (by omega)
   have gq:c.2.2.2.1[k.toNat]?=some c.2.2.2.1[k.toNat]:=List.getElem?_eq_getElem (by omega)
   obtain⟨p1,p2⟩:=hc.part _ (List.mem_of_getElem? gp)
   obtain⟨q1,q2⟩:=hc.place _ (List.mem_of_getElem? gq)
   have e1:=get_part gp
   have e2:plcOf c k=c.2.2.2.1[k.toNat]:=by unfold plcOf;rw[gq];rfl
   have e:=ih (i+1) (out ++ [((3:Int),(((i:Nat):Int),((0:Int),outlAt c.2.2.2.2.1[i] (c.2.2.2.1[k.toNat]).2.1 (c.2.2.2.1[k.toNat]).2.2)))]) g2 (by omega) (by simp;omega)
   have hcap:(out.length + [((3:Int),(((i:Nat):Int),((0:Int),outlAt c.2.2.2.2.1[i] (c.2.2.2.1[k.toNat]).2.1 (c.2.2.2.1[k.toNat]).2.2)))].length)*48≤140737488355328:=by simp only[List.length_cons,List.length_nil];omega
   refine Ev.of_eq 1 ?_
   simp (disch:=omega) only [Z54L18Eq,br_pos,Int.toNat_natCast,g1,gp,gq,Option.bind_some]
   refine Ev.bind (Ev.bind (laidEv q1 q2 (by omega) p2) (Ev.pure _)) ?_
   simp (disch:=omega) only [wr1]
   refine e.congr ?_
   simp[resting,hk,e1,e2]
  ·have e:=ih (i+1) out g2 (by omega) (by omega)
   refine Ev.of_eq 1 ?_
   simp (disch:=omega) only [Z54L18Eq,br_pos,br_neg,Int.toNat_natCast,g1,Option.bind_some,wr1]
   refine e.congr ?_
   simp[resting,hk]
theorem rfixL:∀ (r:List (List Pt)) (i:Nat) (out:List BodyT),c.2.2.1.drop i=r→i≤c.2.2.1.length→out.length≤10000+i →
  Ev (fun n=>Z54L24 n (((),(out,(((i:Nat):Int),()))),((c,()),()))) ((out ++ fixed i r,()),()):=by
 have hfl:=hc.fixl
 intro r
 induction r with
 | nil =>
  intro i out h hi ho'
  have:=gdrop_nil h
  refine Ev.of_eq 1 ?_
  simp (disch:=omega) only [Z54L24Eq,br_neg]
  exact (Ev.pure _).congr (by simp[fixed])
 | cons k r ih =>
  intro i out h hi ho'
  obtain⟨g1,g2,g3⟩:=gdrop h
  have hcap:(out.length + [((4:Int),(((i:Nat):Int),((0:Int),k)))].length)*48≤140737488355328:=by simp only[List.length_cons,List.length_nil];omega
  refine Ev.of_eq 1 ?_
  simp (disch:=omega) only [Z54L24Eq,br_pos,Int.toNat_natCast,g1,Option.bind_some,br_pos hcap,wr1]
  refine (ih (i+1) _ g2 (by omega) (by simp;omega)).congr ?_
  simp[fixed]
end
set_option maxRecDepth 20000 in
set_option maxHeartbeats 2000000 in
theorem rbodiesEv {c:CellT} {w:Mo.StateT} (hc:COk c) (hw:WOk c w):Ev (fun n=>Z54 n c w) (bodies c w):=by
 have q0:=hw.q0 hc
 have q1:=hw.q1 hc
 have tail:∀ (out:List BodyT),out.length≤100→out=arms6 c w ++ (held c c.1.1 w.1.1 0 w.2.1.1 ++ held c c.1.2 w.1.2 1 w.2.1.2) →
   Ev (fun n=>(Z54L18 n (((),((),(out,((0:Int),())))),((c,()),((w,()),())))).bind fun l598=>(Z54L24 n (((),(l598.1.2.1,((0:Int),()))),l598.2)).bind fun l600=>some l600.1.1) (bodies c w):=fun out hl e=>by
  have hwl:=hw.wlen
  have hpl:=hc.partl
  have hr:=resting_len c w.2.2 0
  refine Ev.bind (rrestL hc hw w.2.2 0 out rfl (Nat.zero_le _) (by omega)) ?_
  refine Ev.bind (rfixL hc hw c.2.2.1 0 (out ++ resting c 0 w.2.2) rfl (Nat.zero_le _) (by rw[List.length_append];omega)) ?_
  exact (Ev.pure _).congr (by rw[e];simp[bodies])
 refine Ev.of_eq 1 ?_
 simp only[Z54Eq]
 refine Ev.bind (rlinksEv hc.arm0 q0) ?_
 simp (disch:=omega) only [List.length_append,List.length_cons,List.length_nil,w64,br_T,br_pos]
 refine Ev.bind (rlinksEv hc.arm1 q1) ?_
 by_cases h0:0≤w.2.1.1 <;> by_cases h1:0≤w.2.1.2
 ·obtain⟨p,g1,g2,g3,g4⟩:=heldOk hc hw 0 c.1.1 w.1.1 hc.arm0 q0 (h:=w.2.1.1) (by have:=hw.held0;omega)
  obtain⟨p',k1,k2,k3,k4⟩:=heldOk hc hw 1 c.1.2 w.1.2 hc.arm1 q1 (h:=w.2.1.2) (by have:=hw.held1;omega)
  simp (disch:=omega) only [br_pos,br_neg,g1,k1,Option.bind_some]
  refine Ev.bind (Ev.bind (rjptsEv hc.arm0 q0) (Ev.bind (rdirsEv c.1.1 q0) (Ev.bind g4 (Ev.bind (rjptsEv hc.arm1 q1) (Ev.bind (rdirsEv c.1.2 q1) (Ev.bind k4 (Ev.pure _))))))) ?_
  exact tail _ (by simp) (by rw[held_pos (by omega),held_pos (by omega),g2,k2];rfl)
 ·obtain⟨p,g1,g2,g3,g4⟩:=heldOk hc hw 0 c.1.1 w.1.1 hc.arm0 q0 (h:=w.2.1.1) (by have:=hw.held0;omega)
  simp (disch:=omega) only [br_pos,br_neg,g1,Option.bind_some]
  refine Ev.bind (Ev.bind (rjptsEv hc.arm0 q0) (Ev.bind (rdirsEv c.1.1 q0) (Ev.bind g4 (Ev.pure _)))) ?_
  exact tail _ (by simp) (by rw[held_pos (by omega),held_neg (by omega),g2];rfl)
 ·obtain⟨p',k1,k2,k3,k4⟩:=heldOk hc hw 1 c.1.2 w.1.2 hc.arm1 q1 (h:=w.2.1.2) (by have:=hw.held1;omega)
  simp (disch:=omega) only [br_pos,br_neg,k1,Option.bind_some]
  refine Ev.bind (Ev.bind (rjptsEv hc.arm1 q1) (Ev.bind (rdirsEv c.1.2 q1) (Ev.bind k4 (Ev.pure _)))) ?_
  exact tail _ (by simp) (by rw[held_neg (by omega),held_pos (by omega),k2];rfl)
 ·simp (disch:=omega) only [br_neg,Option.bind_some]
  exact tail _ (by simp) (by rw[held_neg (by omega),held_neg (by omega)];rfl)
end Go.Jm
namespace Go.Jm
open Go Go.Am Go.Proofs Go.Hu Go.Mo
theorem may14Tot (x:Pt):Tot fun n=>Z55 n x:=Tot.of_eq 1 (by
 simp only[Z55Eq]
 exact Tot.br (Tot.br (Tot.br (Tot.pure _) (Tot.pure _)) (Tot.pure _)) (Tot.pure _))
theorem right14L8 (L:List BodyT) (hL:L.length≤1000) (i:Nat) (hi:i<L.length) (hp:(L[i]).2.2.2.length≤1000):∀ (k j:Nat),j+k=(L[i]).2.2.2.length →
  ∃ y,Ev (fun n=>Z23L8 n ((L,(((i:Nat):Int),(((j:Nat):Int),()))),())) y∧(y=.inl ((L,(((i:Nat):Int),())),())∨y=.inr ((false,()),())):=by
 have g:L[i]?=some L[i]:=List.getElem?_eq_getElem hi
 intro k
 induction k with
 | zero =>
  intro j h
  have hn:¬ ((j:Nat):Int)<(((L[i]).2.2.2.length:Nat):Int):=by omega
  refine⟨_,Ev.of_eq 1 ?_,.inl rfl⟩
  simp (disch:=omega) only [Z23L8Eq,br_pos,Int.toNat_natCast,g,Option.bind_some,br_neg hn]
  exact Ev.pure _
 | succ k ih =>
  intro j h
  obtain⟨y,e,hy⟩:=ih (j+1) (by omega)
  have g2:(L[i]).2.2.2[j]?=some (L[i]).2.2.2[j]:=List.getElem?_eq_getElem (by omega)
  have hn:((j:Nat):Int)<(((L[i]).2.2.2.length:Nat):Int):=by omega
  obtain⟨v,hv⟩:=may14Tot (L[i]).2.2.2[j]
  cases v with
  | false =>
   refine⟨_,Ev.of_eq 1 ?_,.inr rfl⟩
   simp (disch:=omega) only [Z23L8Eq,br_pos,Int.toNat_natCast,g,g2,Option.bind_some,br_pos hn]
   exact Ev.bind hv (Ev.pure _)
  | true =>
   refine⟨y,Ev.of_eq 1 ?_,hy⟩
   simp (disch:=omega) only [Z23L8Eq,br_pos,Int.toNat_natCast,g,g2,Option.bind_some,br_pos hn,wr1]
   refine Ev.bind hv ?_
   simp only[Bool.not_true,br_f]
   exact e
theorem right14L5 (L:List BodyT) (hL:L.length≤1000) (hp:∀ b∈L,b.2.2.2.length≤1000):∀ (k i:Nat),i+k=L.length →
  ∃ y,Ev (fun n=>Z23L5 n ((L,(((i:Nat):Int),())),())) y∧(y=.inl ((),())∨y=.inr ((false,()),())):=by
 intro k
 induction k with
 | zero =>
  intro i h
  refine⟨_,Ev.of_eq 1 ?_,.inl rfl⟩
  simp (disch:=omega) only [Z23L5Eq,br_neg]
  exact Ev.pure _
 | succ k ih =>
  intro i h
  obtain⟨y,e,hy⟩:=ih (i+1) (by omega)
  have hi:i<L.length:=by omega
  obtain⟨z,ez,hz⟩:=right14L8 L hL i hi (hp _ (List.getElem_mem hi)) (L[i]).2.2.2.length 0 (by omega)
  rcases hz with rfl | rfl
  ·refine⟨y,Ev.of_eq 1 ?_,hy⟩
   simp (disch:=omega) only [Z23L5Eq,br_pos]
   refine Ev.bind ez ?_
   simp (disch:=omega) only [wr1]
   exact e
  ·refine⟨_,Ev.of_eq 1 ?_,.inr rfl⟩
   simp (disch:=omega) only [Z23L5Eq,br_pos]
   exact Ev.bind ez (Ev.pure _)
theorem stateEv {c:CellT} (hc:COk c) (w:Mo.StateT) (hl:w.2.2.length≤8):∃ b,Ev (fun n=>Z23 n c w) b∧(b=true→WOk c w):=by
 have f0:=rlimEv c.1.1 w.1.1
 have f1:=rlimEv c.1.2 w.1.2
 obtain⟨b,hb,hbt⟩:=placedEv c w hl
 cases h0:inLim c.1.1 w.1.1 with
 | false =>
  rw[h0] at f0
  refine⟨false,Ev.of_eq 1 ?_,fun e=>by cases e⟩
  simp only[Z23Eq]
  exact Ev.bind f0 (Ev.pure _)
 | true =>
 rw[h0] at f0
 cases h1:inLim c.1.2 w.1.2 with
 | false =>
  rw[h1] at f1
  refine⟨false,Ev.of_eq 1 ?_,fun e=>by cases e⟩
  simp only[Z23Eq]
  refine Ev.bind f0 ?_
  simp only[Bool.not_true,br_f]
  exact Ev.bind f1 (Ev.pure _)
 | true =>
 rw[h1] at f1
 cases b with
 | false =>
  refine⟨false,Ev.of_eq 1 ?_,fun e=>by cases e⟩
  simp only[Z23Eq]
  refine Ev.bind f0 ?_
  simp only[Bool.not_true,br_f]
  refine Ev.bind f1 ?_
  simp only[Bool.not_true,br_f]
  exact Ev.bind hb (Ev.pure _)
 | true =>
  obtain⟨k1,⟨k2,k3⟩,k4⟩:=hbt rfl
  have hw:WOk c w:=⟨h0,h1,k1,k4,k2,k3⟩
  have hbl:=bodies_len hc hw
  obtain⟨z,ez,hz⟩:=right14L5 (bodies c w) (by omega) (fun b hb=>by have:=(bodies_ok hc hw b hb).1;omega) (bodies c w).length 0 (by omega)
  have start:∀ {res:Bool},Ev (fun n=>(Z54 n c w).bind fun x=>(Z23L5 n ((x,((0:Int),())),())).bind fun l=>(match l with | .inl _=>some true | .inr y=>some y.1.1)) res→Ev (fun n=>Z23 n c w) res:=fun h=>by
   refine Ev.of_eq 1 ?_
   simp only[Z23Eq]
   refine Ev.bind f0 ?_
   simp only[Bool.not_true,br_f]
   refine Ev.bind f1 ?_
   simp only[Bool.not_true,br_f]
   refine Ev.bind hb ?_
   simp only[Bool.not_true,br_f]
   exact h
  rcases hz with rfl | rfl
  ·exact⟨true,start (Ev.bind (rbodiesEv hc hw) (Ev.bind ez (Ev.pure _))),fun _=>hw⟩
  ·exact⟨false,start (Ev.bind (rbodiesEv hc hw) (Ev.bind ez (Ev.pure _))),fun e=>by cases e⟩
theorem fitsEv (c:CellT) (w:Mo.StateT):∃ b,Ev (fun n=>Z10 n c w) b∧(b=true→COk c∧WOk c w):=by
 by_cases h1:(16:Int)<((c.2.2.1.length:Nat):Int)
 ·refine⟨false,Ev.of_eq 1 ?_,fun e=>by cases e⟩
  simp only[Z10Eq,br_pos h1];exact Ev.pure _
 by_cases h2:(16:Int)<((c.2.2.2.2.2.2.2.2.2.1.length:Nat):Int)
 ·refine⟨false,Ev.of_eq 1 ?_,fun e=>by cases e⟩
  simp only[Z10Eq,br_neg h1,br_pos h2];exact Ev.pure _
 by_cases h3:(16:Int)<((c.2.2.2.1.length:Nat):Int)
 ·refine⟨false,Ev.of_eq 1 ?_,fun e=>by cases e⟩
  simp only[Z10Eq,br_neg h1,br_neg h2,br_pos h3];exact Ev.pure _
 by_cases h4:(8:Int)<((c.2.2.2.2.1.length:Nat):Int)
 ·refine⟨false,Ev.of_eq 1 ?_,fun e=>by cases e⟩
  simp only[Z10Eq,br_neg h1,br_neg h2,br_neg h3,br_pos h4];exact Ev.pure _
 by_cases h5:(16:Int)<((c.2.2.2.2.2.1.length:Nat):Int)
 ·refine⟨false,Ev.of_eq 1 ?_,fun e=>by cases e⟩
  simp only[Z10Eq,br_neg h1,br_neg h2,br_neg h3,br_neg h4,br_pos h5];exact Ev.pure _
 by_cases h6:(8:Int)<((w.2.2.length:Nat):Int)
 ·refine⟨false,Ev.of_eq 1 ?_,fun e=>by cases e⟩
  simp only[Z10Eq,br_neg h1,br_neg h2,br_neg h3,br_neg h4,br_neg h5,br_pos h6];exact Ev.pure _
 obtain⟨b,hb,hbt⟩:=cellEv c ⟨by omega,by omega,by omega,by omega,by omega⟩
 cases b with
 | false =>
  refine⟨false,Ev.of_eq 1 ?_,fun e=>by cases e⟩
  simp only[Z10Eq,br_neg h1,br_neg h2,br_neg h3,br_neg h4,br_neg h5,br_neg h6]
  exact Ev.bind hb (Ev.pure _)
 | true =>
  have hc:=hbt rfl
  obtain⟨v,hv,hvt⟩:=stateEv hc w (by omega)
  refine⟨v,Ev.of_eq 1 ?_,fun e=>⟨hc,hvt e⟩⟩
  simp only[Z10Eq,br_neg h1,br_neg h2,br_neg h3,br_neg h4,br_neg h5,br_neg h6]
  refine Ev.bind hb ?_
  simp only[br_t]
  exact Ev.bind hv (Ev.pure _)
end Go.Jm
namespace Go.Mo
open Go.Hu
abbrev NodeT:=J3×(Int×MoveT)
def hasN (l:List NodeT) (q:J3):Bool:=l.any fun n=>decide (n.1=q)
def startN (q:J3):NodeT:=(q,(-1,(0,(0,0))))
def newB (c:CellT) (w:StateT) (a:Int) (q:J3) (l:List NodeT) (x:Int×Int):Bool :=
 (stepJ (armOf c a) q x.1 x.2).2 && (!hasN l (stepJ (armOf c a) q x.1 x.2).1 && free c (setQ w a q) (a,x))
def tryAll (c:CellT) (w:StateT) (a i most:Int) (q:J3):List (Int×Int)→List NodeT→List NodeT×Bool
 | [],l=>(l,true)
 | x :: r,l=>if newB c w a q l x=true then
   (if most≤(l.length:Int) then (l,false) else tryAll c w a i most q r (l ++ [((stepJ (armOf c a) q x.1 x.2).1,(i,(a,x)))]))
  else tryAll c w a i most q r l
def six:List (Int×Int):=[(0,-1),(0,1),(1,-1),(1,1),(2,-1),(2,1)]
def grow (c:CellT) (w:StateT) (a most:Int):Nat→Nat→List NodeT→List NodeT×Bool
 | 0,_,l=>(l,true)
 | k+1,i,l=>match l[i]? with
  | none=>(l,true)
  | some n=>if (tryAll c w a i most n.1 six l).2=true then grow c w a most k (i+1) (tryAll c w a i most n.1 six l).1 else tryAll c w a i most n.1 six l
end Go.Mo
namespace Go.Mo
open Go.Hu
def regionR (o:Pt) (a b:List Pt):List Pt×Bool:=if a.length≠b.length then ([],false) else if 12<a.length then ([],false) else refRes (points o a b)
theorem regionR_eq (o:Pt) (a b:List Pt):region o a b=regionR o a b:=by unfold region regionR;rw[refRes_eq]
def sweptBR (o:Pt) (b:BodyT):List BodyT→BodyT
 | []=>b
 | x :: l=>if alike x b=true then (b.1,(b.2.1,(b.2.2.1,(regionR o b.2.2.2 x.2.2.2).1))) else sweptBR o b l
theorem sweptBR_eq (o:Pt) (b:BodyT):∀ l,sweptB o b l=sweptBR o b l
 | []=>rfl
 | x :: l=>by unfold sweptB sweptBR;rw[regionR_eq,sweptBR_eq o b l]
def sweptPR (o:Pt) (m:MoveT) (thn:List BodyT):List PairT→List PairT
 | []=>[]
 | p :: l=>(if moves m p.1=true∧moves m p.2=false then [(sweptBR o p.1 thn,p.2)] else if moves m p.2=true∧moves m p.1=false then [(p.1,sweptBR o p.2 thn)] else []) ++ sweptPR o m thn l
theorem sweptPR_eq (o:Pt) (m:MoveT) (thn:List BodyT):∀ l,sweptP o m thn l=sweptPR o m thn l
 | []=>rfl
 | p :: l=>by unfold sweptP sweptPR;rw[sweptBR_eq,sweptBR_eq,sweptPR_eq o m thn l]
def sweptPairsR (c:CellT) (w:StateT) (m:MoveT):List PairT :=
 if (next c w m).2=true then sweptPR (jpt (armOf c m.1) (conf w m.1) m.2.1) m (bodies c (next c w m).1) (pairsOf (bodies c w)) else []
def freeR (c:CellT) (w:StateT) (m:MoveT):Bool :=
 if (next c w m).2=true then (sepAll ((sweptPairsR c w m).flatMap checks)).isSome else false
theorem freeR_eq (c:CellT) (w:StateT) (m:MoveT):free c w m=freeR c w m:=by
 have e:sweptPairs c w m=sweptPairsR c w m:=by unfold sweptPairs sweptPairsR;rw[sweptPR_eq]
 unfold free cert freeR
 rw[e]
 split
 ·split <;> rename_i h <;> rw[h] <;> rfl
 ·rfl
def exA (x:Int):ArmT:=((x,0),((4,(3,2)),(1,((-17,(-17,-17)),(18,(18,18))))))
def exC:CellT:=((exA 0,exA 175760000),(((0,(0,0)),(9,(0,0))),([[(26364000,8788000),(39546000,8788000),(39546000,17576000),(26364000,17576000)]],([],([],([],(0,((8,(4,2)),((4,(2,1)),([],(0,2)))))))))))
def exW:StateT:=(((0,(0,0)),(9,(0,0))),((-1,-1),[]))
end Go.Mo
namespace Go.Mo
open Go.Hu
theorem sweptPairsR_eq (c:CellT) (w:StateT) (m:MoveT):sweptPairs c w m=sweptPairsR c w m:=by
 unfold sweptPairs sweptPairsR;rw[sweptPR_eq]
theorem ex5_next:next exC exW (0,(1,-1))=((((0,(-1,0)),(9,(0,0))),((-1,-1),[])),true)∧(next exC exW (2,(0,1))).2=false∧(next exC exW (0,(3,1))).2=false:=by decide +kernel
theorem ex5_obst:obst exC exW (0,(1,1))=((0,((0,(1,1)),(8,(0,(0,(1,(4,0))))))),true):=by
 have h:obsP (sweptPairsR exC exW (0,(1,1))) 0=some ((8:Nat),((0:Nat),((0:Nat),((1:Int),((4:Int),(0:Int)))))):=by decide +kernel
 unfold obst
 rw[sweptPairsR_eq,h]
 rfl
def ex5_t (l:List PairT):Bool:=decide (l.length=9) && (match l[8]? with
 | some x=>decide (x.1.1=1) && (decide (x.2.1=4) && (meets x.1.2.2.2 x.2.2.2.2 && validB x.1.2.2.2))
 | none=>false)
theorem ex5_swept:ex5_t (sweptPairs exC exW (0,(1,1)))=true:=by
 rw[sweptPairsR_eq]
 decide +kernel
theorem ex5_cert:(cert exC exW (0,(1,-1))).1.length=9∧(cert exC exW (0,(1,-1))).2=true∧(sweptPairs exC exW (0,(1,-1))).length=9:=by
 unfold cert
 rw[sweptPairsR_eq]
 decide +kernel
theorem ex5_free:free exC exW (0,(1,1))=false∧free exC exW (0,(1,-1))=true:=by
 rw[freeR_eq,freeR_eq]
 decide +kernel
theorem ex5_clear:clear exC exW=true:=by decide +kernel
end Go.Mo
namespace Go.Jm
open Go Go.Am Go.Proofs Go.Hu Go.Mo
theorem ex_arm {x:Int} (h:0≤x∧x≤175760000):ArmOk (exA x):=by
 refine⟨?_,?_,?_,?_,?_,?_⟩ <;> (try unfold Bb) <;> unfold exA <;> simp only <;> omega
theorem ex_c:COk exC:=by
 refine⟨ex_arm (by omega),ex_arm (by omega),by decide,fun p hp=>?_,by decide,fun p hp=>?_,by decide,fun p hp=>?_⟩
 ·have:p=[(26364000,8788000),(39546000,8788000),(39546000,17576000),(26364000,17576000)]:=by
   have h:p∈[[(26364000,8788000),(39546000,8788000),(39546000,17576000),((26364000:Int),(17576000:Int))]]:=hp
   simpa using h
  subst this
  refine⟨by decide,fun x hx=>?_⟩
  simp at hx
  unfold Bb
  rcases hx with rfl | rfl | rfl | rfl <;> simp only <;> omega
 ·exact absurd hp (List.not_mem_nil)
 ·exact absurd hp (List.not_mem_nil)
theorem ex_w:WOk exC exW:=⟨by decide,by decide,by decide,fun k hk=>absurd hk List.not_mem_nil,by decide,by decide⟩
theorem cell15Ev:Ev (fun n=>Z35 n) exC:=by
 refine Ev.of_eq 1 ?_
 simp only[Z35Eq]
 exact (Ev.pure _).congr (by kernel_rfl)
theorem firstStEv:Ev (fun n=>Z36 n exC) exW:=by
 refine Ev.of_eq 2 ?_
 simp only[Z36Eq,Z36L3Eq]
 exact⟨0,fun n _=>by kernel_rfl⟩
theorem headEv:Ev (fun n=>Z9 n) true:=by
 have q0:=ex_w.q0 ex_c
 have q1:=ex_w.q1 ex_c
 obtain⟨n1,n2,n3⟩:=ex5_next
 obtain⟨c1,c2,c3⟩:=ex5_cert
 obtain⟨f1,f2⟩:=ex5_free
 have hs:=ex5_swept
 have hok:=(sweptPairs_ok ex_c ex_w (0,(1,1))).2
 have sw1:=sweptPairsEv ex_c ex_w (0,(1,1))
 have sw2:=sweptPairsEv ex_c ex_w (0,(1,-1))
 have ce:=certEv ex_c ex_w (0,(1,-1))
 generalize sweptPairs exC exW (0,(1,1))=P at *
 generalize sweptPairs exC exW (0,(1,-1))=P2 at *
 generalize cert exC exW (0,(1,-1))=ct at *
 unfold ex5_t at hs
 rw[Bool.and_eq_true,decide_eq_true_eq] at hs
 obtain⟨hl,hs⟩:=hs
 cases hx:P[8]? with
 | none=>rw[hx] at hs;cases hs
 | some x =>
 rw[hx] at hs
 simp only[Bool.and_eq_true,decide_eq_true_eq] at hs
 obtain⟨h1,h2,h3,h4⟩:=hs
 obtain⟨o1,o2⟩:=hok x (List.mem_of_getElem? hx)
 have hlz:¬ ((P.length:Nat):Int)=0:=by omega
 refine Ev.of_eq 1 ?_
 simp only[Z9Eq]
 refine Ev.bind cell15Ev ?_
 refine Ev.bind firstStEv ?_
 refine Ev.bind ((nextStEv exC exW (0,(1,-1)) q0 q1).congr n1) ?_
 refine Ev.bind (nextStEv exC exW (2,(0,1)) q0 q1) ?_
 refine Ev.bind (nextStEv exC exW (0,(3,1)) q0 q1) ?_
 refine Ev.bind ((obstEv ex_c ex_w (0,(1,1))).congr ex5_obst) ?_
 refine Ev.bind ce ?_
 refine Ev.bind sw1 ?_
 have hx':P[((8:Int)).toNat]?=some x:=hx
 simp (disch:=omega) only [br_neg,br_pos,hx',Option.bind_some,n2,n3,Bool.not_false,br_t]
 refine Ev.br_true (by decide) ?_
 refine Ev.bind ((clearEv ex_c ex_w).congr ex5_clear) ?_
 refine Ev.br_true rfl ?_
 refine Ev.bind ((freeEv ex_c ex_w (0,(1,1))).congr f1) ?_
 refine Ev.br_true rfl ?_
 refine Ev.bind ((freeEv ex_c ex_w (0,(1,-1))).congr f2) ?_
 refine Ev.br_true rfl ?_
 refine Ev.br_true c2 ?_
 refine Ev.bind sw2 ?_
 refine Ev.br_true (by rw[c1,c3];rfl) ?_
 refine Ev.br_true (by decide) ?_
 refine Ev.bind ((meetsEv (by have:=o1.1;omega) o1.2 (by have:=o2.1;omega) o2.2).congr h3) ?_
 refine Ev.br_true rfl ?_
 exact Ev.bind ((polyValidEv (by have:=o1.1;omega) o1.2).congr h4) (Ev.pure _)
end Go.Jm
namespace Go.Mo
open Go.Hu
end Go.Mo
namespace Go.Mo
open Go.Hu
section
variable (c:CellT) (w:StateT) (a:Int)
def Leads (q:J3) (x:Int×Int) (q':J3):Prop:=stepJ (armOf c a) q x.1 x.2=(q',true)∧free c (setQ w a q) (a,x)=true
def NodeAt (l:List NodeT) (i:Nat) (n:NodeT):Prop :=
 ∃ (p:Nat) (m:NodeT) (x:Int×Int),l[p]?=some m∧p<i∧n.2=((p:Int),(a,x))∧x∈six∧Leads c w a m.1 x n.1∧∀ (j:Nat) (m:NodeT),j<i→l[j]?=some m→m.1≠n.1
structure Good (l:List NodeT):Prop where
 start:l[0]?=some (startN (conf w a))
 node:∀ (i:Nat) (n:NodeT),l[i]?=some n→0<i→NodeAt c w a l i n
 mono:∀ (i j:Nat) (n m:NodeT),l[i]?=some n→l[j]?=some m→i≤j→n.2.1≤m.2.1
def Closed (l:List NodeT) (i:Nat):Prop:=∀ (j:Nat) (n:NodeT),j<i→l[j]?=some n→∀ x∈six,∀ q',Leads c w a n.1 x q'→∃ (t:Nat) (m:NodeT),l[t]?=some m∧m.1=q'∧m.2.1≤(j:Int)
end
theorem hasN_iff {l:List NodeT} {q:J3}:hasN l q=true↔∃ (t:Nat) (m:NodeT),l[t]?=some m∧m.1=q:=by
 unfold hasN
 rw[List.any_eq_true]
 constructor
 ·rintro⟨m,hm,he⟩
  obtain⟨t,ht⟩:=List.mem_iff_getElem?.1 hm
  exact⟨t,m,ht,by simpa using he⟩
 ·rintro⟨t,m,ht,he⟩
  exact⟨m,List.mem_of_getElem? ht,by simpa using he⟩
theorem hasN_not {l:List NodeT} {q:J3} (h:hasN l q=false) {t:Nat} {m:NodeT} (ht:l[t]?=some m):m.1≠q:=fun e=>by
 rw[hasN_iff.2 ⟨t,m,ht,e⟩] at h;cases h
variable {c:CellT} {w:StateT} {a:Int}
theorem Good.append {l:List NodeT} (h:Good c w a l) {i:Nat} {n:NodeT} (hi:l[i]?=some n) (hle:∀ m∈l,m.2.1≤(i:Int)) {x:Int×Int} {q':J3} (hx:x∈six) (hL:Leads c w a n.1 x q') (hn:hasN l q'=false) :
  Good c w a (l ++ [(q',((i:Int),(a,x)))]):=by
 have hlt:i<l.length:=by
  rcases Nat.lt_or_ge i l.length with h | h
  ·exact h
  ·rw[List.getElem?_eq_none h] at hi;cases hi
 have old:∀ {j:Nat} {m:NodeT},l[j]?=some m→(l ++ [(q',((i:Int),(a,x)))])[j]?=some m:=fun {j m} e=>by
  rw[List.getElem?_append_left (by
   rcases Nat.lt_or_ge j l.length with h | h
   ·exact h
   ·rw[List.getElem?_eq_none h] at e;cases e)]
  exact e
 have back:∀ {j:Nat} {m:NodeT},(l ++ [(q',((i:Int),(a,x)))])[j]?=some m→(j<l.length∧l[j]?=some m)∨(j=l.length∧m=(q',((i:Int),(a,x)))):=fun {j m} e=>by
  rcases Nat.lt_or_ge j l.length with h | h
  ·rw[List.getElem?_append_left h] at e;exact .inl ⟨h,e⟩
  ·rw[List.getElem?_append_right h] at e
   rcases Nat.eq_or_lt_of_le h with h1 | h1
   ·subst h1;simp at e;exact .inr ⟨rfl,e.symm⟩
   ·rw[List.getElem?_eq_none (by simp;omega)] at e;cases e
 refine⟨old h.start,fun j m e hj=>?_,fun j k m m' e1 e2 hjk=>?_⟩
 ·rcases back e with ⟨h1,h2⟩ | ⟨rfl,rfl⟩
  ·obtain⟨p,m',x',g1,g2,g3,g4,g5,g6⟩:=h.node j m h2 hj
   exact⟨p,m',x',old g1,g2,g3,g4,g5,fun k m'' hk e'=>by
    rcases back e' with ⟨_,h3⟩ | ⟨rfl,_⟩
    ·exact g6 k m'' hk h3
    ·omega⟩
  ·exact⟨i,n,x,old hi,hlt,rfl,hx,hL,fun k m'' hk e'=>by
    rcases back e' with ⟨_,h3⟩ | ⟨rfl,_⟩
    ·exact hasN_not hn h3
    ·omega⟩
 ·rcases back e1 with ⟨h1,h2⟩ | ⟨rfl,rfl⟩
  ·rcases back e2 with ⟨h3,h4⟩ | ⟨rfl,rfl⟩
   ·exact h.mono j k m m' h2 h4 hjk
   ·exact hle m (List.mem_of_getElem? h2)
  ·rcases back e2 with ⟨h3,h4⟩ | ⟨rfl,rfl⟩
   ·omega
   ·exact Int.le_refl _
theorem get_append {α:Type} {l t:List α} {k:Nat} {m:α} (h:l[k]?=some m):(l ++ t)[k]?=some m:=by
 rw[List.getElem?_append_left (by
  rcases Nat.lt_or_ge k l.length with h' | h'
  ·exact h'
  ·rw[List.getElem?_eq_none h'] at h;cases h)]
 exact h
theorem Closed.ext {l t:List NodeT} {i:Nat} (h:Closed c w a l i) (hi:i≤l.length):Closed c w a (l ++ t) i:=fun j n hj hn x hx q' hL=>by
 rw[List.getElem?_append_left (by omega)] at hn
 obtain⟨k,m,h1,h2,h3⟩:=h j n hj hn x hx q' hL
 exact⟨k,m,get_append h1,h2,h3⟩
theorem Good.inj {l:List NodeT} (h:Good c w a l) {i j:Nat} {n m:NodeT} (hi:l[i]?=some n) (hj:l[j]?=some m) (e:n.1=m.1):i=j:=by
 rcases Nat.lt_trichotomy i j with hl | hl | hl
 ·obtain⟨_,_,_,_,_,_,_,_,g⟩:=h.node j m hj (by omega)
  exact absurd e (g i n hl hi)
 ·exact hl
 ·obtain⟨_,_,_,_,_,_,_,_,g⟩:=h.node i n hi (by omega)
  exact absurd e.symm (g j m hl hj)
end Go.Mo
namespace Go.Mo
open Go.Hu
theorem region_comm (o:Pt) (a b:List Pt):region o a b=region o b a:=by
 unfold region
 by_cases h:a.length=b.length
 ·rw[if_neg (not_not_intro h),if_neg (not_not_intro h.symm),h,hullRes_congr (points_comm o a b)]
 ·rw[if_pos h,if_pos (Ne.symm h)]
abbrev BZT:=List (BodyT×BodyT)
def Ids (z:BodyT×BodyT):Prop:=z.1.1=z.2.1∧z.1.2.1=z.2.2.1∧z.1.2.2.1=z.2.2.2.1
theorem bar_ids {y z:BodyT×BodyT} (hy:Ids y) (hz:Ids z):bar y.1 z.1=bar y.2 z.2:=by
 unfold bar;rw[hy.1,hy.2.1,hy.2.2,hz.1,hz.2.1,hz.2.2]
theorem alike_ids {y z:BodyT×BodyT} (hy:Ids y) (hz:Ids z):alike y.1 z.1=alike y.2 z.2∧alike y.2 z.1=alike y.1 z.1:=by
 unfold alike;rw[hy.1,hy.2.1,hy.2.2,hz.1,hz.2.1,hz.2.2];exact⟨rfl,rfl⟩
theorem moves_ids (m:MoveT) {z:BodyT×BodyT} (hz:Ids z):moves m z.1=moves m z.2:=by
 unfold moves;rw[hz.1,hz.2.1,hz.2.2]
def pairsZ:BZT→List ((BodyT×BodyT)×(BodyT×BodyT))
 | []=>[]
 | a :: l=>(l.filter fun b=>bar a.1 b.1).map (fun b=>(a,b)) ++ pairsZ l
theorem pairsZ_fst:∀ (Z:BZT),pairsOf (Z.map Prod.fst)=(pairsZ Z).map fun p=>(p.1.1,p.2.1)
 | []=>rfl
 | a :: l=>by
  simp only[List.map_cons,pairsOf,pairsZ,List.map_append,List.map_map,pairsZ_fst l,List.filter_map]
  rfl
theorem pairsZ_snd:∀ (Z:BZT),(∀ z∈Z,Ids z)→pairsOf (Z.map Prod.snd)=(pairsZ Z).map fun p=>(p.1.2,p.2.2)
 | [],_=>rfl
 | a :: l,h=>by
  have ha:=h a (List.mem_cons_self ..)
  have e:l.filter (fun b=>bar a.1 b.1)=l.filter (fun b=>bar a.2 b.2):=List.filter_congr fun b hb=>bar_ids ha (h b (List.mem_cons_of_mem _ hb))
  simp only[List.map_cons,pairsOf,pairsZ,List.map_append,List.map_map,pairsZ_snd l (fun z hz=>h z (List.mem_cons_of_mem _ hz)),List.filter_map,e]
  rfl
theorem pairsZ_mem:∀ (Z:BZT) (p:(BodyT×BodyT)×(BodyT×BodyT)),p∈pairsZ Z→p.1∈Z∧p.2∈Z
 | [],p,h=>by simp[pairsZ] at h
 | a :: l,p,h=>by
  simp only[pairsZ,List.mem_append,List.mem_map,List.mem_filter] at h
  rcases h with ⟨b,⟨h1,_⟩,rfl⟩ | h
  ·exact⟨List.mem_cons_self ..,List.mem_cons_of_mem _ h1⟩
  ·have:=pairsZ_mem l p h
   exact⟨List.mem_cons_of_mem _ this.1,List.mem_cons_of_mem _ this.2⟩
theorem sweptB_fst (o:Pt) (z:BodyT×BodyT) (hz:Ids z):∀ (Z:BZT),(∀ y∈Z,Ids y)→z∈Z→(∀ y∈Z,alike y.1 z.1=true→y=z) →
  sweptB o z.1 (Z.map Prod.snd)=(z.1.1,(z.1.2.1,(z.1.2.2.1,(region o z.1.2.2.2 z.2.2.2.2).1))) ∧
  sweptB o z.2 (Z.map Prod.fst)=(z.1.1,(z.1.2.1,(z.1.2.2.1,(region o z.1.2.2.2 z.2.2.2.2).1)))
 | [],_,h,_=>by simp at h
 | y :: Z,hi,h,hu=>by
  have hy:=hi y (List.mem_cons_self ..)
  have a1:=alike_ids hy hz
  simp only[List.map_cons,sweptB]
  cases ha:alike y.1 z.1 with
  | true =>
   have:=hu y (List.mem_cons_self ..) ha
   subst this
   have e:alike y.1 y.2=true:=by
    have:alike y.1 y.2=alike y.1 y.1:=by unfold alike;rw[hz.1,hz.2.1,hz.2.2]
    rw[this,ha]
   rw[a1.2,ha,e,if_pos rfl,if_pos rfl,region_comm o y.2.2.2.2 y.1.2.2.2,← hy.1,← hy.2.1,← hy.2.2]
   exact⟨rfl,rfl⟩
  | false =>
   have e:alike y.1 z.2=false:=by
    have:alike y.1 z.2=alike y.1 z.1:=by unfold alike;rw[hz.1,hz.2.1,hz.2.2]
    rw[this,ha]
   rw[a1.2,ha,e,if_neg (by simp),if_neg (by simp)]
   have hzZ:z∈Z:=by
    rcases List.mem_cons.1 h with h | h
    ·subst h
     have:alike z.1 z.1=true:=by unfold alike;simp
     rw[this] at ha;cases ha
    ·exact h
   exact sweptB_fst o z hz Z (fun y hy=>hi y (List.mem_cons_of_mem _ hy)) hzZ (fun y hy=>hu y (List.mem_cons_of_mem _ hy))
structure Twin (o:Pt) (m m':MoveT) (Z:BZT):Prop where
 ids:∀ z∈Z,Ids z
 still:∀ z∈Z,moves m z.1=false→z.1=z.2
 same:∀ b,moves m b=moves m' b
 uniq:∀ z∈Z,moves m z.1=true→∀ y∈Z,alike y.1 z.1=true→y=z
theorem sweptP_twin {o:Pt} {m m':MoveT} {Z:BZT} (h:Twin o m m' Z):∀ (L:List ((BodyT×BodyT)×(BodyT×BodyT))),(∀ p∈L,p.1∈Z∧p.2∈Z) →
  sweptP o m (Z.map Prod.snd) (L.map fun p=>(p.1.1,p.2.1))=sweptP o m' (Z.map Prod.fst) (L.map fun p=>(p.1.2,p.2.2))
 | [],_=>rfl
 | p :: L,hL=>by
  obtain⟨h1,h2⟩:=hL p (List.mem_cons_self ..)
  have ih:=sweptP_twin h L (fun q hq=>hL q (List.mem_cons_of_mem _ hq))
  simp only[List.map_cons,sweptP,ih]
  congr 1
  rw[← h.same,← h.same,← moves_ids m (h.ids _ h1),← moves_ids m (h.ids _ h2)]
  cases m1:moves m p.1.1 with
  | true =>
   cases m2:moves m p.2.1 with
   | true=>simp
   | false =>
    obtain⟨e1,e2⟩:=sweptB_fst o p.1 (h.ids _ h1) Z h.ids h1 (h.uniq _ h1 m1)
    have e3:=h.still _ h2 m2
    simp[e1,e2,e3]
  | false =>
   cases m2:moves m p.2.1 with
   | true =>
    obtain⟨e1,e2⟩:=sweptB_fst o p.2 (h.ids _ h2) Z h.ids h2 (h.uniq _ h2 m2)
    have e3:=h.still _ h1 m1
    simp[e1,e2,e3]
   | false=>simp
def lz (i:Int) (l l':List Pt×(List Pt×List Pt)):BZT:=[((1,(i,(0,l.1))),(1,(i,(0,l'.1)))),((1,(i,(1,l.2.1))),(1,(i,(1,l'.2.1)))),((1,(i,(2,l.2.2))),(1,(i,(2,l'.2.2))))]
def hz (c:CellT) (a:ArmT) (q q':J3) (i h:Int):BZT:=if h<0 then [] else [((2,(i,(0,outlAt (prtOf c h) (jpts a q).2.2.2 (dirs q).2.2))),(2,(i,(0,outlAt (prtOf c h) (jpts a q').2.2.2 (dirs q').2.2))))]
def bz (c:CellT) (w:StateT) (p:J3×J3):BZT :=
 (lz 0 (links c.1.1 w.1.1) (links c.1.1 p.1) ++ lz 1 (links c.1.2 w.1.2) (links c.1.2 p.2)) ++ (hz c c.1.1 w.1.1 p.1 0 w.2.1.1 ++ (hz c c.1.2 w.1.2 p.2 1 w.2.1.2 ++ (resting c 0 w.2.2 ++ fixed 0 c.2.2.1).map fun b=>(b,b)))
theorem hz_fst (c:CellT) (a:ArmT) (q q':J3) (i h:Int):(hz c a q q' i h).map Prod.fst=held c a q i h∧(hz c a q q' i h).map Prod.snd=held c a q' i h:=by
 unfold hz held
 by_cases e:h<0
 ·rw[if_pos e,if_pos e,if_pos e];exact⟨rfl,rfl⟩
 ·rw[if_neg e,if_neg e,if_neg e];exact⟨rfl,rfl⟩
theorem bz_fst (c:CellT) (w:StateT) (p:J3×J3):(bz c w p).map Prod.fst=bodies c w∧(bz c w p).map Prod.snd=bodies c (p,w.2):=by
 have e0:=hz_fst c c.1.1 w.1.1 p.1 0 w.2.1.1
 have e1:=hz_fst c c.1.2 w.1.2 p.2 1 w.2.1.2
 unfold bz bodies
 simp only[List.map_append,List.map_map,e0.1,e0.2,e1.1,e1.2]
 constructor <;> simp[lz,lset,arms6,Function.comp_def]
theorem rest_kind (c:CellT):∀ (l:List Int) (i:Nat) (b:BodyT),b∈resting c i l→b.1=3
 | [],_,b,h=>by simp[resting] at h
 | k :: l,i,b,h=>by
  simp only[resting,List.mem_append] at h
  rcases h with h | h
  ·by_cases hk:0≤k
   ·rw[if_pos hk] at h;simp at h;rw[h]
   ·rw[if_neg hk] at h;simp at h
  ·exact rest_kind c l (i+1) b h
theorem fix_kind:∀ (l:List (List Pt)) (i:Nat) (b:BodyT),b∈fixed i l→b.1=4
 | [],_,b,h=>by simp[fixed] at h
 | p :: l,i,b,h=>by
  simp only[fixed,List.mem_cons] at h
  rcases h with rfl | h
  ·rfl
  ·exact fix_kind l (i+1) b h
theorem bz_mem {c:CellT} {w:StateT} {p:J3×J3} {z:BodyT×BodyT} (h:z∈bz c w p) :
  z∈lz 0 (links c.1.1 w.1.1) (links c.1.1 p.1)∨z∈lz 1 (links c.1.2 w.1.2) (links c.1.2 p.2)∨z∈hz c c.1.1 w.1.1 p.1 0 w.2.1.1∨z∈hz c c.1.2 w.1.2 p.2 1 w.2.1.2∨(z.1=z.2∧3≤z.1.1):=by
 unfold bz at h
 simp only[List.mem_append,List.mem_map] at h
 rcases h with (h | h) | h | h | ⟨b,h,rfl⟩
 ·exact .inl h
 ·exact .inr (.inl h)
 ·exact .inr (.inr (.inl h))
 ·exact .inr (.inr (.inr (.inl h)))
 ·refine .inr (.inr (.inr (.inr ⟨rfl,?_⟩)))
  rcases h with h | h
  ·show 3≤b.1
   rw[rest_kind _ _ _ _ h];decide
  ·show 3≤b.1
   rw[fix_kind _ _ _ h];decide
theorem hz_mem {c:CellT} {a:ArmT} {q q':J3} {i h:Int} {z:BodyT×BodyT} (hm:z∈hz c a q q' i h) :
  z=((2,(i,(0,outlAt (prtOf c h) (jpts a q).2.2.2 (dirs q).2.2))),(2,(i,(0,outlAt (prtOf c h) (jpts a q').2.2.2 (dirs q').2.2)))):=by
 unfold hz at hm
 by_cases e:h<0
 ·rw[if_pos e] at hm;simp at hm
 ·rw[if_neg e] at hm;simpa using hm
theorem bz_ids {c:CellT} {w:StateT} {p:J3×J3} {z:BodyT×BodyT} (h:z∈bz c w p):Ids z:=by
 rcases bz_mem h with h | h | h | h | ⟨h,_⟩
 ·simp only[lz,List.mem_cons,List.not_mem_nil,or_false] at h
  rcases h with rfl | rfl | rfl <;> exact⟨rfl,rfl,rfl⟩
 ·simp only[lz,List.mem_cons,List.not_mem_nil,or_false] at h
  rcases h with rfl | rfl | rfl <;> exact⟨rfl,rfl,rfl⟩
 ·rw[hz_mem h];exact⟨rfl,rfl,rfl⟩
 ·rw[hz_mem h];exact⟨rfl,rfl,rfl⟩
 ·unfold Ids;rw[h];exact⟨rfl,rfl,rfl⟩
theorem alike_iff {a b:BodyT}:alike a b=true↔a.1=b.1∧a.2.1=b.2.1∧a.2.2.1=b.2.2.1:=by
 unfold alike;simp
theorem moves_kind {m:MoveT} {b:BodyT} (h:moves m b=true):b.1=1∨b.1=2:=by
 unfold moves at h
 simp at h
 omega
theorem bz_uniq {c:CellT} {w:StateT} {p:J3×J3} {z y:BodyT×BodyT} (hzm:z∈bz c w p) (hym:y∈bz c w p) (hk:z.1.1=1∨z.1.1=2) (ha:alike y.1 z.1=true):y=z:=by
 obtain⟨a1,a2,a3⟩:=alike_iff.1 ha
 have hzz:z∈lz 0 (links c.1.1 w.1.1) (links c.1.1 p.1)∨z∈lz 1 (links c.1.2 w.1.2) (links c.1.2 p.2)∨z∈hz c c.1.1 w.1.1 p.1 0 w.2.1.1∨z∈hz c c.1.2 w.1.2 p.2 1 w.2.1.2:=by
  rcases bz_mem hzm with h | h | h | h | ⟨_,h⟩
  ·exact .inl h
  ·exact .inr (.inl h)
  ·exact .inr (.inr (.inl h))
  ·exact .inr (.inr (.inr h))
  ·omega
 have hyy:y∈lz 0 (links c.1.1 w.1.1) (links c.1.1 p.1)∨y∈lz 1 (links c.1.2 w.1.2) (links c.1.2 p.2)∨y∈hz c c.1.1 w.1.1 p.1 0 w.2.1.1∨y∈hz c c.1.2 w.1.2 p.2 1 w.2.1.2:=by
  rcases bz_mem hym with h | h | h | h | ⟨_,h⟩
  ·exact .inl h
  ·exact .inr (.inl h)
  ·exact .inr (.inr (.inl h))
  ·exact .inr (.inr (.inr h))
  ·omega
 have key:∀ u,(u∈lz 0 (links c.1.1 w.1.1) (links c.1.1 p.1)∨u∈lz 1 (links c.1.2 w.1.2) (links c.1.2 p.2)∨u∈hz c c.1.1 w.1.1 p.1 0 w.2.1.1∨u∈hz c c.1.2 w.1.2 p.2 1 w.2.1.2) →
   ((u.1.1,(u.1.2.1,u.1.2.2.1))=(1,(0,0))∧u=((1,(0,(0,(links c.1.1 w.1.1).1))),(1,(0,(0,(links c.1.1 p.1).1))))) ∨
   ((u.1.1,(u.1.2.1,u.1.2.2.1))=(1,(0,1))∧u=((1,(0,(1,(links c.1.1 w.1.1).2.1))),(1,(0,(1,(links c.1.1 p.1).2.1))))) ∨
   ((u.1.1,(u.1.2.1,u.1.2.2.1))=(1,(0,2))∧u=((1,(0,(2,(links c.1.1 w.1.1).2.2))),(1,(0,(2,(links c.1.1 p.1).2.2))))) ∨
   ((u.1.1,(u.1.2.1,u.1.2.2.1))=(1,(1,0))∧u=((1,(1,(0,(links c.1.2 w.1.2).1))),(1,(1,(0,(links c.1.2 p.2).1))))) ∨
   ((u.1.1,(u.1.2.1,u.1.2.2.1))=(1,(1,1))∧u=((1,(1,(1,(links c.1.2 w.1.2).2.1))),(1,(1,(1,(links c.1.2 p.2).2.1))))) ∨
   ((u.1.1,(u.1.2.1,u.1.2.2.1))=(1,(1,2))∧u=((1,(1,(2,(links c.1.2 w.1.2).2.2))),(1,(1,(2,(links c.1.2 p.2).2.2))))) ∨
   ((u.1.1,(u.1.2.1,u.1.2.2.1))=(2,(0,0))∧u=((2,(0,(0,outlAt (prtOf c w.2.1.1) (jpts c.1.1 w.1.1).2.2.2 (dirs w.1.1).2.2))),(2,(0,(0,outlAt (prtOf c w.2.1.1) (jpts c.1.1 p.1).2.2.2 (dirs p.1).2.2))))) ∨
   ((u.1.1,(u.1.2.1,u.1.2.2.1))=(2,(1,0))∧u=((2,(1,(0,outlAt (prtOf c w.2.1.2) (jpts c.1.2 w.1.2).2.2.2 (dirs w.1.2).2.2))),(2,(1,(0,outlAt (prtOf c w.2.1.2) (jpts c.1.2 p.2).2.2.2 (dirs p.2).2.2))))):=by
  intro u hu
  rcases hu with h | h | h | h
  ·simp only[lz,List.mem_cons,List.not_mem_nil,or_false] at h
   rcases h with rfl | rfl | rfl <;> simp
  ·simp only[lz,List.mem_cons,List.not_mem_nil,or_false] at h
   rcases h with rfl | rfl | rfl <;> simp
  ·rw[hz_mem h];simp
  ·rw[hz_mem h];simp
 have e:(y.1.1,(y.1.2.1,y.1.2.2.1))=(z.1.1,(z.1.2.1,z.1.2.2.1)):=by rw[a1,a2,a3]
 rcases key z hzz with ⟨k1,k2⟩ | ⟨k1,k2⟩ | ⟨k1,k2⟩ | ⟨k1,k2⟩ | ⟨k1,k2⟩ | ⟨k1,k2⟩ | ⟨k1,k2⟩ | ⟨k1,k2⟩ <;>
 rcases key y hyy with ⟨g1,g2⟩ | ⟨g1,g2⟩ | ⟨g1,g2⟩ | ⟨g1,g2⟩ | ⟨g1,g2⟩ | ⟨g1,g2⟩ | ⟨g1,g2⟩ | ⟨g1,g2⟩ <;>
 first
  | (rw[k2,g2];done)
  | (rw[k1,g1] at e;simp at e)
end Go.Mo
namespace Go.Mo
open Go.Hu
theorem links_still (a:ArmT) (q:J3) (j b:Int):(1≤j→(links a (bump q j b)).1=(links a q).1)∧(2≤j→(links a (bump q j b)).2.1=(links a q).2.1):=by
 constructor
 ·intro h
  unfold bump
  rw[if_neg (by omega)]
  by_cases h1:j=1
  ·rw[if_pos h1];rfl
  ·rw[if_neg h1];rfl
 ·intro h
  unfold bump
  rw[if_neg (by omega),if_neg (by omega)];rfl
theorem jpt_still (a:ArmT) (q:J3) (j b:Int) (h:0≤j∧j<3):jpt a (bump q j b) j=jpt a q j:=by
 rcases (show j=0∨j=1∨j=2 by omega) with rfl | rfl | rfl <;> rfl
theorem lz_same {i:Int} {l:List Pt×(List Pt×List Pt)} {z:BodyT×BodyT} (h:z∈lz i l l):z.1=z.2:=by
 simp only[lz,List.mem_cons,List.not_mem_nil,or_false] at h
 rcases h with rfl | rfl | rfl <;> rfl
theorem lz_still {i j b:Int} {a:ArmT} {q:J3} (hj:0≤j∧j<3) {z:BodyT×BodyT} (h:z∈lz i (links a q) (links a (bump q j b))) (hm:moves (i,(j,b)) z.1=false):z.1=z.2:=by
 have hs:=links_still a q j b
 simp only[lz,List.mem_cons,List.not_mem_nil,or_false] at h
 rcases h with rfl | rfl | rfl
 ·simp[moves] at hm
  rw[hs.1 (by omega)]
 ·simp[moves] at hm
  rw[hs.2 (by omega)]
 ·simp[moves] at hm
  omega
theorem hz_same {c:CellT} {a:ArmT} {q:J3} {i h:Int} {z:BodyT×BodyT} (hm:z∈hz c a q q i h):z.1=z.2:=by rw[hz_mem hm]
theorem hz_still {c:CellT} {a:ArmT} {q q':J3} {i h j b:Int} {z:BodyT×BodyT} (hm:z∈hz c a q q' i h) (hs:moves (i,(j,b)) z.1=false):z.1=z.2:=by
 rw[hz_mem hm] at hs
 simp[moves] at hs
theorem twin0 (c:CellT) (w:StateT) (j b:Int) (hj:0≤j∧j<3) (o:Pt):Twin o (0,(j,b)) (0,(j,-b)) (bz c w (bump w.1.1 j b,w.1.2)) where
 ids:=fun z hz=>bz_ids hz
 still:=fun z hz hm=>by
  rcases bz_mem hz with h | h | h | h | ⟨h,_⟩
  ·exact lz_still hj h hm
  ·exact lz_same h
  ·exact hz_still h hm
  ·exact hz_same h
  ·exact h
 same:=fun x=>rfl
 uniq:=fun z hz hm y hy ha=>bz_uniq hz hy (moves_kind hm) ha
theorem twin1 (c:CellT) (w:StateT) (j b:Int) (hj:0≤j∧j<3) (o:Pt):Twin o (1,(j,b)) (1,(j,-b)) (bz c w (w.1.1,bump w.1.2 j b)) where
 ids:=fun z hz=>bz_ids hz
 still:=fun z hz hm=>by
  rcases bz_mem hz with h | h | h | h | ⟨h,_⟩
  ·exact lz_same h
  ·exact lz_still hj h hm
  ·exact hz_same h
  ·exact hz_still h hm
  ·exact h
 same:=fun x=>rfl
 uniq:=fun z hz hm y hy ha=>bz_uniq hz hy (moves_kind hm) ha
theorem stepJ_iff {a:ArmT} {q q':J3} {j b:Int}:stepJ a q j b=(q',true)↔(0≤j∧j<3)∧(b=1∨b = -1)∧inLim a (bump q j b)=true∧q'=bump q j b:=by
 unfold stepJ
 by_cases h:(0≤j∧j<3)∧(b=1∨b = -1)∧inLim a (bump q j b)=true
 ·rw[if_pos h]
  constructor
  ·intro e;cases e;exact⟨h.1,h.2.1,h.2.2,rfl⟩
  ·rintro⟨_,_,_,rfl⟩;rfl
 ·rw[if_neg h]
  constructor
  ·intro e;cases e
  ·rintro⟨h1,h2,h3,_⟩;exact absurd ⟨h1,h2,h3⟩ h
theorem bump_back (q:J3) (j b:Int):bump (bump q j b) j (-b)=q:=by
 unfold bump
 by_cases h:j=0
 ·simp only[if_pos h];ext <;> simp <;> omega
 ·by_cases h1:j=1
  ·simp only[if_neg h,if_pos h1];ext <;> simp <;> omega
  ·simp only[if_neg h,if_neg h1];ext <;> simp <;> omega
theorem stepJ_back {a:ArmT} {q q':J3} {j b:Int} (hq:inLim a q=true) (h:stepJ a q j b=(q',true)):stepJ a q' j (-b)=(q,true):=by
 obtain⟨h1,h2,h3,rfl⟩:=stepJ_iff.1 h
 exact stepJ_iff.2 ⟨h1,by omega,by rw[bump_back];exact hq,by rw[bump_back]⟩
theorem next_ok {c:CellT} {w:StateT} {a j b:Int} (ha:a=0∨a=1) {q':J3} (h:stepJ (armOf c a) (conf w a) j b=(q',true)):next c w (a,(j,b))=(setQ w a q',true):=by
 unfold next
 simp only[h]
 rw[if_pos ⟨by omega,by omega,trivial⟩]
theorem sweptPairs_back {c:CellT} {w:StateT} {a j b:Int} (ha:a=0∨a=1) {q':J3} (hq:inLim (armOf c a) (conf w a)=true) (h:stepJ (armOf c a) (conf w a) j b=(q',true)) :
  sweptPairs c (setQ w a q') (a,(j,-b))=sweptPairs c w (a,(j,b)):=by
 have hb:=stepJ_back hq h
 obtain⟨h1,_,_,hq'⟩:=stepJ_iff.1 h
 have e1:=next_ok ha h
 rcases ha with rfl | rfl
 ·have e2:next c (setQ w 0 q') (0,(j,-b))=(setQ (setQ w 0 q') 0 (conf w 0),true):=next_ok (.inl rfl) hb
  have e3:setQ (setQ w 0 q') 0 (conf w 0)=w:=rfl
  rw[e3] at e2
  unfold sweptPairs
  rw[e1,e2,if_pos rfl,if_pos rfl]
  simp only
  have hj:jpt (armOf c 0) (conf (setQ w 0 q') 0) j=jpt (armOf c 0) (conf w 0) j:=by
   show jpt (armOf c 0) q' j=_
   rw[hq'];exact jpt_still _ _ _ _ h1
  rw[hj]
  have hw:setQ w 0 q'=((bump w.1.1 j b,w.1.2),w.2):=by rw[hq'];rfl
  have T:=twin0 c w j b h1 (jpt (armOf c 0) (conf w 0) j)
  have F:=bz_fst c w (bump w.1.1 j b,w.1.2)
  have P:=sweptP_twin T (pairsZ (bz c w (bump w.1.1 j b,w.1.2))) (fun p hp=>pairsZ_mem _ _ hp)
  rw[hw,← F.1,← F.2,pairsZ_fst,pairsZ_snd _ T.ids]
  exact P.symm
 ·have e2:next c (setQ w 1 q') (1,(j,-b))=(setQ (setQ w 1 q') 1 (conf w 1),true):=next_ok (.inr rfl) hb
  have e3:setQ (setQ w 1 q') 1 (conf w 1)=w:=rfl
  rw[e3] at e2
  unfold sweptPairs
  rw[e1,e2,if_pos rfl,if_pos rfl]
  simp only
  have hj:jpt (armOf c 1) (conf (setQ w 1 q') 1) j=jpt (armOf c 1) (conf w 1) j:=by
   show jpt (armOf c 1) q' j=_
   rw[hq'];exact jpt_still _ _ _ _ h1
  rw[hj]
  have hw:setQ w 1 q'=((w.1.1,bump w.1.2 j b),w.2):=by rw[hq'];rfl
  have T:=twin1 c w j b h1 (jpt (armOf c 1) (conf w 1) j)
  have F:=bz_fst c w (w.1.1,bump w.1.2 j b)
  have P:=sweptP_twin T (pairsZ (bz c w (w.1.1,bump w.1.2 j b))) (fun p hp=>pairsZ_mem _ _ hp)
  rw[hw,← F.1,← F.2,pairsZ_fst,pairsZ_snd _ T.ids]
  exact P.symm
theorem free_back {c:CellT} {w:StateT} {a j b:Int} (ha:a=0∨a=1) {q':J3} (hq:inLim (armOf c a) (conf w a)=true) (h:stepJ (armOf c a) (conf w a) j b=(q',true)) :
  free c (setQ w a q') (a,(j,-b))=free c w (a,(j,b)):=by
 have hs:=sweptPairs_back ha hq h
 have e1:=next_ok ha h
 have e2:(next c (setQ w a q') (a,(j,-b))).2=true:=by
  rw[next_ok ha (w:=setQ w a q') (q':=conf w a)]
  have:conf (setQ w a q') a=q':=by rcases ha with rfl | rfl <;> rfl
  rw[this]
  exact stepJ_back hq h
 unfold free cert
 rw[hs,e1,if_pos rfl,if_pos e2]
theorem Leads.back {c:CellT} {w:StateT} {a:Int} (ha:a=0∨a=1) {q q':J3} {x:Int×Int} (hq:inLim (armOf c a) q=true) (h:Leads c w a q x q'):Leads c w a q' (x.1,-x.2) q:=by
 have hc:conf (setQ w a q) a=q:=by rcases ha with rfl | rfl <;> rfl
 have hs:setQ (setQ w a q) a q'=setQ w a q':=by rcases ha with rfl | rfl <;> rfl
 have h1:stepJ (armOf c a) (conf (setQ w a q) a) x.1 x.2=(q',true):=by rw[hc];exact h.1
 refine⟨stepJ_back hq h.1,?_⟩
 have:=free_back ha (w:=setQ w a q) (by rw[hc];exact hq) h1
 rw[hs] at this
 exact this.trans h.2
end Go.Mo
namespace Go.Mo
open Go.Hu
def Like (a a':ArmT):Prop:=a'.1=a.1∧a'.2.1=a.2.1∧a'.2.2.1=a.2.2.1
theorem Like.jpts {a a':ArmT} (h:Like a a') (q:J3):jpts a' q=jpts a q:=by
 unfold Mo.jpts;rw[h.1,h.2.1]
theorem Like.links {a a':ArmT} (h:Like a a') (q:J3):links a' q=links a q:=by
 unfold Mo.links Mo.link;rw[h.jpts,h.2.2]
structure Wider (d f:CellT):Prop where
 arm0:Like d.1.1 f.1.1
 arm1:Like d.1.2 f.1.2
 lim0:∀ q,inLim d.1.1 q=true→inLim f.1.1 q=true
 lim1:∀ q,inLim d.1.2 q=true→inLim f.1.2 q=true
 parts:f.2.2.2.2.1=d.2.2.2.2.1
 places:f.2.2.2.1=d.2.2.2.1
 fix:∀ p∈f.2.2.1,p∈d.2.2.1
def mob (c:CellT) (w:StateT):List BodyT:=arms6 c w ++ (held c c.1.1 w.1.1 0 w.2.1.1 ++ (held c c.1.2 w.1.2 1 w.2.1.2 ++ resting c 0 w.2.2))
theorem bodies_mob (c:CellT) (w:StateT):bodies c w=mob c w ++ fixed 0 c.2.2.1:=by
 unfold bodies mob;simp only[List.append_assoc]
theorem resting_congr {d f:CellT} (h:f.2.2.2.2.1=d.2.2.2.2.1) (h2:f.2.2.2.1=d.2.2.2.1):∀ (l:List Int) (i:Nat),resting f i l=resting d i l
 | [],_=>rfl
 | k :: l,i=>by
  have e1:prtOf f i=prtOf d i:=by unfold prtOf;rw[h]
  have e2:plcOf f k=plcOf d k:=by unfold plcOf;rw[h2]
  simp only[resting,resting_congr h h2 l,e1,e2]
theorem Wider.mob {d f:CellT} (h:Wider d f) (w:StateT):mob f w=mob d w:=by
 have e:∀ k,prtOf f k=prtOf d k:=fun k=>by unfold prtOf;rw[h.parts]
 unfold Mo.mob arms6 held
 rw[h.arm0.links,h.arm1.links,h.arm0.jpts,h.arm1.jpts,e,e,resting_congr h.parts h.places]
theorem mob_kind {c:CellT} {w:StateT} {b:BodyT} (h:b∈mob c w):b.1=1∨b.1=2∨b.1=3:=by
 unfold mob arms6 at h
 simp only[List.mem_append] at h
 rcases h with (h | h) | h | h | h
 ·simp only[lset,List.mem_cons,List.not_mem_nil,or_false] at h
  rcases h with rfl | rfl | rfl <;> exact .inl rfl
 ·simp only[lset,List.mem_cons,List.not_mem_nil,or_false] at h
  rcases h with rfl | rfl | rfl <;> exact .inl rfl
 ·unfold held at h
  split at h
  ·simp at h
  ·simp at h;rw[h];exact .inr (.inl rfl)
 ·unfold held at h
  split at h
  ·simp at h
  ·simp at h;rw[h];exact .inr (.inl rfl)
 ·exact .inr (.inr (rest_kind _ _ _ _ h))
theorem fixed_mem:∀ (l:List (List Pt)) (i:Nat) (b:BodyT),b∈fixed i l→∃ (k:Nat) (p:List Pt),p∈l∧b=(4,((k:Int),(0,p)))
 | [],_,b,h=>by simp[fixed] at h
 | p :: l,i,b,h=>by
  simp only[fixed,List.mem_cons] at h
  rcases h with rfl | h
  ·exact⟨i,p,List.mem_cons_self ..,rfl⟩
  ·obtain⟨k,p',h1,h2⟩:=fixed_mem l (i+1) b h
   exact⟨k,p',List.mem_cons_of_mem _ h1,h2⟩
theorem fixed_has:∀ (l:List (List Pt)) (i:Nat) (p:List Pt),p∈l→∃ k:Nat,((4,((k:Int),(0,p))):BodyT)∈fixed i l
 | [],_,p,h=>by simp at h
 | x :: l,i,p,h=>by
  simp only[fixed,List.mem_cons]
  rcases List.mem_cons.1 h with rfl | h
  ·exact⟨i,.inl rfl⟩
  ·obtain⟨k,h⟩:=fixed_has l (i+1) p h
   exact⟨k,.inr h⟩
theorem bar4 {a b:BodyT} (h:a.1=4):bar a b=false:=by unfold bar;rw[if_neg (by omega),if_neg (by omega)]
theorem pairs4:∀ (l:List BodyT),(∀ b∈l,b.1=4)→pairsOf l=[]
 | [],_=>rfl
 | a :: l,h=>by
  have e:l.filter (bar a)=[]:=List.filter_eq_nil_iff.2 fun b _=>by rw[bar4 (h a (List.mem_cons_self ..))];simp
  simp only[pairsOf,e,List.map_nil,List.nil_append]
  exact pairs4 l fun b hb=>h b (List.mem_cons_of_mem _ hb)
theorem pairs_mem {F:List BodyT} (hF:∀ b∈F,b.1=4) (p:PairT):∀ (P:List BodyT),p∈pairsOf (P ++ F)↔p∈pairsOf P∨(p.1∈P∧p.2∈F∧bar p.1 p.2=true)
 | []=>by
  rw[List.nil_append,pairs4 F hF]
  simp[pairsOf]
 | a :: P=>by
  simp only[List.cons_append,pairsOf,List.mem_append,pairs_mem hF p P,List.filter_append,List.map_append,List.mem_map,List.mem_filter,List.mem_cons]
  constructor
  ·rintro ((⟨b,⟨h1,h2⟩,rfl⟩ | ⟨b,⟨h1,h2⟩,rfl⟩) | h | ⟨h1,h2,h3⟩)
   ·exact .inl (.inl ⟨b,⟨h1,h2⟩,rfl⟩)
   ·exact .inr ⟨.inl rfl,h1,h2⟩
   ·exact .inl (.inr h)
   ·exact .inr ⟨.inr h1,h2,h3⟩
  ·rintro ((⟨b,⟨h1,h2⟩,rfl⟩ | h) | ⟨h1 | h1,h2,h3⟩)
   ·exact .inl (.inl ⟨b,⟨h1,h2⟩,rfl⟩)
   ·exact .inr (.inl h)
   ·exact .inl (.inr ⟨p.2,⟨h2,by rw[← h1];exact h3⟩,by rw[← h1]⟩)
   ·exact .inr (.inr ⟨h1,h2,h3⟩)
theorem pairs_in:∀ (P:List BodyT) (p:PairT),p∈pairsOf P→p.1∈P∧p.2∈P
 | [],p,h=>by simp[pairsOf] at h
 | a :: P,p,h=>by
  simp only[pairsOf,List.mem_append,List.mem_map,List.mem_filter] at h
  rcases h with ⟨b,⟨h1,_⟩,rfl⟩ | h
  ·exact⟨List.mem_cons_self ..,List.mem_cons_of_mem _ h1⟩
  ·have:=pairs_in P p h
   exact⟨List.mem_cons_of_mem _ this.1,List.mem_cons_of_mem _ this.2⟩
theorem sweptB_fix (o:Pt) {b:BodyT} (hb:b.1≠4) {F F':List BodyT} (hF:∀ b∈F,b.1=4) (hF':∀ b∈F',b.1=4):∀ (P:List BodyT),sweptB o b (P ++ F)=sweptB o b (P ++ F')
 | []=>by
  have key:∀ (G:List BodyT),(∀ b∈G,b.1=4)→sweptB o b G=b:=fun G=>by
   induction G with
   | nil=>intro _;rfl
   | cons x G ih =>
    intro h
    have:alike x b=false:=by
     have:=h x (List.mem_cons_self ..)
     unfold alike;rw[decide_eq_false (by omega),Bool.false_and]
    unfold sweptB
    rw[this,if_neg (by simp)]
    exact ih fun y hy=>h y (List.mem_cons_of_mem _ hy)
  rw[List.nil_append,List.nil_append,key F hF,key F' hF']
 | x :: P=>by
  simp only[List.cons_append,sweptB,sweptB_fix o hb hF hF' P]
theorem sweptP_mem (o:Pt) (m:MoveT) (thn:List BodyT) (r:PairT):∀ (L:List PairT),r∈sweptP o m thn L ↔
  ∃ p∈L,(moves m p.1=true∧moves m p.2=false∧r=(sweptB o p.1 thn,p.2))∨(moves m p.2=true∧moves m p.1=false∧r=(p.1,sweptB o p.2 thn))
 | []=>by simp[sweptP]
 | p :: L=>by
  simp only[sweptP,List.mem_append,sweptP_mem o m thn r L,List.mem_cons,exists_eq_or_imp]
  apply or_congr _ Iff.rfl
  cases moves m p.1 <;> cases moves m p.2 <;> simp
def areas (p:PairT):List Pt×List Pt:=(p.1.2.2.2,p.2.2.2.2)
theorem checks_areas {p r:PairT} (h:areas p=areas r):checks p=checks r:=by
 unfold areas at h
 obtain⟨e1,e2⟩:=Prod.ext_iff.1 h
 simp only at e1 e2
 unfold checks
 rw[e1,e2]
theorem sepAll_some:∀ (l:List (List Pt×List Pt)),(∃ r,sepAll l=some r)↔∀ x∈l,(sepEdge x.1 x.2).2=true
 | []=>by simp[sepAll]
 | x :: l=>by
  have ih:=sepAll_some l
  simp only[sepAll,List.mem_cons,forall_eq_or_imp]
  by_cases h:(sepEdge x.1 x.2).2=true
  ·rw[if_pos h,← ih]
   constructor
   ·rintro⟨r,hr⟩
    cases e:sepAll l with
    | none=>rw[e] at hr;cases hr
    | some y=>exact⟨h,y,rfl⟩
   ·rintro⟨_,y,e⟩
    rw[e];exact⟨_,rfl⟩
  ·rw[if_neg h]
   constructor
   ·rintro⟨r,hr⟩;cases hr
   ·rintro⟨h',_⟩;exact absurd h' h
theorem free_iff {c:CellT} {w:StateT} {m:MoveT}:free c w m=true↔(next c w m).2=true∧∀ p∈sweptPairs c w m,∀ x∈checks p,(sepEdge x.1 x.2).2=true:=by
 unfold free cert
 by_cases h:(next c w m).2=true
 ·rw[if_pos h]
  have:=sepAll_some ((sweptPairs c w m).flatMap checks)
  simp only[List.mem_flatMap,forall_exists_index,and_imp] at this
  constructor
  ·intro e
   refine⟨h,fun p hp x hx=>?_⟩
   refine this.1 ?_ x p hp hx
   cases g:sepAll ((sweptPairs c w m).flatMap checks) with
   | none=>rw[g] at e;cases e
   | some r=>exact⟨r,rfl⟩
  ·rintro⟨_,h2⟩
   obtain⟨r,hr⟩:=this.2 fun x p hp hx=>h2 p hp x hx
   rw[hr]
 ·rw[if_neg h]
  constructor
  ·intro e;cases e
  ·rintro⟨h',_⟩;exact absurd h' h
theorem Wider.stepJ {d f:CellT} (h:Wider d f) {a:Int} {q q':J3} {j b:Int} (hs:stepJ (armOf d a) q j b=(q',true)):stepJ (armOf f a) q j b=(q',true):=by
 obtain⟨h1,h2,h3,h4⟩:=stepJ_iff.1 hs
 refine stepJ_iff.2 ⟨h1,h2,?_,h4⟩
 unfold armOf at *
 by_cases e:a=0
 ·rw[if_pos e] at *;exact h.lim0 _ h3
 ·rw[if_neg e] at *;exact h.lim1 _ h3
theorem Wider.next {d f:CellT} (h:Wider d f) {w:StateT} {m:MoveT} (hn:(next d w m).2=true):next f w m=next d w m:=by
 unfold Mo.next at *
 by_cases e:0≤m.1∧m.1≤1∧(Mo.stepJ (armOf d m.1) (conf w m.1) m.2.1 m.2.2).2=true
 ·have s:Mo.stepJ (armOf f m.1) (conf w m.1) m.2.1 m.2.2=((Mo.stepJ (armOf d m.1) (conf w m.1) m.2.1 m.2.2).1,true):=h.stepJ (Prod.ext rfl e.2.2)
  rw[if_pos e,if_pos ⟨e.1,e.2.1,by rw[s]⟩,s]
 ·rw[if_neg e] at hn;cases hn
theorem bar_fix {a b b':BodyT} (hb:b.1=4) (hb':b'.1=4):bar a b=bar a b':=by
 unfold bar;rw[hb,hb'];simp
theorem moves_fix {m:MoveT} {b:BodyT} (hb:b.1=4):moves m b=false:=by
 unfold moves;rw[hb];simp
theorem Wider.swept {d f:CellT} (h:Wider d f) {w:StateT} {m:MoveT} (hn:(Mo.next d w m).2=true):∀ r∈sweptPairs f w m,∃ p∈sweptPairs d w m,areas p=areas r:=by
 have e:=h.next hn
 have hj:jpt (armOf f m.1) (conf w m.1) m.2.1=jpt (armOf d m.1) (conf w m.1) m.2.1:=by
  unfold jpt armOf
  by_cases e:m.1=0
  ·rw[if_pos e,if_pos e,h.arm0.jpts]
  ·rw[if_neg e,if_neg e,h.arm1.jpts]
 unfold sweptPairs
 rw[e,if_pos hn,if_pos hn,hj]
 generalize jpt (armOf d m.1) (conf w m.1) m.2.1=o
 generalize (Mo.next d w m).1=w'
 have F4:∀ {c:CellT} {b:BodyT},b∈fixed 0 c.2.2.1→b.1=4:=fun hb=>fix_kind _ _ _ hb
 have sw:∀ b:BodyT,b.1≠4→sweptB o b (bodies f w')=sweptB o b (bodies d w'):=fun b hb=>by
  rw[bodies_mob,bodies_mob,h.mob]
  exact sweptB_fix o hb (fun b hb=>F4 hb) (fun b hb=>F4 hb) _
 intro r hr
 rw[sweptP_mem] at hr
 obtain⟨p,hp,hr⟩:=hr
 rw[bodies_mob,pairs_mem (fun b hb=>F4 hb),h.mob] at hp
 have k4:∀ {b:BodyT},b∈Mo.mob d w→b.1≠4:=fun hb=>by rcases mob_kind hb with h | h | h <;> omega
 rcases hp with hp | ⟨h1,h2,h3⟩
 ·obtain⟨i1,i2⟩:=pairs_in _ _ hp
  refine⟨r,?_,rfl⟩
  rw[sweptP_mem]
  refine⟨p,?_,?_⟩
  ·rw[bodies_mob,pairs_mem (fun b hb=>F4 hb)];exact .inl hp
  ·rw[← sw _ (k4 i1),← sw _ (k4 i2)];exact hr
 ·obtain⟨k,pl,g1,g2⟩:=fixed_mem _ _ _ h2
  obtain⟨k',g3⟩:=fixed_has d.2.2.1 0 pl (h.fix _ g1)
  have m2:moves m p.2=false:=moves_fix (F4 h2)
  rcases hr with ⟨r1,_,r3⟩ | ⟨r1,_,_⟩
  ·refine⟨(sweptB o p.1 (bodies d w'),(4,((k':Int),(0,pl)))),?_,?_⟩
   ·rw[sweptP_mem]
    refine⟨(p.1,(4,((k':Int),(0,pl)))),?_,.inl ⟨r1,moves_fix rfl,rfl⟩⟩
    rw[bodies_mob,pairs_mem (fun b hb=>F4 hb)]
    exact .inr ⟨h1,g3,by rw[← h3];exact bar_fix rfl (F4 h2)⟩
   ·rw[r3,← sw _ (k4 h1),g2];rfl
  ·rw[m2] at r1;cases r1
theorem Wider.free {d f:CellT} (h:Wider d f) {w:StateT} {m:MoveT} (hf:Mo.free d w m=true):Mo.free f w m=true:=by
 obtain⟨h1,h2⟩:=free_iff.1 hf
 refine free_iff.2 ⟨by rw[h.next h1];exact h1,fun r hr x hx=>?_⟩
 obtain⟨p,hp,e⟩:=h.swept h1 r hr
 exact h2 p hp x (by rw[checks_areas e];exact hx)
end Go.Mo
namespace Go.Mo
open Go.Hu
def lessW (w:StateT) (l:List Int):StateT:=(w.1,(w.2.1,l))
def top (c:CellT) (w:StateT):List BodyT:=arms6 c w ++ (held c c.1.1 w.1.1 0 w.2.1.1 ++ held c c.1.2 w.1.2 1 w.2.1.2)
theorem bodies_top (c:CellT) (w:StateT):bodies c w=top c w ++ (resting c 0 w.2.2 ++ fixed 0 c.2.2.1):=by
 unfold bodies top;simp only[List.append_assoc]
theorem resting_set (c:CellT):∀ (l:List Int) (i k:Nat),(resting c i (l.set k (-1))).Sublist (resting c i l)
 | [],_,_=>List.Sublist.refl _
 | x :: l,i,0=>by
  simp only[List.set_cons_zero,resting]
  rw[if_neg (by omega),List.nil_append]
  exact List.sublist_append_right _ _
 | x :: l,i,k+1=>by
  simp only[List.set_cons_succ,resting]
  exact (List.Sublist.refl _).append (resting_set c l (i+1) k)
theorem pairs_sub {p:PairT}:∀ {l l':List BodyT},l'.Sublist l→p∈pairsOf l'→p∈pairsOf l:=by
 intro l l' h
 induction h with
 | slnil=>exact id
 | cons a _ ih=>intro hp;simp only[pairsOf,List.mem_append];exact .inr (ih hp)
 | cons_cons a h ih =>
  intro hp
  simp only[pairsOf,List.mem_append,List.mem_map,List.mem_filter] at hp ⊢
  rcases hp with ⟨b,⟨h1,h2⟩,h3⟩ | hp
  ·exact .inl ⟨b,⟨h.subset h1,h2⟩,h3⟩
  ·exact .inr (ih hp)
theorem sweptB_skip (o:Pt) {b:BodyT} (hb:b.1≠3) {R F:List BodyT} (hR:∀ x∈R,x.1=3):∀ (T:List BodyT),sweptB o b (T ++ (R ++ F))=sweptB o b (T ++ F)
 | []=>by
  rw[List.nil_append,List.nil_append]
  induction R with
  | nil=>rfl
  | cons x R ih =>
   have:alike x b=false:=by
    have:=hR x (List.mem_cons_self ..)
    unfold alike;rw[decide_eq_false (by omega),Bool.false_and]
   rw[List.cons_append]
   unfold sweptB
   rw[this,if_neg (by simp)]
   rw[ih fun y hy=>hR y (List.mem_cons_of_mem _ hy)]
   cases F <;> rfl
 | x :: T=>by
  simp only[List.cons_append,sweptB,sweptB_skip o hb hR T]
theorem moves_not3 {m:MoveT} {b:BodyT} (h:moves m b=true):b.1≠3:=by
 unfold moves at h
 simp only[Bool.and_eq_true,Bool.or_eq_true,decide_eq_true_eq] at h
 omega
theorem next_less {c:CellT} {w:StateT} {m:MoveT} (l:List Int) (h:(next c w m).2=true):next c (lessW w l) m=(lessW (next c w m).1 l,true):=by
 unfold next at h ⊢
 have e:conf (lessW w l) m.1=conf w m.1:=rfl
 rw[e]
 by_cases g:0≤m.1∧m.1≤1∧(stepJ (armOf c m.1) (conf w m.1) m.2.1 m.2.2).2=true
 ·rw[if_pos g,if_pos g]
  unfold setQ lessW
  split <;> rfl
 ·rw[if_neg g] at h;cases h
theorem free_less {c:CellT} {w:StateT} {l:List Int} (hl:(resting c 0 l).Sublist (resting c 0 w.2.2)) {m:MoveT} (hf:free c w m=true):free c (lessW w l) m=true:=by
 obtain⟨h1,h2⟩:=free_iff.1 hf
 have e:=next_less l h1
 refine free_iff.2 ⟨by rw[e],fun r hr x hx=>h2 r ?_ x hx⟩
 have hw:(next c w m).1.2.2=w.2.2:=by
  unfold next setQ at h1 ⊢
  split
  ·split <;> rfl
  ·rename_i g;rw[if_neg g] at h1;cases h1
 have sw:∀ (o:Pt) (b:BodyT),b.1≠3→sweptB o b (bodies c (lessW (next c w m).1 l))=sweptB o b (bodies c (next c w m).1):=fun o b hb=>by
  rw[bodies_top,bodies_top,sweptB_skip o hb (fun x hx=>rest_kind _ _ _ _ hx),sweptB_skip o hb (fun x hx=>rest_kind _ _ _ _ hx)]
  rfl
 have hsub:(bodies c (lessW w l)).Sublist (bodies c w):=by
  rw[bodies_top,bodies_top]
  exact (List.Sublist.refl _).append (hl.append (List.Sublist.refl _))
 unfold sweptPairs at hr ⊢
 rw[e,if_pos rfl] at hr
 rw[if_pos h1]
 rw[sweptP_mem] at hr ⊢
 obtain⟨p,hp,hr⟩:=hr
 refine⟨p,pairs_sub hsub hp,?_⟩
 rcases hr with ⟨r1,r2,r3⟩ | ⟨r1,r2,r3⟩
 ·exact .inl ⟨r1,r2,by rw[r3];show (sweptB _ _ (bodies c (lessW (next c w m).1 l)),_)=_;rw[sw _ _ (moves_not3 r1)];rfl⟩
 ·exact .inr ⟨r1,r2,by rw[r3];show (_,sweptB _ _ (bodies c (lessW (next c w m).1 l)))=_;rw[sw _ _ (moves_not3 r1)];rfl⟩
end Go.Mo
namespace Go.Jm
open Go Go.Am Go.Proofs Go.Hu Go.Mo
def lessC (d:CellT) (l:List (List Pt)):CellT:=(d.1,(d.2.1,(l,d.2.2.2)))
theorem lessC_ok {d:CellT} (hd:COk d) {l:List (List Pt)} (hl:l.length≤d.2.2.1.length) (hs:∀ p∈l,p∈d.2.2.1):COk (lessC d l) :=
 ⟨hd.arm0,hd.arm1,Nat.le_trans hl hd.fixl,fun p hp=>hd.fix p (hs p hp),hd.partl,hd.part,hd.placel,hd.place⟩
theorem lessC_wok {d:CellT} {w:Mo.StateT} (hw:WOk d w) (l:List (List Pt)):WOk (lessC d l) w:=⟨hw.lim0,hw.lim1,hw.wlen,hw.whr,hw.held0,hw.held1⟩
theorem lessC_wider {d:CellT} {l:List (List Pt)} (hs:∀ p∈l,p∈d.2.2.1):Wider d (lessC d l):=⟨⟨rfl,rfl,rfl⟩,⟨rfl,rfl,rfl⟩,fun _ h=>h,fun _ h=>h,rfl,rfl,hs⟩
theorem tmodk (n:Nat) (hn:n≤1000000) (h0:n≠0) {k0:Int} (hk:0≤k0∧k0<256):∃ k:Nat,(IntKind.i64.wrap k0).tmod (n:Int)=(k:Int)∧k<n∧IntKind.i64.wrap ((k:Int)+1)=((k+1:Nat):Int):=by
 rw[w64 (n:=k0) (by omega) (by omega),Int.tmod_eq_emod_of_nonneg hk.1]
 have h1:=Int.emod_nonneg k0 (b:=(n:Int)) (by omega)
 have h2:=Int.emod_lt_of_pos k0 (b:=(n:Int)) (by omega)
 refine⟨(k0 % (n:Int)).toNat,by omega,by omega,?_⟩
 rw[w64 (by omega) (by omega)]
 omega
theorem monoLawEv (c:CellT) (w:Mo.StateT) (m:MoveT) (k0:Int) (hk:0≤k0∧k0<256):Ev (fun n=>(Z9 n).bind fun x1091=>(Z10 n c w).bind fun x1092=>(br (!x1092) (some x1091) ((Z22 n c w m).bind fun x1093=>(br (!x1093) (some x1091) ((((br (decide ((0:Int)<(c.2.2.1.length:Int))) (br (decide ((c.2.2.1.length:Int)=0)) none (br (decide (0≤(0:Int)∧(0:Int)≤(((IntKind.i64.wrap k0)).tmod (c.2.2.1.length:Int))∧(((IntKind.i64.wrap k0)).tmod (c.2.2.1.length:Int))≤(c.2.2.1.length:Int))) (br (decide (((([]:List (List (Int×Int)))).length+(((c.2.2.1.take ((((IntKind.i64.wrap k0)).tmod (c.2.2.1.length:Int))).toNat).drop ((0:Int)).toNat)).length)*24≤140737488355328)) (br (decide (0≤(IntKind.i64.wrap ((((IntKind.i64.wrap k0)).tmod (c.2.2.1.length:Int))+1))∧(IntKind.i64.wrap ((((IntKind.i64.wrap k0)).tmod (c.2.2.1.length:Int))+1))≤(c.2.2.1.length:Int)∧(c.2.2.1.length:Int)≤(c.2.2.1.length:Int))) (br (decide ((((([]:List (List (Int×Int))) ++ ((c.2.2.1.take ((((IntKind.i64.wrap k0)).tmod (c.2.2.1.length:Int))).toNat).drop ((0:Int)).toNat))).length+(((c.2.2.1.take ((c.2.2.1.length:Int)).toNat).drop ((IntKind.i64.wrap ((((IntKind.i64.wrap k0)).tmod (c.2.2.1.length:Int))+1))).toNat)).length)*24≤140737488355328)) (some ((k0,((),((),((),(x1091,((),())))))),((c,()),((w,()),((m,()),(((c.1,(c.2.1,(((([]:List (List (Int×Int))) ++ ((c.2.2.1.take ((((IntKind.i64.wrap k0)).tmod (c.2.2.1.length:Int))).toNat).drop ((0:Int)).toNat)) ++ ((c.2.2.1.take ((c.2.2.1.length:Int)).toNat).drop ((IntKind.i64.wrap ((((IntKind.i64.wrap k0)).tmod (c.2.2.1.length:Int))+1))).toNat)),c.2.2.2))),()),())))))) none) none) none) none)) (some ((k0,((),((),((),(x1091,((),())))))),((c,()),((w,()),((m,()),((c,()),()))))))):Option ((Int×(Unit×(Unit×(Unit×(Bool×(Unit×Unit))))))×((((((Int×Int)×((Int×(Int×Int))×(Int×((Int×(Int×Int))×(Int×(Int×Int))))))×((Int×Int)×((Int×(Int×Int))×(Int×((Int×(Int×Int))×(Int×(Int×Int)))))))×(((Int×(Int×Int))×(Int×(Int×Int)))×((List (List (Int×Int)))×((List (ByteArray×((Int×Int)×(Int×(Int×Int)))))×((List (ByteArray×((List (Int×Int))×Int)))×((List Int)×(Int×((Int×(Int×Int))×((Int×(Int×Int))×((List (List (Int×Int)))×(Int×Int)))))))))))×Unit)×(((((Int×(Int×Int))×(Int×(Int×Int)))×((Int×Int)×(List Int)))×Unit)×(((Int×(Int×Int))×Unit)×((((((Int×Int)×((Int×(Int×Int))×(Int×((Int×(Int×Int))×(Int×(Int×Int))))))×((Int×Int)×((Int×(Int×Int))×(Int×((Int×(Int×Int))×(Int×(Int×Int)))))))×(((Int×(Int×Int))×(Int×(Int×Int)))×((List (List (Int×Int)))×((List (ByteArray×((Int×Int)×(Int×(Int×Int)))))×((List (ByteArray×((List (Int×Int))×Int)))×((List Int)×(Int×((Int×(Int×Int))×((Int×(Int×Int))×((List (List (Int×Int)))×(Int×Int)))))))))))×Unit)×Unit))))))).bind fun j1094=>(br (decide (0≤(([]:List Int)).length∧(0+(j1094.2.2.1.1.2.2).length)*8≤140737488355328)) ((((br (decide ((0:Int)<(((0+(j1094.2.2.1.1.2.2).length):Nat):Int))) (br (decide ((((0+(j1094.2.2.1.1.2.2).length):Nat):Int)=0)) none (br (decide (0≤(((IntKind.i64.wrap j1094.1.1)).tmod (((0+(j1094.2.2.1.1.2.2).length):Nat):Int))∧(((IntKind.i64.wrap j1094.1.1)).tmod (((0+(j1094.2.2.1.1.2.2).length):Nat):Int))<(((0+(j1094.2.2.1.1.2.2).length):Nat):Int))) ((((((([]:List Int)).take 0) ++ j1094.2.2.1.1.2.2 ++ ((([]:List Int)).drop (0+(j1094.2.2.1.1.2.2).length))))[(0+((((IntKind.i64.wrap j1094.1.1)).tmod (((0+(j1094.2.2.1.1.2.2).length):Nat):Int))).toNat)]?).bind fun e1095=>some (((),((),((),(j1094.1.2.2.2.2.1,((),((),())))))),(j1094.2.1,(j1094.2.2.1,(j1094.2.2.2.1,(j1094.2.2.2.2.1,(((j1094.2.2.1.1.1,j1094.2.2.1.1.2.1),((((0+(j1094.2.2.1.1.2.2).length):Nat):Int),())),((),((((((([]:List Int)).take 0) ++ j1094.2.2.1.1.2.2 ++ ((([]:List Int)).drop (0+(j1094.2.2.1.1.2.2).length)))).set (0+((((IntKind.i64.wrap j1094.1.1)).tmod (((0+(j1094.2.2.1.1.2.2).length):Nat):Int))).toNat) (-1:Int)),()))))))))) none)) (some (((),((),((),(j1094.1.2.2.2.2.1,((),((),())))))),(j1094.2.1,(j1094.2.2.1,(j1094.2.2.2.1,(j1094.2.2.2.2.1,(((j1094.2.2.1.1.1,j1094.2.2.1.1.2.1),((((0+(j1094.2.2.1.1.2.2).length):Nat):Int),())),((),((((([]:List Int)).take 0) ++ j1094.2.2.1.1.2.2 ++ ((([]:List Int)).drop (0+(j1094.2.2.1.1.2.2).length))),())))))))))):Option ((Unit×(Unit×(Unit×(Bool×(Unit×(Unit×Unit))))))×((((((Int×Int)×((Int×(Int×Int))×(Int×((Int×(Int×Int))×(Int×(Int×Int))))))×((Int×Int)×((Int×(Int×Int))×(Int×((Int×(Int×Int))×(Int×(Int×Int)))))))×(((Int×(Int×Int))×(Int×(Int×Int)))×((List (List (Int×Int)))×((List (ByteArray×((Int×Int)×(Int×(Int×Int)))))×((List (ByteArray×((List (Int×Int))×Int)))×((List Int)×(Int×((Int×(Int×Int))×((Int×(Int×Int))×((List (List (Int×Int)))×(Int×Int)))))))))))×Unit)×(((((Int×(Int×Int))×(Int×(Int×Int)))×((Int×Int)×(List Int)))×Unit)×(((Int×(Int×Int))×Unit)×((((((Int×Int)×((Int×(Int×Int))×(Int×((Int×(Int×Int))×(Int×(Int×Int))))))×((Int×Int)×((Int×(Int×Int))×(Int×((Int×(Int×Int))×(Int×(Int×Int)))))))×(((Int×(Int×Int))×(Int×(Int×Int)))×((List (List (Int×Int)))×((List (ByteArray×((Int×Int)×(Int×(Int×Int)))))×((List (ByteArray×((List (Int×Int))×Int)))×((List Int)×(Int×((Int×(Int×Int))×((Int×(Int×Int))×((List (List (Int×Int)))×(Int×Int)))))))))))×Unit)×(((((Int×(Int×Int))×(Int×(Int×Int)))×(Int×Int))×(Int×Unit))×(Unit×((List Int)×Unit)))))))))).bind fun j1096=>(br (decide (0+(Int.toNat j1096.2.2.2.2.2.1.2.1)≤(j1096.2.2.2.2.2.2.2.1).length)) ((Z23 n j1096.2.1.1 (j1096.2.2.2.2.2.1.1.1,(j1096.2.2.2.2.2.1.1.2,((j1096.2.2.2.2.2.2.2.1).take (Int.toNat j1096.2.2.2.2.2.1.2.1))))).bind fun x1097=>(br (!x1097) (br j1096.1.2.2.2.1 ((Z22 n j1096.2.2.2.2.1.1 j1096.2.2.1.1 j1096.2.2.2.1.1).bind fun x1098=>some x1098) (some false)) (br j1096.1.2.2.2.1 ((Z22 n j1096.2.2.2.2.1.1 j1096.2.2.1.1 j1096.2.2.2.1.1).bind fun x1099=>(br x1099 (br (decide (0+(Int.toNat j1096.2.2.2.2.2.1.2.1)≤(j1096.2.2.2.2.2.2.2.1).length)) ((Z22 n j1096.2.1.1 (j1096.2.2.2.2.2.1.1.1,(j1096.2.2.2.2.2.1.1.2,((j1096.2.2.2.2.2.2.2.1).take (Int.toNat j1096.2.2.2.2.2.1.2.1)))) j1096.2.2.2.1.1).bind fun x1100=>(br x1100 (br (decide (0+(Int.toNat j1096.2.2.2.2.2.1.2.1)≤(j1096.2.2.2.2.2.2.2.1).length)) ((Z22 n j1096.2.2.2.2.1.1 (j1096.2.2.2.2.2.1.1.1,(j1096.2.2.2.2.2.1.1.2,((j1096.2.2.2.2.2.2.2.1).take (Int.toNat j1096.2.2.2.2.2.1.2.1)))) j1096.2.2.2.1.1).bind fun x1101=>some x1101) none) (some false))) none) (some false))) (some false)))) none)) none)))))) true:=by
 refine Ev.bind headEv ?_
 obtain⟨b,eb,hb⟩:=fitsEv c w
 refine Ev.bind eb ?_
 cases b with
 | false=>exact Ev.pure _
 | true =>
  obtain⟨hc,hw⟩:=hb rfl
  have hfl:=hc.fixl
  have hwl:w.2.2.length≤8:=by have:=hw.wlen;have:=hc.partl;omega
  simp only[Bool.not_true,br_f]
  refine Ev.bind (freeEv hc hw m) ?_
  cases hf:free c w m with
  | false=>exact Ev.pure _
  | true =>
  simp only[Bool.not_true,br_f]
  obtain⟨d,hd1,hd2,hd3,hd⟩:∃ d:CellT,COk d∧WOk d w∧Wider c d∧d=(if 0<c.2.2.1.length then (c.1,(c.2.1,(c.2.2.1.take (k0 % (c.2.2.1.length:Int)).toNat ++ c.2.2.1.drop ((k0 % (c.2.2.1.length:Int)).toNat+1),c.2.2.2))) else c):=by
   by_cases h0:0<c.2.2.1.length
   ·have h1:=Int.emod_nonneg k0 (b:=(c.2.2.1.length:Int)) (by omega)
    have h2:=Int.emod_lt_of_pos k0 (b:=(c.2.2.1.length:Int)) (by omega)
    generalize hkk:(k0 % (c.2.2.1.length:Int)).toNat=k
    have l1:(c.2.2.1.take k).length=k:=by rw[List.length_take];omega
    have l2:(c.2.2.1.drop (k+1)).length=c.2.2.1.length-(k+1):=List.length_drop ..
    have hs:∀ p∈c.2.2.1.take k ++ c.2.2.1.drop (k+1),p∈c.2.2.1:=fun p hp=>by
     rcases List.mem_append.1 hp with h | h
     ·exact List.mem_of_mem_take h
     ·exact List.mem_of_mem_drop h
    rw[if_pos h0]
    exact⟨lessC c (c.2.2.1.take k ++ c.2.2.1.drop (k+1)),lessC_ok hc (by rw[List.length_append,l1,l2];omega) hs,lessC_wok hw _,lessC_wider hs,rfl⟩
   ·rw[if_neg h0]
    exact⟨c,hc,hw,⟨⟨rfl,rfl,rfl⟩,⟨rfl,rfl,rfl⟩,fun _ h=>h,fun _ h=>h,rfl,rfl,fun _ h=>h⟩,rfl⟩
  refine Ev.bind (x:=((k0,((),((),((),(true,((),())))))),((c,()),((w,()),((m,()),((d,()),())))))) ?_ ?_
  ·by_cases h0:0<c.2.2.1.length
   ·obtain⟨k,k1,k2,k3⟩:=tmodk c.2.2.1.length (by omega) (by omega) hk
    have hkk:(k0 % (c.2.2.1.length:Int)).toNat=k:=by
     rw[w64 (n:=k0) (by omega) (by omega),Int.tmod_eq_emod_of_nonneg hk.1] at k1
     omega
    rw[if_pos h0,hkk] at hd
    simp only[k1,k3,Int.toNat_natCast,List.nil_append,List.drop_zero,Int.toNat_zero,List.take_length,List.length_nil,Nat.zero_add]
    have l1:(c.2.2.1.take k).length=k:=by rw[List.length_take];omega
    have l2:(c.2.2.1.drop (k+1)).length=c.2.2.1.length-(k+1):=List.length_drop ..
    simp (disch:=omega) only [br_neg,br_pos,l1,l2]
    rw[hd]
    exact Ev.pure _
   ·rw[if_neg h0] at hd
    simp (disch:=omega) only [br_neg]
    rw[hd]
    exact Ev.pure _
  ·clear hd
   have hfd:=hd3.free hf
   simp (disch:=omega) only [br_pos,List.length_nil,List.take_nil,List.drop_nil,List.nil_append,List.append_nil,Nat.zero_add]
   obtain⟨l,hl1,hl2,hl⟩:∃ l:List Int,l.length=w.2.2.length∧(∀ f:CellT,(resting f 0 l).Sublist (resting f 0 w.2.2))∧l=(if 0<w.2.2.length then w.2.2.set (k0 % (w.2.2.length:Int)).toNat (-1) else w.2.2):=by
    by_cases h0:0<w.2.2.length
    ·rw[if_pos h0];exact⟨_,by simp,fun f=>resting_set f w.2.2 0 _,rfl⟩
    ·rw[if_neg h0];exact⟨_,rfl,fun f=>List.Sublist.refl _,rfl⟩
   refine Ev.bind (x:=(((),((),((),(true,((),((),())))))),((c,()),((w,()),((m,()),((d,()),(((w.1,w.2.1),(((w.2.2.length:Nat):Int),())),((),(l,()))))))))) ?_ ?_
   ·by_cases h0:0<w.2.2.length
    ·obtain⟨k,k1,k2,k3⟩:=tmodk w.2.2.length (by omega) (by omega) hk
     have hkk:(k0 % (w.2.2.length:Int)).toNat=k:=by
      rw[w64 (n:=k0) (by omega) (by omega),Int.tmod_eq_emod_of_nonneg hk.1] at k1
      omega
     rw[if_pos h0,hkk] at hl
     have g:w.2.2[k]?=some w.2.2[k]:=List.getElem?_eq_getElem k2
     simp (disch:=omega) only [k1,Int.toNat_natCast,br_pos,br_neg,g,Option.bind_some]
     rw[hl]
     exact Ev.pure _
    ·rw[if_neg h0] at hl
     simp (disch:=omega) only [br_neg]
     rw[hl]
     exact Ev.pure _
   ·clear hl
    have ht:l.take w.2.2.length=l:=List.take_of_length_le (by omega)
    have hfv:=free_less (hl2 c) hf
    have hfdv:=free_less (hl2 d) hfd
    obtain⟨b2,e2,hb2⟩:=stateEv hc (lessW w l) (show l.length≤8 by omega)
    simp (disch:=omega) only [Int.toNat_natCast,br_pos,ht,br_t]
    refine Ev.bind e2 ?_
    cases b2 with
    | false =>
     refine Ev.bind (freeEv hd1 hd2 m) ?_
     rw[hfd]
     exact Ev.pure _
    | true =>
     have hv:=hb2 rfl
     have hdv:WOk d (lessW w l):=⟨hd2.lim0,hd2.lim1,(show l.length=_ by rw[hl1];exact hd2.wlen),(by
      have:=hv.whr
      have e:d.2.2.2.1=c.2.2.2.1:=hd3.places
      intro k hk2
      rw[e];exact this k hk2),hd2.held0,hd2.held1⟩
     simp only[Bool.not_true,br_f]
     refine Ev.bind (freeEv hd1 hd2 m) ?_
     rw[hfd]
     simp only[br_t]
     refine Ev.bind (freeEv hc hv m) ?_
     rw[hfv]
     simp only[br_t]
     refine Ev.bind (freeEv hd1 hdv m) ?_
     rw[hfdv]
     exact Ev.pure _
end Go.Jm
