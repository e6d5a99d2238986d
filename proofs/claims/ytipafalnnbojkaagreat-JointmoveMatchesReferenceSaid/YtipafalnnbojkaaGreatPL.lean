import Derived.Test.YtipafalnnbojkaaGreatPA
import Derived.Test.YtipafalnnbojkaaGreatPC
import Derived.Test.YtipafalnnbojkaaGreatPF
import Derived.Test.YtipafalnnbojkaaGreatPG
import Derived.Test.YtipafalnnbojkaaGreatPH
import Derived.Test.YtipafalnnbojkaaGreatPI
import Derived.Test.YtipafalnnbojkaaGreatPJ
import Derived.Test.YtipafalnnbojkaaGreatPK
set_option linter.unusedVariables false
set_option linter.unusedSimpArgs false
set_option linter.unnecessarySimpa false
set_option linter.unusedSectionVars false
namespace Go.Am
open Go
variable {α β:Type}
def Ev (f:Nat→Option α) (x:α):Prop:=∃ N,∀ n,N≤n→f n=some x
theorem Ev.pure (x:α):Ev (fun _=>some x) x:=⟨0,fun _ _=>rfl⟩
theorem Ev.of_eq {f:Nat→Option α} {x:α} (k:Nat) (h:Ev (fun n=>f (n+k)) x):Ev f x:=by
 obtain⟨N,h⟩:=h
 refine⟨N+k,fun n hn=>?_⟩
 have:=h (n-k) (by omega)
 simp only at this
 rwa [Nat.sub_add_cancel (by omega)] at this
theorem Ev.shift {f:Nat→Option α} {x:α} (h:Ev f x) (k:Nat):Ev (fun n=>f (n+k)) x:=by
 obtain⟨N,h⟩:=h
 exact⟨N,fun n hn=>h _ (by omega)⟩
theorem Ev.bind {f:Nat→Option α} {g:Nat→α→Option β} {x:α} {y:β} (h:Ev f x) (k:Ev (fun n=>g n x) y):Ev (fun n=>(f n).bind (g n)) y:=by
 obtain⟨N,h⟩:=h
 obtain⟨M,k⟩:=k
 refine⟨max N M,fun n hn=>?_⟩
 show (f n).bind (g n)=_
 rw[h n (by omega)]
 exact k n (by omega)
theorem Ev.some {f:Nat→α→Option β} {x:α} {y:β} (k:Ev (fun n=>f n x) y):Ev (fun n=>(Option.some x).bind (f n)) y:=k
theorem Ev.ite_pos {f g:Nat→Option α} {p:Prop} [Decidable p] {x:α} (h:p) (k:Ev f x):Ev (fun n=>br (decide p) (f n) (g n)) x:=by
 rw[decide_eq_true h];exact k
theorem Ev.ite_neg {f g:Nat→Option α} {p:Prop} [Decidable p] {x:α} (h:¬ p) (k:Ev g x):Ev (fun n=>br (decide p) (f n) (g n)) x:=by
 rw[decide_eq_false h];exact k
theorem Ev.nite_pos {f g:Nat→Option α} {p:Prop} [Decidable p] {x:α} (h:p) (k:Ev g x):Ev (fun n=>br (!decide p) (f n) (g n)) x:=by
 rw[decide_eq_true h];exact k
theorem Ev.nite_neg {f g:Nat→Option α} {p:Prop} [Decidable p] {x:α} (h:¬ p) (k:Ev f x):Ev (fun n=>br (!decide p) (f n) (g n)) x:=by
 rw[decide_eq_false h];exact k
theorem Ev.br_true {f g:Nat→Option α} {b:Bool} {x:α} (h:b=true) (k:Ev f x):Ev (fun n=>br b (f n) (g n)) x:=by
 rw[h];exact k
theorem Ev.br_false {f g:Nat→Option α} {b:Bool} {x:α} (h:b=false) (k:Ev g x):Ev (fun n=>br b (f n) (g n)) x:=by
 rw[h];exact k
theorem Ev.get {l:List α} {i:Nat} {f:Nat→α→Option β} {a:α} {y:β} (h:l[i]?=Option.some a) (k:Ev (fun n=>f n a) y):Ev (fun n=>(l[i]?).bind (f n)) y:=by
 rw[h];exact k
theorem Ev.congr {f:Nat→Option α} {x y:α} (h:Ev f x) (e:x=y):Ev f y:=e▸h
theorem i64_eq (n:Int):IntKind.i64.wrap n=(n+9223372036854775808) % 18446744073709551616-9223372036854775808:=by
 show (if (true && decide (n % 18446744073709551616≥9223372036854775808))=true then n % 18446744073709551616-18446744073709551616 else n % 18446744073709551616)=_
 simp only[Bool.true_and,decide_eq_true_eq]
 split <;> omega
theorem w64 {n:Int} (h1:-9223372036854775808≤n) (h2:n≤9223372036854775807):IntKind.i64.wrap n=n:=by
 rw[i64_eq];omega
end Go.Am
namespace Go.Am
open Go
theorem br_pos {R:Type} {p:Prop} [Decidable p] {x y:Option R} (h:p):br (decide p) x y=x:=by rw[decide_eq_true h];rfl
theorem br_neg {R:Type} {p:Prop} [Decidable p] {x y:Option R} (h:¬ p):br (decide p) x y=y:=by rw[decide_eq_false h];rfl
theorem nbr_pos {R:Type} {p:Prop} [Decidable p] {x y:Option R} (h:p):br (!decide p) x y=y:=by rw[decide_eq_true h];rfl
theorem nbr_neg {R:Type} {p:Prop} [Decidable p] {x y:Option R} (h:¬ p):br (!decide p) x y=x:=by rw[decide_eq_false h];rfl
theorem br_t {R:Type} {x y:Option R}:br true x y=x:=rfl
theorem br_f {R:Type} {x y:Option R}:br false x y=y:=rfl
theorem wr1 (i:Nat) (h:i<9223372036854775807):IntKind.i64.wrap ((i:Int)+1)=((i+1:Nat):Int):=by rw[w64 (by omega) (by omega)];rfl
theorem wm1 (i:Nat) (h:i<9223372036854775807):IntKind.i64.wrap ((i:Int)-1)=(i:Int)-1:=w64 (by omega) (by omega)
theorem wm2 (i:Nat) (h:i<9223372036854775807):IntKind.i64.wrap ((i:Int)-2)=(i:Int)-2:=w64 (by omega) (by omega)
theorem tonat_sub1 (i:Nat):((i:Int)-1).toNat=i-1:=by omega
theorem tonat_sub2 (i:Nat):((i:Int)-2).toNat=i-2:=by omega
theorem gdrop {α:Type} {l:List α} {i:Nat} {x:α} {r:List α} (h:l.drop i=x :: r):l[i]?=some x∧l.drop (i+1)=r∧i<l.length:=by
 have h1:(l.drop i)[0]?=some x:=by rw[h];rfl
 rw[List.getElem?_drop,Nat.add_zero] at h1
 refine⟨h1,?_,(List.getElem?_eq_some_iff.1 h1).1⟩
 rw[← List.drop_drop,h]
 rfl
theorem gdrop_nil {α:Type} {l:List α} {i:Nat} (h:l.drop i=[]):l.length≤i:=List.drop_eq_nil_iff.1 h
end Go.Am
namespace Go.Hu
def outerC (o a b:Int):Int:=o+(9*(a+b-2*o)).tdiv 16
def outerP (o a b:Pt):Pt:=(outerC o.1 a.1 b.1,outerC o.2 a.2 b.2)
def points (o:Pt) (a b:List Pt):List Pt:=a ++ b ++ List.zipWith (outerP o) a b
def region (o:Pt) (a b:List Pt):List Pt×Bool:=if a.length≠b.length then ([],false) else if 12<a.length then ([],false) else hullRes (points o a b)
theorem tdiv16 (x:Int):(0≤x→x.tdiv 16=x / 16)∧(x<0→x.tdiv 16 = -((-x) / 16)):=by
 refine⟨fun h=>Int.tdiv_eq_ediv_of_nonneg h,fun h=>?_⟩
 have:x.tdiv 16 = -((-x).tdiv 16):=by rw[Int.neg_tdiv,Int.neg_neg]
 rw[this,Int.tdiv_eq_ediv_of_nonneg (by omega)]
theorem tdiv16_bd {x M:Int} (h1:-(16*M)≤x) (h2:x≤16*M):-M≤x.tdiv 16∧x.tdiv 16≤M:=by
 obtain⟨t1,t2⟩:=tdiv16 x
 by_cases h:0≤x
 ·rw[t1 h];omega
 ·rw[t2 (by omega)];omega
def far (a b:Pt):Int:=(a.1-b.1)*(a.1-b.1)+(a.2-b.2)*(a.2-b.2)
def wrap1 (v out x:Pt):Pt:=if x=v then out else if out=v then x else if side v out x<0 then x else if side v out x=0 then (if far v out<far v x then x else out) else out
def wrapN (v:Pt) (l:List Pt) (out:Pt):Pt:=l.foldl (wrap1 v) out
theorem wrapN_mem (v:Pt):∀ (l:List Pt) (out:Pt),wrapN v l out=out∨wrapN v l out∈l:=by
 intro l
 induction l with
 | nil=>intro out;exact .inl rfl
 | cons x l ih =>
  intro out
  rcases ih (wrap1 v out x) with h | h
  ·have e:wrapN v (x :: l) out=wrapN v l (wrap1 v out x):=rfl
   rw[e,h]
   unfold wrap1
   split
   ·exact .inl rfl
   ·split
    ·exact .inr (by simp)
    ·split
     ·exact .inr (by simp)
     ·split
      ·split
       ·exact .inr (by simp)
       ·exact .inl rfl
      ·exact .inl rfl
  ·exact .inr (List.mem_cons_of_mem _ h)
theorem sq_le {A A' x y:Int} (h1:0≤A') (h2:A'≤A) (e:A*x=A'*y):A*A*(x*x)≤A*A*(y*y)∧(A'<A→y≠0→A*A*(x*x)<A*A*(y*y)):=by
 have e1:A*A*(x*x)=A'*A'*(y*y):=by
  have:A*A*(x*x)=(A*x)*(A*x):=by grind
  rw[this,e];grind
 have hy:0≤y*y:=by
  rcases (by omega:0≤y∨y≤0) with h | h
  ·exact mul_nn h h
  ·have:=mul_nn (show 0≤-y by omega) (show 0≤-y by omega)
   have e2:-y * -y=y*y:=by grind
   omega
 have hA:A'*A'≤A*A:=Int.mul_le_mul h2 h2 h1 (by omega)
 refine⟨by rw[e1];exact Int.mul_le_mul_of_nonneg_right hA hy,fun hlt hy0=>?_⟩
 rw[e1]
 have hA':A'*A'<A*A:=by
  have k1:A'*A'≤A'*A:=Int.mul_le_mul_of_nonneg_left h2 h1
  have k2:A'*A<A*A:=Int.mul_lt_mul_of_pos_right hlt (by omega)
  omega
 have hy1:0<y*y:=by
  rcases Int.lt_or_eq_of_le hy with h | h
  ·exact h
  ·rcases Int.mul_eq_zero.1 h.symm with h | h <;> exact absurd h hy0
 exact Int.mul_lt_mul_of_pos_right hA' hy1
theorem Ring.farthest {S h:List Pt} (R:Ring S h) {i:Nat} (hi:i<h.length) {x:Pt} (hx:x∈S) (hs:side (at_ h i) (at_ h (nx h i)) x=0) (hne:x≠at_ h (nx h i)):far (at_ h i) x<far (at_ h i) (at_ h (nx h i)):=by
 obtain⟨A,A',a1,a2,a3,a4,a5⟩:=R.seg hi hx hs
 have hn:=nx_lt R.pos i
 generalize hv:at_ h i=v at *
 generalize hb:at_ h (nx h i)=b at *
 have hlt:A'<A:=by
  rcases Int.lt_or_eq_of_le a3 with h | h
  ·exact h
  ·exfalso
   subst h
   have e1:=Int.eq_of_mul_eq_mul_left (by omega) a4
   have e2:=Int.eq_of_mul_eq_mul_left (by omega) a5
   exact hne (Prod.ext (by omega) (by omega))
 have hvb:¬ (b.1-v.1=0∧b.2-v.2=0):=fun e=>by
  have hbv:at_ h (nx h i)=at_ h i:=by rw[hb,hv];exact Prod.ext (by omega) (by omega)
  have:=R.inj hn hi hbv
  have hl:=R.len
  rw[nx_val hi] at this
  split at this <;> omega
 obtain⟨p1,p2⟩:=sq_le a2 a3 a4
 obtain⟨q1,q2⟩:=sq_le a2 a3 a5
 have tot:A*A*((x.1-v.1)*(x.1-v.1))+A*A*((x.2-v.2)*(x.2-v.2))<A*A*((b.1-v.1)*(b.1-v.1))+A*A*((b.2-v.2)*(b.2-v.2)):=by
  by_cases h0:b.1-v.1=0
  ·have:=q2 hlt (fun e=>hvb ⟨h0,e⟩);omega
  ·have:=p2 hlt h0;omega
 rw[← Int.mul_add,← Int.mul_add] at tot
 have:=Int.lt_of_mul_lt_mul_left tot (by exact mul_nn (by omega) (by omega))
 have e1:far v x=(x.1-v.1)*(x.1-v.1)+(x.2-v.2)*(x.2-v.2):=by unfold far;grind
 have e2:far v b=(b.1-v.1)*(b.1-v.1)+(b.2-v.2)*(b.2-v.2):=by unfold far;grind
 rw[e1,e2];exact this
theorem Ring.wrap {S h:List Pt} (R:Ring S h) {i:Nat} (hi:i<h.length):∀ (l:List Pt) (out:Pt),(∀ x∈l,x∈S)→out∈S→(out=at_ h (nx h i)∨at_ h (nx h i)∈l)→wrapN (at_ h i) l out=at_ h (nx h i):=by
 intro l
 have hn:=nx_lt R.pos i
 have hbv:at_ h (nx h i)≠at_ h i:=fun e=>by
  have:=R.inj hn hi e
  have hl:=R.len
  rw[nx_val hi] at this
  split at this <;> omega
 have keep:∀ x∈S,wrap1 (at_ h i) (at_ h (nx h i)) x=at_ h (nx h i):=fun x hx=>by
  unfold wrap1
  split
  ·rfl
  ·have hle:=R.left i hi x hx
   rw[if_neg (by omega)]
   split
   ·rename_i hs
    by_cases hxb:x=at_ h (nx h i)
    ·subst hxb;rw[if_neg (by omega)]
    ·have:=R.farthest hi hx hs hxb
     rw[if_neg (by omega)]
   ·rfl
 have take:∀ out∈S,wrap1 (at_ h i) out (at_ h (nx h i))=at_ h (nx h i):=fun out ho=>by
  unfold wrap1
  rw[if_neg hbv]
  split
  ·rfl
  ·have hle:=R.left i hi out ho
   have hsw:side (at_ h i) out (at_ h (nx h i)) = - side (at_ h i) (at_ h (nx h i)) out:=by unfold side;grind
   split
   ·rfl
   ·rename_i h1
    have hs:side (at_ h i) (at_ h (nx h i)) out=0:=by omega
    rw[if_pos (by omega)]
    by_cases hob:out=at_ h (nx h i)
    ·subst hob;split <;> rfl
    ·rw[if_pos (R.farthest hi ho hs hob)]
 induction l with
 | nil =>
  intro out _ _ ho
  rcases ho with h | h
  ·exact h
  ·simp at h
 | cons x l ih =>
  intro out hl hout ho
  have e:wrapN (at_ h i) (x :: l) out=wrapN (at_ h i) l (wrap1 (at_ h i) out x):=rfl
  rw[e]
  have hx:x∈S:=hl x (by simp)
  have hw:wrap1 (at_ h i) out x∈S:=by
   unfold wrap1
   repeat' split
   all_goals first | exact hout | exact hx
  refine ih _ (fun y hy=>hl y (List.mem_cons_of_mem _ hy)) hw ?_
  by_cases hxb:x=at_ h (nx h i)
  ·subst hxb;exact .inl (take out hout)
  ·rcases ho with h | h
   ·subst h;exact .inl (keep x hx)
   ·rcases List.mem_cons.1 h with h | h
    ·exact absurd h.symm hxb
    ·exact .inr h
def wrapAll (l:List Pt) (o:Pt):Nat→List Pt→Pt→List Pt
 | 0,out,_=>out
 | k+1,out,v=>let w:=wrapN v l v;if w=o then out else wrapAll l o k (out ++ [w]) w
theorem Ring.wrapAll_eq {l h:List Pt} (R:Ring l h):∀ (k i:Nat),i<h.length→h.length≤k+i+1→wrapAll l (at_ h 0) (k+1) (h.take (i+1)) (at_ h i)=h:=by
 intro k
 induction k with
 | zero =>
  intro i hi hk
  have hlast:i+1=h.length:=by omega
  have hw:=R.wrap hi l (at_ h i) (fun _ hx=>hx) (R.mem hi) (.inr (R.mem (nx_lt R.pos i)))
  have hn:nx h i=0:=by rw[nx_val hi,if_pos hlast]
  rw[hn] at hw
  simp only[wrapAll,hw,if_true]
  exact List.take_of_length_le (by omega)
 | succ k ih =>
  intro i hi hk
  have hw:=R.wrap hi l (at_ h i) (fun _ hx=>hx) (R.mem hi) (.inr (R.mem (nx_lt R.pos i)))
  by_cases hlast:i+1=h.length
  ·have hn:nx h i=0:=by rw[nx_val hi,if_pos hlast]
   rw[hn] at hw
   rw[wrapAll]
   simp only[hw,if_true]
   exact List.take_of_length_le (by omega)
  ·have hn:nx h i=i+1:=by rw[nx_val hi,if_neg hlast]
   rw[hn] at hw
   have hne:at_ h (i+1)≠at_ h 0:=fun e=>by
    have:=R.inj (by omega) R.pos e
    omega
   rw[wrapAll]
   simp only[hw,if_neg hne]
   have:=ih (i+1) (by omega) (by omega)
   have e:h.take (i+1) ++ [at_ h (i+1)]=h.take (i+1+1):=by rw[List.take_add_one (i:=i+1),get_at (by omega)];rfl
   rw[e];exact this
theorem wrapAll_mem (l:List Pt) (o:Pt):∀ (k:Nat) (out:List Pt) (v:Pt),v∈l→(∀ x∈out,x∈l)→∀ x∈wrapAll l o k out v,x∈l:=by
 intro k
 induction k with
 | zero=>intro out v _ h;exact h
 | succ k ih =>
  intro out v hv h
  unfold wrapAll
  simp only
  split
  ·exact h
  ·have hw:wrapN v l v∈l:=by
    rcases wrapN_mem v l v with e | e
    ·rw[e];exact hv
    ·exact e
   exact ih _ _ hw fun x hx=>by
    rcases List.mem_append.1 hx with hx | hx
    ·exact h x hx
    ·simp only[List.mem_singleton] at hx;rw[hx];exact hw
def convexB (l:List Pt):Bool:=decide (2<l.length) && (List.range l.length).all fun i=>(List.range l.length).all fun j=>decide (j=i) || decide (j=nx l i) || decide (0<side (at_ l i) (at_ l (nx l i)) (at_ l j))
theorem Ring.convex {S h:List Pt} (R:Ring S h):convexB h=true:=by
 have hl:=R.len
 simp only[convexB,Bool.and_eq_true,decide_eq_true_eq,List.all_eq_true,List.mem_range,Bool.or_eq_true]
 refine⟨by omega,fun i hi j hj=>?_⟩
 by_cases h1:j=i
 ·exact .inl (.inl h1)
 ·by_cases h2:j=nx h i
  ·exact .inl (.inr h2)
  ·exact .inr (R.strict i hi j hj h1 h2)
theorem convex_line {l:List Pt} (h:∀ a b c,a∈l→b∈l→c∈l→side a b c=0):convexB l=false:=by
 rw[Bool.eq_false_iff]
 intro hc
 simp only[convexB,Bool.and_eq_true,decide_eq_true_eq,List.all_eq_true,List.mem_range,Bool.or_eq_true] at hc
 have h1:nx l 0=1:=by rw[nx_val (by omega),if_neg (by omega)]
 have:=hc.2 0 (by omega) 2 (by omega)
 rw[h1] at this
 have h0:=h _ _ _ (at_mem (h:=l) (i:=0) (by omega)) (at_mem (h:=l) (i:=1) (by omega)) (at_mem (h:=l) (i:=2) (by omega))
 omega
def firstP (o:Pt) (l:List Pt):Pt:=l.foldl (fun f x=>if x.1<f.1∨(x.1=f.1∧x.2<f.2) then x else f) o
theorem firstP_spec:∀ (l:List Pt) (o:Pt),(firstP o l=o∨firstP o l∈l)∧(∀ q,q=o∨q∈l→q=firstP o l∨before true (firstP o l) q):=by
 intro l
 induction l with
 | nil=>intro o;exact⟨.inl rfl,fun q hq=>.inl (by rcases hq with h | h;exact h;simp at h)⟩
 | cons x l ih =>
  intro o
  have e:firstP o (x :: l)=firstP (if x.1<o.1∨(x.1=o.1∧x.2<o.2) then x else o) l:=rfl
  rw[e]
  by_cases hb:x.1<o.1∨(x.1=o.1∧x.2<o.2)
  ·rw[if_pos hb]
   obtain⟨i1,i2⟩:=ih x
   refine⟨?_,fun q hq=>?_⟩
   ·rcases i1 with h | h
    ·rw[h];exact .inr (by simp)
    ·exact .inr (List.mem_cons_of_mem _ h)
   ·rcases hq with rfl | hq
    ·have hb':before true x q:=hb
     rcases i2 x (.inl rfl) with h | h
     ·rw[← h];exact .inr hb'
     ·exact .inr (before_trans h hb')
    ·rcases List.mem_cons.1 hq with rfl | hq
     ·exact i2 _ (.inl rfl)
     ·exact i2 q (.inr hq)
  ·rw[if_neg hb]
   obtain⟨i1,i2⟩:=ih o
   refine⟨?_,fun q hq=>?_⟩
   ·rcases i1 with h | h
    ·exact .inl h
    ·exact .inr (List.mem_cons_of_mem _ h)
   ·rcases hq with rfl | hq
    ·exact i2 _ (.inl rfl)
    ·rcases List.mem_cons.1 hq with rfl | hq
     ·have hle:q=o∨before true o q:=by
       rcases before_total true q o with h | h | h
       ·exact absurd h hb
       ·exact .inl h
       ·exact .inr h
      rcases hle with rfl | hle
      ·exact i2 _ (.inl rfl)
      ·rcases i2 o (.inl rfl) with h | h
       ·rw[← h];exact .inr hle
       ·exact .inr (before_trans h hle)
     ·exact i2 q (.inr hq)
theorem nodup_le:∀ (h l:List Pt),h.Nodup→(∀ x∈h,x∈l)→h.length≤l.length:=by
 intro h
 induction h with
 | nil=>intro l _ _;simp
 | cons x h ih =>
  intro l hn hs
  obtain⟨n1,n2⟩:=List.nodup_cons.1 hn
  have hx:=hs x (by simp)
  have:=ih (l.erase x) n2 fun y hy=>(List.mem_erase_of_ne (fun e=>n1 (by rw[← e];exact hy))).2 (hs y (List.mem_cons_of_mem _ hy))
  rw[List.length_erase_of_mem hx] at this
  have hp:0<l.length:=List.length_pos_of_mem hx
  simp only[List.length_cons]
  omega
def refRes:List Pt→List Pt×Bool
 | []=>([],false)
 | o :: l =>
  if (o :: l).length<3 then ([],false) else
  let f:=firstP o l
  let out:=wrapAll (o :: l) f (o :: l).length [f] f
  if convexB out=true then (out,true) else ([],false)
theorem refRes_cons (o:Pt) (l:List Pt):refRes (o :: l)=if (o :: l).length<3 then ([],false) else if convexB (wrapAll (o :: l) (firstP o l) (o :: l).length [firstP o l] (firstP o l))=true then (wrapAll (o :: l) (firstP o l) (o :: l).length [firstP o l] (firstP o l),true) else ([],false):=rfl
theorem refRes_eq (l:List Pt):refRes l=hullRes l:=by
 cases l with
 | nil =>
  have:sortPts []=[]:=List.eq_nil_of_length_eq_zero (by rw[sort_length];rfl)
  unfold hullRes
  rw[this]
  rfl
 | cons o l =>
  have hf:=firstP_spec l o
  have hfm:firstP o l∈o :: l:=by
   rcases hf.1 with h | h
   ·rw[h];simp
   ·exact List.mem_cons_of_mem _ h
  rw[refRes_cons]
  rcases hullRes_spec (o :: l) with ⟨h1,h2⟩ | ⟨h,h1,R⟩
  ·rw[h1]
   split
   ·rfl
   ·rw[if_neg]
    rw[convex_line fun a b c ha hb hc=>h2 a b c (wrapAll_mem _ _ _ _ _ hfm (fun x hx=>by rw[List.mem_singleton.1 hx];exact hfm) _ ha) (wrapAll_mem _ _ _ _ _ hfm (fun x hx=>by rw[List.mem_singleton.1 hx];exact hfm) _ hb) (wrapAll_mem _ _ _ _ _ hfm (fun x hx=>by rw[List.mem_singleton.1 hx];exact hfm) _ hc)]
    simp
  ·rw[h1]
   have hnd:h.Nodup:=by
    unfold List.Nodup
    rw[List.pairwise_iff_getElem]
    intro i j hi hj hij e
    have e1:at_ h i=h[i]:=at_of (List.getElem?_eq_getElem hi)
    have e2:at_ h j=h[j]:=at_of (List.getElem?_eq_getElem hj)
    have:=R.inj hi hj (by rw[e1,e2];exact e)
    omega
   have hle:h.length≤(o :: l).length:=nodup_le h _ hnd R.sub
   have hl3:=R.len
   rw[if_neg (by omega)]
   have hfirst:firstP o l=at_ h 0:=by
    have hm:=R.mem R.pos
    rcases R.first _ hfm with e | e
    ·exact e
    ·rcases hf.2 (at_ h 0) (List.mem_cons.1 hm) with e' | e'
     ·exact e'.symm
     ·exact (before_asymm e e').elim
   simp only[hfirst]
   have hout:wrapAll (o :: l) (at_ h 0) (o :: l).length [at_ h 0] (at_ h 0)=h:=by
    have:=R.toRing.wrapAll_eq l.length 0 R.pos (by simp only[List.length_cons] at hle;omega)
    have e:h.take (0+1)=[at_ h 0]:=by rw[List.take_add_one,get_at R.pos];rfl
    rw[e] at this
    exact this
   rw[hout,if_pos R.convex]
end Go.Hu
namespace Go.Hu
theorem Ring.len_le {S h:List Pt} (R:Ring S h):h.length≤S.length:=by
 refine nodup_le h _ ?_ R.sub
 unfold List.Nodup
 rw[List.pairwise_iff_getElem]
 intro i j hi hj hij e
 have e1:at_ h i=h[i]:=at_of (List.getElem?_eq_getElem hi)
 have e2:at_ h j=h[j]:=at_of (List.getElem?_eq_getElem hj)
 have:=R.inj hi hj (by rw[e1,e2];exact e)
 omega
theorem hullRes_len (l:List Pt):(hullRes l).1.length≤l.length:=by
 rcases hullRes_spec l with ⟨h,_⟩ | ⟨h,e,H⟩
 ·rw[h];simp
 ·rw[e];exact H.len_le
theorem hullRes_mem (l:List Pt):∀ x∈(hullRes l).1,x∈l:=by
 rcases hullRes_spec l with ⟨h,_⟩ | ⟨h,e,H⟩
 ·rw[h];simp
 ·rw[e];exact H.sub
theorem at_map {h:List Pt} {f:Pt→Pt} {i:Nat} (hi:i<h.length):at_ (h.map f) i=f (at_ h i):=at_of (by rw[List.getElem?_map,get_at hi];rfl)
theorem nx_map {h:List Pt} {f:Pt→Pt} {i:Nat}:nx (h.map f) i=nx h i:=by simp[nx]
theorem Ring.map {S h:List Pt} (R:Ring S h) {f:Pt→Pt} (hf:∀ a b c,side (f a) (f b) (f c)=side a b c):Ring (S.map f) (h.map f):=by
 refine⟨by simpa using R.len,fun x hx=>?_,fun i hi q hq=>?_,fun i hi j hj h1 h2=>?_⟩
 ·obtain⟨y,hy,rfl⟩:=List.mem_map.1 hx
  exact List.mem_map_of_mem (R.sub y hy)
 ·have hi':i<h.length:=by simpa using hi
  obtain⟨y,hy,rfl⟩:=List.mem_map.1 hq
  rw[nx_map,at_map hi',at_map (nx_lt R.pos i),hf]
  exact R.left i hi' y hy
 ·have hi':i<h.length:=by simpa using hi
  have hj':j<h.length:=by simpa using hj
  rw[nx_map] at h2
  rw[nx_map,at_map hi',at_map (nx_lt R.pos i),at_map hj',hf]
  exact R.strict i hi' j hj' h1 h2
theorem IsHull.map {S h:List Pt} (R:IsHull S h) {f:Pt→Pt} (hf:∀ a b c,side (f a) (f b) (f c)=side a b c) (hb:∀ a b,before true a b→before true (f a) (f b)):IsHull (S.map f) (h.map f):=by
 refine⟨R.toRing.map hf,fun q hq=>?_⟩
 obtain⟨y,hy,rfl⟩:=List.mem_map.1 hq
 rw[at_map R.pos]
 rcases R.first y hy with h | h
 ·exact .inl (by rw[h])
 ·exact .inr (hb _ _ h)
end Go.Hu
namespace Go.Hu
def inT (a b c x:Pt):Bool:=decide (0≤side a b x) && (decide (0≤side b c x) && decide (0≤side c a x))
def clearB (l:List Pt) (i k:Nat):Bool:=decide (k=pv l i) || (decide (k=i) || (decide (k=nx l i) || !inT (at_ l (pv l i)) (at_ l i) (at_ l (nx l i)) (at_ l k)))
def earB (l:List Pt) (i:Nat):Bool:=decide (0<side (at_ l (pv l i)) (at_ l i) (at_ l (nx l i))) && (List.range l.length).all (clearB l i)
def firstF (p:Nat→Bool):Nat→Nat→Option Nat
 | 0,_=>none
 | k+1,i=>if p i=true then some i else firstF p k (i+1)
theorem firstF_some {p:Nat→Bool}:∀ {k i j:Nat},firstF p k i=some j→i≤j∧j<i+k∧p j=true:=by
 intro k
 induction k with
 | zero=>intro i j h;cases h
 | succ k ih =>
  intro i j h
  unfold firstF at h
  split at h
  ·rename_i hp;cases h;exact⟨Nat.le_refl _,by omega,hp⟩
  ·obtain⟨h1,h2,h3⟩:=ih h;exact⟨by omega,by omega,h3⟩
def ear (l:List Pt):Option Nat:=firstF (earB l) l.length 0
def rest (l:List Pt) (i:Nat):List Pt:=l.take i ++ l.drop (i+1)
def tri (l:List Pt) (i:Nat):List Pt:=[at_ l (pv l i),at_ l i,at_ l (nx l i)]
def cutE:Nat→List Pt→List (List Pt)→List (List Pt)
 | k+1,l,out=>if 3<l.length then match ear l with
   | none=>[]
   | some i=>cutE k (rest l i) (out ++ [tri l i])
  else out ++ [l]
 | 0,l,out=>out ++ [l]
def decomp (p:List Pt):List (List Pt):=if convexB p=true then [p] else cutE p.length p []
theorem rest_len {l:List Pt} {i:Nat} (h:i<l.length):(rest l i).length+1=l.length:=by simp[rest];omega
theorem rest_mem {l:List Pt} {i:Nat}:∀ x∈rest l i,x∈l:=fun x h=>by
 rcases List.mem_append.1 h with h | h
 ·exact List.mem_of_mem_take h
 ·exact List.mem_of_mem_drop h
theorem pv_lt {l:List Pt} (h:0<l.length) (i:Nat):pv l i<l.length:=Nat.mod_lt _ h
end Go.Hu
namespace Go.Mo
open Go.Hu
abbrev J3:=Int×(Int×Int)
abbrev Dir:=Int×(Int×Int)
abbrev ArmT:=Pt×(J3×(Int×(J3×J3)))
abbrev PlaceT:=ByteArray×(Pt×Dir)
abbrev PartT:=ByteArray×(List Pt×Int)
abbrev LimT:=Int×(Int×Int)
abbrev CellT:=(ArmT×ArmT)×((J3×J3)×(List (List Pt)×(List PlaceT×(List PartT×(List Int×(Int×(LimT×(LimT×(List (List Pt)×(Int×Int))))))))))
abbrev StateT:=(J3×J3)×((Int×Int)×List Int)
abbrev MoveT:=Int×(Int×Int)
abbrev BodyT:=Int×(Int×(Int×List Pt))
abbrev PairT:=BodyT×BodyT
def tab9:List Pt:=[(65,0),(63,16),(60,25),(56,33),(52,39),(39,52),(33,56),(25,60),(16,63)]
def leftN:Nat→Pt→Pt
 | 0,v=>v
 | k+1,v=>leftN k (-v.2,v.1)
def csN (k:Nat):Pt:=leftN (k / 9) (at_ tab9 (k % 9))
def cs (q:Int):Pt:=csN (if q<0 then q+36 else q).toNat
def turn (d:Dir) (q:Int):Dir:=(d.1*(cs q).1-d.2.1*(cs q).2,(d.1*(cs q).2+d.2.1*(cs q).1,d.2.2+1))
def pow65 (n:Int):Int:=if n=0 then 1 else if n=1 then 65 else if n=2 then 4225 else 274625
def DirOk (n:Int) (d:Dir):Prop:=d.2.2=n∧(0≤n∧n≤3)∧d.1*d.1+d.2.1*d.2.1=pow65 n*pow65 n
def dirs (q:J3):Dir×(Dir×Dir):=(turn (1,(0,0)) q.1,(turn (turn (1,(0,0)) q.1) q.2.1,turn (turn (turn (1,(0,0)) q.1) q.2.1) q.2.2))
def off (d:Dir) (k:Int):Pt:=(k*(4394000 / pow65 d.2.2)*d.1,k*(4394000 / pow65 d.2.2)*d.2.1)
def add (a b:Pt):Pt:=(a.1+b.1,a.2+b.2)
def sub (a b:Pt):Pt:=(a.1-b.1,a.2-b.2)
def jpts (a:ArmT) (q:J3):Pt×(Pt×(Pt×Pt)) :=
 let p1:=add a.1 (off (dirs q).1 a.2.1.1)
 let p2:=add p1 (off (dirs q).2.1 a.2.1.2.1)
 (a.1,(p1,(p2,add p2 (off (dirs q).2.2 a.2.1.2.2))))
def link (a:ArmT) (d:Dir) (p r:Pt):List Pt :=
 let f:=off d a.2.2.1
 let s:Pt:=(-f.2,f.1)
 [sub p s,sub r s,add r s,add p s]
def links (a:ArmT) (q:J3):List Pt×(List Pt×List Pt) :=
 (link a (dirs q).1 (jpts a q).1 (jpts a q).2.1,(link a (dirs q).2.1 (jpts a q).2.1 (jpts a q).2.2.1,link a (dirs q).2.2 (jpts a q).2.2.1 (jpts a q).2.2.2))
def inLim (a:ArmT) (q:J3):Bool :=
 decide ((a.2.2.2.1.1≤q.1∧q.1≤a.2.2.2.2.1)∧(a.2.2.2.1.2.1≤q.2.1∧q.2.1≤a.2.2.2.2.2.1)∧(a.2.2.2.1.2.2≤q.2.2∧q.2.2≤a.2.2.2.2.2.2))
def bump (q:J3) (j b:Int):J3:=if j=0 then (q.1+b,q.2) else if j=1 then (q.1,(q.2.1+b,q.2.2)) else (q.1,(q.2.1,q.2.2+b))
def stepJ (a:ArmT) (q:J3) (j b:Int):J3×Bool :=
 if (0≤j∧j<3)∧(b=1∨b = -1)∧inLim a (bump q j b)=true then (bump q j b,true) else ((0,(0,0)),false)
def armOf (c:CellT) (i:Int):ArmT:=if i=0 then c.1.1 else c.1.2
def conf (w:StateT) (i:Int):J3:=if i=0 then w.1.1 else w.1.2
def setQ (w:StateT) (i:Int) (q:J3):StateT:=if i=0 then ((q,w.1.2),w.2) else ((w.1.1,q),w.2)
def next (c:CellT) (w:StateT) (m:MoveT):StateT×Bool :=
 if 0≤m.1∧m.1≤1∧(stepJ (armOf c m.1) (conf w m.1) m.2.1 m.2.2).2=true then (setQ w m.1 (stepJ (armOf c m.1) (conf w m.1) m.2.1 m.2.2).1,true)
 else ((((0,(0,0)),(0,(0,0))),((0,0),[])),false)
def partPt (o:Pt) (d:Dir) (x:Pt):Pt:=(o.1+16*(x.1*d.1-x.2*d.2.1),o.2+16*(x.1*d.2.1+x.2*d.1))
def outlAt (p:PartT) (o:Pt) (d:Dir):List Pt:=p.2.1.map (partPt o d)
def lset (i:Int) (l:List Pt×(List Pt×List Pt)):List BodyT:=[(1,(i,(0,l.1))),(1,(i,(1,l.2.1))),(1,(i,(2,l.2.2)))]
def prtOf (c:CellT) (k:Int):PartT:=(c.2.2.2.2.1[k.toNat]?).getD (ByteArray.empty,([],0))
def plcOf (c:CellT) (k:Int):PlaceT:=(c.2.2.2.1[k.toNat]?).getD (ByteArray.empty,((0,0),(0,(0,0))))
def held (c:CellT) (a:ArmT) (q:J3) (i h:Int):List BodyT:=if h<0 then [] else [(2,(i,(0,outlAt (prtOf c h) (jpts a q).2.2.2 (dirs q).2.2)))]
def resting (c:CellT):Nat→List Int→List BodyT
 | _,[]=>[]
 | i,k :: l=>(if 0≤k then [((3:Int),((i:Int),((0:Int),outlAt (prtOf c i) (plcOf c k).2.1 (plcOf c k).2.2)))] else []) ++ resting c (i+1) l
def fixed:Nat→List (List Pt)→List BodyT
 | _,[]=>[]
 | i,p :: l=>(4,((i:Int),(0,p))) :: fixed (i+1) l
def arms6 (c:CellT) (w:StateT):List BodyT:=lset 0 (links c.1.1 w.1.1) ++ lset 1 (links c.1.2 w.1.2)
def bodies (c:CellT) (w:StateT):List BodyT :=
 arms6 c w ++ (held c c.1.1 w.1.1 0 w.2.1.1 ++ (held c c.1.2 w.1.2 1 w.2.1.2 ++ (resting c 0 w.2.2 ++ fixed 0 c.2.2.1)))
def bar (a b:BodyT):Bool :=
 if a.1=1 then
  if b.1=1 then decide (a.2.1≠b.2.1) || (decide (a.2.2.1=0) && decide (b.2.2.1=2))
  else if b.1=2 then decide (a.2.1≠b.2.1) || decide (a.2.2.1=0)
  else if b.1=3 then decide (a.2.2.1<2) else decide (b.1=4)
 else if a.1=2 then decide (b.1=2) || (decide (b.1=3) || decide (b.1=4)) else false
def pairsOf:List BodyT→List PairT
 | []=>[]
 | a :: l=>(l.filter (bar a)).map (fun b=>(a,b)) ++ pairsOf l
def moves (m:MoveT) (b:BodyT):Bool:=decide (b.2.1=m.1) && (decide (b.1=1) && decide (m.2.1≤b.2.2.1) || decide (b.1=2))
def alike (a b:BodyT):Bool:=decide (a.1=b.1) && (decide (a.2.1=b.2.1) && decide (a.2.2.1=b.2.2.1))
def sweptB (o:Pt) (b:BodyT):List BodyT→BodyT
 | []=>b
 | x :: l=>if alike x b=true then (b.1,(b.2.1,(b.2.2.1,(region o b.2.2.2 x.2.2.2).1))) else sweptB o b l
def sweptP (o:Pt) (m:MoveT) (thn:List BodyT):List PairT→List PairT
 | []=>[]
 | p :: l=>(if moves m p.1=true∧moves m p.2=false then [(sweptB o p.1 thn,p.2)] else if moves m p.2=true∧moves m p.1=false then [(p.1,sweptB o p.2 thn)] else []) ++ sweptP o m thn l
def jpt (a:ArmT) (q:J3) (j:Int):Pt:=if j=0 then (jpts a q).1 else if j=1 then (jpts a q).2.1 else if j=2 then (jpts a q).2.2.1 else (jpts a q).2.2.2
def sweptPairs (c:CellT) (w:StateT) (m:MoveT):List PairT :=
 if (next c w m).2=true then sweptP (jpt (armOf c m.1) (conf w m.1) m.2.1) m (bodies c (next c w m).1) (pairsOf (bodies c w)) else []
def beyondB (a b:Pt) (p:List Pt):Bool:=p.all fun x=>decide (side a b x<0)
def sepFrom (p other:List Pt):Nat→Nat→Option Nat
 | 0,_=>none
 | k+1,i=>if beyondB (at_ p i) (at_ p (nx p i)) other=true then some i else sepFrom p other k (i+1)
def sepEdge (a b:List Pt):(Int×Int)×Bool :=
 match sepFrom a b a.length 0 with
 | some i=>((0,(i:Int)),true)
 | none=>match sepFrom b a b.length 0 with
  | some i=>((1,(i:Int)),true)
  | none=>((0,0),false)
def checks (p:PairT):List (List Pt×List Pt):=(decomp p.1.2.2.2).flatMap fun a=>(decomp p.2.2.2.2).map fun b=>(a,b)
def sepAll:List (List Pt×List Pt)→Option (List (Int×Int))
 | []=>some []
 | x :: l=>if (sepEdge x.1 x.2).2=true then (sepAll l).map fun r=>(sepEdge x.1 x.2).1 :: r else none
def cert (c:CellT) (w:StateT) (m:MoveT):List (Int×Int)×Bool :=
 if (next c w m).2=true then match sepAll ((sweptPairs c w m).flatMap checks) with
  | some l=>(l,true)
  | none=>([],false)
 else ([],false)
def free (c:CellT) (w:StateT) (m:MoveT):Bool:=(cert c w m).2
end Go.Mo
namespace Go.Jm
open Go Go.Am Go.Proofs Go.Hu Go.Mo
theorem Ev.const {α:Type} {e:Option α} {x:α} (h:e=some x):Ev (fun _=>e) x:=⟨0,fun _ _=>h⟩
theorem tm_nat (a b:Nat):((a:Nat):Int).tmod ((b:Nat):Int)=((a % b:Nat):Int):=rfl
theorem td_nat (a b:Nat):((a:Nat):Int).tdiv ((b:Nat):Int)=((a / b:Nat):Int):=rfl
theorem powEv {m:Int} (h:0≤m∧m≤3):Ev (fun n=>Z127 n m) (pow65 m):=by
 have hm:m=0∨m=1∨m=2∨m=3:=by omega
 rcases hm with rfl | rfl | rfl | rfl <;>
 ·refine Ev.of_eq 6 ?_
  simp (disch:=omega) only [Z127Eq,Z127L3Eq,br_pos,br_neg,w64,Option.bind_some]
  exact (Ev.pure _).congr (by decide)
theorem rpowEv {m:Int} (h:0≤m∧m≤3):Ev (fun n=>Z158 n m) (pow65 m):=by
 have hm:m=0∨m=1∨m=2∨m=3:=by omega
 rcases hm with rfl | rfl | rfl | rfl <;>
 ·refine Ev.of_eq 6 ?_
  simp (disch:=omega) only [Z158Eq,Z158L3Eq,br_pos,br_neg,w64,Option.bind_some]
  exact (Ev.pure _).congr (by decide)
theorem pow65_pos (m:Int):0<pow65 m∧pow65 m≤274625:=by
 unfold pow65;split
 ·omega
 ·split
  ·omega
  ·split <;> omega
theorem sq_bound {x y p:Int} (hp:0≤p) (h:x*x+y*y=p*p):-p≤x∧x≤p:=by
 have hy:0≤y*y:=by
  rcases Int.le_total 0 y with h | h
  ·exact Int.mul_nonneg h h
  ·exact Int.mul_nonneg_of_nonpos_of_nonpos h h
 constructor
 ·refine Classical.byContradiction fun hc=>?_
  have h1:p+1≤-x:=by omega
  have:=Int.mul_le_mul h1 h1 (by omega) (by omega)
  rw[Int.neg_mul_neg] at this
  have e:(p+1)*(p+1)=p*p+2*p+1:=by rw[Int.add_mul,Int.mul_add];omega
  omega
 ·refine Classical.byContradiction fun hc=>?_
  have h1:p+1≤x:=by omega
  have:=Int.mul_le_mul h1 h1 (by omega) (by omega)
  have e:(p+1)*(p+1)=p*p+2*p+1:=by rw[Int.add_mul,Int.mul_add];omega
  omega
theorem _root_.Go.Mo.DirOk.bd {n:Int} {d:Dir} (h:DirOk n d):(-pow65 n≤d.1∧d.1≤pow65 n)∧(-pow65 n≤d.2.1∧d.2.1≤pow65 n):=by
 obtain⟨h1,h2,h3⟩:=h
 have hp:=(pow65_pos n).1
 exact⟨sq_bound (by omega) h3,sq_bound (x:=d.2.1) (y:=d.1) (by omega) (by omega)⟩
theorem mul_bd2 {a b A B:Int} (ha:-A≤a∧a≤A) (hb:-B≤b∧b≤B):-(A*B)≤a*b∧a*b≤A*B:=by
 have hA:0≤A:=by omega
 have hB:0≤B:=by omega
 rcases Int.le_total 0 a with h1 | h1 <;> rcases Int.le_total 0 b with h2 | h2
 ·have:=Int.mul_le_mul ha.2 hb.2 h2 hA
  have:=Int.mul_nonneg h1 h2
  omega
 ·have:=Int.mul_le_mul ha.2 (show -b≤B by omega) (by omega) hA
  rw[Int.mul_neg] at this
  have:=Int.mul_nonneg h1 (show 0≤-b by omega)
  rw[Int.mul_neg] at this
  have:=Int.mul_nonneg hA hB
  omega
 ·have:=Int.mul_le_mul (show -a≤A by omega) hb.2 h2 hA
  rw[Int.neg_mul] at this
  have:=Int.mul_nonneg (show 0≤-a by omega) h2
  rw[Int.neg_mul] at this
  have:=Int.mul_nonneg hA hB
  omega
 ·have:=Int.mul_le_mul (show -a≤A by omega) (show -b≤B by omega) (by omega) hA
  rw[Int.neg_mul_neg] at this
  have:=Int.mul_nonneg_of_nonpos_of_nonpos h1 h2
  have:=Int.mul_nonneg hA hB
  omega
theorem roundEv {q:Int} (h:-36<q∧q<36):Ev (fun n=>Z201 n q) (if q<0 then q+36 else q):=by
 have e:q.tmod 36=q:=by
  rcases Int.le_total 0 q with h1 | h1
  ·exact Int.tmod_eq_of_lt h1 h.2
  ·have:=Int.tmod_eq_of_lt (show 0≤-q by omega) (show -q<36 by omega)
   rw[Int.neg_tmod] at this;omega
 refine Ev.of_eq 1 ?_
 simp only[Z201Eq,e]
 by_cases hq:q<0
 ·simp (disch:=omega) only [br_pos hq,if_pos hq,w64,Option.bind_some]
  exact Ev.pure _
 ·simp only[br_neg hq,if_neg hq,Option.bind_some]
  exact Ev.pure _
theorem rmodEv {q:Int} (h:-36<q∧q<36):Ev (fun n=>Z197 n q) (if q<0 then q+36 else q):=by
 have e:q.tmod 36=q:=by
  rcases Int.le_total 0 q with h1 | h1
  ·exact Int.tmod_eq_of_lt h1 h.2
  ·have:=Int.tmod_eq_of_lt (show 0≤-q by omega) (show -q<36 by omega)
   rw[Int.neg_tmod] at this;omega
 refine Ev.of_eq 1 ?_
 simp (disch:=omega) only [Z197Eq,e,w64]
 refine (Ev.pure _).congr ?_
 split
 ·exact Int.tmod_eq_of_lt (by omega) (by omega)
 ·have:=Int.tmod_eq_emod_of_nonneg (a:=q+36) (b:=36) (by omega)
  rw[this];omega
def Bd65 (v:Pt):Prop:=(-65≤v.1∧v.1≤65)∧(-65≤v.2∧v.2≤65)
theorem leftEv {v:Pt} (h:-1000000000000≤v.2∧v.2≤1000000000000):Ev (fun n=>Z198 n v) (-v.2,v.1):=by
 refine Ev.of_eq 1 ?_
 simp (disch:=omega) only [Z198Eq,w64]
 exact (Ev.pure _).congr (by congr 1;omega)
theorem csL6 (m:Nat) (hm:m≤4):∀ (k i:Nat) (v:Pt),i+k=m→Bd65 v →
  Ev (fun n=>Z185L6 n (((),(((),()),(((m:Nat):Int),(((i:Nat):Int),())))),((),((v,()),())))) (((),()),((),((leftN k v,()),()))):=by
 intro k
 induction k with
 | zero =>
  intro i v h hv
  refine Ev.of_eq 1 ?_
  simp (disch:=omega) only [Z185L6Eq,br_neg]
  exact Ev.pure _
 | succ k ih =>
  intro i v h hv
  refine Ev.of_eq 1 ?_
  simp (disch:=omega) only [Z185L6Eq,br_pos]
  refine Ev.bind (leftEv (by unfold Bd65 at hv;omega)) ?_
  simp (disch:=omega) only [wr1]
  exact ih (i+1) (-v.2,v.1) (by omega) (by unfold Bd65 at hv ⊢;simp only;omega)
theorem rcsL7 (x:Int) (m:Nat) (hm:m≤4) (hx:IntKind.i64.wrap (x.tdiv 9)=((m:Nat):Int)):∀ (k i:Nat) (v:Pt),i+k=m→Bd65 v →
  Ev (fun n=>Z174L7 n ((x,(v.1,(v.2,(((i:Nat):Int),())))),())) (((leftN k v).1,((leftN k v).2,())),()):=by
 intro k
 induction k with
 | zero =>
  intro i v h hv
  refine Ev.of_eq 1 ?_
  simp (disch:=omega) only [Z174L7Eq,hx,br_neg]
  exact Ev.pure _
 | succ k ih =>
  intro i v h hv
  refine Ev.of_eq 1 ?_
  unfold Bd65 at hv
  simp (disch:=omega) only [Z174L7Eq,hx,br_pos,wr1,w64]
  have:=ih (i+1) (-v.2,v.1) (by omega) (by unfold Bd65;simp only;omega)
  rw[show (0:Int)-v.2 = -v.2 by omega]
  exact this
theorem tab9_bd:∀ v∈tab9,Bd65 v:=by
 intro v hv
 simp only[tab9,List.mem_cons,List.not_mem_nil,or_false] at hv
 unfold Bd65
 rcases hv with rfl | rfl | rfl | rfl | rfl | rfl | rfl | rfl | rfl <;> simp
theorem csEv {q:Int} (h:-36<q∧q<36):Ev (fun n=>Z185 n q) (cs q):=by
 refine Ev.of_eq 1 ?_
 simp only[Z185Eq]
 refine Ev.bind (roundEv h) ?_
 refine Ev.bind (f:=fun n=>Z202 n) (Ev.of_eq 1 (by simp only[Z202Eq];exact Ev.pure _)) ?_
 obtain⟨k,hk⟩:∃ k:Nat,(if q<0 then q+36 else q)=(k:Int):=⟨(if q<0 then q+36 else q).toNat,by split <;> omega⟩
 have hk36:k<36:=by split at hk <;> omega
 have hc:cs q=leftN (k / 9) (at_ tab9 (k % 9)):=by unfold cs csN;rw[hk];rfl
 rw[hc]
 simp only[hk]
 have e1:((k:Nat):Int).tmod 9=((k % 9:Nat):Int):=tm_nat k 9
 have e2:((k:Nat):Int).tdiv 9=((k / 9:Nat):Int):=td_nat k 9
 simp (disch:=omega) only [e1,e2,w64]
 have hr:k % 9<9:=Nat.mod_lt _ (by omega)
 generalize k % 9=r at hr
 have hm:k / 9≤4:=by omega
 generalize k / 9=m at hm
 have hr':r=0∨r=1∨r=2∨r=3∨r=4∨r=5∨r=6∨r=7∨r=8:=by omega
 rcases hr' with rfl | rfl | rfl | rfl | rfl | rfl | rfl | rfl | rfl <;>
 ·simp (disch:=omega) only [br_pos,br_neg]
  refine Ev.bind (csL6 m hm m 0 _ (by omega) (tab9_bd _ (by simp[tab9]))) ?_
  exact Ev.pure _
theorem rcsEv {q:Int} (h:-36<q∧q<36):Ev (fun n=>Z174 n q) (cs q):=by
 refine Ev.of_eq 1 ?_
 simp only[Z174Eq]
 refine Ev.bind (rmodEv h) ?_
 obtain⟨k,hk⟩:∃ k:Nat,(if q<0 then q+36 else q)=(k:Int):=⟨(if q<0 then q+36 else q).toNat,by split <;> omega⟩
 have hk36:k<36:=by split at hk <;> omega
 have hc:cs q=leftN (k / 9) (at_ tab9 (k % 9)):=by unfold cs csN;rw[hk];rfl
 rw[hc]
 simp only[hk]
 have e1:((k:Nat):Int).tmod 9=((k % 9:Nat):Int):=tm_nat k 9
 have e2:((k:Nat):Int).tdiv 9=((k / 9:Nat):Int):=td_nat k 9
 have hm:k / 9≤4:=by omega
 have e3:IntKind.i64.wrap (((k:Nat):Int).tdiv 9)=((k / 9:Nat):Int):=by rw[e2,w64 (by omega) (by omega)]
 simp (disch:=omega) only [e1,br_pos,Int.toNat_natCast]
 have hr:k % 9<9:=Nat.mod_lt _ (by omega)
 generalize k % 9=r at hr
 have hl:∀ r:Nat,r<9→([(65:Int),(63:Int),(60:Int),(56:Int),(52:Int),(39:Int),(33:Int),(25:Int),(16:Int)])[r]?=some (at_ tab9 r).1∧([(0:Int),(16:Int),(25:Int),(33:Int),(39:Int),(52:Int),(56:Int),(60:Int),(63:Int)])[r]?=some (at_ tab9 r).2∧at_ tab9 r∈tab9:=by decide
 obtain⟨l1,l2,l3⟩:=hl r hr
 simp only[l1,l2,Option.bind_some]
 exact Ev.bind (rcsL7 _ (k / 9) hm e3 (k / 9) 0 _ (by omega) (tab9_bd _ l3)) (Ev.pure _)
theorem cs_norm {q:Int} (h:-36<q∧q<36):(cs q).1*(cs q).1+(cs q).2*(cs q).2=4225:=by
 obtain⟨k,hk⟩:∃ k:Nat,(if q<0 then q+36 else q)=(k:Int):=⟨(if q<0 then q+36 else q).toNat,by split <;> omega⟩
 have hk36:k<36:=by split at hk <;> omega
 have hc:cs q=csN k:=by unfold cs;rw[hk];rfl
 rw[hc]
 have:∀ k:Nat,k<36→(csN k).1*(csN k).1+(csN k).2*(csN k).2=4225:=by decide +kernel
 exact this k hk36
theorem cs_bd {q:Int} (h:-36<q∧q<36):Bd65 (cs q):=by
 have:=cs_norm h
 have h1:=sq_bound (x:=(cs q).1) (y:=(cs q).2) (p:=65) (by omega) (by omega)
 have h2:=sq_bound (x:=(cs q).2) (y:=(cs q).1) (p:=65) (by omega) (by omega)
 exact⟨h1,h2⟩
theorem sum_sq (x y c s:Int):(x*c-y*s)*(x*c-y*s)+(x*s+y*c)*(x*s+y*c)=(x*x+y*y)*(c*c+s*s):=by
 simp only[Int.sub_mul,Int.mul_sub,Int.add_mul,Int.mul_add]
 have e1:x*c*(y*s)=x*s*(y*c):=by ac_rfl
 have e2:y*s*(x*c)=x*s*(y*c):=by ac_rfl
 have e3:y*c*(x*s)=x*s*(y*c):=by ac_rfl
 have e4:x*c*(x*c)=x*x*(c*c):=by ac_rfl
 have e5:y*s*(y*s)=y*y*(s*s):=by ac_rfl
 have e6:x*s*(x*s)=x*x*(s*s):=by ac_rfl
 have e7:y*c*(y*c)=y*y*(c*c):=by ac_rfl
 rw[e1,e2,e3,e4,e5,e6,e7]
 omega
theorem pow65_succ {m:Int} (h:0≤m∧m≤2):pow65 (m+1)*pow65 (m+1)=pow65 m*pow65 m*4225:=by
 have hm:m=0∨m=1∨m=2:=by omega
 rcases hm with rfl | rfl | rfl <;> decide
theorem turn_ok {m:Int} {d:Dir} {q:Int} (h:DirOk m d) (hm:m≤2) (hq:-36<q∧q<36):DirOk (m+1) (turn d q):=by
 obtain⟨h1,h2,h3⟩:=h
 refine⟨by unfold turn;simp only;omega,by omega,?_⟩
 unfold turn
 simp only
 rw[sum_sq,h3,cs_norm hq,pow65_succ (by omega)]
theorem dir0_ok:DirOk 0 (1,(0,0)):=⟨rfl,by decide,by decide⟩
theorem validEv {m:Int} {d:Dir} (h:DirOk m d):Ev (fun n=>Z165 n d) true:=by
 have hb:=h.bd
 obtain⟨h1,h2,h3⟩:=h
 have hp:=pow65_pos m
 refine Ev.of_eq 2 ?_
 simp only[Z165Eq,h1]
 rw[show (fun n=>_)=fun n=>_ from rfl]
 simp (disch:=omega) only [br_neg]
 refine Ev.bind ((powEv h2).shift 1) ?_
 have hx:=mul_bd2 (a:=d.1) (b:=d.1) (A:=274625) (B:=274625) (by omega) (by omega)
 have hy:=mul_bd2 (a:=d.2.1) (b:=d.2.1) (A:=274625) (B:=274625) (by omega) (by omega)
 have hz:=mul_bd2 (a:=pow65 m) (b:=pow65 m) (A:=274625) (B:=274625) (by omega) (by omega)
 simp (disch:=omega) only [w64,br_pos]
 exact (Ev.pure _).congr (by rw[h3];simp)
theorem rvalidEv {m:Int} {d:Dir} (h:DirOk m d):Ev (fun n=>Z116 n d) true:=by
 have hb:=h.bd
 obtain⟨h1,h2,h3⟩:=h
 have hp:=pow65_pos m
 refine Ev.of_eq 1 ?_
 simp only[Z116Eq,h1]
 simp (disch:=omega) only [br_neg]
 refine Ev.bind (rpowEv h2) ?_
 have hx:=mul_bd2 (a:=d.1) (b:=d.1) (A:=274625) (B:=274625) (by omega) (by omega)
 have hy:=mul_bd2 (a:=d.2.1) (b:=d.2.1) (A:=274625) (B:=274625) (by omega) (by omega)
 have hz:=mul_bd2 (a:=pow65 m) (b:=pow65 m) (A:=274625) (B:=274625) (by omega) (by omega)
 simp (disch:=omega) only [w64,br_pos]
 exact (Ev.pure _).congr (by rw[h3];simp)
theorem turn_wrap {m:Int} {d:Dir} {q:Int} (h:DirOk m d) (hq:-36<q∧q<36) :
  IntKind.i64.wrap (IntKind.i64.wrap (d.1*(cs q).1)-IntKind.i64.wrap (d.2.1*(cs q).2))=d.1*(cs q).1-d.2.1*(cs q).2 ∧
  IntKind.i64.wrap (IntKind.i64.wrap (d.1*(cs q).2)+IntKind.i64.wrap (d.2.1*(cs q).1))=d.1*(cs q).2+d.2.1*(cs q).1:=by
 have hb:=h.bd
 have hp:=pow65_pos m
 have hc:=cs_bd hq
 unfold Bd65 at hc
 have a1:=mul_bd2 (a:=d.1) (b:=(cs q).1) (A:=274625) (B:=65) (by omega) (by omega)
 have a2:=mul_bd2 (a:=d.1) (b:=(cs q).2) (A:=274625) (B:=65) (by omega) (by omega)
 have a3:=mul_bd2 (a:=d.2.1) (b:=(cs q).1) (A:=274625) (B:=65) (by omega) (by omega)
 have a4:=mul_bd2 (a:=d.2.1) (b:=(cs q).2) (A:=274625) (B:=65) (by omega) (by omega)
 constructor
 ·rw[w64 (n:=d.1*(cs q).1) (by omega) (by omega),w64 (n:=d.2.1*(cs q).2) (by omega) (by omega),w64 (by omega) (by omega)]
 ·rw[w64 (n:=d.1*(cs q).2) (by omega) (by omega),w64 (n:=d.2.1*(cs q).1) (by omega) (by omega),w64 (by omega) (by omega)]
theorem composeEv {m:Int} {d:Dir} {q:Int} (h:DirOk m d) (hm:m≤2) (hq:-36<q∧q<36):Ev (fun n=>Z126 n d q) (turn d q):=by
 refine Ev.of_eq 1 ?_
 simp only[Z126Eq]
 refine Ev.bind (validEv h) ?_
 have h1:=h.1
 have h2:=h.2.1
 simp (disch:=omega) only [Bool.not_true,br_f,h1,br_neg]
 refine Ev.bind (x:=(d.1*(cs q).1-d.2.1*(cs q).2,d.1*(cs q).2+d.2.1*(cs q).1)) (Ev.of_eq 1 ?_) ?_
 ·simp only[Z166Eq]
  refine Ev.bind (csEv hq) ?_
  simp only[turn_wrap h hq]
  exact Ev.pure _
 ·simp (disch:=omega) only [w64]
  exact (Ev.pure _).congr (by unfold turn;rw[h1])
theorem raddEv {m:Int} {d:Dir} {q:Int} (h:DirOk m d) (hm:m≤2) (hq:-36<q∧q<36):Ev (fun n=>Z142 n d q) (turn d q):=by
 refine Ev.of_eq 1 ?_
 simp only[Z142Eq]
 refine Ev.bind (rvalidEv h) ?_
 have h1:=h.1
 have h2:=h.2.1
 simp (disch:=omega) only [Bool.not_true,br_f,h1,br_neg]
 refine Ev.bind (rcsEv hq) ?_
 simp (disch:=omega) only [turn_wrap h hq,w64]
 exact (Ev.pure _).congr (by unfold turn;rw[h1])
end Go.Jm
namespace Go.Jm
open Go Go.Am Go.Proofs Go.Hu Go.Mo
def Bb (M:Int) (p:Pt):Prop:=(-M≤p.1∧p.1≤M)∧(-M≤p.2∧p.2≤M)
structure ArmOk (a:ArmT):Prop where
 base:Bb 439400000 a.1
 lens:(1≤a.2.1.1∧a.2.1.1≤40)∧(1≤a.2.1.2.1∧a.2.1.2.1≤40)∧(1≤a.2.1.2.2∧a.2.1.2.2≤40)
 wide:1≤a.2.2.1∧a.2.2.1≤4
 low:(-17≤a.2.2.2.1.1∧a.2.2.2.1.1≤18)∧(-17≤a.2.2.2.1.2.1∧a.2.2.2.1.2.1≤18)∧(-17≤a.2.2.2.1.2.2∧a.2.2.2.1.2.2≤18)
 near:(8*a.1.1+39546000*(a.2.1.1+a.2.1.2.1+a.2.1.2.2+15)≤3515200000∧-(8*a.1.1)+39546000*(a.2.1.1+a.2.1.2.1+a.2.1.2.2+15)≤3515200000) ∧
  (8*a.1.2+39546000*(a.2.1.1+a.2.1.2.1+a.2.1.2.2+15)≤3515200000∧-(8*a.1.2)+39546000*(a.2.1.1+a.2.1.2.1+a.2.1.2.2+15)≤3515200000)
 high:(-17≤a.2.2.2.2.1∧a.2.2.2.2.1≤18)∧(-17≤a.2.2.2.2.2.1∧a.2.2.2.2.2.1≤18)∧(-17≤a.2.2.2.2.2.2∧a.2.2.2.2.2.2≤18)
def QBd (q:J3):Prop:=(-18≤q.1∧q.1≤19)∧(-18≤q.2.1∧q.2.1≤19)∧(-18≤q.2.2∧q.2.2≤19)
theorem ArmOk.q {a:ArmT} (h:ArmOk a) {q:J3} (hq:inLim a q=true):(-17≤q.1∧q.1≤18)∧(-17≤q.2.1∧q.2.1≤18)∧(-17≤q.2.2∧q.2.2≤18):=by
 have h1:=h.low
 have h2:=h.high
 unfold inLim at hq
 simp only[decide_eq_true_eq] at hq
 omega
theorem ArmOk.qbd {a:ArmT} (h:ArmOk a) {q:J3} (hq:inLim a q=true):QBd q:=by
 have:=h.q hq
 unfold QBd;omega
theorem addEv {a b:Pt} {M N:Int} (ha:Bb M a) (hb:Bb N b) (h:M+N≤9000000000000000000):Ev (fun n=>Z85 n a b) (add a b):=by
 unfold Bb at ha hb
 refine Ev.of_eq 1 ?_
 simp (disch:=omega) only [Z85Eq,w64]
 exact Ev.pure _
theorem raddPEv {a b:Pt} {M N:Int} (ha:Bb M a) (hb:Bb N b) (h:M+N≤9000000000000000000):Ev (fun n=>Z138 n a b) (add a b):=by
 unfold Bb at ha hb
 refine Ev.of_eq 1 ?_
 simp (disch:=omega) only [Z138Eq,w64]
 exact Ev.pure _
theorem subEv {a b:Pt} {M N:Int} (ha:Bb M a) (hb:Bb N b) (h:M+N≤9000000000000000000):Ev (fun n=>Z151 n a b) (sub a b):=by
 unfold Bb at ha hb
 refine Ev.of_eq 1 ?_
 simp (disch:=omega) only [Z151Eq,w64]
 exact Ev.pure _
theorem Bb.add {a b:Pt} {M N K:Int} (ha:Bb M a) (hb:Bb N b) (h:M+N≤K):Bb K (add a b):=by
 unfold Bb at *;unfold Mo.add;simp only;omega
theorem Bb.sub {a b:Pt} {M N K:Int} (ha:Bb M a) (hb:Bb N b) (h:M+N≤K):Bb K (sub a b):=by
 unfold Bb at *;unfold Mo.sub;simp only;omega
theorem Bb.mono {a:Pt} {M N:Int} (ha:Bb M a) (h:M≤N):Bb N a:=by
 unfold Bb at *;omega
theorem unit_mul {m:Int} (h:0≤m∧m≤3):4394000 / pow65 m*pow65 m=4394000∧0≤4394000 / pow65 m∧4394000 / pow65 m≤4394000∧(4394000:Int).tdiv (pow65 m)=4394000 / pow65 m∧pow65 m≠0:=by
 have hm:m=0∨m=1∨m=2∨m=3:=by omega
 rcases hm with rfl | rfl | rfl | rfl <;> decide
theorem off_bd {m:Int} {d:Dir} (h:DirOk m d) {k:Int} (hk:0≤k∧k≤40):Bb (k*4394000) (off d k)∧(0≤k*(4394000 / pow65 m)∧k*(4394000 / pow65 m)≤k*4394000):=by
 have hb:=h.bd
 obtain⟨u1,u2,u3,-,-⟩:=unit_mul h.2.1
 have h1:=h.1
 have hn:0≤k*(4394000 / pow65 m):=Int.mul_nonneg hk.1 u2
 have hle:k*(4394000 / pow65 m)≤k*4394000:=Int.mul_le_mul_of_nonneg_left u3 hk.1
 have e:k*(4394000 / pow65 m)*pow65 m=k*4394000:=by rw[Int.mul_assoc,u1]
 have a1:=mul_bd2 (a:=k*(4394000 / pow65 m)) (b:=d.1) (A:=k*(4394000 / pow65 m)) (B:=pow65 m) (by omega) (by omega)
 have a2:=mul_bd2 (a:=k*(4394000 / pow65 m)) (b:=d.2.1) (A:=k*(4394000 / pow65 m)) (B:=pow65 m) (by omega) (by omega)
 rw[e] at a1 a2
 refine⟨?_,hn,hle⟩
 unfold Bb off
 simp only[h1]
 exact⟨a1,a2⟩
theorem offEv {m:Int} {d:Dir} (h:DirOk m d) {k:Int} (hk:0≤k∧k≤40):Ev (fun n=>Z87 n d k) (off d k):=by
 have h1:=h.1
 obtain⟨u1,u2,u3,u4,u5⟩:=unit_mul h.2.1
 obtain⟨b1,b2⟩:=off_bd h hk
 unfold Bb off at b1
 simp only[h1] at b1
 refine Ev.of_eq 1 ?_
 simp only[Z87Eq,h1]
 refine Ev.bind (powEv h.2.1) ?_
 simp only[br_neg u5,u4]
 rw[w64 (n:=4394000 / pow65 m) (by omega) (by omega),w64 (n:=k*(4394000 / pow65 m)) (by omega) (by omega),w64 (n:=k*(4394000 / pow65 m)*d.1) (by omega) (by omega),w64 (n:=k*(4394000 / pow65 m)*d.2.1) (by omega) (by omega)]
 exact (Ev.pure _).congr (by unfold off;rw[h1])
theorem roffEv {m:Int} {d:Dir} (h:DirOk m d) {k:Int} (hk:0≤k∧k≤40):Ev (fun n=>Z139 n d k) (off d k):=by
 have h1:=h.1
 obtain⟨u1,u2,u3,u4,u5⟩:=unit_mul h.2.1
 obtain⟨b1,b2⟩:=off_bd h hk
 unfold Bb off at b1
 simp only[h1] at b1
 refine Ev.of_eq 1 ?_
 simp only[Z139Eq,h1]
 refine Ev.bind (rpowEv h.2.1) ?_
 simp only[br_neg u5,u4]
 rw[w64 (n:=4394000 / pow65 m) (by omega) (by omega),w64 (n:=k*(4394000 / pow65 m)) (by omega) (by omega),w64 (n:=k*(4394000 / pow65 m)*d.1) (by omega) (by omega),w64 (n:=k*(4394000 / pow65 m)*d.2.1) (by omega) (by omega)]
 exact (Ev.pure _).congr (by unfold off;rw[h1])
theorem dirs_ok {q:J3} (h:QBd q):DirOk 1 (dirs q).1∧DirOk 2 (dirs q).2.1∧DirOk 3 (dirs q).2.2:=by
 unfold QBd at h
 have h1:=turn_ok (q:=q.1) dir0_ok (by omega) (by omega)
 have h2:=turn_ok (q:=q.2.1) h1 (by omega) (by omega)
 exact⟨h1,h2,turn_ok (q:=q.2.2) h2 (by omega) (by omega)⟩
theorem dirsEv (a:ArmT) {q:J3} (h:QBd q):Ev (fun n=>Z86 n a q) (dirs q):=by
 obtain⟨h1,h2,h3⟩:=dirs_ok h
 unfold QBd at h
 refine Ev.of_eq 1 ?_
 simp only[Z86Eq]
 refine Ev.bind (composeEv dir0_ok (by omega) (by omega)) ?_
 refine Ev.bind (composeEv h1 (by omega) (by omega)) ?_
 exact Ev.bind (composeEv h2 (by omega) (by omega)) (Ev.pure _)
theorem rdirsEv (a:ArmT) {q:J3} (h:QBd q):Ev (fun n=>Z96 n a q) (dirs q):=by
 obtain⟨h1,h2,h3⟩:=dirs_ok h
 unfold QBd at h
 refine Ev.of_eq 1 ?_
 simp only[Z96Eq]
 refine Ev.bind (raddEv dir0_ok (by omega) (by omega)) ?_
 refine Ev.bind (raddEv h1 (by omega) (by omega)) ?_
 exact Ev.bind (raddEv h2 (by omega) (by omega)) (Ev.pure _)
theorem jpts_bd {a:ArmT} {q:J3} (ha:ArmOk a) (h:QBd q):Bb 365251250 (jpts a q).1∧Bb 365251250 (jpts a q).2.1∧Bb 365251250 (jpts a q).2.2.1∧Bb 365251250 (jpts a q).2.2.2:=by
 obtain⟨h1,h2,h3⟩:=dirs_ok h
 have hl:=ha.lens
 have hn:=ha.near
 have b1:=(off_bd h1 (k:=a.2.1.1) (by omega)).1
 have b2:=(off_bd h2 (k:=a.2.1.2.1) (by omega)).1
 have b3:=(off_bd h3 (k:=a.2.1.2.2) (by omega)).1
 unfold Bb at b1 b2 b3 ⊢
 unfold jpts add
 simp only
 omega
theorem jptsEv {a:ArmT} {q:J3} (ha:ArmOk a) (h:QBd q):Ev (fun n=>Z44 n a q) (jpts a q):=by
 obtain⟨h1,h2,h3⟩:=dirs_ok h
 obtain⟨c0,c1,c2,c3⟩:=jpts_bd ha h
 have hl:=ha.lens
 have b1:=(off_bd h1 (k:=a.2.1.1) (by omega)).1.mono (N:=175760000) (by omega)
 have b2:=(off_bd h2 (k:=a.2.1.2.1) (by omega)).1.mono (N:=175760000) (by omega)
 have b3:=(off_bd h3 (k:=a.2.1.2.2) (by omega)).1.mono (N:=175760000) (by omega)
 refine Ev.of_eq 2 ?_
 simp only[Z44Eq]
 refine Ev.bind ((dirsEv a h).shift 1) ?_
 refine Ev.bind ((offEv h1 (k:=a.2.1.1) (by omega)).shift 1) ?_
 refine Ev.bind (addEv c0 b1 (by omega)) ?_
 refine Ev.bind ((offEv h2 (k:=a.2.1.2.1) (by omega)).shift 1) ?_
 refine Ev.bind (addEv c1 b2 (by omega)) ?_
 refine Ev.bind ((offEv h3 (k:=a.2.1.2.2) (by omega)).shift 1) ?_
 exact Ev.bind (addEv c2 b3 (by omega)) (Ev.pure _)
theorem rjptsEv {a:ArmT} {q:J3} (ha:ArmOk a) (h:QBd q):Ev (fun n=>Z93 n a q) (jpts a q):=by
 obtain⟨h1,h2,h3⟩:=dirs_ok h
 obtain⟨c0,c1,c2,c3⟩:=jpts_bd ha h
 have hl:=ha.lens
 have b1:=(off_bd h1 (k:=a.2.1.1) (by omega)).1.mono (N:=175760000) (by omega)
 have b2:=(off_bd h2 (k:=a.2.1.2.1) (by omega)).1.mono (N:=175760000) (by omega)
 have b3:=(off_bd h3 (k:=a.2.1.2.2) (by omega)).1.mono (N:=175760000) (by omega)
 refine Ev.of_eq 1 ?_
 simp only[Z93Eq]
 refine Ev.bind (rdirsEv a h) ?_
 refine Ev.bind (roffEv h1 (k:=a.2.1.1) (by omega)) ?_
 refine Ev.bind (raddPEv c0 b1 (by omega)) ?_
 refine Ev.bind (roffEv h2 (k:=a.2.1.2.1) (by omega)) ?_
 refine Ev.bind (raddPEv c1 b2 (by omega)) ?_
 refine Ev.bind (roffEv h3 (k:=a.2.1.2.2) (by omega)) ?_
 exact Ev.bind (raddPEv c2 b3 (by omega)) (Ev.pure _)
theorem quarterEv {v:Pt} (h:Bb 1000000000 v):Ev (fun n=>Z175 n v) (-v.2,v.1):=by
 unfold Bb at h
 refine Ev.of_eq 1 ?_
 simp only[Z175Eq]
 exact Ev.bind (leftEv (by omega)) (Ev.pure _)
theorem Bb.turn {v:Pt} {M:Int} (h:Bb M v):Bb M (-v.2,v.1):=by
 unfold Bb at *;simp only;omega
theorem linkEv {a:ArmT} {q:J3} {m:Int} {d:Dir} {p r:Pt} (ha:ArmOk a) (hd:DirOk m d) (hp:Bb 1000000000 p) (hr:Bb 1000000000 r):Ev (fun n=>Z147 n (a,q) d p r) (link a d p r):=by
 have hw:=ha.wide
 have hf:=(off_bd hd (k:=a.2.2.1) (by omega)).1.mono (N:=17576000) (by omega)
 refine Ev.of_eq 1 ?_
 simp only[Z147Eq]
 refine Ev.bind (offEv hd (k:=a.2.2.1) (by omega)) ?_
 refine Ev.bind (quarterEv (hf.mono (by omega))) ?_
 refine Ev.bind (subEv hp hf.turn (by omega)) ?_
 refine Ev.bind (subEv hr hf.turn (by omega)) ?_
 refine Ev.bind (addEv hr hf.turn (by omega)) ?_
 exact Ev.bind (addEv hp hf.turn (by omega)) (Ev.pure _)
theorem linksEv {a:ArmT} {q:J3} (ha:ArmOk a) (h:QBd q):Ev (fun n=>Z101 n a q) (links a q):=by
 obtain⟨h1,h2,h3⟩:=dirs_ok h
 obtain⟨c0,c1,c2,c3⟩:=jpts_bd ha h
 refine Ev.of_eq 1 ?_
 simp only[Z101Eq]
 refine Ev.bind (jptsEv ha h) ?_
 refine Ev.bind (dirsEv a h) ?_
 refine Ev.bind (linkEv ha h1 (c0.mono (by omega)) (c1.mono (by omega))) ?_
 refine Ev.bind (linkEv ha h2 (c1.mono (by omega)) (c2.mono (by omega))) ?_
 exact Ev.bind (linkEv ha h3 (c2.mono (by omega)) (c3.mono (by omega))) (Ev.pure _)
theorem rlinksEv {a:ArmT} {q:J3} (ha:ArmOk a) (h:QBd q):Ev (fun n=>Z95 n a q) (links a q):=by
 obtain⟨h1,h2,h3⟩:=dirs_ok h
 obtain⟨c0,c1,c2,c3⟩:=jpts_bd ha h
 have hw:=ha.wide
 have key:∀ {m:Int} {d:Dir},DirOk m d→Bb 17576000 (off d a.2.2.1)∧IntKind.i64.wrap (0-(off d a.2.2.1).1) = -(off d a.2.2.1).1∧IntKind.i64.wrap (0-(off d a.2.2.1).2) = -(off d a.2.2.1).2:=fun hd=>by
  have hf:=(off_bd hd (k:=a.2.2.1) (by omega)).1.mono (N:=17576000) (by omega)
  refine⟨hf,?_,?_⟩
  ·unfold Bb at hf;rw[w64 (by omega) (by omega)];omega
  ·unfold Bb at hf;rw[w64 (by omega) (by omega)];omega
 obtain⟨f1,g1,k1⟩:=key h1
 obtain⟨f2,g2,k2⟩:=key h2
 obtain⟨f3,g3,k3⟩:=key h3
 have neg:∀ {v:Pt},Bb 17576000 v→Bb 17576000 (v.2,-v.1):=fun h=>by unfold Bb at *;simp only;omega
 have eadd:∀ (p v:Pt),add p (v.2,-v.1)=sub p (-v.2,v.1):=fun p v=>by unfold Mo.add Mo.sub;simp only;congr 1 <;> omega
 refine Ev.of_eq 1 ?_
 simp only[Z95Eq]
 refine Ev.bind (rdirsEv a h) ?_
 refine Ev.bind (rjptsEv ha h) ?_
 refine Ev.bind (roffEv h1 (k:=a.2.2.1) (by omega)) ?_
 simp only[g1,k1]
 refine Ev.bind (raddPEv c0 (neg f1) (by omega)) ?_
 refine Ev.bind (raddPEv c1 (neg f1) (by omega)) ?_
 refine Ev.bind (raddPEv c1 f1.turn (by omega)) ?_
 refine Ev.bind (raddPEv c0 f1.turn (by omega)) ?_
 refine Ev.bind (roffEv h2 (k:=a.2.2.1) (by omega)) ?_
 simp only[g2,k2]
 refine Ev.bind (raddPEv c1 (neg f2) (by omega)) ?_
 refine Ev.bind (raddPEv c2 (neg f2) (by omega)) ?_
 refine Ev.bind (raddPEv c2 f2.turn (by omega)) ?_
 refine Ev.bind (raddPEv c1 f2.turn (by omega)) ?_
 refine Ev.bind (roffEv h3 (k:=a.2.2.1) (by omega)) ?_
 simp only[g3,k3]
 refine Ev.bind (raddPEv c2 (neg f3) (by omega)) ?_
 refine Ev.bind (raddPEv c3 (neg f3) (by omega)) ?_
 refine Ev.bind (raddPEv c3 f3.turn (by omega)) ?_
 refine Ev.bind (raddPEv c2 f3.turn (by omega)) ?_
 exact (Ev.pure _).congr (by unfold links link;simp only[eadd])
theorem br_T {R:Type} {x y:Option R}:br (decide True) x y=x:=rfl
theorem nbr_T {R:Type} {x y:Option R}:br (!decide True) x y=y:=rfl
theorem limEv (a:ArmT) (q:J3):Ev (fun n=>Z78 n a q) (inLim a q):=by
 refine Ev.of_eq 1 ?_
 simp only[Z78Eq]
 refine Ev.const ?_
 unfold inLim
 by_cases h1:q.1<a.2.2.2.1.1
 ·rw[br_pos h1];congr 1;symm;rw[decide_eq_false_iff_not];omega
 by_cases h2:a.2.2.2.2.1<q.1
 ·rw[br_neg h1,br_pos h2];congr 1;symm;rw[decide_eq_false_iff_not];omega
 by_cases h3:q.2.1<a.2.2.2.1.2.1
 ·rw[br_neg h1,br_neg h2,br_pos h3];congr 1;symm;rw[decide_eq_false_iff_not];omega
 by_cases h4:a.2.2.2.2.2.1<q.2.1
 ·rw[br_neg h1,br_neg h2,br_neg h3,br_pos h4];congr 1;symm;rw[decide_eq_false_iff_not];omega
 by_cases h5:q.2.2<a.2.2.2.1.2.2
 ·rw[br_neg h1,br_neg h2,br_neg h3,br_neg h4,br_pos h5];congr 1;symm;rw[decide_eq_false_iff_not];omega
 by_cases h6:a.2.2.2.2.2.2<q.2.2
 ·rw[br_neg h1,br_neg h2,br_neg h3,br_neg h4,br_neg h5,br_pos h6];congr 1;symm;rw[decide_eq_false_iff_not];omega
 rw[br_neg h1,br_neg h2,br_neg h3,br_neg h4,br_neg h5,br_neg h6];congr 1;symm;rw[decide_eq_true_eq];omega
theorem rlimEv (a:ArmT) (q:J3):Ev (fun n=>Z52 n a q) (inLim a q):=by
 have h:=limEv a q
 refine Ev.of_eq 1 ?_
 obtain⟨N,hN⟩:=h
 refine⟨N,fun n hn=>?_⟩
 have this:Z78 (n+1) a q=_:=hN (n+1) (by omega)
 rw[Z78Eq] at this
 show Z52 (n+1) a q=_
 rw[Z52Eq]
 exact this
theorem stepEv (a:ArmT) {q:J3} (h:QBd q) (j b:Int):Ev (fun n=>Z38 n a q j b) (stepJ a q j b):=by
 refine Ev.of_eq 1 ?_
 unfold stepJ
 unfold QBd at h
 simp only[Z38Eq]
 by_cases h1:j<0
 ·rw[if_neg (by omega)];simp only[br_pos h1];exact Ev.pure _
 by_cases h2:3≤j
 ·rw[if_neg (by omega)];simp only[br_neg h1,br_pos h2];exact Ev.pure _
 simp only[br_neg h1,br_neg h2]
 by_cases hb:b=1∨b = -1
 ·have key:∀ q':J3,q'=bump q j b→Ev (fun n=>(Z78 n a q').bind fun x=>br (!x) (some (((0:Int),((0:Int),(0:Int))),false)) (some (q',true)))
    (if (0≤j∧j<3)∧(b=1∨b = -1)∧inLim a (bump q j b)=true then (bump q j b,true) else ((0,(0,0)),false)):=fun q' e=>by
   subst e
   refine Ev.bind (limEv a _) ?_
   cases hl:inLim a (bump q j b) with
   | true=>rw[if_pos ⟨by omega,hb,rfl⟩];exact Ev.pure _
   | false=>rw[if_neg (by simp)];exact Ev.pure _
  have hj:j=0∨j=1∨j=2:=by omega
  revert key
  generalize (if (0≤j∧j<3)∧(b=1∨b = -1)∧inLim a (bump q j b)=true then (bump q j b,true) else ((0,(0,0)),false):J3×Bool)=res
  intro key
  rcases hb with rfl | rfl <;> rcases hj with rfl | rfl | rfl <;>
  ·simp (disch:=omega) only [br_pos,br_neg,nbr_pos,nbr_neg,br_T,nbr_T,w64]
   refine key _ ?_
   simp[bump]
 ·rw[if_neg (by omega)]
  simp (disch:=omega) only [nbr_neg]
  exact Ev.pure _
theorem rstepEv (a:ArmT) {q:J3} (h:QBd q) (j b:Int):Ev (fun n=>Z39 n a q j b) (stepJ a q j b):=by
 refine Ev.of_eq 1 ?_
 unfold stepJ
 unfold QBd at h
 simp only[Z39Eq]
 by_cases h1:j<0
 ·rw[if_neg (by omega)];simp only[br_pos h1];exact Ev.pure _
 by_cases h2:2<j
 ·rw[if_neg (by omega)];simp only[br_neg h1,br_pos h2];exact Ev.pure _
 simp only[br_neg h1,br_neg h2]
 by_cases hb:b=1∨b = -1
 ·have key:∀ q':J3,q'=bump q j b→Ev (fun n=>(Z52 n a q').bind fun x=>br (!x) (some (((0:Int),((0:Int),(0:Int))),false)) (some (q',true)))
    (if (0≤j∧j<3)∧(b=1∨b = -1)∧inLim a (bump q j b)=true then (bump q j b,true) else ((0,(0,0)),false)):=fun q' e=>by
   subst e
   refine Ev.bind (rlimEv a _) ?_
   cases hl:inLim a (bump q j b) with
   | true=>rw[if_pos ⟨by omega,hb,rfl⟩];exact Ev.pure _
   | false=>rw[if_neg (by simp)];exact Ev.pure _
  have hj:j=0∨j=1∨j=2:=by omega
  revert key
  generalize (if (0≤j∧j<3)∧(b=1∨b = -1)∧inLim a (bump q j b)=true then (bump q j b,true) else ((0,(0,0)),false):J3×Bool)=res
  intro key
  rcases hb with rfl | rfl <;> rcases hj with rfl | rfl | rfl <;>
  ·simp (disch:=omega) only [br_pos,br_neg,nbr_pos,nbr_neg,br_T,nbr_T,w64]
   refine key _ ?_
   simp[bump]
 ·rw[if_neg (by omega)]
  simp (disch:=omega) only [nbr_neg]
  exact Ev.pure _
theorem nextStEv (c:CellT) (w:StateT) (m:MoveT) (h1:QBd w.1.1) (h2:QBd w.1.2):Ev (fun n=>Z11 n c w m) (next c w m):=by
 refine Ev.of_eq 1 ?_
 unfold next
 simp only[Z11Eq]
 by_cases g1:m.1<0
 ·rw[if_neg (by omega)];simp only[br_pos g1];exact Ev.pure _
 by_cases g2:1<m.1
 ·rw[if_neg (by omega)];simp only[br_neg g1,br_pos g2];exact Ev.pure _
 simp only[br_neg g1,br_neg g2]
 have hm:m.1=0∨m.1=1:=by omega
 rcases hm with e | e
 ·simp (disch:=omega) only [e,br_pos,br_neg]
  refine Ev.bind (stepEv _ h1 _ _) ?_
  have ea:armOf c 0=c.1.1:=rfl
  have eb:conf w 0=w.1.1:=rfl
  rw[ea,eb]
  cases hs:(stepJ c.1.1 w.1.1 m.2.1 m.2.2).2 with
  | true=>rw[if_pos ⟨by omega,by omega,rfl⟩];exact Ev.pure _
  | false=>rw[if_neg (by simp)];exact Ev.pure _
 ·simp (disch:=omega) only [e,br_pos,br_neg]
  refine Ev.bind (stepEv _ h2 _ _) ?_
  have ea:armOf c 1=c.1.2:=rfl
  have eb:conf w 1=w.1.2:=rfl
  rw[ea,eb]
  cases hs:(stepJ c.1.2 w.1.2 m.2.1 m.2.2).2 with
  | true=>rw[if_pos ⟨by omega,by omega,rfl⟩];exact Ev.pure _
  | false=>rw[if_neg (by simp)];exact Ev.pure _
end Go.Jm
namespace Go.Jm
open Go Go.Am Go.Proofs Go.Hu
def Bd (p:Pt):Prop:=(-1000000000≤p.1∧p.1≤1000000000)∧(-1000000000≤p.2∧p.2≤1000000000)
theorem mul_bd {a b:Int} (ha:-2000000000≤a∧a≤2000000000) (hb:-2000000000≤b∧b≤2000000000):-4000000000000000000≤a*b∧a*b≤4000000000000000000:=by
 have h1:=Int.mul_nonneg (show 0≤a+2000000000 by omega) (show 0≤b+2000000000 by omega)
 have h2:=Int.mul_nonneg (show 0≤2000000000-a by omega) (show 0≤2000000000-b by omega)
 have h3:=Int.mul_nonneg (show 0≤a+2000000000 by omega) (show 0≤2000000000-b by omega)
 have h4:=Int.mul_nonneg (show 0≤2000000000-a by omega) (show 0≤b+2000000000 by omega)
 simp only[Int.add_mul,Int.mul_add,Int.sub_mul,Int.mul_sub] at h1 h2 h3 h4
 omega
theorem side_wrap {a b p:Pt} (ha:Bd a) (hb:Bd b) (hp:Bd p):IntKind.i64.wrap (IntKind.i64.wrap (IntKind.i64.wrap (b.1-a.1)*IntKind.i64.wrap (p.2-a.2))-IntKind.i64.wrap (IntKind.i64.wrap (b.2-a.2)*IntKind.i64.wrap (p.1-a.1)))=side a b p:=by
 obtain⟨⟨a1,a2⟩,a3,a4⟩:=ha
 obtain⟨⟨b1,b2⟩,b3,b4⟩:=hb
 obtain⟨⟨p1,p2⟩,p3,p4⟩:=hp
 rw[w64 (n:=b.1-a.1) (by omega) (by omega),w64 (n:=p.2-a.2) (by omega) (by omega),w64 (n:=b.2-a.2) (by omega) (by omega),w64 (n:=p.1-a.1) (by omega) (by omega)]
 have m1:=mul_bd (a:=b.1-a.1) (b:=p.2-a.2) (by omega) (by omega)
 have m2:=mul_bd (a:=b.2-a.2) (b:=p.1-a.1) (by omega) (by omega)
 rw[w64 (n:=(b.1-a.1)*(p.2-a.2)) (by omega) (by omega),w64 (n:=(b.2-a.2)*(p.1-a.1)) (by omega) (by omega),w64 (by omega) (by omega)]
 rfl
theorem sideEv {a b p:Pt} (ha:Bd a) (hb:Bd b) (hp:Bd p):Ev (fun n=>Z136 n a b p) (side a b p):=by
 refine Ev.of_eq 1 ?_
 simp only[Z136Eq,side_wrap ha hb hp]
 exact Ev.pure _
theorem beq_pt (a b:Pt):Ty.beq (.pair (.int .i64) (.int .i64)) (a:Int×Int) (b:Int×Int)=decide (a=b):=by
 show (decide (a.1=b.1) && decide (a.2=b.2))=decide (a=b)
 rw[← Bool.decide_and]
 exact decide_eq_decide.2 Prod.ext_iff.symm
theorem pop_suffix {p:Pt}:∀ (l:List Pt),∃ v,l=v ++ pop p l:=by
 intro l
 induction l with
 | nil=>exact⟨[],rfl⟩
 | cons b l ih =>
  cases l with
  | nil=>exact⟨[],rfl⟩
  | cons a r =>
   unfold pop
   split
   ·obtain⟨v,hv⟩:=ih
    exact⟨b :: v,by rw[List.cons_append,← hv]⟩
   ·exact⟨[],rfl⟩
theorem take_pop {p:Pt} {B U xs:List Pt} {len:Nat} (h:xs.take len=B ++ U.reverse) (hl:len=B.length+U.length):xs.take (B.length+(pop p U).length)=B ++ (pop p U).reverse∧(pop p U).length≤U.length:=by
 obtain⟨v,hv⟩:=pop_suffix (p:=p) U
 have hle:(pop p U).length≤U.length:=by
  have:=congrArg List.length hv
  simp at this;omega
 refine⟨?_,hle⟩
 have e:xs.take (B.length+(pop p U).length)=(xs.take len).take (B.length+(pop p U).length):=by rw[List.take_take];congr 1;omega
 rw[e,h,List.take_append,List.take_of_length_le (by omega),Nat.add_sub_cancel_left]
 congr 1
 have h2:U.reverse=(pop p U).reverse ++ v.reverse:=by
  have:=congrArg List.reverse hv
  rwa [List.reverse_append] at this
 rw[h2,List.take_append_of_le_length (by simp),List.take_of_length_le (by simp)]
def pushAll (U rest:List Pt):List Pt:=rest.foldl (fun st p=>p :: pop p st) U
theorem push_take {p:Pt} {B V ys:List Pt} {k:Nat} (h:ys.take k=B ++ V.reverse) (hk:k=B.length+V.length) (hl:k≤ys.length):((ys.take k) ++ [p] ++ ys.drop (k + [p].length)).take (k + [p].length)=B ++ (p :: V).reverse∧k + [p].length≤((ys.take k) ++ [p] ++ ys.drop (k + [p].length)).length:=by
 refine⟨?_,by simp;omega⟩
 have h1:((ys.take k) ++ [p]).length=k + [p].length:=by simp;omega
 rw[List.take_append_of_le_length (by omega),List.take_of_length_le (by omega),h]
 simp
theorem hullOfc2L1Ev  (B:List Pt) (p:Pt) (hp:Bd p) (xs:List Pt) (least:Int) (hB:least=((B.length+1:Nat):Int)):∀ (U:List Pt),(∀ u∈U,Bd u)→∀ (len:Nat),len=B.length+U.length→xs.take len=B ++ U.reverse→len≤xs.length→len<1000000000000 →
  Ev (fun n=>Z135L1 n ((least,((),((),()))),(((((len:Nat):Int)),()),(xs,((p.1,(p.2,())),()))))) (((),((),())),(((((B.length+(pop p U).length:Nat):Int)),()),(xs,((p.1,(p.2,())),())))):=by
 intro U
 induction U with
 | nil =>
  intro _ len hlen ht hle hlt
  simp only[List.length_nil,Nat.add_zero] at hlen
  refine Ev.of_eq 1 ?_
  simp (disch:=omega) only [Z135L1Eq,Int.toNat_natCast,br_neg]
  exact (Ev.pure _).congr (by simp only[pop,List.length_nil,Nat.add_zero,hlen])
 | cons b r ih =>
  intro hU len hlen ht hle hlt
  cases r with
  | nil =>
   simp only[List.length_cons,List.length_nil] at hlen
   refine Ev.of_eq 1 ?_
   simp (disch:=omega) only [Z135L1Eq,Int.toNat_natCast,br_neg]
   exact (Ev.pure _).congr (by simp only[pop,List.length_nil,List.length_cons,hlen])
  | cons a r =>
   have hlen':len=B.length+r.length+2:=by simp only[List.length_cons] at hlen;omega
   have hform:xs.take len=(B ++ r.reverse) ++ [a,b]:=by rw[ht];simp
   have hbl:(B ++ r.reverse).length=len-2:=by simp;omega
   have g1:xs[len-2]?=some a:=by
    have:(xs.take len)[len-2]?=some a:=by rw[hform,List.getElem?_append_right (by omega),hbl,Nat.sub_self];rfl
    rwa [List.getElem?_take_of_lt (by omega)] at this
   have g2:xs[len-1]?=some b:=by
    have:(xs.take len)[len-1]?=some b:=by rw[hform,List.getElem?_append_right (by omega),hbl,show len-1-(len-2)=1 by omega];rfl
    rwa [List.getElem?_take_of_lt (by omega)] at this
   refine Ev.of_eq 1 ?_
   simp (disch:=omega) only [Z135L1Eq,Int.toNat_natCast,br_pos,wm1,wm2,tonat_sub1,tonat_sub2,Nat.zero_add,g1,g2,Option.bind_some]
   refine Ev.bind (sideEv (hU a (by simp)) (hU b (by simp)) hp) ?_
   by_cases hs:side a b p≤0
   ·simp (disch:=omega) only [br_pos,hs]
    have hpop:pop p (b :: a :: r)=pop p (a :: r):=by rw[pop,if_pos hs]
    have:=ih (fun u hu=>hU u (List.mem_cons_of_mem _ hu)) (len-1) (by simp only[List.length_cons];omega) (by
     have:xs.take (len-1)=(xs.take len).take (len-1):=by rw[List.take_take];congr 1;omega
     rw[this,ht]
     rw[show (b :: a :: r).reverse=(a :: r).reverse ++ [b] by simp,← List.append_assoc]
     rw[List.take_append_of_le_length (by simp;omega)]
     rw[List.take_of_length_le (by simp;omega)]) (by omega) (by omega)
    rw[hpop]
    exact this
   ·simp (disch:=omega) only [br_neg,hs]
    have hpop:pop p (b :: a :: r)=b :: a :: r:=by rw[pop,if_neg hs]
    exact (Ev.pure _).congr (by rw[hpop,hlen])
theorem hullOfc2L1v2Ev (c0:List Pt) (c1:Bool) (c2 c3 c4 c5:Nat) (c6:Int) (c7 c8 c9 c10:Nat) (c11 c12:Int) (c13 c14:Nat) (s:List Pt) (l0:Int) (m0:Nat) (B:List Pt) (p:Pt) (hp:Bd p) (xs:List Pt) (least:Int) (hB:least=((B.length+1:Nat):Int)):∀ (U:List Pt),(∀ u∈U,Bd u)→∀ (len:Nat),len=B.length+U.length→xs.take len=B ++ U.reverse→len≤xs.length→len<1000000000000 →
  Ev (fun n=>Z135L1v1 n c0 c1 c2 c3 c4 c5 c6 c7 c8 c9 c10 c11 c12 c13 c14 ((least,((),((),()))),(s,(((((len:Nat):Int)),()),((((),((),())),()),(xs,((l0,()),((((m0:Nat):Int),()),((p.1,(p.2,())),()))))))))) (((),((),())),(s,(((((B.length+(pop p U).length:Nat):Int)),()),((((),((),())),()),(xs,((l0,()),((((m0:Nat):Int),()),((p.1,(p.2,())),())))))))):=by
 intro U
 induction U with
 | nil =>
  intro _ len hlen ht hle hlt
  simp only[List.length_nil,Nat.add_zero] at hlen
  refine Ev.of_eq 1 ?_
  simp (disch:=omega) only [Z135L1v1Eq,Int.toNat_natCast,br_neg]
  exact (Ev.pure _).congr (by simp only[pop,List.length_nil,Nat.add_zero,hlen])
 | cons b r ih =>
  intro hU len hlen ht hle hlt
  cases r with
  | nil =>
   simp only[List.length_cons,List.length_nil] at hlen
   refine Ev.of_eq 1 ?_
   simp (disch:=omega) only [Z135L1v1Eq,Int.toNat_natCast,br_neg]
   exact (Ev.pure _).congr (by simp only[pop,List.length_nil,List.length_cons,hlen])
  | cons a r =>
   have hlen':len=B.length+r.length+2:=by simp only[List.length_cons] at hlen;omega
   have hform:xs.take len=(B ++ r.reverse) ++ [a,b]:=by rw[ht];simp
   have hbl:(B ++ r.reverse).length=len-2:=by simp;omega
   have g1:xs[len-2]?=some a:=by
    have:(xs.take len)[len-2]?=some a:=by rw[hform,List.getElem?_append_right (by omega),hbl,Nat.sub_self];rfl
    rwa [List.getElem?_take_of_lt (by omega)] at this
   have g2:xs[len-1]?=some b:=by
    have:(xs.take len)[len-1]?=some b:=by rw[hform,List.getElem?_append_right (by omega),hbl,show len-1-(len-2)=1 by omega];rfl
    rwa [List.getElem?_take_of_lt (by omega)] at this
   refine Ev.of_eq 1 ?_
   simp (disch:=omega) only [Z135L1v1Eq,Int.toNat_natCast,br_pos,wm1,wm2,tonat_sub1,tonat_sub2,Nat.zero_add,g1,g2,Option.bind_some]
   refine Ev.bind (sideEv (hU a (by simp)) (hU b (by simp)) hp) ?_
   by_cases hs:side a b p≤0
   ·simp (disch:=omega) only [br_pos,hs]
    have hpop:pop p (b :: a :: r)=pop p (a :: r):=by rw[pop,if_pos hs]
    have:=ih (fun u hu=>hU u (List.mem_cons_of_mem _ hu)) (len-1) (by simp only[List.length_cons];omega) (by
     have:xs.take (len-1)=(xs.take len).take (len-1):=by rw[List.take_take];congr 1;omega
     rw[this,ht]
     rw[show (b :: a :: r).reverse=(a :: r).reverse ++ [b] by simp,← List.append_assoc]
     rw[List.take_append_of_le_length (by simp;omega)]
     rw[List.take_of_length_le (by simp;omega)]) (by omega) (by omega)
    rw[hpop]
    exact this
   ·simp (disch:=omega) only [br_neg,hs]
    have hpop:pop p (b :: a :: r)=b :: a :: r:=by rw[pop,if_neg hs]
    exact (Ev.pure _).congr (by rw[hpop,hlen])
theorem hullOfc2L1v3Ev (c0:List Pt) (c1:Bool) (c2 c3 c4 c5:Nat) (c6:Int) (c7 c8 c9 c10:Nat) (c11 c12:Int) (c13 c14:Nat) (s:List Pt) (l0:Int) (m0:Nat) (B:List Pt) (p:Pt) (hp:Bd p) (xs:List Pt) (least:Int) (hB:least=((B.length+1:Nat):Int)):∀ (U:List Pt),(∀ u∈U,Bd u)→∀ (len:Nat),len=B.length+U.length→xs.take len=B ++ U.reverse→len≤xs.length→len<1000000000000 →
  Ev (fun n=>Z135L1v2 n c0 c1 c2 c3 c4 c5 c6 c7 c8 c9 c10 c11 c12 c13 c14 ((least,((),((),()))),(s,(((((len:Nat):Int)),()),((((),((),())),()),((),((l0,()),((((m0:Nat):Int),()),(xs,((p.1,(p.2,())),())))))))))) (((),((),())),(s,(((((B.length+(pop p U).length:Nat):Int)),()),((((),((),())),()),((),((l0,()),((((m0:Nat):Int),()),(xs,((p.1,(p.2,())),()))))))))):=by
 intro U
 induction U with
 | nil =>
  intro _ len hlen ht hle hlt
  simp only[List.length_nil,Nat.add_zero] at hlen
  refine Ev.of_eq 1 ?_
  simp (disch:=omega) only [Z135L1v2Eq,Int.toNat_natCast,br_neg]
  exact (Ev.pure _).congr (by simp only[pop,List.length_nil,Nat.add_zero,hlen])
 | cons b r ih =>
  intro hU len hlen ht hle hlt
  cases r with
  | nil =>
   simp only[List.length_cons,List.length_nil] at hlen
   refine Ev.of_eq 1 ?_
   simp (disch:=omega) only [Z135L1v2Eq,Int.toNat_natCast,br_neg]
   exact (Ev.pure _).congr (by simp only[pop,List.length_nil,List.length_cons,hlen])
  | cons a r =>
   have hlen':len=B.length+r.length+2:=by simp only[List.length_cons] at hlen;omega
   have hform:xs.take len=(B ++ r.reverse) ++ [a,b]:=by rw[ht];simp
   have hbl:(B ++ r.reverse).length=len-2:=by simp;omega
   have g1:xs[len-2]?=some a:=by
    have:(xs.take len)[len-2]?=some a:=by rw[hform,List.getElem?_append_right (by omega),hbl,Nat.sub_self];rfl
    rwa [List.getElem?_take_of_lt (by omega)] at this
   have g2:xs[len-1]?=some b:=by
    have:(xs.take len)[len-1]?=some b:=by rw[hform,List.getElem?_append_right (by omega),hbl,show len-1-(len-2)=1 by omega];rfl
    rwa [List.getElem?_take_of_lt (by omega)] at this
   refine Ev.of_eq 1 ?_
   simp (disch:=omega) only [Z135L1v2Eq,Int.toNat_natCast,br_pos,wm1,wm2,tonat_sub1,tonat_sub2,Nat.zero_add,g1,g2,Option.bind_some]
   refine Ev.bind (sideEv (hU a (by simp)) (hU b (by simp)) hp) ?_
   by_cases hs:side a b p≤0
   ·simp (disch:=omega) only [br_pos,hs]
    have hpop:pop p (b :: a :: r)=pop p (a :: r):=by rw[pop,if_pos hs]
    have:=ih (fun u hu=>hU u (List.mem_cons_of_mem _ hu)) (len-1) (by simp only[List.length_cons];omega) (by
     have:xs.take (len-1)=(xs.take len).take (len-1):=by rw[List.take_take];congr 1;omega
     rw[this,ht]
     rw[show (b :: a :: r).reverse=(a :: r).reverse ++ [b] by simp,← List.append_assoc]
     rw[List.take_append_of_le_length (by simp;omega)]
     rw[List.take_of_length_le (by simp;omega)]) (by omega) (by omega)
    rw[hpop]
    exact this
   ·simp (disch:=omega) only [br_neg,hs]
    have hpop:pop p (b :: a :: r)=b :: a :: r:=by rw[pop,if_neg hs]
    exact (Ev.pure _).congr (by rw[hpop,hlen])
theorem upEv (r0:List Pt) (r1:Bool) (s:List Pt) (m:Nat) (hm:m≤s.length) (hmm:m<1000000000) (hs:∀ x∈s.take m,Bd x):∀ (rest U:List Pt) (i:Nat) (ys:List Pt),(s.take m).drop i=rest→i≤m→(∀ u∈U,Bd u)→U.length≤i→ys.take U.length=U.reverse→U.length≤ys.length →
  ∃ ys',Ev (fun n=>Z89L9 n ((r0,(r1,(((m:Nat):Int),((),((),(((m:Nat):Int),(((m:Nat):Int),(((i:Nat):Int),())))))))),(s,((((U.length:Nat):Int),()),((((),((),())),()),(ys,())))))) ((r0,(r1,(((m:Nat):Int),((),((),()))))),(s,(((((pushAll U rest).length:Nat):Int),()),((((),((),())),()),(ys',()))))) ∧
   ys'.take (pushAll U rest).length=(pushAll U rest).reverse∧(pushAll U rest).length≤ys'.length∧(pushAll U rest).length≤m∧∀ u∈pushAll U rest,Bd u:=by
 intro rest
 induction rest with
 | nil =>
  intro U i ys hd hi hU hUi ht hl
  have hge:=gdrop_nil hd
  rw[List.length_take] at hge
  refine⟨ys,?_,ht,hl,by show U.length≤m;omega,hU⟩
  refine Ev.of_eq 2 ?_
  simp (disch:=omega) only [Z89L9Eq,Int.toNat_natCast,br_neg]
  exact Ev.pure _
 | cons p rest ih =>
  intro U i ys hd hi hU hUi ht hl
  obtain⟨h1,h2,h3⟩:=gdrop hd
  rw[List.length_take] at h3
  have hp:Bd p:=hs p (List.mem_of_getElem? h1)
  have hsi:s[i]?=some p:=by
   rw[List.getElem?_take] at h1
   split at h1
   ·exact h1
   ·cases h1
  have hU':∀ u∈p :: pop p U,Bd u:=fun u hu=>by
   rcases List.mem_cons.1 hu with rfl | hu
   ·exact hp
   ·exact hU u (pop_mem _ _ hu)
  obtain⟨t1,t2⟩:=take_pop (p:=p) (B:=[]) (U:=U) (xs:=ys) (len:=U.length) (by simpa using ht) (by simp)
  simp only[List.length_nil,Nat.zero_add,List.nil_append] at t1
  obtain⟨k1,k2⟩:=push_take (p:=p) (B:=[]) (V:=pop p U) (ys:=ys) (k:=(pop p U).length) (by simpa using t1) (by simp) (by omega)
  have hadd2:(pop p U).length + [p].length=(p :: pop p U).length:=by simp only[List.length_cons,List.length_nil]
  simp only[List.nil_append,hadd2] at k1 k2
  obtain⟨ys',i1,i2⟩:=ih (p :: pop p U) (i+1) (ys.take (pop p U).length ++ [p] ++ ys.drop (p :: pop p U).length) h2 (by omega) hU' (by simp only[List.length_cons];omega) k1 k2
  refine⟨ys',?_,i2⟩
  refine Ev.of_eq 2 ?_
  simp (disch:=omega) only [Z89L9Eq,Int.toNat_natCast,br_pos,Nat.zero_add,hsi,Option.bind_some]
  have hpop:=hullOfc2L1Ev [] p hp ys 1 rfl U hU U.length (by simp) (by simpa using ht) hl (by omega)
  simp only[List.length_nil,Nat.zero_add] at hpop
  refine Ev.bind hpop ?_
  have hcap:(pop p U).length≤ys.length∧((pop p U).length + [p].length)*16≤140737488355328:=⟨by omega,by simp only[List.length_cons,List.length_nil];omega⟩
  have hadd:(pop p U).length + [p].length=(p :: pop p U).length:=by simp only[List.length_cons,List.length_nil]
  simp only[Int.toNat_natCast,br_pos hcap]
  simp (disch:=omega) only [wr1,hadd]
  exact i1.shift 1
theorem downEv (c0:List Pt) (c1:Bool) (c2 c3 c4 c5:Nat) (c6:Int) (c7 c8 c9 c10:Nat) (c11 c12:Int) (c13 c14:Nat) (B:List Pt) (l0:Int) (hl0:l0=((B.length+1:Nat):Int)) (s:List Pt) (m0:Nat) (hm:m0≤s.length) (hmm:m0<1000000000) (hBl:B.length<1000000000) (hs:∀ x∈s.take m0,Bd x):∀ (k:Nat) (U ys:List Pt),k≤m0→(∀ u∈U,Bd u)→U.length<1000000000-k→ys.take (B.length+U.length)=B ++ U.reverse→B.length+U.length≤ys.length →
  ∃ ys',Ev (fun n=>Z170L1v1 n c0 c1 c2 c3 c4 c5 c6 c7 c8 c9 c10 c11 c12 c13 c14 ((((),()),((),((((k:Nat):Int)-1),()))),(s,((((B.length+U.length:Nat):Int),()),((((),((),())),()),((),((l0,()),((((m0:Nat):Int),()),((),((),(ys,()))))))))))) ((),(s,((((B.length+(pushAll U (s.take k).reverse).length:Nat):Int),()),((((),((),())),()),((),((l0,()),((((m0:Nat):Int),()),((),((),(ys',())))))))))) ∧
   ys'.take (B.length+(pushAll U (s.take k).reverse).length)=B ++ (pushAll U (s.take k).reverse).reverse∧B.length+(pushAll U (s.take k).reverse).length≤ys'.length∧(pushAll U (s.take k).reverse).length≤U.length+k:=by
 intro k
 induction k with
 | zero =>
  intro U ys hk hU hUl ht hl
  refine⟨ys,?_,by simpa[pushAll] using ht,by simpa[pushAll] using hl,by simp[pushAll]⟩
  refine Ev.of_eq 3 ?_
  simp (disch:=omega) only [Z170L1v1Eq,Int.toNat_natCast,br_neg,List.take_zero,List.reverse_nil,pushAll,List.foldl_nil]
  exact Ev.pure _
 | succ k ih =>
  intro U ys hk hU hUl ht hl
  have hlt:k<s.length:=by omega
  have hsk:s[k]?=some s[k]:=List.getElem?_eq_getElem hlt
  generalize s[k]=p at hsk
  have hp:Bd p:=hs p (List.mem_of_getElem? (i:=k) (by rw[List.getElem?_take_of_lt (by omega)];exact hsk))
  have htk:(s.take (k+1)).reverse=p :: (s.take k).reverse:=by
   rw[List.take_add_one,hsk];simp
  have hpa:pushAll U (s.take (k+1)).reverse=pushAll (p :: pop p U) (s.take k).reverse:=by rw[htk];rfl
  have hU':∀ u∈p :: pop p U,Bd u:=fun u hu=>by
   rcases List.mem_cons.1 hu with rfl | hu
   ·exact hp
   ·exact hU u (pop_mem _ _ hu)
  obtain⟨t1,t2⟩:=take_pop (p:=p) (B:=B) (U:=U) (xs:=ys) ht rfl
  obtain⟨k1,k2⟩:=push_take (p:=p) (B:=B) (V:=pop p U) (ys:=ys) t1 rfl (by omega)
  have hadd:B.length+(pop p U).length + [p].length=B.length+(p :: pop p U).length:=by simp only[List.length_cons,List.length_nil];omega
  rw[hadd] at k1 k2
  obtain⟨ys',i1,i2,i3,i4⟩:=ih (p :: pop p U) _ (by omega) hU' (by simp only[List.length_cons];omega) k1 k2
  rw[hpa]
  refine⟨ys',?_,i2,i3,by simp only[List.length_cons] at i4;omega⟩
  have e1:(((k+1:Nat):Int)-1)=(k:Int):=by omega
  refine Ev.of_eq 3 ?_
  rw[e1]
  simp (disch:=omega) only [Z170L1v1Eq,Int.toNat_natCast,br_pos,Nat.zero_add,hsk,Option.bind_some]
  refine Ev.bind (hullOfc2L1v3Ev c0 c1 c2 c3 c4 c5 c6 c7 c8 c9 c10 c11 c12 c13 c14 s l0 m0 B p hp ys l0 hl0 U hU _ rfl ht hl (by omega)) ?_
  have hcap:B.length+(pop p U).length≤ys.length∧(B.length+(pop p U).length + [p].length)*16≤140737488355328:=⟨by omega,by simp only[List.length_cons,List.length_nil];omega⟩
  have hadd':B.length+(pop p U).length + [p].length=B.length+(p :: pop p U).length:=hadd
  simp only[Int.toNat_natCast,br_pos hcap]
  simp (disch:=omega) only [wm1,hadd']
  exact i1.shift 2
theorem down1Ev (c0:List Pt) (c1:Bool) (c2 c3 c4 c5:Nat) (c6:Int) (c7 c8 c9 c10:Nat) (c11 c12:Int) (c13 c14:Nat) (B:List Pt) (l0:Int) (hl0:l0=((B.length+1:Nat):Int)) (s:List Pt) (m0:Nat) (hm:m0≤s.length) (h0:0<m0) (hmm:m0<1000000000) (hBl:B.length<1000000000) (hs:∀ x∈s.take m0,Bd x) (U ys:List Pt) (hU:∀ u∈U,Bd u) (hUl:U.length<1000000000-m0) (ht:ys.take (B.length+U.length)=B ++ U.reverse) (hl:B.length+U.length≤ys.length) :
  ∃ ys',Ev (fun n=>Z170L1 n c0 c1 c2 c3 c4 c5 c6 c7 c8 c9 c10 c11 c12 c13 c14 ((((),()),((),((((m0:Nat):Int)-1),()))),(s,((((B.length+U.length:Nat):Int),()),((((),((),())),()),(ys,((l0,()),((((m0:Nat):Int),()),())))))))) (.inl ((),(s,((((B.length+(pushAll U (s.take m0).reverse).length:Nat):Int),()),((((),((),())),()),((),((l0,()),((((m0:Nat):Int),()),((),((),(ys',()))))))))))) ∧
   ys'.take (B.length+(pushAll U (s.take m0).reverse).length)=B ++ (pushAll U (s.take m0).reverse).reverse∧B.length+(pushAll U (s.take m0).reverse).length≤ys'.length∧(pushAll U (s.take m0).reverse).length≤U.length+m0:=by
 obtain⟨k,rfl⟩:∃ k,m0=k+1:=⟨m0-1,by omega⟩
 have hlt:k<s.length:=by omega
 have hsk:s[k]?=some s[k]:=List.getElem?_eq_getElem hlt
 generalize s[k]=p at hsk
 have hp:Bd p:=hs p (List.mem_of_getElem? (i:=k) (by rw[List.getElem?_take_of_lt (by omega)];exact hsk))
 have htk:(s.take (k+1)).reverse=p :: (s.take k).reverse:=by
  rw[List.take_add_one,hsk];simp
 have hpa:pushAll U (s.take (k+1)).reverse=pushAll (p :: pop p U) (s.take k).reverse:=by rw[htk];rfl
 have hU':∀ u∈p :: pop p U,Bd u:=fun u hu=>by
  rcases List.mem_cons.1 hu with rfl | hu
  ·exact hp
  ·exact hU u (pop_mem _ _ hu)
 obtain⟨t1,t2⟩:=take_pop (p:=p) (B:=B) (U:=U) (xs:=ys) ht rfl
 obtain⟨k1,k2⟩:=push_take (p:=p) (B:=B) (V:=pop p U) (ys:=ys) t1 rfl (by omega)
 have hadd:B.length+(pop p U).length + [p].length=B.length+(p :: pop p U).length:=by simp only[List.length_cons,List.length_nil];omega
 rw[hadd] at k1 k2
 obtain⟨ys',i1,i2,i3,i4⟩:=downEv c0 c1 c2 c3 c4 c5 c6 c7 c8 c9 c10 c11 c12 c13 c14 B l0 hl0 s (k+1) hm hmm hBl hs k (p :: pop p U) _ (by omega) hU' (by simp only[List.length_cons];omega) k1 k2
 rw[hpa]
 refine⟨ys',?_,i2,i3,by simp only[List.length_cons] at i4;omega⟩
 have e1:(((k+1:Nat):Int)-1)=(k:Int):=by omega
 refine Ev.of_eq 3 ?_
 rw[e1]
 simp (disch:=omega) only [Z170L1Eq,Int.toNat_natCast,br_pos,Nat.zero_add,hsk,Option.bind_some]
 refine Ev.bind (hullOfc2L1v2Ev c0 c1 c2 c3 c4 c5 c6 c7 c8 c9 c10 c11 c12 c13 c14 s l0 (k+1) B p hp ys l0 hl0 U hU _ rfl ht hl (by omega)) ?_
 have hcap:B.length+(pop p U).length≤ys.length∧(B.length+(pop p U).length + [p].length)*16≤140737488355328:=⟨by omega,by simp only[List.length_cons,List.length_nil];omega⟩
 have hadd':B.length+(pop p U).length + [p].length=B.length+(p :: pop p U).length:=hadd
 simp only[Int.toNat_natCast,br_pos hcap]
 simp (disch:=omega) only [wm1,hadd']
 refine Ev.bind (i1.shift 2) ?_
 simp only[Int.toNat_natCast]
 exact Ev.pure _
theorem ddf_take_succ {t:List Pt} {i:Nat} {x y:Pt} (hx:t[i+1]?=some x) (hy:t[i]?=some y):ddf (t.take (i+2))=if y=x then ddf (t.take (i+1)) else ddf (t.take (i+1)) ++ [x]:=by
 have e:t.take (i+2)=t.take (i+1) ++ [x]:=by rw[List.take_add_one,hx];rfl
 rw[e,ddf_snoc']
 have hl:(t.take (i+1)).getLast?=some y:=by rw[List.take_add_one,hy];simp
 rw[hl]
 by_cases h:y=x
 ·rw[if_pos h,if_pos (by rw[h])]
 ·rw[if_neg h,if_neg (fun e=>h (Option.some.inj e))]
theorem compEv9 (t:List Pt) (n k0:Nat) (hn:n=t.length) (hnn:n<1000000000) (hk0:1≤k0):∀ (j k2:Nat) (row:List Pt) (kk:Nat),k0+k2+j=n→1≤k2→row.length=n→row.drop (k0+k2-1)=t.drop (k0+k2-1)→row.take kk=ddf (t.take (k0+k2))→kk=(ddf (t.take (k0+k2))).length→kk≤k0+k2-1 →
  ∃ row',Ev (fun m=>Z134L9 m ((((n:Nat):Int),(((kk:Nat):Int),((((k0:Nat):Int),((n-k0:Nat):Int)),(((k2:Nat):Int),())))),(row,()))) ((((n:Nat):Int),((((ddf t).length:Nat):Int),())),(row',()))∧row'.take (ddf t).length=ddf t∧row'.length=n:=by
 intro j
 induction j with
 | zero =>
  intro k2 row kk hj h2 hl hd ht hkk hle
  have hall:t.take (k0+k2)=t:=List.take_of_length_le (by omega)
  rw[hall] at ht hkk
  refine⟨row,?_,by rw[← hkk];exact ht,hl⟩
  refine Ev.of_eq 1 ?_
  simp (disch:=omega) only [Z134L9Eq,Int.toNat_natCast,br_neg]
  rw[hkk]
  exact Ev.pure _
 | succ j ih =>
  intro k2 row kk hj h2 hl hd ht hkk hle
  obtain⟨i,hi⟩:∃ i,k0+k2=i+1:=⟨k0+k2-1,by omega⟩
  have hi':k0+(k2-1)=i:=by omega
  rw[hi] at hd ht hkk hle hj
  simp only[Nat.add_sub_cancel] at hd hle
  have g0:row[i]?=t[i]?:=by
   have:=congrArg (fun l=>l[0]?) hd
   simpa[List.getElem?_drop] using this
  have g1:row[i+1]?=t[i+1]?:=by
   have:=congrArg (fun l=>l[1]?) hd
   simpa[List.getElem?_drop] using this
  obtain⟨y,hy⟩:∃ y,t[i]?=some y:=⟨t[i]'(by omega),List.getElem?_eq_getElem _⟩
  obtain⟨x,hx⟩:∃ x,t[i+1]?=some x:=⟨t[i+1]'(by omega),List.getElem?_eq_getElem _⟩
  rw[hy] at g0;rw[hx] at g1
  have hs:=ddf_take_succ hx hy
  have hd1:row.drop (i+1)=t.drop (i+1):=by
   rw[← List.drop_drop,hd,List.drop_drop]
  by_cases hxy:y=x
  ·rw[if_pos hxy] at hs
   obtain⟨row',r1,r2⟩:=ih (k2+1) row kk (by omega) (by omega) hl (by rw[show k0+(k2+1)-1=i+1 by omega];exact hd1) (by rw[show k0+(k2+1)=i+2 by omega,hs];exact ht) (by rw[show k0+(k2+1)=i+2 by omega,hs];exact hkk) (by omega)
   refine⟨row',?_,r2⟩
   refine Ev.of_eq 1 ?_
   have hb:(!decide (x=y))=false:=by rw[decide_eq_true hxy.symm];rfl
   simp (disch:=omega) only [Z134L9Eq,Int.toNat_natCast,br_pos,wm1,tonat_sub1,hi,hi',g0,g1,Option.bind_some,beq_pt,hb,br_f,wr1]
   exact r1
  ·rw[if_neg hxy] at hs
   have hkl:kk<row.length:=by omega
   obtain⟨row',r1,r2⟩:=ih (k2+1) (row.set kk x) (kk+1) (by omega) (by omega) (by simpa using hl) (by
    rw[show k0+(k2+1)-1=i+1 by omega,List.drop_set_of_lt (by omega)];exact hd1) (by
    rw[show k0+(k2+1)=i+2 by omega,hs,List.take_add_one,List.take_set_of_le (by omega),ht]
    simp[hkl]) (by rw[show k0+(k2+1)=i+2 by omega,hs,List.length_append,← hkk];rfl) (by omega)
   refine⟨row',?_,r2⟩
   refine Ev.of_eq 1 ?_
   have hb:(!decide (x=y))=true:=by rw[decide_eq_false (Ne.symm hxy)];rfl
   have gk:row[kk]?=some row[kk]:=List.getElem?_eq_getElem hkl
   simp (disch:=omega) only [Z134L9Eq,Int.toNat_natCast,br_pos,wm1,tonat_sub1,hi,hi',g0,g1,Option.bind_some,beq_pt,hb,br_t,wr1,Nat.zero_add,gk]
   exact r1
theorem compEv4 (t:List Pt) (n:Nat) (hn:n=t.length) (hnn:n<1000000000):∀ (j k:Nat),k+j=n→1≤k→ddf (t.take k)=t.take k →
  ∃ r,Ev (fun m=>Z134L4 m ((((n:Nat):Int),(((k:Nat):Int),())),(t,()))) r∧((r=.inl ((((n:Nat):Int),()),(t,()))∧ddf t=t)∨∃ row',r=.inr (((((ddf t).length:Nat):Int),()),(row',()))∧row'.take (ddf t).length=ddf t∧(ddf t).length≤row'.length):=by
 intro j
 induction j with
 | zero =>
  intro k hj hk hd
  have hall:t.take k=t:=List.take_of_length_le (by omega)
  rw[hall] at hd
  refine⟨_,?_,.inl ⟨rfl,hd⟩⟩
  refine Ev.of_eq 1 ?_
  simp (disch:=omega) only [Z134L4Eq,Int.toNat_natCast,br_neg]
  exact Ev.pure _
 | succ j ih =>
  intro k hj hk hd
  obtain⟨i,rfl⟩:∃ i,k=i+1:=⟨k-1,by omega⟩
  obtain⟨y,hy⟩:∃ y,t[i]?=some y:=⟨t[i]'(by omega),List.getElem?_eq_getElem _⟩
  obtain⟨x,hx⟩:∃ x,t[i+1]?=some x:=⟨t[i+1]'(by omega),List.getElem?_eq_getElem _⟩
  have hs:=ddf_take_succ hx hy
  have hk1:i+1-1=i:=rfl
  by_cases hxy:y=x
  ·rw[if_pos hxy] at hs
   have hlen:(ddf (t.take (i+2))).length=i+1:=by rw[hs,hd,List.length_take];omega
   obtain⟨row',r1,r2,r3⟩:=compEv9 t n (i+1) hn hnn (by omega) j 1 t (i+1) (by omega) (by omega) hn.symm (by rw[show i+1+1-1=i+1 by omega]) (by rw[show i+1+1=i+2 by omega,hs,hd]) (by rw[show i+1+1=i+2 by omega,hlen]) (by omega)
   have hdl:=(ddf_main _ t rfl).2.2
   refine⟨.inr (((((ddf t).length:Nat):Int),()),((row'.take (ddf t).length ++ List.replicate (n-(ddf t).length) ((0:Int),(0:Int)) ++ row'.drop ((ddf t).length+(n-(ddf t).length))),())),?_,.inr ⟨_,rfl,?_,?_⟩⟩
   ·refine Ev.of_eq 1 ?_
    have hb:decide (x=y)=true:=decide_eq_true hxy.symm
    simp (disch:=omega) only [Z134L4Eq,Int.toNat_natCast,br_pos,wm1,tonat_sub1,hk1,Nat.zero_add,hx,hy,Option.bind_some,beq_pt,hb,br_t]
    refine Ev.bind r1 ?_
    simp (disch:=omega) only [Int.toNat_natCast,br_pos,Nat.zero_add]
    exact Ev.pure _
   ·rw[List.append_assoc,List.take_append_of_le_length (by simp;omega),List.take_take,Nat.min_self];exact r2
   ·simp;omega
  ·rw[if_neg hxy] at hs
   obtain⟨r,r1,r2⟩:=ih (i+1+1) (by omega) (by omega) (by
    rw[show i+1+1=i+2 by omega,hs,hd]
    rw[show i+2=(i+1)+1 by omega,List.take_add_one (i:=i+1),hx];rfl)
   refine⟨r,?_,r2⟩
   refine Ev.of_eq 1 ?_
   have hb:decide (x=y)=false:=decide_eq_false (Ne.symm hxy)
   simp (disch:=omega) only [Z134L4Eq,Int.toNat_natCast,br_pos,wm1,tonat_sub1,hk1,Nat.zero_add,hx,hy,Option.bind_some,beq_pt,hb,br_f,wr1]
   exact r1
theorem hullEv (l:List Pt) (hl:l.length<100000000) (hb:∀ x∈l,Bd x):Ev (fun n=>hullOf n l) (hullRes l):=by
 have hsl:=sort_length l
 have hsb:∀ x∈sortPts l,Bd x:=fun x hx=>hb x (sort_mem.1 hx)
 have htk:Hu.sortPts (l.take l.length) ++ l.drop l.length=sortPts l:=by simp
 refine Ev.of_eq 2 ?_
 have hc:l.length≤l.length∧l.length<4611686018427387904:=⟨Nat.le_refl _,by omega⟩
 have hc0:l.length≤8796093022208:=by omega
 simp only[hullOfEq,htk,br_pos hc,br_pos hc0]
 have first:∃ j:((List (Int×Int))×(Bool×(Int×Unit)))×((List (Int×Int))×Unit),Ev (fun n=>br (decide (((l.length:Nat):Int)<2)) (some (([],(false,(((l.length:Nat):Int),()))),(sortPts l,()))) ((Z134L4 n ((((l.length:Nat):Int),(1,())),(sortPts l,()))).bind fun l19=>(match l19 with | .inl y20=>some (([],(false,((((Int.toNat y20.1.1):Nat):Int),()))),(y20.2.1,())) | .inr y21=>some (([],(false,((((Int.toNat y21.1.1):Nat):Int),()))),(y21.2.1,()))))) j ∧
   j=(([],(false,((((ddf (sortPts l)).length:Nat):Int),()))),(j.2.1,()))∧j.2.1.take (ddf (sortPts l)).length=ddf (sortPts l)∧(ddf (sortPts l)).length≤j.2.1.length:=by
  by_cases h2:l.length<2
  ·have hd:=ddf_short (l:=sortPts l) (by omega)
   refine⟨(([],(false,(((l.length:Nat):Int),()))),(sortPts l,())),?_,by rw[hd,hsl],by rw[hd];simp,by rw[hd];exact Nat.le_refl _⟩
   simp (disch:=omega) only [br_pos]
   exact Ev.pure _
  ·obtain⟨r,r1,r2⟩:=compEv4 (sortPts l) l.length hsl.symm (by omega) (l.length-1) 1 (by omega) (by omega) (ddf_short (by rw[List.length_take];omega))
   simp (disch:=omega) only [br_neg]
   rcases r2 with ⟨rfl,hd⟩ | ⟨row',rfl,h3,h4⟩
   ·refine⟨(([],(false,(((l.length:Nat):Int),()))),(sortPts l,())),?_,by rw[hd,hsl],by rw[hd];simp,by rw[hd];exact Nat.le_refl _⟩
    refine Ev.bind r1 ?_
    simp only[Int.toNat_natCast]
    exact Ev.pure _
   ·refine⟨(([],(false,((((ddf (sortPts l)).length:Nat):Int),()))),(row',())),?_,rfl,h3,h4⟩
    refine Ev.bind r1 ?_
    simp only[Int.toNat_natCast]
    exact Ev.pure _
 obtain⟨j,j1,j2,j3,j4⟩:=first
 refine Ev.bind j1 ?_
 rw[j2]
 generalize j.2.1=row at j3 j4 ⊢
 clear j1 j2
 obtain⟨dm,_,dl⟩:=ddf_main _ (sortPts l) rfl
 have hdb:∀ x∈ddf (sortPts l),Bd x:=fun x hx=>hsb x ((dm x).1 hx)
 unfold hullRes
 simp only[Int.toNat_natCast]
 generalize hd:ddf (sortPts l)=d at j3 j4 dl hdb
 by_cases h3:d.length<3
 ·simp (disch:=omega) only [br_pos,h3,if_true]
  exact Ev.pure _
 ·simp (disch:=omega) only [br_neg,h3,if_false]
  have hne:d≠[]:=fun e=>by subst e;simp at h3
  obtain⟨d',pm,rfl⟩:∃ d' pm,d=d' ++ [pm]:=⟨d.dropLast,d.getLast hne,(List.dropLast_concat_getLast hne).symm⟩
  have hlen:(d' ++ [pm]).length=d'.length+1:=by simp
  have hdt:row.take d'.length=d':=by
   have:row.take d'.length=(row.take (d' ++ [pm]).length).take d'.length:=by rw[List.take_take];congr 1;omega
   rw[this,j3];simp
  have hrow:∀ x∈row.take (d' ++ [pm]).length,Bd x:=fun x hx=>hdb x (by rwa [j3] at hx)
  have hasc:Asc true (d' ++ [pm]):=by rw[← hd];exact (ddf_main _ (sortPts l) rfl).2.1 (sort_sorted l)
  have hdl:(d' ++ [pm]).length<1000000000:=by omega
  obtain⟨ys,u1,u2,u3,u4,u5⟩:=upEv [] false row (d' ++ [pm]).length j4 hdl hrow (d' ++ [pm]) [] 0 [] (by rw[List.drop_zero];exact j3) (Nat.zero_le _) (fun u hu=>by simp at hu) (Nat.le_refl _) (by simp) (Nat.le_refl _)
  have hch:pushAll [] (d' ++ [pm])=chain (d' ++ [pm]):=rfl
  obtain⟨c1,c2,c3,c4⟩:=chain_good _ (d' ++ [pm]) rfl hne hasc
  rw[hch] at u1 u2 u3 u4 u5
  obtain⟨rest,hrest⟩:∃ rest,chain (d' ++ [pm])=pm :: rest:=by
   rw[List.getLast?_concat] at c3
   cases hq:chain (d' ++ [pm]) with
   | nil=>rw[hq] at c3;cases c3
   | cons a r=>rw[hq] at c3;cases c3;exact⟨r,rfl⟩
  rw[hrest] at u1 u2 u3 u4 u5
  have hrl:rest.length+1≤d'.length+1:=by simpa using u4
  refine Ev.bind (u1.shift 1) ?_
  have hd0:0<d'.length:=by omega
  have e1:IntKind.i64.wrap ((((d' ++ [pm]).length:Nat):Int)-1)=((d'.length:Nat):Int):=by rw[hlen,wm1 _ (by omega)];omega
  have hcond:(0:Int)≤0∧(0:Int)≤((d'.length:Nat):Int)∧((d'.length:Nat):Int)≤(((d' ++ [pm]).length:Nat):Int):=⟨Int.le_refl _,by omega,by omega⟩
  simp only[Int.toNat_natCast,e1,br_pos hcond,wm1 _ (show d'.length<9223372036854775807 by omega)]
  obtain⟨zs,w1,w2,w3,w4⟩:=down1Ev ([]:List Pt) false 0 (d' ++ [pm]).length 0 (pm :: rest).length (((pm :: rest).length:Nat):Int) 0 (d' ++ [pm]).length 0 (d' ++ [pm]).length (((d' ++ [pm]).length:Nat):Int) ((d'.length:Nat):Int) 0 d'.length
   rest.reverse (((pm :: rest).length:Nat):Int) (by simp) row d'.length (by omega) hd0 (by omega) (by simp;omega) (fun x hx=>hdb x (by rw[hdt] at hx;exact List.mem_append_left _ hx)) [pm] ys (fun u hu=>u5 u (by simp only[List.mem_singleton] at hu;subst hu;simp)) (by simp only[List.length_cons,List.length_nil];omega) (by
    have:rest.reverse.length + [pm].length=(pm :: rest).length:=by simp
    rw[this,u2];simp) (by simpa using u3)
  have hback:pushAll [pm] (row.take d'.length).reverse=chain (d' ++ [pm]).reverse:=by
   rw[hdt,List.reverse_append];rfl
  rw[hback] at w1 w2 w3 w4
  obtain⟨k1,k2,k3,k4⟩:=chain_good (s:=false) _ (d' ++ [pm]).reverse rfl (by simpa using hne) (asc_rev hasc)
  rw[List.head?_reverse,List.getLast?_concat] at k4
  obtain⟨um,hum⟩:=List.getLast?_eq_some_iff.1 k4
  have hring:Hu.hullOf (d' ++ [pm])=(rest.reverse ++ (chain (d' ++ [pm]).reverse).reverse).dropLast:=by
   unfold Hu.hullOf ringOf
   rw[hrest,hum];simp
  have hT:(rest.reverse ++ (chain (d' ++ [pm]).reverse).reverse).length=rest.reverse.length+(chain (d' ++ [pm]).reverse).length:=by simp
  have hup1:1≤(chain (d' ++ [pm]).reverse).length:=by rw[hum];simp
  have hup2:(chain (d' ++ [pm]).reverse).length≤1+d'.length:=by simpa using w4
  have hrr:rest.reverse.length=rest.length:=by simp
  have hl0:rest.reverse.length + [pm].length=(pm :: rest).length:=by simp
  rw[hl0] at w1
  have hhl:(Hu.hullOf (d' ++ [pm])).length=rest.reverse.length+(chain (d' ++ [pm]).reverse).length-1:=by rw[hring,List.length_dropLast,hT]
  have hres:zs.take (rest.reverse.length+(chain (d' ++ [pm]).reverse).length-1)=Hu.hullOf (d' ++ [pm]):=by
   have:zs.take (rest.reverse.length+(chain (d' ++ [pm]).reverse).length-1)=(zs.take (rest.reverse.length+(chain (d' ++ [pm]).reverse).length)).take (rest.reverse.length+(chain (d' ++ [pm]).reverse).length-1):=by rw[List.take_take];congr 1;omega
   rw[this,w2,hring,List.dropLast_eq_take,hT]
  generalize hTT:rest.reverse.length+(chain (d' ++ [pm]).reverse).length=T at w1 w3 hhl hres
  have e2:IntKind.i64.wrap (((T:Nat):Int)-1)=(((T-1:Nat)):Int):=by rw[wm1 _ (by omega)];omega
  refine Ev.bind (x:=(((),()),((),((((T:Nat):Int),()),((),((),((),((),((),((),(zs,()))))))))))) (Ev.bind w1 ?_) ?_
  ·simp only[Int.toNat_natCast]
   exact Ev.pure _
  ·have hcond2:(0:Int)≤0∧(0:Int)≤((T-1:Nat):Int)∧((T-1:Nat):Int)≤((T:Nat):Int):=⟨Int.le_refl _,by omega,by omega⟩
   simp only[Int.toNat_natCast,e2,br_pos hcond2,hhl]
   by_cases h4:T-1<3
   ·simp (disch:=omega) only [br_pos,h4,if_true]
    exact Ev.pure _
   ·simp (disch:=omega) only [br_neg,br_pos,h4,if_false,Nat.zero_add,hres]
    exact Ev.pure _
end Go.Jm
namespace Go.Jm
open Go Go.Am Go.Proofs Go.Hu
theorem rsideEv {a b p:Pt} (ha:Bd a) (hb:Bd b) (hp:Bd p):Ev (fun n=>Z107 n a b p) (side a b p):=by
 refine Ev.of_eq 1 ?_
 simp only[Z107Eq,side_wrap ha hb hp]
 exact Ev.pure _
theorem far_wrap {a b:Pt} (ha:Bd a) (hb:Bd b):IntKind.i64.wrap (IntKind.i64.wrap (IntKind.i64.wrap (a.1-b.1)*IntKind.i64.wrap (a.1-b.1))+IntKind.i64.wrap (IntKind.i64.wrap (a.2-b.2)*IntKind.i64.wrap (a.2-b.2)))=far a b:=by
 obtain⟨⟨a1,a2⟩,a3,a4⟩:=ha
 obtain⟨⟨b1,b2⟩,b3,b4⟩:=hb
 rw[w64 (n:=a.1-b.1) (by omega) (by omega),w64 (n:=a.2-b.2) (by omega) (by omega)]
 have m1:=mul_bd (a:=a.1-b.1) (b:=a.1-b.1) (by omega) (by omega)
 have m2:=mul_bd (a:=a.2-b.2) (b:=a.2-b.2) (by omega) (by omega)
 rw[w64 (n:=(a.1-b.1)*(a.1-b.1)) (by omega) (by omega),w64 (n:=(a.2-b.2)*(a.2-b.2)) (by omega) (by omega),w64 (by omega) (by omega)]
 rfl
theorem farEv {a b:Pt} (ha:Bd a) (hb:Bd b):Ev (fun n=>Z196 n a b) (far a b):=by
 refine Ev.of_eq 1 ?_
 simp only[Z196Eq,far_wrap ha hb]
 exact Ev.pure _
theorem firstL3 (l:List Pt) (hb:l.length<1000000000) (j1 j2:Int):∀ (r:List Pt) (i:Nat) (f:Pt),l.drop i=r→i≤l.length →
  Ev (fun n=>Z171L3 n ((l,((),((),(((i:Nat):Int),())))),((j1,(j2,())),((f.1,(f.2,())),())))) (((),((),())),((j1,(j2,())),(((firstP f r).1,((firstP f r).2,())),()))):=by
 intro r
 induction r with
 | nil =>
  intro i f hd hi
  have:=gdrop_nil hd
  refine Ev.of_eq 1 ?_
  simp (disch:=omega) only [Z171L3Eq,br_neg]
  exact Ev.pure _
 | cons x r ih =>
  intro i f hd hi
  obtain⟨h1,h2,h3⟩:=gdrop hd
  have e:firstP f (x :: r)=firstP (if x.1<f.1∨(x.1=f.1∧x.2<f.2) then x else f) r:=rfl
  rw[e]
  refine Ev.of_eq 1 ?_
  by_cases c1:x.1<f.1
  ·rw[if_pos (.inl c1)]
   simp (disch:=omega) only [Z171L3Eq,br_pos,Int.toNat_natCast,h1,Option.bind_some,wr1]
   exact ih (i+1) x h2 (by omega)
  ·by_cases c2:x.1=f.1
   ·by_cases c3:x.2<f.2
    ·rw[if_pos (.inr ⟨c2,c3⟩)]
     simp (disch:=omega) only [Z171L3Eq,br_pos,br_neg,Int.toNat_natCast,h1,Option.bind_some,wr1]
     exact ih (i+1) x h2 (by omega)
    ·rw[if_neg (by omega)]
     simp (disch:=omega) only [Z171L3Eq,br_pos,br_neg,Int.toNat_natCast,h1,Option.bind_some,wr1]
     exact ih (i+1) f h2 (by omega)
   ·rw[if_neg (by omega)]
    simp (disch:=omega) only [Z171L3Eq,br_pos,br_neg,Int.toNat_natCast,h1,Option.bind_some,wr1]
    exact ih (i+1) f h2 (by omega)
theorem firstEv (o:Pt) (l:List Pt) (hb:(o :: l).length<1000000000):Ev (fun n=>Z171 n (o :: l)) (firstP o l):=by
 refine Ev.of_eq 1 ?_
 have h0:(o :: l)[(0:Int).toNat]?=some o:=rfl
 simp only[Z171Eq,h0,Option.bind_some]
 have:=firstL3 (o :: l) hb 0 0 l 1 o rfl (by simp)
 exact Ev.bind this (Ev.pure _)
theorem nextL3 (l:List Pt) (hb:l.length<1000000000) (hbd:∀ x∈l,Bd x) (v:Pt) (hv:Bd v) (j1 j2:Int):∀ (r:List Pt) (i:Nat) (w:Pt),l.drop i=r→i≤l.length→Bd w →
  Ev (fun n=>Z172L3 n ((l,((),((),((),(((i:Nat):Int),()))))),((v.1,(v.2,())),((j1,(j2,())),((w.1,(w.2,())),()))))) (((),((),())),((),((j1,(j2,())),(((wrapN v r w).1,((wrapN v r w).2,())),())))):=by
 intro r
 induction r with
 | nil =>
  intro i w hd hi hw
  have:=gdrop_nil hd
  refine Ev.of_eq 1 ?_
  simp (disch:=omega) only [Z172L3Eq,br_neg]
  exact Ev.pure _
 | cons x r ih =>
  intro i w hd hi hw
  obtain⟨h1,h2,h3⟩:=gdrop hd
  have hx:Bd x:=hbd x (List.mem_of_getElem? h1)
  have e:wrapN v (x :: r) w=wrapN v r (wrap1 v w x):=rfl
  rw[e]
  have go:∀ w',wrap1 v w x=w'→Bd w'→Ev (fun n=>Z172L3 n ((l,((),((),((),(((i+1:Nat):Int),()))))),((v.1,(v.2,())),((j1,(j2,())),((w'.1,(w'.2,())),()))))) (((),((),())),((),((j1,(j2,())),(((wrapN v r (wrap1 v w x)).1,((wrapN v r (wrap1 v w x)).2,())),())))):=fun w' hw' hbw=>by
   rw[hw'];exact ih (i+1) w' h2 (by omega) hbw
  refine Ev.of_eq 1 ?_
  by_cases c1:x=v
  ·have hb1:=decide_eq_true c1
   simp (disch:=omega) only [Z172L3Eq,br_pos,Int.toNat_natCast,h1,Option.bind_some,beq_pt,hb1,br_t,wr1]
   exact go w (by unfold wrap1;rw[if_pos c1]) hw
  ·have hb1:=decide_eq_false c1
   by_cases c2:w=v
   ·have hb2:=decide_eq_true c2
    simp (disch:=omega) only [Z172L3Eq,br_pos,Int.toNat_natCast,h1,Option.bind_some,beq_pt,hb1,hb2,br_f,br_t,wr1]
    exact go x (by unfold wrap1;rw[if_neg c1,if_pos c2]) hx
   ·have hb2:=decide_eq_false c2
    simp (disch:=omega) only [Z172L3Eq,br_pos,Int.toNat_natCast,h1,Option.bind_some,beq_pt,hb1,hb2,br_f]
    refine Ev.bind (x:=((l,((),((),((),(((i:Nat):Int),()))))),((v.1,(v.2,())),((j1,(j2,())),(((wrap1 v w x).1,((wrap1 v w x).2,())),()))))) ?_ ?_
    ·refine Ev.bind (rsideEv hv hw hx) (Ev.bind (farEv hv hw) (Ev.bind (farEv hv hx) ?_))
     unfold wrap1
     rw[if_neg c1,if_neg c2]
     by_cases c3:side v w x<0
     ·simp (disch:=omega) only [br_pos,c3,if_true];exact Ev.pure _
     ·by_cases c4:side v w x=0
      ·by_cases c5:far v w<far v x
       ·simp (disch:=omega) only [br_pos,br_neg,c3,c4,c5,if_true,if_false];exact Ev.pure _
       ·simp (disch:=omega) only [br_pos,br_neg,c3,c4,c5,if_true,if_false];exact Ev.pure _
      ·simp (disch:=omega) only [br_neg,c3,c4,if_false];exact Ev.pure _
    ·simp (disch:=omega) only [wr1]
     refine go _ rfl ?_
     unfold wrap1
     repeat' split
     all_goals first | exact hw | exact hx
theorem nextEv (l:List Pt) (hb:l.length<1000000000) (hbd:∀ x∈l,Bd x) (v:Pt) (hv:Bd v):Ev (fun n=>Z172 n l v) (wrapN v l v):=by
 refine Ev.of_eq 1 ?_
 simp only[Z172Eq]
 have:=nextL3 l hb hbd v hv 0 0 l 0 v rfl (Nat.zero_le _) hv
 exact Ev.bind this (Ev.pure _)
theorem ofL6 (l:List Pt) (hb:l.length<100000000) (hbd:∀ x∈l,Bd x) (o:Pt) (hol:o∈l):∀ (k i:Nat) (out:List Pt) (v:Pt),i+k=l.length→out.head?=some o→v∈l→out.length≤i+1 →
  Ev (fun n=>Z140L6 n ((l,((),(out,(((i:Nat):Int),())))),((v.1,(v.2,())),()))) ((wrapAll l o k out v,()),()):=by
 intro k
 induction k with
 | zero =>
  intro i out v hk _ _ _
  refine Ev.of_eq 1 ?_
  simp (disch:=omega) only [Z140L6Eq,br_neg]
  exact Ev.pure _
 | succ k ih =>
  intro i out v hk ho hv hout
  have hw:wrapN v l v∈l:=by
   rcases wrapN_mem v l v with e | e
   ·rw[e];exact hv
   ·exact e
  have ho':out[(0:Int).toNat]?=some o:=by rw[← ho,List.head?_eq_getElem?];rfl
  refine Ev.of_eq 1 ?_
  simp (disch:=omega) only [Z140L6Eq,br_pos]
  refine Ev.bind (nextEv l (by omega) hbd v (hbd v hv)) ?_
  simp only[ho',Option.bind_some,beq_pt,wrapAll]
  by_cases hwo:wrapN v l v=o
  ·simp only[br_pos hwo,if_pos hwo]
   exact Ev.pure _
  ·have hcap:(out.length + [((wrapN v l v).1,(wrapN v l v).2)].length)*16≤140737488355328:=by simp only[List.length_cons,List.length_nil];omega
   simp only[br_neg hwo,if_neg hwo,br_pos hcap]
   simp (disch:=omega) only [wr1]
   refine ih (i+1) (out ++ [wrapN v l v]) _ (by omega) ?_ hw (by simp;omega)
   cases out with
   | nil=>cases ho
   | cons a r=>exact ho
theorem at_get {l:List Pt} {i:Nat} (hi:i<l.length):l[i]?=some (at_ l i):=Go.Hu.get_at hi
theorem convexL8 (l:List Pt) (hb:l.length<1000000000) (hbd:∀ x∈l,Bd x) (i:Nat) (hi:i<l.length):∀ (k j:Nat),j+k=l.length →
  Ev (fun n=>Z65L8 n ((l,(((i:Nat):Int),(((nx l i:Nat):Int),(((j:Nat):Int),())))),())) (if ((List.range' j k).all fun j=>decide (j=i) || decide (j=nx l i) || decide (0<side (at_ l i) (at_ l (nx l i)) (at_ l j)))=true then .inl ((l,(((i:Nat):Int),())),()) else .inr ((false,()),())):=by
 intro k
 have hn:=nx_lt (h:=l) (by omega) i
 induction k with
 | zero =>
  intro j hj
  refine Ev.of_eq 1 ?_
  simp (disch:=omega) only [Z65L8Eq,br_neg]
  exact (Ev.pure _).congr (by simp)
 | succ k ih =>
  intro j hj
  have gi:=Go.Hu.get_at hi
  have gn:=Go.Hu.get_at hn
  have gj:=Go.Hu.get_at (h:=l) (i:=j) (by omega)
  refine Ev.of_eq 1 ?_
  simp (disch:=omega) only [Z65L8Eq,br_pos,Int.toNat_natCast,gi,gn,gj,Option.bind_some]
  refine Ev.bind (rsideEv (hbd _ (at_mem hi)) (hbd _ (at_mem hn)) (hbd _ (at_mem (by omega)))) ?_
  have hr:List.range' j (k+1)=j :: List.range' (j+1) k:=by rw[List.range'_succ]
  rw[hr,List.all_cons]
  simp (disch:=omega) only [wr1]
  have cont:=ih (j+1) (by omega)
  by_cases c1:j=i
  ·have e1:((j:Nat):Int)=((i:Nat):Int):=by omega
   simp only[nbr_pos e1]
   refine cont.congr ?_
   rw[decide_eq_true c1];rfl
  ·have e1:¬ ((j:Nat):Int)=((i:Nat):Int):=by omega
   by_cases c2:j=nx l i
   ·have e2:((j:Nat):Int)=((nx l i:Nat):Int):=by omega
    simp only[nbr_neg e1,nbr_pos e2]
    refine cont.congr ?_
    rw[decide_eq_false c1,decide_eq_true c2];rfl
   ·have e2:¬ ((j:Nat):Int)=((nx l i:Nat):Int):=by omega
    by_cases c3:side (at_ l i) (at_ l (nx l i)) (at_ l j)≤0
    ·simp only[nbr_neg e1,nbr_neg e2,br_pos c3]
     refine (Ev.pure _).congr ?_
     rw[decide_eq_false c1,decide_eq_false c2,decide_eq_false (by omega)];rfl
    ·simp only[nbr_neg e1,nbr_neg e2,br_neg c3]
     refine cont.congr ?_
     rw[decide_eq_false c1,decide_eq_false c2,decide_eq_true (show 0<side (at_ l i) (at_ l (nx l i)) (at_ l j) by omega)];rfl
theorem convexL2 (l:List Pt) (hb:l.length<1000000000) (hbd:∀ x∈l,Bd x):∀ (k i:Nat),i+k=l.length →
  Ev (fun n=>Z65L2 n ((l,(((i:Nat):Int),())),())) (if ((List.range' i k).all fun i=>(List.range l.length).all fun j=>decide (j=i) || decide (j=nx l i) || decide (0<side (at_ l i) (at_ l (nx l i)) (at_ l j)))=true then .inl ((l,()),()) else .inr ((false,()),())):=by
 intro k
 induction k with
 | zero =>
  intro i hi
  refine Ev.of_eq 1 ?_
  simp (disch:=omega) only [Z65L2Eq,br_neg]
  exact (Ev.pure _).congr (by simp)
 | succ k ih =>
  intro i hi
  have hr:List.range' i (k+1)=i :: List.range' (i+1) k:=by rw[List.range'_succ]
  rw[hr,List.all_cons]
  refine Ev.of_eq 1 ?_
  simp (disch:=omega) only [Z65L2Eq,br_pos,wr1]
  have h8:=convexL8 l hb hbd i (by omega) l.length 0 (by omega)
  rw[← List.range_eq_range'] at h8
  have hnx:∀ (f:(((List (Int×Int))×(Int×(Int×Unit)))×Unit)),f=((l,(((i:Nat):Int),(((nx l i:Nat):Int),()))),())→Ev (fun n=>br (decide (((i+1:Nat):Int)<((l.length:Nat):Int))) (some ((l,(((i:Nat):Int),(((i+1:Nat):Int),()))),())) (some ((l,(((i:Nat):Int),((0:Int),()))),()))) f:=fun f hf=>by
   subst hf
   by_cases hl:i+1=l.length
   ·have:nx l i=0:=by rw[nx_val (by omega),if_pos hl]
    rw[this,br_neg (by omega)];exact Ev.pure _
   ·have:nx l i=i+1:=by rw[nx_val (by omega),if_neg hl]
    rw[this,br_pos (by omega)];exact Ev.pure _
  refine Ev.bind (x:=if ((List.range l.length).all fun j=>decide (j=i) || decide (j=nx l i) || decide (0<side (at_ l i) (at_ l (nx l i)) (at_ l j)))=true then .inl ((l,(((i:Nat):Int),())),()) else .inr ((false,()),())) (Ev.bind (hnx _ rfl) (Ev.bind h8 ?_)) ?_
  ·by_cases c:((List.range l.length).all fun j=>decide (j=i) || decide (j=nx l i) || decide (0<side (at_ l i) (at_ l (nx l i)) (at_ l j)))=true
   ·simp only[if_pos c];exact Ev.pure _
   ·simp only[if_neg c];exact Ev.pure _
  ·by_cases c:((List.range l.length).all fun j=>decide (j=i) || decide (j=nx l i) || decide (0<side (at_ l i) (at_ l (nx l i)) (at_ l j)))=true
   ·simp (disch:=omega) only [if_pos c,wr1]
    refine (ih (i+1) (by omega)).congr ?_
    rw[c,Bool.true_and]
   ·simp only[if_neg c]
    refine (Ev.pure _).congr ?_
    rw[Bool.not_eq_true] at c
    rw[c];simp
theorem convexEv (l:List Pt) (hb:l.length<1000000000) (hbd:∀ x∈l,Bd x):Ev (fun n=>Z65 n l) (convexB l):=by
 refine Ev.of_eq 1 ?_
 simp only[Z65Eq]
 have h:=convexL2 l hb hbd l.length 0 (by omega)
 rw[← List.range_eq_range'] at h
 refine Ev.bind h ?_
 unfold convexB
 by_cases c:((List.range l.length).all fun i=>(List.range l.length).all fun j=>decide (j=i) || decide (j=nx l i) || decide (0<side (at_ l i) (at_ l (nx l i)) (at_ l j)))=true
 ·simp only[if_pos c,c,Bool.and_true]
  refine (Ev.pure _).congr (decide_eq_decide.2 ?_)
  show (2:Int)<(l.length:Int)↔2<l.length
  omega
 ·simp only[if_neg c]
  refine (Ev.pure _).congr ?_
  rw[Bool.not_eq_true] at c
  rw[c,Bool.and_false]
theorem refOfEv (l:List Pt) (hb:l.length<100000000) (hbd:∀ x∈l,Bd x):Ev (fun n=>Z140 n l) (hullRes l):=by
 rw[← refRes_eq]
 refine Ev.of_eq 1 ?_
 cases l with
 | nil =>
  simp (disch:=decide) only [Z140Eq,br_pos]
  exact Ev.pure _
 | cons o l =>
  rw[refRes_cons]
  by_cases h3:(o :: l).length<3
  ·have h3':(((o :: l).length:Nat):Int)<3:=by omega
   simp only[Z140Eq,br_pos h3',if_pos h3]
   exact Ev.pure _
  ·have h3':¬ (((o :: l).length:Nat):Int)<3:=by omega
   simp only[Z140Eq,br_neg h3',if_neg h3]
   refine Ev.bind (firstEv o l (by omega)) ?_
   have hfm:firstP o l∈o :: l:=by
    rcases (firstP_spec l o).1 with h | h
    ·rw[h];simp
    ·exact List.mem_cons_of_mem _ h
   refine Ev.bind (ofL6 (o :: l) hb hbd (firstP o l) hfm (o :: l).length 0 [firstP o l] (firstP o l) (by omega) rfl hfm (by simp)) ?_
   have hm:=wrapAll_mem (o :: l) (firstP o l) (o :: l).length [firstP o l] (firstP o l) hfm (fun x hx=>by rw[List.mem_singleton.1 hx];exact hfm)
   have hlen:(wrapAll (o :: l) (firstP o l) (o :: l).length [firstP o l] (firstP o l)).length<1000000000:=by
    have:∀ (k:Nat) (out:List Pt) (v:Pt),(wrapAll (o :: l) (firstP o l) k out v).length≤out.length+k:=by
     intro k
     induction k with
     | zero=>intro out v;exact Nat.le_refl _
     | succ k ih =>
      intro out v
      unfold wrapAll
      simp only
      split
      ·omega
      ·have:=ih (out ++ [wrapN v (o :: l) v]) (wrapN v (o :: l) v)
       simp only[List.length_append,List.length_cons,List.length_nil] at this
       omega
    have:=this (o :: l).length [firstP o l] (firstP o l)
    have h1:[firstP o l].length=1:=rfl
    omega
   refine Ev.bind (convexEv _ hlen fun x hx=>hbd x (hm x hx)) ?_
   by_cases c:convexB (wrapAll (o :: l) (firstP o l) (o :: l).length [firstP o l] (firstP o l))=true
   ·simp only[c,if_true,Bool.not_true,br_f];exact Ev.pure _
   ·simp only[Bool.not_eq_true] at c
    simp only[c,Bool.not_false,br_t];exact Ev.pure _
end Go.Jm
namespace Go.Jm
open Go Go.Am Go.Proofs Go.Hu
def Mid (p:Pt):Prop:=(-600000000≤p.1∧p.1≤600000000)∧(-600000000≤p.2∧p.2≤600000000)
theorem Mid.bd {p:Pt} (h:Mid p):Bd p:=by unfold Mid at h;unfold Bd;omega
theorem outerC_bd {o a b:Int} (ho:-600000000≤o∧o≤600000000) (ha:-600000000≤a∧a≤600000000) (hb:-600000000≤b∧b≤600000000):-800000000≤outerC o a b∧outerC o a b≤800000000:=by
 have h:=tdiv16 (9*(a+b-2*o))
 unfold outerC
 rcases Int.lt_or_le (9*(a+b-2*o)) 0 with h1 | h1
 ·rw[h.2 h1];omega
 ·rw[h.1 h1];omega
theorem outer_bd {o a b:Pt} (ho:Mid o) (ha:Mid a) (hb:Mid b):Bd (outerP o a b):=by
 have h1:=outerC_bd ho.1 ha.1 hb.1
 have h2:=outerC_bd ho.2 ha.2 hb.2
 unfold outerP Bd;simp only;omega
theorem points_bd {o:Pt} {a b:List Pt} (ho:Mid o) (ha:∀ x∈a,Mid x) (hb:∀ x∈b,Mid x):∀ x∈points o a b,Bd x:=by
 intro x hx
 unfold points at hx
 rcases List.mem_append.1 hx with hx | hx
 ·rcases List.mem_append.1 hx with hx | hx
  ·exact (ha x hx).bd
  ·exact (hb x hx).bd
 ·obtain⟨i,hi⟩:=List.mem_iff_getElem?.1 hx
  rw[List.getElem?_zipWith_eq_some] at hi
  obtain⟨p,q,h1,h2,rfl⟩:=hi
  exact outer_bd ho (ha p (List.mem_of_getElem? h1)) (hb q (List.mem_of_getElem? h2))
theorem points_len {o:Pt} {a b:List Pt} (h:a.length≤1000000) (k:b.length≤1000000):(points o a b).length<100000000:=by
 unfold points;simp;omega
theorem beyond1 {o a b:Int} (ho:-600000000≤o∧o≤600000000) (ha:-600000000≤a∧a≤600000000) (hb:-600000000≤b∧b≤600000000):Ev (fun n=>Z128 n o a b) (outerC o a b):=by
 refine Ev.of_eq 1 ?_
 simp only[Z128Eq]
 refine (Ev.pure _).congr ?_
 have hb':=outerC_bd ho ha hb
 have e:a-o+b-o=a+b-2*o:=by omega
 have ht:=tdiv16_bd (x:=9*(a+b-2*o)) (M:=1350000000) (by omega) (by omega)
 rw[w64 (n:=a-o) (by omega) (by omega),w64 (n:=a-o+b) (by omega) (by omega),w64 (n:=a-o+b-o) (by omega) (by omega),e,w64 (n:=9*(a+b-2*o)) (by omega) (by omega),w64 (n:=(9*(a+b-2*o)).tdiv 16) (by omega) (by omega)]
 unfold outerC at hb' ⊢
 exact w64 (by omega) (by omega)
theorem beyondEv {o a b:Pt} (ho:Mid o) (ha:Mid a) (hb:Mid b):Ev (fun n=>Z88 n o a b) (outerP o a b):=by
 refine Ev.of_eq 1 ?_
 simp only[Z88Eq]
 exact Ev.bind (beyond1 ho.1 ha.1 hb.1) (Ev.bind (beyond1 ho.2 ha.2 hb.2) (Ev.pure _))
theorem regionL6 (o:Pt) (ho:Mid o) (a b:List Pt) (hl:a.length=b.length) (hn:a.length<1000000) (ha:∀ x∈a,Mid x) (hb:∀ x∈b,Mid x):∀ (ra rb:List Pt) (i:Nat) (out:List Pt),a.drop i=ra→b.drop i=rb→i≤a.length→out.length≤i →
  Ev (fun n=>Z47L6 n ((a,(b,(((o,()),()),(out,(((a.length:Nat):Int),(((i:Nat):Int),())))))),())) ((a,(b,(out ++ List.zipWith (outerP o) ra rb,()))),()):=by
 intro ra
 induction ra with
 | nil =>
  intro rb i out h1 h2 hi ho'
  have:=gdrop_nil h1
  refine Ev.of_eq 1 ?_
  simp (disch:=omega) only [Z47L6Eq,br_neg]
  exact (Ev.pure _).congr (by simp)
 | cons x ra ih =>
  intro rb i out h1 h2 hi ho'
  obtain⟨g1,g2,g3⟩:=gdrop h1
  obtain⟨y,rb',rfl⟩:∃ y rb',rb=y :: rb':=by
   cases rb with
   | nil=>have:=gdrop_nil h2;omega
   | cons y rb'=>exact⟨y,rb',rfl⟩
  obtain⟨k1,k2,k3⟩:=gdrop h2
  refine Ev.of_eq 1 ?_
  simp (disch:=omega) only [Z47L6Eq,br_pos,Int.toNat_natCast,g1,k1,Option.bind_some]
  refine Ev.bind (beyondEv ho (ha x (List.mem_of_getElem? g1)) (hb y (List.mem_of_getElem? k1))) ?_
  have hcap:(out.length + [((outerP o x y).1,(outerP o x y).2)].length)*16≤140737488355328:=by simp only[List.length_cons,List.length_nil];omega
  simp only[br_pos hcap]
  simp (disch:=omega) only [wr1]
  refine (ih rb' (i+1) (out ++ [outerP o x y]) g2 k2 (by omega) (by simp;omega)).congr ?_
  simp
theorem allL3 (ls:List (List Pt)) (hn:ls.length<1000000):∀ (r:List (List Pt)) (i:Nat) (out:List Pt),ls.drop i=r→i≤ls.length→(out.length+r.flatten.length)≤100000000 →
  Ev (fun n=>Z90L3 n ((out,(ls,(((ls.length:Nat):Int),(((i:Nat):Int),())))),())) ((out ++ r.flatten,()),()):=by
 intro r
 induction r with
 | nil =>
  intro i out h1 hi ho'
  have:=gdrop_nil h1
  refine Ev.of_eq 1 ?_
  simp (disch:=omega) only [Z90L3Eq,br_neg]
  exact (Ev.pure _).congr (by simp)
 | cons x r ih =>
  intro i out h1 hi ho'
  obtain⟨g1,g2,g3⟩:=gdrop h1
  simp only[List.flatten_cons,List.length_append] at ho'
  refine Ev.of_eq 1 ?_
  have hcap:(out.length+x.length)*16≤140737488355328:=by omega
  simp (disch:=omega) only [Z90L3Eq,br_pos,Int.toNat_natCast,g1,Option.bind_some,wr1]
  refine (ih (i+1) (out ++ x) g2 (by omega) (by rw[List.length_append];omega)).congr ?_
  simp
theorem allEv (a b c:List Pt) (h:a.length+b.length+c.length≤100000000):Ev (fun n=>Z90 n [a,b,c]) (a ++ b ++ c):=by
 refine Ev.of_eq 1 ?_
 simp only[Z90Eq]
 have:=allL3 [a,b,c] (by simp) [a,b,c] 0 [] rfl (Nat.zero_le _) (by simp;omega)
 refine Ev.bind this ?_
 exact (Ev.pure _).congr (by simp)
theorem regionEv {o:Pt} {a b:List Pt} (ho:Mid o) (hn:a.length≤1000000) (ha:∀ x∈a,Mid x) (hb:∀ x∈b,Mid x):Ev (fun n=>Z47 n o a b) (region o a b):=by
 unfold region
 refine Ev.of_eq 1 ?_
 by_cases hl:a.length=b.length
 ·have h1:(a.length:Int)=(b.length:Int):=by omega
  rw[if_neg (by simpa using hl)]
  simp only[Z47Eq,nbr_pos h1]
  by_cases h12:12<a.length
  ·have h2:(12:Int)<(a.length:Int):=by omega
   simp only[br_pos h2,if_pos h12];exact Ev.pure _
  ·have h2:¬ (12:Int)<(a.length:Int):=by omega
   simp only[br_neg h2,if_neg h12]
   refine Ev.bind (regionL6 o ho a b hl (by omega) ha hb a b 0 [] rfl rfl (Nat.zero_le _) (Nat.le_refl _)) ?_
   refine Ev.bind (allEv a b _ (by simp;omega)) ?_
   have:=hullEv (points o a b) (points_len hn (by omega)) (points_bd ho ha hb)
   refine Ev.bind (x:=hullRes (points o a b)) this ?_
   exact Ev.pure _
 ·have h1:¬ (a.length:Int)=(b.length:Int):=by omega
  rw[if_pos hl]
  simp only[Z47Eq,nbr_neg h1]
  exact Ev.pure _
theorem routerEv {o a b:Pt} (ho:Mid o) (ha:Mid a) (hb:Mid b):Ev (fun n=>Z173 n o a b) (outerP o a b):=by
 refine Ev.of_eq 1 ?_
 simp only[Z173Eq]
 refine (Ev.pure _).congr ?_
 have one:∀ {o a b:Int},(-600000000≤o∧o≤600000000)→(-600000000≤a∧a≤600000000)→(-600000000≤b∧b≤600000000)→IntKind.i64.wrap (o+IntKind.i64.wrap ((IntKind.i64.wrap (9*IntKind.i64.wrap (IntKind.i64.wrap (a+b)-IntKind.i64.wrap (2*o)))).tdiv 16))=outerC o a b:=by
  intro o a b ho ha hb
  have hb':=outerC_bd ho ha hb
  have ht:=tdiv16_bd (x:=9*(a+b-2*o)) (M:=1350000000) (by omega) (by omega)
  rw[w64 (n:=a+b) (by omega) (by omega),w64 (n:=2*o) (by omega) (by omega),w64 (n:=a+b-2*o) (by omega) (by omega),w64 (n:=9*(a+b-2*o)) (by omega) (by omega),w64 (n:=(9*(a+b-2*o)).tdiv 16) (by omega) (by omega)]
  unfold outerC at hb' ⊢
  exact w64 (by omega) (by omega)
 rw[one ho.1 ha.1 hb.1,one ho.2 ha.2 hb.2]
 rfl
theorem pointsL3 (a b:List Pt) (o1 o2:Int) (hn:a.length<1000000):∀ (r:List Pt) (i:Nat) (out:List Pt),a.drop i=r→i≤a.length→out.length≤i →
  Ev (fun n=>Z141L3 n ((a,(b,((),(out,(((i:Nat):Int),()))))),((o1,(o2,())),()))) ((a,(b,((),(out ++ r,())))),((o1,(o2,())),())):=by
 intro r
 induction r with
 | nil =>
  intro i out h1 hi ho'
  have:=gdrop_nil h1
  refine Ev.of_eq 1 ?_
  simp (disch:=omega) only [Z141L3Eq,br_neg]
  exact (Ev.pure _).congr (by simp)
 | cons x r ih =>
  intro i out h1 hi ho'
  obtain⟨g1,g2,g3⟩:=gdrop h1
  refine Ev.of_eq 1 ?_
  have hcap:(out.length + [x].length)*16≤140737488355328:=by simp only[List.length_cons,List.length_nil];omega
  simp (disch:=omega) only [Z141L3Eq,br_pos,Int.toNat_natCast,g1,Option.bind_some,br_pos hcap,wr1]
  refine (ih (i+1) (out ++ [x]) g2 (by omega) (by simp;omega)).congr ?_
  simp
theorem pointsL7 (a b:List Pt) (o1 o2:Int) (hn:b.length<1000000) (k:Nat) (hk:k<1000000):∀ (r:List Pt) (i:Nat) (out:List Pt),b.drop i=r→i≤b.length→out.length≤i+k →
  Ev (fun n=>Z141L7 n ((a,(b,((),(out,(((i:Nat):Int),()))))),((o1,(o2,())),()))) ((a,(b,((),(out ++ r,())))),((o1,(o2,())),())):=by
 intro r
 induction r with
 | nil =>
  intro i out h1 hi ho'
  have:=gdrop_nil h1
  refine Ev.of_eq 1 ?_
  simp (disch:=omega) only [Z141L7Eq,br_neg]
  exact (Ev.pure _).congr (by simp)
 | cons x r ih =>
  intro i out h1 hi ho'
  obtain⟨g1,g2,g3⟩:=gdrop h1
  refine Ev.of_eq 1 ?_
  have hcap:(out.length + [x].length)*16≤140737488355328:=by simp only[List.length_cons,List.length_nil];omega
  simp (disch:=omega) only [Z141L7Eq,br_pos,Int.toNat_natCast,g1,Option.bind_some,br_pos hcap,wr1]
  refine (ih (i+1) (out ++ [x]) g2 (by omega) (by simp;omega)).congr ?_
  simp
theorem pointsL11 (o:Pt) (ho:Mid o) (a b:List Pt) (hn:a.length<1000000) (k:Nat) (hk:k<10000000) (ha:∀ x∈a,Mid x) (hb:∀ x∈b,Mid x):∀ (ra rb:List Pt) (i:Nat) (out:List Pt),a.drop i=ra→b.drop i=rb→i≤a.length→out.length≤i+k →
  Ev (fun n=>Z141L11 n ((a,(b,((),(out,(((i:Nat):Int),()))))),((o.1,(o.2,())),()))) ((out ++ List.zipWith (outerP o) ra rb,()),()):=by
 intro ra
 induction ra with
 | nil =>
  intro rb i out h1 h2 hi ho'
  have:=gdrop_nil h1
  refine Ev.of_eq 1 ?_
  simp (disch:=omega) only [Z141L11Eq,br_neg]
  exact (Ev.pure _).congr (by simp)
 | cons x ra ih =>
  intro rb i out h1 h2 hi ho'
  obtain⟨g1,g2,g3⟩:=gdrop h1
  cases rb with
  | nil =>
   have:=gdrop_nil h2
   refine Ev.of_eq 1 ?_
   simp (disch:=omega) only [Z141L11Eq,br_pos,br_neg]
   exact (Ev.pure _).congr (by simp)
  | cons y rb' =>
   obtain⟨k1,k2,k3⟩:=gdrop h2
   refine Ev.of_eq 1 ?_
   simp (disch:=omega) only [Z141L11Eq,br_pos,Int.toNat_natCast,g1,k1,Option.bind_some]
   refine Ev.bind (routerEv ho (ha x (List.mem_of_getElem? g1)) (hb y (List.mem_of_getElem? k1))) ?_
   have hcap:(out.length + [((outerP o x y).1,(outerP o x y).2)].length)*16≤140737488355328:=by simp only[List.length_cons,List.length_nil];omega
   simp only[br_pos hcap]
   simp (disch:=omega) only [wr1]
   refine (ih rb' (i+1) (out ++ [outerP o x y]) g2 k2 (by omega) (by simp;omega)).congr ?_
   simp
theorem pointsEv {o:Pt} {a b:List Pt} (ho:Mid o) (hn:a.length<1000000) (hm:b.length<1000000) (ha:∀ x∈a,Mid x) (hb:∀ x∈b,Mid x):Ev (fun n=>Z141 n o a b) (points o a b):=by
 refine Ev.of_eq 1 ?_
 simp only[Z141Eq]
 refine Ev.bind (pointsL3 a b o.1 o.2 hn a 0 [] rfl (Nat.zero_le _) (Nat.le_refl _)) ?_
 refine Ev.bind (pointsL7 a b o.1 o.2 hm a.length hn b 0 _ rfl (Nat.zero_le _) (by simp)) ?_
 refine Ev.bind (pointsL11 o ho a b hn (a.length+b.length) (by omega) ha hb a b 0 _ rfl rfl (Nat.zero_le _) (by simp)) ?_
 exact (Ev.pure _).congr (by simp[points])
theorem sweptEv {o:Pt} {a b:List Pt} (ho:Mid o) (hn:a.length<1000000) (ha:∀ x∈a,Mid x) (hb:∀ x∈b,Mid x):Ev (fun n=>Z94 n o a b) (region o a b):=by
 unfold region
 refine Ev.of_eq 1 ?_
 by_cases hl:a.length=b.length
 ·have h1:(a.length:Int)=(b.length:Int):=by omega
  rw[if_neg (by simpa using hl)]
  simp only[Z94Eq,nbr_pos h1]
  by_cases h12:12<a.length
  ·have h2:(12:Int)<(a.length:Int):=by omega
   simp only[br_pos h2,if_pos h12];exact Ev.pure _
  ·have h2:¬ (12:Int)<(a.length:Int):=by omega
   simp only[br_neg h2,if_neg h12]
   refine Ev.bind (pointsEv ho hn (by omega) ha hb) ?_
   refine Ev.bind (refOfEv (points o a b) (points_len (by omega) (by omega)) (points_bd ho ha hb)) ?_
   exact Ev.pure _
 ·have h1:¬ (a.length:Int)=(b.length:Int):=by omega
  rw[if_pos hl]
  simp only[Z94Eq,nbr_neg h1]
  exact Ev.pure _
end Go.Jm
namespace Go.Jm
open Go Go.Am Go.Proofs Go.Hu Go.Mo
structure COk (c:CellT):Prop where
 arm0:ArmOk c.1.1
 arm1:ArmOk c.1.2
 fixl:c.2.2.1.length≤16
 fix:∀ p∈c.2.2.1,p.length≤12∧∀ x∈p,Bb 439400000 x
 partl:c.2.2.2.2.1.length≤8
 part:∀ p∈c.2.2.2.2.1,p.2.1.length≤4∧∀ x∈p.2.1,Bb 10 x
 placel:c.2.2.2.1.length≤16
 place:∀ p∈c.2.2.2.1,Bb 439400000 p.2.1∧DirOk 3 p.2.2
structure WOk (c:CellT) (w:StateT):Prop where
 lim0:inLim c.1.1 w.1.1=true
 lim1:inLim c.1.2 w.1.2=true
 wlen:w.2.2.length=c.2.2.2.2.1.length
 whr:∀ k∈w.2.2,-1≤k∧k<(c.2.2.2.1.length:Int)
 held0:-1≤w.2.1.1∧w.2.1.1<(c.2.2.2.2.1.length:Int)
 held1:-1≤w.2.1.2∧w.2.1.2<(c.2.2.2.2.1.length:Int)
theorem Bb.mid {p:Pt} {M:Int} (h:Bb M p) (hM:M≤600000000):Mid p:=by unfold Bb at h;unfold Mid;omega
theorem part_wrap {o:Pt} {d:Dir} {x:Pt} (ho:Bb 439400000 o) (hd:DirOk 3 d) (hx:Bb 10 x) :
  IntKind.i64.wrap ((16:Int)*IntKind.i64.wrap (IntKind.i64.wrap (x.1*d.1)-IntKind.i64.wrap (x.2*d.2.1)))=16*(x.1*d.1-x.2*d.2.1) ∧
  IntKind.i64.wrap ((16:Int)*IntKind.i64.wrap (IntKind.i64.wrap (x.1*d.2.1)+IntKind.i64.wrap (x.2*d.1)))=16*(x.1*d.2.1+x.2*d.1) ∧
  Bb 87880000 (16*(x.1*d.1-x.2*d.2.1),16*(x.1*d.2.1+x.2*d.1)):=by
 have hb:=hd.bd
 have hp:pow65 3=274625:=rfl
 rw[hp] at hb
 unfold Bb at hx
 have a1:=mul_bd2 (a:=x.1) (b:=d.1) (A:=10) (B:=274625) (by omega) (by omega)
 have a2:=mul_bd2 (a:=x.1) (b:=d.2.1) (A:=10) (B:=274625) (by omega) (by omega)
 have a3:=mul_bd2 (a:=x.2) (b:=d.1) (A:=10) (B:=274625) (by omega) (by omega)
 have a4:=mul_bd2 (a:=x.2) (b:=d.2.1) (A:=10) (B:=274625) (by omega) (by omega)
 refine⟨?_,?_,?_⟩
 ·rw[w64 (n:=x.1*d.1) (by omega) (by omega),w64 (n:=x.2*d.2.1) (by omega) (by omega),w64 (n:=x.1*d.1-x.2*d.2.1) (by omega) (by omega),w64 (by omega) (by omega)]
 ·rw[w64 (n:=x.1*d.2.1) (by omega) (by omega),w64 (n:=x.2*d.1) (by omega) (by omega),w64 (n:=x.1*d.2.1+x.2*d.1) (by omega) (by omega),w64 (by omega) (by omega)]
 ·unfold Bb;simp only;omega
theorem partPt_bd {o:Pt} {d:Dir} {x:Pt} (ho:Bb 439400000 o) (hd:DirOk 3 d) (hx:Bb 10 x):Bb 527280000 (partPt o d x):=by
 have h:=(part_wrap ho hd hx).2.2
 unfold Bb at *;unfold partPt;simp only at *;omega
theorem eachL3 {o:Pt} {d:Dir} (ho:Bb 439400000 o) (hd:DirOk 3 d) (l:List Pt) (hl:l.length≤1000) (hx:∀ x∈l,Bb 10 x):∀ (r:List Pt) (i:Nat) (out:List Pt),l.drop i=r→i≤l.length→out.length≤i →
  Ev (fun n=>Z148L3 n ((((),((),((),()))),(out,(l,(((l.length:Nat):Int),(((i:Nat):Int),()))))),((o,()),((d,()),())))) ((out ++ r.map (partPt o d),()),((o,()),((d,()),()))):=by
 intro r
 induction r with
 | nil =>
  intro i out h hi ho'
  have:=gdrop_nil h
  refine Ev.of_eq 2 ?_
  simp (disch:=omega) only [Z148L3Eq,br_neg]
  exact (Ev.pure _).congr (by simp)
 | cons x r ih =>
  intro i out h hi ho'
  obtain⟨g1,g2,g3⟩:=gdrop h
  have hxb:=hx x (List.mem_of_getElem? g1)
  obtain⟨w1,w2,w3⟩:=part_wrap ho hd hxb
  refine Ev.of_eq 2 ?_
  simp (disch:=omega) only [Z148L3Eq,br_pos,Int.toNat_natCast,g1,Option.bind_some,w1,w2]
  refine Ev.bind (addEv ho w3 (by omega)) ?_
  have hcap:(out.length + [(add o (16*(x.1*d.1-x.2*d.2.1),16*(x.1*d.2.1+x.2*d.1)):Pt)].length)*16≤140737488355328:=by simp only[List.length_cons,List.length_nil];omega
  simp only[br_pos hcap]
  simp (disch:=omega) only [wr1]
  refine ((ih (i+1) (out ++ [partPt o d x]) g2 (by omega) (by simp;omega)).shift 1).congr ?_
  simp
theorem partEv {p:PartT} {o:Pt} {d:Dir} (ho:Bb 439400000 o) (hd:DirOk 3 d) (hl:p.2.1.length≤1000) (hx:∀ x∈p.2.1,Bb 10 x):Ev (fun n=>Z102 n p o d) (outlAt p o d):=by
 refine Ev.of_eq 2 ?_
 simp only[Z102Eq]
 have hc:0≤((p.2.1.length:Nat):Int)∧((p.2.1.length:Nat):Int)*((16:Nat):Int)≤140737488355328:=by omega
 simp only[br_pos hc]
 refine Ev.bind (eachL3 ho hd p.2.1 hl hx p.2.1 0 [] rfl (Nat.zero_le _) (Nat.le_refl _)) ?_
 exact (Ev.pure _).congr (by simp[outlAt])
theorem laidL3 {p:PartT} {o:Pt} {d:Dir} (ho:Bb 439400000 o) (hd:DirOk 3 d) (hl:p.2.1.length≤1000) (hx:∀ x∈p.2.1,Bb 10 x):∀ (r:List Pt) (i:Nat) (out:List Pt),p.2.1.drop i=r→i≤p.2.1.length→out.length≤i →
  Ev (fun n=>Z97L3 n (((),((),((),(out,(((i:Nat):Int),()))))),((p,()),((o,()),((d,()),()))))) ((out ++ r.map (partPt o d),()),()):=by
 intro r
 induction r with
 | nil =>
  intro i out h hi ho'
  have:=gdrop_nil h
  refine Ev.of_eq 1 ?_
  simp (disch:=omega) only [Z97L3Eq,br_neg]
  exact (Ev.pure _).congr (by simp)
 | cons x r ih =>
  intro i out h hi ho'
  obtain⟨g1,g2,g3⟩:=gdrop h
  have hxb:=hx x (List.mem_of_getElem? g1)
  obtain⟨w1,w2,w3⟩:=part_wrap ho hd hxb
  have hb:=partPt_bd ho hd hxb
  refine Ev.of_eq 1 ?_
  simp (disch:=omega) only [Z97L3Eq,br_pos,Int.toNat_natCast,g1,Option.bind_some,w1,w2]
  have e1:IntKind.i64.wrap (o.1+16*(x.1*d.1-x.2*d.2.1))=(partPt o d x).1:=by unfold Bb at hb;exact w64 (by unfold partPt at hb;simp only at hb;omega) (by unfold partPt at hb;simp only at hb;omega)
  have e2:IntKind.i64.wrap (o.2+16*(x.1*d.2.1+x.2*d.1))=(partPt o d x).2:=by unfold Bb at hb;exact w64 (by unfold partPt at hb;simp only at hb;omega) (by unfold partPt at hb;simp only at hb;omega)
  simp only[e1,e2]
  have hcap:(out.length + [((partPt o d x).1,(partPt o d x).2)].length)*16≤140737488355328:=by simp only[List.length_cons,List.length_nil];omega
  simp only[br_pos hcap]
  simp (disch:=omega) only [wr1]
  refine (ih (i+1) (out ++ [partPt o d x]) g2 (by omega) (by simp;omega)).congr ?_
  simp
theorem laidEv {p:PartT} {o:Pt} {d:Dir} (ho:Bb 439400000 o) (hd:DirOk 3 d) (hl:p.2.1.length≤1000) (hx:∀ x∈p.2.1,Bb 10 x):Ev (fun n=>Z97 n p o d) (outlAt p o d):=by
 refine Ev.of_eq 1 ?_
 simp only[Z97Eq]
 refine Ev.bind (laidL3 ho hd hl hx p.2.1 0 [] rfl (Nat.zero_le _) (Nat.le_refl _)) ?_
 exact (Ev.pure _).congr (by simp[outlAt])
theorem get_part {c:CellT} {i:Nat} {p:PartT} (h:c.2.2.2.2.1[i]?=some p):prtOf c (i:Int)=p:=by
 unfold prtOf;rw[Int.toNat_natCast,h];rfl
theorem resting_len (c:CellT):∀ (l:List Int) (i:Nat),(resting c i l).length≤l.length
 | [],_=>Nat.le_refl _
 | k :: l,i=>by
  have:=resting_len c l (i+1)
  unfold resting
  split <;> simp <;> omega
theorem fixed_len:∀ (l:List (List Pt)) (i:Nat),(fixed i l).length=l.length
 | [],_=>rfl
 | p :: l,i=>by simp[fixed,fixed_len l]
section
variable {c:CellT} {w:StateT} (hc:COk c) (hw:WOk c w) (c0 c2:CellT) (c1 c3:StateT)
include hc hw
theorem restL:∀ (r:List Int) (i:Nat) (out:List BodyT),w.2.2.drop i=r→i≤w.2.2.length→out.length≤1000+i →
  Ev (fun n=>Z100L17 n c0 c1 c2 c3 ((((),()),((),(w.2.2,(((w.2.2.length:Nat):Int),(((i:Nat):Int),()))))),((c,()),((w,()),((out,()),((c,()),((w,()),()))))))) ((((),()),((),())),((c,()),((w,()),((out ++ resting c i r,()),((c,()),((w,()),())))))):=by
 have hwl:=hw.wlen
 have hpl:=hc.partl
 intro r
 induction r with
 | nil =>
  intro i out h hi ho'
  have:=gdrop_nil h
  refine Ev.of_eq 2 ?_
  simp (disch:=omega) only [Z100L17Eq,br_neg]
  exact (Ev.pure _).congr (by simp[resting])
 | cons k r ih =>
  intro i out h hi ho'
  obtain⟨g1,g2,g3⟩:=gdrop h
  obtain⟨k1,k2⟩:=hw.whr k (List.mem_of_getElem? g1)
  refine Ev.of_eq 2 ?_
  simp (disch:=omega) only [Z100L17Eq,br_pos,Int.toNat_natCast,g1,Option.bind_some,wr1]
  by_cases hk:0≤k
  ·have gp:c.2.2.2.2.1[i]?=some c.2.2.2.2.1[i]:=List.getElem?_eq_getElem (by omega)
   have gq:c.2.2.2.1[k.toNat]?=some c.2.2.2.1[k.toNat]:=List.getElem?_eq_getElem (by omega)
   obtain⟨p1,p2⟩:=hc.part _ (List.mem_of_getElem? gp)
   obtain⟨q1,q2⟩:=hc.place _ (List.mem_of_getElem? gq)
   simp only[br_pos hk,gp,gq,Option.bind_some]
   refine Ev.bind ((partEv q1 q2 (by omega) p2).shift 1) ?_
   have hcap:(out.length + [((3:Int),(((i:Nat):Int),((0:Int),outlAt c.2.2.2.2.1[i] (c.2.2.2.1[k.toNat]).2.1 (c.2.2.2.1[k.toNat]).2.2)))].length)*48≤140737488355328:=by simp only[List.length_cons,List.length_nil];omega
   simp only[br_pos hcap]
   refine ((ih (i+1) _ g2 (by omega) (by simp;omega)).shift 1).congr ?_
   have e1:=get_part gp
   have e2:plcOf c k=c.2.2.2.1[k.toNat]:=by unfold plcOf;rw[gq];rfl
   simp[resting,hk,e1,e2]
  ·simp only[br_neg hk]
   refine ((ih (i+1) out g2 (by omega) (by omega)).shift 1).congr ?_
   simp[resting,hk]
theorem fixL:∀ (r:List (List Pt)) (i:Nat) (out:List BodyT),c.2.2.1.drop i=r→i≤c.2.2.1.length→out.length≤10000+i →
  Ev (fun n=>Z100L22 n c0 c1 c2 c3 ((((),()),(c.2.2.1,(((c.2.2.1.length:Nat):Int),(((i:Nat):Int),())))),((c,()),((w,()),((out,()),((c,()),((w,()),()))))))) ((),((c,()),((w,()),((out ++ fixed i r,()),((c,()),((w,()),())))))):=by
 have hfl:=hc.fixl
 intro r
 induction r with
 | nil =>
  intro i out h hi ho'
  have:=gdrop_nil h
  refine Ev.of_eq 2 ?_
  simp (disch:=omega) only [Z100L22Eq,br_neg]
  exact (Ev.pure _).congr (by simp[fixed])
 | cons k r ih =>
  intro i out h hi ho'
  obtain⟨g1,g2,g3⟩:=gdrop h
  refine Ev.of_eq 2 ?_
  simp (disch:=omega) only [Z100L22Eq,br_pos,Int.toNat_natCast,g1,Option.bind_some,wr1]
  have hcap:(out.length + [((4:Int),(((i:Nat):Int),((0:Int),k)))].length)*48≤140737488355328:=by simp only[List.length_cons,List.length_nil];omega
  simp only[br_pos hcap]
  refine ((ih (i+1) _ g2 (by omega) (by simp;omega)).shift 1).congr ?_
  simp[fixed]
theorem heldOk (i:Int) (a:ArmT) (q:J3) (ha:ArmOk a) (hq:QBd q) {h:Int} (hh:0≤h∧h<(c.2.2.2.2.1.length:Int)) :
  ∃ p,c.2.2.2.2.1[h.toNat]?=some p∧prtOf c h=p∧Ev (fun n=>Z102 n p (jpts a q).2.2.2 (dirs q).2.2) (outlAt p (jpts a q).2.2.2 (dirs q).2.2)∧Ev (fun n=>Z97 n p (jpts a q).2.2.2 (dirs q).2.2) (outlAt p (jpts a q).2.2.2 (dirs q).2.2):=by
 have gp:c.2.2.2.2.1[h.toNat]?=some c.2.2.2.2.1[h.toNat]:=List.getElem?_eq_getElem (by omega)
 obtain⟨p1,p2⟩:=hc.part _ (List.mem_of_getElem? gp)
 have hb:=(jpts_bd ha hq).2.2.2
 refine⟨_,gp,by unfold prtOf;rw[gp];rfl,partEv (hb.mono (by omega)) (dirs_ok hq).2.2 (by omega) p2,laidEv (hb.mono (by omega)) (dirs_ok hq).2.2 (by omega) p2⟩
end
end Go.Jm
namespace Go.Jm
open Go Go.Am Go.Proofs Go.Hu Go.Mo
theorem WOk.q0 {c:CellT} {w:StateT} (hc:COk c) (hw:WOk c w):QBd w.1.1:=hc.arm0.qbd hw.lim0
theorem WOk.q1 {c:CellT} {w:StateT} (hc:COk c) (hw:WOk c w):QBd w.1.2:=hc.arm1.qbd hw.lim1
theorem held_neg {c:CellT} {a:ArmT} {q:J3} {i h:Int} (hh:h<0):held c a q i h=[]:=by unfold held;rw[if_pos hh]
theorem held_pos {c:CellT} {a:ArmT} {q:J3} {i h:Int} (hh:¬ h<0):held c a q i h=[(2,(i,(0,outlAt (prtOf c h) (jpts a q).2.2.2 (dirs q).2.2)))]:=by unfold held;rw[if_neg hh]
set_option maxRecDepth 20000 in
set_option maxHeartbeats 2000000 in
theorem bodiesEv {c:CellT} {w:StateT} (hc:COk c) (hw:WOk c w):Ev (fun n=>Z25 n c w) (bodies c w):=by
 have q0:=hw.q0 hc
 have q1:=hw.q1 hc
 have tail:∀ (out:List BodyT),out.length≤100→out=arms6 c w ++ (held c c.1.1 w.1.1 0 w.2.1.1 ++ held c c.1.2 w.1.2 1 w.2.1.2) →
   Ev (fun n=>(Z100L17 (n+1) c w c w ((((),()),((),(w.2.2,(((w.2.2.length:Nat):Int),((0:Int),()))))),((c,()),((w,()),((out,()),((c,()),((w,()),()))))))).bind fun l109=>(Z100L22 (n+1) c w c w ((((),()),(l109.2.2.2.2.1.1.2.2.1,(((l109.2.2.2.2.1.1.2.2.1).length:Int),((0:Int),())))),l109.2)).bind fun l112=>some l112.2.2.2.1.1) (bodies c w):=fun out hl e=>by
  have hwl:=hw.wlen
  have hpl:=hc.partl
  have hr:=resting_len c w.2.2 0
  refine Ev.bind ((restL hc hw c c w w w.2.2 0 out rfl (Nat.zero_le _) (by omega)).shift 1) ?_
  refine Ev.bind ((fixL hc hw c c w w c.2.2.1 0 (out ++ resting c 0 w.2.2) rfl (Nat.zero_le _) (by rw[List.length_append];omega)).shift 1) ?_
  exact (Ev.pure _).congr (by rw[e];simp[bodies])
 refine Ev.of_eq 3 ?_
 simp only[Z25Eq]
 refine Ev.bind ((linksEv hc.arm0 q0).shift 1) ?_
 simp (disch:=omega) only [List.length_append,List.length_cons,List.length_nil,w64,br_T]
 refine Ev.bind ((linksEv hc.arm1 q1).shift 1) ?_
 by_cases h0:w.2.1.1<0 <;> by_cases h1:w.2.1.2<0
 ·simp (disch:=omega) only [br_pos,Option.bind_some]
  exact tail _ (by simp) (by rw[held_neg h0,held_neg h1];rfl)
 ·obtain⟨p,g1,g2,g3,g4⟩:=heldOk hc hw 1 c.1.2 w.1.2 hc.arm1 q1 (h:=w.2.1.2) (by have:=hw.held1;omega)
  simp (disch:=omega) only [br_pos,br_neg,g1,Option.bind_some]
  refine Ev.bind (Ev.bind ((jptsEv hc.arm1 q1).shift 1) (Ev.bind ((dirsEv c.1.2 q1).shift 1) (Ev.bind (g3.shift 1) (Ev.pure _)))) ?_
  exact tail _ (by simp) (by rw[held_neg h0,held_pos h1,g2];rfl)
 ·obtain⟨p,g1,g2,g3,g4⟩:=heldOk hc hw 0 c.1.1 w.1.1 hc.arm0 q0 (h:=w.2.1.1) (by have:=hw.held0;omega)
  simp (disch:=omega) only [br_pos,br_neg,g1,Option.bind_some]
  refine Ev.bind (Ev.bind ((jptsEv hc.arm0 q0).shift 1) (Ev.bind ((dirsEv c.1.1 q0).shift 1) (Ev.bind (g3.shift 1) (Ev.pure _)))) ?_
  exact tail _ (by simp) (by rw[held_pos h0,held_neg h1,g2];rfl)
 ·obtain⟨p,g1,g2,g3,g4⟩:=heldOk hc hw 0 c.1.1 w.1.1 hc.arm0 q0 (h:=w.2.1.1) (by have:=hw.held0;omega)
  obtain⟨p',k1,k2,k3,k4⟩:=heldOk hc hw 1 c.1.2 w.1.2 hc.arm1 q1 (h:=w.2.1.2) (by have:=hw.held1;omega)
  simp (disch:=omega) only [br_pos,br_neg,g1,k1,Option.bind_some]
  refine Ev.bind (Ev.bind ((jptsEv hc.arm0 q0).shift 1) (Ev.bind ((dirsEv c.1.1 q0).shift 1) (Ev.bind (g3.shift 1) (Ev.bind ((jptsEv hc.arm1 q1).shift 1) (Ev.bind ((dirsEv c.1.2 q1).shift 1) (Ev.bind (k3.shift 1) (Ev.pure _))))))) ?_
  exact tail _ (by simp) (by rw[held_pos h0,held_pos h1,g2,k2];rfl)
end Go.Jm
namespace Go.Jm
open Go Go.Am Go.Proofs Go.Hu Go.Mo
theorem beq2 (x y k l:Int):Ty.beq (.pair (.int .i64) (.int .i64)) ((x,y):Int×Int) ((k,l):Int×Int)=(decide (x=k) && decide (y=l)):=rfl
theorem brand_pos {R:Type} {p q:Prop} [Decidable p] [Decidable q] {x y:Option R} (hp:p) (hq:q):br (decide p && decide q) x y=x:=by rw[decide_eq_true hp,decide_eq_true hq];rfl
theorem brand_n1 {R:Type} {p q:Prop} [Decidable p] [Decidable q] {x y:Option R} (hp:¬ p):br (decide p && decide q) x y=y:=by rw[decide_eq_false hp];rfl
theorem brand_n2 {R:Type} {p q:Prop} [Decidable p] [Decidable q] {x y:Option R} (hq:¬ q):br (decide p && decide q) x y=y:=by rw[decide_eq_false hq,Bool.and_false];rfl
theorem unlikeEv (a b:BodyT):Ev (fun n=>Z143 n a b) (decide (a.2.1≠b.2.1) || (decide (a.2.2.1=0) && decide (b.2.2.1=2))):=by
 refine Ev.of_eq 1 ?_
 simp only[Z143Eq]
 by_cases h:a.2.1=b.2.1
 ·by_cases h2:a.2.2.1=0
  ·simp only[nbr_pos h,br_pos h2];exact (Ev.pure _).congr (by simp[h,h2])
  ·simp only[nbr_pos h,br_neg h2];exact (Ev.pure _).congr (by simp[h,h2])
 ·simp only[nbr_neg h];exact (Ev.pure _).congr (by simp[h])
theorem underEv (a b:BodyT):Ev (fun n=>Z144 n a b) (decide (a.2.1≠b.2.1) || decide (a.2.2.1=0)):=by
 refine Ev.of_eq 1 ?_
 simp only[Z144Eq]
 by_cases h:a.2.1=b.2.1
 ·simp only[nbr_pos h];exact (Ev.pure _).congr (by simp[h])
 ·simp only[nbr_neg h];exact (Ev.pure _).congr (by simp[h])
theorem overEv (a b:BodyT):Ev (fun n=>Z145 n a b) (decide (a.2.2.1<2)):=by
 refine Ev.of_eq 1 ?_
 simp only[Z145Eq];exact Ev.pure _
theorem alwaysEv (a b:BodyT):Ev (fun n=>Z146 n a b) true:=by
 refine Ev.of_eq 1 ?_
 simp only[Z146Eq];exact Ev.pure _
theorem pick_ev {R:Type} {A B:Nat→Option R} {res:R} (a b:BodyT) (hA:bar a b=true→Ev A res) (hB:bar a b=false→Ev B res) :
  Ev (fun n=>br (decide (a.1=1) && decide (b.1=1)) ((Z143 (n+1) a b).bind fun x=>br x (A n) (B n))
   (br (decide (a.1=1) && decide (b.1=2)) ((Z144 (n+1) a b).bind fun x=>br x (A n) (B n))
   (br (decide (a.1=1) && decide (b.1=3)) ((Z145 (n+1) a b).bind fun x=>br x (A n) (B n))
   (br (decide (a.1=1) && decide (b.1=4)) ((Z146 (n+1) a b).bind fun x=>br x (A n) (B n))
   (br (decide (a.1=2) && decide (b.1=2)) ((Z146 (n+1) a b).bind fun x=>br x (A n) (B n))
   (br (decide (a.1=2) && decide (b.1=3)) ((Z146 (n+1) a b).bind fun x=>br x (A n) (B n))
   (br (decide (a.1=2) && decide (b.1=4)) ((Z146 (n+1) a b).bind fun x=>br x (A n) (B n)) (B n)))))))) res:=by
 have key:∀ {f:Nat→Option Bool} {v:Bool},Ev f v→bar a b=v→Ev (fun n=>(f n).bind fun x=>br x (A n) (B n)) res:=fun {f v} hf hv=>by
  refine Ev.bind hf ?_
  cases v with
  | true=>simp only[br_t];exact hA hv
  | false=>simp only[br_f];exact hB hv
 by_cases ha1:a.1=1
 ·by_cases hb1:b.1=1
  ·simp only[brand_pos ha1 hb1]
   exact key ((unlikeEv a b).shift 1) (by simp[bar,ha1,hb1])
  by_cases hb2:b.1=2
  ·simp (disch:=omega) only [brand_pos,brand_n1,brand_n2]
   exact key ((underEv a b).shift 1) (by simp[bar,ha1,hb2])
  by_cases hb3:b.1=3
  ·simp (disch:=omega) only [brand_pos,brand_n1,brand_n2]
   exact key ((overEv a b).shift 1) (by simp[bar,ha1,hb3])
  by_cases hb4:b.1=4
  ·simp (disch:=omega) only [brand_pos,brand_n1,brand_n2]
   exact key ((alwaysEv a b).shift 1) (by simp[bar,ha1,hb4])
  ·simp (disch:=omega) only [brand_pos,brand_n1,brand_n2]
   exact hB (by simp[bar,ha1,hb1,hb2,hb3,hb4])
 by_cases ha2:a.1=2
 ·by_cases hb2:b.1=2
  ·simp (disch:=omega) only [brand_pos,brand_n1,brand_n2]
   exact key ((alwaysEv a b).shift 1) (by simp[bar,ha2,hb2])
  by_cases hb3:b.1=3
  ·simp (disch:=omega) only [brand_pos,brand_n1,brand_n2]
   exact key ((alwaysEv a b).shift 1) (by simp[bar,ha2,hb3])
  by_cases hb4:b.1=4
  ·simp (disch:=omega) only [brand_pos,brand_n1,brand_n2]
   exact key ((alwaysEv a b).shift 1) (by simp[bar,ha2,hb4])
  ·simp (disch:=omega) only [brand_pos,brand_n1,brand_n2]
   exact hB (by simp[bar,ha2,hb2,hb3,hb4])
 ·simp (disch:=omega) only [brand_pos,brand_n1,brand_n2]
  exact hB (by simp[bar,ha1,ha2])
theorem pairsL6 (c0 c2:CellT) (c1 c3:Mo.StateT) (L L2 lt:List BodyT) (len i0:Int) (hlt:lt.length≤1000) (x1 x4:CellT×Unit) (x2 x5:Mo.StateT×Unit) (a:BodyT):∀ (r:List BodyT) (j:Nat) (out:List PairT),lt.drop j=r→j≤lt.length→out.length≤1000000+j →
  Ev (fun n=>Z98L6 n c0 c1 c2 c3 ((((),()),((),(L,((),(L2,(len,(i0,(lt,(((lt.length:Nat):Int),(((j:Nat):Int),())))))))))),(x1,(x2,((out,()),(x4,(x5,((),((a,()),())))))))))
   ((((),()),((),(L,(L2,(len,(i0,())))))),(x1,(x2,((out ++ (r.filter (bar a)).map (fun b=>(a,b)),()),(x4,(x5,((),()))))))):=by
 intro r
 induction r with
 | nil =>
  intro j out h hi ho
  have:=gdrop_nil h
  refine Ev.of_eq 2 ?_
  simp (disch:=omega) only [Z98L6Eq,br_neg]
  exact (Ev.pure _).congr (by simp)
 | cons b r ih =>
  intro j out h hi ho
  obtain⟨g1,g2,g3⟩:=gdrop h
  refine Ev.of_eq 2 ?_
  simp (disch:=omega) only [Z98L6Eq,br_pos,Int.toNat_natCast,g1,Option.bind_some,wr1]
  have hcap:(out.length + [((a,b):PairT)].length)*96≤140737488355328:=by simp only[List.length_cons,List.length_nil];omega
  simp only[br_pos hcap,beq2]
  have i1:=(ih (j+1) (out ++ [(a,b)]) g2 (by omega) (by simp;omega)).shift 1
  have i2:=(ih (j+1) out g2 (by omega) (by omega)).shift 1
  exact pick_ev a b (fun hv=>i1.congr (by simp[hv])) (fun hv=>i2.congr (by simp[hv]))
theorem pairsOf_len:∀ (l:List BodyT),(pairsOf l).length≤l.length*l.length
 | []=>by simp[pairsOf]
 | a :: l=>by
  have h1:=pairsOf_len l
  have h2:=List.length_filter_le (bar a) l
  simp only[pairsOf,List.length_append,List.length_map,List.length_cons]
  have e:(l.length+1)*(l.length+1)=l.length*l.length+2*l.length+1:=by rw[Nat.add_mul,Nat.mul_add];omega
  omega
theorem pairsL3 (c0 c2:CellT) (c1 c3:Mo.StateT) (L:List BodyT) (hL:L.length≤1000) (x1 x4:CellT×Unit) (x2 x5:Mo.StateT×Unit):∀ (r:List BodyT) (i:Nat) (out:List PairT),L.drop i=r→i≤L.length→out.length≤1000*i →
  Ev (fun n=>Z98L3 n c0 c1 c2 c3 ((((),()),((),(L,(L,(((L.length:Nat):Int),(((i:Nat):Int),())))))),(x1,(x2,((out,()),(x4,(x5,((),()))))))))
   ((),(x1,(x2,((out ++ pairsOf r,()),(x4,(x5,())))))):=by
 intro r
 induction r with
 | nil =>
  intro i out h hi ho
  have:=gdrop_nil h
  refine Ev.of_eq 1 ?_
  simp (disch:=omega) only [Z98L3Eq,br_neg]
  exact (Ev.pure _).congr (by simp[pairsOf])
 | cons a r ih =>
  intro i out h hi ho
  obtain⟨g1,g2,g3⟩:=gdrop h
  refine Ev.of_eq 1 ?_
  have hcond:0≤(((i+1:Nat):Nat):Int)∧(((i+1:Nat):Nat):Int)≤((L.length:Nat):Int)∧((L.length:Nat):Int)≤((L.length:Nat):Int):=by omega
  have hr:r.length≤1000:=by rw[← g2,List.length_drop];omega
  simp (disch:=omega) only [Z98L3Eq,br_pos,Int.toNat_natCast,g1,Option.bind_some,wr1]
  simp only[br_pos hcond,List.take_length,g2]
  refine Ev.bind (pairsL6 c0 c2 c1 c3 L L r _ _ hr x1 x4 x2 x5 a r 0 out rfl (Nat.zero_le _) (by omega)) ?_
  simp (disch:=omega) only [wr1]
  have hf:=List.length_filter_le (bar a) r
  refine (ih (i+1) _ g2 (by omega) (by rw[List.length_append,List.length_map];omega)).congr ?_
  simp[pairsOf]
theorem bodies_len {c:CellT} {w:Mo.StateT} (hc:COk c) (hw:WOk c w):(bodies c w).length≤40:=by
 have h1:=resting_len c w.2.2 0
 have h2:=fixed_len c.2.2.1 0
 have h3:=hc.fixl
 have h4:=hw.wlen
 have h5:=hc.partl
 have h6:∀ (a:ArmT) (q:J3) (i h:Int),(held c a q i h).length≤1:=fun a q i h=>by unfold held;split <;> simp
 have h7:=h6 c.1.1 w.1.1 0 w.2.1.1
 have h8:=h6 c.1.2 w.1.2 1 w.2.1.2
 unfold bodies
 simp only[List.length_append]
 have h9:(arms6 c w).length=6:=rfl
 omega
theorem checkedEv {c:CellT} {w:Mo.StateT} (hc:COk c) (hw:WOk c w):Ev (fun n=>Z49 n c w) (pairsOf (bodies c w)):=by
 have hl:=bodies_len hc hw
 refine Ev.of_eq 3 ?_
 simp only[Z49Eq]
 refine Ev.bind ((bodiesEv hc hw).shift 1) ?_
 refine Ev.bind ((pairsL3 c c w w (bodies c w) (by omega) _ _ _ _ (bodies c w) 0 [] rfl (Nat.zero_le _) (Nat.zero_le _)).shift 1) ?_
 exact (Ev.pure _).congr (by simp)
end Go.Jm
namespace Go.Jm
open Go Go.Am Go.Proofs Go.Hu Go.Mo
def BOk (b:BodyT):Prop:=b.2.2.2.length≤12∧∀ x∈b.2.2.2,Mid x
theorem mem_resting {c:CellT}:∀ {l:List Int} {i:Nat} {b:BodyT},b∈resting c i l→∃ k j,k∈l∧0≤k∧i≤j∧j<i+l.length∧b.2.2.2=outlAt (prtOf c (j:Int)) (plcOf c k).2.1 (plcOf c k).2.2
 | [],i,b,h=>by cases h
 | k :: l,i,b,h=>by
  unfold resting at h
  rcases List.mem_append.1 h with h | h
  ·split at h
   ·rename_i hk
    rw[List.mem_singleton] at h
    subst h
    exact⟨k,i,by simp,hk,Nat.le_refl _,by simp,rfl⟩
   ·cases h
  ·obtain⟨k',j,h1,h2,h3,h4,h5⟩:=mem_resting h
   exact⟨k',j,by simp[h1],h2,by omega,by simp only[List.length_cons];omega,h5⟩
theorem mem_fixed:∀ {l:List (List Pt)} {i:Nat} {b:BodyT},b∈fixed i l→b.2.2.2∈l
 | [],i,b,h=>by cases h
 | p :: l,i,b,h=>by
  unfold fixed at h
  rcases List.mem_cons.1 h with rfl | h
  ·simp
  ·exact List.mem_cons_of_mem _ (mem_fixed h)
theorem outl_ok {p:PartT} {o:Pt} {d:Dir} (ho:Bb 439400000 o) (hd:DirOk 3 d) (hl:p.2.1.length≤4) (hx:∀ x∈p.2.1,Bb 10 x):(outlAt p o d).length≤12∧∀ x∈outlAt p o d,Mid x:=by
 unfold outlAt
 refine⟨by rw[List.length_map];omega,fun x hx'=>?_⟩
 obtain⟨y,hy,rfl⟩:=List.mem_map.1 hx'
 exact (partPt_bd ho hd (hx y hy)).mid (by omega)
theorem link_ok {a:ArmT} {m:Int} {d:Dir} {p r:Pt} (ha:ArmOk a) (hd:DirOk m d) (hp:Bb 365251250 p) (hr:Bb 365251250 r):(link a d p r).length≤12∧∀ x∈link a d p r,Mid x:=by
 have hw:=ha.wide
 have hf:=((off_bd hd (k:=a.2.2.1) (by omega)).1.mono (N:=17576000) (by omega)).turn
 refine⟨by simp[link],fun x hx=>?_⟩
 simp only[link,List.mem_cons,List.not_mem_nil,or_false] at hx
 rcases hx with rfl | rfl | rfl | rfl
 ·exact (hp.sub hf (K:=600000000) (by omega)).mid (by omega)
 ·exact (hr.sub hf (K:=600000000) (by omega)).mid (by omega)
 ·exact (hr.add hf (K:=600000000) (by omega)).mid (by omega)
 ·exact (hp.add hf (K:=600000000) (by omega)).mid (by omega)
theorem lset_ok {a:ArmT} {q:J3} (ha:ArmOk a) (hq:QBd q) (i:Int):∀ b∈lset i (links a q),BOk b:=by
 obtain⟨h1,h2,h3⟩:=dirs_ok hq
 obtain⟨c0,c1,c2,c3⟩:=jpts_bd ha hq
 intro b hb
 simp only[lset,links,List.mem_cons,List.not_mem_nil,or_false] at hb
 rcases hb with rfl | rfl | rfl
 ·exact link_ok ha h1 c0 c1
 ·exact link_ok ha h2 c1 c2
 ·exact link_ok ha h3 c2 c3
theorem prt_ok {c:CellT} (hc:COk c) {k:Int} (hk:0≤k∧k<(c.2.2.2.2.1.length:Int)):(prtOf c k).2.1.length≤4∧∀ x∈(prtOf c k).2.1,Bb 10 x:=by
 have gp:c.2.2.2.2.1[k.toNat]?=some c.2.2.2.2.1[k.toNat]:=List.getElem?_eq_getElem (by omega)
 have e:prtOf c k=c.2.2.2.2.1[k.toNat]:=by unfold prtOf;rw[gp];rfl
 rw[e];exact hc.part _ (List.mem_of_getElem? gp)
theorem plc_ok {c:CellT} (hc:COk c) {k:Int} (hk:0≤k∧k<(c.2.2.2.1.length:Int)):Bb 439400000 (plcOf c k).2.1∧DirOk 3 (plcOf c k).2.2:=by
 have gp:c.2.2.2.1[k.toNat]?=some c.2.2.2.1[k.toNat]:=List.getElem?_eq_getElem (by omega)
 have e:plcOf c k=c.2.2.2.1[k.toNat]:=by unfold plcOf;rw[gp];rfl
 rw[e];exact hc.place _ (List.mem_of_getElem? gp)
theorem held_ok {c:CellT} (hc:COk c) {a:ArmT} {q:J3} (ha:ArmOk a) (hq:QBd q) {i h:Int} (hh:h<(c.2.2.2.2.1.length:Int)):∀ b∈held c a q i h,BOk b:=by
 intro b hb
 unfold held at hb
 split at hb
 ·cases hb
 ·rw[List.mem_singleton] at hb
  subst hb
  obtain⟨p1,p2⟩:=prt_ok hc (k:=h) (by omega)
  exact outl_ok ((jpts_bd ha hq).2.2.2.mono (by omega)) (dirs_ok hq).2.2 p1 p2
theorem bodies_ok {c:CellT} {w:Mo.StateT} (hc:COk c) (hw:WOk c w):∀ b∈bodies c w,BOk b:=by
 intro b hb
 unfold bodies arms6 at hb
 simp only[List.mem_append] at hb
 rcases hb with (hb | hb) | hb | hb | hb | hb
 ·exact lset_ok hc.arm0 (hw.q0 hc) 0 b hb
 ·exact lset_ok hc.arm1 (hw.q1 hc) 1 b hb
 ·exact held_ok hc hc.arm0 (hw.q0 hc) hw.held0.2 b hb
 ·exact held_ok hc hc.arm1 (hw.q1 hc) hw.held1.2 b hb
 ·obtain⟨k,j,h1,h2,h3,h4,h5⟩:=mem_resting hb
  have hk:=hw.whr k h1
  have hl:=hw.wlen
  obtain⟨p1,p2⟩:=prt_ok hc (k:=(j:Int)) (by omega)
  obtain⟨q1,q2⟩:=plc_ok hc (k:=k) (by omega)
  unfold BOk
  rw[h5]
  exact outl_ok q1 q2 p1 p2
 ·obtain⟨h1,h2⟩:=hc.fix _ (mem_fixed hb)
  exact⟨h1,fun x hx=>(h2 x hx).mid (by omega)⟩
theorem mem_pairs:∀ {l:List BodyT} {p:PairT},p∈pairsOf l→p.1∈l∧p.2∈l
 | [],p,h=>by cases h
 | a :: l,p,h=>by
  unfold pairsOf at h
  rcases List.mem_append.1 h with h | h
  ·obtain⟨b,hb,rfl⟩:=List.mem_map.1 h
   exact⟨by simp,List.mem_cons_of_mem _ (List.mem_filter.1 hb).1⟩
  ·have:=mem_pairs h
   exact⟨List.mem_cons_of_mem _ this.1,List.mem_cons_of_mem _ this.2⟩
end Go.Jm
namespace Go.Jm
open Go Go.Am Go.Proofs Go.Hu
theorem tm_nx (l:List Pt) (i:Nat) (hi:i<1000000000):(IntKind.i64.wrap (((i:Nat):Int)+1)).tmod ((l.length:Nat):Int)=((nx l i:Nat):Int):=by
 rw[wr1 _ (by omega),tm_nat];rfl
theorem tm_pv (l:List Pt) (i:Nat) (hi:i<l.length) (hb:l.length<1000000000):(IntKind.i64.wrap (IntKind.i64.wrap (((i:Nat):Int)+((l.length:Nat):Int))-1)).tmod ((l.length:Nat):Int)=((pv l i:Nat):Int):=by
 rw[w64 (n:=((i:Nat):Int)+((l.length:Nat):Int)) (by omega) (by omega),w64 (by omega) (by omega)]
 have:((i:Nat):Int)+((l.length:Nat):Int)-1=((i+l.length-1:Nat):Int):=by omega
 rw[this,tm_nat];rfl
theorem inEv {a b c x:Pt} (ha:Bd a) (hb:Bd b) (hc:Bd c) (hx:Bd x):Ev (fun n=>Z161 n a b c x) (inT a b c x):=by
 refine Ev.of_eq 1 ?_
 simp only[Z161Eq]
 refine Ev.bind (sideEv ha hb hx) ?_
 unfold inT
 by_cases h1:0≤side a b x
 ·rw[decide_eq_true h1];simp only[br_t,Bool.true_and]
  refine Ev.bind (sideEv hb hc hx) ?_
  by_cases h2:0≤side b c x
  ·rw[decide_eq_true h2];simp only[br_t,Bool.true_and]
   exact Ev.bind (sideEv hc ha hx) (Ev.pure _)
  ·rw[decide_eq_false h2];exact Ev.pure _
 ·rw[decide_eq_false h1];exact Ev.pure _
theorem rinEv {a b c x:Pt} (ha:Bd a) (hb:Bd b) (hc:Bd c) (hx:Bd x):Ev (fun n=>Z108 n a b c x) (inT a b c x):=by
 refine Ev.of_eq 1 ?_
 simp only[Z108Eq]
 refine Ev.bind (rsideEv ha hb hx) (Ev.bind (rsideEv hb hc hx) (Ev.bind (rsideEv hc ha hx) ?_))
 unfold inT
 by_cases h1:0≤side a b x
 ·by_cases h2:0≤side b c x
  ·rw[decide_eq_true h1,decide_eq_true h2];exact Ev.pure _
  ·rw[decide_eq_true h1,decide_eq_false h2];exact Ev.pure _
 ·rw[decide_eq_false h1];exact Ev.pure _
theorem isL9 (l:List Pt) (hb:l.length<1000000000) (hbd:∀ x∈l,Bd x) (i:Nat) (hi:i<l.length):∀ (k j:Nat),j+k=l.length →
  Ev (fun n=>Z120L9 n ((l,(((l.length:Nat):Int),(((i:Nat):Int),(((nx l i:Nat):Int),(((l.length:Nat):Int),(((i:Nat):Int),(((l.length:Nat):Int),(((j:Nat):Int),())))))))),()))
   (if ((List.range' j k).all fun j=>decide (j=i) || decide (j=nx l i) || decide (0<side (at_ l i) (at_ l (nx l i)) (at_ l j)))=true then .inl ((l,(((l.length:Nat):Int),(((l.length:Nat):Int),(((i:Nat):Int),())))),()) else .inr ((false,()),())):=by
 intro k
 have hn:=nx_lt (h:=l) (by omega) i
 induction k with
 | zero =>
  intro j hj
  refine Ev.of_eq 1 ?_
  simp (disch:=omega) only [Z120L9Eq,br_neg]
  exact (Ev.pure _).congr (by simp)
 | succ k ih =>
  intro j hj
  have gi:=Go.Hu.get_at hi
  have gn:=Go.Hu.get_at hn
  have gj:=Go.Hu.get_at (h:=l) (i:=j) (by omega)
  have hr:List.range' j (k+1)=j :: List.range' (j+1) k:=by rw[List.range'_succ]
  rw[hr,List.all_cons]
  refine Ev.of_eq 1 ?_
  simp (disch:=omega) only [Z120L9Eq,br_pos,Int.toNat_natCast,gi,gn,gj,Option.bind_some,wr1]
  have cont:=ih (j+1) (by omega)
  by_cases c1:j=i
  ·have e1:((j:Nat):Int)=((i:Nat):Int):=by omega
   simp only[nbr_pos e1]
   refine cont.congr ?_
   rw[decide_eq_true c1];rfl
  ·have e1:¬ ((j:Nat):Int)=((i:Nat):Int):=by omega
   by_cases c2:j=nx l i
   ·have e2:((j:Nat):Int)=((nx l i:Nat):Int):=by omega
    simp only[nbr_neg e1,nbr_pos e2]
    refine cont.congr ?_
    rw[decide_eq_false c1,decide_eq_true c2];rfl
   ·have e2:¬ ((j:Nat):Int)=((nx l i:Nat):Int):=by omega
    simp only[nbr_neg e1,nbr_neg e2]
    refine Ev.bind (sideEv (hbd _ (at_mem hi)) (hbd _ (at_mem hn)) (hbd _ (at_mem (by omega)))) ?_
    by_cases c3:side (at_ l i) (at_ l (nx l i)) (at_ l j)≤0
    ·simp only[br_pos c3]
     refine (Ev.pure _).congr ?_
     rw[decide_eq_false c1,decide_eq_false c2,decide_eq_false (by omega)];rfl
    ·simp only[br_neg c3]
     refine cont.congr ?_
     rw[decide_eq_false c1,decide_eq_false c2,decide_eq_true (show 0<side (at_ l i) (at_ l (nx l i)) (at_ l j) by omega)];rfl
theorem isL5 (l:List Pt) (hb:l.length<1000000000) (hbd:∀ x∈l,Bd x):∀ (k i:Nat),i+k=l.length →
  Ev (fun n=>Z120L5 n ((l,(((l.length:Nat):Int),(((l.length:Nat):Int),(((i:Nat):Int),())))),())) (if ((List.range' i k).all fun i=>(List.range l.length).all fun j=>decide (j=i) || decide (j=nx l i) || decide (0<side (at_ l i) (at_ l (nx l i)) (at_ l j)))=true then .inl ((),()) else .inr ((false,()),())):=by
 intro k
 induction k with
 | zero =>
  intro i hi
  refine Ev.of_eq 1 ?_
  simp (disch:=omega) only [Z120L5Eq,br_neg]
  exact (Ev.pure _).congr (by simp)
 | succ k ih =>
  intro i hi
  have hr:List.range' i (k+1)=i :: List.range' (i+1) k:=by rw[List.range'_succ]
  rw[hr,List.all_cons]
  have h0:¬ ((l.length:Nat):Int)=0:=by omega
  have hil:((i:Nat):Int)<((l.length:Nat):Int):=by omega
  refine Ev.of_eq 1 ?_
  simp only[Z120L5Eq,br_pos hil,br_neg h0,tm_nx l i (by omega)]
  have h8:=isL9 l hb hbd i (by omega) l.length 0 (by omega)
  rw[← List.range_eq_range'] at h8
  refine Ev.bind h8 ?_
  by_cases c:((List.range l.length).all fun j=>decide (j=i) || decide (j=nx l i) || decide (0<side (at_ l i) (at_ l (nx l i)) (at_ l j)))=true
  ·simp (disch:=omega) only [if_pos c,wr1]
   refine (ih (i+1) (by omega)).congr ?_
   rw[c,Bool.true_and]
  ·simp only[if_neg c]
   refine (Ev.pure _).congr ?_
   rw[Bool.not_eq_true] at c
   rw[c];simp
theorem isConvexEv (l:List Pt) (hb:l.length<1000000000) (hbd:∀ x∈l,Bd x):Ev (fun n=>Z120 n l) (convexB l):=by
 refine Ev.of_eq 1 ?_
 simp only[Z120Eq]
 unfold convexB
 by_cases h3:l.length<3
 ·have h3':((l.length:Nat):Int)<3:=by omega
  simp only[br_pos h3']
  refine (Ev.pure _).congr ?_
  rw[decide_eq_false (by omega)];rfl
 ·have h3':¬ ((l.length:Nat):Int)<3:=by omega
  simp only[br_neg h3']
  have h:=isL5 l hb hbd l.length 0 (by omega)
  rw[← List.range_eq_range'] at h
  refine Ev.bind h ?_
  rw[decide_eq_true (by omega:2<l.length),Bool.true_and]
  by_cases c:((List.range l.length).all fun i=>(List.range l.length).all fun j=>decide (j=i) || decide (j=nx l i) || decide (0<side (at_ l i) (at_ l (nx l i)) (at_ l j)))=true
  ·simp only[if_pos c,c];exact Ev.pure _
  ·simp only[if_neg c]
   refine (Ev.pure _).congr ?_
   rw[Bool.not_eq_true] at c
   rw[c]
theorem earL8 (l:List Pt) (hb:l.length<1000000000) (hbd:∀ x∈l,Bd x) (i:Nat) (hi:i<l.length):∀ (k j:Nat),j+k=l.length →
  Ev (fun n=>Z121L8 n ((l,(((l.length:Nat):Int),(((i:Nat):Int),(((pv l i:Nat):Int),(((nx l i:Nat):Int),(((l.length:Nat):Int),(((i:Nat):Int),(((l.length:Nat):Int),(((j:Nat):Int),()))))))))),()))
   (if (List.range' j k).all (clearB l i)=true then .inr ((((i:Nat):Int),(((pv l i:Nat):Int),(((nx l i:Nat):Int),()))),()) else .inl ((l,(((l.length:Nat):Int),(((l.length:Nat):Int),(((i:Nat):Int),())))),())):=by
 intro k
 have hn:=nx_lt (h:=l) (by omega) i
 have hp:=pv_lt (l:=l) (by omega) i
 induction k with
 | zero =>
  intro j hj
  refine Ev.of_eq 1 ?_
  simp (disch:=omega) only [Z121L8Eq,br_neg]
  exact (Ev.pure _).congr (by simp)
 | succ k ih =>
  intro j hj
  have gi:=Go.Hu.get_at hi
  have gn:=Go.Hu.get_at hn
  have gp:=Go.Hu.get_at hp
  have gj:=Go.Hu.get_at (h:=l) (i:=j) (by omega)
  have hr:List.range' j (k+1)=j :: List.range' (j+1) k:=by rw[List.range'_succ]
  rw[hr,List.all_cons]
  refine Ev.of_eq 1 ?_
  simp (disch:=omega) only [Z121L8Eq,br_pos,Int.toNat_natCast,gi,gn,gj,gp,Option.bind_some,wr1]
  have cont:=ih (j+1) (by omega)
  by_cases c0:j=pv l i
  ·have e0:((j:Nat):Int)=((pv l i:Nat):Int):=by omega
   simp only[nbr_pos e0]
   refine cont.congr ?_
   unfold clearB
   rw[decide_eq_true c0];rfl
  have e0:¬ ((j:Nat):Int)=((pv l i:Nat):Int):=by omega
  by_cases c1:j=i
  ·have e1:((j:Nat):Int)=((i:Nat):Int):=by omega
   simp only[nbr_neg e0,nbr_pos e1]
   refine cont.congr ?_
   unfold clearB
   rw[decide_eq_false c0,decide_eq_true c1];rfl
  have e1:¬ ((j:Nat):Int)=((i:Nat):Int):=by omega
  by_cases c2:j=nx l i
  ·have e2:((j:Nat):Int)=((nx l i:Nat):Int):=by omega
   simp only[nbr_neg e0,nbr_neg e1,nbr_pos e2]
   refine cont.congr ?_
   unfold clearB
   rw[decide_eq_false c0,decide_eq_false c1,decide_eq_true c2];rfl
  have e2:¬ ((j:Nat):Int)=((nx l i:Nat):Int):=by omega
  simp only[nbr_neg e0,nbr_neg e1,nbr_neg e2]
  refine Ev.bind (inEv (hbd _ (at_mem hp)) (hbd _ (at_mem hi)) (hbd _ (at_mem hn)) (hbd _ (at_mem (by omega)))) ?_
  have hcl:clearB l i j=!inT (at_ l (pv l i)) (at_ l i) (at_ l (nx l i)) (at_ l j):=by
   unfold clearB
   rw[decide_eq_false c0,decide_eq_false c1,decide_eq_false c2];rfl
  rw[hcl]
  cases c3:inT (at_ l (pv l i)) (at_ l i) (at_ l (nx l i)) (at_ l j) with
  | true=>exact (Ev.pure _).congr rfl
  | false=>exact cont
theorem earL3 (l:List Pt) (hb:l.length<1000000000) (hbd:∀ x∈l,Bd x):∀ (k i:Nat),i+k=l.length →
  Ev (fun n=>Z121L3 n ((l,(((l.length:Nat):Int),(((l.length:Nat):Int),(((i:Nat):Int),())))),()))
   (match firstF (earB l) k i with | none=>.inl ((),()) | some i=>.inr ((((pv l i:Nat):Int),(((i:Nat):Int),(((nx l i:Nat):Int),()))),())):=by
 intro k
 induction k with
 | zero =>
  intro i hi
  refine Ev.of_eq 1 ?_
  simp (disch:=omega) only [Z121L3Eq,br_neg]
  exact Ev.pure _
 | succ k ih =>
  intro i hi
  have h0:¬ ((l.length:Nat):Int)=0:=by omega
  have hil:((i:Nat):Int)<((l.length:Nat):Int):=by omega
  have hi':i<l.length:=by omega
  have hn:=nx_lt (h:=l) (by omega) i
  have hp:=pv_lt (l:=l) (by omega) i
  have gi:=Go.Hu.get_at hi'
  have gn:=Go.Hu.get_at hn
  have gp:=Go.Hu.get_at hp
  refine Ev.of_eq 1 ?_
  simp only[Z121L3Eq,br_pos hil,br_neg h0,tm_nx l i (by omega),tm_pv l i hi' hb]
  simp (disch:=omega) only [br_pos,Int.toNat_natCast,gi,gn,gp,Option.bind_some]
  unfold firstF
  have h8:=earL8 l hb hbd i hi' l.length 0 (by omega)
  rw[← List.range_eq_range'] at h8
  refine Ev.bind (x:=if earB l i=true then .inr ((((pv l i:Nat):Int),(((i:Nat):Int),(((nx l i:Nat):Int),()))),()) else .inl ((l,(((l.length:Nat):Int),(((l.length:Nat):Int),(((i:Nat):Int),())))),())) (Ev.bind (sideEv (hbd _ (at_mem hp)) (hbd _ (at_mem hi')) (hbd _ (at_mem hn))) ?_) ?_
  ·unfold earB
   by_cases c3:side (at_ l (pv l i)) (at_ l i) (at_ l (nx l i))≤0
   ·simp only[br_pos c3]
    refine (Ev.pure _).congr ?_
    rw[decide_eq_false (by omega)];rfl
   ·simp only[br_neg c3]
    refine Ev.bind h8 ?_
    rw[decide_eq_true (by omega:0<side (at_ l (pv l i)) (at_ l i) (at_ l (nx l i))),Bool.true_and]
    by_cases c:(List.range l.length).all (clearB l i)=true
    ·simp only[if_pos c];exact Ev.pure _
    ·simp only[if_neg c];exact Ev.pure _
  ·by_cases c:earB l i=true
   ·simp only[if_pos c];exact Ev.pure _
   ·simp (disch:=omega) only [if_neg c,wr1]
    exact ih (i+1) (by omega)
theorem earEv (l:List Pt) (hb:l.length<1000000000) (hbd:∀ x∈l,Bd x):Ev (fun n=>Z121 n l) (match ear l with | none=>(-1,(-1,-1)) | some i=>(((pv l i:Nat):Int),(((i:Nat):Int),((nx l i:Nat):Int)))):=by
 refine Ev.of_eq 1 ?_
 simp only[Z121Eq]
 refine Ev.bind (earL3 l hb hbd l.length 0 (by omega)) ?_
 unfold ear
 cases firstF (earB l) l.length 0 <;> exact Ev.pure _
end Go.Jm
namespace Go.Jm
open Go Go.Am Go.Proofs Go.Hu
theorem row_step {xs l M Y:List Pt} {i:Nat} (hl:xs.take l.length=l) (hx:l.length≤xs.length) (hi:i<l.length) (hM:M=(xs.drop (0+(i+1))).take (l.length-(i+1))) (hY:Y=xs.take i ++ M ++ xs.drop (i+M.length)) :
  M.length=l.length-(i+1)∧Y.length=xs.length∧Y.take (0+(i+M.length))=rest l i∧(rest l i).length=i+M.length:=by
 have h1:M.length=l.length-(i+1):=by rw[hM];simp;omega
 have h2:Y.length=xs.length:=by rw[hY];simp;omega
 have h3:M=l.drop (i+1):=by
  rw[hM,Nat.zero_add]
  conv=>rhs;rw[← hl]
  rw[List.drop_take]
 have h4:xs.take i=l.take i:=by
  conv=>rhs;rw[← hl]
  rw[List.take_take,Nat.min_eq_left (by omega)]
 have h5:(xs.take i ++ M).length=i+M.length:=by simp;omega
 have h6:rest l i=xs.take i ++ M:=by unfold rest;rw[h4,h3]
 refine⟨h1,h2,?_,by rw[h6,h5]⟩
 rw[hY,Nat.zero_add,h6,← h5,List.take_left']
 rfl
theorem decL5:∀ (k:Nat) (l:List Pt) (out:List (List Pt)) (xs:List Pt),l.length≤k→xs.take l.length=l→out.length+l.length<1000000→(∀ x∈l,Bd x)→xs.length<1000000 →
  ∃ r,Ev (fun n=>Z80L5 n ((((l.length:Nat):Int),(out,())),(xs,()))) r∧((∃ l' out' xs',r=.inl ((((l'.length:Nat):Int),(out',())),(xs',()))∧cutE k l out=out' ++ [l']∧xs'.take l'.length=l'∧out'.length<1000000)∨(r=.inr (([],()),())∧cutE k l out=[])):=by
 intro k
 induction k with
 | zero =>
  intro l out xs hk hl ho hb hx
  refine⟨_,Ev.of_eq 2 ?_,.inl ⟨l,out,xs,rfl,rfl,hl,by omega⟩⟩
  simp (disch:=omega) only [Z80L5Eq,Int.toNat_natCast,br_neg]
  exact Ev.pure _
 | succ k ih =>
  intro l out xs hk hl ho hb hx
  have hlx:l.length≤xs.length:=by
   have:=congrArg List.length hl
   rw[List.length_take] at this
   omega
  by_cases h3:3<l.length
  ·cases he:ear l with
   | none =>
    refine⟨.inr (([],()),()),Ev.of_eq 2 ?_,.inr ⟨rfl,by unfold cutE;rw[if_pos h3,he]⟩⟩
    have c1:(3:Int)<((l.length:Nat):Int):=by omega
    have c2:0+l.length≤xs.length:=by omega
    simp only[Z80L5Eq,Int.toNat_natCast,br_pos c1,br_pos c2,hl]
    have hear:=earEv l (by omega) hb
    rw[he] at hear
    refine Ev.bind (hear.shift 1) ?_
    exact Ev.pure _
   | some i =>
    have hi:i<l.length:=by have:=(firstF_some he).2.1;omega
    have hn:=nx_lt (h:=l) (by omega) i
    have hp:=pv_lt (l:=l) (by omega) i
    have gx:∀ j,j<l.length→xs[0+j]?=some (at_ l j):=fun j hj=>by
     rw[Nat.zero_add,← Go.Hu.get_at hj]
     conv=>rhs;rw[← hl]
     rw[List.getElem?_take_of_lt hj]
    generalize hM:(xs.drop (0+(i+1))).take (l.length-(i+1))=M
    generalize hY:xs.take i ++ M ++ xs.drop (i+M.length)=Y
    obtain⟨r1,r2,r3,r4⟩:=row_step hl hlx hi hM.symm hY.symm
    have hrl:(rest l i).length=l.length-1:=by omega
    have hlo:(out ++ [tri l i]).length=out.length+1:=by simp
    have c3:¬ ((i:Nat):Int)<0:=by omega
    have c4:(0:Int)≤((pv l i:Nat):Int)∧((pv l i:Nat):Int)<((l.length:Nat):Int):=by omega
    have c5:(0:Int)≤((i:Nat):Int)∧((i:Nat):Int)<((l.length:Nat):Int):=by omega
    have c6:(0:Int)≤((nx l i:Nat):Int)∧((nx l i:Nat):Int)<((l.length:Nat):Int):=by omega
    have c7:(out.length + [[at_ l (pv l i),at_ l i,at_ l (nx l i)]].length)*24≤140737488355328:=by simp only[List.length_cons,List.length_nil];omega
    have c8:(0:Int)≤((i:Nat):Int)∧((i:Nat):Int)≤((i+1:Nat):Int)∧((i+1:Nat):Int)≤((l.length:Nat):Int)∧((l.length:Nat):Int)≤((l.length:Nat):Int):=by omega
    have c9:¬ (((i+1:Nat):Int)=0∧((l.length:Nat):Int)=0):=by omega
    have c10:¬ (((i:Nat):Int)=((i+1:Nat):Int)):=by omega
    have c11:(0:Int)≤0∧(0:Int)≤((i:Nat):Int)∧((i:Nat):Int)≤((l.length:Nat):Int):=by omega
    have c12:(0:Int)≤((i+1:Nat):Int)∧((i+1:Nat):Int)≤((l.length:Nat):Int)∧((l.length:Nat):Int)≤((l.length:Nat):Int):=by omega
    have c13:0+(i+1)+(l.length-(i+1))≤xs.length:=by omega
    have c14:i≤xs.length∧(i+M.length)*16≤140737488355328:=by omega
    have c15:(0:Int)≤((i+M.length:Nat):Int)∧((i+M.length:Nat):Int)≤((l.length:Nat):Int)∧0+((l.length:Nat):Int)≤((Y.length:Nat):Int):=by omega
    have c16:0+(i+M.length)≤Y.length:=by omega
    have hY2:(Y.take (0+(i+M.length)) ++ List.replicate (l.length-(i+M.length)) ((0,0):Pt) ++ Y.drop (0+(i+M.length)+(l.length-(i+M.length)))).take (rest l i).length=rest l i:=by
     rw[r3,List.append_assoc,List.take_left']
     rfl
    have hY3:(Y.take (0+(i+M.length)) ++ List.replicate (l.length-(i+M.length)) ((0,0):Pt) ++ Y.drop (0+(i+M.length)+(l.length-(i+M.length)))).length<1000000:=by
     simp;omega
    obtain⟨r,hr,hres⟩:=ih (rest l i) (out ++ [tri l i]) _ (by omega) hY2 (by omega) (fun x h=>hb x (rest_mem x h)) hY3
    refine⟨r,Ev.of_eq 2 ?_,?_⟩
    ·have c1:(3:Int)<((l.length:Nat):Int):=by omega
     have c2:0+l.length≤xs.length:=by omega
     simp only[Z80L5Eq,Int.toNat_natCast,br_pos c1,br_pos c2,hl]
     have hear:=earEv l (by omega) hb
     rw[he] at hear
     refine Ev.bind (hear.shift 1) ?_
     simp only[br_neg c3,br_pos c4,br_pos c5,br_pos c6,Int.toNat_natCast,gx _ hi,gx _ hn,gx _ hp,Option.bind_some,wr1 i (by omega),hM,hY]
     simp only[br_pos c7,br_pos c8,br_neg c9,br_neg c10,br_pos c11,br_pos c12,br_pos c13,br_pos c14,br_pos c15,br_pos c16]
     rw[r4] at hr
     exact hr.shift 1
    ·unfold cutE
     rw[if_pos h3,he]
     exact hres
  ·refine⟨_,Ev.of_eq 2 ?_,.inl ⟨l,out,xs,rfl,by unfold cutE;rw[if_neg h3],hl,by omega⟩⟩
   simp (disch:=omega) only [Z80L5Eq,Int.toNat_natCast,br_neg]
   exact Ev.pure _
theorem decompEv (p:List Pt) (hl:p.length<1000) (hb:∀ x∈p,Bd x):Ev (fun n=>Z80 n p) (decomp p):=by
 refine Ev.of_eq 2 ?_
 have c0:p.length≤8796093022208:=by omega
 have c1:0+p.length≤p.length:=by omega
 simp only[Z80Eq,br_pos c0,br_pos c1]
 refine Ev.bind ((isConvexEv p (by omega) hb).shift 1) ?_
 unfold decomp
 cases hc:convexB p with
 | true=>exact (Ev.pure _).congr (by simp)
 | false =>
  obtain⟨r,hr,hres⟩:=decL5 p.length p [] p (Nat.le_refl _) (by simp) (by simp;omega) hb (by omega)
  simp only[br_f]
  refine Ev.bind (hr.shift 1) ?_
  rcases hres with ⟨l',out',xs',rfl,hcut,htk,hlen⟩ | ⟨rfl,hcut⟩
  ·have hlx:l'.length≤xs'.length:=by
    have:=congrArg List.length htk
    rw[List.length_take] at this
    omega
   have c2:0+l'.length≤xs'.length:=by omega
   have c3:(out'.length + [l'].length)*24≤140737488355328:=by simp only[List.length_cons,List.length_nil];omega
   simp only[Int.toNat_natCast,htk,br_pos c2,br_pos c3]
   refine (Ev.pure _).congr ?_
   rw[if_neg (by simp),hcut]
  ·refine (Ev.pure _).congr ?_
   rw[if_neg (by simp),hcut]
end Go.Jm
namespace Go.Jm
open Go Go.Am Go.Proofs Go.Hu
theorem rearL8 (l:List Pt) (hb:l.length<1000000000) (hbd:∀ x∈l,Bd x) (i:Nat) (hi:i<l.length):∀ (k j:Nat),j+k=l.length →
  Ev (fun n=>Z66L8 n ((l,(((i:Nat):Int),(((l.length:Nat):Int),(((pv l i:Nat):Int),(((nx l i:Nat):Int),(((j:Nat):Int),())))))),()))
   (if (List.range' j k).all (clearB l i)=true then .inl ((),()) else .inr ((false,()),())):=by
 intro k
 have hn:=nx_lt (h:=l) (by omega) i
 have hp:=pv_lt (l:=l) (by omega) i
 induction k with
 | zero =>
  intro j hj
  refine Ev.of_eq 1 ?_
  simp (disch:=omega) only [Z66L8Eq,br_neg]
  exact (Ev.pure _).congr (by simp)
 | succ k ih =>
  intro j hj
  have gi:=Go.Hu.get_at hi
  have gn:=Go.Hu.get_at hn
  have gp:=Go.Hu.get_at hp
  have gj:=Go.Hu.get_at (h:=l) (i:=j) (by omega)
  have hr:List.range' j (k+1)=j :: List.range' (j+1) k:=by rw[List.range'_succ]
  rw[hr,List.all_cons]
  refine Ev.of_eq 1 ?_
  simp (disch:=omega) only [Z66L8Eq,br_pos,Int.toNat_natCast,gi,gn,gj,gp,Option.bind_some,wr1]
  refine Ev.bind (rinEv (hbd _ (at_mem hp)) (hbd _ (at_mem hi)) (hbd _ (at_mem hn)) (hbd _ (at_mem (by omega)))) ?_
  have cont:=ih (j+1) (by omega)
  by_cases c0:j=pv l i
  ·have e0:((j:Nat):Int)=((pv l i:Nat):Int):=by omega
   simp only[nbr_pos e0]
   refine cont.congr ?_
   unfold clearB
   rw[decide_eq_true c0];rfl
  have e0:¬ ((j:Nat):Int)=((pv l i:Nat):Int):=by omega
  by_cases c1:j=i
  ·have e1:((j:Nat):Int)=((i:Nat):Int):=by omega
   simp only[nbr_neg e0,nbr_pos e1]
   refine cont.congr ?_
   unfold clearB
   rw[decide_eq_false c0,decide_eq_true c1];rfl
  have e1:¬ ((j:Nat):Int)=((i:Nat):Int):=by omega
  by_cases c2:j=nx l i
  ·have e2:((j:Nat):Int)=((nx l i:Nat):Int):=by omega
   simp only[nbr_neg e0,nbr_neg e1,nbr_pos e2]
   refine cont.congr ?_
   unfold clearB
   rw[decide_eq_false c0,decide_eq_false c1,decide_eq_true c2];rfl
  have e2:¬ ((j:Nat):Int)=((nx l i:Nat):Int):=by omega
  simp only[nbr_neg e0,nbr_neg e1,nbr_neg e2]
  have hcl:clearB l i j=!inT (at_ l (pv l i)) (at_ l i) (at_ l (nx l i)) (at_ l j):=by
   unfold clearB
   rw[decide_eq_false c0,decide_eq_false c1,decide_eq_false c2];rfl
  rw[hcl]
  cases c3:inT (at_ l (pv l i)) (at_ l i) (at_ l (nx l i)) (at_ l j) with
  | true=>exact (Ev.pure _).congr rfl
  | false=>exact cont
theorem rearEv (l:List Pt) (hb:l.length<1000000000) (hbd:∀ x∈l,Bd x) (i:Nat) (hi':i<l.length):Ev (fun n=>Z66 n l ((i:Nat):Int)) (earB l i):=by
 have h0:¬ ((l.length:Nat):Int)=0:=by omega
 have hn:=nx_lt (h:=l) (by omega) i
 have hp:=pv_lt (l:=l) (by omega) i
 have gi:=Go.Hu.get_at hi'
 have gn:=Go.Hu.get_at hn
 have gp:=Go.Hu.get_at hp
 refine Ev.of_eq 1 ?_
 simp only[Z66Eq,br_neg h0,tm_nx l i (by omega),tm_pv l i hi' hb]
 simp (disch:=omega) only [br_pos,Int.toNat_natCast,gi,gn,gp,Option.bind_some]
 have h8:=rearL8 l hb hbd i hi' l.length 0 (by omega)
 rw[← List.range_eq_range'] at h8
 refine Ev.bind (rsideEv (hbd _ (at_mem hp)) (hbd _ (at_mem hi')) (hbd _ (at_mem hn))) ?_
 unfold earB
 by_cases c3:side (at_ l (pv l i)) (at_ l i) (at_ l (nx l i))≤0
 ·simp only[br_pos c3]
  refine (Ev.pure _).congr ?_
  rw[decide_eq_false (by omega)];rfl
 ·simp only[br_neg c3]
  refine Ev.bind h8 ?_
  rw[decide_eq_true (by omega:0<side (at_ l (pv l i)) (at_ l i) (at_ l (nx l i))),Bool.true_and]
  cases (List.range l.length).all (clearB l i) with
  | true=>exact Ev.pure _
  | false=>exact Ev.pure _
theorem partsL8 (out:List (List Pt)) (l:List Pt) (hb:l.length<1000000000) (hbd:∀ x∈l,Bd x):∀ (k i:Nat),i+k=l.length →
  Ev (fun n=>Z31L8 n ((out,(l,(((i:Nat):Int),()))),())) ((out,(l,((((match firstF (earB l) k i with | none=>l.length | some j=>j):Nat):Int),()))),()):=by
 intro k
 induction k with
 | zero =>
  intro i hi
  refine Ev.of_eq 1 ?_
  simp (disch:=omega) only [Z31L8Eq,br_neg]
  have:i=l.length:=by omega
  subst this
  exact Ev.pure _
 | succ k ih =>
  intro i hi
  have hil:((i:Nat):Int)<((l.length:Nat):Int):=by omega
  refine Ev.of_eq 1 ?_
  simp only[Z31L8Eq,br_pos hil]
  refine Ev.bind (rearEv l hb hbd i (by omega)) ?_
  unfold firstF
  cases c:earB l i with
  | true=>exact Ev.pure _
  | false =>
   simp (disch:=omega) only [br_f,wr1]
   exact ih (i+1) (by omega)
theorem partsL6:∀ (k:Nat) (l:List Pt) (out:List (List Pt)),l.length≤k→out.length+l.length<1000000→(∀ x∈l,Bd x) →
  ∃ r,Ev (fun n=>Z31L6 n ((out,(l,())),())) r∧((∃ l' out',r=.inl ((out',(l',())),())∧cutE k l out=out' ++ [l']∧out'.length<1000000)∨(r=.inr (([],()),())∧cutE k l out=[])):=by
 intro k
 induction k with
 | zero =>
  intro l out hk ho hb
  refine⟨_,Ev.of_eq 1 ?_,.inl ⟨l,out,rfl,rfl,by omega⟩⟩
  simp (disch:=omega) only [Z31L6Eq,br_neg]
  exact Ev.pure _
 | succ k ih =>
  intro l out hk ho hb
  by_cases h3:3<l.length
  ·have h8:=partsL8 out l (by omega) hb l.length 0 (by omega)
   have c1:(3:Int)<((l.length:Nat):Int):=by omega
   cases he:ear l with
   | none =>
    refine⟨.inr (([],()),()),Ev.of_eq 1 ?_,.inr ⟨rfl,by unfold cutE;rw[if_pos h3,he]⟩⟩
    simp only[Z31L6Eq,br_pos c1]
    refine Ev.bind h8 ?_
    unfold ear at he
    rw[he]
    simp only[br_pos trivial,decide_true,br_t]
    exact Ev.pure _
   | some i =>
    have hi:i<l.length:=by have:=(firstF_some he).2.1;omega
    have hn:=nx_lt (h:=l) (by omega) i
    have hp:=pv_lt (l:=l) (by omega) i
    have gi:=Go.Hu.get_at hi
    have gn:=Go.Hu.get_at hn
    have gp:=Go.Hu.get_at hp
    have hrl:=rest_len hi
    have c2:¬ ((i:Nat):Int)=((l.length:Nat):Int):=by omega
    have c3:¬ ((l.length:Nat):Int)=0:=by omega
    have c7:(out.length + [[at_ l (pv l i),at_ l i,at_ l (nx l i)]].length)*24≤140737488355328:=by simp only[List.length_cons,List.length_nil];omega
    have c8:(0:Int)≤0∧(0:Int)≤((i:Nat):Int)∧((i:Nat):Int)≤((l.length:Nat):Int):=by omega
    have hA:(((l.take i).drop 0):List Pt)=l.take i:=by simp
    have hB:(l.take l.length).drop (i+1)=l.drop (i+1):=by simp
    have c9:(l.take i).length*16≤140737488355328:=by rw[List.length_take];omega
    have c10:(0:Int)≤((i+1:Nat):Int)∧((i+1:Nat):Int)≤((l.length:Nat):Int)∧((l.length:Nat):Int)≤((l.length:Nat):Int):=by omega
    have c11:((l.take i).length+(l.drop (i+1)).length)*16≤140737488355328:=by rw[List.length_take,List.length_drop];omega
    have d1:(0:Int)≤((pv l i:Nat):Int):=by omega
    have d2:(0:Int)≤((i:Nat):Int):=by omega
    have d3:(0:Int)≤((nx l i:Nat):Int):=by omega
    have t0:Int.toNat 0=0:=rfl
    have tn:((i+1:Nat):Int).tmod ((l.length:Nat):Int)=((nx l i:Nat):Int):=tm_nat _ _
    obtain⟨r,hr,hres⟩:=ih (rest l i) (out ++ [tri l i]) (by omega) (by rw[List.length_append];simp;omega) (fun x h=>hb x (rest_mem x h))
    refine⟨r,Ev.of_eq 1 ?_,by unfold cutE;rw[if_pos h3,he];exact hres⟩
    simp only[Z31L6Eq,br_pos c1]
    refine Ev.bind h8 ?_
    unfold ear at he
    rw[he]
    simp only[br_neg c2,br_neg c3,tm_nx l i (by omega),tm_pv l i hi (by omega),br_pos d1,br_pos d2,br_pos d3,Int.toNat_natCast,gi,gn,gp,Option.bind_some,br_pos c7,br_pos c8,t0,hA,br_pos c9,wr1 i (by omega),tn,br_pos c10,hB,br_pos c11]
    exact hr
  ·refine⟨_,Ev.of_eq 1 ?_,.inl ⟨l,out,rfl,by unfold cutE;rw[if_neg h3],by omega⟩⟩
   simp (disch:=omega) only [Z31L6Eq,br_neg]
   exact Ev.pure _
theorem partsEv (p:List Pt) (hl:p.length<1000) (hb:∀ x∈p,Bd x):Ev (fun n=>Z31 n p) (decomp p):=by
 refine Ev.of_eq 1 ?_
 simp only[Z31Eq]
 refine Ev.bind (convexEv p (by omega) hb) ?_
 unfold decomp
 cases hc:convexB p with
 | true=>exact (Ev.pure _).congr (by simp)
 | false =>
  obtain⟨r,hr,hres⟩:=partsL6 p.length p [] (Nat.le_refl _) (by simp;omega) hb
  simp only[br_f]
  refine Ev.bind hr ?_
  rcases hres with ⟨l',out',rfl,hcut,hlen⟩ | ⟨rfl,hcut⟩
  ·have c3:(out'.length + [l'].length)*24≤140737488355328:=by simp only[List.length_cons,List.length_nil];omega
   simp only[br_pos c3]
   refine (Ev.pure _).congr ?_
   rw[if_neg (by simp),hcut]
  ·refine (Ev.pure _).congr ?_
   rw[if_neg (by simp),hcut]
end Go.Jm
namespace Go.Jm
open Go Go.Am Go.Proofs Go.Hu Go.Mo
theorem alikeEv (a b:BodyT):Ev (fun n=>Z46 n a b) (alike a b):=by
 refine Ev.of_eq 1 ?_
 simp only[Z46Eq]
 unfold alike
 by_cases h1:a.1=b.1
 ·by_cases h2:a.2.1=b.2.1
  ·simp only[br_pos h1,br_pos h2];exact (Ev.pure _).congr (by simp[h1,h2])
  ·simp only[br_pos h1,br_neg h2];exact (Ev.pure _).congr (by simp[h2])
 ·simp only[br_neg h1];exact (Ev.pure _).congr (by simp[h1])
theorem sweptL2 {o:Pt} (ho:Mid o) (thn:List BodyT) (hn:thn.length≤1000) (ht:∀ b∈thn,BOk b) {b:BodyT} (hb:BOk b) (y:((Int×(Int×Int))×(List Pt×Unit))×Unit):∀ (r:List BodyT) (i:Nat),thn.drop i=r→i≤thn.length →
  Ev (fun n=>Z45L2 n (((),((),((),(thn,(((thn.length:Nat):Int),(((i:Nat):Int),())))))),((o,()),((thn,()),((b,()),y))))) (((),((),())),((o,()),((thn,()),((sweptB o b r,()),y)))):=by
 intro r
 induction r with
 | nil =>
  intro i h hi
  have:=gdrop_nil h
  refine Ev.of_eq 1 ?_
  simp (disch:=omega) only [Z45L2Eq,br_neg]
  exact Ev.pure _
 | cons x r ih =>
  intro i h hi
  obtain⟨g1,g2,g3⟩:=gdrop h
  refine Ev.of_eq 1 ?_
  simp (disch:=omega) only [Z45L2Eq,br_pos,Int.toNat_natCast,g1,Option.bind_some,wr1]
  refine Ev.bind (alikeEv x b) ?_
  unfold sweptB
  cases ha:alike x b with
  | true =>
   simp only[br_t,if_true]
   refine Ev.bind (regionEv ho (by have:=hb.1;omega) hb.2 (ht x (List.mem_of_getElem? g1)).2) ?_
   exact Ev.pure _
  | false =>
   simp only[br_f,Bool.false_eq_true,if_false]
   exact ih (i+1) g2 (by omega)
def step1P (o:Pt) (m:MoveT) (thn:List BodyT) (p:PairT):List PairT :=
 if moves m p.1=true∧moves m p.2=false then [(sweptB o p.1 thn,p.2)] else if moves m p.2=true∧moves m p.1=false then [(p.1,sweptB o p.2 thn)] else []
theorem moves_def (m:MoveT) (b:BodyT):(decide (b.2.1=m.1) && (decide (b.1=1) && decide (m.2.1≤b.2.2.1) || decide (b.1=2)))=moves m b:=rfl
theorem sw4 {S U W:Type} {u v:Bool} {A B:Nat→Option S} {N:S} {f:S→Option U} {g:Nat→U→Option W} {res:W} {sA sB:S} {jA jB jN:U}
  (hA:u=true→v=false→Ev A sA∧f sA=some jA∧Ev (fun n=>g n jA) res) (hB:u=false→v=true→Ev B sB∧f sB=some jB∧Ev (fun n=>g n jB) res)
  (hN:u=v→f N=some jN∧Ev (fun n=>g n jN) res) :
  Ev (fun n=>((br u (br (!v) (A n) (br v (br (!u) (B n) (some N)) (some N))) (br v (br (!u) (B n) (some N)) (some N))).bind f).bind (g n)) res:=by
 cases u <;> cases v
 ·obtain⟨h1,h2⟩:=hN rfl
  exact Ev.bind (x:=jN) (Ev.const h1) h2
 ·obtain⟨h1,h2,h3⟩:=hB rfl rfl
  exact Ev.bind (Ev.bind h1 (Ev.const h2)) h3
 ·obtain⟨h1,h2,h3⟩:=hA rfl rfl
  exact Ev.bind (Ev.bind h1 (Ev.const h2)) h3
 ·obtain⟨h1,h2⟩:=hN rfl
  exact Ev.bind (x:=jN) (Ev.const h1) h2
theorem sweptL10 {o:Pt} (ho:Mid o) (thn:List BodyT) (hn:thn.length≤1000) (ht:∀ b∈thn,BOk b) (m:MoveT) (P:List PairT) (hP:P.length≤1000000) (hp:∀ p∈P,BOk p.1∧BOk p.2):∀ (r:List PairT) (i:Nat) (out:List PairT),P.drop i=r→i≤P.length→out.length≤i →
  Ev (fun n=>Z20L10 n ((((),((),((),()))),(((),((),())),(out,(P,(((P.length:Nat):Int),(((i:Nat):Int),())))))),((),((),((),((),((o,()),((thn,()),((m,()),()))))))))) ((out ++ sweptP o m thn r,()),()):=by
 intro r
 induction r with
 | nil =>
  intro i out h hi ho'
  have:=gdrop_nil h
  refine Ev.of_eq 2 ?_
  simp (disch:=omega) only [Z20L10Eq,br_neg]
  exact (Ev.pure _).congr (by simp[sweptP])
 | cons p r ih =>
  intro i out h hi ho'
  obtain⟨g1,g2,g3⟩:=gdrop h
  obtain⟨p1,p2⟩:=hp p (List.mem_of_getElem? g1)
  refine Ev.of_eq 2 ?_
  simp (disch:=omega) only [Z20L10Eq,br_pos,Int.toNat_natCast,g1,Option.bind_some,moves_def]
  have fin:∀ out':List PairT,out'.length≤i+1→out' ++ sweptP o m thn r=out ++ sweptP o m thn (p :: r) →
    Ev (fun n=>Z20L10 (n+1) ((((),((),((),()))),(((),((),())),(out',(P,(((P.length:Nat):Int),(((i+1:Nat):Int),())))))),((),((),((),((),((o,()),((thn,()),((m,()),()))))))))) ((out ++ sweptP o m thn (p :: r),()),()):=fun out' hl e =>
   ((ih (i+1) out' g2 (by omega) hl).shift 1).congr (by rw[e])
  have hcap:∀ z:PairT,(out.length + [z].length)*96≤140737488355328:=fun z=>by simp only[List.length_cons,List.length_nil];omega
  have sk:out ++ sweptP o m thn (p :: r)=out ++ step1P o m thn p ++ sweptP o m thn r:=by simp[sweptP,step1P]
  refine sw4 (jA:=((((),((),((),()))),(((),((),())),(out ++ [(sweptB o p.1 thn,p.2)],(P,(((P.length:Nat):Int),(((i:Nat):Int),())))))),((),((),((),((),((o,()),((thn,()),((m,()),())))))))))
   (jB:=((((),((),((),()))),(((),((),())),(out ++ [(p.1,sweptB o p.2 thn)],(P,(((P.length:Nat):Int),(((i:Nat):Int),())))))),((),((),((),((),((o,()),((thn,()),((m,()),())))))))))
   (fun h1 h2=>⟨Ev.bind (sweptL2 ho thn hn ht p1 _ thn 0 rfl (Nat.zero_le _)) (Ev.pure _),br_pos (hcap _),?_⟩)
   (fun h1 h2=>⟨Ev.bind (sweptL2 ho thn hn ht p2 _ thn 0 rfl (Nat.zero_le _)) (Ev.pure _),br_pos (hcap _),?_⟩) (fun h1=>⟨rfl,?_⟩)
  ·simp (disch:=omega) only [wr1]
   exact fin (out ++ [(sweptB o p.1 thn,p.2)]) (by simp;omega) (by rw[sk];simp[step1P,h1,h2])
  ·simp (disch:=omega) only [wr1]
   exact fin (out ++ [(p.1,sweptB o p.2 thn)]) (by simp;omega) (by rw[sk];simp[step1P,h1,h2])
  ·simp (disch:=omega) only [wr1]
   exact fin out (by omega) (by rw[sk];cases h2:moves m p.2 <;> simp[step1P,h1,h2])
end Go.Jm
namespace Go.Jm
open Go Go.Am Go.Proofs Go.Hu Go.Mo
theorem next_some {c:CellT} {w:Mo.StateT} {m:MoveT} (h:(next c w m).2=true):(0≤m.1∧m.1≤1)∧(0≤m.2.1∧m.2.1<3)∧inLim (armOf c m.1) (bump (conf w m.1) m.2.1 m.2.2)=true∧(next c w m).1=setQ w m.1 (bump (conf w m.1) m.2.1 m.2.2):=by
 unfold next at h ⊢
 by_cases hc:0≤m.1∧m.1≤1∧(stepJ (armOf c m.1) (conf w m.1) m.2.1 m.2.2).2=true
 ·rw[if_pos hc]
  obtain⟨h1,h2,h3⟩:=hc
  unfold stepJ at h3 ⊢
  by_cases hs:(0≤m.2.1∧m.2.1<3)∧(m.2.2=1∨m.2.2 = -1)∧inLim (armOf c m.1) (bump (conf w m.1) m.2.1 m.2.2)=true
  ·rw[if_pos hs]
   exact⟨⟨h1,h2⟩,hs.1,hs.2.2,rfl⟩
  ·rw[if_neg hs] at h3;cases h3
 ·rw[if_neg hc] at h;cases h
theorem WOk.next {c:CellT} {w:Mo.StateT} {m:MoveT} (hw:WOk c w) (h:(next c w m).2=true):WOk c (next c w m).1:=by
 obtain⟨⟨h1,h2⟩,h3,h4,h5⟩:=next_some h
 rw[h5]
 unfold setQ
 have hm:m.1=0∨m.1=1:=by omega
 rcases hm with e | e
 ·rw[if_pos e]
  rw[e] at h4 ⊢
  exact⟨h4,hw.lim1,hw.wlen,hw.whr,hw.held0,hw.held1⟩
 ·rw[if_neg (by omega)]
  rw[e] at h4 ⊢
  exact⟨hw.lim0,h4,hw.wlen,hw.whr,hw.held0,hw.held1⟩
theorem arm_ok {c:CellT} (hc:COk c) (i:Int):ArmOk (armOf c i):=by
 unfold armOf;split
 ·exact hc.arm0
 ·exact hc.arm1
theorem conf_ok {c:CellT} {w:Mo.StateT} (hc:COk c) (hw:WOk c w) (i:Int):QBd (conf w i):=by
 unfold conf;split
 ·exact hw.q0 hc
 ·exact hw.q1 hc
theorem jpt_mid {c:CellT} {w:Mo.StateT} (hc:COk c) (hw:WOk c w) (i j:Int):Mid (jpt (armOf c i) (conf w i) j):=by
 obtain⟨c0,c1,c2,c3⟩:=jpts_bd (arm_ok hc i) (conf_ok hc hw i)
 unfold jpt
 split
 ·exact c0.mid (by omega)
 ·split
  ·exact c1.mid (by omega)
  ·split
   ·exact c2.mid (by omega)
   ·exact c3.mid (by omega)
theorem sweptEnd {c:CellT} {w:Mo.StateT} (hc:COk c) (hw:WOk c w) {m:MoveT} (h:(next c w m).2=true) (o:Pt) (ho:o=jpt (armOf c m.1) (conf w m.1) m.2.1) :
  Ev (fun n=>(Z25 (n+1) c (next c w m).1).bind fun x235=>(Z49 (n+1) c w).bind fun x236=>(Z20L10 (n+1) ((((),((),((),()))),(((),((),())),([],(x236,(((x236).length:Int),((0:Int),())))))),((),((),((),((),((o,()),((x235,()),((m,()),()))))))))).bind fun l237=>some l237.1.1) (sweptPairs c w m):=by
 subst ho
 have hw':=hw.next h
 have hb:=bodies_ok hc hw
 have hl:=bodies_len hc hw
 have hl':=bodies_len hc hw'
 have hp:=pairsOf_len (bodies c w)
 have hpl:(pairsOf (bodies c w)).length≤1000000:=by
  have:(bodies c w).length*(bodies c w).length≤40*40:=Nat.mul_le_mul hl hl
  omega
 refine Ev.bind ((bodiesEv hc hw').shift 1) ?_
 refine Ev.bind ((checkedEv hc hw).shift 1) ?_
 refine Ev.bind ((sweptL10 (jpt_mid hc hw _ _) _ (by omega) (bodies_ok hc hw') m (pairsOf (bodies c w)) hpl (fun p hp=>⟨hb _ (mem_pairs hp).1,hb _ (mem_pairs hp).2⟩) (pairsOf (bodies c w)) 0 [] rfl (Nat.zero_le _) (Nat.le_refl _)).shift 1) ?_
 exact (Ev.pure _).congr (by unfold sweptPairs;rw[if_pos h];simp)
theorem sweptPairsEv {c:CellT} {w:Mo.StateT} (hc:COk c) (hw:WOk c w) (m:MoveT):Ev (fun n=>Z20 n c w m) (sweptPairs c w m):=by
 refine Ev.of_eq 2 ?_
 simp only[Z20Eq]
 refine Ev.bind ((nextStEv c w m (hw.q0 hc) (hw.q1 hc)).shift 1) ?_
 cases h:(next c w m).2 with
 | false =>
  simp only[Bool.not_false,br_t]
  exact (Ev.pure _).congr (by unfold sweptPairs;rw[if_neg (by simp[h])])
 | true =>
  obtain⟨h1,h3,h4,h5⟩:=next_some h
  simp only[Bool.not_true,br_f]
  have key:=sweptEnd hc hw h
  have hm:m.1=0∨m.1=1:=by omega
  have hj:m.2.1=0∨m.2.1=1∨m.2.1=2:=by omega
  rcases hm with e | e
  ·simp (disch:=omega) only [br_pos,br_neg]
   refine Ev.bind ((jptsEv hc.arm0 (hw.q0 hc)).shift 1) ?_
   rcases hj with f | f | f <;>
   ·simp (disch:=omega) only [br_pos,br_neg]
    exact key _ (by rw[e,f];rfl)
  ·simp (disch:=omega) only [br_pos,br_neg]
   refine Ev.bind ((jptsEv hc.arm1 (hw.q1 hc)).shift 1) ?_
   rcases hj with f | f | f <;>
   ·simp (disch:=omega) only [br_pos,br_neg]
    exact key _ (by rw[e,f];rfl)
end Go.Jm
namespace Go.Jm
open Go Go.Am Go.Proofs Go.Hu Go.Mo
def sgn (x:Int):Int:=if 0<x then 1 else if x<0 then -1 else 0
theorem Bd.bb {p:Pt} (h:Bd p):Bb 1000000000 p:=h
theorem orientEv {a b p:Pt} (ha:Bd a) (hb:Bd b) (hp:Bd p):Ev (fun n=>Z105 n a b p) (sgn (side a b p)):=by
 refine Ev.of_eq 1 ?_
 simp only[Z105Eq]
 refine Ev.bind (subEv hb.bb ha.bb (by omega)) ?_
 refine Ev.bind (subEv hp.bb ha.bb (by omega)) ?_
 have h1:=mul_bd (a:=b.1-a.1) (b:=p.2-a.2) (by unfold Bd at *;omega) (by unfold Bd at *;omega)
 have h2:=mul_bd (a:=b.2-a.2) (b:=p.1-a.1) (by unfold Bd at *;omega) (by unfold Bd at *;omega)
 have e1:IntKind.i64.wrap ((b.1-a.1)*(p.2-a.2))=(b.1-a.1)*(p.2-a.2):=w64 (by omega) (by omega)
 have e2:IntKind.i64.wrap ((b.2-a.2)*(p.1-a.1))=(b.2-a.2)*(p.1-a.1):=w64 (by omega) (by omega)
 have e3:IntKind.i64.wrap ((b.1-a.1)*(p.2-a.2)-(b.2-a.2)*(p.1-a.1))=side a b p:=by rw[w64 (by omega) (by omega)];rfl
 simp only[sub,e1,e2,e3]
 unfold sgn
 by_cases g1:0<side a b p
 ·simp only[br_pos g1,if_pos g1];exact Ev.pure _
 ·by_cases g2:side a b p<0
  ·simp only[br_neg g1,br_pos g2,if_neg g1,if_pos g2];exact Ev.pure _
  ·simp only[br_neg g1,br_neg g2,if_neg g1,if_neg g2];exact Ev.pure _
theorem sgn_neg (x:Int):(sgn x<0)↔x<0:=by
 unfold sgn
 split
 ·omega
 ·split <;> omega
theorem allL2 {a b:Pt} (ha:Bd a) (hb:Bd b) (p:List Pt) (hl:p.length<1000000000) (hp:∀ x∈p,Bd x):∀ (r:List Pt) (i:Nat),p.drop i=r→i≤p.length →
  Ev (fun n=>Z109L2 n ((((),((),())),(p,(((p.length:Nat):Int),(((i:Nat):Int),())))),(((a,b),()),()))) (if beyondB a b r=true then .inl ((),(((a,b),()),())) else .inr ((false,()),(((a,b),()),()))):=by
 intro r
 induction r with
 | nil =>
  intro i h hi
  have:=gdrop_nil h
  refine Ev.of_eq 2 ?_
  simp (disch:=omega) only [Z109L2Eq,br_neg]
  exact (Ev.pure _).congr (by simp[beyondB])
 | cons x r ih =>
  intro i h hi
  obtain⟨g1,g2,g3⟩:=gdrop h
  refine Ev.of_eq 2 ?_
  simp (disch:=omega) only [Z109L2Eq,br_pos,Int.toNat_natCast,g1,Option.bind_some,wr1]
  refine Ev.bind (orientEv ha hb (hp x (List.mem_of_getElem? g1))) ?_
  by_cases hs:side a b x<0
  ·simp only[nbr_pos ((sgn_neg _).2 hs)]
   have e1:beyondB a b (x :: r)=beyondB a b r:=by unfold beyondB;rw[List.all_cons,decide_eq_true hs,Bool.true_and]
   rw[e1]
   exact (ih (i+1) g2 (by omega)).shift 1
  ·simp only[nbr_neg (fun h=>hs ((sgn_neg _).1 h))]
   have e1:beyondB a b (x :: r)=false:=by unfold beyondB;rw[List.all_cons,decide_eq_false hs,Bool.false_and]
   rw[e1]
   exact (Ev.pure _).congr (by simp)
theorem edgeBeyondEv {a b:Pt} (ha:Bd a) (hb:Bd b) (p:List Pt) (hl:p.length<1000000000) (hp:∀ x∈p,Bd x):Ev (fun n=>Z68 n (a,b) p) (beyondB a b p):=by
 refine Ev.of_eq 2 ?_
 simp only[Z68Eq]
 refine Ev.bind (allL2 ha hb p hl hp p 0 rfl (Nat.zero_le _)) ?_
 cases h:beyondB a b p with
 | true=>simp only[if_true];exact Ev.pure _
 | false=>simp only[Bool.false_eq_true,if_false];exact Ev.pure _
theorem edgesL1 (c0 c1 c2:List Pt) (c3:List Pt×List Pt) (c4:Int) (c5:Bool) (c6:Int) (c7 c8 c9:List Pt) (c10:List Pt×List Pt) (c11:Int) (c12 c13:List Pt) (p other:List Pt) (hl:p.length<1000000000) (hp:∀ x∈p,Bd x) (ho:other.length<1000000000) (hot:∀ x∈other,Bd x) (of:Int) (s:(Int×Int)×Unit) (t:Bool×Unit):∀ (k i:Nat),i+k=p.length →
    Ev (fun n=>Z123L1 n c0 c1 c2 c3 c4 c5 c6 c7 c8 c9 c10 c11 c12 c13 ((((),()),((),(p,(((p.length:Nat):Int),(((i:Nat):Int),()))))),(s,(t,((of,()),((other,()),((p,()),())))))))
      (match sepFrom p other k i with
       | none=>.inl ((),(s,(t,((of,()),((other,()),((p,()),()))))))
       | some j=>.inr ((),(((of,((j:Nat):Int)),()),((true,()),((of,()),((other,()),((p,()),()))))))):=by
  intro k
  induction k with
  | zero =>
    intro i hi
    refine Ev.of_eq 2 ?_
    simp (disch:=omega) only [Z123L1Eq,br_neg,sepFrom]
    exact Ev.pure _
  | succ k ih =>
    intro i hi
    have hlt:i<p.length:=by omega
    have g1:=at_get (l:=p) (i:=i) hlt
    have hnx:nx p i<p.length:=nx_lt (by omega) i
    have g2:=at_get (l:=p) (i:=nx p i) hnx
    have e:=tm_nx p i (by omega)
    have hz:¬ ((p.length:Nat):Int)=0:=by omega
    refine Ev.of_eq 2 ?_
    simp (disch:=omega) only [Z123L1Eq,br_pos,br_neg,Int.toNat_natCast,g1,e,g2,Option.bind_some]
    refine Ev.bind (edgeBeyondEv (hp _ (List.mem_of_getElem? g1)) (hp _ (List.mem_of_getElem? g2)) other ho hot) ?_
    simp only[sepFrom]
    cases h:beyondB (at_ p i) (at_ p (nx p i)) other with
    | true=>simp only[br_t,if_true];exact Ev.pure _
    | false =>
      simp (disch:=omega) only [br_f,Bool.false_eq_true,if_false,wr1]
      exact (ih (i+1) (by omega)).shift 1
set_option maxRecDepth 20000 in
theorem sepEv {a b:List Pt} (hla:a.length<1000000000) (ha:∀ x∈a,Bd x) (hlb:b.length<1000000000) (hb:∀ x∈b,Bd x):Ev (fun n=>Z41 n a b) (sepEdge a b):=by
 refine Ev.of_eq 6 ?_
 simp only[Z41Eq,Z41L2Eq]
 simp (disch:=omega) only [br_pos,br_neg,w64]
 unfold sepEdge
 refine Ev.bind (x:=match sepFrom a b a.length 0 with
  | some i=>(.inr (((),((),())),((((0:Int),((i:Nat):Int)),()),((true,()),()))))
  | none=>match sepFrom b a b.length 0 with
   | some i=>.inr (((),((),())),((((1:Int),((i:Nat):Int)),()),((true,()),())))
   | none=>.inl (((),((),())),((((0:Int),(0:Int)),()),((false,()),())))) ?_ ?_
 ·refine Ev.bind ((edgesL1 _ _ _ _ _ _ _ _ _ _ _ _ _ _ a b hla ha hlb hb 0 _ _ a.length 0 (by omega)).shift _) ?_
  cases h1:sepFrom a b a.length 0 with
  | some i=>exact Ev.pure _
  | none =>
   simp only
   refine Ev.bind ((edgesL1 _ _ _ _ _ _ _ _ _ _ _ _ _ _ b a hlb hb hla ha 1 _ _ b.length 0 (by omega)).shift _) ?_
   cases h2:sepFrom b a b.length 0 with
   | some i=>exact Ev.pure _
   | none=>exact Ev.pure _
 ·cases h1:sepFrom a b a.length 0 with
  | some i=>exact Ev.pure _
  | none =>
   cases h2:sepFrom b a b.length 0 with
   | some i=>exact Ev.pure _
   | none=>exact Ev.pure _
end Go.Jm
namespace Go.Jm
open Go Go.Am Go.Proofs Go.Hu Go.Mo
def sepRun:List (List Pt×List Pt)→List (Int×Int)→List (Int×Int)×Bool
 | [],out=>(out,true)
 | x :: l,out=>if (sepEdge x.1 x.2).2=true then sepRun l (out ++ [(sepEdge x.1 x.2).1]) else (out,false)
theorem sepRun_append:∀ (x y:List (List Pt×List Pt)) (out:List (Int×Int)),sepRun (x ++ y) out=if (sepRun x out).2=true then sepRun y (sepRun x out).1 else sepRun x out
 | [],y,out=>rfl
 | a :: x,y,out=>by
  simp only[List.cons_append,sepRun]
  split
  ·exact sepRun_append x y _
  ·rfl
theorem sepRun_len:∀ (x:List (List Pt×List Pt)) (out:List (Int×Int)),(sepRun x out).1.length≤out.length+x.length
 | [],out=>Nat.le_refl _
 | a :: x,out=>by
  simp only[sepRun]
  split
  ·have:=sepRun_len x (out ++ [(sepEdge a.1 a.2).1])
   simp only[List.length_append,List.length_cons,List.length_nil] at this ⊢;omega
  ·simp
theorem sepRun_all:∀ (x:List (List Pt×List Pt)) (out:List (Int×Int)),(match sepAll x with | some r=>sepRun x out=(out ++ r,true) | none=>(sepRun x out).2=false)
 | [],out=>by simp[sepAll,sepRun]
 | a :: x,out=>by
  simp only[sepAll,sepRun]
  by_cases h:(sepEdge a.1 a.2).2=true
  ·rw[if_pos h,if_pos h]
   have:=sepRun_all x (out ++ [(sepEdge a.1 a.2).1])
   cases hs:sepAll x with
   | none=>rw[hs] at this;exact this
   | some r=>rw[hs] at this;simp only[Option.map_some];rw[this];simp
  ·rw[if_neg h,if_neg h]
def Part (x:List Pt):Prop:=x.length<1000000000∧∀ y∈x,Bd y
theorem placesL8 (c0:CellT) (c1:Mo.StateT) (c2:MoveT) (c3:Bool) (c4:Int) (c5:Int) (c6:Int) (c7:Int) (c8:Int) (c9:Int) (c10:Int) (c11:Int) (c12:List Int) (c13:Bool) (c14:CellT) (c15:Mo.StateT) (c16:MoveT) (c17:Int) (c18:Int) (c19:Int) (c20:Int) (c21:Int) (c22:Int) (c23:Int) (c24:Int) (c25:List Int) (c26:Bool) (c27:Mo.StateT) (c28:Bool) (c29:Bool) (c30:Bool) (c31:CellT) (c32:Mo.StateT) (c33:MoveT) (c34:List PairT) (c:CellT) (w nx:Mo.StateT) (m:MoveT) (P Q1:List PairT) (ip j q2 q3 alen ai:Int) (A:List (List Pt)) (a:List Pt) (ha:Part a) (Bs:List (List Pt)) (hl:Bs.length≤1000000) (hB:∀ b∈Bs,Part b):∀ (r:List (List Pt)) (k:Nat) (out:List (Int×Int)),Bs.drop k=r→k≤Bs.length→out.length+r.length≤2000000000000 →
  Ev (fun n=>Z79L8v1 n c0 c1 c2 c3 c4 c5 c6 c7 c8 c9 c10 c11 c12 c13 c14 c15 c16 c17 c18 c19 c20 c21 c22 c23 c24 c25 c26 c27 c28 c29 c30 c31 c32 c33 c34 ((((),()),(ip,(Bs,(j,(a,(Q1,(q2,(q3,(A,(alen,(ai,(Bs,(((Bs.length:Nat):Int),(((k:Nat):Int),())))))))))))))),((c,()),((w,()),((m,()),(([],()),((false,()),((nx,()),((out,()),((P,()),()))))))))))
   (if (sepRun (r.map fun b=>(a,b)) out).2=true then .inl ((((),()),(ip,(Bs,(Q1,(q2,(q3,(A,(alen,(ai,()))))))))),((c,()),((w,()),((m,()),(([],()),((false,()),((nx,()),(((sepRun (r.map fun b=>(a,b)) out).1,()),((P,()),()))))))))) else .inr ((),((c,()),((w,()),((m,()),(([],()),((false,()),((nx,()),(((sepRun (r.map fun b=>(a,b)) out).1,()),((P,()),())))))))))):=by
 intro r
 induction r with
 | nil =>
  intro k out h hi ho
  have:=gdrop_nil h
  refine Ev.of_eq 2 ?_
  simp (disch:=omega) only [Z79L8v1Eq,br_neg]
  exact Ev.pure _
 | cons b r ih =>
  intro k out h hi ho
  obtain⟨g1,g2,g3⟩:=gdrop h
  have hb:=hB b (List.mem_of_getElem? g1)
  simp only[List.length_cons] at ho
  refine Ev.of_eq 2 ?_
  simp (disch:=omega) only [Z79L8v1Eq,br_pos,Int.toNat_natCast,g1,Option.bind_some,wr1]
  refine Ev.bind (sepEv ha.1 ha.2 hb.1 hb.2) ?_
  simp only[List.map_cons,sepRun]
  cases hs:(sepEdge a b).2 with
  | false=>simp only[Bool.not_false,br_t,Bool.false_eq_true,if_false];exact Ev.pure _
  | true =>
   have hcap:(out.length + [(sepEdge a b).1].length)*16≤140737488355328:=by simp only[List.length_cons,List.length_nil];omega
   simp only[Bool.not_true,br_f,br_pos hcap,if_true]
   exact (ih (k+1) (out ++ [(sepEdge a b).1]) g2 (by omega) (by simp;omega)).shift 1
theorem placesL5 (c0:CellT) (c1:Mo.StateT) (c2:MoveT) (c3:Bool) (c4:Int) (c5:Int) (c6:Int) (c7:Int) (c8:Int) (c9:Int) (c10:Int) (c11:Int) (c12:List Int) (c13:Bool) (c14:CellT) (c15:Mo.StateT) (c16:MoveT) (c17:Int) (c18:Int) (c19:Int) (c20:Int) (c21:Int) (c22:Int) (c23:Int) (c24:Int) (c25:List Int) (c26:Bool) (c27:Mo.StateT) (c28:Bool) (c29:Bool) (c30:Bool) (c31:CellT) (c32:Mo.StateT) (c33:MoveT) (c34:List PairT) (c:CellT) (w nx:Mo.StateT) (m:MoveT) (P Q1:List PairT) (ip q2 q3:Int) (As:List (List Pt)) (hAl:As.length≤1000000) (hA:∀ a∈As,Part a) (Bs:List (List Pt)) (hl:Bs.length≤1000000) (hB:∀ b∈Bs,Part b):∀ (r:List (List Pt)) (k:Nat) (out:List (Int×Int)),As.drop k=r→k≤As.length→out.length+r.length*Bs.length≤2000000000000 →
  Ev (fun n=>Z79L5v1 n c0 c1 c2 c3 c4 c5 c6 c7 c8 c9 c10 c11 c12 c13 c14 c15 c16 c17 c18 c19 c20 c21 c22 c23 c24 c25 c26 c27 c28 c29 c30 c31 c32 c33 c34 ((((),()),(ip,(Bs,(Q1,(q2,(q3,(As,(((As.length:Nat):Int),(((k:Nat):Int),()))))))))),((c,()),((w,()),((m,()),(([],()),((false,()),((nx,()),((out,()),((P,()),()))))))))))
   (if (sepRun (r.flatMap fun a=>Bs.map fun b=>(a,b)) out).2=true then .inl ((((),()),(Q1,(q2,(q3,())))),((c,()),((w,()),((m,()),(([],()),((false,()),((nx,()),(((sepRun (r.flatMap fun a=>Bs.map fun b=>(a,b)) out).1,()),((P,()),()))))))))) else .inr ((),((c,()),((w,()),((m,()),(([],()),((false,()),((nx,()),(((sepRun (r.flatMap fun a=>Bs.map fun b=>(a,b)) out).1,()),((P,()),())))))))))):=by
 intro r
 induction r with
 | nil =>
  intro k out h hi ho
  have:=gdrop_nil h
  refine Ev.of_eq 1 ?_
  simp (disch:=omega) only [Z79L5v1Eq,br_neg]
  exact Ev.pure _
 | cons a r ih =>
  intro k out h hi ho
  obtain⟨g1,g2,g3⟩:=gdrop h
  have ha:=hA a (List.mem_of_getElem? g1)
  simp only[List.length_cons,Nat.add_mul,Nat.one_mul] at ho
  refine Ev.of_eq 1 ?_
  simp (disch:=omega) only [Z79L5v1Eq,br_pos,Int.toNat_natCast,g1,Option.bind_some]
  have h8:=placesL8 c0 c1 c2 c3 c4 c5 c6 c7 c8 c9 c10 c11 c12 c13 c14 c15 c16 c17 c18 c19 c20 c21 c22 c23 c24 c25 c26 c27 c28 c29 c30 c31 c32 c33 c34 c w nx m P Q1 ip ((k:Nat):Int) q2 q3 ((As.length:Nat):Int) ((k:Nat):Int) As a ha Bs hl hB Bs 0 out rfl (Nat.zero_le _) (by omega)
  refine Ev.bind h8 ?_
  rw[List.flatMap_cons,sepRun_append]
  have hln:=sepRun_len (Bs.map fun b=>(a,b)) out
  rw[List.length_map] at hln
  cases hs:(sepRun (Bs.map fun b=>(a,b)) out).2 with
  | false=>simp only[Bool.false_eq_true,if_false,hs];exact Ev.pure _
  | true =>
   simp (disch:=omega) only [if_true,wr1]
   exact ih (k+1) _ g2 (by omega) (by omega)
end Go.Jm
namespace Go.Jm
open Go Go.Am Go.Proofs Go.Hu Go.Mo
theorem decomp_len:∀ (k:Nat) (l:List Pt) (out:List (List Pt)),(cutE k l out).length≤out.length+k+1∧∀ x∈cutE k l out,x∈out∨x.length≤3∨x.length≤l.length:=by
 intro k
 induction k with
 | zero =>
  intro l out
  refine⟨by simp[cutE],fun x hx=>?_⟩
  rcases List.mem_append.1 hx with h | h
  ·exact .inl h
  ·rw[List.mem_singleton.1 h];exact .inr (.inr (Nat.le_refl _))
 | succ k ih =>
  intro l out
  unfold cutE
  split
  ·cases he:ear l with
   | none=>exact⟨by simp,fun x hx=>by simp at hx⟩
   | some i =>
    have hi:i<l.length:=by have:=(firstF_some he).2.1;omega
    have hrl:=rest_len hi
    obtain⟨h1,h2⟩:=ih (rest l i) (out ++ [tri l i])
    refine⟨by simp at h1 ⊢;omega,fun x hx=>?_⟩
    rcases h2 x hx with h | h | h
    ·rcases List.mem_append.1 h with h | h
     ·exact .inl h
     ·rw[List.mem_singleton.1 h];exact .inr (.inl (by simp[tri]))
    ·exact .inr (.inl h)
    ·exact .inr (.inr (by omega))
  ·refine⟨by rw[List.length_append,List.length_singleton];omega,fun x hx=>?_⟩
   rcases List.mem_append.1 hx with h | h
   ·exact .inl h
   ·rw[List.mem_singleton.1 h];exact .inr (.inr (Nat.le_refl _))
theorem decomp_small {p:List Pt} (hl:p.length<1000):(decomp p).length<10000∧∀ x∈decomp p,x.length<10000:=by
 unfold decomp
 split
 ·exact⟨by simp,fun x hx=>by rw[List.mem_singleton.1 hx];omega⟩
 ·obtain⟨h1,h2⟩:=decomp_len p.length p []
  refine⟨by simp at h1;omega,fun x hx=>?_⟩
  rcases h2 x hx with h | h | h
  ·simp at h
  ·omega
  ·omega
theorem cutE_mem:∀ (k:Nat) (l:List Pt) (out:List (List Pt)),∀ q∈cutE k l out,q∈out∨∀ x∈q,x∈l:=by
 intro k
 induction k with
 | zero =>
  intro l out q hq
  rcases List.mem_append.1 hq with h | h
  ·exact .inl h
  ·rw[List.mem_singleton.1 h];exact .inr fun x hx=>hx
 | succ k ih =>
  intro l out q hq
  unfold cutE at hq
  split at hq
  ·cases he:ear l with
   | none=>rw[he] at hq;simp at hq
   | some i =>
    rw[he] at hq
    have hi:i<l.length:=by have:=(firstF_some he).2.1;omega
    rcases ih (rest l i) (out ++ [tri l i]) q hq with h | h
    ·rcases List.mem_append.1 h with h | h
     ·exact .inl h
     ·rw[List.mem_singleton.1 h]
      refine .inr fun x hx=>?_
      simp only[tri,List.mem_cons,List.not_mem_nil,or_false] at hx
      rcases hx with rfl | rfl | rfl
      ·exact at_mem (pv_lt (by omega) i)
      ·exact at_mem hi
      ·exact at_mem (nx_lt (by omega) i)
    ·exact .inr fun x hx=>rest_mem x (h x hx)
  ·rcases List.mem_append.1 hq with h | h
   ·exact .inl h
   ·rw[List.mem_singleton.1 h];exact .inr fun x hx=>hx
theorem decomp_part {p:List Pt} (hl:p.length<1000) (hp:∀ x∈p,Bd x):(decomp p).length≤10000∧∀ q∈decomp p,Part q:=by
 obtain⟨h1,h2⟩:=decomp_small hl
 refine⟨by omega,fun q hq=>⟨by have:=h2 q hq;omega,?_⟩⟩
 unfold decomp at hq
 split at hq
 ·rw[List.mem_singleton.1 hq];exact hp
 ·rcases cutE_mem p.length p [] q hq with h | h
  ·cases h
  ·exact fun x hx=>hp x (h x hx)
theorem region_len (o:Pt) (a b:List Pt):(region o a b).1.length≤(points o a b).length:=by
 unfold region
 split
 ·simp
 ·split
  ·simp
  ·exact hullRes_len _
theorem region_mem (o:Pt) (a b:List Pt):∀ x∈(region o a b).1,x∈points o a b:=by
 unfold region
 split
 ·simp
 ·split
  ·simp
  ·exact hullRes_mem _
def Aok (b:BodyT):Prop:=b.2.2.2.length<1000∧∀ x∈b.2.2.2,Bd x
theorem BOk.aok {b:BodyT} (h:BOk b):Aok b:=⟨by have:=h.1;omega,fun x hx=>(h.2 x hx).bd⟩
theorem sweptB_ok {o:Pt} (ho:Mid o) {b:BodyT} (hb:BOk b):∀ (l:List BodyT),(∀ x∈l,BOk x)→Aok (sweptB o b l)
 | [],_=>hb.aok
 | x :: l,h=>by
  unfold sweptB
  split
  ·have hx:=h x (by simp)
   refine⟨?_,fun y hy=>points_bd ho hb.2 hx.2 y (region_mem _ _ _ y hy)⟩
   have h1:=region_len o b.2.2.2 x.2.2.2
   have h2:=hb.1
   have h3:=hx.1
   have h4:(points o b.2.2.2 x.2.2.2).length≤36:=by unfold points;simp;omega
   show (region o b.2.2.2 x.2.2.2).1.length<1000
   omega
  ·exact sweptB_ok ho hb l fun y hy=>h y (by simp[hy])
theorem sweptP_ok {o:Pt} (ho:Mid o) (m:MoveT) (thn:List BodyT) (ht:∀ x∈thn,BOk x):∀ (l:List PairT),(∀ p∈l,BOk p.1∧BOk p.2)→(sweptP o m thn l).length≤l.length∧∀ p∈sweptP o m thn l,Aok p.1∧Aok p.2
 | [],_=>⟨Nat.le_refl _,fun p hp=>by cases hp⟩
 | q :: l,h=>by
  obtain⟨i1,i2⟩:=sweptP_ok ho m thn ht l fun p hp=>h p (by simp[hp])
  obtain⟨q1,q2⟩:=h q (by simp)
  unfold sweptP
  constructor
  ·rw[List.length_append,List.length_cons]
   split
   ·simp;omega
   ·split <;> simp <;> omega
  ·intro p hp
   rcases List.mem_append.1 hp with hp | hp
   ·split at hp
    ·rw[List.mem_singleton.1 hp];exact⟨sweptB_ok ho q1 thn ht,q2.aok⟩
    ·split at hp
     ·rw[List.mem_singleton.1 hp];exact⟨q1.aok,sweptB_ok ho q2 thn ht⟩
     ·cases hp
   ·exact i2 p hp
theorem checks_len {p:PairT} (h1:Aok p.1) (h2:Aok p.2):(checks p).length≤100000000:=by
 obtain⟨a1,-⟩:=decomp_part h1.1 h1.2
 obtain⟨a2,-⟩:=decomp_part h2.1 h2.2
 unfold checks
 rw[List.length_flatMap]
 have:∀ (l:List (List Pt)) (k:Nat),(l.map fun _=>k).sum=l.length*k:=fun l k=>by
  induction l with
  | nil=>simp
  | cons x l ih=>simp only[List.map_cons,List.sum_cons,ih,List.length_cons,Nat.add_mul];omega
 simp only[List.length_map]
 rw[this]
 exact Nat.le_trans (Nat.mul_le_mul a1 a2) (by omega)
theorem placesL1 (c0:CellT) (c1:Mo.StateT) (c2:MoveT) (c3:Bool) (c4:Int) (c5:Int) (c6:Int) (c7:Int) (c8:Int) (c9:Int) (c10:Int) (c11:Int) (c12:List Int) (c13:Bool) (c14:CellT) (c15:Mo.StateT) (c16:MoveT) (c17:Int) (c18:Int) (c19:Int) (c20:Int) (c21:Int) (c22:Int) (c23:Int) (c24:Int) (c25:List Int) (c26:Bool) (c27:Mo.StateT) (c28:Bool) (c29:Bool) (c30:Bool) (c31:CellT) (c32:Mo.StateT) (c33:MoveT) (c34:List PairT) (c:CellT) (w nx:Mo.StateT) (m:MoveT) (P:List PairT) (hl:P.length≤5000) (hP:∀ p∈P,Aok p.1∧Aok p.2):∀ (r:List PairT) (k:Nat) (out:List (Int×Int)),P.drop k=r→k≤P.length→out.length≤100000000*k →
  Ev (fun n=>Z79L1v1 n c0 c1 c2 c3 c4 c5 c6 c7 c8 c9 c10 c11 c12 c13 c14 c15 c16 c17 c18 c19 c20 c21 c22 c23 c24 c25 c26 c27 c28 c29 c30 c31 c32 c33 c34 ((((),()),(P,(((P.length:Nat):Int),(((k:Nat):Int),())))),((c,()),((w,()),((m,()),(([],()),((false,()),((nx,()),((out,()),((P,()),()))))))))))
   (if (sepRun (r.flatMap checks) out).2=true then .inl ((),((c,()),((w,()),((m,()),(([],()),((false,()),((nx,()),(((sepRun (r.flatMap checks) out).1,()),((P,()),()))))))))) else .inr ((),((c,()),((w,()),((m,()),(([],()),((false,()),((nx,()),(((sepRun (r.flatMap checks) out).1,()),((P,()),())))))))))):=by
 intro r
 induction r with
 | nil =>
  intro k out h hi ho
  have:=gdrop_nil h
  refine Ev.of_eq 1 ?_
  simp (disch:=omega) only [Z79L1v1Eq,br_neg]
  exact Ev.pure _
 | cons p r ih =>
  intro k out h hi ho
  obtain⟨g1,g2,g3⟩:=gdrop h
  obtain⟨p1,p2⟩:=hP p (List.mem_of_getElem? g1)
  obtain⟨a1,b1⟩:=decomp_part p1.1 p1.2
  obtain⟨a2,b2⟩:=decomp_part p2.1 p2.2
  refine Ev.of_eq 1 ?_
  simp (disch:=omega) only [Z79L1v1Eq,br_pos,Int.toNat_natCast,g1,Option.bind_some]
  refine Ev.bind (decompEv p.2.2.2.2 p2.1 p2.2) ?_
  refine Ev.bind (decompEv p.1.2.2.2 p1.1 p1.2) ?_
  have hmul:(decomp p.1.2.2.2).length*(decomp p.2.2.2.2).length≤10000*10000:=Nat.mul_le_mul a1 a2
  have h5:=placesL5 c0 c1 c2 c3 c4 c5 c6 c7 c8 c9 c10 c11 c12 c13 c14 c15 c16 c17 c18 c19 c20 c21 c22 c23 c24 c25 c26 c27 c28 c29 c30 c31 c32 c33 c34 c w nx m P P ((k:Nat):Int) ((P.length:Nat):Int) ((k:Nat):Int) (decomp p.1.2.2.2) (by omega) b1 (decomp p.2.2.2.2) (by omega) b2 (decomp p.1.2.2.2) 0 out rfl (Nat.zero_le _) (by omega)
  refine Ev.bind h5 ?_
  have hln:=sepRun_len (checks p) out
  have hck:=checks_len p1 p2
  rw[List.flatMap_cons,sepRun_append]
  have e:(decomp p.1.2.2.2).flatMap (fun a=>(decomp p.2.2.2.2).map fun b=>(a,b))=checks p:=rfl
  rw[e]
  cases hs:(sepRun (checks p) out).2 with
  | false=>simp only[Bool.false_eq_true,if_false,hs];exact Ev.pure _
  | true =>
   simp (disch:=omega) only [if_true,wr1]
   exact ih (k+1) _ g2 (by omega) (by omega)
end Go.Jm
namespace Go.Jm
open Go Go.Am Go.Proofs Go.Hu Go.Mo
theorem sweptPairs_ok {c:CellT} {w:Mo.StateT} (hc:COk c) (hw:WOk c w) (m:MoveT):(sweptPairs c w m).length≤5000∧∀ p∈sweptPairs c w m,Aok p.1∧Aok p.2:=by
 unfold sweptPairs
 split
 ·rename_i h
  have hw':=hw.next h
  have hb:=bodies_ok hc hw
  have hl:=bodies_len hc hw
  have hp:=pairsOf_len (bodies c w)
  have hm:(bodies c w).length*(bodies c w).length≤40*40:=Nat.mul_le_mul hl hl
  obtain⟨h1,h2⟩:=sweptP_ok (jpt_mid hc hw m.1 m.2.1) m (bodies c (next c w m).1) (bodies_ok hc hw') (pairsOf (bodies c w)) fun p hp=>⟨hb _ (mem_pairs hp).1,hb _ (mem_pairs hp).2⟩
  exact⟨by omega,h2⟩
 ·exact⟨by simp,fun p hp=>by cases hp⟩
theorem certEv {c:CellT} {w:Mo.StateT} (hc:COk c) (hw:WOk c w) (m:MoveT):Ev (fun n=>Z13 n c w m) (cert c w m):=by
 refine Ev.of_eq 2 ?_
 simp only[Z13Eq]
 refine Ev.bind ((nextStEv c w m (hw.q0 hc) (hw.q1 hc)).shift 1) ?_
 unfold cert
 cases h:(next c w m).2 with
 | false=>simp only[Bool.not_false,br_t,Bool.false_eq_true,if_false];exact Ev.pure _
 | true =>
  simp only[Bool.not_true,br_f,if_true]
  refine Ev.bind ((sweptPairsEv hc hw m).shift 1) ?_
  obtain⟨h1,h2⟩:=sweptPairs_ok hc hw m
  refine Ev.bind (placesL1 _ _ _ _ _ _ _ _ _ _ _ _ _ _ _ _ _ _ _ _ _ _ _ _ _ _ _ _ _ _ _ _ _ _ _ c w (next c w m).1 m (sweptPairs c w m) h1 h2 (sweptPairs c w m) 0 [] rfl (Nat.zero_le _) (Nat.zero_le _)) ?_
  have hr:=sepRun_all ((sweptPairs c w m).flatMap checks) []
  cases hs:sepAll ((sweptPairs c w m).flatMap checks) with
  | none =>
   rw[hs] at hr
   simp only[hr,Bool.false_eq_true,if_false]
   exact Ev.pure _
  | some l =>
   rw[hs] at hr
   simp only[hr,if_true,List.nil_append]
   exact Ev.pure _
theorem freeEv {c:CellT} {w:Mo.StateT} (hc:COk c) (hw:WOk c w) (m:MoveT):Ev (fun n=>Z22 n c w m) (free c w m):=by
 refine Ev.of_eq 1 ?_
 simp only[Z22Eq]
 exact Ev.bind (certEv hc hw m) (Ev.pure _)
end Go.Jm
namespace Go.Mo
open Go.Hu
def sgnI (x:Int):Int:=if 0<x then 1 else if x<0 then -1 else 0
def withinB (a b p:Pt):Bool:=decide (min a.1 b.1≤p.1) && (decide (p.1≤max a.1 b.1) && (decide (min a.2 b.2≤p.2) && decide (p.2≤max a.2 b.2)))
def partsB (a b c d:Pt):Bool×Bool :=
 (decide (sgnI (side a b c)*sgnI (side a b d)<0),(decide (side a b c=0) && withinB a b c) || (decide (side a b d=0) && withinB a b d))
def crossB (a b c d:Pt):Bool:=((partsB a b c d).1 && (partsB c d a b).1) || ((partsB a b c d).2 || (partsB c d a b).2)
def onB (a b p:Pt):Bool:=withinB a b p && decide (side a b p=0)
def locF (p:List Pt) (x:Pt):Nat→Nat→Bool→Int
 | 0,_,t=>if t=true then 1 else -1
 | k+1,i,t=>if onB (at_ p i) (at_ p (nx p i)) x=true then 0
  else locF p x k (i+1) (if decide (x.2<(at_ p i).2)=decide (x.2<(at_ p (nx p i)).2) then t
   else if decide (0<side (at_ p i) (at_ p (nx p i)) x)=decide ((at_ p i).2<(at_ p (nx p i)).2) then !t else t)
def locate (p:List Pt) (x:Pt):Int:=locF p x p.length 0 false
def insP (p:List Pt) (x:Pt):Bool:=!decide (locate p x = -1)
def firstN (f:Nat→Bool):Nat→Nat→Option Nat
 | 0,_=>none
 | k+1,i=>if f i=true then some i else firstN f k (i+1)
def firstP2 (g:Nat→Option Nat):Nat→Nat→Option (Nat×Nat)
 | 0,_=>none
 | k+1,i=>match g i with
  | some j=>some (i,j)
  | none=>firstP2 g k (i+1)
def meet (a b:List Pt) (i j:Nat):Bool:=crossB (at_ a i) (at_ a (nx a i)) (at_ b j) (at_ b (nx b j))
abbrev TouchT:=Int×(Int×Int)
def contact (a b:List Pt):TouchT×Bool :=
 match firstP2 (fun i=>firstN (meet a b i) b.length 0) a.length 0 with
 | some (i,j)=>((1,((i:Int),(j:Int))),true)
 | none=>match firstN (fun i=>insP b (at_ a i)) a.length 0 with
  | some i=>((2,((i:Int),0)),true)
  | none=>match firstN (fun j=>insP a (at_ b j)) b.length 0 with
   | some j=>((3,(0,(j:Int))),true)
   | none=>((0,(0,0)),false)
def obsB (a:List Pt):List (List Pt)→Nat→Option (Nat×TouchT)
 | [],_=>none
 | b :: r,k=>if (sepEdge a b).2=true then obsB a r (k+1) else some (k,(contact a b).1)
def obsA (Bs:List (List Pt)):List (List Pt)→Nat→Option (Nat×(Nat×TouchT))
 | [],_=>none
 | a :: r,i=>match obsB a Bs 0 with
  | some x=>some (i,x)
  | none=>obsA Bs r (i+1)
def obsP:List PairT→Nat→Option (Nat×(Nat×(Nat×TouchT)))
 | [],_=>none
 | p :: r,n=>match obsA (decomp p.2.2.2.2) (decomp p.1.2.2.2) 0 with
  | some x=>some (n,x)
  | none=>obsP r (n+1)
abbrev ObsT:=Int×(MoveT×(Int×(Int×(Int×TouchT))))
def ob0:ObsT:=(0,((0,(0,0)),(0,(0,(0,(0,(0,0)))))))
def obst (c:CellT) (w:StateT) (m:MoveT):ObsT×Bool:=match obsP (sweptPairs c w m) 0 with
 | some x=>((0,(m,((x.1:Int),((x.2.1:Int),((x.2.2.1:Int),x.2.2.2))))),true)
 | none=>(ob0,false)
def mayB (x:Pt):Bool:=decide (max x.1 x.2≤439400000) && decide (-439400000≤min x.1 x.2)
def rubs (p:List Pt) (i k:Nat):Bool:=!(decide (k=i) || (decide (k=nx p i) || decide (i=nx p k))) && crossB (at_ p i) (at_ p (nx p i)) (at_ p k) (at_ p (nx p k))
def simpF (p:List Pt):Nat→Nat→Bool
 | 0,_=>true
 | k+1,i=>if side (at_ p i) (at_ p (nx p i)) (at_ p ((i+2) % p.length))=0 then false
  else match firstN (rubs p i) p.length 0 with
   | some _=>false
   | none=>simpF p k (i+1)
def arF (p:List Pt):Nat→Nat→Int→Int
 | 0,_,s=>s
 | k+1,i,s=>arF p k (i+1) (s+((at_ p i).1*(at_ p (nx p i)).2-(at_ p i).2*(at_ p (nx p i)).1))
def validB (p:List Pt):Bool:=decide (3≤p.length) && (decide (p.length≤12) && (p.all mayB && (simpF p p.length 0 && decide (0<arF p p.length 0 0))))
def meets (a b:List Pt):Bool:=(contact a b).2
def clear (c:CellT) (w:StateT):Bool:=(pairsOf (bodies c w)).all fun p=>!meets p.1.2.2.2 p.2.2.2.2
end Go.Mo
namespace Go.Jm
open Go Go.Am Go.Proofs Go.Hu Go.Mo
theorem sgn_zero (x:Int):(sgn x=0)↔x=0:=by unfold sgn;split <;> (try split) <;> omega
theorem sgn_pos (x:Int):(0<sgn x)↔0<x:=by unfold sgn;split <;> (try split) <;> omega
theorem sgn_bd (x:Int):-1≤sgn x∧sgn x≤1:=by unfold sgn;split <;> (try split) <;> omega
theorem andEv {f:Nat→Option Bool} {y:Bool} (b:Bool) (h:Ev f y):Ev (fun n=>br b (f n) (some false)) (b && y):=by
 cases b with
 | false=>exact Ev.pure _
 | true=>exact h
theorem orEv {f:Nat→Option Bool} {y:Bool} (b:Bool) (h:Ev f y):Ev (fun n=>br b (some true) (f n)) (b || y):=by
 cases b with
 | true=>exact Ev.pure _
 | false=>exact h
theorem boxEv (a b:Pt):Ev (fun n=>Z152 n [a,b]) ((min a.1 b.1,min a.2 b.2),(max a.1 b.1,max a.2 b.2)):=by
 refine Ev.of_eq 6 ?_
 simp (disch:=decide) only [Z152Eq,br_neg,Int.toNat_zero,List.getElem?_cons_zero,List.getElem?_cons_succ,Option.bind_some,Z176c1Eq,Z176L2Eq,Z176c2Eq,Z176L2v1Eq,Z177Eq,Z178Eq,List.length_cons,List.length_nil,w64]
 simp (disch:=decide) only [br_pos,br_neg,Option.bind_some]
 refine (Ev.pure _).congr ?_
 simp
 omega
theorem withinEv (a b p:Pt):Ev (fun n=>Z112 n a b p) (withinB a b p):=by
 refine Ev.of_eq 1 ?_
 simp only[Z112Eq]
 refine Ev.bind (boxEv a b) ?_
 unfold withinB
 exact andEv _ (andEv _ (andEv _ (Ev.pure _)))
theorem segPartsEv {a b c d:Pt} (ha:Bd a) (hb:Bd b) (hc:Bd c) (hd:Bd d):Ev (fun n=>Z111 n a b c d) (partsB a b c d):=by
 have e:∀ x y:Int,IntKind.i64.wrap (sgn x*sgn y)=sgn x*sgn y:=fun x y=>by
  have h:=mul_bd2 (sgn_bd x) (sgn_bd y)
  exact w64 (by omega) (by omega)
 have z:∀ x:Int,decide (sgn x=0)=decide (x=0):=fun x=>by rw[Bool.eq_iff_iff];simp[sgn_zero]
 refine Ev.of_eq 1 ?_
 simp only[Z111Eq]
 refine Ev.bind (orientEv ha hb hc) ?_
 refine Ev.bind (orientEv ha hb hd) ?_
 simp only[e,z]
 unfold partsB
 show Ev _ (decide (sgn (side a b c)*sgn (side a b d)<0),_)
 have two:Ev (fun n=>br (decide (side a b d=0)) ((Z112 n a b d).bind fun x343=>some (decide (sgn (side a b c)*sgn (side a b d)<(0:Int)),x343)) (some (decide (sgn (side a b c)*sgn (side a b d)<(0:Int)),false))) (decide (sgn (side a b c)*sgn (side a b d)<0),decide (side a b d=0) && withinB a b d):=by
  cases decide (side a b d=0) with
  | false=>exact Ev.pure _
  | true=>exact Ev.bind (withinEv a b d) (Ev.pure _)
 cases h:decide (side a b c=0) with
 | false=>exact two
 | true =>
  refine Ev.bind (withinEv a b c) ?_
  cases withinB a b c with
  | true=>exact Ev.pure _
  | false=>exact two
theorem crossEv {a b c d:Pt} (ha:Bd a) (hb:Bd b) (hc:Bd c) (hd:Bd d):Ev (fun n=>Z69 n a b c d) (crossB a b c d):=by
 refine Ev.of_eq 1 ?_
 simp only[Z69Eq]
 refine Ev.bind (segPartsEv ha hb hc hd) ?_
 refine Ev.bind (segPartsEv hc hd ha hb) ?_
 unfold crossB
 generalize partsB a b c d=x
 generalize partsB c d a b=y
 obtain⟨x1,x2⟩:=x
 obtain⟨y1,y2⟩:=y
 cases x1 <;> cases y1 <;> cases x2 <;> cases y2 <;> exact Ev.pure _
theorem onSegEv {a b p:Pt} (ha:Bd a) (hb:Bd b) (hp:Bd p):Ev (fun n=>Z106 n a b p) (onB a b p):=by
 have z:∀ x:Int,decide (sgn x=0)=decide (x=0):=fun x=>by rw[Bool.eq_iff_iff];simp[sgn_zero]
 refine Ev.of_eq 1 ?_
 simp only[Z106Eq]
 refine Ev.bind (withinEv a b p) ?_
 unfold onB
 cases withinB a b p with
 | false=>exact Ev.pure _
 | true=>exact Ev.bind (orientEv ha hb hp) (by rw[z];exact Ev.pure _)
theorem locL1 (c0 c2:List Pt) (c1:Pt) (p:List Pt) (hl:p.length<1000000000) (hp:∀ x∈p,Bd x) (x:Pt) (hx:Bd x) (o:Int):∀ (k i:Nat) (t:Bool),i+k=p.length →
    ∃ y,Ev (fun n=>Z150L1 n c0 c1 c2 ((((),()),((),(p,(((p.length:Nat):Int),(((i:Nat):Int),()))))),((x,()),((o,()),((t,()),((p,()),())))))) y ∧
      ((∃ t':Bool,y=.inl ((),((x,()),((o,()),((t',()),((p,()),())))))∧locF p x k i t=if t'=true then 1 else -1) ∨
       (∃ t':Bool,y=.inr ((),((x,()),((0,()),((t',()),((p,()),())))))∧locF p x k i t=0)):=by
  intro k
  induction k with
  | zero =>
    intro i t hi
    refine⟨_,Ev.of_eq 2 ?_,.inl ⟨t,rfl,rfl⟩⟩
    simp (disch:=omega) only [Z150L1Eq,br_neg]
    exact Ev.pure _
  | succ k ih =>
    intro i t hi
    have hlt:i<p.length:=by omega
    have g1:=at_get (l:=p) (i:=i) hlt
    have hnx:nx p i<p.length:=nx_lt (by omega) i
    have g2:=at_get (l:=p) (i:=nx p i) hnx
    have e:=tm_nx p i (by omega)
    have hz:¬ ((p.length:Nat):Int)=0:=by omega
    have b1:=hp _ (List.mem_of_getElem? g1)
    have b2:=hp _ (List.mem_of_getElem? g2)
    have on:=onSegEv b1 b2 hx
    unfold locF
    cases h0:onB (at_ p i) (at_ p (nx p i)) x with
    | true =>
      refine⟨_,Ev.of_eq 2 ?_,.inr ⟨t,rfl,by simp⟩⟩
      simp (disch:=omega) only [Z150L1Eq,br_pos,br_neg,Int.toNat_natCast,g1,e,g2,Option.bind_some]
      refine Ev.bind on ?_
      rw[h0]
      exact Ev.pure _
    | false =>
      rw[h0] at on
      simp only[Bool.false_eq_true,if_false]
      obtain⟨y,ey,hy⟩:=ih (i+1) (if decide (x.2<(at_ p i).2)=decide (x.2<(at_ p (nx p i)).2) then t
        else if decide (0<side (at_ p i) (at_ p (nx p i)) x)=decide ((at_ p i).2<(at_ p (nx p i)).2) then !t else t) (by omega)
      refine⟨y,Ev.of_eq 2 ?_,hy⟩
      simp (disch:=omega) only [Z150L1Eq,br_pos,br_neg,Int.toNat_natCast,g1,e,g2,Option.bind_some]
      refine Ev.bind on ?_
      simp only[br_f,wr1]
      by_cases h1:decide (x.2<(at_ p i).2)=decide (x.2<(at_ p (nx p i)).2)
      · rw[if_pos h1] at ey
        simp (disch:=omega) only [decide_eq_true h1,br_t,wr1]
        exact ey.shift 1
      · rw[if_neg h1] at ey
        simp only[decide_eq_false h1,br_f]
        refine Ev.bind ((orientEv b1 b2 hx).shift 0) ?_
        have z:∀ x:Int,decide (0<sgn x)=decide (0<x):=fun x=>by rw[Bool.eq_iff_iff];simp[sgn_pos]
        rw[z]
        by_cases h2:decide (0<side (at_ p i) (at_ p (nx p i)) x)=decide ((at_ p i).2<(at_ p (nx p i)).2)
        · rw[if_pos h2] at ey
          simp (disch:=omega) only [decide_eq_true h2,br_t,wr1]
          exact ey.shift 1
        · rw[if_neg h2] at ey
          simp (disch:=omega) only [decide_eq_false h2,br_f,wr1]
          exact ey.shift 1
theorem locateEv {p:List Pt} (hl:p.length<1000000000) (hp:∀ x∈p,Bd x) {x:Pt} (hx:Bd x):Ev (fun n=>Z63 n p x) (locate p x):=by
 obtain⟨y,ey,hy⟩:=locL1 p p x p hl hp x hx 0 p.length 0 false (by omega)
 refine Ev.of_eq 2 ?_
 simp only[Z63Eq]
 refine Ev.bind ey ?_
 unfold locate
 rcases hy with ⟨t,rfl,e⟩ | ⟨t,rfl,e⟩
 ·rw[e]
  cases t <;> exact Ev.pure _
 ·rw[e]
  exact Ev.pure _
theorem insideEv {p q:List Pt} (hl:q.length<1000000000) (hp:∀ x∈p,Bd x) (hq:∀ x∈q,Bd x) {i:Nat} (hi:i<p.length):Ev (fun n=>Z70 n p (i:Int) q) (insP q (at_ p i)):=by
 have g:=at_get (l:=p) (i:=i) hi
 refine Ev.of_eq 1 ?_
 simp (disch:=omega) only [Z70Eq,br_pos,Int.toNat_natCast,g,Option.bind_some]
 exact Ev.bind (locateEv hl hq (hp _ (List.mem_of_getElem? g))) (Ev.pure _)
section
variable {a b:List Pt} (hla:a.length<1000000000) (ha:∀ x∈a,Bd x) (hlb:b.length<1000000000) (hb:∀ x∈b,Bd x)
include hla ha hlb hb
theorem contactL1v3 (c0 c1 c2 c3 c4 c5:List Pt) (c6 c7 c8 c9 c10:Int) (c11:List Pt) (o:TouchT×Unit) (t:Bool×Unit) {i:Nat} (hi:i<a.length):∀ (k j:Nat),j+k=b.length →
    Ev (fun n=>Z123L1v2 n c0 c1 c2 c3 c4 c5 c6 c7 c8 c9 c10 c11 ((((),()),((),(b,(((b.length:Nat):Int),(((j:Nat):Int),()))))),((b,()),(o,(t,((a,()),((((i:Nat):Int),()),(((at_ a i,at_ a (nx a i)),()),((b,()),())))))))))
      (match firstN (meet a b i) k j with
       | none=>.inl ((),((b,()),(o,(t,((a,()),((((i:Nat):Int),()),(((at_ a i,at_ a (nx a i)),()),((b,()),()))))))))
       | some j=>.inr ((),((b,()),(((1,(((i:Nat):Int),((j:Nat):Int))),()),((true,()),((a,()),((((i:Nat):Int),()),(((at_ a i,at_ a (nx a i)),()),((b,()),()))))))))):=by
  have a1:=ha _ (List.mem_of_getElem? (at_get (l:=a) (i:=i) hi))
  have a2:=ha _ (List.mem_of_getElem? (at_get (l:=a) (i:=nx a i) (nx_lt (by omega) i)))
  intro k
  induction k with
  | zero =>
    intro j hj
    refine Ev.of_eq 2 ?_
    simp (disch:=omega) only [Z123L1v2Eq,br_neg,firstN]
    exact Ev.pure _
  | succ k ih =>
    intro j hj
    have hlt:j<b.length:=by omega
    have g1:=at_get (l:=b) (i:=j) hlt
    have hnx:nx b j<b.length:=nx_lt (by omega) j
    have g2:=at_get (l:=b) (i:=nx b j) hnx
    have e:=tm_nx b j (by omega)
    have hz:¬ ((b.length:Nat):Int)=0:=by omega
    refine Ev.of_eq 2 ?_
    simp (disch:=omega) only [Z123L1v2Eq,br_pos,br_neg,Int.toNat_natCast,g1,e,g2,Option.bind_some]
    refine Ev.bind (crossEv a1 a2 (hb _ (List.mem_of_getElem? g1)) (hb _ (List.mem_of_getElem? g2))) ?_
    have hm:meet a b i j=crossB (at_ a i) (at_ a (nx a i)) (at_ b j) (at_ b (nx b j)):=rfl
    simp only[firstN,hm]
    cases h:crossB (at_ a i) (at_ a (nx a i)) (at_ b j) (at_ b (nx b j)) with
    | true=>simp only[br_t,if_true];exact Ev.pure _
    | false =>
      simp (disch:=omega) only [br_f,Bool.false_eq_true,if_false,wr1]
      exact (ih (j+1) (by omega)).shift 1
theorem contactL1v2 (c0 c1 c2:List Pt):∀ (k i:Nat),i+k=a.length →
    Ev (fun n=>Z123L1v1 n c0 c1 c2 ((((),()),((),(a,(((a.length:Nat):Int),(((i:Nat):Int),()))))),((b,()),((((0:Int),((0:Int),(0:Int))),()),((false,()),((a,()),()))))))
      (match firstP2 (fun i=>firstN (meet a b i) b.length 0) k i with
       | none=>.inl ((),((b,()),((((0:Int),((0:Int),(0:Int))),()),((false,()),((a,()),())))))
       | some x=>.inr ((),((b,()),(((1,(((x.1:Nat):Int),((x.2:Nat):Int))),()),((true,()),((a,()),())))))):=by
  intro k
  induction k with
  | zero =>
    intro i hi
    refine Ev.of_eq 3 ?_
    simp (disch:=omega) only [Z123L1v1Eq,br_neg,firstP2]
    exact Ev.pure _
  | succ k ih =>
    intro i hi
    have hlt:i<a.length:=by omega
    have g1:=at_get (l:=a) (i:=i) hlt
    have hnx:nx a i<a.length:=nx_lt (by omega) i
    have g2:=at_get (l:=a) (i:=nx a i) hnx
    have e:=tm_nx a i (by omega)
    have hz:¬ ((a.length:Nat):Int)=0:=by omega
    refine Ev.of_eq 3 ?_
    simp (disch:=omega) only [Z123L1v1Eq,br_pos,br_neg,Int.toNat_natCast,g1,e,g2,Option.bind_some]
    refine Ev.bind (contactL1v3 hla ha hlb hb c0 c1 c2 c0 c1 c2 _ _ _ _ _ b _ _ hlt b.length 0 (by omega)) ?_
    simp only[firstP2]
    cases h:firstN (meet a b i) b.length 0 with
    | some j=>exact Ev.pure _
    | none =>
      simp (disch:=omega) only [wr1]
      exact (ih (i+1) (by omega)).shift 2
theorem contactL10:∀ (k i:Nat),i+k=a.length →
    Ev (fun n=>Z43L10 n ((a,((),((),((),(((a.length:Nat):Int),(((i:Nat):Int),())))))),((b,()),((((0:Int),((0:Int),(0:Int))),()),((false,()),())))))
      (match firstN (fun i=>insP b (at_ a i)) k i with
       | none=>.inl ((a,((),((),((),())))),((b,()),((((0:Int),((0:Int),(0:Int))),()),((false,()),()))))
       | some i=>.inr ((((),((),())),((),(((2,(((i:Nat):Int),(0:Int))),()),((true,()),())))))):=by
  intro k
  induction k with
  | zero =>
    intro i hi
    refine Ev.of_eq 1 ?_
    simp (disch:=omega) only [Z43L10Eq,br_neg,firstN]
    exact Ev.pure _
  | succ k ih =>
    intro i hi
    refine Ev.of_eq 1 ?_
    simp (disch:=omega) only [Z43L10Eq,br_pos]
    refine Ev.bind (insideEv hlb ha hb (show i<a.length by omega)) ?_
    simp only[firstN]
    by_cases h:insP b (at_ a i)=true
    · simp only[h,br_t,if_true];exact Ev.pure _
    · rw[Bool.not_eq_true] at h
      simp (disch:=omega) only [h,br_f,Bool.false_eq_true,if_false,wr1]
      exact ih (i+1) (by omega)
theorem contactL16:∀ (k i:Nat),i+k=b.length →
    Ev (fun n=>Z43L16 n ((a,((),((),((),(((b.length:Nat):Int),(((i:Nat):Int),())))))),((b,()),((((0:Int),((0:Int),(0:Int))),()),((false,()),())))))
      (match firstN (fun j=>insP a (at_ b j)) k i with
       | none=>.inl (((),((),())),((),((((0:Int),((0:Int),(0:Int))),()),((false,()),()))))
       | some i=>.inr ((((),((),())),((),(((3,((0:Int),((i:Nat):Int))),()),((true,()),())))))):=by
  intro k
  induction k with
  | zero =>
    intro i hi
    refine Ev.of_eq 1 ?_
    simp (disch:=omega) only [Z43L16Eq,br_neg,firstN]
    exact Ev.pure _
  | succ k ih =>
    intro i hi
    refine Ev.of_eq 1 ?_
    simp (disch:=omega) only [Z43L16Eq,br_pos]
    refine Ev.bind (insideEv hla hb ha (show i<b.length by omega)) ?_
    simp only[firstN]
    by_cases h:insP a (at_ b i)=true
    · simp only[h,br_t,if_true];exact Ev.pure _
    · rw[Bool.not_eq_true] at h
      simp (disch:=omega) only [h,br_f,Bool.false_eq_true,if_false,wr1]
      exact ih (i+1) (by omega)
theorem contactEv:Ev (fun n=>Z43 n a b) (contact a b):=by
 refine Ev.of_eq 2 ?_
 simp only[Z43Eq]
 refine Ev.bind (contactL1v2 hla ha hlb hb a b a a.length 0 (by omega)) ?_
 unfold contact
 cases h1:firstP2 (fun i=>firstN (meet a b i) b.length 0) a.length 0 with
 | some x=>exact Ev.pure _
 | none =>
  refine Ev.bind ((contactL10 hla ha hlb hb a.length 0 (by omega)).shift 1) ?_
  cases h2:firstN (fun i=>insP b (at_ a i)) a.length 0 with
  | some x=>exact Ev.pure _
  | none =>
   refine Ev.bind ((contactL16 hla ha hlb hb b.length 0 (by omega)).shift 1) ?_
   cases h3:firstN (fun j=>insP a (at_ b j)) b.length 0 with
   | some x=>exact Ev.pure _
   | none=>exact Ev.pure _
end
end Go.Jm
namespace Go.Jm
open Go Go.Am Go.Proofs Go.Hu Go.Mo
theorem obsL8 (c0 c3:CellT) (c1 c4:Mo.StateT) (c2 c5:MoveT) (c6:List PairT) (c:CellT) (w:Mo.StateT) (m:MoveT) (P Q1:List PairT) (ip j q2 q3 alen ai:Int) (A:List (List Pt)) (a:List Pt) (ha:Part a) (Bs:List (List Pt)) (hl:Bs.length≤1000000) (hB:∀ b∈Bs,Part b):∀ (r:List (List Pt)) (k:Nat),Bs.drop k=r→k≤Bs.length →
    Ev (fun n=>Z79L8 n c0 c1 c2 c3 c4 c5 c6 ((((),()),(ip,(Bs,(j,(a,(Q1,(q2,(q3,(A,(alen,(ai,(Bs,(((Bs.length:Nat):Int),(((k:Nat):Int),())))))))))))))),((c,()),((w,()),((m,()),((ob0,()),((false,()),((P,()),()))))))))
      (match obsB a r k with
       | none=>.inl ((((),()),(ip,(Bs,(Q1,(q2,(q3,(A,(alen,(ai,()))))))))),((c,()),((w,()),((m,()),((ob0,()),((false,()),((P,()),())))))))
       | some x=>.inr ((),((c,()),((w,()),((m,()),((((0:Int),(m,(ip,(j,(((x.1:Nat):Int),x.2))))),()),((true,()),((P,()),())))))))):=by
  intro r
  induction r with
  | nil =>
    intro k h hi
    have:=gdrop_nil h
    refine Ev.of_eq 2 ?_
    simp (disch:=omega) only [Z79L8Eq,br_neg]
    exact Ev.pure _
  | cons b r ih =>
    intro k h hi
    obtain⟨g1,g2,g3⟩:=gdrop h
    have hb:=hB b (List.mem_of_getElem? g1)
    refine Ev.of_eq 2 ?_
    simp (disch:=omega) only [Z79L8Eq,br_pos,Int.toNat_natCast,g1,Option.bind_some,wr1]
    refine Ev.bind (sepEv ha.1 ha.2 hb.1 hb.2) ?_
    simp only[obsB]
    by_cases hs:(sepEdge a b).2=true
    · simp only[hs,Bool.not_true,br_f,if_true]
      exact (ih (k+1) g2 (by omega)).shift 1
    · rw[Bool.not_eq_true] at hs
      simp only[hs,Bool.not_false,br_t,Bool.false_eq_true,if_false]
      exact Ev.bind (contactEv ha.1 ha.2 hb.1 hb.2) (Ev.pure _)
theorem obsL5 (c0 c3:CellT) (c1 c4:Mo.StateT) (c2 c5:MoveT) (c6:List PairT) (c:CellT) (w:Mo.StateT) (m:MoveT) (P Q1:List PairT) (ip q2 q3:Int) (As:List (List Pt)) (hAl:As.length≤1000000) (hA:∀ a∈As,Part a) (Bs:List (List Pt)) (hl:Bs.length≤1000000) (hB:∀ b∈Bs,Part b):∀ (r:List (List Pt)) (k:Nat),As.drop k=r→k≤As.length →
    Ev (fun n=>Z79L5 n c0 c1 c2 c3 c4 c5 c6 ((((),()),(ip,(Bs,(Q1,(q2,(q3,(As,(((As.length:Nat):Int),(((k:Nat):Int),()))))))))),((c,()),((w,()),((m,()),((ob0,()),((false,()),((P,()),()))))))))
      (match obsA Bs r k with
       | none=>.inl ((((),()),(Q1,(q2,(q3,())))),((c,()),((w,()),((m,()),((ob0,()),((false,()),((P,()),())))))))
       | some x=>.inr ((),((c,()),((w,()),((m,()),((((0:Int),(m,(ip,(((x.1:Nat):Int),(((x.2.1:Nat):Int),x.2.2))))),()),((true,()),((P,()),())))))))):=by
  intro r
  induction r with
  | nil =>
    intro k h hi
    have:=gdrop_nil h
    refine Ev.of_eq 1 ?_
    simp (disch:=omega) only [Z79L5Eq,br_neg]
    exact Ev.pure _
  | cons a r ih =>
    intro k h hi
    obtain⟨g1,g2,g3⟩:=gdrop h
    have ha:=hA a (List.mem_of_getElem? g1)
    refine Ev.of_eq 1 ?_
    simp (disch:=omega) only [Z79L5Eq,br_pos,Int.toNat_natCast,g1,Option.bind_some]
    refine Ev.bind (obsL8 c0 c3 c1 c4 c2 c5 c6 c w m P Q1 ip ((k:Nat):Int) q2 q3 ((As.length:Nat):Int) ((k:Nat):Int) As a ha Bs hl hB Bs 0 rfl (Nat.zero_le _)) ?_
    simp only[obsA]
    cases hs:obsB a Bs 0 with
    | some x=>exact Ev.pure _
    | none =>
      simp (disch:=omega) only [wr1]
      exact ih (k+1) g2 (by omega)
theorem obsL1 (c0 c3:CellT) (c1 c4:Mo.StateT) (c2 c5:MoveT) (c6:List PairT) (c:CellT) (w:Mo.StateT) (m:MoveT) (P:List PairT) (hl:P.length≤5000) (hP:∀ p∈P,Aok p.1∧Aok p.2):∀ (r:List PairT) (k:Nat),P.drop k=r→k≤P.length →
    Ev (fun n=>Z79L1 n c0 c1 c2 c3 c4 c5 c6 ((((),()),(P,(((P.length:Nat):Int),(((k:Nat):Int),())))),((c,()),((w,()),((m,()),((ob0,()),((false,()),((P,()),()))))))))
      (match obsP r k with
       | none=>.inl ((),((c,()),((w,()),((m,()),((ob0,()),((false,()),((P,()),())))))))
       | some x=>.inr ((),((c,()),((w,()),((m,()),((((0:Int),(m,(((x.1:Nat):Int),(((x.2.1:Nat):Int),(((x.2.2.1:Nat):Int),x.2.2.2))))),()),((true,()),((P,()),())))))))):=by
  intro r
  induction r with
  | nil =>
    intro k h hi
    have:=gdrop_nil h
    refine Ev.of_eq 1 ?_
    simp (disch:=omega) only [Z79L1Eq,br_neg]
    exact Ev.pure _
  | cons p r ih =>
    intro k h hi
    obtain⟨g1,g2,g3⟩:=gdrop h
    obtain⟨p1,p2⟩:=hP p (List.mem_of_getElem? g1)
    obtain⟨a1,b1⟩:=decomp_part p1.1 p1.2
    obtain⟨a2,b2⟩:=decomp_part p2.1 p2.2
    refine Ev.of_eq 1 ?_
    simp (disch:=omega) only [Z79L1Eq,br_pos,Int.toNat_natCast,g1,Option.bind_some]
    refine Ev.bind (decompEv p.2.2.2.2 p2.1 p2.2) ?_
    refine Ev.bind (decompEv p.1.2.2.2 p1.1 p1.2) ?_
    refine Ev.bind (obsL5 c0 c3 c1 c4 c2 c5 c6 c w m P P ((k:Nat):Int) ((P.length:Nat):Int) ((k:Nat):Int) (decomp p.1.2.2.2) (by omega) b1 (decomp p.2.2.2.2) (by omega) b2 (decomp p.1.2.2.2) 0 rfl (Nat.zero_le _)) ?_
    simp only[obsP]
    cases hs:obsA (decomp p.2.2.2.2) (decomp p.1.2.2.2) 0 with
    | some x=>exact Ev.pure _
    | none =>
      simp (disch:=omega) only [wr1]
      exact ih (k+1) g2 (by omega)
theorem obstEv {c:CellT} {w:Mo.StateT} (hc:COk c) (hw:WOk c w) (m:MoveT):Ev (fun n=>Z15 n c w m) (obst c w m):=by
 obtain⟨h1,h2⟩:=sweptPairs_ok hc hw m
 refine Ev.of_eq 2 ?_
 simp only[Z15Eq]
 refine Ev.bind ((sweptPairsEv hc hw m).shift 1) ?_
 refine Ev.bind (obsL1 c c w w m m _ c w m (sweptPairs c w m) h1 h2 (sweptPairs c w m) 0 rfl (Nat.zero_le _)) ?_
 unfold obst
 cases obsP (sweptPairs c w m) 0 with
 | some x=>exact Ev.pure _
 | none=>exact Ev.pure _
end Go.Jm
namespace Go.Jm
open Go Go.Am Go.Proofs Go.Hu Go.Mo
theorem meetsEv {a b:List Pt} (hla:a.length<1000000000) (ha:∀ x∈a,Bd x) (hlb:b.length<1000000000) (hb:∀ x∈b,Bd x):Ev (fun n=>Z34 n a b) (meets a b):=by
 refine Ev.of_eq 1 ?_
 simp only[Z34Eq]
 exact Ev.bind (contactEv hla ha hlb hb) (Ev.pure _)
def clearRow (a:BodyT) (r:List BodyT):Bool:=(r.filter (bar a)).all fun b=>!meets a.2.2.2 b.2.2.2
theorem clearL6 (c0 c2:CellT) (c1 c3:Mo.StateT) (L L2 lt:List BodyT) (len i0:Int) (hlt:lt.length≤1000) (hok:∀ b∈lt,Aok b) (x1 x4:CellT×Unit) (x2 x5:Mo.StateT×Unit) (a:BodyT) (ha:Aok a):∀ (r:List BodyT) (j:Nat),lt.drop j=r→j≤lt.length →
  Ev (fun n=>Z98L6v1 n c0 c1 c2 c3 ((((),()),((),(L,((),(L2,(len,(i0,(lt,(((lt.length:Nat):Int),(((j:Nat):Int),())))))))))),(x1,(x2,((false,()),(x4,(x5,((),((a,()),())))))))))
   (if clearRow a r=true then .inl ((((),()),((),(L,(L2,(len,(i0,())))))),(x1,(x2,((false,()),(x4,(x5,((),()))))))) else .inr ((),(x1,(x2,((false,()),(x4,(x5,()))))))):=by
 intro r
 induction r with
 | nil =>
  intro j h hi
  have:=gdrop_nil h
  refine Ev.of_eq 2 ?_
  simp (disch:=omega) only [Z98L6v1Eq,br_neg]
  exact Ev.pure _
 | cons b r ih =>
  intro j h hi
  obtain⟨g1,g2,g3⟩:=gdrop h
  have hb:=hok b (List.mem_of_getElem? g1)
  refine Ev.of_eq 2 ?_
  simp (disch:=omega) only [Z98L6v1Eq,br_pos,Int.toNat_natCast,g1,Option.bind_some,wr1]
  simp only[beq2]
  have i1:=(ih (j+1) g2 (by omega)).shift 1
  have e1:bar a b=true→clearRow a (b :: r)=(!meets a.2.2.2 b.2.2.2 && clearRow a r):=fun hv=>by
   unfold clearRow
   rw[List.filter_cons,if_pos hv];rfl
  have e2:bar a b=false→clearRow a (b :: r)=clearRow a r:=fun hv=>by
   unfold clearRow
   rw[List.filter_cons,if_neg (by simp[hv])]
  have hmt:=meetsEv (a:=a.2.2.2) (b:=b.2.2.2) (by have:=ha.1;omega) ha.2 (by have:=hb.1;omega) hb.2
  generalize meets a.2.2.2 b.2.2.2=mm at *
  refine pick_ev a b (fun hv=>Ev.bind hmt ?_) (fun hv=>i1.congr (by rw[e2 hv]))
  cases mm with
  | true=>exact (Ev.pure _).congr (by rw[e1 hv];rfl)
  | false=>exact i1.congr (by rw[e1 hv];rfl)
theorem clearL3 (c0 c2:CellT) (c1 c3:Mo.StateT) (L:List BodyT) (hL:L.length≤1000) (hok:∀ b∈L,Aok b) (x1 x4:CellT×Unit) (x2 x5:Mo.StateT×Unit):∀ (r:List BodyT) (i:Nat),L.drop i=r→i≤L.length →
  Ev (fun n=>Z98L3v1 n c0 c1 c2 c3 ((((),()),((),(L,(L,(((L.length:Nat):Int),(((i:Nat):Int),())))))),(x1,(x2,((false,()),(x4,(x5,((),()))))))))
   (if ((pairsOf r).all fun p=>!meets p.1.2.2.2 p.2.2.2.2)=true then .inl ((),(x1,(x2,((false,()),(x4,(x5,())))))) else .inr ((),(x1,(x2,((false,()),(x4,(x5,()))))))):=by
 intro r
 induction r with
 | nil =>
  intro i h hi
  have:=gdrop_nil h
  refine Ev.of_eq 1 ?_
  simp (disch:=omega) only [Z98L3v1Eq,br_neg]
  exact Ev.pure _
 | cons a r ih =>
  intro i h hi
  obtain⟨g1,g2,g3⟩:=gdrop h
  refine Ev.of_eq 1 ?_
  have hcond:0≤(((i+1:Nat):Nat):Int)∧(((i+1:Nat):Nat):Int)≤((L.length:Nat):Int)∧((L.length:Nat):Int)≤((L.length:Nat):Int):=by omega
  have hr:r.length≤1000:=by rw[← g2,List.length_drop];omega
  have hrok:∀ b∈r,Aok b:=fun b hb=>hok b (List.mem_of_mem_drop (i:=i+1) (by rw[g2];exact hb))
  simp (disch:=omega) only [Z98L3v1Eq,br_pos,Int.toNat_natCast,g1,Option.bind_some,wr1]
  simp only[br_pos hcond,List.take_length,g2]
  refine Ev.bind (clearL6 c0 c2 c1 c3 L L r _ _ hr hrok x1 x4 x2 x5 a (hok a (List.mem_of_getElem? g1)) r 0 rfl (Nat.zero_le _)) ?_
  have e:((pairsOf (a :: r)).all fun p=>!meets p.1.2.2.2 p.2.2.2.2)=(clearRow a r && (pairsOf r).all fun p=>!meets p.1.2.2.2 p.2.2.2.2):=by
   simp only[pairsOf,List.all_append,List.all_map]
   rfl
  rw[e]
  by_cases hc:clearRow a r=true
  ·simp (disch:=omega) only [hc,if_true,wr1,Bool.true_and]
   exact ih (i+1) g2 (by omega)
  ·rw[Bool.not_eq_true] at hc
   simp only[hc,Bool.false_eq_true,if_false,Bool.false_and]
   exact Ev.pure _
theorem clearEv {c:CellT} {w:Mo.StateT} (hc:COk c) (hw:WOk c w):Ev (fun n=>Z24 n c w) (clear c w):=by
 have hl:=bodies_len hc hw
 have hb:=bodies_ok hc hw
 refine Ev.of_eq 3 ?_
 simp only[Z24Eq]
 refine Ev.bind ((bodiesEv hc hw).shift 1) ?_
 refine Ev.bind ((clearL3 c c w w (bodies c w) (by omega) (fun b h=>(hb b h).aok) _ _ _ _ (bodies c w) 0 rfl (Nat.zero_le _)).shift 1) ?_
 have e:clear c w=((pairsOf (bodies c w)).all fun p=>!meets p.1.2.2.2 p.2.2.2.2):=rfl
 by_cases h:clear c w=true
 ·rw[h] at e ⊢
  rw[← e,if_pos rfl]
  exact Ev.pure _
 ·rw[Bool.not_eq_true] at h
  rw[h] at e ⊢
  rw[← e,if_neg (by simp)]
  exact Ev.pure _
end Go.Jm
namespace Go.Jm
open Go Go.Am Go.Proofs Go.Hu Go.Mo
theorem pmayEv (x:Pt):Ev (fun n=>Z60 n x) (mayB x):=by
 refine Ev.of_eq 1 ?_
 simp only[Z60Eq]
 have e1:(if decide (x.1<x.2)=true then x.2 else x.1)=max x.1 x.2:=by
  by_cases h:x.1<x.2
  ·rw[decide_eq_true h,if_pos rfl];omega
  ·rw[decide_eq_false h,if_neg (by simp)];omega
 have e2:(if decide (x.2<x.1)=true then x.2 else x.1)=min x.1 x.2:=by
  by_cases h:x.2<x.1
  ·rw[decide_eq_true h,if_pos rfl];omega
  ·rw[decide_eq_false h,if_neg (by simp)];omega
 rw[e1,e2]
 unfold mayB
 exact andEv _ (Ev.pure _)
theorem vIndexL2 (p:List Pt) (hl:p.length<1000000000):∀ (r:List Pt) (i:Nat),p.drop i=r→i≤p.length →
  ∃ y,Ev (fun n=>Z103L2 n ((p,(((),()),(((p.length:Nat):Int),(((i:Nat):Int),())))),())) y∧(if r.all mayB=true then y=.inl ((),()) else ∃ k:Nat,y=.inr ((((k:Nat):Int),()),())):=by
 intro r
 induction r with
 | nil =>
  intro i h hi
  have:=gdrop_nil h
  refine⟨_,Ev.of_eq 1 ?_,by rw[if_pos (by simp)]⟩
  simp (disch:=omega) only [Z103L2Eq,br_neg]
  exact Ev.pure _
 | cons x r ih =>
  intro i h hi
  obtain⟨g1,g2,g3⟩:=gdrop h
  obtain⟨y,ey,hy⟩:=ih (i+1) g2 (by omega)
  have hm:Ev (fun n=>Z59 n x) (!mayB x):=by
   refine Ev.of_eq 1 ?_
   simp only[Z59Eq]
   exact Ev.bind (pmayEv x) (Ev.pure _)
  rw[List.all_cons]
  cases hx:mayB x with
  | true =>
   refine⟨y,Ev.of_eq 1 ?_,hy⟩
   simp (disch:=omega) only [Z103L2Eq,br_pos,Int.toNat_natCast,g1,Option.bind_some,wr1]
   refine Ev.bind hm ?_
   rw[hx]
   exact ey
  | false =>
   refine⟨_,Ev.of_eq 1 ?_,⟨i,rfl⟩⟩
   simp (disch:=omega) only [Z103L2Eq,br_pos,Int.toNat_natCast,g1,Option.bind_some,wr1]
   refine Ev.bind hm ?_
   rw[hx]
   exact Ev.pure _
theorem vContainsEv (p:List Pt) (hl:p.length<1000000000):Ev (fun n=>Z58 n p) (!p.all mayB):=by
 obtain⟨y,ey,hy⟩:=vIndexL2 p hl p 0 rfl (Nat.zero_le _)
 refine Ev.of_eq 2 ?_
 simp only[Z58Eq,Z103Eq]
 by_cases h:p.all mayB=true
 ·rw[if_pos h] at hy
  subst hy
  rw[h]
  exact Ev.bind (Ev.bind ey (Ev.pure _)) (Ev.pure _)
 ·rw[if_neg h] at hy
  obtain⟨k,rfl⟩:=hy
  rw[Bool.not_eq_true] at h
  rw[h]
  exact Ev.bind (Ev.bind ey (Ev.pure _)) ((Ev.pure _).congr (by rw[decide_eq_true (show (0:Int)≤(k:Int) by omega)];rfl))
section
variable {p:List Pt} (hl:p.length<1000000000) (hp:∀ x∈p,Bd x)
include hl hp
theorem simpleL1v3 (c0 c1:List Pt) (c2:Int) (c3 c4 c5:List Pt) (c6:Int) (c7:List Pt) (c8 c9 c10 c11 c12:Int) (c13 c14:Pt) (c15:List Pt) (c16 c17 c18 c19 c20 c21:Int) (c22:Pt) (c23:Int) (c24:Bool) (c25:List Pt) {i:Nat} (hi:i<p.length):∀ (k j:Nat),j+k=p.length →
    Ev (fun n=>Z150L1v2 n c0 c1 c2 c3 c4 c5 c6 c7 c8 c9 c10 c11 c12 c13 c14 c15 c16 c17 c18 c19 c20 c21 c22 c23 c24 c25 ((((),()),((),(p,(((p.length:Nat):Int),(((j:Nat):Int),()))))),((p,()),((false,()),((((p.length:Nat):Int),()),((p,()),((((i:Nat):Int),()),(((at_ p i,at_ p (nx p i)),()),((p,()),())))))))))
      (match firstN (rubs p i) k j with
       | none=>.inl ((),((p,()),((false,()),((((p.length:Nat):Int),()),((p,()),((((i:Nat):Int),()),(((at_ p i,at_ p (nx p i)),()),((p,()),()))))))))
       | some _=>.inr ((),((p,()),((false,()),((((p.length:Nat):Int),()),((p,()),((((i:Nat):Int),()),(((at_ p i,at_ p (nx p i)),()),((p,()),()))))))))):=by
  have a1:=hp _ (List.mem_of_getElem? (at_get (l:=p) (i:=i) hi))
  have a2:=hp _ (List.mem_of_getElem? (at_get (l:=p) (i:=nx p i) (nx_lt (by omega) i)))
  have ei:=tm_nx p i (by omega)
  intro k
  induction k with
  | zero =>
    intro j hj
    refine Ev.of_eq 2 ?_
    simp (disch:=omega) only [Z150L1v2Eq,br_neg,firstN]
    exact Ev.pure _
  | succ k ih =>
    intro j hj
    have hlt:j<p.length:=by omega
    have g1:=at_get (l:=p) (i:=j) hlt
    have hnx:nx p j<p.length:=nx_lt (by omega) j
    have g2:=at_get (l:=p) (i:=nx p j) hnx
    have e:=tm_nx p j (by omega)
    have hz:¬ ((p.length:Nat):Int)=0:=by omega
    have next:∀ {y},Ev (fun n=>Z150L1v2 n c0 c1 c2 c3 c4 c5 c6 c7 c8 c9 c10 c11 c12 c13 c14 c15 c16 c17 c18 c19 c20 c21 c22 c23 c24 c25 ((((),()),((),(p,(((p.length:Nat):Int),(((j+1:Nat):Int),()))))),((p,()),((false,()),((((p.length:Nat):Int),()),((p,()),((((i:Nat):Int),()),(((at_ p i,at_ p (nx p i)),()),((p,()),()))))))))) y→Ev (fun n=>Z150L1v2 (n+1) c0 c1 c2 c3 c4 c5 c6 c7 c8 c9 c10 c11 c12 c13 c14 c15 c16 c17 c18 c19 c20 c21 c22 c23 c24 c25 ((((),()),((),(p,(((p.length:Nat):Int),(((j+1:Nat):Int),()))))),((p,()),((false,()),((((p.length:Nat):Int),()),((p,()),((((i:Nat):Int),()),(((at_ p i,at_ p (nx p i)),()),((p,()),()))))))))) y:=fun h=>h.shift 1
    have ih1:=next (ih (j+1) (by omega))
    have hcr:=crossEv a1 a2 (hp _ (List.mem_of_getElem? g1)) (hp _ (List.mem_of_getElem? g2))
    refine Ev.of_eq 2 ?_
    simp (disch:=omega) only [Z150L1v2Eq,br_pos,br_neg,Int.toNat_natCast,g1,e,ei,g2,Option.bind_some]
    simp (disch:=omega) only [wr1]
    simp only[firstN]
    have hr:rubs p i j=(!(decide (j=i) || (decide (j=nx p i) || decide (i=nx p j))) && crossB (at_ p i) (at_ p (nx p i)) (at_ p j) (at_ p (nx p j))):=rfl
    by_cases h1:j=i
    · have:rubs p i j=false:=by rw[hr,decide_eq_true h1];simp
      simp only[this,Bool.false_eq_true,if_false]
      simp (disch:=omega) only [br_pos]
      exact ih1
    · by_cases h2:j=nx p i
      · have:rubs p i j=false:=by rw[hr,decide_eq_true h2];simp
        simp only[this,Bool.false_eq_true,if_false]
        simp (disch:=omega) only [br_pos,br_neg]
        exact ih1
      · by_cases h3:i=nx p j
        · have:rubs p i j=false:=by rw[hr,decide_eq_true h3];simp
          simp only[this,Bool.false_eq_true,if_false]
          simp (disch:=omega) only [br_pos,br_neg]
          exact ih1
        · have:rubs p i j=crossB (at_ p i) (at_ p (nx p i)) (at_ p j) (at_ p (nx p j)):=by rw[hr,decide_eq_false h1,decide_eq_false h2,decide_eq_false h3];simp
          simp only[this]
          simp (disch:=omega) only [br_neg]
          refine Ev.bind hcr ?_
          cases crossB (at_ p i) (at_ p (nx p i)) (at_ p j) (at_ p (nx p j)) with
          | true=>exact Ev.pure _
          | false=>exact ih1
theorem simpleL1v2 (c0 c1:List Pt) (c2:Int) (c3:List Pt):∀ (k i:Nat),i+k=p.length →
  Ev (fun n=>Z150L1v1 n c0 c1 c2 c3 ((((),()),((),(p,(((p.length:Nat):Int),(((i:Nat):Int),()))))),((p,()),((false,()),((((p.length:Nat):Int),()),((p,()),()))))))
   (if simpF p k i=true then .inl ((),((p,()),((false,()),((((p.length:Nat):Int),()),((p,()),()))))) else .inr ((),((p,()),((false,()),((((p.length:Nat):Int),()),((p,()),())))))):=by
 intro k
 induction k with
 | zero =>
  intro i hi
  refine Ev.of_eq 3 ?_
  simp (disch:=omega) only [Z150L1v1Eq,br_neg]
  exact Ev.pure _
 | succ k ih =>
  intro i hi
  have hlt:i<p.length:=by omega
  have g1:=at_get (l:=p) (i:=i) hlt
  have hnx:nx p i<p.length:=nx_lt (by omega) i
  have g2:=at_get (l:=p) (i:=nx p i) hnx
  have e:=tm_nx p i (by omega)
  have hz:¬ ((p.length:Nat):Int)=0:=by omega
  have hm:(i+2) % p.length<p.length:=Nat.mod_lt _ (by omega)
  have g3:=at_get (l:=p) (i:=(i+2) % p.length) hm
  have e2:(IntKind.i64.wrap (((i:Nat):Int)+2)).tmod ((p.length:Nat):Int)=(((i+2) % p.length:Nat):Int):=by
   rw[w64 (by omega) (by omega)]
   rfl
  have ori:=orientEv (hp _ (List.mem_of_getElem? g1)) (hp _ (List.mem_of_getElem? g2)) (hp _ (List.mem_of_getElem? g3))
  refine Ev.of_eq 3 ?_
  simp (disch:=omega) only [Z150L1v1Eq,br_pos,br_neg,Int.toNat_natCast,g1,e,e2,g2,g3,Option.bind_some]
  refine Ev.bind (ori.shift 1) ?_
  by_cases h0:side (at_ p i) (at_ p (nx p i)) (at_ p ((i+2) % p.length))=0
  ·have:simpF p (k+1) i=false:=by unfold simpF;rw[if_pos h0]
   rw[this,decide_eq_true ((sgn_zero _).2 h0)]
   exact Ev.pure _
  ·rw[decide_eq_false (fun h=>h0 ((sgn_zero _).1 h))]
   refine Ev.bind (simpleL1v3 hl hp _ _ _ _ _ _ _ _ _ _ _ _ _ _ _ _ _ _ _ _ _ _ _ _ _ _ hlt p.length 0 (by omega)) ?_
   cases hf:firstN (rubs p i) p.length 0 with
   | some j =>
    have:simpF p (k+1) i=false:=by unfold simpF;rw[if_neg h0,hf]
    rw[this]
    exact Ev.pure _
   | none =>
    have:simpF p (k+1) i=simpF p k (i+1):=by
     conv=>lhs;unfold simpF
     rw[if_neg h0,hf]
    rw[this]
    simp (disch:=omega) only [wr1]
    exact (ih (i+1) (by omega)).shift 2
theorem vSimpleEv:Ev (fun n=>Z61 n p) (simpF p p.length 0):=by
 refine Ev.of_eq 2 ?_
 simp only[Z61Eq]
 refine Ev.bind (simpleL1v2 hl hp p p _ p p.length 0 (by omega)) ?_
 cases simpF p p.length 0 <;> exact Ev.pure _
end
def NearP (x:Pt):Prop:=(-439400000≤x.1∧x.1≤439400000)∧(-439400000≤x.2∧x.2≤439400000)
theorem mayB_near {x:Pt} (h:mayB x=true):NearP x:=by
 unfold mayB at h
 simp only[Bool.and_eq_true,decide_eq_true_eq] at h
 unfold NearP
 omega
theorem NearP.bd {x:Pt} (h:NearP x):Bd x:=by unfold NearP at h;unfold Bd;omega
theorem vArea_bd {a b:Pt} (ha:NearP a) (hb:NearP b):(-193072360000000000≤a.1*b.2∧a.1*b.2≤193072360000000000)∧(-193072360000000000≤a.2*b.1∧a.2*b.1≤193072360000000000) :=
 ⟨mul_bd2 (A:=439400000) (B:=439400000) ha.1 hb.2,mul_bd2 (A:=439400000) (B:=439400000) ha.2 hb.1⟩
theorem areaL1v4 {p:List Pt} (hl:p.length≤12) (hp:∀ x∈p,NearP x) (c0:List Pt) (c1:Int) (c2:List Pt):∀ (k i:Nat) (s:Int),i+k=p.length→(-(386144720000000000*(i:Int))≤s∧s≤386144720000000000*(i:Int)) →
  Ev (fun n=>Z150L1v3 n c0 c1 c2 ((((),()),((),(p,(((p.length:Nat):Int),(((i:Nat):Int),()))))),((s,()),((p,()),()))))
   ((),((arF p k i s,()),((p,()),()))):=by
 intro k
 induction k with
 | zero =>
  intro i s hi hs
  refine Ev.of_eq 2 ?_
  simp (disch:=omega) only [Z150L1v3Eq,br_neg]
  exact Ev.pure _
 | succ k ih =>
  intro i s hi hs
  have hlt:i<p.length:=by omega
  have g1:=at_get (l:=p) (i:=i) hlt
  have hnx:nx p i<p.length:=nx_lt (by omega) i
  have g2:=at_get (l:=p) (i:=nx p i) hnx
  have e:=tm_nx p i (by omega)
  have hz:¬ ((p.length:Nat):Int)=0:=by omega
  obtain⟨b1,b2⟩:=vArea_bd (hp _ (List.mem_of_getElem? g1)) (hp _ (List.mem_of_getElem? g2))
  refine Ev.of_eq 2 ?_
  simp (disch:=omega) only [Z150L1v3Eq,br_pos,br_neg,Int.toNat_natCast,g1,e,g2,Option.bind_some]
  rw[w64 (n:=(at_ p i).1*(at_ p (nx p i)).2) (by omega) (by omega),w64 (n:=(at_ p i).2*(at_ p (nx p i)).1) (by omega) (by omega),
   w64 (n:=(at_ p i).1*(at_ p (nx p i)).2-(at_ p i).2*(at_ p (nx p i)).1) (by omega) (by omega),w64 (n:=s+_) (by omega) (by omega)]
  simp (disch:=omega) only [wr1]
  have:=(ih (i+1) (s+((at_ p i).1*(at_ p (nx p i)).2-(at_ p i).2*(at_ p (nx p i)).1)) (by omega) (by omega)).shift 1
  exact this
theorem polyValidEv {p:List Pt} (hl:p.length<1000000000) (hp:∀ x∈p,Bd x):Ev (fun n=>Z28 n p) (validB p):=by
 refine Ev.of_eq 1 ?_
 simp only[Z28Eq]
 unfold validB
 by_cases h1:3≤p.length
 ·by_cases h2:p.length≤12
  ·simp (disch:=omega) only [br_neg,decide_eq_true h1,decide_eq_true h2,Bool.true_and]
   refine Ev.bind (vContainsEv p hl) ?_
   cases h3:p.all mayB with
   | false=>exact Ev.pure _
   | true =>
    simp only[Bool.not_true,br_f,Bool.true_and]
    refine Ev.bind (vSimpleEv hl hp) ?_
    cases h4:simpF p p.length 0 with
    | false=>exact Ev.pure _
    | true =>
     simp only[br_t,Bool.true_and]
     have hn:∀ x∈p,NearP x:=fun x hx=>mayB_near (List.all_eq_true.1 h3 x hx)
     have ar:Ev (fun n=>Z62 n p) (arF p p.length 0 0):=by
      refine Ev.of_eq 2 ?_
      simp only[Z62Eq]
      exact Ev.bind (areaL1v4 h2 hn p 0 p p.length 0 0 (by omega) (by omega)) (Ev.pure _)
     exact Ev.bind ar (Ev.pure _)
  ·simp (disch:=omega) only [br_neg,br_pos,decide_eq_true h1,decide_eq_false h2,Bool.true_and,Bool.false_and]
   exact Ev.pure _
 ·simp (disch:=omega) only [br_pos,decide_eq_false h1,Bool.false_and]
  exact Ev.pure _
end Go.Jm
namespace Go.Jm
open Go Go.Am Go.Proofs Go.Hu Go.Mo
def Tot {α:Type} (f:Nat→Option α):Prop:=∃ x,Ev f x
theorem Tot.pure {α:Type} (x:α):Tot (fun _=>some x):=⟨x,Ev.pure x⟩
theorem Tot.bind {α β:Type} {f:Nat→Option α} {g:Nat→α→Option β} (h:Tot f) (k:∀ x,Tot fun n=>g n x):Tot (fun n=>(f n).bind (g n)):=by
 obtain⟨x,hx⟩:=h
 obtain⟨y,hy⟩:=k x
 exact⟨y,Ev.bind hx hy⟩
theorem Tot.br {α:Type} {b:Bool} {f g:Nat→Option α} (h:Tot f) (k:Tot g):Tot (fun n=>br b (f n) (g n)):=by
 cases b
 ·exact k
 ·exact h
theorem Tot.of_eq {α:Type} {f:Nat→Option α} (k:Nat) (h:Tot fun n=>f (n+k)):Tot f:=by
 obtain⟨x,hx⟩:=h
 exact⟨x,Ev.of_eq k hx⟩
theorem crossTot (a b c:Pt):Tot fun n=>Z154 n a b c:=Tot.of_eq 1 (by simp only[Z154Eq];exact Tot.pure _)
theorem signTot (a:Int):Tot fun n=>Z180 n a:=Tot.of_eq 1 (by
 simp only[Z180Eq]
 exact Tot.br (Tot.pure _) (Tot.br (Tot.pure _) (Tot.pure _)))
theorem betweenTot (a b c:Int):Tot fun n=>Z199 n a b c:=Tot.of_eq 1 (by
 simp only[Z199Eq]
 exact Tot.br (Tot.br (Tot.pure _) (Tot.br (Tot.pure _) (Tot.pure _))) (Tot.br (Tot.pure _) (Tot.pure _)))
theorem onTot (a b c:Pt):Tot fun n=>Z179 n a b c:=Tot.of_eq 1 (by
 simp only[Z179Eq]
 refine Tot.bind (crossTot _ _ _) fun _=>Tot.br (Tot.bind (betweenTot _ _ _) fun _=>Tot.br (Tot.bind (betweenTot _ _ _) fun _=>Tot.pure _) (Tot.pure _)) (Tot.pure _))
theorem cutTot (a b c d:Pt):Tot fun n=>Z156 n a b c d:=Tot.of_eq 1 (by
 simp only[Z156Eq]
 refine Tot.bind (onTot _ _ _) fun _=>Tot.br (Tot.pure _) (Tot.bind (onTot _ _ _) fun _=>Tot.br (Tot.pure _) (Tot.bind (onTot _ _ _) fun _=>Tot.br (Tot.pure _) (Tot.bind (onTot _ _ _) fun _=>Tot.br (Tot.pure _) ?_)))
 refine Tot.bind (crossTot _ _ _) fun _=>Tot.bind (signTot _) fun _=>Tot.bind (crossTot _ _ _) fun _=>Tot.bind (signTot _) fun _=>Tot.bind (crossTot _ _ _) fun _=>Tot.bind (signTot _) fun _=>Tot.bind (crossTot _ _ _) fun _=>Tot.bind (signTot _) fun _=>Tot.br (Tot.pure _) (Tot.pure _))
theorem atTot {p:List Pt} (hp:0<p.length) {i:Int} (hi:0≤i):Tot fun n=>Z155 n p i:=Tot.of_eq 1 (by
 have hz:¬ ((p.length:Nat):Int)=0:=by omega
 have e:i.tmod (p.length:Int)=i % (p.length:Int):=Int.tmod_eq_emod_of_nonneg hi
 have h1:0≤i % (p.length:Int):=Int.emod_nonneg _ (by omega)
 have h2:i % (p.length:Int)<(p.length:Int):=Int.emod_lt_of_pos _ (by omega)
 have g:p[(i % (p.length:Int)).toNat]?=some p[(i % (p.length:Int)).toNat]:=List.getElem?_eq_getElem (by omega)
 simp only[Z155Eq,br_neg hz,e,br_pos h1,g,Option.bind_some]
 exact Tot.pure _)
theorem mayEv (x:Pt):Ev (fun n=>Z153 n x) (decide ((-439400000≤x.1∧x.1≤439400000)∧(-439400000≤x.2∧x.2≤439400000))):=by
 refine Ev.of_eq 1 ?_
 simp (disch:=omega) only [Z153Eq,w64]
 by_cases h1:0-439400000≤x.1
 ·by_cases h2:x.1≤439400000
  ·by_cases h3:0-439400000≤x.2
   ·simp only[br_pos h1,br_pos h2,br_pos h3]
    refine (Ev.pure _).congr ?_
    rw[Bool.eq_iff_iff];simp only[decide_eq_true_eq];omega
   ·simp only[br_pos h1,br_pos h2,br_neg h3]
    exact (Ev.pure _).congr (by symm;rw[decide_eq_false_iff_not];omega)
  ·simp only[br_pos h1,br_neg h2]
   exact (Ev.pure _).congr (by symm;rw[decide_eq_false_iff_not];omega)
 ·simp only[br_neg h1]
  exact (Ev.pure _).congr (by symm;rw[decide_eq_false_iff_not];omega)
def inB' (x:Pt):Bool:=decide ((-439400000≤x.1∧x.1≤439400000)∧(-439400000≤x.2∧x.2≤439400000))
theorem rightL5 (p:List Pt) (hl:p.length≤12):∀ (r:List Pt) (i:Nat),p.drop i=r→i≤p.length →
  Ev (fun n=>Z115L5 n ((p,(((p.length:Nat):Int),(((i:Nat):Int),()))),())) (if (r.all inB')=true then .inl ((p,(((p.length:Nat):Int),())),()) else .inr ((false,()),())):=by
 intro r
 induction r with
 | nil =>
  intro i h hi
  have:=gdrop_nil h
  refine Ev.of_eq 1 ?_
  simp (disch:=omega) only [Z115L5Eq,br_neg]
  exact (Ev.pure _).congr (by simp)
 | cons x r ih =>
  intro i h hi
  obtain⟨g1,g2,g3⟩:=gdrop h
  refine Ev.of_eq 1 ?_
  simp (disch:=omega) only [Z115L5Eq,br_pos,Int.toNat_natCast,g1,Option.bind_some,wr1]
  refine Ev.bind (x:=inB' x) (mayEv x) ?_
  rw[List.all_cons]
  cases hx:inB' x with
  | true=>simp only[Bool.not_true,br_f,Bool.true_and];exact ih (i+1) g2 (by omega)
  | false=>simp only[Bool.not_false,br_t,Bool.false_and];exact (Ev.pure _).congr (by simp)
theorem rightL15 (p:List Pt) (hl:p.length≤12) (hp:0<p.length) (i:Nat) (hi:i≤12):∀ (k j:Nat),p.length≤j+k→j≤20 →
  ∃ y,Ev (fun n=>Z115L15 n ((p,(((p.length:Nat):Int),(((i:Nat):Int),(((j:Nat):Int),())))),())) y∧(y=.inl ((p,(((p.length:Nat):Int),(((i:Nat):Int),()))),())∨y=.inr ((false,()),())):=by
 intro k
 induction k with
 | zero =>
  intro j h hj
  refine⟨_,Ev.of_eq 1 ?_,.inl rfl⟩
  simp (disch:=omega) only [Z115L15Eq,br_neg]
  exact Ev.pure _
 | succ k ih =>
  intro j h hj
  by_cases hlt:j<p.length
  ·obtain⟨y,e,hy⟩:=ih (j+1) (by omega) (by omega)
   have e1:IntKind.i64.wrap (((i:Nat):Int)+1)=((i:Nat):Int)+1:=w64 (by omega) (by omega)
   have e2:IntKind.i64.wrap (((j:Nat):Int)+1)=((j+1:Nat):Int):=wr1 j (by omega)
   obtain⟨p0,h0⟩:=atTot hp (i:=((i:Nat):Int)) (by omega)
   obtain⟨p1,h1⟩:=atTot hp (i:=((i:Nat):Int)+1) (by omega)
   obtain⟨p2,h2⟩:=atTot hp (i:=((j:Nat):Int)) (by omega)
   obtain⟨p3,h3⟩:=atTot hp (i:=((j+1:Nat):Int)) (by omega)
   obtain⟨v,hv⟩:=cutTot p0 p1 p2 p3
   have body:∃ y,Ev (fun n=>(Z155 n p ((i:Nat):Int)).bind fun a=>(Z155 n p (((i:Nat):Int)+1)).bind fun b=>(Z155 n p ((j:Nat):Int)).bind fun c=>(Z155 n p ((j+1:Nat):Int)).bind fun d=>(Z156 n a b c d).bind fun v=>br v (some (.inr ((false,()),()))) (Z115L15 n ((p,(((p.length:Nat):Int),(((i:Nat):Int),(((j+1:Nat):Int),())))),()))) y∧(y=.inl ((p,(((p.length:Nat):Int),(((i:Nat):Int),()))),())∨y=.inr ((false,()),())):=by
    cases v with
    | true=>exact⟨_,Ev.bind h0 (Ev.bind h1 (Ev.bind h2 (Ev.bind h3 (Ev.bind hv (Ev.pure _))))),.inr rfl⟩
    | false=>exact⟨y,Ev.bind h0 (Ev.bind h1 (Ev.bind h2 (Ev.bind h3 (Ev.bind hv e)))),hy⟩
   obtain⟨z,ez,hz⟩:=body
   by_cases hi0:((i:Nat):Int)=0
   ·by_cases hj0:((j:Nat):Int)=((p.length:Nat):Int)-1
    ·refine⟨y,Ev.of_eq 1 ?_,hy⟩
     simp (disch:=omega) only [Z115L15Eq,br_pos,nbr_pos,w64,e2]
     exact e
    ·refine⟨z,Ev.of_eq 1 ?_,hz⟩
     simp (disch:=omega) only [Z115L15Eq,br_pos,nbr_pos,nbr_neg,w64,e1,e2]
     exact ez
   ·refine⟨z,Ev.of_eq 1 ?_,hz⟩
    simp (disch:=omega) only [Z115L15Eq,br_pos,nbr_neg,e1,e2]
    exact ez
  ·refine⟨_,Ev.of_eq 1 ?_,.inl rfl⟩
   simp (disch:=omega) only [Z115L15Eq,br_neg]
   exact Ev.pure _
end Go.Jm
namespace Go.Jm
open Go Go.Am Go.Proofs Go.Hu Go.Mo
theorem rightL10 (p:List Pt) (hl:p.length≤12) (hp:0<p.length):∀ (k i:Nat),i+k=p.length →
  ∃ y,Ev (fun n=>Z115L10 n ((p,(((p.length:Nat):Int),(((i:Nat):Int),()))),())) y∧(y=.inl ((p,()),())∨y=.inr ((false,()),())):=by
 intro k
 induction k with
 | zero =>
  intro i h
  refine⟨_,Ev.of_eq 1 ?_,.inl rfl⟩
  simp (disch:=omega) only [Z115L10Eq,br_neg]
  exact Ev.pure _
 | succ k ih =>
  intro i h
  obtain⟨y,e,hy⟩:=ih (i+1) (by omega)
  have e1:IntKind.i64.wrap (((i:Nat):Int)+1)=((i+1:Nat):Int):=wr1 i (by omega)
  have e2:IntKind.i64.wrap (((i:Nat):Int)+2)=((i+2:Nat):Int):=by rw[w64 (by omega) (by omega)];rfl
  obtain⟨p0,h0⟩:=atTot hp (i:=((i:Nat):Int)) (by omega)
  obtain⟨p1,h1⟩:=atTot hp (i:=((i+1:Nat):Int)) (by omega)
  obtain⟨p2,h2⟩:=atTot hp (i:=((i+2:Nat):Int)) (by omega)
  obtain⟨v,hv⟩:=crossTot p0 p1 p2
  obtain⟨z,ez,hz⟩:=rightL15 p hl hp i (by omega) p.length (i+2) (by omega) (by omega)
  by_cases hv0:v=0
  ·refine⟨_,Ev.of_eq 1 ?_,.inr rfl⟩
   simp (disch:=omega) only [Z115L10Eq,br_pos,e1,e2]
   refine Ev.bind h0 (Ev.bind h1 (Ev.bind h2 (Ev.bind hv ?_)))
   simp only[br_pos hv0]
   exact Ev.pure _
  ·rcases hz with rfl | rfl
   ·refine⟨y,Ev.of_eq 1 ?_,hy⟩
    simp (disch:=omega) only [Z115L10Eq,br_pos,e1,e2]
    refine Ev.bind h0 (Ev.bind h1 (Ev.bind h2 (Ev.bind hv ?_)))
    simp only[br_neg hv0]
    refine Ev.bind ez ?_
    simp only[e1]
    exact e
   ·refine⟨_,Ev.of_eq 1 ?_,.inr rfl⟩
    simp (disch:=omega) only [Z115L10Eq,br_pos,e1,e2]
    refine Ev.bind h0 (Ev.bind h1 (Ev.bind h2 (Ev.bind hv ?_)))
    simp only[br_neg hv0]
    exact Ev.bind ez (Ev.pure _)
theorem areaL3 (p:List Pt) (hl:p.length≤12) (hp:0<p.length):∀ (k i:Nat) (s:Int),i+k=p.length→Tot fun n=>Z157L3 n ((p,(s,(((i:Nat):Int),()))),()):=by
 intro k
 induction k with
 | zero =>
  intro i s h
  refine Tot.of_eq 1 ?_
  simp (disch:=omega) only [Z157L3Eq,br_neg]
  exact Tot.pure _
 | succ k ih =>
  intro i s h
  have e1:IntKind.i64.wrap (((i:Nat):Int)+1)=((i+1:Nat):Int):=wr1 i (by omega)
  refine Tot.of_eq 1 ?_
  simp (disch:=omega) only [Z157L3Eq,br_pos,e1]
  exact Tot.bind (atTot hp (by omega)) fun _=>Tot.bind (atTot hp (by omega)) fun _=>ih (i+1) _ (by omega)
theorem areaTot (p:List Pt) (hl:p.length≤12) (hp:0<p.length):Tot fun n=>Z157 n p:=Tot.of_eq 1 (by
 simp only[Z157Eq]
 exact Tot.bind (areaL3 p hl hp p.length 0 0 (by omega)) fun _=>Tot.pure _)
def PolyOk (p:List Pt):Prop:=(3≤p.length∧p.length≤12)∧∀ x∈p,Bb 439400000 x
theorem polyEv (p:List Pt):∃ b,Ev (fun n=>Z115 n p) b∧(b=true→PolyOk p):=by
 by_cases h1:((p.length:Nat):Int)<3
 ·refine⟨false,Ev.of_eq 1 ?_,fun e=>by cases e⟩
  simp only[Z115Eq,br_pos h1];exact Ev.pure _
 by_cases h2:(12:Int)<((p.length:Nat):Int)
 ·refine⟨false,Ev.of_eq 1 ?_,fun e=>by cases e⟩
  simp only[Z115Eq,br_neg h1,br_pos h2];exact Ev.pure _
 have hl:p.length≤12:=by omega
 have hp:0<p.length:=by omega
 have h5:=rightL5 p hl p 0 rfl (Nat.zero_le _)
 obtain⟨z,ez,hz⟩:=rightL10 p hl hp p.length 0 (by omega)
 obtain⟨v,hv⟩:=areaTot p hl hp
 cases ha:p.all inB' with
 | false =>
  rw[ha] at h5
  simp only[Bool.false_eq_true,if_false] at h5
  refine⟨false,Ev.of_eq 1 ?_,fun e=>by cases e⟩
  simp only[Z115Eq,br_neg h1,br_neg h2]
  exact Ev.bind h5 (Ev.pure _)
 | true =>
  rw[ha] at h5
  simp only[if_true] at h5
  have hok:PolyOk p:=⟨by omega,fun x hx=>by
   have:=List.all_eq_true.1 ha x hx
   unfold inB' at this
   simpa[Bb] using this⟩
  rcases hz with rfl | rfl
  ·refine⟨decide (0<v),Ev.of_eq 1 ?_,fun _=>hok⟩
   simp only[Z115Eq,br_neg h1,br_neg h2]
   refine Ev.bind h5 ?_
   refine Ev.bind ez ?_
   exact Ev.bind hv (Ev.pure _)
  ·refine⟨false,Ev.of_eq 1 ?_,fun _=>hok⟩
   simp only[Z115Eq,br_neg h1,br_neg h2]
   refine Ev.bind h5 ?_
   refine Ev.bind ez ?_
   exact Ev.pure _
theorem polysL4 (l:List (List Pt)) (hl:l.length≤1000):∀ (r:List (List Pt)) (i:Nat),l.drop i=r→i≤l.length →
  ∃ y,Ev (fun n=>Z73L4 n ((l,(((i:Nat):Int),())),())) y∧((y=.inl ((),())∧∀ p∈r,PolyOk p)∨y=.inr ((false,()),())):=by
 intro r
 induction r with
 | nil =>
  intro i h hi
  have:=gdrop_nil h
  refine⟨_,Ev.of_eq 1 ?_,.inl ⟨rfl,fun p hp=>by cases hp⟩⟩
  simp (disch:=omega) only [Z73L4Eq,br_neg]
  exact Ev.pure _
 | cons p r ih =>
  intro i h hi
  obtain⟨g1,g2,g3⟩:=gdrop h
  obtain⟨b,hb,hbt⟩:=polyEv p
  obtain⟨y,e,hy⟩:=ih (i+1) g2 (by omega)
  cases b with
  | false =>
   refine⟨_,Ev.of_eq 1 ?_,.inr rfl⟩
   simp (disch:=omega) only [Z73L4Eq,br_pos,Int.toNat_natCast,g1,Option.bind_some]
   exact Ev.bind hb (Ev.pure _)
  | true =>
   refine⟨y,Ev.of_eq 1 ?_,?_⟩
   ·simp (disch:=omega) only [Z73L4Eq,br_pos,Int.toNat_natCast,g1,Option.bind_some,wr1]
    exact Ev.bind hb e
   ·rcases hy with ⟨h1,h2⟩ | h1
    ·exact .inl ⟨h1,fun q hq=>by
      rcases List.mem_cons.1 hq with rfl | hq
      ·exact hbt rfl
      ·exact h2 q hq⟩
    ·exact .inr h1
theorem polysEv (l:List (List Pt)):∃ b,Ev (fun n=>Z73 n l) b∧(b=true→l.length≤16∧∀ p∈l,PolyOk p):=by
 by_cases h1:(16:Int)<((l.length:Nat):Int)
 ·refine⟨false,Ev.of_eq 1 ?_,fun e=>by cases e⟩
  simp only[Z73Eq,br_pos h1];exact Ev.pure _
 obtain⟨y,e,hy⟩:=polysL4 l (by omega) l 0 rfl (Nat.zero_le _)
 rcases hy with ⟨rfl,h2⟩ | rfl
 ·refine⟨true,Ev.of_eq 1 ?_,fun _=>⟨by omega,h2⟩⟩
  simp only[Z73Eq,br_neg h1]
  exact Ev.bind e (Ev.pure _)
 ·refine⟨false,Ev.of_eq 1 ?_,fun e=>by cases e⟩
  simp only[Z73Eq,br_neg h1]
  exact Ev.bind e (Ev.pure _)
end Go.Jm
