import Derived.Carry
import Derived.OpenVars
import Derived.ChangeBears
import Derived.ChangeArms
import Derived.OpenShut
import Derived.ChangeSame
import Derived.RowKit
import Derived.Deep.DeepHandedRow
import Derived.Test.YtipafalnnbojkaaGreatPB
set_option linter.unusedVariables false
set_option linter.unusedSimpArgs false
set_option linter.unnecessarySimpa false
set_option linter.unusedSectionVars false
namespace Go.Am
open Go
section
variable {F:Fix} {σ σ' lm:Nat→Option Nat}
theorem AT0.rep:∀ (a:AT0) {v:AV} {u:Value} {ow:Own} {x:a.ty.den},a.pack v=some x→Rep F σ lm ow v u→(∀ c∈a.ptrs,∀ b,σ c=some b→σ' c=some b)→Rep F σ' lm ow (a.unpack x) u
 | .top,v,u,ow,x,_,_,_=>.top _ _
 | .ptr c o,v,u,ow,x,h,hr,hp=>by
  cases v <;> simp only[AT0.pack] at h <;> try (cases h;done)
  split at h
  ·rename_i hc
   obtain⟨rfl,rfl⟩:=hc
   cases hr with
   | ptr _ _ _ b hb=>exact .ptr _ _ _ _ (hp _ (by simp[AT0.ptrs]) b hb)
  ·cases h
 | .map c,v,u,ow,x,h,hr,hp=>by
  cases v <;> simp only[AT0.pack] at h <;> try (cases h;done)
  split at h
  ·rename_i hc
   subst hc
   cases hr with
   | map _ _ b hb=>exact .map _ _ _ (hp _ (by simp[AT0.ptrs]) b hb)
  ·cases h
 | .hs c e,v,u,ow,x,h,hr,hp=>by
  cases v <;> simp only[AT0.pack] at h <;> try (cases h;done)
  rename_i c' e' lo' len'
  split at h
  ·rename_i hc
   obtain⟨rfl,rfl,rfl⟩:=hc
   cases h
   cases hr with
   | hs _ _ _ _ _ u hb =>
    show Rep _ _ _ _ (.hs _ _ 0 (Int.toNat (len':Int))) _
    rw[Int.toNat_natCast]
    exact .hs _ _ _ _ _ _ (hb.mono (hp _ (by simp[AT0.ptrs])))
  ·cases h
 | .hw c e,v,u,ow,x,h,hr,hp=>by
  cases v <;> simp only[AT0.pack] at h <;> try (cases h;done)
  rename_i c' e' lo' len'
  split at h
  ·rename_i hc
   obtain⟨rfl,rfl⟩:=hc
   cases h
   cases hr with
   | hs _ _ _ _ _ u hb =>
    show Rep _ _ _ _ (.hs _ _ (Int.toNat (lo':Int)) (Int.toNat (len':Int))) _
    rw[Int.toNat_natCast,Int.toNat_natCast]
    exact .hs _ _ _ _ _ _ (hb.mono (hp _ (by simp[AT0.ptrs])))
  ·cases h
 | .agg t,v,u,ow,x,h,hr,hp=>by
  cases v <;> simp only[AT0.pack] at h <;> try (cases h;done)
  cases hr with
  | agg _ l vs hl=>exact .agg _ _ _ (repL_leaves (takeAll_some h hl))
 | .data own t,v,u,ow,x,h,hr,hp=>by
  simp only[AT0.pack] at h
  split at h
  ·rename_i hok
   cases t with
   | unit=>exact .top _ _
   | pair a b=>exact .top _ _
   | sum a b=>exact .top _ _
   | int k =>
    unfold takeAll at h
    obtain⟨y,h1,h2⟩:=bind_some h
    cases v <;> simp only[Ty.take] at h1 <;> try (cases h1;done)
    split at h1
    ·rename_i hk
     subst hk
     cases h1
     simp at h2
     cases hr
     subst h2
     exact .int _ _ _
    ·cases h1
   | bool =>
    unfold takeAll at h
    obtain⟨y,h1,h2⟩:=bind_some h
    cases v <;> simp only[Ty.take] at h1 <;> try (cases h1;done)
    cases h1
    simp at h2
    cases hr
    subst h2
    exact .bool _ _
   | str =>
    unfold takeAll at h
    obtain⟨y,h1,h2⟩:=bind_some h
    cases v <;> simp only[Ty.take] at h1 <;> try (cases h1;done)
    cases h1
    simp at h2
    cases hr
    subst h2
    exact .str _ _
   | slice e =>
    unfold takeAll at h
    obtain⟨y,h1,h2⟩:=bind_some h
    cases v <;> simp only[Ty.take] at h1 <;> try (cases h1;done)
    ·rename_i o e' xs
     split at h1
     ·rename_i he
      subst he
      cases h1
      simp at h2
      subst h2
      cases hr with
      | slice _ _ _ _ a cap hc hrow ho =>
       refine .slice _ _ _ _ _ _ hc hrow fun hown=>ho ?_
       cases own with
       | false=>cases hown
       | true=>simpa[ownOk] using hok
     ·cases h1
    ·cases h1
     simp at h2
     subst h2
     cases hr
     exact .slice _ own e [] none 0 ⟨Nat.le_refl _,fun _=>rfl,Nat.zero_le _⟩ (fun i x hx=>by simp at hx) fun _=>.inl ⟨rfl,rfl⟩
  ·cases h
theorem AT0.repL:∀ (l:List AT0) {vs:List AV} {us:List Value} {x:(rowAT0 l).den},packAT0 l vs=some x→RepL F σ lm vs us→(∀ c∈l.flatMap AT0.ptrs,∀ b,σ c=some b→σ' c=some b)→RepL F σ' lm (unpackAT0 l x) us:=by
 intro l
 induction l with
 | nil =>
  intro vs us x h hr _
  cases vs with
  | nil=>cases hr;exact .nil
  | cons=>cases h
 | cons a l ih =>
  intro vs us x h hr hp
  cases vs with
  | nil=>cases h
  | cons v vs =>
   simp only[packAT0] at h
   obtain⟨y,h1,h⟩:=bind_some h
   obtain⟨z,h2,h⟩:=bind_some h
   cases h
   cases hr with
   | cons _ u _ us hv ht =>
    refine .cons _ _ _ _ (a.rep h1 hv fun c hc=>hp c ?_) (ih h2 ht fun c hc=>hp c ?_)
    ·simp only[List.flatMap_cons,List.mem_append];exact .inl hc
    ·simp only[List.flatMap_cons,List.mem_append];exact .inr hc
theorem packAT0_len:∀ (l:List AT0) {vs:List AV} {x:(rowAT0 l).den},packAT0 l vs=some x→vs=[]→unpackAT0 l x=[]
 | [],_,_,_,_=>rfl
 | a :: l,_,_,h,e=>by subst e;cases h
theorem AT.rep (a:AT) {v:AV} {u:Value} {ow:Own} {x:a.ty.den} (h:a.pack v=some x) (hr:Rep F σ lm ow v u) (hp:∀ c∈a.ptrs,∀ b,σ c=some b→σ' c=some b):Rep F σ' lm ow (a.unpack x) u:=by
 cases a with
 | base a=>exact a.rep h hr hp
 | func fn a b =>
  cases v <;> simp only[AT.pack] at h <;> try (cases h;done)
  rename_i fn' p q
  split at h
  ·rename_i hf
   subst hf
   obtain⟨y,h1,h⟩:=bind_some h
   obtain⟨z,h2,h⟩:=bind_some h
   cases h
   cases hr with
   | func _ g p q vp vq hp1 hq1 =>
    refine .func _ _ _ _ _ _ (AT0.repL a h1 hp1 fun c hc=>hp c ?_) (AT0.repL b h2 hq1 fun c hc=>hp c ?_)
    ·simp only[AT.ptrs,List.mem_append];exact .inl hc
    ·simp only[AT.ptrs,List.mem_append];exact .inr hc
   | yield _ l r hl =>
    simp only[AT.unpack]
    rw[packAT0_len a h1 rfl,packAT0_len b h2 rfl]
    exact .yield _ _ _ hl
  ·cases h
end
theorem packAT_get:∀ (l:List AT) {vs:List AV} {x:(rowAT l).den},packAT l vs=some x→∀ (j:Nat) av,(unpackAT l x)[j]?=some av→∃ a v y,a∈l∧vs[j]?=some v∧a.pack v=some y∧av=a.unpack y:=by
 intro l
 induction l with
 | nil=>intro vs x h j av hj;simp[unpackAT] at hj
 | cons a l ih =>
  intro vs x h j av hj
  cases vs with
  | nil=>cases h
  | cons v vs =>
   simp only[packAT] at h
   obtain⟨y,h1,h⟩:=bind_some h
   obtain⟨z,h2,h⟩:=bind_some h
   cases h
   cases j with
   | zero =>
    simp[unpackAT] at hj
    exact⟨a,v,y,by simp,rfl,h1,hj.symm⟩
   | succ j =>
    simp[unpackAT] at hj
    obtain⟨a',v',y',e1,e2,e3,e4⟩:=ih h2 j av hj
    exact⟨a',v',y',by simp[e1],by simpa using e2,e3,e4⟩
theorem take_get:∀ (t:Ty) {vs:List AV} {x:t.den} {rest:List AV},t.take vs=some (x,rest)→∃ pre,vs=pre ++ rest∧pre.length=(t.leaves x).length ∧
  ∀ (j:Nat) av,(t.leaves x)[j]?=some av→∃ (a:AT) (v:AV) (y:a.ty.den),a.ptrs=[]∧pre[j]?=some v∧a.pack v=some y∧av=a.unpack y:=by
 intro t
 induction t with
 | unit =>
  intro vs x rest h
  simp only[Ty.take] at h;cases h
  exact⟨[],rfl,rfl,fun j av hj=>by simp[Ty.leaves] at hj⟩
 | sum a b=>intro vs x rest h;simp[Ty.take] at h
 | pair a b iha ihb =>
  intro vs x rest h
  simp only[Ty.take] at h
  obtain⟨p,h1,h⟩:=bind_some h
  obtain⟨q,h2,h⟩:=bind_some h
  cases h
  obtain⟨x1,r1⟩:=p
  obtain⟨x2,r2⟩:=q
  obtain⟨p1,rfl,l1,g1⟩:=iha h1
  obtain⟨p2,rfl,l2,g2⟩:=ihb h2
  refine⟨p1 ++ p2,by simp,by simp[Ty.leaves,l1,l2],fun j av hj=>?_⟩
  simp only[Ty.leaves] at hj
  rcases Nat.lt_or_ge j (a.leaves x1).length with hlt | hge
  ·rw[List.getElem?_append_left hlt] at hj
   obtain⟨a',v,y,e1,e2,e3,e4⟩:=g1 j av hj
   exact⟨a',v,y,e1,by rw[List.getElem?_append_left (by omega)];exact e2,e3,e4⟩
  ·rw[List.getElem?_append_right hge] at hj
   obtain⟨a',v,y,e1,e2,e3,e4⟩:=g2 _ av hj
   exact⟨a',v,y,e1,by rw[List.getElem?_append_right (by omega),l1];exact e2,e3,e4⟩
 | int k =>
  intro vs x rest h
  unfold Ty.take at h
  cases vs with
  | nil=>cases h
  | cons v vs =>
   cases v <;> simp only at h <;> try (cases h;done)
   split at h
   ·rename_i hk;subst hk;cases h
    refine⟨[_],rfl,rfl,fun j av hj=>?_⟩
    cases j with
    | succ j=>simp[Ty.leaves] at hj
    | zero=>simp[Ty.leaves] at hj;subst hj;exact⟨.base (.data false (.int _)),_,x,rfl,rfl,by simp[AT.pack,AT0.pack,ownOk,takeAll,Ty.take],rfl⟩
   ·cases h
 | bool =>
  intro vs x rest h
  unfold Ty.take at h
  cases vs with
  | nil=>cases h
  | cons v vs =>
   cases v <;> simp only at h <;> try (cases h;done)
   cases h
   refine⟨[_],rfl,rfl,fun j av hj=>?_⟩
   cases j with
   | succ j=>simp[Ty.leaves] at hj
   | zero=>simp[Ty.leaves] at hj;subst hj;exact⟨.base (.data false .bool),_,x,rfl,rfl,by simp[AT.pack,AT0.pack,ownOk,takeAll,Ty.take],rfl⟩
 | str =>
  intro vs x rest h
  unfold Ty.take at h
  cases vs with
  | nil=>cases h
  | cons v vs =>
   cases v <;> simp only at h <;> try (cases h;done)
   cases h
   refine⟨[_],rfl,rfl,fun j av hj=>?_⟩
   cases j with
   | succ j=>simp[Ty.leaves] at hj
   | zero=>simp[Ty.leaves] at hj;subst hj;exact⟨.base (.data false .str),_,x,rfl,rfl,by simp[AT.pack,AT0.pack,ownOk,takeAll,Ty.take],rfl⟩
 | slice e =>
  intro vs x rest h
  unfold Ty.take at h
  cases vs with
  | nil=>cases h
  | cons v vs =>
   cases v <;> simp only at h <;> try (cases h;done)
   ·rename_i o e' xs
    split at h
    ·rename_i he;subst he;cases h
     refine⟨[_],rfl,rfl,fun j av hj=>?_⟩
     cases j with
     | succ j=>simp[Ty.leaves] at hj
     | zero=>simp[Ty.leaves] at hj;subst hj;exact⟨.base (.data false (.slice e')),_,xs,rfl,rfl,by simp[AT.pack,AT0.pack,ownOk,takeAll,Ty.take],rfl⟩
    ·cases h
   ·cases h
    refine⟨[_],rfl,rfl,fun j av hj=>?_⟩
    cases j with
    | succ j=>simp[Ty.leaves] at hj
    | zero=>simp[Ty.leaves] at hj;subst hj;exact⟨.base (.data false (.slice e)),_,_,rfl,rfl,by simp[AT.pack,AT0.pack,ownOk,takeAll,Ty.take],rfl⟩
theorem pre_get {t:Ty} {l:List AT} {vs:List AV} {z:(CT.pre t l).ty.den} (h:(CT.pre t l).pack (.var vs)=some z) (j:Nat) (av:AV) (hj:(t.leaves z.1 ++ unpackAT l z.2)[j]?=some av) :
  ∃ (a:AT) (v:AV) (y:a.ty.den),(a∈l∨a.ptrs=[])∧vs[j]?=some v∧a.pack v=some y∧av=a.unpack y:=by
 simp only[CT.pack] at h
 obtain⟨⟨x,rest⟩,h1,h⟩:=bind_some h
 obtain⟨y,h2,h⟩:=bind_some h
 cases h
 obtain⟨pre,rfl,hl,g⟩:=take_get t h1
 rcases Nat.lt_or_ge j (t.leaves x).length with hlt | hge
 ·rw[List.getElem?_append_left hlt] at hj
  obtain⟨a',v,y',e1,e2,e3,e4⟩:=g j av hj
  exact⟨a',v,y',.inr e1,by rw[List.getElem?_append_left (by omega)];exact e2,e3,e4⟩
 ·rw[List.getElem?_append_right hge] at hj
  obtain⟨a',v,y',e1,e2,e3,e4⟩:=packAT_get l h2 _ av hj
  exact⟨a',v,y',.inl e1,by rw[List.getElem?_append_right (by omega),hl];exact e2,e3,e4⟩
theorem packCT_get:∀ (l:List CT) {hs:List Cell} {x:(rowCT l).den},packCT l hs=some x→(∀ (c:Nat) cell,(unpackCT l x)[c]?=some cell→∃ t s y,l[c]?=some t∧hs[c]?=some s∧t.pack s=some y∧cell=t.unpack y) ∧
  (∀ (c:Nat) t,l[c]?=some t→∃ s y,hs[c]?=some s∧t.pack s=some y∧(unpackCT l x)[c]?=some (t.unpack y)):=by
 intro l
 induction l with
 | nil=>intro hs x h;exact⟨fun c cell hc=>by simp[unpackCT] at hc,fun c t hc=>by simp at hc⟩
 | cons a l ih =>
  intro hs x h
  cases hs with
  | nil=>cases h
  | cons s hs =>
   simp only[packCT] at h
   obtain⟨y,h1,h⟩:=bind_some h
   obtain⟨z,h2,h⟩:=bind_some h
   cases h
   obtain⟨i1,i2⟩:=ih h2
   refine⟨fun c cell hc=>?_,fun c t hc=>?_⟩
   ·cases c with
    | zero=>simp[unpackCT] at hc;exact⟨a,s,y,rfl,rfl,h1,hc.symm⟩
    | succ c=>simpa using i1 c cell (by simpa[unpackCT] using hc)
   ·cases c with
    | zero=>simp at hc;subst hc;exact⟨s,y,rfl,h1,rfl⟩
    | succ c=>simpa[unpackCT] using i2 c t (by simpa using hc)
theorem unpackTm_length (n:Nat):∀ (l:List (Tmp×AT)) (x:(rowTm l).den),(unpackTm n l x).length=n:=by
 intro l
 induction l with
 | nil=>intro x;simp[unpackTm]
 | cons a l ih=>intro x;simp[unpackTm,ih]
theorem unpackTm_rep {F:Fix} {σ σ' lm:Nat→Option Nat} {n:Nat} {vs:List AV} {us:Array Value} {ow:Nat→Own} (hv:∀ t,Rep F σ lm (ow t) (getT vs t) (us.getD t undef)):∀ (l:List (Tmp×AT)) {x:(rowTm l).den},packTm l vs=some x →
  (∀ c∈l.flatMap fun a=>a.2.ptrs,∀ b,σ c=some b→σ' c=some b)→∀ t,Rep F σ' lm (ow t) (getT (unpackTm n l x) t) (us.getD t undef):=by
 intro l
 induction l with
 | nil =>
  intro x _ _ t
  have:getT (unpackTm n [] x) t=.top:=by
   unfold getT unpackTm
   rw[List.getD_eq_getElem?_getD,List.getElem?_replicate]
   split <;> rfl
  rw[this];exact .top _ _
 | cons a l ih =>
  intro x h hp t
  simp only[packTm] at h
  obtain⟨y,h1,h⟩:=bind_some h
  obtain⟨z,h2,h⟩:=bind_some h
  cases h
  simp only[unpackTm,getT_set]
  split
  ·rename_i ht
   obtain⟨rfl,_⟩:=ht
   exact a.2.rep h1 (hv a.1) fun c hc=>hp c (by simp only[List.flatMap_cons,List.mem_append];exact .inl hc)
  ·exact ih h2 (fun c hc=>hp c (by simp only[List.flatMap_cons,List.mem_append];exact .inr hc)) t
theorem beq_eq:∀ {κ:Ty} {x y:κ.den},κ.keyOk=true→κ.beq x y=true→x=y:=by
 intro κ
 induction κ with
 | unit=>intro x y _ _;rfl
 | int k=>intro x y _ h;simpa[Ty.beq] using h
 | bool=>intro x y _ h;simpa[Ty.beq] using h
 | str=>intro x y h;simp[Ty.keyOk] at h
 | slice e _=>intro x y h;simp[Ty.keyOk] at h
 | sum a b _ _=>intro x y h;simp[Ty.keyOk] at h
 | pair a b iha ihb =>
  intro x y h h1
  simp only[Ty.keyOk,Ty.beq,Bool.and_eq_true] at h h1
  exact Prod.ext (iha h.1 h1.1) (ihb h.2 h1.2)
theorem sameC_eq {a b:AV} (h:a.sameC b=true):a=b:=by
 unfold AV.sameC at h
 split at h <;> simp at h
 ·rw[h]
 ·rw[h.1,h.2]
 ·rw[h]
 ·rfl
theorem sameCL_eq:∀ {l m:List AV},sameCL l m=true→l=m:=by
 intro l
 induction l with
 | nil=>intro m h;cases m with
  | nil=>rfl
  | cons=>simp[sameCL] at h
 | cons a l ih=>intro m h;cases m with
  | nil=>simp[sameCL] at h
  | cons b m =>
   simp only[sameCL,Bool.and_eq_true] at h
   rw[sameC_eq h.1,ih h.2]
theorem sameMv_eq {κ:Ty} (hk:κ.keyOk=true):∀ {l m:List (κ.den×List AV)},sameMv κ l m=true→l=m:=by
 intro l
 induction l with
 | nil=>intro m h;cases m with
  | nil=>rfl
  | cons=>simp[sameMv] at h
 | cons a l ih=>intro m h;cases m with
  | nil=>simp[sameMv] at h
  | cons b m =>
   simp only[sameMv,Bool.and_eq_true] at h
   rw[ih h.2,Prod.ext (beq_eq hk h.1.1) (sameCL_eq h.1.2)]
theorem isMapv_eq {κ:Ty} {ea:Bool} {l:List (κ.den×List AV)} {x:Cell} (h:x.isMapv κ ea l=true):x=.mapv κ ea l:=by
 unfold Cell.isMapv at h
 split at h
 ·split at h
  ·rename_i he
   subst he
   simp only[Bool.and_eq_true,decide_eq_true_eq] at h
   obtain⟨⟨h1,rfl⟩,h3⟩:=h
   rw[sameMv_eq h1 h3]
  ·cases h
 ·cases h
def keepC (p:Tpl) (c:Nat):Bool:=(p.heap[c]?).any CT.isVar
def dropTag (p:Tpl):Tag→Tag
 | .cell c j=>if keepC p c=true then .cell c j else .free
 | .spare (.leaf c j) q=>if keepC p c=true then .spare (.leaf c j) q else .free
 | t=>t
def dropTags (p:Tpl) (T:Tags):Tags:=fun b o=>dropTag p (T b o)
theorem dropTag_or (p:Tpl) (t:Tag):dropTag p t=t∨dropTag p t=.free:=by
 cases t with
 | cell c j=>simp only[dropTag];split <;> simp
 | spare l j=>cases l <;> simp only[dropTag] <;> first | (split <;> simp) | simp
 | _=>exact .inl rfl
theorem dropTags_fix (p:Tpl) (T:Tags):(dropTags p T).fix=T.fix:=by
 funext b o
 unfold Tags.fix dropTags
 cases T b o with
 | cell c j=>simp only[dropTag];split <;> rfl
 | spare l j=>cases l <;> simp only[dropTag] <;> first | (split <;> rfl) | rfl
 | _=>rfl
section
variable {X:Ext} {T:Tags} {σ lm:Nat→Option Nat} {A:Amb} {ro:Option Nat} {s:St} {a:Act} {w w1:World}
theorem Rel.pack0 (hR:Rel X T σ lm A ro s a w) (hA:AmbOk A) {p:Tpl} {x:p.ty.den} (h:p.pack0 A.base s=some x):GoTo X T σ lm A ro w (p.unpack A.nt x) a w:=by
 unfold Tpl.pack0 at h
 split at h
 ·rename_i hc
  obtain⟨hptr,hpend,hbase⟩:=hc
  obtain⟨x1,h1,h⟩:=bind_some h
  obtain⟨x2,h2,h⟩:=bind_some h
  cases h
  obtain⟨g1,g2⟩:=packCT_get p.heap h2
  let σ':Nat→Option Nat:=fun c=>if keepC p c=true then σ c else none
  have hσ:∀ c,keepC p c=true→∀ b,σ c=some b→σ' c=some b:=fun c hc b e=>by
   show (if keepC p c=true then σ c else none)=some b
   rw[if_pos hc];exact e
  have hptr':∀ c,(c∈(p.tmps.flatMap fun a=>a.2.ptrs)∨c∈p.heap.flatMap CT.ptrs)→keepC p c=true:=fun c hc=>by
   unfold Tpl.ptrsOk at hptr
   rw[List.all_eq_true] at hptr
   exact hptr c (List.mem_append.2 hc)
  have hb:∀ c,c<A.base→∀ b,σ c=some b→σ' c=some b:=fun c hc b e=>by
   refine hσ c ?_ b e
   unfold Tpl.baseOk at hbase
   simp only[Bool.and_eq_true,decide_eq_true_eq,List.all_eq_true] at hbase
   obtain⟨hb1,hb2⟩:=hbase
   obtain⟨x,hl,hx⟩:=hR.inv.dom c b e
   have hlt:c<p.heap.length:=by omega
   have hp:p.heap[c]?=some p.heap[c]:=List.getElem?_eq_getElem hlt
   have hxv:x.isVar=true:=by cases x <;> first | rfl | cases hx
   have:=hb2 (p.heap[c],x) (by
    rw[List.mem_iff_getElem?]
    refine⟨c,?_⟩
    rw[List.getElem?_take,if_pos hc,List.getElem?_zip_eq_some]
    exact⟨hp,hl⟩)
   unfold keepC
   rw[hp]
   simpa[hxv] using this
  have keep:∀ b o,dropTags p T b o≠.free→dropTags p T b o=T b o:=fun b o e=>(dropTag_or p (T b o)).resolve_right e
  refine⟨dropTags p T,σ',?_,hb,⟨⟨?_,?_,?_,?_,?_,?_,?_,?_⟩,?_,hR.nt,?_,?_,hR.nodup,hR.round,by rw[dropTags_fix];exact hR.glob⟩⟩
  ·refine⟨rfl,rfl,rfl,Nat.le_refl _,fun b o v e=>by unfold dropTags;rw[e];rfl,fun b o _ e=>by unfold dropTags;rw[e];rfl,fun _ _ _ _=>⟨rfl,rfl⟩,fun _ _ _=>rfl⟩
  ·intro b o v e;exact hR.inv.fixed b o v (by rw[← keep b o (by rw[e];simp)];exact e)
  ·intro b o l j e;exact hR.inv.spare b o l j (by rw[← keep b o (by rw[e];simp)];exact e)
  ·intro b o e;exact hR.inv.live b o (by rw[← keep b o e];exact e)
  ·intro c b e
   have e':(if keepC p c=true then σ c else none)=some b:=e
   split at e'
   ·rename_i hk
    have hk0:=hk
    unfold keepC at hk
    cases hp:p.heap[c]? with
    | none=>rw[hp] at hk;cases hk
    | some t =>
     rw[hp] at hk
     obtain⟨cell,y,k1,k2,k3⟩:=g2 c t hp
     cases t with
     | var l=>exact⟨_,k3,rfl⟩
     | row e=>exact⟨_,k3,rfl⟩
     | gone=>exact⟨_,k3,rfl⟩
     | pre _ _=>exact⟨_,k3,rfl⟩
     | empty=>cases hk
     | map _ _=>exact⟨_,k3,rfl⟩
     | mapv _ _ _=>exact⟨_,k3,rfl⟩
   ·cases e'
  ·intro c l hc
   obtain⟨t,cell,y,k1,k2,k3,k4⟩:=g1 c _ hc
   cases t with
   | empty=>simp[CT.unpack] at k4
   | map _ _=>simp[CT.unpack] at k4
   | mapv _ _ _=>simp[CT.unpack] at k4
   | row _=>simp[CT.unpack] at k4
   | gone=>simp[CT.unpack] at k4
   | var at' =>
    simp only[CT.unpack,Cell.var.injEq] at k4
    subst k4
    cases cell with
    | empty=>simp[CT.pack] at k3
    | map _ _ _=>simp[CT.pack] at k3
    | mapv _ _ _=>simp[CT.pack] at k3
    | row _ _=>simp[CT.pack] at k3
    | gone=>simp[CT.pack] at k3
    | var vs =>
     simp only[CT.pack] at k3
     have hk:keepC p c=true:=by unfold keepC;rw[k1];rfl
     obtain⟨b,e1,e2,e3⟩:=hR.inv.var c vs k2
     refine⟨b,hσ c hk b e1,e2,fun j av hj=>?_⟩
     obtain⟨a0,v0,y0,f1,f2,f3,rfl⟩:=packAT_get at' k3 j av hj
     obtain⟨v,q1,q2,q3,q4⟩:=e3 j v0 f2
     refine⟨v,q1,q2,by unfold dropTags;rw[q3];simp only[dropTag,hk,if_true],?_⟩
     rw[dropTags_fix]
     refine (a0.rep f3 q4 fun c' hc' b' e'=>hσ c' (hptr' c' (.inr ?_)) b' e').mono (Fix.le.refl _) (fun _ _ x=>x) (fun _ _ x=>x) fun q b o e=>?_
     ·rw[List.mem_flatMap]
      exact⟨.var at',List.mem_of_getElem? k1,by rw[CT.ptrs,List.mem_flatMap];exact⟨a0,f1,hc'⟩⟩
     ·have e':T b o=.spare (.leaf c j) q:=e
      show dropTags p T b o=_
      unfold dropTags;rw[e'];simp only[dropTag,hk,if_true]
   | pre t' at' =>
    simp only[CT.unpack,Cell.var.injEq] at k4
    subst k4
    cases cell with
    | empty=>simp[CT.pack] at k3
    | map _ _ _=>simp[CT.pack] at k3
    | mapv _ _ _=>simp[CT.pack] at k3
    | row _ _=>simp[CT.pack] at k3
    | gone=>simp[CT.pack] at k3
    | var vs =>
     have hk:keepC p c=true:=by unfold keepC;rw[k1];rfl
     obtain⟨b,e1,e2,e3⟩:=hR.inv.var c vs k2
     refine⟨b,hσ c hk b e1,e2,fun j av hj=>?_⟩
     obtain⟨a0,v0,y0,f1,f2,f3,rfl⟩:=pre_get k3 j av hj
     obtain⟨v,q1,q2,q3,q4⟩:=e3 j v0 f2
     refine⟨v,q1,q2,by unfold dropTags;rw[q3];simp only[dropTag,hk,if_true],?_⟩
     rw[dropTags_fix]
     refine (a0.rep f3 q4 fun c' hc' b' e'=>hσ c' (hptr' c' (.inr ?_)) b' e').mono (Fix.le.refl _) (fun _ _ x=>x) (fun _ _ x=>x) fun q b o e=>?_
     ·rcases f1 with f1 | f1
      ·rw[List.mem_flatMap]
       exact⟨.pre t' at',List.mem_of_getElem? k1,by rw[CT.ptrs,List.mem_flatMap];exact⟨a0,f1,hc'⟩⟩
      ·rw[f1] at hc';cases hc'
     ·have e':T b o=.spare (.leaf c j) q:=e
      show dropTags p T b o=_
      unfold dropTags;rw[e'];simp only[dropTag,hk,if_true]
  ·intro c x hc
   obtain⟨t,cell,y,k1,k2,k3,rfl⟩:=g1 c _ hc
   cases t with
   | empty=>trivial
   | gone=>trivial
   | var _=>trivial
   | pre _ _=>trivial
   | map k e =>
    simp only[CT.pack] at k3
    have:=asMap_some k3
    subst this
    have hk:keepC p c=true:=by unfold keepC;rw[k1];rfl
    exact (hR.inv.mem c _ k2).keepM (hσ c hk) (by rw[dropTags_fix];exact Fix.le.refl _) (fun b k e=>by unfold dropTags;rw[e];simp only[dropTag,hk,if_true]) (fun _ _ _ _ h=>h)
   | mapv k ea l =>
    simp only[CT.pack] at k3
    split at k3
    ·rename_i hsame
     have:=isMapv_eq hsame
     subst this
     have hk:keepC p c=true:=by unfold keepC;rw[k1];rfl
     exact (hR.inv.mem c _ k2).keepMv (hσ c hk) (by rw[dropTags_fix];exact Fix.le.refl _) (fun b k e=>by unfold dropTags;rw[e];simp only[dropTag,hk,if_true]) (fun _ _ _ _ h=>h)
    ·cases k3
   | row e =>
    cases cell with
    | row e' l =>
     simp only[CT.pack,Cell.asRow] at k3
     split at k3
     ·rename_i he
      subst he
      cases k3
      have hk:keepC p c=true:=by unfold keepC;rw[k1];rfl
      refine (hR.inv.mem c _ k2).keep (hσ c hk) (by rw[dropTags_fix];exact Fix.le.refl _) (fun b k e=>⟨?_,rfl,rfl⟩) fun b k e=>?_
      ·unfold dropTags;rw[e];simp only[dropTag,hk,if_true]
      ·unfold dropTags;rw[e];simp only[dropTag,hk,if_true]
     ·cases k3
    | _=>simp[CT.pack,Cell.asRow] at k3
  ·show p.pend.length=_∧_
   rw[← hpend];exact hR.inv.plen
  ·intro i r hr
   obtain⟨b,rec,e1,e2,e3,e4,e5,e6,e7,e8,e9,e10⟩:=hR.inv.loop i r hr
   refine⟨b,rec,e1,by unfold dropTags;rw[e2];rfl,e3,e4,e5,e6,e7,e8,fun t=>?_,by show (p.pend[i]?).map loopState=_;rw[← hpend];exact e10⟩
   rw[dropTags_fix]
   exact (e9 t).cut (Fix.le.refl _) (fun _ _ _ x=>x) fun q hq b' e'=>hb q (hA r (List.mem_of_getElem? hr) q (mem_getT hq)) b' e'
  ·show (unpackTm A.nt p.tmps x1).length=_
   rw[unpackTm_length];exact hR.nt.symm
  ·intro t
   rw[dropTags_fix]
   refine (unpackTm_rep (ow:=fun t=>T.own (.tmp t)) hR.tm p.tmps h1 (fun c hc b e=>hσ c (hptr' c (.inl hc)) b e) t).mono (Fix.le.refl _) (fun _ _ x=>x) (fun _ _ x=>x) fun q b o e=>?_
   have e':T b o=.spare (.tmp t) q:=e
   show dropTags p T b o=_
   unfold dropTags;rw[e'];rfl
  ·intro d hd
   obtain⟨D,e1,e2,e3⟩:=hR.marks d hd
   exact⟨D,e1,e2,fun o=>by unfold dropTags;rw[e3];rfl⟩
 ·cases h
theorem Rel.pack (hR:Rel X T σ lm A ro s a w) (hA:AmbOk A) {p:Tpl} {x:p.ty.den} (h:p.pack A.base s=some x):GoTo X T σ lm A ro w (p.unpack A.nt x) a w:=by
 obtain⟨T1,σ1,K1,m1,R1⟩:=Rel.align hA p _ hR
 exact GoTo.trans K1 m1 (R1.pack0 hA h)
def landOf (n:Nat) (l:List (AE×Tpl)) (y:(exitsTy l).den):Option (AE×St):=unpackEx n l y fun e s=>some (e,s)
theorem unpackEx_land {R:Type} {n:Nat}:∀ (l:List (AE×Tpl)) (y:(exitsTy l).den) (k:AE→St→Option R),unpackEx n l y k=(landOf n l y).bind fun p=>k p.1 p.2:=by
 intro l
 induction l with
 | nil=>intro y k;rfl
 | cons a l ih =>
  intro y k
  cases l with
  | nil=>rfl
  | cons b l =>
   cases y with
   | inl x=>rfl
   | inr y=>exact ih y k
theorem packEx_some {n:Nat} {bs:Nat} {e:AE}:∀ (l:List (AE×Tpl)) {y:(exitsTy l).den},packEx l bs e s=some y→∃ p x,Tpl.pack p bs s=some x∧landOf n l y=some (e,p.unpack n x):=by
 intro l
 induction l with
 | nil=>intro y h;cases h
 | cons a l ih =>
  intro y h
  cases l with
  | nil =>
   simp only[packEx] at h
   split at h
   ·rename_i he
    exact⟨a.2,y,h,by simp[landOf,unpackEx,he]⟩
   ·cases h
  | cons b l =>
   simp only[packEx] at h
   split at h
   ·rename_i he
    cases hx:a.2.pack bs s with
    | some x =>
     simp only[hx] at h
     cases h
     exact⟨a.2,x,hx,by simp[landOf,unpackEx,he]⟩
    | none =>
     simp only[hx] at h
     obtain⟨z,h1,h⟩:=bind_some h
     cases h
     obtain⟨p,x,h2,h3⟩:=ih h1
     exact⟨p,x,h2,h3⟩
   ·obtain⟨z,h1,h⟩:=bind_some h
    cases h
    obtain⟨p,x,h2,h3⟩:=ih h1
    exact⟨p,x,h2,h3⟩
theorem Rel.packEx (hR:Rel X T σ lm A ro s a w) (hA:AmbOk A) {l:List (AE×Tpl)} {e:AE} {y:(exitsTy l).den} (h:packEx l A.base e s=some y):∃ s',landOf A.nt l y=some (e,s')∧GoTo X T σ lm A ro w s' a w:=by
 obtain⟨p,x,h1,h2⟩:=packEx_some (n:=A.nt) l h
 exact⟨_,h2,hR.pack hA h1⟩
end
end Go.Am
namespace Go.Am
open Go
def noCells:Obj→Prop
 | .cells ..=>False
 | _=>True
theorem cell_putObj {w:World} {b x y:Nat} {ob ob':Obj} (hh:w.heap[b]?=some ob) (hn:noCells ob) (hn':noCells ob') :
  (w.putObj b ob').cell? ⟨x,y,none⟩=w.cell? ⟨x,y,none⟩∧(w.putObj b ob').frozen? ⟨x,y,none⟩=w.frozen? ⟨x,y,none⟩:=by
 by_cases hx:x=b
 ·subst hx
  have hlt:x<w.heap.size:=(Array.getElem?_eq_some_iff.1 hh).1
  simp only[World.cell?,World.frozen?,World.putObj_heap_same hlt,hh]
  cases ob <;> cases ob' <;> first | exact⟨rfl,rfl⟩ | exact hn.elim | exact hn'.elim
 ·simp only[World.cell?,World.frozen?,World.putObj_heap_other hx,and_self]
section
variable {T:Tags} {σ lm:Nat→Option Nat} {h:List Cell} {ls:List LoopRec} {ps:List (Option AE)} {w:World}
theorem keeps_putObj {T':Tags} {b:Nat} {ob ob':Obj} (hh:w.heap[b]?=some ob) (hn:noCells ob) (hn':noCells ob') (hm:∃ o,(T b o).mine=true)
  (hf:∀ b o v,T b o=.fixed v→T' b o=.fixed v) (hfr:∀ b o,T b o=.free→T' b o=.free):Keeps T w T' (w.putObj b ob'):={
 os:=rfl
 tape:=rfl
 output:=rfl
 size:=by simp
 fixed:=hf
 free:=fun b o _=>hfr b o
 cell:=fun x o _ _=>cell_putObj hh hn hn'
 block:=fun x _ hx=>by
  refine World.putObj_heap_other fun e=>?_
  subst e
  obtain⟨o,ho⟩:=hm
  rw[hx o] at ho;cases ho }
theorem loop_block_inj (I:Inv T σ lm h ls ps w) {i j:Nat} {b:Nat} {r r':LoopRec} (hi:ls[i]?=some r) (hj:ls[j]?=some r') (h1:lm i=some b) (h2:lm j=some b):i=j:=by
 obtain⟨b1,_,e1,e2,_⟩:=I.loop i r hi
 obtain⟨b2,_,f1,f2,_⟩:=I.loop j r' hj
 rw[h1] at e1;cases e1
 rw[h2] at f1;cases f1
 rw[e2] at f2
 cases f2;rfl
theorem Inv.putLoop (I:Inv T σ lm h ls ps w) {l b:Nat} {r:LoopRec} {rec:Loop} {st:LoopState} {pd:Option Code} {p:Option AE} (hr:ls[l]?=some r) (hb:lm l=some b) (hh:w.heap[b]?=some (.loop rec)) (hp:loopState p=(st,pd)) :
  Inv T σ lm h ls (ps.set l p) (w.putObj b (.loop { rec with state:=st,pending:=pd })):=by
 have hc:=fun x y=>cell_putObj (w:=w) (x:=x) (y:=y) (ob':=.loop { rec with state:=st,pending:=pd }) hh trivial trivial
 have hlt:b<w.heap.size:=(Array.getElem?_eq_some_iff.1 hh).1
 refine⟨?_,?_,?_,I.dom,?_,fun c x hx=>(I.mem c x hx).keep (fun _ h=>h) (Fix.le.refl _) (fun b k e=>⟨e,hc b k⟩) (fun _ _ e=>e) (fun b' es ck _ h=>by rw[World.putObj_heap_other (fun e=>by subst e;rw[hh] at h;cases h)];exact h),?_,?_⟩
 ·intro x o v e;rw[(hc x o).1];exact I.fixed x o v e
 ·intro x o m j e;rw[(hc x o).1,(hc x o).2];exact I.spare x o m j e
 ·intro x o e;rw[World.putObj_size];exact I.live x o e
 ·intro c q hq
  obtain⟨x,h1,h2,h3⟩:=I.var c q hq
  refine⟨x,h1,by rw[World.putObj_size];exact h2,fun j av hj=>?_⟩
  obtain⟨v,e1,e2,e3,e4⟩:=h3 j av hj
  exact⟨v,by rw[(hc x j).1];exact e1,by rw[(hc x j).2];exact e2,e3,e4⟩
 ·rw[List.length_set];exact I.plen
 ·intro i r' hr'
  by_cases hil:i=l
  ·subst hil
   rw[hr] at hr';cases hr'
   obtain⟨x,rec',e1,e2,e3,e4,e5,e6,e7,e8,e9,e10⟩:=I.loop i r hr
   rw[hb] at e1;cases e1
   rw[hh] at e3;cases e3
   refine⟨b,_,hb,e2,World.putObj_heap_same hlt,e4,e5,e6,e7,e8,e9,?_⟩
   rw[List.getElem?_set,if_pos rfl,if_pos (by rw[I.plen.1];exact lt_of_get hr)]
   simp[hp]
  ·obtain⟨x,rec',e1,e2,e3,e4,e5,e6,e7,e8,e9,e10⟩:=I.loop i r' hr'
   have hne:x≠b:=fun e=>hil (loop_block_inj I hr' hr (by rw[e1,e]) hb)
   refine⟨x,rec',e1,e2,by rw[World.putObj_heap_other hne];exact e3,e4,e5,e6,e7,e8,e9,?_⟩
   rw[List.getElem?_set_ne (fun e=>hil e.symm)];exact e10
theorem Inv.putMark (I:Inv T σ lm h ls ps w) {D:Nat} {ob ob':Obj} (hh:w.heap[D]?=some ob) (hn:noCells ob) (hn':noCells ob') (hm:∀ o,T D o=.mark):Inv T σ lm h ls ps (w.putObj D ob'):=by
 have hc:=fun x y=>cell_putObj (w:=w) (x:=x) (y:=y) (ob':=ob') hh hn hn'
 refine⟨?_,?_,?_,I.dom,?_,fun c x hx=>(I.mem c x hx).keep (fun _ h=>h) (Fix.le.refl _) (fun b k e=>⟨e,hc b k⟩) (fun _ _ e=>e) (fun b' es ck e h=>by rw[World.putObj_heap_other (fun e'=>by subst e';have:=e 0;rw[hm] at this;cases this)];exact h),I.plen,?_⟩
 ·intro x o v e;rw[(hc x o).1];exact I.fixed x o v e
 ·intro x o m j e;rw[(hc x o).1,(hc x o).2];exact I.spare x o m j e
 ·intro x o e;rw[World.putObj_size];exact I.live x o e
 ·intro c q hq
  obtain⟨x,h1,h2,h3⟩:=I.var c q hq
  refine⟨x,h1,by rw[World.putObj_size];exact h2,fun j av hj=>?_⟩
  obtain⟨v,e1,e2,e3,e4⟩:=h3 j av hj
  exact⟨v,by rw[(hc x j).1];exact e1,by rw[(hc x j).2];exact e2,e3,e4⟩
 ·intro i r hr
  obtain⟨x,rec',e1,e2,e3,e4⟩:=I.loop i r hr
  have hne:x≠D:=fun e=>by rw[e,hm] at e2;cases e2
  exact⟨x,rec',e1,e2,by rw[World.putObj_heap_other hne];exact e3,e4⟩
end
section
variable {F:Fix} {σ lm lm':Nat→Option Nat}
mutual
theorem Rep.calm {ow:Own} {v:AV} {u:Value} (h:Rep F σ lm ow v u) (hc:v.calm=true):Rep F σ lm' ow v u:=by
 cases h with
 | int _ k n=>exact .int ..
 | bool _ b=>exact .bool ..
 | str _ s=>exact .str ..
 | slice _ own e xs a cap h1 h2 h3=>exact .slice _ _ _ _ _ _ h1 h2 h3
 | nil=>exact .nil _
 | ptr _ c off b h=>exact .ptr _ _ _ _ h
 | nilptr=>exact .nilptr _
 | cptr _ l a vs h hx=>exact .cptr _ _ _ _ (RepL.calm h (by simpa[AV.calm] using hc)) hx
 | func _ g a b va vb ha hb =>
  simp only[AV.calm,Bool.and_eq_true] at hc
  exact .func _ _ _ _ _ _ (RepL.calm ha hc.1) (RepL.calm hb hc.2)
 | yield _ l r h=>simp[AV.calm] at hc
 | nilfunc=>exact .nilfunc _
 | map _ c b h=>exact .map _ _ _ h
 | nilmap=>exact .nilmap _
 | iface _ t v u h=>exact .iface _ _ _ _ (Rep.calm h (by simpa[AV.calm] using hc))
 | niliface=>exact .niliface _
 | agg _ l vs h=>exact .agg _ _ _ (RepL.calm h (by simpa[AV.calm] using hc))
 | tuple _ l vs h=>exact .tuple _ _ _ (RepC.calm h (by simpa[AV.calm] using hc))
 | hs _ c e lo len u h=>exact .hs _ _ _ _ _ _ h
 | rptr _ c e i off p h=>exact .rptr _ _ _ _ _ _ h
 | void _ a=>exact .void _ _
 | top _ v=>exact .top _ _
theorem RepL.calm {l:List AV} {vs:List Value} (h:RepL F σ lm l vs) (hc:calmL l=true):RepL F σ lm' l vs:=by
 cases h with
 | nil=>exact .nil
 | cons a v l vs h t =>
  simp only[calmL,Bool.and_eq_true] at hc
  exact .cons _ _ _ _ (Rep.calm h hc.1) (RepL.calm t hc.2)
theorem RepC.calm {ow:Own} {j:Nat} {l:List AV} {vs:List Value} (h:RepC F σ lm ow j l vs) (hc:calmL l=true):RepC F σ lm' ow j l vs:=by
 cases h with
 | nil=>exact .nil _ _
 | cons _ _ a v l vs h t =>
  simp only[calmL,Bool.and_eq_true] at hc
  exact .cons _ _ _ _ _ _ (Rep.calm h hc.1) (RepC.calm t hc.2)
end
theorem calm_get {l:List AV} (h:calmL l=true) {i:Nat} {v:AV} (hi:l[i]?=some v):v.calm=true:=by
 induction l generalizing i with
 | nil=>simp at hi
 | cons x l ih =>
  simp only[calmL,Bool.and_eq_true] at h
  cases i with
  | zero=>simp at hi;subst hi;exact h.1
  | succ i=>exact ih h.2 (by simpa using hi)
theorem calm_getT {l:List AV} (h:calmL l=true) (t:Nat):(getT l t).calm=true:=by
 unfold getT
 rw[List.getD_eq_getElem?_getD]
 cases e:l[t]? with
 | none=>rfl
 | some v=>exact calm_get h e
end
section
variable {X:Ext} {T:Tags} {σ lm:Nat→Option Nat} {A:Amb} {ro:Option Nat} {s:St} {a:Act} {w:World}
theorem Rel.putLoop (hR:Rel X T σ lm A ro s a w) {l b:Nat} {r:LoopRec} {rec:Loop} {st:LoopState} {pd:Option Code} {p:Option AE} (hr:A.loops[l]?=some r) (hb:lm l=some b) (hh:w.heap[b]?=some (.loop rec)) (hp:loopState p=(st,pd)) :
  Keeps T w T (w.putObj b (.loop { rec with state:=st,pending:=pd }))∧Rel X T σ lm A ro { s with pend:=s.pend.set l p } a (w.putObj b (.loop { rec with state:=st,pending:=pd })):=by
 obtain⟨x,rec',e1,e2,e3,_⟩:=hR.inv.loop l r hr
 rw[hb] at e1;cases e1
 refine⟨keeps_putObj hh trivial trivial ⟨0,by rw[e2];rfl⟩ (fun _ _ _ e=>e) (fun _ _ e=>e),⟨hR.inv.putLoop hr hb hh hp,hR.len,hR.nt,hR.tm,fun d hd=>?_,hR.nodup,hR.round,hR.glob⟩⟩
 obtain⟨D,f1,f2,f3⟩:=hR.marks d hd
 exact⟨D,f1,by rw[World.putObj_heap_other (fun e=>by rw[e] at f3;have:=f3 0;rw[e2] at this;cases this)];exact f2,f3⟩
def enterTags (T:Tags) (n L:Nat):Tags:=T.new n fun o=>if o=0 then .loop L else .free
def enterLm (lm:Nat→Option Nat) (L b:Nat):Nat→Option Nat:=fun i=>if i=L then some b else lm i
def enterWorld (w:World) (fn:FuncId) (tmps:Array Value) (ps:Array Tmp) (assign body:Code) (df:Nat):World :=
 w.alloc (.loop { state:=.ready,pending:=none,fn,tmps,params:=ps,assign,body,defers:=df })
theorem Rel.mark (hR:Rel X T σ lm A ro s a w):Keeps T w (T.new w.heap.size fun _=>.mark) (w.alloc (.deferred (some []))) ∧
  Rel X (T.new w.heap.size fun _=>.mark) σ lm A ro s { a with defers:=[{ target:=.collected w.heap.size,args:=#[] }] ++ a.defers } (w.alloc (.deferred (some []))):=by
 have R:=hR.alloc (.deferred (some [])) (fun _=>.mark) (fun o v e=>by cases e) (fun o l j e=>by cases e)
 refine⟨hR.inv.keeps_alloc _ _,⟨R.inv,R.len,R.nt,R.tm,fun d hd=>?_,?_,R.round,R.glob⟩⟩
 ·rcases List.mem_append.1 hd with hd | hd
  ·simp at hd
   subst hd
   exact⟨w.heap.size,rfl,World.alloc_heap_new w _,fun o=>by simp[Tags.new]⟩
  ·exact R.marks d hd
 ·refine List.pairwise_append.2 ⟨by simp,hR.nodup,fun d hd d' hd' D D' h1 h2 e=>?_⟩
  simp at hd
  subst hd
  simp at h1
  subst h1;subst e
  obtain⟨D2,f1,f2,f3⟩:=hR.marks d' hd'
  rw[f1] at h2
  simp at h2
  subst h2
  exact absurd (hR.inv.live _ 0 (by rw[f3];simp)) (Nat.lt_irrefl _)
theorem Inv.enter (hR:Rel X T σ lm A ro s a w) (fn fn':FuncId) (ps:Array Tmp) (assign body:Code) (df:Nat) (hL:s.pend.length=A.loops.length) :
  Inv (enterTags T w.heap.size A.loops.length) σ (enterLm lm A.loops.length w.heap.size) s.heap (A.loops ++ [{ fn:=fn',tmps:=s.tmps.map AV.dull,params:=ps.toList,assign:=assign,body:=body }]) (s.pend ++ [none]) (enterWorld w fn a.tmps ps assign body df) ∧
  Keeps T w (enterTags T w.heap.size A.loops.length) (enterWorld w fn a.tmps ps assign body df):=by
 have I2:=hR.inv.alloc (.loop { state:=.ready,pending:=none,fn,tmps:=a.tmps,params:=ps,assign,body,defers:=df }) (fun o=>if o=0 then .loop A.loops.length else .free) (fun o v e=>by split at e <;> cases e) (fun o l j e=>by split at e <;> cases e)
 refine⟨?_,hR.inv.keeps_alloc _ _⟩
 have hlm:∀ i b,lm i=some b→enterLm lm A.loops.length w.heap.size i=some b:=fun i b e=>by
  unfold enterLm
  rw[if_neg];exact e
  intro h
  have:=hR.inv.plen.2 i b e
  omega
 have hle:Fix.le T.fix (enterTags T w.heap.size A.loops.length).fix:=hR.inv.le_new _
 refine⟨I2.fixed,I2.spare,I2.live,I2.dom,fun c l hc=>?_,I2.mem,⟨by simp[hL],fun i b e=>?_⟩,fun i r hr=>?_⟩
 ·obtain⟨b,h1,h2,h3⟩:=I2.var c l hc
  refine⟨b,h1,h2,fun j av hj=>?_⟩
  obtain⟨v,e1,e2,e3,e4⟩:=h3 j av hj
  exact⟨v,e1,e2,e3,e4.mono (Fix.le.refl _) (fun _ _ x=>x) hlm (fun _ _ _ x=>x)⟩
 ·unfold enterLm at e
  split at e
  ·rename_i hi;subst hi;simp
  ·have:=hR.inv.plen.2 i b e;simp;omega
 ·rw[List.getElem?_append] at hr
  split at hr
  ·rename_i hi
   obtain⟨b,rec,e1,e2,e3,e4,e5,e6,e7,e8,e9,e10⟩:=I2.loop i r hr
   refine⟨b,rec,hlm i b e1,e2,e3,e4,e5,e6,e7,e8,fun t=>(e9 t).mono (Fix.le.refl _) (fun _ _ x=>x) hlm (fun _ _ _ x=>x),?_⟩
   rw[List.getElem?_append_left (by omega)];exact e10
  ·rename_i hi
   have hi0:i-A.loops.length=0:=by
    have:=lt_of_get hr
    simp at this;omega
   have hiL:i=A.loops.length:=by omega
   rw[hi0] at hr
   simp at hr
   subst hr;subst hiL
   refine⟨w.heap.size,{ state:=.ready,pending:=none,fn,tmps:=a.tmps,params:=ps,assign,body,defers:=df },by simp[enterLm],by simp[enterTags,Tags.new],?_,trivial,by simp,rfl,rfl,by simp[hR.len],fun t=>?_,by rw[← hL];simp[loopState]⟩
   ·exact World.alloc_heap_new w _
   ·have hd:getT (s.tmps.map AV.dull) t=(getT s.tmps t).dull:=by
     unfold getT
     rw[List.getD_eq_getElem?_getD,List.getD_eq_getElem?_getD,List.getElem?_map]
     cases s.tmps[t]? <;> rfl
    simp only[hd]
    exact ((hR.tm t).dull (ow':=noOwn)).mono hle (fun _ _ x=>x) hlm (fun _ _ _ x=>x)
def leaveTags (T:Tags) (l:Nat):Tags:=fun b o=>if b=l then .free else T b o
theorem Rel.leave {T':Tags} {σ':Nat→Option Nat} {w3:World} {h':List Cell} {ps':List (Option AE)} {fn fn':FuncId} {ps:Array Tmp} {assign body:Code} {p:Option AE} {df:Nat} (hR:Rel X T σ lm A ro s a w) (hL:s.pend.length=A.loops.length)
  (C:CallPost (enterTags T w.heap.size A.loops.length) σ (enterWorld w fn a.tmps ps assign body df) s.heap T' σ' (enterLm lm A.loops.length w.heap.size) w3 h' (A.loops ++ [{ fn:=fn',tmps:=s.tmps.map AV.dull,params:=ps.toList,assign:=assign,body:=body }]) ps')
  (hp:ps'[A.loops.length]?=some p) (hb:p≠some .normal) (hcalm:∀ x∈h',x.calm=true) (hcalm2:∀ r∈A.loops,calmL r.tmps=true) :
  ∃ w4,(Instr.endLoop w.heap.size).run X.P w3=.ok (loopState p).2 w4 ∧
   StepTo X T σ lm A ro w { s with heap:=h',pend:=ps'.take A.loops.length } a w4:=by
 obtain⟨I1,K1⟩:=Inv.enter hR fn fn' ps assign body df hL
 have hlast:(A.loops ++ [({ fn:=fn',tmps:=s.tmps.map AV.dull,params:=ps.toList,assign:=assign,body:=body }:LoopRec)])[A.loops.length]?=some { fn:=fn',tmps:=s.tmps.map AV.dull,params:=ps.toList,assign:=assign,body:=body }:=by simp
 obtain⟨b,rec,e1,e2,e3,e4,e5,e6,e7,e8,e9,e10⟩:=C.inv.loop _ _ hlast
 have hbe:b=w.heap.size:=by simp[enterLm] at e1;exact e1.symm
 subst hbe
 rw[hp] at e10
 simp only[Option.map_some,Option.some.injEq] at e10
 have hst:rec.state≠.busy∧rec.pending=(loopState p).2:=by
  rw[e10]
  refine⟨fun hbz=>?_,rfl⟩
  have hx:(loopState p).1=.busy:=by rw[e10];exact hbz
  cases p with
  | none=>simp[loopState] at hx
  | some e=>cases e <;> first | exact hb rfl | simp[loopState] at hx
 have hsize:(enterWorld w fn a.tmps ps assign body df).heap.size=w.heap.size+1:=by simp[enterWorld]
 have hoff:∀ o,T' (w.heap.size) o≠.mark∧(∀ v,T' (w.heap.size) o≠.fixed v):=by
  intro o
  refine⟨fun h=>?_,fun v h=>?_⟩
  ·by_cases ho:o=0
   ·subst ho;rw[e2] at h;cases h
   ·have:=C.keeps.free (w.heap.size) o (by omega) (by simp[enterTags,Tags.new,ho])
    rw[this] at h;cases h
  ·have:=C.inv.fixed _ o v h
   simp[World.cell?,e3] at this
 refine⟨w3.putObj (w.heap.size) (.loop { rec with state:=.exhausted }),?_,?_⟩
 ·rw[run_endLoop e3 hst.1,hst.2]
 have hc:=fun x y=>cell_putObj (w:=w3) (x:=x) (y:=y) (ob':=.loop { rec with state:=.exhausted }) e3 trivial trivial
 have hle:Fix.le T'.fix (leaveTags T' (w.heap.size)).fix:=fun x o v e=>by
  rw[Tags.fix_eq] at e ⊢
  unfold leaveTags
  rw[if_neg];exact e
  intro h;subst h;exact (hoff o).2 v e
 have hleT:Fix.le T.fix T'.fix:=fun x o v e=>by
  rw[Tags.fix_eq] at e ⊢
  exact C.keeps.fixed _ _ _ (K1.fixed _ _ _ e)
 have hs:∀ c x,σ c=some x→σ' c=some x:=fun c x e=>by
  obtain⟨l,hl,_⟩:=hR.inv.dom c x e
  exact C.sig c (lt_of_get hl) x e
 have hK3:Keeps T' w3 (leaveTags T' (w.heap.size)) (w3.putObj (w.heap.size) (.loop { rec with state:=.exhausted })):=by
  refine keeps_putObj e3 trivial trivial ⟨0,by rw[e2];rfl⟩ (fun x o v e=>?_) (fun x o e=>?_)
  ·unfold leaveTags
   rw[if_neg];exact e
   intro h;subst h;exact (hoff o).2 v e
  ·unfold leaveTags;split
   ·rfl
   ·exact e
 have hlm:∀ i x,i<A.loops.length→enterLm lm A.loops.length w.heap.size i=some x→lm i=some x:=fun i x hi e=>by
  unfold enterLm at e
  rw[if_neg (by omega)] at e;exact e
 refine⟨leaveTags T' (w.heap.size),σ',(K1.trans C.keeps).trans hK3,hs,⟨⟨?_,?_,?_,C.inv.dom,?_,?_,?_,?_⟩,hR.len,hR.nt,?_,?_,?_,hR.round,hR.glob.mono fun x o v e=>hle x o v (hleT x o v e)⟩⟩
 ·intro x o v e
  unfold leaveTags at e
  split at e
  ·cases e
  ·rw[(hc x o).1];exact C.inv.fixed x o v e
 ·intro x o m j e
  unfold leaveTags at e
  split at e
  ·cases e
  ·rw[(hc x o).1,(hc x o).2];exact C.inv.spare x o m j e
 ·intro x o e
  unfold leaveTags at e
  split at e
  ·exact absurd rfl e
  ·rw[World.putObj_size];exact C.inv.live x o e
 ·intro c q hq
  obtain⟨x,h1,h2,h3⟩:=C.inv.var c q hq
  refine⟨x,h1,by rw[World.putObj_size];exact h2,fun j av hj=>?_⟩
  obtain⟨v,f1,f2,f3,f4⟩:=h3 j av hj
  have hne:x≠w.heap.size:=fun e=>by
   subst e
   simp[World.cell?,e3] at f1
  have hcl:av.calm=true:=calm_get (hcalm _ (List.mem_of_getElem? hq)) hj
  refine⟨v,by rw[(hc x j).1];exact f1,by rw[(hc x j).2];exact f2,by unfold leaveTags;rw[if_neg hne];exact f3,(f4.mono hle (fun _ _ x=>x) (fun _ _ x=>x) fun q b' o' e=>?_).calm hcl⟩
  have e':T' b' o'=.spare (.leaf c j) q:=e
  show leaveTags T' _ b' o'=_
  unfold leaveTags
  rw[if_neg];exact e'
  intro h;subst h
  have:=(C.inv.spare _ _ _ _ e').1
  simp[World.cell?,e3] at this
 ·intro c x hx
  refine (C.inv.mem c x hx).keep (fun _ h=>h) hle (fun b k e=>⟨?_,hc b k⟩) (fun b k e=>?_) (fun b' es ck _ h=>by rw[World.putObj_heap_other (fun e=>by subst e;rw[e3] at h;cases h)];exact h)
  ·unfold leaveTags
   rw[if_neg];exact e
   intro h;subst h
   by_cases ho:k=0
   ·subst ho;rw[e2] at e;cases e
   ·have:=C.keeps.free (w.heap.size) k (by omega) (by simp[enterTags,Tags.new,ho])
    rw[this] at e;cases e
  ·unfold leaveTags
   rw[if_neg];exact e
   intro h;subst h
   have:=(C.inv.spare _ _ _ _ e).1
   simp[World.cell?,e3] at this
 ·have h1:=C.inv.plen.1
  simp at h1
  exact⟨by simp;omega,hR.inv.plen.2⟩
 ·intro i r hr
  have hi:=lt_of_get hr
  obtain⟨x,rec',f1,f2,f3,f4,f5,f6,f7,f8,f9,f10⟩:=C.inv.loop i r (by rw[List.getElem?_append_left hi];exact hr)
  have hne:x≠w.heap.size:=fun e=>by
   subst e;rw[e2] at f2;cases f2;omega
  refine⟨x,rec',hlm i x hi f1,by unfold leaveTags;rw[if_neg hne];exact f2,by rw[World.putObj_heap_other hne];exact f3,f4,f5,f6,f7,f8,fun t=>?_,by rw[List.getElem?_take,if_pos hi];exact f10⟩
  exact ((f9 t).mono hle (fun _ _ x=>x) (fun _ _ x=>x) (fun _ _ _ x=>x)).calm (calm_getT (hcalm2 r (List.mem_of_getElem? hr)) t)
 ·intro t
  refine (hR.tm t).mono (fun x o v e=>hle x o v (hleT x o v e)) hs (fun _ _ x=>x) fun q b' o' e=>?_
  have e':T b' o'=.spare (.tmp t) q:=e
  have hlt:b'<w.heap.size:=hR.inv.live b' o' (by rw[e'];simp)
  have h1:enterTags T w.heap.size A.loops.length b' o'=.spare (.tmp t) q:=by
   simp only[enterTags,Tags.new]
   rw[if_neg (by omega)];exact e'
  show leaveTags T' _ b' o'=_
  unfold leaveTags
  rw[if_neg (by omega)]
  exact C.tmp _ _ _ _ h1
 ·intro d hd
  obtain⟨D,f1,f2,f3⟩:=hR.marks d hd
  have hlt:D<w.heap.size:=hR.inv.live D 0 (by rw[f3];simp)
  have hm:∀ o,enterTags T w.heap.size A.loops.length D o=.mark:=fun o=>by
   simp only[enterTags,Tags.new]
   rw[if_neg (by omega)];exact f3 o
  obtain⟨k1,k2⟩:=C.mark D (by omega) hm
  refine⟨D,f1,?_,fun o=>by unfold leaveTags;rw[if_neg (by omega)];exact k1 o⟩
  rw[World.putObj_heap_other (by omega),k2]
  unfold enterWorld
  rw[heap_alloc_lt hlt]
  exact f2
 ·exact hR.nodup
end
end Go.Am
namespace Go.Am
open Go
variable {X:Ext} {rec:Rec}
def exitOf:AE→Exit
 | .normal=>.normal
 | .exit id=>.exit id
 | .ret=>.ret
def LoopAt (F:Fence) (P:Program) (c:Code) (Q:Exit→Act→World→Prop) (a:Act) (w:World):Prop :=
 ∀ (b:Frame) (k:List Item) (cs:List Frame),b.roundOf=F.round→F.fn b.fn→F.room (cs.length+1+0) →
  ∃ e a' w',Q e a' w'∧ArrivesIn (Machine.fenced P F) P (lone (b.atR a (.code c :: .inLoop c :: k)) cs w) b k cs e a' w'
theorem loop_of_at {F:Fence} {P:Program} {c:Code} {Q:Exit→Act→World→Prop} {a:Act} {w:World} (h:LoopAt F P c Q a w):(Code.loop c).wpIn F 0 P Q a w:=by
 intro b k cs hro hb hr
 obtain⟨e,a',w',hq,harr⟩:=h b k cs hro hb hr
 exact⟨e,a',w',hq,.of_steps (.one (fenced_calm hb hr rfl) stepR_loop) harr⟩
theorem at_step {F:Fence} {P:Program} {c:Code} {Q:Exit→Act→World→Prop} {a:Act} {w:World} (h:c.wpIn F 0 P (Exit.then (LoopAt F P c Q) Q) a w):LoopAt F P c Q a w:=by
 intro b k cs hro hb hr
 obtain⟨e,a₁,w₁,hq,harr⟩:=h b (.inLoop c :: k) cs hro hb hr
 cases e with
 | normal =>
  obtain⟨e₂,a₂,w₂,hq₂,harr₂⟩:=hq b k cs hro hb hr
  exact⟨e₂,a₂,w₂,hq₂,.of_steps (StepsIn.trans harr (.one (fenced_calm hb hr rfl) stepR_inLoop)) harr₂⟩
 | exit id=>exact⟨_,a₁,w₁,hq,.pass (x:=.inLoop c) rfl (fun _ _=>.inl (by simp)) harr⟩
 | goto l=>exact⟨_,a₁,w₁,hq,.pass (x:=.inLoop c) rfl (fun _ _=>.inl (by simp)) harr⟩
 | ret=>exact⟨_,a₁,w₁,hq,.pass (x:=.inLoop c) rfl (fun _ _=>.inl (by simp)) harr⟩
 | panic ch=>exact⟨_,a₁,w₁,hq,.pass (x:=.inLoop c) rfl (fun _ _=>.inl (by simp)) harr⟩
 | outgrown=>exact⟨_,a₁,w₁,hq,.pass (x:=.inLoop c) rfl (fun _ _=>.inl (by simp)) harr⟩
def CodeOk (X:Ext) (A:Amb) (c:Code) (s:St) (e:AE) (s':St):Prop :=
 ∀ (T:Tags) (σ lm:Nat→Option Nat) (ro:Option Nat) (a:Act) (w:World),Rel X T σ lm A ro s a w→∀ Q,(∀ a' w',GoTo X T σ lm A ro w s' a' w'→Q (exitOf e) a' w')→c.wpIn (fence ro) 0 X.P Q a w
def LoopROk (X:Ext) (loop:Code→(sh:Shape)→Amb→sh.head.ty.den→Option (exitsTy sh.exits).den):Prop :=
 ∀ (b:Code) (sh:Shape) (A:Amb) x y,AmbOk A→loop b sh A x=some y→∃ e s',landOf A.nt sh.exits y=some (e,s') ∧
  ∀ (T:Tags) (σ lm:Nat→Option Nat) (ro:Option Nat) (a:Act) (w:World),Rel X T σ lm A ro (sh.head.unpack A.nt x) a w→∀ Q,(∀ a' w',GoTo X T σ lm A ro w s' a' w'→Q (exitOf e) a' w')→LoopAt (fence ro) X.P b Q a w
theorem unroll_some {A:Amb} {b:Code} {R:Type} {body:St→(AE→St→Option R)→Option R} (ih:∀ {s:St} {k:AE→St→Option R} {r:R},body s k=some r→∃ e s',k e s'=some r∧CodeOk X A b s e s') :
  ∀ {m:Nat} {s:St} {k:AE→St→Option R} {r:R},unrollK body m s k=some r→∃ e s',k e s'=some r ∧
   ∀ (T:Tags) (σ lm:Nat→Option Nat) (ro:Option Nat) (a:Act) (w:World),Rel X T σ lm A ro s a w→∀ Q,(∀ a' w',GoTo X T σ lm A ro w s' a' w'→Q (exitOf e) a' w')→LoopAt (fence ro) X.P b Q a w:=by
 intro m
 induction m with
 | zero=>intro s k r h;cases h
 | succ m ihm =>
  intro s k r h
  obtain⟨e1,s1,h1,h2⟩:=ih h
  cases e1 with
  | normal =>
   obtain⟨e,s',h3,h4⟩:=ihm h1
   refine⟨e,s',h3,fun T σ lm ro a w hR Q hq=>at_step (h2 T σ lm ro a w hR _ fun a1 w1 hg=>?_)⟩
   obtain⟨T1,σ1,K1,hσ1,R1⟩:=hg
   exact h4 T1 σ1 lm ro a1 w1 R1 Q fun a' w' hg'=>hq a' w' (GoTo.trans K1 hσ1 hg')
  | exit id=>exact⟨.exit id,s1,h1,fun T σ lm ro a w hR Q hq=>at_step (h2 T σ lm ro a w hR _ fun a1 w1 hg=>hq a1 w1 hg)⟩
  | ret=>exact⟨.ret,s1,h1,fun T σ lm ro a w hR Q hq=>at_step (h2 T σ lm ro a w hR _ fun a1 w1 hg=>hq a1 w1 hg)⟩
structure RecOk (X:Ext) (rec:Rec):Prop where
 callT:CallTOk X rec.callT
 callH:CallHOk X rec.callH
 loop:LoopROk X rec.loop
structure ProgOk (X:Ext):Prop extends XOk X where
 mixed:X.P.follows .mixedOrders=true
def noGoto (Q:Exit→Act→World→Prop):Exit→Act→World→Prop
 | .goto _,_,_=>False
 | e,a,w=>Q e a w
theorem stepR_scope {P:Program} {b:Frame} {a:Act} {k:List Item} {cs:List Frame} {w:World} {c:Code}:step P (lone (b.atR a (.code (.scope c) :: k)) cs w)=.next (lone (b.atR a (.code c :: .inScope c :: k)) cs w) :=
 step_lone_go (by simp[stepG,stepG.exec,Frame.atR])
theorem stepR_inScope {P:Program} {b:Frame} {a:Act} {k:List Item} {cs:List Frame} {w:World} {c:Code}:step P (lone (b.atR a (.inScope c :: k)) cs w)=.next (lone (b.atR a k) cs w) :=
 step_lone_go (by simp[stepG,stepG.exec,Frame.atR])
theorem wpIn_scope {F:Fence} {n:Nat} {P:Program} {Q:Exit→Act→World→Prop} {a:Act} {w:World} {c:Code} (h:c.wpIn F n P (noGoto Q) a w):(Code.scope c).wpIn F n P Q a w:=by
 intro b k cs hro hb hr
 have h0:(lone (b.atR a (.code (.scope c) :: k)) cs w).fenced P F:=fenced_calm hb hr rfl
 obtain⟨e,a₁,w₁,hq,harr⟩:=h b (.inScope c :: k) cs hro hb hr
 cases e with
 | normal=>exact⟨.normal,a₁,w₁,hq,.head h0 stepR_scope (StepsIn.trans harr (.one (fenced_calm hb hr rfl) stepR_inScope))⟩
 | exit id' =>
  have hx:exitTo id' (.inScope c :: k)=exitTo id' k:=by simp[exitTo]
  exact⟨.exit id',a₁,w₁,hq,fun k' hk=>.head h0 stepR_scope (harr.1 k' (by rw[hx];exact hk)),
   fun hr' hk=>let ⟨k₁,h1,h2⟩:=harr.2 hr' (by rw[hx];exact hk);⟨k₁,h1,.head h0 stepR_scope h2⟩⟩
 | goto l=>exact hq.elim
 | ret=>exact⟨_,a₁,w₁,hq,.of_steps (.one h0 stepR_scope) harr⟩
 | panic ch=>exact⟨_,a₁,w₁,hq,.of_steps (.one h0 stepR_scope) harr⟩
 | outgrown=>exact⟨_,a₁,w₁,hq,.of_steps (.one h0 stepR_scope) harr⟩
theorem tryShapes_some {R:Type} {b:Nat} {s:St} {go:(sh:Shape)→sh.head.ty.den→Option R} {r:R}:∀ {l:List Shape},tryShapes b s go l=some r→∃ sh x,sh.head.pack b s=some x∧go sh x=some r:=by
 intro l
 induction l with
 | nil=>intro h;cases h
 | cons sh l ih =>
  intro h
  unfold tryShapes at h
  split at h
  ·rename_i x hx;exact⟨sh,x,hx,h⟩
  ·exact ih h
theorem run_enterLoop_in {b0:Nat} {r0:Loop} {w:World} {P:Program} (h:w.heap[b0]?=some (.loop r0)) (fn:FuncId) (tmps:Array Value) (ps:Array Tmp) (as b:Code) :
  (Instr.enterLoop fn tmps ps as b (some b0)).run P w=.ok (w.heap.size,[]) (enterWorld w fn tmps ps as b r0.defers):=by
 unfold Instr.enterLoop enterWorld
 simp only[Sem.run_bind,run_getLoop h,run_newObj_alloc,Result.andThen,Sem.run_pure]
theorem enter_ok (hX:ProgOk X) {A:Amb} {f:Operand} {ps:Array Tmp} {as b:Code} {s:St} {g:FuncId} {p q:List AV} (hf:s.eval X f=.func (.func g) p q) (hL:s.pend.length=A.loops.length) {v:AV} {h':List Cell} {ps':List (Option AE)}
  (h2:∀ T σ lm w us,Inv T σ lm s.heap (A.loops ++ [{ fn:=A.fn,tmps:=s.tmps.map AV.dull,params:=ps.toList,assign:=as,body:=b }]) (s.pend ++ [none]) w→GlobOk X T.fix→RepL T.fix σ lm ((p ++ [AV.func (.yield A.loops.length) [] []] ++ q).map AV.dull) us→CallsOk X.P (.func g) lm us w fun u w'=>∃ T' σ',CallPost T σ w s.heap T' σ' lm w' h' (A.loops ++ [{ fn:=A.fn,tmps:=s.tmps.map AV.dull,params:=ps.toList,assign:=as,body:=b }]) ps'∧Rep T'.fix σ' lm (T'.own .ret) v u)
  {pd:Option AE} (hpd:ps'[A.loops.length]?=some pd) (hpn:pd≠some .normal) (hcalm:∀ x∈h',x.calm=true) (hcalm2:∀ r∈A.loops,calmL r.tmps=true)
  {T:Tags} {σ lm:Nat→Option Nat} {ro:Option Nat} {a:Act} {w:World} (hR:Rel X T σ lm A ro s a w) (fn0:FuncId) (df:Nat) {Q:Exit→Act→World→Prop} (hq:∀ a' w',GoTo X T σ lm A ro w { s with heap:=h',pend:=ps'.take A.loops.length } a' w'→Q (exitOf (pd.getD .normal)) a' w') :
  ∃ (d:Deferred) (w₁':World) (f':FuncId) (args:Array Value) (w₂:World),
   (resolve a.eval (rangeCall f w.heap.size) 0).run X.P (enterWorld w fn0 a.tmps ps as b df)=.ok d w₁'∧(invoke d.target d.args).run X.P w₁'=.ok (.enter f' args) w₂ ∧
   CallsIn (fence none) 0 X.P f' args w₂ (rangePost (fence ro) 0 X.P w.heap.size Q a):=by
 have hr:=hR.eval f
 rw[hf] at hr
 generalize hav:a.eval f=u at hr
 cases hr with
 | func _ g p q vp vq hp1 hq1 =>
 obtain⟨I1,K1⟩:=Inv.enter hR fn0 A.fn ps as b df hL
 have hlm:∀ i b,lm i=some b→enterLm lm A.loops.length w.heap.size i=some b:=fun i b e=>by
  unfold enterLm
  rw[if_neg];exact e
  intro h
  have:=hR.inv.plen.2 i b e
  omega
 have hfix:Fix.le T.fix (enterTags T w.heap.size A.loops.length).fix:=fun x o v e=>by
  rw[Tags.fix_eq] at e ⊢;exact K1.fixed x o v e
 have hargs:RepL (enterTags T w.heap.size A.loops.length).fix σ (enterLm lm A.loops.length w.heap.size) ((p ++ [AV.func (.yield A.loops.length) [] []] ++ q).map AV.dull) (vp ++ [.func (.yield w.heap.size) #[] #[]] ++ vq):=by
  rw[List.map_append,List.map_append]
  refine ((repL_mapdull (hp1.mono hfix (fun _ _ x=>x) hlm)).append ?_).append (repL_mapdull (hq1.mono hfix (fun _ _ x=>x) hlm))
  exact .cons _ _ _ _ (.yield _ _ _ (by simp[enterLm])) .nil
 have hcall:=h2 _ _ _ _ _ I1 (hR.glob.mono hfix) hargs
 obtain⟨fd,cd,hfd,hbd,hcall⟩:=hcall
 refine⟨{ target:=.fn (.func g) vq.toArray,args:=vp.toArray ++ #[.func (.yield w.heap.size) #[] #[]] },enterWorld w fn0 a.tmps ps as b df,g,(vp ++ [Value.func (.yield w.heap.size) #[] #[]] ++ vq).toArray,enterWorld w fn0 a.tmps ps as b df,?_,?_,?_⟩
 ·simp only[resolve,rangeCall,hav,Deferred.ofValue,Sem.run_pure]
  congr 3
  apply Array.ext'
  simp[Act.eval]
 ·simp only[invoke]
  rw[callFunc_enter hfd (hX.name g fd hfd) hbd]
  congr 2
  apply Array.ext'
  simp
 ·refine CallsIn.mono (F:=fence none) (n:=0) hcall fun e w3 hpst=>?_
  cases e with
  | panicked ch=>exact hpst.elim
  | outgrown=>exact hpst.elim
  | returned v3 =>
   obtain⟨T',σ',C,_⟩:=hpst
   obtain⟨w4,hend,hstep⟩:=Rel.leave hR hL C hpd hpn hcalm hcalm2
   refine⟨_,w4,hend,?_⟩
   have hgo:=hq _ _ (GoTo.of_step hstep)
   cases pd with
   | none=>exact hgo
   | some e =>
    cases e with
    | normal=>exact absurd rfl hpn
    | ret=>exact wpIn_ret hgo
    | exit id=>exact wpIn_exit hgo
theorem rangeFunc_ok (hX:ProgOk X) (hrec:RecOk X rec) {R:Type} {A:Amb} {f:Operand} {ps:Array Tmp} {as b:Code} {s:St} {k:AE→St→Option R} {r:R} (h:codeK X rec A (.rangeFunc f ps as b) s k=some r) :
  ∃ e s',k e s'=some r∧CodeOk X A (.rangeFunc f ps as b) s e s':=by
 simp only[codeK] at h
 split at h
 ·rename_i g p q hf
  split at h
  ·rename_i hc
   obtain⟨hL,hbase⟩:=hc
   obtain⟨v,ws,lk,gr,ps',h1,h2⟩:=viaHeapK_some hrec.callH h
   split at h1
   ·rename_i hcalm
    simp only[Bool.and_eq_true,List.all_eq_true] at hcalm
    have main:∀ (pd:Option AE),ps'[A.loops.length]?=some pd→pd≠some .normal→CodeOk X A (.rangeFunc f ps as b) s (pd.getD .normal) { s with heap:=setAll s.heap ws ++ gr,pend:=ps'.take A.loops.length }:=by
     intro pd hpd hpn T σ lm ro a w hR Q hq
     refine wpIn_rangeFunc fun fn0 _=>?_
     cases hro:ro with
     | none =>
      rw[hro] at hR hq
      obtain⟨K0,R0⟩:=hR.mark
      have hsz:(w.alloc (.deferred (some []))).heap.size=w.heap.size+1:=by simp
      obtain⟨d,w1,f',args,w2,e1,e2,e3⟩:=enter_ok hX hf hL h2 hpd hpn hcalm.1 hcalm.2 R0 fn0 w.heap.size fun a' w' hg=>hq a' w' (GoTo.trans K0 (fun _ _ _ e=>e) hg)
      rw[hsz] at e1 e3
      exact⟨w.heap.size+1,[{ target:=.collected w.heap.size,args:=#[] }],_,d,w1,f',args,w2,run_enterLoop_outer fn0 a.tmps ps as b,e1,fun _ _=>trivial,e2,fun e=>by simp[fence,Fence.wide] at e,e3⟩
     | some b0 =>
      rw[hro] at hR hq
      obtain⟨i,r,hr,hb0⟩:=hR.round.2 b0 rfl
      obtain⟨x,lrec,g1,g2,g3,_⟩:=hR.inv.loop i r hr
      rw[hb0] at g1;cases g1
      obtain⟨d,w1,f',args,w2,e1,e2,e3⟩:=enter_ok hX hf hL h2 hpd hpn hcalm.1 hcalm.2 hR fn0 lrec.defers hq
      exact⟨w.heap.size,[],_,d,w1,f',args,w2,run_enterLoop_in g3 fn0 a.tmps ps as b,e1,fun _ _=>trivial,e2,fun e=>by simp[fence,Fence.wide] at e,e3⟩
    split at h1
    ·rename_i hn
     exact⟨_,_,h1,main none hn (by simp)⟩
    ·cases h1
    ·rename_i e hne hn
     exact⟨_,_,h1,main (some e) hn (fun h=>hne (Option.some.inj h))⟩
    ·cases h1
   ·cases h1
  ·cases h
 ·cases h
theorem codeK_some (hX:ProgOk X) (hrec:RecOk X rec) {A:Amb} (hA:AmbOk A) (c:Code):∀ {R:Type} {s:St} {k:AE→St→Option R} {r:R},codeK X rec A c s k=some r→∃ e s',k e s'=some r∧CodeOk X A c s e s':=by
 induction c with
 | skip =>
  intro R s k r h
  exact⟨_,_,h,fun T σ lm ro a w hR Q hq=>wpIn_skip (hq _ _ (GoTo.refl hR))⟩
 | label l =>
  intro R s k r h
  exact⟨_,_,h,fun T σ lm ro a w hR Q hq=>wpIn_label (hq _ _ (GoTo.refl hR))⟩
 | region id ops draw =>
  intro R s k r h
  simp only[codeK] at h
  obtain⟨s',h1,h2⟩:=regionK_some (id:=id) hX.toXOk hX.mixed hrec.callT hrec.callH h
  exact⟨_,_,h1,fun T σ lm ro a w hR Q hq=>h2 T σ lm ro a w hR Q fun a' w' hs=>hq a' w' (GoTo.of_step hs)⟩
 | seq x y ihx ihy =>
  intro R s k r h
  simp only[codeK] at h
  have join:∀ (e1:AE) (s1 s2:St),CodeOk X A x s e1 s1→(∀ (T:Tags) (σ lm:Nat→Option Nat) (ro:Option Nat) (a:Act) (w:World),Rel X T σ lm A ro s1 a w→GoTo X T σ lm A ro w s2 a w) →
    (match e1 with
     | .normal=>codeK X rec A y s2 k
     | e=>k e s2)=some r→∃ e s',k e s'=some r∧CodeOk X A (.seq x y) s e s':=by
   intro e1 s1 s2 hx hs h1
   cases e1 with
   | normal =>
    obtain⟨e,s',h2,h3⟩:=ihy h1
    refine⟨e,s',h2,fun T σ lm ro a w hR Q hq=>wpIn_seq (hx T σ lm ro a w hR _ fun a1 w1 hg=>?_)⟩
    obtain⟨T1,σ1,K1,hσ1,R1⟩:=hg
    obtain⟨T2,σ2,K2,hσ2,R2⟩:=hs T1 σ1 lm ro a1 w1 R1
    have K12:=K1.trans K2
    have hσ12:∀ c,c<A.base→∀ b,σ c=some b→σ2 c=some b:=fun c hc b e=>hσ2 c hc b (hσ1 c hc b e)
    exact h3 T2 σ2 lm ro a1 w1 R2 Q fun a' w' hg'=>hq a' w' (GoTo.trans K12 hσ12 hg')
   | exit id =>
    refine⟨.exit id,s2,h1,fun T σ lm ro a w hR Q hq=>wpIn_seq (hx T σ lm ro a w hR _ fun a1 w1 hg=>?_)⟩
    obtain⟨T1,σ1,K1,hσ1,R1⟩:=hg
    exact hq a1 w1 (GoTo.trans K1 hσ1 (hs T1 σ1 lm ro a1 w1 R1))
   | ret =>
    refine⟨.ret,s2,h1,fun T σ lm ro a w hR Q hq=>wpIn_seq (hx T σ lm ro a w hR _ fun a1 w1 hg=>?_)⟩
    obtain⟨T1,σ1,K1,hσ1,R1⟩:=hg
    exact hq a1 w1 (GoTo.trans K1 hσ1 (hs T1 σ1 lm ro a1 w1 R1))
  split at h
  ·obtain⟨e1,s1,h1,h2⟩:=ihx h
   exact join e1 s1 s1 h2 (fun T σ lm ro a w hR=>GoTo.refl hR) h1
  ·rename_i ex hex
   obtain⟨y1,hy1,h⟩:=bind_some h
   obtain⟨e1,s1,h1,h2⟩:=ihx hy1
   rw[unpackEx_land] at h
   obtain⟨⟨e2,s2⟩,hland,h⟩:=bind_some h
   obtain⟨p,x1,hp1,hp2⟩:=packEx_some (n:=A.nt) ex h1
   rw[hland] at hp2
   cases hp2
   exact join e1 s1 _ h2 (fun T σ lm ro a w hR=>hR.pack hA hp1) h
 | cond c x y ihx ihy =>
  intro R s k r h
  simp only[codeK] at h
  split at h
  ·rename_i t
   split at h
   ·rename_i v hv
    have hs:∀ b,b=v→({ s with tmps:=s.tmps.set t (.bool b) }:St)=s:=fun b e=>by rw[e,set_getT hv (by simp)]
    have hev:∀ (T:Tags) (σ lm:Nat→Option Nat) (ro:Option Nat) (a:Act) (w:World),Rel X T σ lm A ro s a w→a.eval (.tmp t)=.bool v:=fun T σ lm ro a w hR=>by
     have hb':=rel_tmp hR hv
     simp[Act.eval,Array.getD_eq_getD_getElem?,hb']
    rw[br_eq] at h
    split at h
    ·rename_i hvt
     rw[hs true hvt.symm] at h
     obtain⟨e,s',h1,h2⟩:=ihx h
     exact⟨e,s',h1,fun T σ lm ro a w hR Q hq=>wpIn_cond_true (by rw[hev T σ lm ro a w hR,hvt]) (h2 T σ lm ro a w hR Q hq)⟩
    ·rename_i hvf
     have hvf':v=false:=by simpa using hvf
     rw[hs false hvf'.symm] at h
     obtain⟨e,s',h1,h2⟩:=ihy h
     exact⟨e,s',h1,fun T σ lm ro a w hR Q hq=>wpIn_cond_false (by rw[hev T σ lm ro a w hR,hvf']) (h2 T σ lm ro a w hR Q hq)⟩
   ·cases h
  ·rename_i v
   split at h
   ·rename_i hvt
    obtain⟨e,s',h1,h2⟩:=ihx h
    exact⟨e,s',h1,fun T σ lm ro a w hR Q hq=>wpIn_cond_true (by simp[Act.eval,hvt]) (h2 T σ lm ro a w hR Q hq)⟩
   ·rename_i hvf
    have hvf':v=false:=by simpa using hvf
    obtain⟨e,s',h1,h2⟩:=ihy h
    exact⟨e,s',h1,fun T σ lm ro a w hR Q hq=>wpIn_cond_false (by simp[Act.eval,hvf']) (h2 T σ lm ro a w hR Q hq)⟩
  ·cases h
 | block id x ih =>
  intro R s k r h
  simp only[codeK] at h
  obtain⟨e1,s1,h1,h2⟩:=ih h
  cases e1 with
  | normal=>exact⟨.normal,s1,h1,fun T σ lm ro a w hR Q hq=>wpIn_block (h2 T σ lm ro a w hR _ fun a' w' hg=>hq a' w' hg)⟩
  | ret=>exact⟨.ret,s1,h1,fun T σ lm ro a w hR Q hq=>wpIn_block (h2 T σ lm ro a w hR _ fun a' w' hg=>hq a' w' hg)⟩
  | exit id' =>
   simp only at h1
   by_cases hid:id'=id
   ·rw[if_pos hid] at h1
    exact⟨.normal,s1,h1,fun T σ lm ro a w hR Q hq=>wpIn_block (h2 T σ lm ro a w hR _ fun a' w' hg=>by simp only[exitOf,Exit.inBlock,hid,if_true];exact hq a' w' hg)⟩
   ·rw[if_neg hid] at h1
    exact⟨.exit id',s1,h1,fun T σ lm ro a w hR Q hq=>wpIn_block (h2 T σ lm ro a w hR _ fun a' w' hg=>by simp only[exitOf,Exit.inBlock,hid,if_false];exact hq a' w' hg)⟩
 | loop b ih =>
  intro R s k r h
  simp only[codeK] at h
  split at h
  case h_2 m _ =>
   obtain⟨e,s',h1,h2⟩:=unroll_some (fun {s} {k} {r} h=>ih h) h
   exact⟨e,s',h1,fun T σ lm ro a w hR Q hq=>loop_of_at (h2 T σ lm ro a w hR Q hq)⟩
  obtain⟨sh,x,hx,h⟩:=tryShapes_some h
  obtain⟨y,hy,h⟩:=bind_some h
  rw[unpackEx_land] at h
  obtain⟨⟨e2,s2⟩,hland,h⟩:=bind_some h
  obtain⟨e,s',h1,h2⟩:=hrec.loop b sh A x y hA hy
  rw[hland] at h1
  cases h1
  refine⟨e2,s2,h,fun T σ lm ro a w hR Q hq=>loop_of_at ?_⟩
  obtain⟨T1,σ1,K1,hσ1,R1⟩:=hR.pack hA hx
  exact h2 T1 σ1 lm ro a w R1 Q fun a' w' hg=>hq a' w' (GoTo.trans K1 hσ1 hg)
 | exit id =>
  intro R s k r h
  exact⟨_,_,h,fun T σ lm ro a w hR Q hq=>wpIn_exit (hq _ _ (GoTo.refl hR))⟩
 | ret =>
  intro R s k r h
  exact⟨_,_,h,fun T σ lm ro a w hR Q hq=>wpIn_ret (hq _ _ (GoTo.refl hR))⟩
 | rangeFunc f ps as b iha ihb =>
  intro R s k r h
  exact rangeFunc_ok hX hrec h
 | scope b ih =>
  intro R s k r h
  simp only[codeK] at h
  obtain⟨e,s1,h1,h2⟩:=ih h
  exact⟨e,s1,h1,fun T σ lm ro a w hR Q hq=>wpIn_scope (h2 T σ lm ro a w hR _ fun a' w' hg=>by cases e <;> exact hq a' w' hg)⟩
 | goto l=>intro R s k r h;simp[codeK] at h
 | refuse y=>intro R s k r h;simp[codeK] at h
theorem loopD_ok (hX:ProgOk X) (hrec:RecOk X rec):LoopROk X (loopD X rec):=by
 intro b sh A x y hA h
 unfold loopD at h
 obtain⟨e1,s1,h1,h2⟩:=codeK_some hX hrec hA b h
 have out:∀ (hne:e1≠.normal),packEx sh.exits A.base e1 s1=some y→∃ e s',landOf A.nt sh.exits y=some (e,s') ∧
   ∀ (T:Tags) (σ lm:Nat→Option Nat) (ro:Option Nat) (a:Act) (w:World),Rel X T σ lm A ro (sh.head.unpack A.nt x) a w→∀ Q,(∀ a' w',GoTo X T σ lm A ro w s' a' w'→Q (exitOf e) a' w')→LoopAt (fence ro) X.P b Q a w:=by
  intro hne hp
  obtain⟨p,x1,hp1,hp2⟩:=packEx_some (n:=A.nt) sh.exits hp
  refine⟨e1,_,hp2,fun T σ lm ro a w hR Q hq=>at_step (h2 T σ lm ro a w hR _ fun a1 w1 hg=>?_)⟩
  obtain⟨T1,σ1,K1,hσ1,R1⟩:=hg
  have:=hq a1 w1 (GoTo.trans K1 hσ1 (R1.pack hA hp1))
  cases e1 with
  | normal=>exact absurd rfl hne
  | exit id=>exact this
  | ret=>exact this
 cases e1 with
 | normal =>
  simp only at h1
  split at h1
  ·rename_i x1 hx1
   obtain⟨e,s',h3,h4⟩:=hrec.loop b sh A x1 y hA h1
   refine⟨e,s',h3,fun T σ lm ro a w hR Q hq=>at_step (h2 T σ lm ro a w hR _ fun a1 w1 hg=>?_)⟩
   obtain⟨T1,σ1,K1,hσ1,R1⟩:=hg
   obtain⟨T2,σ2,K2,hσ2,R2⟩:=R1.pack hA hx1
   exact h4 T2 σ2 lm ro a1 w1 R2 Q fun a' w' hg'=>hq a' w' (GoTo.trans (K1.trans K2) (fun c hc b e=>hσ2 c hc b (hσ1 c hc b e)) hg')
  ·obtain⟨sh',x1,hx1,h1⟩:=tryShapes_some h1
   obtain⟨y',hy',h1⟩:=bind_some h1
   rw[unpackEx_land] at h1
   obtain⟨⟨e2,s2⟩,hland,h1⟩:=bind_some h1
   obtain⟨e,s',h3,h4⟩:=hrec.loop b sh' A x1 y' hA hy'
   rw[hland] at h3
   cases h3
   obtain⟨p,x3,hp1,hp2⟩:=packEx_some (n:=A.nt) sh.exits h1
   refine⟨e2,_,hp2,fun T σ lm ro a w hR Q hq=>at_step (h2 T σ lm ro a w hR _ fun a1 w1 hg=>?_)⟩
   obtain⟨T1,σ1,K1,hσ1,R1⟩:=hg
   obtain⟨T2,σ2,K2,hσ2,R2⟩:=R1.pack hA hx1
   refine h4 T2 σ2 lm ro a1 w1 R2 Q fun a' w' hg'=>hq a' w' (GoTo.trans (K1.trans K2) (fun c hc b e=>hσ2 c hc b (hσ1 c hc b e)) ?_)
   obtain⟨T3,σ3,K3,hσ3,R3⟩:=hg'
   exact GoTo.trans K3 hσ3 (R3.pack hA hp1)
 | exit id=>exact out (by simp) h1
 | ret=>exact out (by simp) h1
end Go.Am
namespace Go.Am
open Go
variable {X:Ext} {rec:Rec}
def SpecOk (X:Ext):Prop:=∀ g t f args x,X.spec g t=some f→f args=some x→closedL args=true→∀ F w vs,FixOk F w→GlobOk X F→RepL F nowhere nowhere args vs→CallsOk X.P (.func g) nowhere vs w (PostT X g t x F w)
def SpecHOk (X:Ext):Prop:=∀ g f (R:Type) args h (k:AV→List Cell→Option R) r,X.specH g=some f→f.run args h k=some r→∃ v h',k v h'=some r∧∀ T σ lm ls ps w us,Inv T σ lm h ls ps w→GlobOk X T.fix→RepL T.fix σ lm args us→CallsOk X.P (.func g) lm us w (PostH T σ lm h ls w v h' ps)
theorem specH_none {X:Ext} (h:∀ g,X.specH g=none):SpecHOk X:=fun g f R args hp k r e=>by rw[h g] at e;cases e
def packVal:List Value→Value
 | [v]=>v
 | l=>.tuple l.toArray
def ResRep (F:Fix) (σ lm:Nat→Option Nat) (ow:Own) (vs:List AV) (rs:List Value):Prop :=
 (∃ v r,vs=[v]∧rs=[r]∧Rep F σ lm ow v r)∨(vs.length≠1∧RepL F σ lm vs rs)
theorem repC_of_repL {F:Fix} {σ lm:Nat→Option Nat} {ow:Own}:∀ {l:List AV} {vs:List Value} {j:Nat},RepL F σ lm l vs→RepC F σ lm ow j l vs:=by
 intro l
 induction l with
 | nil=>intro vs j h;cases h;exact .nil _ _
 | cons a l ih =>
  intro vs j h
  cases h with
  | cons _ v _ vs h t=>exact .cons _ _ _ _ _ _ (h.mono (Fix.le.refl _) (fun _ _ x=>x) (fun _ _ x=>x) (fun _ _ _ x=>x.elim)) (ih t)
theorem packRes_rep {F:Fix} {σ lm:Nat→Option Nat} {ow:Own} {vs:List AV} {rs:List Value} (h:ResRep F σ lm ow vs rs):Rep F σ lm ow (packRes vs) (packVal rs):=by
 rcases h with ⟨v,r,rfl,rfl,h⟩ | ⟨h1,h2⟩
 ·exact h
 ·have hl:=h2.length
  have e1:packRes vs=.tuple vs:=by
   match vs,h1 with
   | [],_=>rfl
   | _ :: _ :: _,_=>rfl
  have e2:packVal rs=.tuple rs.toArray:=by
   match rs,(by omega:rs.length≠1) with
   | [],_=>rfl
   | _ :: _ :: _,_=>rfl
  rw[e1,e2]
  exact .tuple _ _ _ (repC_of_repL h2)
def resOf (tmps:Array Value):ResultVar→Sem Value
 | .tmp t=>pure (tmps.getD t undef)
 | .cell a t=>do loadVar t (← asAddr (tmps.getD a undef))
theorem run_results {fn:Func} {tmps:Array Value} {rs:List Value} {w:World} {P:Program} (h:(fn.results.toList.mapM (resOf tmps)).run P w=.ok rs w):(results fn tmps).run P w=.ok (packVal rs) w:=by
 have hf:results fn tmps=(do
   let vs ← fn.results.mapM (resOf tmps)
   pure (if h:vs.size=1 then vs[0] else .tuple vs)):=by
  unfold results
  have:(fun x:ResultVar=>(match x with
   | .tmp t=>pure (tmps.getD t undef)
   | .cell a t=>do loadVar t (← asAddr (tmps.getD a undef)):Sem Value))=resOf tmps:=by
   funext x;cases x <;> rfl
  rw[← this]
  rfl
 rw[hf,Array.mapM_eq_mapM_toList]
 simp only[Sem.run_bind,Sem.run_map,h,Result.andThen_ok]
 rw[Sem.run_pure]
 congr 1
 match rs with
 | []=>rfl
 | [v]=>rfl
 | _ :: _ :: _=>rfl
section
variable {T:Tags} {σ lm:Nat→Option Nat} {A:Amb} {ro:Option Nat} {s:St} {a:Act} {w:World}
theorem readCell (hR:Rel X T σ lm A ro s a w) {c off b:Nat} {l:List AV} {t:TypeId} {v:AV} (hc:s.heap[c]?=some (.var l)) (hs:σ c=some b) (h:readLeaves X.P t (l.drop off) (fun v=>some v.dull)=some v) :
  ∃ u,(loadVar t ⟨b,off,none⟩).run X.P w=.ok u w∧Rep T.fix σ lm noOwn v u:=by
 obtain⟨b',h1,h2,h3⟩:=hR.inv.var c l hc
 rw[hs] at h1;cases h1
 rcases readLeaves_some h with ⟨ha,hi,hl,hk,dd,hd⟩ | ⟨ha,x,rest,dd,hl,hk,hd⟩
 ·cases hk
  obtain⟨vs,hv1,hv2⟩:=list_choice (Q:=fun j av v=>w.cell? ⟨b,j,none⟩=some v∧Rep T.fix σ lm (T.own (.leaf c j)) av v) l 0 fun j av hj=>by
   obtain⟨v,e1,e2,e3,e4⟩:=h3 j av hj
   exact⟨v,by simpa using e1,by simpa using e4⟩
  have hget:∀ (j:Nat) v,vs[j]?=some v→∃ av,l[j]?=some av∧w.cell? ⟨b,j,none⟩=some v∧Rep T.fix σ lm (T.own (.leaf c j)) av v:=fun j v hv=>by
   have hlt:j<vs.length:=lt_of_get hv
   have:=hv2 j l[j] v (List.getElem?_eq_getElem (by omega)) hv
   simp only[Nat.zero_add] at this
   exact⟨_,List.getElem?_eq_getElem (by omega),this⟩
  have hrl:RepL T.fix σ lm (l.map AV.dull) vs:=RepL.of_get (by simp[hv1]) fun j av v h1 h2=>by
   simp only[List.getElem?_map,Option.map_eq_some_iff] at h1
   obtain⟨x,hx,rfl⟩:=h1
   obtain⟨x',hx',_,hrx⟩:=hget j v h2
   rw[hx] at hx';cases hx'
   exact hrx.dull
  have hrl2:=(hrl.drop off).take (sizeT X.P t)
  rw[← List.map_drop,← List.map_take] at hrl2
  refine⟨.agg ((vs.drop off).take (sizeT X.P t)).toArray,?_,.agg _ _ _ hrl2⟩
  refine run_load_agg ha hd hi (vs.drop off) ⟨b,off,none⟩ w (by simp at hl ⊢;omega) fun j v hv=>?_
  rw[List.getElem?_drop] at hv
  obtain⟨_,_,e,_⟩:=hget _ v hv
  rw[add_none];exact e
 ·cases hk
  have h0:l[off]?=some x:=by
   have:(l.drop off)[0]?=some x:=by rw[hl];rfl
   rwa [List.getElem?_drop,Nat.add_zero] at this
  obtain⟨y,e1,e2,e3,e4⟩:=h3 off x h0
  exact⟨y,run_load_one ha hd ⟨b,off,none⟩ y w e1,e4.dull⟩
theorem resVar_some (hR:Rel X T σ lm A ro s a w) {r:ResultVar} {v:AV} (h:resVar X s r=some v):∃ u,(resOf a.tmps r).run X.P w=.ok u w∧Rep T.fix σ lm (match r with | .tmp t=>T.own (.tmp t) | .cell ..=>noOwn) v u:=by
 cases r with
 | tmp t =>
  simp only[resVar,Option.some.injEq] at h
  subst h
  exact⟨a.tmps.getD t undef,by simp[resOf],hR.tm t⟩
 | cell c t =>
  simp only[resVar] at h
  split at h
  ·rename_i b off hc
   split at h
   ·rename_i l hl
    have hr:=hR.tm c
    rw[hc] at hr
    generalize hav:a.tmps.getD c undef=u at hr
    cases hr with
    | ptr _ _ _ blk hs =>
    obtain⟨u',hu,hru⟩:=readCell hR hl hs h
    refine⟨u',?_,hru⟩
    simp only[resOf,hav,asAddr,Sem.run_bind,Sem.run_pure,Result.andThen_ok]
    exact hu
   ·cases h
  ·cases h
theorem resVarsGo_some (hR:Rel X T σ lm A ro s a w):∀ {l:List ResultVar} {vs:List AV},resVarsGo X s l=some vs→∃ rs,(l.mapM (resOf a.tmps)).run X.P w=.ok rs w∧RepL T.fix σ lm vs rs:=by
 intro l
 induction l with
 | nil=>intro vs h;simp[resVarsGo] at h;subst h;exact⟨[],rfl,.nil⟩
 | cons r l ih =>
  intro vs h
  simp only[resVarsGo] at h
  obtain⟨v,h1,h⟩:=bind_some h
  obtain⟨us,h2,h⟩:=bind_some h
  cases h
  obtain⟨u,e1,e2⟩:=resVar_some hR h1
  obtain⟨rs,f1,f2⟩:=ih h2
  refine⟨u :: rs,?_,.cons _ _ _ _ e2.dull f2⟩
  simp only[List.mapM_cons,Sem.run_bind,e1,Result.andThen_ok,f1,Sem.run_pure]
theorem resVars_some (hR:Rel X T σ lm A ro s a w) {l:List ResultVar} {vs:List AV} (h:resVars X s l=some vs) :
  ∃ T' rs,Keeps T w T' w∧Inv T' σ lm s.heap A.loops s.pend w∧(l.mapM (resOf a.tmps)).run X.P w=.ok rs w∧ResRep T'.fix σ lm (T'.own .ret) vs rs:=by
 unfold resVars at h
 split at h
 ·rename_i r
  obtain⟨v,h1,h⟩:=bind_some h
  cases h
  obtain⟨u,e1,e2⟩:=resVar_some hR h1
  have hrun:([r].mapM (resOf a.tmps)).run X.P w=.ok [u] w:=by
   simp only[List.mapM_cons,List.mapM_nil,Sem.run_bind,e1,Result.andThen_ok,Sem.run_pure]
  cases r with
  | tmp t =>
   refine⟨T.retag (.tmp t) .ret,[u],retag_keeps _ _ _,hR.inv.retag _ _ (fun c j e=>by cases e) (fun c j e=>by cases e),hrun,.inl ⟨v,u,rfl,rfl,?_⟩⟩
   rw[retag_fix]
   exact e2.mono (Fix.le.refl _) (fun _ _ x=>x) (fun _ _ x=>x) retag_own_same
  | cell c t=>exact⟨T,[u],Keeps.refl _ _,hR.inv,hrun,.inl ⟨v,u,rfl,rfl,e2.mono (Fix.le.refl _) (fun _ _ x=>x) (fun _ _ x=>x) (fun _ _ _ x=>x.elim)⟩⟩
 ·rename_i hne
  obtain⟨rs,f1,f2⟩:=resVarsGo_some hR h
  refine⟨T,rs,Keeps.refl _ _,hR.inv,f1,.inr ⟨?_,f2⟩⟩
  have hlen:vs.length=l.length:=by
   have:∀ {l:List ResultVar} {vs:List AV},resVarsGo X s l=some vs→vs.length=l.length:=by
    intro l
    induction l with
    | nil=>intro vs h;simp[resVarsGo] at h;subst h;rfl
    | cons r l ih =>
     intro vs h
     simp only[resVarsGo] at h
     obtain⟨v,h1,h⟩:=bind_some h
     obtain⟨us,h2,h⟩:=bind_some h
     cases h
     simp[ih h2]
   exact this h
  rw[hlen]
  intro h1
  match l,h1 with
  | [r],_=>exact hne r rfl
theorem leaves_ok {fn:Func} {R:Ending→World→Prop}:∀ (ds:List Deferred) (a:Act) (w:World),a.defers=ds→Rel X T σ lm A ro s a w →
  (∀ w',Keeps T w T w'→Rel X T σ lm A ro s { a with defers:=[] } w'→LeavesIn Fence.wide 0 X.P fn a.tmps R [] .returning w')→LeavesInM Fence.wide 0 X.P fn a.tmps R ds .returning w:=by
 intro ds
 induction ds with
 | nil =>
  intro a w hd hR h
  unfold LeavesInM
  refine h w (Keeps.refl _ _) ?_
  have:({ a with defers:=[] }:Act)=a:=by rw[← hd]
  rw[this];exact hR
 | cons d ds ih =>
  intro a w hd hR h
  obtain⟨D,e1,e2,e3⟩:=hR.marks d (by rw[hd];simp)
  unfold LeavesInM
  refine⟨by simp,.inl ⟨D,w.putObj D (.deferred none),by rw[e1],run_takeDeferred e2,?_⟩⟩
  have K:Keeps T w T (w.putObj D (.deferred none)):=keeps_putObj e2 trivial trivial ⟨0,by rw[e3];rfl⟩ (fun _ _ _ e=>e) (fun _ _ e=>e)
  have hnd:=hR.nodup
  rw[hd,List.pairwise_cons] at hnd
  have hR':Rel X T σ lm A ro s { a with defers:=ds } (w.putObj D (.deferred none)):=by
   refine⟨hR.inv.putMark e2 trivial trivial e3,hR.len,hR.nt,hR.tm,fun d' hd'=>?_,hnd.2,hR.round,hR.glob⟩
   obtain⟨D',f1,f2,f3⟩:=hR.marks d' (by rw[hd];exact List.mem_cons_of_mem _ hd')
   refine⟨D',f1,?_,f3⟩
   rw[World.putObj_heap_other];exact f2
   exact fun e=>hnd.1 d' hd' D D' (by rw[e1]) (by rw[f1]) e.symm
  exact ih { a with defers:=ds } _ rfl hR' fun w' K' hR''=>h w' (K.trans K') hR''
end
def PostB (T:Tags) (σ lm:Nat→Option Nat) (h:List Cell) (ls:List LoopRec) (w:World) (vs:List AV) (h':List Cell) (ps':List (Option AE)) (u:Value) (w':World):Prop :=
 ∃ T' σ' rs,Keeps T w T' w'∧(∀ c,c<h.length→∀ b,σ c=some b→σ' c=some b)∧Inv T' σ' lm h' ls ps' w'∧u=packVal rs∧ResRep T'.fix σ' lm (T'.own .ret) vs rs
theorem loopsIn_ok {n:Nat} {ls:List LoopRec} (h:loopsIn n ls=true):∀ r∈ls,∀ p∈ptrsL r.tmps,p<n:=fun r hr p hp=>by
 unfold loopsIn at h
 rw[List.all_eq_true] at h
 have:=h r hr
 rw[List.all_eq_true] at this
 simpa using this p hp
theorem getT_args (args:List AV) (n t:Nat):getT (args.map AV.dull ++ List.replicate n .top) t=((args[t]?).map AV.dull).getD .top:=by
 unfold getT
 rw[List.getD_eq_getElem?_getD,List.getElem?_append]
 simp only[List.length_map]
 split
 ·rename_i h;rw[List.getElem?_map]
 ·rename_i h
  rw[List.getElem?_replicate,List.getElem?_eq_none (Nat.le_of_not_lt h)]
  split <;> rfl
theorem bodyK_some (hX:ProgOk X) (hrec:RecOk X rec) {R:Type} {g:FuncId} {args:List AV} {h:List Cell} {ls:List LoopRec} {ps:List (Option AE)} {k:List AV→List Cell→List (Option AE)→Option R} {r:R}
  (hk:bodyK X rec g args h ls ps k=some r):∃ vs h' ps',k vs h' ps'=some r∧∀ T σ lm w us,Inv T σ lm h ls ps w→GlobOk X T.fix→RepL T.fix σ lm args us→CallsOk X.P (.func g) lm us w (PostB T σ lm h ls w vs h' ps'):=by
 unfold bodyK at hk
 split at hk
 ·rename_i fn hfn
  split at hk
  ·rename_i c hc
   split at hk
   ·rename_i hcond
    obtain⟨hle,hlp⟩:=hcond
    obtain⟨e,s',h1,h2⟩:=codeK_some hX hrec (A:={ fn:=g,base:=h.length,nt:=fn.ntmps,loops:=ls }) (loopsIn_ok hlp) c hk
    split at h1
    ·rename_i hlv
     obtain⟨vs,hvs,h1⟩:=bind_some h1
     refine⟨vs,_,_,h1,fun T σ lm w us I hG hargs=>⟨fn,c,hfn,hc,?_⟩⟩
     have hlen:=hargs.length
     refine callsIn_of_wp_marks (F:=Fence.wide) hfn hc trivial ?_
     have hR0:Rel X T σ lm { fn:=g,base:=h.length,nt:=fn.ntmps,loops:=ls } none { tmps:=args.map AV.dull ++ List.replicate (fn.ntmps-args.length) .top,heap:=h,pend:=ps } { tmps:=us.toArray ++ Array.replicate (fn.ntmps-us.toArray.size) undef,defers:=[] } w:=by
      refine⟨I,by simp;omega,by simp;omega,fun t=>?_,(fun d hd=>by cases hd),List.Pairwise.nil,⟨fun _=>rfl,fun b e=>by cases e⟩,hG⟩
      rw[getT_args]
      cases ha:args[t]? with
      | none=>exact .top _ _
      | some av =>
       obtain⟨u,hu,hru⟩:=hargs.get t av ha
       have hlt:=lt_of_get hu
       have:(us.toArray ++ Array.replicate (fn.ntmps-us.toArray.size) undef).getD t undef=u:=by
        rw[Array.getD_eq_getD_getElem?,Array.getElem?_append_left (by simpa using hlt)]
        simp[hu]
       simp only[this,Option.map_some,Option.getD_some]
       exact hru.dull
     refine h2 T σ lm none _ w hR0 _ fun a' w' hg=>?_
     obtain⟨T1,σ1,K1,hσ1,R1⟩:=hg
     have fin:LeavesInM Fence.wide 0 X.P fn a'.tmps (retR (PostB T σ lm h ls w vs s'.heap s'.pend)) a'.defers .returning w':=by
      refine leaves_ok a'.defers a' w' rfl R1 fun w2 K2 R2=>?_
      obtain⟨T3,rs,K3,I3,hrun,hrr⟩:=resVars_some R2 hvs
      exact⟨packVal rs,run_results hrun,T3,σ1,rs,(K1.trans K2).trans K3,hσ1,I3,rfl,hrr⟩
     cases e with
     | normal=>exact fin
     | ret=>exact fin
     | exit id=>cases hlv
    ·cases h1
   ·cases hk
  ·cases hk
 ·cases hk
theorem Inv.drop {T:Tags} {σ lm:Nat→Option Nat} {h:List Cell} {ls:List LoopRec} {ps:List (Option AE)} {w:World} (I:Inv T σ lm h ls ps w):Inv T nowhere nowhere [] [] [] w :=
 ⟨I.fixed,I.spare,I.live,(fun c b e=>by cases e),(fun c l e=>by simp at e),(fun c x e=>by simp at e),⟨rfl,(fun i b e=>by cases e)⟩,(fun i r e=>by simp at e)⟩
theorem leaf_agg {F:Fix} {σ lm:Nat→Option Nat} {ow:Own} {v:AV} {u:Value} {fl:List AV} (h:Rep F σ lm ow v u) (hf:v.flat=some fl):(v.isAgg=true→u=.agg u.cells)∧(v.isAgg=false→u.cells=#[u]):=by
 unfold AV.flat at hf
 split at hf
 ·cases hf
  cases h with
  | agg _ l vs h=>exact⟨fun _=>rfl,fun e=>by cases e⟩
 ·rename_i hne
  split at hf
  ·rename_i hl
   refine⟨fun e=>?_,fun _=>(leaf_rep h hl).2.1⟩
   cases v <;> simp[AV.isAgg] at e
   exact absurd rfl (hne _)
  ·cases hf
theorem injComps_rep {F:Fix} {σ lm σ' lm':Nat→Option Nat} {P:Program}:∀ (ts:List TypeId) {vs:List AV} {l:List AV} {rs:List Value} {m:List AV},retLeaves P ts vs=some l→(vs.length=rs.length∧∀ (i:Nat) v r,vs[i]?=some v→rs[i]?=some r→∃ ow,Rep F σ lm ow v r) →
  RepL F σ' lm' m (rs.flatMap fun r=>r.cells.toList)→RepL F σ' lm' (injComps P ts m) rs∧RepL F σ lm l (rs.flatMap fun r=>r.cells.toList):=by
 intro ts
 induction ts with
 | nil =>
  intro vs l rs m h hp hm
  cases vs with
  | nil =>
   cases h
   cases rs with
   | nil=>exact⟨.nil,.nil⟩
   | cons=>simp at hp
  | cons=>cases h
 | cons t ts ih =>
  intro vs l rs m h hp hm
  cases vs with
  | nil=>cases h
  | cons v vs =>
   cases rs with
   | nil=>simp at hp
   | cons r rs =>
    simp only[retLeaves] at h
    split at h
    ·rename_i hagg
     obtain⟨fl,hfl,h⟩:=bind_some h
     split at h
     ·rename_i hsz
      obtain⟨l',hl',h⟩:=bind_some h
      cases h
      obtain⟨ow,hv⟩:=hp.2 0 v r rfl rfl
      have hrf:=flat_rep hv hfl
      have hcl:r.cells.toList.length=sizeT P t:=by rw[← hrf.length];exact hsz
      rw[List.flatMap_cons] at hm
      obtain⟨ih1,ih2⟩:=ih (rs:=rs) (m:=m.drop (sizeT P t)) hl' ⟨by simpa using hp.1,fun i v r h1 h2=>hp.2 (i+1) v r (by simpa using h1) (by simpa using h2)⟩ (by
       have:=hm.drop (sizeT P t)
       rwa [List.drop_append_of_le_length (by omega),← hcl,List.drop_length,List.nil_append,hcl] at this)
      have hseg:RepL F σ' lm' (m.take (sizeT P t)) r.cells.toList:=by
       have:=hm.take (sizeT P t)
       rwa [List.take_append_of_le_length (by omega),← hcl,List.take_length,hcl] at this
      obtain⟨la1,la2⟩:=leaf_agg hv hfl
      refine⟨.cons _ _ _ _ ?_ ih1,by rw[List.flatMap_cons];exact hrf.append ih2⟩
      unfold ofLeaves
      split
      ·rename_i ha
       have hr:=la1 (hagg.trans ha)
       rw[hr]
       have:r.cells.toList.toArray=r.cells:=by simp
       rw[← this]
       refine .agg _ _ _ ?_
       simpa using hseg
      ·rename_i ha
       have hr:=la2 (by rw[hagg];simpa using ha)
       rw[hr] at hseg
       generalize m.take (sizeT P t)=seg at hseg ⊢
       cases hseg with
       | cons a _ l _ h1 h2=>exact h1
     ·cases h
    ·cases h
def frostAll (T:Tags) (w:World):Tags:=fun b o=>match T b o with
 | .cell c j=>match w.cell? ⟨b,o,none⟩ with
  | some v=>.fixed v
  | none=>.cell c j
 | t=>t
theorem frostAll_fix (T:Tags) (w:World):(frostAll T w).fix=lendF T w:=by
 funext b o
 unfold Tags.fix frostAll lendF
 cases T b o with
 | cell c j=>simp only;cases w.cell? ⟨b,o,none⟩ <;> rfl
 | _=>rfl
theorem frostAll_other {T:Tags} {w:World} {b o:Nat} (h:∀ c j,T b o≠.cell c j):frostAll T w b o=T b o:=by
 unfold frostAll
 split
 ·rename_i c j e;exact absurd e (h c j)
 ·rfl
theorem frostAll_inv {T:Tags} {σ lm:Nat→Option Nat} {h:List Cell} {ls:List LoopRec} {ps:List (Option AE)} {w:World} (I:Inv T σ lm h ls ps w):Inv (frostAll T w) nowhere nowhere [] [] [] w:=by
 refine⟨fun b o v e=>?_,fun b o l j e=>?_,fun b o e=>?_,(fun c b e=>by cases e),(fun c l e=>by simp at e),(fun c x e=>by simp at e),⟨rfl,(fun i b e=>by cases e)⟩,(fun i r e=>by simp at e)⟩
 ·rw[← Tags.fix_eq,frostAll_fix] at e
  exact (lendF_ok I b o v e).2
 ·cases ht:T b o with
  | cell c k =>
   unfold frostAll at e
   rw[ht] at e
   simp only at e
   split at e <;> cases e
  | _=>rw[frostAll_other (fun c j h=>by rw[ht] at h;cases h),ht] at e;rw[← ht] at e;exact I.spare b o l j e
 ·refine I.live b o fun hf=>e ?_
  rw[frostAll_other (fun c j h=>by rw[hf] at h;cases h)];exact hf
theorem frostAll_keeps {T T0:Tags} {w w0:World} (K:Keeps T0 w0 T w):Keeps T0 w0 (frostAll T w) w:=by
 refine⟨K.os,K.tape,K.output,K.size,fun b o v e=>?_,fun b o hb e=>?_,K.cell,K.block⟩
 ·have:=K.fixed b o v e
  rw[frostAll_other (fun c j h=>by rw[this] at h;cases h)];exact this
 ·have:=K.free b o hb e
  rw[frostAll_other (fun c j h=>by rw[this] at h;cases h)];exact this
theorem freshOk_slice {e:Ty} {vs:List AV} (h:freshOk true (.slice e) vs=true):(∃ xs,vs=[.slice true e xs])∨vs=[.nil]:=by
 match vs,h with
 | [.slice own e' xs],h =>
  simp only[freshOk,Bool.and_eq_true,decide_eq_true_eq] at h
  obtain⟨rfl,rfl⟩:=h
  exact .inl ⟨xs,rfl⟩
 | [.nil],_=>exact .inr rfl
theorem bodyT_ok (hX:ProgOk X) (hS:SpecOk X) (hrec:RecOk X rec):CallTOk X (bodyT X rec):=by
 intro g t args x h hcl F w vs hF hG hargs
 unfold bodyT at h
 split at h
 ·rename_i f hf;exact hS g t f args x hf h hcl F w vs hF hG hargs
 ·obtain⟨rvs0,h',ps',h0,h2⟩:=bodyK_some hX hrec h
  obtain⟨rvs,h1,hlen0,_,hthL,hth1⟩:=thawLK_some h0
  split at h1
  ·rename_i hfr
   obtain⟨l,hl,htake⟩:=bind_some h1
   have I0:Inv (maskF F) nowhere nowhere [] [] [] w:=by
    refine⟨fun b o v e=>?_,fun b o l j e=>?_,fun b o e=>?_,(fun c b e=>by cases e),(fun c l e=>by simp at e),(fun c x e=>by simp at e),⟨rfl,(fun i b e=>by cases e)⟩,(fun i r e=>by simp at e)⟩
    ·unfold maskF at e
     cases hf:F b o with
     | none=>rw[hf] at e;cases e
     | some u=>rw[hf] at e;cases e;exact (hF b o _ hf).2
    ·unfold maskF at e
     cases hf:F b o <;> rw[hf] at e <;> cases e
    ·unfold maskF at e
     cases hf:F b o with
     | none=>rw[hf] at e;exact absurd rfl e
     | some u=>exact (hF b o _ hf).1
   refine (h2 (maskF F) nowhere nowhere w vs I0 (by rw[maskF_fix];exact hG) (by rw[maskF_fix];exact hargs)).mono ?_
   rintro u w' ⟨T0,σ',rs,K,_,I',rfl,hres0⟩
   have hres:ResRep (frostAll T0 w').fix σ' nowhere ((frostAll T0 w').own .ret) rvs rs:=by
    rw[frostAll_fix]
    rcases hres0 with ⟨v,r,rfl,rfl,hv⟩ | ⟨hne,hv⟩
    ·obtain⟨v',rfl,hv'⟩:=hth1 v rfl
     refine .inl ⟨v',r,rfl,rfl,(hv' I' hv).mono (Fix.le.refl _) (fun _ _ x=>x) (fun _ _ x=>x) fun j b o e=>?_⟩
     have e':T0 b o=.spare .ret j:=e
     show frostAll T0 w' b o=_
     rw[frostAll_other (fun c j h=>by rw[e'] at h;cases h)];exact e'
    ·exact .inr ⟨by omega,hthL I' hv⟩
   generalize hTT:frostAll T0 w'=T' at hres
   refine⟨T',by rw[← hTT];exact frostAll_keeps K,by rw[← hTT];exact frostAll_inv I',?_⟩
   have hpair:rvs.length=rs.length∧∀ (i:Nat) v r,rvs[i]?=some v→rs[i]?=some r→∃ ow,Rep T'.fix σ' nowhere ow v r:=by
    rcases hres with ⟨v,r,rfl,rfl,hv⟩ | ⟨_,hv⟩
    ·refine⟨rfl,fun i v' r' e1 e2=>?_⟩
     cases i with
     | zero=>simp at e1 e2;subst e1;subst e2;exact⟨_,hv⟩
     | succ i=>simp at e1
    ·refine⟨hv.length,fun i v' r' e1 e2=>?_⟩
     obtain⟨r2,e3,e4⟩:=hv.get i v' e1
     rw[e2] at e3;cases e3
     exact⟨_,e4⟩
   have hflat:=(injComps_rep (σ':=σ') (lm':=nowhere) (m:=l) (resTypes X g) hl hpair)
   have hcells:RepL T'.fix σ' nowhere l (rs.flatMap fun r=>r.cells.toList):=by
    have:∀ (ts:List TypeId) {vs:List AV} {l:List AV} {rs:List Value},retLeaves X.P ts vs=some l→(vs.length=rs.length∧∀ (i:Nat) v r,vs[i]?=some v→rs[i]?=some r→∃ ow,Rep T'.fix σ' nowhere ow v r)→RepL T'.fix σ' nowhere l (rs.flatMap fun r=>r.cells.toList):=by
     intro ts
     induction ts with
     | nil =>
      intro vs l rs h hp
      cases vs with
      | nil =>
       cases h
       cases rs with
       | nil=>exact .nil
       | cons=>simp at hp
      | cons=>cases h
     | cons t ts ih =>
      intro vs l rs h hp
      cases vs with
      | nil=>cases h
      | cons v vs =>
       cases rs with
       | nil=>simp at hp
       | cons r rs =>
        simp only[retLeaves] at h
        split at h
        ·obtain⟨fl,hfl,h⟩:=bind_some h
         split at h
         ·obtain⟨l',hl',h⟩:=bind_some h
          cases h
          obtain⟨ow,hv⟩:=hp.2 0 v r rfl rfl
          rw[List.flatMap_cons]
          exact (flat_rep hv hfl).append (ih hl' ⟨by simpa using hp.1,fun i v r h1 h2=>hp.2 (i+1) v r (by simpa using h1) (by simpa using h2)⟩)
         ·cases h
        ·cases h
    exact this _ hl hpair
   have hD:=takeAll_some htake hcells
   have hlv:RepL T'.fix nowhere nowhere (t.leaves x) (rs.flatMap fun r=>r.cells.toList):=repL_leaves hD
   have hin:=(injComps_rep (σ':=nowhere) (lm':=nowhere) (m:=t.leaves x) (resTypes X g) hl hpair hlv).1
   have plain:Rep T'.fix nowhere nowhere (T'.own .ret) (packRes (injComps X.P (resTypes X g) (t.leaves x))) (packVal rs):=by
    refine packRes_rep ?_
    have hlen:=hin.length
    by_cases h1:(injComps X.P (resTypes X g) (t.leaves x)).length=1
    ·left
     generalize injComps X.P (resTypes X g) (t.leaves x)=cs at *
     match cs,h1,hin with
     | [v],_,.cons _ r _ _ hv .nil=>exact⟨v,r,rfl,rfl,hv.mono (Fix.le.refl _) (fun _ _ x=>x) (fun _ _ x=>x) (fun _ _ _ x=>x.elim)⟩
    ·exact .inr ⟨h1,hin⟩
   cases hfre:X.fresh g with
   | false =>
    have e:injRet X g t x=packRes (injComps X.P (resTypes X g) (t.leaves x)):=by
     unfold injRet
     rw[hfre]
    rw[e];exact plain
   | true =>
    rw[hfre] at hfr
    cases t with
    | slice e =>
     have e0:injRet X g (.slice e) x=.slice true e x:=by
      unfold injRet
      rw[hfre]
     rw[e0]
     rcases freshOk_slice hfr with ⟨xs,rfl⟩ | rfl
     ·rcases hres with ⟨v,r,hv1,rfl,hv⟩ | ⟨hne,_⟩
      ·cases hv1
       have hx:x=xs:=by
        cases hts:resTypes X g with
        | nil=>rw[hts] at hl;cases hl
        | cons t0 ts0 =>
         rw[hts] at hl
         simp only[retLeaves] at hl
         split at hl
         ·obtain⟨fl,hfl,hl⟩:=bind_some hl
          split at hl
          ·obtain⟨l',hl',hl⟩:=bind_some hl
           cases hl
           cases ts0 with
           | cons=>cases hl'
           | nil =>
            cases hl'
            simp[AV.flat,AV.leafOk,AV.dull] at hfl
            subst hfl
            simp[takeAll,Ty.take] at htake
            exact htake.symm
          ·cases hl
         ·cases hl
       subst hx
       cases hv with
       | slice _ _ _ _ a cap hc hrow ho=>exact .slice _ _ _ _ _ _ hc hrow fun _=>ho rfl
      ·exact absurd rfl hne
     ·rcases hres with ⟨v,r,hv1,rfl,hv⟩ | ⟨hne,_⟩
      ·cases hv1
       have hx:x=[]:=by
        cases hts:resTypes X g with
        | nil=>rw[hts] at hl;cases hl
        | cons t0 ts0 =>
         rw[hts] at hl
         simp only[retLeaves] at hl
         split at hl
         ·obtain⟨fl,hfl,hl⟩:=bind_some hl
          split at hl
          ·obtain⟨l',hl',hl⟩:=bind_some hl
           cases hl
           cases ts0 with
           | cons=>cases hl'
           | nil =>
            cases hl'
            simp[AV.flat,AV.leafOk,AV.dull] at hfl
            subst hfl
            simp[takeAll,Ty.take] at htake
            exact htake
          ·cases hl
         ·cases hl
       subst hx
       cases hv
       exact .slice _ true e [] none 0 ⟨Nat.le_refl _,fun _=>rfl,Nat.zero_le _⟩ (fun i x hx=>by simp at hx) fun _=>.inl ⟨rfl,rfl⟩
      ·exact absurd rfl hne
    | _=>simp[freshOk] at hfr
  ·cases h1
end Go.Am
namespace Go.Am
open Go
variable {X:Ext} {rec:Rec}
theorem setParams_rep {F:Fix} {σ lm:Nat→Option Nat}:∀ (ps:List Tmp) {args:List AV} {us:List Value} {l:List AV} {tm:Array Value},RepL F σ lm args us→l.length=tm.size→(∀ t,Rep F σ lm noOwn (getT l t) (tm.getD t undef)) →
  (setParams l (ps.zip args)).length=l.length∧((ps.zip us).foldl (fun (tmps:Array Value) (x:Tmp×Value)=>tmps.setIfInBounds x.1 x.2) tm).size=tm.size ∧
  ∀ t,Rep F σ lm noOwn (getT (setParams l (ps.zip args)) t) (((ps.zip us).foldl (fun (tmps:Array Value) (x:Tmp×Value)=>tmps.setIfInBounds x.1 x.2) tm).getD t undef):=by
 intro ps
 induction ps with
 | nil=>intro args us l tm _ hl h;exact⟨rfl,rfl,h⟩
 | cons p ps ih =>
  intro args us l tm ha hl h
  cases ha with
  | nil=>exact⟨rfl,rfl,h⟩
  | cons a u args us hu ht =>
   have h1:∀ t,Rep F σ lm noOwn (getT (l.set p a) t) ((tm.setIfInBounds p u).getD t undef):=fun t=>by
    rw[getT_set,getD_set,hl]
    split
    ·exact hu
    ·exact h t
   obtain⟨i1,i2,i3⟩:=ih (l:=l.set p a) (tm:=tm.setIfInBounds p u) ht (by simpa using hl) h1
   exact⟨by simpa[setParams] using i1,by simpa using i2,i3⟩
theorem roundK_some (hX:ProgOk X) (hrec:RecOk X rec) {R:Type} {l:Nat} {args:List AV} {h:List Cell} {ls:List LoopRec} {ps:List (Option AE)} {k:AV→List Cell→List (Option AE)→Option R} {r:R}
  (hk:roundK X rec l args h ls ps k=some r):∃ vA h' ps',k vA h' ps'=some r∧∀ T σ lm w us,Inv T σ lm h ls ps w→GlobOk X T.fix→RepL T.fix σ lm args us→CallsOk X.P (.yield l) lm us w (PostH T σ lm h ls w vA h' ps'):=by
 unfold roundK at hk
 split at hk
 ·rename_i lr hlr
  split at hk
  ·rename_i hcond
   obtain⟨hlen,hlp⟩:=hcond
   simp only at hk
   have hA:AmbOk { fn:=lr.fn,base:=h.length,nt:=lr.tmps.length,loops:=ls,rd:=true }:=loopsIn_ok hlp
   obtain⟨e1,s1,h1,c1⟩:=codeK_some hX hrec hA lr.assign hk
   split at h1
   ·rename_i hpend
    obtain⟨e2,s2,h2,c2⟩:=codeK_some hX hrec hA lr.body h1
    refine⟨_,_,_,h2,fun T σ lm w us I hG hargs=>?_⟩
    obtain⟨b,lrec,f1,f2,f3,f4,f5,f6,f7,f8,f9,f10⟩:=I.loop l lr hlr
    have hsz:us.length=lrec.params.size:=by
     rw[f5,← hargs.length,hlen];simp
    refine⟨b,lrec,f1,f3,hsz,?_⟩
    refine roundIn_of_wpIn (F:=Fence.wide) (n:=0) trivial ?_
    rw[f6,f7]
    obtain⟨g1,g2,g3⟩:=setParams_rep lr.params (repL_mapdull hargs) f8 f9
    have hfold:(lrec.params.zip us.toArray).foldl (fun (tmps:Array Value) (x:Tmp×Value)=>tmps.setIfInBounds x.1 x.2) lrec.tmps=(lr.params.zip us).foldl (fun (tmps:Array Value) (x:Tmp×Value)=>tmps.setIfInBounds x.1 x.2) lrec.tmps:=by
     rw[f5,← Array.foldl_toList]
     simp
    rw[hfold]
    have hR0:Rel X T σ lm { fn:=lr.fn,base:=h.length,nt:=lr.tmps.length,loops:=ls,rd:=true } (some b) { tmps:=setParams lr.tmps (lr.params.zip (args.map AV.dull)),heap:=h,pend:=ps } { tmps:=(lr.params.zip us).foldl (fun (tmps:Array Value) (x:Tmp×Value)=>tmps.setIfInBounds x.1 x.2) lrec.tmps,defers:=[] } w:=by
     refine⟨I,?_,?_,fun t=>?_,(fun d hd=>by cases hd),List.Pairwise.nil,⟨(fun hh=>by cases hh),fun b' e=>by cases e;exact⟨l,lr,hlr,f1⟩⟩,hG⟩
     ·rw[g1,g2];exact f8
     ·rw[g2];exact f8.symm
     ·exact (g3 t).mono (Fix.le.refl _) (fun _ _ x=>x) (fun _ _ x=>x) (fun _ _ _ x=>x.elim)
    refine c1 T σ lm (some b) _ w hR0 _ fun a1 w1 hg=>?_
    obtain⟨T1,σ1,K1,hσ1,R1⟩:=hg
    obtain⟨b1,rec1,p1,p2,p3,p4,p5,p6,p7,p8,p9,p10⟩:=R1.inv.loop l lr hlr
    rw[f1] at p1;cases p1
    rw[hpend] at p10
    simp only[Option.map_some,Option.some.injEq,loopState,Prod.mk.injEq] at p10
    have hready:rec1.state=.ready:=p10.1.symm
    obtain⟨K2,R2⟩:=R1.putLoop (st:=.busy) (pd:=none) (p:=some .normal) hlr f1 p3 rfl
    have hw2:({ rec1 with state:=.busy,pending:=none }:Loop) = { rec1 with state:=.busy }:=by rw[p10.2]
    rw[hw2] at K2 R2
    refine⟨_,run_beginRound p3 hready,?_⟩
    refine c2 T1 σ1 lm (some b) a1 _ R2 _ fun a2 w2 hg2=>?_
    obtain⟨T3,σ3,K3,hσ3,R3⟩:=hg2
    obtain⟨b3,rec3,q1,q2,q3,q4⟩:=R3.inv.loop l lr hlr
    rw[f1] at q1;cases q1
    have fin:∀ (j:Option AE) (cd:Option Code),loopState j=(if cd.isNone=true then .ready else .done,cd)→cd.isNone=j.isNone→jumpOf e2=j→∃ v w',(Instr.endRound b cd).run X.P w2=.ok v w'∧retR (PostH T σ lm h ls w (.bool (jumpOf e2).isNone) s2.heap (s2.pend.set l (jumpOf e2))) (.returned v) w':=by
     intro j cd hj hn he
     refine⟨_,_,run_endRound cd q3,?_⟩
     obtain⟨K4,R4⟩:=R3.putLoop hlr f1 q3 hj
     rw[he]
     refine⟨T3,σ3,((K1.trans K2).trans K3).trans K4,fun c hc x e=>hσ3 c hc x (hσ1 c hc x e),R4.inv,?_⟩
     rw[hn]
     exact .bool _ _
    cases e2 with
    | normal=>exact fin none none rfl rfl rfl
    | ret=>exact fin (some .ret) (some .ret) rfl rfl rfl
    | exit id=>exact fin (some (.exit id)) (some (.exit id)) rfl rfl rfl
   ·cases h1
  ·cases hk
 ·cases hk
theorem bodyH_ok (hX:ProgOk X) (hH:SpecHOk X) (hrec:RecOk X rec):CallHOk X (bodyH X rec):=by
 intro R fn args h ls ps k r hk
 unfold bodyH at hk
 simp only at hk
 split at hk
 ·split at hk
  ·rename_i f hf
   obtain⟨v,h',h1,h2⟩:=hH _ f R args h _ r hf hk
   exact⟨v,h',ps,h1,fun T σ lm w us I hG hargs=>h2 T σ lm ls ps w us I hG hargs⟩
  obtain⟨vs,h',ps',h1,h2⟩:=bodyK_some hX hrec hk
  refine⟨_,h',ps',h1,fun T σ lm w us I hG hargs=>(h2 T σ lm w us I hG hargs).mono ?_⟩
  rintro u w' ⟨T',σ',rs,K,hσ,I',rfl,hres⟩
  exact⟨T',σ',K,hσ,I',packRes_rep hres⟩
 ·exact roundK_some hX hrec hk
 ·cases hk
theorem run_ok (hX:ProgOk X) (hS:SpecOk X) (hH:SpecHOk X):∀ n,RecOk X (run X n)
 | 0=>⟨(fun g t args x h=>by cases h),(fun R fn args h ls ps k r hk=>by cases hk),(fun b sh A x y _ h=>by cases h)⟩
 | n+1=>⟨bodyT_ok hX hS (run_ok hX hS hH n),bodyH_ok hX hH (run_ok hX hS hH n),loopD_ok hX (run_ok hX hS hH n)⟩
end Go.Am
namespace Go.Am
open Go Go.ChangeShapes Go.WideShapes Go.RowKit
def Ty.wf:(t:Ty)→t.den→Prop
 | .unit,_=>True
 | .int k,n=>(Lit.int k n).wf=true
 | .bool,_=>True
 | .str,s=>s.size≤maxLen
 | .slice e,xs=>xs.length≤maxLen∧∀ x∈xs,e.wf x
 | .pair a b,p=>a.wf p.1∧b.wf p.2
 | .sum _ _,_=>False
def snap (w:World):Fix:=fun b o=>w.cell? ⟨b,o,none⟩
theorem cell_lt {w:World} {a:Addr} {v:Value} (h:w.cell? a=some v):a.block<w.heap.size∧a.spot=none:=by
 unfold World.cell? at h
 split at h
 ·rename_i c t f e
  refine⟨(Array.getElem?_eq_some_iff.1 e).1,?_⟩
  cases hs:a.spot with
  | none=>rfl
  | some _=>rw[hs] at h;cases h
 ·cases h
theorem snap_ok (w:World):FixOk (snap w) w:=fun b o v h=>⟨(cell_lt h).1,h⟩
theorem snap_at {w:World} {a:Addr} {i:Nat} {v:Value} (h:w.cell? (a.add i)=some v):FixAt (snap w) a i v:=by
 have h1:=cell_lt h
 refine⟨h1.2,?_⟩
 unfold snap
 rw[← h]
 congr 1
 cases e:a.add i with
 | mk b o s=>rw[e] at h1;simp only at h1;rw[h1.2]
section
variable {P:Program} {H:Type} {enc:TypeId×Value→H} {W:World} {sp:Nat→Bool} {hd:Bool}
theorem row_cells {d:Nat} (ih:∀ (t:TypeId) (τ:Ty) (fuel:Nat) (cs:List Value) (x:DataW H×List MemPlace),t<P.types.size→tyOf P d t=some τ→DataW.trod enc P W 0 sp hd fuel t cs=some x→∃ y:τ.den,CellsD (snap W) τ y cs∧τ.wf y) :
  ∀ (l:List (Nat×TypeId)) (τs:List Ty) (off:Nat) (cs:List Value),l.mapM (fun f=>tyOf P d f.2)=some τs →
   (∀ (j:Nat) f,l[j]?=some f→f.1=off+((l.take j).map fun f=>P.cellsOf f.2).sum∧f.2<P.types.size∧∃ n x,DataW.trod enc P W 0 sp hd n f.2 ((cs.drop f.1).take (P.cellsOf f.2))=some x) →
   cs.length=off+(l.map fun f=>P.cellsOf f.2).sum→∃ y:(mkRow τs).den,CellsD (snap W) (mkRow τs) y (cs.drop off)∧(mkRow τs).wf y:=by
 intro l
 induction l with
 | nil =>
  intro τs off cs hm _ hl
  simp at hm
  subst hm
  refine⟨(),?_,trivial⟩
  show cs.drop off=[]
  rw[List.drop_eq_nil_iff]
  simpa using Nat.le_of_eq hl
 | cons f l il =>
  intro τs off cs hm hj hl
  rw[List.mapM_cons] at hm
  simp only[Option.pure_def,Option.bind_eq_bind,Option.bind_eq_some_iff,Option.some.injEq] at hm
  obtain⟨τ,h1,τr,h2,rfl⟩:=hm
  obtain⟨e0,e1,n,x,e2⟩:=hj 0 f rfl
  simp only[List.take_zero,List.map_nil,List.sum_nil,Nat.add_zero] at e0
  obtain⟨y,c1,c2⟩:=ih _ _ _ _ _ e1 h1 e2
  rw[e0] at c1
  simp only[List.map_cons,List.sum_cons] at hl
  obtain⟨z,d1,d2⟩:=il τr (off+P.cellsOf f.2) cs h2 (fun j g hg=>by
   obtain⟨a,b,c⟩:=hj (j+1) g (by simpa using hg)
   refine⟨?_,b,c⟩
   rw[a]
   simp only[List.take_succ_cons,List.map_cons,List.sum_cons]
   omega) (by omega)
  have hsplit:cs.drop off=(cs.drop off).take (P.cellsOf f.2) ++ cs.drop (off+P.cellsOf f.2):=by
   rw[← List.drop_drop,List.take_append_drop]
  cases τr with
  | nil =>
   have hz:cs.drop (off+P.cellsOf f.2)=[]:=d1
   refine⟨y,?_,c2⟩
   rw[hsplit,hz,List.append_nil]
   exact c1
  | cons τ2 τr =>
   refine⟨(y,z),?_,c2,d2⟩
   exact⟨_,_,hsplit,c1,d1⟩
theorem cells_of_trod (hl:laidOutB P=true):∀ (d:Nat) (t:TypeId) (τ:Ty) (fuel:Nat) (cs:List Value) (x:DataW H×List MemPlace),t<P.types.size→tyOf P d t=some τ →
  DataW.trod enc P W 0 sp hd fuel t cs=some x→∃ y:τ.den,CellsD (snap W) τ y cs∧τ.wf y:=by
 intro d
 induction d with
 | zero=>intro t τ fuel cs x _ h;cases h
 | succ d ih =>
  intro t τ fuel cs x ht hτ hx
  unfold tyOf at hτ
  split at hτ
  ·rename_i k hu
   cases hτ
   obtain⟨n,rfl,_,hw⟩:=DataW.trod_int hu hx
   exact⟨n,rfl,hw⟩
  ·rename_i hu
   cases hτ
   obtain⟨b,rfl,_⟩:=DataW.trod_bool hu hx
   exact⟨b,rfl,trivial⟩
  ·rename_i hu
   cases hτ
   obtain⟨s,rfl,_,hs⟩:=DataW.trod_string hu hx
   exact⟨s,rfl,hs⟩
  ·rename_i e hu
   rw[Option.bind_eq_some_iff] at hτ
   obtain⟨τe,he,hτ⟩:=hτ
   split at hτ
   ·rename_i hw
    cases hτ
    have hwc:τe.width=P.cellsOf e:=hw
    rcases DataW.trod_slice hu hx with ⟨rfl,_⟩ | ⟨a,len,cap,elems,rest,n,_,rfl,_,_,hlc,hcm,hel,hget,_⟩
    ·exact⟨[],⟨none,0,rfl,⟨Nat.le_refl _,(fun _=>rfl),Nat.zero_le _⟩,fun i x h=>by simp at h⟩,Nat.zero_le _,fun x h=>by simp at h⟩
    ·have key:∀ i:Fin len,∃ y:τe.den,(∃ ds,CellsD (snap W) τe y ds∧∀ j v,ds[j]?=some v→FixAt (snap W) a (i.val*τe.width+j) v)∧τe.wf y:=by
      intro i
      have h1:=hget i.val i.isLt
      have h2:elems[i.val]?=some elems[i.val]:=List.getElem?_eq_getElem (by omega)
      rw[h2,Option.bind_eq_some_iff] at h1
      obtain⟨ds,h3,h4⟩:=h1
      obtain⟨y,h5,h6⟩:=ih e τe _ _ _ (kid_slice hl ht hu) he h4
      refine⟨y,⟨ds,h5,fun j v hj=>?_⟩,h6⟩
      unfold World.cells? at h3
      rw[if_pos (Nat.zero_le _)] at h3
      have hjl:j<P.cellsOf e:=by
       have:=mapM_some_length h3
       simp only[List.length_range] at this
       have:=(List.getElem?_eq_some_iff.1 hj).1
       omega
      have h7:=mapM_some_get h3 j j (by simp[hjl])
      rw[hj,add_add] at h7
      rw[hwc]
      exact snap_at h7
     refine⟨List.ofFn fun i=>(key i).choose,⟨some a,cap,by simp,⟨by simpa using hlc,(fun h=>by cases h),hcm⟩,fun i x hx=>?_⟩,by simp;omega,fun x hx=>?_⟩
     ·rw[List.getElem?_ofFn] at hx
      split at hx
      ·rename_i hi
       cases hx
       obtain⟨ds,k1,k2⟩:=(key ⟨i,hi⟩).choose_spec.1
       exact⟨ds,k1,fun j v hv=>⟨a,rfl,k2 j v hv⟩⟩
      ·cases hx
     ·rw[List.mem_ofFn] at hx
      obtain⟨i,rfl⟩:=hx
      exact (key i).choose_spec.2
   ·cases hτ
  ·rename_i fs hu
   rw[Option.map_eq_some_iff] at hτ
   obtain⟨τs,hm,rfl⟩:=hτ
   obtain⟨xs,n,_,_,hlen,hxl,hget⟩:=DataW.trod_struct hu hx
   obtain⟨k1,k2,k3⟩:=kid_struct hl ht hu
   have:=row_cells ih (fs.toList.map fun f=>(f.offset,f.type)) τs 0 cs ?_ ?_ ?_
   ·simpa using this
   ·rw[List.mapM_map];exact hm
   ·intro j f hf
    rw[List.getElem?_map,Option.map_eq_some_iff] at hf
    obtain⟨f0,hf0,rfl⟩:=hf
    refine⟨?_,k1 _ (List.mem_of_getElem? hf0),?_⟩
    ·have:=k3 j f0 hf0
     simp only[this,Nat.zero_add,← List.map_take,List.map_map]
     rfl
    ·have h1:=hget j f0 (by simpa using hf0)
     have hj:j<xs.length:=by
      have:=(List.getElem?_eq_some_iff.1 hf0).1
      simp at this
      omega
     rw[List.getElem?_eq_getElem hj] at h1
     exact⟨n,_,h1⟩
   ·rw[hlen,k2]
    simp only[Nat.zero_add,List.map_map]
    rfl
  ·rename_i m e hu
   rw[Option.map_eq_some_iff] at hτ
   obtain⟨τe,hm,rfl⟩:=hτ
   obtain⟨xs,n,_,_,hlen,hxl,hget⟩:=DataW.trod_array hu hx
   obtain⟨k1,k2⟩:=kid_array hl ht hu
   have hsum:∀ k,((List.range k).map fun _=>P.cellsOf e).sum=k*P.cellsOf e:=fun k=>by
    induction k with
    | zero=>simp
    | succ k ik=>rw[List.range_succ,List.map_append,List.sum_append,ik];simp[Nat.add_mul]
   have:=row_cells ih ((List.range m).map fun i=>(i*P.cellsOf e,e)) (tyRep m τe) 0 cs ?_ ?_ ?_
   ·simpa using this
   ·clear hget hx hu hlen hxl k2
    unfold tyRep
    rw[List.mapM_map]
    have:∀ (L:List Nat),L.mapM (fun _=>tyOf P d e)=some (List.replicate L.length τe):=by
     intro L
     induction L with
     | nil=>rfl
     | cons a L iL=>rw[List.mapM_cons,iL,hm];rfl
    have h2:=this (List.range m)
    rw[List.length_range] at h2
    exact h2
   ·intro j f hf
    rw[List.getElem?_map,Option.map_eq_some_iff] at hf
    obtain⟨i,hi,rfl⟩:=hf
    have hjm:j<m:=by
     have:=(List.getElem?_eq_some_iff.1 hi).1
     simpa using this
    have hij:j=i:=by
     rw[List.getElem?_range hjm] at hi
     exact Option.some.inj hi
    subst hij
    refine⟨?_,k1,?_⟩
    ·simp only[Nat.zero_add,← List.map_take,List.map_map]
     rw[List.take_range,Nat.min_eq_left (by omega)]
     exact (hsum j).symm
    ·have h1:=hget j hjm
     rw[List.getElem?_eq_getElem (by omega)] at h1
     exact⟨n,_,h1⟩
   ·rw[hlen,k2]
    simp only[Nat.zero_add,List.map_map]
    exact (hsum m).symm
  ·cases hτ
theorem arg_of (hl:laidOutB P=true) {t:TypeId} {τ:Ty} {v:Value} {dt:DataW H} {ps:List MemPlace} {r:Reach} {base:Nat} (ht:t<P.types.size) (hτ:tyOf P tdepth t=some τ) (hok:Value.okWide P W r base t v)
  (h:DataW.Trod enc P W 0 sp hd t v dt ps):∃ y:τ.den,τ.wf y∧Rep (snap W) nowhere nowhere noOwn (ofLeaves P t (τ.leaves y)) v:=by
 obtain⟨fuel,h⟩:=h
 obtain⟨y,h1,h2⟩:=cells_of_trod hl _ _ _ _ _ _ ht hτ h
 refine⟨y,h2,?_⟩
 have h3:RepL (snap W) nowhere nowhere (τ.leaves y) v.cells.toList:=repL_leaves h1
 unfold ofLeaves
 have one:∀ u,v=u→u.cells=#[u]→∀ (l:List AV),RepL (snap W) nowhere nowhere l u.cells.toList→Rep (snap W) nowhere nowhere noOwn (match l with
  | x :: _=>x
  | []=>.top) v:=by
  intro u hu hc l hl
  rw[hc] at hl
  cases hl with
  | cons a _ l _ ha _=>rw[hu];exact ha
 change tyOf P (11+1) t=some τ at hτ
 unfold tyOf at hτ
 unfold Value.okWide at hok
 split at hτ
 ·rename_i k hu
  obtain⟨n,hv⟩:=okWide_int (v:=v) (w:=W) (r:=r) (base:=base) hu (by unfold Value.okWide;rw[hu] at hok ⊢;exact hok)
  have ha:aggType P t=false:=by unfold aggType;rw[hu]
  rw[ha]
  exact one _ hv rfl _ (hv▸h3)
 ·rename_i hu
  obtain⟨n,hv⟩:=okWide_bool (v:=v) (w:=W) (r:=r) (base:=base) hu (by unfold Value.okWide;rw[hu] at hok ⊢;exact hok)
  have ha:aggType P t=false:=by unfold aggType;rw[hu]
  rw[ha]
  exact one _ hv rfl _ (hv▸h3)
 ·rename_i hu
  obtain⟨n,hv⟩:=okWide_string (v:=v) (w:=W) (r:=r) (base:=base) hu (by unfold Value.okWide;rw[hu] at hok ⊢;exact hok)
  have ha:aggType P t=false:=by unfold aggType;rw[hu]
  rw[ha]
  exact one _ hv rfl _ (hv▸h3)
 ·rename_i e hu
  obtain⟨a,len,cap,hv⟩:=okWide_slice (v:=v) (w:=W) (r:=r) (base:=base) hu (by unfold Value.okWide;rw[hu] at hok ⊢;exact hok)
  have ha:aggType P t=false:=by unfold aggType;rw[hu]
  rw[ha]
  exact one _ hv rfl _ (hv▸h3)
 ·rename_i fs hu
  rw[hu] at hok
  obtain⟨cs,hv,_⟩:=hok
  have ha:aggType P t=true:=by unfold aggType;rw[hu]
  rw[if_pos ha,hv]
  have:=Rep.agg (F:=snap W) (σ:=nowhere) (lm:=nowhere) noOwn _ _ h3
  rw[hv] at this
  simpa[Value.cells] using this
 ·rename_i m e hu
  rw[hu] at hok
  obtain⟨cs,hv,_⟩:=hok
  have ha:aggType P t=true:=by unfold aggType;rw[hu]
  rw[if_pos ha,hv]
  have:=Rep.agg (F:=snap W) (σ:=nowhere) (lm:=nowhere) noOwn _ _ h3
  rw[hv] at this
  simpa[Value.cells] using this
 ·cases hτ
end
theorem Keeps.below {F:Fix} {w w':World} {T':Tags} (h:Keeps (maskF F) w T' w'):Below w.heap.size w w' :=
 ⟨h.os,h.tape,h.output,h.size,fun k hk=>h.block k hk fun o=>maskF_mine F k o⟩
section
variable {H:Type} {enc:TypeId×Value→H} {P:Program}
theorem trodAll_stays (hl:laidOutB P=true) {W W':World} {sp':Nat→Bool}:∀ {ts:List TypeId} {vs:List Value} {ds:List (DataW H)} {ps:List MemPlace},(ts.all fun t=>P.readableRec t && decide (t<P.types.size))=true →
  DataW.TrodAll enc P W 0 (fun _=>true) true ts vs ds ps→(∀ p∈ps,W.sameAt W' p)→(∀ p∈ps,sp' p.block=true)→DataW.TrodAll enc P W' 0 sp' true ts vs ds ps:=by
 intro ts
 induction ts with
 | nil =>
  intro vs ds ps _ h _ _
  obtain⟨rfl,rfl,rfl⟩:=trodAll_nil h
  exact rfl
 | cons t ts ih =>
  intro vs ds ps ht h hs hp
  obtain⟨v,vs1,d,ds1,a,b,rfl,rfl,rfl,h1,h2⟩:=trodAll_cons h
  simp only[List.all_cons,Bool.and_eq_true,decide_eq_true_eq] at ht
  exact⟨a,b,WideElems.Trod_stays hl ht.1.1 ht.1.2 h1 (fun p hp'=>hs p (by simp[hp'])) (fun p hp'=>hp p (by simp[hp'])),
   ih ht.2 h2 (fun p hp'=>hs p (by simp[hp'])) (fun p hp'=>hp p (by simp[hp'])),rfl⟩
theorem law_post {f:Func} {s:ChangeSpec} {apart fresh handsOn again:Bool} {W W':World} {args:Array Value} {ds:List (DataW H)} {before:List MemPlace} {tb:TypeId}
  (hl:laidOutB P=true) (hW:DataW.Whole enc P f.params.toList s.vars apart W args.toList ds [] before) (hv:s.vars=[])
  (hts:(f.params.toList.all fun t=>P.readableRec t && decide (t<P.types.size))=true) (hr:f.resultTypes=#[tb]) (htb:P.underlying tb=some .bool)
  (hs:s.fn H ds = { results:=[.lit (.bool true)],args:=ds }) (hb:Below W.heap.size W W') :
  s.post enc P f apart fresh handsOn again W args (.bool true) W':=by
 have hlt:∀ p∈before,p.block<W.heap.size:=fun p hp=>hW.lt p hp
 obtain⟨p,q,h1,h2,rfl,h3,h4⟩:=id hW
 rw[hv] at h2
 obtain⟨_,rfl⟩:=trodVars_none h2
 have hsame:∀ x∈p,W.sameAt W' x:=fun x hx=>hb.same (hlt x (by simp[hx]))
 have hargs:∀ sp:Nat→Bool,(∀ x∈p,sp x.block=true)→DataW.TrodAll enc P W' 0 sp true f.params.toList args.toList ds p:=fun sp hsp=>trodAll_stays hl hts h1 hsame hsp
 have hres:∀ (b:Nat) (sp:Nat→Bool) (hd:Bool),DataW.TrodAll enc P W' b sp hd f.resultTypes.toList ((Value.bool true).resultList f.resultTypes.size) [.lit (.bool true)] []:=fun b sp hd=>by
  rw[hr]
  exact trodAll_cons_mk (RowKit.shut_bool htb _) trodAll_mk0
 have hfz:∀ b off,b<W.heap.size→W'.frozen? ⟨b,off,none⟩=W.frozen? ⟨b,off,none⟩:=fun b off h=>by
  unfold World.frozen?
  simp only[hb.block b h]
 have hs':s.fn H (ds ++ []) = { results:=[.lit (.bool true)],args:=ds }:=by rw[List.append_nil];exact hs
 refine⟨ds,[],p ++ [],[],p,[],hW,?_,?_,?_,?_,fun _=>⟨RowKit.ok_one hr rfl (RowKit.okWide_bool_mk htb _),[.lit (.bool true)] ++ ds,[],p ++ [],⟨[] ++ p,[],?_,?_,?_,?_,?_⟩,?_⟩⟩
 ·rw[hs'];exact hres _ _ _
 ·rw[hs'];exact hargs _ fun x hx=>by simpa using hlt x (by simp[hx])
 ·rw[hs',hv];exact rfl
 ·refine⟨hb.os,hb.output,fun i hi=>?_⟩
  rw[hb.block i hi]
  cases e:W.heap[i]? with
  | none=>exact rfl
  | some o=>cases o <;> first | exact⟨rfl,rfl,rfl,fun _ _=>rfl⟩ | exact .inr ⟨rfl,rfl⟩ | exact rfl
 ·exact trodAll_append (hargs _ fun _ _=>rfl) (hres _ _ _)
 ·rw[hv];exact rfl
 ·simp
 ·intro b off hx
  have hb':b<W.heap.size:=hlt _ hx
  rw[hfz b off hb']
  exact h3 b off hx
 ·exact h4
 ·exact fun x hx _=>hx
end
@[reducible] def HRow:List Ty→Type
 | []=>Unit
 | t :: l=>t.den×HRow l
def HRow.wf:(l:List Ty)→HRow l→Prop
 | [],_=>True
 | t :: l,x=>t.wf x.1∧HRow.wf l x.2
def HRow.avs (P:Program):(ts:List TypeId)→(l:List Ty)→HRow l→List AV
 | t :: ts,τ :: l,x=>ofLeaves P t (τ.leaves x.1) :: HRow.avs P ts l x.2
 | _,_,_=>[]
theorem args_of {H:Type} {enc:TypeId×Value→H} {P:Program} (hl:laidOutB P=true) {W:World} {base:Nat} {r:Reach}:∀ {ts:List TypeId} {τs:List Ty} {vs:List Value} {ds:List (DataW H)} {ps:List MemPlace},
  ts.mapM (tyOf P tdepth)=some τs→(∀ t∈ts,t<P.types.size)→(∀ (j:Nat) t v,ts[j]?=some t→vs[j]?=some v→Value.okWide P W r base t v)→DataW.TrodAll enc P W 0 (fun _=>true) true ts vs ds ps →
  ∃ y:HRow τs,HRow.wf τs y∧RepL (snap W) nowhere nowhere (HRow.avs P ts τs y) vs:=by
 intro ts
 induction ts with
 | nil =>
  intro τs vs ds ps hm _ _ h
  obtain⟨rfl,rfl,rfl⟩:=trodAll_nil h
  simp at hm
  subst hm
  exact⟨(),trivial,.nil⟩
 | cons t ts ih =>
  intro τs vs ds ps hm ht hok h
  obtain⟨v,vs1,d,ds1,a,b,rfl,rfl,rfl,h1,h2⟩:=trodAll_cons h
  rw[List.mapM_cons] at hm
  simp only[Option.pure_def,Option.bind_eq_bind,Option.bind_eq_some_iff,Option.some.injEq] at hm
  obtain⟨τ,e1,τr,e2,rfl⟩:=hm
  obtain⟨y,y1,y2⟩:=arg_of hl (ht t (by simp)) e1 (hok 0 t v rfl rfl) h1
  obtain⟨z,z1,z2⟩:=ih e2 (fun u hu=>ht u (by simp[hu])) (fun j u x hu hx=>hok (j+1) u x (by simpa using hu) (by simpa using hx)) h2
  exact⟨(y,z),⟨y1,z1⟩,.cons _ _ _ _ y2 z2⟩
theorem closed_leaves:∀ {t:Ty} {x:t.den},closedL (t.leaves x)=true:=by
 intro t
 induction t with
 | pair a b iha ihb =>
  intro x
  show closedL (a.leaves x.1 ++ b.leaves x.2)=true
  have:∀ l m:List AV,closedL l=true→closedL m=true→closedL (l ++ m)=true:=by
   intro l m h1 h2
   induction l with
   | nil=>exact h2
   | cons v l il =>
    simp only[closedL,List.cons_append,Bool.and_eq_true] at h1 ⊢
    exact⟨h1.1,il h1.2⟩
  exact this _ _ iha ihb
 | _=>intro x;rfl
theorem closed_avs (P:Program):∀ {ts:List TypeId} {τs:List Ty} {y:HRow τs},closedL (HRow.avs P ts τs y)=true:=by
 intro ts
 induction ts with
 | nil=>intro τs y;cases τs <;> rfl
 | cons t ts ih =>
  intro τs y
  cases τs with
  | nil=>rfl
  | cons τ τs =>
   show ((ofLeaves P t (τ.leaves y.1)).closed && closedL (HRow.avs P ts τs y.2))=true
   rw[ih,Bool.and_true]
   have h:=closed_leaves (t:=τ) (x:=y.1)
   unfold ofLeaves
   split
   ·exact h
   ·split
    ·rename_i v l e
     rw[e] at h
     simp only[closedL,Bool.and_eq_true] at h
     exact h.1
    ·rfl
theorem law_contract {X:Ext} (hX:ProgOk X) (hS:SpecOk X) (hH:SpecHOk X) (hl:laidOutB X.P=true) {g:FuncId} {f:Func} {s:ChangeSpec} {apart fresh handsOn again:Bool} {tb:TypeId} {τs:List Ty}
  (hv:s.vars=[]) (hts:(f.params.toList.all fun t=>X.P.readableRec t && decide (t<X.P.types.size))=true) (hr:f.resultTypes=#[tb]) (htb:X.P.underlying tb=some .bool)
  (hτ:f.params.toList.mapM (tyOf X.P tdepth)=some τs) (hin:injRet X g .bool true=.bool true)
  {H:Type} {enc:TypeId×Value→H} {W:World} {base:Nat} {args:Array Value} {ds gs:List (DataW H)} {before:List MemPlace}
  (hval:∀ (j:Nat) t v,f.params[j]?=some t→args[j]?=some v→Value.okWide X.P W .any base t v)
  (hW:DataW.Whole enc X.P f.params.toList s.vars apart W args.toList ds gs before) (hG:GlobOk X (snap W))
  (hs:ds.length=f.params.size→s.fn H ds = { results:=[.lit (.bool true)],args:=ds })
  (hrun:∀ y:HRow τs,HRow.wf τs y→∃ n,(run X n).callT g .bool (HRow.avs X.P f.params.toList τs y)=some true) :
  Calls X.P g args W fun e W'=>∃ v,e=.returned v∧s.post enc X.P f apart fresh handsOn again W args v W':=by
 obtain⟨p,q,h1,h2,h3,h4,h5⟩:=id hW
 obtain⟨hgs,_⟩:=trodVars_none (hv▸h2)
 obtain⟨y,y1,y2⟩:=args_of (r:=.any) (base:=base) hl hτ (fun t ht=>by
  rw[List.all_eq_true] at hts
  have:=hts t ht
  simp only[Bool.and_eq_true,decide_eq_true_eq] at this
  exact this.2) (fun j t v ht hv'=>hval j t v (by simpa using ht) (by simpa using hv')) h1
 obtain⟨n,hn⟩:=hrun y y1
 obtain⟨fd,c,k1,k2,k3⟩:=(run_ok hX hS hH n).callT g .bool _ _ hn (closed_avs _) (snap W) W _ (snap_ok W) hG y2
 have hlen:ds.length=f.params.size:=by
  have:∀ {ts:List TypeId} {vs:List Value} {ds:List (DataW H)} {ps:List MemPlace},DataW.TrodAll enc X.P W 0 (fun _=>true) true ts vs ds ps→ds.length=ts.length:=by
   intro ts
   induction ts with
   | nil=>intro vs ds ps h;obtain⟨rfl,rfl,_⟩:=trodAll_nil h;rfl
   | cons t ts ih =>
    intro vs ds ps h
    obtain⟨_,_,_,_,_,_,rfl,rfl,_,_,h⟩:=trodAll_cons h
    simp[ih h]
  simpa using this h1
 refine (callsIn_wide.1 k3).mono fun e W' he=>?_
 cases e with
 | returned v =>
  obtain⟨T',K,_,hrep⟩:=he
  rw[hin] at hrep
  cases hrep
  subst hgs
  exact⟨_,rfl,law_post hl hW hv hts hr htb (hs hlen) K.below⟩
 | panicked ch=>exact he.elim
 | outgrown=>exact he.elim
end Go.Am
namespace Go.Am
open Go Go.RowKit
theorem below_cell {w w':World} (hB:Below w.heap.size w w') {b o:Nat} (hb:b<w.heap.size):w'.cell? ⟨b,o,none⟩=w.cell? ⟨b,o,none⟩:=by
 unfold World.cell?
 simp only[hB.block b hb]
theorem below_frozen {w w':World} (hB:Below w.heap.size w w') {b o:Nat} (hb:b<w.heap.size):w'.frozen? ⟨b,o,none⟩=w.frozen? ⟨b,o,none⟩:=by
 unfold World.frozen?
 simp only[hB.block b hb]
end Go.Am
namespace Go.Am
open Go Go.RowKit
theorem Inv.grown {T σ lm h ls ps} {w w':World} (I:Inv T σ lm h ls ps w) (hB:Below w.heap.size w w'):Inv T σ lm h ls ps w':={
 fixed:=fun b o v e=>by rw[below_cell hB (I.live b o (by rw[e];simp))];exact I.fixed b o v e
 spare:=fun b o l j e=>by
  have:=I.live b o (by rw[e];simp)
  rw[below_cell hB this,below_frozen hB this];exact I.spare b o l j e
 live:=fun b o e=>Nat.lt_of_lt_of_le (I.live b o e) hB.size
 dom:=I.dom
 var:=fun c l hc=>by
  obtain⟨b,h1,h2,h3⟩:=I.var c l hc
  refine⟨b,h1,Nat.lt_of_lt_of_le h2 hB.size,fun j av hj=>?_⟩
  obtain⟨v,e1,e2,e3,e5⟩:=h3 j av hj
  exact⟨v,by rw[below_cell hB h2];exact e1,by rw[below_frozen hB h2];exact e2,e3,e5⟩
 mem:=fun c x hx=>(I.mem c x hx).keep (fun _ h=>h) (Fix.le.refl _)
  (fun b k e=>by
   have hb:b<w.heap.size:=I.live b k (by rw[e];simp)
   exact⟨e,below_cell hB hb,below_frozen hB hb⟩) (fun _ _ e=>e) (fun b es ck e h=>by rw[hB.block b (I.live b 0 (by rw[e 0];simp))];exact h)
 plen:=I.plen
 loop:=fun i r hr=>by
  obtain⟨b,rec,h1,h2,h3,h4⟩:=I.loop i r hr
  have hb:b<w.heap.size:=I.live b 0 (by rw[h2];simp)
  exact⟨b,rec,h1,h2,by rw[hB.block b hb];exact h3,h4⟩ }
theorem keeps_grown (T:Tags) {w w':World} (hB:Below w.heap.size w w'):Keeps T w T w' :=
 ⟨hB.os,hB.tape,hB.output,hB.size,fun _ _ _ h=>h,fun _ _ _ h=>h,fun _ _ hb _=>⟨below_cell hB hb,below_frozen hB hb⟩,fun b hb _=>hB.block b hb⟩
theorem get_app {α:Type} {l:List α} {x y:α} {c:Nat} (h:(l ++ [x])[c]?=some y):(c≠l.length∧l[c]?=some y)∨(c=l.length∧y=x):=by
 by_cases hc:c<l.length
 ·rw[List.getElem?_append_left hc] at h
  exact .inl ⟨by omega,h⟩
 ·rw[List.getElem?_append_right (by omega)] at h
  cases e:c-l.length with
  | zero=>rw[e] at h;exact .inr ⟨by omega,by cases h;rfl⟩
  | succ k=>rw[e] at h;cases h
theorem Inv.dom_new {T σ lm h ls ps} {w:World} (I:Inv T σ lm h ls ps w):σ h.length=none:=by
 cases hs:σ h.length with
 | none=>rfl
 | some b=>obtain⟨x,hl,_⟩:=I.dom _ b hs;simp at hl
def Tags.row (T:Tags) (g c n m:Nat):Tags:=fun b o=>if b=g then (if o<n then .cell c o else if o<m then .spare (.leaf c 0) 0 else .free) else T b o
theorem Inv.newRow {T σ lm h ls ps} {w:World} (I:Inv T σ lm h ls ps w) {g:Nat} (hg:∀ o,T g o=.free) {cells:Array Value} {t:TypeId} (hb:w.heap[g]?=some (.cells cells t (0,0))) {e:Ty} (hw:0<e.width)
  {xs:List e.den} {C:Nat} (hC:xs.length≤C) (hCm:C≤maxLen) (hsz:cells.size=C*e.width)
  (hd:∀ (i:Nat) x,xs[i]?=some x→∃ ds,CellsD T.fix e x ds∧∀ (j:Nat) v,ds[j]?=some v→cells[i*e.width+j]?=some v) :
  Inv (T.row g h.length (xs.length*e.width) (C*e.width)) (fun c=>if c=h.length then some (g*rowM+C) else σ c) lm (h ++ [.row e xs]) ls ps w ∧
  Fix.le T.fix (T.row g h.length (xs.length*e.width) (C*e.width)).fix:=by
 have hσ:=I.dom_new
 have hCr:C<rowM:=maxLen_lt hCm
 have hs':∀ c b,σ c=some b→(if c=h.length then some (g*rowM+C) else σ c)=some b:=fun c b e=>by
  by_cases hc:c=h.length
  ·subst hc;rw[hσ] at e;cases e
  ·rw[if_neg hc];exact e
 have hcell:∀ o,w.cell? ⟨g,o,none⟩=cells[o]?:=fun o=>by simp[World.cell?,hb]
 have hfz:∀ o,o<cells.size→w.frozen? ⟨g,o,none⟩=false:=fun o ho=>by simp[World.frozen?,hb]
 have hne:∀ b o,T b o≠.free→b≠g:=fun b o e1 e2=>by subst e2;exact e1 (hg o)
 have hold:∀ b o,b≠g→(T.row g h.length (xs.length*e.width) (C*e.width)) b o=T b o:=fun b o hb=>by unfold Tags.row;rw[if_neg hb]
 have hnew:∀ o,(T.row g h.length (xs.length*e.width) (C*e.width)) g o=if o<xs.length*e.width then .cell h.length o else if o<C*e.width then .spare (.leaf h.length 0) 0 else .free:=fun o=>by unfold Tags.row;rw[if_pos rfl]
 have hfix:Fix.le T.fix (T.row g h.length (xs.length*e.width) (C*e.width)).fix:=fun b o v hv=>by
  rw[Tags.fix_eq] at hv ⊢
  have:b≠g:=hne b o (by intro e;rw[e] at hv;cases hv)
  rw[hold b o this];exact hv
 have hown:∀ l j b o,T.own l j b o→(T.row g h.length (xs.length*e.width) (C*e.width)).own l j b o:=fun l j b o hv=>by
  unfold Tags.own at *
  rw[hold b o (hne b o (by rw[hv];simp))];exact hv
 have hmul:xs.length*e.width≤C*e.width:=Nat.mul_le_mul_right _ hC
 refine⟨⟨?_,?_,?_,?_,?_,?_,?_,?_⟩,hfix⟩
 ·intro b o v hv
  by_cases hbg:b=g
  ·subst hbg;rw[hnew] at hv;split at hv
   ·cases hv
   ·split at hv <;> cases hv
  ·rw[hold b o hbg] at hv;exact I.fixed b o v hv
 ·intro b o l j hv
  by_cases hbg:b=g
  ·subst hbg;rw[hnew] at hv;split at hv
   ·cases hv
   ·split at hv
    ·rename_i ho
     rw[hcell]
     refine⟨by rw[Array.getElem?_eq_getElem (by rw[hsz];exact ho)];rfl,hfz o (by rw[hsz];exact ho)⟩
    ·cases hv
  ·rw[hold b o hbg] at hv;exact I.spare b o l j hv
 ·intro b o hv
  by_cases hbg:b=g
  ·subst hbg
   rcases Nat.lt_or_ge b w.heap.size with hlt | hge
   ·exact hlt
   ·rw[Array.getElem?_eq_none hge] at hb;cases hb
  ·rw[hold b o hbg] at hv;exact I.live b o hv
 ·intro c b hc
  by_cases hch:c=h.length
  ·subst hch;exact⟨.row e xs,by simp,rfl⟩
  ·rw[if_neg hch] at hc
   obtain⟨x,h1,h2⟩:=I.dom c b hc
   exact⟨x,by rw[List.getElem?_append_left (get_lt h1)];exact h1,h2⟩
 ·intro c l hc
  rcases get_app hc with ⟨h1,h2⟩ | ⟨h1,h2⟩
  ·obtain⟨b,g1,g2,g3⟩:=I.var c l h2
   refine⟨b,hs' c b g1,g2,fun j av hj=>?_⟩
   obtain⟨v,e1,e2,e3,e4⟩:=g3 j av hj
   refine⟨v,e1,e2,?_,e4.mono hfix hs' (fun _ _ x=>x) (hown _)⟩
   rw[hold b j (hne b j (by rw[e3];simp))];exact e3
  ·cases h2
 ·intro c x hc
  rcases get_app hc with ⟨h1,h2⟩ | ⟨h1,rfl⟩
  ·exact (I.mem c x h2).keep (hs' c) hfix (fun b k e=>⟨by rw[hold b k (hne b k (by rw[e];simp))];exact e,rfl,rfl⟩) (fun b k e=>by rw[hold b k (hne b k (by rw[e];simp))];exact e)
  ·subst h1
   refine⟨g*rowM+C,by simp,hw,by rw[rowC_mk _ _ hCr];exact hC,by rw[rowC_mk _ _ hCr];exact hCm,cells.toList.take (xs.length*e.width),by simp[hsz,hmul],?_,?_,?_⟩
   ·intro i x hi
    obtain⟨ds,d1,d2⟩:=hd i x hi
    refine⟨ds,d1.mono hfix,fun j v hj=>?_⟩
    have hjl:=get_lt hj
    rw[d1.length] at hjl
    have:=Nat.mul_le_mul_right e.width (show i+1≤xs.length by have:=get_lt hi;omega)
    rw[Nat.add_mul] at this
    rw[List.getElem?_take_of_lt (by omega)]
    simpa using d2 j v hj
   ·intro k v hk
    have hkl:=get_lt hk
    simp only[List.length_take,Array.length_toList,hsz] at hkl
    rw[List.getElem?_take_of_lt (by omega)] at hk
    rw[rowB_mk _ _ hCr]
    refine⟨by rw[hnew,if_pos (by omega)],?_,hfz k (by omega)⟩
    rw[hcell];simpa using hk
   ·intro k k1 k2
    rw[rowC_mk _ _ hCr] at k2
    rw[rowB_mk _ _ hCr,hnew,if_neg (by omega),if_pos k2]
 ·exact I.plen
 ·intro i r hr
  obtain⟨b,rec,g1,g2,g3,g4,g5,g6,g7,g8,g9,g10⟩:=I.loop i r hr
  exact⟨b,rec,g1,by rw[hold b 0 (hne b 0 (by rw[g2];simp))];exact g2,g3,g4,g5,g6,g7,g8,fun t=>(g9 t).mono hfix hs' (fun _ _ x=>x) (fun _ _ _ x=>x),g10⟩
theorem Inv.nilRow {T σ lm h ls ps} {w:World} (I:Inv T σ lm h ls ps w) {e:Ty} (hw:0<e.width) :
  Inv T (fun c=>if c=h.length then some 0 else σ c) lm (h ++ [.row e []]) ls ps w:=by
 have hσ:=I.dom_new
 have hs':∀ c b,σ c=some b→(if c=h.length then some 0 else σ c)=some b:=fun c b e=>by
  by_cases hc:c=h.length
  ·subst hc;rw[hσ] at e;cases e
  ·rw[if_neg hc];exact e
 refine⟨I.fixed,I.spare,I.live,?_,?_,?_,I.plen,?_⟩
 ·intro c b hc
  by_cases hch:c=h.length
  ·subst hch;exact⟨.row e [],by simp,rfl⟩
  ·rw[if_neg hch] at hc
   obtain⟨x,h1,h2⟩:=I.dom c b hc
   exact⟨x,by rw[List.getElem?_append_left (get_lt h1)];exact h1,h2⟩
 ·intro c l hc
  rcases get_app hc with ⟨h1,h2⟩ | ⟨h1,h2⟩
  ·obtain⟨b,g1,g2,g3⟩:=I.var c l h2
   refine⟨b,hs' c b g1,g2,fun j av hj=>?_⟩
   obtain⟨v,e1,e2,e3,e4⟩:=g3 j av hj
   exact⟨v,e1,e2,e3,e4.mono (Fix.le.refl _) hs' (fun _ _ x=>x) (fun _ _ _ x=>x)⟩
  ·cases h2
 ·intro c x hc
  rcases get_app hc with ⟨h1,h2⟩ | ⟨h1,rfl⟩
  ·exact (I.mem c x h2).keep (hs' c) (Fix.le.refl _) (fun _ _ e=>⟨e,rfl,rfl⟩) (fun _ _ e=>e)
  ·subst h1
   exact⟨0,by simp,hw,by simp,by simp[rowC],[],by simp,fun i x hi=>by simp at hi,fun k v hk=>by simp at hk,fun k _ k2=>by simp[rowC] at k2⟩
 ·intro i r hr
  obtain⟨b,rec,g1,g2,g3,g4,g5,g6,g7,g8,g9,g10⟩:=I.loop i r hr
  exact⟨b,rec,g1,g2,g3,g4,g5,g6,g7,g8,fun t=>(g9 t).mono (Fix.le.refl _) hs' (fun _ _ x=>x) (fun _ _ _ x=>x),g10⟩
theorem Inv.rel {X:Ext} {T σ lm h ls ps} {w:World} (I:Inv T σ lm h ls ps w) (hg:GlobOk X T.fix):Rel X T σ lm { fn:=0,base:=h.length,nt:=0,loops:=ls } none { tmps:=[],heap:=h,pend:=ps } { tmps:=#[],defers:=[] } w :=
 ⟨I,rfl,rfl,fun t=>by simp only[getT];exact .top _ _,by simp,by simp,⟨fun _=>rfl,fun b e=>by cases e⟩,hg⟩
end Go.Am
namespace Go.Am
open Go
def specClone (e:Ty):SpecF where
 run:=fun args h k=>match args with
  | [v]=>srcK h e v fun xs=>br (decide (xs.length≤8796093022208)) (k (.hs h.length e 0 xs.length) (h ++ [.row e xs])) none
  | _=>none
abbrev PtT:Ty:=.pair (.int .i64) (.int .i64)
def specSort (e:Ty) (c:FuncId) (f:List e.den→List e.den):SpecF where
 run:=fun args h k=>match args with
  | [.hs r e' 0 len,.func (.func c') [] []]=>if e'=e∧c'=c then match h[r]? with
    | some cell=>(cell.asRow e).bind fun xs=>br (decide (len≤xs.length∧len<4611686018427387904)) (k (.tuple []) (h.set r (.row e (f (xs.take len) ++ xs.drop len)))) none
    | none=>none
   else none
  | _=>none
end Go.Am
namespace Go.Hu
abbrev Pt:=Int×Int
def side (a b p:Pt):Int:=(b.1-a.1)*(p.2-a.2)-(b.2-a.2)*(p.1-a.1)
theorem side_cyc (a b c:Pt):side a b c=side b c a:=by unfold side;grind
theorem side_swap (a b c:Pt):side a b c = - side b a c:=by unfold side;grind
theorem side_self1 (a c:Pt):side a a c=0:=by unfold side;grind
theorem side_self2 (a b:Pt):side a b a=0:=by unfold side;grind
theorem side_self3 (a b:Pt):side a b b=0:=by unfold side;grind
def cross (u v:Pt):Int:=u.1*v.2-u.2*v.1
def before (s:Bool) (x y:Pt):Prop:=match s with
 | true=>x.1<y.1∨(x.1=y.1∧x.2<y.2)
 | false=>y.1<x.1∨(y.1=x.1∧y.2<x.2)
def pos (s:Bool) (u:Pt):Prop:=match s with
 | true=>0<u.1∨(u.1=0∧0<u.2)
 | false=>u.1<0∨(u.1=0∧u.2<0)
theorem pos_sub {s:Bool} {x y:Pt}:before s x y↔pos s (y.1-x.1,y.2-x.2):=by
 cases s <;> simp only[before,pos] <;> omega
theorem before_trans {s:Bool} {x y z:Pt} (h:before s x y) (k:before s y z):before s x z:=by
 cases s <;> simp only[before] at * <;> omega
theorem before_irrefl {s:Bool} {x:Pt}:¬ before s x x:=by
 cases s <;> simp only[before] <;> omega
theorem before_total (s:Bool) (x y:Pt):before s x y∨x=y∨before s y x:=by
 have:x=y↔x.1=y.1∧x.2=y.2:=Prod.ext_iff
 cases s <;> simp only[before,this] <;> omega
theorem before_not (s:Bool) {x y:Pt}:before (!s) x y↔before s y x:=by
 cases s <;> simp only[before,Bool.not_true,Bool.not_false]
theorem mul_pos' {a b:Int} (h:0<a) (k:0<b):0<a*b:=Int.mul_pos h k
theorem mul_nn {a b:Int} (h:0≤a) (k:0≤b):0≤a*b:=Int.mul_nonneg h k
theorem nn_of_mul {a b:Int} (h:0≤a*b) (k:0<b):0≤a:=by
 rcases (by omega:a<0∨0≤a) with h1 | h1
 ·have:=Int.mul_neg_of_neg_of_pos h1 k;omega
 ·exact h1
theorem pos_of_mul {a b:Int} (h:0<a*b) (k:0<b):0<a:=by
 rcases (by omega:0<a∨a≤0) with h1 | h1
 ·exact h1
 ·have:=Int.mul_nonneg (show 0≤-a by omega) (show 0≤b by omega)
  have e:-a*b = -(a*b):=Int.neg_mul ..
  omega
theorem cross_nn0 {u v w:Pt} (hu:pos true u) (hv:pos true v) (hw:pos true w) (h1:0≤cross u v) (h2:0≤cross v w):0≤cross u w:=by
 have id:cross u w*v.1=cross u v*w.1+cross v w*u.1:=by unfold cross;grind
 simp only[pos] at hu hv hw
 rcases hv with hv | ⟨hv0,hv⟩
 ·refine nn_of_mul (b:=v.1) ?_ hv
  have e1:=mul_nn h1 (show 0≤w.1 by omega)
  have e2:=mul_nn h2 (show 0≤u.1 by omega)
  omega
 ·have e:cross v w = -(v.2*w.1):=by unfold cross;rw[hv0];grind
  have hw1:w.1=0:=by
   rcases (by omega:0<w.1∨w.1≤0) with hp | hp
   ·have:=mul_pos' hv hp;omega
   ·omega
  have e2:cross u w=u.1*w.2:=by unfold cross;rw[hw1];grind
  rw[e2]
  exact mul_nn (by omega) (by omega)
theorem cross_pos0 {u v w:Pt} (hu:pos true u) (hv:pos true v) (hw:pos true w) (h1:0<cross u v) (h2:0≤cross v w):0<cross u w:=by
 have id:cross u w*v.1=cross u v*w.1+cross v w*u.1:=by unfold cross;grind
 simp only[pos] at hu hv hw
 have hu1:0<u.1:=by
  rcases hu with hu | ⟨hu0,hu⟩
  ·exact hu
  ·have e:cross u v = -(u.2*v.1):=by unfold cross;rw[hu0];grind
   have:=mul_nn (show 0≤u.2 by omega) (show 0≤v.1 by omega)
   omega
 rcases hw with hw | ⟨hw0,hw⟩
 ·rcases hv with hv | ⟨hv0,hv⟩
  ·refine pos_of_mul (b:=v.1) ?_ hv
   have e1:=mul_pos' h1 hw
   have e2:=mul_nn h2 (show 0≤u.1 by omega)
   omega
  ·have e:cross v w = -(v.2*w.1):=by unfold cross;rw[hv0];grind
   have:=mul_pos' hv hw
   omega
 ·have e2:cross u w=u.1*w.2:=by unfold cross;rw[hw0];grind
  rw[e2]
  exact mul_pos' hu1 hw
theorem cross_pos1 {u v w:Pt} (hu:pos true u) (hv:pos true v) (hw:pos true w) (h1:0≤cross u v) (h2:0<cross v w):0<cross u w:=by
 have id:cross u w*v.1=cross u v*w.1+cross v w*u.1:=by unfold cross;grind
 simp only[pos] at hu hv hw
 have hv1:0<v.1:=by
  rcases hv with hv | ⟨hv0,hv⟩
  ·exact hv
  ·have e:cross v w = -(v.2*w.1):=by unfold cross;rw[hv0];grind
   have:=mul_nn (show 0≤v.2 by omega) (show 0≤w.1 by omega)
   omega
 rcases hu with hu | ⟨hu0,hu⟩
 ·refine pos_of_mul (b:=v.1) ?_ hv1
  have e1:=mul_nn h1 (show 0≤w.1 by omega)
  have e2:=mul_pos' h2 hu
  omega
 ·have e:cross u v = -(u.2*v.1):=by unfold cross;rw[hu0];grind
  have:=mul_pos' hu hv1
  omega
def neg (u:Pt):Pt:=(-u.1,-u.2)
theorem pos_neg {u:Pt}:pos false u↔pos true (neg u):=by simp only[pos,neg];omega
theorem cross_neg (u v:Pt):cross (neg u) (neg v)=cross u v:=by unfold cross neg;grind
theorem cross_nn {s:Bool} {u v w:Pt} (hu:pos s u) (hv:pos s v) (hw:pos s w) (h1:0≤cross u v) (h2:0≤cross v w):0≤cross u w:=by
 cases s with
 | true=>exact cross_nn0 hu hv hw h1 h2
 | false=>rw[← cross_neg] at h1 h2 ⊢;exact cross_nn0 (pos_neg.1 hu) (pos_neg.1 hv) (pos_neg.1 hw) h1 h2
theorem cross_pl {s:Bool} {u v w:Pt} (hu:pos s u) (hv:pos s v) (hw:pos s w) (h1:0<cross u v) (h2:0≤cross v w):0<cross u w:=by
 cases s with
 | true=>exact cross_pos0 hu hv hw h1 h2
 | false=>rw[← cross_neg] at h1 h2 ⊢;exact cross_pos0 (pos_neg.1 hu) (pos_neg.1 hv) (pos_neg.1 hw) h1 h2
theorem cross_pr {s:Bool} {u v w:Pt} (hu:pos s u) (hv:pos s v) (hw:pos s w) (h1:0≤cross u v) (h2:0<cross v w):0<cross u w:=by
 cases s with
 | true=>exact cross_pos1 hu hv hw h1 h2
 | false=>rw[← cross_neg] at h1 h2 ⊢;exact cross_pos1 (pos_neg.1 hu) (pos_neg.1 hv) (pos_neg.1 hw) h1 h2
def vec (x y:Pt):Pt:=(y.1-x.1,y.2-x.2)
theorem pos_vec {s:Bool} {x y:Pt} (h:before s x y):pos s (vec x y):=pos_sub.1 h
theorem side_vec1 (a b p:Pt):side a b p=cross (vec a b) (vec a p):=by unfold side cross vec;grind
theorem side_vec2 (a b p:Pt):side a b p=cross (vec a b) (vec b p):=by unfold side cross vec;grind
theorem side_vec3 (a b p:Pt):side a b p=cross (vec p a) (vec a b):=by unfold side cross vec;grind
theorem side_vec4 (a b p:Pt):side a b p=cross (vec p b) (vec a b):=by unfold side cross vec;grind
def Good (s:Bool) (ps:List Pt):List Pt→Prop
 | []=>False
 | [a]=>∀ q∈ps,q=a∨before s a q
 | b :: a :: r=>before s a b∧(∀ q∈ps,0≤side a b q)∧(∀ c,r.head?=some c→0<side c a b)∧Good s ps (a :: r)
def pop (p:Pt):List Pt→List Pt
 | b :: a :: r=>if side a b p≤0 then pop p (a :: r) else b :: a :: r
 | l=>l
def chain (l:List Pt):List Pt:=l.foldl (fun st p=>p :: pop p st) []
theorem Good.one {s:Bool} {ps:List Pt} {p:Pt} (h:∀ q∈ps,q=p∨before s p q):Good s ps [p]:=h
theorem good_extend {s:Bool} {ps:List Pt} {p:Pt}:∀ (r:List Pt) (a b:Pt),Good s ps (b :: a :: r)→before s b p→0<side a b p→Good s (ps ++ [p]) (b :: a :: r)∧(∀ u v,(∃ i,(b :: a :: r)[i]?=some v∧(b :: a :: r)[i+1]?=some u)→0<side u v p):=by
 intro r
 induction r with
 | nil =>
  intro a b h hb hp
  obtain⟨h1,h2,h3,h4⟩:=h
  refine⟨⟨h1,fun q hq=>?_,h3,fun q hq=>?_⟩,fun u v ⟨i,e1,e2⟩=>?_⟩
  ·simp only[List.mem_append,List.mem_singleton] at hq
   rcases hq with hq | rfl
   ·exact h2 q hq
   ·omega
  ·simp only[List.mem_append,List.mem_singleton] at hq
   rcases hq with hq | rfl
   ·exact h4 q hq
   ·exact .inr (before_trans h1 hb)
  ·match i with
   | 0=>simp at e1 e2;subst e1;subst e2;exact hp
   | i+1=>simp at e2
 | cons c r ih =>
  intro a b h hb hp
  obtain⟨h1,h2,h3,h4⟩:=h
  have h40:=h4
  obtain⟨g1,g2,g3,g4⟩:=h4
  have ht:0<side c a b:=h3 c rfl
  have hcp:0<side c a p:=by
   rw[side_vec2] at ht hp ⊢
   have hap:=before_trans h1 hb
   have k1:0<cross (vec a b) (vec a p):=by rw[← side_vec1,side_vec2];exact hp
   exact cross_pl (pos_vec g1) (pos_vec h1) (pos_vec hap) ht (by omega)
  obtain⟨i1,i2⟩:=ih c a h40 (before_trans h1 hb) hcp
  refine⟨⟨h1,fun q hq=>?_,h3,i1⟩,fun u v ⟨i,e1,e2⟩=>?_⟩
  ·simp only[List.mem_append,List.mem_singleton] at hq
   rcases hq with hq | rfl
   ·exact h2 q hq
   ·omega
  ·match i with
   | 0=>simp at e1 e2;subst e1;subst e2;exact hp
   | i+1=>exact i2 u v ⟨i,by simpa using e1,by simpa using e2⟩
theorem pop_good {s:Bool} {ps:List Pt} {p:Pt} (hp:∀ q∈ps,before s q p):∀ (r:List Pt) (b:Pt),Good s ps (b :: r)→(∀ x∈b :: r,x∈ps)→(∀ q∈ps,before s b q→0≤side b p q)→Good s (ps ++ [p]) (p :: pop p (b :: r)):=by
 intro r
 induction r with
 | nil =>
  intro b h hm hq
  have hb:=hp b (hm b (by simp))
  refine⟨hb,fun q hq'=>?_,fun c hc=>by simp at hc,fun q hq'=>?_⟩
  ·simp only[List.mem_append,List.mem_singleton] at hq'
   rcases hq' with hq' | rfl
   ·rcases h q hq' with rfl | h1
    ·rw[side_self2];omega
    ·exact hq q hq' h1
   ·rw[side_self3];omega
  ·simp only[List.mem_append,List.mem_singleton] at hq'
   rcases hq' with hq' | rfl
   ·exact h q hq'
   ·exact .inr hb
 | cons a r ih =>
  intro b h hm hq
  have h0:=h
  obtain⟨h1,h2,h3,h4⟩:=h
  have hbp:=hp b (hm b (by simp))
  have hap:=hp a (hm a (by simp))
  unfold pop
  split
  ·rename_i hs
   refine ih a h4 (fun x hx=>hm x (List.mem_cons_of_mem _ hx)) fun q hqm haq=>?_
   have hqp:=hp q hqm
   have hb:0≤cross (vec a p) (vec a b):=by
    have e:side a b p = -(cross (vec a p) (vec a b)):=by unfold side cross vec;grind
    omega
   rcases before_total s q b with hqb | rfl | hbq
   ·
    rw[side_vec1]
    refine cross_nn (pos_vec hap) (pos_vec h1) (pos_vec haq) hb ?_
    rw[← side_vec1];exact h2 q hqm
   ·rw[side_vec1];exact hb
   ·have k:=hq q hqm hbq
    have e1:side b p q=cross (vec q p) (vec b p):=side_vec4 b p q
    have e2:0≤cross (vec b p) (vec a p):=by
     have:cross (vec b p) (vec a p)=cross (vec a p) (vec a b):=by unfold cross vec;grind
     omega
    rw[side_vec4]
    exact cross_nn (pos_vec hqp) (pos_vec hbp) (pos_vec hap) (by omega) e2
  ·rename_i hs
   obtain⟨k1,k2⟩:=good_extend r a b h0 hbp (by omega)
   refine⟨hbp,fun q hq'=>?_,fun c hc=>?_,k1⟩
   ·simp only[List.mem_append,List.mem_singleton] at hq'
    rcases hq' with hq' | rfl
    ·rcases before_total s q b with hqb | rfl | hbq
     ·have g1:=h2 q hq'
      have g2:0<side a b p:=by omega
      rw[side_vec4] at g1
      rw[side_vec2] at g2
      rw[side_vec3]
      have:=cross_pr (pos_vec hqb) (pos_vec h1) (pos_vec hbp) g1 g2
      omega
     ·rw[side_self2];omega
     ·exact hq q hq' hbq
    ·rw[side_self3];omega
   ·simp at hc;subst hc;omega
theorem pop_mem {p:Pt}:∀ (l:List Pt) (x:Pt),x∈pop p l→x∈l:=by
 intro l
 induction l with
 | nil=>intro x h;exact h
 | cons b l ih =>
  intro x h
  cases l with
  | nil=>exact h
  | cons a r =>
   unfold pop at h
   split at h
   ·exact List.mem_cons_of_mem _ (ih x h)
   ·exact h
theorem pop_ne {p:Pt}:∀ (l:List Pt),l≠[]→pop p l≠[]:=by
 intro l
 induction l with
 | nil=>intro h;exact absurd rfl h
 | cons b l ih =>
  intro _
  cases l with
  | nil=>simp[pop]
  | cons a r =>
   unfold pop
   split
   ·exact ih (by simp)
   ·simp
theorem pop_last {p:Pt}:∀ (l:List Pt),(pop p l).getLast?=l.getLast?:=by
 intro l
 induction l with
 | nil=>rfl
 | cons b l ih =>
  cases l with
  | nil=>rfl
  | cons a r =>
   unfold pop
   split
   ·rw[ih];simp[List.getLast?_cons]
   ·rfl
def Asc (s:Bool) (l:List Pt):Prop:=l.Pairwise (before s)
theorem chain_snoc (l:List Pt) (p:Pt):chain (l ++ [p])=p :: pop p (chain l):=by simp[chain]
theorem chain_good {s:Bool}:∀ (n:Nat) (l:List Pt),l.length=n→l≠[]→Asc s l→Good s l (chain l)∧(∀ x∈chain l,x∈l)∧(chain l).head?=l.getLast?∧(chain l).getLast?=l.head?:=by
 intro n
 induction n with
 | zero=>intro l hl hne;exact absurd (List.eq_nil_of_length_eq_zero hl) hne
 | succ n ih =>
  intro l hl hne hs
  obtain⟨m,p,rfl⟩:∃ m p,l=m ++ [p]:=⟨l.dropLast,l.getLast hne,(List.dropLast_concat_getLast hne).symm⟩
  rw[chain_snoc]
  have hs':=List.pairwise_append.1 hs
  by_cases hm:m=[]
  ·subst hm
   refine⟨fun q hq=>.inl (by simpa using hq),fun x hx=>by simpa[chain,pop] using hx,by simp,by simp[chain,pop]⟩
  ·obtain⟨g1,g2,g3,g4⟩:=ih m (by simp at hl;omega) hm hs'.1
   have hp:∀ q∈m,before s q p:=fun q hq=>hs'.2.2 q hq p (by simp)
   cases hc:chain m with
   | nil=>rw[hc] at g1;exact g1.elim
   | cons b r =>
    rw[hc] at g1 g2 g3 g4
    have hb:b∈m:=g2 b (by simp)
    refine⟨pop_good hp r b g1 g2 fun q hq hbq=>?_,fun x hx=>?_,by simp,?_⟩
    ·
     have hlast:m.getLast?=some b:=by rw[← g3];rfl
     obtain⟨m',rfl⟩:∃ m',m=m' ++ [b]:=List.getLast?_eq_some_iff.1 hlast
     simp only[List.mem_append,List.mem_singleton] at hq
     rcases hq with hq | rfl
     ·have:=(List.pairwise_append.1 hs'.1).2.2 q hq b (by simp)
      exact absurd (before_trans this hbq) before_irrefl
     ·exact absurd hbq before_irrefl
    ·rcases List.mem_cons.1 hx with rfl | hx
     ·simp
     ·exact List.mem_append_left _ (g2 x (pop_mem _ _ hx))
    ·have hne':pop p (b :: r)≠[]:=pop_ne _ (by simp)
     have e1:(p :: pop p (b :: r)).getLast?=(pop p (b :: r)).getLast?:=by
      cases hq:pop p (b :: r) with
      | nil=>exact absurd hq hne'
      | cons x y=>simp[List.getLast?_cons]
     rw[e1,pop_last,g4]
     cases m with
     | nil=>exact absurd rfl hm
     | cons x y=>rfl
end Go.Hu
namespace Go.Hu
def edgesOf:List Pt→List (Pt×Pt)
 | b :: a :: r=>(a,b) :: edgesOf (a :: r)
 | _=>[]
theorem edgesOf_idx:∀ (l:List Pt) (i:Nat) (a b:Pt),l[i]?=some b→l[i+1]?=some a→(a,b)∈edgesOf l:=by
 intro l
 induction l with
 | nil=>intro i a b h;simp at h
 | cons x l ih =>
  intro i a b h1 h2
  cases l with
  | nil=>simp at h2
  | cons y l =>
   cases i with
   | zero=>simp at h1 h2;subst h1;subst h2;simp[edgesOf]
   | succ i =>
    simp only[edgesOf,List.mem_cons]
    exact .inr (ih i a b (by simpa using h1) (by simpa using h2))
theorem edgesOf_of:∀ (l:List Pt) (a b:Pt),(a,b)∈edgesOf l→∃ i,l[i]?=some b∧l[i+1]?=some a:=by
 intro l
 induction l with
 | nil=>intro a b h;simp[edgesOf] at h
 | cons x l ih =>
  intro a b h
  cases l with
  | nil=>simp[edgesOf] at h
  | cons y l =>
   simp only[edgesOf,List.mem_cons,Prod.mk.injEq] at h
   rcases h with ⟨rfl,rfl⟩ | h
   ·exact⟨0,rfl,rfl⟩
   ·obtain⟨i,h1,h2⟩:=ih a b h
    exact⟨i+1,by simpa using h1,by simpa using h2⟩
theorem edgesOf_glue (x:Pt) (l:List Pt):∀ u:List Pt,edgesOf (u ++ x :: l)=edgesOf (u ++ [x]) ++ edgesOf (x :: l):=by
 intro u
 induction u with
 | nil=>simp[edgesOf]
 | cons y u ih =>
  cases u with
  | nil=>simp[edgesOf]
  | cons z u =>
   simp only[List.cons_append,edgesOf,List.cons_append] at ih ⊢
   rw[ih]
theorem good_edge {s:Bool} {ps:List Pt}:∀ (l:List Pt),Good s ps l→∀ a b,(a,b)∈edgesOf l→before s a b∧∀ q∈ps,0≤side a b q:=by
 intro l
 induction l with
 | nil=>intro h;exact h.elim
 | cons x l ih =>
  intro h a b he
  cases l with
  | nil=>simp[edgesOf] at he
  | cons y l =>
   obtain⟨h1,h2,h3,h4⟩:=h
   simp only[edgesOf,List.mem_cons,Prod.mk.injEq] at he
   rcases he with ⟨rfl,rfl⟩ | he
   ·exact⟨h1,h2⟩
   ·exact ih h4 a b he
theorem good_tail {s:Bool} {ps:List Pt} {b a:Pt} {r:List Pt} (h:Good s ps (b :: a :: r)):Good s ps (a :: r):=h.2.2.2
theorem good_below {s:Bool} {ps:List Pt}:∀ (r:List Pt) (b:Pt),Good s ps (b :: r)→∀ x∈r,before s x b:=by
 intro r
 induction r with
 | nil=>intro b _ x hx;simp at hx
 | cons a r ih =>
  intro b h x hx
  rcases List.mem_cons.1 hx with rfl | hx
  ·exact h.1
  ·exact before_trans (ih a (good_tail h) x hx) h.1
theorem good_nodup {s:Bool} {ps:List Pt}:∀ (l:List Pt),Good s ps l→l.Nodup:=by
 intro l
 induction l with
 | nil=>intro _;simp
 | cons b r ih =>
  intro h
  cases r with
  | nil=>simp
  | cons a r =>
   refine List.nodup_cons.2 ⟨fun hb=>before_irrefl (good_below _ b h b hb),ih (good_tail h)⟩
theorem strict_below {s:Bool} {ps:List Pt}:∀ (r:List Pt) (a b:Pt),Good s ps (b :: a :: r)→∀ x∈r,0<side a b x:=by
 intro r
 induction r with
 | nil=>intro a b _ x hx;simp at hx
 | cons c r ih =>
  intro a b h x hx
  have h3:0<side c a b:=h.2.2.1 c rfl
  rcases List.mem_cons.1 hx with rfl | hx
  ·rw[side_cyc,side_cyc];exact h3
  ·have h4:=good_tail h
   have k1:=ih c a h4 x hx
   have hxa:=good_below _ a h4 x (List.mem_cons_of_mem _ hx)
   rw[side_vec4] at k1
   rw[side_vec2] at h3
   rw[side_vec3]
   exact cross_pl (pos_vec hxa) (pos_vec h4.1) (pos_vec h.1) k1 (by omega)
theorem strict_above {s:Bool} {ps:List Pt} {b a:Pt} {r:List Pt} (h:Good s ps (b :: a :: r)):∀ u v,(u,v)∈edgesOf (a :: r)→0<side u v b:=by
 intro u v he
 cases r with
 | nil=>simp[edgesOf] at he
 | cons c r =>
  exact (good_extend r c a (good_tail h) h.1 (h.2.2.1 c rfl)).2 u v (edgesOf_of _ u v he)
theorem strict_chain {s:Bool} {ps:List Pt}:∀ (l:List Pt),Good s ps l→∀ a b,(a,b)∈edgesOf l→∀ x∈l,x≠a→x≠b→0<side a b x:=by
 intro l
 induction l with
 | nil=>intro h;exact h.elim
 | cons y l ih =>
  intro h a b he x hx hxa hxb
  cases l with
  | nil=>simp[edgesOf] at he
  | cons z l =>
   simp only[edgesOf,List.mem_cons,Prod.mk.injEq] at he
   rcases he with ⟨rfl,rfl⟩ | he
   ·rcases List.mem_cons.1 hx with rfl | hx
    ·exact absurd rfl hxb
    ·rcases List.mem_cons.1 hx with rfl | hx
     ·exact absurd rfl hxa
     ·exact strict_below l _ _ h x hx
   ·rcases List.mem_cons.1 hx with rfl | hx
    ·exact strict_above h a b he
    ·exact ih (good_tail h) a b he x hx hxa hxb
theorem good_turn {s:Bool} {ps:List Pt}:∀ (l:List Pt),Good s ps l→∀ i x y z,l[i]?=some y→l[i+1]?=some x→l[i+2]?=some z→before s z x∧before s x y∧0<side z x y:=by
 intro l
 induction l with
 | nil=>intro h;exact h.elim
 | cons b l ih =>
  intro h i x y z h1 h2 h3
  cases l with
  | nil=>simp at h2
  | cons a l =>
   cases i with
   | zero =>
    cases l with
    | nil=>simp at h3
    | cons c l =>
     simp at h1 h2 h3
     subst h1;subst h2;subst h3
     exact⟨(good_tail h).1,h.1,h.2.2.1 _ rfl⟩
   | succ i=>exact ih (good_tail h) i x y z (by simpa using h1) (by simpa using h2) (by simpa using h3)
theorem strict_other {s:Bool} {ps l m:List Pt} (hl:Good s ps l) (hm:Good (!s) ps m) (hms:∀ x∈m,x∈ps) {a b:Pt} (he:(a,b)∈edgesOf l) {i:Nat} {x y z:Pt} (h1:m[i]?=some y) (h2:m[i+1]?=some x) (h3:m[i+2]?=some z):0<side a b x:=by
 obtain⟨g1,g2⟩:=good_edge l hl a b he
 obtain⟨t1,t2,t3⟩:=good_turn m hm i x y z h1 h2 h3
 rw[before_not] at t1 t2
 have hx:=g2 x (hms x (List.mem_of_getElem? h2))
 have hy:=g2 y (hms y (List.mem_of_getElem? h1))
 have hz:=g2 z (hms z (List.mem_of_getElem? h3))
 rcases Int.lt_or_eq_of_le hx with hx | hx
 ·exact hx
 ·exfalso
  have e1:side a b z=side a b x+cross (vec a b) (vec x z):=by unfold side cross vec;grind
  have e2:side a b y=side a b x-cross (vec a b) (vec y x):=by unfold side cross vec;grind
  have e3:cross (vec y x) (vec a b) = -cross (vec a b) (vec y x):=by unfold cross vec;grind
  have k:=cross_nn (pos_vec t2) (pos_vec g1) (pos_vec t1) (u:=vec y x) (v:=vec a b) (w:=vec x z) (by omega) (by omega)
  have e4:side z x y = -cross (vec y x) (vec x z):=by unfold side cross vec;grind
  omega
def at_ (h:List Pt) (i:Nat):Pt:=h.getD i (0,0)
theorem at_of {h:List Pt} {i:Nat} {x:Pt} (e:h[i]?=some x):at_ h i=x:=by simp[at_,List.getD_eq_getElem?_getD,e]
theorem get_at {h:List Pt} {i:Nat} (e:i<h.length):h[i]?=some (at_ h i):=by
 rw[at_,List.getD_eq_getElem?_getD,List.getElem?_eq_getElem e];rfl
theorem at_mem {h:List Pt} {i:Nat} (e:i<h.length):at_ h i∈h:=List.mem_of_getElem? (get_at e)
theorem mem_at {h:List Pt} {x:Pt} (e:x∈h):∃ i,i<h.length∧at_ h i=x:=by
 obtain⟨i,hi⟩:=List.mem_iff_getElem?.1 e
 have:=(List.getElem?_eq_some_iff.1 hi).1
 exact⟨i,this,at_of hi⟩
theorem at_inj {h:List Pt} (hn:h.Nodup) {i j:Nat} (hi:i<h.length) (hj:j<h.length) (e:at_ h i=at_ h j):i=j:=by
 have h1:=get_at hi
 have h2:=get_at hj
 rw[e,← h2] at h1
 exact (List.getElem?_inj hi hn).1 h1
def nx (h:List Pt) (i:Nat):Nat:=(i+1) % h.length
structure Ring (S:List Pt) (h:List Pt):Prop where
 len:3≤h.length
 sub:∀ x∈h,x∈S
 left:∀ i,i<h.length→∀ q∈S,0≤side (at_ h i) (at_ h (nx h i)) q
 strict:∀ i,i<h.length→∀ j,j<h.length→j≠i→j≠nx h i→0<side (at_ h i) (at_ h (nx h i)) (at_ h j)
structure IsHull (S:List Pt) (h:List Pt):Prop extends Ring S h where
 first:∀ q∈S,q=at_ h 0∨before true (at_ h 0) q
theorem nx_lt {h:List Pt} (hl:0<h.length) (i:Nat):nx h i<h.length:=Nat.mod_lt _ hl
def ringOf (lo up:List Pt):List Pt:=(lo.reverse ++ up.reverse.tail).dropLast
theorem ring_edges {lo up:List Pt} (h1:2≤lo.length) (h2:2≤up.length) (e1:lo.head?=up.getLast?) (e2:up.head?=lo.getLast?) :
  (ringOf lo up).length+2=lo.length+up.length∧(∀ x,x∈ringOf lo up→x∈lo∨x∈up)∧(∀ i,i<(ringOf lo up).length→(at_ (ringOf lo up) i,at_ (ringOf lo up) (nx (ringOf lo up) i))∈edgesOf up ++ edgesOf lo) ∧
  some (at_ (ringOf lo up) 0)=lo.getLast?:=by
 obtain⟨x,lo',rfl⟩:∃ x lo',lo=x :: lo':=by
  cases lo with
  | nil=>simp at h1
  | cons x lo'=>exact⟨x,lo',rfl⟩
 have hlast:up.getLast?=some x:=by rw[← e1];rfl
 obtain⟨um,rfl⟩:=List.getLast?_eq_some_iff.1 hlast
 have hv:ringOf (x :: lo') (um ++ [x])=((um ++ x :: lo').reverse).dropLast:=by
  unfold ringOf
  congr 1
  simp
 have hlen:(ringOf (x :: lo') (um ++ [x])).length+1=(um ++ x :: lo').length:=by
  rw[hv,List.length_dropLast,List.length_reverse];simp;omega
 have hget:∀ i,i<(ringOf (x :: lo') (um ++ [x])).length→(ringOf (x :: lo') (um ++ [x]))[i]?=(um ++ x :: lo')[(um ++ x :: lo').length-1-i]?:=by
  intro i hi
  rw[hv,List.getElem?_dropLast,List.length_reverse,if_pos (by omega),List.getElem?_reverse (by omega)]
 have hmne:um≠[]:=by
  intro e
  subst e
  simp at h2
 obtain⟨y,um',rfl⟩:∃ y um',um=y :: um':=by
  cases um with
  | nil=>exact absurd rfl hmne
  | cons y um'=>exact⟨y,um',rfl⟩
 have hll:(x :: lo').getLast?=some y:=by rw[← e2];rfl
 have h0:(y :: um' ++ x :: lo')[(y :: um' ++ x :: lo').length-1]?=some y:=by
  rw[← List.getLast?_eq_getElem?]
  rw[List.getLast?_append,hll];rfl
 have hat0:at_ (ringOf (x :: lo') (y :: um' ++ [x])) 0=y:=at_of (by rw[hget 0 (by simp at hlen ⊢;omega),Nat.sub_zero];exact h0)
 refine⟨by simp at hlen ⊢;omega,fun z hz=>?_,fun i hi=>?_,by rw[hat0,hll]⟩
 ·rw[hv] at hz
  have:=(List.dropLast_sublist _).subset hz
  simp only[List.mem_reverse,List.mem_append] at this
  rcases this with h | h
  ·exact .inr (List.mem_append_left _ h)
  ·exact .inl h
 ·have hg:=edgesOf_glue x lo' (y :: um')
  rw[← hg]
  have hi1:=hget i hi
  have ha:(y :: um' ++ x :: lo')[(y :: um' ++ x :: lo').length-1-i]?=some (at_ (ringOf (x :: lo') (y :: um' ++ [x])) i):=by rw[← hi1];exact get_at hi
  refine edgesOf_idx _ ((y :: um' ++ x :: lo').length-1-i-1) _ _ ?_ (by rw[show (y :: um' ++ x :: lo').length-1-i-1+1=(y :: um' ++ x :: lo').length-1-i by omega];exact ha)
  by_cases hn:i+1<(ringOf (x :: lo') (y :: um' ++ [x])).length
  ·have hnx:nx (ringOf (x :: lo') (y :: um' ++ [x])) i=i+1:=Nat.mod_eq_of_lt hn
   rw[hnx,← get_at hn,hget _ hn]
   congr 1
  ·have hnx:nx (ringOf (x :: lo') (y :: um' ++ [x])) i=0:=by
    have:i+1=(ringOf (x :: lo') (y :: um' ++ [x])).length:=by omega
    rw[nx,this,Nat.mod_self]
   rw[hnx,hat0]
   have:(y :: um' ++ x :: lo').length-1-i-1=0:=by omega
   rw[this];rfl
theorem idx_mid {l:List Pt} {x:Pt} (hx:x∈l) (h0:l.head?≠some x) (h1:l.getLast?≠some x):∃ i y z,l[i]?=some y∧l[i+1]?=some x∧l[i+2]?=some z:=by
 obtain⟨k,hk⟩:=List.mem_iff_getElem?.1 hx
 have hkl:=(List.getElem?_eq_some_iff.1 hk).1
 match k with
 | 0=>exact absurd (by rw[List.head?_eq_getElem?];exact hk) h0
 | k+1 =>
  have hne:k+1≠l.length-1:=fun e=>h1 (by rw[List.getLast?_eq_getElem?,← e];exact hk)
  exact⟨k,l[k],l[k+2],List.getElem?_eq_getElem _,hk,List.getElem?_eq_getElem _⟩
theorem nodup_rev {l:List Pt} (h:l.Nodup):l.reverse.Nodup:=by
 unfold List.Nodup at *
 rw[List.pairwise_reverse]
 exact h.imp fun h=>Ne.symm h
theorem ring_hull {ps lo up:List Pt} (hlo:Good true ps lo) (hup:Good false ps up) (mlo:∀ x∈lo,x∈ps) (mup:∀ x∈up,x∈ps) (h1:2≤lo.length) (h2:2≤up.length) (e1:lo.head?=up.getLast?) (e2:up.head?=lo.getLast?)
  (h3:3≤(ringOf lo up).length) (hmin:∀ q∈ps,some q=lo.getLast?∨∀ m,lo.getLast?=some m→before true m q):IsHull ps (ringOf lo up):=by
 obtain⟨r1,r2,r3,r4⟩:=ring_edges h1 h2 e1 e2
 have edge:∀ i,i<(ringOf lo up).length→(at_ (ringOf lo up) i,at_ (ringOf lo up) (nx (ringOf lo up) i))∈edgesOf lo∨(at_ (ringOf lo up) i,at_ (ringOf lo up) (nx (ringOf lo up) i))∈edgesOf up:=fun i hi=>by
  rcases List.mem_append.1 (r3 i hi) with h | h
  ·exact .inr h
  ·exact .inl h
 have offL:∀ {a b x:Pt},(a,b)∈edgesOf lo→x∈lo∨x∈up→x≠a→x≠b→0<side a b x:=fun {a b x} he hx hxa hxb=>by
  by_cases hl:x∈lo
  ·exact strict_chain lo hlo a b he x hl hxa hxb
  ·have hu:x∈up:=by rcases hx with h | h;exact absurd h hl;exact h
   obtain⟨i,y,z,k1,k2,k3⟩:=idx_mid hu (fun e=>hl (by rw[e2] at e;exact List.mem_of_getLast? e)) (fun e=>hl (by rw[← e1] at e;exact List.mem_of_head? e))
   exact strict_other hlo hup mup he k1 k2 k3
 have offU:∀ {a b x:Pt},(a,b)∈edgesOf up→x∈lo∨x∈up→x≠a→x≠b→0<side a b x:=fun {a b x} he hx hxa hxb=>by
  by_cases hl:x∈up
  ·exact strict_chain up hup a b he x hl hxa hxb
  ·have hu:x∈lo:=by rcases hx with h | h;exact h;exact absurd h hl
   obtain⟨i,y,z,k1,k2,k3⟩:=idx_mid hu (fun e=>hl (by rw[e1] at e;exact List.mem_of_getLast? e)) (fun e=>hl (by rw[← e2] at e;exact List.mem_of_head? e))
   exact strict_other hup hlo mlo he k1 k2 k3
 have hnd:(ringOf lo up).Nodup:=by
  obtain⟨x,lo',rfl⟩:∃ x lo',lo=x :: lo':=by
   cases lo with
   | nil=>simp at h1
   | cons x lo'=>exact⟨x,lo',rfl⟩
  have hlast:up.getLast?=some x:=by rw[← e1];rfl
  obtain⟨um,rfl⟩:=List.getLast?_eq_some_iff.1 hlast
  obtain⟨y,um',rfl⟩:∃ y um',um=y :: um':=by
   cases um with
   | nil=>simp at h2
   | cons y um'=>exact⟨y,um',rfl⟩
  have hv:ringOf (x :: lo') (y :: um' ++ [x])=(um' ++ x :: lo').reverse:=by
   unfold ringOf
   have:(x :: lo').reverse ++ (y :: um' ++ [x]).reverse.tail=(um' ++ x :: lo').reverse ++ [y]:=by simp
   rw[this,List.dropLast_concat]
  rw[hv]
  refine nodup_rev (List.nodup_append.2 ?_)
  have nu:=good_nodup _ hup
  refine⟨?_,good_nodup _ hlo,fun a ha b hb hab=>?_⟩
  ·have:=(List.nodup_cons.1 (by simpa using nu:(y :: (um' ++ [x])).Nodup)).2
   exact (List.nodup_append.1 this).1
  ·subst hab
   have nu':(y :: (um' ++ [x])).Nodup:=by simpa using nu
   have hay:a≠y:=fun e=>(List.nodup_cons.1 nu').1 (by subst e;exact List.mem_append_left _ ha)
   have hax:a≠x:=fun e=>(List.nodup_append.1 (List.nodup_cons.1 nu').2).2.2 a ha x (by simp) e
   have hau:a∈y :: um' ++ [x]:=by simp[ha]
   obtain⟨i,p,q,k1,k2,k3⟩:=idx_mid hau (by simp[Ne.symm hay]) (by rw[List.getLast?_concat];simp[Ne.symm hax])
   have hll:(x :: lo').getLast?=some y:=by rw[← e2];rfl
   obtain⟨j,p',q',m1,m2,m3⟩:=idx_mid hb (by simp[Ne.symm hax]) (by rw[hll];simp[Ne.symm hay])
   have:=strict_other hlo hup mup (edgesOf_idx _ _ _ _ m1 m2) k1 k2 k3
   rw[side_self2] at this
   omega
 refine⟨⟨h3,fun x hx=>?_,fun i hi q hq=>?_,fun i hi j hj hji hjn=>?_⟩,fun q hq=>?_⟩
 ·rcases r2 x hx with h | h
  ·exact mlo x h
  ·exact mup x h
 ·rcases edge i hi with h | h
  ·exact (good_edge lo hlo _ _ h).2 q hq
  ·exact (good_edge up hup _ _ h).2 q hq
 ·have n1:at_ (ringOf lo up) j≠at_ (ringOf lo up) i:=fun e=>hji (at_inj hnd hj hi e)
  have n2:at_ (ringOf lo up) j≠at_ (ringOf lo up) (nx (ringOf lo up) i):=fun e=>hjn (at_inj hnd hj (nx_lt (by omega) i) e)
  rcases edge i hi with h | h
  ·exact offL h (r2 _ (at_mem hj)) n1 n2
  ·exact offU h (r2 _ (at_mem hj)) n1 n2
 ·rcases hmin q hq with h | h
  ·rw[← r4] at h;exact .inl (Option.some.inj h)
  ·exact .inr (h _ r4.symm)
end Go.Hu
namespace Go.Hu
theorem good_congr {s:Bool} {ps qs:List Pt} (h:∀ q,q∈qs→q∈ps):∀ (l:List Pt),Good s ps l→Good s qs l:=by
 intro l
 induction l with
 | nil=>intro g;exact g.elim
 | cons b r ih =>
  intro g
  cases r with
  | nil=>exact fun q hq=>g q (h q hq)
  | cons a r=>exact⟨g.1,fun q hq=>g.2.1 q (h q hq),g.2.2.1,ih g.2.2.2⟩
def hullOf (ps:List Pt):List Pt:=ringOf (chain ps) (chain ps.reverse)
theorem cross_line {d u v:Pt} (hd:d≠(0,0)) (h1:cross d u=0) (h2:cross d v=0):cross u v=0:=by
 have e1:d.1*cross u v=u.1*cross d v-v.1*cross d u:=by unfold cross;grind
 have e2:d.2*cross u v=u.2*cross d v-v.2*cross d u:=by unfold cross;grind
 rw[h1,h2,Int.mul_zero,Int.mul_zero] at e1 e2
 by_cases hx:d.1=0
 ·have hy:d.2≠0:=fun e=>hd (Prod.ext hx e)
  rcases Int.mul_eq_zero.1 (by omega:d.2*cross u v=0) with h | h
  ·exact absurd h hy
  ·exact h
 ·rcases Int.mul_eq_zero.1 (by omega:d.1*cross u v=0) with h | h
  ·exact absurd h hx
  ·exact h
theorem asc_rev {s:Bool} {ps:List Pt} (h:Asc s ps):Asc (!s) ps.reverse:=by
 unfold Asc at *
 rw[List.pairwise_reverse]
 exact h.imp fun k=>(before_not s).2 k
theorem two_of_ends {l:List Pt} {x y:Pt} (h1:l.head?=some x) (h2:l.getLast?=some y) (hne:x≠y):2≤l.length:=by
 match l with
 | []=>cases h1
 | [z]=>simp at h1 h2;exact absurd (h1.symm.trans h2) hne
 | _ :: _ :: _=>simp
theorem hull_main {ps:List Pt} (ha:Asc true ps) (h2:2≤ps.length) :
  ((hullOf ps).length<3→∀ a b c,a∈ps→b∈ps→c∈ps→side a b c=0)∧(3≤(hullOf ps).length→IsHull ps (hullOf ps)):=by
 have hne:ps≠[]:=fun e=>by rw[e] at h2;simp at h2
 obtain⟨g1,g2,g3,g4⟩:=chain_good ps.length ps rfl hne ha
 obtain⟨k1,k2,k3,k4⟩:=chain_good (s:=false) ps.reverse.length ps.reverse rfl (by simpa using hne) (asc_rev ha)
 rw[List.getLast?_reverse] at k3
 rw[List.head?_reverse] at k4
 have k1':Good false ps (chain ps.reverse):=good_congr (fun q hq=>by simpa using hq) _ k1
 have k2':∀ x∈chain ps.reverse,x∈ps:=fun x hx=>by simpa using k2 x hx
 obtain⟨x,t,rfl⟩:∃ x t,ps=x :: t:=by
  cases ps with
  | nil=>exact absurd rfl hne
  | cons x t=>exact⟨x,t,rfl⟩
 have htne:t≠[]:=fun e=>by subst e;simp at h2
 have hgl:(x :: t).getLast?=some (t.getLast htne):=by
  rw[List.getLast?_eq_some_getLast (by simp),List.getLast_cons htne]
 have hlt:∀ q∈t,before true x q:=(List.pairwise_cons.1 ha).1
 have hend:before true x (t.getLast htne):=hlt _ (List.getLast_mem htne)
 have hxy:t.getLast htne≠x:=fun e=>before_irrefl (e▸hend)
 have l1:2≤(chain (x :: t)).length:=two_of_ends (by rw[g3];exact hgl) (by rw[g4];rfl) hxy
 have l2:2≤(chain (x :: t).reverse).length:=two_of_ends (by rw[k3];rfl) (by rw[k4];exact hgl) (Ne.symm hxy)
 have e1:(chain (x :: t)).head?=(chain (x :: t).reverse).getLast?:=by rw[g3,k4]
 have e2:(chain (x :: t).reverse).head?=(chain (x :: t)).getLast?:=by rw[k3,g4]
 refine⟨fun h3 a b c hA hB hC=>?_,fun h3=>?_⟩
 ·obtain⟨r1,_⟩:=ring_edges l1 l2 e1 e2
  unfold hullOf at h3
  have q1:(chain (x :: t)).length=2:=by omega
  have q2:(chain (x :: t).reverse).length=2:=by omega
  have f1:(x,t.getLast htne)∈edgesOf (chain (x :: t)):=by
   rw[hgl] at g3
   refine edgesOf_idx _ 0 _ _ (by rw[← List.head?_eq_getElem?];exact g3) ?_
   rw[List.getLast?_eq_getElem?,q1] at g4
   exact g4
  have f2:(t.getLast htne,x)∈edgesOf (chain (x :: t).reverse):=by
   refine edgesOf_idx _ 0 _ _ (by rw[← List.head?_eq_getElem?];exact k3) ?_
   rw[List.getLast?_eq_getElem?,q2] at k4
   rw[hgl] at k4
   exact k4
  have on:∀ q∈x :: t,side x (t.getLast htne) q=0:=fun q hq=>by
   have:=(good_edge _ g1 _ _ f1).2 q hq
   have h':=(good_edge _ k1' _ _ f2).2 q hq
   rw[side_swap] at h'
   omega
  have hd:vec x (t.getLast htne)≠(0,0):=fun e=>hxy (by
   unfold vec at e
   simp only[Prod.mk.injEq] at e
   exact Prod.ext (by omega) (by omega))
  have on2:∀ p q,p∈x :: t→q∈x :: t→cross (vec x (t.getLast htne)) (vec p q)=0:=fun p q hp hq=>by
   have i1:=on p hp
   have i2:=on q hq
   have:cross (vec x (t.getLast htne)) (vec p q)=side x (t.getLast htne) q-side x (t.getLast htne) p:=by unfold side cross vec;grind
   omega
  rw[side_vec1]
  exact cross_line hd (on2 a b hA hB) (on2 a c hA hC)
 ·refine ring_hull g1 k1' g2 k2' l1 l2 e1 e2 h3 fun q hq=>?_
  rw[g4]
  rcases List.mem_cons.1 hq with rfl | hq
  ·exact .inl rfl
  ·exact .inr fun m hm=>by cases hm;exact hlt q hq
def pv (h:List Pt) (i:Nat):Nat:=(i+h.length-1) % h.length
theorem nx_pv {h:List Pt} {i:Nat} (hi:i<h.length):nx h (pv h i)=i:=by
 unfold nx pv
 by_cases h0:i=0
 ·subst h0
  have:(0+h.length-1) % h.length=h.length-1:=by rw[show 0+h.length-1=h.length-1 by omega];exact Nat.mod_eq_of_lt (by omega)
  rw[this,Nat.sub_add_cancel (by omega),Nat.mod_self]
 ·have:(i+h.length-1) % h.length=i-1:=by
   rw[show i+h.length-1=(i-1)+h.length by omega,Nat.add_mod_right]
   exact Nat.mod_eq_of_lt (by omega)
  rw[this,Nat.sub_add_cancel (by omega),Nat.mod_eq_of_lt hi]
theorem nx_val {h:List Pt} {i:Nat} (hi:i<h.length):nx h i=if i+1=h.length then 0 else i+1:=by
 unfold nx
 split
 ·rename_i e;rw[e,Nat.mod_self]
 ·exact Nat.mod_eq_of_lt (by omega)
theorem pv_val {h:List Pt} {i:Nat} (hi:i<h.length):pv h i=if i=0 then h.length-1 else i-1:=by
 unfold pv
 split
 ·rename_i e;subst e;rw[show 0+h.length-1=h.length-1 by omega];exact Nat.mod_eq_of_lt (by omega)
 ·rw[show i+h.length-1=(i-1)+h.length by omega,Nat.add_mod_right]
  exact Nat.mod_eq_of_lt (by omega)
section
variable {S S' h h':List Pt}
theorem Ring.mem (R:Ring S h) {i:Nat} (hi:i<h.length):at_ h i∈S:=R.sub _ (at_mem hi)
theorem Ring.pos (R:Ring S h):0<h.length:=by have:=R.len;omega
theorem Ring.turn (R:Ring S h) {i:Nat} (hi:i<h.length):0<side (at_ h (pv h i)) (at_ h i) (at_ h (nx h i)):=by
 have hl:=R.len
 have hp:pv h i<h.length:=Nat.mod_lt _ (by omega)
 have:=R.strict (pv h i) hp (nx h i) (nx_lt R.pos i) (by rw[nx_val hi,pv_val hi];split <;> split <;> omega) (by rw[nx_pv hi,nx_val hi];split <;> omega)
 rwa [nx_pv hi] at this
theorem Ring.inj (R:Ring S h) {i j:Nat} (hi:i<h.length) (hj:j<h.length) (e:at_ h i=at_ h j):i=j:=by
 have hl:=R.len
 by_cases hij:i=j
 ·exact hij
 ·exfalso
  by_cases hn:j=nx h i
  ·have:=R.turn hi
   rw[← hn,← e] at this
   rw[side_self3] at this;omega
  ·have:=R.strict i hi j hj (Ne.symm hij) hn
   rw[← e,side_self2] at this;omega
theorem Ring.seg (R:Ring S h) {i:Nat} (hi:i<h.length) {x:Pt} (hx:x∈S) (hs:side (at_ h i) (at_ h (nx h i)) x=0) :
  ∃ A A':Int,0<A∧0≤A'∧A'≤A∧A*(x.1-(at_ h i).1)=A'*((at_ h (nx h i)).1-(at_ h i).1)∧A*(x.2-(at_ h i).2)=A'*((at_ h (nx h i)).2-(at_ h i).2):=by
 have hl:=R.len
 have hp:pv h i<h.length:=Nat.mod_lt _ (by omega)
 have hn:=nx_lt R.pos i
 have hA:=R.turn hi
 have hA':=R.left (pv h i) hp x hx
 rw[nx_pv hi] at hA'
 have hC:=R.turn hn
 have e0:pv h (nx h i)=i:=by
  rw[pv_val hn,nx_val hi];split <;> split <;> omega
 rw[e0] at hC
 have hD:=R.left (nx h i) hn x hx
 generalize at_ h (pv h i)=z at *
 generalize at_ h (nx h (nx h i))=c at *
 generalize at_ h (nx h i)=b at *
 generalize at_ h i=v at *
 refine⟨side z v b,side z v x,hA,hA',?_,?_,?_⟩
 ·
  have id:side z v x*side v b c=side z v b*(side v b c-side b c x)+(side v b x)*((v.1-z.1)*(c.2-b.2)-(v.2-z.2)*(c.1-b.1)):=by unfold side;grind
  rw[hs,Int.zero_mul,Int.add_zero] at id
  have le:side z v b*(side v b c-side b c x)≤side z v b*side v b c:=Int.mul_le_mul_of_nonneg_left (by omega) (by omega)
  rw[← id] at le
  exact Int.le_of_mul_le_mul_right le hC
 ·have id:side z v b*(x.1-v.1)-side z v x*(b.1-v.1) = - (v.1-z.1)*side v b x:=by unfold side;grind
  rw[hs,Int.mul_zero] at id;omega
 ·have id:side z v b*(x.2-v.2)-side z v x*(b.2-v.2) = - (v.2-z.2)*side v b x:=by unfold side;grind
  rw[hs,Int.mul_zero] at id;omega
theorem ratio_eq {A A' B B' x y:Int} (hA:0<A) (hA':0≤A') (hAA:A'≤A) (hB:0<B) (hB':0≤B') (hBB:B'≤B) (e1:A*x=A'*y) (e2:B*y=B'*x):x=y:=by
 rcases (by omega:x=0∨0<x∨x<0) with h | h | h
 ·subst h
  rw[Int.mul_zero] at e2
  rcases Int.mul_eq_zero.1 e2 with h | h <;> omega
 ·
  have hy:0≤y:=nn_of_mul (b:=B) (by rw[Int.mul_comm,e2];exact mul_nn hB' (by omega)) hB
  have h1:A*x≤A*y:=by rw[e1];exact Int.mul_le_mul_of_nonneg_right hAA hy
  have h2:B*y≤B*x:=by rw[e2];exact Int.mul_le_mul_of_nonneg_right hBB (by omega)
  have:=Int.le_of_mul_le_mul_left h1 hA
  have:=Int.le_of_mul_le_mul_left h2 hB
  omega
 ·have hy:0≤-y:=nn_of_mul (b:=B) (by
   have e:-y*B=B' * -x:=by rw[Int.neg_mul,Int.mul_comm y B,e2,Int.mul_neg]
   rw[e];exact mul_nn hB' (by omega)) hB
  have h1:A * -x≤A * -y:=by rw[Int.mul_neg,Int.mul_neg,e1,← Int.mul_neg,← Int.mul_neg];exact Int.mul_le_mul_of_nonneg_right hAA hy
  have h2:B * -y≤B * -x:=by rw[Int.mul_neg,Int.mul_neg,e2,← Int.mul_neg,← Int.mul_neg];exact Int.mul_le_mul_of_nonneg_right hBB (by omega)
  have:=Int.le_of_mul_le_mul_left h1 hA
  have:=Int.le_of_mul_le_mul_left h2 hB
  omega
theorem Ring.next (R:Ring S h) (R':Ring S' h') (hS:∀ x,x∈S↔x∈S') {i j:Nat} (hi:i<h.length) (hj:j<h'.length) (e:at_ h i=at_ h' j):at_ h (nx h i)=at_ h' (nx h' j):=by
 have m1:=(hS _).1 (R.mem (nx_lt R.pos i))
 have m2:=(hS _).2 (R'.mem (nx_lt R'.pos j))
 have s1:=R.left i hi _ m2
 have s2:=R'.left j hj _ m1
 rw[← e] at s2
 have hs:side (at_ h i) (at_ h (nx h i)) (at_ h' (nx h' j))=0:=by
  have:side (at_ h i) (at_ h' (nx h' j)) (at_ h (nx h i)) = - side (at_ h i) (at_ h (nx h i)) (at_ h' (nx h' j)):=by unfold side;grind
  omega
 have hs':side (at_ h' j) (at_ h' (nx h' j)) (at_ h (nx h i))=0:=by
  rw[← e]
  have:side (at_ h i) (at_ h' (nx h' j)) (at_ h (nx h i)) = - side (at_ h i) (at_ h (nx h i)) (at_ h' (nx h' j)):=by unfold side;grind
  omega
 obtain⟨A,A',a1,a2,a3,a4,a5⟩:=R.seg hi m2 hs
 obtain⟨B,B',b1,b2,b3,b4,b5⟩:=R'.seg hj m1 hs'
 rw[← e] at b4 b5
 have r1:=ratio_eq a1 a2 a3 b1 b2 b3 a4 b4
 have r2:=ratio_eq a1 a2 a3 b1 b2 b3 a5 b5
 exact Prod.ext (by omega) (by omega)
theorem before_asymm {s:Bool} {x y:Pt} (h:before s x y) (k:before s y x):False:=before_irrefl (before_trans h k)
theorem Ring.congr (R:Ring S h) (hS:∀ x,x∈S↔x∈S'):Ring S' h:=⟨R.len,fun x hx=>(hS x).1 (R.sub x hx),fun i hi q hq=>R.left i hi q ((hS q).2 hq),R.strict⟩
theorem IsHull.congr (R:IsHull S h) (hS:∀ x,x∈S↔x∈S'):IsHull S' h:=⟨R.toRing.congr hS,fun q hq=>R.first q ((hS q).2 hq)⟩
theorem Ring.least (R:Ring S h):∃ s,s<h.length∧∀ q∈S,q=at_ h s∨before true (at_ h s) q:=by
 have hex:∀ (l:List Pt),l≠[]→∃ m∈l,∀ q∈l,q=m∨before true m q:=by
  intro l
  induction l with
  | nil=>intro e;exact absurd rfl e
  | cons a l ih =>
   intro _
   by_cases hl:l=[]
   ·subst hl;exact⟨a,by simp,fun q hq=>.inl (by simpa using hq)⟩
   ·obtain⟨m,h1,h2⟩:=ih hl
    rcases before_total true a m with h | rfl | h
    ·refine⟨a,by simp,fun q hq=>?_⟩
     rcases List.mem_cons.1 hq with rfl | hq
     ·exact .inl rfl
     ·rcases h2 q hq with rfl | k
      ·exact .inr h
      ·exact .inr (before_trans h k)
    ·refine⟨a,by simp,fun q hq=>?_⟩
     rcases List.mem_cons.1 hq with rfl | hq
     ·exact .inl rfl
     ·exact h2 q hq
    ·refine⟨m,by simp[h1],fun q hq=>?_⟩
     rcases List.mem_cons.1 hq with rfl | hq
     ·exact .inr h
     ·exact h2 q hq
 have hl:=R.len
 obtain⟨m,hm,hmin⟩:=hex h (fun e=>by rw[e] at hl;simp at hl)
 obtain⟨s,hs,rfl⟩:=mem_at hm
 refine⟨s,hs,fun q hq=>?_⟩
 rcases before_total true q (at_ h s) with hb | rfl | hb
 ·exfalso
  have hn:=nx_lt R.pos s
  have hp:pv h s<h.length:=Nat.mod_lt _ R.pos
  have t:=R.turn hs
  have l1:=R.left s hs q hq
  have l2:=R.left (pv h s) hp q hq
  rw[nx_pv hs] at l2
  have n1:nx h s≠s:=by rw[nx_val hs];split <;> omega
  have n2:pv h s≠s:=by rw[pv_val hs];split <;> omega
  have b1:before true (at_ h s) (at_ h (nx h s)):=by
   rcases hmin _ (at_mem hn) with e | e
   ·exact absurd (R.inj hn hs e) n1
   ·exact e
  have b2:before true (at_ h s) (at_ h (pv h s)):=by
   rcases hmin _ (at_mem hp) with e | e
   ·exact absurd (R.inj hp hs e) n2
   ·exact e
  generalize at_ h (pv h s)=w at *
  generalize at_ h (nx h s)=u at *
  generalize at_ h s=v at *
  have c1:0≤cross (vec q v) (vec v u):=by rw[← side_vec3];exact l1
  have c2:0≤cross (vec v w) (vec q v):=by
   have:side w v q=cross (vec v w) (vec q v):=by unfold side cross vec;grind
   omega
  have c3:=cross_nn (pos_vec b2) (pos_vec hb) (pos_vec b1) c2 c1
  have c4:side w v u = - cross (vec v w) (vec v u):=by unfold side cross vec;grind
  omega
 ·exact .inl rfl
 ·exact .inr hb
end
end Go.Hu
namespace Go.Hu
def ptLe (a b:Pt):Bool:=decide (a.1<b.1) || (decide (a.1=b.1) && decide (a.2≤b.2))
def sortPts (l:List Pt):List Pt:=l.mergeSort ptLe
theorem ptLe_iff {a b:Pt}:ptLe a b=true↔before true a b∨a=b:=by
 simp only[ptLe,Bool.or_eq_true,Bool.and_eq_true,decide_eq_true_eq,before]
 rw[Prod.ext_iff]
 omega
theorem sort_mem {l:List Pt} {x:Pt}:x∈sortPts l↔x∈l:=(List.mergeSort_perm l ptLe).mem_iff
theorem sort_length (l:List Pt):(sortPts l).length=l.length:=(List.mergeSort_perm l ptLe).length_eq
theorem sort_sorted (l:List Pt):(sortPts l).Pairwise fun a b=>ptLe a b=true:=by
 refine List.pairwise_mergeSort (fun a b c=>?_) (fun a b=>?_) l
 ·rw[ptLe_iff,ptLe_iff,ptLe_iff]
  rintro (h | rfl) (k | rfl)
  ·exact .inl (before_trans h k)
  ·exact .inl h
  ·exact .inl k
  ·exact .inr rfl
 ·simp only[Bool.or_eq_true,ptLe_iff]
  rcases before_total true a b with h | h | h
  ·exact .inl (.inl h)
  ·exact .inl (.inr h)
  ·exact .inr (.inl h)
def ddf (l:List Pt):List Pt:=l.foldl (fun acc x=>if acc.getLast?=some x then acc else acc ++ [x]) []
theorem ddf_snoc (l:List Pt) (x:Pt):ddf (l ++ [x])=if (ddf l).getLast?=some x then ddf l else ddf l ++ [x]:=by unfold ddf;rw[List.foldl_append];rfl
theorem ddf_last:∀ (n:Nat) (l:List Pt),l.length=n→(ddf l).getLast?=l.getLast?:=by
 intro n
 induction n with
 | zero=>intro l h;rw[List.eq_nil_of_length_eq_zero h];rfl
 | succ n ih =>
  intro l h
  have hne:l≠[]:=fun e=>by subst e;simp at h
  obtain⟨m,x,rfl⟩:∃ m x,l=m ++ [x]:=⟨l.dropLast,l.getLast hne,(List.dropLast_concat_getLast hne).symm⟩
  rw[ddf_snoc]
  split
  ·rename_i e;rw[e];simp
  ·simp
theorem ddf_snoc' (l:List Pt) (x:Pt):ddf (l ++ [x])=if l.getLast?=some x then ddf l else ddf l ++ [x]:=by
 rw[ddf_snoc,ddf_last _ l rfl]
theorem ddf_main:∀ (n:Nat) (l:List Pt),l.length=n→(∀ x,x∈ddf l↔x∈l)∧((l.Pairwise fun a b=>ptLe a b=true)→Asc true (ddf l))∧(ddf l).length≤l.length:=by
 intro n
 induction n with
 | zero=>intro l h;rw[List.eq_nil_of_length_eq_zero h];simp[ddf,Asc]
 | succ n ih =>
  intro l h
  have hne:l≠[]:=fun e=>by subst e;simp at h
  obtain⟨m,x,rfl⟩:∃ m x,l=m ++ [x]:=⟨l.dropLast,l.getLast hne,(List.dropLast_concat_getLast hne).symm⟩
  obtain⟨i1,i2,i3⟩:=ih m (by simp at h;omega)
  rw[ddf_snoc']
  split
  ·rename_i e
   have hx:x∈m:=List.mem_of_getLast? e
   refine⟨fun y=>?_,fun hp=>i2 (List.pairwise_append.1 hp).1,by simp;omega⟩
   rw[i1 y,List.mem_append,List.mem_singleton]
   constructor
   ·exact .inl
   ·rintro (h | rfl)
    ·exact h
    ·exact hx
  ·rename_i e
   refine⟨fun y=>by simp only[List.mem_append,List.mem_singleton,i1 y],fun hp=>?_,by simp;omega⟩
   obtain⟨p1,p2,p3⟩:=List.pairwise_append.1 hp
   refine List.pairwise_append.2 ⟨i2 p1,List.pairwise_singleton _ _,fun y hy z hz=>?_⟩
   simp only[List.mem_singleton] at hz
   subst hz
   cases hm:m.getLast? with
   | none =>
    rw[List.getLast?_eq_none_iff] at hm
    subst hm
    simp[ddf] at hy
   | some w =>
    have hwz:before true w z:=by
     rcases ptLe_iff.1 (p3 w (List.mem_of_getLast? hm) z (by simp)) with h | h
     ·exact h
     ·exact absurd (by rw[hm,h]) e
    obtain⟨m',rfl⟩:=List.getLast?_eq_some_iff.1 hm
    have hy':=(i1 y).1 hy
    rcases List.mem_append.1 hy' with h1 | h1
    ·rcases ptLe_iff.1 ((List.pairwise_append.1 p1).2.2 y h1 w (by simp)) with h2 | h2
     ·exact before_trans h2 hwz
     ·rw[h2];exact hwz
    ·simp only[List.mem_singleton] at h1
     rw[h1];exact hwz
theorem ddf_short {l:List Pt} (h:l.length<2):ddf l=l:=by
 match l with
 | []=>rfl
 | [x]=>simp[ddf]
def hullRes (l:List Pt):List Pt×Bool :=
 let d:=ddf (sortPts l)
 if d.length<3 then ([],false) else if (hullOf d).length<3 then ([],false) else (hullOf d,true)
theorem hullRes_spec (l:List Pt):((hullRes l)=([],false)∧∀ a b c,a∈l→b∈l→c∈l→side a b c=0)∨(∃ h,hullRes l=(h,true)∧IsHull l h):=by
 obtain⟨d1,d2,d3⟩:=ddf_main _ (sortPts l) rfl
 have ha:=d2 (sort_sorted l)
 have hm:∀ x,x∈ddf (sortPts l)↔x∈l:=fun x=>(d1 x).trans sort_mem
 unfold hullRes
 simp only
 split
 ·rename_i hlt
  left
  refine⟨rfl,fun a b c ha hb hc=>?_⟩
  rw[← hm] at ha hb hc
  generalize ddf (sortPts l)=d at *
  match d with
  | []=>simp at ha
  | [x] =>
   simp at ha hb
   subst ha;subst hb
   exact side_self1 _ _
  | [x,y] =>
   simp only[List.mem_cons,List.not_mem_nil,or_false] at ha hb hc
   rcases ha with rfl | rfl <;> rcases hb with rfl | rfl <;> rcases hc with rfl | rfl <;> simp[side_self1,side_self2,side_self3]
  | _ :: _ :: _ :: _=>exfalso;simp only[List.length_cons] at hlt;omega
 ·rename_i hge
  obtain⟨m1,m2⟩:=hull_main ha (by omega)
  split
  ·rename_i h3
   exact .inl ⟨rfl,fun a b c ha hb hc=>m1 h3 a b c ((hm a).2 ha) ((hm b).2 hb) ((hm c).2 hc)⟩
  ·rename_i h3
   exact .inr ⟨_,rfl,(m2 (by omega)).congr hm⟩
end Go.Hu
namespace Go.Jm
open Go Go.Am
def rulesL:List ((Int×Int)×List AV) :=
  [((1,1),[AV.func (.func 143) [] []]),((1,2),[AV.func (.func 144) [] []]),((1,3),[AV.func (.func 145) [] []]),((1,4),[AV.func (.func 146) [] []]),
   ((2,2),[AV.func (.func 146) [] []]),((2,3),[AV.func (.func 146) [] []]),((2,4),[AV.func (.func 146) [] []])]
def specRules:SpecF where
 run:=fun args h k=>match args with
  | []=>k (.map h.length) (h ++ [.mapv (.pair (.int .i64) (.int .i64)) true rulesL])
  | _=>none
def specMoves:SpecF where
 run:=fun args h k=>match args,h with
  | [.agg [.int .i64 kd,.int .i64 i,.int .i64 j,.slice o e xs],.ptr 0 0],[.var [.int .i64 a,.int .i64 jt,.int .i64 by']] =>
   k (.bool (decide (i=a) && (decide (kd=1) && decide (jt≤j) || decide (kd=2)))) [.var [.int .i64 a,.int .i64 jt,.int .i64 by'],.var [.int .i64 kd,.int .i64 i,.int .i64 j,.slice o e xs]]
  | _,_=>none
def specHTab (g:FuncId):Option SpecF:=if g=119 then some (specClone PtT) else if g=129 then some (specClone PtT) else if g=130 then some (specSort PtT 131 Hu.sortPts) else if g=91 then some specMoves else if g=99 then some specRules else none
end Go.Jm
