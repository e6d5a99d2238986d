import Derived.Deep.Upon
import Derived.IntWalk
import Derived.DeepKeys3
import Derived.RangeFuncRecord
import Derived.CallsIn
import Derived.OrdersIn
import Derived.Test.YtipafalnnbojkaaGreatPA
set_option linter.unusedVariables false
set_option linter.unusedSimpArgs false
set_option linter.unnecessarySimpa false
set_option linter.unusedSectionVars false
namespace Go.Am
open Go
variable {R:Type} {X:Ext} {s:St}
theorem sliceElem_some {P:Program} {t e:TypeId} {x:Ty} (h:sliceElem P t=some (e,x)):P.underlying t=some (.slice e)∧x.width=sizeT P e:=by
 unfold sliceElem at h
 split at h
 ·rename_i e' hu
  obtain⟨x',hx',h⟩:=bind_some h
  split at h
  ·rename_i hw;cases h;exact⟨hu,hw⟩
  ·cases h
 ·cases h
theorem asRow_src {e:Ty} {y:AV} {ys:List e.den} (h:asRow e y=some ys) {T:Tags} {σ lm:Nat→Option Nat} {A:Amb} {ro:Option Nat} {a:Act} {w:World} (hR:Rel X T σ lm A ro s a w) {ow:Own} {v:Value} (hv:Rep T.fix σ lm ow y v)
  {t' te':TypeId} (hu:X.P.underlying t'=some (.slice te')) (hw:0<e.width):∃ css,AllD T.fix e ys css∧Src X.P e.width t' v ys.length css.flatten w:=by
 unfold asRow at h
 split at h
 ·cases h
  cases hv
  exact⟨[],rfl,by simpa using Src.ofNil w hu 0⟩
 ·rename_i own e' zs
  split at h
  ·rename_i he;subst he
   cases h
   cases hv with
   | slice _ _ _ _ ad cap hc hr ho =>
   obtain⟨css,h1,h2⟩:=hr.all hw
   refine⟨css,h1,?_⟩
   have hl:=h1.len
   cases ad with
   | some ad =>
    refine Src.ofSlice w hu ad zs.length cap css.flatten hl (fun j u hj=>?_) h1.one
    obtain⟨ad',e1,e2⟩:=h2 j u hj
    cases e1
    exact hR.fixedCell e2
   | none =>
    have h0:css.flatten=[]:=by
     cases hq:css.flatten with
     | nil=>rfl
     | cons c cs=>obtain⟨ad,e1,_⟩:=h2 0 c (by rw[hq];rfl);cases e1
    have hz:zs.length=0:=by
     rw[h0] at hl
     have hl':zs.length*e'.width=0:=by simpa using hl.symm
     rcases Nat.mul_eq_zero.1 hl' with hl | hl
     ·exact hl
     ·omega
    rw[hz,h0]
    exact Src.ofNil w hu cap
  ·cases h
 ·cases h
theorem allD_of {F:Fix} {e:Ty} (Q:Nat→Value→Prop):∀ (xs:List e.den) (n:Nat),(∀ (i:Nat) x,xs[i]?=some x→∃ ds,CellsD F e x ds∧∀ (j:Nat) v,ds[j]?=some v→Q (n+(i*e.width+j)) v) →
  ∃ css,AllD F e xs css∧∀ (k:Nat) v,css.flatten[k]?=some v→Q (n+k) v:=by
 intro xs
 induction xs with
 | nil=>intro n _;exact⟨[],rfl,fun k v hv=>by simp at hv⟩
 | cons x xs ih =>
  intro n h
  obtain⟨ds,hd,hx⟩:=h 0 x rfl
  obtain⟨css,h1,h2⟩:=ih (n+e.width) fun i y hy=>by
   obtain⟨es,g1,g2⟩:=h (i+1) y (by simpa using hy)
   refine⟨es,g1,fun j v hv=>?_⟩
   have:=g2 j v hv
   rwa [show n+((i+1)*e.width+j)=n+e.width+(i*e.width+j) by rw[Nat.add_mul];omega] at this
  refine⟨ds :: css,⟨ds,css,rfl,hd,h1⟩,fun k v hv=>?_⟩
  have hl:=hd.length
  simp only[List.flatten_cons] at hv
  by_cases hk:k<ds.length
  ·rw[List.getElem?_append_left hk] at hv
   have:=hx k v hv
   simpa using this
  ·rw[List.getElem?_append_right (by omega)] at hv
   have:=h2 _ v hv
   rwa [show n+e.width+(k-ds.length)=n+k by omega] at this
theorem Rel.rowPart {T:Tags} {σ lm:Nat→Option Nat} {A:Amb} {ro:Option Nat} {a:Act} {w:World} (hR:Rel X T σ lm A ro s a w) {c p lo len:Nat} {e:Ty} {xs:List e.den} (hc:s.heap[c]?=some (.row e xs)) (hp:σ c=some p) (hl:lo+len≤xs.length) :
  ∃ css,AllD T.fix e ((xs.drop lo).take len) css∧∀ (k:Nat) v,css.flatten[k]?=some v→w.cell? ⟨rowB p,lo*e.width+k,none⟩=some v:=by
 refine allD_of (fun n v=>w.cell? ⟨rowB p,n,none⟩=some v) _ (lo*e.width) fun i x hx=>?_
 have hx':xs[lo+i]?=some x:=by
  rw[List.getElem?_take] at hx
  split at hx
  ·rwa [List.getElem?_drop] at hx
  ·cases hx
 obtain⟨ds,d1,d2⟩:=hR.rowElem hc hx' hp
 refine⟨ds,d1,fun j v hv=>?_⟩
 have:=(d2 j v hv).1
 rwa [show (lo+i)*e.width+j=lo*e.width+(i*e.width+j) by rw[Nat.add_mul];omega] at this
theorem srcK_some {e:Ty} {y:AV} {k:List e.den→Option R} {r:R} (h:srcK s.heap e y k=some r) :
  ∃ ys,k ys=some r∧∀ {T:Tags} {σ lm:Nat→Option Nat} {A:Amb} {ro:Option Nat} {a:Act} {w:World} (_:Rel X T σ lm A ro s a w) {ow:Own} {v:Value} (_:Rep T.fix σ lm ow y v)
  {t' te':TypeId} (_:X.P.underlying t'=some (.slice te')) (_:0<e.width),∃ css,AllD T.fix e ys css∧Src X.P e.width t' v ys.length css.flatten w:=by
 unfold srcK at h
 split at h
 ·rename_i c e' lo len
  split at h
  ·rename_i he
   subst he
   split at h
   ·rename_i cell hc
    obtain⟨xs,hxs,h'⟩:=bind_some h
    clear h
    obtain rfl:=asRow_some hxs
    rw[br_eq] at h'
    split at h'
    ·rename_i hl
     simp only[decide_eq_true_eq] at hl
     refine⟨_,h',fun {T σ lm A ro a w} hR {ow v} hv {t' te'} hu hw=>?_⟩
     cases hv with
     | hs _ _ _ _ _ _ hq =>
     obtain⟨p,p1,p2,p3,ad,rfl,p5,p6⟩:=hq
     obtain⟨css,h1,h2⟩:=hR.rowPart hc p1 hl
     refine⟨css,h1,?_⟩
     have hlen:((xs.drop lo).take len).length=len:=by simp;omega
     have hcl:=h1.len
     rw[hlen] at hcl ⊢
     cases ad with
     | some ad =>
      refine Src.ofSlice w hu ad len _ css.flatten hcl (fun j u hj=>?_) h1.one
      have hlt:0<len:=by
       rcases Nat.eq_zero_or_pos len with h0 | h0
       ·subst h0
        have:=lt_of_get hj
        omega
       ·exact h0
      have h5:=p5 (by omega)
      cases h5
      rw[add_none];exact h2 j u hj
     | none =>
      have:=p6 rfl
      have h0:len=0:=by omega
      subst h0
      have:css.flatten=[]:=List.eq_nil_of_length_eq_zero (by omega)
      rw[this]
      exact Src.ofNil w hu _
    ·cases h'
   ·cases h
  ·cases h
 ·obtain⟨ys,hys,h⟩:=bind_some h
  exact⟨ys,h,fun {T σ lm A ro a w} hR {ow v} hv {t' te'} hu hw=>asRow_src hys hR hv hu hw⟩
def dstLoc:Option Tmp→Loc
 | some d=>.tmp d
 | none=>.ret
theorem append_core {T:Tags} {σ lm:Nat→Option Nat} {A:Amb} {ro:Option Nat} {a:Act} {w:World} (hR:Rel X T σ lm A ro s a w) {t t' te te':TypeId} {e:Ty} {xs ys:List e.den}
  (hu:X.P.underlying t=some (.slice te)) (hu':X.P.underlying t'=some (.slice te')) (hwd:e.width=sizeT X.P te) (hpos:0<sizeT X.P te) {z:List AV} (hz:zeroLeaves X.P te=some z) (hzl:z.length=sizeT X.P te)
  (hbp:0<bytesT X.P te) (hb:(xs.length+ys.length)*bytesT X.P te≤140737488355328) (x0:Operand) (d:Option Tmp) {base:Option Addr} {cap:Nat} (hcap2:xs.length≤cap∧(base=none→cap=0)∧cap≤maxLen) (hrow:RowsD T.fix e xs base)
  (hown:OwnOk (opOwn T x0 0) e.width base xs.length cap) {v:Value} {css:List (List Value)} (hys:AllD T.fix e ys css) (hsrc:Src X.P e.width t' v ys.length css.flatten w) (ty:TypeId) :
  ∃ u w',(Builtin.append_ #[t,t'] ty #[.slice base xs.length cap,v]).run X.P w=.ok u w' ∧
   StepTo X T σ lm A ro w (({ val:=.slice true e (xs ++ ys),dulls:=tmpOf x0 }:Eff).on d s s.pend) (a.put d u) w':=by
 have hcap:=hcap2.1
 obtain⟨i,zv,hi,hiz,hzl'⟩:∃ i zv,X.P.info? te=some i∧i.zero=some zv∧zv.cells.size=z.length:=by
  unfold zeroLeaves at hz
  simp only[Option.map_eq_some_iff] at hz
  obtain⟨zv,hzv,rfl⟩:=hz
  obtain⟨i,h1,h2⟩:=bind_some hzv
  exact⟨i,zv,h1,h2,by simp⟩
 have hsz:i.size=e.width:=by rw[hwd,sizeT_info hi]
 have hby:bytesT X.P te=i.bytes:=by simp[bytesT,hi]
 have hwp:0<e.width:=by omega
 have hnl:=hys.len
 have hon:∀ (s':St) (av:AV),s'.pend=s.pend→s'.heap=s.heap→s'.tmps=dullAll s.tmps (tmpOf x0)→({ val:=av,dulls:=tmpOf x0 }:Eff).on d s s.pend=s'.put d av:=by
  intro s' av h1 h2 h3
  unfold Eff.on St.put
  cases d <;> cases s' <;> simp_all [setAll]
 by_cases hy0:ys.length=0
 ·
  have hys0:ys=[]:=List.eq_nil_of_length_eq_zero hy0
  subst hys0
  have hnil:css.flatten=[]:=by apply List.eq_nil_of_length_eq_zero;rw[hnl];simp
  rw[hnil] at hsrc
  have hrun:=run_append_nothing (P:=X.P) w t t' ty te i hu hi base xs.length cap hcap v (by rw[hsz];exact hsrc)
  refine⟨_,w,hrun,?_⟩
  rw[hon { s with tmps:=dullAll s.tmps (tmpOf x0) } _ rfl rfl rfl,List.append_nil]
  cases x0 with
  | tmp t0 =>
   cases d with
   | none=>exact⟨T,σ,Keeps.refl _ _,(by intros;assumption),hR.dullT t0⟩
   | some d =>
    have h1:=(hR.dullT t0).retag (.tmp t0) (.tmp d) (fun c j e=>by cases e) (fun u e=>by cases e;exact dull_noOwn (hR.tm t0)) (fun c j e=>by cases e)
    refine⟨_,σ,retag_keeps _ _ _,(by intros;assumption),h1.put (some d) fun u e=>?_⟩
    cases e
    rw[retag_fix]
    refine .slice _ _ _ _ _ _ hcap2 hrow fun _=>?_
    rcases hown with h | ⟨b,off,e1,e2⟩
    ·exact .inl h
    ·exact .inr ⟨b,off,e1,fun i h1 h2=>retag_own_same _ _ _ (e2 i h1 h2)⟩
  | _ =>
   refine⟨T,σ,Keeps.refl _ _,(by intros;assumption),hR.put d fun u e=>.slice _ _ _ _ _ _ hcap2 hrow fun _=>?_⟩
   rcases hown with h | ⟨b,off,e1,e2⟩
   ·exact .inl h
   ·exact .inr ⟨b,off,e1,fun i h1 h2=>(e2 i h1 h2).elim⟩
 ·have hneed:xs.length+ys.length≤140737488355328:=Nat.le_trans (Nat.le_mul_of_pos_right _ hbp) hb
  by_cases hroom:xs.length+ys.length≤cap
  ·
   rcases hown with ⟨_,h0⟩ | ⟨b,off,rfl,hsp⟩
   ·omega
   ·have hmul:(xs.length+ys.length)*e.width≤cap*e.width:=Nat.mul_le_mul_right _ hroom
    have hadd:(xs.length+ys.length)*e.width=xs.length*e.width+ys.length*e.width:=Nat.add_mul ..
    have hyw:0<ys.length*e.width:=Nat.mul_pos (by omega) hwp
    cases x0 with
    | tmp t0 =>
     have hspare:∀ j,j<css.flatten.length→T b (off+xs.length*e.width+j)=.spare (.tmp t0) 0:=fun j hj=>by
      have:=hsp (xs.length*e.width+j) (by omega) (by omega)
      rw[← Nat.add_assoc] at this
      exact this
     have hrun:=run_append_room_src (P:=X.P) w t t' ty te i hu hi b off xs.length cap v ys.length css.flatten (by rw[hsz];exact hsrc) hroom
      (fun j hj=>by rw[hsz];exact (hR.inv.spare _ _ _ _ (hspare j hj)).1) (fun j hj=>by rw[hsz];exact (hR.inv.spare _ _ _ _ (hspare j hj)).2)
     rw[hsz] at hrun
     obtain⟨hk1,hR1,hfx⟩:=(hR.dullT t0).grow (.tmp t0) b (off+xs.length*e.width) css.flatten (fun j hj=>⟨0,hspare j hj⟩) (fun c j e=>by cases e) (fun u e=>by cases e;exact dull_noOwn (hR.tm t0)) (fun c j e=>by cases e)
     refine⟨_,_,hrun,?_⟩
     rw[hon { s with tmps:=dullAll s.tmps (tmpOf (.tmp t0)) } _ rfl rfl rfl]
     cases d with
     | none=>exact⟨_,σ,hk1,(by intros;assumption),hR1⟩
     | some d =>
      have h1:=hR1.retag (.tmp t0) (.tmp d) (fun c j e=>by cases e) (fun u e=>by
       cases e
       exact (dull_noOwn (hR.tm t0)).mono (fun b o v hv=>by rw[Tags.fix_eq] at hv ⊢;exact hk1.fixed b o v hv) (fun _ _ x=>x) (fun _ _ x=>x) (fun _ _ _ x=>x)) (fun c j e=>by cases e)
      refine⟨_,σ,hk1.trans (retag_keeps _ _ _),(by intros;assumption),h1.put (some d) fun u e=>?_⟩
      cases e
      rw[retag_fix]
      have hfixle:T.fix.le (T.grown b (off+xs.length*e.width) css.flatten).fix:=fun b o v hv=>by rw[Tags.fix_eq] at hv ⊢;exact hk1.fixed b o v hv
      rw[← List.length_append]
      refine .slice _ _ _ _ _ _ ⟨by rw[List.length_append];exact hroom,(fun h=>by cases h),hcap2.2.2⟩ ?_ fun _=>.inr ⟨b,off,rfl,fun k h1 h2=>?_⟩
      ·intro k x hx
       by_cases hk:k<xs.length
       ·rw[List.getElem?_append_left hk] at hx
        obtain⟨ds,g1,g2⟩:=hrow k x hx
        exact⟨ds,g1.mono hfixle,fun j v hv=>let ⟨ad,e1,e2⟩:=g2 j v hv;⟨ad,e1,e2.mono hfixle⟩⟩
       ·rw[List.getElem?_append_right (by omega)] at hx
        obtain⟨ds,g1,g2⟩:=hys.get _ x hx
        refine⟨ds,g1.mono hfixle,fun j v hv=>⟨_,rfl,?_⟩⟩
        have:=hfx _ v (g2 j v hv)
        unfold FixAt at this ⊢
        rw[add_none] at this ⊢
        have e1:off+xs.length*e.width+((k-xs.length)*e.width+j)=off+(k*e.width+j):=by
         have:k*e.width=xs.length*e.width+(k-xs.length)*e.width:=by rw[← Nat.add_mul];congr 1;omega
         omega
        rw[e1] at this
        exact this
      ·rw[List.length_append] at h1
       apply retag_own_same
       have:=hsp k (by omega) h2
       unfold Tags.own Tags.grown
       rw[if_neg (by omega)]
       exact this
    | _=>exact (hsp (xs.length*e.width) (Nat.le_refl _) (by omega)).elim
  ·
   obtain⟨css0,hxs,hxf⟩:=hrow.all hwp
   have hol:=hxs.len
   have hold:(Builtin.firstCells i.size xs.length (.slice base xs.length cap)).run X.P w.drew=.ok css0.flatten.toArray w.drew:=by
    cases base with
    | some ad =>
     refine run_firstCells_some w.drew i.size xs.length ad xs.length cap css0.flatten (by rw[hsz];exact hol) fun j u hj=>?_
     obtain⟨ad',e1,e2⟩:=hxf j u hj
     cases e1
     exact hR.drew.fixedCell e2
    | none =>
     have h0:css0.flatten=[]:=by
      cases hq:css0.flatten with
      | nil=>rfl
      | cons c cs=>obtain⟨ad,e1,_⟩:=hxf 0 c (by rw[hq];rfl);cases e1
     have hz0:xs.length=0:=by
      rw[h0] at hol
      have hl':xs.length*e.width=0:=by simpa using hol.symm
      rcases Nat.mul_eq_zero.1 hl' with hl | hl
      ·exact hl
      ·omega
     rw[h0,hz0]
     exact run_firstCells_none w.drew i.size 0 0 cap
   have hrun:=run_append_grow_src (P:=X.P) w t t' ty te i zv hu hi hiz base xs.length cap css0.flatten hold v ys.length css.flatten (by rw[hsz];exact hsrc) (by omega) (by omega) (by rw[← hby];exact growslice_fits (by omega) hb)
   have hge:=grownCap_ge w (xs.length+ys.length) cap te
   have hgl:=grownCap_le_maxLen w (xs.length+ys.length) cap te (by have:=Nat.le_trans (Nat.le_mul_of_pos_right _ hbp) hb;unfold maxLen;omega)
   generalize hC:grownCap w (xs.length+ys.length) cap te=C at hrun hge hgl
   have hvs:((css0.flatten ++ css.flatten).toArray ++ Builtin.zeroCells zv.cells (C-(xs.length+ys.length))).size=C*e.width:=by
    rw[Array.size_append,size_zeroCells]
    simp only[List.size_toArray,List.length_append,hol,hnl]
    rw[hzl',hzl,← hwd,← Nat.add_mul,← Nat.add_mul]
    congr 1;omega
   obtain⟨T',hk,hR',hle,hfx,hsp⟩:=hR.drew.newRow (dstLoc d) ((css0.flatten ++ css.flatten).toArray ++ Builtin.zeroCells zv.cells (C-(xs.length+ys.length))) te ((xs.length+ys.length)*e.width) (by rw[hvs];exact Nat.mul_le_mul_right _ hge)
   refine⟨_,_,hrun,T',σ,(Keeps.drew T w).trans hk,(by intros;assumption),?_⟩
   rw[hon { s with tmps:=dullAll s.tmps (tmpOf x0) } _ rfl rfl rfl]
   have hR2:Rel X T' σ lm A ro { s with tmps:=dullAll s.tmps (tmpOf x0) } a (w.drew.alloc (.cells ((css0.flatten ++ css.flatten).toArray ++ Builtin.zeroCells zv.cells (C-(xs.length+ys.length))) te)):=by
    cases x0 with
    | tmp t0=>exact hR'.dullT t0
    | _=>exact hR'
   refine hR2.put d fun u e=>?_
   rw[← List.length_append]
   have hall:=(hxs.append hys).mono hle
   refine .slice _ _ _ _ _ _ ⟨by rw[List.length_append];exact hge,(fun h=>by cases h),hgl⟩ (RowsD.of_all hall fun k v hv=>?_) fun _=>.inr ⟨w.heap.size,0,rfl,fun k h1 h2=>?_⟩
   ·refine hfx k v ?_ ?_
    ·have:=lt_of_get hv
     rw[List.flatten_append,List.length_append,hol,hnl,← Nat.add_mul] at this
     exact this
    ·rw[List.flatten_append] at hv
     have hlt:=lt_of_get hv
     rw[Array.getElem?_append_left (by simpa using hlt)]
     simpa using hv
   ·rw[List.length_append] at h1
    have hdl:dstLoc d=.tmp u:=by rw[e];rfl
    rw[hdl] at hsp
    have:=hsp k h1 (by rw[hvs];exact h2)
    unfold Tags.own
    rw[Nat.zero_add]
    exact this
theorem appendK_some {t t':TypeId} {x y:AV} {k:AV→Option R} {r:R} (h:appendK X t t' x y s.heap k=some r) :
  ∃ av,k av=some r∧∀ (T:Tags) (σ lm:Nat→Option Nat) (A:Amb) (ro:Option Nat) (a:Act) (w:World) (x0:Operand) (u v:Value) (ow:Own) (d:Option Tmp) (ty:TypeId),Rel X T σ lm A ro s a w→Rep T.fix σ lm (opOwn T x0) x u→Rep T.fix σ lm ow y v →
   ∃ u' w',(Builtin.append_ #[t,t'] ty #[u,v]).run X.P w=.ok u' w'∧StepTo X T σ lm A ro w (({ val:=av,dulls:=tmpOf x0 }:Eff).on d s s.pend) (a.put d u') w':=by
 unfold appendK at h
 simp only[br_eq,decide_eq_true_eq] at h
 obtain⟨⟨te,e⟩,hex,h⟩:=bind_some h
 obtain⟨hu,hwd⟩:=sliceElem_some hex
 obtain⟨z,hz,h⟩:=bind_some h
 split at h
 ·rename_i hzz
  obtain⟨hzl,hbp⟩:=hzz
  simp only at hzl hbp hz
  split at h
  ·rename_i te' hu'
   split at h
   ·rename_i own e' xs
    split at h
    ·rename_i hc
     obtain⟨rfl,hpos⟩:=hc
     simp only at hpos
     obtain⟨ys,h,hys⟩:=srcK_some (X:=X) h
     split at h
     ·split at h
      ·rename_i hb
       refine⟨_,h,fun T σ lm A ro a w x0 u v ow d ty hR hxu hyv=>?_⟩
       obtain⟨css,hall,hsrc⟩:=hys hR hyv hu' (by omega)
       cases hxu with
       | slice _ _ _ _ base cap hcap hrow hown =>
       exact append_core hR hu hu' hwd hpos hz hzl hbp hb x0 d hcap hrow (hown rfl) hall hsrc ty
      ·cases h
     ·cases h
    ·cases h
   ·split at h
    ·rename_i hpos
     simp only at hpos
     obtain⟨ys,h,hys⟩:=srcK_some (X:=X) h
     split at h
     ·rename_i hb
      refine⟨_,h,fun T σ lm A ro a w x0 u v ow d ty hR hxu hyv=>?_⟩
      obtain⟨css,hall,hsrc⟩:=hys hR hyv hu' (by first | omega | (simp only;omega))
      cases hxu
      exact append_core (xs:=[]) hR hu hu' hwd hpos hz hzl hbp (by simpa using hb) x0 d ⟨Nat.le_refl _,fun _=>rfl,Nat.zero_le _⟩ (fun i x hx=>by simp at hx) (.inl ⟨rfl,rfl⟩) hall hsrc ty
     ·cases h
    ·cases h
   ·cases h
  ·cases h
 ·cases h
theorem minMaxGo_some {lt:Int→Int→Bool} {kd:IntKind}:∀ {l:List AV} {x:Int} {c:AV→Option R} {r:R},minMaxGo lt kd x l c=some r→∃ n,c (.int kd n)=some r ∧
  ∀ (F:Fix) (σ lm:Nat→Option Nat) (vs:List Value) (w:World) (f2:Value→Value→Sem Value),(∀ k x k' y w,(f2 (.int k x) (.int k' y)).run X.P w=.ok (.int k (if lt y x then y else x)) w)→RepL F σ lm l vs→(vs.foldlM f2 (.int kd x)).run X.P w=.ok (.int kd n) w:=by
 intro l
 induction l with
 | nil =>
  intro x c r h
  refine⟨x,h,fun F σ lm vs w f2 hf hr=>?_⟩
  cases hr
  rfl
 | cons y l ih =>
  intro x c r h
  cases y <;> simp only[minMaxGo] at h <;> try (cases h)
  obtain⟨n,h1,h2⟩:=ih h
  refine⟨n,h1,fun F σ lm vs w f2 hf hr=>?_⟩
  cases hr with
  | cons _ v _ vs hv ht =>
  cases hv
  simp only[List.foldlM_cons,Sem.run_bind,hf,Result.andThen_ok]
  exact h2 F σ lm vs w f2 hf ht
theorem minMaxK_some {lt:Int→Int→Bool} {l:List AV} {c:AV→Option R} {r:R} (h:minMaxK lt l c=some r):∃ av,c av=some r ∧
  ∀ (F:Fix) (σ lm:Nat→Option Nat) (vs:List Value) (w:World) (f2:Value→Value→Sem Value) (d:Sem Value),(∀ k x k' y w,(f2 (.int k x) (.int k' y)).run X.P w=.ok (.int k (if lt y x then y else x)) w)→RepL F σ lm l vs →
   Comes1 X.P F σ lm av w (match vs with | []=>d | x :: rest=>rest.foldlM f2 x):=by
 unfold minMaxK at h
 split at h
 ·rename_i kd x l
  obtain⟨n,h1,h2⟩:=minMaxGo_some (X:=X) h
  refine⟨_,h1,fun F σ lm vs w f2 d hf hr=>?_⟩
  cases hr with
  | cons _ v _ vs hv ht =>
  cases hv
  exact⟨_,h2 F σ lm vs w f2 hf ht,.int _ _ _⟩
 ·cases h
end Go.Am
namespace Go.Am
open Go
variable {R:Type} {X:Ext} {s:St}
section
variable {T:Tags} {σ lm:Nat→Option Nat} {A:Amb} {ro:Option Nat} {a:Act} {w:World}
theorem Rel.frost (h:Rel X T σ lm A ro s a w) (c b:Nat) (l:List AV) (vs:List Value) (hc:s.heap[c]?=some (.var l)) (hb:σ c=some b) (hlen:vs.length=l.length)
  (hv:∀ (j:Nat) v,vs[j]?=some v→w.cell? ⟨b,j,none⟩=some v) :
  Keeps T w (T.frost b l.length vs) w∧Rel X (T.frost b l.length vs) σ lm A ro { s with heap:=s.heap.set c (.var []) } a w∧Fix.le T.fix (T.frost b l.length vs).fix ∧
   ∀ (j:Nat) v,vs[j]?=some v→FixAt (T.frost b l.length vs).fix ⟨b,0,none⟩ j v:=by
 obtain⟨b',h1,h2,h3⟩:=h.inv.var c l hc
 rw[hb] at h1
 cases h1
 have htag:∀ j,j<l.length→T b j=.cell c j:=fun j hj=>by
  obtain⟨v,_,_,e,_⟩:=h3 j l[j] (List.getElem?_eq_getElem hj)
  exact e
 have hclt:c<s.heap.length:=by
  rcases Nat.lt_or_ge c s.heap.length with hq | hq
  ·exact hq
  ·rw[List.getElem?_eq_none hq] at hc;cases hc
 have hout:∀ x y,(∀ j,T x y≠.cell c j)→T.frost b l.length vs x y=T x y:=fun x y hxy=>by
  unfold Tags.frost
  rw[if_neg]
  rintro⟨rfl,hy⟩
  exact hxy y (htag y hy)
 have hfix:Fix.le T.fix (T.frost b l.length vs).fix:=fun x y v e=>by
  rw[Tags.fix_eq] at e ⊢
  rw[hout x y fun j e'=>by rw[e] at e';cases e'];exact e
 have hown:∀ m j x y,T.own m j x y→(T.frost b l.length vs).own m j x y:=fun m j x y e=>by
  unfold Tags.own at *
  rw[hout x y fun j e'=>by rw[e] at e';cases e'];exact e
 refine⟨⟨rfl,rfl,rfl,Nat.le_refl _,?_,?_,fun _ _ _ _=>⟨rfl,rfl⟩,fun _ _ _=>rfl⟩,⟨?_,h.len,h.nt,?_,?_,h.nodup,h.round,h.glob.mono hfix⟩,hfix,?_⟩
 ·intro x y v e
  rw[hout x y fun j e'=>by rw[e] at e';cases e'];exact e
 ·intro x y _ e
  rw[hout x y fun j e'=>by rw[e] at e';cases e'];exact e
 ·refine⟨?_,?_,?_,?_,?_,?_,h.inv.plen,?_⟩
  ·intro x y v e
   by_cases hxy:x=b∧y<l.length
   ·obtain⟨rfl,hy⟩:=hxy
    unfold Tags.frost at e
    rw[if_pos ⟨rfl,hy⟩] at e
    cases e
    have hlt:y<vs.length:=by omega
    rw[hv y vs[y] (List.getElem?_eq_getElem hlt)]
    simp[List.getD_eq_getElem?_getD,List.getElem?_eq_getElem hlt]
   ·unfold Tags.frost at e
    rw[if_neg hxy] at e
    exact h.inv.fixed x y v e
  ·intro x y m j e
   by_cases hxy:x=b∧y<l.length
   ·unfold Tags.frost at e
    rw[if_pos hxy] at e
    cases e
   ·unfold Tags.frost at e
    rw[if_neg hxy] at e
    exact h.inv.spare x y m j e
  ·intro x y e
   refine h.inv.live x y fun hf=>e ?_
   rw[hout x y fun j e'=>by rw[hf] at e';cases e']
   exact hf
  ·intro c' b' e
   obtain⟨q,hq,hx⟩:=h.inv.dom c' b' e
   by_cases hcc:c=c'
   ·subst hcc;exact⟨.var [],by simp[hclt],rfl⟩
   ·exact⟨q,by simp only[List.getElem?_set];rw[if_neg hcc];exact hq,hx⟩
  ·intro c' q hq
   simp only[List.getElem?_set] at hq
   by_cases hcc:c=c'
   ·subst hcc
    simp only[if_true,hclt] at hq
    cases hq
    exact⟨b,hb,h2,fun j av hj=>by simp at hj⟩
   ·rw[if_neg hcc] at hq
    obtain⟨b',g1,g2,g3⟩:=h.inv.var c' q hq
    refine⟨b',g1,g2,fun j av hj=>?_⟩
    obtain⟨v,e1,e2,e3,e4⟩:=g3 j av hj
    exact⟨v,e1,e2,by rw[hout _ _ fun j' e'=>by rw[e3] at e';cases e';exact hcc rfl];exact e3,e4.mono hfix (fun _ _ x=>x) (fun _ _ x=>x) (hown _)⟩
  ·intro c' x hq
   simp only[List.getElem?_set] at hq
   by_cases hcc:c=c'
   ·subst hcc
    simp only[if_true,hclt] at hq
    cases hq;trivial
   ·rw[if_neg hcc] at hq
    refine (h.inv.mem c' x hq).keep (fun _ h=>h) hfix (fun b' k e=>⟨by rw[hout _ _ fun j' e'=>by rw[e] at e';cases e';exact hcc rfl];exact e,rfl,rfl⟩) fun b' k e=>?_
    rw[hout _ _ fun j' e'=>by rw[e] at e';cases e'];exact e
  ·intro i r hr'
   obtain⟨b',rec,g1,g2,g3,g4,g5,g6,g7,g8,g9,g10⟩:=h.inv.loop i r hr'
   exact⟨b',rec,g1,by rw[hout _ _ fun j' e'=>by rw[g2] at e';cases e'];exact g2,g3,g4,g5,g6,g7,g8,fun t=>(g9 t).mono hfix (fun _ _ x=>x) (fun _ _ x=>x) (fun _ _ _ x=>x),g10⟩
 ·intro t
  exact (h.tm t).mono hfix (fun _ _ x=>x) (fun _ _ x=>x) (hown _)
 ·intro d hd
  obtain⟨D,e1,e2,e3⟩:=h.marks d hd
  exact⟨D,e1,e2,fun o=>by rw[hout _ _ fun j' e'=>by rw[e3] at e';cases e'];exact e3 o⟩
 ·intro j v hj
  have hlt:j<vs.length:=by
   rcases Nat.lt_or_ge j vs.length with hq | hq
   ·exact hq
   ·rw[List.getElem?_eq_none hq] at hj;cases hj
  unfold FixAt
  rw[add_none]
  refine⟨rfl,?_⟩
  rw[Tags.fix_eq]
  unfold Tags.frost
  rw[if_pos ⟨rfl,by simp;omega⟩]
  simp[List.getD_eq_getElem?_getD,hj]
end
end Go.Am
namespace Go.Am
open Go
variable {R:Type} {X:Ext} {s:St} {T:Tags} {σ lm:Nat→Option Nat} {A:Amb} {ro:Option Nat} {a:Act} {w:World}
theorem Rel.rowDrop (h:Rel X T σ lm A ro s a w) {c:Nat} {e:Ty} {xs:List e.den} (hc:s.heap[c]?=some (.row e xs)):Rel X T σ lm A ro { s with heap:=s.heap.set c .gone } a w:=by
 have hclt:=get_lt hc
 refine⟨⟨h.inv.fixed,h.inv.spare,h.inv.live,?_,?_,?_,h.inv.plen,h.inv.loop⟩,h.len,h.nt,h.tm,h.marks,h.nodup,h.round,h.glob⟩
 ·intro c' b e
  obtain⟨q,hq,hx⟩:=h.inv.dom c' b e
  by_cases hcc:c=c'
  ·subst hcc;exact⟨.gone,by simp[hclt],rfl⟩
  ·exact⟨q,by simp only[List.getElem?_set];rw[if_neg hcc];exact hq,hx⟩
 ·intro c' q hq
  simp only[List.getElem?_set] at hq
  by_cases hcc:c=c'
  ·subst hcc
   simp[hclt] at hq
  ·rw[if_neg hcc] at hq;exact h.inv.var c' q hq
 ·intro c' x hq
  simp only[List.getElem?_set] at hq
  by_cases hcc:c=c'
  ·subst hcc
   simp only[if_true,hclt] at hq
   cases hq;trivial
  ·rw[if_neg hcc] at hq;exact h.inv.mem c' x hq
theorem Rel.rowNil (h:Rel X T σ lm A ro s a w) {slot:Nat} (hslot:s.heap[slot]?=some .empty) (e:Ty) (hw:0<e.width) :
  Rel X T (fun c=>if c=slot then some 0 else σ c) lm A ro { s with heap:=s.heap.set slot (.row e []) } a w:=by
 have hσ:=h.slot_none hslot
 have hs':∀ c b,σ c=some b→(if c=slot then some 0 else σ c)=some b:=fun c b e=>by
  by_cases hc:c=slot
  ·subst hc;rw[hσ] at e;cases e
  ·rw[if_neg hc];exact e
 have hlt:=get_lt hslot
 have hset:∀ c x,c≠slot→({ s with heap:=s.heap.set slot (.row e []) }:St).heap[c]?=some x→s.heap[c]?=some x:=fun c x hc hx=>by
  simpa only[List.getElem?_set,if_neg fun e:slot=c=>hc e.symm] using hx
 have hgs:({ s with heap:=s.heap.set slot (.row e []) }:St).heap[slot]?=some (.row e []):=by simp[hlt]
 refine⟨⟨h.inv.fixed,h.inv.spare,h.inv.live,?_,?_,?_,h.inv.plen,?_⟩,h.len,h.nt,fun t=>(h.tm t).mono (Fix.le.refl _) hs' (fun _ _ x=>x) (fun _ _ _ x=>x),h.marks,h.nodup,h.round,h.glob⟩
 ·intro c b hc
  by_cases hcs:c=slot
  ·subst hcs;exact⟨_,hgs,rfl⟩
  ·rw[if_neg hcs] at hc
   obtain⟨l,hl,hx⟩:=h.inv.dom c b hc
   exact⟨l,by simp only[List.getElem?_set];rw[if_neg (fun e=>hcs e.symm)];exact hl,hx⟩
 ·intro c l hc
  by_cases hcs:c=slot
  ·subst hcs;rw[hgs] at hc;cases hc
  ·obtain⟨b,g1,g2,g3⟩:=h.inv.var c l (hset c _ hcs hc)
   refine⟨b,hs' c b g1,g2,fun j av hj=>?_⟩
   obtain⟨v,e1,e2,e3,e4⟩:=g3 j av hj
   exact⟨v,e1,e2,e3,e4.mono (Fix.le.refl _) hs' (fun _ _ x=>x) (fun _ _ _ x=>x)⟩
 ·intro c x hc
  by_cases hcs:c=slot
  ·subst hcs
   rw[hgs] at hc;cases hc
   refine⟨0,by simp,hw,by simp,by simp[rowC],[],by simp,fun i x hi=>by simp at hi,fun k v hk=>by simp at hk,fun k _ k2=>by simp[rowC] at k2⟩
  ·exact (h.inv.mem c x (hset c _ hcs hc)).keep (hs' c) (Fix.le.refl _) (fun _ _ e=>⟨e,rfl,rfl⟩) (fun _ _ e=>e)
 ·intro i r hr
  obtain⟨b,rec,g1,g2,g3,g4,g5,g6,g7,g8,g9,g10⟩:=h.inv.loop i r hr
  exact⟨b,rec,g1,g2,g3,g4,g5,g6,g7,g8,fun t=>(g9 t).mono (Fix.le.refl _) hs' (fun _ _ x=>x) (fun _ _ _ x=>x),g10⟩
def RowTo (X:Ext) (T:Tags) (σ lm:Nat→Option Nat) (A:Amb) (ro:Option Nat) (w:World) (s':St) (a:Act) (slot:Nat) (e:Ty) (len:Nat) (u:Value) (w':World):Prop :=
 ∃ T' σ',Keeps T w T' w'∧(∀ c b,σ c=some b→σ' c=some b)∧Rel X T' σ' lm A ro s' a w'∧HsOk σ' slot e 0 len u
theorem maxLen_lt:∀ {C:Nat},C≤maxLen→C<rowM:=fun {C} h=>by unfold maxLen at h;unfold rowM;omega
theorem append_new (hR:Rel X T σ lm A ro s a w) {slot:Nat} (hslot:s.heap[slot]?=some .empty) {t t' te te':TypeId} {e:Ty} {zs ys:List e.den}
  (hu:X.P.underlying t=some (.slice te)) (hwd:e.width=sizeT X.P te) (hpos:0<sizeT X.P te) {z:List AV} (hz:zeroLeaves X.P te=some z) (hzl:z.length=sizeT X.P te)
  (hbp:0<bytesT X.P te) (hb:(zs.length+ys.length)*bytesT X.P te≤140737488355328) {base:Option Addr} {cap:Nat} {css0 css:List (List Value)} (hxs:AllD T.fix e zs css0) (hys:AllD T.fix e ys css)
  (hold:(Builtin.firstCells e.width zs.length (.slice base zs.length cap)).run X.P w.drew=.ok css0.flatten.toArray w.drew) {v:Value} (hsrc:Src X.P e.width t' v ys.length css.flatten w) (hroom:cap<zs.length+ys.length) (ty:TypeId) :
  ∃ u w',(Builtin.append_ #[t,t'] ty #[.slice base zs.length cap,v]).run X.P w=.ok u w'∧RowTo X T σ lm A ro w { s with heap:=s.heap.set slot (.row e (zs ++ ys)) } a slot e (zs.length+ys.length) u w':=by
 obtain⟨i,zv,hi,hiz,hzl'⟩:∃ i zv,X.P.info? te=some i∧i.zero=some zv∧zv.cells.size=z.length:=by
  unfold zeroLeaves at hz
  simp only[Option.map_eq_some_iff] at hz
  obtain⟨zv,hzv,rfl⟩:=hz
  obtain⟨i,h1,h2⟩:=bind_some hzv
  exact⟨i,zv,h1,h2,by simp⟩
 have hsz:i.size=e.width:=by rw[hwd,sizeT_info hi]
 have hby:bytesT X.P te=i.bytes:=by simp[bytesT,hi]
 have hol:=hxs.len
 have hnl:=hys.len
 have hneed:zs.length+ys.length≤140737488355328:=Nat.le_trans (Nat.le_mul_of_pos_right _ hbp) hb
 have hrun:=run_append_grow_src (P:=X.P) w t t' ty te i zv hu hi hiz base zs.length cap css0.flatten (by rw[hsz];exact hold) v ys.length css.flatten (by rw[hsz];exact hsrc) hroom (by omega) (by rw[← hby];exact growslice_fits hroom hb)
 have hge:=grownCap_ge w (zs.length+ys.length) cap te
 have hgl:=grownCap_le_maxLen w (zs.length+ys.length) cap te (by unfold maxLen;omega)
 generalize hC:grownCap w (zs.length+ys.length) cap te=C at hrun hge hgl
 have hvs:((css0.flatten ++ css.flatten).toArray ++ Builtin.zeroCells zv.cells (C-(zs.length+ys.length))).size=C*e.width:=by
  rw[Array.size_append,size_zeroCells]
  simp only[List.size_toArray,List.length_append,hol,hnl]
  rw[hzl',hzl,← hwd,← Nat.add_mul,← Nat.add_mul]
  congr 1;omega
 have hR1:=hR.drew.rowNew slot hslot e (by omega) (zs ++ ys) ((css0.flatten ++ css.flatten).toArray ++ Builtin.zeroCells zv.cells (C-(zs.length+ys.length))) C te (by simpa using hge) hgl (maxLen_lt hgl) hvs fun i x hx=>by
  obtain⟨ds,d1,d2⟩:=(hxs.append hys).get i x hx
  refine⟨ds,d1,fun j v hj=>?_⟩
  have:=d2 j v hj
  rw[List.flatten_append] at this
  have hlt:=get_lt this
  rw[Array.getElem?_append_left (by simpa using hlt)]
  simpa using this
 refine⟨_,_,hrun,_,_,(Keeps.drew T w).trans (hR.drew.inv.keeps_alloc _ _),fun c b e=>?_,hR1,?_⟩
 ·have hσ:=hR.slot_none hslot
  by_cases hc:c=slot
  ·subst hc;rw[hσ] at e;cases e
  ·simp only[if_neg hc];exact e
 ·refine⟨w.heap.size*rowM+C,by simp,?_,?_,some ⟨w.heap.size,0,none⟩,?_,fun _=>?_,fun hn=>?_⟩
  ·rw[rowC_mk _ _ (maxLen_lt hgl)];omega
  ·rw[rowC_mk _ _ (maxLen_lt hgl)];exact hgl
  ·rw[rowC_mk _ _ (maxLen_lt hgl)]
   rfl
  ·rw[rowB_mk _ _ (maxLen_lt hgl)];simp
  ·cases hn
theorem append_row (hR:Rel X T σ lm A ro s a w) {slot c len:Nat} (hslot:s.heap[slot]?=some .empty) {t t' te te':TypeId} {e:Ty} {xs ys:List e.den} (hc:s.heap[c]?=some (.row e xs)) (hl:len≤xs.length)
  (hu:X.P.underlying t=some (.slice te)) (hwd:e.width=sizeT X.P te) (hpos:0<sizeT X.P te) {z:List AV} (hz:zeroLeaves X.P te=some z) (hzl:z.length=sizeT X.P te)
  (hbp:0<bytesT X.P te) (hb:(len+ys.length)*bytesT X.P te≤140737488355328) {u0:Value} (hu0:HsOk σ c e 0 len u0) {css:List (List Value)} (hys:AllD T.fix e ys css)
  {v:Value} (hsrc:Src X.P e.width t' v ys.length css.flatten w) (ty:TypeId) :
  ∃ u w',(Builtin.append_ #[t,t'] ty #[u0,v]).run X.P w=.ok u w'∧RowTo X T σ lm A ro w { s with heap:=(s.heap.set c .gone).set slot (.row e (xs.take len ++ ys ++ xs.drop (len+ys.length))) } a slot e (len+ys.length) u w':=by
 obtain⟨p,p1,p2,p3,ad,rfl,p5,p6⟩:=hu0
 simp only[Nat.zero_add,Nat.sub_zero,Nat.zero_mul] at p2 p5 p6 ⊢
 have hne:c≠slot:=fun e=>by subst e;rw[hc] at hslot;cases hslot
 obtain⟨i,hi⟩:∃ i,X.P.info? te=some i:=by
  unfold zeroLeaves at hz
  simp only[Option.map_eq_some_iff] at hz
  obtain⟨zv,hzv,rfl⟩:=hz
  obtain⟨i,h1,h2⟩:=bind_some hzv
  exact⟨i,h1⟩
 have hsz:i.size=e.width:=by rw[hwd,sizeT_info hi]
 have hnl:=hys.len
 have hwp:0<e.width:=by omega
 by_cases hroom:len+ys.length≤rowC p
 ·
  have hwr:=hR.rowWrite (len:=len) (ys:=ys) (vs:=css.flatten) hc p1 hl hroom hnl fun i y hy=>hys.get i y hy
  obtain⟨K1,R1⟩:=hwr
  have hclt:=get_lt hc
  have hslot1:({ s with heap:=s.heap.set c (.row e (xs.take len ++ ys ++ xs.drop (len+ys.length))) }:St).heap[slot]?=some .empty:=by
   simp only[List.getElem?_set,if_neg hne];exact hslot
  obtain⟨K2,R2⟩:=R1.rowRename (c:=c) (slot:=slot) (e:=e) (xs:=xs.take len ++ ys ++ xs.drop (len+ys.length)) (by simp[hclt]) hslot1
  have hheap:((s.heap.set c (.row e (xs.take len ++ ys ++ xs.drop (len+ys.length)))).set c .gone).set slot (.row e (xs.take len ++ ys ++ xs.drop (len+ys.length)))=(s.heap.set c .gone).set slot (.row e (xs.take len ++ ys ++ xs.drop (len+ys.length))):=by
   rw[List.set_set]
  have hσ:=hR.slot_none hslot
  have hmono:∀ x b,σ x=some b→(fun x=>if x=slot then σ c else σ x) x=some b:=fun x b e=>by
   by_cases hx:x=slot
   ·subst hx;rw[hσ] at e;cases e
   ·simp only[if_neg hx];exact e
  have fin:∀ ad',(0<rowC p→ad'=some ⟨rowB p,0,none⟩)→(ad'=none→rowC p=0)→RowTo X T σ lm A ro w { s with heap:=(s.heap.set c .gone).set slot (.row e (xs.take len ++ ys ++ xs.drop (len+ys.length))) } a slot e (len+ys.length) (.slice ad' (len+ys.length) (rowC p)) (w.setCells (rowB p) (len*e.width) css.flatten):=fun ad' q1 q2=>by
   refine⟨_,_,K1.trans K2,hmono,by rw[← hheap];exact R2,p,by simp[p1],by omega,p3,ad',by simp,fun h=>by simpa using q1 h,q2⟩
  by_cases hy0:ys.length=0
  ·have hnil:css.flatten=[]:=by apply List.eq_nil_of_length_eq_zero;rw[hnl,hy0];simp
   rw[hnil] at hsrc
   rw[hy0] at hsrc
   have hrun:=run_append_nothing (P:=X.P) w t t' ty te i hu hi ad len (rowC p) p2 v (by rw[hsz];exact hsrc)
   have:=fin ad p5 p6
   rw[hy0,Nat.add_zero,hnil] at this
   refine⟨_,_,hrun,?_⟩
   rw[hy0,Nat.add_zero]
   exact this
  ·have had:=p5 (by omega)
   subst had
   obtain⟨p',h1,h2,h3,h4,cs,h5,h6,h7,h8⟩:RowAt T σ w c e xs:=hR.inv.mem c _ hc
   rw[p1] at h1;cases h1
   have hadd:(len+ys.length)*e.width=len*e.width+ys.length*e.width:=Nat.add_mul ..
   have hcap:(len+ys.length)*e.width≤rowC p*e.width:=Nat.mul_le_mul_right _ hroom
   have hsm:∀ y,len*e.width≤y→y<len*e.width+css.flatten.length→(w.cell? ⟨rowB p,y,none⟩).isSome=true∧w.frozen? ⟨rowB p,y,none⟩=false:=fun y y1 y2=>by
    by_cases hy:y<cs.length
    ·have:=(h7 y _ (List.getElem?_eq_getElem hy)).2
     exact⟨by rw[this.1];rfl,this.2⟩
    ·exact hR.inv.spare _ _ _ _ (h8 y (by omega) (by omega))
   have hrun:=run_append_room_src (P:=X.P) w t t' ty te i hu hi (rowB p) 0 len (rowC p) v ys.length css.flatten (by rw[hsz];exact hsrc) hroom
    (fun j hj=>by rw[hsz,Nat.zero_add];exact (hsm _ (by omega) (by omega)).1) (fun j hj=>by rw[hsz,Nat.zero_add];exact (hsm _ (by omega) (by omega)).2)
   rw[hsz,Nat.zero_add] at hrun
   exact⟨_,_,hrun,fin _ (fun _=>rfl) fun h=>by cases h⟩
 ·
  obtain⟨css0,hxs,hxf⟩:=hR.rowPart (lo:=0) (len:=len) hc p1 (by omega)
  rw[List.drop_zero] at hxs
  have hzl0:(xs.take len).length=len:=by simp;omega
  have hol:=hxs.len
  rw[hzl0] at hol
  have hold:(Builtin.firstCells e.width (xs.take len).length (.slice ad (xs.take len).length (rowC p))).run X.P w.drew=.ok css0.flatten.toArray w.drew:=by
   rw[hzl0]
   cases had:ad with
   | some b =>
    refine run_firstCells_some w.drew e.width len b len (rowC p) css0.flatten hol fun j u hj=>?_
    have hlt:=get_lt hj
    have hlen:0<len:=by
     rcases Nat.eq_zero_or_pos len with h0 | h0
     ·subst h0;omega
     ·exact h0
    have:=p5 (by omega)
    rw[had] at this
    cases this
    rw[add_none]
    have:=hxf j u hj
    rw[Nat.zero_mul] at this
    exact this
   | none =>
    have:=p6 had
    have h0:len=0:=by omega
    subst h0
    have h00:css0.flatten=[]:=List.eq_nil_of_length_eq_zero (by omega)
    rw[h00]
    exact run_firstCells_none w.drew e.width 0 0 _
  have hnew:=append_new hR (te':=te') hslot (zs:=xs.take len) (ys:=ys) hu hwd hpos hz hzl hbp (by rw[hzl0];exact hb) hxs hys hold hsrc (by rw[hzl0];omega) ty
  rw[hzl0] at hnew
  obtain⟨u,w',hrun,T',σ',K,hm,R1,hk⟩:=hnew
  have hclt:=get_lt hc
  have hdrop:xs.drop (len+ys.length)=[]:=by
   apply List.drop_eq_nil_of_le
   obtain⟨p',h1,h2,h3,_⟩:RowAt T σ w c e xs:=hR.inv.mem c _ hc
   rw[p1] at h1;cases h1
   omega
  have hR2:=R1.rowDrop (c:=c) (e:=e) (xs:=xs) (by simp only[List.getElem?_set];rw[if_neg fun e=>hne e.symm];exact hc)
  have hheap:(s.heap.set slot (.row e (xs.take len ++ ys))).set c .gone=(s.heap.set c .gone).set slot (.row e (xs.take len ++ ys ++ xs.drop (len+ys.length))):=by
   rw[hdrop,List.append_nil,List.set_comm _ _ hne.symm]
  refine⟨u,w',hrun,T',σ',K,hm,?_,hk⟩
  have h3:({ s with heap:=s.heap.set slot (.row e (xs.take len ++ ys)) }:St).heap.set c .gone=(s.heap.set slot (.row e (xs.take len ++ ys))).set c .gone:=rfl
  rw[h3,hheap] at hR2
  exact hR2
end Go.Am
namespace Go.Am
open Go
variable {R:Type} {X:Ext} {s:St}
theorem wrap64_id {n:Int} (h0:0≤n) (h1:n≤140737488355328):IntKind.i64.wrap n=n:=IntWalk.i64_in _ (by omega)
theorem RowTo.step {T:Tags} {σ lm:Nat→Option Nat} {A:Amb} {ro:Option Nat} {a:Act} {w w':World} {H:List Cell} {ws:List (Nat×Cell)} {slot len:Nat} {e:Ty} {u:Value} (h:RowTo X T σ lm A ro w { s with heap:=H } a slot e len u w') (hw:setAll s.heap ws=H) (d:Option Tmp) :
  StepTo X T σ lm A ro w (({ val:=.hs slot e 0 len,writes:=ws }:Eff).on d s s.pend) (a.put d u) w':=by
 obtain⟨T',σ',K,hm,R1,hk⟩:=h
 have he:({ val:=.hs slot e 0 len,writes:=ws }:Eff).on d s s.pend=({ s with heap:=H }:St).put d (.hs slot e 0 len):=by
  unfold Eff.on St.put
  cases d <;> simp[dullAll,hw]
 rw[he]
 exact⟨T',σ',K,hm,R1.put d fun _ _=>.hs _ _ _ _ _ _ hk⟩
theorem appendHK_some {t t':TypeId} {x y:AV} {slot:Nat} {k:Eff→Option R} {r:R} (h:appendHK X t t' x y slot s.heap k=some r) :
  ∃ ef,k ef=some r∧ef.grow=[]∧∀ (T:Tags) (σ lm:Nat→Option Nat) (A:Amb) (ro:Option Nat) (a:Act) (w:World) (u v:Value) (ow ow':Own) (d:Option Tmp) (ty:TypeId),Rel X T σ lm A ro s a w→Rep T.fix σ lm ow x u→Rep T.fix σ lm ow' y v →
   ∃ u' w',(Builtin.append_ #[t,t'] ty #[u,v]).run X.P w=.ok u' w'∧StepTo X T σ lm A ro w (ef.on d s s.pend) (a.put d u') w':=by
 unfold appendHK at h
 obtain⟨⟨te,e⟩,hex,h1⟩:=bind_some h
 clear h
 obtain⟨hu,hwd⟩:=sliceElem_some hex
 obtain⟨z,hz,h2⟩:=bind_some h1
 clear h1
 split at h2
 ·rename_i hzz
  obtain⟨hzl,hbp,hpos⟩:=hzz
  simp only at hzl hbp hpos hz
  split at h2
  ·rename_i te' hu' hslot
   obtain⟨ys,h3,hys⟩:=srcK_some (X:=X) h2
   clear h2
   have fresh:∀ {x:AV},(∀ (F:Fix) (σ lm:Nat→Option Nat) (ow:Own) (u:Value),Rep F σ lm ow x u→∃ a,u=.slice a 0 0) →
     br (decide (ys.length*bytesT X.P te≤140737488355328)) (k { val:=.hs slot e 0 ys.length,writes:=[(slot,.row e ys)] }) none=some r →
     ∃ ef,k ef=some r∧ef.grow=[]∧∀ (T:Tags) (σ lm:Nat→Option Nat) (A:Amb) (ro:Option Nat) (a:Act) (w:World) (u v:Value) (ow ow':Own) (d:Option Tmp) (ty:TypeId),Rel X T σ lm A ro s a w→Rep T.fix σ lm ow x u→Rep T.fix σ lm ow' y v →
      ∃ u' w',(Builtin.append_ #[t,t'] ty #[u,v]).run X.P w=.ok u' w'∧StepTo X T σ lm A ro w (ef.on d s s.pend) (a.put d u') w':=by
    intro x hx h4
    rw[br_eq] at h4
    split at h4
    ·rename_i hb
     simp only[decide_eq_true_eq] at hb
     refine⟨_,h4,rfl,fun T σ lm A ro a w u v ow ow' d ty hR hxu hyv=>?_⟩
     obtain⟨ad,rfl⟩:=hx _ _ _ _ _ hxu
     obtain⟨css,hall,hsrc⟩:=hys hR hyv hu' (by simp only;omega)
     have hnl:=hall.len
     by_cases hy0:ys.length=0
     ·have hys0:ys=[]:=List.eq_nil_of_length_eq_zero hy0
      subst hys0
      have hnil:css.flatten=[]:=by apply List.eq_nil_of_length_eq_zero;rw[hnl];simp
      rw[hnil] at hsrc
      obtain⟨i,hi⟩:∃ i,X.P.info? te=some i:=by
       cases hq:X.P.info? te with
       | none=>simp[bytesT,hq] at hbp
       | some ie=>exact⟨ie,rfl⟩
      have hsz:i.size=e.width:=by rw[hwd,sizeT_info hi]
      refine⟨_,w,run_append_nothing (P:=X.P) w t t' ty te i hu hi ad 0 0 (Nat.le_refl _) v (by rw[hsz];exact hsrc),?_⟩
      have R1:=hR.rowNil hslot e (by omega)
      have hσ:=hR.slot_none hslot
      refine RowTo.step (H:=s.heap.set slot (.row e [])) ⟨T,_,Keeps.refl _ _,fun c b e'=>?_,R1,0,by simp,by simp[rowC],by simp[rowC],ad,by simp[rowC],fun h=>by simp[rowC] at h,fun _=>by simp[rowC]⟩ rfl d
      by_cases hc:c=slot
      ·subst hc;rw[hσ] at e';cases e'
      ·simp only[if_neg hc];exact e'
     ·obtain⟨u',w',hrun,hto⟩:=append_new hR (te':=te') hslot (zs:=[]) (ys:=ys) hu hwd hpos hz hzl hbp (by simpa using hb) (base:=ad) (cap:=0) (css0:=[]) rfl hall (by
       cases ad with
       | none=>exact run_firstCells_none w.drew e.width 0 0 _
       | some ad=>exact run_firstCells_some w.drew e.width 0 ad 0 0 [] (by simp) fun j u hj=>by simp at hj) hsrc (by simp;omega) ty
      simp only[List.nil_append,List.length_nil,Nat.zero_add] at hto
      exact⟨u',w',hrun,hto.step rfl d⟩
    ·cases h4
   split at h3
   ·rename_i c e' len
    split at h3
    ·rename_i he
     simp only at he
     subst he
     split at h3
     ·rename_i cell hc
      obtain⟨xs,hxs,h4⟩:=bind_some h3
      clear h3
      obtain rfl:=asRow_some hxs
      rw[br_eq] at h4
      split at h4
      ·rename_i hb
       simp only[decide_eq_true_eq] at hb
       refine⟨_,h4,rfl,fun T σ lm A ro a w u v ow ow' d ty hR hxu hyv=>?_⟩
       cases hxu with
       | hs _ _ _ _ _ _ hq =>
       obtain⟨css,hall,hsrc⟩:=hys hR hyv hu' (by simp only;omega)
       obtain⟨u',w',hrun,hto⟩:=append_row hR (te':=te') hslot hc hb.1 hu hwd hpos hz hzl hbp hb.2 hq hall hsrc ty
       exact⟨u',w',hrun,hto.step rfl d⟩
      ·cases h4
     ·cases h3
    ·cases h3
   ·exact fresh (fun F σ lm ow u hr=>by cases hr;exact⟨_,rfl⟩) h3
   ·exact fresh (fun F σ lm ow u hr=>by cases hr;exact⟨_,rfl⟩) h3
   ·cases h3
  ·cases h2
 ·cases h2
theorem buildSliceHK_some {t:TypeId} {n:Nat} {parts:List (Nat×AV)} {slot:Nat} {k:Eff→Option R} {r:R} (h:buildSliceHK X t n parts slot s.heap k=some r) :
  ∃ ef,k ef=some r∧ef.grow=[]∧∀ (T:Tags) (σ lm:Nat→Option Nat) (A:Amb) (ro:Option Nat) (a:Act) (w:World) (us:List (Nat×Value)) (d:Option Tmp),Rel X T σ lm A ro s a w →
   (parts.length=us.length∧∀ (i:Nat) p u,parts[i]?=some p→us[i]?=some u→p.1=u.1∧∃ ow,Rep T.fix σ lm ow p.2 u.2) →
   ∃ v w',(Instr.buildSlice t n us.toArray).run X.P w=.ok v w'∧StepTo X T σ lm A ro w (ef.on d s s.pend) (a.put d v) w':=by
 unfold buildSliceHK at h
 obtain⟨⟨e,x⟩,hex,h'⟩:=bind_some h
 clear h
 obtain⟨hu,hwd⟩:=sliceElem_some hex
 split at h'
 ·rename_i hc
  obtain⟨c1,c2,c3,c4⟩:=hc
  simp only at c1 c3 c4
  split at h'
  ·rename_i hslot
   obtain⟨xs,hxs,h2⟩:=bind_some h'
   clear h'
   refine⟨_,h2,rfl,fun T σ lm A ro a w us d hR hp=>?_⟩
   obtain⟨z,hz⟩:=Option.isSome_iff_exists.1 c3
   obtain⟨zv,hzv,_,hzl⟩:=zeroLeaves_some hz
   obtain⟨hlen,hrows⟩:=rowsOf_some parts 0 xs hxs
   obtain⟨hall,hfill⟩:=hrows us T.fix σ lm hp
   have hun:us.length=n:=by omega
   have hsz:=run_sizeOf_pos (P:=X.P) (t:=e) c4
   obtain⟨rr,hr1,hr2⟩:=hfill (fun i=>some (i*sizeT X.P e,sizeT X.P e)) [] (((Array.range (n*sizeT X.P e)).map (fun i=>(if n*sizeT X.P e=0 then #[] else zv.cells)[i % (if n*sizeT X.P e=0 then #[] else zv.cells).size]!)).toList)
    ((Array.range (n*sizeT X.P e)).map (fun i=>(if n*sizeT X.P e=0 then #[] else zv.cells)[i % (if n*sizeT X.P e=0 then #[] else zv.cells).size]!)) (fun j=>by rw[hwd]) (by simp) (by simp) (by simp[hun,hwd])
   have hr3:rr.toList=(us.map fun u=>u.2.cells.toList).flatten:=by
    rw[hr2]
    simp[hun,hwd]
   have hsize:rr.size=xs.length*x.width:=by
    have:=congrArg List.length hr3
    rw[hall.len] at this
    simpa using this
   have hrun:(Instr.buildSlice t n us.toArray).run X.P w=.ok (.slice (some ⟨w.heap.size,0,none⟩) n n) (w.alloc (.cells rr e)):=by
    unfold Instr.buildSlice
    simp only[Sem.run_bind,run_und hu,Result.andThen_ok,hsz]
    rw[if_neg (by omega)]
    by_cases h0:n*sizeT X.P e=0
    ·rw[if_pos h0]
     simp only[h0,if_true] at hr1
     simp only[h0,Sem.run_bind,Sem.run_pure,Result.andThen_ok]
     rw[hr1]
     rfl
    ·rw[if_neg h0]
     simp only[h0,if_false] at hr1
     simp only[Sem.run_bind,hzv,Sem.run_pure,Result.andThen_ok]
     rw[hr1]
     rfl
   have e1:n=xs.length:=by omega
   have hnm:n≤maxLen:=by
    have hq:n≤n*sizeT X.P e:=Nat.le_mul_of_pos_right _ (by omega)
    unfold maxLen;omega
   have R1:=hR.rowNew slot hslot x (by omega) xs rr n e (by omega) hnm (maxLen_lt hnm) (by rw[hsize,e1]) fun i y hy=>by
    obtain⟨ds,d1,d2⟩:=hall.get i y hy
    refine⟨ds,d1,fun j v hj=>?_⟩
    have:=d2 j v hj
    rw[← hr3] at this
    simpa using this
   have hσ:=hR.slot_none hslot
   refine⟨_,_,hrun,RowTo.step (H:=s.heap.set slot (.row x xs)) ⟨_,_,hR.inv.keeps_alloc _ _,fun c b e'=>?_,R1,w.heap.size*rowM+n,by simp,?_,?_,some ⟨w.heap.size,0,none⟩,?_,fun _=>?_,fun hn=>by cases hn⟩ rfl d⟩
   ·by_cases hc:c=slot
    ·subst hc;rw[hσ] at e';cases e'
    ·simp only[if_neg hc];exact e'
   ·rw[rowC_mk _ _ (maxLen_lt hnm)];omega
   ·rw[rowC_mk _ _ (maxLen_lt hnm)];exact hnm
   ·rw[rowC_mk _ _ (maxLen_lt hnm)];rfl
   ·rw[rowB_mk _ _ (maxLen_lt hnm)];simp
  ·cases h'
 ·cases h'
theorem zeros_get {F:Fix} {e:Ty} {z0:e.den} {zc:Array Value} (hd:CellsD F e z0 zc.toList) (hw:0<e.width) {n:Nat} {f:Nat→Value} (hf:∀ i,f i=zc[i % zc.size]!):∀ (i:Nat) y,(List.replicate n z0)[i]?=some y →
  ∃ ds,CellsD F e y ds∧∀ (j:Nat) v,ds[j]?=some v→((Array.range (n*e.width)).map f)[i*e.width+j]?=some v:=by
 intro i y hy
 rw[List.getElem?_replicate] at hy
 split at hy
 ·rename_i hi
  cases hy
  refine⟨_,hd,fun j v hj=>?_⟩
  have hl:=hd.length
  have hjl:=get_lt hj
  have hz:zc.size=e.width:=by simpa using hl
  have hlt:i*e.width+j<n*e.width:=by
   have:=Nat.mul_le_mul_right e.width (show i+1≤n by omega)
   rw[Nat.add_mul] at this
   omega
  have hmod:(i*e.width+j) % zc.size=j:=by
   rw[hz,Nat.add_comm,Nat.add_mul_mod_self_right]
   exact Nat.mod_eq_of_lt (by omega)
  rw[Array.getElem?_map,Array.getElem?_range]
  simp only[hlt,if_true,Option.map_some,hf,hmod]
  rw[Array.getElem?_toList] at hj
  simp[getElem!_def,hj]
 ·cases hy
theorem clearHK_some {t:TypeId} {x:AV} {k:Eff→Option R} {r:R} (h:clearHK X t x s.heap k=some r) :
  ∃ ef,k ef=some r∧ef.grow=[]∧∀ (T:Tags) (σ lm:Nat→Option Nat) (A:Amb) (ro:Option Nat) (a:Act) (w:World) (u:Value) (ow:Own) (d:Option Tmp) (ty:TypeId),Rel X T σ lm A ro s a w→Rep T.fix σ lm ow x u →
   ∃ u' w',(Builtin.clear_ #[t] ty #[u]).run X.P w=.ok u' w'∧StepTo X T σ lm A ro w (ef.on d s s.pend) (a.put d u') w':=by
 unfold clearHK at h
 obtain⟨⟨te,e⟩,hex,h1⟩:=bind_some h
 clear h
 obtain⟨hu,hwd⟩:=sliceElem_some hex
 obtain⟨z,hz,h2⟩:=bind_some h1
 clear h1
 obtain⟨z0,hz0,h3⟩:=bind_some h2
 clear h2
 split at h3
 ·rename_i hcc
  obtain⟨hzl,hpos⟩:=hcc
  simp only at hzl hpos hz
  split at h3
  ·rename_i c e' lo len
   split at h3
   ·rename_i he
    simp only at he
    subst he
    split at h3
    ·rename_i cell hc
     obtain⟨xs,hxs,h4⟩:=bind_some h3
     clear h3
     obtain rfl:=asRow_some hxs
     rw[br_eq] at h4
     split at h4
     ·rename_i hb
      simp only[decide_eq_true_eq] at hb
      refine⟨_,h4,rfl,fun T σ lm A ro a w u ow d ty hR hxu=>?_⟩
      cases hxu with
      | hs _ _ _ _ _ _ hq =>
      obtain⟨p,p1,p2,p3,ad,rfl,p5,p6⟩:=hq
      obtain⟨zv,hzv,hzr,hzl'⟩:=zeroLeaves_some hz
      have hwp:0<e'.width:=by omega
      have hzc:Builtin.zeroCells zv.cells len=(Array.range (len*e'.width)).map (fun i=>zv.cells[i % zv.cells.size]!):=by
       unfold Builtin.zeroCells
       rw[show zv.cells.size=e'.width by simpa using (takeAll_some hz0 (hzr T.fix nowhere nowhere):CellsD T.fix e' z0 zv.cells.toList).length]
      have hd0:CellsD T.fix e' z0 zv.cells.toList:=takeAll_some hz0 (hzr _ nowhere nowhere)
      have hzs:zv.cells.size=e'.width:=by simpa using hd0.length
      have hvl:(Builtin.zeroCells zv.cells len).toList.length=len*e'.width:=by simp[size_zeroCells,hzs]
      have hget:=zeros_get (n:=len) (f:=fun i=>zv.cells[i % zv.cells.size]!) hd0 hwp fun _=>rfl
      obtain⟨K1,R1⟩:=hR.rowWrite (len:=lo) (ys:=List.replicate len z0) (vs:=(Builtin.zeroCells zv.cells len).toList) hc p1 hb (by simpa using p2) (by simpa using hvl) fun i y hy=>by
       obtain⟨ds,d1,d2⟩:=hget i y hy
       refine⟨ds,d1,fun j v hj=>?_⟩
       have:=d2 j v hj
       rw[hzc,Array.getElem?_toList]
       exact this
      rw[List.length_replicate] at R1
      have fin:∀ w',w'=w.setCells (rowB p) (lo*e'.width) (Builtin.zeroCells zv.cells len).toList→StepTo X T σ lm A ro w (({ val:=.tuple [],writes:=[(c,.row e' (xs.take lo ++ List.replicate len z0 ++ xs.drop (lo+len)))] }:Eff).on d s s.pend) (a.put d (.tuple #[])) w':=fun w' e=>by
       subst e
       have he:({ val:=.tuple [],writes:=[(c,.row e' (xs.take lo ++ List.replicate len z0 ++ xs.drop (lo+len)))] }:Eff).on d s s.pend=({ s with heap:=s.heap.set c (.row e' (xs.take lo ++ List.replicate len z0 ++ xs.drop (lo+len))) }:St).put d (.tuple []):=by
        unfold Eff.on St.put
        cases d <;> simp[dullAll,setAll]
       rw[he]
       exact⟨_,σ,K1,(by intros;assumption),R1.put d fun _ _=>.tuple _ [] [] (.nil _ _)⟩
      by_cases h0:len=0
      ·subst h0
       refine⟨.tuple #[],w,?_,fin w ?_⟩
       ·cases ad <;> simp[Builtin.clear_,run_underlying hu]
       ·have:(Builtin.zeroCells zv.cells 0).toList=[]:=by simp[Builtin.zeroCells]
        rw[this];rfl
      ·have had:=p5 (by omega)
       subst had
       obtain⟨p',g1,g2,g3,g4,cs,g5,g6,g7,g8⟩:RowAt T σ w c e' xs:=hR.inv.mem c _ hc
       rw[p1] at g1;cases g1
       have hcap:(lo+len)*e'.width≤rowC p*e'.width:=Nat.mul_le_mul_right _ p2
       rw[Nat.add_mul] at hcap
       have hsm:∀ y,lo*e'.width≤y→y<lo*e'.width+(Builtin.zeroCells zv.cells len).toList.length→(w.cell? ⟨rowB p,y,none⟩).isSome=true∧w.frozen? ⟨rowB p,y,none⟩=false:=fun y y1 y2=>by
        by_cases hy:y<cs.length
        ·have:=(g7 y _ (List.getElem?_eq_getElem hy)).2
         exact⟨by rw[this.1];rfl,this.2⟩
        ·exact hR.inv.spare _ _ _ _ (g8 y (by omega) (by omega))
       have hone:∀ v∈(Builtin.zeroCells zv.cells len).toList,v.oneCell'=true:=fun v hv=>by
        unfold Builtin.zeroCells at hv
        simp only[Array.toList_map,List.mem_map] at hv
        obtain⟨i,hi,rfl⟩:=hv
        have hlt:i % zv.cells.size<zv.cells.size:=Nat.mod_lt _ (by omega)
        have hm:zv.cells[i % zv.cells.size]!∈zv.cells.toList:=by
         rw[getElem!_pos zv.cells _ hlt]
         simp
        exact hd0.one _ hm
       refine⟨.tuple #[],_,?_,fin _ rfl⟩
       have hst:=run_storeCells_cells (P:=X.P) (rowB p) (lo*e'.width) (Builtin.zeroCells zv.cells len).toList 0 w (fun j hj=>(hsm _ (by omega) (by omega)).1) (fun j hj=>(hsm _ (by omega) (by omega)).2) hone
       simp only[Nat.add_zero] at hst
       unfold Builtin.clear_
       simp only[List.getElem?_toArray,List.getElem?_cons_zero,Sem.run_bind,run_und hu,Result.andThen_ok,hzv]
       rw[hst]
       rfl
     ·cases h4
    ·cases h3
   ·cases h3
  ·cases h3
 ·cases h3
theorem sliceRowK_some {t:TypeId} {x:AV} {lo hi mx:Option AV} {k:AV→Option R} {r:R} (h:sliceRowK X t x lo hi mx s.heap k=some r) :
  ∃ av,k av=some r∧∀ (T:Tags) (σ lm:Nat→Option Nat) (A:Amb) (ro:Option Nat) (a:Act) (w:World) (ow:Own) (u:Value) (lo' hi' mx':Option Value),Rel X T σ lm A ro s a w→Rep T.fix σ lm ow x u →
   (lo.isNone=lo'.isNone∧∀ a v,lo=some a→lo'=some v→∃ ow',Rep T.fix σ lm ow' a v)→(hi.isNone=hi'.isNone∧∀ a v,hi=some a→hi'=some v→∃ ow',Rep T.fix σ lm ow' a v)→(mx.isNone=mx'.isNone) →
   Comes1 X.P T.fix σ lm av w (Instr.sliceAt t u lo' hi' mx'):=by
 unfold sliceRowK at h
 split at h
 ·rename_i te hu
  split at h
  ·cases h
  ·split at h
   ·rename_i c e at0 len
    split at h
    ·rename_i cell hc0
     obtain⟨xs,hxs,h'⟩:=bind_some h
     clear h
     obtain rfl:=asRow_some hxs
     obtain⟨l,h1,hl⟩:=boundK_some h'
     obtain⟨hh,h2,hhi⟩:=boundK_some h1
     clear h' h1
     split at h2
     ·rename_i hc
      rw[br_eq] at h2
      split at h2
      ·rename_i hb
       simp only[decide_eq_true_eq] at hb
       obtain⟨b1,b2,b3⟩:=hb
       refine⟨_,h2,fun T σ lm A ro a0 w ow u lo' hi' mx' hR hr hlo hhi' hmx=>?_⟩
       have hmx':mx'=none:=by cases mx' with | none=>rfl | some _=>simp at hmx
       subst hmx'
       cases hr with
       | hs _ _ _ _ _ _ hq =>
       obtain⟨p,p1,p2,p3,ad,rfl,p5,p6⟩:=hq
       obtain⟨p',q1,_,q3,_⟩:RowAt T σ w c e xs:=hR.inv.mem c _ hc0
       rw[p1] at q1;cases q1
       have hbounds:(Instr.sliceBounds true len (rowC p-at0) lo' hi' none).run X.P w=.ok (l.toNat,hh.toNat,rowC p-at0) w:=by
        unfold Instr.sliceBounds
        rcases hhi with ⟨rfl,rfl⟩ | ⟨kd,rfl⟩
        ·have e1:hi'=none:=by cases hi' with | none=>rfl | some _=>simp at hhi'
         subst e1
         rcases hl with ⟨rfl,rfl⟩ | ⟨kd',rfl⟩
         ·have e2:lo'=none:=by cases lo' with | none=>rfl | some _=>simp at hlo
          subst e2
          simp
         ·cases lo' with
          | none=>simp at hlo
          | some v =>
           obtain⟨_,hv⟩:=hlo.2 _ _ rfl rfl
           cases hv
           simp[run_sliceBound b1 (show l≤((len:Nat):Int) by omega)]
        ·cases hi' with
         | none=>simp at hhi'
         | some v =>
          obtain⟨_,hv⟩:=hhi'.2 _ _ rfl rfl
          cases hv
          have hb1:=run_sliceBound (P:=X.P) (kd:=kd) (n:=hh) (y:=rowC p-at0) (code:=.sliceAcap) (by omega) (by omega) w
          rcases hl with ⟨rfl,rfl⟩ | ⟨kd',rfl⟩
          ·have e2:lo'=none:=by cases lo' with | none=>rfl | some _=>simp at hlo
           subst e2
           simp[hb1]
          ·cases lo' with
           | none=>simp at hlo
           | some v =>
            obtain⟨_,hv⟩:=hlo.2 _ _ rfl rfl
            cases hv
            simp[hb1,run_sliceBound b1 (show l≤((hh.toNat:Nat):Int) by omega)]
       refine⟨.slice (if rowC p-at0=l.toNat then ad else ad.map (·.add (l.toNat*sizeT X.P te))) (hh.toNat-l.toNat) (rowC p-at0-l.toNat),?_,?_⟩
       ·simp only[Instr.sliceAt,Sem.run_bind,run_und hu,Result.andThen_ok,Instr.slice,hbounds,run_sizeOf_pos hc.2,Sem.run_pure]
       ·refine .hs _ _ _ _ _ _ ⟨p,p1,by omega,p3,_,by rw[show rowC p-(at0+l.toNat)=rowC p-at0-l.toNat by omega],fun hlt=>?_,fun hn=>?_⟩
        ·rw[if_neg (by omega),p5 (by omega)]
         simp only[Option.map_some,add_none,hc.1,Nat.add_mul]
        ·split at hn
         ·omega
         ·have:=p6 (by simpa using hn)
          omega
      ·cases h2
     ·cases h2
    ·cases h
   ·cases h
 ·cases h
end Go.Am
namespace Go.Am
open Go
variable {R:Type} {X:Ext} {F:Fix}
theorem wrapV_val {P:Program} {t:TypeId} {κ:Ty} (h:κ.isRow=aggType P t) (cs:List Value):wrapV P t cs=κ.val cs:=by
 unfold wrapV Ty.val
 rw[← h]
 cases κ.isRow <;> rfl
theorem check_plain {P:Program} (em:Bool):∀ (d:Nat) (t:TypeId) (τ:Ty),eqTy P d t=some τ→∀ (D:Nat) (x:τ.den) (cs:List Value) (w:World),CellsD F τ x cs→(Instr.checkKey em (d+D) t (wrapV P t cs)).run P w=.ok () w:=by
 intro d
 induction d with
 | zero=>intro t τ h;simp[eqTy] at h
 | succ d ih =>
  intro t τ h D x cs w hx
  have hD:d+1+D=(d+D)+1:=by omega
  rw[hD]
  unfold eqTy at h
  cases hu:P.underlying t with
  | none=>simp[hu] at h
  | some u =>
   rw[hu] at h
   cases u with
   | int k =>
    simp only[Option.some.injEq] at h
    subst h
    have hagg:aggType P t=false:=by simp[aggType,hu]
    simp only[CellsD] at hx
    subst hx
    simp[wrapV,hagg,Instr.checkKey,run_underlying hu]
   | bool =>
    simp only[Option.some.injEq] at h
    subst h
    have hagg:aggType P t=false:=by simp[aggType,hu]
    simp only[CellsD] at hx
    subst hx
    simp[wrapV,hagg,Instr.checkKey,run_underlying hu]
   | struct fs =>
    simp only at h
    split at h
    ·simp only[Option.map_eq_some_iff] at h
     obtain⟨τs,hgo,rfl⟩:=h
     have hagg:aggType P t=true:=by simp[aggType,hu]
     simp only[wrapV,hagg,if_true]
     rw[Instr.checkKey]
     simp only[Sem.run_bind,run_underlying hu,Result.andThen_ok]
     rw[← Array.forIn_toList]
     suffices H:∀ (fl:List Field) (off:Nat) (τs:List Ty) (x:(mkRow τs).den) (pre cs:List Value),eqTyGo P (eqTy P d) off fl=some τs→pre.length=off→CellsD F (mkRow τs) x cs →
       (forIn fl PUnit.unit fun f _=>(do
        if f.name ≠ "_" then Instr.checkKey em (d+D) f.type (← part f.type (pre ++ cs).toArray f.offset)
        pure (ForInStep.yield PUnit.unit):Sem (ForInStep PUnit))).run P w=.ok PUnit.unit w by
      have:=H fs.toList 0 τs x [] cs hgo rfl hx
      simp at this ⊢
      rw[this];rfl
     intro fl
     induction fl with
     | nil=>intro off τs x pre cs _ _ _;simp
     | cons f fl ihf =>
      intro off τs x pre cs hg hp hx
      unfold eqTyGo at hg
      obtain⟨τ1,h1,hg⟩:=bind_some hg
      split at hg
      ·rename_i hc
       obtain⟨ho,hn,hwd,hpos⟩:=hc
       obtain⟨l,h2,hg⟩:=bind_some hg
       cases hg
       obtain⟨y1,z1,c1,d1,rfl,p1,q1⟩:=cellsD_mkRow_cons hx
       have l1:=p1.length
       have e1:=run_part f.type (pre ++ (c1 ++ d1)) pre c1 d1 f.offset w rfl (by omega) hpos (by omega) (eqTy_und h1)
       have e2:=ih f.type τ1 h1 D y1 c1 w p1
       have hrec:=ihf (off+τ1.width) l z1 (pre ++ c1) d1 h2 (by simp[hp,l1]) q1
       rw[List.append_assoc] at hrec
       simp only[List.forIn_cons,Sem.run_bind,hn,ne_eq,not_false_eq_true,if_true,e1,e2,Result.andThen_ok,Sem.run_pure]
       exact hrec
      ·cases hg
    ·cases h
   | array n e =>
    simp only at h
    obtain⟨x1,h1,h⟩:=bind_some h
    split at h
    ·rename_i hc
     cases h
     have hagg:aggType P t=true:=by simp[aggType,hu]
     simp only[wrapV,hagg,if_true]
     rw[Instr.checkKey]
     simp only[Sem.run_bind,run_underlying hu,Result.andThen_ok]
     simp only[Std.Legacy.Range.forIn_eq_forIn_range',Std.Legacy.Range.size,Nat.sub_zero,Nat.add_one_sub_one,Nat.div_one]
     suffices H:∀ (m j:Nat) (x:(mkRow (tyRep m x1)).den) (pre cs:List Value),pre.length=j*sizeT P e→CellsD F (mkRow (tyRep m x1)) x cs →
       (forIn (List.range' j m) PUnit.unit fun i _=>(do
        Instr.checkKey em (d+D) e (← part e (pre ++ cs).toArray (i*(← sizeOf e)))
        pure (ForInStep.yield PUnit.unit):Sem (ForInStep PUnit))).run P w=.ok PUnit.unit w by
      have:=H n 0 x [] cs (by simp) hx
      simp at this ⊢
      rw[this];rfl
     intro m
     induction m with
     | zero=>intro j x pre cs _ _;simp
     | succ m ihm =>
      intro j x pre cs hp hx
      obtain⟨y1,z1,c1,d1,rfl,p1,q1⟩:=cellsD_mkRow_cons (a:=x1) (l:=tyRep m x1) hx
      have l1:=p1.length
      have e1:=run_part e (pre ++ (c1 ++ d1)) pre c1 d1 _ w rfl hp hc.1 (by omega) (eqTy_und h1)
      have e2:=ih e x1 h1 D y1 c1 w p1
      have hrec:=ihm (j+1) z1 (pre ++ c1) d1 (by simp[hp,l1,Nat.add_mul,hc.2]) q1
      rw[List.append_assoc] at hrec
      simp only[List.range'_succ,List.forIn_cons,Sem.run_bind,run_sizeOf_pos hc.1,e1,e2,Result.andThen_ok,Sem.run_pure]
      exact hrec
    ·cases h
   | _=>simp at h
def mapFind (κ:Ty) {α:Type} (q:κ.den):List (κ.den×α)→Nat→Option (Nat×α)
 | [],_=>none
 | p :: l,i=>if κ.beq q p.1=true then some (i,p.2) else mapFind κ q l (i+1)
theorem mapFind_get {κ ε:Ty} {q:κ.den}:∀ (l:List (κ.den×ε.den)) (i:Nat),(mapFind κ q l i).map (·.2)=mapGet κ ε q l:=by
 intro l
 induction l with
 | nil=>intro i;rfl
 | cons p l ih =>
  intro i
  unfold mapFind mapGet
  split
  ·rfl
  ·exact ih _
section
variable {P:Program} {κ:Ty} {t:TypeId} {α:Type} {V:α→Value→Prop}
theorem valD_eq {q p:κ.den} {cs:List Value} {u:Value} (hκ:eqTy P tdepth t=some κ) (hrow:κ.isRow=aggType P t) (hq:CellsD F κ q cs) (hp:ValD F κ p u) (w:World) :
  (Op.equal t (wrapV P t cs) u).run P w=.ok (κ.beq q p) w:=by
 obtain⟨ds,hd,rfl⟩:=hp
 have:=equal_plain (F:=F) tdepth t κ hκ (10000-tdepth) q p cs ds w hq hd
 rw[wrapV_val hrow ds] at this
 have e:tdepth+(10000-tdepth)=Op.maxDepth:=rfl
 rw[e] at this
 unfold Op.equal
 rw[this]
 congr 1
 have hb:=beq_cells (F:=F) (w:=w) (eqTy_keyOk hκ) hq hd
 cases hbq:κ.beq q p with
 | true=>simp[hb.1 hbq]
 | false =>
  have:¬ (cs=ds):=fun e=>by rw[hb.2 e] at hbq;cases hbq
  simp[this]
theorem run_asking {q:κ.den} {cs:List Value} (hκ:eqTy P tdepth t=some κ) (hrow:κ.isRow=aggType P t) (hq:CellsD F κ q cs) (w:World):∀ (es:List MapEntry) (l:List (κ.den×α)) (i:Nat),MapRel F κ V es l →
  ∃ r,(Instr.findAsking t (wrapV P t cs) es i).run P w=.ok r w∧((mapFind κ q l i=none∧r=none)∨∃ j x e,mapFind κ q l i=some (j,x)∧r=some (j,e.val)∧i≤j∧es[j-i]?=some e∧V x e.val∧(∃ p,κ.beq q p=true∧ValD F κ p e.key)):=by
 intro es
 induction es with
 | nil =>
  intro l i h
  cases l with
  | nil=>exact⟨none,by simp[Instr.findAsking],.inl ⟨rfl,rfl⟩⟩
  | cons p l=>exact h.elim
 | cons e es ih =>
  intro l i h
  cases l with
  | nil=>exact h.elim
  | cons p l =>
   obtain⟨h1,h2,h3⟩:=h
   have he:=valD_eq hκ hrow hq h1 w
   unfold Instr.findAsking mapFind
   simp only[Sem.run_bind,he,Result.andThen_ok]
   cases hb:κ.beq q p.1 with
   | true =>
    refine⟨some (i,e.val),by simp,.inr ⟨i,p.2,e,by simp,rfl,Nat.le_refl _,by simp,h2,p.1,hb,h1⟩⟩
   | false =>
    obtain⟨r,r1,r2⟩:=ih l (i+1) h3
    refine⟨r,by simpa using r1,?_⟩
    simp only[Bool.false_eq_true,if_false]
    rcases r2 with r2 | ⟨j,x,e',g1,g2,g3,g4,g5,g6⟩
    ·exact .inl r2
    ·refine .inr ⟨j,x,e',g1,g2,by omega,?_,g5,g6⟩
     rw[show j-i=(j-(i+1))+1 by omega,List.getElem?_cons_succ]
     exact g4
theorem findNow_asking {d:TypeDesc} {k:Value} (hd:(∃ i,d=.int i)∨d=.bool) (hs:P.underlying t=some d) (w:World):∀ (es:List MapEntry) (i:Nat),(∀ e∈es,∃ b,Instr.sameNow d k e.key=some b∧(Op.equal t k e.key).run P w=.ok b w) →
  ∃ r,Instr.findNow d k es i=some r∧(Instr.findAsking t k es i).run P w=.ok r w:=by
 intro es
 induction es with
 | nil=>intro i _;exact⟨none,rfl,by simp[Instr.findAsking]⟩
 | cons e es ih =>
  intro i h
  obtain⟨b,h1,h2⟩:=h e (by simp)
  unfold Instr.findNow Instr.findAsking
  simp only[h1,Sem.run_bind,h2,Result.andThen_ok]
  cases b with
  | true=>exact⟨_,rfl,by simp⟩
  | false =>
   obtain⟨r,r1,r2⟩:=ih (i+1) fun e he=>h e (by simp[he])
   exact⟨r,r1,by simpa using r2⟩
theorem mapRel_keys {es:List MapEntry} {l:List (κ.den×α)} (h:MapRel F κ V es l):∀ e∈es,∃ p,ValD F κ p e.key:=by
 induction es generalizing l with
 | nil=>intro e he;simp at he
 | cons x es ih =>
  cases l with
  | nil=>exact h.elim
  | cons p l =>
   intro e he
   rcases List.mem_cons.1 he with rfl | he
   ·exact⟨p.1,h.1⟩
   ·exact ih h.2.2 e he
theorem run_find {q:κ.den} {cs:List Value} (hκ:eqTy P tdepth t=some κ) (hrow:κ.isRow=aggType P t) (hq:CellsD F κ q cs) (w:World) {es:List MapEntry} {l:List (κ.den×α)} (h:MapRel F κ V es l) :
  ∃ r,(Instr.findKey t (wrapV P t cs) es).run P w=.ok r w∧((mapFind κ q l 0=none∧r=none)∨∃ j x e,mapFind κ q l 0=some (j,x)∧r=some (j,e.val)∧es[j]?=some e∧V x e.val∧(∃ p,κ.beq q p=true∧ValD F κ p e.key)):=by
 obtain⟨r,r1,r2⟩:=run_asking hκ hrow hq w es l 0 h
 refine⟨r,?_,by simpa using r2⟩
 by_cases hw:(match P.underlying t with | some (.array _ _) | some (.struct _)=>true | _=>false)=true
 ·rw[run_findKey_eq w hw];exact r1
 ·obtain⟨u,hu⟩:=eqTy_und hκ
  have hκ':=hκ
  unfold tdepth eqTy at hκ'
  rw[hu] at hκ' hw
  have key:((∃ i,u=.int i)∨u=.bool)∧aggType P t=false∧((∃ i,u=.int i∧κ=.int i)∨(u=.bool∧κ=.bool)):=by
   cases u <;> simp at hκ' hw
   ·exact⟨.inr rfl,by simp[aggType,hu],.inr ⟨rfl,hκ'.symm⟩⟩
   ·exact⟨.inl ⟨_,rfl⟩,by simp[aggType,hu],.inl ⟨_,rfl,hκ'.symm⟩⟩
  obtain⟨k1,k2,k3⟩:=key
  obtain⟨r',f1,f2⟩:=findNow_asking (k:=wrapV P t cs) k1 hu w es 0 fun e he=>by
   obtain⟨p,hp⟩:=mapRel_keys h e he
   refine⟨κ.beq q p,?_,valD_eq hκ hrow hq hp w⟩
   obtain⟨ds,hd,hk⟩:=hp
   rw[hk]
   rcases k3 with ⟨i,rfl,rfl⟩ | ⟨rfl,rfl⟩
   ·simp only[CellsD] at hq hd
    subst hq;subst hd
    simp[wrapV,k2,Ty.val,Ty.isRow,Instr.sameNow,Ty.beq]
    rfl
   ·simp only[CellsD] at hq hd
    subst hq;subst hd
    simp[wrapV,k2,Ty.val,Ty.isRow,Instr.sameNow,Ty.beq]
    rfl
  rw[r1] at f2
  cases f2
  unfold Instr.findKey
  simp only[Sem.run_bind,run_underlying hu,Result.andThen_ok,f1,Sem.run_pure]
end
section
variable {κ:Ty} {α:Type} {V:α→Value→Prop}
theorem mapRel_push {q:κ.den} {x:α} {e':MapEntry} (h1:ValD F κ q e'.key) (h2:V x e'.val):∀ {es:List MapEntry} {l:List (κ.den×α)},MapRel F κ V es l→MapRel F κ V (es ++ [e']) (l ++ [(q,x)]):=by
 intro es
 induction es with
 | nil=>intro l h;cases l with
  | nil=>exact⟨h1,h2,trivial⟩
  | cons p l=>exact h.elim
 | cons e es ih=>intro l h;cases l with
  | nil=>exact h.elim
  | cons p l=>exact⟨h.1,h.2.1,ih h.2.2⟩
end
section
variable {T:Tags} {σ lm:Nat→Option Nat} {A:Amb} {ro:Option Nat} {s:St} {a:Act} {w:World}
end
section
variable {σ lm:Nat→Option Nat}
theorem takeV_some {t:Ty} {v:AV} {x:t.den} {ow:Own} {u:Value} (h:takeV t v=some x) (hr:Rep F σ lm ow v u):∃ cs,CellsD F t x cs∧u=t.val cs:=by
 unfold takeV at h
 split at h
 ·rename_i hf
  obtain⟨l,h1,h2⟩:=bind_some h
  have hrl:=flat_rep hr h1
  have hc:=takeAll_some h2 hrl
  refine⟨_,hc,?_⟩
  unfold Ty.val
  rw[← hf]
  cases v with
  | agg m =>
   cases hr with
   | agg _ _ vs _=>simp[aggOf,Value.cells]
  | _ =>
   unfold AV.flat at h1
   simp only at h1
   split at h1
   ·rename_i hl
    have:=(leaf_rep hr hl).2.1
    simp[aggOf,this]
   ·cases h1
 ·cases h
theorem giveV_rep {t:Ty} {x:t.den} {ow:Own} {v:Value} (h:ValD F t x v):Rep F σ lm ow (giveV t x) v:=by
 obtain⟨cs,h1,rfl⟩:=h
 cases t with
 | unit=>exact .agg _ _ _ (repL_leaves h1)
 | int k=>simp only[CellsD] at h1;subst h1;exact .int _ _ _
 | bool=>simp only[CellsD] at h1;subst h1;exact .bool _ _
 | str=>simp only[CellsD] at h1;subst h1;exact .str _ _
 | slice e=>obtain⟨a,cap,rfl,h2,h3⟩:=h1;exact .slice _ _ _ _ _ _ h2 h3 fun h=>by cases h
 | pair a b=>exact .agg _ _ _ (repL_leaves h1)
 | sum a b=>exact h1.elim
end
theorem mapTypes_some {P:Program} {t a b:TypeId} {κ:Ty} (h:mapTypes P t=some (a,b,κ)):P.underlying t=some (.map a b)∧eqTy P tdepth a=some κ∧κ.isRow=aggType P a:=by
 unfold mapTypes at h
 split at h
 ·rename_i a' b' hu
  obtain⟨κ',h1,h2⟩:=bind_some h
  split at h2
  ·rename_i hc
   cases h2
   exact⟨hu,h1,hc.1⟩
  ·cases h2
 ·cases h
theorem asMap_some {κ ε:Ty} {x:Cell} {l:List (κ.den×ε.den)} (h:x.asMap κ ε=some l):x=.map κ ε l:=by
 unfold Cell.asMap at h
 split at h
 ·split at h
  ·rename_i h1
   split at h
   ·rename_i h2;subst h1;subst h2;cases h;rfl
   ·cases h
  ·cases h
 ·cases h
section
variable {s:St}
theorem zeroForm_some {P:Program} {b:TypeId} {z:List AV} (hz:zeroLeaves P b=some z) (hf:zeroForm P b=true) :
  ∃ v,(∀ w,(zeroValue b).run P w=.ok v w)∧(∀ F σ lm,RepL F σ lm z v.cells.toList)∧(aggType P b=true→∃ cs,v=.agg cs)∧(aggType P b=false→v.cells=#[v]):=by
 unfold zeroLeaves at hz
 simp only[Option.map_eq_some_iff] at hz
 obtain⟨v,hv,rfl⟩:=hz
 obtain⟨i,hi,hzv⟩:=bind_some hv
 refine⟨v,fun w=>by simp[zeroValue,typeInfo,hi,hzv],fun F σ lm=>repL_const _,fun ha=>?_,fun ha=>?_⟩
 ·unfold zeroForm at hf
  rw[hv] at hf
  cases v <;> simp[ha] at hf
  exact⟨_,rfl⟩
 ·unfold zeroForm at hf
  rw[hv] at hf
  cases v <;> first | rfl | (simp[ha] at hf)
theorem formV_rep {σ lm:Nat→Option Nat} {ow:Own} {ea:Bool} {l:List AV} {v:AV} {u:Value} (h:formV ea l=some v) (hr:∃ vs,RepL F σ lm l vs∧(ea=true∧u=.agg vs.toArray∨ea=false∧vs=[u])):Rep F σ lm ow v u:=by
 obtain⟨vs,h1,h2⟩:=hr
 rcases h2 with ⟨rfl,rfl⟩ | ⟨rfl,rfl⟩
 ·simp only[formV,Option.some.injEq] at h
  subst h
  exact .agg _ _ _ h1
 ·cases h1 with
  | cons x y l' vs' hx ht =>
   cases ht
   simp only[formV,Option.some.injEq] at h
   subst h
   exact hx.mono (Fix.le.refl _) (fun _ _ e=>e) (fun _ _ e=>e) (fun _ _ _ e=>e.elim)
theorem lookV_some {κ:Ty} {q:κ.den} {ea:Bool} {z:List AV} {k:AV→Bool→Option R} {r:R}:∀ {l:List (κ.den×List AV)},lookV κ q ea z k l=some r→∃ v ok,k v ok=some r∧((ok=false∧formV ea z=some v∧∀ p∈l,κ.beq q p.1=false)∨(ok=true∧∃ p∈l,κ.beq q p.1=true∧formV ea p.2=some v)):=by
 intro l
 induction l with
 | nil =>
  intro h
  obtain⟨v,h1,h2⟩:=bind_some h
  exact⟨v,false,h2,.inl ⟨rfl,h1,fun p hp=>by simp at hp⟩⟩
 | cons p l ih =>
  intro h
  unfold lookV at h
  cases hb:κ.beq q p.1 with
  | true =>
   rw[hb] at h
   obtain⟨v,h1,h2⟩:=bind_some h
   exact⟨v,true,h2,.inr ⟨rfl,p,by simp,hb,h1⟩⟩
  | false =>
   rw[hb] at h
   obtain⟨v,ok,h1,h2⟩:=ih h
   refine⟨v,ok,h1,?_⟩
   rcases h2 with ⟨g1,g2,g3⟩ | ⟨g1,p',g2,g3,g4⟩
   ·exact .inl ⟨g1,g2,fun p' hp=>by
     rcases List.mem_cons.1 hp with rfl | hp
     ·exact hb
     ·exact g3 p' hp⟩
   ·exact .inr ⟨g1,p',by simp[g2],g3,g4⟩
theorem mapFind_none {κ:Ty} {α:Type} {q:κ.den}:∀ {l:List (κ.den×α)} {i:Nat},mapFind κ q l i=none↔∀ p∈l,κ.beq q p.1=false:=by
 intro l
 induction l with
 | nil=>intro i;simp[mapFind]
 | cons p l ih =>
  intro i
  unfold mapFind
  split
  ·rename_i hb
   simp[hb]
  ·rename_i hb
   rw[ih]
   simp only[List.mem_cons,forall_eq_or_imp]
   exact⟨fun h=>⟨by simpa using hb,h⟩,fun h=>h.2⟩
theorem mapFind_some {κ:Ty} {α:Type} {q:κ.den}:∀ {l:List (κ.den×α)} {i j:Nat} {x:α},mapFind κ q l i=some (j,x)→∃ p∈l,κ.beq q p.1=true∧p.2=x:=by
 intro l
 induction l with
 | nil=>intro i j x h;simp[mapFind] at h
 | cons p l ih =>
  intro i j x h
  unfold mapFind at h
  split at h
  ·rename_i hb
   cases h
   exact⟨p,by simp,hb,rfl⟩
  ·obtain⟨p',h1,h2⟩:=ih h
   exact⟨p',by simp[h1],h2⟩
theorem beq_trans {κ:Ty}:∀ {x y z:κ.den},κ.keyOk=true→κ.beq x y=true→κ.beq x z=true→κ.beq y z=true:=by
 induction κ with
 | unit=>intro x y z _ _ _;rfl
 | int k=>intro x y z _ h1 h2;simp only[Ty.beq,decide_eq_true_eq] at *;exact h1.symm.trans h2
 | bool=>intro x y z _ h1 h2;simp only[Ty.beq,decide_eq_true_eq] at *;exact h1.symm.trans h2
 | str=>intro x y z h;simp[Ty.keyOk] at h
 | slice e _=>intro x y z h;simp[Ty.keyOk] at h
 | sum a b _ _=>intro x y z h;simp[Ty.keyOk] at h
 | pair a b iha ihb =>
  intro x y z h h1 h2
  simp only[Ty.keyOk,Ty.beq,Bool.and_eq_true] at *
  exact⟨iha h.1 h1.1 h2.1,ihb h.2 h1.2 h2.2⟩
theorem apart_unique {κ:Ty} {α:Type} {l:List (κ.den×α)} (h:keysApart κ l):∀ p∈l,∀ p'∈l,κ.beq p.1 p'.1=true→κ.keyOk=true→p=p':=by
 intro p hp p' hp' hb hk
 obtain⟨i,hi,rfl⟩:=List.getElem_of_mem hp
 obtain⟨j,hj,rfl⟩:=List.getElem_of_mem hp'
 unfold keysApart at h
 rw[List.pairwise_iff_getElem] at h
 rcases Nat.lt_trichotomy i j with g | g | g
 ·have:=(h i j hi hj g).1;rw[hb] at this;cases this
 ·subst g;rfl
 ·have:=(h j i hj hi g).2;rw[hb] at this;cases this
theorem lookupK_some {t:TypeId} {m q:AV} {commaOk:Bool} {k:Eff→Option R} {r:R} (h:lookupK X t m q commaOk s.heap k=some r) :
  ∃ e,k e=some r∧e.grow=[]∧∀ (T:Tags) (σ lm:Nat→Option Nat) (A:Amb) (ro:Option Nat) (a:Act) (w:World) (o1 o2:Own) (um uq:Value) (d:Option Tmp),Rel X T σ lm A ro s a w→Rep T.fix σ lm o1 m um→Rep T.fix σ lm o2 q uq →
   ∃ v,(Instr.lookup t um uq commaOk).run X.P w=.ok v w∧StepTo X T σ lm A ro w (e.on d s s.pend) (a.put d v) w:=by
 have fin:∀ (c:Nat) (av:AV) (ok:Bool),k { val:=outV commaOk av ok,looks:=[c] }=some r →
   (∀ (T:Tags) (σ lm:Nat→Option Nat) (A:Amb) (ro:Option Nat) (a:Act) (w:World) (o1 o2:Own) (um uq:Value),Rel X T σ lm A ro s a w→Rep T.fix σ lm o1 m um→Rep T.fix σ lm o2 q uq →
    ∃ v,(Instr.lookup t um uq commaOk).run X.P w=.ok (if commaOk then .tuple #[v,.bool ok] else v) w∧Rep T.fix σ lm noOwn av v) →
   ∃ e,k e=some r∧e.grow=[]∧∀ (T:Tags) (σ lm:Nat→Option Nat) (A:Amb) (ro:Option Nat) (a:Act) (w:World) (o1 o2:Own) (um uq:Value) (d:Option Tmp),Rel X T σ lm A ro s a w→Rep T.fix σ lm o1 m um→Rep T.fix σ lm o2 q uq →
    ∃ v,(Instr.lookup t um uq commaOk).run X.P w=.ok v w∧StepTo X T σ lm A ro w (e.on d s s.pend) (a.put d v) w:=fun c av ok hk hx =>
  ⟨_,hk,rfl,fun T σ lm A ro a w o1 o2 um uq d hR r1 r2=>by
   obtain⟨v,e1,e2⟩:=hx T σ lm A ro a w o1 o2 um uq hR r1 r2
   refine⟨_,e1,?_⟩
   cases commaOk with
   | false=>exact hR.pure_step d e2
   | true=>exact hR.pure_step d (v:=.tuple #[v,.bool ok]) (.tuple _ _ [v,.bool ok] (.cons _ _ _ _ _ _ e2 (.cons _ _ _ _ _ _ (.bool _ _) (.nil _ _))))⟩
 unfold lookupK at h
 obtain⟨⟨ta,tb,κ⟩,h1,h'⟩:=bind_some h
 clear h
 have h:=h'
 clear h'
 obtain⟨q',h2,h'⟩:=bind_some h
 clear h
 have h:=h'
 clear h'
 obtain⟨z,h3,h'⟩:=bind_some h
 clear h
 have h:=h'
 clear h'
 obtain⟨m1,m2,m3⟩:=mapTypes_some h1
 have hk:=eqTy_keyOk m2
 simp only at h h2 h3
 split at h
 ·rename_i hzf
  obtain⟨zv,z1,z2,z3,z4⟩:=zeroForm_some h3 hzf
  split at h
  ·rename_i c
   split at h
   ·rename_i κ' ea l hc
    split at h
    ·rename_i he
     subst he
     split at h
     ·rename_i hea
      obtain⟨av,ok,g1,g2⟩:=lookV_some h
      refine fin c av ok g1 fun T σ lm A ro a w o1 o2 um uq hR r1 r2=>?_
      cases r1 with
      | map _ _ b0 hb0 =>
      obtain⟨cs,hcs,rfl⟩:=takeV_some h2 r2
      obtain⟨hap,l',hperm,_,b,es,ck,hb,ht,ho,hrel⟩:MemAt T σ w c (.mapv κ' ea l):=hR.inv.mem c _ hc
      rw[hb0] at hb
      cases hb
      obtain⟨f,f1,f2⟩:=run_find m2 m3 hcs w hrel
      have hchk:=check_plain (F:=T.fix) (P:=X.P) es.isEmpty tdepth ta κ' m2 (10000-tdepth) q' cs w hcs
      have e1:tdepth+(10000-tdepth)=10000:=rfl
      rw[e1] at hchk
      rw[wrapV_val m3] at hchk f1
      rcases f2 with ⟨k1,rfl⟩ | ⟨j,x,e,k1,rfl,k3,k4,p,k5,ds',k6,k7⟩
      ·rw[mapFind_none] at k1
       rcases g2 with ⟨rfl,g3,g4⟩ | ⟨rfl,p,g3,g4,g5⟩
       ·refine⟨zv,?_,formV_rep g3 ⟨zv.cells.toList,z2 _ _ _,?_⟩⟩
        ·simp only[Instr.lookup,Sem.run_bind,run_underlying m1,MapKept.run_getObj_map ho,hchk,f1,Result.andThen_ok,z1,Sem.run_pure]
        ·cases hag:aggType X.P tb with
         | true=>obtain⟨q,rfl⟩:=z3 hag;exact .inl ⟨hea.trans hag,by simp[Value.cells]⟩
         | false=>exact .inr ⟨hea.trans hag,by rw[z4 hag]⟩
       ·have:=k1 p (hperm.mem_iff.2 g3)
        rw[g4] at this;cases this
      ·obtain⟨p1,q1,q2,q3⟩:=mapFind_some k1
       rcases g2 with ⟨rfl,g3,g4⟩ | ⟨rfl,p2,g3,g4,g5⟩
       ·have:=g4 p1 (hperm.mem_iff.1 q1)
        rw[q2] at this;cases this
       ·have hpp:=apart_unique hap p1 (hperm.mem_iff.1 q1) p2 g3 (beq_trans hk q2 g4) hk
        subst hpp
        rw[← q3] at k4
        obtain⟨vs,v1,v2⟩:=k4
        refine⟨e.val,?_,formV_rep g5 ⟨vs,v1.mono (Fix.le.refl _) (fun _ _ e=>by cases e) (fun _ _ e=>by cases e),v2⟩⟩
        simp only[Instr.lookup,Sem.run_bind,run_underlying m1,MapKept.run_getObj_map ho,hchk,f1,Result.andThen_ok,Sem.run_pure]
     ·cases h
    ·cases h
   ·rename_i cell hc
    obtain⟨ε,h4,h'⟩:=bind_some h
    clear h
    have h:=h'
    clear h'
    obtain⟨l,h5,h'⟩:=bind_some h
    clear h
    have h:=h'
    clear h'
    obtain⟨z0,h6,h'⟩:=bind_some h
    clear h
    have h:=h'
    clear h'
    have:=asMap_some h5
    subst this
    refine fin c _ _ h fun T σ lm A ro a w o1 o2 um uq hR r1 r2=>?_
    cases r1 with
    | map _ _ b0 hb0 =>
    obtain⟨cs,hcs,rfl⟩:=takeV_some h2 r2
    obtain⟨_,b,es,ck,hb,ht,ho,hrel⟩:MapAt T σ w c κ (ValD T.fix ε) l:=hR.inv.mem c _ hc
    rw[hb0] at hb
    cases hb
    obtain⟨f,f1,f2⟩:=run_find m2 m3 hcs w hrel
    have hchk:=check_plain (F:=T.fix) (P:=X.P) es.isEmpty tdepth ta κ m2 (10000-tdepth) q' cs w hcs
    have e1:tdepth+(10000-tdepth)=10000:=rfl
    rw[e1] at hchk
    rw[wrapV_val m3] at hchk f1
    have hget:=mapFind_get (q:=q') l 0
    rcases f2 with ⟨k1,rfl⟩ | ⟨j,x,e,k1,rfl,k3,k4,p,k5,ds',k6,k7⟩
    ·rw[k1] at hget
     rw[← hget]
     have hzc:CellsD T.fix ε z0 zv.cells.toList:=takeAll_some h6 (z2 T.fix σ lm)
     unfold elemTy at h4
     obtain⟨ε',h7,h8⟩:=bind_some h4
     split at h8
     ·rename_i hform
      cases h8
      have hv:zv=ε.val zv.cells.toList:=by
       unfold Ty.val
       rw[hform.1]
       cases hag:aggType X.P tb with
       | true=>obtain⟨q,rfl⟩:=z3 hag;simp[Value.cells]
       | false=>rw[z4 hag];rfl
      refine⟨zv,?_,giveV_rep ⟨_,hzc,hv⟩⟩
      simp only[Instr.lookup,Sem.run_bind,run_underlying m1,MapKept.run_getObj_map ho,hchk,f1,Result.andThen_ok,z1,Sem.run_pure]
      rfl
     ·cases h8
    ·rw[k1] at hget
     rw[← hget]
     refine⟨e.val,?_,giveV_rep k4⟩
     simp only[Instr.lookup,Sem.run_bind,run_underlying m1,MapKept.run_getObj_map ho,hchk,f1,Result.andThen_ok,Sem.run_pure]
     rfl
   ·cases h
  ·cases h
 ·cases h
end
end Go.Am
namespace Go.Am
open Go
variable {R:Type} {X:Ext} {s:St}
theorem makeSliceK_some {t:TypeId} {l c:AV} {k:AV→Option R} {r:R} (h:makeSliceK X t l c k=some r) :
  ∃ av,k av=some r∧∀ (T:Tags) (σ lm:Nat→Option Nat) (A:Amb) (ro:Option Nat) (a:Act) (w:World) (u v:Value) (ow ow':Own) (d:Option Tmp),Rel X T σ lm A ro s a w→Rep T.fix σ lm ow l u→Rep T.fix σ lm ow' c v →
   ∃ x w',(Instr.makeSlice t u v).run X.P w=.ok x w'∧StepTo X T σ lm A ro w (({ val:=av }:Eff).on d s s.pend) (a.put d x) w':=by
 unfold makeSliceK at h
 obtain⟨⟨te,e⟩,hex,h1⟩:=bind_some h
 clear h
 obtain⟨hu,hwd⟩:=sliceElem_some hex
 obtain⟨z,hz,h2⟩:=bind_some h1
 clear h1
 split at h2
 ·rename_i l c
  split at h2
  ·rename_i hc
   obtain⟨rfl,hzl,hpos,hbp⟩:=hc
   rw[br_eq] at h2
   simp only[decide_eq_true_eq] at h2
   split at h2
   ·rename_i hcc
    obtain⟨hc0,hcb⟩:=hcc
    have h:=h2
    simp only at hzl hpos hbp hcb hz
    refine⟨_,h,fun T σ lm A ro a w u v ow ow' d hR hu' hv'=>?_⟩
    cases hu';cases hv'
    obtain⟨zv,hzv,_,hzl'⟩:=zeroLeaves_some hz
    have hcle:c≤140737488355328:=by
     have:c*1≤c*(bytesT X.P te:Int):=Int.mul_le_mul_of_nonneg_left (by omega) hc0
     omega
    obtain⟨i,hi⟩:=info_of_underlying (P:=X.P) (t:=t) hu
    obtain⟨ie,hie⟩:∃ ie,X.P.info? te=some ie:=by
     cases hq:X.P.info? te with
     | none=>simp[bytesT,hq] at hbp
     | some ie=>exact⟨ie,rfl⟩
    have hby:bytesT X.P te=ie.bytes:=by simp[bytesT,hie]
    have hw0:IntKind.i64.wrap 0=0:=wrap64_id (by omega) (by omega)
    have hwc:IntKind.i64.wrap c=c:=wrap64_id hc0 hcle
    obtain⟨T',hk,hR',hle,hfx,hsp⟩:=hR.newRow (dstLoc d) ((Array.range (c.toNat*sizeT X.P te)).map ((if c.toNat*sizeT X.P te=0 then #[] else zv.cells)[· % (if c.toNat*sizeT X.P te=0 then #[] else zv.cells).size]!)) te 0 (Nat.zero_le _)
    refine⟨.slice (some ⟨w.heap.size,0,none⟩) 0 c.toNat,_,?_,T',σ,hk,(by intros;assumption),?_⟩
    ·unfold Instr.makeSlice
     have hnot:¬ ((ie.bytes:Int)*c > 2 ^ 48):=by rw[← hby,Int.mul_comm];omega
     simp only[Sem.run_bind,run_und hu,Result.andThen_ok,asInt,asIntOf,Sem.run_pure,typeInfo,run_program,hie,hw0,hwc]
     have hg:(decide (c<0) || decide ((ie.bytes:Int)*c > 2 ^ 48) || decide ((0:Int)<0) || decide ((0:Int) > c))=false:=by
      simp only[Bool.or_eq_false_iff,decide_eq_false_iff_not]
      exact⟨⟨⟨by omega,hnot⟩,by omega⟩,by omega⟩
     rw[if_neg (by rw[hg];simp)]
     simp only[Sem.run_bind,run_askRoom,Result.andThen_ok,run_sizeOf_pos hpos]
     by_cases h0:c.toNat*sizeT X.P te=0
     ·rw[if_pos h0]
      simp only[h0,if_true,Sem.run_bind,Sem.run_pure,Result.andThen_ok]
      rfl
     ·rw[if_neg h0]
      simp only[h0,if_false,Sem.run_bind,hzv,Sem.run_pure,Result.andThen_ok]
      rfl
    ·rw[eff_on_pure]
     refine hR'.put d fun u e'=>?_
     refine .slice _ _ _ _ _ _ ⟨Nat.zero_le _,(fun h=>by cases h),(by unfold maxLen;omega)⟩ (fun i x hx=>by simp at hx) fun _=>.inr ⟨w.heap.size,0,rfl,fun k h1 h2=>?_⟩
     have hdl:dstLoc d=.tmp u:=by rw[e'];rfl
     rw[hdl] at hsp
     have:=hsp k (Nat.zero_le _) (by simp;rw[← hwd];exact h2)
     unfold Tags.own
     rw[Nat.zero_add]
     exact this
   ·cases h2
  ·cases h2
 ·cases h2
theorem eff_on_dulls (av:AV) (x:Operand) (d:Option Tmp) (s:St):({ val:=av,dulls:=tmpOf x }:Eff).on d s s.pend=({ s with tmps:=dullAll s.tmps (tmpOf x) }:St).put d av:=by
 unfold Eff.on St.put
 cases d <;> simp[setAll]
theorem repL_eval {T:Tags} {σ lm:Nat→Option Nat} {A:Amb} {ro:Option Nat} {a:Act} {w:World} (hR:Rel X T σ lm A ro s a w) (l:List Operand) :
  RepL T.fix σ lm (l.map fun x=>(s.eval X x).dull) (l.map a.eval):=by
 induction l with
 | nil=>exact .nil
 | cons x l ih=>exact .cons _ _ _ _ (hR.eval x).dull ih
theorem repL_eval_int {T:Tags} {σ lm:Nat→Option Nat} {A:Amb} {ro:Option Nat} {a:Act} {w:World} (hR:Rel X T σ lm A ro s a w):∀ (l:List Operand),(∀ x∈l,∃ k n,s.eval X x=.int k n) →
  RepL T.fix σ lm (l.map (s.eval X)) (l.map a.eval):=by
 intro l
 induction l with
 | nil=>intro _;exact .nil
 | cons x l ih =>
  intro h
  obtain⟨k,n,e⟩:=h x (by simp)
  have:=hR.eval x
  refine .cons _ _ _ _ ?_ (ih fun y hy=>h y (by simp[hy]))
  rw[e] at this ⊢
  exact this.dull (ow':=noOwn)
theorem minMaxGo_ints {lt:Int→Int→Bool} {kd:IntKind}:∀ {l:List AV} {x:Int} {c:AV→Option R} {r:R},minMaxGo lt kd x l c=some r→∀ y∈l,∃ k n,y=.int k n:=by
 intro l
 induction l with
 | nil=>intro x c r _ y hy;simp at hy
 | cons z l ih =>
  intro x c r h y hy
  cases z <;> simp only[minMaxGo] at h <;> try (cases h)
  rcases List.mem_cons.1 hy with rfl | hy
  ·exact⟨_,_,rfl⟩
  ·exact ih h y hy
theorem minMaxK_ints {lt:Int→Int→Bool} {l:List AV} {c:AV→Option R} {r:R} (h:minMaxK lt l c=some r):∀ y∈l,∃ k n,y=.int k n:=by
 unfold minMaxK at h
 split at h
 ·intro y hy
  rcases List.mem_cons.1 hy with rfl | hy
  ·exact⟨_,_,rfl⟩
  ·exact minMaxGo_ints h y hy
 ·cases h
theorem RepC.get {F:Fix} {σ lm:Nat→Option Nat} {ow:Own}:∀ {j:Nat} {l:List AV} {vs:List Value},RepC F σ lm ow j l vs→∀ (i:Nat) a,l[i]?=some a→∃ v,vs[i]?=some v∧Rep F σ lm (fun _=>ow (j+i)) a v:=by
 intro j l
 induction l generalizing j with
 | nil=>intro vs h i a ha;simp at ha
 | cons x l ih =>
  intro vs h i a ha
  cases h with
  | cons _ _ _ v _ vs h t =>
  cases i with
  | zero=>simp at ha;subst ha;exact⟨v,rfl,h⟩
  | succ i =>
   simp at ha
   obtain⟨u,h1,h2⟩:=ih t i a ha
   refine⟨u,by simpa using h1,?_⟩
   rw[show j+(i+1)=j+1+i by omega]
   exact h2
theorem map_one {α β:Type} {f:α→β} {l:List α} {y:β} (h:l.map f=[y]):∃ x,l=[x]∧f x=y:=by
 match l,h with
 | [x],h=>simp at h;exact⟨x,rfl,h⟩
theorem map_two {α β:Type} {f:α→β} {l:List α} {y z:β} (h:l.map f=[y,z]):∃ x x',l=[x,x']∧f x=y∧f x'=z:=by
 match l,h with
 | [x,x'],h=>simp at h;exact⟨x,x',rfl,h.1,h.2⟩
theorem thawK_hs {h:List Cell} {c lo len:Nat} {e:Ty} {k:AV→Option R} {r:R} (hk:thawK h (.hs c e lo len) k=some r):∃ xs:List e.den,h[c]?=some (.row e xs)∧lo+len≤xs.length∧k (.slice false e ((xs.drop lo).take len))=some r:=by
 simp only[thawK] at hk
 split at hk
 ·rename_i cell hc
  obtain⟨xs,hxs,h2⟩:=bind_some hk
  clear hk
  obtain rfl:=asRow_some hxs
  rw[br_eq] at h2
  split at h2
  ·rename_i hb
   exact⟨xs,hc,by simpa using hb,h2⟩
  ·cases h2
 ·cases hk
theorem Rel.thaw {T:Tags} {σ lm:Nat→Option Nat} {A:Amb} {ro:Option Nat} {a:Act} {w:World} (hR:Rel X T σ lm A ro s a w) {c lo len:Nat} {e:Ty} {xs:List e.den} (hc:s.heap[c]?=some (.row e xs)) (hl:lo+len≤xs.length) :
  ∃ T',Keeps T w T' w∧Rel X T' σ lm A ro { s with heap:=s.heap.set c .gone } a w∧Fix.le T.fix T'.fix∧∀ u ow,Rep T.fix σ lm ow (.hs c e lo len) u→Rep T'.fix σ lm noOwn (.slice false e ((xs.drop lo).take len)) u:=by
 obtain⟨p,hp,_⟩:RowAt T σ w c e xs:=hR.inv.mem c _ hc
 obtain⟨T',K,R1,hle,hw,hd⟩:=hR.rowFrost hc hp
 refine⟨T',K,R1,hle,fun u ow hu=>?_⟩
 cases hu with
 | hs _ _ _ _ _ _ hq =>
 obtain⟨p',p1,p2,p3,ad,rfl,p5,p6⟩:=hq
 rw[hp] at p1;cases p1
 have hlen:((xs.drop lo).take len).length=len:=by simp;omega
 have hval:Value.slice ad len (rowC p-lo)=.slice ad ((xs.drop lo).take len).length (rowC p-lo):=by rw[hlen]
 rw[hval]
 refine .slice _ _ _ _ _ _ ⟨by rw[hlen];omega,fun h=>by have:=p6 h;omega,by omega⟩ (fun i x hx=>?_) fun h=>by cases h
 have hlt:=get_lt hx
 have hx':xs[lo+i]?=some x:=by
  rw[List.getElem?_take] at hx
  split at hx
  ·rwa [List.getElem?_drop] at hx
  ·cases hx
 obtain⟨ds,d1,d2⟩:=hd _ x hx'
 refine⟨ds,d1,fun j v hv=>⟨⟨rowB p,lo*e.width,none⟩,p5 (by omega),?_⟩⟩
 have:=d2 j v hv
 unfold FixAt at this ⊢
 rw[add_none] at this ⊢
 rw[show lo*e.width+(i*e.width+j)=0+((lo+i)*e.width+j) by rw[Nat.add_mul];omega]
 exact this
theorem buildFrozen_some {t:TypeId} {n c lo len:Nat} {e':Ty} {k:Eff→Option R} {r:R} (h:(thawK s.heap (.hs c e' lo len) fun v=>buildSliceK X t n [(0,v)] fun v=>k { val:=v,writes:=[(c,.gone)] })=some r) :
  ∃ ef,k ef=some r∧ef.grow=[]∧∀ (T:Tags) (σ lm:Nat→Option Nat) (A:Amb) (ro:Option Nat) (a:Act) (w:World) (us:List (Nat×Value)) (d:Option Tmp),Rel X T σ lm A ro s a w →
   ([(0,AV.hs c e' lo len)].length=us.length∧∀ (i:Nat) p u,[(0,AV.hs c e' lo len)][i]?=some p→us[i]?=some u→p.1=u.1∧∃ ow,Rep T.fix σ lm ow p.2 u.2) →
   ∃ v w',(Instr.buildSlice t n us.toArray).run X.P w=.ok v w'∧StepTo X T σ lm A ro w (ef.on d s s.pend) (a.put d v) w':=by
 obtain⟨xs,hc,hl,h2⟩:=thawK_hs h
 obtain⟨av,hk,hx⟩:=buildSliceK_some (s:={ s with heap:=s.heap.set c .gone }) h2
 refine⟨_,hk,rfl,fun T σ lm A ro a w us d hR hp=>?_⟩
 obtain⟨T',K,R1,hle,hthaw⟩:=hR.thaw hc hl
 obtain⟨v,w',hv,hs⟩:=hx T' σ lm A ro a w us d R1 ⟨by simpa using hp.1,fun i p u h1 h2=>by
  match us,hp with
  | [u0],hp =>
   match i with
   | 0 =>
    simp at h1 h2
    subst h1;subst h2
    obtain⟨g1,ow,g2⟩:=hp.2 0 _ _ rfl rfl
    exact⟨g1,_,hthaw _ _ g2⟩
   | i+1=>simp at h1⟩
 refine⟨v,w',hv,?_⟩
 obtain⟨T2,σ2,K2,m2,R2⟩:=hs
 refine⟨T2,σ2,K.trans K2,m2,?_⟩
 have he:({ val:=av,writes:=[(c,.gone)] }:Eff).on d s s.pend=({ val:=av }:Eff).on d ({ s with heap:=s.heap.set c .gone }:St) ({ s with heap:=s.heap.set c .gone }:St).pend:=by
  unfold Eff.on
  cases d <;> simp[dullAll,setAll]
 rw[he];exact R2
def OpTo (X:Ext) (T:Tags) (σ lm:Nat→Option Nat) (A:Amb) (ro:Option Nat) (s:St) (a:Act) (w:World) (o:Oper) (e:Eff):Prop :=
 ∃ v w',((execOp a.eval o).run X.P w=.ok (.value v) w'∨((execOp a.eval o).run X.P w=.ok .skip w'∧v=undef))∧StepTo X T σ lm A ro w (e.on o.dst s s.pend) (a.put o.dst v) w'
theorem plain_sound {takes:Tmp→Bool} {mk:Bool} {slot:Nat} {o:Oper} {k:Eff→Option R} {r:R} (h:plainK X takes mk slot o (s.eval X) s.heap k=some r) :
  ∃ e,k e=some r∧e.grow=[]∧∀ (T:Tags) (σ lm:Nat→Option Nat) (A:Amb) (ro:Option Nat) (a:Act) (w:World),Rel X T σ lm A ro s a w→OpTo X T σ lm A ro s a w o e:=by
 unfold plainK at h
 split at h
 ·
  rename_i x ho
  split at h
  ·split at h
   ·rename_i c e lo len hx
    obtain⟨xs,hc,hl,h2⟩:=thawK_hs h
    refine⟨_,h2,rfl,fun T σ lm A ro a w hR=>?_⟩
    obtain⟨T',K,R1,hle,hthaw⟩:=hR.thaw hc hl
    have hr:=hR.eval x
    rw[hx] at hr
    obtain⟨T2,σ2,K2,m2,R2⟩:=R1.pure_step o.dst (hthaw _ _ hr)
    refine⟨a.eval x,w,.inl (by simp[execOp,ho]),T2,σ2,K.trans K2,m2,?_⟩
    have he:({ val:=.slice false e ((xs.drop lo).take len),writes:=[(c,.gone)] }:Eff).on o.dst s s.pend=({ val:=.slice false e ((xs.drop lo).take len) }:Eff).on o.dst ({ s with heap:=s.heap.set c .gone }:St) ({ s with heap:=s.heap.set c .gone }:St).pend:=by
     unfold Eff.on
     cases o.dst <;> simp[dullAll,setAll]
    rw[he];exact R2
   ·refine⟨_,h,rfl,fun T σ lm A ro a w hR=>?_⟩
    obtain⟨T',hk,hR'⟩:=hR.give x o.dst
    exact⟨a.eval x,w,.inl (by simp[execOp,ho]),T',σ,hk,(by intros;assumption),by rw[eff_on_dulls];exact hR'⟩
  split at h
  ·refine⟨_,h,rfl,fun T σ lm A ro a w hR=>?_⟩
   obtain⟨T',hk,hR'⟩:=hR.give x o.dst
   exact⟨a.eval x,w,.inl (by simp[execOp,ho]),T',σ,hk,(by intros;assumption),by rw[eff_on_dulls];exact hR'⟩
  ·refine⟨_,h,rfl,fun T σ lm A ro a w hR=>?_⟩
   exact⟨a.eval x,w,.inl (by simp[execOp,ho]),hR.pure_step o.dst (hR.eval x).dull⟩
 ·
  rename_i x ho
  refine⟨_,h,rfl,fun T σ lm A ro a w hR=>?_⟩
  obtain⟨T',hk,hR'⟩:=hR.give x o.dst
  exact⟨a.eval x,w,.inl (by simp[execOp,ho]),T',σ,hk,(by intros;assumption),by rw[eff_on_dulls];exact hR'⟩
 ·
  rename_i e ho
  obtain⟨z,hz,h⟩:=bind_some h
  obtain⟨ef,hk,hg,hx⟩:=newK_some h
  refine⟨ef,hk,hg,fun T σ lm A ro a w hR=>?_⟩
  obtain⟨zv,hzv,hzr,_⟩:=zeroLeaves_some hz
  obtain⟨h1,h2⟩:=hx T σ lm A ro a w zv e o.dst hR (hzr _ _ _)
  exact⟨_,_,.inl (by simp only[execOp,ho,Instr.alloc,Sem.run_bind,hzv,Result.andThen_ok,h1,Sem.run_pure]),h2⟩
 ·
  rename_i e x ho
  obtain⟨z,hz,h⟩:=bind_some h
  obtain⟨ef,hk,hg,hx⟩:=newK_some h
  refine⟨ef,hk,hg,fun T σ lm A ro a w hR=>?_⟩
  obtain⟨h1,h2⟩:=hx T σ lm A ro a w (a.eval x) e o.dst hR (flat_rep (hR.eval x) hz)
  exact⟨_,_,.inl (by simp only[execOp,ho,Instr.box,Sem.run_bind,h1,Result.andThen_ok,Sem.run_pure]),h2⟩
 ·
  rename_i t ps ho
  obtain⟨av,hk,hx⟩:=buildK_some h
  refine⟨_,hk,rfl,fun T σ lm A ro a w hR=>?_⟩
  obtain⟨v,hv,hr⟩:=hx T.fix σ lm _ w (parts_rep (X:=X) (s:=s) (P:=X.P) (s.eval X) a.eval (fun x=>⟨_,hR.eval x⟩) ps)
  exact⟨v,w,.inl (by simp only[execOp,ho,Sem.run_bind];rw[Array.toArray_toList] at hv;rw[hv];rfl),hR.pure_step o.dst hr⟩
 ·
  rename_i t n ps ho
  split at h
  ·obtain⟨e,hk,hg,hx⟩:=buildSliceHK_some h
   refine⟨e,hk,hg,fun T σ lm A ro a w hR=>?_⟩
   obtain⟨v,w',hv,hs⟩:=hx T σ lm A ro a w _ o.dst hR (parts_rep (X:=X) (s:=s) (P:=X.P) (s.eval X) a.eval (fun x=>⟨_,hR.eval x⟩) ps)
   exact⟨v,w',.inl (by simp only[execOp,ho,Sem.run_bind];rw[Array.toArray_toList] at hv;rw[hv];rfl),hs⟩
  ·split at h
   ·rename_i c e' lo len hps
    obtain⟨e,hk,hg,hx⟩:=buildFrozen_some h
    refine⟨e,hk,hg,fun T σ lm A ro a w hR=>?_⟩
    have hp:=parts_rep (X:=X) (s:=s) (P:=X.P) (s.eval X) a.eval (fun x=>⟨_,hR.eval x⟩) ps
    rw[hps] at hp
    obtain⟨v,w',hv,hs⟩:=hx T σ lm A ro a w _ o.dst hR hp
    exact⟨v,w',.inl (by simp only[execOp,ho,Sem.run_bind];rw[Array.toArray_toList] at hv;rw[hv];rfl),hs⟩
   ·obtain⟨av,hk,hx⟩:=buildSliceK_some h
    refine⟨_,hk,rfl,fun T σ lm A ro a w hR=>?_⟩
    obtain⟨v,w',hv,hs⟩:=hx T σ lm A ro a w _ o.dst hR (parts_rep (X:=X) (s:=s) (P:=X.P) (s.eval X) a.eval (fun x=>⟨_,hR.eval x⟩) ps)
    exact⟨v,w',.inl (by simp only[execOp,ho,Sem.run_bind];rw[Array.toArray_toList] at hv;rw[hv];rfl),hs⟩
 ·
  rename_i t x ho
  split at h
  ·cases h
  obtain⟨e,hk,hg,hx⟩:=loadK_some h
  refine⟨e,hk,hg,fun T σ lm A ro a w hR=>?_⟩
  obtain⟨v,hv,hs⟩:=hx T σ lm A ro a w _ _ o.dst hR (hR.eval x)
  exact⟨v,w,.inl (by simp only[execOp,ho,Sem.run_bind,hv,Result.andThen_ok,Sem.run_pure]),hs⟩
 ·
  rename_i t x y ho
  split at h
  ·rename_i hd
   obtain⟨e,hk,hg,hx⟩:=storeK_some h rfl
   refine⟨e,hk,hg,fun T σ lm A ro a w hR=>?_⟩
   obtain⟨w',hv,hs⟩:=hx T σ lm A ro a w _ _ hR (hR.eval x)
   refine⟨undef,w',.inr ⟨by simp only[execOp,ho,Sem.run_bind,hv,Result.andThen_ok,Sem.run_pure],rfl⟩,?_⟩
   rw[hd]
   exact hs
  ·cases h
 ·
  rename_i x ho
  split at h
  ·rename_i c off hx
   refine⟨_,h,rfl,fun T σ lm A ro a w hR=>?_⟩
   have hr:=hR.eval x
   rw[hx] at hr
   generalize hav:a.eval x=u at hr
   cases hr with
   | ptr _ c off b hs =>
   exact⟨_,w,.inl (by simp[execOp,ho,hav]),hR.pure_step o.dst (.ptr _ _ _ _ hs)⟩
  ·rename_i l hx
   refine⟨_,h,rfl,fun T σ lm A ro a w hR=>?_⟩
   have hr:=hR.eval x
   rw[hx] at hr
   generalize hav:a.eval x=u at hr
   cases hr with
   | cptr _ l ad vs hl hf =>
   exact⟨_,w,.inl (by simp[execOp,ho,hav]),hR.pure_step o.dst (.cptr _ _ _ _ hl hf)⟩
  ·rename_i g p q hx
   refine⟨_,h,rfl,fun T σ lm A ro a w hR=>?_⟩
   have hr:=hR.eval x
   rw[hx] at hr
   generalize hav:a.eval x=u at hr
   cases hr with
   | func _ g p q vp vq hp hq =>
   exact⟨_,w,.inl (by simp[execOp,ho,hav]),hR.pure_step o.dst (.func _ _ _ _ _ _ hp hq)⟩
  ·cases h
 ·
  rename_i op t x y yt ho
  obtain⟨av,hk,hx⟩:=binOpK_some h
  refine⟨_,hk,rfl,fun T σ lm A ro a w hR=>?_⟩
  obtain⟨v,hv,hr⟩:=hx T.fix σ lm _ _ _ _ x y w (hR.eval x) (hR.eval y)
  refine⟨v,w,.inl ?_,hR.pure_step o.dst hr⟩
  simp only[execOp,ho]
  rw[Sem.run_bind,hv]
  rfl
 ·
  rename_i op t x ho
  obtain⟨av,hk,hx⟩:=unOpK_some h
  refine⟨_,hk,rfl,fun T σ lm A ro a w hR=>?_⟩
  obtain⟨v,hv,hr⟩:=hx T.fix σ lm _ _ w (hR.eval x)
  refine⟨v,w,.inl ?_,hR.pure_step o.dst hr⟩
  simp only[execOp,ho,Sem.run_bind]
  rw[hv]
  rfl
 ·
  rename_i p q x ho
  obtain⟨av,hk,hx⟩:=convertK_some h
  refine⟨_,hk,rfl,fun T σ lm A ro a w hR=>?_⟩
  obtain⟨v,hv,hr⟩:=hx T.fix σ lm _ _ w (hR.eval x)
  refine⟨v,w,.inl ?_,hR.pure_step o.dst hr⟩
  simp only[execOp,ho,Sem.run_bind]
  rw[hv]
  rfl
 ·
  rename_i fn p q ho
  split at h
  ·rename_i g
   refine⟨_,h,rfl,fun T σ lm A ro a w hR=>?_⟩
   refine⟨.func (.func g) (p.toList.map a.eval).toArray (q.toList.map a.eval).toArray,w,.inl ?_,hR.pure_step o.dst (.func _ _ _ _ _ _ (repL_eval hR _) (repL_eval hR _))⟩
   simp only[execOp,ho,Instr.makeFunc,Sem.run_bind,Sem.run_pure,Result.andThen_ok]
   congr 3 <;> apply Array.ext' <;> simp
  ·cases h
 ·
  rename_i t l c ho
  split at h
  ·cases h
  ·obtain⟨av,hk,hx⟩:=makeSliceK_some h
   refine⟨_,hk,rfl,fun T σ lm A ro a w hR=>?_⟩
   obtain⟨v,w',hv,hs⟩:=hx T σ lm A ro a w _ _ _ _ o.dst hR (hR.eval l) (hR.eval c)
   exact⟨v,w',.inl (by simp only[execOp,ho,Sem.run_bind,hv,Result.andThen_ok,Sem.run_pure]),hs⟩
 ·
  rename_i t x lo hi mx ho
  have opt:∀ (T:Tags) (σ lm:Nat→Option Nat) (A:Amb) (ro:Option Nat) (a:Act) (w:World),Rel X T σ lm A ro s a w→∀ (q:Option Operand),(q.map (s.eval X)).isNone=(q.map a.eval).isNone∧∀ p v,q.map (s.eval X)=some p→q.map a.eval=some v→∃ ow',Rep T.fix σ lm ow' p v:=fun T σ lm A ro a w hR q=>by
   cases q with
   | none=>exact⟨rfl,fun _ _ h=>by cases h⟩
   | some q=>exact⟨rfl,fun p v h1 h2=>by cases h1;cases h2;exact⟨_,hR.eval q⟩⟩
  split at h
  ·cases h
  ·split at h
   ·obtain⟨av,hk,hx⟩:=sliceRowK_some h
    refine⟨_,hk,rfl,fun T σ lm A ro a w hR=>?_⟩
    obtain⟨v,hv,hr⟩:=hx T σ lm A ro a w _ _ (lo.map a.eval) (hi.map a.eval) (mx.map a.eval) hR (hR.eval x) (opt _ _ _ _ _ _ _ hR lo) (opt _ _ _ _ _ _ _ hR hi) (opt _ _ _ _ _ _ _ hR mx).1
    exact⟨v,w,.inl (by simp only[execOp,ho,Sem.run_bind,hv,Result.andThen_ok,Sem.run_pure]),hR.pure_step o.dst hr⟩
   obtain⟨av,hk,hx⟩:=sliceK_some h
   refine⟨_,hk,rfl,fun T σ lm A ro a w hR=>?_⟩
   obtain⟨v,hv,hr⟩:=hx T.fix σ lm _ _ (lo.map a.eval) (hi.map a.eval) (mx.map a.eval) w (hR.eval x) (opt _ _ _ _ _ _ _ hR lo) (opt _ _ _ _ _ _ _ hR hi) (opt _ _ _ _ _ _ _ hR mx)
   exact⟨v,w,.inl (by simp only[execOp,ho,Sem.run_bind,hv,Result.andThen_ok,Sem.run_pure]),hR.pure_step o.dst hr⟩
 ·
  rename_i t x i ho
  obtain⟨av,hk,hx⟩:=fieldAddrK_some h
  refine⟨_,hk,rfl,fun T σ lm A ro a w hR=>?_⟩
  obtain⟨v,hv,hr⟩:=hx T.fix σ lm _ _ w (hR.eval x)
  exact⟨v,w,.inl (by simp only[execOp,ho,Sem.run_bind,hv,Result.andThen_ok,Sem.run_pure]),hR.pure_step o.dst hr⟩
 ·
  rename_i t x i ho
  cases h
 ·
  rename_i t x i ho
  obtain⟨av,hk,hx⟩:=indexAddrK_some h
  refine⟨_,hk,rfl,fun T σ lm A ro a w hR=>?_⟩
  obtain⟨v,hv,hr⟩:=hx T.fix σ lm _ _ _ _ w (hR.eval x) (hR.eval i)
  exact⟨v,w,.inl (by simp only[execOp,ho,Sem.run_bind,hv,Result.andThen_ok,Sem.run_pure]),hR.pure_step o.dst hr⟩
 ·
  rename_i t x i ho
  obtain⟨av,hk,hx⟩:=indexK_some h
  refine⟨_,hk,rfl,fun T σ lm A ro a w hR=>?_⟩
  obtain⟨v,hv,hr⟩:=hx T.fix σ lm _ _ _ _ w (hR.eval x) (hR.eval i)
  exact⟨v,w,.inl (by simp only[execOp,ho,Sem.run_bind,hv,Result.andThen_ok,Sem.run_pure]),hR.pure_step o.dst hr⟩
 ·
  rename_i t n ho
  split at h
  ·cases h
  ·cases h
 ·
  rename_i t m q v ho
  split at h
  ·rename_i hd
   cases h
  ·cases h
 ·
  rename_i t m q v ho
  split at h
  ·rename_i hd
   cases h
  ·cases h
 ·
  rename_i t m q ok ho
  obtain⟨e,hk,hg,hx⟩:=lookupK_some h
  refine⟨e,hk,hg,fun T σ lm A ro a w hR=>?_⟩
  obtain⟨v,hv,hs⟩:=hx T σ lm A ro a w _ _ _ _ o.dst hR (hR.eval m) (hR.eval q)
  exact⟨v,w,.inl (by simp only[execOp,ho,Sem.run_bind,hv,Result.andThen_ok,Sem.run_pure]),hs⟩
 ·
  rename_i x i ho
  split at h
  ·rename_i l hx
   split at h
   ·rename_i v hv
    refine⟨_,h,rfl,fun T σ lm A ro a w hR=>?_⟩
    have hr:=hR.eval x
    rw[hx] at hr
    generalize hav:a.eval x=u at hr
    cases hr with
    | tuple _ l vs hc =>
    obtain⟨u,hu,hru⟩:=hc.get i v hv
    refine⟨u,w,.inl ?_,hR.pure_step o.dst hru.dull⟩
    simp only[execOp,ho,hav,Instr.extract,List.getElem?_toArray,hu,Sem.run_bind,Sem.run_pure,Result.andThen_ok]
   ·cases h
  ·cases h
 ·
  rename_i c ho
  split at h
  ·rename_i b hb
   unfold builtinK at h
   split at h
   ·rename_i t ts x hts hvs
    obtain⟨av,hk,hx⟩:=lenK_some h
    refine⟨_,hk,rfl,fun T σ lm A ro a w hR=>?_⟩
    obtain⟨x0,hx0,rfl⟩:=map_one hvs
    obtain⟨v,hv,hr⟩:=hx T.fix σ lm _ _ ts o.type w (hR.eval x0)
    refine⟨v,w,.inl ?_,hR.pure_step o.dst hr⟩
    simp only[execOp,ho,resolve,hb,Sem.run_bind,Sem.run_pure,Result.andThen_ok,invoke,builtin]
    rw[show c.argTypes=(t :: ts).toArray by rw[← hts],show c.args.map a.eval=#[a.eval x0] by apply Array.ext';simp[hx0],hv]
    rfl
   ·rename_i t t' x y hts hvs
    split at h
    ·obtain⟨e,hk,hg,hx⟩:=appendHK_some h
     refine⟨e,hk,hg,fun T σ lm A ro a w hR=>?_⟩
     obtain⟨x0,y0,hx0,rfl,rfl⟩:=map_two hvs
     obtain⟨v,w',hv,hs⟩:=hx T σ lm A ro a w _ _ _ _ o.dst o.type hR (hR.eval x0) (hR.eval y0)
     refine⟨v,w',.inl ?_,hs⟩
     simp only[execOp,ho,resolve,hb,Sem.run_bind,Sem.run_pure,Result.andThen_ok,invoke,builtin]
     rw[show c.argTypes=#[t,t'] by apply Array.ext';simpa using hts,show c.args.map a.eval=#[a.eval x0,a.eval y0] by apply Array.ext';simp[hx0],hv]
     rfl
    obtain⟨av,hk,hx⟩:=appendK_some h
    refine⟨_,hk,rfl,fun T σ lm A ro a w hR=>?_⟩
    obtain⟨x0,y0,hx0,rfl,rfl⟩:=map_two hvs
    obtain⟨v,w',hv,hs⟩:=hx T σ lm A ro a w x0 _ _ _ o.dst o.type hR (hR.eval x0) (hR.eval y0)
    refine⟨v,w',.inl ?_,?_⟩
    ·simp only[execOp,ho,resolve,hb,Sem.run_bind,Sem.run_pure,Result.andThen_ok,invoke,builtin]
     rw[show c.argTypes=#[t,t'] by apply Array.ext';simpa using hts,show c.args.map a.eval=#[a.eval x0,a.eval y0] by apply Array.ext';simp[hx0],hv]
     rfl
    ·rw[show (c.args.toList.take 1).flatMap tmpOf=tmpOf x0 by simp[hx0]]
     exact hs
   ·rename_i t x hts hvs
    obtain⟨e,hk,hg,hx⟩:=clearHK_some h
    refine⟨e,hk,hg,fun T σ lm A ro a w hR=>?_⟩
    obtain⟨x0,hx0,rfl⟩:=map_one hvs
    obtain⟨v,w',hv,hs⟩:=hx T σ lm A ro a w _ _ o.dst o.type hR (hR.eval x0)
    refine⟨v,w',.inl ?_,hs⟩
    simp only[execOp,ho,resolve,hb,Sem.run_bind,Sem.run_pure,Result.andThen_ok,invoke,builtin]
    rw[show c.argTypes=#[t] by apply Array.ext';simpa using hts,show c.args.map a.eval=#[a.eval x0] by apply Array.ext';simp[hx0],hv]
    rfl
   ·obtain⟨av,hk,hx⟩:=minMaxK_some (X:=X) h
    refine⟨_,hk,rfl,fun T σ lm A ro a w hR=>?_⟩
    obtain⟨v,hv,hr⟩:=hx T.fix σ lm _ w Builtin.min2 (stuck "min: at least one argument expected") (fun k x k' y w=>by simp[Builtin.min2]) (repL_eval_int hR c.args.toList fun x hx=>minMaxK_ints h _ (List.mem_map_of_mem hx))
    refine⟨v,w,.inl ?_,hR.pure_step o.dst hr⟩
    simp only[execOp,ho,resolve,hb,Sem.run_bind,Sem.run_pure,Result.andThen_ok,invoke,builtin,Builtin.min_]
    rw[show (c.args.map a.eval).toList=c.args.toList.map a.eval by simp]
    erw [hv]
    rfl
   ·obtain⟨av,hk,hx⟩:=minMaxK_some (X:=X) h
    refine⟨_,hk,rfl,fun T σ lm A ro a w hR=>?_⟩
    obtain⟨v,hv,hr⟩:=hx T.fix σ lm _ w Builtin.max2 (stuck "max: at least one argument expected") (fun k x k' y w=>by simp[Builtin.max2]) (repL_eval_int hR c.args.toList fun x hx=>minMaxK_ints h _ (List.mem_map_of_mem hx))
    refine⟨v,w,.inl ?_,hR.pure_step o.dst hr⟩
    simp only[execOp,ho,resolve,hb,Sem.run_bind,Sem.run_pure,Result.andThen_ok,invoke,builtin,Builtin.max_]
    rw[show (c.args.map a.eval).toList=c.args.toList.map a.eval by simp]
    erw [hv]
    rfl
   ·cases h
  ·cases h
 ·cases h
end Go.Am
namespace Go.Am
open Go
def maskF (F:Fix):Tags:=fun b o=>match F b o with
 | some v=>.fixed v
 | none=>.free
theorem maskF_mine (F:Fix) (b o:Nat):(maskF F b o).mine=false:=by
 unfold maskF;cases F b o <;> rfl
theorem maskF_fix (F:Fix):(maskF F).fix=F:=by
 funext b o
 unfold Tags.fix maskF
 cases F b o <;> rfl
def FixOk (F:Fix) (w:World):Prop:=∀ b o v,F b o=some v→b<w.heap.size∧w.cell? ⟨b,o,none⟩=some v
structure CallPost (T:Tags) (σ:Nat→Option Nat) (w:World) (h:List Cell) (T':Tags) (σ' lm:Nat→Option Nat) (w':World) (h':List Cell) (ls:List LoopRec) (ps':List (Option AE)):Prop where
 keeps:Keeps T w T' w'
 tmp:∀ b o t q,T b o=.spare (.tmp t) q→T' b o=.spare (.tmp t) q
 mark:∀ D,D<w.heap.size→(∀ o,T D o=.mark)→(∀ o,T' D o=.mark)∧w'.heap[D]?=w.heap[D]?
 sig:∀ c,c<h.length→∀ b,σ c=some b→σ' c=some b
 inv:Inv T' σ' lm h' ls ps' w'
def tags1 (T T1:Tags) (n:Nat):Tags:=fun b o=>if b<n then T b o else match T1 b o with
 | .fixed v=>.fixed v
 | .spare .ret j=>.spare .ret j
 | _=>.free
theorem callT_post {T T1:Tags} {F:Fix} {σ lm:Nat→Option Nat} {h:List Cell} {ls:List LoopRec} {ps:List (Option AE)} {w w1:World} (I:Inv T σ lm h ls ps w) (K:Keeps (maskF F) w T1 w1) (I1:Inv T1 nowhere nowhere [] [] [] w1) :
  ∃ T',CallPost T σ w h T' σ lm w1 h ls ps∧(F=T.fix→Fix.le T1.fix T'.fix)∧∀ j b o,T1.own .ret j b o→T'.own .ret j b o:=by
 have hT1:∀ b o,b<w.heap.size→(∃ v,F b o=some v∧T1 b o=.fixed v)∨T1 b o=.free:=by
  intro b o hb
  cases hf:F b o with
  | none=>exact .inr (K.free b o hb (by simp[maskF,hf]))
  | some v=>exact .inl ⟨v,rfl,K.fixed b o v (by simp[maskF,hf])⟩
 have old:∀ b o,b<w.heap.size→tags1 T T1 w.heap.size b o=T b o:=fun b o hb=>by unfold tags1;rw[if_pos hb]
 have hcell:∀ b o,b<w.heap.size→w1.cell? ⟨b,o,none⟩=w.cell? ⟨b,o,none⟩∧w1.frozen? ⟨b,o,none⟩=w.frozen? ⟨b,o,none⟩:=fun b o hb=>K.cell b o hb (maskF_mine _ _ _)
 have hblock:∀ b,b<w.heap.size→w1.heap[b]?=w.heap[b]?:=fun b hb=>K.block b hb fun o=>maskF_mine _ _ _
 have hle:Fix.le T.fix (tags1 T T1 w.heap.size).fix:=fun b o v hv=>by
  rw[Tags.fix_eq] at hv ⊢
  rw[old b o (I.live b o (by rw[hv];simp))];exact hv
 have hown:∀ l j b o,T.own l j b o→(tags1 T T1 w.heap.size).own l j b o:=fun l j b o hv=>by
  have hv':T b o=.spare l j:=hv
  show tags1 T T1 w.heap.size b o=_
  rw[old b o (I.live b o (by rw[hv'];simp))];exact hv'
 refine⟨tags1 T T1 w.heap.size,⟨?_,?_,?_,fun _ _ _ h=>h,?_⟩,?_,?_⟩
 ·refine⟨K.os,K.tape,K.output,K.size,fun b o v e=>?_,fun b o hb e=>by rw[old b o hb];exact e,fun b o hb _=>hcell b o hb,fun b hb _=>hblock b hb⟩
  rw[old b o (I.live b o (by rw[e];simp))];exact e
 ·intro b o t q e
  rw[old b o (I.live b o (by rw[e];simp))];exact e
 ·intro D hD e
  exact⟨fun o=>by rw[old D o hD];exact e o,hblock D hD⟩
 ·refine⟨?_,?_,?_,I.dom,?_,fun c x hx=>(I.mem c x hx).keep (fun _ h=>h) hle (fun b k e=>by
   have hb:=I.live b k (by rw[e];simp)
   exact⟨by rw[old b k hb];exact e,hcell b k hb⟩) (fun b k e=>by rw[old b k (I.live b k (by rw[e];simp))];exact e) (fun b es ck e h=>by rw[hblock b (I.live b 0 (by rw[e 0];simp))];exact h),I.plen,?_⟩
  ·intro b o v e
   unfold tags1 at e
   split at e
   ·rename_i hb
    rw[(hcell b o hb).1];exact I.fixed b o v e
   ·refine I1.fixed b o v ?_
    split at e <;> first | (cases e;done) | skip
    rename_i u hu
    cases e;exact hu
  ·intro b o l j e
   unfold tags1 at e
   split at e
   ·rename_i hb
    rw[(hcell b o hb).1,(hcell b o hb).2];exact I.spare b o l j e
   ·split at e <;> first | (cases e;done) | skip
    rename_i u hu
    exact I1.spare b o _ _ hu
  ·intro b o e
   unfold tags1 at e
   split at e
   ·rename_i hb;exact Nat.lt_of_lt_of_le hb K.size
   ·refine I1.live b o fun hf=>e ?_
    rw[hf]
  ·intro c l hc
   obtain⟨b,h1,h2,h3⟩:=I.var c l hc
   refine⟨b,h1,Nat.lt_of_lt_of_le h2 K.size,fun j av hj=>?_⟩
   obtain⟨v,e1,e2,e3,e4⟩:=h3 j av hj
   exact⟨v,by rw[(hcell b j h2).1];exact e1,by rw[(hcell b j h2).2];exact e2,by rw[old b j h2];exact e3,e4.mono hle (fun _ _ x=>x) (fun _ _ x=>x) (hown _)⟩
  ·intro i r hr
   obtain⟨b,rec,h1,h2,h3,h4,h5,h6,h7,h8,h9,h10⟩:=I.loop i r hr
   have hb:b<w.heap.size:=I.live b 0 (by rw[h2];simp)
   exact⟨b,rec,h1,by rw[old b 0 hb];exact h2,by rw[hblock b hb];exact h3,h4,h5,h6,h7,h8,fun t=>(h9 t).mono hle (fun _ _ x=>x) (fun _ _ x=>x) (fun _ _ _ x=>x),h10⟩
 ·intro hF b o v e
  rw[Tags.fix_eq] at e ⊢
  unfold tags1
  split
  ·rename_i hb
   rcases hT1 b o hb with ⟨u,e1,e2⟩ | e1
   ·rw[e] at e2;cases e2
    rw[hF,Tags.fix_eq] at e1;exact e1
   ·rw[e1] at e;cases e
  ·rw[e]
 ·intro j b o e
  have e':T1 b o=.spare .ret j:=e
  show tags1 T T1 w.heap.size b o=_
  unfold tags1
  split
  ·rename_i hb
   rcases hT1 b o hb with ⟨u,e1,e2⟩ | e1
   ·rw[e'] at e2;cases e2
   ·rw[e'] at e1;cases e1
  ·rw[e']
theorem CallPost.rel {X:Ext} {T T':Tags} {σ σ' lm:Nat→Option Nat} {A:Amb} {ro:Option Nat} {s:St} {a:Act} {w w':World} {h':List Cell} {ps':List (Option AE)} (hR:Rel X T σ lm A ro s a w)
  (C:CallPost T σ w s.heap T' σ' lm w' h' A.loops ps'):Rel X T' σ' lm A ro { s with heap:=h',pend:=ps' } a w':={
 inv:=C.inv
 len:=hR.len
 nt:=hR.nt
 tm:=fun t=>by
  have hs:∀ c b,σ c=some b→σ' c=some b:=fun c b e=>by
   obtain⟨l,hl,_⟩:=hR.inv.dom c b e
   exact C.sig c (lt_of_get hl) b e
  exact (hR.tm t).mono (fun b o v e=>by rw[Tags.fix_eq] at e ⊢;exact C.keeps.fixed b o v e) hs (fun _ _ x=>x) (fun j b o e=>C.tmp b o t j e)
 marks:=fun d hd=>by
  obtain⟨D,e1,e2,e3⟩:=hR.marks d hd
  have hD:D<w.heap.size:=hR.inv.live D 0 (by rw[e3];simp)
  obtain⟨k1,k2⟩:=C.mark D hD e3
  exact⟨D,e1,by rw[k2];exact e2,k1⟩
 nodup:=hR.nodup
 round:=hR.round
 glob:=hR.glob.mono fun b o v e=>by rw[Tags.fix_eq] at e ⊢;exact C.keeps.fixed b o v e }
section
variable {F:Fix} {σ lm σ' lm':Nat→Option Nat}
mutual
theorem Rep.closed {ow:Own} {v:AV} {u:Value} (h:Rep F σ lm ow v u) (hc:v.closed=true):Rep F σ' lm' ow v u:=by
 cases h with
 | int _ k n=>exact .int ..
 | bool _ b=>exact .bool ..
 | str _ s=>exact .str ..
 | slice _ own e xs a cap h1 h2 h3=>exact .slice _ _ _ _ _ _ h1 h2 h3
 | nil=>exact .nil _
 | ptr _ c off b h=>simp[AV.closed] at hc
 | nilptr=>exact .nilptr _
 | cptr _ l a vs h hx=>exact .cptr _ _ _ _ (RepL.closed h (by simpa[AV.closed] using hc)) hx
 | func _ g a b va vb ha hb =>
  simp only[AV.closed,Bool.and_eq_true] at hc
  exact .func _ _ _ _ _ _ (RepL.closed ha hc.1) (RepL.closed hb hc.2)
 | yield _ l r h=>simp[AV.closed] at hc
 | nilfunc=>exact .nilfunc _
 | map _ c b h=>simp[AV.closed] at hc
 | nilmap=>exact .nilmap _
 | iface _ t v u h=>exact .iface _ _ _ _ (Rep.closed h (by simpa[AV.closed] using hc))
 | niliface=>exact .niliface _
 | agg _ l vs h=>exact .agg _ _ _ (RepL.closed h (by simpa[AV.closed] using hc))
 | tuple _ l vs h=>exact .tuple _ _ _ (RepC.closed h (by simpa[AV.closed] using hc))
 | hs _ c e lo len u h=>simp[AV.closed] at hc
 | rptr _ c e i off p h=>simp[AV.closed] at hc
 | void _ a=>exact .void _ _
 | top _ v=>exact .top _ _
theorem RepL.closed {l:List AV} {vs:List Value} (h:RepL F σ lm l vs) (hc:closedL l=true):RepL F σ' lm' l vs:=by
 cases h with
 | nil=>exact .nil
 | cons a v l vs h t =>
  simp only[closedL,Bool.and_eq_true] at hc
  exact .cons _ _ _ _ (Rep.closed h hc.1) (RepL.closed t hc.2)
theorem RepC.closed {ow:Own} {j:Nat} {l:List AV} {vs:List Value} (h:RepC F σ lm ow j l vs) (hc:closedL l=true):RepC F σ' lm' ow j l vs:=by
 cases h with
 | nil=>exact .nil _ _
 | cons _ _ a v l vs h t =>
  simp only[closedL,Bool.and_eq_true] at hc
  exact .cons _ _ _ _ _ _ (Rep.closed h hc.1) (RepC.closed t hc.2)
end
end
mutual
theorem closed_dull:∀ (v:AV),v.closed=true→v.dull.closed=true
 | .slice ..,_=>rfl
 | .tuple l,h=>by
  simp only[AV.dull,AV.closed] at h ⊢
  exact closed_dull_go l h
 | .int ..,h | .bool ..,h | .str ..,h | .nil,h | .ptr ..,h | .nilptr,h | .cptr ..,h | .func ..,h | .nilfunc,h | .map ..,h | .nilmap,h | .iface ..,h | .niliface,h | .agg ..,h | .hs ..,h | .rptr ..,h | .void,h | .top,h=>h
theorem closed_dull_go:∀ (l:List AV),closedL l=true→closedL (dullL l)=true
 | [],_=>rfl
 | v :: l,h=>by
  simp only[closedL,dullL,Bool.and_eq_true] at h ⊢
  exact⟨closed_dull v h.1,closed_dull_go l h.2⟩
end
theorem closedL_dull {l:List AV} (h:closedL l=true):closedL (l.map AV.dull)=true:=by
 induction l with
 | nil=>rfl
 | cons v l ih =>
  simp only[closedL,List.map_cons,Bool.and_eq_true] at h ⊢
  exact⟨closed_dull v h.1,ih h.2⟩
theorem FixOk.of_inv {T:Tags} {σ lm:Nat→Option Nat} {h:List Cell} {ls:List LoopRec} {ps:List (Option AE)} {w:World} (I:Inv T σ lm h ls ps w):FixOk T.fix w:=fun b o v e=>by
 rw[Tags.fix_eq] at e
 exact⟨I.live b o (by rw[e];simp),I.fixed b o v e⟩
def lendF (T:Tags) (w:World):Fix:=fun b o=>match T b o with
 | .fixed v=>some v
 | .cell _ _=>w.cell? ⟨b,o,none⟩
 | _=>none
theorem lendF_le {T:Tags} {w:World}:Fix.le T.fix (lendF T w):=fun b o v e=>by
 rw[Tags.fix_eq] at e
 unfold lendF;rw[e]
theorem lendF_ok {T:Tags} {σ lm:Nat→Option Nat} {h:List Cell} {ls:List LoopRec} {ps:List (Option AE)} {w:World} (I:Inv T σ lm h ls ps w):FixOk (lendF T w) w:=fun b o v e=>by
 unfold lendF at e
 split at e
 ·rename_i u hu
  cases e
  exact⟨I.live b o (by rw[hu];simp),I.fixed b o _ hu⟩
 ·rename_i c j hu
  exact⟨I.live b o (by rw[hu];simp),e⟩
 ·cases e
theorem thawK_some {R:Type} {h:List Cell} {v:AV} {k:AV→Option R} {r:R} (hk:thawK h v k=some r):∃ v',k v'=some r∧(v'=v∨v'.closed=true)∧(∀ c e lo len,v=.hs c e lo len→v'.closed=true) ∧
  ∀ {T:Tags} {σ lm:Nat→Option Nat} {ls:List LoopRec} {ps:List (Option AE)} {w:World} {ow:Own} {u:Value},Inv T σ lm h ls ps w→Rep T.fix σ lm ow v u→Rep (lendF T w) σ lm ow v' u:=by
 unfold thawK at hk
 split at hk
 ·rename_i c e lo len
  split at hk
  ·rename_i cell hc
   obtain⟨xs,hxs,h2⟩:=bind_some hk
   clear hk
   obtain rfl:=asRow_some hxs
   rw[br_eq] at h2
   split at h2
   ·rename_i hl
    simp only[decide_eq_true_eq] at hl
    refine⟨_,h2,.inr rfl,fun _ _ _ _ _=>rfl,fun {T σ lm ls ps w ow u} I hu=>?_⟩
    cases hu with
    | hs _ _ _ _ _ _ hq =>
    obtain⟨p,p1,p2,p3,ad,rfl,p5,p6⟩:=hq
    obtain⟨p',h1,g2,h3,h4,cs,h5,h6,h7,h8⟩:RowAt T σ w c e xs:=I.mem c _ hc
    rw[p1] at h1;cases h1
    have hlen:((xs.drop lo).take len).length=len:=by simp;omega
    have hval:Value.slice ad len (rowC p-lo)=.slice ad ((xs.drop lo).take len).length (rowC p-lo):=by rw[hlen]
    rw[hval]
    refine .slice _ _ _ _ _ _ ⟨by rw[hlen];omega,fun h=>by have:=p6 h;omega,by omega⟩ (fun i x hx=>?_) fun h=>by cases h
    have hlt:=get_lt hx
    have hx':xs[lo+i]?=some x:=by
     rw[List.getElem?_take] at hx
     split at hx
     ·rwa [List.getElem?_drop] at hx
     ·cases hx
    obtain⟨ds,d1,d2⟩:=h6 _ x hx'
    refine⟨ds,d1.mono lendF_le,fun j v hv=>⟨⟨rowB p,lo*e.width,none⟩,p5 (by omega),?_⟩⟩
    have:=h7 _ v (d2 j v hv)
    unfold FixAt
    rw[add_none]
    rw[show lo*e.width+(i*e.width+j)=(lo+i)*e.width+j by rw[Nat.add_mul];omega]
    refine⟨rfl,?_⟩
    show lendF T w (rowB p) ((lo+i)*e.width+j)=some v
    unfold lendF
    rw[this.1]
    exact this.2.1
   ·cases h2
  ·cases hk
 ·rename_i hne
  exact⟨v,hk,.inl rfl,fun c e lo len h=>absurd h (hne c e lo len),fun I hu=>hu.mono lendF_le (fun _ _ x=>x) (fun _ _ x=>x) (fun _ _ _ x=>x)⟩
theorem thawLK_some {R:Type} {h:List Cell}:∀ {l:List AV} {k:List AV→Option R} {r:R},thawLK h l k=some r→∃ l',k l'=some r∧l'.length=l.length ∧
  ((l.all fun v=>match v with | .hs _ _ _ _=>true | v=>v.closed)=true→closedL l'=true) ∧
  (∀ {T:Tags} {σ lm:Nat→Option Nat} {ls:List LoopRec} {ps:List (Option AE)} {w:World} {us:List Value},Inv T σ lm h ls ps w→RepL T.fix σ lm l us→RepL (lendF T w) σ lm l' us) ∧
  (∀ v,l=[v]→∃ v',l'=[v']∧∀ {T:Tags} {σ lm:Nat→Option Nat} {ls:List LoopRec} {ps:List (Option AE)} {w:World} {ow:Own} {u:Value},Inv T σ lm h ls ps w→Rep T.fix σ lm ow v u→Rep (lendF T w) σ lm ow v' u):=by
 intro l
 induction l with
 | nil=>intro k r hk;exact⟨[],hk,rfl,fun _=>rfl,fun _ hu=>(by cases hu;exact .nil),fun v hv=>by cases hv⟩
 | cons v l ih =>
  intro k r hk
  simp only[thawLK] at hk
  obtain⟨v',h1,h2,h2',h3⟩:=thawK_some hk
  obtain⟨l',g1,g2,g3,g4,g5⟩:=ih h1
  refine⟨v' :: l',g1,by simp[g2],fun hall=>?_,fun I hu=>?_,fun x hx=>?_⟩
  ·simp only[List.all_cons,Bool.and_eq_true] at hall
   simp only[closedL,Bool.and_eq_true]
   refine⟨?_,g3 hall.2⟩
   rcases h2 with rfl | h2
   ·cases hv:v' with
    | hs c e lo len=>exact absurd (h2' c e lo len hv) (by rw[hv];simp[AV.closed])
    | _=>rw[hv] at hall;exact hall.1
   ·exact h2
  ·cases hu with
   | cons _ u _ us hv ht=>exact .cons _ _ _ _ (h3 I hv) (g4 I ht)
  ·simp only[List.cons.injEq] at hx
   obtain⟨rfl,rfl⟩:=hx
   have:l'=[]:=List.eq_nil_of_length_eq_zero g2
   subst this
   exact⟨v',rfl,h3⟩
theorem lendK_some {R:Type} {h:List Cell} {v:AV} {k:AV→Option R} {r:R} (hk:lendK h v k=some r):∃ v',k v'=some r∧(lentArg v=true→v'.closed=true) ∧
  ∀ {T:Tags} {σ lm:Nat→Option Nat} {ls:List LoopRec} {ps:List (Option AE)} {w:World} {ow:Own} {u:Value},Inv T σ lm h ls ps w→Rep T.fix σ lm ow v u→Rep (lendF T w) σ lm ow v' u:=by
 cases v with
 | agg l =>
  obtain⟨l',h1,h2,h3,h4,_⟩:=thawLK_some (l:=l) (k:=fun l=>k (.agg l)) hk
  refine⟨_,h1,fun hall=>h3 hall,fun I hu=>?_⟩
  cases hu with
  | agg _ _ vs h=>exact .agg _ _ _ (h4 I h)
 | hs c e lo len =>
  obtain⟨v',h1,h2,h3,h4⟩:=thawK_some (v:=.hs c e lo len) hk
  exact⟨v',h1,fun _=>h3 _ _ _ _ rfl,h4⟩
 | _ =>
  simp only[lendK] at hk
  obtain⟨v',h1,h2,h3,h4⟩:=thawK_some hk
  refine⟨v',h1,fun hall=>?_,h4⟩
  rcases h2 with rfl | h2
  ·exact hall
  ·exact h2
theorem lendLK_some {R:Type} {h:List Cell}:∀ {l:List AV} {k:List AV→Option R} {r:R},lendLK h l k=some r→∃ l',k l'=some r ∧
  (l.all lentArg=true→closedL l'=true) ∧
  (∀ {T:Tags} {σ lm:Nat→Option Nat} {ls:List LoopRec} {ps:List (Option AE)} {w:World} {us:List Value},Inv T σ lm h ls ps w→RepL T.fix σ lm l us→RepL (lendF T w) σ lm l' us):=by
 intro l
 induction l with
 | nil=>intro k r hk;exact⟨[],hk,fun _=>rfl,fun _ hu=>(by cases hu;exact .nil)⟩
 | cons v l ih =>
  intro k r hk
  simp only[lendLK] at hk
  obtain⟨v',h1,h2,h3⟩:=lendK_some hk
  obtain⟨l',g1,g3,g4⟩:=ih h1
  refine⟨v' :: l',g1,fun hall=>?_,fun I hu=>?_⟩
  ·simp only[List.all_cons,Bool.and_eq_true] at hall
   simp only[closedL,Bool.and_eq_true]
   exact⟨h2 hall.1,g3 hall.2⟩
  ·cases hu with
   | cons _ u _ us hv ht=>exact .cons _ _ _ _ (h3 I hv) (g4 I ht)
mutual
def AV.bare:AV→Bool
 | .int _ _ | .bool _ | .str _ | .top=>true
 | .agg l=>bareL l
 | .tuple l=>bareL l
 | _=>false
def bareL:List AV→Bool
 | []=>true
 | v :: l=>v.bare && bareL l
end
section
variable {F F':Fix} {σ lm σ' lm':Nat→Option Nat}
mutual
theorem Rep.bare {ow ow':Own} {v:AV} {u:Value} (h:Rep F σ lm ow v u) (hb:v.bare=true):Rep F' σ' lm' ow' v u:=by
 cases h with
 | int _ k n=>exact .int ..
 | bool _ b=>exact .bool ..
 | str _ s=>exact .str ..
 | agg _ l vs h=>exact .agg _ _ _ (RepL.bare h (by simpa[AV.bare] using hb))
 | tuple _ l vs h=>exact .tuple _ _ _ (RepC.bare h (by simpa[AV.bare] using hb))
 | top _ v=>exact .top _ _
 | _=>simp[AV.bare] at hb
theorem RepL.bare {l:List AV} {vs:List Value} (h:RepL F σ lm l vs) (hb:bareL l=true):RepL F' σ' lm' l vs:=by
 cases h with
 | nil=>exact .nil
 | cons a v l vs h t =>
  simp only[bareL,Bool.and_eq_true] at hb
  exact .cons _ _ _ _ (Rep.bare h hb.1) (RepL.bare t hb.2)
theorem RepC.bare {ow ow':Own} {j:Nat} {l:List AV} {vs:List Value} (h:RepC F σ lm ow j l vs) (hb:bareL l=true):RepC F' σ' lm' ow' j l vs:=by
 cases h with
 | nil=>exact .nil _ _
 | cons _ _ a v l vs h t =>
  simp only[bareL,Bool.and_eq_true] at hb
  exact .cons _ _ _ _ _ _ (Rep.bare h hb.1) (RepC.bare t hb.2)
end
end
theorem bareL_append {l m:List AV} (h:bareL l=true) (k:bareL m=true):bareL (l ++ m)=true:=by
 induction l with
 | nil=>exact k
 | cons v l ih =>
  simp only[bareL,List.cons_append,Bool.and_eq_true] at h ⊢
  exact⟨h.1,ih h.2⟩
theorem bareL_take {l:List AV} (h:bareL l=true) (n:Nat):bareL (l.take n)=true:=by
 induction l generalizing n with
 | nil=>simp[bareL]
 | cons v l ih =>
  cases n with
  | zero=>rfl
  | succ n =>
   simp only[bareL,List.take_succ_cons,Bool.and_eq_true] at h ⊢
   exact⟨h.1,ih h.2 n⟩
theorem bareL_drop {l:List AV} (h:bareL l=true) (n:Nat):bareL (l.drop n)=true:=by
 induction l generalizing n with
 | nil=>simp[bareL]
 | cons v l ih =>
  cases n with
  | zero=>exact h
  | succ n =>
   simp only[bareL,Bool.and_eq_true] at h
   exact ih h.2 n
theorem bare_leaves:∀ {t:Ty} {x:t.den},t.noSlice=true→bareL (t.leaves x)=true:=by
 intro t
 induction t with
 | pair a b iha ihb =>
  intro x h
  simp only[Ty.noSlice,Bool.and_eq_true] at h
  exact bareL_append (iha h.1) (ihb h.2)
 | slice e ih=>intro x h;cases h
 | sum a b=>intro x h;cases h
 | _=>intro x h;rfl
theorem bare_injComps {P:Program}:∀ (ts:List TypeId) {l:List AV},bareL l=true→bareL (injComps P ts l)=true:=by
 intro ts
 induction ts with
 | nil=>intro l h;rfl
 | cons t ts ih =>
  intro l h
  simp only[injComps,bareL,Bool.and_eq_true]
  refine⟨?_,ih (bareL_drop h _)⟩
  have h1:=bareL_take h (sizeT P t)
  unfold ofLeaves
  split
  ·exact h1
  ·split
   ·rename_i hq
    rw[hq] at h1
    simp only[bareL,Bool.and_eq_true] at h1
    exact h1.1
   ·rfl
theorem bare_injRet {X:Ext} {g:FuncId} {t:Ty} {x:t.den} (ht:t.noSlice=true) (hf:X.fresh g=false):(injRet X g t x).bare=true:=by
 have:injRet X g t x=packRes (injComps X.P (resTypes X g) (t.leaves x)):=by
  unfold injRet
  rw[hf]
 rw[this]
 have h:=bare_injComps (P:=X.P) (resTypes X g) (bare_leaves (x:=x) ht)
 generalize injComps X.P (resTypes X g) (t.leaves x)=l at h
 match l,h with
 | [],h=>exact h
 | [v],h=>simp only[bareL,Bool.and_eq_true] at h;exact h.1
 | _ :: _ :: _,h=>exact h
end Go.Am
namespace Go.Am
open Go
section
variable {F F':Fix} {σ lm σ':Nat→Option Nat}
theorem mem_ptrsL {l:List AV} {v:AV} {c:Nat} (hv:v∈l) (hc:c∈v.ptrs):c∈ptrsL l:=by
 induction l with
 | nil=>cases hv
 | cons x l ih =>
  simp only[ptrsL,List.mem_append]
  rcases List.mem_cons.1 hv with rfl | h
  ·exact .inl hc
  ·exact .inr (ih h)
theorem mem_getT {l:List AV} {t:Nat} {c:Nat} (hc:c∈(getT l t).ptrs):c∈ptrsL l:=by
 unfold getT at hc
 rw[List.getD_eq_getElem?_getD] at hc
 cases h:l[t]? with
 | none=>rw[h] at hc;simp[AV.ptrs] at hc
 | some v=>rw[h] at hc;exact mem_ptrsL (List.mem_of_getElem? h) hc
theorem renL_length (f:Nat→Nat) (l:List AV):(renL f l).length=l.length:=by
 induction l with
 | nil=>rfl
 | cons v l ih=>simp[renL,ih]
theorem renL_get (f:Nat→Nat) (l:List AV) (i:Nat):(renL f l)[i]?=(l[i]?).map (AV.ren f):=by
 induction l generalizing i with
 | nil=>simp[renL]
 | cons v l ih =>
  cases i with
  | zero=>simp[renL]
  | succ i=>simpa[renL] using ih i
theorem getT_renL (f:Nat→Nat) (l:List AV) (t:Nat):getT (renL f l) t=(getT l t).ren f:=by
 unfold getT
 rw[List.getD_eq_getElem?_getD,List.getD_eq_getElem?_getD,renL_get]
 cases l[t]? <;> rfl
mutual
theorem ren_ren (f g:Nat→Nat):∀ (v:AV),(∀ c∈v.ptrs,g (f c)=c)→(v.ren f).ren g=v
 | .ptr c o,h=>by simp only[AV.ren];rw[h c (by simp[AV.ptrs])]
 | .map c,h=>by simp only[AV.ren];rw[h c (by simp[AV.ptrs])]
 | .hs c _ _ _,h=>by simp only[AV.ren];rw[h c (by simp[AV.ptrs])]
 | .rptr c _ _ _,h=>by simp only[AV.ren];rw[h c (by simp[AV.ptrs])]
 | .func fn a b,h=>by
  simp only[AV.ren]
  rw[renL_renL f g a fun c hc=>h c (by simp only[AV.ptrs,List.mem_append];exact .inl hc),renL_renL f g b fun c hc=>h c (by simp only[AV.ptrs,List.mem_append];exact .inr hc)]
 | .iface t v,h=>by
  simp only[AV.ren]
  rw[ren_ren f g v fun c hc=>h c (by simpa only[AV.ptrs] using hc)]
 | .agg l,h=>by
  simp only[AV.ren]
  rw[renL_renL f g l fun c hc=>h c (by simpa only[AV.ptrs] using hc)]
 | .tuple l,h=>by
  simp only[AV.ren]
  rw[renL_renL f g l fun c hc=>h c (by simpa only[AV.ptrs] using hc)]
 | .cptr l,h=>by
  simp only[AV.ren]
  rw[renL_renL f g l fun c hc=>h c (by simpa only[AV.ptrs] using hc)]
 | .int ..,_ | .bool ..,_ | .str ..,_ | .slice ..,_ | .nil,_ | .nilptr,_ | .nilfunc,_ | .nilmap,_ | .niliface,_ | .void,_ | .top,_=>rfl
theorem renL_renL (f g:Nat→Nat):∀ (l:List AV),(∀ c∈ptrsL l,g (f c)=c)→renL g (renL f l)=l
 | [],_=>rfl
 | v :: l,h=>by
  simp only[renL]
  rw[ren_ren f g v fun c hc=>h c (by simp only[ptrsL,List.mem_append];exact .inl hc),renL_renL f g l fun c hc=>h c (by simp only[ptrsL,List.mem_append];exact .inr hc)]
end
mutual
theorem mem_ren (f:Nat→Nat):∀ (v:AV) (c:Nat),c∈(v.ren f).ptrs→∃ p∈v.ptrs,c=f p
 | .ptr c o,d,h=>by simp only[AV.ren,AV.ptrs,List.mem_singleton] at h;exact⟨c,by simp[AV.ptrs],h⟩
 | .map c,d,h=>by simp only[AV.ren,AV.ptrs,List.mem_singleton] at h;exact⟨c,by simp[AV.ptrs],h⟩
 | .hs c _ _ _,d,h=>by simp only[AV.ren,AV.ptrs,List.mem_singleton] at h;exact⟨c,by simp[AV.ptrs],h⟩
 | .rptr c _ _ _,d,h=>by simp only[AV.ren,AV.ptrs,List.mem_singleton] at h;exact⟨c,by simp[AV.ptrs],h⟩
 | .func fn a b,d,h=>by
  simp only[AV.ren,AV.ptrs,List.mem_append] at h
  rcases h with h | h
  ·obtain⟨p,h1,h2⟩:=mem_renL f a d h;exact⟨p,by simp only[AV.ptrs,List.mem_append];exact .inl h1,h2⟩
  ·obtain⟨p,h1,h2⟩:=mem_renL f b d h;exact⟨p,by simp only[AV.ptrs,List.mem_append];exact .inr h1,h2⟩
 | .iface t v,d,h=>by simp only[AV.ren,AV.ptrs] at h ⊢;exact mem_ren f v d h
 | .agg l,d,h=>by simp only[AV.ren,AV.ptrs] at h ⊢;exact mem_renL f l d h
 | .tuple l,d,h=>by simp only[AV.ren,AV.ptrs] at h ⊢;exact mem_renL f l d h
 | .cptr l,d,h=>by simp only[AV.ren,AV.ptrs] at h ⊢;exact mem_renL f l d h
 | .int ..,_,h | .bool ..,_,h | .str ..,_,h | .slice ..,_,h | .nil,_,h | .nilptr,_,h | .nilfunc,_,h | .nilmap,_,h | .niliface,_,h | .void,_,h | .top,_,h=>by simp[AV.ren,AV.ptrs] at h
theorem mem_renL (f:Nat→Nat):∀ (l:List AV) (c:Nat),c∈ptrsL (renL f l)→∃ p∈ptrsL l,c=f p
 | [],_,h=>by simp[renL,ptrsL] at h
 | v :: l,d,h=>by
  simp only[renL,ptrsL,List.mem_append] at h
  rcases h with h | h
  ·obtain⟨p,h1,h2⟩:=mem_ren f v d h;exact⟨p,by simp only[ptrsL,List.mem_append];exact .inl h1,h2⟩
  ·obtain⟨p,h1,h2⟩:=mem_renL f l d h;exact⟨p,by simp only[ptrsL,List.mem_append];exact .inr h1,h2⟩
end
mutual
theorem Rep.ren (hf:F.le F') (f:Nat→Nat) {ow ow':Own} (ho:∀ j b o,ow j b o→ow' j b o) {v:AV} {u:Value} (h:Rep F σ lm ow v u) (hc:∀ c∈v.ptrs,∀ b,σ c=some b→σ' (f c)=some b):Rep F' σ' lm ow' (v.ren f) u:=by
 cases h with
 | int _ k n=>exact .int ..
 | bool _ b=>exact .bool ..
 | str _ s=>exact .str ..
 | slice _ own e xs a cap h1 h2 h3 =>
  refine .slice _ _ _ _ _ _ h1 (h2.mono hf) fun h=>?_
  rcases h3 h with h | ⟨b,off,e1,e2⟩
  ·exact .inl h
  ·exact .inr ⟨b,off,e1,fun i h1 h2=>ho _ _ _ (e2 i h1 h2)⟩
 | nil=>exact .nil _
 | ptr _ c off b h=>exact .ptr _ _ _ _ (hc c (by simp[AV.ptrs]) b h)
 | nilptr=>exact .nilptr _
 | cptr _ l a vs h hx=>exact .cptr _ _ _ _ (RepL.ren hf f h fun c hm=>hc c (by simpa only[AV.ptrs] using hm)) fun i v hv=>(hx i v hv).mono hf
 | func _ g a b va vb ha hb=>exact .func _ _ _ _ _ _ (RepL.ren hf f ha fun c hm=>hc c (by simp only[AV.ptrs,List.mem_append];exact .inl hm)) (RepL.ren hf f hb fun c hm=>hc c (by simp only[AV.ptrs,List.mem_append];exact .inr hm))
 | yield _ l r h=>exact .yield _ _ _ h
 | nilfunc=>exact .nilfunc _
 | map _ c b h=>exact .map _ _ _ (hc c (by simp[AV.ptrs]) b h)
 | nilmap=>exact .nilmap _
 | iface _ t v u h=>exact .iface _ _ _ _ (Rep.ren hf f (fun _ _ _ x=>x) h fun c hm=>hc c (by simpa only[AV.ptrs] using hm))
 | niliface=>exact .niliface _
 | agg _ l vs h=>exact .agg _ _ _ (RepL.ren hf f h fun c hm=>hc c (by simpa only[AV.ptrs] using hm))
 | tuple _ l vs h=>exact .tuple _ _ _ (RepC.ren hf f ho h fun c hm=>hc c (by simpa only[AV.ptrs] using hm))
 | hs _ c e lo len u h=>exact .hs _ _ _ _ _ _ (h.mono (hc c (by simp[AV.ptrs])))
 | rptr _ c e i off p h=>exact .rptr _ _ _ _ _ _ (hc c (by simp[AV.ptrs]) p h)
 | void _ a=>exact .void _ _
 | top _ v=>exact .top _ _
theorem RepL.ren (hf:F.le F') (f:Nat→Nat) {l:List AV} {vs:List Value} (h:RepL F σ lm l vs) (hc:∀ c∈ptrsL l,∀ b,σ c=some b→σ' (f c)=some b):RepL F' σ' lm (renL f l) vs:=by
 cases h with
 | nil=>exact .nil
 | cons a v l vs h t=>exact .cons _ _ _ _ (Rep.ren hf f (fun _ _ _ x=>x) h fun c hm=>hc c (by simp only[ptrsL,List.mem_append];exact .inl hm)) (RepL.ren hf f t fun c hm=>hc c (by simp only[ptrsL,List.mem_append];exact .inr hm))
theorem RepC.ren (hf:F.le F') (f:Nat→Nat) {ow ow':Own} (ho:∀ j b o,ow j b o→ow' j b o) {j:Nat} {l:List AV} {vs:List Value} (h:RepC F σ lm ow j l vs) (hc:∀ c∈ptrsL l,∀ b,σ c=some b→σ' (f c)=some b):RepC F' σ' lm ow' j (renL f l) vs:=by
 cases h with
 | nil=>exact .nil _ _
 | cons _ _ a v l vs h t=>exact .cons _ _ _ _ _ _ (Rep.ren hf f (fun _ b o x=>ho _ b o x) h fun c hm=>hc c (by simp only[ptrsL,List.mem_append];exact .inl hm)) (RepC.ren hf f ho t fun c hm=>hc c (by simp only[ptrsL,List.mem_append];exact .inr hm))
end
end
theorem reach_lt {h:List Cell} {l:List Nat} {c:Nat} (hc:c∈reach h l):c<h.length:=by
 obtain⟨m,e⟩:=reach_eq h l
 rw[e] at hc
 have:=(bitsList_mem h 0 c hc).2
 omega
theorem reach_nodup (h:List Cell) (l:List Nat):(reach h l).Nodup:=by
 obtain⟨m,e⟩:=reach_eq h l
 rw[e]
 exact bitsList_nodup h 0
theorem posIn_get {S:List Nat} {c:Nat} (h:c∈S):S[posIn S c]?=some c:=by
 unfold posIn
 induction S with
 | nil=>cases h
 | cons x S ih =>
  rw[List.findIdx_cons]
  by_cases e:x=c
  ·subst e;simp
  ·have hb:(x == c)=false:=by simpa using e
   rw[hb]
   rcases List.mem_cons.1 h with rfl | h
   ·exact absurd rfl e
   ·simpa using ih h
theorem posIn_lt {S:List Nat} {c:Nat} (h:c∈S):posIn S c<S.length:=lt_of_get (posIn_get h)
theorem posIn_of_get {S:List Nat} (hn:S.Nodup) {i c:Nat} (h:S[i]?=some c):posIn S c=i:=by
 have h1:=posIn_get (List.mem_of_getElem? h)
 have h2:=lt_of_get h1
 have h3:=lt_of_get h
 rw[List.getElem?_eq_getElem h2] at h1
 rw[List.getElem?_eq_getElem h3] at h
 have e:S[posIn S c]=S[i]:=(Option.some.inj h1).trans (Option.some.inj h).symm
 rw[List.nodup_iff_pairwise_ne,List.pairwise_iff_getElem] at hn
 rcases Nat.lt_trichotomy (posIn S c) i with hlt | heq | hgt
 ·exact absurd e (hn _ _ h2 h3 hlt)
 ·exact heq
 ·exact absurd e.symm (hn _ _ h3 h2 hgt)
theorem setAll_length:∀ (l:List (Nat×Cell)) (h:List Cell),(setAll h l).length=h.length
 | [],h=>rfl
 | (c,x) :: l,h=>by rw[setAll,setAll_length l];simp
theorem setAll_out:∀ (l:List (Nat×Cell)) (h:List Cell) (c:Nat),(∀ p∈l,p.1≠c)→(setAll h l)[c]?=h[c]?
 | [],h,c,_=>rfl
 | (d,x) :: l,h,c,hc=>by
  rw[setAll,setAll_out l _ c fun p hp=>hc p (by simp[hp])]
  rw[List.getElem?_set_ne (hc (d,x) (by simp))]
theorem setAll_in:∀ (l:List (Nat×Cell)) (h:List Cell) (i:Nat) (c:Nat) (x:Cell),(l.map (·.1)).Nodup→l[i]?=some (c,x)→c<h.length→(setAll h l)[c]?=some x
 | [],h,i,c,x,_,hi,_=>by simp at hi
 | (d,y) :: l,h,i,c,x,hn,hi,hc=>by
  rw[setAll]
  simp only[List.map_cons,List.nodup_cons] at hn
  cases i with
  | zero =>
   simp at hi
   obtain⟨rfl,rfl⟩:=hi
   rw[setAll_out l _ d fun p hp e=>hn.1 (by rw[← e];exact List.mem_map_of_mem hp)]
   simp[hc]
  | succ i=>exact setAll_in l _ i c x hn.2 (by simpa using hi) (by simpa using hc)
end Go.Am
namespace Go.Am
open Go
def PostH (T:Tags) (σ lm:Nat→Option Nat) (h:List Cell) (ls:List LoopRec) (w:World) (vA:AV) (h':List Cell) (ps':List (Option AE)) (u:Value) (w':World):Prop :=
 ∃ T' σ',Keeps T w T' w'∧(∀ c,c<h.length→∀ b,σ c=some b→σ' c=some b)∧Inv T' σ' lm h' ls ps' w'∧Rep T'.fix σ' lm (T'.own .ret) vA u
def Tag.isFree:Tag→Bool
 | .free=>true
 | _=>false
theorem Tag.isFree_iff {t:Tag}:t.isFree=true↔t=.free:=by cases t <;> simp[Tag.isFree]
def inTag (S:List Nat):Tag→Tag
 | .fixed v=>.fixed v
 | .cell c j=>if c∈S then .cell (posIn S c) j else .free
 | .spare (.leaf c j) q=>if c∈S then .spare (.leaf (posIn S c) j) q else .free
 | .loop i=>.loop i
 | _=>.free
def inTags (S:List Nat) (T:Tags):Tags:=fun b o=>inTag S (T b o)
def outTag (S:List Nat) (L:Nat) (kept:Bool):Tag→Tag
 | .fixed v=>.fixed v
 | .cell i j=>if i<S.length∨kept=true then .cell (backRen S L i) j else .free
 | .spare (.leaf i j) q=>if i<S.length∨kept=true then .spare (.leaf (backRen S L i) j) q else .free
 | .spare .ret q=>.spare .ret q
 | .loop i=>.loop i
 | _=>.free
def outTags (S:List Nat) (L:Nat) (kept:Bool) (n:Nat) (T T1:Tags):Tags:=fun b o =>
 if (inTags S T b o).isFree=true∧b<n then T b o else outTag S L kept (T1 b o)
def inσ (S:List Nat) (σ:Nat→Option Nat):Nat→Option Nat:=fun i=>(S[i]?).bind σ
def outσ (S:List Nat) (L:Nat) (kept:Bool) (σ σ1:Nat→Option Nat):Nat→Option Nat:=fun c =>
 if c<L then (if c∈S then σ1 (posIn S c) else σ c) else if kept=true then σ1 (S.length+(c-L)) else none
def inHeap (S:List Nat) (h:List Cell):List Cell:=S.map fun c=>(h.getD c .empty).ren (posIn S)
def outHeap (S:List Nat) (kept:Bool) (h h':List Cell):List Cell :=
 setAll h (S.zip ((h'.take S.length).map (Cell.ren (backRen S h.length)))) ++ (if kept=true then (h'.drop S.length).map (Cell.ren (backRen S h.length)) else [])
theorem inTag_fixed {S:List Nat} {t:Tag} {v:Value}:inTag S t=.fixed v↔t=.fixed v:=by
 cases t with
 | cell c j=>simp only[inTag];split <;> simp
 | spare l j=>cases l <;> simp only[inTag] <;> first | (split <;> simp) | simp
 | _=>simp[inTag]
theorem inTags_fix (S:List Nat) (T:Tags):(inTags S T).fix=T.fix:=by
 funext b o
 unfold Tags.fix inTags
 cases T b o with
 | cell c j=>simp only[inTag];split <;> rfl
 | spare l j=>cases l <;> simp only[inTag] <;> first | (split <;> rfl) | rfl
 | _=>rfl
theorem cell_ren_var {f:Nat→Nat} {c:Cell} {q:List AV} (h:c.ren f=.var q):∃ l,c=.var l∧q=renL f l:=by
 cases c <;> simp[Cell.ren] at h
 exact⟨_,rfl,h.symm⟩
theorem live_ren {f:Nat→Nat} {c:Cell}:(c.ren f).live=c.live:=by cases c <;> rfl
theorem cell_ren_other {f:Nat→Nat} {c:Cell} (h:∀ l,c≠.var l):c.ren f=c:=by
 cases c with
 | var l=>exact absurd rfl (h l)
 | _=>rfl
theorem inHeap_get {S:List Nat} {h:List Cell} {i:Nat} {x:Cell} (hx:(inHeap S h)[i]?=some x):∃ c,S[i]?=some c∧x=(h.getD c .empty).ren (posIn S):=by
 unfold inHeap at hx
 rw[List.getElem?_map] at hx
 cases e:S[i]? with
 | none=>rw[e] at hx;cases hx
 | some c=>rw[e] at hx;exact⟨c,rfl,(Option.some.inj hx).symm⟩
section
variable {T:Tags} {σ lm:Nat→Option Nat} {h:List Cell} {ls:List LoopRec} {ps:List (Option AE)} {w:World} {S:List Nat}
theorem in_σ {c b:Nat} (hc:c∈S) (e:σ c=some b):inσ S σ (posIn S c)=some b:=by
 unfold inσ;rw[posIn_get hc];exact e
theorem inv_in (I:Inv T σ lm h ls ps w) (hn:S.Nodup) (hcl:∀ c∈S,∀ p∈(h.getD c .empty).ptrs,p∈S) (hlp:∀ r∈ls,∀ p∈ptrsL r.tmps,p∈S) :
  Inv (inTags S T) (inσ S σ) lm (inHeap S h) (ls.map (LoopRec.ren (posIn S))) ps w:={
 fixed:=fun b o v e=>I.fixed b o v (inTag_fixed.1 e)
 spare:=fun b o l j e=>by
  unfold inTags at e
  cases ht:T b o with
  | spare m q=>exact I.spare b o m q ht
  | cell c j=>rw[ht] at e;simp only[inTag] at e;split at e <;> cases e
  | _=>rw[ht] at e;simp[inTag] at e
 live:=fun b o e=>I.live b o fun hf=>e (by unfold inTags;rw[hf];rfl)
 dom:=fun i b e=>by
  unfold inσ at e
  cases hi:S[i]? with
  | none=>rw[hi] at e;cases e
  | some c =>
   rw[hi] at e
   obtain⟨x,hl,hx⟩:=I.dom c b e
   refine⟨x.ren (posIn S),?_,by rw[live_ren];exact hx⟩
   unfold inHeap
   rw[List.getElem?_map,hi]
   simp[List.getD_eq_getElem?_getD,hl]
 var:=fun i q hq=>by
  obtain⟨c,hi,hx⟩:=inHeap_get hq
  obtain⟨l,hl,rfl⟩:=cell_ren_var hx.symm
  have hcS:c∈S:=List.mem_of_getElem? hi
  have hpi:posIn S c=i:=posIn_of_get hn hi
  have hlc:h[c]?=some (.var l):=by
   rw[List.getD_eq_getElem?_getD] at hl
   cases e:h[c]? with
   | none=>rw[e] at hl;cases hl
   | some x=>rw[e] at hl;exact congrArg some hl
  obtain⟨b,h1,h2,h3⟩:=I.var c l hlc
  refine⟨b,by unfold inσ;rw[hi];exact h1,h2,fun j av hj=>?_⟩
  rw[renL_get] at hj
  cases ej:l[j]? with
  | none=>rw[ej] at hj;cases hj
  | some av0 =>
   rw[ej] at hj
   obtain rfl:av=av0.ren (posIn S):=(Option.some.inj hj).symm
   obtain⟨v,e1,e2,e3,e4⟩:=h3 j av0 ej
   refine⟨v,e1,e2,by unfold inTags;rw[e3];simp only[inTag,hcS,if_true,hpi],?_⟩
   rw[inTags_fix]
   refine e4.ren (Fix.le.refl _) (posIn S) (fun q b o e=>?_) fun p hp b' e=>in_σ (hcl c hcS p ?_) e
   ·have e':T b o=.spare (.leaf c j) q:=e
    show inTags S T b o=_
    unfold inTags;rw[e'];simp only[inTag,hcS,if_true,hpi]
   ·rw[hl];exact mem_ptrsL (List.mem_of_getElem? ej) hp
 mem:=fun i x hx=>by
  obtain⟨c,hi,rfl⟩:=inHeap_get hx
  have hcS:c∈S:=List.mem_of_getElem? hi
  have hpi:posIn S c=i:=posIn_of_get hn hi
  cases e:h[c]? with
  | none =>
   have hg:h.getD c .empty=.empty:=by simp[List.getD_eq_getElem?_getD,e]
   rw[hg];trivial
  | some y =>
   have hg:h.getD c .empty=y:=by simp[List.getD_eq_getElem?_getD,e]
   rw[hg]
   exact (I.mem c y e).mono (fun hv=>cell_ren_other hv) (fun l hv=>⟨_,by rw[hv];rfl⟩) (fun p e'=>by unfold inσ;rw[hi];exact e') (by rw[inTags_fix];exact Fix.le.refl _)
    (fun b k e'=>⟨by unfold inTags;rw[e'];simp only[inTag,hcS,if_true,hpi],rfl,rfl⟩) (fun b k e'=>by unfold inTags;rw[e'];simp only[inTag,hcS,if_true,hpi])
 plen:=by rw[I.plen.1];exact⟨by simp,fun i b e=>by simpa using I.plen.2 i b e⟩
 loop:=fun i r hr=>by
  rw[List.getElem?_map] at hr
  cases ei:ls[i]? with
  | none=>rw[ei] at hr;cases hr
  | some r0 =>
   rw[ei] at hr
   obtain rfl:r=r0.ren (posIn S):=(Option.some.inj hr).symm
   obtain⟨b,rec,h1,h2,h3,h4,h5,h6,h7,h8,h9,h10⟩:=I.loop i r0 ei
   refine⟨b,rec,h1,by unfold inTags;rw[h2];rfl,h3,h4,h5,h6,h7,by simp[LoopRec.ren,renL_length,h8],fun t=>?_,h10⟩
   rw[inTags_fix]
   simp only[LoopRec.ren,getT_renL]
   exact (h9 t).ren (Fix.le.refl _) (posIn S) (fun _ _ _ x=>x) fun p hp b' e=>in_σ (hlp r0 (List.mem_of_getElem? ei) p (mem_getT hp)) e }
theorem backRen_lt {L i c:Nat} (h:S[i]?=some c):backRen S L i=c:=by unfold backRen;rw[h];rfl
theorem backRen_ge {L i:Nat} (h:S.length≤i):backRen S L i=L+(i-S.length):=by unfold backRen;rw[List.getElem?_eq_none h];rfl
theorem outHeap_in {kept:Bool} {h':List Cell} (hn:S.Nodup) (hS:∀ c∈S,c<h.length) (hl:S.length≤h'.length) {c:Nat} (hc:c∈S):(outHeap S kept h h')[c]?=(h'[posIn S c]?).map (Cell.ren (backRen S h.length)):=by
 have hcl:=hS c hc
 unfold outHeap
 rw[List.getElem?_append_left (by rw[setAll_length];exact hcl)]
 have hp:=posIn_lt hc
 have hx:(h'[posIn S c]?)=some (h'[posIn S c]'(by omega)):=List.getElem?_eq_getElem _
 rw[hx]
 refine setAll_in _ h (posIn S c) c _ ?_ ?_ hcl
 ·rw[List.map_fst_zip (by simp;omega)]
  exact hn
 ·rw[List.getElem?_zip_eq_some]
  refine⟨posIn_get hc,?_⟩
  rw[List.getElem?_map,List.getElem?_take,if_pos hp,hx]
  rfl
theorem outHeap_old {kept:Bool} {h':List Cell} {c:Nat} (hcl:c<h.length) (hc:c∉S):(outHeap S kept h h')[c]?=h[c]?:=by
 unfold outHeap
 rw[List.getElem?_append_left (by rw[setAll_length];exact hcl)]
 exact setAll_out _ h c fun p hp e=>hc (by rw[← e];exact (List.of_mem_zip hp).1)
theorem outHeap_new {kept:Bool} {h':List Cell} {c:Nat} {x:Cell} (hcl:h.length≤c) (hx:(outHeap S kept h h')[c]?=some x):kept=true∧∃ y,h'[S.length+(c-h.length)]?=some y∧x=y.ren (backRen S h.length):=by
 unfold outHeap at hx
 rw[List.getElem?_append_right (by rw[setAll_length];exact hcl),setAll_length] at hx
 split at hx
 ·rename_i hk
  rw[List.getElem?_map,List.getElem?_drop] at hx
  cases e:h'[S.length+(c-h.length)]? with
  | none=>rw[e] at hx;cases hx
  | some y=>rw[e] at hx;exact⟨hk,y,rfl,(Option.some.inj hx).symm⟩
 ·simp at hx
theorem outHeap_new' {h':List Cell} {c:Nat} (hcl:h.length≤c):(outHeap S true h h')[c]?=(h'[S.length+(c-h.length)]?).map (Cell.ren (backRen S h.length)):=by
 unfold outHeap
 rw[List.getElem?_append_right (by rw[setAll_length];exact hcl),setAll_length]
 simp[List.getElem?_map,List.getElem?_drop]
theorem callH_post {kept:Bool} {h':List Cell} {ps':List (Option AE)} {vA:AV} {u:Value} {w1:World} (I:Inv T σ lm h ls ps w) (hn:S.Nodup) (hS:∀ c∈S,c<h.length)
  (hcl:∀ c∈S,∀ p∈(h.getD c .empty).ptrs,p∈S) (hlp:∀ r∈ls,∀ p∈ptrsL r.tmps,p∈S) (hlen:S.length≤h'.length)
  (hk:∀ p,(p∈vA.ptrs∨∃ i x,i<S.length∧h'[i]?=some x∧p∈x.ptrs)→S.length≤p→kept=true)
  (hpost:PostH (inTags S T) (inσ S σ) lm (inHeap S h) (ls.map (LoopRec.ren (posIn S))) w vA h' ps' u w1) :
  ∃ T' σ',CallPost T σ w h T' σ' lm w1 (outHeap S kept h h') ls ps'∧Rep T'.fix σ' lm (T'.own .ret) (vA.ren (backRen S h.length)) u:=by
 obtain⟨T1,σ1,K,hσ,I1,hv⟩:=hpost
 have hσ':∀ c b,c∈S→σ c=some b→σ1 (posIn S c)=some b:=fun c b hc e=>hσ _ (by simp[inHeap];exact posIn_lt hc) b (in_σ hc e)
 have hmine:∀ b o,(T b o).mine=false→(inTags S T b o).mine=false:=by
  intro b o e
  cases ht:T b o with
  | free=>unfold inTags;rw[ht];rfl
  | fixed v=>unfold inTags;rw[ht];rfl
  | _=>rw[ht] at e;cases e
 have hfree:∀ b o,(inTags S T b o).isFree=true→b<w.heap.size→T1 b o=.free:=fun b o e hb=>K.free b o hb (Tag.isFree_iff.1 e)
 have hfcell:∀ b o,(inTags S T b o).isFree=true→b<w.heap.size→w1.cell? ⟨b,o,none⟩=w.cell? ⟨b,o,none⟩∧w1.frozen? ⟨b,o,none⟩=w.frozen? ⟨b,o,none⟩:=fun b o e hb=>K.cell b o hb (by rw[Tag.isFree_iff.1 e];rfl)
 have first:∀ b o,(inTags S T b o).isFree=true→b<w.heap.size→outTags S h.length kept w.heap.size T T1 b o=T b o:=fun b o e hb=>by unfold outTags;rw[if_pos ⟨e,hb⟩]
 have second:∀ b o,T1 b o≠.free→outTags S h.length kept w.heap.size T T1 b o=outTag S h.length kept (T1 b o):=fun b o e=>by
  unfold outTags;rw[if_neg];rintro⟨e1,e2⟩;exact e (hfree b o e1 e2)
 have hfix1:Fix.le T1.fix (outTags S h.length kept w.heap.size T T1).fix:=fun b o v e=>by
  rw[Tags.fix_eq] at e ⊢
  rw[second b o (by rw[e];simp),e];rfl
 have hfixT:∀ b o v,T b o=.fixed v→T1 b o=.fixed v:=fun b o v e=>K.fixed b o v (inTag_fixed.2 e)
 have hfix:Fix.le T.fix (outTags S h.length kept w.heap.size T T1).fix:=fun b o v e=>by
  rw[Tags.fix_eq] at e
  exact hfix1 b o v (by rw[Tags.fix_eq];exact hfixT b o v e)
 have hret:∀ j b o,T1.own .ret j b o→(outTags S h.length kept w.heap.size T T1).own .ret j b o:=fun j b o e=>by
  have e':T1 b o=.spare .ret j:=e
  show outTags S h.length kept w.heap.size T T1 b o=_
  rw[second b o (by rw[e'];simp),e'];rfl
 have hleaf:∀ i j q b o,(i<S.length∨kept=true)→T1.own (.leaf i j) q b o→(outTags S h.length kept w.heap.size T T1).own (.leaf (backRen S h.length i) j) q b o:=fun i j q b o hi e=>by
  have e':T1 b o=.spare (.leaf i j) q:=e
  show outTags S h.length kept w.heap.size T T1 b o=_
  rw[second b o (by rw[e'];simp),e']
  simp only[outTag,if_pos hi]
 have hback:∀ p b,(S.length≤p→kept=true)→σ1 p=some b→outσ S h.length kept σ σ1 (backRen S h.length p)=some b:=by
  intro p b hp e
  rcases Nat.lt_or_ge p S.length with hlt | hge
  ·have hx:S[p]?=some S[p]:=List.getElem?_eq_getElem hlt
   rw[backRen_lt hx]
   have hm:S[p]∈S:=List.mem_of_getElem? hx
   unfold outσ
   rw[if_pos (hS _ hm),if_pos hm,posIn_of_get hn hx];exact e
  ·rw[backRen_ge hge]
   unfold outσ
   rw[if_neg (by omega),if_pos (hp hge)]
   rw[show S.length+(h.length+(p-S.length)-h.length)=p by omega];exact e
 have hsig:∀ c,c<h.length→∀ b,σ c=some b→outσ S h.length kept σ σ1 c=some b:=by
  intro c hc b e
  unfold outσ
  rw[if_pos hc]
  split
  ·rename_i hm;exact hσ' c b hm e
  ·exact e
 have hsig':∀ c b,σ c=some b→outσ S h.length kept σ σ1 c=some b:=fun c b e=>by
  obtain⟨l,hl,_⟩:=I.dom c b e
  exact hsig c (lt_of_get hl) b e
 have hvar:∀ (i:Nat) (l:List AV),h'[i]?=some (.var l)→(i<S.length∨kept=true)→∃ b,σ1 i=some b∧b<w1.heap.size∧∀ j av,(renL (backRen S h.length) l)[j]?=some av→∃ v,w1.cell? ⟨b,j,none⟩=some v∧w1.frozen? ⟨b,j,none⟩=false ∧
   outTags S h.length kept w.heap.size T T1 b j=.cell (backRen S h.length i) j∧Rep (outTags S h.length kept w.heap.size T T1).fix (outσ S h.length kept σ σ1) lm ((outTags S h.length kept w.heap.size T T1).own (.leaf (backRen S h.length i) j)) av v:=by
  intro i l hi hor
  obtain⟨b,h1,h2,h3⟩:=I1.var i l hi
  refine⟨b,h1,h2,fun j av hj=>?_⟩
  rw[renL_get] at hj
  cases ej:l[j]? with
  | none=>rw[ej] at hj;cases hj
  | some av0 =>
   rw[ej] at hj
   obtain rfl:av=av0.ren (backRen S h.length):=(Option.some.inj hj).symm
   obtain⟨v,e1,e2,e3,e4⟩:=h3 j av0 ej
   refine⟨v,e1,e2,?_,e4.ren hfix1 _ (fun q b o e=>hleaf i j q b o hor e) fun p hp b' e=>hback p b' (fun hge=>?_) e⟩
   ·rw[second b j (by rw[e3];simp),e3];simp only[outTag,if_pos hor]
   ·rcases Nat.lt_or_ge i S.length with hlt | hge'
    ·exact hk p (.inr ⟨i,_,hlt,hi,mem_ptrsL (List.mem_of_getElem? ej) hp⟩) hge
    ·rcases hor with h | h
     ·omega
     ·exact h
 refine⟨outTags S h.length kept w.heap.size T T1,outσ S h.length kept σ σ1,⟨?_,?_,?_,hsig,?_⟩,hv.ren hfix1 _ hret fun p hp b e=>hback p b (hk p (.inl hp)) e⟩
 ·refine⟨K.os,K.tape,K.output,K.size,fun b o v e=>?_,fun b o hb e=>?_,fun b o hb e=>K.cell b o hb (hmine b o e),fun b hb e=>K.block b hb fun o=>hmine b o (e o)⟩
  ·rw[← Tags.fix_eq] at e ⊢;exact hfix b o v e
  ·rw[first b o (by unfold inTags;rw[e];rfl) hb];exact e
 ·intro b o t q e
  rw[first b o (by unfold inTags;rw[e];rfl) (I.live b o (by rw[e];simp))];exact e
 ·intro D hD e
  have hf:∀ o,(inTags S T D o).isFree=true:=fun o=>by unfold inTags;rw[e o];rfl
  exact⟨fun o=>by rw[first D o (hf o) hD];exact e o,K.block D hD fun o=>by rw[Tag.isFree_iff.1 (hf o)];rfl⟩
 ·refine⟨?_,?_,?_,?_,?_,?_,?_,?_⟩
  ·intro b o v e
   unfold outTags at e
   split at e
   ·rename_i hc
    have:=hc.1
    unfold inTags at this
    rw[e] at this;cases this
   ·refine I1.fixed b o v ?_
    cases ht:T1 b o with
    | fixed v'=>rw[ht] at e;simp only[outTag] at e;exact e
    | cell i j=>rw[ht] at e;simp only[outTag] at e;split at e <;> cases e
    | spare l j =>
     rw[ht] at e
     cases l <;> simp only[outTag] at e
     ·cases e
     ·split at e <;> cases e
     ·cases e
    | _=>rw[ht] at e;simp[outTag] at e
  ·intro b o l j e
   unfold outTags at e
   split at e
   ·rename_i hc
    have hx:=hfcell b o hc.1 hc.2
    rw[hx.1,hx.2];exact I.spare b o l j e
   ·cases ht:T1 b o with
    | spare l' j'=>exact I1.spare b o l' j' ht
    | cell i j=>rw[ht] at e;simp only[outTag] at e;split at e <;> cases e
    | _=>rw[ht] at e;simp[outTag] at e
  ·intro b o e
   unfold outTags at e
   split at e
   ·rename_i hc;exact Nat.lt_of_lt_of_le hc.2 K.size
   ·exact I1.live b o fun hf=>e (by rw[hf];rfl)
  ·intro c b e
   unfold outσ at e
   split at e
   ·rename_i hcl'
    split at e
    ·rename_i hm
     obtain⟨x,hl,hx⟩:=I1.dom _ b e
     exact⟨x.ren (backRen S h.length),by rw[outHeap_in hn hS hlen hm,hl];rfl,by rw[live_ren];exact hx⟩
    ·rename_i hm
     obtain⟨x,hl,hx⟩:=I.dom c b e
     exact⟨x,by rw[outHeap_old hcl' hm];exact hl,hx⟩
   ·rename_i hcl'
    split at e
    ·rename_i hkk
     obtain⟨x,hl,hx⟩:=I1.dom _ b e
     refine⟨x.ren (backRen S h.length),?_,by rw[live_ren];exact hx⟩
     rw[hkk,outHeap_new' (by omega),hl];rfl
    ·cases e
  ·intro c q hq
   rcases Nat.lt_or_ge c h.length with hlt | hge
   ·by_cases hm:c∈S
    ·rw[outHeap_in hn hS hlen hm] at hq
     cases ex:h'[posIn S c]? with
     | none=>rw[ex] at hq;cases hq
     | some x =>
      rw[ex] at hq
      obtain⟨l,rfl,rfl⟩:=cell_ren_var (Option.some.inj hq)
      obtain⟨b,h1,h2,h3⟩:=hvar _ l ex (.inl (posIn_lt hm))
      have hbk:backRen S h.length (posIn S c)=c:=backRen_lt (posIn_get hm)
      rw[hbk] at h3
      exact⟨b,by unfold outσ;rw[if_pos hlt,if_pos hm];exact h1,h2,h3⟩
    ·rw[outHeap_old hlt hm] at hq
     obtain⟨b,h1,h2,h3⟩:=I.var c q hq
     refine⟨b,hsig c hlt b h1,Nat.lt_of_lt_of_le h2 K.size,fun j av hj=>?_⟩
     obtain⟨v,e1,e2,e3,e4⟩:=h3 j av hj
     have hf:(inTags S T b j).isFree=true:=by unfold inTags;rw[e3];simp only[inTag,if_neg hm];rfl
     have hx:=hfcell b j hf h2
     refine⟨v,by rw[hx.1];exact e1,by rw[hx.2];exact e2,by rw[first b j hf h2];exact e3,e4.mono hfix hsig' (fun _ _ x=>x) fun q' b' o' e=>?_⟩
     have e':T b' o'=.spare (.leaf c j) q':=e
     show outTags S h.length kept w.heap.size T T1 b' o'=_
     rw[first b' o' (by unfold inTags;rw[e'];simp only[inTag,if_neg hm];rfl) (I.live b' o' (by rw[e'];simp))];exact e'
   ·obtain⟨hkk,y,hy,hx⟩:=outHeap_new hge hq
    obtain⟨l,rfl,rfl⟩:=cell_ren_var hx.symm
    obtain⟨b,h1,h2,h3⟩:=hvar _ l hy (.inr hkk)
    have hbk:backRen S h.length (S.length+(c-h.length))=c:=by rw[backRen_ge (by omega)];omega
    rw[hbk] at h3
    exact⟨b,by unfold outσ;rw[if_neg (by omega),if_pos hkk];exact h1,h2,h3⟩
  ·intro c x hq
   have old1:∀ i x c,h'[i]?=some x→(i<S.length∨kept=true)→backRen S h.length i=c→(∀ p,σ1 i=some p→outσ S h.length kept σ σ1 c=some p)→MemAt (outTags S h.length kept w.heap.size T T1) (outσ S h.length kept σ σ1) w1 c (x.ren (backRen S h.length)):=by
    intro i x c hi hor hbk hsg
    refine (I1.mem i x hi).mono (fun hv=>cell_ren_other hv) (fun l hv=>⟨_,by rw[hv];rfl⟩) hsg hfix1 (fun b k e=>⟨?_,rfl,rfl⟩) fun b k e=>?_
    ·rw[second b k (by rw[e];simp),e];simp only[outTag,if_pos hor,hbk]
    ·rw[second b k (by rw[e];simp),e];simp only[outTag,if_pos hor,hbk]
   rcases Nat.lt_or_ge c h.length with hlt | hge
   ·by_cases hm:c∈S
    ·rw[outHeap_in hn hS hlen hm] at hq
     cases ex:h'[posIn S c]? with
     | none=>rw[ex] at hq;cases hq
     | some y =>
      rw[ex] at hq
      obtain rfl:=Option.some.inj hq
      exact old1 _ y c ex (.inl (posIn_lt hm)) (backRen_lt (posIn_get hm)) fun p e=>by unfold outσ;rw[if_pos hlt,if_pos hm];exact e
    ·rw[outHeap_old hlt hm] at hq
     refine (I.mem c x hq).keep (fun p e=>hsig c hlt p e) hfix (fun b k e=>?_) (fun b k e=>?_) (fun b es ck e h=>by
      rw[K.block b (I.live b 0 (by rw[e 0];simp)) (fun o=>by unfold inTags;rw[e o];simp only[inTag,if_neg hm];rfl)];exact h)
     ·have hf:(inTags S T b k).isFree=true:=by unfold inTags;rw[e];simp only[inTag,if_neg hm];rfl
      have hb:=I.live b k (by rw[e];simp)
      exact⟨by rw[first b k hf hb];exact e,hfcell b k hf hb⟩
     ·rw[first b k (by unfold inTags;rw[e];simp only[inTag,if_neg hm];rfl) (I.live b k (by rw[e];simp))];exact e
   ·obtain⟨hkk,y,hy,rfl⟩:=outHeap_new hge hq
    exact old1 _ y c hy (.inr hkk) (by rw[backRen_ge (by omega)];omega) fun p e=>by unfold outσ;rw[if_neg (by omega),if_pos hkk];exact e
  ·rw[I1.plen.1];exact⟨by simp,fun i b e=>by simpa using I1.plen.2 i b e⟩
  ·intro i r hr
   obtain⟨b,rec,h1,h2,h3,h4,h5,h6,h7,h8,h9,h10⟩:=I1.loop i (r.ren (posIn S)) (by rw[List.getElem?_map,hr];rfl)
   refine⟨b,rec,h1,?_,h3,h4,h5,h6,h7,by simpa[LoopRec.ren,renL_length] using h8,fun t=>?_,h10⟩
   ·rw[second b 0 (by rw[h2];simp),h2];rfl
   ·have hin:∀ p∈(getT r.tmps t).ptrs,p∈S:=fun p hp=>hlp r (List.mem_of_getElem? hr) p (mem_getT hp)
    have hrr:=(h9 t).ren (F':=(outTags S h.length kept w.heap.size T T1).fix) (σ':=outσ S h.length kept σ σ1) hfix1 (backRen S h.length) (ow':=noOwn) (fun _ _ _ x=>x) fun p hp b' e=>hback p b' (fun hge=>by
     simp only[LoopRec.ren,getT_renL] at hp
     obtain⟨p0,hp0,rfl⟩:=mem_ren _ _ _ hp
     have:=posIn_lt (hin p0 hp0)
     omega) e
    simp only[LoopRec.ren,getT_renL] at hrr
    rw[ren_ren _ _ _ fun p hp=>backRen_lt (posIn_get (hin p hp))] at hrr
    exact hrr
end
end Go.Am
namespace Go.Am
open Go
variable {R:Type} {X:Ext} {rec:Rec}
theorem callFunc_enter {P:Program} {f:FuncId} {fn:Func} {c:Code} (hf:P.funcs[f]?=some fn) (hname:(fn.name == "runtime.NumGoroutine")=false) (hb:fn.body=some c) (args:Array Value) (w:World) :
  (callFunc f args).run P w=.ok (.enter f args) w:=by
 have h1:fn.name ≠ "runtime.NumGoroutine" := by simpa using hname
 simp[callFunc,hf,h1,hb]
def fence (ro:Option Nat):Fence:={ Fence.wide with round:=ro }
def retR (K:Value→World→Prop):Ending→World→Prop
 | .returned v,w=>K v w
 | _,_=>False
def CallsOk (P:Program) (fn:Fn) (lm:Nat→Option Nat) (vs:List Value) (w:World) (K:Value→World→Prop):Prop :=
 match fn with
 | .func g=>∃ fd c,P.funcs[g]?=some fd∧fd.body=some c∧CallsIn Fence.wide 0 P g vs.toArray w (retR K)
 | .yield l=>∃ b rec,lm l=some b∧w.heap[b]?=some (.loop rec)∧vs.length=rec.params.size ∧
   RoundIn Fence.wide 0 P b rec.fn ((rec.params.zip vs.toArray).foldl (fun tmps (x:Tmp×Value)=>tmps.setIfInBounds x.1 x.2) rec.tmps) rec.assign rec.body w (retR K)
 | _=>False
theorem CallsOk.mono {P:Program} {fn:Fn} {lm:Nat→Option Nat} {vs:List Value} {w:World} {K K':Value→World→Prop} (h:CallsOk P fn lm vs w K) (hk:∀ v w,K v w→K' v w):CallsOk P fn lm vs w K':=by
 have hr:∀ e w,retR K e w→retR K' e w:=fun e w=>by cases e <;> simp only[retR] <;> first | exact hk _ _ | exact fun h=>h
 unfold CallsOk at h ⊢
 split at h
 ·obtain⟨fd,c,h1,h2,h3⟩:=h
  exact⟨fd,c,h1,h2,h3.mono hr⟩
 ·obtain⟨b,rec,h1,h2,h3,h4⟩:=h
  exact⟨b,rec,h1,h2,h3,h4.mono hr⟩
 ·exact h
structure XOk (X:Ext):Prop where
 name:∀ (g:FuncId) (fd:Func),X.P.funcs[g]?=some fd→(fd.name == "runtime.NumGoroutine")=false
def PostT (X:Ext) (g:FuncId) (t:Ty) (x:t.den) (F:Fix) (w:World) (u:Value) (w':World):Prop :=
 ∃ T',Keeps (maskF F) w T' w'∧Inv T' nowhere nowhere [] [] [] w'∧Rep T'.fix nowhere nowhere (T'.own .ret) (injRet X g t x) u
def CallTOk (X:Ext) (callT:(g:FuncId)→(t:Ty)→List AV→Option t.den):Prop :=
 ∀ g t args x,callT g t args=some x→closedL args=true→∀ F w vs,FixOk F w→GlobOk X F→RepL F nowhere nowhere args vs→CallsOk X.P (.func g) nowhere vs w (PostT X g t x F w)
def CallHOk (X:Ext) (callH:{R:Type}→Fn→List AV→List Cell→List LoopRec→List (Option AE)→(AV→List Cell→List (Option AE)→Option R)→Option R):Prop :=
 ∀ (R:Type) fn args h ls ps (k:AV→List Cell→List (Option AE)→Option R) r,callH fn args h ls ps k=some r→∃ vA h' ps',k vA h' ps'=some r ∧
  ∀ T σ lm w vs,Inv T σ lm h ls ps w→GlobOk X T.fix→RepL T.fix σ lm args vs→CallsOk X.P fn lm vs w (PostH T σ lm h ls w vA h' ps')
theorem viaHeapK_some (hc:CallHOk X rec.callH) {fn:Fn} {args:List AV} {h:List Cell} {ls:List LoopRec} {ps:List (Option AE)} {k:AV→List (Nat×Cell)→List Nat→List Cell→List (Option AE)→Option R} {r:R}
  (hk:viaHeapK rec fn args h ls ps k=some r):∃ v ws lk gr ps',k v ws lk gr ps'=some r∧∀ T σ lm w vs,Inv T σ lm h ls ps w→GlobOk X T.fix→RepL T.fix σ lm args vs →
   CallsOk X.P fn lm vs w (fun u w'=>∃ T' σ',CallPost T σ w h T' σ' lm w' (setAll h ws ++ gr) ls ps'∧Rep T'.fix σ' lm (T'.own .ret) v u):=by
 unfold viaHeapK at hk
 simp only at hk
 generalize hS:reach h (ptrsL args ++ ls.flatMap fun r=>ptrsL r.tmps)=S at hk
 split at hk
 ·rename_i hall
  obtain⟨vA,h',ps',h1,h2⟩:=hc _ _ _ _ _ _ _ _ hk
  split at h1
  ·rename_i hlen
   have hall':∀ c,(c∈ptrsL args∨(∃ r∈ls,c∈ptrsL r.tmps)∨∃ d∈S,c∈(h.getD d .empty).ptrs)→c∈S:=by
    intro c hc'
    rw[List.all_eq_true] at hall
    have:=hall c (by
     simp only[List.mem_append,List.mem_flatMap]
     rcases hc' with h | h | h
     ·exact .inl (.inl h)
     ·exact .inl (.inr h)
     ·exact .inr h)
    simpa using this
   refine⟨_,_,_,_,_,h1,fun T σ lm w vs I hG hargs=>?_⟩
   have hn:S.Nodup:=by rw[← hS];exact reach_nodup _ _
   have hlt:∀ c∈S,c<h.length:=fun c hc=>by rw[← hS] at hc;exact reach_lt hc
   have hcl:∀ c∈S,∀ p∈(h.getD c .empty).ptrs,p∈S:=fun c hc p hp=>hall' p (.inr (.inr ⟨c,hc,hp⟩))
   have hlp:∀ r∈ls,∀ p∈ptrsL r.tmps,p∈S:=fun r hr p hp=>hall' p (.inr (.inl ⟨r,hr,hp⟩))
   have hI:=inv_in I hn hcl hlp
   refine (h2 _ _ lm w vs hI (by rw[inTags_fix];exact hG) ?_).mono fun u w1 hp=>?_
   ·rw[inTags_fix]
    exact hargs.ren (Fix.le.refl _) _ fun p hp b e=>in_σ (hall' p (.inl hp)) e
   ·refine callH_post (kept:=(vA.ptrs ++ (h'.take S.length).flatMap Cell.ptrs).any fun c=>decide (S.length≤c)) I hn hlt hcl hlp hlen (fun p hp hge=>?_) hp
    rw[List.any_eq_true]
    refine⟨p,?_,by simpa using hge⟩
    simp only[List.mem_append,List.mem_flatMap]
    rcases hp with h | ⟨i,x,hi,hx,hm⟩
    ·exact .inl h
    ·exact .inr ⟨x,by rw[List.mem_iff_getElem?];exact⟨i,by rw[List.getElem?_take,if_pos hi];exact hx⟩,hm⟩
  ·cases h1
 ·cases hk
theorem callFnK_some (hT:CallTOk X rec.callT) (hH:CallHOk X rec.callH) {A:Amb} {fn:Fn} {args:List AV} {s:St} {k:Eff→List (Option AE)→Option R} {r:R} (h:callFnK X rec A fn args s k=some r) :
  ∃ e ps,k e ps=some r∧e.dulls=[]∧∀ T σ lm w vs,Inv T σ lm s.heap A.loops s.pend w→GlobOk X T.fix→RepL T.fix σ lm (args.map AV.dull) vs →
   CallsOk X.P fn lm vs w (fun u w'=>∃ T' σ',CallPost T σ w s.heap T' σ' lm w' (setAll s.heap e.writes ++ e.grow) A.loops ps∧Rep T'.fix σ' lm (T'.own .ret) e.val u):=by
 unfold callFnK at h
 split at h
 ·rename_i g
  split at h
  ·rename_i t ht
   split at h
   ·rename_i hfl
    obtain⟨x,hx,h⟩:=bind_some h
    refine⟨_,_,h,rfl,fun T σ lm w vs I hG hv=>?_⟩
    have hcl:closedL (args.map AV.dull)=true:=closedL_dull hfl
    refine CallsOk.mono (hT g t _ x hx hcl T.fix w vs (FixOk.of_inv I) hG (hv.closed hcl)) ?_
    rintro u w' ⟨T1,K,I1,hr⟩
    obtain⟨T',C,hle,ho⟩:=callT_post I K I1
    exact⟨T',σ,by simpa[setAll] using C,hr.mono (hle rfl) (fun _ _ e=>by cases e) (fun _ _ e=>by cases e) ho⟩
   ·rename_i _ _ _ hle
    simp only[lendOk,Bool.and_eq_true,Bool.not_eq_true'] at hle
    obtain⟨⟨hns,hall⟩,hfr⟩:=hle
    obtain⟨l',h1,g2,g3⟩:=lendLK_some h
    obtain⟨x,hx,h2⟩:=bind_some h1
    have hcl:closedL l'=true:=g2 (by
     rw[List.all_map]
     rw[List.all_eq_true] at hall ⊢
     intro v hv
     have:=hall v hv
     simp only[Function.comp]
     cases v with
     | hs _ _ _ _=>rfl
     | slice _ _ _=>rfl
     | tuple l=>exact closed_dull _ this
     | _=>exact this)
    refine⟨_,_,h2,rfl,fun T σ lm w vs I hG hv=>?_⟩
    refine CallsOk.mono (hT g t _ x hx hcl (lendF T w) w vs (lendF_ok I) (hG.mono lendF_le) ((g3 I hv).closed hcl)) ?_
    rintro u w' ⟨T1,K,I1,hr⟩
    obtain⟨T',C,_,ho⟩:=callT_post I K I1
    exact⟨T',σ,by simpa[setAll] using C,hr.bare (bare_injRet hns hfr)⟩
   ·obtain⟨v,ws,lk,gr,ps',h1,h2⟩:=viaHeapK_some hH h
    exact⟨_,_,h1,rfl,h2⟩
  ·obtain⟨v,ws,lk,gr,ps',h1,h2⟩:=viaHeapK_some hH h
   exact⟨_,_,h1,rfl,h2⟩
 ·obtain⟨v,ws,lk,gr,ps',h1,h2⟩:=viaHeapK_some hH h
  exact⟨_,_,h1,rfl,h2⟩
 ·cases h
theorem set_getT {l:List AV} {t:Nat} {v:AV} (h:getT l t=v) (hv:v≠.top):l.set t v=l:=by
 unfold getT at h
 rw[List.getD_eq_getElem?_getD] at h
 cases e:l[t]? with
 | none=>rw[e] at h;exact absurd h.symm hv
 | some x =>
  rw[e] at h
  apply List.ext_getElem?
  intro i
  rw[List.getElem?_set]
  split
  ·rename_i hi
   subst hi
   have hlt:=lt_of_get e
   rw[if_pos hlt,e]
   exact congrArg some h.symm
  ·rfl
theorem rel_tmp {T:Tags} {σ lm:Nat→Option Nat} {A:Amb} {ro:Option Nat} {s:St} {a:Act} {w:World} (hR:Rel X T σ lm A ro s a w) {t:Nat} {b:Bool} (h:getT s.tmps t=.bool b):a.tmps[t]?=some (.bool b):=by
 have hr:=hR.tm t
 rw[h] at hr
 have hlt:t<a.tmps.size:=by
  rw[← hR.len]
  unfold getT at h
  rw[List.getD_eq_getElem?_getD] at h
  cases e:s.tmps[t]? with
  | none=>rw[e] at h;cases h
  | some x=>exact lt_of_get e
 rw[Array.getD_eq_getD_getElem?,Array.getElem?_eq_getElem hlt] at hr
 rw[Array.getElem?_eq_getElem hlt]
 generalize a.tmps[t]=u at hr
 cases hr
 rfl
theorem StepTo.trans {T T':Tags} {σ σ' lm:Nat→Option Nat} {A:Amb} {ro:Option Nat} {w w1 w2:World} {s2:St} {a2:Act} (hk:Keeps T w T' w1) (hs:∀ c b,σ c=some b→σ' c=some b)
  (h:StepTo X T' σ' lm A ro w1 s2 a2 w2):StepTo X T σ lm A ro w s2 a2 w2:=by
 obtain⟨T2,σ2,k2,s2',r2⟩:=h
 exact⟨T2,σ2,hk.trans k2,fun c b e=>s2' c b (hs c b e),r2⟩
theorem StepTo.refl {T:Tags} {σ lm:Nat→Option Nat} {A:Amb} {ro:Option Nat} {s:St} {a:Act} {w:World} (hR:Rel X T σ lm A ro s a w):StepTo X T σ lm A ro w s a w:=⟨T,σ,Keeps.refl _ _,fun _ _ h=>h,hR⟩
def OperTo (X:Ext) (A:Amb) (s s1:St) (o:Oper):Prop :=
 ∀ (T:Tags) (σ lm:Nat→Option Nat) (ro:Option Nat) (a:Act) (w:World),Rel X T σ lm A ro s a w→∀ next Q,(∀ v w',StepTo X T σ lm A ro w s1 (a.put o.dst v) w'→next (a.put o.dst v) w')→o.wpIn (fence ro) 0 X.P a w next Q
theorem plain_op {A:Amb} {takes:Tmp→Bool} {mk:Bool} {slot:Nat} {o:Oper} {s:St} {k:Eff→Option R} {r:R} (h:plainK X takes mk slot o (s.eval X) s.heap k=some r) :
  ∃ e,k e=some r∧OperTo X A s (e.on o.dst s s.pend) o:=by
 have hd:∀ c,o.op≠.defer c:=fun c hc=>by unfold plainK at h;rw[hc] at h;simp at h
 obtain⟨e,hk,hg,hx⟩:=plain_sound h
 refine⟨e,hk,fun T σ lm ro a w hR next Q hn=>⟨fun _ _=>trivial,?_⟩⟩
 rw[Oper.semAt_eq _ _ _ hd]
 obtain⟨v,w',hv,hs⟩:=hx T σ lm A ro a w hR
 rcases hv with hv | ⟨hv,rfl⟩
 ·rw[hv];exact hn _ _ hs
 ·rw[hv];exact hn _ _ hs
theorem call_ret {T T':Tags} {σ σ' lm:Nat→Option Nat} {A:Amb} {ro:Option Nat} {s:St} {a:Act} {w w':World} {e:Eff} {ps:List (Option AE)} {d:Option Tmp} {u:Value} (hR:Rel X T σ lm A ro s a w)
  (hd:e.dulls=[]) (C:CallPost T σ w s.heap T' σ' lm w' (setAll s.heap e.writes ++ e.grow) A.loops ps) (hv:Rep T'.fix σ' lm (T'.own .ret) e.val u) :
  StepTo X T σ lm A ro w (e.on d s ps) (a.put d u) w':=by
 have h1:=C.rel hR
 have hsig:∀ c b,σ c=some b→σ' c=some b:=fun c b e=>by
  obtain⟨l,hl,_⟩:=hR.inv.dom c b e
  exact C.sig c (lt_of_get hl) b e
 have he:e.on d s ps=({ s with heap:=setAll s.heap e.writes ++ e.grow,pend:=ps }:St).put d e.val:=by
  unfold Eff.on St.put
  rw[hd]
  cases d <;> rfl
 rw[he]
 cases d with
 | none=>exact⟨T',σ',C.keeps,hsig,h1⟩
 | some d =>
  have h2:=h1.retag .ret (.tmp d) (fun c j e=>by cases e) (fun t e=>by cases e) (fun c j e=>by cases e)
  refine⟨_,σ',C.keeps.trans (retag_keeps _ _ _),hsig,h2.put (some d) fun t e=>?_⟩
  cases e
  rw[retag_fix]
  exact hv.mono (Fix.le.refl _) (fun _ _ x=>x) (fun _ _ x=>x) retag_own_same
theorem repL_vals {T:Tags} {σ lm:Nat→Option Nat} {A:Amb} {ro:Option Nat} {s:St} {a:Act} {w:World} (hR:Rel X T σ lm A ro s a w) (l:List Operand) :
  RepL T.fix σ lm ((l.map (s.eval X)).map AV.dull) (l.map a.eval):=by
 rw[List.map_map]
 exact repL_eval hR l
theorem repL_mapdull {F:Fix} {σ lm:Nat→Option Nat} {l:List AV} {vs:List Value} (h:RepL F σ lm l vs):RepL F σ lm (l.map AV.dull) vs:=repL_dull h
theorem call_op (hX:XOk X) (hT:CallTOk X rec.callT) (hH:CallHOk X rec.callH) {A:Amb} {o:Oper} {s:St} {fn:Fn} {args:List AV} {k:Eff→List (Option AE)→Option R} {r:R} (hc:calleeOf (s.eval X) o=some (fn,args))
  (h:callFnK X rec A fn args s k=some r):∃ e ps,k e ps=some r∧OperTo X A s (e.on o.dst s ps) o:=by
 obtain⟨e,ps,hk,hd,hx⟩:=callFnK_some hT hH h
 refine⟨e,ps,hk,fun T σ lm ro a w hR next Q hn=>?_⟩
 unfold calleeOf at hc
 split at hc
 ·rename_i c ho
  split at hc
  ·rename_i f hf
   split at hc
   ·rename_i fn' p q hp
    simp only[Option.some.injEq,Prod.mk.injEq] at hc
    obtain⟨rfl,rfl⟩:=hc
    have hdf:∀ c,o.op≠.defer c:=fun c hc=>by rw[ho] at hc;cases hc
    refine⟨fun _ _=>trivial,?_⟩
    rw[Oper.semAt_eq _ _ _ hdf]
    have hr:=hR.eval f
    rw[hp] at hr
    generalize hav:a.eval f=u at hr
    cases hr with
    | func _ g p q vp vq h1 h2 =>
     have hv:RepL T.fix σ lm ((p ++ c.args.toList.map (s.eval X) ++ q).map AV.dull) (vp ++ c.args.toList.map a.eval ++ vq):=by
      rw[List.map_append,List.map_append]
      exact ((repL_mapdull h1).append (repL_vals hR _)).append (repL_mapdull h2)
     obtain⟨fd,cd,hfd,hbd,hcall⟩:=hx T σ lm w _ hR.inv hR.glob hv
     have hrun:(execOp a.eval o).run X.P w=.ok (.enter g (vp ++ c.args.toList.map a.eval ++ vq).toArray) w:=by
      simp only[execOp,ho,resolve,hf,hav,Deferred.ofValue,Sem.run_bind,Sem.run_pure,Result.andThen_ok,invoke]
      rw[callFunc_enter hfd (hX.name g fd hfd) hbd]
      congr 2
      apply Array.ext'
      simp
     rw[hrun]
     refine⟨fun e=>by simp[fence,Fence.wide] at e,hcall.mono fun e w' hp=>?_⟩
     cases e with
     | returned v =>
      obtain⟨T',σ',C,hvv⟩:=hp
      exact hn _ _ (call_ret hR hd C hvv)
     | panicked ch=>exact hp.elim
     | outgrown=>exact hp.elim
    | yield _ l b hl =>
     have hv:RepL T.fix σ lm (([] ++ c.args.toList.map (s.eval X) ++ []).map AV.dull) (c.args.toList.map a.eval):=by
      simpa using repL_vals hR c.args.toList
     obtain⟨b',lrec,hb',hheap,hsz,hround⟩:=hx T σ lm w _ hR.inv hR.glob hv
     rw[hl] at hb'
     obtain rfl:b=b':=Option.some.inj hb'
     have hrun:(execOp a.eval o).run X.P w=.ok (.round b lrec.fn ((lrec.params.zip (c.args.toList.map a.eval).toArray).foldl (fun tmps (x:Tmp×Value)=>tmps.setIfInBounds x.1 x.2) lrec.tmps) lrec.assign lrec.body) w:=by
      simp only[execOp,ho,resolve,hf,hav,Deferred.ofValue,Sem.run_bind,Sem.run_pure,Result.andThen_ok,invoke]
      have hargs:(#[] ++ c.args.map a.eval:Array Value)=(c.args.toList.map a.eval).toArray:=by apply Array.ext';simp
      rw[hargs,run_yield hheap (by simpa using hsz)]
     rw[hrun]
     refine⟨fun e=>by simp[fence,Fence.wide] at e,hround.mono fun e w' hp=>?_⟩
     cases e with
     | returned v =>
      obtain⟨T',σ',C,hvv⟩:=hp
      exact hn _ _ (call_ret hR hd C hvv)
     | panicked ch=>exact hp.elim
     | outgrown=>exact hp.elim
   ·cases hc
  ·cases hc
 ·cases hc
end Go.Am
namespace Go.Am
open Go
variable {R:Type} {X:Ext} {rec:Rec}
theorem pickK_some {A:Amb} {o:Oper} {c x y:Operand} {s:St} {k:AV→St→Option R} {r:R} (ho:o.op=.pick c x y) (h:pickK X c x y s k=some r) :
  ∃ v,k v s=some r∧OperTo X A s (s.put o.dst v) o:=by
 unfold pickK at h
 split at h
 ·rename_i t
  split at h
  ·rename_i b hb
   have hs:({ s with tmps:=s.tmps.set t (.bool b) }:St)=s:=by rw[set_getT hb (by simp)]
   have main:∀ (z:Operand),(∀ a:Act,(if b=true then a.eval x else a.eval y)=a.eval z)→OperTo X A s (s.put o.dst (s.eval X z).dull) o:=by
    intro z hz T σ lm ro a w hR next Q hn
    refine⟨fun _ _=>trivial,?_⟩
    rw[Oper.semAt_eq _ _ _ fun c hc=>by rw[ho] at hc;cases hc]
    have hb':=rel_tmp hR hb
    have hev:a.eval (.tmp t)=.bool b:=by simp[Act.eval,Array.getD_eq_getD_getElem?,hb']
    have hrun:(execOp a.eval o).run X.P w=.ok (.value (a.eval z)) w:=by
     simp only[execOp,ho,hev,asBool,Sem.run_bind,Sem.run_pure,Result.andThen_ok]
     rw[hz a]
    rw[hrun]
    refine hn _ _ ?_
    have:=hR.pure_step o.dst (hR.eval z).dull
    rw[eff_on_pure] at this
    exact this
   rw[br_eq] at h
   split at h
   ·rename_i hbt
    subst hbt
    rw[hs] at h
    exact⟨_,h,main x fun a=>by simp⟩
   ·rename_i hbf
    obtain rfl:b=false:=by simpa using hbf
    rw[hs] at h
    exact⟨_,h,main y fun a=>by simp⟩
  ·cases h
 ·cases h
theorem goK_some (hX:XOk X) (hT:CallTOk X rec.callT) (hH:CallHOk X rec.callH) {A:Amb} {ops:List Oper} {hb i:Nat} {o:Oper} {s:St} {k:St→Eff→Option R} {r:R} (h:goK X rec A ops hb i o s k=some r) :
  ∃ s1 e,k s1 e=some r∧OperTo X A s s1 o∧s1=e.on o.dst s s1.pend:=by
 unfold goK at h
 split at h
 ·rename_i c x y ho
  obtain⟨v,h1,h2⟩:=pickK_some (A:=A) ho h
  refine⟨_,_,h1,h2,?_⟩
  have:(s.put o.dst v).pend=s.pend:=by cases o.dst <;> rfl
  rw[this,eff_on_pure]
 ·split at h
  ·split at h
   ·rename_i fn args hc
    split at h
    ·rename_i hbase
     obtain⟨e,ps,h1,h2⟩:=call_op hX hT hH hc h
     exact⟨_,_,h1,h2,rfl⟩
    ·cases h
   ·cases h
  ·obtain⟨e,h1,h2⟩:=plain_op (A:=A) h
   exact⟨_,_,h1,h2,rfl⟩
def StepOk (X:Ext) (A:Amb) (opsA:Array Oper) (s s1:St) (i:Nat) (d:Option Tmp):Prop :=
 ∀ (T:Tags) (σ lm:Nat→Option Nat) (ro:Option Nat) (a:Act) (w:World),Rel X T σ lm A ro s a w→∀ K Q,(∀ v w',StepTo X T σ lm A ro w s1 (a.put d v) w'→K (a.put d v) w')→wpOpIn (fence ro) 0 X.P opsA Q i K a w
theorem stepK_some (hX:XOk X) (hT:CallTOk X rec.callT) (hH:CallHOk X rec.callH) {A:Amb} {opsA:Array Oper} {hb i:Nat} {o:Oper} {s:St} {k:St→Option Eff→Option R} {r:R} (ho:opsA[i]?=some o)
  (h:stepK X rec A opsA.toList hb i o s k=some r):∃ s1 e,k s1 e=some r∧StepOk X A opsA s s1 i o.dst∧s1=(e.getD { val:=.tuple [] }).on o.dst s s1.pend:=by
 unfold stepK at h
 split at h
 ·rename_i hg
  obtain⟨s1,e,h1,h2,h3⟩:=goK_some hX hT hH h
  refine⟨s1,some e,h1,fun T σ lm ro a w hR K Q hn=>?_,h3⟩
  unfold wpOpIn
  rw[ho]
  have hw:Region.wanted o (yielded opsA a.tmps)=true:=by simp[Region.wanted,hg]
  simp only[hw,if_true]
  exact h2 T σ lm ro a w hR K Q hn
 ·rename_i j want hg
  split at h
  ·cases h
  ·rename_i t ht
   split at h
   ·rename_i v hv
    have hs:∀ b,b=v→({ s with tmps:=s.tmps.set t (.bool b) }:St)=s:=fun b e=>by rw[e,set_getT hv (by simp)]
    have hy:∀ (T:Tags) (σ lm:Nat→Option Nat) (ro:Option Nat) (a:Act) (w:World),Rel X T σ lm A ro s a w→Region.wanted o (yielded opsA a.tmps)=(v == want):=fun T σ lm ro a w hR=>by
     have hb:=rel_tmp hR hv
     have ht':(opsA[j]?).bind (·.dst)=some t:=by
      rw[← Array.getElem?_toList];exact ht
     unfold Region.wanted
     rw[hg]
     simp only[yielded,ht',Option.bind_some,hb]
     cases v <;> cases want <;> rfl
    have skip:v≠want→StepOk X A opsA s (s.put o.dst (.tuple [])) i o.dst:=fun hne T σ lm ro a w hR K Q hn=>by
     unfold wpOpIn
     rw[ho]
     have hw:Region.wanted o (yielded opsA a.tmps)=false:=by rw[hy T σ lm ro a w hR];simpa using hne
     simp only[hw]
     exact⟨fun _ _=>trivial,hn _ _ (StepTo.refl (hR.put o.dst fun t _=>.tuple _ [] [] (.nil _ _)))⟩
    have hskip:s.put o.dst (.tuple [])=((none:Option Eff).getD { val:=.tuple [] }).on o.dst s (s.put o.dst (.tuple [])).pend:=by
     have:(s.put o.dst (.tuple [])).pend=s.pend:=by cases o.dst <;> rfl
     rw[this]
     exact (eff_on_pure _ _ _).symm
    have go:v=want→∀ s1,OperTo X A s s1 o→StepOk X A opsA s s1 i o.dst:=fun he s1 h2 T σ lm ro a w hR K Q hn=>by
     unfold wpOpIn
     rw[ho]
     have hw:Region.wanted o (yielded opsA a.tmps)=true:=by rw[hy T σ lm ro a w hR];simpa using he
     simp only[hw,if_true]
     exact h2 T σ lm ro a w hR K Q hn
    rw[br_eq] at h
    split at h
    ·rename_i hvt
     rw[hs true hvt.symm] at h
     split at h
     ·rename_i hw
      obtain⟨s1,e,h1,h2,h3⟩:=goK_some hX hT hH h
      exact⟨s1,some e,h1,go (hvt.trans hw.symm) s1 h2,h3⟩
     ·rename_i hw
      exact⟨_,none,h,skip fun e=>hw (e▸hvt),hskip⟩
    ·rename_i hvf
     have hvf':v=false:=by simpa using hvf
     rw[hs false hvf'.symm] at h
     split at h
     ·rename_i hw
      exact⟨_,none,h,skip fun e=>hvf (e.trans hw),hskip⟩
     ·rename_i hw
      obtain⟨s1,e,h1,h2,h3⟩:=goK_some hX hT hH h
      exact⟨s1,some e,h1,go (hvf'.trans (by simpa using hw:want=false).symm) s1 h2,h3⟩
   ·rename_i hv
    refine⟨_,none,h,fun T σ lm ro a w hR K Q hn=>?_,?_⟩
    ·have hw:Region.wanted o (yielded opsA a.tmps)=false:=by
      have ht':(opsA[j]?).bind (·.dst)=some t:=by
       rw[← Array.getElem?_toList];exact ht
      have hr:=hR.tm t
      rw[hv] at hr
      generalize hu:a.tmps.getD t undef=u at hr
      cases hr with
      | tuple _ _ vs hc =>
      cases hc
      unfold Region.wanted
      rw[hg]
      simp only[yielded,ht',Option.bind_some]
      cases hx:a.tmps[t]? with
      | none=>rfl
      | some y =>
       rw[Array.getD_eq_getD_getElem?,hx] at hu
       simp at hu
       subst hu
       rfl
     unfold wpOpIn
     rw[ho]
     simp only[hw]
     exact⟨fun _ _=>trivial,hn _ _ (StepTo.refl (hR.put o.dst fun t _=>.tuple _ [] [] (.nil _ _)))⟩
    ·have:(s.put o.dst (.tuple [])).pend=s.pend:=by cases o.dst <;> rfl
     rw[this]
     exact (eff_on_pure _ _ _).symm
   ·cases h
theorem stepsK_some (hX:XOk X) (hT:CallTOk X rec.callT) (hH:CallHOk X rec.callH) {A:Amb} {opsA:Array Oper} {hb:Nat}:∀ {l:List (Nat×Oper)} {s:St} {k:St→Option R} {r:R},
  (∀ p∈l,opsA[p.1]?=some p.2)→stepsK X rec A opsA.toList hb l s k=some r→∃ s',k s'=some r ∧
   ∀ (T:Tags) (σ lm:Nat→Option Nat) (ro:Option Nat) (a:Act) (w:World),Rel X T σ lm A ro s a w→∀ Q,(∀ a' w',StepTo X T σ lm A ro w s' a' w'→Q .normal a' w')→wpOpsIn (fence ro) 0 X.P opsA Q (l.map (·.1)) a w:=by
 intro l
 induction l with
 | nil =>
  intro s k r _ h
  exact⟨s,h,fun T σ lm ro a w hR Q hq=>hq _ _ (StepTo.refl hR)⟩
 | cons p l ih =>
  intro s k r hl h
  obtain⟨i,o⟩:=p
  unfold stepsK at h
  simp only[St.seqE_eq] at h
  obtain⟨s1,e,h1,h2,_⟩:=stepK_some hX hT hH (hl (i,o) (by simp)) h
  obtain⟨s',h3,h4⟩:=ih (fun p hp=>hl p (by simp[hp])) h1
  refine⟨s',h3,fun T σ lm ro a w hR Q hq=>?_⟩
  rw[List.map_cons,wpOpsIn_cons]
  refine h2 T σ lm ro a w hR _ Q fun v w1 hs=>?_
  obtain⟨T1,σ1,K1,hσ1,R1⟩:=hs
  exact h4 T1 σ1 lm ro _ w1 R1 Q fun a' w' hs'=>hq a' w' (StepTo.trans K1 hσ1 hs')
theorem Rel.room {T:Tags} {σ lm:Nat→Option Nat} {A:Amb} {ro:Option Nat} {s:St} {a:Act} {w:World} (h:Rel X T σ lm A ro s a w) (n:Nat):Rel X T σ lm A ro { s with heap:=s.heap ++ List.replicate n .empty } a w:={
 inv:=by
  have hin:∀ (c:Nat) x,x≠Cell.empty→(s.heap ++ List.replicate n Cell.empty)[c]?=some x→s.heap[c]?=some x:=fun c x hx e=>by
   rw[List.getElem?_append] at e
   split at e
   ·exact e
   ·rw[List.getElem?_replicate] at e
    split at e
    ·cases e;exact absurd rfl hx
    ·cases e
  refine⟨h.inv.fixed,h.inv.spare,h.inv.live,fun c b e=>?_,fun c l e=>h.inv.var c l (hin c _ (by simp) e),fun c x e=>(Classical.em (x=Cell.empty)).elim (fun hx=>by subst hx;trivial) fun hx=>h.inv.mem c x (hin c _ hx e),h.inv.plen,h.inv.loop⟩
  obtain⟨l,hl,hx⟩:=h.inv.dom c b e
  exact⟨l,by show (s.heap ++ List.replicate n Cell.empty)[c]?=_;rw[List.getElem?_append_left (lt_of_get hl)];exact hl,hx⟩
 len:=h.len
 nt:=h.nt
 tm:=h.tm
 marks:=h.marks
 nodup:=h.nodup
 round:=h.round
 glob:=h.glob }
theorem zipIdx_ops (opsA:Array Oper):(opsA.toList.zipIdx.map fun p=>(p.2,p.1)).map (·.1)=List.range opsA.size:=by
 rw[List.map_map]
 show (opsA.toList.zipIdx.map fun p=>p.2)=_
 rw[List.zipIdx_map_snd,List.range_eq_range']
 simp
theorem zipIdx_get (opsA:Array Oper):∀ p∈(opsA.toList.zipIdx.map fun p=>(p.2,p.1)),opsA[p.1]?=some p.2:=by
 intro p hp
 obtain⟨⟨o,i⟩,hm,rfl⟩:=List.mem_map.1 hp
 have:=List.mem_zipIdx_iff_getElem?.1 hm
 simpa using this
end Go.Am
namespace Go.Am
open Go
variable {R:Type} {X:Ext} {rec:Rec}
mutual
theorem ren_id:∀ (v:AV),v.ren (fun c=>c)=v
 | .ptr .. | .map .. | .hs .. | .rptr ..=>rfl
 | .func fn a b=>by simp only[AV.ren,renL_id a,renL_id b]
 | .iface t v=>by simp only[AV.ren,ren_id v]
 | .agg l=>by simp only[AV.ren,renL_id l]
 | .tuple l=>by simp only[AV.ren,renL_id l]
 | .cptr l=>by simp only[AV.ren,renL_id l]
 | .int .. | .bool .. | .str .. | .slice .. | .nil | .nilptr | .nilfunc | .nilmap | .niliface | .void | .top=>rfl
theorem renL_id:∀ (l:List AV),renL (fun c=>c) l=l
 | []=>rfl
 | v :: l=>by simp only[renL,ren_id v,renL_id l]
end
theorem Rep.cut {F F':Fix} {σ σ' lm:Nat→Option Nat} (hf:F.le F') {ow ow':Own} (ho:∀ j b o,ow j b o→ow' j b o) {v:AV} {u:Value} (h:Rep F σ lm ow v u) (hc:∀ c∈v.ptrs,∀ b,σ c=some b→σ' c=some b):Rep F' σ' lm ow' v u:=by
 have:=h.ren hf (fun c=>c) ho hc
 rwa [ren_id] at this
theorem maskL_get {α:Type} (f:Nat→Bool) (d:α):∀ (l:List α) (n i:Nat),(maskL f d n l)[i]?=(l[i]?).map fun x=>if f (n+i)=true then x else d:=by
 intro l
 induction l with
 | nil=>intro n i;simp[maskL]
 | cons x l ih =>
  intro n i
  cases i with
  | zero=>simp[maskL]
  | succ i=>simp only[maskL,List.getElem?_cons_succ,ih];rw[show n+1+i=n+(i+1) by omega]
theorem maskL_length {α:Type} (f:Nat→Bool) (d:α):∀ (l:List α) (n:Nat),(maskL f d n l).length=l.length:=by
 intro l
 induction l with
 | nil=>intro n;rfl
 | cons x l ih=>intro n;simp[maskL,ih]
theorem mask_in {α:Type} {cs:List Nat} {d:α} {l:List α} {i:Nat} (h:i∈cs):(maskL (fun c=>cs.contains c) d 0 l)[i]?=l[i]?:=by
 rw[maskL_get]
 simp[h]
theorem mask_out {α:Type} {cs:List Nat} {d:α} {l:List α} {i:Nat} (h:i∉cs):(maskL (fun c=>cs.contains c) d 0 l)[i]?=(l[i]?).map fun _=>d:=by
 rw[maskL_get]
 simp[h]
theorem getT_mask {ts:List Nat} {l:List AV} (t:Nat):getT (maskL (fun t=>ts.contains t) .top 0 l) t=if t∈ts then getT l t else .top:=by
 unfold getT
 rw[List.getD_eq_getElem?_getD,List.getD_eq_getElem?_getD]
 split
 ·rename_i h;rw[mask_in h]
 ·rename_i h;rw[mask_out h];cases l[t]? <;> rfl
def tmpEff (e:Eff) (d:Option Tmp) (t:Nat) (x:Option AV):Option AV :=
 let y:=e.dulls.foldl (fun x u=>if u=t then x.map AV.dull else x) x
 if d=some t then y.map (fun _=>e.val) else y
def heapEff (e:Eff) (c:Nat) (x:Option Cell):Option Cell:=e.writes.foldl (fun x p=>if p.1=c then x.map (fun _=>p.2) else x) x
theorem dullAll_get:∀ (ds:List Tmp) (l:List AV) (t:Nat),(dullAll l ds)[t]?=ds.foldl (fun x u=>if u=t then x.map AV.dull else x) (l[t]?):=by
 intro ds
 induction ds with
 | nil=>intro l t;rfl
 | cons u ds ih =>
  intro l t
  simp only[dullAll,List.foldl_cons]
  rw[ih]
  congr 1
  rw[List.getElem?_set]
  by_cases h:u=t
  ·subst h
   simp only[if_true]
   by_cases hl:u<l.length
   ·rw[if_pos hl];simp[getT,List.getD_eq_getElem?_getD,List.getElem?_eq_getElem hl]
   ·rw[if_neg hl];simp[List.getElem?_eq_none (Nat.le_of_not_lt hl)]
  ·rw[if_neg h,if_neg h]
theorem on_tmps (e:Eff) (d:Option Tmp) (s:St) (ps:List (Option AE)) (t:Nat):(e.on d s ps).tmps[t]?=tmpEff e d t (s.tmps[t]?):=by
 unfold Eff.on tmpEff
 cases d with
 | none=>simp only[dullAll_get];simp
 | some d =>
  simp only[Option.some.injEq]
  rw[List.getElem?_set,← dullAll_get]
  by_cases h:d=t
  ·subst h
   simp only[if_true]
   by_cases hl:d<(dullAll s.tmps e.dulls).length
   ·rw[if_pos hl];simp[List.getElem?_eq_getElem hl]
   ·rw[if_neg hl];simp[List.getElem?_eq_none (Nat.le_of_not_lt hl)]
  ·rw[if_neg h,if_neg h]
theorem setAll_get:∀ (ws:List (Nat×Cell)) (h:List Cell) (c:Nat),(setAll h ws)[c]?=ws.foldl (fun x p=>if p.1=c then x.map (fun _=>p.2) else x) (h[c]?):=by
 intro ws
 induction ws with
 | nil=>intro h c;rfl
 | cons p ws ih =>
  intro h c
  obtain⟨d,x⟩:=p
  simp only[setAll,List.foldl_cons]
  rw[ih]
  congr 1
  rw[List.getElem?_set]
  by_cases hd:d=c
  ·subst hd
   simp only[if_true]
   by_cases hl:d<h.length
   ·rw[if_pos hl];simp[List.getElem?_eq_getElem hl]
   ·rw[if_neg hl];simp[List.getElem?_eq_none (Nat.le_of_not_lt hl)]
  ·rw[if_neg hd,if_neg hd]
theorem on_heap (e:Eff) (d:Option Tmp) (s:St) (ps:List (Option AE)) (hg:e.grow=[]) (c:Nat):(e.on d s ps).heap[c]?=heapEff e c (s.heap[c]?):=by
 unfold Eff.on heapEff
 simp only[hg,List.append_nil]
 exact setAll_get _ _ _
theorem tmpEff_out {e:Eff} {d:Option Tmp} {t:Nat} (hd:d≠some t) (he:t∉e.dulls) (x:Option AV):tmpEff e d t x=x:=by
 unfold tmpEff
 simp only[if_neg hd]
 have:∀ (l:List Tmp) (x:Option AV),t∉l→l.foldl (fun x u=>if u=t then x.map AV.dull else x) x=x:=by
  intro l
  induction l with
  | nil=>intro x _;rfl
  | cons u l ih =>
   intro x h
   simp only[List.mem_cons,not_or] at h
   simp only[List.foldl_cons]
   rw[if_neg (fun e=>h.1 e.symm),ih x h.2]
 exact this _ _ he
theorem heapEff_out {e:Eff} {c:Nat} (h:∀ p∈e.writes,p.1≠c) (x:Option Cell):heapEff e c x=x:=by
 unfold heapEff
 have:∀ (l:List (Nat×Cell)) (x:Option Cell),(∀ p∈l,p.1≠c)→l.foldl (fun x p=>if p.1=c then x.map (fun _=>p.2) else x) x=x:=by
  intro l
  induction l with
  | nil=>intro x _;rfl
  | cons u l ih =>
   intro x h
   simp only[List.foldl_cons]
   rw[if_neg (h u (by simp)),ih x fun p hp=>h p (by simp[hp])]
 exact this _ _ h
theorem tmpEff_dst {e:Eff} {t:Nat} {x y:Option AV} (h:x.isSome=y.isSome):tmpEff e (some t) t x=tmpEff e (some t) t y:=by
 unfold tmpEff
 simp only[if_true]
 have:∀ (l:List Tmp) (x y:Option AV),x.isSome=y.isSome→(l.foldl (fun x u=>if u=t then x.map AV.dull else x) x).isSome=(l.foldl (fun x u=>if u=t then x.map AV.dull else x) y).isSome:=by
  intro l
  induction l with
  | nil=>intro x y h;exact h
  | cons u l ih =>
   intro x y h
   simp only[List.foldl_cons]
   refine ih _ _ ?_
   split <;> simp[h]
 have:=this e.dulls x y h
 cases h1:e.dulls.foldl (fun x u=>if u=t then x.map AV.dull else x) x <;> cases h2:e.dulls.foldl (fun x u=>if u=t then x.map AV.dull else x) y <;> rw[h1,h2] at this <;> simp at this ⊢
def cutTag (ts cs:List Nat):Tag→Tag
 | .spare (.tmp t) q=>if t∈ts then .spare (.tmp t) q else .free
 | .spare (.leaf c j) q=>if c∈cs then .spare (.leaf c j) q else .free
 | .cell c j=>if c∈cs then .cell c j else .free
 | t=>t
def cutTags (ts cs:List Nat) (T:Tags):Tags:=fun b o=>cutTag ts cs (T b o)
theorem cutTag_or (ts cs:List Nat) (t:Tag):cutTag ts cs t=t∨cutTag ts cs t=.free:=by
 cases t with
 | cell c j=>simp only[cutTag];split <;> simp
 | spare l j=>cases l <;> simp only[cutTag] <;> first | (split <;> simp) | simp
 | _=>exact .inl rfl
theorem cutTags_fix (ts cs:List Nat) (T:Tags):(cutTags ts cs T).fix=T.fix:=by
 funext b o
 unfold Tags.fix cutTags
 cases T b o with
 | cell c j=>simp only[cutTag];split <;> rfl
 | spare l j=>cases l <;> simp only[cutTag] <;> first | (split <;> rfl) | rfl
 | _=>rfl
def cutσ (cs:List Nat) (σ:Nat→Option Nat):Nat→Option Nat:=fun c=>if c∈cs then σ c else none
section
variable {T:Tags} {σ lm:Nat→Option Nat} {A:Amb} {ro:Option Nat} {s:St} {a:Act} {w:World} {ts cs:List Nat}
theorem within_mem (h:(s.restrict ts cs).within A cs=true):(∀ t∈ts,∀ p∈(getT s.tmps t).ptrs,p∈cs)∧(∀ r∈A.loops,∀ p∈ptrsL r.tmps,p∈cs)∧(∀ c∈cs,∀ x,s.heap[c]?=some x→∀ p∈x.ptrs,p∈cs):=by
 unfold St.within at h
 rw[List.all_eq_true] at h
 have h':∀ c,(c∈ptrsL (s.restrict ts cs).tmps∨(∃ r∈A.loops,c∈ptrsL r.tmps)∨∃ x∈(s.restrict ts cs).heap,c∈x.ptrs)→c∈cs:=fun c hc=>by
  have:=h c (by
   simp only[List.mem_append,List.mem_flatMap]
   rcases hc with h | h | h
   ·exact .inl (.inl h)
   ·exact .inl (.inr h)
   ·exact .inr h)
  simpa using this
 refine⟨fun t ht p hp=>h' p (.inl ?_),fun r hr p hp=>h' p (.inr (.inl ⟨r,hr,hp⟩)),fun c hc x hx p hp=>h' p (.inr (.inr ⟨x,?_,hp⟩))⟩
 ·have e:getT (s.restrict ts cs).tmps t=getT s.tmps t:=by
   show getT (maskL _ _ 0 s.tmps) t=_
   rw[getT_mask,if_pos ht]
  rw[← e] at hp
  exact mem_getT hp
 ·have:(s.restrict ts cs).heap[c]?=some x:=by
   show (maskL _ _ 0 s.heap)[c]?=_
   rw[mask_in hc];exact hx
  exact List.mem_of_getElem? this
theorem mem_ptrsL' {c:Nat}:∀ {l:List AV},c∈ptrsL l→∃ t,c∈(getT l t).ptrs
 | [],h=>by simp[ptrsL] at h
 | v :: l,h=>by
  simp only[ptrsL,List.mem_append] at h
  rcases h with h | h
  ·exact⟨0,h⟩
  ·obtain⟨t,ht⟩:=mem_ptrsL' h
   exact⟨t+1,ht⟩
theorem withinF_within (h:s.withinF A ts cs=true):(s.restrict ts cs).within A cs=true:=by
 unfold St.withinF at h
 rw[natSeq_eq] at h
 simp only[Bool.and_eq_true,List.all_eq_true,tb_eq,bitsOf_contains] at h
 obtain⟨⟨h1,h2⟩,h3⟩:=h
 unfold St.within
 rw[List.all_eq_true]
 intro c hc
 simp only[List.mem_append,List.mem_flatMap] at hc
 rcases hc with (hc | ⟨r,hr,hc⟩) | ⟨x,hx,hc⟩
 ·obtain⟨t,ht⟩:=mem_ptrsL' hc
  have e:getT (s.restrict ts cs).tmps t=if t∈ts then getT s.tmps t else .top:=getT_mask t
  rw[e] at ht
  split at ht
  ·rename_i hts;exact h1 t hts c ht
  ·simp[AV.ptrs] at ht
 ·exact h2 r hr c hc
 ·obtain⟨i,hi⟩:=List.mem_iff_getElem?.1 hx
  have hi':(maskL (fun c=>cs.contains c) Cell.empty 0 s.heap)[i]?=some x:=hi
  by_cases hm:i∈cs
  ·rw[mask_in hm] at hi'
   have:=h3 i hm c (by rw[List.getD_eq_getElem?_getD,hi'];exact hc)
   exact this
  ·rw[mask_out hm] at hi'
   cases e:s.heap[i]? with
   | none=>rw[e] at hi';cases hi'
   | some y=>rw[e] at hi';cases hi';simp[Cell.ptrs] at hc
theorem Rel.restrict (hR:Rel X T σ lm A ro s a w) (hw:(s.restrict ts cs).within A cs=true):Rel X (cutTags ts cs T) (cutσ cs σ) lm A ro (s.restrict ts cs) a w:=by
 obtain⟨w1,w2,w3⟩:=within_mem hw
 have hσ:∀ p∈cs,∀ b,σ p=some b→cutσ cs σ p=some b:=fun p hp b e=>by unfold cutσ;rw[if_pos hp];exact e
 have keep:∀ b o,cutTags ts cs T b o≠.free→cutTags ts cs T b o=T b o:=fun b o e=>(cutTag_or ts cs (T b o)).resolve_right e
 refine⟨⟨?_,?_,?_,?_,?_,?_,hR.inv.plen,?_⟩,?_,hR.nt,?_,?_,hR.nodup,hR.round,by rw[cutTags_fix];exact hR.glob⟩
 ·intro b o v e;exact hR.inv.fixed b o v (by rw[← keep b o (by rw[e];simp)];exact e)
 ·intro b o l j e;exact hR.inv.spare b o l j (by rw[← keep b o (by rw[e];simp)];exact e)
 ·intro b o e;exact hR.inv.live b o (by rw[← keep b o e];exact e)
 ·intro c b e
  unfold cutσ at e
  split at e
  ·rename_i hc
   obtain⟨l,hl,hx⟩:=hR.inv.dom c b e
   exact⟨l,by show (maskL _ _ 0 s.heap)[c]?=_;rw[mask_in hc];exact hl,hx⟩
  ·cases e
 ·intro c l hc
  have hc':(maskL (fun c=>cs.contains c) Cell.empty 0 s.heap)[c]?=some (.var l):=hc
  have hm:c∈cs:=Classical.byContradiction fun hm=>by
   rw[mask_out hm] at hc'
   cases e:s.heap[c]? with
   | none=>rw[e] at hc';cases hc'
   | some x=>rw[e] at hc';cases hc'
  rw[mask_in hm] at hc'
  obtain⟨b,h1,h2,h3⟩:=hR.inv.var c l hc'
  refine⟨b,hσ c hm b h1,h2,fun j av hj=>?_⟩
  obtain⟨v,e1,e2,e3,e4⟩:=h3 j av hj
  refine⟨v,e1,e2,by unfold cutTags;rw[e3];simp only[cutTag,if_pos hm],?_⟩
  rw[cutTags_fix]
  refine e4.cut (Fix.le.refl _) (fun q b o e=>?_) fun p hp b' e=>hσ p (w3 c hm _ hc' p (mem_ptrsL (List.mem_of_getElem? hj) hp)) b' e
  have e':T b o=.spare (.leaf c j) q:=e
  show cutTags ts cs T b o=_
  unfold cutTags;rw[e'];simp only[cutTag,if_pos hm]
 ·intro c x hc
  have hc':(maskL (fun c=>cs.contains c) Cell.empty 0 s.heap)[c]?=some x:=hc
  by_cases hm:c∈cs
  ·rw[mask_in hm] at hc'
   refine (hR.inv.mem c x hc').keep (fun p e=>hσ c hm p e) (by rw[cutTags_fix];exact Fix.le.refl _) (fun b k e=>⟨?_,rfl,rfl⟩) fun b k e=>?_
   ·unfold cutTags;rw[e];simp only[cutTag,if_pos hm]
   ·unfold cutTags;rw[e];simp only[cutTag,if_pos hm]
  ·rw[mask_out hm] at hc'
   cases e:s.heap[c]? with
   | none=>rw[e] at hc';cases hc'
   | some y=>rw[e] at hc';cases hc';trivial
 ·intro i r hr
  obtain⟨b,rec,h1,h2,h3,h4,h5,h6,h7,h8,h9,h10⟩:=hR.inv.loop i r hr
  refine⟨b,rec,h1,by unfold cutTags;rw[h2];rfl,h3,h4,h5,h6,h7,h8,fun t=>?_,h10⟩
  rw[cutTags_fix]
  exact (h9 t).cut (Fix.le.refl _) (fun _ _ _ x=>x) fun p hp b' e=>hσ p (w2 r (List.mem_of_getElem? hr) p (mem_getT hp)) b' e
 ·show (maskL _ _ 0 s.tmps).length=_
  rw[maskL_length];exact hR.len
 ·intro t
  show Rep _ _ _ _ (getT (maskL _ _ 0 s.tmps) t) _
  rw[getT_mask,cutTags_fix]
  split
  ·rename_i ht
   refine (hR.tm t).cut (Fix.le.refl _) (fun q b o e=>?_) fun p hp b' e=>hσ p (w1 t ht p hp) b' e
   have e':T b o=.spare (.tmp t) q:=e
   show cutTags ts cs T b o=_
   unfold cutTags;rw[e'];simp only[cutTag,if_pos ht]
  ·exact .top _ _
 ·intro d hd
  obtain⟨D,e1,e2,e3⟩:=hR.marks d hd
  exact⟨D,e1,e2,fun o=>by unfold cutTags;rw[e3];rfl⟩
end
end Go.Am
namespace Go.Am
open Go
variable {R:Type} {X:Ext} {rec:Rec}
theorem getT_eq {l m:List AV} {t:Nat} (h:l[t]?=m[t]?):getT l t=getT m t:=by
 unfold getT;rw[List.getD_eq_getElem?_getD,List.getD_eq_getElem?_getD,h]
theorem getD_put_ne {a:Act} {d:Option Tmp} {t:Nat} {v:Value} (h:d≠some t):(a.put d v).tmps.getD t undef=a.tmps.getD t undef:=by
 cases d with
 | none=>rfl
 | some d =>
  simp only[Act.put,getD_set]
  rw[if_neg]
  rintro⟨rfl,_⟩;exact h rfl
theorem size_put (a:Act) (d:Option Tmp) (v:Value):(a.put d v).tmps.size=a.tmps.size:=by cases d <;> simp[Act.put]
theorem StepTo.frame {pd:List (Option AE)} {T:Tags} {σ lm:Nat→Option Nat} {A:Amb} {ro:Option Nat} {s:St} {a:Act} {w w1:World} {ts cs:List Nat} {d:Option Tmp} {e:Eff} {v:Value} (hR:Rel X T σ lm A ro s a w) (hg:e.grow=[])
  (hwr:∀ p∈e.writes,p.1∈cs) (hdl:∀ t∈e.dulls,t∈ts)
  (h:StepTo X (cutTags ts cs T) (cutσ cs σ) lm A ro w (e.on d (s.restrict ts cs) pd) (a.put d v) w1):StepTo X T σ lm A ro w (e.on d s pd) (a.put d v) w1:=by
 obtain⟨T1,σ1,K,hσ,R1⟩:=h
 have hM:∀ b o,(cutTags ts cs T b o).isFree=true→T b o≠.free→b<w.heap.size:=fun b o _ e=>hR.inv.live b o e
 have hfree:∀ b o,(cutTags ts cs T b o).isFree=true→b<w.heap.size→T1 b o=.free:=fun b o e hb=>K.free b o hb (Tag.isFree_iff.1 e)
 let T':Tags:=fun b o=>if (cutTags ts cs T b o).isFree=true∧b<w.heap.size then T b o else T1 b o
 have first:∀ b o,(cutTags ts cs T b o).isFree=true→b<w.heap.size→T' b o=T b o:=fun b o e hb=>if_pos ⟨e,hb⟩
 have second:∀ b o,T1 b o≠.free→T' b o=T1 b o:=fun b o e=>if_neg fun ⟨e1,e2⟩=>e (hfree b o e1 e2)
 have hfix1:Fix.le T1.fix T'.fix:=fun b o u e=>by
  rw[Tags.fix_eq] at e ⊢
  rw[second b o (by rw[e];simp)];exact e
 have hfixT:∀ b o u,T b o=.fixed u→T1 b o=.fixed u:=fun b o u e=>K.fixed b o u (by unfold cutTags;rw[e];rfl)
 have hfix:Fix.le T.fix T'.fix:=fun b o u e=>by
  rw[Tags.fix_eq] at e
  exact hfix1 b o u (by rw[Tags.fix_eq];exact hfixT b o u e)
 have hown1:∀ l j b o,T1.own l j b o→T'.own l j b o:=fun l j b o e=>by
  have e':T1 b o=.spare l j:=e
  show T' b o=_
  rw[second b o (by rw[e'];simp)];exact e'
 have hfcell:∀ b o,(cutTags ts cs T b o).isFree=true→b<w.heap.size→w1.cell? ⟨b,o,none⟩=w.cell? ⟨b,o,none⟩∧w1.frozen? ⟨b,o,none⟩=w.frozen? ⟨b,o,none⟩:=fun b o e hb=>K.cell b o hb (by rw[Tag.isFree_iff.1 e];rfl)
 have hmine:∀ b o,(T b o).mine=false→(cutTags ts cs T b o).mine=false:=fun b o e=>by
  rcases cutTag_or ts cs (T b o) with h | h
  ·show (cutTag ts cs (T b o)).mine=false
   rw[h];exact e
  ·show (cutTag ts cs (T b o)).mine=false
   rw[h];rfl
 let σ':Nat→Option Nat:=fun c=>if c∈cs then σ1 c else σ c
 have hs:∀ c b,σ c=some b→σ' c=some b:=fun c b e=>by
  show (if c∈cs then σ1 c else σ c)=some b
  split
  ·rename_i hc;exact hσ c b (by unfold cutσ;rw[if_pos hc];exact e)
  ·exact e
 have hheap:∀ c,c∈cs→(e.on d (s.restrict ts cs) pd).heap[c]?=(e.on d s pd).heap[c]?:=fun c hc=>by
  rw[on_heap e d _ _ hg,on_heap e d _ _ hg]
  congr 1
  exact mask_in hc
 have hheap2:∀ c,c∉cs→(e.on d s pd).heap[c]?=s.heap[c]?:=fun c hc=>by
  rw[on_heap e d _ _ hg]
  exact heapEff_out (c:=c) (fun p hp e'=>hc (by rw[← e'];exact hwr p hp)) _
 have hheap3:∀ c,c∉cs→(e.on d (s.restrict ts cs) pd).heap[c]?=(s.heap[c]?).map fun _=>Cell.empty:=fun c hc=>by
  rw[on_heap e d _ _ hg,heapEff_out (c:=c) (fun p hp e'=>hc (by rw[← e'];exact hwr p hp))]
  exact mask_out hc
 have hs1:∀ c b,σ1 c=some b→σ' c=some b:=fun c b e=>by
  show (if c∈cs then σ1 c else σ c)=some b
  rw[if_pos];exact e
  refine Classical.byContradiction fun hc=>?_
  obtain⟨l,hl,hlv⟩:=R1.inv.dom c b e
  rw[hheap3 c hc] at hl
  cases hx:s.heap[c]? <;> rw[hx] at hl <;> cases hl
  cases hlv
 refine⟨T',σ',?_,hs,⟨⟨?_,?_,?_,?_,?_,?_,R1.inv.plen,?_⟩,?_,?_,?_,?_,?_,hR.round,hR.glob.mono hfix⟩⟩
 ·refine⟨K.os,K.tape,K.output,K.size,fun b o u e=>?_,fun b o hb e=>?_,fun b o hb e=>K.cell b o hb (hmine b o e),fun b hb e=>K.block b hb fun o=>hmine b o (e o)⟩
  ·rw[← Tags.fix_eq] at e ⊢;exact hfix b o u e
  ·rw[first b o (by unfold cutTags;rw[e];rfl) hb];exact e
 ·intro b o u e'
  by_cases hc:(cutTags ts cs T b o).isFree=true∧b<w.heap.size
  ·rw[first b o hc.1 hc.2] at e'
   have:=hc.1
   unfold cutTags at this
   rw[e'] at this;cases this
  ·exact R1.inv.fixed b o u (by have:T' b o=T1 b o:=if_neg hc;rw[← this];exact e')
 ·intro b o l j e'
  by_cases hc:(cutTags ts cs T b o).isFree=true∧b<w.heap.size
  ·rw[first b o hc.1 hc.2] at e'
   have hx:=hfcell b o hc.1 hc.2
   rw[hx.1,hx.2];exact hR.inv.spare b o l j e'
  ·exact R1.inv.spare b o l j (by have:T' b o=T1 b o:=if_neg hc;rw[← this];exact e')
 ·intro b o e'
  by_cases hc:(cutTags ts cs T b o).isFree=true∧b<w.heap.size
  ·exact Nat.lt_of_lt_of_le hc.2 K.size
  ·exact R1.inv.live b o (by have:T' b o=T1 b o:=if_neg hc;rw[← this];exact e')
 ·intro c b e'
  have e'':(if c∈cs then σ1 c else σ c)=some b:=e'
  split at e''
  ·rename_i hc
   obtain⟨l,hl,hx⟩:=R1.inv.dom c b e''
   exact⟨l,by rw[← hheap c hc];exact hl,hx⟩
  ·rename_i hc
   obtain⟨l,hl,hx⟩:=hR.inv.dom c b e''
   exact⟨l,by rw[hheap2 c hc];exact hl,hx⟩
 ·intro c l hc
  by_cases hm:c∈cs
  ·obtain⟨b,h1,h2,h3⟩:=R1.inv.var c l (by rw[hheap c hm];exact hc)
   refine⟨b,hs1 c b h1,h2,fun j av hj=>?_⟩
   obtain⟨u,e1,e2,e3,e4⟩:=h3 j av hj
   exact⟨u,e1,e2,by rw[second b j (by rw[e3];simp)];exact e3,e4.mono hfix1 hs1 (fun _ _ x=>x) (hown1 _)⟩
  ·rw[hheap2 c hm] at hc
   obtain⟨b,h1,h2,h3⟩:=hR.inv.var c l hc
   refine⟨b,hs c b h1,Nat.lt_of_lt_of_le h2 K.size,fun j av hj=>?_⟩
   obtain⟨u,e1,e2,e3,e4⟩:=h3 j av hj
   have hf:(cutTags ts cs T b j).isFree=true:=by unfold cutTags;rw[e3];simp only[cutTag,if_neg hm];rfl
   have hx:=hfcell b j hf h2
   refine⟨u,by rw[hx.1];exact e1,by rw[hx.2];exact e2,by rw[first b j hf h2];exact e3,e4.mono hfix hs (fun _ _ x=>x) fun q b' o' e'=>?_⟩
   have e'':T b' o'=.spare (.leaf c j) q:=e'
   show T' b' o'=_
   rw[first b' o' (by unfold cutTags;rw[e''];simp only[cutTag,if_neg hm];rfl) (hR.inv.live b' o' (by rw[e''];simp))];exact e''
 ·intro c x hc
  by_cases hm:c∈cs
  ·exact (R1.inv.mem c x (by rw[hheap c hm];exact hc)).keep (hs1 c) hfix1 (fun b k e=>⟨by rw[second b k (by rw[e];simp)];exact e,rfl,rfl⟩) (fun b k e=>by rw[second b k (by rw[e];simp)];exact e)
  ·rw[hheap2 c hm] at hc
   refine (hR.inv.mem c x hc).keep (hs c) hfix (fun b k e=>?_) (fun b k e=>?_) (fun b es ck e h=>by
    rw[K.block b (hR.inv.live b 0 (by rw[e 0];simp)) (fun o=>by unfold cutTags;rw[e o];simp only[cutTag,if_neg hm];rfl)];exact h)
   ·have hf:(cutTags ts cs T b k).isFree=true:=by unfold cutTags;rw[e];simp only[cutTag,if_neg hm];rfl
    have hb:=hR.inv.live b k (by rw[e];simp)
    exact⟨by rw[first b k hf hb];exact e,hfcell b k hf hb⟩
   ·rw[first b k (by unfold cutTags;rw[e];simp only[cutTag,if_neg hm];rfl) (hR.inv.live b k (by rw[e];simp))];exact e
 ·intro i r hr
  obtain⟨b,rec,h1,h2,h3,h4,h5,h6,h7,h8,h9,h10⟩:=R1.inv.loop i r hr
  exact⟨b,rec,h1,by rw[second b 0 (by rw[h2];simp)];exact h2,h3,h4,h5,h6,h7,h8,fun t=>(h9 t).mono hfix1 hs1 (fun _ _ x=>x) (fun _ _ _ x=>x),h10⟩
 ·have h1:=R1.len
  have h2:(e.on d (s.restrict ts cs) pd).tmps.length=(e.on d s pd).tmps.length:=by
   have hd:∀ (ds:List Tmp) (l:List AV),(dullAll l ds).length=l.length:=by
    intro ds
    induction ds with
    | nil=>intro l;rfl
    | cons t ds ih=>intro l;simp[dullAll,ih]
   cases d <;> simp[Eff.on,hd,St.restrict,maskL_length]
  rw[← h2];exact h1
 ·rw[size_put];exact hR.nt
 ·intro t
  by_cases ht:t∈ts∨d=some t
  ·have e1:getT (e.on d (s.restrict ts cs) pd).tmps t=getT (e.on d s pd).tmps t:=by
    apply getT_eq
    rw[on_tmps,on_tmps]
    by_cases hd:d=some t
    ·subst hd
     refine tmpEff_dst ?_
     show ((maskL _ _ 0 s.tmps)[t]?).isSome=_
     rw[maskL_get];simp
    ·congr 1
     exact mask_in (ht.resolve_right hd)
   rw[← e1]
   exact (R1.tm t).mono hfix1 hs1 (fun _ _ x=>x) (hown1 _)
  ·have ht1:t∉ts:=fun h=>ht (.inl h)
   have ht2:d≠some t:=fun h=>ht (.inr h)
   have e1:getT (e.on d s pd).tmps t=getT s.tmps t:=by
    apply getT_eq
    rw[on_tmps]
    exact tmpEff_out ht2 (fun h=>ht1 (hdl t h)) _
   rw[e1,getD_put_ne ht2]
   refine (hR.tm t).mono hfix hs (fun _ _ x=>x) fun q b' o' e'=>?_
   have e'':T b' o'=.spare (.tmp t) q:=e'
   show T' b' o'=_
   rw[first b' o' (by unfold cutTags;rw[e''];simp only[cutTag,if_neg ht1];rfl) (hR.inv.live b' o' (by rw[e''];simp))];exact e''
 ·intro x hx
  obtain⟨D,e1,e2,e3⟩:=R1.marks x hx
  exact⟨D,e1,e2,fun o=>by rw[second D o (by rw[e3];simp)];exact e3 o⟩
 ·exact R1.nodup
theorem StepOk.frame {pd:List (Option AE)} {A:Amb} {opsA:Array Oper} {s:St} {ts cs:List Nat} {d:Option Tmp} {e:Eff} {i:Nat} (hw:(s.restrict ts cs).within A cs=true) (hg:e.grow=[])
  (hwr:∀ p∈e.writes,p.1∈cs) (hdl:∀ t∈e.dulls,t∈ts) (h:StepOk X A opsA (s.restrict ts cs) (e.on d (s.restrict ts cs) pd) i d):StepOk X A opsA s (e.on d s pd) i d:=by
 intro T σ lm ro a w hR K Q hn
 exact h _ _ lm ro a w (hR.restrict hw) K Q fun v w1 hs=>hn v w1 (hs.frame hR hg hwr hdl)
end Go.Am
namespace Go.Am
open Go
variable {R:Type} {X:Ext} {rec:Rec}
set_option linter.unusedSectionVars false
def app1 (s:St) (p:Patch):St:=p.e.on p.dst s (p.pend.getD s.pend)
def PatchOk (X:Ext) (A:Amb) (opsA:Array Oper) (s:St) (p:Patch):Prop :=
  p.e.grow=[]∧(∀ q∈p.e.writes,q.1∈p.cs) ∧
    (((s.restrict p.ts p.cs).within A p.cs=true∧(∀ t∈p.e.dulls,t∈p.ts)∧StepOk X A opsA (s.restrict p.ts p.cs) (p.e.on p.dst (s.restrict p.ts p.cs) (p.pend.getD s.pend)) p.i p.dst) ∨
     (p.pend=none∧∀ s':St,(∀ t∈p.ts,getT s'.tmps t=getT s.tmps t)→(∀ c∈p.cs,s'.heap[c]?=s.heap[c]?)→StepOk X A opsA s' (p.e.on p.dst s' s'.pend) p.i p.dst))
theorem loadK_bind {X:Ext} {t:TypeId} {c off:Nat} {h:List Cell} (k:Eff→Option R):loadK X t false (.ptr c off) h k=(loadK X t false (.ptr c off) h some).bind k:=by
 unfold loadK
 simp only
 split
 ·simp only[readLeaves]
  split
  ·split <;> rfl
  ·split <;> rfl
  ·split <;> rfl
  ·rfl
 ·rfl
theorem rowsOf_bind {X:Ext} {t:TypeId} {n:Nat} {parts:List (Nat×AV)} (k:Eff→Option R):(buildSliceK X t n parts fun v=>k { val:=v })=(buildSliceK X t n parts fun v=>some { val:=v }).bind k:=by
 unfold buildSliceK
 cases sliceElem X.P t with
 | none=>rfl
 | some ex =>
  simp only[Option.bind_some]
  split
  ·cases rowsOf ex.2 0 parts <;> rfl
  ·rfl
theorem guard_go {X:Ext} {rec:Rec} (A:Amb) (ops:List Oper) (hb i:Nat) {o:Oper} {s s':St} {g:List Tmp} (h:guardSt ops o s=some (g,true)) (hg:∀ t∈g,getT s'.tmps t=getT s.tmps t) (k:St→Option Eff→Option R) :
  stepK X rec A ops hb i o s' k=goK X rec A ops hb i o s' fun s e=>k s (some e):=by
 unfold guardSt at h
 unfold stepK
 split at h
 ·rename_i hgd
  simp only[hgd]
 ·rename_i j want hgd
  split at h
  ·cases h
  ·rename_i t ht
   split at h
   ·rename_i v hv
    simp only[Option.some.injEq,Prod.mk.injEq] at h
    obtain⟨rfl,hw⟩:=h
    have hw':v=want:=by simpa using hw
    subst hw'
    have hv':getT s'.tmps t=.bool v:=by rw[hg t (by simp)];exact hv
    have hset:({ s' with tmps:=s'.tmps.set t (.bool v) }:St)=s':=by rw[set_getT hv' (by simp)]
    simp only[hv']
    cases v with
    | true=>simp only[br,if_true,hset]
    | false=>simp only[br,Bool.false_eq_true,if_false,hset]
   ·simp at h
   ·cases h
theorem guard_skip {X:Ext} {rec:Rec} (A:Amb) (ops:List Oper) (hb i:Nat) {o:Oper} {s s':St} {g:List Tmp} (h:guardSt ops o s=some (g,false)) (hg:∀ t∈g,getT s'.tmps t=getT s.tmps t) (k:St→Option Eff→Option R) :
  stepK X rec A ops hb i o s' k=k (s'.put o.dst (.tuple [])) none:=by
 unfold guardSt at h
 unfold stepK
 split at h
 ·simp at h
 ·rename_i j want hgd
  split at h
  ·cases h
  ·rename_i t ht
   split at h
   ·rename_i v hv
    simp only[Option.some.injEq,Prod.mk.injEq] at h
    obtain⟨rfl,hw⟩:=h
    have hw':want=!v:=by cases v <;> cases want <;> simp at hw ⊢
    subst hw'
    have hv':getT s'.tmps t=.bool v:=by rw[hg t (by simp)];exact hv
    have hset:({ s' with tmps:=s'.tmps.set t (.bool v) }:St)=s':=by rw[set_getT hv' (by simp)]
    simp only[hv']
    cases v with
    | true=>simp only[br,Bool.not_true,Bool.false_eq_true,if_false,hset]
    | false=>simp only[br,Bool.not_false,if_true,hset]
   ·rename_i hv
    simp only[Option.some.injEq,Prod.mk.injEq,and_true] at h
    subst h
    have hv':getT s'.tmps t=.tuple []:=by rw[hg t (by simp)];exact hv
    simp only[hv']
   ·cases h
theorem quick_skip {X:Ext} {f:FuncId} {ops:List Oper} {o:Oper} {s:St} {g:List Tmp} (h:quickOf X f ops o s=.skip g):guardSt ops o s=some (g,false):=by
 unfold quickOf at h
 split at h
 ·split at h <;> cases h
 ·cases h;assumption
 ·cases h
theorem quick_still {X:Ext} {f:FuncId} {ops:List Oper} {o:Oper} {s:St} {ts cs:List Nat} (h:quickOf X f ops o s=.still ts cs):∃ g us,guardSt ops o s=some (g,true)∧stillOf X f ops o s=some (us,cs)∧ts=g ++ us:=by
 unfold quickOf at h
 split at h
 ·rename_i g hg
  split at h
  ·rename_i us cs' hs
   cases h
   exact⟨g,us,hg,hs,rfl⟩
  ·cases h
 ·cases h
 ·cases h
theorem still_go {X:Ext} {rec:Rec} (A:Amb) (ops:List Oper) (hb i:Nat) {o:Oper} {s:St} {tc:List Tmp×List Nat} (h:stillOf X A.fn ops o s=some tc) {e:Eff}
  (he:plainK X (takesOf ops) (mkOf X A.fn o) (hb+newsBefore X A.fn ops i) o (s.eval X) s.heap some=some e) (s':St) (ht:∀ t∈tc.1,getT s'.tmps t=getT s.tmps t) (hc:∀ c∈tc.2,s'.heap[c]?=s.heap[c]?) :
  goK X rec A ops hb i o s' (fun s e=>some (s,some e))=some (e.on o.dst s' s'.pend,some e):=by
 unfold stillOf at h
 split at h
 ·rename_i hmk
  obtain⟨h3,h4⟩:=hmk
  split at h
  ·rename_i t ho
   cases h
   unfold goK isCall
   unfold plainK at he ⊢
   simp only[ho,h3,h4,Bool.false_eq_true,if_false,St.eval,ht t (by simp)] at he ⊢
   cases he
   rfl
  ·rename_i ty t ho
   split at h
   ·rename_i c off hv
    cases h
    unfold goK isCall
    unfold plainK at he ⊢
    simp only[ho,h3,h4,Bool.false_and,Bool.false_eq_true,if_false,St.eval,ht t (by simp),hv] at he ⊢
    rw[loadK_bind]
    have e2:loadK X ty false (.ptr c off) s'.heap some=loadK X ty false (.ptr c off) s.heap some:=by
     unfold loadK
     simp only[hc c (by simp)]
    rw[e2,he]
    rfl
   ·cases h
  ·rename_i ty n ps ho
   split at h
   ·rename_i hn
    cases h
    have e1:(ps.toList.map fun p=>(p.1,s'.eval X p.2))=ps.toList.map fun p=>(p.1,s.eval X p.2):=by
     refine List.map_congr_left fun p hp=>?_
     congr 1
     cases hx:p.2 with
     | tmp t=>exact ht t (List.mem_flatMap.2 ⟨p,hp,by rw[hx];simp[tmpOf]⟩)
     | _=>rfl
    unfold goK isCall
    unfold plainK at he ⊢
    simp only[ho,h3,Bool.false_eq_true,if_false,e1] at he ⊢
    revert he
    generalize (ps.toList.map fun p=>(p.1,s.eval X p.2))=L at hn ⊢
    intro he
    split at he
    ·simp[noHs] at hn
    ·refine (rowsOf_bind (fun e=>some (e.on o.dst s' s'.pend,some e))).trans ?_
     rw[he]
     rfl
   ·cases h
  ·cases h
 ·cases h
theorem stepDK_some (hX:XOk X) (hT:CallTOk X rec.callT) (hH:CallHOk X rec.callH) {A:Amb} {opsA:Array Oper} {hb i:Nat} {o:Oper} {s:St} {k:St→Patch→Option R} {r:R} (ho:opsA[i]?=some o)
  (h:stepDK X rec A opsA.toList hb i o s k=some r):∃ p,k (app1 s p) p=some r∧p.i=i∧PatchOk X A opsA s p:=by
 unfold stepDK at h
 split at h
 ·rename_i g hq
  have hgd:=quick_skip hq
  refine⟨{ i:=i,ts:=g,cs:=[],dst:=o.dst,e:={ val:=.tuple [] } },h,rfl,rfl,fun q hq=>absurd (show q∈([]:List (Nat×Cell)) from hq) (by simp),.inr ⟨rfl,fun s' hs' _=>?_⟩⟩
  obtain⟨s1,e1,g1,g2,g3⟩:=stepK_some hX hT hH (k:=fun s e=>some (s,e)) ho (guard_skip (rec:=rec) A opsA.toList hb i hgd hs' _)
  cases g1
  rw[g3] at g2
  cases hd:o.dst <;> rw[hd] at g2 <;> exact g2
 ·rename_i ts cs hq
  obtain⟨g,us,hgd,hst,rfl⟩:=quick_still hq
  obtain⟨e,he,h⟩:=bind_some h
  split at h
  ·rename_i hcond
   refine⟨{ i:=i,ts:=g ++ us,cs:=cs,dst:=o.dst,e:=e },h,rfl,List.isEmpty_iff.1 hcond.1,fun q hq=>absurd (show q∈e.writes from hq) (by rw[List.isEmpty_iff.1 hcond.2];simp),.inr ⟨rfl,fun s' hs' hc'=>?_⟩⟩
   have hg1:=guard_go (X:=X) (rec:=rec) A opsA.toList hb i hgd (s':=s') (fun t ht=>hs' t (List.mem_append.2 (.inl ht))) (fun s e=>some (s,e))
   rw[still_go (rec:=rec) A opsA.toList hb i hst he s' (fun t ht=>hs' t (List.mem_append.2 (.inr ht))) hc'] at hg1
   obtain⟨s1,e1,g1,g2,g3⟩:=stepK_some hX hT hH ho hg1
   cases g1
   exact g2
  ·cases h
 simp only[St.restrictF_eq] at h
 split at h
 ·rename_i hw
  replace hw:=withinF_within hw
  obtain⟨s1,e,h1,h2,h3⟩:=stepK_some hX hT hH ho h
  split at h1
  ·rename_i hc
   obtain⟨c2,c3,c4⟩:=hc
   have hpd:((if s1.pend=s.pend then none else some s1.pend:Option (List (Option AE))).getD s.pend)=s1.pend:=by
    split
    ·rename_i e;exact e.symm
    ·rfl
   refine⟨{ i:=i,ts:=looksT opsA.toList o,cs:=footC X A opsA.toList hb i o s (looksT opsA.toList o),dst:=o.dst,e:=e.getD { val:=.tuple [] },pend:=if s1.pend=s.pend then none else some s1.pend },?_,rfl,?_,fun q hq=>?_,.inl ⟨hw,fun t ht=>?_,?_⟩⟩
   ·unfold app1
    rw[hpd];exact h1
   ·exact List.isEmpty_iff.1 c2
   ·rw[List.all_eq_true] at c3
    simpa using c3 q hq
   ·rw[List.all_eq_true] at c4
    simpa using c4 t ht
   ·simp only[hpd]
    rw[h3] at h2
    exact h2
  ·cases h1
 ·cases h
theorem refineK_some {R:Type} {s:St} {t:Option Tmp} {k:St→Option R} {r:R} (h:refineK s t k=some r):k s=some r:=by
 cases t with
 | none=>exact h
 | some t =>
  simp only[refineK] at h
  split at h
  ·rename_i v hv
   have hs:∀ b,b=v→({ s with tmps:=s.tmps.set t (.bool b) }:St)=s:=fun b e=>by rw[e,set_getT hv (by simp)]
   cases v with
   | true =>
    simp only[br] at h
    rw[hs true rfl] at h;exact h
   | false =>
    simp only[br] at h
    rw[hs false rfl] at h;exact h
  ·exact h
theorem stepsDK_some (hX:XOk X) (hT:CallTOk X rec.callT) (hH:CallHOk X rec.callH) {A:Amb} {opsA:Array Oper} {hb:Nat}:∀ {l:List (Nat×Oper)} {s:St} {acc:List Patch} {k:St→List Patch→Option R} {r:R},
  (∀ p∈l,opsA[p.1]?=some p.2)→stepsDK X rec A opsA.toList hb l s acc k=some r→∃ ps,k (ps.foldl app1 s) (acc ++ ps)=some r∧ps.map (·.i)=l.map (·.1)∧∀ (j:Nat) p,ps[j]?=some p→PatchOk X A opsA ((ps.take j).foldl app1 s) p:=by
 intro l
 induction l with
 | nil =>
  intro s acc k r _ h
  exact⟨[],by simpa[stepsDK] using h,rfl,fun j p hp=>by simp at hp⟩
 | cons x l ih =>
  intro s acc k r hl h
  obtain⟨i,o⟩:=x
  unfold stepsDK at h
  simp only[St.seqE_eq] at h
  replace h:=refineK_some h
  obtain⟨p,h1,h2,h3⟩:=stepDK_some hX hT hH (hl (i,o) (by simp)) h
  obtain⟨ps,h4,h5,h6⟩:=ih (fun p hp=>hl p (by simp[hp])) h1
  refine⟨p :: ps,by simpa using h4,by simp[h2,h5],fun j q hq=>?_⟩
  cases j with
  | zero=>simp at hq;subst hq;simpa using h3
  | succ j=>simpa using h6 j q (by simpa using hq)
theorem foldl_filter {V:Type} (f:Nat→V→V) (m:Nat→Bool) (h:∀ i v,m i=false→f i v=v):∀ (L:List Nat) (v:V),L.foldl (fun v i=>f i v) v=(L.filter m).foldl (fun v i=>f i v) v:=by
 intro L
 induction L with
 | nil=>intro v;rfl
 | cons i L ih =>
  intro v
  cases hm:m i with
  | true=>simp only[List.foldl_cons,List.filter_cons,hm,if_true];exact ih _
  | false =>
   simp only[List.foldl_cons,List.filter_cons,hm,h i v hm]
   exact ih v
theorem sorted_ext:∀ {l m:List Nat},l.Pairwise (· < ·)→m.Pairwise (· < ·)→(∀ x,x∈l↔x∈m)→l=m:=by
 intro l
 induction l with
 | nil =>
  intro m _ _ h
  cases m with
  | nil=>rfl
  | cons y m=>exact absurd ((h y).2 (by simp)) (by simp)
 | cons x l ih =>
  intro m hl hm h
  cases m with
  | nil=>exact absurd ((h x).1 (by simp)) (by simp)
  | cons y m =>
   rw[List.pairwise_cons] at hl hm
   have hxy:x=y:=by
    have h1:=(h x).1 (by simp)
    have h2:=(h y).2 (by simp)
    rcases List.mem_cons.1 h1 with e | h1
    ·exact e
    ·rcases List.mem_cons.1 h2 with e | h2
     ·exact e.symm
     ·have:=hm.1 x h1;have:=hl.1 y h2;omega
   subst hxy
   congr 1
   refine ih hl.2 hm.2 fun z=>⟨fun hz=>?_,fun hz=>?_⟩
   ·rcases List.mem_cons.1 ((h z).1 (by simp[hz])) with e | h'
    ·subst e;exact absurd (hl.1 z hz) (Nat.lt_irrefl _)
    ·exact h'
   ·rcases List.mem_cons.1 ((h z).2 (by simp[hz])) with e | h'
    ·subst e;exact absurd (hm.1 z hz) (Nat.lt_irrefl _)
    ·exact h'
theorem befM_prefix:∀ (l:List Oper) (acc:List Nat),∃ m,befM acc l=acc ++ m∧m.length=l.length:=by
 intro l
 induction l with
 | nil=>intro acc;exact⟨[],by simp[befM],rfl⟩
 | cons o l ih =>
  intro acc
  obtain⟨m,h1,h2⟩:=ih (acc ++ [befOf acc o])
  exact⟨befOf acc o :: m,by rw[befM,h1];simp,by simp[h2]⟩
theorem befM_get:∀ (l:List Oper) (acc:List Nat) (k:Nat) (o:Oper),l[k]?=some o→(befM acc l).getD (acc.length+k) 0=befOf ((befM acc l).take (acc.length+k)) o:=by
 intro l
 induction l with
 | nil=>intro acc k o h;simp at h
 | cons x l ih =>
  intro acc k o h
  cases k with
  | zero =>
   simp at h;subst h
   obtain⟨m,h1,h2⟩:=befM_prefix l (acc ++ [befOf acc x])
   rw[befM,h1]
   simp[List.getD_eq_getElem?_getD,List.take_append]
  | succ k =>
   have:=ih (acc ++ [befOf acc x]) k o (by simpa using h)
   rw[befM]
   simp only[List.length_append,List.length_cons,List.length_nil] at this
   rw[show acc.length+(k+1)=acc.length+(0+1)+k by omega]
   exact this
def Bef (ops:List Oper) (i j:Nat):Prop:=((befM [] ops).getD i 0).testBit j=true
theorem befOf_bit {acc:List Nat} {o:Oper} {j:Nat} (h:(befOf acc o).testBit j=true):∃ e∈o.after,Region.binds .any e=true∧(j=e.on∨(acc.getD e.on 0).testBit j=true):=by
 unfold befOf at h
 have:∀ (l:List Edge) (s:Nat),(l.foldl (fun s e=>if Region.binds .any e=true then s ||| 2 ^ e.on ||| acc.getD e.on 0 else s) s).testBit j=true →
   s.testBit j=true∨∃ e∈l,Region.binds .any e=true∧(j=e.on∨(acc.getD e.on 0).testBit j=true):=by
  intro l
  induction l with
  | nil=>intro s h;exact .inl h
  | cons e l ih =>
   intro s h
   simp only[List.foldl_cons] at h
   rcases ih _ h with h | ⟨e',h1,h2⟩
   ·split at h
    ·rename_i hb
     rw[Nat.testBit_or,Nat.testBit_or,Bool.or_eq_true,Bool.or_eq_true] at h
     rcases h with (h | h) | h
     ·exact .inl h
     ·refine .inr ⟨e,by simp,hb,.inl ?_⟩
      rw[Nat.testBit_two_pow] at h
      simpa using (of_decide_eq_true h).symm
     ·exact .inr ⟨e,by simp,hb,.inr h⟩
    ·exact .inl h
   ·exact .inr ⟨e',by simp[h1],h2⟩
 rcases this o.after.toList 0 h with h | ⟨e,h1,h2⟩
 ·simp at h
 ·exact⟨e,by simpa using h1,h2⟩
theorem bef_step {ops:List Oper} {i j:Nat} (h:Bef ops i j):∃ o,ops[i]?=some o∧∃ e∈o.after,Region.binds .any e=true∧(j=e.on∨Bef ops e.on j):=by
 unfold Bef at h
 cases ho:ops[i]? with
 | none =>
  obtain⟨m,h1,h2⟩:=befM_prefix ops []
  have:(befM [] ops)[i]?=none:=by
   rw[h1]
   rw[List.getElem?_eq_none_iff] at ho ⊢
   simp;omega
  rw[List.getD_eq_getElem?_getD,this] at h
  simp at h
 | some o =>
  refine⟨o,rfl,?_⟩
  have hg:=befM_get ops [] i o ho
  simp only[List.length_nil,Nat.zero_add] at hg
  rw[hg] at h
  obtain⟨e,h1,h2,h3⟩:=befOf_bit h
  refine⟨e,h1,h2,?_⟩
  rcases h3 with h3 | h3
  ·exact .inl h3
  ·right
   unfold Bef
   rw[List.getD_eq_getElem?_getD,List.getElem?_take] at h3
   split at h3
   ·rw[List.getD_eq_getElem?_getD];exact h3
   ·simp at h3
def appI (ps:List Patch) (s:St) (i:Nat):St:=match ps[i]? with
 | some p=>app1 s p
 | none=>s
def appL (ps:List Patch) (L:List Nat) (s:St):St:=L.foldl (appI ps) s
def fT (ps:List Patch) (t i:Nat) (v:Option AV):Option AV:=match ps[i]? with
 | some p=>tmpEff p.e p.dst t v
 | none=>v
def fC (ps:List Patch) (c i:Nat) (v:Option Cell):Option Cell:=match ps[i]? with
 | some p=>heapEff p.e c v
 | none=>v
def mT (ps:List Patch) (t i:Nat):Bool:=match ps[i]? with
 | some p=>p.modT.contains t
 | none=>false
def mC (ps:List Patch) (c i:Nat):Bool:=match ps[i]? with
 | some p=>p.modC.contains c
 | none=>false
def fP (ps:List Patch) (i:Nat) (v:List (Option AE)):List (Option AE):=match ps[i]? with
 | some p=>p.pend.getD v
 | none=>v
def mP (ps:List Patch) (i:Nat):Bool:=match ps[i]? with
 | some p=>p.pend.isSome
 | none=>false
theorem fP_id {ps:List Patch} {i:Nat} (v:List (Option AE)) (h:mP ps i=false):fP ps i v=v:=by
 unfold mP at h;unfold fP
 split at h
 ·rename_i p hp
  cases hq:p.pend with
  | none=>rfl
  | some x=>rw[hq] at h;cases h
 ·rfl
theorem mP_some {ps:List Patch} {i:Nat} (h:mP ps i=true):∃ p,ps[i]?=some p∧p.pend.isNone=false:=by
 unfold mP at h
 split at h
 ·rename_i p hp
  exact⟨p,hp,by cases hq:p.pend <;> simp[hq] at h ⊢⟩
 ·cases h
theorem fT_id {ps:List Patch} {t i:Nat} (v:Option AV) (h:mT ps t i=false):fT ps t i v=v:=by
 unfold mT at h;unfold fT
 split at h
 ·rename_i p hp
  simp only[Patch.modT,List.contains_eq_mem,List.mem_append,decide_eq_false_iff_not,not_or] at h
  exact tmpEff_out (fun e=>h.1 (by simp[e])) h.2 v
 ·rfl
theorem fC_id {ps:List Patch} {c i:Nat} (v:Option Cell) (h:mC ps c i=false):fC ps c i v=v:=by
 unfold mC at h;unfold fC
 split at h
 ·rename_i p hp
  simp only[Patch.modC,List.contains_eq_mem,decide_eq_false_iff_not] at h
  exact heapEff_out (fun q hq e=>h (List.mem_map.2 ⟨q,hq,e⟩)) v
 ·rfl
theorem dullAll_length:∀ (ds:List Tmp) (l:List AV),(dullAll l ds).length=l.length:=by
 intro ds
 induction ds with
 | nil=>intro l;rfl
 | cons t ds ih=>intro l;simp[dullAll,ih]
section
variable {ps:List Patch} (hg:∀ p∈ps,p.e.grow=[])
include hg
theorem app1_shape {p:Patch} (hp:p∈ps) (s:St):(app1 s p).pend=p.pend.getD s.pend∧(app1 s p).tmps.length=s.tmps.length∧(app1 s p).heap.length=s.heap.length:=by
 refine⟨rfl,?_,?_⟩
 ·unfold app1 Eff.on
  cases p.dst <;> simp[dullAll_length]
 ·unfold app1 Eff.on
  simp[hg p hp,setAll_length]
theorem appL_shape:∀ (L:List Nat) (s:St),(appL ps L s).pend=L.foldl (fun v i=>fP ps i v) s.pend∧(appL ps L s).tmps.length=s.tmps.length∧(appL ps L s).heap.length=s.heap.length:=by
 intro L
 induction L with
 | nil=>intro s;exact⟨rfl,rfl,rfl⟩
 | cons i L ih =>
  intro s
  have h:=ih (appI ps s i)
  have h1:(appI ps s i).pend=fP ps i s.pend∧(appI ps s i).tmps.length=s.tmps.length∧(appI ps s i).heap.length=s.heap.length:=by
   unfold appI fP
   split
   ·rename_i p hp;exact app1_shape hg (List.mem_of_getElem? hp) s
   ·exact⟨rfl,rfl,rfl⟩
  refine⟨?_,h.2.1.trans h1.2.1,h.2.2.trans h1.2.2⟩
  simp only[List.foldl_cons]
  rw[← h1.1];exact h.1
theorem appL_tmp (t:Nat):∀ (L:List Nat) (s:St),(appL ps L s).tmps[t]?=L.foldl (fun v i=>fT ps t i v) (s.tmps[t]?):=by
 intro L
 induction L with
 | nil=>intro s;rfl
 | cons i L ih =>
  intro s
  have h:=ih (appI ps s i)
  simp only[List.foldl_cons]
  have e:(appI ps s i).tmps[t]?=fT ps t i (s.tmps[t]?):=by
   unfold appI fT
   split
   ·exact on_tmps _ _ _ _ _
   ·rfl
  rw[← e];exact h
theorem appL_heap (c:Nat):∀ (L:List Nat) (s:St),(appL ps L s).heap[c]?=L.foldl (fun v i=>fC ps c i v) (s.heap[c]?):=by
 intro L
 induction L with
 | nil=>intro s;rfl
 | cons i L ih =>
  intro s
  have h:=ih (appI ps s i)
  simp only[List.foldl_cons]
  have e:(appI ps s i).heap[c]?=fC ps c i (s.heap[c]?):=by
   unfold appI fC
   split
   ·rename_i p hp;exact on_heap _ _ _ _ (hg p (List.mem_of_getElem? hp)) _
   ·rfl
  rw[← e];exact h
end
theorem appL_range {ps:List Patch}:∀ (k:Nat),k≤ps.length→∀ (s:St),appL ps (List.range k) s=(ps.take k).foldl app1 s:=by
 intro k
 induction k with
 | zero=>intro _ s;simp[appL]
 | succ k ih =>
  intro hk s
  have h:=ih (by omega) s
  rw[List.range_succ,List.take_add_one]
  unfold appL at h ⊢
  rw[List.foldl_append,h,List.foldl_append]
  rw[List.getElem?_eq_getElem (show k<ps.length by omega)]
  simp[appI,List.getElem?_eq_getElem (show k<ps.length by omega)]
theorem disj_not {a b:List Nat} (h:disj a b=true) {x:Nat} (h1:x∈a) (h2:x∈b):False:=by
 unfold disj at h
 rw[List.all_eq_true] at h
 have:=h x h1
 simp[h2] at this
theorem mT_some {ps:List Patch} {t i:Nat} (h:mT ps t i=true):∃ p,ps[i]?=some p∧t∈p.modT:=by
 unfold mT at h
 split at h
 ·rename_i p hp;exact⟨p,hp,by simpa using h⟩
 ·cases h
theorem mC_some {ps:List Patch} {c i:Nat} (h:mC ps c i=true):∃ p,ps[i]?=some p∧c∈p.modC:=by
 unfold mC at h
 split at h
 ·rename_i p hp;exact⟨p,hp,by simpa using h⟩
 ·cases h
structure Good (ops:List Oper) (ps:List Patch) (L:List Nat):Prop where
 nodup:L.Nodup
 lt:∀ i∈L,i<ops.length
 clos:∀ i∈L,∀ j,Bef ops i j→j∈L
 tmp:∀ t,(L.filter (mT ps t)).Pairwise (· < ·)
 heap:∀ c,(L.filter (mC ps c)).Pairwise (· < ·)
 pend:(L.filter (mP ps)).Pairwise (· < ·)
theorem Good.nil {ops:List Oper} {ps:List Patch}:Good ops ps []:=⟨List.nodup_nil,(fun i h=>by cases h),(fun i h=>by cases h),(fun t=>by simp),(fun c=>by simp),by simp⟩
structure Free (ops:List Oper) (ps:List Patch):Prop where
 edge:∀ (i:Nat) o,ops[i]?=some o→∀ e∈o.after,Region.binds .any e=true→e.on<i
 apart:∀ (i j:Nat) p q,i<j→ps[i]?=some p→ps[j]?=some q→Bef ops j i∨(apart1 p q=true∧apart1 q p=true)
theorem bitsOf_mem {x:Nat} {l:List Nat} (h:x∈l):(bitsOf l).testBit x=true:=by
 rw[bitsOf_contains];simpa using h
theorem bitsOf_disj {a b:List Nat} (h:Nat.beq (Nat.land (bitsOf a) (bitsOf b)) 0=true):disj a b=true:=by
 unfold disj
 rw[List.all_eq_true]
 intro x hx
 have h0:(bitsOf a) &&& (bitsOf b)=0:=Nat.eq_of_beq_eq_true h
 cases hb:b.contains x with
 | false=>rfl
 | true =>
  have h1:=bitsOf_mem hx
  have h2:=bitsOf_mem (show x∈b by simpa using hb)
  have:((bitsOf a) &&& (bitsOf b)).testBit x=true:=by rw[Nat.testBit_and,h1,h2];rfl
  rw[h0] at this
  simp at this
theorem apartB_apart1 {p q:Patch} (h:apartB p.mask q.mask=true):apart1 p q=true:=by
 unfold apartB Patch.mask at h
 simp only[Bool.and_eq_true] at h
 unfold apart1
 rw[bitsOf_disj h.1,bitsOf_disj h.2.1,h.2.2]
 rfl
theorem maskSeq_eq {R:Type} (p:Patch) (k:Mask→R):maskSeq p k=k p.mask:=by
 unfold maskSeq;simp only[natSeq_eq];rfl
theorem masksSeq_eq {R:Type}:∀ (l:List Patch) (k:List Mask→R),masksSeq l k=k (l.map Patch.mask)
 | [],_=>rfl
 | p :: l,k=>by simp only[masksSeq,maskSeq_eq,masksSeq_eq l,List.map_cons]
theorem natsSeq_eq {R:Type}:∀ (l:List Nat) (k:List Nat→R),natsSeq l k=k l
 | [],_=>rfl
 | p :: l,k=>by simp only[natsSeq,natSeq_eq,natsSeq_eq l]
theorem freeRow_get {b:Nat} {q:Mask}:∀ (l:List Mask) (n:Nat),freeRow b q n l=true→∀ (i:Nat) p,l[i]?=some p→b.testBit (n+i)=true∨(apartB p q=true∧apartB q p=true)
 | [],n,_,i,p,hp=>by simp at hp
 | x :: l,n,h,i,p,hp=>by
  have h':cond (cond (tb b n) true (cond (apartB x q) (apartB q x) false)) (freeRow b q (Nat.succ n) l) false=true:=h
  rw[tb_eq] at h'
  cases i with
  | zero =>
   simp at hp;subst hp
   cases h1:b.testBit n with
   | true=>exact .inl (by simpa using h1)
   | false =>
    rw[h1] at h'
    cases h2:apartB x q with
    | false=>rw[h2] at h';simp at h'
    | true =>
     cases h3:apartB q x with
     | false=>rw[h2,h3] at h';simp at h'
     | true=>exact .inr ⟨rfl,rfl⟩
  | succ i =>
   have h2:freeRow b q (Nat.succ n) l=true:=by
    revert h'
    cases (cond (b.testBit n) true (cond (apartB x q) (apartB q x) false)) with
    | true=>exact fun h=>h
    | false=>intro h;cases h
   have:=freeRow_get l _ h2 i p (by simpa using hp)
   rw[show n+(i+1)=Nat.succ n+i by omega];exact this
theorem freeRows_get:∀ (qs:List Mask) (bs:List Nat) (pre:List Mask),freeRows bs pre qs=true→∀ (i j:Nat) p q,i<pre.length+j→(pre ++ qs)[i]?=some p→qs[j]?=some q→(bs.getD j 0).testBit i=true∨(apartB p q=true∧apartB q p=true)
 | [],bs,pre,_,i,j,p,q,_,_,hq=>by simp at hq
 | x :: qs,[],pre,h,i,j,p,q,_,_,hq=>by simp[freeRows] at h
 | x :: qs,b :: bs,pre,h,i,j,p,q,hij,hp,hq=>by
  simp only[freeRows,Bool.and_eq_true] at h
  cases j with
  | zero =>
   simp at hq;subst hq
   have:=freeRow_get pre 0 h.1 i p (by rwa [List.getElem?_append_left (by omega)] at hp)
   simpa using this
  | succ j =>
   have:=freeRows_get qs bs (pre ++ [x]) h.2 i j p q (by simp;omega) (by simpa using hp) (by simpa using hq)
   simpa using this
theorem edgesOk_get:∀ (l:List Oper) (n:Nat),edgesOk n l=true→∀ (i:Nat) o,l[i]?=some o→∀ e∈o.after,Region.binds .any e=true→e.on<n+i
 | [],n,_,i,o,ho,_,_,_=>by simp at ho
 | x :: l,n,h,i,o,ho,e,he,hb=>by
  simp only[edgesOk,Bool.and_eq_true,List.all_eq_true] at h
  cases i with
  | zero =>
   simp at ho;subst ho
   have:=h.1 e (by simpa using he)
   rw[hb] at this
   have h2:Nat.blt e.on n=true:=by simpa using this
   simpa[Nat.blt_eq] using h2
  | succ i =>
   have:=edgesOk_get l _ h.2 i o (by simpa using ho) e he hb
   omega
theorem freeOrder_some {ops:List Oper} {ps:List Patch} (h:freeOrder ops ps=true):Free ops ps:=by
 unfold freeOrder at h
 rw[natsSeq_eq,masksSeq_eq,Bool.and_eq_true] at h
 obtain⟨h1,h2⟩:=h
 refine⟨fun i o ho e he hbd=>?_,fun i j p q hij hp hq=>?_⟩
 ·have:=edgesOk_get ops 0 h1 i o ho e he hbd
  omega
 ·have:=freeRows_get _ _ _ h2 i j p.mask q.mask (by simpa using hij) (by simp[hp]) (by simp[hq])
  rcases this with h | h
  ·exact .inl h
  ·exact .inr ⟨apartB_apart1 h.1,apartB_apart1 h.2⟩
section
variable {ops:List Oper} {ps:List Patch} {L:List Nat} {k:Nat} {pk:Patch} (hf:Free ops ps) (hw:∀ p∈ps,∀ q∈p.e.writes,q.1∈p.cs) (hL:Good ops ps L) (hk:k∉L) (hpk:ps[k]?=some pk) (hpre:∀ j,Bef ops k j→j∈L)
include hf hw hL hk hpk hpre
theorem modC_cs {p:Patch} (hp:p∈ps) {c:Nat} (hc:c∈p.modC):c∈p.cs:=by
 obtain⟨q,h1,rfl⟩:=List.mem_map.1 hc
 exact hw p hp q h1
theorem tmp_lt {t:Nat} (ht:t∈pk.ts ++ pk.modT) {i:Nat} (hi:i∈L) (hm:mT ps t i=true):i<k:=by
 rcases Nat.lt_trichotomy i k with h | h | h
 ·exact h
 ·subst h;exact absurd hi hk
 ·obtain⟨p,hp,hpm⟩:=mT_some hm
  rcases hf.apart k i pk p h hpk hp with hb | ⟨_,hb⟩
  ·exact absurd (hL.clos i hi k hb) hk
  ·simp only[apart1,Bool.and_eq_true] at hb
   exact (disj_not hb.1 hpm ht).elim
theorem tmp_mem {t:Nat} (ht:t∈pk.ts ++ pk.modT) {i:Nat} (hi:i<k) (hm:mT ps t i=true):i∈L:=by
 obtain⟨p,hp,hpm⟩:=mT_some hm
 rcases hf.apart i k p pk hi hp hpk with hb | ⟨hb,_⟩
 ·exact hpre i hb
 ·simp only[apart1,Bool.and_eq_true] at hb
  exact (disj_not hb.1 hpm ht).elim
theorem heap_lt {c:Nat} (ht:c∈pk.cs) {i:Nat} (hi:i∈L) (hm:mC ps c i=true):i<k:=by
 rcases Nat.lt_trichotomy i k with h | h | h
 ·exact h
 ·subst h;exact absurd hi hk
 ·obtain⟨p,hp,hpm⟩:=mC_some hm
  rcases hf.apart k i pk p h hpk hp with hb | ⟨_,hb⟩
  ·exact absurd (hL.clos i hi k hb) hk
  ·simp only[apart1,Bool.and_eq_true] at hb
   exact (disj_not hb.2.1 hpm ht).elim
theorem heap_mem {c:Nat} (ht:c∈pk.cs) {i:Nat} (hi:i<k) (hm:mC ps c i=true):i∈L:=by
 obtain⟨p,hp,hpm⟩:=mC_some hm
 rcases hf.apart i k p pk hi hp hpk with hb | ⟨hb,_⟩
 ·exact hpre i hb
 ·simp only[apart1,Bool.and_eq_true] at hb
  exact (disj_not hb.2.1 hpm ht).elim
theorem pend_lt {i:Nat} (hi:i∈L) (hm:mP ps i=true):i<k:=by
 rcases Nat.lt_trichotomy i k with h | h | h
 ·exact h
 ·subst h;exact absurd hi hk
 ·obtain⟨p,hp,hpm⟩:=mP_some hm
  rcases hf.apart k i pk p h hpk hp with hb | ⟨_,hb⟩
  ·exact absurd (hL.clos i hi k hb) hk
  ·simp only[apart1,Bool.and_eq_true] at hb
   rw[hpm] at hb;exact absurd hb.2.2 (by simp)
theorem pend_mem {i:Nat} (hi:i<k) (hm:mP ps i=true):i∈L:=by
 obtain⟨p,hp,hpm⟩:=mP_some hm
 rcases hf.apart i k p pk hi hp hpk with hb | ⟨hb,_⟩
 ·exact hpre i hb
 ·simp only[apart1,Bool.and_eq_true] at hb
  rw[hpm] at hb;exact absurd hb.2.2 (by simp)
theorem Good.push (hlt:k<ops.length):Good ops ps (L ++ [k]):={
 nodup:=by
  rw[List.nodup_append]
  refine⟨hL.nodup,by simp,fun a ha b hb e=>?_⟩
  simp at hb;subst hb;subst e;exact hk ha
 lt:=fun i hi=>by
  rcases List.mem_append.1 hi with h | h
  ·exact hL.lt i h
  ·simp at h;subst h;exact hlt
 clos:=fun i hi j hb=>by
  rcases List.mem_append.1 hi with h | h
  ·exact List.mem_append.2 (.inl (hL.clos i h j hb))
  ·simp at h;subst h;exact List.mem_append.2 (.inl (hpre j hb))
 tmp:=fun t=>by
  rw[List.filter_append,List.pairwise_append]
  refine⟨hL.tmp t,by rw[List.filter_cons];split <;> simp,fun i hi j hj=>?_⟩
  rw[List.mem_filter] at hi hj
  obtain⟨hj1,hj2⟩:=hj
  simp at hj1;subst hj1
  obtain⟨p,hp,hpm⟩:=mT_some hj2
  rw[hpk] at hp;cases hp
  exact tmp_lt hf hw hL hk hpk hpre (List.mem_append.2 (.inr hpm)) hi.1 hi.2
 heap:=fun c=>by
  rw[List.filter_append,List.pairwise_append]
  refine⟨hL.heap c,by rw[List.filter_cons];split <;> simp,fun i hi j hj=>?_⟩
  rw[List.mem_filter] at hi hj
  obtain⟨hj1,hj2⟩:=hj
  simp at hj1;subst hj1
  obtain⟨p,hp,hpm⟩:=mC_some hj2
  rw[hpk] at hp;cases hp
  exact heap_lt hf hw hL hk hpk hpre (modC_cs hf hw hL hk hpk hpre (List.mem_of_getElem? hpk) hpm) hi.1 hi.2
 pend:=by
  rw[List.filter_append,List.pairwise_append]
  refine⟨hL.pend,by rw[List.filter_cons];split <;> simp,fun i hi j hj=>?_⟩
  rw[List.mem_filter] at hi hj
  obtain⟨hj1,hj2⟩:=hj
  simp at hj1;subst hj1
  exact pend_lt hf hw hL hk hpk hpre hi.1 hi.2 }
theorem tmp_same {t:Nat} (ht:t∈pk.ts):L.filter (mT ps t)=(List.range k).filter (mT ps t):=by
 refine sorted_ext (hL.tmp t) (List.Pairwise.filter _ List.pairwise_lt_range) fun i=>?_
 rw[List.mem_filter,List.mem_filter,List.mem_range]
 have ht':t∈pk.ts ++ pk.modT:=List.mem_append.2 (.inl ht)
 exact⟨fun h=>⟨tmp_lt hf hw hL hk hpk hpre ht' h.1 h.2,h.2⟩,fun h=>⟨tmp_mem hf hw hL hk hpk hpre ht' h.1 h.2,h.2⟩⟩
theorem heap_same {c:Nat} (ht:c∈pk.cs):L.filter (mC ps c)=(List.range k).filter (mC ps c):=by
 refine sorted_ext (hL.heap c) (List.Pairwise.filter _ List.pairwise_lt_range) fun i=>?_
 rw[List.mem_filter,List.mem_filter,List.mem_range]
 exact⟨fun h=>⟨heap_lt hf hw hL hk hpk hpre ht h.1 h.2,h.2⟩,fun h=>⟨heap_mem hf hw hL hk hpk hpre ht h.1 h.2,h.2⟩⟩
theorem pend_same (hg:∀ p∈ps,p.e.grow=[]) (s:St):(appL ps L s).pend=(appL ps (List.range k) s).pend:=by
 rw[(appL_shape hg L s).1,(appL_shape hg (List.range k) s).1,foldl_filter _ (mP ps) (fun i v h=>fP_id v h),foldl_filter _ (mP ps) (fun i v h=>fP_id v h) (List.range k)]
 congr 1
 refine sorted_ext hL.pend (List.Pairwise.filter _ List.pairwise_lt_range) fun i=>?_
 rw[List.mem_filter,List.mem_filter,List.mem_range]
 exact⟨fun h=>⟨pend_lt hf hw hL hk hpk hpre h.1 h.2,h.2⟩,fun h=>⟨pend_mem hf hw hL hk hpk hpre h.1 h.2,h.2⟩⟩
theorem tmps_same (hg:∀ p∈ps,p.e.grow=[]) (s:St) {t:Nat} (ht:t∈pk.ts):getT (appL ps L s).tmps t=getT (appL ps (List.range k) s).tmps t:=by
 apply getT_eq
 rw[appL_tmp hg,appL_tmp hg,foldl_filter _ (mT ps t) (fun i v h=>fT_id v h),foldl_filter _ (mT ps t) (fun i v h=>fT_id v h) (List.range k),tmp_same hf hw hL hk hpk hpre ht]
theorem cells_same (hg:∀ p∈ps,p.e.grow=[]) (s:St) {c:Nat} (ht:c∈pk.cs):(appL ps L s).heap[c]?=(appL ps (List.range k) s).heap[c]?:=by
 rw[appL_heap hg,appL_heap hg,foldl_filter _ (mC ps c) (fun i v h=>fC_id v h),foldl_filter _ (mC ps c) (fun i v h=>fC_id v h) (List.range k),heap_same hf hw hL hk hpk hpre ht]
theorem restrict_same (hg:∀ p∈ps,p.e.grow=[]) (s:St):(appL ps L s).restrict pk.ts pk.cs=(appL ps (List.range k) s).restrict pk.ts pk.cs:=by
 obtain⟨a1,a2,a3⟩:=appL_shape hg L s
 obtain⟨b1,b2,b3⟩:=appL_shape hg (List.range k) s
 unfold St.restrict
 congr 1
 ·apply List.ext_getElem?
  intro t
  by_cases ht:t∈pk.ts
  ·rw[mask_in ht,mask_in ht,appL_tmp hg,appL_tmp hg,foldl_filter _ (mT ps t) (fun i v h=>fT_id v h),foldl_filter _ (mT ps t) (fun i v h=>fT_id v h) (List.range k),tmp_same hf hw hL hk hpk hpre ht]
  ·rw[mask_out ht,mask_out ht]
   rcases Nat.lt_or_ge t s.tmps.length with h | h
   ·rw[List.getElem?_eq_getElem (by omega),List.getElem?_eq_getElem (by omega)];rfl
   ·rw[List.getElem?_eq_none (by omega),List.getElem?_eq_none (by omega)]
 ·apply List.ext_getElem?
  intro c
  by_cases ht:c∈pk.cs
  ·rw[mask_in ht,mask_in ht,appL_heap hg,appL_heap hg,foldl_filter _ (mC ps c) (fun i v h=>fC_id v h),foldl_filter _ (mC ps c) (fun i v h=>fC_id v h) (List.range k),heap_same hf hw hL hk hpk hpre ht]
  ·rw[mask_out ht,mask_out ht]
   rcases Nat.lt_or_ge c s.heap.length with h | h
   ·rw[List.getElem?_eq_getElem (by omega),List.getElem?_eq_getElem (by omega)];rfl
   ·rw[List.getElem?_eq_none (by omega),List.getElem?_eq_none (by omega)]
 ·exact pend_same hf hw hL hk hpk hpre hg s
end
theorem appL_all {ops:List Oper} {ps:List Patch} {L:List Nat} (hL:Good ops ps L) (hall:∀ i<ops.length,i∈L) (hg:∀ p∈ps,p.e.grow=[]) (hlen:ps.length=ops.length) (s:St):appL ps L s=appL ps (List.range ops.length) s:=by
 obtain⟨a1,a2,a3⟩:=appL_shape hg L s
 obtain⟨b1,b2,b3⟩:=appL_shape hg (List.range ops.length) s
 have e1:(appL ps L s).tmps=(appL ps (List.range ops.length) s).tmps:=by
  apply List.ext_getElem?
  intro t
  rw[appL_tmp hg,appL_tmp hg,foldl_filter _ (mT ps t) (fun i v h=>fT_id v h),foldl_filter _ (mT ps t) (fun i v h=>fT_id v h) (List.range _)]
  congr 1
  refine sorted_ext (hL.tmp t) (List.Pairwise.filter _ List.pairwise_lt_range) fun i=>?_
  rw[List.mem_filter,List.mem_filter,List.mem_range]
  exact⟨fun h=>⟨hL.lt i h.1,h.2⟩,fun h=>⟨hall i h.1,h.2⟩⟩
 have e2:(appL ps L s).heap=(appL ps (List.range ops.length) s).heap:=by
  apply List.ext_getElem?
  intro c
  rw[appL_heap hg,appL_heap hg,foldl_filter _ (mC ps c) (fun i v h=>fC_id v h),foldl_filter _ (mC ps c) (fun i v h=>fC_id v h) (List.range _)]
  congr 1
  refine sorted_ext (hL.heap c) (List.Pairwise.filter _ List.pairwise_lt_range) fun i=>?_
  rw[List.mem_filter,List.mem_filter,List.mem_range]
  exact⟨fun h=>⟨hL.lt i h.1,h.2⟩,fun h=>⟨hall i h.1,h.2⟩⟩
 have e3:(appL ps L s).pend=(appL ps (List.range ops.length) s).pend:=by
  rw[a1,b1,foldl_filter _ (mP ps) (fun i v h=>fP_id v h),foldl_filter _ (mP ps) (fun i v h=>fP_id v h) (List.range _)]
  congr 1
  refine sorted_ext hL.pend (List.Pairwise.filter _ List.pairwise_lt_range) fun i=>?_
  rw[List.mem_filter,List.mem_filter,List.mem_range]
  exact⟨fun h=>⟨hL.lt i h.1,h.2⟩,fun h=>⟨hall i h.1,h.2⟩⟩
 calc appL ps L s=⟨(appL ps L s).tmps,(appL ps L s).heap,(appL ps L s).pend⟩:=rfl
  _=_:=by rw[e1,e2,e3]
theorem draw_any {A:Amb} {opsA:Array Oper} {ps:List Patch} {s0:St} (hf:Free opsA.toList ps) (hlen:ps.length=opsA.size) (hi:ps.map (·.i)=List.range opsA.size)
  (hok:∀ (j:Nat) p,ps[j]?=some p→PatchOk X A opsA ((ps.take j).foldl app1 s0) p):∀ (fuel:Nat) (L:List Nat) (listed:Array Bool),Good opsA.toList ps L→listed.size=opsA.size →
  (∀ i<opsA.size,listed.getD i true=decide (i∈L))→fuel+L.length=opsA.size →
  ∀ (T:Tags) (σ lm:Nat→Option Nat) (ro:Option Nat) (a:Act) (w:World),Rel X T σ lm A ro (appL ps L s0) a w→∀ Q,(∀ a' w',StepTo X T σ lm A ro w (ps.foldl app1 s0) a' w'→Q .normal a' w') →
   wpAnyIn (fence ro) 0 X.P .any opsA Q fuel listed a w:=by
 have hg:∀ p∈ps,p.e.grow=[]:=fun p hp=>by
  obtain⟨j,hj,e⟩:=List.getElem_of_mem hp
  exact (hok j p (by rw[List.getElem?_eq_getElem hj,e])).1
 have hw:∀ p∈ps,∀ q∈p.e.writes,q.1∈p.cs:=fun p hp=>by
  obtain⟨j,hj,e⟩:=List.getElem_of_mem hp
  exact (hok j p (by rw[List.getElem?_eq_getElem hj,e])).2.1
 have hfin:appL ps (List.range opsA.toList.length) s0=ps.foldl app1 s0:=by
  rw[appL_range _ (by simp[hlen])]
  simp[← hlen]
 have getF:∀ (L:List Nat) (listed:Array Bool),listed.size=opsA.size→(∀ i<opsA.size,listed.getD i true=decide (i∈L))→∀ j,listed.getD j false=true→j∈L:=fun L listed hs hl j hj=>by
  have hlt:j<listed.size:=by
   rcases Nat.lt_or_ge j listed.size with h | h
   ·exact h
   ·rw[Array.getD_eq_getD_getElem?,Array.getElem?_eq_none h] at hj;cases hj
  have:=hl j (by omega)
  rw[Array.getD_eq_getD_getElem?,Array.getElem?_eq_getElem hlt] at this hj
  simp only[Option.getD_some] at this hj
  rw[hj] at this
  simpa using this.symm
 have done:∀ (L:List Nat) (listed:Array Bool),Good opsA.toList ps L→listed.size=opsA.size→(∀ i<opsA.size,listed.getD i true=decide (i∈L))→Region.ready .any opsA listed=[]→∀ i<opsA.size,i∈L:=by
  intro L listed hL hs hl hr i
  induction i using Nat.strongRecOn with
  | _ i ih =>
   intro hi'
   refine Classical.byContradiction fun hn=>?_
   have:i∈Region.ready .any opsA listed:=by
    rw[mem_ready]
    refine⟨by rw[hl i hi'];simpa using hn,opsA[i],Array.getElem?_eq_getElem hi',fun e he hbd=>?_⟩
    have hlt:=hf.edge i opsA[i] (by rw[Array.getElem?_toList];exact Array.getElem?_eq_getElem hi') e he hbd
    have hm:=ih e.on hlt (by omega)
    have:=hl e.on (by omega)
    rw[Array.getD_eq_getD_getElem?,Array.getElem?_eq_getElem (by omega)] at this ⊢
    simp only[Option.getD_some] at this ⊢
    rw[this];simpa using hm
   rw[hr] at this;cases this
 intro fuel
 induction fuel with
 | zero =>
  intro L listed hL hs hl hfu T σ lm ro a w hR Q hq
  have hall:∀ i<opsA.size,i∈L:=by
   intro i hi'
   refine Classical.byContradiction fun hn=>?_
   have h1:(i :: L).Nodup:=List.nodup_cons.2 ⟨hn,hL.nodup⟩
   have h2:(i :: L) ⊆ List.range opsA.size:=fun x hx=>by
    rcases List.mem_cons.1 hx with rfl | hx
    ·exact List.mem_range.2 hi'
    ·exact List.mem_range.2 (by simpa using hL.lt x hx)
   have:=List.Nodup.length_le_of_subset h1 h2
   simp at this;omega
  refine⟨?_,?_⟩
  ·rw[List.eq_nil_iff_forall_not_mem]
   intro j hj
   rw[mem_ready] at hj
   obtain⟨h1,o,ho,_⟩:=hj
   have hlt:j<opsA.size:=(Array.getElem?_eq_some_iff.1 ho).1
   rw[hl j hlt] at h1
   simp[hall j hlt] at h1
  ·refine hq _ _ ?_
   rw[← hfin,← appL_all hL (by simpa using hall) hg (by simpa using hlen)]
   exact StepTo.refl hR
 | succ fuel ih =>
  intro L listed hL hs hl hfu T σ lm ro a w hR Q hq
  refine⟨fun hr=>?_,fun k hk=>?_⟩
  ·have hall:=done L listed hL hs hl hr
   refine hq _ _ ?_
   rw[← hfin,← appL_all hL (by simpa using hall) hg (by simpa using hlen)]
   exact StepTo.refl hR
  ·rw[mem_ready] at hk
   obtain⟨hk0,o,ho,hedges⟩:=hk
   have hlt:k<opsA.size:=(Array.getElem?_eq_some_iff.1 ho).1
   have hkL:k∉L:=by rw[hl k hlt] at hk0;simpa using hk0
   have hklt:k<ps.length:=by omega
   have hpk:ps[k]?=some ps[k]:=List.getElem?_eq_getElem hklt
   have hpre:∀ j,Bef opsA.toList k j→j∈L:=by
    intro j hb
    obtain⟨o',ho',e,he,hbe,hor⟩:=bef_step hb
    rw[Array.getElem?_toList,ho] at ho'
    cases ho'
    have hm:=getF L listed hs hl e.on (hedges e he hbe)
    rcases hor with rfl | hb'
    ·exact hm
    ·exact hL.clos _ hm j hb'
   have hpi:(ps[k]).i=k:=by
    have:(ps.map (·.i))[k]?=some k:=by rw[hi];simp[hlt]
    rw[List.getElem?_map,hpk] at this
    simpa using this
   obtain⟨c2,c3,c145⟩:=hok k _ hpk
   rw[← appL_range k (by omega)] at c145
   have hpend:(appL ps (List.range k) s0).pend=(appL ps L s0).pend:=(pend_same hf hw hL hkL hpk hpre hg s0).symm
   have hstep:StepOk X A opsA (appL ps L s0) ((ps[k]).e.on (ps[k]).dst (appL ps L s0) ((ps[k]).pend.getD (appL ps L s0).pend)) k (ps[k]).dst:=by
    rcases c145 with ⟨c1,c4,c5⟩ | ⟨d2,d3⟩
    ·have hsame:=restrict_same hf hw hL hkL hpk hpre hg s0
     rw[← hsame] at c1 c5
     rw[hpend] at c5
     have hstep:=StepOk.frame c1 c2 c3 c4 c5
     rw[hpi] at hstep
     exact hstep
    ·have h:=d3 (appL ps L s0) (fun t ht=>tmps_same hf hw hL hkL hpk hpre hg s0 ht) (fun c hc=>cells_same hf hw hL hkL hpk hpre hg s0 hc)
     rw[hpi] at h
     rw[d2]
     exact h
   have hnext:appL ps (L ++ [k]) s0=(ps[k]).e.on (ps[k]).dst (appL ps L s0) ((ps[k]).pend.getD (appL ps L s0).pend):=by
    unfold appL
    rw[List.foldl_append]
    simp[appI,hpk,app1]
   refine hstep T σ lm ro a w hR _ Q fun v w1 hs1=>?_
   obtain⟨T1,σ1,K1,hσ1,R1⟩:=hs1
   refine ih (L ++ [k]) _ (Good.push hf hw hL hkL hpk hpre (by simpa using hlt)) (by simpa using hs) ?_ (by simp;omega) T1 σ1 lm ro _ w1 (by rw[hnext];exact R1) Q fun a' w' hs'=>hq a' w' (StepTo.trans K1 hσ1 hs')
   intro i hi'
   rw[Array.getD_eq_getD_getElem?,Array.getElem?_setIfInBounds]
   by_cases hik:k=i
   ·subst hik
    rw[if_pos rfl,if_pos (by omega)]
    simp
   ·rw[if_neg hik,← Array.getD_eq_getD_getElem?,hl i hi']
    have:i≠k:=fun e=>hik e.symm
    simp[this]
theorem regionK_some (hX:XOk X) (hM:X.P.follows .mixedOrders=true) (hT:CallTOk X rec.callT) (hH:CallHOk X rec.callH) {A:Amb} {id:Nat} {opsA:Array Oper} {draw:Bool} {s:St} {k:St→Option R} {r:R}
  (h:regionK X rec A opsA draw s k=some r):∃ s',k s'=some r∧∀ (T:Tags) (σ lm:Nat→Option Nat) (ro:Option Nat) (a:Act) (w:World),Rel X T σ lm A ro s a w→∀ Q,(∀ a' w',StepTo X T σ lm A ro w s' a' w'→Q .normal a' w') →
   (Code.region id opsA draw).wpIn (fence ro) 0 X.P Q a w:=by
 unfold regionK at h
 simp only at h
 have hz:(opsA.toList.zipIdx.map fun p=>(p.2,p.1)).map (·.1)=List.range opsA.size:=zipIdx_ops opsA
 split at h
 ·rename_i hd
  obtain⟨ps,h1,h2,h3⟩:=stepsDK_some hX hT hH (zipIdx_get opsA) h
  split at h1
  ·rename_i hfo
   simp only[List.nil_append] at hfo
   refine⟨_,h1,fun T σ lm ro a w hR Q hq=>?_⟩
   subst hd
   have hmap:ps.map (·.i)=List.range opsA.size:=h2.trans hz
   have hlen:ps.length=opsA.size:=by
    have:=congrArg List.length hmap
    simpa using this
   refine wpIn_region_any hM ?_
   refine draw_any (freeOrder_some hfo) hlen hmap h3 opsA.size [] _ Good.nil (by simp) (fun i hi=>by simp[hi]) (by simp) T σ lm ro a _ ?_ Q fun a' w' hs=>hq a' w' ?_
   ·exact (hR.room _).of_heap rfl
   ·obtain⟨T',σ',K,hs1,R1⟩:=hs
    exact⟨T',σ',(Keeps.drew T w).trans K,hs1,R1⟩
  ·cases h1
 ·rename_i hd
  obtain⟨s',h1,h2⟩:=stepsK_some hX hT hH (zipIdx_get opsA) h
  refine⟨s',h1,fun T σ lm ro a w hR Q hq=>?_⟩
  obtain rfl:draw=false:=by simpa using hd
  refine wpIn_region ?_
  rw[← hz]
  exact h2 T σ lm ro a w (hR.room _) Q hq
end Go.Am
namespace Go.Am
open Go
def AmbOk (A:Amb):Prop:=∀ r∈A.loops,∀ p∈ptrsL r.tmps,p<A.base
def GoTo (X:Ext) (T:Tags) (σ lm:Nat→Option Nat) (A:Amb) (ro:Option Nat) (w:World) (s':St) (a':Act) (w':World):Prop :=
 ∃ T' σ',Keeps T w T' w'∧(∀ c,c<A.base→∀ b,σ c=some b→σ' c=some b)∧Rel X T' σ' lm A ro s' a' w'
section
variable {X:Ext} {T:Tags} {σ lm:Nat→Option Nat} {A:Amb} {ro:Option Nat} {s:St} {a:Act} {w w1:World}
theorem GoTo.of_step {s':St} {a':Act} {w':World} (h:StepTo X T σ lm A ro w s' a' w'):GoTo X T σ lm A ro w s' a' w':=by
 obtain⟨T',σ',K,hs,R⟩:=h
 exact⟨T',σ',K,fun c _ b e=>hs c b e,R⟩
theorem GoTo.refl (h:Rel X T σ lm A ro s a w):GoTo X T σ lm A ro w s a w:=.of_step (.refl h)
theorem GoTo.trans {T':Tags} {σ':Nat→Option Nat} {s2:St} {a2:Act} {w2:World} (hk:Keeps T w T' w1) (hs:∀ c,c<A.base→∀ b,σ c=some b→σ' c=some b)
  (h:GoTo X T' σ' lm A ro w1 s2 a2 w2):GoTo X T σ lm A ro w s2 a2 w2:=by
 obtain⟨T2,σ2,k2,s2',r2⟩:=h
 exact⟨T2,σ2,hk.trans k2,fun c hc b e=>s2' c hc b (hs c hc b e),r2⟩
theorem swapN_swapN (c r x:Nat):swapN c r (swapN c r x)=x:=by
 unfold swapN
 by_cases h1:x=c
 ·subst h1
  by_cases h2:r=x
  ·subst h2;simp
  ·simp[h2]
 ·by_cases h2:x=r
  ·subst h2;simp
  ·simp[h1,h2]
theorem swapN_lt {c r x n:Nat} (hc:n≤c) (hr:n≤r) (hx:x<n):swapN c r x=x:=by
 unfold swapN
 rw[if_neg (by omega),if_neg (by omega)]
theorem swapL_get {c r:Nat} {h:List Cell} (hc:c<h.length) (hr:r<h.length) (x:Nat):(swapL c r h)[x]?=h[swapN c r x]?:=by
 unfold swapL swapN
 rw[List.getElem?_set]
 by_cases h2:r=x
 ·subst h2
  by_cases h1:r=c
  ·subst h1;simp[hc]
  ·simp[h1,hr,hc]
 ·rw[if_neg h2,List.getElem?_set]
  by_cases h1:c=x
  ·subst h1
   simp[hc,hr]
  ·rw[if_neg h1,if_neg (fun e=>h1 e.symm),if_neg (fun e=>h2 e.symm)]
def Tag.ren (g:Nat→Nat):Tag→Tag
 | .cell c j=>.cell (g c) j
 | .spare (.leaf c j) q=>.spare (.leaf (g c) j) q
 | t=>t
def Tags.ren (g:Nat→Nat) (T:Tags):Tags:=fun b o=>(T b o).ren g
theorem tagsRen_fix (g:Nat→Nat) (T:Tags):(T.ren g).fix=T.fix:=by
 funext b o
 unfold Tags.fix Tags.ren
 cases T b o with
 | spare l j=>cases l <;> rfl
 | _=>rfl
theorem Rel.swap (hR:Rel X T σ lm A ro s a w) (hA:AmbOk A) {c r:Nat} (hc:c<s.heap.length) (hr:r<s.heap.length) (hcb:A.base≤c) (hrb:A.base≤r):GoTo X T σ lm A ro w (s.swap c r) a w:=by
 have gg:=swapN_swapN c r
 have hget:∀ x,(s.swap c r).heap[x]?=(s.heap[swapN c r x]?).map (Cell.ren (swapN c r)):=fun x=>by
  unfold St.swap
  rw[List.getElem?_map,swapL_get hc hr]
 have hσ:∀ p b,σ p=some b→(fun x=>σ (swapN c r x)) (swapN c r p)=some b:=fun p b e=>by simp only[gg];exact e
 have hown:∀ x j q b o,T.own (.leaf (swapN c r x) j) q b o→(T.ren (swapN c r)).own (.leaf x j) q b o:=fun x j q b o e=>by
  have e':T b o=.spare (.leaf (swapN c r x) j) q:=e
  show T.ren (swapN c r) b o=_
  unfold Tags.ren;rw[e'];simp only[Tag.ren,gg]
 have hfix:Fix.le T.fix (T.ren (swapN c r)).fix:=by rw[tagsRen_fix];exact Fix.le.refl _
 refine⟨T.ren (swapN c r),fun x=>σ (swapN c r x),⟨rfl,rfl,rfl,Nat.le_refl _,fun b o v e=>by unfold Tags.ren;rw[e];rfl,fun b o _ e=>by unfold Tags.ren;rw[e];rfl,fun _ _ _ _=>⟨rfl,rfl⟩,fun _ _ _=>rfl⟩,
  fun x hx b e=>by simp only[swapN_lt hcb hrb hx];exact e,⟨⟨?_,?_,?_,?_,?_,?_,hR.inv.plen,?_⟩,?_,?_,?_,?_,hR.nodup,hR.round,by rw[tagsRen_fix];exact hR.glob⟩⟩
 ·intro b o v e
  rw[← Tags.fix_eq,tagsRen_fix,Tags.fix_eq] at e
  exact hR.inv.fixed b o v e
 ·intro b o l j e
  cases ht:T b o with
  | spare l' j'=>exact hR.inv.spare b o l' j' ht
  | _=>unfold Tags.ren at e;rw[ht] at e;simp[Tag.ren] at e
 ·intro b o e
  exact hR.inv.live b o fun hf=>e (by unfold Tags.ren;rw[hf];rfl)
 ·intro x b e
  obtain⟨q,hq,hl⟩:=hR.inv.dom _ b e
  exact⟨q.ren (swapN c r),by rw[hget,hq];rfl,by rw[live_ren];exact hl⟩
 ·intro x q hq
  rw[hget] at hq
  cases hx:s.heap[swapN c r x]? with
  | none=>rw[hx] at hq;cases hq
  | some y =>
   rw[hx] at hq
   obtain⟨l,rfl,rfl⟩:=cell_ren_var (Option.some.inj hq)
   obtain⟨b,e1,e2,e3⟩:=hR.inv.var _ l hx
   refine⟨b,e1,e2,fun j av hj=>?_⟩
   rw[renL_get] at hj
   cases ej:l[j]? with
   | none=>rw[ej] at hj;cases hj
   | some av0 =>
    rw[ej] at hj
    obtain rfl:=Option.some.inj hj
    obtain⟨v,f1,f2,f3,f4⟩:=e3 j av0 ej
    exact⟨v,f1,f2,by unfold Tags.ren;rw[f3];simp only[Tag.ren,gg],f4.ren hfix _ (fun q b o e=>hown x j q b o e) fun p _ b' e=>hσ p b' e⟩
 ·intro x y hy
  rw[hget] at hy
  cases hx:s.heap[swapN c r x]? with
  | none=>rw[hx] at hy;cases hy
  | some y0 =>
   rw[hx] at hy
   obtain rfl:=Option.some.inj hy
   refine (hR.inv.mem _ y0 hx).mono (fun hv=>cell_ren_other hv) (fun l hv=>⟨_,by rw[hv];rfl⟩) (fun p e=>e) hfix (fun b k e=>⟨by unfold Tags.ren;rw[e];simp only[Tag.ren,gg],rfl,rfl⟩) fun b k e=>by unfold Tags.ren;rw[e];simp only[Tag.ren,gg]
 ·intro i rr hrr
  obtain⟨b,rec,e1,e2,e3,e4,e5,e6,e7,e8,e9,e10⟩:=hR.inv.loop i rr hrr
  refine⟨b,rec,e1,by unfold Tags.ren;rw[e2];rfl,e3,e4,e5,e6,e7,e8,fun t=>?_,e10⟩
  exact (e9 t).cut hfix (fun _ _ _ x=>x) fun q hq b' e'=>by
   simp only[swapN_lt hcb hrb (hA rr (List.mem_of_getElem? hrr) q (mem_getT hq))];exact e'
 ·show (renL _ _).length=_
  rw[renL_length];exact hR.len
 ·exact hR.nt
 ·intro t
  show Rep _ _ _ _ (getT (renL _ _) t) _
  rw[getT_renL]
  refine (hR.tm t).ren hfix _ (fun q b o e=>?_) fun p _ b' e=>hσ p b' e
  have e':T b o=.spare (.tmp t) q:=e
  show T.ren (swapN c r) b o=_
  unfold Tags.ren;rw[e'];rfl
 ·intro d hd
  obtain⟨D,e1,e2,e3⟩:=hR.marks d hd
  exact⟨D,e1,e2,fun o=>by unfold Tags.ren;rw[e3];rfl⟩
theorem Rel.pad (hR:Rel X T σ lm A ro s a w) (n:Nat):Rel X T σ lm A ro (s.pad n) a w:=hR.room _
theorem pad_length (s:St) (n:Nat):(s.pad n).heap.length=max n s.heap.length:=by
 unfold St.pad;simp;omega
theorem nil_hs {F:Fix} {lm:Nat→Option Nat} {ow:Own} {r:Nat} {e:Ty} {u:Value} (hr:σ r=some 0) (h:Rep F σ lm ow .nil u):Rep F σ lm ow (.hs r e 0 0) u:=by
 cases h
 exact .hs _ _ _ _ _ _ ⟨0,hr,by simp,by simp[rowC],none,by simp[rowC],fun h=>by simp[rowC] at h,fun _=>by simp[rowC]⟩
theorem nilAT_rep {F:Fix} {lm:Nat→Option Nat} {ow:Own} {r:Nat} {at':AT} {v:AV} {u:Value} (hr:σ r=some 0) (h:Rep F σ lm ow v u):Rep F σ lm ow (nilAT r at' v) u:=by
 unfold nilAT
 split
 ·split
  ·exact nil_hs hr h
  ·exact h
 ·split
  ·exact nil_hs hr h
  ·exact h
 ·exact h
theorem nilRow_get {r:Nat}:∀ (l:List AT) (vs:List AV) (j:Nat) (av:AV),(nilRow r l vs)[j]?=some av→∃ v,vs[j]?=some v∧(av=v∨∃ a,av=nilAT r a v):=by
 intro l
 induction l with
 | nil=>intro vs j av h;exact⟨av,by cases vs with
  | nil=>simp[nilRow] at h
  | cons=>simpa[nilRow] using h,.inl rfl⟩
 | cons a l ih =>
  intro vs j av h
  cases vs with
  | nil=>simp[nilRow] at h
  | cons v vs =>
   cases j with
   | zero=>simp[nilRow] at h;exact⟨v,rfl,.inr ⟨a,h.symm⟩⟩
   | succ j=>simp[nilRow] at h;simpa using ih vs j av h
theorem nilHeap_get {r:Nat}:∀ (p:List CT) (h:List Cell) (c:Nat) (x:Cell),(nilHeap r p h)[c]?=some x→∃ y,h[c]?=some y∧(x=y∨∃ l vs,y=.var vs∧x=.var (nilRow r l vs)):=by
 intro p
 induction p with
 | nil=>intro h c x hx;exact⟨x,by cases h with
  | nil=>simp[nilHeap] at hx
  | cons=>simpa[nilHeap] using hx,.inl rfl⟩
 | cons t p ih =>
  intro h c x hx
  cases h with
  | nil=>cases t <;> simp[nilHeap] at hx
  | cons y h =>
   have key:∀ z:Cell,(z=y∨∃ l vs,y=.var vs∧z=.var (nilRow r l vs))→(z :: nilHeap r p h)[c]?=some x→∃ y',(y :: h)[c]?=some y'∧(x=y'∨∃ l vs,y'=.var vs∧x=.var (nilRow r l vs)):=by
    intro z hz hx
    cases c with
    | zero=>simp at hx;subst hx;exact⟨y,rfl,hz⟩
    | succ c=>simp at hx;simpa using ih h c x hx
   unfold nilHeap at hx
   split at hx
   ·rename_i l p' vs h' e1 e2
    cases e1;cases e2
    exact key _ (.inr ⟨l,vs,rfl,rfl⟩) hx
   ·rename_i t0 l p' vs h' e1 e2
    cases e1;cases e2
    exact key _ (.inr ⟨_,vs,rfl,rfl⟩) hx
   ·rename_i t' p' y' h' _ _ e1 e2
    cases e1;cases e2
    exact key _ (.inl rfl) hx
   ·rename_i hne1 hne2 hne3
    exact absurd rfl (hne3 _ _ _ _ rfl)
theorem nilHeap_of {r:Nat} {p:List CT} {h:List Cell} {c:Nat} {y:Cell} (hy:h[c]?=some y):∃ x,(nilHeap r p h)[c]?=some x∧(x=y∨∃ l vs,y=.var vs∧x=.var (nilRow r l vs)):=by
 have hlen:∀ (p:List CT) (h:List Cell),(nilHeap r p h).length=h.length:=by
  intro p
  induction p with
  | nil=>intro h;cases h <;> rfl
  | cons t p ih =>
   intro h
   cases h with
   | nil=>cases t <;> rfl
   | cons y h =>
    unfold nilHeap
    split
    ·rename_i e1 e2;cases e1;cases e2;simp[ih]
    ·rename_i e1 e2;cases e1;cases e2;simp[ih]
    ·rename_i e1 e2;cases e1;cases e2;simp[ih]
    ·rename_i hne;exact absurd rfl (hne _ _ _ _ rfl)
 have hlt:=get_lt hy
 have hx:(nilHeap r p h)[c]?=some ((nilHeap r p h)[c]'(by rw[hlen];exact hlt)):=List.getElem?_eq_getElem _
 obtain⟨y',h1,h2⟩:=nilHeap_get p h c _ hx
 rw[hy] at h1;cases h1
 exact⟨_,hx,h2⟩
theorem nilTm_rep {F:Fix} {lm:Nat→Option Nat} {ow:Nat→Own} {us:Array Value} {r:Nat} (hr:σ r=some 0):∀ (l:List (Tmp×AT)) {vs:List AV},(∀ t,Rep F σ lm (ow t) (getT vs t) (us.getD t undef)) →
  (nilTm r l vs).length=vs.length∧∀ t,Rep F σ lm (ow t) (getT (nilTm r l vs) t) (us.getD t undef):=by
 intro l
 induction l with
 | nil=>intro vs h;exact⟨rfl,h⟩
 | cons a l ih =>
  intro vs h
  unfold nilTm
  split
  ·rename_i e1;cases e1
  ·rename_i vs _ _ t r' e l' e1
   cases e1
   split
   ·rename_i hn
    split
    ·have:=ih (vs:=vs.set t (.hs r e 0 0)) fun t'=>by
      rw[getT_set]
      split
      ·rename_i ht
       obtain⟨rfl,_⟩:=ht
       have h0:=h t
       rw[hn] at h0
       exact nil_hs hr h0
      ·exact h t'
     exact⟨by rw[this.1];simp,this.2⟩
    ·exact ih h
   ·exact ih h
  ·rename_i e1;cases e1;exact ih h
theorem Rel.nils (hR:Rel X T σ lm A ro s a w) {r:Nat} (hr:σ r=some 0) (p:Tpl):Rel X T σ lm A ro { s with tmps:=nilTm r p.tmps s.tmps,heap:=nilHeap r p.heap s.heap } a w:=by
 obtain⟨n1,n2⟩:=nilTm_rep (ow:=fun t=>T.own (.tmp t)) hr p.tmps hR.tm
 refine⟨⟨hR.inv.fixed,hR.inv.spare,hR.inv.live,?_,?_,?_,hR.inv.plen,hR.inv.loop⟩,by rw[← hR.len];exact n1,hR.nt,n2,hR.marks,hR.nodup,hR.round,hR.glob⟩
 ·intro c b e
  obtain⟨q,hq,hl⟩:=hR.inv.dom c b e
  obtain⟨x,h1,h2⟩:=nilHeap_of (r:=r) (p:=p.heap) hq
  refine⟨x,h1,?_⟩
  rcases h2 with rfl | ⟨l,vs,rfl,rfl⟩
  ·exact hl
  ·rfl
 ·intro c q hq
  obtain⟨y,h1,h2⟩:=nilHeap_get p.heap s.heap c _ hq
  rcases h2 with rfl | ⟨l,vs,rfl,h3⟩
  ·exact hR.inv.var c q h1
  ·cases h3
   obtain⟨b,g1,g2,g3⟩:=hR.inv.var c vs h1
   refine⟨b,g1,g2,fun j av hj=>?_⟩
   obtain⟨v,k1,k2⟩:=nilRow_get l vs j av hj
   obtain⟨u,e1,e2,e3,e4⟩:=g3 j v k1
   refine⟨u,e1,e2,e3,?_⟩
   rcases k2 with rfl | ⟨a',rfl⟩
   ·exact e4
   ·exact nilAT_rep hr e4
 ·intro c x hx
  obtain⟨y,h1,h2⟩:=nilHeap_get p.heap s.heap c _ hx
  rcases h2 with rfl | ⟨l,vs,rfl,rfl⟩
  ·exact hR.inv.mem c _ h1
  ·trivial
theorem Rel.alignRow (hR:Rel X T σ lm A ro s a w) (hA:AmbOk A) (p:Tpl) (r:Nat):GoTo X T σ lm A ro w (alignRow p A.base r s) a w:=by
 unfold Go.Am.alignRow
 split
 ·exact .refl hR
 ·rename_i c e _
  split
  ·exact .refl hR
  ·split
   ·rename_i hc
    refine (hR.pad (r+1)).swap hA ?_ ?_ hc.1 hc.2.1
    ·rw[pad_length];omega
    ·rw[pad_length];omega
   ·exact .refl hR
 ·rename_i e _
  split
  ·rename_i hc
   simp only
   have R1:=hR.pad (r+1)
   have hl1:r<(s.pad (r+1)).heap.length:=by rw[pad_length];omega
   generalize s.pad (r+1)=s1 at R1 hl1
   have step2:GoTo X T σ lm A ro w (s1.free r) a w:=by
    unfold St.free
    split
    ·exact .refl R1
    ·refine (R1.pad (s1.heap.length+1)).swap hA ?_ ?_ (by omega) hc.1
     ·rw[pad_length];omega
     ·rw[pad_length];omega
   obtain⟨T2,σ2,K2,m2,R2⟩:=step2
   generalize s1.free r=s2 at R2
   refine GoTo.trans K2 m2 ?_
   split
   ·rename_i hslot
    have R3:=R2.rowNil hslot e hc.2.1
    have hm:∀ c b,σ2 c=some b→(fun c=>if c=r then some 0 else σ2 c) c=some b:=fun c b e'=>by
     by_cases hcr:c=r
     ·subst hcr;rw[R2.slot_none hslot] at e';cases e'
     ·simp only[if_neg hcr];exact e'
    have R4:=R3.nils (r:=r) (by simp) p
    exact⟨T2,_,Keeps.refl _ _,fun c _ b e'=>hm c b e',R4⟩
   ·exact .refl R2
  ·exact .refl hR
theorem Rel.align (hA:AmbOk A) (p:Tpl):∀ (l:List Nat) {s:St} {T:Tags} {σ:Nat→Option Nat},Rel X T σ lm A ro s a w→GoTo X T σ lm A ro w (alignAll p A.base l s) a w:=by
 intro l
 induction l with
 | nil=>intro s T σ hR;exact .refl hR
 | cons r l ih =>
  intro s T σ hR
  obtain⟨T1,σ1,K1,m1,R1⟩:=hR.alignRow hA p r
  exact GoTo.trans K1 m1 (ih R1)
end
end Go.Am
