import Derived.Shelf.SlGeneric
import Derived.Ground.SlsfProg
import Derived.Ground.SlgnProg
import Derived.Ground.SlgcProg
import Derived.Shelf.SlSortCmp.NoneTotal
import Derived.Shelf.SlicesE.Clone
import Derived.Shelf.SlicesG.Cmp
import Derived.Test.YtipafalnnbojkaaGreatProg
import Derived.StillTailTactics
import Derived.RegionTactic
import Derived.KernelRfl
import Derived.Test.YtipafalnnbojkaaGreatRows
import Derived.WalkKit
import Derived.ProofKit
import Derived.OpenShut
import Derived.Deep.DeepHandedRow
import Derived.Lib.LaidTab
import Derived.Shelf.Vars
import Derived.Test.YtipafalnnbojkaaGreatPC
import Derived.Test.YtipafalnnbojkaaGreatPB
import Derived.Test.YtipafalnnbojkaaGreatPD
set_option linter.unusedVariables false
set_option linter.unusedSimpArgs false
set_option linter.unnecessarySimpa false
set_option linter.unusedSectionVars false
namespace Go.Proofs
open Go.Shelf
def Tryz.laysF6_ren:Go.Shelf.Ren:=⟨fun | 6=>130 | 15=>168 | 14=>167 | 28=>194 | 29=>195 | 20=>186 | 21=>187 | 22=>188 | 23=>189 | 24=>190 | 25=>191 | 26=>192 | 27=>193 | 46=>203 | 47=>204 | 48=>205 | 49=>206 | 50=>207 | 57=>208 | n=>n,fun | 22=>65 | 24=>23 | 25=>192 | 3=>3 | 39=>124 | 0=>0 | 53=>233 | 55=>235 | 4=>4 | 46=>226 | 45=>225 | 50=>230 | 5=>5 | 9=>9 | 66=>241 | 70=>245 | 76=>247 | 77=>220 | n=>n,fun | n=>n⟩
theorem Tryz.laysF6:Go.Proofs.SlLaysF0.n6 Tryz.prog Tryz.laysF6_ren:={
 mixed:=by kernel_rfl
 f6:=⟨Tryz.f130.name,by decide,Tryz.func130.trans (congrArg some (by kernel_rfl))⟩
 f14:=⟨Tryz.f167.name,by decide,Tryz.func167.trans (congrArg some (by kernel_rfl))⟩
 f15:=Tryz.func168.trans (congrArg some (by kernel_rfl))
 f20:=⟨Tryz.f186.name,by decide,Tryz.func186.trans (congrArg some (by kernel_rfl))⟩
 f21:=⟨Tryz.f187.name,by decide,Tryz.func187.trans (congrArg some (by kernel_rfl))⟩
 f22:=⟨Tryz.f188.name,by decide,Tryz.func188.trans (congrArg some (by kernel_rfl))⟩
 f23:=⟨Tryz.f189.name,by decide,Tryz.func189.trans (congrArg some (by kernel_rfl))⟩
 f24:=⟨Tryz.f190.name,by decide,Tryz.func190.trans (congrArg some (by kernel_rfl))⟩
 f25:=⟨Tryz.f191.name,by decide,Tryz.func191.trans (congrArg some (by kernel_rfl))⟩
 f26:=⟨Tryz.f192.name,by decide,Tryz.func192.trans (congrArg some (by kernel_rfl))⟩
 f27:=⟨Tryz.f193.name,by decide,Tryz.func193.trans (congrArg some (by kernel_rfl))⟩
 f28:=Tryz.func194.trans (congrArg some (by kernel_rfl))
 f29:=Tryz.func195.trans (congrArg some (by kernel_rfl))
 f46:=⟨Tryz.f203.name,by decide,Tryz.func203.trans (congrArg some (by kernel_rfl))⟩
 f47:=Tryz.func204.trans (congrArg some (by kernel_rfl))
 f48:=Tryz.func205.trans (congrArg some (by kernel_rfl))
 f49:=⟨Tryz.f206.name,by decide,Tryz.func206.trans (congrArg some (by kernel_rfl))⟩
 f50:=⟨Tryz.f207.name,by decide,Tryz.func207.trans (congrArg some (by kernel_rfl))⟩
 f57:=⟨Tryz.f208.name,by decide,Tryz.func208.trans (congrArg some (by kernel_rfl))⟩
 t0:=Tryz.underlying0
 a0:=Tryz.isAgg0
 z0:=Tryz.sizeOf0
 v0:=Tryz.zeroValue0
 t3:=Tryz.underlying3
 a3:=Tryz.isAgg3
 z3:=Tryz.sizeOf3
 v3:=Tryz.zeroValue3
 t4:=Tryz.underlying4
 a4:=Tryz.isAgg4
 z4:=Tryz.sizeOf4
 v4:=Tryz.zeroValue4
 t5:=Tryz.underlying5
 a5:=Tryz.isAgg5
 z5:=Tryz.sizeOf5
 v5:=Tryz.zeroValue5
 t9:=Tryz.underlying9
 a9:=Tryz.isAgg9
 z9:=Tryz.sizeOf9
 v9:=Tryz.zeroValue9
 t22:=Tryz.underlying65
 a22:=Tryz.isAgg65
 z22:=Tryz.sizeOf65
 v22:=Tryz.zeroValue65
 t25:=Tryz.underlying192
 a25:=Tryz.isAgg192
 z25:=Tryz.sizeOf192
 v25:=Tryz.zeroValue192
 t39:=Tryz.underlying124
 a39:=Tryz.isAgg124
 z39:=Tryz.sizeOf124
 v39:=Tryz.zeroValue124
 t45:=Tryz.underlying225
 a45:=Tryz.isAgg225
 z45:=Tryz.sizeOf225
 v45:=Tryz.zeroValue225
 t46:=Tryz.underlying226
 a46:=Tryz.isAgg226
 z46:=Tryz.sizeOf226
 v46:=Tryz.zeroValue226
 t50:=Tryz.underlying230
 a50:=Tryz.isAgg230
 z50:=Tryz.sizeOf230
 v50:=Tryz.zeroValue230
 t53:=Tryz.underlying233
 a53:=Tryz.isAgg233
 z53:=Tryz.sizeOf233
 v53:=Tryz.zeroValue233
 t55:=Tryz.underlying235
 a55:=Tryz.isAgg235
 z55:=Tryz.sizeOf235
 v55:=Tryz.zeroValue235
 t66:=Tryz.underlying241
 a66:=Tryz.isAgg241
 z66:=Tryz.sizeOf241
 v66:=Tryz.zeroValue241
 t70:=Tryz.underlying245
 a70:=Tryz.isAgg245
 z70:=Tryz.sizeOf245
 v70:=Tryz.zeroValue245
 t76:=Tryz.underlying247
 a76:=Tryz.isAgg247
 z76:=Tryz.sizeOf247
 v76:=Tryz.zeroValue247
 t77:=Tryz.underlying220
 a77:=Tryz.isAgg220
 z77:=Tryz.sizeOf220
 v77:=Tryz.zeroValue220 }
def Tryz.laysE41_ren:Go.Shelf.Ren:=⟨fun | 41=>119 | n=>n,fun | 22=>66 | 23=>23 | 4=>4 | n=>n,fun | n=>n⟩
theorem Tryz.laysE41:Go.Proofs.SlLaysE0.n41 Tryz.prog Tryz.laysE41_ren:={
 mixed:=by kernel_rfl
 f41:=⟨Tryz.f119.name,by decide,Tryz.func119.trans (congrArg some (by kernel_rfl))⟩
 t4:=Tryz.underlying4
 a4:=Tryz.isAgg4
 z4:=Tryz.sizeOf4
 v4:=Tryz.zeroValue4
 t22:=Tryz.underlying66
 a22:=Tryz.isAgg66
 z22:=Tryz.sizeOf66
 v22:=Tryz.zeroValue66 }
def Tryz.laysE41b_ren:Go.Shelf.Ren:=⟨fun | 41=>129 | n=>n,fun | 22=>65 | 23=>23 | 4=>4 | n=>n,fun | n=>n⟩
theorem Tryz.laysE41b:Go.Proofs.SlLaysE0.n41 Tryz.prog Tryz.laysE41b_ren:={
 mixed:=by kernel_rfl
 f41:=⟨Tryz.f129.name,by decide,Tryz.func129.trans (congrArg some (by kernel_rfl))⟩
 t4:=Tryz.underlying4
 a4:=Tryz.isAgg4
 z4:=Tryz.sizeOf4
 v4:=Tryz.zeroValue4
 t22:=Tryz.underlying65
 a22:=Tryz.isAgg65
 z22:=Tryz.sizeOf65
 v22:=Tryz.zeroValue65 }
def Tryz.laysC5_ren:Go.Shelf.Ren:=⟨fun | 5=>133 | 7=>169 | n=>n,fun | 22=>3 | 3=>3 | 4=>4 | n=>n,fun | n=>n⟩
theorem Tryz.laysC5:Go.Proofs.SlLaysC2.n5 Tryz.prog Tryz.laysC5_ren:={
 mixed:=by kernel_rfl
 f5:=⟨Tryz.f133.name,by decide,Tryz.func133.trans (congrArg some (by kernel_rfl))⟩
 f7:=⟨Tryz.f169.name,by decide,Tryz.func169.trans (congrArg some (by kernel_rfl))⟩
 t3:=Tryz.underlying3
 a3:=Tryz.isAgg3
 z3:=Tryz.sizeOf3
 v3:=Tryz.zeroValue3
 t4:=Tryz.underlying4
 a4:=Tryz.isAgg4
 z4:=Tryz.sizeOf4
 v4:=Tryz.zeroValue4
 t22:=Tryz.underlying3
 a22:=Tryz.isAgg3
 z22:=Tryz.sizeOf3
 v22:=Tryz.zeroValue3 }
end Go.Proofs
namespace Go.Am
open Go Go.Proofs Go.RowKit Go.Lib Go.Shelf
variable {P:Program} {ρ:Ren}
set_option maxHeartbeats 2000000 in
set_option maxRecDepth 100000 in
theorem clone_any (L:SlLaysE0.n41 P ρ) (i0:TypeInfo) (z:Value) (size bytes:Nat) (hi:P.info? (ρ.t 23)=some i0) (hz0:i0.zero=some z) (hz1:i0.size=size) (hz2:i0.bytes=bytes) (hzs:z.cells.size=size) (hsz:0<size)
  (z23:∀ w,(Go.sizeOf (ρ.t 23)).run P w=.ok size w) (ad:Addr) (n c:Nat) (news:List Value) (w:World) (hl:news.length=n*size) (hn:n≤maxLen) (hbig:n*bytes≤140737488355328)
  (hc:∀ j u,news[j]?=some u→w.cell? (ad.add j)=some u) (h1:∀ u∈news,u.oneCell'=true) :
  Calls P (ρ.f 41) #[.slice (some ad) n c] w fun e w'=>∃ v',e=.returned v'∧w'.ownsRow w.heap.size (ρ.t 23) size v' n news∧Below w.heap.size w w':=by
 have mixed:=L.mixed;have t4:=L.t4;have a4:=L.a4;have z4:=L.z4;have v4:=L.v4;have t22:=L.t22;have a22:=L.a22;have z22:=L.z22;have v22:=L.v22
 have q22:∀ (w:World) (a:Option Addr) (n c n' c':Nat),(binOp .eql (ρ.t 22) (.slice a n c) (.slice none n' c')).run P w=.ok (.bool a.isNone) w:=fun w a n c n' c'=>Lib.run_eql_slice_nil w _ _ a n c n' c' L.t22
 have u22:∀ w,Sem.run P (underlying (ρ.t 22)) w=.ok (TypeDesc.slice (ρ.t 23)) w:=run_underlying t22
 have A:Aside (∀ j u,news[j]?=some u→w.cell? (ad.add j)=some u):=hc
 clear hc
 obtain⟨_,_,FG⟩:=L.f41
 go_enter FG,SlBodyN.n41_ntmps ρ
 go_wp2_with (at_builtin;refine wpList_append_own _ rfl _ _ (ρ.t 22) rfl w.heap.size (ρ.t 23) i0 z size bytes t22 hi hz0 hz1 hz2 hzs hsz _ _ _ rfl (World.ownsRow_made w #[] 0 (Nat.le_refl _) (Nat.zero_le _) (by simp)) ad n c news rfl ?qc1 ?qc2 ?qc3 ?qc4 ?qc5 ?qc6 ?_)
 case qc1=>exact hl
 case qc2 =>
  intro j u hj
  exact Lib.cell?_alloc_some _ (A.out j u hj)
 case qc3=>exact h1
 case qc4=>rw[Nat.zero_add];exact hn
 case qc5=>rw[Nat.zero_add];exact hbig
 case qc6=>simp
 intro v' w1 hown hgrow hnil
 go_wp2
 go_ret
 refine⟨v',rfl,by simpa using hown,?_⟩
 exact ((Below.refl _ w).alloc (Nat.le_refl _) _).grown hgrow (by simp) (by intro k hk;simp[Value.ownBlock] at hk;omega)
end Go.Am
namespace Go.Am
open Go Go.Proofs Go.RowKit Go.Lib Go.Shelf
theorem callsOk_fun {X:Ext} {g:FuncId} {fd:Func} {c:Code} {lm:Nat→Option Nat} {vs:List Value} {w:World} {K:Value→World→Prop} (hf:X.P.funcs[g]?=some fd) (hb:fd.body=some c)
  (h:Calls X.P g vs.toArray w fun e w'=>∃ u,e=.returned u∧K u w'):CallsOk X.P (.func g) lm vs w K:=by
 refine⟨fd,c,hf,hb,callsIn_wide.2 (h.mono ?_)⟩
 rintro e w' ⟨u,rfl,hk⟩
 exact hk
theorem srcK_raw {X:Ext} {H:List Cell} {e:Ty} {y:AV} {R:Type} {k:List e.den→Option R} {r:R} (h:srcK H e y k=some r) :
  ∃ ys,k ys=some r∧∀ {s:St} (_:s.heap=H) {T:Tags} {σ lm:Nat→Option Nat} {A:Amb} {ro:Option Nat} {a:Act} {w:World} (_:Rel X T σ lm A ro s a w) {ow:Own} {v:Value} (_:Rep T.fix σ lm ow y v)
  (_:0<e.width),∃ css ad cap,v=.slice ad ys.length cap∧AllD T.fix e ys css∧(∀ a,ad=some a→∀ j u,css.flatten[j]?=some u→w.cell? (a.add j)=some u)∧(ad=none→ys=[]):=by
 unfold srcK at h
 split at h
 ·rename_i c e' lo len
  split at h
  ·rename_i he
   subst he
   split at h
   ·rename_i cell hc
    obtain⟨xs,hxs,h'⟩:=bind_some h
    clear h
    obtain rfl:=asRow_some hxs
    rw[br_eq] at h'
    split at h'
    ·rename_i hl
     simp only[decide_eq_true_eq] at hl
     refine⟨_,h',fun {s} hsH {T σ lm A ro a w} hR {ow v} hv hw=>?_⟩
     cases hv with
     | hs _ _ _ _ _ _ hq =>
     obtain⟨p,p1,p2,p3,ad,rfl,p5,p6⟩:=hq
     obtain⟨css,h1,h2⟩:=hR.rowPart (by rw[hsH];exact hc) p1 hl
     have hlen:((xs.drop lo).take len).length=len:=by simp;omega
     have hcl:=h1.len
     rw[hlen] at hcl
     refine⟨css,ad,_,by rw[hlen],h1,fun a ha j u hj=>?_,fun hn=>?_⟩
     ·subst ha
      have hlt:0<len:=by
       rcases Nat.eq_zero_or_pos len with h0 | h0
       ·subst h0
        have:=lt_of_get hj
        omega
       ·exact h0
      have h5:=p5 (by omega)
      cases h5
      rw[add_none];exact h2 j u hj
     ·have:=p6 hn
      apply List.eq_nil_of_length_eq_zero
      omega
    ·cases h'
   ·cases h
  ·cases h
 ·obtain⟨ys,hys,h⟩:=bind_some h
  refine⟨ys,h,fun {s} hsH {T σ lm A ro a w} hR {ow v} hv hw=>?_⟩
  unfold asRow at hys
  split at hys
  ·cases hys
   cases hv
   exact⟨[],none,0,rfl,rfl,fun a ha=>(by cases ha),fun _=>rfl⟩
  ·rename_i own e' zs _
   split at hys
   ·rename_i he;subst he
    cases hys
    cases hv with
    | slice _ _ _ _ ad cap hc hr ho =>
    obtain⟨css,h1,h2⟩:=hr.all hw
    refine⟨css,ad,cap,rfl,h1,fun a ha j u hj=>?_,fun hn=>?_⟩
    ·obtain⟨ad',e1,e2⟩:=h2 j u hj
     rw[ha] at e1;cases e1
     exact hR.fixedCell e2
    ·have hl:=h1.len
     have h0:css.flatten=[]:=by
      cases hq:css.flatten with
      | nil=>rfl
      | cons c cs=>obtain⟨ad,e1,_⟩:=h2 0 c (by rw[hq];rfl);rw[hn] at e1;cases e1
     rw[h0] at hl
     have hl':zs.length*e'.width=0:=by simpa using hl.symm
     rcases Nat.mul_eq_zero.1 hl' with hl | hl
     ·exact List.eq_nil_of_length_eq_zero hl
     ·omega
   ·cases hys
  ·cases hys
theorem clone_ok {X:Ext} {ρ:Ren} (L:SlLaysE0.n41 X.P ρ) {fd:Func} (hf:X.P.funcs[ρ.f 41]?=some fd) (hbs:fd.body.isSome=true) {e:Ty} {bb:Nat} (hinfo:((X.P.info? (ρ.t 23)).map fun i=>(i.zero.map fun z=>z.cells.size,i.size,i.bytes))=some (some e.width,e.width,bb))
  (hbb:bb*8796093022208≤140737488355328) (hw:0<e.width) (z23:∀ w,(Go.sizeOf (ρ.t 23)).run X.P w=.ok e.width w) {R:Type} {args:List AV} {h:List Cell} {k:AV→List Cell→Option R} {r:R} (hr:(specClone e).run args h k=some r) :
  ∃ v h',k v h'=some r∧∀ T σ lm ls ps w us,Inv T σ lm h ls ps w→GlobOk X T.fix→RepL T.fix σ lm args us→CallsOk X.P (.func (ρ.f 41)) lm us w (PostH T σ lm h ls w v h' ps):=by
 obtain⟨c,hb⟩:=Option.isSome_iff_exists.1 hbs
 obtain⟨i0,z,hi,hz0,hz1,hby,hzs⟩:∃ i0 z,X.P.info? (ρ.t 23)=some i0∧i0.zero=some z∧i0.size=e.width∧i0.bytes*8796093022208≤140737488355328∧z.cells.size=e.width:=by
  cases h0:X.P.info? (ρ.t 23) with
  | none=>rw[h0] at hinfo;cases hinfo
  | some i =>
   rw[h0] at hinfo
   simp only[Option.map_some,Option.some.injEq,Prod.mk.injEq] at hinfo
   obtain⟨e1,e2,e3⟩:=hinfo
   cases h1:i.zero with
   | none=>rw[h1] at e1;cases e1
   | some z=>rw[h1] at e1;exact⟨i,z,rfl,h1,e2,by rw[e3];exact hbb,by simpa using e1⟩
 unfold specClone at hr
 simp only at hr
 split at hr
 ·rename_i v
  obtain⟨xs,hx,hsrc⟩:=srcK_raw (X:=X) hr
  clear hr
  rw[br_eq] at hx
  split at hx
  ·rename_i hl
   simp only[decide_eq_true_eq] at hl
   refine⟨_,_,hx,fun T σ lm ls ps w us I hg hv=>?_⟩
   have hlm:xs.length≤maxLen:=Nat.le_trans hl (by decide)
   cases hv with
   | cons _ u _ _ hu t =>
   cases t
   obtain⟨css,ad,cap,rfl,hall,hcell,hnil⟩:=hsrc rfl (I.rel (X:=X) hg) hu hw
   have hcl:=hall.len
   cases ad with
   | none =>
    obtain rfl:=hnil rfl
    refine callsOk_fun (X:=X) hf hb ((AnyE.slices_Clone_nil L 0 cap w).mono ?_)
    rintro e' w' ⟨rfl,rfl⟩
    refine⟨_,rfl,T,_,Keeps.refl _ _,fun c hc b hσ=>?_,I.nilRow hw,?_⟩
    ·show (if c=h.length then some 0 else σ c)=some b
     rw[if_neg (by omega)];exact hσ
    ·refine .hs _ _ _ _ _ _ ⟨0,by simp,by simp[rowC],by simp[rowC],none,by simp[rowC],fun h0=>by simp[rowC] at h0,fun _=>by simp[rowC]⟩
   | some ad =>
    refine callsOk_fun (X:=X) hf hb ((clone_any L i0 z e.width i0.bytes hi hz0 hz1 rfl hzs hw z23 ad xs.length cap css.flatten w hcl hlm (Nat.le_trans (by rw[Nat.mul_comm];exact Nat.mul_le_mul_left _ hl) hby) (hcell ad rfl) hall.one).mono ?_)
    rintro e' w' ⟨v',rfl,⟨_,hown⟩,hB⟩
    refine⟨v',rfl,?_⟩
    have I':=I.grown hB
    rcases hown with ⟨rfl,hn⟩ | ⟨g,C,cur,rfl,hge,hgw,hC,hCm,hcs,htk⟩
    ·obtain rfl:xs=[]:=List.eq_nil_of_length_eq_zero hn
     refine⟨T,_,keeps_grown T hB,fun c hc b hσ=>?_,I'.nilRow hw,?_⟩
     ·show (if c=h.length then some 0 else σ c)=some b
      rw[if_neg (by omega)];exact hσ
     ·refine .hs _ _ _ _ _ _ ⟨0,by simp,by simp[rowC],by simp[rowC],none,by simp[rowC],fun h0=>by simp[rowC] at h0,fun _=>by simp[rowC]⟩
    ·have hfree:∀ o,T g o=.free:=fun o=>by
      cases ht:T g o with
      | free=>rfl
      | _=>exact absurd (I.live g o (by rw[ht];simp)) (by omega)
     obtain⟨J,hfix⟩:=I'.newRow hfree hgw hw hC hCm hcs (xs:=xs) fun i x hx=>by
      obtain⟨ds,d1,d2⟩:=hall.get i x hx
      refine⟨ds,d1,fun j v hj=>?_⟩
      have:=d2 j v hj
      rw[← htk,List.getElem?_take] at this
      split at this
      ·simpa using this
      ·cases this
     have hCr:C<rowM:=maxLen_lt hCm
     refine⟨_,_,{ keeps_grown T hB with fixed:=fun b o v hv=>?_,free:=fun b o hb hv=>?_ },fun c hc b hσ=>?_,J,?_⟩
     ·unfold Tags.row;rw[if_neg (by rintro rfl;rw[hfree] at hv;cases hv)];exact hv
     ·unfold Tags.row;rw[if_neg (by omega)];exact hv
     ·show (if c=h.length then some _ else σ c)=some b
      rw[if_neg (by omega)];exact hσ
     ·refine .hs _ _ _ _ _ _ ⟨g*rowM+C,by simp,by rw[rowC_mk _ _ hCr];omega,by rw[rowC_mk _ _ hCr];exact hCm,_,by rw[rowC_mk _ _ hCr];rfl,fun _=>by rw[rowB_mk _ _ hCr];simp,fun h0=>by cases h0⟩
  ·cases hx
 ·cases hr
end Go.Am
namespace Go.Am
open Go Go.Proofs Go.RowKit Go.Lib Go.Shelf Go.Sort
def encP (p:Int×Int):List Value:=[.int .i64 p.1,.int .i64 p.2]
theorem encP_cells (F:Fix) (p:Int×Int):CellsD F PtT p (encP p):=⟨_,_,rfl,rfl,rfl⟩
theorem cells_encP {F:Fix} {p:Int×Int} {ds:List Value} (h:CellsD F PtT p ds):ds=encP p:=by
 obtain⟨a,b,rfl,h1,h2⟩:=h
 cases h1;cases h2;rfl
theorem below_grow (w:World) (os:Array Obj):Below w.heap.size w (grow w os) :=
 ⟨rfl,rfl,rfl,by simp[grow],fun k hk=>by simp only[grow];rw[Array.getElem?_append_left hk]⟩
theorem setMany_all {F:Array Value} {vs:List Value} (h:vs.length=F.size):setMany F 0 vs=vs.toArray:=by
 refine ext_get! (by simp[h]) fun t ht=>?_
 rw[size_setMany] at ht
 rw[get_setMany vs 0 F t ht,if_pos ⟨Nat.zero_le _,by omega⟩]
 simp
theorem putRowK_cells {w:World} {blk:Nat} {d dk:Array (Int×Int)} (hH:HoldsK encP 2 w blk 0 d) (hs:dk.size=d.size) :
  putRowK encP 2 w blk 0 dk=w.setCells blk 0 (flatK encP 2 dk).toList:=by
 have h:=setCells_putRow w blk 0 (flatK encP 2 dk).toList 0 (flatK encP 2 d) (by simp[hs])
 rw[setMany_all (by simp[hs])] at h
 have h0:putRow id w blk 0 (flatK encP 2 d)=w:=putRowK_self encP 2 w blk 0 d hH
 rw[h0] at h
 unfold putRowK
 simpa using h.symm
theorem flat_get {d:Array (Int×Int)} {i j:Nat} {x:Int×Int} (hx:d[i]?=some x) {v:Value} (hv:(encP x)[j]?=some v):(flatK encP 2 d)[i*2+j]?=some v:=by
 have hj:j<2:=get_lt hv
 have hi:i<d.size:=by
  rcases Nat.lt_or_ge i d.size with h | h
  ·exact h
  ·rw[Array.getElem?_eq_none h] at hx;cases hx
 have e1:(i*2+j) / 2=i:=by omega
 have e2:(i*2+j) % 2=j:=by omega
 have hx':d[i]! = x:=by rw[getElem!_pos d i hi];rw[Array.getElem?_eq_getElem hi] at hx;cases hx;rfl
 have hlt:i*2+j<d.size*2:=by omega
 have h:=get_flatK encP 2 d (i*2+j) hlt
 rw[e1,e2,hx'] at h
 rw[Array.getElem?_eq_getElem (by simpa using hlt)]
 rw[getElem!_pos _ _ (by simpa using hlt)] at h
 rw[h]
 rw[List.getElem!_eq_getElem?_getD,hv];rfl
theorem sort_ok {X:Ext} {ρ:Ren} (L:SlLaysF0.n6 X.P ρ) {fd:Func} (hf:X.P.funcs[ρ.f 6]?=some fd) (hbs:fd.body.isSome=true) (aE:∀ w,(isAgg (ρ.t 24)).run X.P w=.ok true w) (zE:∀ w,(Go.sizeOf (ρ.t 24)).run X.P w=.ok 2 w)
  (cf:Int×Int→Int×Int→Int) (hO:SWO (ltOf cf)) (hT:∀ x y,(ltOf cf) x y=false→(ltOf cf) y x=false→x=y) (c:FuncId) (eg:∀ args w,(callFunc c args).run X.P w=.ok (.enter c args) w)
  (hcmp:∀ blk off size w,CmpLays X.P c #[] encP 2 cf blk off size w) (f:List (Int×Int)→List (Int×Int)) (hfs:∀ l,f l=l.mergeSort fun x y=>!(ltOf cf) y x)
  {R:Type} {args:List AV} {h:List Cell} {k:AV→List Cell→Option R} {r:R} (hr:(specSort PtT c f).run args h k=some r) :
  ∃ v h',k v h'=some r∧∀ T σ lm ls ps w us,Inv T σ lm h ls ps w→GlobOk X T.fix→RepL T.fix σ lm args us→CallsOk X.P (.func (ρ.f 6)) lm us w (PostH T σ lm h ls w v h' ps):=by
 obtain⟨cd,hb⟩:=Option.isSome_iff_exists.1 hbs
 unfold specSort at hr
 simp only at hr
 split at hr
 ·rename_i r0 e' len c'
  split at hr
  ·rename_i he
   obtain⟨rfl,rfl⟩:=he
   split at hr
   ·rename_i cell hc
    obtain⟨xs,hxs,hr'⟩:=bind_some hr
    clear hr
    obtain rfl:=asRow_some hxs
    rw[br_eq] at hr'
    split at hr'
    ·rename_i hl
     simp only[decide_eq_true_eq] at hl
     refine⟨_,_,hr',fun T σ lm ls ps w us I hg hv=>?_⟩
     cases hv with
     | cons _ u1 _ _ hu1 t =>
     cases t with
     | cons _ u2 _ _ hu2 t =>
     cases t
     cases hu2 with
     | func _ _ _ _ va vb ha hb' =>
     cases ha;cases hb'
     cases hu1 with
     | hs _ _ _ _ _ _ hq =>
     obtain⟨p,p1,p2,p3,ad,rfl,p5,p6⟩:=hq
     rcases Nat.eq_zero_or_pos len with h0 | h0
     ·subst h0
      refine callsOk_fun (X:=X) hf hb ((AnyF.slices_SortFunc_none L ad _ _ w).mono ?_)
      rintro e' w' ⟨rfl,rfl⟩
      refine⟨_,rfl,T,σ,Keeps.refl _ _,fun c hc b hσ=>hσ,?_,.tuple _ [] [] (.nil _ _)⟩
      have e1:h.set r0 (.row PtT (f (xs.take 0) ++ xs.drop 0))=h:=by
       rw[hfs]
       simp only[List.take_zero,List.mergeSort_nil,List.nil_append,List.drop_zero]
       exact List.ext_getElem? fun i=>by
        rw[List.getElem?_set]
        split
        ·rename_i hi;subst hi;split
         ·exact hc.symm
         ·rename_i hn;exact absurd (get_lt hc) hn
        ·rfl
      rw[e1];exact I
     ·have hcp:0<rowC p:=by omega
      obtain rfl:=p5 hcp
      have hR:=I.rel (X:=X) hg
      obtain⟨p',q1,q2,q3,q4,cs,q5,q6,q7,q8⟩:RowAt T σ w r0 PtT xs:=I.mem r0 _ hc
      rw[p1] at q1;cases q1
      have hds:(xs.take len).toArray.size=len:=by simp;omega
      have hblk:rowB p<w.heap.size:=by
       obtain⟨ds,d1,d2⟩:=q6 0 xs[0] (List.getElem?_eq_getElem (by omega))
       obtain rfl:=cells_encP d1
       have:=d2 0 (.int .i64 (xs[0]).1) rfl
       exact I.live _ _ (by rw[(q7 _ _ this).1];simp)
      have hH:HoldsK encP 2 w (rowB p) 0 (xs.take len).toArray:=fun t ht=>by
       rw[size_flatK,hds] at ht
       have hti:t / 2<len:=by omega
       have hx:xs[t / 2]?=some xs[t / 2]:=List.getElem?_eq_getElem (by omega)
       obtain⟨ds,d1,d2⟩:=q6 (t / 2) _ hx
       obtain rfl:=cells_encP d1
       have hj:t % 2<(encP xs[t / 2]).length:=by simp[encP];omega
       have h3:=d2 (t % 2) _ (List.getElem?_eq_getElem hj)
       have et:t / 2*2+t % 2=t:=by omega
       have h4:=flat_get (d:=(xs.take len).toArray) (i:=t / 2) (j:=t % 2) (x:=xs[t / 2]) (by simp[hti,hx]) (List.getElem?_eq_getElem hj)
       have h5:=q7 _ _ h3
       rw[show (PtT.width)=2 from rfl,et] at h5
       rw[et] at h4
       have h6:(flatK encP 2 (xs.take len).toArray)[t]! = (encP xs[t / 2])[t % 2]:=by
        rw[Array.getElem!_eq_getD,Array.getD_eq_getD_getElem?,h4];rfl
       rw[h6,Nat.zero_add]
       exact⟨h5.2.1,h5.2.2⟩
      have hcall:=AnyQ.slices_SortFunc_total L 2 aE zE encP (fun _=>rfl) (fun x v hv=>by simp[encP] at hv;rcases hv with rfl | rfl <;> rfl) cf hO c' #[] (rowB p) 0 (rowC p) (xs.take len).toArray w eg (hcmp _ _ _ _) hH hblk (by rw[hds];omega) hT
      rw[hds] at hcall
      refine callsOk_fun (X:=X) hf hb (hcall.mono ?_)
      rintro e' w' ⟨rfl,n,os,rfl⟩
      refine⟨_,rfl,?_⟩
      have hlen:((xs.take len).toArray.toList.mergeSort fun x y=>!(ltOf cf) y x)=f (xs.take len):=by rw[hfs]
      have hdk:(f (xs.take len)).length=len:=by rw[hfs,List.length_mergeSort];simp;omega
      rw[hlen]
      unfold sortWorldK
      rw[putRowK_cells (w:=Sort.ahead w n) (d:=(xs.take len).toArray) hH (by rw[hds];simpa using hdk)]
      have I1:Inv T σ lm h ls ps (Sort.ahead w n):=I.of_heap rfl
      have K1:Keeps T w T (Sort.ahead w n):=⟨rfl,rfl,rfl,Nat.le_refl _,fun _ _ _ h=>h,fun _ _ _ h=>h,fun _ _ _ _=>⟨rfl,rfl⟩,fun _ _ _=>rfl⟩
      have hR1:=I1.rel (X:=X) hg
      obtain⟨K2,hR2⟩:=hR1.rowWrite (c:=r0) (p:=p) (e:=PtT) (len:=0) (ys:=f (xs.take len)) (vs:=(flatK encP 2 (f (xs.take len)).toArray).toList) hc p1 (Nat.zero_le _) (by rw[hdk];omega)
       (by simp[Ty.width]) (fun i y hy=>⟨encP y,encP_cells _ _,fun j v hv=>by
        have:=flat_get (d:=(f (xs.take len)).toArray) (i:=i) (j:=j) (x:=y) (by simpa using hy) hv
        simpa[Ty.width] using this⟩)
      have I2:=hR2.inv
      simp only[Nat.zero_mul,List.take_zero,List.nil_append,Nat.zero_add,hdk] at I2 K2
      have hB:=below_grow ((Sort.ahead w n).setCells (rowB p) 0 (flatK encP 2 (f (xs.take len)).toArray).toList) os
      refine⟨_,σ,(K1.trans K2).trans (keeps_grown _ hB),fun c hc b hσ=>hσ,I2.grown hB,.tuple _ [] [] (.nil _ _)⟩
    ·cases hr'
   ·cases hr
  ·cases hr
 ·cases hr
end Go.Am
namespace Go.Jm
open Go Go.Proofs Go.RowKit Go.Lib Go.Shelf Go.Sort Go.Am
structure Held (x y:Int×Int) (W w:World):Prop where
 a1:w.cell? ⟨W.heap.size,0,none⟩=some (.int .i64 x.1)
 a2:w.cell? ⟨W.heap.size,1,none⟩=some (.int .i64 x.2)
 b1:w.cell? ⟨W.heap.size+1,0,none⟩=some (.int .i64 y.1)
 b2:w.cell? ⟨W.heap.size+1,1,none⟩=some (.int .i64 y.2)
 from_:∃ q os',w=grow (W.drewN q) os'
theorem held (x y:Int×Int) (W:World) (o1 o2:Obj) (h1:o1=.cells #[.int .i64 x.1,.int .i64 x.2] 23) (h2:o2=.cells #[.int .i64 y.1,.int .i64 y.2] 23):Held x y W (((W.alloc o1).alloc o2).drew):=by
 subst h1 h2
 have e1:∀ i,(((W.alloc (.cells #[.int .i64 x.1,.int .i64 x.2] 23)).alloc (.cells #[.int .i64 y.1,.int .i64 y.2] 23)).drew).cell? ⟨W.heap.size,i,none⟩=#[Value.int .i64 x.1,Value.int .i64 x.2][i]?:=fun i=>by
  rw[World.cell?_drew,World.cell?_alloc_lt _ _ _ (by rw[World.size_alloc];exact Nat.lt_succ_self _),World.cell?_alloc_new]
 have e2:∀ i,(((W.alloc (.cells #[.int .i64 x.1,.int .i64 x.2] 23)).alloc (.cells #[.int .i64 y.1,.int .i64 y.2] 23)).drew).cell? ⟨W.heap.size+1,i,none⟩=#[Value.int .i64 y.1,Value.int .i64 y.2][i]?:=fun i=>by
  have:W.heap.size+1=(W.alloc (.cells #[.int .i64 x.1,.int .i64 x.2] 23)).heap.size:=(World.size_alloc _ _).symm
  rw[World.cell?_drew,this,World.cell?_alloc_new]
 exact⟨by rw[e1];rfl,by rw[e1];rfl,by rw[e2];rfl,by rw[e2];rfl,1,_,by rw[alloc_eq_grow,alloc_eq_grow,grow_grow];rfl⟩
set_option maxRecDepth 4000 in
set_option maxHeartbeats 1000000 in
theorem or132 (a b:Int) (B:Nat) (w:World) (h0:w.cell? ⟨B,0,none⟩=some (.int .i64 a)) (h1:w.cell? ⟨B,1,none⟩=some (.int .i64 b)):Calls Tryz.prog 132 #[.slice (some ⟨B,0,none⟩) 2 2] w fun e w'=>e=.returned (.int .i64 (if a≠0 then a else b))∧w'=w:=by
 by_cases ha:a=0
 ·subst ha
  by_cases hb:b=0
  ·subst hb
   go_enter Tryz.func132,Tryz.ntmps132
   go_wp2
   refine wp_loop_rounds 3 ?_
   rw[rounds_succ]
   go_wp2
   rw[rounds_succ]
   go_wp2
   rw[rounds_succ]
   go_wp2
   go_ret
   exact⟨rfl,rfl⟩
  ·go_enter Tryz.func132,Tryz.ntmps132
   go_wp2
   refine wp_loop_rounds 3 ?_
   rw[rounds_succ]
   go_wp2
   rw[rounds_succ]
   go_wp2
   all_goals go_ret
   all_goals exact⟨rfl,rfl⟩
 ·go_enter Tryz.func132,Tryz.ntmps132
  go_wp2
  refine wp_loop_rounds 3 ?_
  rw[rounds_succ]
  go_wp2
  all_goals go_ret
  all_goals exact⟨rfl,rfl⟩
set_option maxRecDepth 4000 in
set_option maxHeartbeats 1000000 in
theorem closure131 (x y:Int×Int) (W:World):Calls Tryz.prog 131 #[.agg #[.int .i64 x.1,.int .i64 x.2],.agg #[.int .i64 y.1,.int .i64 y.2]] W fun e w'=>e=.returned (.int .i64 (if Lib.compareInt x.1 y.1≠0 then Lib.compareInt x.1 y.1 else Lib.compareInt x.2 y.2))∧∃ q os',w'=grow (W.drewN q) os':=by
 have hcon:=fun a b W'=>AnyG.cmp_Compare_int Tryz.laysC5 a b W'
 change ∀ a b W',Calls Tryz.prog 133 _ _ _ at hcon
 go_enter Tryz.func131,Tryz.ntmps131
 go_wp2_with (go_at_call 133;refine (hcon _ _ _).mono ?_;rintro e w' ⟨rfl,rfl⟩)
 have hh:=held x y W _ _ rfl rfl
 refine wp_region_still_tail 10 (by kernel_rfl) (by kernel_rfl) ?_
 change wpStill _ _ (World.drew _) (fun a'=>wpList _ _ _ _ a' (World.drew _)) _ _
 generalize World.drew (World.alloc (World.alloc _ _) _)=w2 at hh ⊢
 obtain⟨a1,a2,b1,b2,hfrom⟩:=hh
 simp only[List.take_succ_cons,List.take_zero,List.drop_succ_cons,List.drop_zero]
 still_step
 still_step
 still_step
 still_step
 still_call (hcon _ _ _)
 still_step
 still_step
 still_step
 still_step
 still_call (hcon _ _ _)
 refine wpStill_nil ?_
 go_wp2_with (go_at_call 132;refine (or132 (Lib.compareInt x.1 y.1) (Lib.compareInt x.2 y.2) w2.heap.size _ (by rw[World.cell?_alloc_new];rfl) (by rw[World.cell?_alloc_new];rfl)).mono ?_;rintro e w' ⟨rfl,rfl⟩)
 all_goals go_ret
 all_goals
  obtain⟨q,os',rfl⟩:=hfrom
  exact⟨rfl,q,_,by rw[alloc_eq_grow,grow_grow]⟩
end Go.Jm
namespace Go.Am
open Go
theorem run_insert_new {P:Program} {F:Fix} {κ:Ty} {α:Type} {V:α→Value→Prop} {t ta tb:TypeId} (m1:P.underlying t=some (.map ta tb)) (m2:eqTy P tdepth ta=some κ) (m3:κ.isRow=aggType P ta)
  {q:κ.den} {cs:List Value} (hcs:CellsD F κ q cs) {w:World} {b:Nat} {es:Array MapEntry} {ck:Nat} {l:List (κ.den×α)} (ho:w.heap[b]?=some (.map es ck)) (hrel:MapRel F κ V es.toList l)
  (hnew:mapFind κ q l 0=none) (v:Value) :
  (Instr.mapUpdate t (.map (some b)) (κ.val cs) v).run P w=.ok () { w with heap:=w.heap.setIfInBounds b (.map (es.push { key:=κ.val cs,val:=v,born:=ck }) (ck+1)) }:=by
 obtain⟨f,f1,f2⟩:=run_find m2 m3 hcs w hrel
 have hchk:=check_plain (F:=F) (P:=P) false tdepth ta κ m2 (10000-tdepth) q cs w hcs
 have e1:tdepth+(10000-tdepth)=10000:=rfl
 rw[e1] at hchk
 rw[wrapV_val m3] at hchk f1
 rcases f2 with ⟨_,rfl⟩ | ⟨j,x,e,g1,_⟩
 ·simp only[Instr.mapUpdate,Sem.run_bind,run_underlying m1,MapKept.run_getObj_map ho,hchk,f1,Result.andThen_ok,MapKept.run_setObj_map _ ho]
 ·rw[hnew] at g1;cases g1
theorem Inv.newMapv {T:Tags} {σ lm:Nat→Option Nat} {h:List Cell} {ls:List LoopRec} {ps:List (Option AE)} {w w':World} (I:Inv T σ lm h ls ps w) {κ:Ty} {ea:Bool} {es:Array MapEntry} {ck:Nat} {l l':List (κ.den×List AV)}
  (hk:κ.keyOk=true) (ha:keysApart κ l) (hp:l'.Perm l) (hr:MapRel (fun _ _=>none) κ (LeafV (fun _ _=>none) ea) es.toList l') (hos:w'.os=w.os) (ht:w'.tape=w.tape) (hou:w'.output=w.output) (hw:w'.heap=(w.alloc (.map es ck)).heap) :
  ∃ T',Keeps T w T' w'∧Inv T' (fun c=>if c=h.length then some w.heap.size else σ c) lm (h ++ [.mapv κ ea l]) ls ps w':=by
 have hσ:=I.dom_new
 have hs':∀ c b,σ c=some b→(if c=h.length then some w.heap.size else σ c)=some b:=fun c b e=>by
  by_cases hc:c=h.length
  ·subst hc;rw[hσ] at e;cases e
  ·rw[if_neg hc];exact e
 have I1:=I.alloc (.map es ck) (fun o=>.cell h.length o) (fun o v e=>by cases e) (fun o l j e=>by cases e)
 have K1:Keeps T w (T.new w.heap.size fun o=>.cell h.length o) (w.alloc (.map es ck)):=I.keeps_alloc _ _
 have hc:∀ a,w'.cell? a=(w.alloc (.map es ck)).cell? a:=fun a=>by simp only[World.cell?,hw]
 have hf:∀ a,w'.frozen? a=(w.alloc (.map es ck)).frozen? a:=fun a=>by simp only[World.frozen?,hw]
 have old:∀ {c:Nat} {x:Cell},h[c]?=some x→(h ++ [Cell.mapv κ ea l])[c]?=some x:=fun {c x} e=>by
  rw[List.getElem?_append_left (by
   rcases Nat.lt_or_ge c h.length with q | q
   ·exact q
   ·rw[List.getElem?_eq_none q] at e;cases e)]
  exact e
 have back:∀ {c:Nat} {x:Cell},(h ++ [Cell.mapv κ ea l])[c]?=some x→h[c]?=some x∨(c=h.length∧x=.mapv κ ea l):=fun {c x} e=>by
  rcases Nat.lt_or_ge c h.length with q | q
  ·rw[List.getElem?_append_left q] at e;exact .inl e
  ·rw[List.getElem?_append_right q] at e
   rcases Nat.eq_or_lt_of_le q with q1 | q1
   ·subst q1;simp at e;exact .inr ⟨rfl,e.symm⟩
   ·rw[List.getElem?_eq_none (by simp;omega)] at e;cases e
 refine⟨T.new w.heap.size fun o=>.cell h.length o,⟨hos,ht,hou,by rw[hw];exact K1.size,K1.fixed,K1.free,fun b o hb e=>by rw[hc,hf];exact K1.cell b o hb e,fun b hb e=>by rw[hw];exact K1.block b hb e⟩,?_⟩
 refine Inv.of_heap (w:=w.alloc (.map es ck)) ?_ hw
 refine⟨I1.fixed,I1.spare,I1.live,?_,?_,?_,I1.plen,?_⟩
 ·intro c b hcb
  by_cases hcs:c=h.length
  ·subst hcs;exact⟨.mapv κ ea l,by simp,rfl⟩
  ·rw[if_neg hcs] at hcb
   obtain⟨x,hl,hx⟩:=I1.dom c b hcb
   exact⟨x,old hl,hx⟩
 ·intro c x hx
  rcases back hx with hx | ⟨_,hx⟩
  ·obtain⟨b,g1,g2,g3⟩:=I1.var c x hx
   refine⟨b,hs' c b g1,g2,fun j av hj=>?_⟩
   obtain⟨v,e1,e2,e3,e4⟩:=g3 j av hj
   exact⟨v,e1,e2,e3,e4.mono (Fix.le.refl _) hs' (fun _ _ x=>x) (fun _ _ _ x=>x)⟩
  ·cases hx
 ·intro c x hx
  rcases back hx with hx | ⟨rfl,rfl⟩
  ·exact (I1.mem c x hx).keep (hs' c) (Fix.le.refl _) (fun _ _ e=>⟨e,rfl,rfl⟩) (fun _ _ e=>e)
  ·exact⟨ha,l',hp,hk,w.heap.size,es,ck,by simp,fun o=>by simp[Tags.new],(MapKept.heap_alloc w _).1,hr.mono (fun _ _ _ e=>by cases e) fun x v hv=>hv.mono fun _ _ _ e=>by cases e⟩
 ·intro i r hr
  obtain⟨b,rec,g1,g2,g3,g4,g5,g6,g7,g8,g9,g10⟩:=I1.loop i r hr
  exact⟨b,rec,g1,g2,g3,g4,g5,g6,g7,g8,fun t=>(g9 t).mono (Fix.le.refl _) hs' (fun _ _ x=>x) (fun _ _ _ x=>x),g10⟩
end Go.Am
namespace Go.Jm
open Go Go.Am Go.Proofs
abbrev KT:Ty:=.pair (.int .i64) (.int .i64)
def F0:Fix:=fun _ _=>none
def ent (i:Nat):(Int×Int)×List AV:=(rulesL[i]?).getD ((0,0),[])
def bits (m:Nat):List Nat:=(List.range 7).filter fun i=>m.testBit i
def unset (m:Nat):List Nat:=(List.range 7).filter fun i=>!m.testBit i
def idx (i:Nat):Nat:=3+3*i
def lst (m:Nat):Array Bool:=((List.range 24).map fun i=>if i<22 then (if 3≤i∧i % 3=0 then m.testBit ((i-3) / 3) else true) else false).toArray
def fnV (i:Nat):Value:=.agg #[.func (.func (if i<3 then 143+i else 146)) #[] #[]]
def keyV (i:Nat):Value:=.agg #[.int .i64 (ent i).1.1,.int .i64 (ent i).1.2]
noncomputable def opsR:Array Oper:=match Tryz.f99.body with
 | some (.seq _ (.seq (.region _ ops _) _))=>ops
 | _=>#[]
structure RW (W w:World) (m:Nat):Prop where
 os:w.os=W.os
 tape:w.tape=W.tape
 output:w.output=W.output
 size:w.heap.size=W.heap.size+1
 old:∀ b,b<W.heap.size→w.heap[b]?=W.heap[b]?
 map:∃ es ck,∃ js:List Nat,w.heap[W.heap.size]?=some (.map es ck)∧MapRel F0 KT (LeafV F0 true) es.toList (js.map ent)∧js.Perm (bits m)
theorem key_cells_ent (F:Fix) (i:Nat):CellsD F KT (ent i).1 [.int .i64 (ent i).1.1,.int .i64 (ent i).1.2]:=⟨_,_,rfl,rfl,rfl⟩
theorem leaf_ent:∀ i,i<7→LeafV F0 true (ent i).2 (fnV i):=by
 intro i hi
 refine⟨[.func (.func (if i<3 then 143+i else 146)) #[] #[]],?_,.inl ⟨rfl,rfl⟩⟩
 have hf:∀ g,RepL F0 (fun _=>none) (fun _=>none) [AV.func (.func g) [] []] [.func (.func g) #[] #[]]:=fun g=>.cons _ _ _ _ (.func _ _ _ _ [] [] .nil .nil) .nil
 match i,hi with
 | 0,_=>exact hf 143
 | 1,_=>exact hf 144
 | 2,_=>exact hf 145
 | 3,_=>exact hf 146
 | 4,_=>exact hf 146
 | 5,_=>exact hf 146
 | 6,_=>exact hf 146
theorem key_apart:∀ i,i<7→∀ j,j<7→i≠j→KT.beq (ent i).1 (ent j).1=false:=by decide +kernel
theorem bits_add:∀ m,m<128→∀ i,i∈unset m→(bits m ++ [i]).Perm (bits (m+2 ^ i)):=by decide +kernel
theorem unset_add:∀ m,m<128→∀ i,i∈unset m→m+2 ^ i<128∧(unset (m+2 ^ i)).length+1=(unset m).length:=by decide +kernel
theorem unset_bits:∀ m,m<128→∀ i,i∈unset m→i<7∧i∉bits m:=by decide +kernel
theorem bits_lt:∀ m,m<128→∀ i,i∈bits m→i<7:=by decide +kernel
theorem ready_all:∀ m,m<128→unset m≠[]→Region.ready .any opsR (lst m)=(unset m).map idx:=by decide +kernel
theorem unset_nil:∀ m,m<128→unset m=[]→m=127:=by decide +kernel
theorem listed_all:∀ m,m<128→∀ i,i∈unset m→(lst m).setIfInBounds (idx i) true=lst (m+2 ^ i):=by decide +kernel
theorem mapFind_none {κ:Ty} {α:Type} {q:κ.den}:∀ (l:List (κ.den×α)) (n:Nat),(∀ p∈l,κ.beq q p.1=false)→mapFind κ q l n=none
 | [],_,_=>rfl
 | p :: l,n,h=>by
  unfold mapFind
  rw[if_neg (by rw[h p (by simp)];simp)]
  exact mapFind_none l _ fun p hp=>h p (List.mem_cons_of_mem _ hp)
theorem RW.step {W w:World} {m:Nat} (h:RW W w m) (hm:m<128) {i:Nat} (hi:i∈unset m) :
  ∃ w',(Instr.mapUpdate 157 (.map (some W.heap.size)) (keyV i) (fnV i)).run Tryz.prog w=.ok () w'∧RW W w' (m+2 ^ i):=by
 obtain⟨es,ck,js,h1,h2,h3⟩:=h.map
 obtain⟨hi7,hib⟩:=unset_bits m hm i hi
 have hnew:mapFind KT (ent i).1 (js.map ent) 0=none:=mapFind_none _ _ fun p hp=>by
  obtain⟨j,hj,rfl⟩:=List.mem_map.1 hp
  have hj':=h3.mem_iff.1 hj
  exact key_apart i hi7 j (bits_lt m hm j hj') fun e=>hib (e▸hj')
 have hrun:=run_insert_new (P:=Tryz.prog) (F:=F0) (κ:=KT) (V:=LeafV F0 true) (t:=157) (ta:=39) (tb:=161) (by kernel_rfl) (by kernel_rfl) (by kernel_rfl) (key_cells_ent F0 i) h1 h2 hnew (fnV i)
 refine⟨_,hrun,?_⟩
 obtain⟨g1,g2⟩:=MapKept.heap_set (o':=.map (es.push { key:=KT.val [.int .i64 (ent i).1.1,.int .i64 (ent i).1.2],val:=fnV i,born:=ck }) (ck+1)) h1
 refine⟨h.os,h.tape,h.output,by simpa using h.size,fun b hb=>?_,_,_,js ++ [i],g1,?_,(h3.append_right [i]).trans (bits_add m hm i hi)⟩
 ·rw[← h.old b hb];exact g2 b (by omega)
 ·rw[Array.toList_push,List.map_append]
  exact mapRel_push ⟨_,key_cells_ent F0 i,rfl⟩ (leaf_ent i hi7) h2
theorem op_ins {P:Program} {o:Oper} {t:TypeId} {m k v:Operand} (ho:o.op=.insert t m k v) (hd:o.dst=none) {a:Act} {w w':World} (hr:(Instr.mapUpdate t (a.eval m) (a.eval k) (a.eval v)).run P w=.ok () w')
  {K:Act→World→Prop} {Q:Exit→Act→World→Prop} (hK:K a w'):o.wp P a w K Q:=by
 have e:(execOp a.eval o).run P w=.ok .skip w':=by
  unfold execOp
  rw[ho]
  simp only[Sem.run_bind,hr,Result.andThen_ok,Sem.run_pure]
 unfold Oper.wp
 rw[e,Oper.upon_skip,hd]
 exact hK
theorem op_at:∀ i,i<7→∃ o,opsR[idx i]?=some o∧o.op=.insert 157 (.tmp 1) (.tmp (2+2*i)) (.tmp (3+2*i))∧o.dst=none∧o.guard=none:=by
 intro i hi
 match i,hi with
 | 0,_=>exact⟨_,rfl,rfl,rfl,rfl⟩
 | 1,_=>exact⟨_,rfl,rfl,rfl,rfl⟩
 | 2,_=>exact⟨_,rfl,rfl,rfl,rfl⟩
 | 3,_=>exact⟨_,rfl,rfl,rfl,rfl⟩
 | 4,_=>exact⟨_,rfl,rfl,rfl,rfl⟩
 | 5,_=>exact⟨_,rfl,rfl,rfl,rfl⟩
 | 6,_=>exact⟨_,rfl,rfl,rfl,rfl⟩
theorem phase2 {W:World} {Q:Exit→Act→World→Prop} {a:Act} (ha:a.eval (.tmp 1)=.map (some W.heap.size)) (hk:∀ i,i<7→a.eval (.tmp (2+2*i))=keyV i∧a.eval (.tmp (3+2*i))=fnV i) {fuel:Nat}
  (hq:∀ w,RW W w 127→wpAny Tryz.prog .any opsR Q fuel (lst 127) a w):∀ (n m:Nat),m<128→(unset m).length=n→∀ w,RW W w m→wpAny Tryz.prog .any opsR Q (fuel+n) (lst m) a w
 | 0,m,hm,hn,w,h=>by
  have:=unset_nil m hm (List.eq_nil_of_length_eq_zero hn)
  subst this
  exact hq w h
 | n+1,m,hm,hn,w,h=>by
  have hne:unset m≠[]:=fun e=>by rw[e] at hn;cases hn
  refine wpAny_all (ready_all m hm hne) (fun e=>hne (List.map_eq_nil_iff.1 e)) fun j hj=>?_
  obtain⟨i,hi,rfl⟩:=List.mem_map.1 hj
  obtain⟨o,o1,o2,o3,o4⟩:=op_at i (unset_bits m hm i hi).1
  refine wpOp_step o1 fun K' hK=>?_
  have hw:Region.wanted o (yielded opsR a.tmps)=true:=by unfold Region.wanted;rw[o4]
  rw[if_pos hw]
  obtain⟨w',r1,r2⟩:=h.step hm hi
  obtain⟨k1,k2⟩:=hk i (unset_bits m hm i hi).1
  refine op_ins o2 o3 (w':=w') (by rw[ha,k1,k2];exact r1) (hK _ _ ?_)
  rw[listed_all m hm i hi]
  obtain⟨u1,u2⟩:=unset_add m hm i hi
  exact phase2 ha hk hq n _ u1 (by omega) w' r2
def actR (B:Nat):Act:={ tmps:=#[.map none,.map (some B),keyV 0,fnV 0,keyV 1,fnV 1,keyV 2,fnV 2,keyV 3,fnV 3,keyV 4,fnV 4,keyV 5,fnV 5,keyV 6,fnV 6,undef],defers:=[] }
theorem actR_ops (B:Nat):∀ i,i<7→(actR B).eval (.tmp (2+2*i))=keyV i∧(actR B).eval (.tmp (3+2*i))=fnV i:=by
 intro i hi
 match i,hi with
 | 0,_=>exact⟨rfl,rfl⟩
 | 1,_=>exact⟨rfl,rfl⟩
 | 2,_=>exact⟨rfl,rfl⟩
 | 3,_=>exact⟨rfl,rfl⟩
 | 4,_=>exact⟨rfl,rfl⟩
 | 5,_=>exact⟨rfl,rfl⟩
 | 6,_=>exact⟨rfl,rfl⟩
theorem op_key:∀ i,i<7→∃ o,opsR[1+3*i]?=some o∧o.op=.build 39 #[(0,.const (.int .i64 (ent i).1.1)),(1,.const (.int .i64 (ent i).1.2))]∧o.dst=some (2+2*i)∧o.guard=none:=by
 intro i hi
 match i,hi with
 | 0,_=>exact⟨_,rfl,rfl,rfl,rfl⟩
 | 1,_=>exact⟨_,rfl,rfl,rfl,rfl⟩
 | 2,_=>exact⟨_,rfl,rfl,rfl,rfl⟩
 | 3,_=>exact⟨_,rfl,rfl,rfl,rfl⟩
 | 4,_=>exact⟨_,rfl,rfl,rfl,rfl⟩
 | 5,_=>exact⟨_,rfl,rfl,rfl,rfl⟩
 | 6,_=>exact⟨_,rfl,rfl,rfl,rfl⟩
theorem op_fn:∀ i,i<7→∃ o,opsR[2+3*i]?=some o∧o.op=.build 161 #[(0,.func (if i<3 then 143+i else 146))]∧o.dst=some (3+2*i)∧o.guard=none:=by
 intro i hi
 match i,hi with
 | 0,_=>exact⟨_,rfl,rfl,rfl,rfl⟩
 | 1,_=>exact⟨_,rfl,rfl,rfl,rfl⟩
 | 2,_=>exact⟨_,rfl,rfl,rfl,rfl⟩
 | 3,_=>exact⟨_,rfl,rfl,rfl,rfl⟩
 | 4,_=>exact⟨_,rfl,rfl,rfl,rfl⟩
 | 5,_=>exact⟨_,rfl,rfl,rfl,rfl⟩
 | 6,_=>exact⟨_,rfl,rfl,rfl,rfl⟩
theorem build_key (x y:Int) (w:World):(Instr.build 39 #[(0,.int .i64 x),(1,.int .i64 y)]).run Tryz.prog w=.ok (.agg #[.int .i64 x,.int .i64 y]) w:=by kernel_rfl
theorem build_fn (g:Nat) (w:World):(Instr.build 161 #[(0,.func (.func g) #[] #[])]).run Tryz.prog w=.ok (.agg #[.func (.func g) #[] #[]]) w:=by kernel_rfl
theorem take1 {Q:Exit→Act→World→Prop} (hp:∀ c a d v w,Q (.panic c) (a.put (some d) v) w→Q (.panic c) a w) {j d:Nat} {t:TypeId} {parts:Array (Nat×Operand)} (ho:∃ o,opsR[j]?=some o∧o.op=.build t parts∧o.dst=some d∧o.guard=none)
  {fuel:Nat} {listed:Array Bool} {a:Act} {w:World} {v:Value} {ps:Array (Nat×Value)} (hf:Region.free .any opsR listed j=true) (hr:(Region.ready .any opsR listed).contains j=true) (hps:(parts.map fun (i,x)=>(i,a.eval x))=ps)
  (hy:∀ w,(Instr.build t ps).run Tryz.prog w=.ok v w) (h:wpAny Tryz.prog .any opsR Q fuel (listed.setIfInBounds j true) (a.put (some d) v) w):wpAny Tryz.prog .any opsR Q (fuel+1) listed a w:=by
 obtain⟨o,o1,o2,o3,o4⟩:=ho
 refine wpAny_take (v:=v) o1 (by kernel_rfl) hf hr (fun c a w h=>hp c a d v w (o3▸h)) (.inl ⟨by unfold Region.wanted;rw[o4],fun w=>?_⟩) (by rw[o3];exact h)
 unfold execOp
 rw[o2]
 simp only[hps,Sem.run_bind,hy,Result.andThen_ok,Sem.run_pure]
theorem take_key {Q:Exit→Act→World→Prop} (hp:∀ c a d v w,Q (.panic c) (a.put (some d) v) w→Q (.panic c) a w) {i:Nat} (hi:i<7) {fuel:Nat} {listed:Array Bool} {a:Act} {w:World}
  (hf:Region.free .any opsR listed (1+3*i)=true) (hr:(Region.ready .any opsR listed).contains (1+3*i)=true)
  (h:wpAny Tryz.prog .any opsR Q fuel (listed.setIfInBounds (1+3*i) true) (a.put (some (2+2*i)) (keyV i)) w):wpAny Tryz.prog .any opsR Q (fuel+1) listed a w :=
 take1 (v:=keyV i) (ps:=#[(0,.int .i64 (ent i).1.1),(1,.int .i64 (ent i).1.2)]) hp (op_key i hi) hf hr (by kernel_rfl) (build_key (ent i).1.1 (ent i).1.2) h
theorem take_fn {Q:Exit→Act→World→Prop} (hp:∀ c a d v w,Q (.panic c) (a.put (some d) v) w→Q (.panic c) a w) {i:Nat} (hi:i<7) {fuel:Nat} {listed:Array Bool} {a:Act} {w:World}
  (hf:Region.free .any opsR listed (2+3*i)=true) (hr:(Region.ready .any opsR listed).contains (2+3*i)=true)
  (h:wpAny Tryz.prog .any opsR Q fuel (listed.setIfInBounds (2+3*i) true) (a.put (some (3+2*i)) (fnV i)) w):wpAny Tryz.prog .any opsR Q (fuel+1) listed a w :=
 take1 (v:=fnV i) (ps:=#[(0,.func (.func (if i<3 then 143+i else 146)) #[] #[])]) hp (op_fn i hi) hf hr (by kernel_rfl) (build_fn (if i<3 then 143+i else 146)) h
theorem rw_start (W:World):RW W ((World.drew W).alloc (.map #[] 0)) 0:=by
 obtain⟨h1,h2⟩:=MapKept.heap_alloc (World.drew W) (.map #[] 0)
 exact⟨rfl,rfl,rfl,World.size_alloc _ _,fun b hb=>h2 b hb,#[],0,[],h1,trivial,List.Perm.refl _⟩
set_option maxHeartbeats 4000000 in
theorem region99 (W:World) (Q:Exit→Act→World→Prop) (hp:∀ c a d v w,Q (.panic c) (a.put (some d) v) w→Q (.panic c) a w) (hQ:∀ w,RW W w 127→Q .normal { tmps:=#[.map (some W.heap.size),.map (some W.heap.size),keyV 0,fnV 0,keyV 1,fnV 1,keyV 2,fnV 2,keyV 3,fnV 3,keyV 4,fnV 4,keyV 5,fnV 5,keyV 6,fnV 6,.map (some W.heap.size)],defers:=[] } w) :
  Code.wp Tryz.prog (.region 1 opsR true) Q { tmps:=#[.map none,undef,undef,undef,undef,undef,undef,undef,undef,undef,undef,undef,undef,undef,undef,undef,undef],defers:=[] } W:=by
 refine wp_region_any (by kernel_rfl) ?_
 change wpAny Tryz.prog .any opsR Q 24 _ _ (World.drew W)
 refine take_key hp (i:=0) (by decide) (by kernel_rfl) (by kernel_rfl) ?_
 refine take_fn hp (i:=0) (by decide) (by kernel_rfl) (by kernel_rfl) ?_
 refine take_key hp (i:=1) (by decide) (by kernel_rfl) (by kernel_rfl) ?_
 refine take_fn hp (i:=1) (by decide) (by kernel_rfl) (by kernel_rfl) ?_
 refine take_key hp (i:=2) (by decide) (by kernel_rfl) (by kernel_rfl) ?_
 refine take_fn hp (i:=2) (by decide) (by kernel_rfl) (by kernel_rfl) ?_
 refine take_key hp (i:=3) (by decide) (by kernel_rfl) (by kernel_rfl) ?_
 refine take_fn hp (i:=3) (by decide) (by kernel_rfl) (by kernel_rfl) ?_
 refine take_key hp (i:=4) (by decide) (by kernel_rfl) (by kernel_rfl) ?_
 refine take_fn hp (i:=4) (by decide) (by kernel_rfl) (by kernel_rfl) ?_
 refine take_key hp (i:=5) (by decide) (by kernel_rfl) (by kernel_rfl) ?_
 refine take_fn hp (i:=5) (by decide) (by kernel_rfl) (by kernel_rfl) ?_
 refine take_key hp (i:=6) (by decide) (by kernel_rfl) (by kernel_rfl) ?_
 refine take_fn hp (i:=6) (by decide) (by kernel_rfl) (by kernel_rfl) ?_
 refine wpAny_ready (rs:=[0]) (by kernel_rfl) (by simp) (AllReady.cons (o:={ dst:=some 1,op:=.makeMap 157 none,type:=157,pos := "collision.go:33",after:=#[],guard:=none }) rfl (fun K hK=>?_) AllReady.nil)
 rw[if_pos (show Region.wanted _ _=true from rfl)]
 refine hK _ _ ?_
 refine Eq.mp (?_:wpAny Tryz.prog .any opsR Q (2+7) (lst 0) (actR W.heap.size) ((World.drew W).alloc (.map #[] 0))=_) (phase2 (fuel:=2) (a:=actR W.heap.size) rfl (actR_ops _) (fun w hw=>?_) 7 0 (by decide) rfl _ (rw_start W))
 ·kernel_rfl
 ·refine wpAny_ready (rs:=[22]) (by kernel_rfl) (by simp) (AllReady.cons (o:={ dst:=some 16,op:=.move (.tmp 1),type:=157,pos := "collision.go:33",after:=(opsR[22]?).map (·.after) |>.getD #[],guard:=none }) (by kernel_rfl) (fun K hK=>?_) AllReady.nil)
  rw[if_pos (show Region.wanted _ _=true from rfl)]
  refine hK _ _ ?_
  refine wpAny_ready (rs:=[23]) (by kernel_rfl) (by simp) (AllReady.cons (o:={ dst:=some 0,op:=.assign (.tmp 16),type:=157,pos := "collision.go:33",after:=(opsR[23]?).map (·.after) |>.getD #[],guard:=none }) (by kernel_rfl) (fun K hK=>?_) AllReady.nil)
  rw[if_pos (show Region.wanted _ _=true from rfl)]
  refine hK _ _ ?_
  exact wpAny_done (by kernel_rfl) (hQ w hw) 0
theorem rules99 (W:World):Calls Tryz.prog 99 #[] W fun e w'=>e=.returned (.map (some W.heap.size))∧RW W w' 127:=by
 go_enter Tryz.func99,Tryz.ntmps99
 go_wp2
 refine region99 W _ (fun _ _ _ _ _ h=>h) fun w hw=>?_
 go_wp2
 go_ret
 exact⟨rfl,hw⟩
theorem rules_apart:keysApart KT rulesL:=by
 unfold keysApart rulesL
 simp only[List.pairwise_cons,List.mem_cons,List.not_mem_nil,or_false,forall_eq_or_imp,forall_eq,List.Pairwise.nil,and_true,false_imp_iff,implies_true]
 decide +kernel
theorem rules_ok {R:Type} {args:List AV} {h:List Cell} {k:AV→List Cell→Option R} {r:R} (hr:specRules.run args h k=some r) :
  ∃ v h',k v h'=some r∧∀ T σ lm ls ps w us,Inv T σ lm h ls ps w→GlobOk X0 T.fix→RepL T.fix σ lm args us→CallsOk X0.P (.func 99) lm us w (PostH T σ lm h ls w v h' ps):=by
 unfold specRules at hr
 simp only at hr
 split at hr
 ·refine⟨_,_,hr,fun T σ lm ls ps w us I hg hv=>?_⟩
  cases hv
  obtain⟨c,hb⟩:∃ c,Tryz.f99.body=some c:=⟨_,rfl⟩
  refine callsOk_fun (X:=X0) (g:=99) Tryz.func99 hb ((rules99 w).mono ?_)
  rintro e w' ⟨rfl,hw⟩
  obtain⟨es,ck,js,h1,h2,h3⟩:=hw.map
  have hheap:w'.heap=(w.alloc (.map es ck)).heap:=by
   obtain⟨g1,g2⟩:=MapKept.heap_alloc w (.map es ck)
   apply Array.ext_getElem?
   intro i
   rcases Nat.lt_trichotomy i w.heap.size with q | q | q
   ·rw[hw.old i q,g2 i q]
   ·subst q;rw[h1,g1]
   ·rw[Array.getElem?_eq_none (by rw[hw.size];omega),Array.getElem?_eq_none (by rw[World.size_alloc];omega)]
  have hperm:(js.map ent).Perm rulesL:=(h3.map ent).trans (List.Perm.of_eq (by rfl))
  obtain⟨T',K,J⟩:=I.newMapv (w':=w') (by decide) rules_apart hperm h2 hw.os hw.tape hw.output hheap
  refine⟨_,rfl,T',_,K,fun c hc b hσ=>?_,J,.map _ _ _ (by simp)⟩
  show (if c=h.length then some w.heap.size else σ c)=some b
  rw[if_neg (by omega)];exact hσ
 ·cases hr
end Go.Jm
namespace Go.Am
open Go
section
variable {F:Fix} {σ lm:Nat→Option Nat}
mutual
theorem Rep.ptrs_known {ow:Own} {v:AV} {u:Value} (h:Rep F σ lm ow v u):∀ c∈v.ptrs,∃ b,σ c=some b:=by
 cases h with
 | ptr _ c off b h=>intro x hx;simp[AV.ptrs] at hx;subst hx;exact⟨_,h⟩
 | map _ c b h=>intro x hx;simp[AV.ptrs] at hx;subst hx;exact⟨_,h⟩
 | hs _ c e lo len u h=>intro x hx;simp[AV.ptrs] at hx;subst hx;exact⟨_,h.choose_spec.1⟩
 | rptr _ c e i off p h=>intro x hx;simp[AV.ptrs] at hx;subst hx;exact⟨_,h⟩
 | func _ g a b va vb ha hb =>
  intro x hx
  simp only[AV.ptrs,List.mem_append] at hx
  rcases hx with hx | hx
  ·exact RepL.ptrs_known ha x hx
  ·exact RepL.ptrs_known hb x hx
 | yield _ l r h=>intro x hx;simp[AV.ptrs,ptrsL] at hx
 | iface _ t v u h=>intro x hx;simp only[AV.ptrs] at hx;exact Rep.ptrs_known h x hx
 | agg _ l vs h=>intro x hx;simp only[AV.ptrs] at hx;exact RepL.ptrs_known h x hx
 | tuple _ l vs h=>intro x hx;simp only[AV.ptrs] at hx;exact RepC.ptrs_known h x hx
 | cptr _ l a vs h hf=>intro x hx;simp only[AV.ptrs] at hx;exact RepL.ptrs_known h x hx
 | _=>intro x hx;simp[AV.ptrs] at hx
theorem RepL.ptrs_known {l:List AV} {us:List Value} (h:RepL F σ lm l us):∀ c∈ptrsL l,∃ b,σ c=some b:=by
 cases h with
 | nil=>intro x hx;simp[ptrsL] at hx
 | cons a v l vs h t =>
  intro x hx
  simp only[ptrsL,List.mem_append] at hx
  rcases hx with hx | hx
  ·exact Rep.ptrs_known h x hx
  ·exact RepL.ptrs_known t x hx
theorem RepC.ptrs_known {ow:Own} {j:Nat} {l:List AV} {us:List Value} (h:RepC F σ lm ow j l us):∀ c∈ptrsL l,∃ b,σ c=some b:=by
 cases h with
 | nil=>intro x hx;simp[ptrsL] at hx
 | cons _ _ a v l vs h t =>
  intro x hx
  simp only[ptrsL,List.mem_append] at hx
  rcases hx with hx | hx
  ·exact Rep.ptrs_known h x hx
  ·exact RepC.ptrs_known t x hx
end
end
theorem Inv.loopsIn {T:Tags} {σ lm:Nat→Option Nat} {h:List Cell} {ls:List LoopRec} {ps:List (Option AE)} {w:World} (I:Inv T σ lm h ls ps w):loopsIn h.length ls=true:=by
 unfold Go.Am.loopsIn
 rw[List.all_eq_true]
 intro r hr
 rw[List.all_eq_true]
 intro c hc
 obtain⟨i,hi⟩:=List.mem_iff_getElem?.1 hr
 obtain⟨b,rec,_,_,_,_,_,_,_,_,g9,_⟩:=I.loop i r hi
 obtain⟨t,ht⟩:=mem_ptrsL' hc
 obtain⟨b',hb'⟩:=(g9 t).ptrs_known c ht
 obtain⟨x,hx,_⟩:=I.dom c b' hb'
 rw[decide_eq_true_eq]
 exact (List.getElem?_eq_some_iff.1 hx).1
end Go.Am
namespace Go.Jm
open Go Go.Am Go.Proofs
noncomputable def X1:Ext:={ X0 with specH:=fun _=>none }
noncomputable def K91 {R:Type} (ps:List (Option AE)) (ls:List LoopRec) (a jt by' kd i j:Int) (o:Bool) (e:Ty) (xs:List e.den) (k:List AV→List Cell→List (Option AE)→Option R):Option R :=
 codeK X1 (run X1 0) { fn:=91,base:=1,nt:=26,loops:=ls } (Tryz.f91.body.getD .skip) { tmps:=([AV.agg [.int .i64 kd,.int .i64 i,.int .i64 j,.slice o e xs],.ptr 0 0]).map AV.dull ++ List.replicate 24 .top,heap:=[.var [.int .i64 a,.int .i64 jt,.int .i64 by']],pend:=ps } fun e s =>
     if leavesOk e=true then (resVars X1 s Tryz.f91.results.toList).bind fun vs=>k vs s.heap s.pend else none
def H91 (a jt by' kd i j:Int) (o:Bool) (e:Ty) (xs:List e.den):List Cell:=[.var [.int .i64 a,.int .i64 jt,.int .i64 by'],.var [.int .i64 kd,.int .i64 i,.int .i64 j,.slice o e xs]]
theorem k91 {R:Type} (ps:List (Option AE)) (ls:List LoopRec) (a jt by' kd i j:Int) (o:Bool) (e:Ty) (xs:List e.den) (k:List AV→List Cell→List (Option AE)→Option R) :
  K91 ps ls a jt by' kd i j o e xs k=br (decide (i=a)) (br (decide (kd=1)) (br (decide (jt≤j)) (k [.bool true] (H91 a jt by' kd i j o e xs) ps) (k [.bool (decide (kd=2))] (H91 a jt by' kd i j o e xs) ps)) (k [.bool (decide (kd=2))] (H91 a jt by' kd i j o e xs) ps)) (k [.bool false] (H91 a jt by' kd i j o e xs) ps):=by kernel_rfl
theorem body91 {R:Type} (ps:List (Option AE)) (ls:List LoopRec) (a jt by' kd i j:Int) (o:Bool) (e:Ty) (xs:List e.den) (k:List AV→List Cell→List (Option AE)→Option R) :
  bodyK X1 (run X1 0) 91 [.agg [.int .i64 kd,.int .i64 i,.int .i64 j,.slice o e xs],.ptr 0 0] [.var [.int .i64 a,.int .i64 jt,.int .i64 by']] ls ps k=if 2≤26∧loopsIn 1 ls=true then K91 ps ls a jt by' kd i j o e xs k else none:=by kernel_rfl
theorem prog_ok1:ProgOk X1:={
 name:=by
  have h:(Tryz.prog.funcs.toList.all fun f=>!(f.name == "runtime.NumGoroutine"))=true:=by kernel_rfl
  intro g fd hg
  rw[List.all_eq_true] at h
  have:=h fd (by
   have h2:Tryz.prog.funcs[g]?=some fd:=hg
   rw[← Array.getElem?_toList] at h2
   exact List.mem_of_getElem? h2)
  simpa using this
 mixed:=by kernel_rfl }
theorem moves_ok {R:Type} {args:List AV} {h:List Cell} {k:AV→List Cell→Option R} {r:R} (hr:specMoves.run args h k=some r) :
  ∃ v h',k v h'=some r∧∀ T σ lm ls ps w us,Inv T σ lm h ls ps w→GlobOk X0 T.fix→RepL T.fix σ lm args us→CallsOk X0.P (.func 91) lm us w (PostH T σ lm h ls w v h' ps):=by
 unfold specMoves at hr
 simp only at hr
 split at hr
 ·rename_i kd i j o e xs a jt by'
  refine⟨_,_,hr,fun T σ lm ls ps w us I hg hv=>?_⟩
  have hk:bodyK X1 (run X1 0) 91 [.agg [.int .i64 kd,.int .i64 i,.int .i64 j,.slice o e xs],.ptr 0 0] [.var [.int .i64 a,.int .i64 jt,.int .i64 by']] ls ps (fun vs h p=>some (vs,h,p)) =
    some ([.bool (decide (i=a) && (decide (kd=1) && decide (jt≤j) || decide (kd=2)))],H91 a jt by' kd i j o e xs,ps):=by
   rw[body91,if_pos ⟨by decide,I.loopsIn⟩,k91]
   cases decide (i=a) <;> cases decide (kd=1) <;> cases decide (jt≤j) <;> cases decide (kd=2) <;> rfl
  obtain⟨vs,h',ps',h1,h2⟩:=bodyK_some prog_ok1 (run_ok prog_ok1 (fun g t f args x h=>by cases h) (specH_none fun g=>rfl) 0) hk
  cases h1
  refine (h2 T σ lm w us I hg hv).mono ?_
  rintro u w' ⟨T',σ',rs,K,hσ,I',rfl,hres⟩
  exact⟨T',σ',K,hσ,I',packRes_rep hres⟩
 ·cases hr
end Go.Jm
namespace Go.Jm
open Go Go.Proofs Go.RowKit Go.Lib Go.Shelf Go.Sort Go.Am
def cf35 (x y:Int×Int):Int:=if Lib.compareInt x.1 y.1≠0 then Lib.compareInt x.1 y.1 else Lib.compareInt x.2 y.2
theorem lt35 (x y:Int×Int):ltOf cf35 x y=(decide (x.1<y.1) || (decide (x.1=y.1) && decide (x.2<y.2))):=by
 unfold ltOf cf35 Lib.compareInt
 by_cases h1:x.1<y.1
 ·simp[h1]
 ·by_cases h2:x.1 > y.1
  ·have:x.1≠y.1:=by omega
   simp[h1,h2,this]
  ·have:x.1=y.1:=by omega
   by_cases h3:x.2<y.2
   ·simp[this,h3]
   ·by_cases h4:x.2 > y.2 <;> simp[this,h3,h4]
theorem swo35:SWO (ltOf cf35) where
 irrefl x:=by rw[lt35];simp
 trans x y z h1 h2:=by rw[lt35] at *;simp at *;omega
 ntrans x y z h1 h2:=by rw[lt35] at *;simp at *;omega
theorem total35 (x y:Int×Int) (h1:ltOf cf35 x y=false) (h2:ltOf cf35 y x=false):x=y:=by
 rw[lt35] at h1 h2;simp at h1 h2;exact Prod.ext (by omega) (by omega)
theorem sort35 (l:List (Int×Int)):Hu.sortPts l=l.mergeSort fun x y=>!(ltOf cf35) y x:=by
 unfold Hu.sortPts
 congr 1
 funext x y
 rw[lt35]
 unfold Hu.ptLe
 rw[Bool.eq_iff_iff]
 simp
 omega
theorem lays35 (blk off size:Nat) (w:World):CmpLays Tryz.prog 131 #[] encP 2 cf35 blk off size w:=fun _ _ _ _ x y=>closure131 x y _
theorem prog_ok:ProgOk X0:={
 name:=by
  have h:(Tryz.prog.funcs.toList.all fun f=>!(f.name == "runtime.NumGoroutine"))=true:=by kernel_rfl
  intro g fd hg
  rw[List.all_eq_true] at h
  have:=h fd (by
   have h2:Tryz.prog.funcs[g]?=some fd:=hg
   rw[← Array.getElem?_toList] at h2
   exact List.mem_of_getElem? h2)
  simpa using this
 mixed:=by kernel_rfl }
theorem spec_ok:SpecOk X0:=fun g t f args x h=>by cases h
theorem specH_ok:SpecHOk X0:=by
 intro g f R args h k r hs hr
 change specHTab g=some f at hs
 unfold specHTab at hs
 split at hs
 ·rename_i hg;subst hg
  cases hs
  exact clone_ok (X:=X0) (ρ:=Tryz.laysE41_ren) Tryz.laysE41 (e:=PtT) Tryz.func119 (by kernel_rfl) (bb:=16) (by kernel_rfl) (by decide) (by decide) Tryz.sizeOf23 hr
 ·split at hs
  ·rename_i hg;subst hg
   cases hs
   exact clone_ok (X:=X0) (ρ:=Tryz.laysE41b_ren) Tryz.laysE41b (e:=PtT) Tryz.func129 (by kernel_rfl) (bb:=16) (by kernel_rfl) (by decide) (by decide) Tryz.sizeOf23 hr
  ·split at hs
   ·rename_i hg;subst hg
    cases hs
    exact sort_ok (X:=X0) (ρ:=Tryz.laysF6_ren) Tryz.laysF6 Tryz.func130 (by kernel_rfl) Tryz.isAgg23 Tryz.sizeOf23 cf35 swo35 total35 131 (enters_of Tryz.func131 (by kernel_rfl) rfl) lays35 Hu.sortPts sort35 hr
   ·split at hs
    ·rename_i hg;subst hg
     cases hs
     exact moves_ok hr
    ·split at hs
     ·rename_i hg;subst hg
      cases hs
      exact rules_ok hr
     ·cases hs
end Go.Jm
namespace Go.Proofs.YtipafalnnbojkaaGreat
open Go Go.Am Go.Jm Go.ChangeShapes Go.WideShapes Go.ChangeAt Go.RowKit
theorem own:ownKnob Tryz.prog.godebug=none:=by kernel_rfl
theorem laidOut:laidOutB Tryz.prog=true:=by kernel_rfl
theorem globOk {W:World}:GlobOk X0 (snap W):=fun g l hg=>by cases hg
noncomputable def plainWorld (os:Os):World:=World.holding Tryz.prog os ⟨#[],#[],[]⟩
theorem laidMet_nil (P:Program) (w:World):laidMet P [] w:=⟨[],rfl,List.nodup_nil,fun b off h=>by cases h⟩
abbrev tCell:Ty:=.pair (.pair (.pair (.pair (.int .i64) (.int .i64)) (.pair (.pair (.int .i64) (.pair (.int .i64) (.int .i64))) (.pair (.int .i64) (.pair (.pair (.int .i64) (.pair (.int .i64) (.int .i64))) (.pair (.int .i64) (.pair (.int .i64) (.int .i64))))))) (.pair (.pair (.int .i64) (.int .i64)) (.pair (.pair (.int .i64) (.pair (.int .i64) (.int .i64))) (.pair (.int .i64) (.pair (.pair (.int .i64) (.pair (.int .i64) (.int .i64))) (.pair (.int .i64) (.pair (.int .i64) (.int .i64)))))))) (.pair (.pair (.pair (.int .i64) (.pair (.int .i64) (.int .i64))) (.pair (.int .i64) (.pair (.int .i64) (.int .i64)))) (.pair (.slice (.slice (.pair (.int .i64) (.int .i64)))) (.pair (.slice (.pair .str (.pair (.pair (.int .i64) (.int .i64)) (.pair (.int .i64) (.pair (.int .i64) (.int .i64)))))) (.pair (.slice (.pair .str (.pair (.slice (.pair (.int .i64) (.int .i64))) (.int .i64)))) (.pair (.slice (.int .i64)) (.pair (.int .i64) (.pair (.pair (.int .i64) (.pair (.int .i64) (.int .i64))) (.pair (.pair (.int .i64) (.pair (.int .i64) (.int .i64))) (.pair (.slice (.slice (.pair (.int .i64) (.int .i64)))) (.pair (.int .i64) (.int .i64)))))))))))
abbrev tState:Ty:=.pair (.pair (.pair (.int .i64) (.pair (.int .i64) (.int .i64))) (.pair (.int .i64) (.pair (.int .i64) (.int .i64)))) (.pair (.pair (.int .i64) (.int .i64)) (.slice (.int .i64)))
abbrev tMove:Ty:=.pair (.int .i64) (.pair (.int .i64) (.int .i64))
def aCell:Value:=.agg #[.int .i64 0,.int .i64 0,.int .i64 0,.int .i64 0,.int .i64 0,.int .i64 0,.int .i64 0,.int .i64 0,.int .i64 0,.int .i64 0,.int .i64 0,.int .i64 0,.int .i64 0,.int .i64 0,.int .i64 0,.int .i64 0,.int .i64 0,.int .i64 0,.int .i64 0,.int .i64 0,.int .i64 0,.int .i64 0,.int .i64 0,.int .i64 0,.int .i64 0,.int .i64 0,.int .i64 0,.int .i64 0,.int .i64 0,.int .i64 0,.slice none 0 0,.slice none 0 0,.slice none 0 0,.slice none 0 0,.int .i64 0,.int .i64 0,.int .i64 0,.int .i64 0,.int .i64 0,.int .i64 0,.int .i64 0,.slice none 0 0,.int .i64 0,.int .i64 0]
def dCell {H:Type}:DataW H:=.agg [.agg [.agg [.agg [.lit (.int .i64 0),.lit (.int .i64 0)],.agg [.lit (.int .i64 0),.lit (.int .i64 0),.lit (.int .i64 0)],.lit (.int .i64 0),.agg [.lit (.int .i64 0),.lit (.int .i64 0),.lit (.int .i64 0)],.agg [.lit (.int .i64 0),.lit (.int .i64 0),.lit (.int .i64 0)]],.agg [.agg [.lit (.int .i64 0),.lit (.int .i64 0)],.agg [.lit (.int .i64 0),.lit (.int .i64 0),.lit (.int .i64 0)],.lit (.int .i64 0),.agg [.lit (.int .i64 0),.lit (.int .i64 0),.lit (.int .i64 0)],.agg [.lit (.int .i64 0),.lit (.int .i64 0),.lit (.int .i64 0)]]],.agg [.agg [.lit (.int .i64 0),.lit (.int .i64 0),.lit (.int .i64 0)],.agg [.lit (.int .i64 0),.lit (.int .i64 0),.lit (.int .i64 0)]],.nil,.nil,.nil,.nil,.lit (.int .i64 0),.agg [.lit (.int .i64 0),.lit (.int .i64 0),.lit (.int .i64 0)],.agg [.lit (.int .i64 0),.lit (.int .i64 0),.lit (.int .i64 0)],.nil,.lit (.int .i64 0),.lit (.int .i64 0)]
def aState:Value:=.agg #[.int .i64 0,.int .i64 0,.int .i64 0,.int .i64 0,.int .i64 0,.int .i64 0,.int .i64 0,.int .i64 0,.slice none 0 0]
def dState {H:Type}:DataW H:=.agg [.agg [.agg [.lit (.int .i64 0),.lit (.int .i64 0),.lit (.int .i64 0)],.agg [.lit (.int .i64 0),.lit (.int .i64 0),.lit (.int .i64 0)]],.agg [.lit (.int .i64 0),.lit (.int .i64 0)],.nil]
def aMove:Value:=.agg #[.int .i64 0,.int .i64 0,.int .i64 0]
def dMove {H:Type}:DataW H:=.agg [.lit (.int .i64 0),.lit (.int .i64 0),.lit (.int .i64 0)]
end Go.Proofs.YtipafalnnbojkaaGreat
