import GoSem.Core.Code
import GoSem.Core.Program
import GoSem.Core.View
import GoSem.Step
import Derived.Laws.World
import GoSem.ClaimData
import Derived.Laws.AppendOwn
import Derived.Below
import Derived.Laws.Cells
import Derived.Laws.Entries
import Derived.Laws.StructEq
import Derived.ChangeKeysEq
import Derived.Deep.AppendSrc
set_option linter.unusedVariables false
set_option linter.unusedSimpArgs false
set_option linter.unnecessarySimpa false
set_option linter.unusedSectionVars false
namespace Go.Am
open Go
inductive Ty where
 | unit | int (k:IntKind) | bool | str | slice (e:Ty) | pair (a b:Ty) | sum (a b:Ty)
 deriving DecidableEq
@[reducible] def Ty.den:Ty→Type
 | .unit=>Unit
 | .int _=>Int
 | .bool=>Bool
 | .str=>ByteArray
 | .slice e=>List e.den
 | .pair a b=>a.den×b.den
 | .sum a b=>a.den ⊕ b.den
inductive AV where
 | int (k:IntKind) (n:Int)
 | bool (b:Bool)
 | str (s:ByteArray)
 | slice (own:Bool) (e:Ty) (xs:List e.den)
 | nil
 | ptr (c off:Nat)
 | nilptr
 | cptr (vals:List AV)
 | func (fn:Fn) (first captured:List AV)
 | nilfunc
 | map (c:Nat)
 | nilmap
 | iface (t:TypeId) (v:AV)
 | niliface
 | agg (l:List AV)
 | tuple (l:List AV)
 | hs (c:Nat) (e:Ty) (lo len:Nat)
 | rptr (c:Nat) (e:Ty) (i off:Nat)
 | void
 | top
mutual
def AV.ptrs:AV→List Nat
 | .ptr c _=>[c]
 | .map c=>[c]
 | .hs c _ _ _=>[c]
 | .rptr c _ _ _=>[c]
 | .func _ a b=>ptrsL a ++ ptrsL b
 | .iface _ v=>v.ptrs
 | .agg l=>ptrsL l
 | .tuple l=>ptrsL l
 | .cptr l=>ptrsL l
 | _=>[]
def ptrsL:List AV→List Nat
 | []=>[]
 | v :: l=>v.ptrs ++ ptrsL l
end
mutual
def AV.ren (f:Nat→Nat):AV→AV
 | .ptr c o=>.ptr (f c) o
 | .map c=>.map (f c)
 | .hs c e lo len=>.hs (f c) e lo len
 | .rptr c e i off=>.rptr (f c) e i off
 | .func fn a b=>.func fn (renL f a) (renL f b)
 | .iface t v=>.iface t (v.ren f)
 | .agg l=>.agg (renL f l)
 | .tuple l=>.tuple (renL f l)
 | .cptr l=>.cptr (renL f l)
 | v=>v
def renL (f:Nat→Nat):List AV→List AV
 | []=>[]
 | v :: l=>v.ren f :: renL f l
end
mutual
def AV.closed:AV→Bool
 | .ptr _ _=>false
 | .map _=>false
 | .hs _ _ _ _=>false
 | .rptr _ _ _ _=>false
 | .func (.func _) a b=>closedL a && closedL b
 | .func _ _ _=>false
 | .iface _ v=>v.closed
 | .agg l=>closedL l
 | .tuple l=>closedL l
 | .cptr l=>closedL l
 | _=>true
def closedL:List AV→Bool
 | []=>true
 | v :: l=>v.closed && closedL l
end
mutual
def AV.calm:AV→Bool
 | .func (.func _) a b=>calmL a && calmL b
 | .func _ _ _=>false
 | .iface _ v=>v.calm
 | .agg l=>calmL l
 | .tuple l=>calmL l
 | .cptr l=>calmL l
 | _=>true
def calmL:List AV→Bool
 | []=>true
 | v :: l=>v.calm && calmL l
end
mutual
def AV.dull:AV→AV
 | .slice _ e xs=>.slice false e xs
 | .tuple l=>.tuple (dullL l)
 | v=>v
def dullL:List AV→List AV
 | []=>[]
 | v :: l=>v.dull :: dullL l
end
def AV.leafOk:AV→Bool
 | .agg _ | .tuple _ | .top=>false
 | _=>true
def AV.flat:AV→Option (List AV)
 | .agg l=>some l
 | v=>if v.leafOk=true then some [v.dull] else none
def Ty.leaves:(t:Ty)→t.den→List AV
 | .unit,_=>[]
 | .int k,n=>[.int k n]
 | .bool,b=>[.bool b]
 | .str,s=>[.str s]
 | .slice e,xs=>[.slice false e xs]
 | .pair a b,p=>a.leaves p.1 ++ b.leaves p.2
 | .sum _ _,_=>[]
def Ty.take:(t:Ty)→List AV→Option (t.den×List AV)
 | .unit,l=>some ((),l)
 | .int k,.int k' n :: l=>if k=k' then some (n,l) else none
 | .bool,.bool b :: l=>some (b,l)
 | .str,.str b :: l=>some (b,l)
 | .slice _,.nil :: l=>some ([],l)
 | .slice e,.slice _ e' xs :: l=>if h:e'=e then some (h▸xs,l) else none
 | .pair a b,l=>(a.take l).bind fun x=>(b.take x.2).bind fun y=>some ((x.1,y.1),y.2)
 | _,_=>none
def Ty.zero:(t:Ty)→t.den
 | .unit=>()
 | .int _=>(0:Int)
 | .bool=>false
 | .str=>ByteArray.empty
 | .slice _=>[]
 | .pair a b=>(a.zero,b.zero)
 | .sum a _=>.inl a.zero
def Ty.beq:(t:Ty)→t.den→t.den→Bool
 | .unit,_,_=>true
 | .int _,a,b=>decide ((a:Int)=b)
 | .bool,a,b=>decide ((a:Bool)=b)
 | .str,_,_=>false
 | .slice _,_,_=>false
 | .pair a b,x,y=>a.beq x.1 y.1 && b.beq x.2 y.2
 | .sum _ _,_,_=>false
def Ty.width:Ty→Nat
 | .unit=>0
 | .pair a b=>a.width+b.width
 | .sum _ _=>0
 | _=>1
def mkRow:List Ty→Ty
 | []=>.unit
 | [a]=>a
 | a :: b :: r=>.pair a (mkRow (b :: r))
def tyRep (n:Nat) (t:Ty):List Ty:=List.replicate n t
def tyOf (P:Program):Nat→TypeId→Option Ty
 | 0,_=>none
 | d+1,t =>
  match P.underlying t with
  | some (.int k)=>some (.int k)
  | some .bool=>some .bool
  | some .string=>some .str
  | some (.slice e)=>(tyOf P d e).bind fun x=>if x.width=((P.info? e).map (·.size)).getD 0 then some (.slice x) else none
  | some (.struct fs)=>(fs.toList.mapM fun f=>tyOf P d f.type).map mkRow
  | some (.array n e)=>(tyOf P d e).map fun x=>mkRow (tyRep n x)
  | _=>none
def aggType (P:Program) (t:TypeId):Bool :=
 match P.underlying t with
 | some (.struct _)=>true
 | some (.array _ _)=>true
 | _=>false
def tdepth:Nat:=12
inductive AE where
 | normal | exit (id:Nat) | ret
 deriving DecidableEq
inductive Cell where
 | empty
 | var (l:List AV)
 | map (k e:Ty) (l:List (k.den×e.den))
 | mapv (k:Ty) (ea:Bool) (l:List (k.den×List AV))
 | row (e:Ty) (xs:List e.den)
 | gone
def Cell.live:Cell→Bool
 | .var _ | .row _ _ | .gone | .map _ _ _ | .mapv _ _ _=>true
 | _=>false
structure LoopRec where
 fn:FuncId
 tmps:List AV
 params:List Tmp
 assign:Code
 body:Code
structure Amb where
 fn:FuncId
 base:Nat
 nt:Nat
 loops:List LoopRec
 rd:Bool:=false
structure St where
 tmps:List AV
 heap:List Cell
 pend:List (Option AE)
inductive AT0 where
 | top | data (own:Bool) (t:Ty) | agg (t:Ty) | ptr (c off:Nat) | map (c:Nat) | hs (c:Nat) (e:Ty) | hw (c:Nat) (e:Ty)
inductive AT where
 | base (a:AT0) | func (fn:Fn) (a b:List AT0)
inductive CT where
 | empty | var (l:List AT) | map (k e:Ty) | mapv (k:Ty) (ea:Bool) (l:List (k.den×List AV)) | row (e:Ty) | gone | pre (t:Ty) (l:List AT)
structure Tpl where
 tmps:List (Tmp×AT)
 heap:List CT
 pend:List (Option AE):=[]
structure Shape where
 head:Tpl
 exits:List (AE×Tpl)
structure SpecF where
 run:{R:Type}→List AV→List Cell→(AV→List Cell→Option R)→Option R
structure Ext where
 P:Program
 shapes:FuncId→Nat→List Shape:=fun _ _=>[]
 cuts:FuncId→Nat→Option (List (AE×Tpl)):=fun _ _=>none
 fresh:FuncId→Bool:=fun _=>false
 unroll:FuncId→Nat→Nat:=fun _ _=>0
 mark:FuncId→Tmp→Bool:=fun _ _=>false
 specH:FuncId→Option SpecF:=fun _=>none
 retTy:FuncId→Option Ty
 spec:(g:FuncId)→(t:Ty)→Option (List AV→Option t.den):=fun _ _=>none
 global:Nat→Option (List AV):=fun _=>none
def Cell.ptrs:Cell→List Nat
 | .var l=>ptrsL l
 | _=>[]
def Cell.ren (f:Nat→Nat):Cell→Cell
 | .var l=>.var (renL f l)
 | c=>c
def LoopRec.ren (f:Nat→Nat) (r:LoopRec):LoopRec:={ r with tmps:=renL f r.tmps }
def Cell.calm:Cell→Bool
 | .var l=>calmL l
 | _=>true
def getT (l:List AV) (t:Tmp):AV:=l.getD t .top
def constAV (v:Value):AV :=
 match v with
 | .int k n=>.int k n
 | .bool b=>.bool b
 | .string s=>.str s
 | .slice a l c=>match a with
  | none=>if l=0∧c=0 then .nil else .top
  | some _=>.top
 | .pointer a=>match a with
  | none=>.nilptr
  | some _=>.top
 | .nilFunc=>.nilfunc
 | .map r=>match r with
  | none=>.nilmap
  | some _=>.top
 | .nilIface=>.niliface
 | .func fn a b=>match fn with
  | .func f=>if a.toList.isEmpty=true∧b.toList.isEmpty=true then .func (.func f) [] [] else .top
  | _=>.top
 | _=>.top
def St.eval (X:Ext) (s:St):Operand→AV
 | .tmp t=>getT s.tmps t
 | .const v=>constAV v
 | .global g=>match X.global g with
  | some l=>.cptr l
  | none=>.top
 | .func f=>.func (.func f) [] []
def St.put (s:St) (d:Option Tmp) (v:AV):St :=
 match d with
 | some d=>{ s with tmps:=s.tmps.set d v }
 | none=>s
def zeroLeaves (P:Program) (t:TypeId):Option (List AV) :=
 ((P.info? t).bind (·.zero)).map fun v=>v.cells.toList.map constAV
end Go.Am
namespace Go.Am
open Go
variable {R:Type}
def br (b:Bool) (x y:Option R):Option R :=
 match b with
 | true=>x
 | false=>y
theorem br_eq (b:Bool) (x y:Option R):br b x y=if b=true then x else y:=by cases b <;> rfl
def eachIx (n:Nat) (i:Int) (k:Nat→Option R):Option R :=
 match n with
 | 0=>none
 | m+1=>br (decide (i=(m:Int))) (k m) (eachIx m i k)
def sizeT (P:Program) (t:TypeId):Nat:=((P.info? t).map (·.size)).getD 0
def bytesT (P:Program) (t:TypeId):Nat:=((P.info? t).map (·.bytes)).getD 0
def fillLeaves (place:Nat→Option (Nat×Nat)) (cells:List AV):List (Nat×AV)→Option (List AV)
 | []=>some cells
 | (i,v) :: rest =>
  match place i with
  | none=>none
  | some (off,size) =>
   v.flat.bind fun fl=>if fl.length=size∧off+size≤cells.length then fillLeaves place (cells.take off ++ fl ++ cells.drop (off+size)) rest
    else none
structure Eff where
 val:AV
 dulls:List Tmp:=[]
 writes:List (Nat×Cell):=[]
 looks:List Nat:=[]
 grow:List Cell:=[]
def Cell.asRow (e:Ty):Cell→Option (List e.den)
 | .row e' l=>if h:e'=e then some (h▸l) else none
 | _=>none
theorem asRow_some {e:Ty} {x:Cell} {l:List e.den} (h:x.asRow e=some l):x=.row e l:=by
 unfold Cell.asRow at h
 split at h
 ·split at h
  ·rename_i he;subst he;cases h;rfl
  ·cases h
 ·cases h
def takeAll (t:Ty) (l:List AV):Option t.den :=
 (t.take l).bind fun x=>if x.2.isEmpty then some x.1 else none
def buildK (X:Ext) (t:TypeId) (parts:List (Nat×AV)) (k:AV→Option R):Option R :=
 match X.P.underlying t with
 | some (.struct fs)=>if fs.all (fun f=>(X.P.info? f.type).isSome)=true then
   (zeroLeaves X.P t).bind fun z=>(fillLeaves (fun i=>(fs[i]?).map fun f=>(f.offset,sizeT X.P f.type)) z parts).bind fun l=>k (.agg l)
  else none
 | some (.array _ e)=>if (X.P.info? e).isSome=true then
   (zeroLeaves X.P t).bind fun z=>(fillLeaves (fun i=>some (i*sizeT X.P e,sizeT X.P e)) z parts).bind fun l=>k (.agg l)
  else none
 | _=>none
def rowsOf (e:Ty):Nat→List (Nat×AV)→Option (List e.den)
 | _,[]=>some []
 | i,(j,v) :: rest =>
  if j=i then v.flat.bind fun fl=>(e.take fl).bind fun x=>if x.2.isEmpty=true then (rowsOf e (i+1) rest).bind fun r=>some (x.1 :: r) else none
  else none
def sliceElem (P:Program) (t:TypeId):Option (TypeId×Ty) :=
 match P.underlying t with
 | some (.slice e)=>(tyOf P tdepth e).bind fun x=>if x.width=sizeT P e then some (e,x) else none
 | _=>none
def buildSliceK (X:Ext) (t:TypeId) (n:Nat) (parts:List (Nat×AV)) (k:AV→Option R):Option R :=
 (sliceElem X.P t).bind fun ex =>
  if n*sizeT X.P ex.1≤2 ^ 24∧parts.length=n∧(zeroLeaves X.P ex.1).isSome=true∧0<sizeT X.P ex.1 then
   (rowsOf ex.2 0 parts).bind fun xs=>k (.slice true ex.2 xs)
  else none
def buildSliceHK (X:Ext) (t:TypeId) (n:Nat) (parts:List (Nat×AV)) (slot:Nat) (h:List Cell) (k:Eff→Option R):Option R :=
 (sliceElem X.P t).bind fun ex =>
  if n*sizeT X.P ex.1≤2 ^ 24∧parts.length=n∧(zeroLeaves X.P ex.1).isSome=true∧0<sizeT X.P ex.1 then
   match h[slot]? with
   | some .empty=>(rowsOf ex.2 0 parts).bind fun xs=>k { val:=.hs slot ex.2 0 n,writes:=[(slot,.row ex.2 xs)] }
   | _=>none
  else none
def readLeaves (P:Program) (t:TypeId) (l:List AV) (k:AV→Option R):Option R :=
 match P.underlying t with
 | some (.struct _) | some (.array _ _)=>if sizeT P t≤l.length then k (.agg ((l.take (sizeT P t)).map AV.dull)) else none
 | some _=>match l with
  | v :: _=>k v
  | []=>none
 | none=>none
def loadK (X:Ext) (t:TypeId) (keep:Bool) (a:AV) (h:List Cell) (k:Eff→Option R):Option R :=
 match a with
 | .cptr l=>readLeaves X.P t l fun v=>k { val:=v.dull }
 | .ptr c off =>
  match h[c]? with
  | some (.var l)=>readLeaves X.P t (l.drop off) fun v =>
    match keep,v with
    | true,.slice own e xs=>k { val:=.slice own e xs,writes:=[(c,.var (l.set off (.slice false e xs)))] }
    | _,v=>k { val:=v.dull,looks:=[c] }
  | _=>none
 | .rptr c y m off =>
  match h[c]? with
  | some cell=>(cell.asRow y).bind fun xs=>(xs[m]?).bind fun x=>readLeaves X.P t ((y.leaves x).drop off) fun v=>k { val:=v.dull,looks:=[c] }
  | none=>none
 | _=>none
def tmpOf:Operand→List Tmp
 | .tmp t=>[t]
 | _=>[]
def storeK (X:Ext) (t:TypeId) (a v:AV) (x:Operand) (h:List Cell) (k:Eff→Option R):Option R :=
 match a with
 | .ptr c off =>
  match h[c]? with
  | some (.var l) =>
   let go (new:List AV):Option R :=
    if new.length=sizeT X.P t∧off+new.length≤l.length∧(X.P.info? t).isSome=true∧new.all AV.leafOk=true then
     k { val:=.top,dulls:=tmpOf x,writes:=[(c,.var (l.take off ++ new ++ l.drop (off+new.length)))] }
    else none
   match v with
   | .agg new=>go new
   | v=>go [v]
  | _=>none
 | .rptr c y m off =>
  match h[c]? with
  | some cell=>(cell.asRow y).bind fun xs=>(xs[m]?).bind fun z=>v.flat.bind fun new =>
    if new.length=sizeT X.P t∧off+new.length≤y.width∧(X.P.info? t).isSome=true∧new.all AV.leafOk=true then
     (takeAll y ((y.leaves z).take off ++ new ++ (y.leaves z).drop (off+new.length))).bind fun z'=>k { val:=.top,writes:=[(c,.row y (xs.set m z'))] }
    else none
  | none=>none
 | _=>none
def fieldAddrK (X:Ext) (t:TypeId) (a:AV) (i:Nat) (k:AV→Option R):Option R :=
 match X.P.underlying t with
 | some (.struct fs)=>match fs[i]? with
  | some f=>if 0<sizeT X.P f.type then match a with
   | .ptr c off=>k (.ptr c (off+f.offset))
   | .cptr l=>k (.cptr (l.drop f.offset))
   | .rptr c y m off=>k (.rptr c y m (off+f.offset))
   | _=>none
   else none
  | none=>none
 | _=>none
def indexAddrK (X:Ext) (t:TypeId) (x i:AV) (k:AV→Option R):Option R :=
 match i with
 | .int _ i =>
  match X.P.underlying t with
  | some (.array n e)=>match x with
   | .ptr c off=>if (X.P.info? e).isSome=true then eachIx n i fun j=>k (.ptr c (off+j*sizeT X.P e)) else none
   | .cptr l=>if (X.P.info? e).isSome=true then eachIx n i fun j=>k (.cptr (l.drop (j*sizeT X.P e))) else none
   | .rptr c y m off=>if (X.P.info? e).isSome=true then eachIx n i fun j=>k (.rptr c y m (off+j*sizeT X.P e)) else none
   | _=>none
  | some (.slice te)=>match x with
   | .slice _ e xs=>if 0<e.width∧e.width=sizeT X.P te then br (decide (0≤i)) ((xs[i.toNat]?).bind fun y=>k (.cptr (e.leaves y))) none else none
   | .hs c e lo len=>if e.width=sizeT X.P te∧0<sizeT X.P te then br (decide (0≤i∧i<(len:Int))) (k (.rptr c e (lo+i.toNat) 0)) none else none
   | _=>none
  | _=>none
 | _=>none
def partK (X:Ext) (t:TypeId) (l:List AV) (off:Nat) (k:AV→Option R):Option R :=
 readLeaves X.P t (l.drop off) fun v=>k v.dull
def indexK (X:Ext) (t:TypeId) (x i:AV) (k:AV→Option R):Option R :=
 match i with
 | .int _ i =>
  match X.P.underlying t with
  | some (.array n e)=>match x with
   | .agg l=>if (X.P.info? e).isSome=true then eachIx n i fun j=>partK X e l (j*sizeT X.P e) k else none
   | _=>none
  | some .string=>match x with
   | .str b=>br (decide (0≤i)) ((b.data.toList[i.toNat]?).bind fun c=>k (.int .u8 c.toNat)) none
   | _=>none
  | _=>none
 | _=>none
def boundK (o:Option AV) (d:Int) (k:Int→Option R):Option R :=
 match o with
 | none=>k d
 | some (.int _ n)=>k n
 | some _=>none
def sliceK (X:Ext) (t:TypeId) (x:AV) (lo hi mx:Option AV) (k:AV→Option R):Option R :=
 match X.P.underlying t with
 | some (.slice te) =>
  match mx with
  | some m=>match x with
   | .slice _ _ xs=>boundK lo 0 fun l=>boundK hi xs.length fun h=>boundK (some m) 0 fun m' =>
     if hi.isSome=true∧0<sizeT X.P te then br (decide (0≤l∧l≤h∧h≤m'∧m'≤(xs.length:Int))) (br (decide (h=0∧m'=0)) (k .void) (k .top)) none else none
   | .hs _ _ _ len=>boundK lo 0 fun l=>boundK hi len fun h=>boundK (some m) 0 fun m' =>
     if hi.isSome=true∧0<sizeT X.P te then br (decide (0≤l∧l≤h∧h≤m'∧m'≤(len:Int))) (br (decide (h=0∧m'=0)) (k .void) (k .top)) none else none
   | .nil=>boundK lo 0 fun l=>boundK hi 0 fun h=>boundK (some m) 0 fun m' =>
     if hi.isSome=true∧0<sizeT X.P te then br (decide (0≤l∧l≤h∧h≤m'∧m'≤(0:Int))) (br (decide (h=0∧m'=0)) (k .void) (k .top)) none else none
   | _=>none
  | none=>match x with
   | .slice _ e xs=>boundK lo 0 fun l=>boundK hi xs.length fun h =>
     if 0<e.width∧e.width=sizeT X.P te then br (decide (0≤l∧l≤h∧h≤(xs.length:Int))) (k (.slice false e ((xs.take h.toNat).drop l.toNat))) none else none
   | .hs c e at0 len=>boundK lo 0 fun l=>boundK hi len fun h =>
     if e.width=sizeT X.P te∧0<sizeT X.P te then br (decide (0≤l∧l≤h∧h≤(len:Int))) (k (.hs c e (at0+l.toNat) (h.toNat-l.toNat))) none else none
   | _=>none
 | _=>none
def sliceRowK (X:Ext) (t:TypeId) (x:AV) (lo hi mx:Option AV) (hp:List Cell) (k:AV→Option R):Option R :=
 match X.P.underlying t with
 | some (.slice te) =>
  match mx with
  | some _=>none
  | none=>match x with
   | .hs c e at0 len=>match hp[c]? with
    | some cell=>(cell.asRow e).bind fun xs=>boundK lo 0 fun l=>boundK hi len fun h =>
     if e.width=sizeT X.P te∧0<sizeT X.P te then br (decide (0≤l∧l≤h∧(at0:Int)+h≤(xs.length:Int))) (k (.hs c e (at0+l.toNat) (h.toNat-l.toNat))) none else none
    | none=>none
   | _=>none
 | _=>none
def lenK (X:Ext) (t:TypeId) (x:AV) (hp:List Cell) (k:Eff→Option R):Option R :=
 match X.P.underlying t with
 | some .string=>match x with
  | .str b=>k { val:=.int .i64 b.size }
  | _=>none
 | some (.array n _)=>k { val:=.int .i64 n }
 | some (.slice _)=>match x with
  | .slice _ _ xs=>k { val:=.int .i64 xs.length }
  | .hs _ _ _ len=>k { val:=.int .i64 len }
  | .nil=>k { val:=.int .i64 0 }
  | _=>none
 | _=>none
def asRow (e:Ty):AV→Option (List e.den)
 | .nil=>some []
 | .slice _ e' ys=>if h:e'=e then some (h▸ys) else none
 | _=>none
def srcK (h:List Cell) (e:Ty) (y:AV) (k:List e.den→Option R):Option R :=
 match y with
 | .hs c e' lo len=>if e'=e then match h[c]? with
   | some cell=>(cell.asRow e).bind fun xs=>br (decide (lo+len≤xs.length)) (k ((xs.drop lo).take len)) none
   | none=>none
  else none
 | y=>(asRow e y).bind k
def appendHK (X:Ext) (t t':TypeId) (x y:AV) (slot:Nat) (h:List Cell) (k:Eff→Option R):Option R :=
 (sliceElem X.P t).bind fun ex=>(zeroLeaves X.P ex.1).bind fun z=>if z.length=sizeT X.P ex.1∧0<bytesT X.P ex.1∧0<sizeT X.P ex.1 then
  match X.P.underlying t',h[slot]? with
  | some (.slice _),some .empty =>
   srcK h ex.2 y fun ys=>match x with
   | .hs c e 0 len=>if e=ex.2 then match h[c]? with
     | some cell=>(cell.asRow ex.2).bind fun xs =>
       br (decide (len≤xs.length∧(len+ys.length)*bytesT X.P ex.1≤140737488355328)) (k { val:=.hs slot ex.2 0 (len+ys.length),writes:=[(c,.gone),(slot,.row ex.2 (xs.take len ++ ys ++ xs.drop (len+ys.length)))] }) none
     | none=>none
    else none
   | .nil=>br (decide (ys.length*bytesT X.P ex.1≤140737488355328)) (k { val:=.hs slot ex.2 0 ys.length,writes:=[(slot,.row ex.2 ys)] }) none
   | .void=>br (decide (ys.length*bytesT X.P ex.1≤140737488355328)) (k { val:=.hs slot ex.2 0 ys.length,writes:=[(slot,.row ex.2 ys)] }) none
   | _=>none
  | _,_=>none
 else none
def clearHK (X:Ext) (t:TypeId) (x:AV) (h:List Cell) (k:Eff→Option R):Option R :=
 (sliceElem X.P t).bind fun ex=>(zeroLeaves X.P ex.1).bind fun z=>(takeAll ex.2 z).bind fun z0=>if z.length=sizeT X.P ex.1∧0<sizeT X.P ex.1 then
  match x with
  | .hs c e lo len=>if e=ex.2 then match h[c]? with
    | some cell=>(cell.asRow ex.2).bind fun xs =>
      br (decide (lo≤xs.length)) (k { val:=.tuple [],writes:=[(c,.row ex.2 (xs.take lo ++ List.replicate len z0 ++ xs.drop (lo+len)))] }) none
    | none=>none
   else none
  | _=>none
 else none
def appendK (X:Ext) (t t':TypeId) (x y:AV) (h:List Cell) (k:AV→Option R):Option R :=
 (sliceElem X.P t).bind fun ex=>(zeroLeaves X.P ex.1).bind fun z=>if z.length=sizeT X.P ex.1∧0<bytesT X.P ex.1 then
  match X.P.underlying t' with
  | some (.slice _) =>
   match x with
   | .slice own e xs =>
    if e=ex.2∧0<sizeT X.P ex.1 then
     srcK h e y fun ys =>
      match own with
      | true=>br (decide ((xs.length+ys.length)*bytesT X.P ex.1≤140737488355328)) (k (.slice true e (xs ++ ys))) none
      | false=>none
    else none
   | .nil =>
    if 0<sizeT X.P ex.1 then
     srcK h ex.2 y fun ys =>
      br (decide (ys.length*bytesT X.P ex.1≤140737488355328)) (k (.slice true ex.2 ys)) none
    else none
   | _=>none
  | _=>none
 else none
def makeSliceK (X:Ext) (t:TypeId) (l c:AV) (k:AV→Option R):Option R :=
 (sliceElem X.P t).bind fun ex=>(zeroLeaves X.P ex.1).bind fun z =>
  match l,c with
  | .int .i64 l,.int .i64 c =>
   if l=0∧z.length=sizeT X.P ex.1∧0<sizeT X.P ex.1∧0<bytesT X.P ex.1 then
    br (decide (0≤c∧c*bytesT X.P ex.1≤140737488355328)) (k (.slice true ex.2 [])) none
   else none
  | _,_=>none
def Ty.keyOk:Ty→Bool
 | .unit | .int _ | .bool=>true
 | .pair a b=>a.keyOk && b.keyOk
 | _=>false
def mapGet (κ ε:Ty) (q:κ.den):List (κ.den×ε.den)→Option ε.den
 | []=>none
 | p :: l=>if κ.beq q p.1 then some p.2 else mapGet κ ε q l
def ofLeaves (P:Program) (t:TypeId) (l:List AV):AV :=
 if aggType P t=true then .agg l else match l with
  | v :: _=>v
  | []=>.top
def Cell.asMap (κ ε:Ty):Cell→Option (List (κ.den×ε.den))
 | .map κ' ε' l=>if h:κ'=κ then (if h':ε'=ε then some (h▸h'▸l) else none) else none
 | _=>none
def eqTyGo (P:Program) (q:TypeId→Option Ty):Nat→List Field→Option (List Ty)
 | _,[]=>some []
 | off,f :: fs =>
  (q f.type).bind fun x =>
   if f.offset=off∧f.name ≠ "_" ∧ x.width=sizeT P f.type∧0<sizeT P f.type then (eqTyGo P q (off+x.width) fs).bind fun l=>some (x :: l) else none
def eqTy (P:Program):Nat→TypeId→Option Ty
 | 0,_=>none
 | d+1,t =>
  match P.underlying t with
  | some (.int k)=>some (.int k)
  | some .bool=>some .bool
  | some (.struct fs) =>
   if P.stoodInHeld t=false then
    (eqTyGo P (eqTy P d) 0 fs.toList).map mkRow
   else none
  | some (.array n e)=>(eqTy P d e).bind fun x=>if 0<sizeT P e∧x.width=sizeT P e then some (mkRow (tyRep n x)) else none
  | _=>none
def Ty.isRow:Ty→Bool
 | .pair _ _ | .unit=>true
 | _=>false
def mapTypes (P:Program) (t:TypeId):Option (TypeId×TypeId×Ty) :=
 match P.underlying t with
 | some (.map a b)=>(eqTy P tdepth a).bind fun κ=>if κ.isRow=aggType P a∧(P.info? a).isSome=true∧κ.width=sizeT P a then some (a,b,κ) else none
 | _=>none
def elemTy (P:Program) (b:TypeId):Option Ty :=
 (tyOf P tdepth b).bind fun ε=>if ε.isRow=aggType P b∧ε.width=sizeT P b then some ε else none
def aggOf:AV→Bool
 | .agg _=>true
 | _=>false
def takeV (t:Ty) (v:AV):Option t.den :=
 if aggOf v=t.isRow then v.flat.bind fun l=>takeAll t l else none
def giveV (t:Ty) (x:t.den):AV :=
 match t,x with
 | .int k,n=>.int k n
 | .bool,b=>.bool b
 | .str,s=>.str s
 | .slice e,xs=>.slice false e xs
 | t,x=>.agg (t.leaves x)
def outV (commaOk:Bool) (v:AV) (ok:Bool):AV :=
 match commaOk with
 | true=>.tuple [v,.bool ok]
 | false=>v
def formV (ea:Bool) (l:List AV):Option AV :=
 match ea,l with
 | true,l=>some (.agg l)
 | false,[v]=>some v
 | false,_=>none
def lookV (κ:Ty) (q:κ.den) (ea:Bool) (z:List AV) (k:AV→Bool→Option R):List (κ.den×List AV)→Option R
 | []=>(formV ea z).bind fun v=>k v false
 | p :: l=>br (κ.beq q p.1) ((formV ea p.2).bind fun v=>k v true) (lookV κ q ea z k l)
def zeroForm (P:Program) (b:TypeId):Bool:=match (P.info? b).bind (·.zero) with
 | some (.agg _)=>aggType P b
 | some _=>!aggType P b
 | none=>false
def lookupK (X:Ext) (t:TypeId) (m q:AV) (commaOk:Bool) (h:List Cell) (k:Eff→Option R):Option R :=
 (mapTypes X.P t).bind fun y=>(takeV y.2.2 q).bind fun q'=>(zeroLeaves X.P y.2.1).bind fun z =>
  if zeroForm X.P y.2.1=true then match m with
  | .map c=>match h[c]? with
   | some (.mapv κ ea l)=>if he:κ=y.2.2 then if ea=aggType X.P y.2.1 then
      lookV κ (he▸q') ea z (fun v ok=>k { val:=outV commaOk v ok,looks:=[c] }) l
     else none
    else none
   | some cell=>(elemTy X.P y.2.1).bind fun ε=>(cell.asMap y.2.2 ε).bind fun l=>(takeAll ε z).bind fun z0 =>
     k { val:=outV commaOk (giveV ε ((mapGet y.2.2 ε q' l).getD z0)) (mapGet y.2.2 ε q' l).isSome,looks:=[c] }
   | none=>none
  | _=>none
  else none
def eqK (X:Ext) (t:TypeId) (a b:AV) (k:Bool→Option R):Option R :=
 match a,b with
 | .bool x,.bool y=>match X.P.underlying t with
  | some .bool=>k (decide (x=y))
  | _=>none
 | .str x,.str y=>k (x.toList == y.toList)
 | .agg l,.agg m =>
  (eqTy X.P tdepth t).bind fun τ=>if X.P.eqGuardType X.P.depth t=false∧aggType X.P t=true then
   (takeAll τ l).bind fun x=>(takeAll τ m).bind fun y=>k (τ.beq x y) else none
 | _,_=>none
def cmpK (op:BinOp) (x y:Int) (k:Bool→Option R):Option R :=
 match op with
 | .eql=>k (decide (x=y))
 | .neq=>k (!decide (x=y))
 | .lss=>k (decide (x<y))
 | .leq=>k (decide (x≤y))
 | .gtr=>k (decide (y<x))
 | .geq=>k (decide (y≤x))
 | _=>none
def bits2 (op:BinOp) (k:IntKind) (x y:Int):Option Int :=
 match op with
 | .and=>some (k.wrap ((BitVec.ofInt k.bits x &&& BitVec.ofInt k.bits y).toNat))
 | .or=>some (k.wrap ((BitVec.ofInt k.bits x ||| BitVec.ofInt k.bits y).toNat))
 | .xor=>some (k.wrap ((BitVec.ofInt k.bits x ^^^ BitVec.ofInt k.bits y).toNat))
 | .andNot=>some (k.wrap ((BitVec.ofInt k.bits x &&& ~~~(BitVec.ofInt k.bits y)).toNat))
 | _=>none
def binOpK (X:Ext) (op:BinOp) (t:TypeId) (a b:AV) (k:AV→Option R):Option R :=
 match a,b with
 | .int ka x,.int kb y =>
  match op with
  | .shl=>br (decide (0≤y)) (k (.int ka (ka.wrap (x*2 ^ (min y.toNat ka.bits))))) none
  | .shr=>br (decide (0≤y)) (k (.int ka (x.fdiv (2 ^ (min y.toNat ka.bits))))) none
  | .add=>if ka=kb then k (.int ka (ka.wrap (x+y))) else none
  | .sub=>if ka=kb then k (.int ka (ka.wrap (x-y))) else none
  | .mul=>if ka=kb then k (.int ka (ka.wrap (x*y))) else none
  | .quo=>if ka=kb then br (decide (y=0)) none (k (.int ka (ka.wrap (x.tdiv y)))) else none
  | .rem=>if ka=kb then br (decide (y=0)) none (k (.int ka (x.tmod y))) else none
  | .and=>if ka=kb then (bits2 .and ka x y).bind fun n=>k (.int ka n) else none
  | .or=>if ka=kb then (bits2 .or ka x y).bind fun n=>k (.int ka n) else none
  | .xor=>if ka=kb then (bits2 .xor ka x y).bind fun n=>k (.int ka n) else none
  | .andNot=>if ka=kb then (bits2 .andNot ka x y).bind fun n=>k (.int ka n) else none
  | _=>if ka=kb then cmpK op x y fun b=>k (.bool b) else none
 | a,b =>
  match op with
  | .eql=>eqK X t a b fun r=>k (.bool r)
  | .neq=>eqK X t a b fun r=>k (.bool (!r))
  | _=>none
def unOpK (op:UnOp) (a:AV) (k:AV→Option R):Option R :=
 match op,a with
 | .neg,.int ki n=>k (.int ki (ki.wrap (0-n)))
 | .not,.bool b=>k (.bool (!b))
 | _,_=>none
def convertK (X:Ext) (src dst:TypeId) (a:AV) (k:AV→Option R):Option R :=
 match a,X.P.underlying src,X.P.underlying dst with
 | .int _ n,some (.int _),some (.int kd)=>k (.int kd (kd.wrap n))
 | _,_,_=>none
def minMaxGo (lt:Int→Int→Bool) (k:IntKind):Int→List AV→(AV→Option R)→Option R
 | x,[],c=>c (.int k x)
 | x,.int _ y :: l,c=>minMaxGo lt k (if lt y x then y else x) l c
 | _,_,_=>none
def minMaxK (lt:Int→Int→Bool) (l:List AV) (c:AV→Option R):Option R :=
 match l with
 | .int k x :: l=>minMaxGo lt k x l c
 | _=>none
end Go.Am
namespace Go.Am
open Go
@[reducible] def AT0.ty:AT0→Ty
 | .data _ t=>t
 | .agg t=>t
 | .hs _ _=>.int .i64
 | .hw _ _=>.pair (.int .i64) (.int .i64)
 | _=>.unit
def ownOk (own:Bool):AV→Bool
 | .slice o _ _=>!own || o
 | _=>true
def AT0.pack:(a:AT0)→AV→Option a.ty.den
 | .top,_=>some ()
 | .data own t,v=>if ownOk own v=true then takeAll t [v] else none
 | .agg t,.agg l=>takeAll t l
 | .ptr c o,.ptr c' o'=>if c=c'∧o=o' then some () else none
 | .map c,.map c'=>if c=c' then some () else none
 | .hs c e,.hs c' e' lo len=>if c=c'∧e=e'∧lo=0 then some (len:Int) else none
 | .hw c e,.hs c' e' lo len=>if c=c'∧e=e' then some ((lo:Int),(len:Int)) else none
 | _,_=>none
def leaf1 (own:Bool):(t:Ty)→t.den→AV
 | .int k,n=>.int k n
 | .bool,b=>.bool b
 | .str,s=>.str s
 | .slice e,xs=>.slice own e xs
 | _,_=>.top
def AT0.unpack:(a:AT0)→a.ty.den→AV
 | .top,_=>.top
 | .data own t,x=>leaf1 own t x
 | .agg t,x=>.agg (t.leaves x)
 | .ptr c o,_=>.ptr c o
 | .map c,_=>.map c
 | .hs c e,x=>.hs c e 0 (Int.toNat x)
 | .hw c e,x=>.hs c e (Int.toNat x.1) (Int.toNat x.2)
def AT0.ptrs:AT0→List Nat
 | .ptr c _=>[c]
 | .map c=>[c]
 | .hs c _=>[c]
 | .hw c _=>[c]
 | _=>[]
@[reducible] def rowAT0:List AT0→Ty
 | []=>.unit
 | a :: l=>.pair a.ty (rowAT0 l)
def packAT0:(l:List AT0)→List AV→Option (rowAT0 l).den
 | [],[]=>some ()
 | a :: l,v :: vs=>(a.pack v).bind fun x=>(packAT0 l vs).bind fun y=>some (x,y)
 | _,_=>none
def unpackAT0:(l:List AT0)→(rowAT0 l).den→List AV
 | [],_=>[]
 | a :: l,x=>a.unpack x.1 :: unpackAT0 l x.2
@[reducible] def AT.ty:AT→Ty
 | .base a=>a.ty
 | .func _ a b=>.pair (rowAT0 a) (rowAT0 b)
def AT.pack:(a:AT)→AV→Option a.ty.den
 | .base a,v=>a.pack v
 | .func fn a b,.func fn' u v=>if fn=fn' then (packAT0 a u).bind fun x=>(packAT0 b v).bind fun y=>some (x,y) else none
 | .func ..,_=>none
def AT.unpack:(a:AT)→a.ty.den→AV
 | .base a,x=>a.unpack x
 | .func fn a b,x=>.func fn (unpackAT0 a x.1) (unpackAT0 b x.2)
def AT.ptrs:AT→List Nat
 | .base a=>a.ptrs
 | .func _ a b=>a.flatMap AT0.ptrs ++ b.flatMap AT0.ptrs
@[reducible] def rowAT:List AT→Ty
 | []=>.unit
 | a :: l=>.pair a.ty (rowAT l)
def packAT:(l:List AT)→List AV→Option (rowAT l).den
 | [],[]=>some ()
 | a :: l,v :: vs=>(a.pack v).bind fun x=>(packAT l vs).bind fun y=>some (x,y)
 | _,_=>none
def unpackAT:(l:List AT)→(rowAT l).den→List AV
 | [],_=>[]
 | a :: l,x=>a.unpack x.1 :: unpackAT l x.2
def AV.sameC:AV→AV→Bool
 | .func (.func g) [] [],.func (.func g') [] []=>decide (g=g')
 | .int k n,.int k' n'=>decide (k=k') && decide (n=n')
 | .bool b,.bool b'=>decide (b=b')
 | .nilfunc,.nilfunc=>true
 | _,_=>false
def sameCL:List AV→List AV→Bool
 | [],[]=>true
 | a :: l,b :: m=>a.sameC b && sameCL l m
 | _,_=>false
def sameMv (κ:Ty):List (κ.den×List AV)→List (κ.den×List AV)→Bool
 | [],[]=>true
 | a :: l,b :: m=>κ.beq a.1 b.1 && sameCL a.2 b.2 && sameMv κ l m
 | _,_=>false
def Cell.isMapv (κ:Ty) (ea:Bool) (l:List (κ.den×List AV)):Cell→Bool
 | .mapv κ' ea' l'=>if h:κ'=κ then κ.keyOk && decide (ea'=ea) && sameMv κ (h▸l') l else false
 | _=>false
@[reducible] def CT.ty:CT→Ty
 | .empty=>.unit
 | .var l=>rowAT l
 | .map k e=>.slice (.pair k e)
 | .mapv _ _ _=>.unit
 | .row e=>.slice e
 | .gone=>.unit
 | .pre t l=>.pair t (rowAT l)
def CT.pack:(c:CT)→Cell→Option c.ty.den
 | .empty,_=>some ()
 | .var l,.var vs=>packAT l vs
 | .map k e,c=>c.asMap k e
 | .mapv k ea l,c=>if c.isMapv k ea l=true then some () else none
 | .row e,c=>c.asRow e
 | .gone,.gone=>some ()
 | .pre t l,.var vs=>(t.take vs).bind fun x=>(packAT l x.2).bind fun y=>some (x.1,y)
 | _,_=>none
def CT.unpack:(c:CT)→c.ty.den→Cell
 | .empty,_=>.empty
 | .var l,x=>.var (unpackAT l x)
 | .map k e,x=>.map k e x
 | .mapv k ea l,_=>.mapv k ea l
 | .row e,x=>.row e x
 | .gone,_=>.gone
 | .pre t l,x=>.var (t.leaves x.1 ++ unpackAT l x.2)
def CT.ptrs:CT→List Nat
 | .var l=>l.flatMap AT.ptrs
 | .pre _ l=>l.flatMap AT.ptrs
 | _=>[]
@[reducible] def rowCT:List CT→Ty
 | []=>.unit
 | a :: l=>.pair a.ty (rowCT l)
def packCT:(l:List CT)→List Cell→Option (rowCT l).den
 | [],_=>some ()
 | a :: l,v :: vs=>(a.pack v).bind fun x=>(packCT l vs).bind fun y=>some (x,y)
 | _,_=>none
def unpackCT:(l:List CT)→(rowCT l).den→List Cell
 | [],_=>[]
 | a :: l,x=>a.unpack x.1 :: unpackCT l x.2
@[reducible] def rowTm:List (Tmp×AT)→Ty
 | []=>.unit
 | a :: l=>.pair a.2.ty (rowTm l)
def packTm:(l:List (Tmp×AT))→List AV→Option (rowTm l).den
 | [],_=>some ()
 | a :: l,vs=>(a.2.pack (getT vs a.1)).bind fun x=>(packTm l vs).bind fun y=>some (x,y)
def unpackTm (n:Nat):(l:List (Tmp×AT))→(rowTm l).den→List AV
 | [],_=>List.replicate n .top
 | a :: l,x=>(unpackTm n l x.2).set a.1 (a.2.unpack x.1)
def CT.isVar:CT→Bool
 | .var _ | .row _ | .gone | .map _ _ | .mapv _ _ _ | .pre _ _=>true
 | _=>false
def Tpl.ptrsOk (p:Tpl):Bool :=
 ((p.tmps.flatMap fun a=>a.2.ptrs) ++ p.heap.flatMap CT.ptrs).all (fun c=>(p.heap[c]?).any CT.isVar)
def Cell.isVar:Cell→Bool
 | .var _ | .row _ _ | .gone | .map _ _ _ | .mapv _ _ _=>true
 | _=>false
def Tpl.baseOk (p:Tpl) (base:Nat) (h:List Cell):Bool :=
 decide (base≤p.heap.length) && ((p.heap.zip h).take base).all fun x=>x.1.isVar || !x.2.isVar
@[reducible] def Tpl.ty (p:Tpl):Ty:=.pair (rowTm p.tmps) (rowCT p.heap)
def Tpl.pack0 (p:Tpl) (base:Nat) (s:St):Option p.ty.den :=
 if p.ptrsOk=true∧s.pend=p.pend∧p.baseOk base s.heap=true then
  (packTm p.tmps s.tmps).bind fun x=>(packCT p.heap s.heap).bind fun y=>some (x,y)
 else none
def swapN (c r x:Nat):Nat:=if x=c then r else if x=r then c else x
def swapL (c r:Nat) (h:List Cell):List Cell:=(h.set c (h.getD r .empty)).set r (h.getD c .empty)
def St.swap (c r:Nat) (s:St):St:={ s with tmps:=renL (swapN c r) s.tmps,heap:=(swapL c r s.heap).map (Cell.ren (swapN c r)) }
def St.pad (n:Nat) (s:St):St:={ s with heap:=s.heap ++ List.replicate (n-s.heap.length) Cell.empty }
def hsAT0:AT0→AV→List (Nat×Ty×AV)
 | .hs r e,v=>[(r,e,v)]
 | .hw r e,v=>[(r,e,v)]
 | _,_=>[]
def zipHs:List AT0→List AV→List (Nat×Ty×AV)
 | a :: l,v :: vs=>hsAT0 a v ++ zipHs l vs
 | _,_=>[]
def hsAT:AT→AV→List (Nat×Ty×AV)
 | .base a,v=>hsAT0 a v
 | .func _ a b,.func _ u v=>zipHs a u ++ zipHs b v
 | _,_=>[]
def hsRow:List AT→List AV→List (Nat×Ty×AV)
 | a :: l,v :: vs=>hsAT a v ++ hsRow l vs
 | _,_=>[]
def hsHeap:List CT→List Cell→List (Nat×Ty×AV)
 | .var l :: p,.var vs :: h=>hsRow l vs ++ hsHeap p h
 | .pre t l :: p,.var vs :: h=>hsRow l (vs.drop t.width) ++ hsHeap p h
 | _ :: p,_ :: h=>hsHeap p h
 | _,_=>[]
def hsTm:List (Tmp×AT)→List AV→List (Nat×Ty×AV)
 | [],_=>[]
 | a :: l,vs=>hsAT a.2 (getT vs a.1) ++ hsTm l vs
def handleOf (r:Nat):List (Nat×Ty×AV)→Option (Option Nat×Ty)
 | []=>none
 | (r',e,v) :: l=>if r'=r then match v with
   | .hs c _ _ _=>some (some c,e)
   | .nil=>match handleOf r l with
    | some (some c,e')=>some (some c,e')
    | _=>some (none,e)
   | _=>handleOf r l
  else handleOf r l
def nilAT (r:Nat):AT→AV→AV
 | .base (.hs r' e),.nil=>if r'=r then .hs r e 0 0 else .nil
 | .base (.hw r' e),.nil=>if r'=r then .hs r e 0 0 else .nil
 | _,v=>v
def nilTm (r:Nat):List (Tmp×AT)→List AV→List AV
 | [],vs=>vs
 | (t,.base (.hs r' e)) :: l,vs=>nilTm r l (match getT vs t with
  | .nil=>if r'=r then vs.set t (.hs r e 0 0) else vs
  | _=>vs)
 | _ :: l,vs=>nilTm r l vs
def nilRow (r:Nat):List AT→List AV→List AV
 | a :: l,v :: vs=>nilAT r a v :: nilRow r l vs
 | _,vs=>vs
def nilHeap (r:Nat):List CT→List Cell→List Cell
 | .var l :: p,.var vs :: h=>.var (nilRow r l vs) :: nilHeap r p h
 | .pre t l :: p,.var vs :: h=>.var (nilRow r (List.replicate t.width (.base .top) ++ l) vs) :: nilHeap r p h
 | _ :: p,x :: h=>x :: nilHeap r p h
 | _,h=>h
def St.free (r:Nat) (s:St):St:=match s.heap[r]? with
 | some Cell.empty=>s
 | _=>(s.pad (s.heap.length+1)).swap s.heap.length r
def alignRow (p:Tpl) (base r:Nat) (s:St):St :=
 match handleOf r (hsTm p.tmps s.tmps ++ hsHeap p.heap s.heap) with
 | none=>s
 | some (some c,_)=>if c=r then s else if base≤c∧base≤r∧c<s.heap.length then (s.pad (r+1)).swap c r else s
 | some (none,e)=>if base≤r∧0<e.width∧base≤s.heap.length then
   let s:=(s.pad (r+1)).free r
   match s.heap[r]? with
   | some Cell.empty=>{ s with tmps:=nilTm r p.tmps s.tmps,heap:=nilHeap r p.heap (s.heap.set r (Cell.row e [])) }
   | _=>s
  else s
def rowsAt (n:Nat):List CT→List Nat
 | []=>[]
 | .row _ :: l=>n :: rowsAt (n+1) l
 | _ :: l=>rowsAt (n+1) l
def alignAll (p:Tpl) (base:Nat):List Nat→St→St
 | [],s=>s
 | r :: l,s=>alignAll p base l (alignRow p base r s)
def Tpl.align (p:Tpl) (base:Nat) (s:St):St:=alignAll p base (rowsAt 0 p.heap) s
def Tpl.pack (p:Tpl) (base:Nat) (s:St):Option p.ty.den:=p.pack0 base (p.align base s)
def Tpl.unpack (p:Tpl) (n:Nat) (x:p.ty.den):St:={ tmps:=unpackTm n p.tmps x.1,heap:=unpackCT p.heap x.2,pend:=p.pend }
@[reducible] def exitsTy:List (AE×Tpl)→Ty
 | []=>.unit
 | [a]=>a.2.ty
 | a :: b :: l=>.sum a.2.ty (exitsTy (b :: l))
def packEx:(l:List (AE×Tpl))→Nat→AE→St→Option (exitsTy l).den
  | [],_,_,_=>none
  | [a],bs,e,s=>if a.1=e then a.2.pack bs s else none
  | a :: b :: l,bs,e,s =>
    if a.1=e then
      (match a.2.pack bs s with
       | some x=>some (.inl x)
       | none=>(packEx (b :: l) bs e s).bind fun y=>some (.inr y))
    else (packEx (b :: l) bs e s).bind fun y=>some (.inr y)
def unpackEx {R:Type} (n:Nat):(l:List (AE×Tpl))→(exitsTy l).den→(AE→St→Option R)→Option R
 | [],_,_=>none
 | [a],x,k=>k a.1 (a.2.unpack n x)
 | a :: b :: l,x,k =>
  match x with
  | .inl x=>k a.1 (a.2.unpack n x)
  | .inr y=>unpackEx n (b :: l) y k
end Go.Am
namespace Go.Am
open Go
variable {R:Type}
structure Rec where
 callT:(g:FuncId)→(t:Ty)→List AV→Option t.den
 callH:{R:Type}→Fn→List AV→List Cell→List LoopRec→List (Option AE)→(AV→List Cell→List (Option AE)→Option R)→Option R
 loop:Code→(sh:Shape)→Amb→sh.head.ty.den→Option (exitsTy sh.exits).den
def natSeq {R:Type} (n:Nat) (k:Nat→R):R:=match n with
 | 0=>k 0
 | m+1=>k (Nat.succ m)
theorem natSeq_eq {R:Type} (n:Nat) (k:Nat→R):natSeq n k=k n:=by cases n <;> rfl
def tb (m i:Nat):Bool:=Nat.beq (Nat.land (Nat.shiftRight m i) 1) 1
theorem tb_eq (m i:Nat):tb m i=m.testBit i:=by
 have h:tb m i=Nat.beq ((m >>> i) &&& 1) 1:=rfl
 rw[h,Nat.and_one_is_mod,Nat.testBit,Nat.and_comm,Nat.and_one_is_mod]
 rcases Nat.mod_two_eq_zero_or_one (m >>> i) with h | h <;> rw[h] <;> rfl
noncomputable def bitsOf (l:List Nat):Nat:=List.rec (motive:=fun _=>Nat) 0 (fun x _ s=>Nat.lor (Nat.pow 2 x) s) l
noncomputable def ptrBits {R:Type}:List Cell→(List Nat→R)→R
 | [],k=>k []
 | c :: l,k=>natSeq (bitsOf c.ptrs) fun b=>ptrBits l fun bs=>k (b :: bs)
def sweepB {R:Type}:List Nat→Nat→Nat→(Nat→R)→R
 | [],_,m,k=>k m
 | b :: bs,i,m,k=>natSeq (cond (tb m i) (Nat.lor m b) m) fun m=>sweepB bs (Nat.succ i) m k
def iterB (bs:List Nat):Nat→Nat→Nat
 | 0,m=>m
 | n+1,m=>sweepB bs 0 m fun m'=>cond (Nat.beq m' m) m (iterB bs n m')
def bitsList (m:Nat):Nat→List Cell→List Nat
 | _,[]=>[]
 | i,_ :: h=>cond (tb m i) (i :: natSeq (Nat.succ i) fun i=>bitsList m i h) (natSeq (Nat.succ i) fun i=>bitsList m i h)
noncomputable def reach (h:List Cell) (l:List Nat):List Nat :=
 ptrBits h fun bs=>natSeq (iterB bs h.length (bitsOf l)) fun m=>bitsList m 0 h
theorem ptrBits_eq {R:Type}:∀ (l:List Cell) (k:List Nat→R),ptrBits l k=k (l.map fun c=>bitsOf c.ptrs)
 | [],_=>rfl
 | c :: l,k=>by simp only[ptrBits,natSeq_eq,ptrBits_eq l,List.map_cons]
theorem reach_eq (h:List Cell) (l:List Nat):∃ m,reach h l=bitsList m 0 h:=by
 unfold reach
 rw[ptrBits_eq]
 simp only[natSeq_eq]
 exact⟨_,rfl⟩
theorem bitsList_mem {m:Nat}:∀ (h:List Cell) (i:Nat),∀ c∈bitsList m i h,i≤c∧c<i+h.length:=by
 intro h
 induction h with
 | nil=>intro i c hc;cases hc
 | cons x h ih =>
  intro i c hc
  simp only[bitsList,natSeq_eq] at hc
  have key:∀ c∈bitsList m (Nat.succ i) h,i≤c∧c<i+(x :: h).length:=fun c hc=>by
   have:=ih _ c hc
   simp only[List.length_cons];omega
  cases hb:tb m i with
  | true =>
   rw[hb] at hc
   rcases List.mem_cons.1 hc with rfl | hc
   ·simp
   ·exact key c hc
  | false=>rw[hb] at hc;exact key c hc
theorem bitsList_nodup {m:Nat}:∀ (h:List Cell) (i:Nat),(bitsList m i h).Nodup:=by
 intro h
 induction h with
 | nil=>intro i;exact List.nodup_nil
 | cons x h ih =>
  intro i
  simp only[bitsList,natSeq_eq]
  cases hb:tb m i with
  | true=>exact List.nodup_cons.2 ⟨fun hc=>by have:=(bitsList_mem h _ _ hc).1;omega,ih _⟩
  | false=>exact ih _
def posIn (l:List Nat) (c:Nat):Nat:=l.findIdx (· == c)
def backRen (S:List Nat) (len:Nat) (i:Nat):Nat:=(S[i]?).getD (len+(i-S.length))
def flatArgs (l:List AV):Bool:=closedL l
noncomputable def viaHeapK (rec:Rec) (fn:Fn) (args:List AV) (h:List Cell) (ls:List LoopRec) (ps:List (Option AE))
  (k:AV→List (Nat×Cell)→List Nat→List Cell→List (Option AE)→Option R):Option R :=
 let S:=reach h (ptrsL args ++ ls.flatMap fun r=>ptrsL r.tmps)
 let to:=posIn S
 if ((ptrsL args ++ ls.flatMap fun r=>ptrsL r.tmps) ++ S.flatMap fun c=>(h.getD c .empty).ptrs).all (fun c=>S.contains c)=true then
  rec.callH fn (renL to args) (S.map fun c=>(h.getD c .empty).ren to) (ls.map (LoopRec.ren to)) ps fun v h' ps' =>
   if S.length≤h'.length then
    let back:=backRen S h.length
    let olds:=h'.take S.length
    let news:=h'.drop S.length
    let kept:=(v.ptrs ++ olds.flatMap Cell.ptrs).any (fun c=>S.length≤c)
    let gr:=if kept=true then news.map (Cell.ren back) else []
    k (v.ren back) (S.zip (olds.map (Cell.ren back))) S gr ps'
   else none
 else none
def resTypes (X:Ext) (g:FuncId):List TypeId:=((X.P.funcs[g]?).map (·.resultTypes.toList)).getD []
def AV.isAgg:AV→Bool
 | .agg _=>true
 | _=>false
def retLeaves (P:Program):List TypeId→List AV→Option (List AV)
 | [],[]=>some []
 | t :: ts,v :: l=>if v.isAgg=aggType P t then v.flat.bind fun fl=>if fl.length=sizeT P t then (retLeaves P ts l).bind fun r=>some (fl ++ r) else none else none
 | _,_=>none
def freshOk (fr:Bool) (t:Ty) (vs:List AV):Bool :=
 match fr with
 | false=>true
 | true=>match t,vs with
  | .slice e,[.slice own e' _]=>own && decide (e=e')
  | .slice _,[.nil]=>true
  | _,_=>false
def injComps (P:Program):List TypeId→List AV→List AV
 | [],_=>[]
 | t :: ts,l=>ofLeaves P t (l.take (sizeT P t)) :: injComps P ts (l.drop (sizeT P t))
def packRes:List AV→AV
 | [v]=>v
 | l=>.tuple l
def injRet (X:Ext) (g:FuncId) (t:Ty) (x:t.den):AV :=
 match X.fresh g,t,x with
 | true,.slice e,x=>.slice true e x
 | _,t,x=>packRes (injComps X.P (resTypes X g) (t.leaves x))
def resVar (X:Ext) (s:St):ResultVar→Option AV
 | .tmp t=>some (getT s.tmps t)
 | .cell a t=>match getT s.tmps a with
  | .ptr c off=>match s.heap[c]? with
   | some (.var l)=>readLeaves X.P t (l.drop off) fun v=>some v.dull
   | _=>none
  | _=>none
def resVarsGo (X:Ext) (s:St):List ResultVar→Option (List AV)
 | []=>some []
 | r :: l=>(resVar X s r).bind fun v=>(resVarsGo X s l).bind fun vs=>some (v.dull :: vs)
def resVars (X:Ext) (s:St):List ResultVar→Option (List AV)
 | [r]=>(resVar X s r).bind fun v=>some [v]
 | l=>resVarsGo X s l
def thawK (h:List Cell) (v:AV) (k:AV→Option R):Option R :=
 match v with
 | .hs c e lo len=>match h[c]? with
  | some cell=>(cell.asRow e).bind fun xs=>br (decide (lo+len≤xs.length)) (k (.slice false e ((xs.drop lo).take len))) none
  | none=>none
 | v=>k v
def thawLK (h:List Cell) (l:List AV) (k:List AV→Option R):Option R :=
 match l with
 | []=>k []
 | v :: l=>thawK h v fun v=>thawLK h l fun l=>k (v :: l)
def Ty.noSlice:Ty→Bool
 | .slice _=>false
 | .pair a b=>a.noSlice && b.noSlice
 | .sum _ _=>false
 | _=>true
def lentOk (v:AV):Bool:=match v with
 | .hs _ _ _ _=>true
 | v=>v.closed
def lentArg (v:AV):Bool:=match v with
 | .agg l=>l.all lentOk
 | v=>lentOk v
def lendOk (args:List AV) (t:Ty):Bool:=t.noSlice && args.all lentArg
def lendK (h:List Cell) (v:AV) (k:AV→Option R):Option R :=
 match v with
 | .agg l=>thawLK h l fun l=>k (.agg l)
 | v=>thawK h v k
def lendLK (h:List Cell) (l:List AV) (k:List AV→Option R):Option R :=
 match l with
 | []=>k []
 | v :: l=>lendK h v fun v=>lendLK h l fun l=>k (v :: l)
noncomputable def callFnK (X:Ext) (rec:Rec) (A:Amb) (fn:Fn) (args:List AV) (s:St) (k:Eff→List (Option AE)→Option R):Option R :=
 match fn with
 | .func g =>
  match X.retTy g with
  | some t =>
   match flatArgs args,lendOk args t && !X.fresh g with
   | true,_=>(rec.callT g t (args.map AV.dull)).bind fun x=>k { val:=injRet X g t x } s.pend
   | false,true=>lendLK s.heap (args.map AV.dull) fun args=>(rec.callT g t args).bind fun x=>k { val:=injRet X g t x } s.pend
   | false,false=>viaHeapK rec fn (args.map AV.dull) s.heap A.loops s.pend fun v ws lk gr ps=>k { val:=v,writes:=ws,looks:=lk,grow:=gr } ps
  | none=>viaHeapK rec fn (args.map AV.dull) s.heap A.loops s.pend fun v ws lk gr ps=>k { val:=v,writes:=ws,looks:=lk,grow:=gr } ps
 | .yield _=>viaHeapK rec fn (args.map AV.dull) s.heap A.loops s.pend fun v ws lk gr ps=>k { val:=v,writes:=ws,looks:=lk,grow:=gr } ps
 | _=>none
def builtinK (X:Ext) (mk:Bool) (slot:Nat) (b:Builtin) (ts:List TypeId) (ops:List Operand) (vs:List AV) (h:List Cell) (k:Eff→Option R):Option R :=
 match b,ts,vs with
 | .len,t :: _,[x]=>lenK X t x h k
 | .append,[t,t'],[x,y]=>match mk with
  | true=>appendHK X t t' x y slot h k
  | false=>appendK X t t' x y h fun v=>k { val:=v,dulls:=(ops.take 1).flatMap tmpOf }
 | .clear,[t],[x]=>clearHK X t x h k
 | .min,_,l=>minMaxK (fun y x=>decide (y<x)) l fun v=>k { val:=v }
 | .max,_,l=>minMaxK (fun y x=>decide (x<y)) l fun v=>k { val:=v }
 | _,_,_=>none
def newK (slot:Nat) (z:List AV) (h:List Cell) (k:Eff→Option R):Option R :=
 match h[slot]? with
 | some .empty=>k { val:=.ptr slot 0,writes:=[(slot,.var z)] }
 | _=>none
def keepOf (takes:Tmp→Bool) (o:Oper):Bool:=match o.dst with
 | some d=>takes d
 | none=>false
def AV.isPtr:AV→Bool
 | .ptr _ _=>true
 | _=>false
def plainK (X:Ext) (takes:Tmp→Bool) (mk:Bool) (slot:Nat) (o:Oper) (ρ:Operand→AV) (h:List Cell) (k:Eff→Option R):Option R :=
 match o.op with
 | .move x=>match mk with
  | true=>match ρ x with
   | .hs c e lo len=>thawK h (.hs c e lo len) fun v=>k { val:=v,writes:=[(c,.gone)] }
   | _=>k { val:=ρ x,dulls:=tmpOf x }
  | false=>if keepOf takes o=true then k { val:=ρ x,dulls:=tmpOf x } else k { val:=(ρ x).dull }
 | .assign x=>k { val:=ρ x,dulls:=tmpOf x }
 | .alloc e=>(zeroLeaves X.P e).bind fun z=>newK slot z h k
 | .box _ x=>(ρ x).flat.bind fun z=>newK slot z h k
 | .build t ps=>buildK X t (ps.toList.map fun p=>(p.1,ρ p.2)) fun v=>k { val:=v }
 | .buildSlice t n ps=>match mk with
  | true=>buildSliceHK X t n (ps.toList.map fun p=>(p.1,ρ p.2)) slot h k
  | false=>match ps.toList.map fun p=>(p.1,ρ p.2) with
   | [(0,.hs c e lo len)]=>thawK h (.hs c e lo len) fun v=>buildSliceK X t n [(0,v)] fun v=>k { val:=v,writes:=[(c,.gone)] }
   | ps=>buildSliceK X t n ps fun v=>k { val:=v }
 | .load t a=>match mk && aggType X.P t with
  | true=>none
  | false=>loadK X t (keepOf takes o) (ρ a) h k
 | .store t a x=>match o.dst with
  | none=>storeK X t (ρ a) (ρ x) x h k
  | some _=>none
 | .nilCheck x=>match ρ x with
  | .ptr c o=>k { val:=.ptr c o }
  | .cptr l=>k { val:=.cptr l }
  | .func (.func g) a b=>k { val:=.func (.func g) a b }
  | _=>none
 | .binOp op t x y _=>binOpK X op t (ρ x) (ρ y) fun v=>k { val:=v }
 | .unOp op _ x=>unOpK op (ρ x) fun v=>k { val:=v }
 | .convert a b x=>convertK X a b (ρ x) fun v=>k { val:=v }
 | .makeFunc fn a b=>match fn with
  | .func g=>k { val:=.func (.func g) (a.toList.map fun x=>(ρ x).dull) (b.toList.map fun x=>(ρ x).dull) }
  | _=>none
 | .makeSlice t l c=>match mk with
  | true=>none
  | false=>makeSliceK X t (ρ l) (ρ c) fun v=>k { val:=v }
 | .slice t x lo hi mx=>match (ρ x).isPtr with
  | true=>none
  | false=>match mk with
   | true=>sliceRowK X t (ρ x) (lo.map ρ) (hi.map ρ) (mx.map ρ) h fun v=>k { val:=v }
   | false=>sliceK X t (ρ x) (lo.map ρ) (hi.map ρ) (mx.map ρ) fun v=>k { val:=v }
 | .fieldAddr t a i=>fieldAddrK X t (ρ a) i fun v=>k { val:=v }
 | .field _ _ _=>none
 | .indexAddr t x i=>indexAddrK X t (ρ x) (ρ i) fun v=>k { val:=v }
 | .index t x i=>indexK X t (ρ x) (ρ i) fun v=>k { val:=v }
 | .makeMap t n=>match n with
  | none=>none
  | some _=>none
 | .mapUpdate t m q v=>match o.dst with
  | none=>none
  | some _=>none
 | .insert t m q v=>match o.dst with
  | none=>none
  | some _=>none
 | .lookup t m q ok=>lookupK X t (ρ m) (ρ q) ok h k
 | .extract x i=>match ρ x with
  | .tuple l=>match l[i]? with
   | some v=>k { val:=v.dull }
   | none=>none
  | _=>none
 | .call c =>
  match c.callee with
  | .builtin b=>builtinK X mk slot b c.argTypes.toList c.args.toList (c.args.toList.map ρ) h k
  | _=>none
 | _=>none
def setAll (h:List Cell):List (Nat×Cell)→List Cell
 | []=>h
 | (c,x) :: l=>setAll (h.set c x) l
def dullAll (l:List AV):List Tmp→List AV
 | []=>l
 | t :: ts=>dullAll (l.set t (getT l t).dull) ts
def Eff.on (e:Eff) (d:Option Tmp) (s:St) (ps:List (Option AE)):St :=
 let tm:=dullAll s.tmps e.dulls
 { tmps:=(match d with | some d=>tm.set d e.val | none=>tm),heap:=setAll s.heap e.writes ++ e.grow,pend:=ps }
def calleeOf (ρ:Operand→AV) (o:Oper):Option (Fn×List AV) :=
 match o.op with
 | .call c=>match c.callee with
  | .value f=>match ρ f with
   | .func fn a b=>some (fn,a ++ (c.args.toList.map ρ) ++ b)
   | _=>none
  | _=>none
 | _=>none
def isCall (o:Oper):Bool :=
 match o.op with
 | .call c=>match c.callee with
  | .value _=>true
  | _=>false
 | _=>false
def mkOf (X:Ext) (f:FuncId) (o:Oper):Bool:=match o.dst with
 | some d=>X.mark f d
 | none=>false
def isNew (X:Ext) (f:FuncId) (o:Oper):Bool:=match o.op with
 | .alloc _ | .box _ _ | .makeMap _ _=>true
 | _=>mkOf X f o
def takesOf (ops:List Oper) (t:Tmp):Bool :=
 ops.any fun o=>match o.op with
  | .call { callee:=.builtin .append,args,.. }=>match args.toList.head? with
   | some (.tmp u)=>u == t
   | _=>false
  | _=>false
def newsBefore (X:Ext) (f:FuncId) (ops:List Oper) (i:Nat):Nat:=((ops.take i).filter fun o=>isNew X f o).length
def pickK (X:Ext) (c a b:Operand) (s:St) (k:AV→St→Option R):Option R :=
 match c with
 | .tmp t=>match getT s.tmps t with
  | .bool v =>
   br v (k (s.eval X a).dull { s with tmps:=s.tmps.set t (.bool true) }) (k (s.eval X b).dull { s with tmps:=s.tmps.set t (.bool false) })
  | _=>none
 | _=>none
noncomputable def goK (X:Ext) (rec:Rec) (A:Amb) (ops:List Oper) (hb:Nat) (i:Nat) (o:Oper) (s:St) (k:St→Eff→Option R):Option R :=
 match o.op with
 | .pick c a b=>pickK X c a b s fun v s=>k (s.put o.dst v) { val:=v }
 | _ =>
  if isCall o then
   match calleeOf (s.eval X) o with
   | some (fn,args)=>if A.base≤s.heap.length then callFnK X rec A fn args s fun e ps=>k (e.on o.dst s ps) e else none
   | none=>none
  else plainK X (takesOf ops) (mkOf X A.fn o) (hb+newsBefore X A.fn ops i) o (s.eval X) s.heap fun e=>k (e.on o.dst s s.pend) e
noncomputable def stepK (X:Ext) (rec:Rec) (A:Amb) (ops:List Oper) (hb:Nat) (i:Nat) (o:Oper) (s:St) (k:St→Option Eff→Option R):Option R :=
  match o.guard with
  | none=>goK X rec A ops hb i o s fun s e=>k s (some e)
  | some (j,want) =>
    match (ops[j]?).bind (·.dst) with
    | none=>none
    | some t=>match getT s.tmps t with
      | .bool v =>
        br v
          (if want=true then goK X rec A ops hb i o { s with tmps:=s.tmps.set t (.bool true) } fun s e=>k s (some e)
           else k (({ s with tmps:=s.tmps.set t (.bool true) }:St).put o.dst (.tuple [])) none)
          (if want=true then k (({ s with tmps:=s.tmps.set t (.bool false) }:St).put o.dst (.tuple [])) none
           else goK X rec A ops hb i o { s with tmps:=s.tmps.set t (.bool false) } fun s e=>k s (some e))
      | .tuple []=>k (s.put o.dst (.tuple [])) none
      | _=>none
def AV.seq (v:AV) (k:AV→R):R :=
 match v with
 | .int a b=>k (.int a b)
 | .bool b=>k (.bool b)
 | .str b=>k (.str b)
 | .slice a b c=>k (.slice a b c)
 | .nil=>k .nil
 | .ptr a b=>k (.ptr a b)
 | .nilptr=>k .nilptr
 | .cptr l=>k (.cptr l)
 | .func a b c=>k (.func a b c)
 | .nilfunc=>k .nilfunc
 | .map c=>k (.map c)
 | .nilmap=>k .nilmap
 | .iface a b=>k (.iface a b)
 | .niliface=>k .niliface
 | .agg l=>k (.agg l)
 | .tuple l=>k (.tuple l)
 | .hs a b c d=>k (.hs a b c d)
 | .rptr a b c d=>k (.rptr a b c d)
 | .void=>k .void
 | .top=>k .top
def seqL (l:List AV) (k:List AV→R):R :=
 match l with
 | []=>k []
 | v :: l=>v.seq fun v=>seqL l fun l=>k (v :: l)
def Cell.seq (c:Cell) (k:Cell→R):R :=
 match c with
 | .empty=>k .empty
 | .var l=>seqL l fun l=>k (.var l)
 | .map a b l=>k (.map a b l)
 | .mapv a b l=>k (.mapv a b l)
 | .row e l=>k (.row e l)
 | .gone=>k .gone
def seqH (l:List Cell) (k:List Cell→R):R :=
 match l with
 | []=>k []
 | v :: l=>v.seq fun v=>seqH l fun l=>k (v :: l)
def St.seq (s:St) (k:St→R):R :=
 match s with
 | ⟨t,h,p⟩=>seqL t fun t=>seqH h fun h=>k ⟨t,h,p⟩
theorem AV.seq_eq (v:AV) (k:AV→R):v.seq k=k v:=by cases v <;> rfl
theorem seqL_eq (l:List AV) (k:List AV→R):seqL l k=k l:=by
 induction l generalizing k with
 | nil=>rfl
 | cons v l ih=>simp only[seqL,AV.seq_eq,ih]
theorem Cell.seq_eq (c:Cell) (k:Cell→R):c.seq k=k c:=by
 cases c <;> simp only[Cell.seq,seqL_eq]
theorem seqH_eq (l:List Cell) (k:List Cell→R):seqH l k=k l:=by
 induction l generalizing k with
 | nil=>rfl
 | cons v l ih=>simp only[seqH,Cell.seq_eq,ih]
theorem St.seq_eq (s:St) (k:St→R):s.seq k=k s:=by
 cases s;simp only[St.seq,seqL_eq,seqH_eq]
noncomputable def lseq {α:Type} (l:List α) (k:List α→R):R :=
 List.rec (motive:=fun _=>(List α→R)→R) (fun k=>k []) (fun v _ ih k=>ih fun l=>k (v :: l)) l k
noncomputable def seqAt (l:List AV) (d:Nat) (k:List AV→R):R :=
 List.rec (motive:=fun _=>Nat→(List AV→R)→R) (fun _ k=>k []) (fun v tl ih d k=>match d with
  | 0=>v.seq fun v=>lseq tl fun l=>k (v :: l)
  | d+1=>ih d fun l=>k (v :: l)) l d k
noncomputable def heapSeqI (m:Nat) (h:List Cell):Nat→(List Cell→R)→R :=
 List.rec (motive:=fun _=>Nat→(List Cell→R)→R) (fun _ k=>k []) (fun x _ ih i k=>cond (tb m i) (x.seq fun x=>ih (Nat.succ i) fun l=>k (x :: l)) (ih (Nat.succ i) fun l=>k (x :: l))) h
noncomputable def heapSeq (m:Nat) (h:List Cell) (k:List Cell→R):R:=heapSeqI m h 0 k
noncomputable def St.seqE (d:Option Tmp) (e:Eff) (s:St) (k:St→R):R :=
  (match d with
   | some d=>seqAt s.tmps d
   | none=>lseq s.tmps) fun t=>(match e.grow with
   | []=>fun k=>natSeq (bitsOf (e.writes.map fun (p:Nat×Cell)=>p.1)) fun m=>heapSeq m s.heap k
   | _=>fun k=>seqH s.heap k) fun h=>k ⟨t,h,s.pend⟩
theorem lseq_eq {α:Type}:∀ (l:List α) (k:List α→R),lseq l k=k l
 | [],_=>rfl
 | v :: l,k=>lseq_eq l fun l=>k (v :: l)
theorem seqAt_eq:∀ (l:List AV) (d:Nat) (k:List AV→R),seqAt l d k=k l
 | [],_,_=>rfl
 | v :: l,0,k=>by
  show v.seq (fun v=>lseq l fun l=>k (v :: l))=_
  rw[AV.seq_eq,lseq_eq]
 | v :: l,d+1,k=>seqAt_eq l d fun l=>k (v :: l)
theorem heapSeqI_cons (m:Nat) (x:Cell) (h:List Cell) (i:Nat) (k:List Cell→R):heapSeqI m (x :: h) i k=cond (tb m i) (x.seq fun x=>heapSeqI m h (Nat.succ i) fun l=>k (x :: l)) (heapSeqI m h (Nat.succ i) fun l=>k (x :: l)):=rfl
theorem heapSeqI_eq (m:Nat):∀ (h:List Cell) (i:Nat) (k:List Cell→R),heapSeqI m h i k=k h
 | [],_,_=>rfl
 | x :: h,i,k=>by
  rw[heapSeqI_cons,Cell.seq_eq,heapSeqI_eq m h]
  cases tb m i <;> rfl
theorem heapSeq_eq (m:Nat) (h:List Cell) (k:List Cell→R):heapSeq m h k=k h:=heapSeqI_eq m h 0 k
theorem St.seqE_eq (d:Option Tmp) (e:Eff) (s:St) (k:St→R):s.seqE d e k=k s:=by
 unfold St.seqE
 cases d <;> cases e.grow <;> simp only[seqAt_eq,lseq_eq,natSeq_eq,heapSeq_eq,seqH_eq]
noncomputable def stepsK (X:Ext) (rec:Rec) (A:Amb) (ops:List Oper) (hb:Nat):List (Nat×Oper)→St→(St→Option R)→Option R
 | [],s,k=>k s
 | (i,o) :: l,s,k=>stepK X rec A ops hb i o s fun s e=>s.seqE o.dst (e.getD { val:=.top }) fun s=>stepsK X rec A ops hb l s k
def maskL {α:Type} (f:Nat→Bool) (d:α):Nat→List α→List α
 | _,[]=>[]
 | i,x :: l=>(if f i=true then x else d) :: maskL f d (i+1) l
def St.restrict (ts cs:List Nat) (s:St):St:={ tmps:=maskL (fun t=>ts.contains t) .top 0 s.tmps,heap:=maskL (fun c=>cs.contains c) .empty 0 s.heap,pend:=s.pend }
noncomputable def maskB {α:Type} (m:Nat) (d:α) (i:Nat) (l:List α):List α :=
 List.rec (motive:=fun _=>Nat→List α) (fun _=>[]) (fun x _ ih i=>cond (tb m i) x d :: ih (Nat.succ i)) l i
noncomputable def St.restrictF (ts cs:List Nat) (s:St):St :=
 natSeq (bitsOf ts) fun a=>natSeq (bitsOf cs) fun b=>{ tmps:=maskB a .top 0 s.tmps,heap:=maskB b .empty 0 s.heap,pend:=s.pend }
theorem bitsOf_contains (l:List Nat) (x:Nat):(bitsOf l).testBit x=l.contains x:=by
 induction l with
 | nil=>simp[bitsOf]
 | cons y l ih =>
  have h:bitsOf (y :: l)=2 ^ y ||| bitsOf l:=rfl
  rw[h,Nat.testBit_or,ih,List.contains_cons,Nat.testBit_two_pow]
  congr 1
  rw[Bool.eq_iff_iff]
  simp only[decide_eq_true_eq,beq_iff_eq]
  exact⟨Eq.symm,Eq.symm⟩
theorem maskB_eq {α:Type} (ts:List Nat) (d:α):∀ (l:List α) (i:Nat),maskB (bitsOf ts) d i l=maskL (fun t=>ts.contains t) d i l
 | [],_=>rfl
 | x :: l,i=>by
  show cond (tb (bitsOf ts) i) x d :: maskB (bitsOf ts) d (Nat.succ i) l=_
  rw[maskL,maskB_eq ts d l,tb_eq,bitsOf_contains]
  cases ts.contains i <;> rfl
theorem St.restrictF_eq (ts cs:List Nat) (s:St):s.restrictF ts cs=s.restrict ts cs:=by
 unfold St.restrictF St.restrict
 simp only[natSeq_eq,maskB_eq]
structure Patch where
 i:Nat
 ts:List Nat
 cs:List Nat
 dst:Option Tmp
 e:Eff
 pend:Option (List (Option AE)):=none
def looksT (ops:List Oper) (o:Oper):List Tmp :=
 (o.op.operands.toList.flatMap tmpOf) ++ (match o.guard with | some (g,_)=>((ops[g]?).bind (·.dst)).toList | none=>[])
noncomputable def footC (X:Ext) (A:Amb) (ops:List Oper) (hb i:Nat) (o:Oper) (s:St) (ts:List Nat):List Nat :=
 reach s.heap ((ts.flatMap fun t=>(getT s.tmps t).ptrs) ++ A.loops.flatMap fun r=>ptrsL r.tmps) ++ (if isNew X A.fn o=true then [hb+newsBefore X A.fn ops i] else [])
def St.within (A:Amb) (cs:List Nat) (r:St):Bool :=
 ((ptrsL r.tmps ++ A.loops.flatMap fun r=>ptrsL r.tmps) ++ r.heap.flatMap Cell.ptrs).all fun c=>cs.contains c
def noHs (l:List (Nat×AV)):Bool:=l.all fun p=>match p.2 with
 | .hs ..=>false
 | _=>true
def guardSt (ops:List Oper) (o:Oper) (s:St):Option (List Tmp×Bool) :=
 match o.guard with
 | none=>some ([],true)
 | some (j,want)=>match (ops[j]?).bind (·.dst) with
  | none=>none
  | some t=>match getT s.tmps t with
   | .bool v=>some ([t],v == want)
   | .tuple []=>some ([t],false)
   | _=>none
def stillOf (X:Ext) (f:FuncId) (ops:List Oper) (o:Oper) (s:St):Option (List Tmp×List Nat) :=
 if mkOf X f o=false∧keepOf (takesOf ops) o=false then
  match o.op with
  | .move (.tmp t)=>some ([t],[])
  | .load _ (.tmp t)=>match getT s.tmps t with
   | .ptr c _=>some ([t],[c])
   | _=>none
  | .buildSlice _ _ ps=>if noHs (ps.toList.map fun p=>(p.1,s.eval X p.2))=true then some (ps.toList.flatMap fun p=>tmpOf p.2,[]) else none
  | _=>none
 else none
inductive Quick where
 | skip (g:List Tmp) | still (ts cs:List Nat) | slow
def quickOf (X:Ext) (f:FuncId) (ops:List Oper) (o:Oper) (s:St):Quick :=
 match guardSt ops o s with
 | some (g,true)=>match stillOf X f ops o s with
  | some (ts,cs)=>.still (g ++ ts) cs
  | none=>.slow
 | some (g,false)=>.skip g
 | none=>.slow
noncomputable def St.withinF (A:Amb) (ts cs:List Nat) (s:St):Bool :=
 natSeq (bitsOf cs) fun m=>(ts.all fun t=>(getT s.tmps t).ptrs.all fun c=>tb m c) && (A.loops.all fun r=>(ptrsL r.tmps).all fun c=>tb m c) && (cs.all fun c=>(s.heap.getD c .empty).ptrs.all fun c=>tb m c)
noncomputable def stepDK (X:Ext) (rec:Rec) (A:Amb) (ops:List Oper) (hb:Nat) (i:Nat) (o:Oper) (s:St) (k:St→Patch→Option R):Option R :=
 match quickOf X A.fn ops o s with
 | .skip g=>let e:Eff:={ val:=.tuple [] }
  k (e.on o.dst s s.pend) { i,ts:=g,cs:=[],dst:=o.dst,e }
 | .still ts cs=>(plainK X (takesOf ops) (mkOf X A.fn o) (hb+newsBefore X A.fn ops i) o (s.eval X) s.heap some).bind fun e =>
   if e.grow.isEmpty=true∧e.writes.isEmpty=true then k (e.on o.dst s s.pend) { i,ts,cs,dst:=o.dst,e } else none
 | .slow =>
 let ts:=looksT ops o
 let cs:=footC X A ops hb i o s ts
 let r:=s.restrictF ts cs
 if s.withinF A ts cs=true then
  stepK X rec A ops hb i o r fun r1 e =>
   let e:=e.getD { val:=.tuple [] }
   if e.grow.isEmpty=true∧(e.writes.all fun w=>cs.contains w.1)=true∧(e.dulls.all fun t=>ts.contains t)=true then
    k (e.on o.dst s r1.pend) { i,ts,cs,dst:=o.dst,e,pend:=if r1.pend=s.pend then none else some r1.pend }
   else none
 else none
def condT (ops:List Oper) (o:Oper):Option Tmp :=
 match o.guard with
 | some (g,_)=>(ops[g]?).bind (·.dst)
 | none=>match o.op with
  | .pick c _ _=>(tmpOf c).head?
  | _=>none
def refineK (s:St) (t:Option Tmp) (k:St→Option R):Option R :=
 match t with
 | none=>k s
 | some t=>match getT s.tmps t with
  | .bool v=>br v (k { s with tmps:=s.tmps.set t (.bool true) }) (k { s with tmps:=s.tmps.set t (.bool false) })
  | _=>k s
noncomputable def stepsDK (X:Ext) (rec:Rec) (A:Amb) (ops:List Oper) (hb:Nat):List (Nat×Oper)→St→List Patch→(St→List Patch→Option R)→Option R
 | [],s,ps,k=>k s ps
 | (i,o) :: l,s,ps,k=>refineK s (condT ops o) fun s=>stepDK X rec A ops hb i o s fun s p=>s.seqE o.dst p.e fun s=>stepsDK X rec A ops hb l s (ps ++ [p]) k
def befOf (acc:List Nat) (o:Oper):Nat:=o.after.toList.foldl (fun s e=>if Region.binds .any e=true then s ||| 2 ^ e.on ||| acc.getD e.on 0 else s) 0
def befM:List Nat→List Oper→List Nat
 | acc,[]=>acc
 | acc,o :: l=>befM (acc ++ [befOf acc o]) l
def disj (a b:List Nat):Bool:=a.all fun x=>!b.contains x
def Patch.modT (p:Patch):List Nat:=p.dst.toList ++ p.e.dulls
def Patch.modC (p:Patch):List Nat:=p.e.writes.map (·.1)
def apart1 (p q:Patch):Bool:=disj p.modT (q.ts ++ q.modT) && (disj p.modC q.cs && p.pend.isNone)
noncomputable def Patch.mask (p:Patch):Nat×Nat×Nat×Nat×Bool:=(bitsOf p.modT,bitsOf (p.ts ++ p.modT),bitsOf p.modC,bitsOf p.cs,p.pend.isNone)
def apartB (p q:Nat×Nat×Nat×Nat×Bool):Bool:=Nat.beq (Nat.land p.1 q.2.1) 0 && (Nat.beq (Nat.land p.2.2.1 q.2.2.2.1) 0 && p.2.2.2.2)
abbrev Mask:=Nat×Nat×Nat×Nat×Bool
noncomputable def maskSeq {R:Type} (p:Patch) (k:Mask→R):R :=
 natSeq (bitsOf p.modT) fun a=>natSeq (bitsOf (p.ts ++ p.modT)) fun b=>natSeq (bitsOf p.modC) fun c=>natSeq (bitsOf p.cs) fun d=>k (a,b,c,d,p.pend.isNone)
noncomputable def masksSeq {R:Type}:List Patch→(List Mask→R)→R
 | [],k=>k []
 | p :: l,k=>maskSeq p fun m=>masksSeq l fun ms=>k (m :: ms)
def natsSeq {R:Type}:List Nat→(List Nat→R)→R
 | [],k=>k []
 | n :: l,k=>natSeq n fun n=>natsSeq l fun ns=>k (n :: ns)
noncomputable def freeRow (b:Nat) (q:Mask) (i:Nat) (l:List Mask):Bool :=
 List.rec (motive:=fun _=>Nat→Bool) (fun _=>true) (fun p _ ih i=>cond (cond (tb b i) true (cond (apartB p q) (apartB q p) false)) (ih (Nat.succ i)) false) l i
noncomputable def freeRows:List Nat→List Mask→List Mask→Bool
 | _,_,[]=>true
 | b :: bs,pre,q :: qs=>freeRow b q 0 pre && freeRows bs (pre ++ [q]) qs
 | [],_,_ :: _=>false
def edgesOk:Nat→List Oper→Bool
 | _,[]=>true
 | i,o :: l=>(o.after.toList.all fun e=>!Region.binds .any e || Nat.blt e.on i) && edgesOk (Nat.succ i) l
noncomputable def freeOrder (ops:List Oper) (ps:List Patch):Bool :=
 edgesOk 0 ops && natsSeq (befM [] ops) fun bs=>masksSeq ps fun ms=>freeRows bs [] ms
noncomputable def regionK (X:Ext) (rec:Rec) (A:Amb) (opsA:Array Oper) (draw:Bool) (s:St) (k:St→Option R):Option R :=
 let ops:=opsA.toList
 let hb:=s.heap.length
 let s:St:={ s with heap:=s.heap ++ List.replicate (newsBefore X A.fn ops ops.length) .empty }
 if draw=true then
  stepsDK X rec A ops hb (ops.zipIdx.map fun p=>(p.2,p.1)) s [] fun s ps=>if freeOrder ops ps=true then k s else none
 else stepsK X rec A ops hb (ops.zipIdx.map fun p=>(p.2,p.1)) s k
def firstRegion:Code→Option Nat
 | .region id _ _=>some id
 | .seq a b=>match firstRegion a with
  | some i=>some i
  | none=>firstRegion b
 | .block _ b=>firstRegion b
 | .loop b=>firstRegion b
 | .scope b=>firstRegion b
 | _=>none
def tryShapes {R:Type} (b:Nat) (s:St) (go:(sh:Shape)→sh.head.ty.den→Option R):List Shape→Option R
 | []=>none
 | sh :: l=>match sh.head.pack b s with
  | some x=>go sh x
  | none=>tryShapes b s go l
def unrollK {R:Type} (body:St→(AE→St→Option R)→Option R):Nat→St→(AE→St→Option R)→Option R
 | 0,_,_=>none
 | m+1,s,k=>body s fun e s=>match e with
  | .normal=>unrollK body m s k
  | e=>k e s
noncomputable def codeK (X:Ext) (rec:Rec) (A:Amb) (c:Code):{R:Type}→St→(AE→St→Option R)→Option R :=
 match c with
 | .skip=>fun s k=>k .normal s
 | .label _=>fun s k=>k .normal s
 | .region _ ops draw=>fun s k=>regionK X rec A ops draw s fun s=>k .normal s
 | .seq a b=>fun s k =>
  match (firstRegion b).bind (X.cuts A.fn) with
  | none=>codeK X rec A a s fun e s=>match e with
   | .normal=>codeK X rec A b s k
   | e=>k e s
  | some ex=>(codeK X rec A a s fun e s=>packEx ex A.base e s).bind fun y=>unpackEx A.nt ex y fun e s=>match e with
   | .normal=>codeK X rec A b s k
   | e=>k e s
 | .cond c a b=>fun s k=>match c with
  | .tmp t=>match getT s.tmps t with
   | .bool v=>br v (codeK X rec A a { s with tmps:=s.tmps.set t (.bool true) } k) (codeK X rec A b { s with tmps:=s.tmps.set t (.bool false) } k)
   | _=>none
  | .const (.bool v)=>if v=true then codeK X rec A a s k else codeK X rec A b s k
  | _=>none
 | .scope b=>fun s k=>codeK X rec A b s k
 | .block id b=>fun s k=>codeK X rec A b s fun e s=>match e with
  | .exit id'=>if id'=id then k .normal s else k e s
  | e=>k e s
 | .loop b=>fun s k=>match (firstRegion b).elim 0 (X.unroll A.fn) with
  | 0=>tryShapes A.base s (fun sh x=>(rec.loop b sh A x).bind fun y=>unpackEx A.nt sh.exits y k) (((firstRegion b).map (X.shapes A.fn)).getD [])
  | m+1=>unrollK (codeK X rec A b) (m+1) s k
 | .exit id=>fun s k=>k (.exit id) s
 | .ret=>fun s k=>k .ret s
 | .rangeFunc f ps as b=>fun s k =>
  match s.eval X f with
  | .func (.func g) a cs =>
   let L:=A.loops.length
   if s.pend.length=L∧A.base≤s.heap.length then
    viaHeapK rec (.func g) ((a ++ [AV.func (.yield L) [] []] ++ cs).map AV.dull) s.heap (A.loops ++ [{ fn:=A.fn,tmps:=s.tmps.map AV.dull,params:=ps.toList,assign:=as,body:=b }]) (s.pend ++ [none]) fun _ ws _ gr pe =>
     let s':St:={ s with heap:=setAll s.heap ws ++ gr,pend:=pe.take L }
     if (s'.heap.all Cell.calm && A.loops.all fun r=>calmL r.tmps)=true then
      match pe[L]? with
      | some none=>k .normal s'
      | some (some .normal)=>none
      | some (some e)=>k e s'
      | none=>none
     else none
   else none
  | _=>none
 | _=>fun _ _=>none
def leavesOk:AE→Bool
 | .normal | .ret=>true
 | .exit _=>false
def loopsIn (n:Nat) (ls:List LoopRec):Bool:=ls.all fun r=>(ptrsL r.tmps).all fun c=>decide (c<n)
noncomputable def bodyK {R:Type} (X:Ext) (rec:Rec) (g:FuncId) (args:List AV) (h:List Cell) (ls:List LoopRec) (ps:List (Option AE)) (k:List AV→List Cell→List (Option AE)→Option R):Option R :=
 match X.P.funcs[g]? with
 | some fn=>match fn.body with
  | some c=>if args.length≤fn.ntmps∧loopsIn h.length ls=true then
    codeK X rec { fn:=g,base:=h.length,nt:=fn.ntmps,loops:=ls } c { tmps:=args.map AV.dull ++ List.replicate (fn.ntmps-args.length) .top,heap:=h,pend:=ps } fun e s =>
     if leavesOk e=true then (resVars X s fn.results.toList).bind fun vs=>k vs s.heap s.pend else none
   else none
  | none=>none
 | none=>none
def setParams (l:List AV):List (Tmp×AV)→List AV
 | []=>l
 | (t,v) :: r=>setParams (l.set t v) r
def jumpOf:AE→Option AE
 | .normal=>none
 | e=>some e
noncomputable def roundK {R:Type} (X:Ext) (rec:Rec) (l:Nat) (args:List AV) (h:List Cell) (ls:List LoopRec) (ps:List (Option AE)) (k:AV→List Cell→List (Option AE)→Option R):Option R :=
 match ls[l]? with
 | some r =>
  if args.length=r.params.length∧loopsIn h.length ls=true then
   let A:Amb:={ fn:=r.fn,base:=h.length,nt:=r.tmps.length,loops:=ls,rd:=true }
   codeK X rec A r.assign { tmps:=setParams r.tmps (r.params.zip (args.map AV.dull)),heap:=h,pend:=ps } fun e s =>
    match e,s.pend[l]? with
    | .normal,some none=>codeK X rec A r.body { s with pend:=s.pend.set l (some .normal) } fun e s =>
      k (.bool (jumpOf e).isNone) s.heap (s.pend.set l (jumpOf e))
    | _,_=>none
  else none
 | _=>none
noncomputable def bodyT (X:Ext) (rec:Rec) (g:FuncId) (t:Ty) (args:List AV):Option t.den :=
 match X.spec g t with
 | some f=>f args
 | none=>bodyK X rec g args [] [] [] fun vs h _=>thawLK h vs fun vs=>if freshOk (X.fresh g) t vs=true then (retLeaves X.P (resTypes X g) vs).bind fun l=>takeAll t l else none
noncomputable def bodyH {R:Type} (X:Ext) (rec:Rec) (fn:Fn) (args:List AV) (h:List Cell) (ls:List LoopRec) (ps:List (Option AE)) (k:AV→List Cell→List (Option AE)→Option R):Option R :=
 match fn with
 | .func g=>match X.specH g with
  | some f=>f.run args h fun v h=>k v h ps
  | none=>bodyK X rec g args h ls ps fun vs h ps=>k (packRes vs) h ps
 | .yield l=>roundK X rec l args h ls ps k
 | _=>none
noncomputable def loopD (X:Ext) (rec:Rec) (b:Code) (sh:Shape) (A:Amb) (x:sh.head.ty.den):Option (exitsTy sh.exits).den :=
 codeK X rec A b (sh.head.unpack A.nt x) fun e s=>match e with
  | .normal=>match sh.head.pack A.base s with
   | some x=>rec.loop b sh A x
   | none=>tryShapes A.base s (fun sh' x=>(rec.loop b sh' A x).bind fun y=>unpackEx A.nt sh'.exits y fun e s=>packEx sh.exits A.base e s) (((firstRegion b).map (X.shapes A.fn)).getD [])
  | e=>packEx sh.exits A.base e s
def Rec.none:Rec:={ callT:=fun _ _ _=>Option.none,callH:=fun _ _ _ _ _ _=>Option.none,loop:=fun _ _ _ _=>Option.none }
noncomputable def Rec.up (X:Ext) (rec:Rec):Rec:={ callT:=bodyT X rec,callH:=bodyH X rec,loop:=loopD X rec }
noncomputable def run (X:Ext):Nat→Rec
 | 0=>Rec.none
 | n+1=>Rec.up X (run X n)
end Go.Am
namespace Go.Am
open Go
def findLoop:Code→Nat→Option Code
 | .loop b,r=>if firstRegion b=some r then some b else findLoop b r
 | .seq a b,r=>match findLoop a r with | some x=>some x | none=>findLoop b r
 | .block _ b,r=>findLoop b r
 | .cond _ a b,r=>match findLoop a r with | some x=>some x | none=>findLoop b r
 | .scope b,r=>findLoop b r
 | .rangeFunc _ _ a b,r=>match findLoop a r with | some x=>some x | none=>findLoop b r
 | _,_=>none
def loopOf (X:Ext) (f r:Nat):Code:=(((X.P.funcs[f]?).bind (·.body)).bind fun c=>findLoop c r).getD .skip
def findRF:Code→Nat→(Code×Code) ⊕ Nat
 | .rangeFunc _ _ a b,n=>match n with
  | 0=>.inl (a,b)
  | n+1=>match findRF a n with | .inl x=>.inl x | .inr n=>findRF b n
 | .seq a b,n=>match findRF a n with | .inl x=>.inl x | .inr n=>findRF b n
 | .block _ b,n=>findRF b n
 | .cond _ a b,n=>match findRF a n with | .inl x=>.inl x | .inr n=>findRF b n
 | .loop b,n=>findRF b n
 | .scope b,n=>findRF b n
 | _,n=>.inr n
def rfOf (X:Ext) (f i:Nat):Code×Code:=match (X.P.funcs[f]?).bind (·.body) with
 | some c=>match findRF c i with | .inl x=>x | .inr _=>(.skip,.skip)
 | none=>(.skip,.skip)
def rfAssign (X:Ext) (f i:Nat):Code:=(rfOf X f i).1
def rfBody (X:Ext) (f i:Nat):Code:=(rfOf X f i).2
noncomputable def recs (X:Ext):Nat→Nat→Rec
 | 0,n=>run X n
 | k+1,n=>{ callT:=(run X (n+(k+1))).callT,callH:=bodyH X (recs X k n),loop:=(run X (n+(k+1))).loop }
theorem recs_eq (X:Ext):∀ k n,recs X k n=run X (n+k)
 | 0,_=>rfl
 | k+1,n=>by
  show ({ callT:=(run X (n+(k+1))).callT,callH:=bodyH X (recs X k n),loop:=(run X (n+(k+1))).loop }:Rec)=_
  rw[recs_eq X k n]
  rfl
theorem run_callT1 (X:Ext) (n:Nat) (g:FuncId) (t:Ty) (args:List AV):(run X (n+2)).callT g t args=bodyT X { callT:=(run X (n+1)).callT,callH:=bodyH X (run X n),loop:=(run X (n+1)).loop } g t args:=by
 show bodyT X (run X (n+1)) g t args=_
 rw[← recs_eq X 1 n]
 rfl
theorem run_loop1 (X:Ext) (n:Nat) (b:Code) (sh:Shape) (A:Amb) (z:sh.head.ty.den):(run X (n+2)).loop b sh A z=loopD X { callT:=(run X (n+1)).callT,callH:=bodyH X (run X n),loop:=(run X (n+1)).loop } b sh A z:=by
 show loopD X (run X (n+1)) b sh A z=_
 rw[← recs_eq X 1 n]
 rfl
theorem run_callT2 (X:Ext) (n:Nat) (g:FuncId) (t:Ty) (args:List AV):(run X (n+3)).callT g t args=bodyT X { callT:=(run X (n+2)).callT,callH:=bodyH X { callT:=(run X (n+1)).callT,callH:=bodyH X (run X n),loop:=(run X (n+1)).loop },loop:=(run X (n+2)).loop } g t args:=by
 show bodyT X (run X (n+2)) g t args=_
 rw[← recs_eq X 2 n]
 rfl
theorem run_loop2 (X:Ext) (n:Nat) (b:Code) (sh:Shape) (A:Amb) (z:sh.head.ty.den):(run X (n+3)).loop b sh A z=loopD X { callT:=(run X (n+2)).callT,callH:=bodyH X { callT:=(run X (n+1)).callT,callH:=bodyH X (run X n),loop:=(run X (n+1)).loop },loop:=(run X (n+2)).loop } b sh A z:=by
 show loopD X (run X (n+2)) b sh A z=_
 rw[← recs_eq X 2 n]
 rfl
end Go.Am
namespace Go.Am
open Go
theorem add_none (b o i:Nat):(⟨b,o,none⟩:Addr).add i=⟨b,o+i,none⟩:=by
 unfold Addr.add
 split
 ·rename_i h;subst h;rfl
 ·rfl
theorem add_add (a:Addr) (i j:Nat):(a.add i).add j=a.add (i+j):=by
 unfold Addr.add
 by_cases h:i=0
 ·subst h;simp
 ·by_cases h':j=0
  ·subst h';simp
  ·simp[h,h'];omega
abbrev Fix:=Nat→Nat→Option Value
abbrev Own:=Nat→Nat→Nat→Prop
def FixAt (F:Fix) (a:Addr) (i:Nat) (v:Value):Prop:=(a.add i).spot=none∧F (a.add i).block (a.add i).off=some v
def CellsD (F:Fix):(t:Ty)→t.den→List Value→Prop
 | .unit,_,cs=>cs=[]
 | .int k,n,cs=>cs=[.int k n]
 | .bool,b,cs=>cs=[.bool b]
 | .str,s,cs=>cs=[.string s]
 | .slice e,xs,cs=>∃ a cap,cs=[.slice a xs.length cap]∧(xs.length≤cap∧(a=none→cap=0)∧cap≤maxLen) ∧
   ∀ i x,xs[i]?=some x→∃ ds,CellsD F e x ds∧∀ j v,ds[j]?=some v→∃ ad,a=some ad∧FixAt F ad (i*e.width+j) v
 | .pair a b,p,cs=>∃ c d,cs=c ++ d∧CellsD F a p.1 c∧CellsD F b p.2 d
 | .sum _ _,_,_=>False
def RowsD (F:Fix) (e:Ty) (xs:List e.den) (a:Option Addr):Prop :=
 ∀ i x,xs[i]?=some x→∃ ds,CellsD F e x ds∧∀ j v,ds[j]?=some v→∃ ad,a=some ad∧FixAt F ad (i*e.width+j) v
theorem CellsD.length {F:Fix}:∀ {t:Ty} {x:t.den} {cs:List Value},CellsD F t x cs→cs.length=t.width:=by
 intro t
 induction t with
 | unit=>intro x cs h;subst h;rfl
 | int k=>intro x cs h;simp only[CellsD] at h;subst h;rfl
 | bool=>intro x cs h;simp only[CellsD] at h;subst h;rfl
 | str=>intro x cs h;simp only[CellsD] at h;subst h;rfl
 | slice e ih=>intro x cs h;obtain⟨a,cap,rfl,_⟩:=h;rfl
 | pair a b iha ihb =>
  intro x cs h
  obtain⟨c,d,rfl,h1,h2⟩:=h
  simp[iha h1,ihb h2,Ty.width]
 | sum a b=>intro x cs h;exact h.elim
def Fix.le (F F':Fix):Prop:=∀ b o v,F b o=some v→F' b o=some v
theorem Fix.le.refl (F:Fix):F.le F:=fun _ _ _ h=>h
theorem Fix.le.trans {F G H:Fix} (h:F.le G) (k:G.le H):F.le H:=fun b o v x=>k b o v (h b o v x)
theorem FixAt.mono {F F':Fix} (hf:F.le F') {a:Addr} {i:Nat} {v:Value} (h:FixAt F a i v):FixAt F' a i v:=⟨h.1,hf _ _ _ h.2⟩
theorem CellsD.mono {F F':Fix} (hf:F.le F'):∀ {t:Ty} {x:t.den} {cs:List Value},CellsD F t x cs→CellsD F' t x cs:=by
 intro t
 induction t with
 | unit=>intro x cs h;exact h
 | int k=>intro x cs h;exact h
 | bool=>intro x cs h;exact h
 | str=>intro x cs h;exact h
 | slice e ih =>
  intro x cs h
  obtain⟨a,cap,h1,h2,h3⟩:=h
  refine⟨a,cap,h1,h2,fun i y hy=>?_⟩
  obtain⟨ds,hd,hc⟩:=h3 i y hy
  exact⟨ds,ih hd,fun j v hv=>let ⟨ad,e1,e2⟩:=hc j v hv;⟨ad,e1,e2.mono hf⟩⟩
 | pair a b iha ihb =>
  intro x cs h
  obtain⟨c,d,e,h1,h2⟩:=h
  exact⟨c,d,e,iha h1,ihb h2⟩
 | sum a b=>intro x cs h;exact h.elim
theorem RowsD.mono {F F':Fix} (hf:F.le F') {e:Ty} {xs:List e.den} {a:Option Addr} (h:RowsD F e xs a):RowsD F' e xs a:=by
 intro i x hx
 obtain⟨ds,hd,hc⟩:=h i x hx
 exact⟨ds,hd.mono hf,fun j v hv=>let ⟨ad,e1,e2⟩:=hc j v hv;⟨ad,e1,e2.mono hf⟩⟩
def OwnOk (ow:Nat→Nat→Prop) (wd:Nat) (a:Option Addr) (len cap:Nat):Prop :=
 (a=none∧cap=0)∨∃ b off,a=some ⟨b,off,none⟩∧∀ i,len*wd≤i→i<cap*wd→ow b (off+i)
def rowM:Nat:=9223372036854775808
def rowB (p:Nat):Nat:=p / rowM
def rowC (p:Nat):Nat:=p % rowM
theorem rowB_mk (b c:Nat) (h:c<rowM):rowB (b*rowM+c)=b:=by
 unfold rowB
 rw[Nat.mul_comm,Nat.mul_add_div (by decide),Nat.div_eq_of_lt h,Nat.add_zero]
theorem rowC_mk (b c:Nat) (h:c<rowM):rowC (b*rowM+c)=c:=by
 unfold rowC
 rw[Nat.mul_comm,Nat.mul_add_mod,Nat.mod_eq_of_lt h]
def HsOk (σ:Nat→Option Nat) (c:Nat) (e:Ty) (lo len:Nat) (u:Value):Prop :=
 ∃ p,σ c=some p∧lo+len≤rowC p∧rowC p≤maxLen∧∃ a,u=.slice a len (rowC p-lo)∧(lo<rowC p→a=some ⟨rowB p,lo*e.width,none⟩)∧(a=none→rowC p=lo)
theorem HsOk.mono {σ σ':Nat→Option Nat} {c c':Nat} {e:Ty} {lo len:Nat} {u:Value} (h:HsOk σ c e lo len u) (hs:∀ b,σ c=some b→σ' c'=some b):HsOk σ' c' e lo len u:=by
 obtain⟨p,h1,h2⟩:=h
 exact⟨p,hs p h1,h2⟩
mutual
inductive Rep (F:Fix) (σ:Nat→Option Nat) (lm:Nat→Option Nat):Own→AV→Value→Prop
 | int (ow:Own) (k:IntKind) (n:Int):Rep F σ lm ow (.int k n) (.int k n)
 | bool (ow:Own) (b:Bool):Rep F σ lm ow (.bool b) (.bool b)
 | str (ow:Own) (s:ByteArray):Rep F σ lm ow (.str s) (.string s)
 | slice (ow:Own) (own:Bool) (e:Ty) (xs:List e.den) (a:Option Addr) (cap:Nat) (hc:xs.length≤cap∧(a=none→cap=0)∧cap≤maxLen) (hr:RowsD F e xs a)
   (ho:own=true→OwnOk (ow 0) e.width a xs.length cap):Rep F σ lm ow (.slice own e xs) (.slice a xs.length cap)
 | nil (ow:Own):Rep F σ lm ow .nil (.slice none 0 0)
 | ptr (ow:Own) (c off b:Nat) (h:σ c=some b):Rep F σ lm ow (.ptr c off) (.pointer (some ⟨b,off,none⟩))
 | nilptr (ow:Own):Rep F σ lm ow .nilptr (.pointer none)
 | cptr (ow:Own) (l:List AV) (a:Addr) (vs:List Value) (h:RepL F σ lm l vs) (hf:∀ i v,vs[i]?=some v→FixAt F a i v):Rep F σ lm ow (.cptr l) (.pointer (some a))
 | func (ow:Own) (g:FuncId) (a b:List AV) (va vb:List Value) (ha:RepL F σ lm a va) (hb:RepL F σ lm b vb):Rep F σ lm ow (.func (.func g) a b) (.func (.func g) va.toArray vb.toArray)
 | yield (ow:Own) (l r:Nat) (h:lm l=some r):Rep F σ lm ow (.func (.yield l) [] []) (.func (.yield r) #[] #[])
 | nilfunc (ow:Own):Rep F σ lm ow .nilfunc .nilFunc
 | map (ow:Own) (c b:Nat) (h:σ c=some b):Rep F σ lm ow (.map c) (.map (some b))
 | nilmap (ow:Own):Rep F σ lm ow .nilmap (.map none)
 | iface (ow:Own) (t:TypeId) (v:AV) (u:Value) (h:Rep F σ lm (fun _ _ _=>False) v u):Rep F σ lm ow (.iface t v) (.iface t u)
 | niliface (ow:Own):Rep F σ lm ow .niliface .nilIface
 | agg (ow:Own) (l:List AV) (vs:List Value) (h:RepL F σ lm l vs):Rep F σ lm ow (.agg l) (.agg vs.toArray)
 | tuple (ow:Own) (l:List AV) (vs:List Value) (h:RepC F σ lm ow 0 l vs):Rep F σ lm ow (.tuple l) (.tuple vs.toArray)
 | hs (ow:Own) (c:Nat) (e:Ty) (lo len:Nat) (u:Value) (h:HsOk σ c e lo len u):Rep F σ lm ow (.hs c e lo len) u
 | rptr (ow:Own) (c:Nat) (e:Ty) (i off p:Nat) (h:σ c=some p):Rep F σ lm ow (.rptr c e i off) (.pointer (some ⟨rowB p,i*e.width+off,none⟩))
 | void (ow:Own) (a:Option Addr):Rep F σ lm ow .void (.slice a 0 0)
 | top (ow:Own) (v:Value):Rep F σ lm ow .top v
inductive RepL (F:Fix) (σ:Nat→Option Nat) (lm:Nat→Option Nat):List AV→List Value→Prop
 | nil:RepL F σ lm [] []
 | cons (a:AV) (v:Value) (l:List AV) (vs:List Value) (h:Rep F σ lm (fun _ _ _=>False) a v) (t:RepL F σ lm l vs):RepL F σ lm (a :: l) (v :: vs)
inductive RepC (F:Fix) (σ:Nat→Option Nat) (lm:Nat→Option Nat):Own→Nat→List AV→List Value→Prop
 | nil (ow:Own) (j:Nat):RepC F σ lm ow j [] []
 | cons (ow:Own) (j:Nat) (a:AV) (v:Value) (l:List AV) (vs:List Value) (h:Rep F σ lm (fun _=>ow j) a v) (t:RepC F σ lm ow (j+1) l vs):RepC F σ lm ow j (a :: l) (v :: vs)
end
abbrev noOwn:Own:=fun _ _ _=>False
section
variable {F F':Fix} {σ σ' lm lm':Nat→Option Nat}
mutual
theorem Rep.mono (hf:F.le F') (hs:∀ c b,σ c=some b→σ' c=some b) (hl:∀ c b,lm c=some b→lm' c=some b) {ow ow':Own} (ho:∀ j b o,ow j b o→ow' j b o) {v:AV} {u:Value}
  (h:Rep F σ lm ow v u):Rep F' σ' lm' ow' v u:=by
 cases h with
 | int _ k n=>exact .int ..
 | bool _ b=>exact .bool ..
 | str _ s=>exact .str ..
 | slice _ own e xs a cap hc hr hw =>
  refine .slice _ _ _ _ _ _ hc (hr.mono hf) fun h=>?_
  rcases hw h with h | ⟨b,off,e1,e2⟩
  ·exact .inl h
  ·exact .inr ⟨b,off,e1,fun i h1 h2=>ho _ _ _ (e2 i h1 h2)⟩
 | nil=>exact .nil _
 | ptr _ c off b h=>exact .ptr _ _ _ _ (hs _ _ h)
 | nilptr=>exact .nilptr _
 | cptr _ l a vs h hx=>exact .cptr _ _ _ _ (RepL.mono hf hs hl h) fun i v hv=>(hx i v hv).mono hf
 | func _ g a b va vb ha hb=>exact .func _ _ _ _ _ _ (RepL.mono hf hs hl ha) (RepL.mono hf hs hl hb)
 | yield _ l r h=>exact .yield _ _ _ (hl _ _ h)
 | nilfunc=>exact .nilfunc _
 | map _ c b h=>exact .map _ _ _ (hs _ _ h)
 | nilmap=>exact .nilmap _
 | iface _ t v u h=>exact .iface _ _ _ _ (Rep.mono hf hs hl (fun _ _ _ x=>x) h)
 | niliface=>exact .niliface _
 | agg _ l vs h=>exact .agg _ _ _ (RepL.mono hf hs hl h)
 | tuple _ l vs h=>exact .tuple _ _ _ (RepC.mono hf hs hl ho h)
 | hs _ c e lo len u h=>exact .hs _ _ _ _ _ _ (h.mono (hs c))
 | rptr _ c e i off p h=>exact .rptr _ _ _ _ _ _ (hs _ _ h)
 | void _ a=>exact .void _ _
 | top _ v=>exact .top _ _
theorem RepL.mono (hf:F.le F') (hs:∀ c b,σ c=some b→σ' c=some b) (hl:∀ c b,lm c=some b→lm' c=some b) {l:List AV} {vs:List Value}
  (h:RepL F σ lm l vs):RepL F' σ' lm' l vs:=by
 cases h with
 | nil=>exact .nil
 | cons a v l vs h t=>exact .cons _ _ _ _ (Rep.mono hf hs hl (fun _ _ _ x=>x) h) (RepL.mono hf hs hl t)
theorem RepC.mono (hf:F.le F') (hs:∀ c b,σ c=some b→σ' c=some b) (hl:∀ c b,lm c=some b→lm' c=some b) {ow ow':Own} (ho:∀ j b o,ow j b o→ow' j b o) {j:Nat} {l:List AV} {vs:List Value}
  (h:RepC F σ lm ow j l vs):RepC F' σ' lm' ow' j l vs:=by
 cases h with
 | nil=>exact .nil _ _
 | cons _ _ a v l vs h t=>exact .cons _ _ _ _ _ _ (Rep.mono hf hs hl (fun _ b o x=>ho _ b o x) h) (RepC.mono hf hs hl ho t)
end
end
section
variable {F:Fix} {σ lm:Nat→Option Nat}
theorem RepL.length {l:List AV} {vs:List Value} (h:RepL F σ lm l vs):l.length=vs.length:=by
 induction l generalizing vs with
 | nil=>cases h;rfl
 | cons a l ih=>cases h with | cons _ v _ vs h t=>simp[ih t]
theorem RepL.get {l:List AV} {vs:List Value} (h:RepL F σ lm l vs) (i:Nat) (a:AV) (ha:l[i]?=some a):∃ v,vs[i]?=some v∧Rep F σ lm noOwn a v:=by
 induction l generalizing vs i with
 | nil=>simp at ha
 | cons x l ih =>
  cases h with
  | cons _ v _ vs h t =>
   cases i with
   | zero=>simp at ha;subst ha;exact⟨v,rfl,h⟩
   | succ i=>simp at ha;simpa using ih t i ha
theorem RepL.append {l m:List AV} {vs us:List Value} (h:RepL F σ lm l vs) (k:RepL F σ lm m us):RepL F σ lm (l ++ m) (vs ++ us):=by
 induction l generalizing vs with
 | nil=>cases h;exact k
 | cons x l ih=>cases h with | cons _ v _ vs h t=>exact .cons _ _ _ _ h (ih t)
theorem RepL.take {l:List AV} {vs:List Value} (h:RepL F σ lm l vs) (n:Nat):RepL F σ lm (l.take n) (vs.take n):=by
 induction l generalizing vs n with
 | nil=>cases h;simp;exact .nil
 | cons x l ih =>
  cases h with
  | cons _ v _ vs h t =>
   cases n with
   | zero=>simp;exact .nil
   | succ n=>simp;exact .cons _ _ _ _ h (ih t n)
theorem RepL.drop {l:List AV} {vs:List Value} (h:RepL F σ lm l vs) (n:Nat):RepL F σ lm (l.drop n) (vs.drop n):=by
 induction l generalizing vs n with
 | nil=>cases h;simp;exact .nil
 | cons x l ih =>
  cases h with
  | cons _ v _ vs h t =>
   cases n with
   | zero=>simp;exact .cons _ _ _ _ h t
   | succ n=>simpa using ih t n
theorem RepL.of_get {l:List AV} {vs:List Value} (hl:l.length=vs.length) (h:∀ (i:Nat) (a:AV) (v:Value),l[i]?=some a→vs[i]?=some v→Rep F σ lm noOwn a v):RepL F σ lm l vs:=by
 induction l generalizing vs with
 | nil=>cases vs with | nil=>exact .nil | cons=>simp at hl
 | cons x l ih =>
  cases vs with
  | nil=>simp at hl
  | cons v vs=>exact .cons _ _ _ _ (h 0 x v rfl rfl) (ih (by simpa using hl) fun i a v h1 h2=>h (i+1) a v (by simpa using h1) (by simpa using h2))
mutual
theorem Rep.dull {ow ow':Own} {v:AV} {u:Value} (h:Rep F σ lm ow v u):Rep F σ lm ow' v.dull u:=by
 cases h with
 | slice _ own e xs a cap hc hr hw=>exact .slice _ _ _ _ _ _ hc hr fun h=>by cases h
 | tuple _ l vs h=>exact .tuple _ _ _ (RepC.dull h)
 | int _ k n=>exact .int ..
 | bool _ b=>exact .bool ..
 | str _ s=>exact .str ..
 | nil=>exact .nil _
 | ptr _ c off b h=>exact .ptr _ _ _ _ h
 | nilptr=>exact .nilptr _
 | cptr _ l a vs h hx=>exact .cptr _ _ _ _ h hx
 | func _ g a b va vb ha hb=>exact .func _ _ _ _ _ _ ha hb
 | yield _ l r h=>exact .yield _ _ _ h
 | nilfunc=>exact .nilfunc _
 | map _ c b h=>exact .map _ _ _ h
 | nilmap=>exact .nilmap _
 | iface _ t v u h=>exact .iface _ _ _ _ h
 | niliface=>exact .niliface _
 | agg _ l vs h=>exact .agg _ _ _ h
 | hs _ c e lo len u h=>exact .hs _ _ _ _ _ _ h
 | rptr _ c e i off p h=>exact .rptr _ _ _ _ _ _ h
 | void _ a=>exact .void _ _
 | top _ v=>exact .top _ _
theorem RepC.dull {ow ow':Own} {j j':Nat} {l:List AV} {vs:List Value} (h:RepC F σ lm ow j l vs):RepC F σ lm ow' j' (dullL l) vs:=by
 cases h with
 | nil=>exact .nil _ _
 | cons _ _ a v l vs h t=>exact .cons _ _ _ _ _ _ (Rep.dull h) (RepC.dull t)
end
end
section
variable {F:Fix} {σ lm:Nat→Option Nat}
theorem repL_leaves:∀ {t:Ty} {x:t.den} {cs:List Value},CellsD F t x cs→RepL F σ lm (t.leaves x) cs:=by
 intro t
 induction t with
 | unit=>intro x cs h;simp only[CellsD] at h;subst h;exact .nil
 | int k=>intro x cs h;simp only[CellsD] at h;subst h;exact .cons _ _ _ _ (.int _ _ _) .nil
 | bool=>intro x cs h;simp only[CellsD] at h;subst h;exact .cons _ _ _ _ (.bool _ _) .nil
 | str=>intro x cs h;simp only[CellsD] at h;subst h;exact .cons _ _ _ _ (.str _ _) .nil
 | slice e ih =>
  intro x cs h
  obtain⟨a,cap,rfl,hc,hr⟩:=h
  exact .cons _ _ _ _ (.slice _ _ _ _ _ _ hc hr fun h=>by cases h) .nil
 | pair a b iha ihb =>
  intro x cs h
  obtain⟨c,d,rfl,h1,h2⟩:=h
  exact (iha h1).append (ihb h2)
 | sum a b=>intro x cs h;exact h.elim
theorem cellsD_take:∀ {t:Ty} {l:List AV} {x:t.den} {rest:List AV} {vs:List Value},t.take l=some (x,rest)→RepL F σ lm l vs →
  ∃ cs us,vs=cs ++ us∧CellsD F t x cs∧RepL F σ lm rest us:=by
 intro t
 induction t with
 | unit=>intro l x rest vs h hr;simp only[Ty.take,Option.some.injEq,Prod.mk.injEq] at h;obtain⟨_,rfl⟩:=h;exact⟨[],vs,rfl,rfl,hr⟩
 | int k =>
  intro l x rest vs h hr
  cases hr with
  | nil=>simp[Ty.take] at h
  | cons a v l vs ha ht =>
   cases a <;> simp only[Ty.take] at h <;> try (cases h)
   rename_i k' n
   split at h
   ·rename_i hk;subst hk
    cases h
    cases ha
    exact⟨[_],vs,rfl,rfl,ht⟩
   ·cases h
 | bool =>
  intro l x rest vs h hr
  cases hr with
  | nil=>simp[Ty.take] at h
  | cons a v l vs ha ht =>
   cases a <;> simp only[Ty.take] at h <;> try (cases h)
   cases ha
   exact⟨[_],vs,rfl,rfl,ht⟩
 | str =>
  intro l x rest vs h hr
  cases hr with
  | nil=>simp[Ty.take] at h
  | cons a v l vs ha ht =>
   cases a <;> simp only[Ty.take] at h <;> try (cases h)
   cases ha
   exact⟨[_],vs,rfl,rfl,ht⟩
 | slice e ih =>
  intro l x rest vs h hr
  cases hr with
  | nil=>simp[Ty.take] at h
  | cons a v l vs ha ht =>
   cases a <;> simp only[Ty.take] at h <;> try (cases h)
   ·rename_i own e' xs
    split at h
    ·rename_i he;subst he
     cases h
     cases ha with
     | slice _ _ _ _ a cap hc hr hw=>exact⟨[_],vs,rfl,⟨a,cap,rfl,hc,hr⟩,ht⟩
    ·cases h
   ·cases ha
    exact⟨[_],vs,rfl,⟨none,0,rfl,⟨Nat.le_refl _,fun _=>rfl,Nat.zero_le _⟩,fun i x hx=>by simp at hx⟩,ht⟩
 | pair a b iha ihb =>
  intro l x rest vs h hr
  simp only[Ty.take,Option.bind_eq_some_iff] at h
  obtain⟨⟨x1,r1⟩,h1,⟨x2,r2⟩,h2,h3⟩:=h
  cases h3
  obtain⟨cs,us,rfl,hc,hu⟩:=iha h1 hr
  obtain⟨ds,ws,rfl,hd,hw⟩:=ihb h2 hu
  exact⟨cs ++ ds,ws,by simp,⟨cs,ds,rfl,hc,hd⟩,hw⟩
 | sum a b=>intro l x rest vs h hr;simp[Ty.take] at h
end
end Go.Am
namespace Go.Am
open Go
inductive Loc where
 | tmp (t:Nat) | leaf (c j:Nat) | ret
 deriving DecidableEq
inductive Tag where
 | free
 | fixed (v:Value)
 | cell (c j:Nat)
 | spare (l:Loc) (j:Nat)
 | loop (i:Nat)
 | mark
abbrev Tags:=Nat→Nat→Tag
def Tag.fix?:Tag→Option Value
 | .fixed v=>some v
 | _=>none
def Tag.mine:Tag→Bool
 | .free | .fixed _=>false
 | _=>true
def Tags.fix (T:Tags):Fix:=fun b o=>(T b o).fix?
def Tags.own (T:Tags) (l:Loc):Own:=fun j b o=>T b o=.spare l j
theorem Tags.fix_eq {T:Tags} {b o:Nat} {v:Value}:T.fix b o=some v↔T b o=.fixed v:=by
 unfold Tags.fix
 cases T b o <;> simp[Tag.fix?]
def loopState:Option AE→LoopState×Option Code
 | none=>(.ready,none)
 | some .normal=>(.busy,none)
 | some .ret=>(.done,some .ret)
 | some (.exit id)=>(.done,some (.exit id))
def RowAt (T:Tags) (σ:Nat→Option Nat) (w:World) (c:Nat) (e:Ty) (xs:List e.den):Prop :=
 ∃ p,σ c=some p∧0<e.width∧xs.length≤rowC p∧rowC p≤maxLen∧∃ cs:List Value,cs.length=xs.length*e.width ∧
  (∀ (i:Nat) x,xs[i]?=some x→∃ ds,CellsD T.fix e x ds∧∀ (j:Nat) v,ds[j]?=some v→cs[i*e.width+j]?=some v) ∧
  (∀ (k:Nat) v,cs[k]?=some v→T (rowB p) k=.cell c k∧w.cell? ⟨rowB p,k,none⟩=some v∧w.frozen? ⟨rowB p,k,none⟩=false) ∧
  ∀ k,xs.length*e.width≤k→k<rowC p*e.width→T (rowB p) k=.spare (.leaf c 0) 0
def Ty.val (t:Ty) (cs:List Value):Value:=match t.isRow with
 | true=>.agg cs.toArray
 | false=>cs.headD undef
def ValD (F:Fix) (t:Ty) (x:t.den) (v:Value):Prop:=∃ cs,CellsD F t x cs∧v=t.val cs
def LeafV (F:Fix) (ea:Bool) (l:List AV) (v:Value):Prop:=∃ vs,RepL F (fun _=>none) (fun _=>none) l vs∧(ea=true∧v=.agg vs.toArray∨ea=false∧vs=[v])
theorem ValD.mono {F F':Fix} (hf:F.le F') {t:Ty} {x:t.den} {v:Value} (h:ValD F t x v):ValD F' t x v:=let ⟨cs,h1,h2⟩:=h;⟨cs,h1.mono hf,h2⟩
theorem LeafV.mono {F F':Fix} (hf:F.le F') {ea:Bool} {l:List AV} {v:Value} (h:LeafV F ea l v):LeafV F' ea l v :=
 let ⟨vs,h1,h2⟩:=h;⟨vs,h1.mono hf (fun _ _ e=>e) (fun _ _ e=>e),h2⟩
def MapRel {α:Type} (F:Fix) (κ:Ty) (V:α→Value→Prop):List MapEntry→List (κ.den×α)→Prop
 | [],[]=>True
 | e :: es,p :: l=>ValD F κ p.1 e.key∧V p.2 e.val∧MapRel F κ V es l
 | _,_=>False
theorem MapRel.mono {α:Type} {F F':Fix} (hf:F.le F') {κ:Ty} {V V':α→Value→Prop} (hV:∀ x v,V x v→V' x v):∀ {es:List MapEntry} {l:List (κ.den×α)},MapRel F κ V es l→MapRel F' κ V' es l:=by
 intro es
 induction es with
 | nil=>intro l h;cases l with
  | nil=>trivial
  | cons=>exact h.elim
 | cons e es ih=>intro l h;cases l with
  | nil=>exact h.elim
  | cons p l=>exact⟨h.1.mono hf,hV _ _ h.2.1,ih h.2.2⟩
def MapAt {α:Type} (T:Tags) (σ:Nat→Option Nat) (w:World) (c:Nat) (κ:Ty) (V:α→Value→Prop) (l:List (κ.den×α)):Prop :=
 κ.keyOk=true∧∃ b es ck,σ c=some b∧(∀ o,T b o=.cell c o)∧w.heap[b]?=some (.map es ck)∧MapRel T.fix κ V es.toList l
def keysApart (κ:Ty) {α:Type} (l:List (κ.den×α)):Prop:=l.Pairwise fun p q=>κ.beq p.1 q.1=false∧κ.beq q.1 p.1=false
def MemAt (T:Tags) (σ:Nat→Option Nat) (w:World) (c:Nat):Cell→Prop
 | .row e xs=>RowAt T σ w c e xs
 | .map κ ε l=>MapAt T σ w c κ (ValD T.fix ε) l
 | .mapv κ ea l=>keysApart κ l∧∃ l',l'.Perm l∧MapAt T σ w c κ (LeafV T.fix ea) l'
 | _=>True
theorem MapAt.mono {α:Type} {T T':Tags} {σ σ':Nat→Option Nat} {w w':World} {c c':Nat} {κ:Ty} {V V':α→Value→Prop} {l:List (κ.den×α)} (h:MapAt T σ w c κ V l) (hs:∀ p,σ c=some p→σ' c'=some p) (hf:Fix.le T.fix T'.fix) (hV:∀ x v,V x v→V' x v)
  (ht:∀ b k,T b k=.cell c k→T' b k=.cell c' k) (hm:∀ b es ck,(∀ k,T b k=.cell c k)→w.heap[b]?=some (.map es ck)→w'.heap[b]?=some (.map es ck)):MapAt T' σ' w' c' κ V' l:=by
 obtain⟨h0,b,es,ck,h1,h2,h3,h4⟩:=h
 exact⟨h0,b,es,ck,hs b h1,fun o=>ht b o (h2 o),hm b es ck h2 h3,h4.mono hf hV⟩
theorem MemAt.mono {T T':Tags} {σ σ':Nat→Option Nat} {w w':World} {c c':Nat} {x x':Cell} (h:MemAt T σ w c x) (hx:(∀ l,x≠.var l)→x'=x) (hv:∀ l,x=.var l→∃ l',x'=.var l') (hs:∀ p,σ c=some p→σ' c'=some p) (hf:Fix.le T.fix T'.fix)
  (hc:∀ b k,T b k=.cell c k→T' b k=.cell c' k∧w'.cell? ⟨b,k,none⟩=w.cell? ⟨b,k,none⟩∧w'.frozen? ⟨b,k,none⟩=w.frozen? ⟨b,k,none⟩)
  (hp:∀ b k,T b k=.spare (.leaf c 0) 0→T' b k=.spare (.leaf c' 0) 0)
  (hm:∀ b es ck,(∀ k,T b k=.cell c k)→w.heap[b]?=some (.map es ck)→w'.heap[b]?=some (.map es ck):=by exact fun _ _ _ _ h=>h):MemAt T' σ' w' c' x':=by
 cases x with
 | var l=>obtain⟨l',rfl⟩:=hv l rfl;trivial
 | empty=>rw[hx fun l=>by simp];trivial
 | gone=>rw[hx fun l=>by simp];trivial
 | map κ ε l=>rw[hx fun l=>by simp];exact MapAt.mono h hs hf (fun _ _ k=>k.mono hf) (fun b k e=>(hc b k e).1) hm
 | mapv κ ea l =>
  rw[hx fun l=>by simp]
  obtain⟨h1,l',h2,h3⟩:=h
  exact⟨h1,l',h2,h3.mono hs hf (fun _ _ k=>k.mono hf) (fun b k e=>(hc b k e).1) hm⟩
 | row e xs =>
  rw[hx fun l=>by simp]
  obtain⟨p,h1,h2,h3,h4,cs,h5,h6,h7,h8⟩:=h
  refine⟨p,hs p h1,h2,h3,h4,cs,h5,fun i x hi=>?_,fun k v hk=>?_,fun k k1 k2=>hp _ _ (h8 k k1 k2)⟩
  ·obtain⟨ds,d1,d2⟩:=h6 i x hi
   exact⟨ds,d1.mono hf,d2⟩
  ·obtain⟨e1,e2,e3⟩:=h7 k v hk
   obtain⟨g1,g2,g3⟩:=hc _ _ e1
   exact⟨g1,by rw[g2];exact e2,by rw[g3];exact e3⟩
theorem MemAt.keep {T T':Tags} {σ σ':Nat→Option Nat} {w w':World} {c:Nat} {x:Cell} (h:MemAt T σ w c x) (hs:∀ p,σ c=some p→σ' c=some p) (hf:Fix.le T.fix T'.fix)
  (hc:∀ b k,T b k=.cell c k→T' b k=.cell c k∧w'.cell? ⟨b,k,none⟩=w.cell? ⟨b,k,none⟩∧w'.frozen? ⟨b,k,none⟩=w.frozen? ⟨b,k,none⟩)
  (hp:∀ b k,T b k=.spare (.leaf c 0) 0→T' b k=.spare (.leaf c 0) 0)
  (hm:∀ b es ck,(∀ k,T b k=.cell c k)→w.heap[b]?=some (.map es ck)→w'.heap[b]?=some (.map es ck):=by exact fun _ _ _ _ h=>h):MemAt T' σ' w' c x :=
 h.mono (fun _=>rfl) (fun l e=>⟨l,e⟩) hs hf hc hp hm
theorem MemAt.keepM {T T':Tags} {σ σ':Nat→Option Nat} {w w':World} {c c':Nat} {κ:Ty} {ε:Ty} {l:List (κ.den×ε.den)} (h:MemAt T σ w c (.map κ ε l)) (hs:∀ p,σ c=some p→σ' c'=some p) (hf:Fix.le T.fix T'.fix)
  (ht:∀ b k,T b k=.cell c k→T' b k=.cell c' k) (hm:∀ b es ck,(∀ k,T b k=.cell c k)→w.heap[b]?=some (.map es ck)→w'.heap[b]?=some (.map es ck)):MemAt T' σ' w' c' (.map κ ε l) :=
 MapAt.mono h hs hf (fun _ _ k=>k.mono hf) ht hm
theorem MemAt.keepMv {T T':Tags} {σ σ':Nat→Option Nat} {w w':World} {c c':Nat} {κ:Ty} {ea:Bool} {l:List (κ.den×List AV)} (h:MemAt T σ w c (.mapv κ ea l)) (hs:∀ p,σ c=some p→σ' c'=some p) (hf:Fix.le T.fix T'.fix)
  (ht:∀ b k,T b k=.cell c k→T' b k=.cell c' k) (hm:∀ b es ck,(∀ k,T b k=.cell c k)→w.heap[b]?=some (.map es ck)→w'.heap[b]?=some (.map es ck)):MemAt T' σ' w' c' (.mapv κ ea l) :=
 let ⟨h1,l',h2,h3⟩:=h
 ⟨h1,l',h2,h3.mono hs hf (fun _ _ k=>k.mono hf) ht hm⟩
structure Inv (T:Tags) (σ lm:Nat→Option Nat) (h:List Cell) (ls:List LoopRec) (ps:List (Option AE)) (w:World):Prop where
 fixed:∀ b o v,T b o=.fixed v→w.cell? ⟨b,o,none⟩=some v
 spare:∀ b o l j,T b o=.spare l j→(w.cell? ⟨b,o,none⟩).isSome=true∧w.frozen? ⟨b,o,none⟩=false
 live:∀ b o,T b o≠.free→b<w.heap.size
 dom:∀ c b,σ c=some b→∃ x,h[c]?=some x∧x.live=true
 var:∀ c l,h[c]?=some (.var l)→∃ b,σ c=some b∧b<w.heap.size∧∀ j av,l[j]?=some av→∃ v,w.cell? ⟨b,j,none⟩=some v∧w.frozen? ⟨b,j,none⟩=false∧T b j=.cell c j∧Rep T.fix σ lm (T.own (.leaf c j)) av v
 mem:∀ (c:Nat) x,h[c]?=some x→MemAt T σ w c x
 plen:ps.length=ls.length∧∀ i b,lm i=some b→i<ls.length
 loop:∀ i r,ls[i]?=some r→∃ b rec,lm i=some b∧T b 0=.loop i∧w.heap[b]?=some (.loop rec)∧True∧rec.params=r.params.toArray∧rec.assign=r.assign∧rec.body=r.body ∧
  r.tmps.length=rec.tmps.size∧(∀ t,Rep T.fix σ lm noOwn (getT r.tmps t) (rec.tmps.getD t undef))∧(ps[i]?).map loopState=some (rec.state,rec.pending)
theorem Inv.of_heap {T σ lm h ls ps} {w w':World} (I:Inv T σ lm h ls ps w) (e:w'.heap=w.heap):Inv T σ lm h ls ps w':=by
 have hc:∀ a,w'.cell? a=w.cell? a:=fun a=>by simp[World.cell?,e]
 have hf:∀ a,w'.frozen? a=w.frozen? a:=fun a=>by simp[World.frozen?,e]
 refine⟨?_,?_,?_,I.dom,?_,fun c x h=>(I.mem c x h).keep (fun _ h=>h) (Fix.le.refl _) (fun b k e=>⟨e,hc _,hf _⟩) (fun _ _ e=>e) (fun b es ck _ h=>by rw[e];exact h),I.plen,?_⟩
 ·intro b o v h;rw[hc];exact I.fixed b o v h
 ·intro b o l j h;rw[hc,hf];exact I.spare b o l j h
 ·intro b o h;rw[e];exact I.live b o h
 ·intro c l h
  obtain⟨b,h1,h2,h3⟩:=I.var c l h
  exact⟨b,h1,by rw[e];exact h2,fun j av hj=>by simpa[hc,hf] using h3 j av hj⟩
 ·intro i r h
  obtain⟨b,rec,h1,h2,h3,h4⟩:=I.loop i r h
  exact⟨b,rec,h1,h2,by rw[e];exact h3,h4⟩
structure Keeps (T:Tags) (w:World) (T':Tags) (w':World):Prop where
 os:w'.os=w.os
 tape:w'.tape=w.tape
 output:w'.output=w.output
 size:w.heap.size≤w'.heap.size
 fixed:∀ b o v,T b o=.fixed v→T' b o=.fixed v
 free:∀ b o,b<w.heap.size→T b o=.free→T' b o=.free
 cell:∀ b o,b<w.heap.size→(T b o).mine=false→w'.cell? ⟨b,o,none⟩=w.cell? ⟨b,o,none⟩∧w'.frozen? ⟨b,o,none⟩=w.frozen? ⟨b,o,none⟩
 block:∀ b,b<w.heap.size→(∀ o,(T b o).mine=false)→w'.heap[b]?=w.heap[b]?
theorem Keeps.refl (T:Tags) (w:World):Keeps T w T w :=
 ⟨rfl,rfl,rfl,Nat.le_refl _,fun _ _ _ h=>h,fun _ _ _ h=>h,fun _ _ _ _=>⟨rfl,rfl⟩,fun _ _ _=>rfl⟩
theorem Keeps.drew (T:Tags) (w:World):Keeps T w T w.drew :=
 ⟨rfl,rfl,rfl,Nat.le_refl _,fun _ _ _ h=>h,fun _ _ _ h=>h,fun _ _ _ _=>⟨rfl,rfl⟩,fun _ _ _=>rfl⟩
theorem Keeps.mine {T T':Tags} {w w':World} (h:Keeps T w T' w') {b o:Nat} (hb:b<w.heap.size) (hm:(T b o).mine=false):(T' b o).mine=false:=by
 cases e:T b o with
 | free=>rw[h.free b o hb e];rfl
 | fixed v=>rw[h.fixed b o v e];rfl
 | _=>rw[e] at hm;cases hm
theorem Keeps.trans {T T' T'':Tags} {w w' w'':World} (h:Keeps T w T' w') (k:Keeps T' w' T'' w''):Keeps T w T'' w'':={
 os:=k.os.trans h.os
 tape:=k.tape.trans h.tape
 output:=k.output.trans h.output
 size:=Nat.le_trans h.size k.size
 fixed:=fun b o v e=>k.fixed b o v (h.fixed b o v e)
 free:=fun b o hb e=>k.free b o (Nat.lt_of_lt_of_le hb h.size) (h.free b o hb e)
 cell:=fun b o hb hm=>by
  have h1:=h.cell b o hb hm
  have h2:=k.cell b o (Nat.lt_of_lt_of_le hb h.size) (h.mine hb hm)
  exact⟨h2.1.trans h1.1,h2.2.trans h1.2⟩
 block:=fun b hb hm=>(k.block b (Nat.lt_of_lt_of_le hb h.size) fun o=>h.mine hb (hm o)).trans (h.block b hb hm) }
def Tags.new (T:Tags) (B:Nat) (f:Nat→Tag):Tags:=fun b o=>if b=B then f o else T b o
theorem Inv.free_new {T σ lm h ls ps} {w:World} (I:Inv T σ lm h ls ps w) (o:Nat):T w.heap.size o=.free:=by
 cases e:T w.heap.size o with
 | free=>rfl
 | _=>exact absurd (I.live w.heap.size o (by rw[e];simp)) (Nat.lt_irrefl _)
theorem Inv.le_new {T σ lm h ls ps} {w:World} (I:Inv T σ lm h ls ps w) (f:Nat→Tag):Fix.le T.fix (T.new w.heap.size f).fix:=by
 intro b o v hv
 rw[Tags.fix_eq] at hv ⊢
 unfold Tags.new
 by_cases hb:b=w.heap.size
 ·subst hb;rw[I.free_new] at hv;cases hv
 ·rw[if_neg hb];exact hv
theorem Inv.own_new {T σ lm h ls ps} {w:World} (I:Inv T σ lm h ls ps w) (f:Nat→Tag) (l:Loc):∀ j b o,T.own l j b o→(T.new w.heap.size f).own l j b o:=by
 intro j b o hv
 unfold Tags.own Tags.new at *
 by_cases hb:b=w.heap.size
 ·subst hb;rw[I.free_new] at hv;cases hv
 ·rw[if_neg hb];exact hv
theorem cell_alloc_old {w:World} {o:Obj} {b i:Nat} (h:b<w.heap.size):(w.alloc o).cell? ⟨b,i,none⟩=w.cell? ⟨b,i,none⟩ :=
 World.cell?_alloc_lt w o ⟨b,i,none⟩ h
theorem frozen_alloc_old {w:World} {o:Obj} {b i:Nat} (h:b<w.heap.size):(w.alloc o).frozen? ⟨b,i,none⟩=w.frozen? ⟨b,i,none⟩ :=
 World.frozen?_alloc_old w o ⟨b,i,none⟩ (Nat.ne_of_lt h)
theorem heap_alloc_lt {w:World} {o:Obj} {b:Nat} (h:b<w.heap.size):(w.alloc o).heap[b]?=w.heap[b]?:=Go.RowKit.Below.heap_alloc w o b h
theorem Inv.alloc {T σ lm h ls ps} {w:World} (I:Inv T σ lm h ls ps w) (ob:Obj) (f:Nat→Tag)
  (hfix:∀ o v,f o=.fixed v→(w.alloc ob).cell? ⟨w.heap.size,o,none⟩=some v)
  (hsp:∀ o l j,f o=.spare l j→((w.alloc ob).cell? ⟨w.heap.size,o,none⟩).isSome=true∧(w.alloc ob).frozen? ⟨w.heap.size,o,none⟩=false) :
  Inv (T.new w.heap.size f) σ lm h ls ps (w.alloc ob):={
 fixed:=fun b o v e=>by
  unfold Tags.new at e
  by_cases hb:b=w.heap.size
  ·subst hb;rw[if_pos rfl] at e;exact hfix o v e
  ·rw[if_neg hb] at e
   rw[cell_alloc_old (I.live b o (by rw[e];simp))]
   exact I.fixed b o v e
 spare:=fun b o l j e=>by
  unfold Tags.new at e
  by_cases hb:b=w.heap.size
  ·subst hb;rw[if_pos rfl] at e;exact hsp o l j e
  ·rw[if_neg hb] at e
   have:=I.live b o (by rw[e];simp)
   rw[cell_alloc_old this,frozen_alloc_old this]
   exact I.spare b o l j e
 live:=fun b o e=>by
  unfold Tags.new at e
  rw[World.size_alloc]
  by_cases hb:b=w.heap.size
  ·omega
  ·rw[if_neg hb] at e;have:=I.live b o e;omega
 dom:=I.dom
 var:=fun c l hc=>by
  obtain⟨b,h1,h2,h3⟩:=I.var c l hc
  refine⟨b,h1,by rw[World.size_alloc];omega,fun j av hj=>?_⟩
  obtain⟨v,e1,e2,e3,e5⟩:=h3 j av hj
  refine⟨v,by rw[cell_alloc_old h2];exact e1,by rw[frozen_alloc_old h2];exact e2,?_,e5.mono (I.le_new f) (fun _ _ x=>x) (fun _ _ x=>x) (I.own_new f _)⟩
  unfold Tags.new
  rw[if_neg (by omega)];exact e3
 mem:=fun c x hx=>(I.mem c x hx).keep (fun _ h=>h) (I.le_new f)
  (fun b k e=>by
   have hb:b<w.heap.size:=I.live b k (by rw[e];simp)
   exact⟨by unfold Tags.new;rw[if_neg (by omega)];exact e,cell_alloc_old hb,frozen_alloc_old hb⟩)
  (fun b k e=>by
   have hb:b<w.heap.size:=I.live b k (by rw[e];simp)
   unfold Tags.new;rw[if_neg (by omega)];exact e)
  (fun b es ck e h=>by rw[heap_alloc_lt (I.live b 0 (by rw[e 0];simp))];exact h)
 plen:=I.plen
 loop:=fun i r hr=>by
  obtain⟨b,rec,h1,h2,h3,h4,h5,h6,h7,h8,h9,h10⟩:=I.loop i r hr
  have hb:b<w.heap.size:=I.live b 0 (by rw[h2];simp)
  refine⟨b,rec,h1,?_,by rw[heap_alloc_lt hb];exact h3,h4,h5,h6,h7,h8,fun t=>(h9 t).mono (I.le_new f) (fun _ _ x=>x) (fun _ _ x=>x) (fun _ _ _ x=>x),h10⟩
  unfold Tags.new
  rw[if_neg (by omega)];exact h2 }
theorem Inv.keeps_alloc {T σ lm h ls ps} {w:World} (I:Inv T σ lm h ls ps w) (ob:Obj) (f:Nat→Tag):Keeps T w (T.new w.heap.size f) (w.alloc ob):={
 os:=rfl
 tape:=rfl
 output:=rfl
 size:=by simp
 fixed:=fun b o v e=>by
  have:=I.live b o (by rw[e];simp)
  unfold Tags.new;rw[if_neg (by omega)];exact e
 free:=fun b o hb e=>by unfold Tags.new;rw[if_neg (by omega)];exact e
 cell:=fun b o hb _=>⟨cell_alloc_old hb,frozen_alloc_old hb⟩
 block:=fun b hb _=>heap_alloc_lt hb }
end Go.Am
namespace Go.Am
open Go
variable {R:Type} {P:Program} {F:Fix} {σ lm:Nat→Option Nat}
theorem bind_some {α β:Type} {x:Option α} {f:α→Option β} {r:β} (h:x.bind f=some r):∃ a,x=some a∧f a=some r:=by
 cases x with
 | none=>cases h
 | some a=>exact⟨a,rfl,h⟩
theorem eachIx_some {n:Nat} {i:Int} {k:Nat→Option R} {r:R} (h:eachIx n i k=some r):∃ j:Nat,j<n∧i=(j:Int)∧k j=some r:=by
 induction n with
 | zero=>cases h
 | succ n ih =>
  unfold eachIx at h
  simp only[br_eq,decide_eq_true_eq] at h
  split at h
  ·rename_i e;exact⟨n,by omega,e,h⟩
  ·obtain⟨j,h1,h2,h3⟩:=ih h;exact⟨j,by omega,h2,h3⟩
theorem info_of_underlying {t:TypeId} {d:TypeDesc} (h:P.underlying t=some d):∃ i,P.info? t=some i:=by
 unfold Program.underlying at h
 cases hi:P.info? t with
 | none=>rw[hi] at h;cases h
 | some i=>exact⟨i,rfl⟩
theorem sizeT_info {t:TypeId} {i:TypeInfo} (h:P.info? t=some i):sizeT P t=i.size:=by simp[sizeT,h]
theorem run_sizeOf' {t:TypeId} {i:TypeInfo} (h:P.info? t=some i) (w:World):(sizeOf t).run P w=.ok (sizeT P t) w:=by
 simp[sizeOf,typeInfo,h,sizeT]
theorem run_sizeOf_pos {t:TypeId} (h:0<sizeT P t) (w:World):(sizeOf t).run P w=.ok (sizeT P t) w:=by
 cases hi:P.info? t with
 | none=>simp[sizeT,hi] at h
 | some i=>exact run_sizeOf' hi w
theorem run_sizeOf_some {t:TypeId} (h:(P.info? t).isSome=true) (w:World):(sizeOf t).run P w=.ok (sizeT P t) w:=by
 cases hi:P.info? t with
 | none=>simp[hi] at h
 | some i=>exact run_sizeOf' hi w
theorem run_und {t:TypeId} {d:TypeDesc} (h:P.underlying t=some d) (w:World):(underlying t).run P w=.ok d w:=run_underlying h w
theorem run_isAgg' {t:TypeId} {d:TypeDesc} (h:P.underlying t=some d) (w:World):(isAgg t).run P w=.ok (aggType P t) w:=by
 unfold isAgg aggType
 simp only[Sem.run_bind,run_und h,Result.andThen_ok,h]
 cases d <;> rfl
theorem cmpK_some {op:BinOp} {x y:Int} {k:Bool→Option R} {r:R} (h:cmpK op x y k=some r):∃ b,k b=some r∧Op.intCmp op x y=Sem.pure (.bool b):=by
 cases op <;> simp only[cmpK] at h <;> try (cases h)
 all_goals refine⟨_,h,?_⟩
 all_goals simp only[Op.intCmp]
 all_goals rfl
theorem bits2_some {op:BinOp} {k:IntKind} {x y n:Int} (h:bits2 op k x y=some n):Op.intBits op k x y=Sem.pure (.int k n):=by
 cases op <;> simp only[bits2,Option.some.injEq] at h <;> first | (cases h;done) | (subst h;rfl)
theorem beq_cells {w:World}:∀ {τ:Ty} {x y:τ.den} {cs ds:List Value},τ.keyOk=true→CellsD F τ x cs→CellsD F τ y ds→(τ.beq x y=true↔cs=ds):=by
 intro τ
 induction τ with
 | unit=>intro x y cs ds _ h1 h2;simp only[CellsD] at h1 h2;simp[Ty.beq,h1,h2]
 | int k=>intro x y cs ds _ h1 h2;simp only[CellsD] at h1 h2;simp[Ty.beq,h1,h2]
 | bool=>intro x y cs ds _ h1 h2;simp only[CellsD] at h1 h2;simp[Ty.beq,h1,h2]
 | str=>intro x y cs ds h;simp[Ty.keyOk] at h
 | slice e ih=>intro x y cs ds h;simp[Ty.keyOk] at h
 | sum a b iha ihb=>intro x y cs ds h;simp[Ty.keyOk] at h
 | pair a b iha ihb =>
  intro x y cs ds h h1 h2
  simp only[Ty.keyOk,Bool.and_eq_true] at h
  obtain⟨c1,d1,rfl,p1,q1⟩:=h1
  obtain⟨c2,d2,rfl,p2,q2⟩:=h2
  have hl:c1.length=c2.length:=by rw[p1.length,p2.length]
  simp only[Ty.beq,Bool.and_eq_true,iha h.1 p1 p2,ihb h.2 q1 q2]
  constructor
  ·rintro⟨rfl,rfl⟩;rfl
  ·intro e;exact List.append_inj e hl
theorem unOpK_some {op:UnOp} {a:AV} {k:AV→Option R} {r:R} (h:unOpK op a k=some r) :
  ∃ av,k av=some r∧∀ (F:Fix) (σ lm:Nat→Option Nat) (ow:Own) (u:Value) (w:World),Rep F σ lm ow a u→∃ v,(Op.unary op u).run P w=.ok v w∧Rep F σ lm noOwn av v:=by
 cases op <;> cases a <;> simp only[unOpK] at h <;> try (cases h)
 ·refine⟨_,h,fun F σ lm ow u w hr=>?_⟩
  cases hr
  exact⟨_,rfl,.int _ _ _⟩
 ·refine⟨_,h,fun F σ lm ow u w hr=>?_⟩
  cases hr
  exact⟨_,rfl,.bool _ _⟩
theorem convertK_some {X:Ext} {s d:TypeId} {a:AV} {k:AV→Option R} {r:R} (h:convertK X s d a k=some r) :
  ∃ av,k av=some r∧∀ (F:Fix) (σ lm:Nat→Option Nat) (ow:Own) (u:Value) (w:World),Rep F σ lm ow a u→∃ v,(convert s d u).run X.P w=.ok v w∧Rep F σ lm noOwn av v:=by
 unfold convertK at h
 split at h
 ·rename_i kd n ks kd' h1 h2
  refine⟨_,h,fun F σ lm ow u w hr=>?_⟩
  cases hr
  refine⟨_,?_,.int _ _ _⟩
  unfold convert
  simp only[Sem.run_bind,run_und h1,run_und h2,Result.andThen_ok]
  rfl
 ·cases h
end Go.Am
namespace Go.Am
open Go
variable {P:Program} {F:Fix}
def wrapV (P:Program) (t:TypeId) (cs:List Value):Value:=if aggType P t=true then .agg cs.toArray else cs.headD undef
theorem run_part (t:TypeId) (xs pre cs post:List Value) (off:Nat) (w:World) (hx:xs=pre ++ (cs ++ post)) (hp:pre.length=off) (hs:0<sizeT P t) (hc:cs.length=sizeT P t)
  (ht:∃ d,P.underlying t=some d):(part t xs.toArray off).run P w=.ok (wrapV P t cs) w:=by
 obtain⟨d,hd⟩:=ht
 subst hx
 unfold part wrapV
 simp only[Sem.run_bind,run_isAgg' hd,Result.andThen_ok]
 cases hagg:aggType P t with
 | true =>
  simp only[if_true,Sem.run_bind,run_sizeOf_pos hs,Result.andThen_ok,Sem.run_pure]
  congr 2
  apply Array.ext'
  simp[← hp,← hc]
 | false =>
  simp only[Bool.false_eq_true,if_false]
  cases cs with
  | nil=>simp at hc;omega
  | cons c cs=>simp[← hp]
theorem eqTy_und:∀ {d:Nat} {t:TypeId} {τ:Ty},eqTy P d t=some τ→∃ u,P.underlying t=some u:=by
 intro d t τ h
 cases d with
 | zero=>simp[eqTy] at h
 | succ d =>
  unfold eqTy at h
  cases hu:P.underlying t with
  | none=>simp[hu] at h
  | some u=>exact⟨u,rfl⟩
theorem cellsD_mkRow_cons {a:Ty} {l:List Ty} {x:(mkRow (a :: l)).den} {cs:List Value} (h:CellsD F (mkRow (a :: l)) x cs) :
  ∃ (y:a.den) (z:(mkRow l).den) (c d:List Value),cs=c ++ d∧CellsD F a y c∧CellsD F (mkRow l) z d:=by
 cases l with
 | nil=>exact⟨x,(),cs,[],by simp,h,rfl⟩
 | cons b r =>
  obtain⟨c,d,e,h1,h2⟩:=h
  exact⟨x.1,x.2,c,d,e,h1,h2⟩
theorem decide_append {α:Type} [DecidableEq α] {a b c d:List α} (h:a.length=b.length):decide (a ++ c=b ++ d)=(decide (a=b) && decide (c=d)):=by
 by_cases h1:a=b
 ·subst h1;simp
 ·have:¬ (a ++ c=b ++ d):=fun e=>h1 (List.append_inj e h).1
  simp[h1,this]
open Classical in
theorem equal_plain:∀ (d:Nat) (t:TypeId) (τ:Ty),eqTy P d t=some τ→∀ (D:Nat) (x y:τ.den) (cs ds:List Value) (w:World),CellsD F τ x cs→CellsD F τ y ds →
  (Op.equalIn (d+D) t (wrapV P t cs) (wrapV P t ds)).run P w=.ok (decide (cs=ds)) w:=by
 intro d
 induction d with
 | zero=>intro t τ h;simp[eqTy] at h
 | succ d ih =>
  intro t τ h D x y cs ds w hx hy
  have hD:d+1+D=(d+D)+1:=by omega
  rw[hD]
  unfold eqTy at h
  cases hu:P.underlying t with
  | none=>simp[hu] at h
  | some u =>
   rw[hu] at h
   cases u with
   | int k =>
    simp only[Option.some.injEq] at h
    subst h
    have hagg:aggType P t=false:=by simp[aggType,hu]
    simp only[CellsD] at hx hy
    subst hx;subst hy
    simp only[wrapV,hagg,Bool.false_eq_true,if_false,List.headD_cons]
    rw[run_equalIn_int w (d+D) t k k _ _ hu]
    congr 1
    by_cases e:x=y
    ·subst e;simp
    ·simp[e]
   | bool =>
    simp only[Option.some.injEq] at h
    subst h
    have hagg:aggType P t=false:=by simp[aggType,hu]
    simp only[CellsD] at hx hy
    subst hx;subst hy
    simp only[wrapV,hagg,Bool.false_eq_true,if_false,List.headD_cons]
    rw[run_equalIn_bool w (d+D) t _ _ hu]
    congr 1
    by_cases e:x=y
    ·subst e;simp
    ·simp[e]
   | struct fs =>
    simp only at h
    split at h
    ·rename_i hst
     simp only[Option.map_eq_some_iff] at h
     obtain⟨τs,hgo,rfl⟩:=h
     have hagg:aggType P t=true:=by simp[aggType,hu]
     have hfo:P.fieldsOf t=fs:=by simp[Program.fieldsOf,hu]
     simp only[wrapV,hagg,if_true]
     rw[run_equalIn_struct w (d+D) t cs.toArray ds.toArray (by rw[hfo];exact hu) hst,hfo]
     suffices H:∀ (fl:List Field) (off:Nat) (τs:List Ty) (x y:(mkRow τs).den) (pre pre' cs ds:List Value),eqTyGo P (eqTy P d) off fl=some τs→pre.length=off→pre'.length=off→CellsD F (mkRow τs) x cs→CellsD F (mkRow τs) y ds →
       (Op.eqFields (d+D) (pre ++ cs).toArray (pre' ++ ds).toArray fl).run P w=.ok (decide (cs=ds)) w by
      exact H fs.toList 0 τs x y [] [] cs ds hgo rfl rfl hx hy
     intro fl
     induction fl with
     | nil =>
      intro off τs x y pre pre' cs ds hg _ _ hx hy
      simp only[eqTyGo,Option.some.injEq] at hg
      subst hg
      simp only[mkRow,CellsD] at hx hy
      subst hx;subst hy
      simp[Op.eqFields]
     | cons f fl ihf =>
      intro off τs x y pre pre' cs ds hg hp hp' hx hy
      unfold eqTyGo at hg
      obtain⟨τ1,h1,hg⟩:=bind_some hg
      split at hg
      ·rename_i hc
       obtain⟨ho,hn,hwd,hpos⟩:=hc
       obtain⟨l,h2,hg⟩:=bind_some hg
       cases hg
       obtain⟨y1,z1,c1,d1,rfl,p1,q1⟩:=cellsD_mkRow_cons hx
       obtain⟨y2,z2,c2,d2,rfl,p2,q2⟩:=cellsD_mkRow_cons hy
       have l1:=p1.length
       have l2:=p2.length
       simp only[Op.eqFields,hn,ne_eq,not_false_eq_true,if_true,Sem.run_bind]
       rw[run_part f.type (pre ++ (c1 ++ d1)) pre c1 d1 f.offset w rfl (by omega) hpos (by omega) (eqTy_und h1)]
       simp only[Result.andThen_ok]
       rw[run_part f.type (pre' ++ (c2 ++ d2)) pre' c2 d2 f.offset w rfl (by omega) hpos (by omega) (eqTy_und h1)]
       simp only[Result.andThen_ok]
       rw[ih f.type τ1 h1 D y1 y2 c1 c2 w p1 p2]
       simp only[Result.andThen_ok]
       have hrec:=ihf (off+τ1.width) l z1 z2 (pre ++ c1) (pre' ++ c2) d1 d2 h2 (by simp[hp,l1]) (by simp[hp',l2]) q1 q2
       rw[List.append_assoc,List.append_assoc] at hrec
       rw[decide_append (by omega)]
       by_cases e:c1=c2
       ·simp only[e,decide_true,Bool.not_true,Bool.false_eq_true,if_false,Bool.true_and]
        rw[e] at hrec
        exact hrec
       ·simp[e]
      ·cases hg
    ·cases h
   | array n e =>
    simp only at h
    obtain⟨x1,h1,h⟩:=bind_some h
    split at h
    ·rename_i hc
     cases h
     have hagg:aggType P t=true:=by simp[aggType,hu]
     simp only[wrapV,hagg,if_true]
     obtain⟨ie,hie⟩:∃ i,P.info? e=some i:=by
      cases hi:P.info? e with
      | none=>simp[sizeT,hi] at hc
      | some i=>exact⟨i,rfl⟩
     rw[run_equalIn_array w (d+D) cs.toArray ds.toArray hu hie]
     have hce:P.cellsOf e=sizeT P e:=rfl
     rw[hce]
     suffices H:∀ (m j:Nat) (x y:(mkRow (tyRep m x1)).den) (pre pre' cs ds:List Value),pre.length=j*sizeT P e→pre'.length=j*sizeT P e→CellsD F (mkRow (tyRep m x1)) x cs→CellsD F (mkRow (tyRep m x1)) y ds →
       (Op.eqItems (d+D) e (sizeT P e) (pre ++ cs).toArray (pre' ++ ds).toArray (List.range' j m)).run P w=.ok (decide (cs=ds)) w by
      have:=H n 0 x y [] [] cs ds (by simp) (by simp) hx hy
      rw[List.range_eq_range']
      exact this
     intro m
     induction m with
     | zero =>
      intro j x y pre pre' cs ds _ _ hx hy
      simp only[tyRep,List.replicate_zero,mkRow,CellsD] at hx hy
      subst hx;subst hy
      simp[Op.eqItems]
     | succ m ihm =>
      intro j x y pre pre' cs ds hp hp' hx hy
      obtain⟨y1,z1,c1,d1,rfl,p1,q1⟩:=cellsD_mkRow_cons (a:=x1) (l:=tyRep m x1) hx
      obtain⟨y2,z2,c2,d2,rfl,p2,q2⟩:=cellsD_mkRow_cons (a:=x1) (l:=tyRep m x1) hy
      have l1:=p1.length
      have l2:=p2.length
      simp only[List.range'_succ,Op.eqItems,Sem.run_bind]
      rw[run_part e (pre ++ (c1 ++ d1)) pre c1 d1 _ w rfl hp hc.1 (by omega) (eqTy_und h1)]
      simp only[Result.andThen_ok]
      rw[run_part e (pre' ++ (c2 ++ d2)) pre' c2 d2 _ w rfl hp' hc.1 (by omega) (eqTy_und h1)]
      simp only[Result.andThen_ok]
      rw[ih e x1 h1 D y1 y2 c1 c2 w p1 p2]
      simp only[Result.andThen_ok]
      have hrec:=ihm (j+1) z1 z2 (pre ++ c1) (pre' ++ c2) d1 d2 (by simp[hp,l1,Nat.add_mul,hc.2]) (by simp[hp',l2,Nat.add_mul,hc.2]) q1 q2
      rw[List.append_assoc,List.append_assoc] at hrec
      rw[decide_append (by omega)]
      by_cases e':c1=c2
      ·simp only[e',decide_true,Bool.not_true,Bool.false_eq_true,if_false,Bool.true_and]
       rw[e'] at hrec
       exact hrec
      ·simp[e']
    ·cases h
   | _=>simp at h
end Go.Am
namespace Go.Am
open Go
variable {R:Type} {F:Fix} {σ lm:Nat→Option Nat}
theorem takeAll_some {t:Ty} {l:List AV} {x:t.den} {vs:List Value} (h:takeAll t l=some x) (hr:RepL F σ lm l vs):CellsD F t x vs:=by
 unfold takeAll at h
 obtain⟨⟨x',rest⟩,h1,h2⟩:=bind_some h
 split at h2
 ·rename_i he
  cases h2
  obtain⟨cs,us,rfl,hc,hu⟩:=cellsD_take h1 hr
  have:rest=[]:=by simpa using he
  subst this
  cases hu
  simpa using hc
 ·cases h2
theorem eqTy_keyOk {P:Program}:∀ {d:Nat} {t:TypeId} {τ:Ty},eqTy P d t=some τ→τ.keyOk=true:=by
 intro d
 have row:∀ (l:List Ty),(∀ x∈l,x.keyOk=true)→(mkRow l).keyOk=true:=by
  intro l
  induction l with
  | nil=>intro _;rfl
  | cons a l ih =>
   intro h
   cases l with
   | nil=>exact h a (by simp)
   | cons b r =>
    simp only[mkRow,Ty.keyOk,Bool.and_eq_true]
    exact⟨h a (by simp),ih fun x hx=>h x (by simp at hx ⊢;right;exact hx)⟩
 induction d with
 | zero=>intro t τ h;simp[eqTy] at h
 | succ d ih =>
  intro t τ h
  unfold eqTy at h
  cases hu:P.underlying t with
  | none=>simp[hu] at h
  | some u =>
   rw[hu] at h
   cases u with
   | int k=>simp only[Option.some.injEq] at h;subst h;rfl
   | bool=>simp only[Option.some.injEq] at h;subst h;rfl
   | struct fs =>
    simp only at h
    split at h
    ·simp only[Option.map_eq_some_iff] at h
     obtain⟨l,hg,rfl⟩:=h
     apply row
     have:∀ (fl:List Field) (off:Nat) (l:List Ty),eqTyGo P (eqTy P d) off fl=some l→∀ x∈l,x.keyOk=true:=by
      intro fl
      induction fl with
      | nil=>intro off l hg x hx;simp only[eqTyGo,Option.some.injEq] at hg;subst hg;simp at hx
      | cons f fl ihf =>
       intro off l hg x hx
       unfold eqTyGo at hg
       obtain⟨τ1,h1,hg⟩:=bind_some hg
       split at hg
       ·obtain⟨l',h2,hg⟩:=bind_some hg
        cases hg
        rcases List.mem_cons.1 hx with rfl | hx
        ·exact ih h1
        ·exact ihf _ _ h2 x hx
       ·cases hg
     exact this _ _ _ hg
    ·cases h
   | array n e =>
    simp only at h
    obtain⟨x1,h1,h⟩:=bind_some h
    split at h
    ·cases h
     apply row
     intro x hx
     have:=List.eq_of_mem_replicate hx
     subst this
     exact ih h1
    ·cases h
   | _=>simp at h
theorem run_eqGuard_agg {P:Program} {op:BinOp} {t:TypeId} {x y:Operand} {a b:Array Value} (w:World) (h:P.eqGuardType P.depth t=false):(eqGuard op t x y (.agg a) (.agg b)).run P w=.ok () w:=by
 unfold eqGuard
 cases op <;> simp[h]
theorem run_eqGuard_int {P:Program} {op:BinOp} {t:TypeId} {x y:Operand} {k k':IntKind} {a b:Int} (w:World):(eqGuard op t x y (.int k a) (.int k' b)).run P w=.ok () w:=by
 unfold eqGuard
 cases op <;> simp
theorem run_eqGuard_bool {P:Program} {op:BinOp} {t:TypeId} {x y:Operand} {a b:Bool} (w:World):(eqGuard op t x y (.bool a) (.bool b)).run P w=.ok () w:=by
 unfold eqGuard
 cases op <;> simp
theorem run_eqGuard_str {P:Program} {op:BinOp} {t:TypeId} {x y:Operand} {a b:ByteArray} (w:World):(eqGuard op t x y (.string a) (.string b)).run P w=.ok () w:=by
 unfold eqGuard
 cases op <;> simp
theorem eqK_some {X:Ext} {t:TypeId} {a b:AV} {k:Bool→Option R} {r:R} (h:eqK X t a b k=some r) :
  ∃ c:Bool,k c=some r∧∀ (F:Fix) (σ lm:Nat→Option Nat) (ow ow':Own) (u v:Value) (op:BinOp) (x y:Operand) (w:World),Rep F σ lm ow a u→Rep F σ lm ow' b v →
   (eqGuard op t x y u v).run X.P w=.ok () w∧(((Op.equal t u v).run X.P w=.ok c w∧((∃ p q,u=.bool p∧v=.bool q)∨(∃ p q,u=.agg p∧v=.agg q)))∨∃ p q,u=.string p∧v=.string q∧c=(p.toList == q.toList)):=by
 unfold eqK at h
 split at h
 ·rename_i p q
  split at h
  ·rename_i hd
   refine⟨_,h,fun F σ lm ow ow' u v op x y w h1 h2=>?_⟩
   cases h1;cases h2
   refine⟨run_eqGuard_bool w,.inl ⟨?_,.inl ⟨_,_,rfl,rfl⟩⟩⟩
   rw[run_equal_bool w t _ _ hd]
   cases p <;> cases q <;> rfl
  ·cases h
 ·refine⟨_,h,fun F σ lm ow ow' u v op x y w h1 h2=>?_⟩
  cases h1;cases h2
  exact⟨run_eqGuard_str w,.inr ⟨_,_,rfl,rfl,rfl⟩⟩
 ·rename_i l m
  obtain⟨τ,hτ,h⟩:=bind_some h
  split at h
  ·rename_i hg
   obtain⟨p,hp,h⟩:=bind_some h
   obtain⟨q,hq,h⟩:=bind_some h
   refine⟨_,h,fun F σ lm ow ow' u v op x y w h1 h2=>?_⟩
   cases h1 with
   | agg _ _ cs h1 =>
   cases h2 with
   | agg _ _ ds h2 =>
   have c1:=takeAll_some hp h1
   have c2:=takeAll_some hq h2
   refine⟨run_eqGuard_agg w hg.1,.inl ⟨?_,.inr ⟨_,_,rfl,rfl⟩⟩⟩
   have:=equal_plain (F:=F) tdepth t τ hτ (10000-tdepth) p q cs ds w c1 c2
   simp only[wrapV,hg.2,if_true] at this
   have e:tdepth+(10000-tdepth)=Op.maxDepth:=rfl
   rw[e] at this
   unfold Op.equal
   rw[this]
   congr 1
   have hb:=beq_cells (F:=F) (w:=w) (eqTy_keyOk hτ) c1 c2
   cases hbq:τ.beq p q with
   | true=>simp[hb.1 hbq]
   | false =>
    have:¬ (cs=ds):=fun e=>by rw[hb.2 e] at hbq;cases hbq
    simp[this]
  ·cases h
 ·cases h
def Comes1 (P:Program) (F:Fix) (σ lm:Nat→Option Nat) (av:AV) (w:World) (s:Sem Value):Prop:=∃ v,s.run P w=.ok v w∧Rep F σ lm noOwn av v
theorem binOpK_some {X:Ext} {op:BinOp} {t:TypeId} {a b:AV} {k:AV→Option R} {r:R} (h:binOpK X op t a b k=some r) :
    ∃ av,k av=some r∧∀ (F:Fix) (σ lm:Nat→Option Nat) (ow ow':Own) (u v:Value) (x y:Operand) (w:World),Rep F σ lm ow a u→Rep F σ lm ow' b v →
      Comes1 X.P F σ lm av w (do eqGuard op t x y u v;binOp op t u v):=by
  unfold binOpK at h
  split at h
  · rename_i ka p kb q
    have guard:∀ (k k':IntKind) (a b:Int) (x y:Operand) (w:World) (s:Sem Value),Sem.run X.P (do eqGuard op t x y (.int k a) (.int k' b);s) w=s.run X.P w:=fun k k' a b x y w s=>by
      simp only[Sem.run_bind,run_eqGuard_int,Result.andThen_ok]
    cases op
    case shl =>
      simp only[br_eq,decide_eq_true_eq] at h
      split at h
      · rename_i hy
        refine⟨_,h,fun F σ lm ow ow' u v x y w h1 h2=>?_⟩
        cases h1;cases h2
        refine⟨_,?_,.int _ _ _⟩
        rw[guard]
        have:¬ q<0:=by omega
        simp[binOp,Op.shift,this]
      · cases h
    case shr =>
      simp only[br_eq,decide_eq_true_eq] at h
      split at h
      · rename_i hy
        refine⟨_,h,fun F σ lm ow ow' u v x y w h1 h2=>?_⟩
        cases h1;cases h2
        refine⟨_,?_,.int _ _ _⟩
        rw[guard]
        have:¬ q<0:=by omega
        simp[binOp,Op.shift,this]
      · cases h
    case quo =>
      simp only[br_eq,decide_eq_true_eq] at h
      split at h
      · rename_i hk;subst hk
        split at h
        · cases h
        · rename_i hz
          refine⟨_,h,fun F σ lm ow ow' u v x y w h1 h2=>?_⟩
          cases h1;cases h2
          refine⟨_,?_,.int _ _ _⟩
          rw[guard]
          simp[binOp,Op.intDiv,hz]
      · cases h
    case rem =>
      simp only[br_eq,decide_eq_true_eq] at h
      split at h
      · rename_i hk;subst hk
        split at h
        · cases h
        · rename_i hz
          refine⟨_,h,fun F σ lm ow ow' u v x y w h1 h2=>?_⟩
          cases h1;cases h2
          refine⟨_,?_,.int _ _ _⟩
          rw[guard]
          simp[binOp,Op.intDiv,hz]
      · cases h
    all_goals
      simp only[br_eq,decide_eq_true_eq] at h
      split at h
      · rename_i hk;subst hk
        first
          | (refine⟨_,h,fun F σ lm ow ow' u v x y w h1 h2=>?_⟩
             cases h1;cases h2
             refine⟨_,?_,.int _ _ _⟩
             rw[guard]
             simp[binOp,Op.intArith];done)
          | (obtain⟨n,hn,h⟩:=bind_some h
             refine⟨_,h,fun F σ lm ow ow' u v x y w h1 h2=>?_⟩
             cases h1;cases h2
             refine⟨_,?_,.int _ _ _⟩
             rw[guard]
             simp[binOp,bits2_some hn];done)
          | (obtain⟨c,hc,he⟩:=cmpK_some h
             refine⟨_,hc,fun F σ lm ow ow' u v x y w h1 h2=>?_⟩
             cases h1;cases h2
             refine⟨_,?_,.bool _ _⟩
             rw[guard]
             simp[binOp,he])
      · cases h
  · split at h
    · obtain⟨c,hc,he⟩:=eqK_some h
      refine⟨_,hc,fun F σ lm ow ow' u v x y w h1 h2=>?_⟩
      obtain⟨g1,g2⟩:=he F σ lm ow ow' u v .eql x y w h1 h2
      refine⟨_,?_,.bool _ _⟩
      simp only[Sem.run_bind,g1,Result.andThen_ok]
      rcases g2 with ⟨g2,⟨p,q,rfl,rfl⟩ | ⟨p,q,rfl,rfl⟩⟩ | ⟨p,q,rfl,rfl,rfl⟩
      · simp[binOp,g2]
      · simp[binOp,g2]
      · simp[binOp,Op.stringOp]
    · obtain⟨c,hc,he⟩:=eqK_some h
      refine⟨_,hc,fun F σ lm ow ow' u v x y w h1 h2=>?_⟩
      obtain⟨g1,g2⟩:=he F σ lm ow ow' u v .neq x y w h1 h2
      refine⟨_,?_,.bool _ _⟩
      simp only[Sem.run_bind,g1,Result.andThen_ok]
      rcases g2 with ⟨g2,⟨p,q,rfl,rfl⟩ | ⟨p,q,rfl,rfl⟩⟩ | ⟨p,q,rfl,rfl,rfl⟩
      · simp[binOp,g2]
      · simp[binOp,g2]
      · simp[binOp,Op.stringOp,bne]
    · cases h
end Go.Am
namespace Go.Am
open Go
variable {R:Type} {F:Fix} {σ lm:Nat→Option Nat}
theorem FixAt.drop {a:Addr} {n i:Nat} {v:Value} (h:FixAt F a (n+i) v):FixAt F (a.add n) i v:=by
 unfold FixAt at *
 rw[add_add];exact h
theorem aggType_of {P:Program} {t:TypeId} {d:TypeDesc} (h:P.underlying t=some d):aggType P t=(match d with | .struct _ | .array _ _=>true | _=>false):=by
 unfold aggType;simp only[h];cases d <;> rfl
theorem readLeaves_some {P:Program} {t:TypeId} {l:List AV} {k:AV→Option R} {r:R} (h:readLeaves P t l k=some r) :
  (aggType P t=true∧(P.info? t).isSome=true∧sizeT P t≤l.length∧k (.agg ((l.take (sizeT P t)).map AV.dull))=some r∧∃ d,P.underlying t=some d) ∨
  (aggType P t=false∧∃ v rest d,l=v :: rest∧k v=some r∧P.underlying t=some d):=by
 unfold readLeaves at h
 cases hu:P.underlying t with
 | none=>simp[hu] at h
 | some d =>
  have hi:(P.info? t).isSome=true:=by obtain⟨i,hi⟩:=info_of_underlying hu;simp[hi]
  rw[hu] at h
  have ha:=aggType_of hu
  cases d <;> simp only at h ha
  case struct fs =>
   split at h
   ·rename_i hl;exact .inl ⟨ha,hi,hl,h,_,rfl⟩
   ·cases h
  case array n e =>
   split at h
   ·rename_i hl;exact .inl ⟨ha,hi,hl,h,_,rfl⟩
   ·cases h
  all_goals
   cases l with
   | nil=>simp at h
   | cons v rest=>exact .inr ⟨ha,v,rest,_,rfl,h,rfl⟩
theorem repL_dull {l:List AV} {vs:List Value} (h:RepL F σ lm l vs):RepL F σ lm (l.map AV.dull) vs:=by
 induction l generalizing vs with
 | nil=>cases h;exact .nil
 | cons a l ih=>cases h with | cons _ v _ vs h t=>exact .cons _ _ _ _ h.dull (ih t)
theorem indexAddrK_some {X:Ext} {t:TypeId} {x i:AV} {k:AV→Option R} {r:R} (h:indexAddrK X t x i k=some r) :
  ∃ av,k av=some r∧∀ (F:Fix) (σ lm:Nat→Option Nat) (ow ow':Own) (u v:Value) (w:World),Rep F σ lm ow x u→Rep F σ lm ow' i v→Comes1 X.P F σ lm av w (Instr.indexAt t u v):=by
 unfold indexAddrK at h
 simp only[br_eq,decide_eq_true_eq] at h
 split at h
 ·rename_i ki n
  split at h
  ·rename_i len e hu
   split at h
   ·rename_i c off
    split at h
    ·rename_i hi
     obtain⟨j,hj,rfl,hk⟩:=eachIx_some h
     refine⟨_,hk,fun F σ lm ow ow' u v w h1 h2=>?_⟩
     cases h2
     cases h1 with
     | ptr _ c off b hs =>
     refine⟨.pointer (some ⟨b,off+j*sizeT X.P e,none⟩),?_,.ptr _ _ _ _ hs⟩
     have hlt:(0:Int)≤(j:Int)∧(j:Int)<(len:Int):=by omega
     simp[Instr.indexAt,run_und hu,asIntOf,Instr.sureAddr,hj,run_sizeOf_some hi,add_none]
    ·cases h
   ·rename_i l
    split at h
    ·rename_i hi
     obtain⟨j,hj,rfl,hk⟩:=eachIx_some h
     refine⟨_,hk,fun F σ lm ow ow' u v w h1 h2=>?_⟩
     cases h2
     cases h1 with
     | cptr _ l a vs hl hf =>
     refine⟨.pointer (some (a.add (j*sizeT X.P e))),?_,.cptr _ _ _ _ (hl.drop _) fun i v hv=>?_⟩
     ·have hlt:(0:Int)≤(j:Int)∧(j:Int)<(len:Int):=by omega
      simp[Instr.indexAt,run_und hu,asIntOf,Instr.sureAddr,hj,run_sizeOf_some hi]
     ·rw[List.getElem?_drop] at hv
      exact (hf _ v hv).drop
    ·cases h
   ·rename_i c y m off
    split at h
    ·rename_i hi
     obtain⟨j,hj,rfl,hk⟩:=eachIx_some h
     refine⟨_,hk,fun F σ lm ow ow' u v w h1 h2=>?_⟩
     cases h2
     cases h1 with
     | rptr _ _ _ _ _ p hs =>
     refine⟨.pointer (some ⟨rowB p,m*y.width+(off+j*sizeT X.P e),none⟩),?_,.rptr _ _ _ _ _ _ hs⟩
     have hlt:(0:Int)≤(j:Int)∧(j:Int)<(len:Int):=by omega
     simp[Instr.indexAt,run_und hu,asIntOf,Instr.sureAddr,hj,run_sizeOf_some hi,add_none,Nat.add_assoc]
    ·cases h
   ·cases h
  ·rename_i te hu
   split at h
   ·rename_i own e xs
    split at h
    ·rename_i hc
     split at h
     ·rename_i h0
      obtain⟨y,hy,h⟩:=bind_some h
      refine⟨_,h,fun F σ lm ow ow' u v w h1 h2=>?_⟩
      cases h2
      cases h1 with
      | slice _ _ _ _ a cap hcap hr ho =>
      obtain⟨ds,hd,hx⟩:=hr _ y hy
      have hlen:n.toNat<xs.length:=by
       rcases Nat.lt_or_ge n.toNat xs.length with hl | hl
       ·exact hl
       ·rw[List.getElem?_eq_none hl] at hy;cases hy
      have hlt:n<(xs.length:Int):=by omega
      cases a with
      | none =>
       cases hds:ds with
       | nil=>rw[hds] at hd;have:=hd.length;simp at this;omega
       | cons d0 dr =>
        obtain⟨ad,e1,_⟩:=hx 0 d0 (by rw[hds];rfl)
        cases e1
      | some a =>
       refine⟨.pointer (some (a.add (n.toNat*sizeT X.P te))),?_,.cptr _ _ _ _ (repL_leaves hd) fun j v hv=>?_⟩
       ·simp[Instr.indexAt,run_und hu,asIntOf,h0,hlt,run_sizeOf_pos (show 0<sizeT X.P te by omega)]
       ·obtain⟨ad,e1,e2⟩:=hx j v hv
        cases e1
        rw[← hc.2]
        exact e2.drop
     ·cases h
    ·cases h
   ·rename_i c e lo len
    split at h
    ·rename_i hc
     split at h
     ·rename_i hb
      refine⟨_,h,fun F σ lm ow ow' u v w h1 h2=>?_⟩
      cases h2
      cases h1 with
      | hs _ _ _ _ _ _ hh =>
      obtain⟨p,p1,p2,p3,ad,rfl,p5,p6⟩:=hh
      obtain rfl:=p5 (by omega)
      refine⟨.pointer (some ⟨rowB p,(lo+n.toNat)*e.width+0,none⟩),?_,.rptr _ _ _ _ _ _ p1⟩
      simp[Instr.indexAt,run_und hu,asIntOf,hb.1,hb.2,run_sizeOf_pos hc.2,add_none,hc.1,Nat.add_mul]
     ·cases h
    ·cases h
   ·cases h
  ·cases h
 ·cases h
theorem fieldAddrK_some {X:Ext} {t:TypeId} {x:AV} {i:Nat} {k:AV→Option R} {r:R} (h:fieldAddrK X t x i k=some r) :
  ∃ av,k av=some r∧∀ (F:Fix) (σ lm:Nat→Option Nat) (ow:Own) (u:Value) (w:World),Rep F σ lm ow x u→Comes1 X.P F σ lm av w (Instr.fieldAt t u i):=by
 unfold fieldAddrK at h
 split at h
 ·rename_i fs hu
  split at h
  ·rename_i f hf
   split at h
   ·rename_i hpos
    split at h
    ·rename_i c off
     refine⟨_,h,fun F σ lm ow u w h1=>?_⟩
     cases h1 with
     | ptr _ c off b hs =>
     refine⟨.pointer (some ⟨b,off+f.offset,none⟩),?_,.ptr _ _ _ _ hs⟩
     simp[Instr.fieldAt,run_und hu,hf,Instr.sureAddr,fieldPlace,run_sizeOf_pos hpos,Nat.ne_of_gt hpos,add_none]
    ·rename_i l
     refine⟨_,h,fun F σ lm ow u w h1=>?_⟩
     cases h1 with
     | cptr _ l a vs hl hx =>
     refine⟨.pointer (some (a.add f.offset)),?_,.cptr _ _ _ _ (hl.drop _) fun i v hv=>?_⟩
     ·simp[Instr.fieldAt,run_und hu,hf,Instr.sureAddr,fieldPlace,run_sizeOf_pos hpos,Nat.ne_of_gt hpos]
     ·rw[List.getElem?_drop] at hv
      exact (hx _ v hv).drop
    ·rename_i c y m off
     refine⟨_,h,fun F σ lm ow u w h1=>?_⟩
     cases h1 with
     | rptr _ _ _ _ _ p hs =>
     refine⟨.pointer (some ⟨rowB p,m*y.width+(off+f.offset),none⟩),?_,.rptr _ _ _ _ _ _ hs⟩
     simp[Instr.fieldAt,run_und hu,hf,Instr.sureAddr,fieldPlace,run_sizeOf_pos hpos,Nat.ne_of_gt hpos,add_none,Nat.add_assoc]
    ·cases h
   ·cases h
  ·cases h
 ·cases h
theorem run_part_rep {X:Ext} {t:TypeId} {l:List AV} {off:Nat} {k:AV→Option R} {r:R} (h:partK X t l off k=some r) :
  ∃ av,k av=some r∧∀ (F:Fix) (σ lm:Nat→Option Nat) (vs:List Value) (w:World),RepL F σ lm l vs→Comes1 X.P F σ lm av w (part t vs.toArray off):=by
 unfold partK at h
 rcases readLeaves_some h with ⟨ha,hi,hl,hk,d,hd⟩ | ⟨ha,v,rest,d,hl,hk,hd⟩
 ·refine⟨_,hk,fun F σ lm vs w hr=>?_⟩
  have h1:=(hr.drop off).take (sizeT X.P t)
  refine⟨.agg ((vs.drop off).take (sizeT X.P t)).toArray,?_,.agg _ _ _ (repL_dull h1)⟩
  unfold part
  simp only[Sem.run_bind,run_isAgg' hd,Result.andThen_ok,ha,if_true,run_sizeOf_some hi,Sem.run_pure]
  congr 2
  apply Array.ext'
  simp
 ·refine⟨_,hk,fun F σ lm vs w hr=>?_⟩
  have h0:(l.drop off)[0]?=some v:=by rw[hl];rfl
  rw[List.getElem?_drop] at h0
  obtain⟨u,hu,hru⟩:=hr.get _ _ h0
  refine⟨u,?_,hru.dull⟩
  unfold part
  have hu':vs[off]?=some u:=by simpa using hu
  simp[run_isAgg' hd,ha,hu']
theorem indexK_some {X:Ext} {t:TypeId} {x i:AV} {k:AV→Option R} {r:R} (h:indexK X t x i k=some r) :
  ∃ av,k av=some r∧∀ (F:Fix) (σ lm:Nat→Option Nat) (ow ow':Own) (u v:Value) (w:World),Rep F σ lm ow x u→Rep F σ lm ow' i v→Comes1 X.P F σ lm av w (Instr.index t u v):=by
 unfold indexK at h
 simp only[br_eq,decide_eq_true_eq] at h
 split at h
 ·rename_i ki n
  split at h
  ·rename_i len e hu
   split at h
   ·rename_i l
    split at h
    ·rename_i hi
     obtain⟨j,hj,rfl,h'⟩:=eachIx_some h
     obtain⟨av,hk,hx⟩:=run_part_rep h'
     refine⟨av,hk,fun F σ lm ow ow' u v w h1 h2=>?_⟩
     cases h2
     cases h1 with
     | agg _ _ vs h1 =>
     obtain⟨v,e1,e2⟩:=hx F σ lm vs w h1
     have hlt:(0:Int)≤(j:Int)∧(j:Int)<(len:Int):=by omega
     exact⟨v,by simpa[Instr.index,run_und hu,asIntOf,hj,run_sizeOf_some hi] using e1,e2⟩
    ·cases h
   ·cases h
  ·rename_i hu
   split at h
   ·rename_i b
    split at h
    ·rename_i h0
     obtain⟨c,hc,hk⟩:=bind_some h
     refine⟨_,hk,fun F σ lm ow ow' u v w h1 h2=>?_⟩
     cases h2
     cases h1
     refine⟨_,?_,.int _ _ _⟩
     have hc':b[n.toNat]?=some c:=by
      have hlt:n.toNat<b.data.toList.length:=by
       rcases Nat.lt_or_ge n.toNat b.data.toList.length with hl | hl
       ·exact hl
       ·rw[List.getElem?_eq_none hl] at hc;cases hc
      have hs:n.toNat<b.size:=by simpa using hlt
      rw[getElem?_pos b n.toNat hs]
      rw[List.getElem?_eq_getElem hlt] at hc
      exact hc
     simp[Instr.index,run_und hu,asIntOf,h0,hc']
    ·cases h
   ·cases h
  ·cases h
 ·cases h
theorem lenK_some {X:Ext} {t:TypeId} {x:AV} {hp:List Cell} {k:Eff→Option R} {r:R} (h:lenK X t x hp k=some r) :
  ∃ av,k { val:=av }=some r∧∀ (F:Fix) (σ lm:Nat→Option Nat) (ow:Own) (u:Value) (ts:List TypeId) (ty:TypeId) (w:World),Rep F σ lm ow x u→Comes1 X.P F σ lm av w (Builtin.len_ (t :: ts).toArray ty #[u]):=by
 unfold lenK at h
 split at h
 ·rename_i hu
  split at h
  ·refine⟨_,h,fun F σ lm ow u ts ty w h1=>?_⟩
   cases h1
   exact⟨_,by simp[Builtin.len_,run_und hu];rfl,.int _ _ _⟩
  ·cases h
 ·rename_i n e hu
  refine⟨_,h,fun F σ lm ow u ts ty w h1=>?_⟩
  exact⟨.int .i64 n,by simp[Builtin.len_,run_und hu,goInt],.int _ _ _⟩
 ·rename_i e hu
  split at h
  ·refine⟨_,h,fun F σ lm ow u ts ty w h1=>?_⟩
   cases h1
   exact⟨_,by simp[Builtin.len_,run_und hu];rfl,.int _ _ _⟩
  ·refine⟨_,h,fun F σ lm ow u ts ty w h1=>?_⟩
   cases h1 with
   | hs _ _ _ _ _ _ hh =>
   obtain⟨p,p1,p2,p3,ad,rfl,p5,p6⟩:=hh
   exact⟨_,by simp[Builtin.len_,run_und hu];rfl,.int _ _ _⟩
  ·refine⟨_,h,fun F σ lm ow u ts ty w h1=>?_⟩
   cases h1
   exact⟨.int .i64 0,by simp[Builtin.len_,run_und hu,goInt],.int _ _ _⟩
  ·cases h
 ·cases h
theorem boundK_some {o:Option AV} {d:Int} {k:Int→Option R} {r:R} (h:boundK o d k=some r) :
  ∃ n,k n=some r∧((o=none∧n=d)∨∃ kd,o=some (.int kd n)):=by
 unfold boundK at h
 split at h
 ·exact⟨_,h,.inl ⟨rfl,rfl⟩⟩
 ·exact⟨_,h,.inr ⟨_,rfl⟩⟩
 ·cases h
theorem run_sliceBound {P:Program} {kd:IntKind} {n:Int} {y:Nat} {code:BoundsCode} (h0:0≤n) (h1:n≤(y:Int)) (w:World) :
  (Instr.sliceBound (.int kd n) y code).run P w=.ok n.toNat w:=by
 simp[Instr.sliceBound,asIntOf,h0,h1]
theorem boundV {F:Fix} {σ lm:Nat→Option Nat} {o:Option AV} {o':Option Value} {n d:Int} (h:(o=none∧n=d)∨∃ kd,o=some (.int kd n)) (hr:o.isNone=o'.isNone∧∀ a v,o=some a→o'=some v→∃ ow',Rep F σ lm ow' a v) :
  (o=none∧o'=none∧n=d)∨∃ kd,o=some (.int kd n)∧o'=some (.int kd n):=by
 rcases h with ⟨rfl,rfl⟩ | ⟨kd,rfl⟩
 ·cases o' with
  | none=>exact .inl ⟨rfl,rfl,rfl⟩
  | some _=>simp at hr
 ·cases o' with
  | none=>simp at hr
  | some v =>
   obtain⟨_,hv⟩:=hr.2 _ _ rfl rfl
   cases hv
   exact .inr ⟨kd,rfl,rfl⟩
theorem cut_run {P:Program} {t te:TypeId} (hu:P.underlying t=some (.slice te)) (hpos:0<sizeT P te) {F:Fix} {σ lm:Nat→Option Nat} {lo hi mx:Option AV} {lo' hi' mx':Option Value} {l h m dh dm:Int} {a:Option Addr} {len cap:Nat} {w:World}
  (hl:(lo=none∧l=0)∨∃ kd,lo=some (.int kd l)) (hh:(hi=none∧h=dh)∨∃ kd,hi=some (.int kd h)) (hm:(mx=none∧m=dm)∨∃ kd,mx=some (.int kd m)) (hs:hi.isSome=true) (ms:mx.isSome=true)
  (rl:lo.isNone=lo'.isNone∧∀ a v,lo=some a→lo'=some v→∃ ow',Rep F σ lm ow' a v) (rh:hi.isNone=hi'.isNone∧∀ a v,hi=some a→hi'=some v→∃ ow',Rep F σ lm ow' a v) (rm:mx.isNone=mx'.isNone∧∀ a v,mx=some a→mx'=some v→∃ ow',Rep F σ lm ow' a v)
  (h1:0≤l) (h2:l≤h) (h3:h≤m) (h4:m≤(cap:Int)) {cv:AV} (hcv:cv=.top∨(cv=.void∧h=0∧m=0)):Comes1 P F σ lm cv w (Instr.sliceAt t (.slice a len cap) lo' hi' mx'):=by
 have hbounds:(Instr.sliceBounds true len cap lo' hi' mx').run P w=.ok (l.toNat,h.toNat,m.toNat) w:=by
  unfold Instr.sliceBounds
  rcases boundV hm rm with ⟨rfl,rfl,_⟩ | ⟨km,rfl,rfl⟩
  ·cases ms
  ·rcases boundV hh rh with ⟨rfl,rfl,_⟩ | ⟨kh,rfl,rfl⟩
   ·cases hs
   ·have b1:=run_sliceBound (P:=P) (kd:=km) (n:=m) (y:=cap) (code:=.slice3Acap) (by omega) h4 w
    have b2:=run_sliceBound (P:=P) (kd:=kh) (n:=h) (y:=m.toNat) (code:=.slice3B) (by omega) (by omega) w
    rcases boundV hl rl with ⟨rfl,rfl,rfl⟩ | ⟨kl,rfl,rfl⟩
    ·simp[b1,b2]
    ·simp[b1,b2,run_sliceBound (P:=P) (kd:=kl) (n:=l) (y:=h.toNat) (code:=.slice3C) h1 (by omega) w]
 refine⟨.slice (if m.toNat=l.toNat then a else a.map (·.add (l.toNat*sizeT P te))) (h.toNat-l.toNat) (m.toNat-l.toNat),?_,?_⟩
 ·simp only[Instr.sliceAt,Sem.run_bind,run_und hu,Result.andThen_ok,Instr.slice,hbounds,run_sizeOf_pos hpos,Sem.run_pure]
 ·rcases hcv with rfl | ⟨rfl,rfl,rfl⟩
  ·exact .top _ _
  ·have:l=0:=by omega
   subst this
   exact .void _ _
theorem sliceK_some {X:Ext} {t:TypeId} {x:AV} {lo hi mx:Option AV} {k:AV→Option R} {r:R} (h:sliceK X t x lo hi mx k=some r) :
  ∃ av,k av=some r∧∀ (F:Fix) (σ lm:Nat→Option Nat) (ow:Own) (u:Value) (lo' hi' mx':Option Value) (w:World),Rep F σ lm ow x u →
   (lo.isNone=lo'.isNone∧∀ a v,lo=some a→lo'=some v→∃ ow',Rep F σ lm ow' a v)→(hi.isNone=hi'.isNone∧∀ a v,hi=some a→hi'=some v→∃ ow',Rep F σ lm ow' a v)→(mx.isNone=mx'.isNone∧∀ a v,mx=some a→mx'=some v→∃ ow',Rep F σ lm ow' a v) →
   Comes1 X.P F σ lm av w (Instr.sliceAt t u lo' hi' mx'):=by
 unfold sliceK at h
 simp only[br_eq,decide_eq_true_eq] at h
 split at h
 ·rename_i te hu
  split at h
  ·rename_i m
   have main:∀ {L:Nat} {l hh mm:Int},((lo=none∧l=0)∨∃ kd,lo=some (.int kd l))→((hi=none∧hh=(L:Int))∨∃ kd,hi=some (.int kd hh))→((some m=none∧mm=0)∨∃ kd,some m=some (.int kd mm)) →
     (if hi.isSome=true∧0<sizeT X.P te then if 0≤l∧l≤hh∧hh≤mm∧mm≤(L:Int) then (if hh=0∧mm=0 then k .void else k .top) else none else none)=some r →
     (∀ (F:Fix) (σ lm:Nat→Option Nat) (ow:Own) (u:Value),Rep F σ lm ow x u→∃ a len cap,u=.slice a len cap∧L≤cap) →
     ∃ av,k av=some r∧∀ (F:Fix) (σ lm:Nat→Option Nat) (ow:Own) (u:Value) (lo' hi' mx':Option Value) (w:World),Rep F σ lm ow x u →
   (lo.isNone=lo'.isNone∧∀ a v,lo=some a→lo'=some v→∃ ow',Rep F σ lm ow' a v)→(hi.isNone=hi'.isNone∧∀ a v,hi=some a→hi'=some v→∃ ow',Rep F σ lm ow' a v)→((some m:Option AV).isNone=mx'.isNone∧∀ a v,some m=some a→mx'=some v→∃ ow',Rep F σ lm ow' a v) →
   Comes1 X.P F σ lm av w (Instr.sliceAt t u lo' hi' mx'):=by
    intro L l hh mm q1 q2 q3 q4 q5
    split at q4
    ·rename_i hc
     split at q4
     ·rename_i hb
      obtain⟨cv,hcv,q4⟩:∃ cv:AV,(cv=.top∨(cv=.void∧hh=0∧mm=0))∧k cv=some r:=by
       split at q4
       ·rename_i hz;exact⟨.void,.inr ⟨rfl,hz.1,hz.2⟩,q4⟩
       ·exact⟨.top,.inl rfl,q4⟩
      refine⟨_,q4,fun F σ lm ow u lo' hi' mx' w hr r1 r2 r3=>?_⟩
      obtain⟨a,len,cap,rfl,hL⟩:=q5 F σ lm ow u hr
      exact cut_run hu hc.2 q1 q2 q3 hc.1 rfl r1 r2 r3 hb.1 hb.2.1 hb.2.2.1 (by omega) hcv
     ·cases q4
    ·cases q4
   split at h
   ·rename_i own e xs
    obtain⟨l,h1,hl⟩:=boundK_some h
    obtain⟨hh,h2,hhi⟩:=boundK_some h1
    obtain⟨mm,h3,hmm⟩:=boundK_some h2
    refine main hl hhi hmm h3 fun F σ lm ow u hr=>?_
    cases hr with
    | slice _ _ _ _ a cap hcap hrow ho=>exact⟨a,_,cap,rfl,hcap.1⟩
   ·rename_i c e at0 len
    obtain⟨l,h1,hl⟩:=boundK_some h
    obtain⟨hh,h2,hhi⟩:=boundK_some h1
    obtain⟨mm,h3,hmm⟩:=boundK_some h2
    refine main hl hhi hmm h3 fun F σ lm ow u hr=>?_
    cases hr with
    | hs _ _ _ _ _ _ hq =>
     obtain⟨p,p1,p2,p3,ad,rfl,p5,p6⟩:=hq
     exact⟨ad,_,_,rfl,by omega⟩
   ·obtain⟨l,h1,hl⟩:=boundK_some h
    obtain⟨hh,h2,hhi⟩:=boundK_some h1
    obtain⟨mm,h3,hmm⟩:=boundK_some h2
    refine main (L:=0) hl hhi hmm h3 fun F σ lm ow u hr=>?_
    cases hr
    exact⟨none,0,0,rfl,Nat.le_refl _⟩
   ·cases h
  ·split at h
   ·rename_i own e xs
    obtain⟨l,h1,hl⟩:=boundK_some h
    obtain⟨hh,h2,hhi⟩:=boundK_some h1
    have h2':(0≤l∧l≤hh∧hh≤(xs.length:Int)∧0<e.width∧e.width=sizeT X.P te)∧k (.slice false e ((xs.take hh.toNat).drop l.toNat))=some r:=by
     by_cases hc:0<e.width∧e.width=sizeT X.P te
     ·rw[if_pos hc] at h2
      split at h2
      ·rename_i hd;exact⟨⟨hd.1,hd.2.1,hd.2.2,hc.1,hc.2⟩,h2⟩
      ·cases h2
     ·rw[if_neg hc] at h2;cases h2
    clear h2
    obtain⟨hc,h2⟩:=h2'
    rcases Classical.em True with hcc | hcc
    ·obtain⟨c1,c2,c3,c4,c5⟩:=hc
     refine⟨_,h2,fun F σ lm ow u lo' hi' mx' w hr hlo hhi' hmx=>?_⟩
     have hmx':mx'=none:=by cases mx' with | none=>rfl | some _=>simp at hmx
     subst hmx'
     cases hr with
     | slice _ _ _ _ a cap hcap hrow ho =>
     have hrange:∀ y:Nat,(xs.length:Int)≤y→hh≤(y:Int):=fun y hy=>by omega
     have hbounds:(Instr.sliceBounds true xs.length cap lo' hi' none).run X.P w=.ok (l.toNat,hh.toNat,cap) w:=by
      unfold Instr.sliceBounds
      rcases hhi with ⟨rfl,rfl⟩ | ⟨kd,rfl⟩
      ·have e1:hi'=none:=by cases hi' with | none=>rfl | some _=>simp at hhi'
       subst e1
       rcases hl with ⟨rfl,rfl⟩ | ⟨kd',rfl⟩
       ·have e2:lo'=none:=by cases lo' with | none=>rfl | some _=>simp at hlo
        subst e2
        simp
       ·cases lo' with
        | none=>simp at hlo
        | some v =>
         obtain⟨_,hv⟩:=hlo.2 _ _ rfl rfl
         cases hv
         simp[run_sliceBound c1 (show l≤((xs.length:Nat):Int) by omega)]
      ·cases hi' with
       | none=>simp at hhi'
       | some v =>
        obtain⟨_,hv⟩:=hhi'.2 _ _ rfl rfl
        cases hv
        have hb1:=run_sliceBound (P:=X.P) (kd:=kd) (n:=hh) (y:=cap) (code:=.sliceAcap) (by omega) (by omega) w
        rcases hl with ⟨rfl,rfl⟩ | ⟨kd',rfl⟩
        ·have e2:lo'=none:=by cases lo' with | none=>rfl | some _=>simp at hlo
         subst e2
         simp[hb1]
        ·cases lo' with
         | none=>simp at hlo
         | some v =>
          obtain⟨_,hv⟩:=hlo.2 _ _ rfl rfl
          cases hv
          simp[hb1,run_sliceBound c1 (show l≤((hh.toNat:Nat):Int) by omega)]
     have hlen:((xs.take hh.toNat).drop l.toNat).length=hh.toNat-l.toNat:=by simp;omega
     refine⟨.slice (if cap=l.toNat then a else a.map (·.add (l.toNat*sizeT X.P te))) (hh.toNat-l.toNat) (cap-l.toNat),?_,?_⟩
     ·simp only[Instr.sliceAt,Sem.run_bind,run_und hu,Result.andThen_ok,Instr.slice,hbounds,run_sizeOf_pos (show 0<sizeT X.P te by omega),Sem.run_pure]
     ·rw[← hlen]
      refine .slice _ _ _ _ _ _ ⟨by rw[hlen];omega,(fun h=>(by
       split at h
       ·omega
       ·have:=hcap.2.1 (by simpa using h)
        omega)),(by have:=hcap.2.2;omega)⟩ ?_ fun h=>by cases h
      intro i x hx
      have hi':(xs.take hh.toNat)[l.toNat+i]?=some x:=by rw[List.getElem?_drop] at hx;exact hx
      have hi'':xs[l.toNat+i]?=some x:=by
       rw[List.getElem?_take] at hi'
       split at hi'
       ·exact hi'
       ·cases hi'
      have hlt:l.toNat+i<xs.length:=by
       rcases Nat.lt_or_ge (l.toNat+i) xs.length with hq | hq
       ·exact hq
       ·rw[List.getElem?_eq_none hq] at hi'';cases hi''
      obtain⟨ds,hd,hf⟩:=hrow _ x hi''
      refine⟨ds,hd,fun j v hv=>?_⟩
      obtain⟨ad,e1,e2⟩:=hf j v hv
      refine⟨ad.add (l.toNat*e.width),?_,?_⟩
      ·rw[if_neg (by omega),e1,c5];rfl
      ·have e3:(l.toNat+i)*e.width+j=l.toNat*e.width+(i*e.width+j):=by rw[Nat.add_mul];omega
       rw[e3] at e2
       exact e2.drop
    ·exact absurd trivial hcc
   ·rename_i c e at0 len
    obtain⟨l,h1,hl⟩:=boundK_some h
    obtain⟨hh,h2,hhi⟩:=boundK_some h1
    clear h h1
    split at h2
    ·rename_i hc
     split at h2
     ·rename_i hb
      obtain⟨b1,b2,b3⟩:=hb
      refine⟨_,h2,fun F σ lm ow u lo' hi' mx' w hr hlo hhi' hmx=>?_⟩
      have hmx':mx'=none:=by cases mx' with | none=>rfl | some _=>simp at hmx
      subst hmx'
      cases hr with
      | hs _ _ _ _ _ _ hq =>
      obtain⟨p,p1,p2,p3,ad,rfl,p5,p6⟩:=hq
      have hbounds:(Instr.sliceBounds true len (rowC p-at0) lo' hi' none).run X.P w=.ok (l.toNat,hh.toNat,rowC p-at0) w:=by
       unfold Instr.sliceBounds
       rcases hhi with ⟨rfl,rfl⟩ | ⟨kd,rfl⟩
       ·have e1:hi'=none:=by cases hi' with | none=>rfl | some _=>simp at hhi'
        subst e1
        rcases hl with ⟨rfl,rfl⟩ | ⟨kd',rfl⟩
        ·have e2:lo'=none:=by cases lo' with | none=>rfl | some _=>simp at hlo
         subst e2
         simp
        ·cases lo' with
         | none=>simp at hlo
         | some v =>
          obtain⟨_,hv⟩:=hlo.2 _ _ rfl rfl
          cases hv
          simp[run_sliceBound b1 (show l≤((len:Nat):Int) by omega)]
       ·cases hi' with
        | none=>simp at hhi'
        | some v =>
         obtain⟨_,hv⟩:=hhi'.2 _ _ rfl rfl
         cases hv
         have hb1:=run_sliceBound (P:=X.P) (kd:=kd) (n:=hh) (y:=rowC p-at0) (code:=.sliceAcap) (by omega) (by omega) w
         rcases hl with ⟨rfl,rfl⟩ | ⟨kd',rfl⟩
         ·have e2:lo'=none:=by cases lo' with | none=>rfl | some _=>simp at hlo
          subst e2
          simp[hb1]
         ·cases lo' with
          | none=>simp at hlo
          | some v =>
           obtain⟨_,hv⟩:=hlo.2 _ _ rfl rfl
           cases hv
           simp[hb1,run_sliceBound b1 (show l≤((hh.toNat:Nat):Int) by omega)]
      refine⟨.slice (if rowC p-at0=l.toNat then ad else ad.map (·.add (l.toNat*sizeT X.P te))) (hh.toNat-l.toNat) (rowC p-at0-l.toNat),?_,?_⟩
      ·simp only[Instr.sliceAt,Sem.run_bind,run_und hu,Result.andThen_ok,Instr.slice,hbounds,run_sizeOf_pos hc.2,Sem.run_pure]
      ·refine .hs _ _ _ _ _ _ ⟨p,p1,by omega,p3,_,by rw[show rowC p-(at0+l.toNat)=rowC p-at0-l.toNat by omega],fun hlt=>?_,fun hn=>?_⟩
       ·rw[if_neg (by omega),p5 (by omega)]
        simp only[Option.map_some,add_none,hc.1,Nat.add_mul]
       ·split at hn
        ·omega
        ·have:=p6 (by simpa using hn)
         omega
     ·cases h2
    ·cases h2
   ·cases h
 ·cases h
end Go.Am
namespace Go.Am
open Go
variable {R:Type} {F:Fix} {σ lm:Nat→Option Nat}
theorem rep_const (ow:Own) (v:Value):Rep F σ lm ow (constAV v) v:=by
 cases v with
 | int k n=>exact .int _ _ _
 | bool b=>exact .bool _ _
 | string s=>exact .str _ _
 | slice a l c =>
  cases a with
  | none =>
   unfold constAV
   simp only
   split
   ·rename_i h;obtain⟨rfl,rfl⟩:=h;exact .nil _
   ·exact .top _ _
  | some a=>exact .top _ _
 | pointer a=>cases a <;> first | exact .nilptr _ | exact .top _ _
 | nilFunc=>exact .nilfunc _
 | map r=>cases r <;> first | exact .nilmap _ | exact .top _ _
 | nilIface=>exact .niliface _
 | func fn a b =>
  cases fn with
  | func f =>
   unfold constAV
   simp only
   split
   ·rename_i h
    obtain⟨h1,h2⟩:=h
    have e1:a=#[]:=by apply Array.ext';simpa using h1
    have e2:b=#[]:=by apply Array.ext';simpa using h2
    subst e1;subst e2
    exact .func _ _ _ _ [] [] .nil .nil
   ·exact .top _ _
  | _=>exact .top _ _
 | _=>exact .top _ _
theorem repL_const (l:List Value):RepL F σ lm (l.map constAV) l:=by
 induction l with
 | nil=>exact .nil
 | cons v l ih=>exact .cons _ _ _ _ (rep_const _ v) ih
theorem zeroLeaves_some {P:Program} {t:TypeId} {z:List AV} (h:zeroLeaves P t=some z) :
  ∃ (v:Value),(∀ w,(zeroValue t).run P w=.ok v w)∧(∀ F σ lm,RepL F σ lm z v.cells.toList)∧z.length=v.cells.size:=by
 unfold zeroLeaves at h
 simp only[Option.map_eq_some_iff] at h
 obtain⟨v,hv,rfl⟩:=h
 obtain⟨i,hi,hz⟩:=bind_some hv
 exact⟨v,fun w=>by simp[zeroValue,typeInfo,hi,hz],fun F σ lm=>repL_const _,by simp⟩
theorem leaf_rep {ow:Own} {v:AV} {u:Value} (h:Rep F σ lm ow v u) (hl:v.leafOk=true):u.oneCell'=true∧u.cells=#[u]∧∀ l,v≠.tuple l:=by
 cases h with
 | hs _ c e lo len u h =>
  obtain⟨p,_,_,_,a,rfl,_⟩:=h
  exact⟨rfl,rfl,fun l e=>by cases e⟩
 | _=>first | (simp[AV.leafOk] at hl;done) | exact⟨rfl,rfl,fun l e=>by cases e⟩
theorem flat_rep {ow:Own} {v:AV} {u:Value} {fl:List AV} (h:Rep F σ lm ow v u) (hf:v.flat=some fl):RepL F σ lm fl u.cells.toList:=by
 unfold AV.flat at hf
 split at hf
 ·cases hf
  cases h with
  | agg _ _ vs h=>simpa[Value.cells] using h
 ·split at hf
  ·rename_i hl
   cases hf
   obtain⟨_,h2,h3⟩:=leaf_rep h hl
   rw[h2]
   exact .cons _ _ _ _ h.dull .nil
  ·cases hf
theorem flat_one {ow:Own} {v:AV} {u:Value} {fl:List AV} (h:Rep F σ lm ow v u) (hf:v.flat=some fl) (ha:fl.all AV.leafOk=true):∀ x∈u.cells.toList,x.oneCell'=true:=by
 have hr:=flat_rep h hf
 intro x hx
 obtain⟨i,hi,hx'⟩:=List.getElem_of_mem hx
 have hlen:=hr.length
 have hlt:i<fl.length:=by omega
 obtain⟨w,hw,hrw⟩:=hr.get i fl[i] (List.getElem?_eq_getElem hlt)
 rw[List.getElem?_eq_getElem hi,hx'] at hw
 cases hw
 exact (leaf_rep hrw (List.all_eq_true.1 ha _ (List.getElem_mem hlt))).1
theorem foldl_set (off:Nat):∀ (l:List Value) (s:Nat) (cs:List Value),off+s+l.length≤cs.length →
  ((l.zipIdx s).foldl (fun (cs:List Value) (x:Value×Nat)=>cs.set (off+x.2) x.1) cs)=cs.take (off+s) ++ l ++ cs.drop (off+s+l.length):=by
 intro l
 induction l with
 | nil=>intro s cs h;simp
 | cons c l ih =>
  intro s cs h
  simp only[List.length_cons] at h
  simp only[List.zipIdx_cons,List.foldl_cons]
  rw[ih (s+1) (cs.set (off+s) c) (by simp;omega)]
  have hlt:off+s<cs.length:=by omega
  apply List.ext_getElem?
  intro i
  simp only[List.getElem?_append,List.length_append,List.length_take,List.length_set,List.length_cons,List.getElem?_take,List.getElem?_drop,List.getElem?_set]
  by_cases h1:i<off+s
  ·have:i<min (off+(s+1)) cs.length:=by omega
   simp[h1,show i<off+(s+1) by omega,show i<min (off+s) cs.length by omega,show i<min (off+s) cs.length+(l.length+1) by omega,show i<min (off+(s+1)) cs.length+l.length by omega,this,show ¬ (off+s=i) by omega]
  ·by_cases h2:i=off+s
   ·subst h2
    simp[show off+s<off+(s+1) by omega,show off+s<min (off+(s+1)) cs.length by omega,show off+s<min (off+(s+1)) cs.length+l.length by omega,show min (off+s) cs.length=off+s by omega,hlt]
   ·by_cases h3:i<off+s+1+l.length
    ·have e1:min (off+(s+1)) cs.length=off+s+1:=by omega
     have e2:min (off+s) cs.length=off+s:=by omega
     have e3:i-(off+s)=(i-(off+s+1))+1:=by omega
     simp[e1,e2,h1,h2,h3,show ¬ (i<off+s+1) by omega,show i<off+s+(l.length+1) by omega,e3]
    ·have e1:min (off+(s+1)) cs.length=off+s+1:=by omega
     have e2:min (off+s) cs.length=off+s:=by omega
     simp[e1,e2,h1,h3,show ¬ (i<off+s+1) by omega,show ¬ (i<off+s+(l.length+1)) by omega]
     have e4:off+(s+1)+l.length+(i-(off+s+1+l.length))=off+s+(l.length+1)+(i-(off+s+(l.length+1))):=by omega
     rw[e4]
     simp[show ¬ (off+s=off+s+(l.length+1)+(i-(off+s+(l.length+1)))) by omega]
theorem foldl_set_arr (off:Nat) (l:Array Value) (cs:Array Value) (h:off+l.size≤cs.size) :
  (l.zipIdx.foldl (fun cs (x:Value×Nat)=>cs.setIfInBounds (off+x.2) x.1) cs).toList=cs.toList.take off ++ l.toList ++ cs.toList.drop (off+l.size):=by
 have key:∀ (m:List (Value×Nat)) (cs:Array Value),(m.foldl (fun (cs:Array Value) (x:Value×Nat)=>cs.setIfInBounds (off+x.2) x.1) cs).toList=m.foldl (fun (cs:List Value) (x:Value×Nat)=>cs.set (off+x.2) x.1) cs.toList:=by
  intro m
  induction m with
  | nil=>intro cs;rfl
  | cons x m ih=>intro cs;simp only[List.foldl_cons];rw[ih];simp
 rw[← Array.foldl_toList,key]
 have:=foldl_set off l.toList 0 cs.toList (by simpa using h)
 simpa using this
theorem fill_rep {place:Nat→Option (Nat×Nat)}:∀ (parts:List (Nat×AV)) (us:List (Nat×Value)) (cells l:List AV) (cs:Array Value),fillLeaves place cells parts=some l →
  (parts.length=us.length∧∀ (i:Nat) p u,parts[i]?=some p→us[i]?=some u→p.1=u.1∧∃ ow,Rep F σ lm ow p.2 u.2)→RepL F σ lm cells cs.toList→∃ r,Instr.fill place cs us=some r∧RepL F σ lm l r.toList:=by
 intro parts
 induction parts with
 | nil =>
  intro us cells l cs h hp hr
  cases us with
  | nil=>simp only[fillLeaves,Option.some.injEq] at h;subst h;exact⟨cs,rfl,hr⟩
  | cons u us=>simp at hp
 | cons p parts ih =>
  intro us cells l cs h hp hr
  cases us with
  | nil=>simp at hp
  | cons u us =>
   obtain⟨i,v⟩:=p
   obtain⟨i',v'⟩:=u
   obtain⟨e1,ow,hv⟩:=hp.2 0 (i,v) (i',v') rfl rfl
   simp only at e1 hv
   subst e1
   unfold fillLeaves at h
   cases hpl:place i with
   | none=>simp[hpl] at h
   | some os =>
    obtain⟨off,size⟩:=os
    simp only[hpl] at h
    obtain⟨fl,hfl,h⟩:=bind_some h
    split at h
    ·rename_i hc
     have hrf:=flat_rep hv hfl
     have hl1:=hrf.length
     have hl2:=hr.length
     have hsz:v'.cells.size=size:=by simp at hl1;omega
     have hfit:off+v'.cells.size≤cs.size:=by simp at hl2;omega
     have hnew:=foldl_set_arr off v'.cells cs hfit
     obtain⟨r,hr1,hr2⟩:=ih us _ l (v'.cells.zipIdx.foldl (fun cs (x:Value×Nat)=>cs.setIfInBounds (off+x.2) x.1) cs) h
      ⟨by simpa using hp.1,fun j p u h1 h2=>hp.2 (j+1) p u (by simpa using h1) (by simpa using h2)⟩ (by rw[hnew,hsz];exact ((hr.take off).append hrf).append (hr.drop _))
     refine⟨r,?_,hr2⟩
     unfold Instr.fill
     simp only[hpl]
     rw[if_neg (by rw[hsz] at hfit;simp[hsz];omega)]
     exact hr1
    ·cases h
theorem parts_rep {X:Ext} {s:St} {P:Program} (ev:Operand→AV) (ev':Operand→Value) (h:∀ x,∃ ow,Rep F σ lm ow (ev x) (ev' x)) (ps:Array (Nat×Operand)) :
  (ps.toList.map fun p=>(p.1,ev p.2)).length=(ps.map fun (i,x)=>(i,ev' x)).toList.length∧∀ (i:Nat) p u,(ps.toList.map fun p=>(p.1,ev p.2))[i]?=some p→(ps.map fun (i,x)=>(i,ev' x)).toList[i]?=some u→p.1=u.1∧∃ ow,Rep F σ lm ow p.2 u.2:=by
 refine⟨by simp,fun i p u h1 h2=>?_⟩
 simp only[List.getElem?_map,Option.map_eq_some_iff,Array.toList_map] at h1 h2
 obtain⟨q,e1,rfl⟩:=h1
 obtain⟨q',e2,rfl⟩:=h2
 rw[e1] at e2
 cases e2
 exact⟨rfl,h _⟩
theorem buildK_some {X:Ext} {t:TypeId} {parts:List (Nat×AV)} {k:AV→Option R} {r:R} (h:buildK X t parts k=some r) :
  ∃ av,k av=some r∧∀ (F:Fix) (σ lm:Nat→Option Nat) (us:List (Nat×Value)) (w:World),(parts.length=us.length∧∀ (i:Nat) p u,parts[i]?=some p→us[i]?=some u→p.1=u.1∧∃ ow,Rep F σ lm ow p.2 u.2) →
   Comes1 X.P F σ lm av w (Instr.build t us.toArray):=by
 unfold buildK at h
 split at h
 ·rename_i fs hu
  split at h
  ·rename_i hall
   obtain⟨z,hz,h⟩:=bind_some h
   obtain⟨l,hl,h⟩:=bind_some h
   refine⟨_,h,fun F σ lm us w hp=>?_⟩
   obtain⟨zv,hzv,hzr,_⟩:=zeroLeaves_some hz
   obtain⟨rr,hr1,hr2⟩:=fill_rep (F:=F) (σ:=σ) (lm:=lm) parts us z l zv.cells hl hp (hzr _ _ _)
   refine⟨.agg rr.toList.toArray,?_,.agg _ _ _ hr2⟩
   have hplaces:∀ w:World,(fs.mapM fun f=>(do pure (f.offset,← sizeOf f.type):Sem (Nat×Nat))).run X.P w=.ok (fs.map fun f=>(f.offset,sizeT X.P f.type)) w:=by
    intro w
    rw[Array.mapM_eq_mapM_toList]
    have hall':∀ f∈fs.toList,(X.P.info? f.type).isSome=true:=by
     intro f hf
     rw[← Array.all_toList] at hall
     exact List.all_eq_true.1 hall f hf
    have:∀ (l:List Field),(∀ f∈l,(X.P.info? f.type).isSome=true)→(l.mapM fun f=>(do pure (f.offset,← sizeOf f.type):Sem (Nat×Nat))).run X.P w=.ok (l.map fun f=>(f.offset,sizeT X.P f.type)) w:=by
     intro l
     induction l with
     | nil=>intro _;simp
     | cons f l ih =>
      intro hl
      simp only[List.mapM_cons,Sem.run_bind,run_sizeOf_some (hl f (by simp)),Result.andThen_ok,Sem.run_pure,ih fun g hg=>hl g (by simp[hg]),List.map_cons]
    simp only[Sem.run_map,this fs.toList hall',Result.andThen_ok]
    congr 1
    apply Array.ext'
    simp
   unfold Instr.build
   simp only[Sem.run_bind,hzv,Result.andThen_ok,run_und hu,hplaces]
   have hfun:(fun x:Nat=>(fs.map fun f=>(f.offset,sizeT X.P f.type))[x]?)=fun i=>(fs[i]?).map fun f=>(f.offset,sizeT X.P f.type):=by
    funext i;simp
   rw[hfun,hr1]
   simp
  ·cases h
 ·rename_i n e hu
  split at h
  ·rename_i hi
   obtain⟨z,hz,h⟩:=bind_some h
   obtain⟨l,hl,h⟩:=bind_some h
   refine⟨_,h,fun F σ lm us w hp=>?_⟩
   obtain⟨zv,hzv,hzr,_⟩:=zeroLeaves_some hz
   obtain⟨rr,hr1,hr2⟩:=fill_rep (F:=F) (σ:=σ) (lm:=lm) parts us z l zv.cells hl hp (hzr _ _ _)
   refine⟨.agg rr.toList.toArray,?_,.agg _ _ _ hr2⟩
   unfold Instr.build
   simp only[Sem.run_bind,hzv,Result.andThen_ok,run_und hu,run_sizeOf_some hi]
   rw[hr1]
   simp
  ·cases h
 ·cases h
end Go.Am
namespace Go.Am
open Go
abbrev nowhere:Nat→Option Nat:=fun _=>none
def GlobOk (X:Ext) (F:Fix):Prop:=∀ g l,X.global g=some l→∃ vs,RepL F nowhere nowhere l vs∧∀ (i:Nat) v,vs[i]?=some v→FixAt F ⟨g,0,none⟩ i v
theorem GlobOk.mono {X:Ext} {F F':Fix} (h:GlobOk X F) (hf:F.le F'):GlobOk X F':=fun g l hg=>by
 obtain⟨vs,h1,h2⟩:=h g l hg
 exact⟨vs,h1.mono hf (fun _ _ x=>x) (fun _ _ x=>x),fun i v hv=>(h2 i v hv).mono hf⟩
structure Rel (X:Ext) (T:Tags) (σ lm:Nat→Option Nat) (A:Amb) (ro:Option Nat) (s:St) (a:Act) (w:World):Prop where
 inv:Inv T σ lm s.heap A.loops s.pend w
 len:s.tmps.length=a.tmps.size
 nt:a.tmps.size=A.nt
 tm:∀ t,Rep T.fix σ lm (T.own (.tmp t)) (getT s.tmps t) (a.tmps.getD t undef)
 marks:∀ d∈a.defers,∃ D,d = { target:=.collected D,args:=#[] }∧w.heap[D]?=some (.deferred (some []))∧∀ o,T D o=.mark
 nodup:a.defers.Pairwise fun d d'=>∀ D D',d.target=.collected D→d'.target=.collected D'→D≠D'
 round:(A.rd=false→ro=none)∧∀ b,ro=some b→∃ i r,A.loops[i]?=some r∧lm i=some b
 glob:GlobOk X T.fix
def opOwn (T:Tags):Operand→Own
 | .tmp t=>T.own (.tmp t)
 | _=>noOwn
section
variable {X:Ext} {T:Tags} {σ lm:Nat→Option Nat} {A:Amb} {ro:Option Nat} {s:St} {a:Act} {w:World}
theorem Rel.eval (h:Rel X T σ lm A ro s a w) (x:Operand):Rep T.fix σ lm (opOwn T x) (s.eval X x) (a.eval x):=by
 cases x with
 | tmp t=>exact h.tm t
 | const v=>exact rep_const _ v
 | global g =>
  cases hg:X.global g with
  | none =>
   have:s.eval X (.global g)=.top:=by simp[St.eval,hg]
   rw[this];exact .top _ _
  | some l =>
   obtain⟨vs,h1,h2⟩:=h.glob g l hg
   have:s.eval X (.global g)=.cptr l:=by simp[St.eval,hg]
   rw[this]
   exact .cptr _ _ _ _ (h1.mono (Fix.le.refl _) (fun _ _ e=>by cases e) (fun _ _ e=>by cases e)) h2
 | func f=>exact .func _ _ _ _ [] [] .nil .nil
theorem getT_set (l:List AV) (d t:Nat) (v:AV):getT (l.set d v) t=if d=t∧d<l.length then v else getT l t:=by
 unfold getT
 simp only[List.getD_eq_getElem?_getD,List.getElem?_set]
 by_cases h:d=t
 ·subst h
  by_cases h':d<l.length
  ·simp[h']
  ·simp[h']
 ·simp[h]
theorem getD_set (l:Array Value) (d t:Nat) (v:Value):(l.setIfInBounds d v).getD t undef=if d=t∧d<l.size then v else l.getD t undef:=by
 simp only[Array.getD_eq_getD_getElem?,Array.getElem?_setIfInBounds]
 by_cases h:d=t
 ·subst h
  by_cases h':d<l.size
  ·simp[h']
  ·simp[h']
 ·simp[h]
theorem Rel.put (h:Rel X T σ lm A ro s a w) (d:Option Tmp) {av:AV} {v:Value} (hr:∀ t,d=some t→Rep T.fix σ lm (T.own (.tmp t)) av v) :
  Rel X T σ lm A ro (s.put d av) (a.put d v) w:=by
 cases d with
 | none=>exact h
 | some d =>
  refine⟨h.inv,by simp[St.put,Act.put,h.len],by simp[Act.put,h.nt],fun t=>?_,h.marks,h.nodup,h.round,h.glob⟩
  simp only[St.put,Act.put,getT_set,getD_set,h.len]
  split
  ·rename_i hc;obtain⟨rfl,_⟩:=hc;exact hr d rfl
  ·exact h.tm t
theorem Rel.of_heap (h:Rel X T σ lm A ro s a w) {w':World} (e:w'.heap=w.heap):Rel X T σ lm A ro s a w' :=
 ⟨h.inv.of_heap e,h.len,h.nt,h.tm,fun d hd=>let ⟨D,e1,e2,e3⟩:=h.marks d hd;⟨D,e1,by rw[e];exact e2,e3⟩,h.nodup,h.round,h.glob⟩
theorem Rel.drew (h:Rel X T σ lm A ro s a w):Rel X T σ lm A ro s a w.drew:=h.of_heap rfl
theorem Rel.dullT (h:Rel X T σ lm A ro s a w) (t:Tmp):Rel X T σ lm A ro { s with tmps:=s.tmps.set t (getT s.tmps t).dull } a w:=by
 refine⟨h.inv,by simp[h.len],h.nt,fun u=>?_,h.marks,h.nodup,h.round,h.glob⟩
 simp only[getT_set]
 split
 ·rename_i hc;obtain⟨rfl,_⟩:=hc;exact (h.tm t).dull
 ·exact h.tm u
theorem dull_noOwn {t:Tmp} (hd:Rep T.fix σ lm (T.own (.tmp t)) (getT s.tmps t) (a.tmps.getD t undef)):Rep T.fix σ lm noOwn (getT (s.tmps.set t (getT s.tmps t).dull) t) (a.tmps.getD t undef):=by
 rw[getT_set]
 split
 ·exact hd.dull
 ·rename_i hc
  have:¬ t<s.tmps.length:=fun h=>hc ⟨rfl,h⟩
  have e:getT s.tmps t=.top:=by simp[getT,List.getD_eq_getElem?_getD,List.getElem?_eq_none (Nat.le_of_not_lt this)]
  rw[e];exact .top _ _
def Tag.to (l l':Loc):Tag→Tag
 | .spare m j=>if m=l then .spare l' j else .spare m j
 | t=>t
def Tags.retag (T:Tags) (l l':Loc):Tags:=fun b o=>(T b o).to l l'
theorem retag_fix (l l':Loc):(T.retag l l').fix=T.fix:=by
 funext b o
 unfold Tags.fix Tags.retag
 cases T b o with
 | spare m j =>
  simp only[Tag.to]
  by_cases h:m=l
  ·rw[if_pos h];rfl
  ·rw[if_neg h]
 | _=>rfl
theorem retag_own_other {l l' m:Loc} (h:m≠l):∀ j b o,T.own m j b o→(T.retag l l').own m j b o:=by
 intro j b o e
 unfold Tags.own Tags.retag at *
 rw[e];simp[Tag.to,h]
theorem retag_own_same {l l':Loc}:∀ j b o,T.own l j b o→(T.retag l l').own l' j b o:=by
 intro j b o e
 unfold Tags.own Tags.retag at *
 rw[e];simp[Tag.to]
theorem retag_keeps (l l':Loc) (w:World):Keeps T w (T.retag l l') w:={
 os:=rfl
 tape:=rfl
 output:=rfl
 size:=Nat.le_refl _
 fixed:=fun b o v e=>by unfold Tags.retag;rw[e];rfl
 free:=fun b o _ e=>by unfold Tags.retag;rw[e];rfl
 cell:=fun _ _ _ _=>⟨rfl,rfl⟩
 block:=fun _ _ _=>rfl }
theorem Inv.retag {h:List Cell} {ls:List LoopRec} {ps:List (Option AE)} (I:Inv T σ lm h ls ps w) (l l':Loc)
  (hl:∀ c j,l=.leaf c j→∀ q av v,h[c]?=some (.var q)→q[j]?=some av→Rep T.fix σ lm (T.own (.leaf c j)) av v→Rep T.fix σ lm noOwn av v) (hrow:∀ c j,l=.leaf c j→∀ e xs,h[c]?≠some (.row e xs)):Inv (T.retag l l') σ lm h ls ps w:={
 fixed:=fun b o v e=>by
  refine I.fixed b o v ?_
  unfold Tags.retag at e
  cases ht:T b o <;> rw[ht] at e <;> simp only[Tag.to] at e
  ·cases e
  ·exact e
  ·cases e
  ·split at e <;> cases e
  ·cases e
  ·cases e
 spare:=fun b o m j e=>by
  unfold Tags.retag at e
  cases ht:T b o with
  | spare m' j'=>exact I.spare b o m' j' ht
  | _=>rw[ht] at e;cases e
 live:=fun b o e=>I.live b o fun hf=>e (by unfold Tags.retag;rw[hf];rfl)
 dom:=I.dom
 var:=fun c q hc=>by
  obtain⟨b,h1,h2,h3⟩:=I.var c q hc
  refine⟨b,h1,h2,fun j av hj=>?_⟩
  obtain⟨v,e1,e2,e3,e4⟩:=h3 j av hj
  refine⟨v,e1,e2,by unfold Tags.retag;rw[e3];rfl,?_⟩
  rw[retag_fix]
  by_cases hm:Loc.leaf c j=l
  ·subst hm
   exact (hl c j rfl q av v hc hj e4).mono (Fix.le.refl _) (fun _ _ x=>x) (fun _ _ x=>x) (fun _ _ _ x=>x.elim)
  ·exact e4.mono (Fix.le.refl _) (fun _ _ x=>x) (fun _ _ x=>x) (retag_own_other hm)
 mem:=fun c x hx=>by
  cases x with
  | row e xs =>
   refine (I.mem c _ hx).keep (fun _ h=>h) (by rw[retag_fix];exact Fix.le.refl _) (fun b k e'=>⟨by unfold Tags.retag;rw[e'];rfl,rfl,rfl⟩) fun b k e'=>?_
   unfold Tags.retag;rw[e'];simp only[Tag.to]
   rw[if_neg]
   intro e2;exact hrow c 0 e2.symm e xs hx
  | var l=>trivial
  | empty=>trivial
  | gone=>trivial
  | map _ _ _=>exact (I.mem c _ hx).keepM (fun _ h=>h) (by rw[retag_fix];exact Fix.le.refl _) (fun b k e'=>by unfold Tags.retag;rw[e'];rfl) (fun _ _ _ _ h=>h)
  | mapv _ _ _=>exact (I.mem c _ hx).keepMv (fun _ h=>h) (by rw[retag_fix];exact Fix.le.refl _) (fun b k e'=>by unfold Tags.retag;rw[e'];rfl) (fun _ _ _ _ h=>h)
 plen:=I.plen
 loop:=fun i r hr=>by
  obtain⟨b,rec,h1,h2,h3,h4,h5,h6,h7,h8,h9,h10⟩:=I.loop i r hr
  exact⟨b,rec,h1,by unfold Tags.retag;rw[h2];rfl,h3,h4,h5,h6,h7,h8,by rw[retag_fix];exact h9,h10⟩ }
theorem Rel.retag (h:Rel X T σ lm A ro s a w) (l l':Loc)
  (hl:∀ c j,l=.leaf c j→∀ q av v,s.heap[c]?=some (.var q)→q[j]?=some av→Rep T.fix σ lm (T.own (.leaf c j)) av v→Rep T.fix σ lm noOwn av v)
  (ht:∀ t,l=.tmp t→Rep T.fix σ lm noOwn (getT s.tmps t) (a.tmps.getD t undef)) (hrow:∀ c j,l=.leaf c j→∀ e xs,s.heap[c]?≠some (.row e xs)):Rel X (T.retag l l') σ lm A ro s a w:={
 inv:=h.inv.retag l l' hl hrow
 len:=h.len
 nt:=h.nt
 tm:=fun t=>by
  rw[retag_fix]
  by_cases hm:Loc.tmp t=l
  ·exact (ht t hm.symm).mono (Fix.le.refl _) (fun _ _ x=>x) (fun _ _ x=>x) (fun _ _ _ x=>x.elim)
  ·exact (h.tm t).mono (Fix.le.refl _) (fun _ _ x=>x) (fun _ _ x=>x) (retag_own_other hm)
 marks:=fun d hd=>let ⟨D,e1,e2,e3⟩:=h.marks d hd;⟨D,e1,e2,fun o=>by unfold Tags.retag;rw[e3];rfl⟩
 nodup:=h.nodup
 round:=h.round
 glob:=by rw[retag_fix];exact h.glob }
theorem Rel.give (h:Rel X T σ lm A ro s a w) (x:Operand) (d:Option Tmp) :
  ∃ T',Keeps T w T' w∧Rel X T' σ lm A ro (({ s with tmps:=dullAll s.tmps (tmpOf x) }:St).put d (s.eval X x)) (a.put d (a.eval x)) w:=by
 have hx:=h.eval x
 cases x with
 | tmp t =>
  cases d with
  | none=>exact⟨T,Keeps.refl _ _,h.dullT t⟩
  | some d =>
   have h1:=(h.dullT t).retag (.tmp t) (.tmp d) (fun c j e=>by cases e) (fun u e=>by cases e;exact dull_noOwn (h.tm t)) (fun c j e=>by cases e)
   refine⟨T.retag (.tmp t) (.tmp d),retag_keeps _ _ _,h1.put (some d) fun u e=>?_⟩
   cases e
   rw[retag_fix]
   exact hx.mono (Fix.le.refl _) (fun _ _ x=>x) (fun _ _ x=>x) retag_own_same
 | _=>exact⟨T,Keeps.refl _ _,h.put d fun t _=>hx.mono (Fix.le.refl _) (fun _ _ x=>x) (fun _ _ x=>x) (fun _ _ _ x=>x.elim)⟩
theorem Rel.alloc (h:Rel X T σ lm A ro s a w) (ob:Obj) (f:Nat→Tag)
  (hfix:∀ o v,f o=.fixed v→(w.alloc ob).cell? ⟨w.heap.size,o,none⟩=some v)
  (hsp:∀ o l j,f o=.spare l j→((w.alloc ob).cell? ⟨w.heap.size,o,none⟩).isSome=true∧(w.alloc ob).frozen? ⟨w.heap.size,o,none⟩=false) :
  Rel X (T.new w.heap.size f) σ lm A ro s a (w.alloc ob):={
 inv:=h.inv.alloc ob f hfix hsp
 len:=h.len
 nt:=h.nt
 tm:=fun t=>(h.tm t).mono (h.inv.le_new f) (fun _ _ x=>x) (fun _ _ x=>x) (h.inv.own_new f _)
 marks:=fun d hd=>by
  obtain⟨D,e1,e2,e3⟩:=h.marks d hd
  have hb:D<w.heap.size:=h.inv.live D 0 (by rw[e3];simp)
  exact⟨D,e1,by rw[heap_alloc_lt hb];exact e2,fun o=>by unfold Tags.new;rw[if_neg (by omega)];exact e3 o⟩
 nodup:=h.nodup
 round:=h.round
 glob:=h.glob.mono (h.inv.le_new f) }
theorem Rel.newVar (h:Rel X T σ lm A ro s a w) (slot:Nat) (hslot:s.heap[slot]?=some .empty) (z:List AV) (vs:Array Value) (e:TypeId) (hz:RepL T.fix σ lm z vs.toList) :
  Rel X (T.new w.heap.size fun o=>if o<vs.size then .cell slot o else .free) (fun c=>if c=slot then some w.heap.size else σ c) lm A ro { s with heap:=s.heap.set slot (.var z) } a (w.alloc (.cells vs e)):=by
 have hσ:σ slot=none:=by
  cases hs:σ slot with
  | none=>rfl
  | some b=>obtain⟨x,hl,hx⟩:=h.inv.dom slot b hs;rw[hslot] at hl;cases hl;cases hx
 have hs':∀ c b,σ c=some b→(if c=slot then some w.heap.size else σ c)=some b:=fun c b e=>by
  by_cases hc:c=slot
  ·subst hc;rw[hσ] at e;cases e
  ·rw[if_neg hc];exact e
 have h1:=h.alloc (.cells vs e) (fun o=>if o<vs.size then .cell slot o else .free)
  (fun o v e=>by split at e <;> cases e) (fun o l j e=>by split at e <;> cases e)
 have hlt:slot<s.heap.length:=by
  rcases Nat.lt_or_ge slot s.heap.length with hq | hq
  ·exact hq
  ·rw[List.getElem?_eq_none hq] at hslot;cases hslot
 refine⟨?_,h1.len,h1.nt,fun t=>(h1.tm t).mono (Fix.le.refl _) hs' (fun _ _ x=>x) (fun _ _ _ x=>x),h1.marks,h1.nodup,h1.round,h1.glob⟩
 ·refine⟨h1.inv.fixed,h1.inv.spare,h1.inv.live,?_,?_,?_,h1.inv.plen,?_⟩
  ·intro c b hc
   by_cases hcs:c=slot
   ·subst hcs;exact⟨.var z,by simp[hlt],rfl⟩
   ·rw[if_neg hcs] at hc
    obtain⟨l,hl,hx⟩:=h1.inv.dom c b hc
    exact⟨l,by simp only[List.getElem?_set];rw[if_neg (fun e=>hcs e.symm)];exact hl,hx⟩
  ·intro c l hc
   simp only[List.getElem?_set] at hc
   by_cases hcs:slot=c
   ·subst hcs
    simp only[if_true,hlt] at hc
    cases hc
    refine⟨w.heap.size,by simp,by simp,fun j av hj=>?_⟩
    obtain⟨v,hv,hr⟩:=hz.get j av hj
    have hjl:j<vs.size:=by
     rcases Nat.lt_or_ge j vs.toList.length with hq | hq
     ·simpa using hq
     ·rw[List.getElem?_eq_none hq] at hv;cases hv
    refine⟨v,?_,by simp,by simp[Tags.new,hjl],hr.mono (h.inv.le_new _) hs' (fun _ _ x=>x) (fun _ _ _ x=>x.elim)⟩
    rw[World.cell?_alloc_new]
    simpa using hv
   ·rw[if_neg hcs] at hc
    obtain⟨b,g1,g2,g3⟩:=h1.inv.var c l hc
    refine⟨b,hs' c b g1,g2,fun j av hj=>?_⟩
    obtain⟨v,e1,e2,e3,e4⟩:=g3 j av hj
    exact⟨v,e1,e2,e3,e4.mono (Fix.le.refl _) hs' (fun _ _ x=>x) (fun _ _ _ x=>x)⟩
  ·intro c x hc
   simp only[List.getElem?_set] at hc
   by_cases hcs:slot=c
   ·subst hcs
    simp only[if_true,hlt] at hc
    cases hc;trivial
   ·rw[if_neg hcs] at hc;exact (h1.inv.mem c x hc).keep (hs' c) (Fix.le.refl _) (fun _ _ e=>⟨e,rfl,rfl⟩) (fun _ _ e=>e)
  ·intro i r hr
   obtain⟨b,rec,g1,g2,g3,g4,g5,g6,g7,g8,g9,g10⟩:=h1.inv.loop i r hr
   exact⟨b,rec,g1,g2,g3,g4,g5,g6,g7,g8,fun t=>(g9 t).mono (Fix.le.refl _) hs' (fun _ _ x=>x) (fun _ _ _ x=>x),g10⟩
end
end Go.Am
namespace Go.Am
open Go
theorem setCells_world (b:Nat):∀ (vs:List Value) (o:Nat) (w:World),(w.setCells b o vs).os=w.os∧(w.setCells b o vs).tape=w.tape∧(w.setCells b o vs).output=w.output∧(w.setCells b o vs).heap.size=w.heap.size ∧
  ∀ k,k≠b→(w.setCells b o vs).heap[k]?=w.heap[k]?
 | [],o,w=>⟨rfl,rfl,rfl,rfl,fun _ _=>rfl⟩
 | v :: vs,o,w=>by
  obtain⟨h1,h2,h3,h4,h5⟩:=setCells_world b vs (o+1) (w.setCell ⟨b,o,none⟩ v)
  refine⟨h1.trans rfl,h2.trans rfl,h3.trans rfl,h4.trans (by simp),fun k hk=>(h5 k hk).trans ?_⟩
  exact Go.RowKit.Below.heap_setCell w ⟨b,o,none⟩ v k hk
theorem setCells_noncell (b:Nat):∀ (vs:List Value) (o:Nat) (w:World) (k:Nat) (ob:Obj),w.heap[k]?=some ob→(∀ c e f,ob≠.cells c e f)→(w.setCells b o vs).heap[k]?=some ob
 | [],o,w,k,ob,h,_=>h
 | v :: vs,o,w,k,ob,h,hn=>by
  refine setCells_noncell b vs (o+1) (w.setCell ⟨b,o,none⟩ v) k ob ?_ hn
  simp only[World.setCell,Array.getElem?_modify]
  split
  ·cases ob <;> first | (rw[h];rfl) | exact absurd rfl (hn _ _ _)
  ·exact h
section
variable {X:Ext} {T:Tags} {σ lm:Nat→Option Nat} {A:Amb} {ro:Option Nat} {s:St} {a:Act} {w:World}
theorem cell_setCells_out {b o:Nat} {vs:List Value} {x y:Nat} (h:x=b→y<o∨o+vs.length≤y):(w.setCells b o vs).cell? ⟨x,y,none⟩=w.cell? ⟨x,y,none⟩ :=
 World.cell?_setCells_out b vs o w ⟨x,y,none⟩ fun e _=>h e
theorem frozen_setCells {b o:Nat} {vs:List Value} {x y:Nat}:(w.setCells b o vs).frozen? ⟨x,y,none⟩=w.frozen? ⟨x,y,none⟩ :=
 World.frozen?_setCells b vs o w ⟨x,y,none⟩
theorem keeps_setCells {T':Tags} (b o:Nat) (vs:List Value) (hm:∀ j,j<vs.length→(T b (o+j)).mine=true)
  (hT:∀ x y,(x≠b∨y<o∨o+vs.length≤y)→T' x y=T x y):Keeps T w T' (w.setCells b o vs):={
 os:=(setCells_world b vs o w).1
 tape:=(setCells_world b vs o w).2.1
 output:=(setCells_world b vs o w).2.2.1
 size:=Nat.le_of_eq (setCells_world b vs o w).2.2.2.1.symm
 fixed:=fun x y v e=>by
  rw[hT x y];· exact e
  by_cases hx:x=b
  ·subst hx
   by_cases hy:y<o∨o+vs.length≤y
   ·exact .inr hy
   ·exfalso
    have:=hm (y-o) (by omega)
    rw[show o+(y-o)=y by omega,e] at this
    cases this
  ·exact .inl hx
 free:=fun x y _ e=>by
  rw[hT x y];· exact e
  by_cases hx:x=b
  ·subst hx
   by_cases hy:y<o∨o+vs.length≤y
   ·exact .inr hy
   ·exfalso
    have:=hm (y-o) (by omega)
    rw[show o+(y-o)=y by omega,e] at this
    cases this
  ·exact .inl hx
 cell:=fun x y _ e=>by
  refine⟨cell_setCells_out fun hx=>?_,frozen_setCells⟩
  subst hx
  by_cases hy:y<o∨o+vs.length≤y
  ·exact hy
  ·exfalso
   have:=hm (y-o) (by omega)
   rw[show o+(y-o)=y by omega,e] at this
   cases this
 block:=fun x hx e=>by
  by_cases hb:x=b
  ·subst hb
   cases vs with
   | nil=>rfl
   | cons v vs =>
    exfalso
    have:=hm 0 (by simp)
    rw[e] at this
    cases this
  ·exact (setCells_world b vs o w).2.2.2.2 x hb }
theorem Rel.store (h:Rel X T σ lm A ro s a w) (c off:Nat) (l new:List AV) (vs:List Value) (b:Nat) (hc:s.heap[c]?=some (.var l)) (hb:σ c=some b) (hlen:new.length=vs.length) (hfit:off+new.length≤l.length)
  (hr:∀ (j:Nat) av v,new[j]?=some av→vs[j]?=some v→Rep T.fix σ lm (T.own (.leaf c (off+j))) av v) :
  Keeps T w T (w.setCells b off vs)∧Rel X T σ lm A ro { s with heap:=s.heap.set c (.var (l.take off ++ new ++ l.drop (off+new.length))) } a (w.setCells b off vs):=by
 obtain⟨b',h1,h2,h3⟩:=h.inv.var c l hc
 rw[hb] at h1
 cases h1
 have htag:∀ j,j<l.length→T b j=.cell c j:=fun j hj=>by
  obtain⟨v,_,_,e,_⟩:=h3 j l[j] (List.getElem?_eq_getElem hj)
  exact e
 have hm:∀ j,j<vs.length→(T b (off+j)).mine=true:=fun j hj=>by rw[htag (off+j) (by omega)];rfl
 have hk:=keeps_setCells (T:=T) (T':=T) (w:=w) b off vs hm (fun _ _ _=>rfl)
 have hclt:c<s.heap.length:=by
  rcases Nat.lt_or_ge c s.heap.length with hq | hq
  ·exact hq
  ·rw[List.getElem?_eq_none hq] at hc;cases hc
 have hsome:∀ j,j<vs.length→(w.cell? ⟨b,off+j,none⟩).isSome=true:=fun j hj=>by
  obtain⟨v,e,_⟩:=h3 (off+j) _ (List.getElem?_eq_getElem (show off+j<l.length by omega))
  rw[e];rfl
 have notours:∀ x y,(∀ j,T x y≠.cell c j)→(x=b→y<off∨off+vs.length≤y):=fun x y hxy hx=>by
  subst hx
  by_cases hy:y<off∨off+vs.length≤y
  ·exact hy
  ·exfalso;exact hxy y (htag y (by omega))
 refine⟨hk,⟨?_,h.len,h.nt,h.tm,?_,h.nodup,h.round,h.glob⟩⟩
 ·refine⟨?_,?_,?_,?_,?_,?_,h.inv.plen,?_⟩
  ·intro x y v e
   rw[cell_setCells_out (notours x y fun j e'=>by rw[e] at e';cases e')]
   exact h.inv.fixed x y v e
  ·intro x y m j e
   rw[cell_setCells_out (notours x y fun j e'=>by rw[e] at e';cases e'),frozen_setCells]
   exact h.inv.spare x y m j e
  ·intro x y e
   rw[(setCells_world b vs off w).2.2.2.1]
   exact h.inv.live x y e
  ·intro c' b' e
   obtain⟨q,hq,hx⟩:=h.inv.dom c' b' e
   by_cases hcc:c=c'
   ·subst hcc;exact⟨.var (l.take off ++ new ++ l.drop (off+new.length)),by simp[hclt],rfl⟩
   ·exact⟨q,by simp only[List.getElem?_set];rw[if_neg hcc];exact hq,hx⟩
  ·intro c' q hq
   simp only[List.getElem?_set] at hq
   by_cases hcc:c=c'
   ·subst hcc
    simp only[if_true,hclt] at hq
    cases hq
    refine⟨b,hb,by rw[(setCells_world b vs off w).2.2.2.1];exact h2,fun j av hj=>?_⟩
    have hjl:j<l.length:=by
     rcases Nat.lt_or_ge j (l.take off ++ new ++ l.drop (off+new.length)).length with hq | hq
     ·simp at hq;omega
     ·rw[List.getElem?_eq_none hq] at hj;cases hj
    obtain⟨v0,e1,e2,e3,e4⟩:=h3 j l[j] (List.getElem?_eq_getElem hjl)
    by_cases hin:off≤j∧j<off+vs.length
    ·have hj':new[j-off]?=some av:=by
      rw[List.append_assoc,List.getElem?_append_right (by simp;omega),List.getElem?_append_left (by simp;omega)] at hj
      simpa[show min off l.length=off by omega] using hj
     have hlt':j-off<vs.length:=by omega
     have hcell:=World.cell?_setCells_in b vs off w hsome (j-off) hlt'
     rw[show off+(j-off)=j by omega] at hcell
     refine⟨vs[j-off],hcell,by rw[frozen_setCells];exact e2,e3,?_⟩
     have:=hr (j-off) av vs[j-off] hj' (List.getElem?_eq_getElem hlt')
     rwa [show off+(j-off)=j by omega] at this
    ·have hj':l[j]?=some av:=by
      by_cases hlo:j<off
      ·rw[List.append_assoc,List.getElem?_append_left (by simp;omega),List.getElem?_take_of_lt hlo] at hj
       exact hj
      ·rw[List.getElem?_append_right (by simp;omega)] at hj
       simp only[List.length_append,List.length_take,List.getElem?_drop] at hj
       rw[show off+new.length+(j-(min off l.length+new.length))=j by omega] at hj
       exact hj
     obtain⟨v,e1,e2,e3,e4⟩:=h3 j av hj'
     exact⟨v,by rw[cell_setCells_out (fun _=>by omega)];exact e1,by rw[frozen_setCells];exact e2,e3,e4⟩
   ·rw[if_neg hcc] at hq
    obtain⟨b',g1,g2,g3⟩:=h.inv.var c' q hq
    refine⟨b',g1,by rw[(setCells_world b vs off w).2.2.2.1];exact g2,fun j av hj=>?_⟩
    obtain⟨v,e1,e2,e3,e4⟩:=g3 j av hj
    exact⟨v,by rw[cell_setCells_out (notours b' j fun j' e'=>by rw[e3] at e';cases e';exact hcc rfl)];exact e1,by rw[frozen_setCells];exact e2,e3,e4⟩
  ·intro c' x hq
   simp only[List.getElem?_set] at hq
   by_cases hcc:c=c'
   ·subst hcc
    simp only[if_true,hclt] at hq
    cases hq;trivial
   ·rw[if_neg hcc] at hq
    refine (h.inv.mem c' x hq).keep (fun _ h=>h) (Fix.le.refl _) (fun b' k e=>⟨e,cell_setCells_out (notours b' k fun j' e'=>by rw[e] at e';cases e';exact hcc rfl),frozen_setCells⟩) (fun _ _ e=>e) (fun _ _ _ _ h=>setCells_noncell b vs off w _ _ h (fun _ _ _ e=>by cases e))
  ·intro i r hr'
   obtain⟨b',rec,g1,g2,g3,g4⟩:=h.inv.loop i r hr'
   exact⟨b',rec,g1,g2,setCells_noncell b vs off w b' _ g3 (fun _ _ _ e=>by cases e),g4⟩
 ·intro d hd
  obtain⟨D,e1,e2,e3⟩:=h.marks d hd
  exact⟨D,e1,setCells_noncell b vs off w D _ e2 (fun _ _ _ e=>by cases e),e3⟩
def Tags.grown (T:Tags) (b o:Nat) (vs:List Value):Tags:=fun x y=>if x=b∧o≤y∧y<o+vs.length then .fixed (vs.getD (y-o) undef) else T x y
theorem Rel.grow (h:Rel X T σ lm A ro s a w) (l:Loc) (b o:Nat) (vs:List Value) (hs:∀ j,j<vs.length→∃ q,T b (o+j)=.spare l q)
  (hl:∀ c j,l=.leaf c j→∀ q av v,s.heap[c]?=some (.var q)→q[j]?=some av→Rep T.fix σ lm (T.own (.leaf c j)) av v→Rep T.fix σ lm noOwn av v)
  (ht:∀ t,l=.tmp t→Rep T.fix σ lm noOwn (getT s.tmps t) (a.tmps.getD t undef)) (hrow:∀ c j,l=.leaf c j→∀ e xs,s.heap[c]?≠some (.row e xs)) :
  Keeps T w (T.grown b o vs) (w.setCells b o vs)∧Rel X (T.grown b o vs) σ lm A ro s a (w.setCells b o vs)∧(∀ j v,vs[j]?=some v→FixAt (T.grown b o vs).fix ⟨b,o,none⟩ j v):=by
 have hm:∀ j,j<vs.length→(T b (o+j)).mine=true:=fun j hj=>by obtain⟨q,e⟩:=hs j hj;rw[e];rfl
 have hout:∀ x y,(x≠b∨y<o∨o+vs.length≤y)→T.grown b o vs x y=T x y:=fun x y hxy=>by
  unfold Tags.grown
  rw[if_neg]
  rintro⟨h1,h2,h3⟩
  rcases hxy with h4 | h4 | h4
  ·exact h4 h1
  ·omega
  ·omega
 have hin:∀ x y,¬ (x≠b∨y<o∨o+vs.length≤y)→∃ q,T x y=.spare l q:=fun x y hxy=>by
  have hx:x=b:=by
   by_cases hx:x=b
   ·exact hx
   ·exact absurd (.inl hx) hxy
  subst hx
  obtain⟨q,e⟩:=hs (y-o) (by omega)
  rw[show o+(y-o)=y by omega] at e
  exact⟨q,e⟩
 have hk:=keeps_setCells (T:=T) (T':=T.grown b o vs) (w:=w) b o vs hm hout
 have hsome:∀ j,j<vs.length→(w.cell? ⟨b,o+j,none⟩).isSome=true:=fun j hj=>by
  obtain⟨q,e⟩:=hs j hj
  exact (h.inv.spare _ _ _ _ e).1
 have hfix:Fix.le T.fix (T.grown b o vs).fix:=fun x y v e=>by
  rw[Tags.fix_eq] at e ⊢
  exact hk.fixed x y v e
 have hown:∀ m,m≠l→∀ j x y,T.own m j x y→(T.grown b o vs).own m j x y:=fun m hml j x y e=>by
  unfold Tags.own at *
  by_cases hxy:x≠b∨y<o∨o+vs.length≤y
  ·rw[hout x y hxy];exact e
  ·obtain⟨q,e'⟩:=hin x y hxy
   rw[e] at e';cases e';exact absurd rfl hml
 have keep:∀ x y,(∀ q,T x y≠.spare l q)→(x≠b∨y<o∨o+vs.length≤y):=fun x y hxy=>by
  by_cases hq:x≠b∨y<o∨o+vs.length≤y
  ·exact hq
  ·obtain⟨q,e⟩:=hin x y hq;exact absurd e (hxy q)
 have keep':∀ x y,(∀ q,T x y≠.spare l q)→(w.setCells b o vs).cell? ⟨x,y,none⟩=w.cell? ⟨x,y,none⟩:=fun x y hxy =>
  cell_setCells_out fun e=>by
   rcases keep x y hxy with h1 | h1
   ·exact absurd e h1
   ·exact h1
 refine⟨hk,⟨?_,h.len,h.nt,?_,?_,h.nodup,h.round,?_⟩,?_⟩
 ·refine⟨?_,?_,?_,h.inv.dom,?_,?_,h.inv.plen,?_⟩
  ·intro x y v e
   by_cases hxy:x≠b∨y<o∨o+vs.length≤y
   ·rw[hout x y hxy] at e
    rw[keep' x y fun q e'=>by rw[e] at e';cases e']
    exact h.inv.fixed x y v e
   ·have hx:x=b:=by
     by_cases hx:x=b
     ·exact hx
     ·exact absurd (.inl hx) hxy
    subst hx
    unfold Tags.grown at e
    rw[if_pos ⟨rfl,by omega,by omega⟩] at e
    cases e
    have hlt:y-o<vs.length:=by omega
    have:=World.cell?_setCells_in x vs o w hsome (y-o) hlt
    rw[show o+(y-o)=y by omega] at this
    rw[this]
    simp[List.getD_eq_getElem?_getD,List.getElem?_eq_getElem hlt]
  ·intro x y m j e
   have hxy:x≠b∨y<o∨o+vs.length≤y:=by
    by_cases hq:x≠b∨y<o∨o+vs.length≤y
    ·exact hq
    ·exfalso
     unfold Tags.grown at e
     rw[if_pos (by
      refine⟨?_,by omega,by omega⟩
      by_cases hx:x=b
      ·exact hx
      ·exact absurd (.inl hx) hq)] at e
     cases e
   rw[hout x y hxy] at e
   rw[cell_setCells_out (fun hx=>by
    rcases hxy with h1 | h1
    ·exact absurd hx h1
    ·exact h1),frozen_setCells]
   exact h.inv.spare x y m j e
  ·intro x y e
   rw[(setCells_world b vs o w).2.2.2.1]
   refine h.inv.live x y fun hf=>e ?_
   rw[hout x y (keep x y fun q e'=>by rw[hf] at e';cases e')]
   exact hf
  ·intro c q hq
   obtain⟨b',g1,g2,g3⟩:=h.inv.var c q hq
   refine⟨b',g1,by rw[(setCells_world b vs o w).2.2.2.1];exact g2,fun j av hj=>?_⟩
   obtain⟨v,e1,e2,e3,e4⟩:=g3 j av hj
   have hns:∀ q,T b' j≠.spare l q:=fun q e'=>by rw[e3] at e';cases e'
   refine⟨v,by rw[keep' _ _ hns];exact e1,by rw[frozen_setCells];exact e2,by rw[hout _ _ (keep _ _ hns)];exact e3,?_⟩
   by_cases hm:Loc.leaf c j=l
   ·exact (hl c j hm.symm q av v hq hj e4).mono hfix (fun _ _ x=>x) (fun _ _ x=>x) (fun _ _ _ x=>x.elim)
   ·exact e4.mono hfix (fun _ _ x=>x) (fun _ _ x=>x) (hown _ hm)
  ·intro c x hx
   cases x with
   | row e xs =>
    refine (h.inv.mem c _ hx).keep (fun _ h=>h) hfix (fun b' k e'=>?_) (fun b' k e'=>?_) (fun _ _ _ _ h=>setCells_noncell b vs o w _ _ h (fun _ _ _ e=>by cases e))
    ·have hns:∀ q,T b' k≠.spare l q:=fun q e2=>by rw[e'] at e2;cases e2
     exact⟨by rw[hout _ _ (keep _ _ hns)];exact e',keep' _ _ hns,frozen_setCells⟩
    ·rw[hout _ _ (keep _ _ fun q e2=>by rw[e'] at e2;cases e2;exact hrow c 0 rfl e xs hx)];exact e'
   | var l=>trivial
   | empty=>trivial
   | gone=>trivial
   | map _ _ _=>exact (h.inv.mem c _ hx).keepM (fun _ h=>h) hfix (fun b' k e'=>by rw[hout _ _ (keep _ _ fun q e2=>by rw[e'] at e2;cases e2)];exact e') (fun _ _ _ _ h=>setCells_noncell b vs o w _ _ h (fun _ _ _ e=>by cases e))
   | mapv _ _ _=>exact (h.inv.mem c _ hx).keepMv (fun _ h=>h) hfix (fun b' k e'=>by rw[hout _ _ (keep _ _ fun q e2=>by rw[e'] at e2;cases e2)];exact e') (fun _ _ _ _ h=>setCells_noncell b vs o w _ _ h (fun _ _ _ e=>by cases e))
  ·intro i r hr'
   obtain⟨b',rec,g1,g2,g3,g4,g5,g6,g7,g8,g9,g10⟩:=h.inv.loop i r hr'
   exact⟨b',rec,g1,by rw[hout _ _ (keep _ _ fun q e'=>by rw[g2] at e';cases e')];exact g2,setCells_noncell b vs o w b' _ g3 (fun _ _ _ e=>by cases e),g4,g5,g6,g7,g8,fun t=>(g9 t).mono hfix (fun _ _ x=>x) (fun _ _ x=>x) (fun _ _ _ x=>x),g10⟩
 ·intro t
  by_cases hm:Loc.tmp t=l
  ·exact (ht t hm.symm).mono hfix (fun _ _ x=>x) (fun _ _ x=>x) (fun _ _ _ x=>x.elim)
  ·exact (h.tm t).mono hfix (fun _ _ x=>x) (fun _ _ x=>x) (hown _ hm)
 ·intro d hd
  obtain⟨D,e1,e2,e3⟩:=h.marks d hd
  exact⟨D,e1,setCells_noncell b vs o w D _ e2 (fun _ _ _ e=>by cases e),fun o=>by rw[hout _ _ (keep _ _ fun q e'=>by rw[e3] at e';cases e')];exact e3 o⟩
 ·exact h.glob.mono hfix
 ·intro j v hv
  have hlt:j<vs.length:=by
   rcases Nat.lt_or_ge j vs.length with hq | hq
   ·exact hq
   ·rw[List.getElem?_eq_none hq] at hv;cases hv
  unfold FixAt
  rw[add_none]
  refine⟨rfl,?_⟩
  rw[Tags.fix_eq]
  unfold Tags.grown
  rw[if_pos ⟨rfl,by simp,by simp;omega⟩]
  simp[List.getD_eq_getElem?_getD,hv]
end
end Go.Am
namespace Go.Am
open Go
variable {R:Type}
def AllD (F:Fix) (e:Ty):List e.den→List (List Value)→Prop
 | [],css=>css=[]
 | x :: xs,css=>∃ ds rest,css=ds :: rest∧CellsD F e x ds∧AllD F e xs rest
theorem AllD.mono {F F':Fix} (hf:F.le F') {e:Ty}:∀ {xs:List e.den} {css:List (List Value)},AllD F e xs css→AllD F' e xs css:=by
 intro xs
 induction xs with
 | nil=>intro css h;exact h
 | cons x xs ih=>intro css h;obtain⟨ds,rest,h1,h2,h3⟩:=h;exact⟨ds,rest,h1,h2.mono hf,ih h3⟩
theorem AllD.len {F:Fix} {e:Ty}:∀ {xs:List e.den} {css:List (List Value)},AllD F e xs css→css.flatten.length=xs.length*e.width:=by
 intro xs
 induction xs with
 | nil=>intro css h;simp only[AllD] at h;subst h;simp
 | cons x xs ih =>
  intro css h
  obtain⟨ds,rest,rfl,h2,h3⟩:=h
  simp[ih h3,h2.length,Nat.add_mul];omega
theorem AllD.get {F:Fix} {e:Ty}:∀ {xs:List e.den} {css:List (List Value)},AllD F e xs css→∀ (i:Nat) x,xs[i]?=some x→∃ ds,CellsD F e x ds∧∀ (j:Nat) v,ds[j]?=some v→css.flatten[i*e.width+j]?=some v:=by
 intro xs
 induction xs with
 | nil=>intro css _ i x h;simp at h
 | cons y xs ih =>
  intro css h i x hx
  obtain⟨ds,rest,rfl,h2,h3⟩:=h
  have hl:=h2.length
  cases i with
  | zero =>
   simp at hx;subst hx
   refine⟨ds,h2,fun j v hv=>?_⟩
   have:j<ds.length:=by
    rcases Nat.lt_or_ge j ds.length with hq | hq
    ·exact hq
    ·rw[List.getElem?_eq_none hq] at hv;cases hv
   simp only[List.flatten_cons,Nat.zero_mul,Nat.zero_add]
   rw[List.getElem?_append_left this];exact hv
  | succ i =>
   obtain⟨es,g1,g2⟩:=ih h3 i x (by simpa using hx)
   refine⟨es,g1,fun j v hv=>?_⟩
   simp only[List.flatten_cons]
   have e1:(i+1)*e.width+j=ds.length+(i*e.width+j):=by rw[Nat.add_mul];omega
   rw[e1,List.getElem?_append_right (by omega)]
   simpa using g2 j v hv
theorem RowsD.all {F:Fix} {e:Ty} (hw:0<e.width):∀ {xs:List e.den} {a:Option Addr},RowsD F e xs a→∃ css,AllD F e xs css∧∀ (k:Nat) v,css.flatten[k]?=some v→∃ ad,a=some ad∧FixAt F ad k v:=by
 intro xs
 induction xs with
 | nil=>intro a h;exact⟨[],rfl,fun k v hv=>by simp at hv⟩
 | cons x xs ih =>
  intro a h
  obtain⟨ds,hd,hx⟩:=h 0 x rfl
  have h':RowsD F e xs (a.map (·.add e.width)):=by
   intro i y hy
   obtain⟨es,h1,h2⟩:=h (i+1) y (by simpa using hy)
   refine⟨es,h1,fun j v hv=>?_⟩
   obtain⟨ad,e1,e2⟩:=h2 j v hv
   refine⟨ad.add e.width,by rw[e1];rfl,?_⟩
   have e3:(i+1)*e.width+j=e.width+(i*e.width+j):=by rw[Nat.add_mul];omega
   rw[e3] at e2
   exact e2.drop
  obtain⟨css,h1,h2⟩:=ih h'
  refine⟨ds :: css,⟨ds,css,rfl,hd,h1⟩,fun k v hv=>?_⟩
  have hl:=hd.length
  simp only[List.flatten_cons] at hv
  by_cases hk:k<ds.length
  ·rw[List.getElem?_append_left hk] at hv
   have:=hx k v hv
   simpa using this
  ·rw[List.getElem?_append_right (by omega)] at hv
   obtain⟨ad,e1,e2⟩:=h2 _ v hv
   cases a with
   | none=>cases e1
   | some a0 =>
    cases e1
    refine⟨a0,rfl,?_⟩
    unfold FixAt at *
    rw[add_add,hl] at e2
    rwa [show e.width+(k-e.width)=k by omega] at e2
theorem RowsD.of_all {F:Fix} {e:Ty} {xs:List e.den} {css:List (List Value)} (h:AllD F e xs css) {b o:Nat} (hf:∀ (k:Nat) v,css.flatten[k]?=some v→FixAt F ⟨b,o,none⟩ k v):RowsD F e xs (some ⟨b,o,none⟩):=by
 intro i x hx
 obtain⟨ds,h1,h2⟩:=h.get i x hx
 exact⟨ds,h1,fun j v hv=>⟨_,rfl,hf _ v (h2 j v hv)⟩⟩
theorem CellsD.one {F:Fix}:∀ {t:Ty} {x:t.den} {cs:List Value},CellsD F t x cs→∀ v∈cs,v.oneCell'=true:=by
 intro t
 induction t with
 | unit=>intro x cs h v hv;simp only[CellsD] at h;subst h;simp at hv
 | int k=>intro x cs h v hv;simp only[CellsD] at h;subst h;simp at hv;subst hv;rfl
 | bool=>intro x cs h v hv;simp only[CellsD] at h;subst h;simp at hv;subst hv;rfl
 | str=>intro x cs h v hv;simp only[CellsD] at h;subst h;simp at hv;subst hv;rfl
 | slice e ih=>intro x cs h v hv;obtain⟨a,cap,rfl,_⟩:=h;simp at hv;subst hv;rfl
 | pair a b iha ihb =>
  intro x cs h v hv
  obtain⟨c,d,rfl,h1,h2⟩:=h
  rcases List.mem_append.1 hv with hv | hv
  ·exact iha h1 v hv
  ·exact ihb h2 v hv
 | sum a b=>intro x cs h;exact h.elim
theorem AllD.one {F:Fix} {e:Ty}:∀ {xs:List e.den} {css:List (List Value)},AllD F e xs css→∀ v∈css.flatten,v.oneCell'=true:=by
 intro xs
 induction xs with
 | nil=>intro css h v hv;simp only[AllD] at h;subst h;simp at hv
 | cons x xs ih =>
  intro css h v hv
  obtain⟨ds,rest,rfl,h2,h3⟩:=h
  rcases List.mem_append.1 (by simpa using hv:v∈ds ++ rest.flatten) with hv | hv
  ·exact h2.one v hv
  ·exact ih h3 v hv
theorem AllD.append {F:Fix} {e:Ty}:∀ {xs ys:List e.den} {css dss:List (List Value)},AllD F e xs css→AllD F e ys dss→AllD F e (xs ++ ys) (css ++ dss):=by
 intro xs
 induction xs with
 | nil=>intro ys css dss h k;simp only[AllD] at h;subst h;exact k
 | cons x xs ih =>
  intro ys css dss h k
  obtain⟨ds,rest,rfl,h2,h3⟩:=h
  exact⟨ds,rest ++ dss,rfl,h2,ih h3 k⟩
section
variable {X:Ext} {T:Tags} {σ lm:Nat→Option Nat} {A:Amb} {ro:Option Nat} {s:St} {a:Act} {w:World}
theorem Rel.fixedCell (h:Rel X T σ lm A ro s a w) {ad:Addr} {i:Nat} {v:Value} (hf:FixAt T.fix ad i v):w.cell? (ad.add i)=some v:=by
 obtain⟨h1,h2⟩:=hf
 rw[Tags.fix_eq] at h2
 have:=h.inv.fixed _ _ _ h2
 have e:ad.add i=⟨(ad.add i).block,(ad.add i).off,none⟩:=by
  cases hq:ad.add i with
  | mk b o sp=>rw[hq] at h1;simp only at h1;subst h1;rfl
 rw[e];exact this
theorem list_choice {Q:Nat→AV→Value→Prop}:∀ (l:List AV) (n:Nat),(∀ (j:Nat) av,l[j]?=some av→∃ v,Q (n+j) av v)→∃ vs:List Value,vs.length=l.length∧∀ (j:Nat) av v,l[j]?=some av→vs[j]?=some v→Q (n+j) av v:=by
 intro l
 induction l with
 | nil=>intro n _;exact⟨[],rfl,fun j av v h=>by simp at h⟩
 | cons x l ih =>
  intro n h
  obtain⟨v,hv⟩:=h 0 x rfl
  obtain⟨vs,h1,h2⟩:=ih (n+1) fun j av hj=>by
   obtain⟨u,hu⟩:=h (j+1) av (by simpa using hj)
   exact⟨u,by rw[show n+1+j=n+(j+1) by omega];exact hu⟩
  refine⟨v :: vs,by simp[h1],fun j av u hj hu=>?_⟩
  cases j with
  | zero=>simp at hj hu;subst hj;subst hu;exact hv
  | succ j =>
   have:=h2 j av u (by simpa using hj) (by simpa using hu)
   rwa [show n+1+j=n+(j+1) by omega] at this
theorem run_load_agg {P:Program} {t:TypeId} {d:TypeDesc} (ha:aggType P t=true) (hd:P.underlying t=some d) (hi:(P.info? t).isSome=true) (vs:List Value) (ad:Addr) (w:World) (hl:sizeT P t≤vs.length)
  (hc:∀ (j:Nat) v,vs[j]?=some v→w.cell? (ad.add j)=some v):(loadVar t ad).run P w=.ok (.agg (vs.take (sizeT P t)).toArray) w:=by
 unfold loadVar
 simp only[Sem.run_bind,run_isAgg' hd,Result.andThen_ok,ha,if_true,run_sizeOf_some hi]
 have h1:=run_loadCells_list (P:=P) w ad (vs.take (sizeT P t)) fun j v hv=>by
  rw[List.getElem?_take] at hv
  split at hv
  ·exact hc j v hv
  ·cases hv
 have h2:(vs.take (sizeT P t)).length=sizeT P t:=by simp;omega
 rw[h2] at h1
 rw[h1]
 rfl
theorem run_load_one {P:Program} {t:TypeId} {d:TypeDesc} (ha:aggType P t=false) (hd:P.underlying t=some d) (ad:Addr) (u:Value) (w:World) (hc:w.cell? ad=some u):(loadVar t ad).run P w=.ok u w:=by
 unfold loadVar
 simp only[Sem.run_bind,run_isAgg' hd,Result.andThen_ok,ha,Bool.false_eq_true,if_false,run_load,hc]
def StepTo (X:Ext) (T:Tags) (σ lm:Nat→Option Nat) (A:Amb) (ro:Option Nat) (w:World) (s':St) (a':Act) (w':World):Prop :=
 ∃ T' σ',Keeps T w T' w'∧(∀ c b,σ c=some b→σ' c=some b)∧Rel X T' σ' lm A ro s' a' w'
theorem Rel.dullLeaf (h:Rel X T σ lm A ro s a w) (c off:Nat) (l:List AV) (v:AV) (hc:s.heap[c]?=some (.var l)) (hv:l[off]?=some v):Rel X T σ lm A ro { s with heap:=s.heap.set c (.var (l.set off v.dull)) } a w:=by
 have hclt:c<s.heap.length:=by
  rcases Nat.lt_or_ge c s.heap.length with hq | hq
  ·exact hq
  ·rw[List.getElem?_eq_none hq] at hc;cases hc
 have hl:off<l.length:=by
  rcases Nat.lt_or_ge off l.length with hq | hq
  ·exact hq
  ·rw[List.getElem?_eq_none hq] at hv;cases hv
 refine⟨⟨h.inv.fixed,h.inv.spare,h.inv.live,?_,?_,?_,h.inv.plen,h.inv.loop⟩,h.len,h.nt,h.tm,h.marks,h.nodup,h.round,h.glob⟩
 ·intro c' b e
  obtain⟨q,hq,hx⟩:=h.inv.dom c' b e
  by_cases hcc:c=c'
  ·subst hcc;exact⟨.var (l.set off v.dull),by simp[hclt],rfl⟩
  ·exact⟨q,by simp only[List.getElem?_set];rw[if_neg hcc];exact hq,hx⟩
 ·intro c' q hq
  simp only[List.getElem?_set] at hq
  by_cases hcc:c=c'
  ·subst hcc
   simp only[if_true,hclt] at hq
   cases hq
   obtain⟨b,g1,g2,g3⟩:=h.inv.var c l hc
   refine⟨b,g1,g2,fun j av hj=>?_⟩
   rw[List.getElem?_set] at hj
   by_cases hjo:off=j
   ·subst hjo
    simp[hl] at hj
    subst hj
    obtain⟨u,e1,e2,e3,e4⟩:=g3 off v hv
    exact⟨u,e1,e2,e3,e4.dull⟩
   ·rw[if_neg hjo] at hj
    exact g3 j av hj
  ·rw[if_neg hcc] at hq;exact h.inv.var c' q hq
 ·intro c' x hq
  simp only[List.getElem?_set] at hq
  by_cases hcc:c=c'
  ·subst hcc
   simp only[if_true,hclt] at hq
   cases hq;trivial
  ·rw[if_neg hcc] at hq;exact h.inv.mem c' x hq
theorem eff_on_pure (av:AV) (d:Option Tmp) (s:St):({ val:=av }:Eff).on d s s.pend=s.put d av:=by
 unfold Eff.on St.put
 cases d <;> simp[dullAll,setAll]
theorem Rel.pure_step (h:Rel X T σ lm A ro s a w) (d:Option Tmp) {av:AV} {v:Value} (hr:Rep T.fix σ lm noOwn av v) :
  StepTo X T σ lm A ro w (({ val:=av }:Eff).on d s s.pend) (a.put d v) w:=by
 rw[eff_on_pure]
 exact⟨T,σ,Keeps.refl _ _,(by intros;assumption),h.put d fun t _=>hr.mono (Fix.le.refl _) (fun _ _ x=>x) (fun _ _ x=>x) (fun _ _ _ x=>x.elim)⟩
theorem Rel.rowElem (h:Rel X T σ lm A ro s a w) {c m p:Nat} {e:Ty} {xs:List e.den} {x:e.den} (hc:s.heap[c]?=some (.row e xs)) (hx:xs[m]?=some x) (hp:σ c=some p) :
  ∃ ds,CellsD T.fix e x ds∧∀ (j:Nat) v,ds[j]?=some v→w.cell? ⟨rowB p,m*e.width+j,none⟩=some v∧w.frozen? ⟨rowB p,m*e.width+j,none⟩=false:=by
 obtain⟨p',h1,h2,h3,h4,cs,h5,h6,h7,h8⟩:RowAt T σ w c e xs:=h.inv.mem c _ hc
 rw[hp] at h1;cases h1
 obtain⟨ds,d1,d2⟩:=h6 m x hx
 exact⟨ds,d1,fun j v hj=>(h7 _ v (d2 j v hj)).2⟩
theorem loadK_some {t:TypeId} {keep:Bool} {av:AV} {k:Eff→Option R} {r:R} (h:loadK X t keep av s.heap k=some r) :
  ∃ e,k e=some r∧e.grow=[]∧∀ (T:Tags) (σ lm:Nat→Option Nat) (A:Amb) (ro:Option Nat) (a:Act) (w:World) (ow:Own) (u:Value) (d:Option Tmp),Rel X T σ lm A ro s a w→Rep T.fix σ lm ow av u →
   ∃ v,(Instr.loadAt t u).run X.P w=.ok v w∧StepTo X T σ lm A ro w (e.on d s s.pend) (a.put d v) w:=by
 unfold loadK at h
 split at h
 ·rename_i l
  rcases readLeaves_some h with ⟨ha,hi,hl,hk,dd,hd⟩ | ⟨ha,v,rest,dd,hl,hk,hd⟩
  ·refine⟨_,hk,rfl,fun T σ lm A ro a w ow u d hR hu=>?_⟩
   cases hu with
   | cptr _ l ad vs hr hf =>
   have hlen:=hr.length
   refine⟨_,?_,hR.pure_step d (v:=.agg (vs.take (sizeT X.P t)).toArray) (.agg _ _ _ (repL_dull (hr.take _)))⟩
   simp only[Instr.loadAt,Instr.sureAddr,Sem.run_bind,Sem.run_pure,Result.andThen_ok]
   exact run_load_agg ha hd hi vs ad w (by omega) fun j v hv=>hR.fixedCell (hf j v hv)
  ·refine⟨_,hk,rfl,fun T σ lm A ro a w ow u d hR hu=>?_⟩
   cases hu with
   | cptr _ l ad vs hr hf =>
   obtain⟨x,hx,hrx⟩:=hr.get 0 v (by rw[hl];rfl)
   refine⟨x,?_,hR.pure_step d hrx.dull⟩
   simp only[Instr.loadAt,Instr.sureAddr,Sem.run_bind,Sem.run_pure,Result.andThen_ok]
   have:=hR.fixedCell (hf 0 x hx)
   exact run_load_one ha hd ad x w (by simpa[Addr.add] using this)
 ·rename_i c off
  split at h
  ·rename_i l hc
   rcases readLeaves_some h with ⟨ha,hi,hl,hk,dd,hd⟩ | ⟨ha,v,rest,dd,hl,hk,hd⟩
   ·have hk':k { val:=.agg (((l.drop off).take (sizeT X.P t)).map AV.dull),looks:=[c] }=some r:=by
     cases keep <;> exact hk
    refine⟨_,hk',rfl,fun T σ lm A ro a w ow u d hR hu=>?_⟩
    cases hu with
    | ptr _ c off b hs =>
    obtain⟨b',h1,h2,h3⟩:=hR.inv.var c l hc
    rw[hs] at h1;cases h1
    obtain⟨vs,hv1,hv2⟩:=list_choice (Q:=fun j av v=>w.cell? ⟨b,j,none⟩=some v∧Rep T.fix σ lm (T.own (.leaf c j)) av v) l 0 fun j av hj=>by
     obtain⟨v,e1,e2,e3,e4⟩:=h3 j av hj
     exact⟨v,by simpa using e1,by simpa using e4⟩
    have hget:∀ (j:Nat) v,vs[j]?=some v→∃ av,l[j]?=some av∧w.cell? ⟨b,j,none⟩=some v∧Rep T.fix σ lm (T.own (.leaf c j)) av v:=fun j v hv=>by
     have hlt:j<vs.length:=by
      rcases Nat.lt_or_ge j vs.length with hq | hq
      ·exact hq
      ·rw[List.getElem?_eq_none hq] at hv;cases hv
     have:=hv2 j l[j] v (List.getElem?_eq_getElem (by omega)) hv
     simp only[Nat.zero_add] at this
     exact⟨_,List.getElem?_eq_getElem (by omega),this⟩
    have hrl:RepL T.fix σ lm (l.map AV.dull) vs:=RepL.of_get (by simp[hv1]) fun j av v h1 h2=>by
     simp only[List.getElem?_map,Option.map_eq_some_iff] at h1
     obtain⟨x,hx,rfl⟩:=h1
     obtain⟨x',hx',_,hrx⟩:=hget j v h2
     rw[hx] at hx';cases hx'
     exact hrx.dull
    have hrl2:=(hrl.drop off).take (sizeT X.P t)
    rw[← List.map_drop,← List.map_take] at hrl2
    refine⟨.agg ((vs.drop off).take (sizeT X.P t)).toArray,?_,?_⟩
    rotate_left
    ·have:=hR.pure_step d (v:=.agg ((vs.drop off).take (sizeT X.P t)).toArray) (.agg _ _ _ hrl2)
     exact this
    ·simp only[Instr.loadAt,Instr.sureAddr,Sem.run_bind,Sem.run_pure,Result.andThen_ok]
     refine run_load_agg ha hd hi (vs.drop off) ⟨b,off,none⟩ w (by simp at hl ⊢;omega) fun j v hv=>?_
     rw[List.getElem?_drop] at hv
     obtain⟨_,_,e,_⟩:=hget _ v hv
     rw[add_none];exact e
   ·have h0:l[off]?=some v:=by
     have:(l.drop off)[0]?=some v:=by rw[hl];rfl
     rwa [List.getElem?_drop,Nat.add_zero] at this
    have plain:∀ (T:Tags) (σ lm:Nat→Option Nat) (A:Amb) (ro:Option Nat) (a:Act) (w:World) (ow:Own) (u:Value) (d:Option Tmp),Rel X T σ lm A ro s a w→Rep T.fix σ lm ow (.ptr c off) u →
      ∃ x b,σ c=some b∧(Instr.loadAt t u).run X.P w=.ok x w∧Rep T.fix σ lm (T.own (.leaf c off)) v x∧w.cell? ⟨b,off,none⟩=some x:=by
     intro T σ lm A ro a w ow u d hR hu
     cases hu with
     | ptr _ c off b hs =>
     obtain⟨b',h1,h2,h3⟩:=hR.inv.var c l hc
     rw[hs] at h1;cases h1
     obtain⟨x,e1,e2,e3,e4⟩:=h3 off v h0
     refine⟨x,b,hs,?_,e4,e1⟩
     simp only[Instr.loadAt,Instr.sureAddr,Sem.run_bind,Sem.run_pure,Result.andThen_ok]
     exact run_load_one ha hd ⟨b,off,none⟩ x w e1
    have dull:k { val:=v.dull,looks:=[c] }=some r→∃ e,k e=some r∧e.grow=[]∧∀ (T:Tags) (σ lm:Nat→Option Nat) (A:Amb) (ro:Option Nat) (a:Act) (w:World) (ow:Own) (u:Value) (d:Option Tmp),Rel X T σ lm A ro s a w→Rep T.fix σ lm ow (.ptr c off) u →
      ∃ v,(Instr.loadAt t u).run X.P w=.ok v w∧StepTo X T σ lm A ro w (e.on d s s.pend) (a.put d v) w:=by
     intro hk
     refine⟨_,hk,rfl,fun T σ lm A ro a w ow u d hR hu=>?_⟩
     obtain⟨x,b,_,hx,hrx,_⟩:=plain T σ lm A ro a w ow u d hR hu
     exact⟨x,hx,hR.pure_step d hrx.dull⟩
    cases keep with
    | false=>exact dull hk
    | true =>
     cases v with
     | slice own e xs =>
      refine⟨_,hk,rfl,fun T σ lm A ro a w ow u d hR hu=>?_⟩
      obtain⟨x,b,hs,hx,hrx,hcell⟩:=plain T σ lm A ro a w ow u d hR hu
      refine⟨x,hx,?_⟩
      have h1:=hR.dullLeaf c off l (.slice own e xs) hc h0
      have hon:({ val:=.slice own e xs,writes:=[(c,.var (l.set off (.slice false e xs)))] }:Eff).on d s s.pend=({ s with heap:=s.heap.set c (.var (l.set off (AV.slice own e xs).dull)) }:St).put d (.slice own e xs):=by
       unfold Eff.on St.put
       cases d <;> simp[dullAll,setAll,AV.dull]
      rw[hon]
      have hclt:c<s.heap.length:=by
       rcases Nat.lt_or_ge c s.heap.length with hq | hq
       ·exact hq
       ·rw[List.getElem?_eq_none hq] at hc;cases hc
      cases d with
      | none=>exact⟨T,σ,Keeps.refl _ _,(by intros;assumption),h1.put none fun t e=>by cases e⟩
      | some d =>
       have h2:=h1.retag (.leaf c off) (.tmp d) (fun c' j e=>by
        cases e
        intro q av v hq hj hv
        simp only[List.getElem?_set,if_true,hclt] at hq
        cases hq
        have hl:off<l.length:=by
         rcases Nat.lt_or_ge off l.length with hq | hq
         ·exact hq
         ·rw[List.getElem?_eq_none hq] at h0;cases h0
        simp[hl] at hj
        subst hj
        exact (Rep.dull hv:Rep _ _ _ noOwn (AV.slice own e xs).dull.dull v)) (fun t e=>by cases e) (fun c' j e=>by
        cases e
        intro e' xs' hq
        simp only[List.getElem?_set,if_true,hclt] at hq
        cases hq)
       refine⟨_,σ,retag_keeps _ _ _,(by intros;assumption),h2.put (some d) fun t e=>?_⟩
       cases e
       rw[retag_fix]
       exact hrx.mono (Fix.le.refl _) (fun _ _ x=>x) (fun _ _ x=>x) retag_own_same
     | _=>exact dull hk
  ·cases h
 ·rename_i c y m off
  split at h
  ·rename_i cell hc
   obtain⟨xs,hxs,h1⟩:=bind_some h
   obtain⟨x,hx,h2⟩:=bind_some h1
   clear h h1
   obtain rfl:=asRow_some hxs
   rcases readLeaves_some h2 with ⟨ha,hi,hl,hk,dd,hd⟩ | ⟨ha,v,rest,dd,hl,hk,hd⟩
   ·refine⟨_,hk,rfl,fun T σ lm A ro a w ow u d hR hu=>?_⟩
    cases hu with
    | rptr _ _ _ _ _ p hp =>
    obtain⟨ds,d1,d2⟩:=hR.rowElem hc hx hp
    have hrl:=(repL_leaves (σ:=σ) (lm:=lm) d1).drop off
    have hlen:=hrl.length
    have:=hR.pure_step d (v:=.agg ((ds.drop off).take (sizeT X.P t)).toArray) (.agg _ _ _ (repL_dull (hrl.take _)))
    refine⟨.agg ((ds.drop off).take (sizeT X.P t)).toArray,?_,this⟩
    simp only[Instr.loadAt,Instr.sureAddr,Sem.run_bind,Sem.run_pure,Result.andThen_ok]
    refine run_load_agg ha hd hi (ds.drop off) ⟨rowB p,m*y.width+off,none⟩ w (by omega) fun j v hv=>?_
    rw[List.getElem?_drop] at hv
    rw[add_none,Nat.add_assoc];exact (d2 _ v hv).1
   ·refine⟨_,hk,rfl,fun T σ lm A ro a w ow u d hR hu=>?_⟩
    cases hu with
    | rptr _ _ _ _ _ p hp =>
    obtain⟨ds,d1,d2⟩:=hR.rowElem hc hx hp
    have hrl:=(repL_leaves (σ:=σ) (lm:=lm) d1).drop off
    obtain⟨z,hz,hrz⟩:=hrl.get 0 v (by rw[hl];rfl)
    refine⟨z,?_,hR.pure_step d hrz.dull⟩
    simp only[Instr.loadAt,Instr.sureAddr,Sem.run_bind,Sem.run_pure,Result.andThen_ok]
    rw[List.getElem?_drop] at hz
    have:=(d2 _ z hz).1
    exact run_load_one ha hd ⟨rowB p,m*y.width+off,none⟩ z w (by simpa[Addr.add] using this)
  ·cases h
 ·cases h
end
end Go.Am
namespace Go.Am
open Go
variable {R:Type} {X:Ext} {s:St} {T:Tags} {σ lm:Nat→Option Nat} {A:Amb} {ro:Option Nat} {a:Act} {w:World}
def Tags.frost (T:Tags) (b n:Nat) (vs:List Value):Tags:=fun x y=>if x=b∧y<n then .fixed (vs.getD y undef) else T x y
theorem get_lt {α:Type} {l:List α} {i:Nat} {x:α} (h:l[i]?=some x):i<l.length:=by
 rcases Nat.lt_or_ge i l.length with hq | hq
 ·exact hq
 ·rw[List.getElem?_eq_none hq] at h;cases h
theorem splice_get {α:Type} {l m:List α} {o:Nat} (h:o+m.length≤l.length) (k:Nat):(l.take o ++ m ++ l.drop (o+m.length))[k]?=if o≤k∧k<o+m.length then m[k-o]? else l[k]?:=by
 by_cases h1:k<o
 ·rw[List.append_assoc,List.getElem?_append_left (by simp;omega),List.getElem?_take_of_lt h1,if_neg (by omega)]
 ·by_cases h2:k<o+m.length
  ·rw[if_pos ⟨by omega,h2⟩,List.append_assoc,List.getElem?_append_right (by simp;omega),List.getElem?_append_left (by simp;omega)]
   simp[show min o l.length=o by omega]
  ·rw[if_neg (by omega),List.getElem?_append_right (by simp;omega),List.getElem?_drop]
   congr 1
   simp;omega
theorem splice_length {α:Type} {l m:List α} {o:Nat} (h:o+m.length≤l.length):(l.take o ++ m ++ l.drop (o+m.length)).length=l.length:=by
 simp;omega
theorem rowData_set {F:Fix} {e:Ty} {xs:List e.den} {cs ds':List Value} {i:Nat} {x':e.den} (hcs:cs.length=xs.length*e.width) (hi:i<xs.length) (hd':CellsD F e x' ds')
  (h:∀ (i:Nat) x,xs[i]?=some x→∃ ds,CellsD F e x ds∧∀ (j:Nat) v,ds[j]?=some v→cs[i*e.width+j]?=some v) :
  ∀ (k:Nat) y,(xs.set i x')[k]?=some y→∃ ds,CellsD F e y ds∧∀ (j:Nat) v,ds[j]?=some v→(cs.take (i*e.width) ++ ds' ++ cs.drop (i*e.width+ds'.length))[k*e.width+j]?=some v:=by
 have hl:=hd'.length
 have hfit:i*e.width+ds'.length≤cs.length:=by
  rw[hl,hcs]
  have:=Nat.mul_le_mul_right e.width (show i+1≤xs.length by omega)
  rw[Nat.add_mul] at this;omega
 intro k y hy
 rw[List.getElem?_set] at hy
 by_cases hik:i=k
 ·subst hik
  rw[if_pos rfl,if_pos hi] at hy
  cases hy
  refine⟨ds',hd',fun j v hj=>?_⟩
  have hjl:=get_lt hj
  rw[splice_get hfit,if_pos ⟨by omega,by omega⟩]
  rw[show i*e.width+j-i*e.width=j by omega];exact hj
 ·rw[if_neg hik] at hy
  obtain⟨ds,d1,d2⟩:=h k y hy
  refine⟨ds,d1,fun j v hj=>?_⟩
  have hjl:=get_lt hj
  rw[d1.length] at hjl
  have hout:¬ (i*e.width≤k*e.width+j∧k*e.width+j<i*e.width+ds'.length):=by
   rw[hl]
   rcases Nat.lt_or_gt_of_ne hik with hlt | hgt
   ·have:=Nat.mul_le_mul_right e.width (show i+1≤k by omega)
    rw[Nat.add_mul] at this;omega
   ·have:=Nat.mul_le_mul_right e.width (show k+1≤i by omega)
    rw[Nat.add_mul] at this;omega
  rw[splice_get hfit,if_neg hout]
  exact d2 j v hj
theorem Rel.rowStore (h:Rel X T σ lm A ro s a w) {c i off p:Nat} {e:Ty} {xs:List e.den} {x x':e.den} {new:List AV} {vs:List Value} (hc:s.heap[c]?=some (.row e xs)) (hi:xs[i]?=some x) (hp:σ c=some p)
  (hfit:off+vs.length≤e.width) (hr:RepL T.fix σ lm new vs) (hx:takeAll e ((e.leaves x).take off ++ new ++ (e.leaves x).drop (off+new.length))=some x') :
  Keeps T w T (w.setCells (rowB p) (i*e.width+off) vs)∧Rel X T σ lm A ro { s with heap:=s.heap.set c (.row e (xs.set i x')) } a (w.setCells (rowB p) (i*e.width+off) vs):=by
 obtain⟨p',h1,h2,h3,h4,cs,h5,h6,h7,h8⟩:RowAt T σ w c e xs:=h.inv.mem c _ hc
 rw[hp] at h1;cases h1
 have hil:=get_lt hi
 have hclt:=get_lt hc
 obtain⟨ds,d1,d2⟩:=h6 i x hi
 have hdl:=d1.length
 have hnl:=hr.length
 have hrl:=repL_leaves (σ:=σ) (lm:=lm) d1
 have hspl:RepL T.fix σ lm ((e.leaves x).take off ++ new ++ (e.leaves x).drop (off+new.length)) (ds.take off ++ vs ++ ds.drop (off+vs.length)):=by
  rw[hnl];exact ((hrl.take off).append hr).append (hrl.drop _)
 have hd':CellsD T.fix e x' (ds.take off ++ vs ++ ds.drop (off+vs.length)):=by
  unfold takeAll at hx
  obtain⟨y,y1,y2⟩:=bind_some hx
  split at y2
  ·rename_i hem
   cases y2
   obtain⟨x1,rest⟩:=y
   obtain⟨c1,u1,e1,e2,e3⟩:=cellsD_take y1 hspl
   simp only[List.isEmpty_iff] at hem
   subst hem
   cases e3
   rw[List.append_nil] at e1
   rw[e1];exact e2
  ·cases y2
 have hoff:i*e.width+e.width≤xs.length*e.width:=by
  have:=Nat.mul_le_mul_right e.width (show i+1≤xs.length by omega)
  rw[Nat.add_mul] at this;omega
 have hin:∀ j,j<vs.length→∃ v,cs[i*e.width+off+j]?=some v:=fun j hj=>⟨cs[i*e.width+off+j]'(by rw[h5];omega),List.getElem?_eq_getElem _⟩
 have hm:∀ j,j<vs.length→(T (rowB p) (i*e.width+off+j)).mine=true:=fun j hj=>by
  obtain⟨v,hv⟩:=hin j hj
  rw[(h7 _ v hv).1];rfl
 have hsome:∀ j,j<vs.length→(w.cell? ⟨rowB p,i*e.width+off+j,none⟩).isSome=true:=fun j hj=>by
  obtain⟨v,hv⟩:=hin j hj
  rw[(h7 _ v hv).2.1];rfl
 have hk:=keeps_setCells (T:=T) (T':=T) (w:=w) (rowB p) (i*e.width+off) vs hm (fun _ _ _=>rfl)
 have notours:∀ x y,(∀ j,T x y≠.cell c j)→(x=rowB p→y<i*e.width+off∨i*e.width+off+vs.length≤y):=fun x y hxy hx=>by
  subst hx
  by_cases hy:y<i*e.width+off∨i*e.width+off+vs.length≤y
  ·exact hy
  ·exfalso
   obtain⟨v,hv⟩:=hin (y-(i*e.width+off)) (by omega)
   rw[show i*e.width+off+(y-(i*e.width+off))=y by omega] at hv
   exact hxy y (h7 _ v hv).1
 have hset:∀ c',c'≠c→∀ q,({ s with heap:=s.heap.set c (.row e (xs.set i x')) }:St).heap[c']?=some q→s.heap[c']?=some q:=fun c' hcc q hq=>by
  simpa only[List.getElem?_set,if_neg fun e:c=c'=>hcc e.symm] using hq
 refine⟨hk,⟨⟨?_,?_,?_,?_,?_,?_,h.inv.plen,?_⟩,h.len,h.nt,h.tm,?_,h.nodup,h.round,h.glob⟩⟩
 ·intro x y v e'
  rw[cell_setCells_out (notours x y fun j e2=>by rw[e'] at e2;cases e2)]
  exact h.inv.fixed x y v e'
 ·intro x y m j e'
  rw[cell_setCells_out (notours x y fun j e2=>by rw[e'] at e2;cases e2),frozen_setCells]
  exact h.inv.spare x y m j e'
 ·intro x y e'
  rw[(setCells_world (rowB p) vs _ w).2.2.2.1]
  exact h.inv.live x y e'
 ·intro c' b' e'
  obtain⟨q,hq,hl⟩:=h.inv.dom c' b' e'
  by_cases hcc:c=c'
  ·subst hcc;exact⟨.row e (xs.set i x'),by simp[hclt],rfl⟩
  ·exact⟨q,by simp only[List.getElem?_set];rw[if_neg hcc];exact hq,hl⟩
 ·intro c' q hq
  have hcc:c'≠c:=fun e'=>by
   subst e'
   simp[hclt] at hq
  obtain⟨b',g1,g2,g3⟩:=h.inv.var c' q (hset c' hcc _ hq)
  refine⟨b',g1,by rw[(setCells_world (rowB p) vs _ w).2.2.2.1];exact g2,fun j av hj=>?_⟩
  obtain⟨v,e1,e2,e3,e4⟩:=g3 j av hj
  exact⟨v,by rw[cell_setCells_out (notours b' j fun j' e'=>by rw[e3] at e';cases e';exact hcc rfl)];exact e1,by rw[frozen_setCells];exact e2,e3,e4⟩
 ·intro c' q hq
  by_cases hcc:c'=c
  ·subst hcc
   simp only[List.getElem?_set,if_true,hclt] at hq
   cases hq
   show RowAt _ _ _ _ _ _
   refine⟨p,hp,h2,by simpa using h3,h4,_,?_,rowData_set h5 hil hd' h6,?_,?_⟩
   ·rw[splice_length (by rw[hd'.length,h5];omega)];simpa using h5
   ·intro k v hv
    have hfit2:i*e.width+(ds.take off ++ vs ++ ds.drop (off+vs.length)).length≤cs.length:=by rw[hd'.length,h5];omega
    rw[splice_get hfit2] at hv
    have hkl:k<cs.length:=by
     split at hv
     ·rename_i hr2;omega
     ·exact get_lt hv
    have hold:cs[k]?=some cs[k]:=List.getElem?_eq_getElem hkl
    obtain⟨t1,t2,t3⟩:=h7 k _ hold
    refine⟨t1,?_,by rw[frozen_setCells];exact t3⟩
    by_cases hr2:i*e.width+off≤k∧k<i*e.width+off+vs.length
    ·have hrr:i*e.width≤k∧k<i*e.width+(ds.take off ++ vs ++ ds.drop (off+vs.length)).length:=by rw[hd'.length];omega
     rw[if_pos hrr,splice_get (by rw[hdl];exact hfit),if_pos (by omega)] at hv
     have hlt:=get_lt hv
     have:=World.cell?_setCells_in (rowB p) vs (i*e.width+off) w hsome (k-(i*e.width+off)) (by omega)
     rw[show i*e.width+off+(k-(i*e.width+off))=k by omega] at this
     rw[this,← hv,show k-i*e.width-off=k-(i*e.width+off) by omega]
     exact (List.getElem?_eq_getElem _).symm
    ·rw[cell_setCells_out fun _=>by omega]
     rw[t2]
     split at hv
     ·rename_i hrr
      rw[splice_get (by rw[hdl];exact hfit),if_neg (by omega)] at hv
      have:=d2 _ v hv
      rw[show i*e.width+(k-i*e.width)=k by omega,hold] at this
      exact this
     ·rw[hold] at hv;exact hv
   ·intro k k1 k2
    exact h8 k (by simpa using k1) k2
  ·refine (h.inv.mem c' q (hset c' hcc _ hq)).keep (fun _ h=>h) (Fix.le.refl _) (fun b' k e'=>⟨e',cell_setCells_out (notours b' k fun j' e2=>by rw[e'] at e2;cases e2;exact hcc rfl),frozen_setCells⟩) (fun _ _ e'=>e') (fun _ _ _ _ h=>setCells_noncell _ vs _ w _ _ h (fun _ _ _ e=>by cases e))
 ·intro i' r hr'
  obtain⟨b',rec,g1,g2,g3,g4⟩:=h.inv.loop i' r hr'
  exact⟨b',rec,g1,g2,setCells_noncell (rowB p) vs _ w b' _ g3 (fun _ _ _ e=>by cases e),g4⟩
 ·intro d hd
  obtain⟨D,e1,e2,e3⟩:=h.marks d hd
  exact⟨D,e1,setCells_noncell (rowB p) vs _ w D _ e2 (fun _ _ _ e=>by cases e),e3⟩
theorem Rel.rowFrost (h:Rel X T σ lm A ro s a w) {c p:Nat} {e:Ty} {xs:List e.den} (hc:s.heap[c]?=some (.row e xs)) (hp:σ c=some p) :
  ∃ T',Keeps T w T' w∧Rel X T' σ lm A ro { s with heap:=s.heap.set c .gone } a w∧Fix.le T.fix T'.fix∧0<e.width ∧
   ∀ (i:Nat) x,xs[i]?=some x→∃ ds,CellsD T'.fix e x ds∧∀ (j:Nat) v,ds[j]?=some v→FixAt T'.fix ⟨rowB p,0,none⟩ (i*e.width+j) v:=by
 obtain⟨p',h1,h2,h3,h4,cs,h5,h6,h7,h8⟩:RowAt T σ w c e xs:=h.inv.mem c _ hc
 rw[hp] at h1;cases h1
 have hclt:=get_lt hc
 have htag:∀ j,j<cs.length→T (rowB p) j=.cell c j:=fun j hj=>(h7 j _ (List.getElem?_eq_getElem hj)).1
 have hout:∀ x y,(∀ j,T x y≠.cell c j)→T.frost (rowB p) cs.length cs x y=T x y:=fun x y hxy=>by
  unfold Tags.frost
  rw[if_neg]
  rintro⟨rfl,hy⟩
  exact hxy y (htag y hy)
 have hfix:Fix.le T.fix (T.frost (rowB p) cs.length cs).fix:=fun x y v e=>by
  rw[Tags.fix_eq] at e ⊢
  rw[hout x y fun j e'=>by rw[e] at e';cases e'];exact e
 have hown:∀ m j x y,T.own m j x y→(T.frost (rowB p) cs.length cs).own m j x y:=fun m j x y e=>by
  unfold Tags.own at *
  rw[hout x y fun j e'=>by rw[e] at e';cases e'];exact e
 have hset:∀ c',c'≠c→∀ q,({ s with heap:=s.heap.set c .gone }:St).heap[c']?=some q→s.heap[c']?=some q:=fun c' hcc q hq=>by
  simpa only[List.getElem?_set,if_neg fun e:c=c'=>hcc e.symm] using hq
 refine⟨T.frost (rowB p) cs.length cs,⟨rfl,rfl,rfl,Nat.le_refl _,?_,?_,fun _ _ _ _=>⟨rfl,rfl⟩,fun _ _ _=>rfl⟩,⟨?_,h.len,h.nt,?_,?_,h.nodup,h.round,h.glob.mono hfix⟩,hfix,h2,?_⟩
 ·intro x y v e
  rw[hout x y fun j e'=>by rw[e] at e';cases e'];exact e
 ·intro x y _ e
  rw[hout x y fun j e'=>by rw[e] at e';cases e'];exact e
 ·refine⟨?_,?_,?_,?_,?_,?_,h.inv.plen,?_⟩
  ·intro x y v e
   by_cases hxy:x=rowB p∧y<cs.length
   ·obtain⟨rfl,hy⟩:=hxy
    unfold Tags.frost at e
    rw[if_pos ⟨rfl,hy⟩] at e
    cases e
    rw[(h7 y cs[y] (List.getElem?_eq_getElem hy)).2.1]
    simp[List.getD_eq_getElem?_getD,List.getElem?_eq_getElem hy]
   ·unfold Tags.frost at e
    rw[if_neg hxy] at e
    exact h.inv.fixed x y v e
  ·intro x y m j e
   by_cases hxy:x=rowB p∧y<cs.length
   ·unfold Tags.frost at e
    rw[if_pos hxy] at e
    cases e
   ·unfold Tags.frost at e
    rw[if_neg hxy] at e
    exact h.inv.spare x y m j e
  ·intro x y e
   refine h.inv.live x y fun hf=>e ?_
   rw[hout x y fun j e'=>by rw[hf] at e';cases e']
   exact hf
  ·intro c' b' e'
   obtain⟨q,hq,hl⟩:=h.inv.dom c' b' e'
   by_cases hcc:c=c'
   ·subst hcc;exact⟨.gone,by simp[hclt],rfl⟩
   ·exact⟨q,by simp only[List.getElem?_set];rw[if_neg hcc];exact hq,hl⟩
  ·intro c' q hq
   by_cases hcc:c'=c
   ·subst hcc
    simp only[List.getElem?_set,if_true,hclt] at hq
    cases hq
   ·obtain⟨b',g1,g2,g3⟩:=h.inv.var c' q (hset c' hcc _ hq)
    refine⟨b',g1,g2,fun j av hj=>?_⟩
    obtain⟨v,e1,e2,e3,e4⟩:=g3 j av hj
    exact⟨v,e1,e2,by rw[hout _ _ fun j' e'=>by rw[e3] at e';cases e';exact hcc rfl];exact e3,e4.mono hfix (fun _ _ x=>x) (fun _ _ x=>x) (hown _)⟩
  ·intro c' q hq
   by_cases hcc:c'=c
   ·subst hcc
    simp only[List.getElem?_set,if_true,hclt] at hq
    cases hq;trivial
   ·exact (h.inv.mem c' q (hset c' hcc _ hq)).keep (fun _ h=>h) hfix (fun b' k e'=>⟨by rw[hout _ _ fun j' e2=>by rw[e'] at e2;cases e2;exact hcc rfl];exact e',rfl,rfl⟩) (fun b' k e'=>by rw[hout _ _ fun j' e2=>by rw[e'] at e2;cases e2];exact e')
  ·intro i r hr'
   obtain⟨b',rec,g1,g2,g3,g4,g5,g6,g7,g8,g9,g10⟩:=h.inv.loop i r hr'
   exact⟨b',rec,g1,by rw[hout _ _ fun j' e'=>by rw[g2] at e';cases e'];exact g2,g3,g4,g5,g6,g7,g8,fun t=>(g9 t).mono hfix (fun _ _ x=>x) (fun _ _ x=>x) (fun _ _ _ x=>x),g10⟩
 ·intro t
  exact (h.tm t).mono hfix (fun _ _ x=>x) (fun _ _ x=>x) (hown _)
 ·intro d hd
  obtain⟨D,e1,e2,e3⟩:=h.marks d hd
  exact⟨D,e1,e2,fun o=>by rw[hout _ _ fun j' e'=>by rw[e3] at e';cases e'];exact e3 o⟩
 ·intro i x hi
  obtain⟨ds,d1,d2⟩:=h6 i x hi
  refine⟨ds,d1.mono hfix,fun j v hj=>?_⟩
  have hv:=d2 j v hj
  have hlt:=get_lt hv
  unfold FixAt
  rw[add_none]
  refine⟨rfl,?_⟩
  rw[Tags.fix_eq]
  unfold Tags.frost
  rw[if_pos ⟨rfl,by simp;omega⟩]
  simp[List.getD_eq_getElem?_getD,hv]
end Go.Am
namespace Go.Am
open Go
variable {R:Type} {X:Ext} {s:St} {T:Tags} {σ lm:Nat→Option Nat} {A:Amb} {ro:Option Nat} {a:Act} {w:World}
theorem Rel.slot_none (h:Rel X T σ lm A ro s a w) {slot:Nat} (hslot:s.heap[slot]?=some .empty):σ slot=none:=by
 cases hs:σ slot with
 | none=>rfl
 | some b=>obtain⟨x,hl,hx⟩:=h.inv.dom slot b hs;rw[hslot] at hl;cases hl;cases hx
theorem Rel.rowNew (h:Rel X T σ lm A ro s a w) (slot:Nat) (hslot:s.heap[slot]?=some .empty) (e:Ty) (hw:0<e.width) (xs:List e.den) (cells:Array Value) (C:Nat) (t:TypeId) (hC:xs.length≤C) (hCm:C≤maxLen) (hCr:C<rowM) (hsz:cells.size=C*e.width)
  (hd:∀ (i:Nat) x,xs[i]?=some x→∃ ds,CellsD T.fix e x ds∧∀ (j:Nat) v,ds[j]?=some v→cells[i*e.width+j]?=some v) :
  Rel X (T.new w.heap.size fun o=>if o<xs.length*e.width then .cell slot o else if o<C*e.width then .spare (.leaf slot 0) 0 else .free) (fun c=>if c=slot then some (w.heap.size*rowM+C) else σ c) lm A ro
   { s with heap:=s.heap.set slot (.row e xs) } a (w.alloc (.cells cells t)):=by
 have hσ:=h.slot_none hslot
 have hs':∀ c b,σ c=some b→(if c=slot then some (w.heap.size*rowM+C) else σ c)=some b:=fun c b e=>by
  by_cases hc:c=slot
  ·subst hc;rw[hσ] at e;cases e
  ·rw[if_neg hc];exact e
 have hcell:∀ o,o<cells.size→((w.alloc (.cells cells t)).cell? ⟨w.heap.size,o,none⟩)=cells[o]?:=fun o _=>by rw[World.cell?_alloc_new]
 have h1:=h.alloc (.cells cells t) (fun o=>if o<xs.length*e.width then .cell slot o else if o<C*e.width then .spare (.leaf slot 0) 0 else .free)
  (fun o v e'=>by
   split at e'
   ·cases e'
   ·split at e' <;> cases e') (fun o l j e'=>by
   split at e'
   ·cases e'
   ·split at e'
    ·rename_i ho
     refine⟨?_,by simp⟩
     rw[hcell o (by rw[hsz];exact ho)]
     simp[hsz,ho]
    ·cases e')
 have hlt:=get_lt hslot
 refine⟨?_,h1.len,h1.nt,fun t=>(h1.tm t).mono (Fix.le.refl _) hs' (fun _ _ x=>x) (fun _ _ _ x=>x),h1.marks,h1.nodup,h1.round,h1.glob⟩
 refine⟨h1.inv.fixed,h1.inv.spare,h1.inv.live,?_,?_,?_,h1.inv.plen,?_⟩
 ·intro c b hc
  by_cases hcs:c=slot
  ·subst hcs;exact⟨.row e xs,by simp[hlt],rfl⟩
  ·rw[if_neg hcs] at hc
   obtain⟨l,hl,hx⟩:=h1.inv.dom c b hc
   exact⟨l,by simp only[List.getElem?_set];rw[if_neg (fun e=>hcs e.symm)];exact hl,hx⟩
 ·intro c l hc
  simp only[List.getElem?_set] at hc
  by_cases hcs:slot=c
  ·subst hcs
   simp[hlt] at hc
  ·rw[if_neg hcs] at hc
   obtain⟨b,g1,g2,g3⟩:=h1.inv.var c l hc
   refine⟨b,hs' c b g1,g2,fun j av hj=>?_⟩
   obtain⟨v,e1,e2,e3,e4⟩:=g3 j av hj
   exact⟨v,e1,e2,e3,e4.mono (Fix.le.refl _) hs' (fun _ _ x=>x) (fun _ _ _ x=>x)⟩
 ·intro c x hc
  simp only[List.getElem?_set] at hc
  by_cases hcs:slot=c
  ·subst hcs
   simp only[if_true,hlt] at hc
   cases hc
   unfold MemAt
   have hmul:xs.length*e.width≤C*e.width:=Nat.mul_le_mul_right _ hC
   refine⟨w.heap.size*rowM+C,by simp,hw,by rw[rowC_mk _ _ hCr];exact hC,by rw[rowC_mk _ _ hCr];exact hCm,cells.toList.take (xs.length*e.width),by rw[List.length_take];exact Nat.min_eq_left (by rw[show cells.toList.length=cells.size from rfl,hsz];exact hmul),?_,?_,?_⟩
   ·intro i x hi
    obtain⟨ds,d1,d2⟩:=hd i x hi
    refine⟨ds,d1.mono (h.inv.le_new _),fun j v hj=>?_⟩
    have hjl:=get_lt hj
    rw[d1.length] at hjl
    have:=Nat.mul_le_mul_right e.width (show i+1≤xs.length by have:=get_lt hi;omega)
    rw[Nat.add_mul] at this
    rw[List.getElem?_take_of_lt (by omega)]
    simpa using d2 j v hj
   ·intro k v hk
    have hkl:=get_lt hk
    simp only[List.length_take,Array.length_toList,hsz] at hkl
    rw[List.getElem?_take_of_lt (by omega)] at hk
    rw[rowB_mk _ _ hCr]
    refine⟨by simp only[Tags.new,if_true];rw[if_pos (by omega)],?_,by simp⟩
    rw[hcell k (by omega)]
    simpa using hk
   ·intro k k1 k2
    rw[rowC_mk _ _ hCr] at k2
    rw[rowB_mk _ _ hCr]
    simp only[Tags.new,if_true]
    rw[if_neg (by omega),if_pos k2]
  ·rw[if_neg hcs] at hc;exact (h1.inv.mem c x hc).keep (hs' c) (Fix.le.refl _) (fun _ _ e=>⟨e,rfl,rfl⟩) (fun _ _ e=>e)
 ·intro i r hr
  obtain⟨b,rec,g1,g2,g3,g4,g5,g6,g7,g8,g9,g10⟩:=h1.inv.loop i r hr
  exact⟨b,rec,g1,g2,g3,g4,g5,g6,g7,g8,fun t=>(g9 t).mono (Fix.le.refl _) hs' (fun _ _ x=>x) (fun _ _ _ x=>x),g10⟩
def Tag.mv (c d:Nat):Tag→Tag
 | .cell c' k=>if c'=c then .cell d k else .cell c' k
 | .spare (.leaf c' j) q=>if c'=c then .spare (.leaf d j) q else .spare (.leaf c' j) q
 | t=>t
def Tags.mv (T:Tags) (c d:Nat):Tags:=fun b o=>(T b o).mv c d
theorem mv_fix (T:Tags) (c d:Nat):(T.mv c d).fix=T.fix:=by
 funext b o
 unfold Tags.fix Tags.mv
 cases T b o with
 | cell c' k=>simp only[Tag.mv];split <;> rfl
 | spare l j=>cases l <;> simp only[Tag.mv] <;> first | (split <;> rfl) | rfl
 | _=>rfl
theorem Rel.rowRename (h:Rel X T σ lm A ro s a w) {c slot:Nat} {e:Ty} {xs:List e.den} (hc:s.heap[c]?=some (.row e xs)) (hslot:s.heap[slot]?=some .empty) :
  Keeps T w (T.mv c slot) w∧Rel X (T.mv c slot) (fun x=>if x=slot then σ c else σ x) lm A ro { s with heap:=(s.heap.set c .gone).set slot (.row e xs) } a w:=by
 have hσ:=h.slot_none hslot
 have hne:c≠slot:=fun e=>by subst e;rw[hc] at hslot;cases hslot
 have hs':∀ x b,σ x=some b→(if x=slot then σ c else σ x)=some b:=fun x b e=>by
  by_cases hx:x=slot
  ·subst hx;rw[hσ] at e;cases e
  ·rw[if_neg hx];exact e
 have hlt:=get_lt hslot
 have hclt:=get_lt hc
 have hget:∀ x,x≠c→x≠slot→((s.heap.set c .gone).set slot (.row e xs))[x]?=s.heap[x]?:=fun x h1 h2=>by
  rw[List.getElem?_set_ne (fun e=>h2 e.symm),List.getElem?_set_ne (fun e=>h1 e.symm)]
 have hgc:((s.heap.set c .gone).set slot (.row e xs))[c]?=some .gone:=by
  rw[List.getElem?_set_ne (fun e=>hne e.symm)];simp[hclt]
 have hgs:((s.heap.set c .gone).set slot (.row e xs))[slot]?=some (.row e xs):=by simp[hlt]
 have hmv:∀ b o t,T b o=t→T.mv c slot b o=t.mv c slot:=fun b o t e=>by unfold Tags.mv;rw[e]
 have hfree:∀ b o,T.mv c slot b o=.free→T b o=.free:=fun b o e=>by
  unfold Tags.mv at e
  cases ht:T b o with
  | cell c' k=>rw[ht] at e;simp only[Tag.mv] at e;split at e <;> cases e
  | spare l j=>rw[ht] at e;cases l <;> simp only[Tag.mv] at e <;> first | (split at e <;> cases e;done) | (cases e;done)
  | free=>rfl
  | fixed v=>rw[ht] at e;cases e
  | loop i=>rw[ht] at e;cases e
  | mark=>rw[ht] at e;cases e
 have hown:∀ m,(∀ j,m≠.leaf c j)→∀ j b o,T.own m j b o→(T.mv c slot).own m j b o:=fun m hm j b o e=>by
  have e':T b o=.spare m j:=e
  show T.mv c slot b o=_
  rw[hmv b o _ e']
  cases m with
  | leaf c' j'=>simp only[Tag.mv];rw[if_neg];intro e2;exact hm j' (by rw[e2])
  | _=>rfl
 have hfix:Fix.le T.fix (T.mv c slot).fix:=by rw[mv_fix];exact Fix.le.refl _
 refine⟨⟨rfl,rfl,rfl,Nat.le_refl _,fun b o v e=>hmv b o _ e,fun b o _ e=>hmv b o _ e,fun _ _ _ _=>⟨rfl,rfl⟩,fun _ _ _=>rfl⟩,⟨?_,h.len,h.nt,?_,?_,h.nodup,h.round,by rw[mv_fix];exact h.glob⟩⟩
 ·refine⟨?_,?_,?_,?_,?_,?_,h.inv.plen,?_⟩
  ·intro b o v e'
   rw[← Tags.fix_eq,mv_fix,Tags.fix_eq] at e'
   exact h.inv.fixed b o v e'
  ·intro b o l j e'
   unfold Tags.mv at e'
   cases ht:T b o with
   | spare l' j'=>exact h.inv.spare b o l' j' ht
   | cell c' k=>rw[ht] at e';simp only[Tag.mv] at e';split at e' <;> cases e'
   | _=>rw[ht] at e';cases e'
  ·intro b o e'
   exact h.inv.live b o fun hf=>e' (by rw[hmv b o _ hf];rfl)
  ·intro x b e'
   by_cases hx:x=slot
   ·subst hx;exact⟨_,hgs,rfl⟩
   ·rw[if_neg hx] at e'
    by_cases hxc:x=c
    ·subst hxc;exact⟨_,hgc,rfl⟩
    ·obtain⟨q,hq,hl⟩:=h.inv.dom x b e'
     exact⟨q,by rw[hget x hxc hx];exact hq,hl⟩
  ·intro x q hq
   have hx:x≠slot:=fun e'=>by subst e';rw[hgs] at hq;cases hq
   have hxc:x≠c:=fun e'=>by subst e';rw[hgc] at hq;cases hq
   rw[hget x hxc hx] at hq
   obtain⟨b,g1,g2,g3⟩:=h.inv.var x q hq
   refine⟨b,hs' x b g1,g2,fun j av hj=>?_⟩
   obtain⟨v,e1,e2,e3,e4⟩:=g3 j av hj
   refine⟨v,e1,e2,by rw[hmv _ _ _ e3];simp only[Tag.mv];rw[if_neg hxc],e4.mono hfix hs' (fun _ _ x=>x) (hown _ fun j' e'=>?_)⟩
   cases e';exact hxc rfl
  ·intro x q hq
   by_cases hx:x=slot
   ·subst hx
    rw[hgs] at hq;cases hq
    exact (h.inv.mem c _ hc).mono (fun _=>rfl) (fun l e'=>by cases e') (fun p e'=>by rw[if_pos rfl];exact e') hfix (fun b k e'=>⟨by rw[hmv _ _ _ e'];simp only[Tag.mv,if_true],rfl,rfl⟩) (fun b k e'=>by rw[hmv _ _ _ e'];simp only[Tag.mv,if_true])
   ·by_cases hxc:x=c
    ·subst hxc;rw[hgc] at hq;cases hq;trivial
    ·rw[hget x hxc hx] at hq
     exact (h.inv.mem x q hq).keep (hs' x) hfix (fun b k e'=>⟨by rw[hmv _ _ _ e'];simp only[Tag.mv];rw[if_neg hxc],rfl,rfl⟩) (fun b k e'=>by rw[hmv _ _ _ e'];simp only[Tag.mv];rw[if_neg hxc])
  ·intro i r hr
   obtain⟨b,rec,g1,g2,g3,g4,g5,g6,g7,g8,g9,g10⟩:=h.inv.loop i r hr
   exact⟨b,rec,g1,by rw[hmv _ _ _ g2];rfl,g3,g4,g5,g6,g7,g8,fun t=>(g9 t).mono hfix hs' (fun _ _ x=>x) (fun _ _ _ x=>x),g10⟩
 ·intro t
  exact (h.tm t).mono hfix hs' (fun _ _ x=>x) (hown _ fun j e'=>by cases e')
 ·intro d hd
  obtain⟨D,e1,e2,e3⟩:=h.marks d hd
  exact⟨D,e1,e2,fun o=>by rw[hmv _ _ _ (e3 o)];rfl⟩
end Go.Am
namespace Go.Am
open Go
variable {R:Type} {X:Ext} {s:St} {T:Tags} {σ lm:Nat→Option Nat} {A:Amb} {ro:Option Nat} {a:Act} {w:World}
theorem lay_get {α:Type} {l m:List α} {o:Nat} (h:o≤l.length) (k:Nat):(l.take o ++ m ++ l.drop (o+m.length))[k]?=if o≤k∧k<o+m.length then m[k-o]? else l[k]?:=by
 by_cases h1:k<o
 ·rw[List.append_assoc,List.getElem?_append_left (by simp;omega),List.getElem?_take_of_lt h1,if_neg (by omega)]
 ·by_cases h2:k<o+m.length
  ·rw[if_pos ⟨by omega,h2⟩,List.append_assoc,List.getElem?_append_right (by simp;omega),List.getElem?_append_left (by simp;omega)]
   simp[show min o l.length=o by omega]
  ·rw[if_neg (by omega),List.getElem?_append_right (by simp;omega),List.getElem?_drop]
   congr 1
   simp;omega
theorem lay_length {α:Type} {l m:List α} {o:Nat} (h:o≤l.length):(l.take o ++ m ++ l.drop (o+m.length)).length=max l.length (o+m.length):=by
 simp;omega
def Tags.rowed (T:Tags) (c b o n:Nat):Tags:=fun x y=>if x=b∧o≤y∧y<o+n then .cell c y else T x y
theorem Rel.rowWrite (h:Rel X T σ lm A ro s a w) {c p len:Nat} {e:Ty} {xs ys:List e.den} {vs:List Value} (hc:s.heap[c]?=some (.row e xs)) (hp:σ c=some p) (hl:len≤xs.length) (hcap:len+ys.length≤rowC p)
  (hvs:vs.length=ys.length*e.width) (hd:∀ (i:Nat) y,ys[i]?=some y→∃ ds,CellsD T.fix e y ds∧∀ (j:Nat) v,ds[j]?=some v→vs[i*e.width+j]?=some v) :
  Keeps T w (T.rowed c (rowB p) (len*e.width) vs.length) (w.setCells (rowB p) (len*e.width) vs) ∧
  Rel X (T.rowed c (rowB p) (len*e.width) vs.length) σ lm A ro { s with heap:=s.heap.set c (.row e (xs.take len ++ ys ++ xs.drop (len+ys.length))) } a (w.setCells (rowB p) (len*e.width) vs):=by
 obtain⟨p',h1,h2,h3,h4,cs,h5,h6,h7,h8⟩:RowAt T σ w c e xs:=h.inv.mem c _ hc
 rw[hp] at h1;cases h1
 have hclt:=get_lt hc
 have hlw:len*e.width≤cs.length:=by rw[h5];exact Nat.mul_le_mul_right _ hl
 have hcw:len*e.width+vs.length≤rowC p*e.width:=by
  rw[hvs,← Nat.add_mul];exact Nat.mul_le_mul_right _ hcap
 have hreg:∀ y,len*e.width≤y→y<len*e.width+vs.length→T (rowB p) y=.cell c y∨T (rowB p) y=.spare (.leaf c 0) 0:=fun y y1 y2=>by
  by_cases hy:y<cs.length
  ·exact .inl (h7 y _ (List.getElem?_eq_getElem hy)).1
  ·exact .inr (h8 y (by omega) (by omega))
 have hsm:∀ y,len*e.width≤y→y<len*e.width+vs.length→(w.cell? ⟨rowB p,y,none⟩).isSome=true∧w.frozen? ⟨rowB p,y,none⟩=false:=fun y y1 y2=>by
  by_cases hy:y<cs.length
  ·have:=(h7 y _ (List.getElem?_eq_getElem hy)).2
   exact⟨by rw[this.1];rfl,this.2⟩
  ·exact h.inv.spare _ _ _ _ (h8 y (by omega) (by omega))
 have hm:∀ j,j<vs.length→(T (rowB p) (len*e.width+j)).mine=true:=fun j hj=>by
  rcases hreg (len*e.width+j) (by omega) (by omega) with e' | e' <;> rw[e'] <;> rfl
 have hsome:∀ j,j<vs.length→(w.cell? ⟨rowB p,len*e.width+j,none⟩).isSome=true:=fun j hj=>(hsm _ (by omega) (by omega)).1
 have hT:∀ x y,(x≠rowB p∨y<len*e.width∨len*e.width+vs.length≤y)→T.rowed c (rowB p) (len*e.width) vs.length x y=T x y:=fun x y hxy=>by
  unfold Tags.rowed
  rw[if_neg]
  rintro⟨h1,h2,h3⟩
  rcases hxy with h4 | h4 | h4
  ·exact h4 h1
  ·omega
  ·omega
 have hTin:∀ y,len*e.width≤y→y<len*e.width+vs.length→T.rowed c (rowB p) (len*e.width) vs.length (rowB p) y=.cell c y:=fun y y1 y2=>by
  unfold Tags.rowed;rw[if_pos ⟨rfl,y1,y2⟩]
 have hk:=keeps_setCells (T:=T) (T':=T.rowed c (rowB p) (len*e.width) vs.length) (w:=w) (rowB p) (len*e.width) vs hm hT
 have outside:∀ x y,T x y≠.cell c y→T x y≠.spare (.leaf c 0) 0→(x≠rowB p∨y<len*e.width∨len*e.width+vs.length≤y):=fun x y n1 n2=>by
  by_cases hx:x=rowB p
  ·subst hx
   by_cases hy:y<len*e.width∨len*e.width+vs.length≤y
   ·exact .inr hy
   ·rcases hreg y (by omega) (by omega) with e' | e'
    ·exact absurd e' n1
    ·exact absurd e' n2
  ·exact .inl hx
 have cellout:∀ x y,(x≠rowB p∨y<len*e.width∨len*e.width+vs.length≤y)→(w.setCells (rowB p) (len*e.width) vs).cell? ⟨x,y,none⟩=w.cell? ⟨x,y,none⟩:=fun x y hxy =>
  cell_setCells_out fun hx=>by
   rcases hxy with h1 | h1
   ·exact absurd hx h1
   ·exact h1
 have hfix:Fix.le T.fix (T.rowed c (rowB p) (len*e.width) vs.length).fix:=fun x y v e'=>by
  rw[Tags.fix_eq] at e' ⊢
  rw[hT x y (outside x y (by rw[e'];simp) (by rw[e'];simp))];exact e'
 have hown:∀ m,m≠.leaf c 0→∀ j x y,T.own m j x y→(T.rowed c (rowB p) (len*e.width) vs.length).own m j x y:=fun m hm j x y e'=>by
  have e2:T x y=.spare m j:=e'
  show T.rowed c (rowB p) (len*e.width) vs.length x y=_
  rw[hT x y (outside x y (by rw[e2];simp) (by rw[e2];intro e3;cases e3;exact hm rfl))];exact e2
 have hset:∀ c',c'≠c→∀ q,({ s with heap:=s.heap.set c (.row e (xs.take len ++ ys ++ xs.drop (len+ys.length))) }:St).heap[c']?=some q→s.heap[c']?=some q:=fun c' hcc q hq=>by
  simpa only[List.getElem?_set,if_neg fun e:c=c'=>hcc e.symm] using hq
 have hspT:∀ x y l j,T.rowed c (rowB p) (len*e.width) vs.length x y=.spare l j→(x≠rowB p∨y<len*e.width∨len*e.width+vs.length≤y)∧T x y=.spare l j:=fun x y l j e'=>by
  by_cases hq:x≠rowB p∨y<len*e.width∨len*e.width+vs.length≤y
  ·rw[hT x y hq] at e';exact⟨hq,e'⟩
  ·have hx:x=rowB p:=Classical.byContradiction fun hx=>hq (.inl hx)
   subst hx
   rw[hTin y (by omega) (by omega)] at e';cases e'
 refine⟨hk,⟨⟨?_,?_,?_,?_,?_,?_,h.inv.plen,?_⟩,h.len,h.nt,?_,?_,h.nodup,h.round,h.glob.mono hfix⟩⟩
 ·intro x y v e'
  by_cases hq:x≠rowB p∨y<len*e.width∨len*e.width+vs.length≤y
  ·rw[hT x y hq] at e'
   rw[cellout x y hq];exact h.inv.fixed x y v e'
  ·have hx:x=rowB p:=Classical.byContradiction fun hx=>hq (.inl hx)
   subst hx
   rw[hTin y (by omega) (by omega)] at e';cases e'
 ·intro x y l j e'
  obtain⟨q1,q2⟩:=hspT x y l j e'
  rw[cellout x y q1,frozen_setCells];exact h.inv.spare x y l j q2
 ·intro x y e'
  rw[(setCells_world (rowB p) vs _ w).2.2.2.1]
  refine h.inv.live x y fun hf=>e' ?_
  rw[hT x y (outside x y (by rw[hf];simp) (by rw[hf];simp))];exact hf
 ·intro c' b' e'
  obtain⟨q,hq,hlv⟩:=h.inv.dom c' b' e'
  by_cases hcc:c=c'
  ·subst hcc;exact⟨.row e (xs.take len ++ ys ++ xs.drop (len+ys.length)),by simp[hclt],rfl⟩
  ·exact⟨q,by simp only[List.getElem?_set];rw[if_neg hcc];exact hq,hlv⟩
 ·intro c' q hq
  have hcc:c'≠c:=fun e'=>by
   subst e'
   simp[hclt] at hq
  obtain⟨b',g1,g2,g3⟩:=h.inv.var c' q (hset c' hcc _ hq)
  refine⟨b',g1,by rw[(setCells_world (rowB p) vs _ w).2.2.2.1];exact g2,fun j av hj=>?_⟩
  obtain⟨v,e1,e2,e3,e4⟩:=g3 j av hj
  have ho:=outside b' j (by rw[e3];intro e';cases e';exact hcc rfl) (by rw[e3];simp)
  exact⟨v,by rw[cellout _ _ ho];exact e1,by rw[frozen_setCells];exact e2,by rw[hT _ _ ho];exact e3,e4.mono hfix (fun _ _ x=>x) (fun _ _ x=>x) (hown _ fun e'=>by cases e';exact hcc rfl)⟩
 ·intro c' q hq
  by_cases hcc:c'=c
  ·subst hcc
   simp only[List.getElem?_set,if_true,hclt] at hq
   cases hq
   unfold MemAt
   refine⟨p,hp,h2,by rw[lay_length hl];omega,h4,cs.take (len*e.width) ++ vs ++ cs.drop (len*e.width+vs.length),?_,?_,?_,?_⟩
   ·rw[lay_length hlw,lay_length hl,h5,hvs,← Nat.add_mul]
    rcases Nat.le_total xs.length (len+ys.length) with hq | hq
    ·rw[Nat.max_eq_right hq,Nat.max_eq_right (Nat.mul_le_mul_right _ hq)]
    ·rw[Nat.max_eq_left hq,Nat.max_eq_left (Nat.mul_le_mul_right _ hq)]
   ·intro i x hi
    rw[lay_get hl] at hi
    split at hi
    ·rename_i hr
     obtain⟨ds,d1,d2⟩:=hd _ x hi
     refine⟨ds,d1.mono hfix,fun j v hj=>?_⟩
     have hjl:=get_lt hj
     rw[d1.length] at hjl
     have m1:=Nat.mul_le_mul_right e.width hr.1
     have m2:=Nat.mul_le_mul_right e.width (show i+1≤len+ys.length by omega)
     rw[Nat.add_mul,Nat.add_mul] at m2
     rw[lay_get hlw,if_pos ⟨by omega,by rw[hvs];omega⟩]
     have:=d2 j v hj
     rw[Nat.sub_mul] at this
     rw[show i*e.width+j-len*e.width=i*e.width-len*e.width+j by omega];exact this
    ·rename_i hr
     obtain⟨ds,d1,d2⟩:=h6 i x hi
     refine⟨ds,d1.mono hfix,fun j v hj=>?_⟩
     have hjl:=get_lt hj
     rw[d1.length] at hjl
     rw[lay_get hlw,if_neg]
     ·exact d2 j v hj
     ·rintro⟨r1,r2⟩
      apply hr
      refine⟨Classical.byContradiction fun hn=>?_,Classical.byContradiction fun hn=>?_⟩
      ·have:=Nat.mul_le_mul_right e.width (show i+1≤len by omega)
       rw[Nat.add_mul] at this;omega
      ·have:=Nat.mul_le_mul_right e.width (show len+ys.length≤i by omega)
       rw[Nat.add_mul] at this;rw[hvs] at r2;omega
   ·intro k v hv
    rw[lay_get hlw] at hv
    split at hv
    ·rename_i hr
     have hlt:=get_lt hv
     refine⟨hTin k hr.1 hr.2,?_,by rw[frozen_setCells];exact (hsm k hr.1 hr.2).2⟩
     have:=World.cell?_setCells_in (rowB p) vs (len*e.width) w hsome (k-len*e.width) (by omega)
     rw[show len*e.width+(k-len*e.width)=k by omega] at this
     rw[this,← hv]
     exact (List.getElem?_eq_getElem _).symm
    ·rename_i hr
     obtain⟨t1,t2,t3⟩:=h7 k v hv
     have ho:rowB p≠rowB p∨k<len*e.width∨len*e.width+vs.length≤k:=.inr (by omega)
     exact⟨by rw[hT _ _ ho];exact t1,by rw[cellout _ _ ho];exact t2,by rw[frozen_setCells];exact t3⟩
   ·intro k k1 k2
    rw[lay_length hl] at k1
    have m1:=Nat.mul_le_mul_right e.width (Nat.le_max_left xs.length (len+ys.length))
    have m2:=Nat.mul_le_mul_right e.width (Nat.le_max_right xs.length (len+ys.length))
    rw[Nat.add_mul] at m2
    rw[hT _ _ (.inr (.inr (by rw[hvs];omega)))]
    exact h8 k (by omega) k2
  ·refine (h.inv.mem c' q (hset c' hcc _ hq)).keep (fun _ h=>h) hfix (fun b' k e'=>?_) (fun b' k e'=>?_) (fun _ _ _ _ h=>setCells_noncell (rowB p) vs _ w _ _ h (fun _ _ _ e=>by cases e))
   ·have ho:=outside b' k (by rw[e'];intro e2;cases e2;exact hcc rfl) (by rw[e'];simp)
    exact⟨by rw[hT _ _ ho];exact e',cellout _ _ ho,frozen_setCells⟩
   ·rw[hT _ _ (outside b' k (by rw[e'];simp) (by rw[e'];intro e2;cases e2;exact hcc rfl))];exact e'
 ·intro i' r hr'
  obtain⟨b',rec,g1,g2,g3,g4,g5,g6,g7,g8,g9,g10⟩:=h.inv.loop i' r hr'
  have ho:=outside b' 0 (by rw[g2];simp) (by rw[g2];simp)
  exact⟨b',rec,g1,by rw[hT _ _ ho];exact g2,setCells_noncell (rowB p) vs _ w b' _ g3 (fun _ _ _ e=>by cases e),g4,g5,g6,g7,g8,fun t=>(g9 t).mono hfix (fun _ _ x=>x) (fun _ _ x=>x) (fun _ _ _ x=>x),g10⟩
 ·intro t
  exact (h.tm t).mono hfix (fun _ _ x=>x) (fun _ _ x=>x) (hown _ fun e'=>by cases e')
 ·intro d hd'
  obtain⟨D,e1,e2,e3⟩:=h.marks d hd'
  exact⟨D,e1,setCells_noncell (rowB p) vs _ w D _ e2 (fun _ _ _ e=>by cases e),fun o=>by rw[hT _ _ (outside D o (by rw[e3];simp) (by rw[e3];simp))];exact e3 o⟩
end Go.Am
namespace Go.Am
open Go
variable {R:Type} {X:Ext} {s:St}
theorem lt_of_get {α:Type} {l:List α} {i:Nat} {x:α} (h:l[i]?=some x):i<l.length:=by
 rcases Nat.lt_or_ge i l.length with hq | hq
 ·exact hq
 ·rw[List.getElem?_eq_none hq] at h;cases h
theorem storeK_some {t:TypeId} {av xv:AV} {x:Operand} {k:Eff→Option R} {r:R} (h:storeK X t av xv x s.heap k=some r) (hxv:xv=s.eval X x) :
  ∃ e,k e=some r∧e.grow=[]∧∀ (T:Tags) (σ lm:Nat→Option Nat) (A:Amb) (ro:Option Nat) (a:Act) (w:World) (ow:Own) (u:Value),Rel X T σ lm A ro s a w→Rep T.fix σ lm ow av u →
   ∃ w',(Instr.storeAt t u (a.eval x)).run X.P w=.ok () w'∧StepTo X T σ lm A ro w (e.on none s s.pend) a w':=by
 unfold storeK at h
 split at h
 ·rename_i c off
  split at h
  ·rename_i l hc
   have main:∀ (new:List AV),(∀ (T:Tags) (σ lm:Nat→Option Nat) (A:Amb) (ro:Option Nat) (a:Act) (w:World),Rel X T σ lm A ro s a w→new.all AV.leafOk=true →
      ∃ T',Keeps T w T' w∧(∀ c b,σ c=some b→σ c=some b)∧Rel X T' σ lm A ro { s with tmps:=dullAll s.tmps (tmpOf x) } a w∧new.length=(a.eval x).cells.size∧∀ (j:Nat) y v,new[j]?=some y→(a.eval x).cells.toList[j]?=some v→Rep T'.fix σ lm (T'.own (.leaf c (off+j))) y v) →
     (if new.length=sizeT X.P t∧off+new.length≤l.length∧(X.P.info? t).isSome=true∧new.all AV.leafOk=true then
      k { val:=.top,dulls:=tmpOf x,writes:=[(c,.var (l.take off ++ new ++ l.drop (off+new.length)))] } else none)=some r →
     ∃ e,k e=some r∧e.grow=[]∧∀ (T:Tags) (σ lm:Nat→Option Nat) (A:Amb) (ro:Option Nat) (a:Act) (w:World) (ow:Own) (u:Value),Rel X T σ lm A ro s a w→Rep T.fix σ lm ow (.ptr c off) u →
      ∃ w',(Instr.storeAt t u (a.eval x)).run X.P w=.ok () w'∧StepTo X T σ lm A ro w (e.on none s s.pend) a w':=by
    intro new hnew hh
    split at hh
    ·rename_i hcond
     obtain⟨c1,c2,c3,c4⟩:=hcond
     refine⟨_,hh,rfl,fun T σ lm A ro a w ow u hR hu=>?_⟩
     cases hu with
     | ptr _ c off b hs =>
     obtain⟨T',hk,_,hR',hlen,hrep⟩:=hnew T σ lm A ro a w hR c4
     have hst:=hR'.store c off l new (a.eval x).cells.toList b hc hs (by simpa using hlen) c2 hrep
     refine⟨w.setCells b off (a.eval x).cells.toList,?_,T',σ,hk.trans hst.1,(by intros;assumption),?_⟩
     ·simp only[Instr.storeAt,Instr.sureAddr,Sem.run_bind,Sem.run_pure,Result.andThen_ok,storeVar,run_sizeOf_some c3]
      rw[if_neg (by omega)]
      obtain⟨b',g1,g2,g3⟩:=hR'.inv.var c l hc
      rw[hs] at g1;cases g1
      have:=run_storeCells_cells (P:=X.P) b off (a.eval x).cells.toList 0 w (fun j hj=>by
        obtain⟨v,e1,_⟩:=g3 (off+j) _ (List.getElem?_eq_getElem (show off+j<l.length by simp at hj;omega))
        simp[e1]) (fun j hj=>by
        obtain⟨v,e1,e2,_⟩:=g3 (off+j) _ (List.getElem?_eq_getElem (show off+j<l.length by simp at hj;omega))
        simpa using e2) (fun v hv=>by
        obtain⟨i,hi,rfl⟩:=List.getElem_of_mem hv
        have hin:i<new.length:=by simp at hi;omega
        exact (leaf_rep (hrep i new[i] _ (List.getElem?_eq_getElem hin) (List.getElem?_eq_getElem hi)) (List.all_eq_true.1 c4 _ (List.getElem_mem hin))).1)
      simpa using this
     ·have e:(({ val:=.top,dulls:=tmpOf x,writes:=[(c,.var (l.take off ++ new ++ l.drop (off+new.length)))] }:Eff).on none s s.pend) = { s with tmps:=dullAll s.tmps (tmpOf x),heap:=s.heap.set c (.var (l.take off ++ new ++ l.drop (off+new.length))) }:=by
       simp[Eff.on,setAll]
      rw[e]
      exact hst.2
    ·cases hh
   split at h
   ·rename_i new
    refine main new ?_ h
    intro T σ lm A ro a w hR hall
    have hx:=hR.eval x
    rw[← hxv] at hx
    refine⟨T,Keeps.refl _ _,(by intros;assumption),?_,?_⟩
    ·cases x <;> first | exact hR | exact hR.dullT _
    ·generalize a.eval x=u at hx
     cases hx with
     | agg _ _ vs hr =>
     refine⟨by simpa[Value.cells] using hr.length,fun j y v h1 h2=>?_⟩
     obtain⟨v',e1,e2⟩:=hr.get j y h1
     simp only[Value.cells] at h2
     rw[e1] at h2;cases h2
     exact e2.mono (Fix.le.refl _) (fun _ _ x=>x) (fun _ _ x=>x) (fun _ _ _ x=>x.elim)
   ·rename_i hagg
    refine main [xv] ?_ h
    intro T σ lm A ro a w hR hall
    have hx:=hR.eval x
    rw[← hxv] at hx
    have hleaf:xv.leafOk=true:=by simpa using hall
    cases x with
    | tmp t =>
     have h1:=(hR.dullT t).retag (.tmp t) (.leaf c off) (fun c j e=>by cases e) (fun u e=>by cases e;exact dull_noOwn (hR.tm t)) (fun c j e=>by cases e)
     refine⟨_,retag_keeps _ _ _,(by intros;assumption),h1,?_⟩
     obtain⟨_,e2,_⟩:=leaf_rep hx hleaf
     refine⟨by rw[e2];rfl,fun j y v g1 g2=>?_⟩
     rw[e2] at g2
     cases j with
     | succ j=>simp at g1
     | zero =>
      simp at g1 g2
      subst g1;subst g2
      rw[retag_fix]
      exact hx.mono (Fix.le.refl _) (fun _ _ x=>x) (fun _ _ x=>x) retag_own_same
    | _ =>
     refine⟨T,Keeps.refl _ _,(by intros;assumption),hR,?_⟩
     obtain⟨_,e2,_⟩:=leaf_rep hx hleaf
     refine⟨by rw[e2];rfl,fun j y v g1 g2=>?_⟩
     rw[e2] at g2
     cases j with
     | succ j=>simp at g1
     | zero =>
      simp at g1 g2
      subst g1;subst g2
      exact hx.mono (Fix.le.refl _) (fun _ _ x=>x) (fun _ _ x=>x) (fun _ _ _ x=>x.elim)
  ·cases h
 ·rename_i c y m off
  split at h
  ·rename_i cell hc
   obtain⟨xs,hxs,h1⟩:=bind_some h
   obtain⟨z,hz,h2⟩:=bind_some h1
   obtain⟨new,hnew,h3⟩:=bind_some h2
   clear h h1 h2
   obtain rfl:=asRow_some hxs
   split at h3
   ·rename_i hcond
    obtain⟨c1,c2,c3,c4⟩:=hcond
    obtain⟨z',hz',h4⟩:=bind_some h3
    refine⟨_,h4,rfl,fun T σ lm A ro a w ow u hR hu=>?_⟩
    cases hu with
    | rptr _ _ _ _ _ p hp =>
    have hx:=hR.eval x
    rw[← hxv] at hx
    have hr:=flat_rep hx hnew
    have hone:=flat_one hx hnew c4
    have hlen:=hr.length
    obtain⟨k1,k2⟩:=hR.rowStore hc hz hp (by rw[← hlen];exact c2) hr hz'
    obtain⟨ds,d1,d2⟩:=hR.rowElem hc hz hp
    have hdl:=d1.length
    refine⟨w.setCells (rowB p) (m*y.width+off) (a.eval x).cells.toList,?_,T,σ,k1,(by intros;assumption),?_⟩
    ·simp only[Instr.storeAt,Instr.sureAddr,Sem.run_bind,Sem.run_pure,Result.andThen_ok,storeVar,run_sizeOf_some c3]
     rw[if_neg (by simp at hlen;omega)]
     have hat:∀ j,j<(a.eval x).cells.toList.length→∃ v,w.cell? ⟨rowB p,m*y.width+off+j,none⟩=some v∧w.frozen? ⟨rowB p,m*y.width+off+j,none⟩=false:=fun j hj=>by
      have hlt:off+j<ds.length:=by omega
      have:=d2 (off+j) _ (List.getElem?_eq_getElem hlt)
      rw[← Nat.add_assoc] at this
      exact⟨_,this⟩
     have:=run_storeCells_cells (P:=X.P) (rowB p) (m*y.width+off) (a.eval x).cells.toList 0 w (fun j hj=>by
       obtain⟨v,e1,_⟩:=hat j hj
       simp[e1]) (fun j hj=>by
       obtain⟨v,_,e2⟩:=hat j hj
       simpa using e2) hone
     simpa using this
    ·have e:(({ val:=.top,writes:=[(c,.row y (xs.set m z'))] }:Eff).on none s s.pend) = { s with heap:=s.heap.set c (.row y (xs.set m z')) }:=by
      simp[Eff.on,setAll,dullAll]
     rw[e]
     exact k2
   ·cases h3
  ·cases h
 ·cases h
theorem newK_some {slot:Nat} {z:List AV} {k:Eff→Option R} {r:R} (h:newK slot z s.heap k=some r) :
  ∃ e,k e=some r∧e.grow=[]∧∀ (T:Tags) (σ lm:Nat→Option Nat) (A:Amb) (ro:Option Nat) (a:Act) (w:World) (v:Value) (t:TypeId) (d:Option Tmp),Rel X T σ lm A ro s a w→RepL T.fix σ lm z v.cells.toList →
   (newVar t v).run X.P w=.ok ⟨w.heap.size,0,none⟩ (w.alloc (.cells v.cells t))∧StepTo X T σ lm A ro w (e.on d s s.pend) (a.put d (.pointer (some ⟨w.heap.size,0,none⟩))) (w.alloc (.cells v.cells t)):=by
 unfold newK at h
 split at h
 ·rename_i hs
  refine⟨_,h,rfl,fun T σ lm A ro a w v t d hR hz=>⟨rfl,?_⟩⟩
  have h1:=hR.newVar slot hs z v.cells t hz
  have e:(({ val:=.ptr slot 0,writes:=[(slot,.var z)] }:Eff).on d s s.pend)=({ s with heap:=s.heap.set slot (.var z) }:St).put d (.ptr slot 0):=by
   unfold Eff.on St.put
   cases d <;> simp[dullAll,setAll]
  rw[e]
  refine⟨_,_,hR.inv.keeps_alloc _ _,fun c b hc=>?_,h1.put d fun t _=>.ptr _ _ _ _ (by simp)⟩
  by_cases hcs:c=slot
  ·subst hcs
   obtain⟨l,hl,hlv⟩:=hR.inv.dom _ _ hc
   rw[hs] at hl;cases hl;cases hlv
  ·rw[if_neg hcs];exact hc
 ·cases h
theorem rowsOf_some {e:Ty}:∀ (parts:List (Nat×AV)) (i:Nat) (xs:List e.den),rowsOf e i parts=some xs→xs.length=parts.length∧∀ (us:List (Nat×Value)) (F:Fix) (σ lm:Nat→Option Nat),
  (parts.length=us.length∧∀ (i:Nat) p u,parts[i]?=some p→us[i]?=some u→p.1=u.1∧∃ ow,Rep F σ lm ow p.2 u.2) →
  AllD F e xs (us.map fun u=>u.2.cells.toList)∧∀ (place:Nat→Option (Nat×Nat)) (pre post:List Value) (cs:Array Value),(∀ j,place j=some (j*e.width,e.width))→cs.toList=pre ++ post→pre.length=i*e.width→us.length*e.width≤post.length →
   ∃ r,Instr.fill place cs us=some r∧r.toList=pre ++ (us.map fun u=>u.2.cells.toList).flatten ++ post.drop (us.length*e.width):=by
 intro parts
 induction parts with
 | nil =>
  intro i xs h
  simp only[rowsOf,Option.some.injEq] at h
  subst h
  refine⟨rfl,fun us F σ lm hp=>?_⟩
  cases us with
  | nil=>exact⟨rfl,fun place pre post cs _ hc _ _=>⟨cs,rfl,by simp[hc]⟩⟩
  | cons u us=>simp at hp
 | cons p parts ih =>
  intro i xs h
  obtain⟨j,v⟩:=p
  unfold rowsOf at h
  split at h
  ·rename_i hj;subst hj
   obtain⟨fl,hfl,h⟩:=bind_some h
   obtain⟨⟨x,rest⟩,hx,h⟩:=bind_some h
   split at h
   ·rename_i hre
    obtain⟨ys,hys,h⟩:=bind_some h
    cases h
    obtain⟨hl,hrec⟩:=ih (j+1) ys hys
    refine⟨by simp[hl],fun us F σ lm hp=>?_⟩
    cases us with
    | nil=>simp at hp
    | cons u us =>
     obtain⟨j',u⟩:=u
     obtain⟨e1,ow,hv⟩:=hp.2 0 (j,v) (j',u) rfl rfl
     simp only at e1 hv
     subst e1
     have hflr:=flat_rep hv hfl
     have hrest:rest=[]:=by simpa using hre
     subst hrest
     obtain⟨cs0,us0,hcs,hcd,hus⟩:=cellsD_take hx hflr
     cases hus
     simp only[List.append_nil] at hcs
     have hp':parts.length=us.length∧∀ (i:Nat) p u,parts[i]?=some p→us[i]?=some u→p.1=u.1∧∃ ow,Rep F σ lm ow p.2 u.2 :=
      ⟨by simpa using hp.1,fun i p u h1 h2=>hp.2 (i+1) p u (by simpa using h1) (by simpa using h2)⟩
     obtain⟨hall,hfill⟩:=hrec us F σ lm hp'
     refine⟨⟨u.cells.toList,_,rfl,by rw[hcs];exact hcd,hall⟩,fun place pre post cs hpl hc hpre hpost=>?_⟩
     have hsz:u.cells.size=e.width:=by
      have:=hcd.length
      rw[← hcs] at this
      simpa using this
     have hlen:cs.size=pre.length+post.length:=by
      have:=congrArg List.length hc
      simpa using this
     simp only[List.length_cons,Nat.add_mul,Nat.one_mul] at hpost
     have hfit:j*e.width+u.cells.size≤cs.size:=by omega
     have hnew:=foldl_set_arr (j*e.width) u.cells cs hfit
     obtain⟨r,hr1,hr2⟩:=hfill place (pre ++ u.cells.toList) (post.drop e.width) (u.cells.zipIdx.foldl (fun cs (x:Value×Nat)=>cs.setIfInBounds (j*e.width+x.2) x.1) cs) hpl
      (by rw[hnew,hc,hsz];simp[← hpre]) (by simp[hpre,hsz,Nat.add_mul]) (by simp;omega)
     refine⟨r,?_,?_⟩
     ·unfold Instr.fill
      simp only[hpl]
      rw[if_neg (by simp[hsz];rw[hsz] at hfit;omega)]
      exact hr1
     ·rw[hr2]
      simp[Nat.add_mul,Nat.add_comm]
   ·cases h
  ·cases h
theorem alloc_cells_get {w:World} {vs:Array Value} {e:TypeId} {o:Nat}:(w.alloc (.cells vs e)).cell? ⟨w.heap.size,o,none⟩=vs[o]?:=World.cell?_alloc_new w vs e o
theorem Rel.newRow {T:Tags} {σ lm:Nat→Option Nat} {A:Amb} {ro:Option Nat} {a:Act} {w:World} (h:Rel X T σ lm A ro s a w) (l:Loc) (vs:Array Value) (e:TypeId) (n:Nat) (hn:n≤vs.size) :
  ∃ T',Keeps T w T' (w.alloc (.cells vs e))∧Rel X T' σ lm A ro s a (w.alloc (.cells vs e))∧T.fix.le T'.fix∧(∀ (k:Nat) v,k<n→vs[k]?=some v→FixAt T'.fix ⟨w.heap.size,0,none⟩ k v)∧(∀ k,n≤k→k<vs.size→T' w.heap.size k=.spare l 0):=by
 refine⟨T.new w.heap.size fun o=>if o<n then .fixed (vs.getD o undef) else if o<vs.size then .spare l 0 else .free,h.inv.keeps_alloc _ _,h.alloc _ _ ?_ ?_,h.inv.le_new _,?_,?_⟩
 ·intro o v hv
  rw[alloc_cells_get]
  split at hv
  ·rename_i ho
   cases hv
   have:o<vs.size:=by omega
   simp[Array.getD_eq_getD_getElem?,Array.getElem?_eq_getElem this]
  ·split at hv <;> cases hv
 ·intro o m j hv
  rw[alloc_cells_get]
  split at hv
  ·cases hv
  ·split at hv
   ·rename_i ho
    refine⟨by simp[Array.getElem?_eq_getElem ho],by simp⟩
   ·cases hv
 ·intro k v hk hv
  unfold FixAt
  rw[add_none]
  refine⟨rfl,?_⟩
  rw[Tags.fix_eq]
  simp[Tags.new,hk,Array.getD_eq_getD_getElem?,hv]
 ·intro k h1 h2
  simp[Tags.new,show ¬ k<n by omega,h2]
theorem buildSliceK_some {t:TypeId} {n:Nat} {parts:List (Nat×AV)} {k:AV→Option R} {r:R} (h:buildSliceK X t n parts k=some r) :
  ∃ av,k av=some r∧∀ (T:Tags) (σ lm:Nat→Option Nat) (A:Amb) (ro:Option Nat) (a:Act) (w:World) (us:List (Nat×Value)) (d:Option Tmp),Rel X T σ lm A ro s a w →
   (parts.length=us.length∧∀ (i:Nat) p u,parts[i]?=some p→us[i]?=some u→p.1=u.1∧∃ ow,Rep T.fix σ lm ow p.2 u.2) →
   ∃ v w',(Instr.buildSlice t n us.toArray).run X.P w=.ok v w'∧StepTo X T σ lm A ro w (({ val:=av }:Eff).on d s s.pend) (a.put d v) w':=by
 unfold buildSliceK at h
 obtain⟨⟨e,x⟩,hex,h⟩:=bind_some h
 unfold sliceElem at hex
 split at hex
 ·rename_i e' hu
  obtain⟨x',hx',hex⟩:=bind_some hex
  split at hex
  ·rename_i hwd
   cases hex
   split at h
   ·rename_i hc
    obtain⟨c1,c2,c3,c4⟩:=hc
    simp only at c1 c3 c4
    obtain⟨xs,hxs,h⟩:=bind_some h
    refine⟨_,h,fun T σ lm A ro a w us d hR hp=>?_⟩
    obtain⟨z,hz⟩:=Option.isSome_iff_exists.1 c3
    obtain⟨zv,hzv,_,hzl⟩:=zeroLeaves_some hz
    obtain⟨hlen,hrows⟩:=rowsOf_some parts 0 xs hxs
    obtain⟨hall,hfill⟩:=hrows us T.fix σ lm hp
    have hun:us.length=n:=by omega
    have hsz:=run_sizeOf_pos (P:=X.P) (t:=e) c4
    obtain⟨rr,hr1,hr2⟩:=hfill (fun i=>some (i*sizeT X.P e,sizeT X.P e)) [] (((Array.range (n*sizeT X.P e)).map (fun i=>(if n*sizeT X.P e=0 then #[] else zv.cells)[i % (if n*sizeT X.P e=0 then #[] else zv.cells).size]!)).toList)
     ((Array.range (n*sizeT X.P e)).map (fun i=>(if n*sizeT X.P e=0 then #[] else zv.cells)[i % (if n*sizeT X.P e=0 then #[] else zv.cells).size]!)) (fun j=>by rw[hwd]) (by simp) (by simp) (by simp[hun,hwd])
    have hr3:rr.toList=(us.map fun u=>u.2.cells.toList).flatten:=by
     rw[hr2]
     simp[hun,hwd]
    have hsize:rr.size=xs.length*x.width:=by
     have:=congrArg List.length hr3
     rw[hall.len] at this
     simpa using this
    have hrun:(Instr.buildSlice t n us.toArray).run X.P w=.ok (.slice (some ⟨w.heap.size,0,none⟩) n n) (w.alloc (.cells rr e)):=by
     unfold Instr.buildSlice
     simp only[Sem.run_bind,run_und hu,Result.andThen_ok,hsz]
     rw[if_neg (by omega)]
     by_cases h0:n*sizeT X.P e=0
     ·rw[if_pos h0]
      simp only[h0,if_true] at hr1
      simp only[h0,Sem.run_bind,Sem.run_pure,Result.andThen_ok]
      rw[hr1]
      rfl
     ·rw[if_neg h0]
      simp only[h0,if_false] at hr1
      simp only[Sem.run_bind,hzv,Sem.run_pure,Result.andThen_ok]
      rw[hr1]
      rfl
    obtain⟨T',hk,hR',hle,hfx,_⟩:=hR.newRow (match d with | some d=>.tmp d | none=>.ret) rr e rr.size (Nat.le_refl _)
    refine⟨_,_,hrun,T',σ,hk,(by intros;assumption),?_⟩
    rw[eff_on_pure]
    refine hR'.put d fun t ht=>?_
    have e1:n=xs.length:=by omega
    rw[e1]
    refine .slice _ _ _ _ _ _ ⟨Nat.le_refl _,(fun h=>by cases h),(by
     have hq:n≤n*sizeT X.P e:=Nat.le_mul_of_pos_right _ (by omega)
     unfold maxLen;omega)⟩ ?_ ?_
    ·refine RowsD.of_all (hall.mono hle) fun k v hv=>?_
     rw[← hr3] at hv
     exact hfx k v (by have:=lt_of_get hv;simpa using this) (by simpa using hv)
    ·intro _
     exact .inr ⟨w.heap.size,0,rfl,fun i h1 h2=>by omega⟩
   ·cases h
  ·cases hex
 ·cases hex
end Go.Am
