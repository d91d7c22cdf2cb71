/- A part of the proof of this folder's statement; it has no condition of its own. -/
import Derived.Test.YthjnlpfibakacaaGreatDoorPeCore
set_option linter.unusedVariables false
namespace Go.Proofs.YthjnlpfibakacaaGreatDoorPe
open Go
inductive UOp where
 |smov|nilchk|not|tobytes|tostr|len|slen|sdata
 |conv (k:IntKind)|iface (t:TypeId)|off (o:Nat)|field (n:Option Nat) (o:Nat)|ext (i:Nat)|ld (n:Option Nat)
 deriving DecidableEq,Inhabited
inductive BOp where
 |bin (op:BinOp)|eqs (kind:Nat) (neg:Bool)|idx (n:Nat)|sidx|pidx (n:Nat)|mm (m:Bool)
 deriving DecidableEq,Inhabited
inductive TOp where
 |call (m:Nat) (f:FuncId)
 |build (zs:List PV) (at_:List (Nat × Nat))
 |bslice (n:Nat) (z:List PV) (len:Nat) (at_:List Nat)
 |mkfn (f:FuncId)
 |apart                             -- the first is no place in a box of the others
 deriving Inhabited
inductive Exp where
 |v (s:Nat)
 |c (x:PV)
 |gd (b:Bool) (g e:Exp)           -- under a guard
 |pick (g a b:Exp)
 |un (u:UOp) (x:Exp)
 |bi (b:BOp) (x y:Exp)
 |ssub (lo hi:Bool) (x y z:Exp)
 |lsub (n:Nat) (lo hi mx:Bool) (x y z w:Exp)
 |nil
 |cons (x xs:Exp)
 |tup (k:TOp) (xs:Exp)
 deriving Inhabited
def lenV (x:PV):Option PV :=
 match x.nm with
 |.lst l=>some (.int .i64 l.length)
 |.full l=>some (.int .i64 l.length)
 |.own _ l=>some (.int .i64 l.length)
 |.hs _ _ _ len=>some (.int .i64 len)
 |_=>none
def slenV:PV->Option PV
 |.str s=>some (.int .i64 s.length)
 |_=>none
def notV:PV->Option PV
 |.bool b=>some (.bool (!b))
 |_=>none
def convV (k:IntKind):PV->Option PV
 |.int _ n=>some (.int k (k.wrap n))
 |_=>none
def offV (o:Nat):PV->Option PV
 |.ptr b p=>some (.ptr b (p+o))
 |.ref cs=>if o<=cs.length then some (.ref (cs.drop o)) else none
 |_=>none
def fieldV (n:Option Nat) (o:Nat):PV->Option PV
 |.agg cs=>loadC n (cs.drop o)
 |_=>none
def extV (i:Nat):PV->Option PV
 |.tuple vs=>vs[i]?
 |_=>none
def ldV (n:Option Nat):PV->Option PV
 |.ref cs=>loadC n cs
 |_=>none
def tostrV (x:PV):Option PV :=
 match slcOf x.nm with
 |some l=>(mapO byteP l).map .str
 |none=>none
def tobytesV:PV->Option PV
 |.str s=>some (.lst (s.map fun b=>.int .u8 b.toNat))
 |_=>none
def smovV:PV->Option PV
 |.str s=>some (.str s)
 |_=>none
def nilchkV:PV->Option PV
 |.ptr b o=>some (.ptr b o)
 |.ref cs=>some (.ref cs)
 |.func f []=>some (.func f [])
 |_=>none
def unV (u:UOp) (x:PV):Option PV :=
 match u with
 |.smov=>smovV x
 |.nilchk=>nilchkV x
 |.not=>notV x
 |.tobytes=>tobytesV x
 |.tostr=>tostrV x
 |.len=>lenV x
 |.slen=>slenV x
 |.sdata=>sdataV x
 |.conv k=>convV k x
 |.iface t=>some (.iface t x)
 |.off o=>offV o x
 |.field n o=>fieldV n o x
 |.ext i=>extV i x
 |.ld n=>ldV n x
def idxV (n:Nat) (x y:PV):Option PV :=
 match x,y with
 |.lst l,.int _ i=>evIdx n l i
 |.full l,.int _ i=>evIdx n l i
 |.own _ l,.int _ i=>evIdx n l i
 |.hs m b o len,.int _ i=>evHidx n m b o len i
 |_,_=>none
def sidxV (x y:PV):Option PV :=
 match x,y with
 |.str s,.int _ i=>if 0<=i then match s[i.toNat]? with
   |some b=>some (.int .u8 b.toNat)
   |none=>none
  else none
 |_,_=>none
def eqsV (kind:Nat) (neg:Bool) (x y:PV):Option PV:=(evEq kind x y).map fun b=>.bool (if neg then !b else b)
def biV (b:BOp) (x y:PV):Option PV :=
 match b with
 |.bin op=>evBin op x y
 |.eqs kind neg=>eqsV kind neg x y
 |.idx n=>idxV n x y
 |.sidx=>sidxV x y
 |.pidx n=>Go.Proofs.YthjnlpfibakacaaGreatDoorPe.pidxV n x y
 |.mm m=>mmV m x y
def optB (b:Bool) (x:PV):Option PV:=if b then some x else none
def ssubV (x:PV) (lo hi:Option PV):Option PV :=
 match x with
 |.str s=>match bnd hi s.length s.length with
  |some h=>match bnd lo h 0 with
   |some l=>some (.str ((s.take h).drop l))
   |none=>none
  |none=>none
 |_=>none
def lsubV (n:Nat) (x:PV) (lo hi mx:Option PV):Option PV :=
 match hsOf x with
 |some (m,b,o,len)=>hsubV n m b o len lo hi mx
 |none =>
 match slcOf x.nm,mx with
 |some l,none=>match bnd hi l.length l.length with
  |some h=>match bnd lo h 0 with
   |some o=>if sizesOk n o l then some (.lst ((l.take h).drop o)) else none
   |none=>none
  |none=>none
 |some l,some m=>match bnd (some m) l.length l.length with
  |some c=>match bnd hi c c with
   |some h=>match bnd lo h 0 with
    |some o=>if sizesOk n o l then (if h=c then some (.full ((l.take h).drop o)) else some (.lst ((l.take h).drop o))) else none
    |none=>none
   |none=>none
  |none=>none
 |none,_=>none
def callV (cl:CallF) (m:Nat) (f:FuncId) (vs:List PV):Option PV :=
 match mapO (argF m) vs with
 |some as=>match cl f as ⟨[],[],[],[]⟩ with
  |some (r,st')=>shutR (m % 2==1) st' shutN r
  |none=>none
 |none=>none
def zip3:List (Nat × Nat)->List PV->List (Nat × Nat × PV)
 |(o,n)::l,v::vs=>(o,n,v)::zip3 l vs
 |_,_=>[]
def ofBox (b:Nat):PV->Bool
 |.ptr c _=>c==b
 |_=>false
def apartV (w:PV) (l:List PV):Bool :=
 match w with
 |.ptr b _=>l.all fun v => !ofBox b v
 |_=>true
def tupV (cl:CallF) (k:TOp) (vs:List PV):Option PV :=
 match k with
 |.call m f=>callV cl m f vs
 |.build zs a=>(fillP zs (zip3 a vs)).map .agg
 |.bslice n z len a=>match mapO (shutA shutN) vs with
  |some ws=>(setAt n (toElems n z len) (a.zip ws)).map fun l=>if len=0 then .emp else .full l
  |none=>none
 |.mkfn f=>some (.func f vs)
 |.apart=>match vs with
  |w::l=>if apartV w l=true then some (.tuple []) else none
  |[]=>none
def guardV (b:Bool):PV->Option Bool
 |.bool c=>some (c==b)
 |.tuple []=>some false
 |_=>none
def tupleOf:Option PV->Option (List PV)
 |some (.tuple vs)=>some vs
 |_=>none
def evE (cl:CallF) (fr:Fr):Exp->Option PV
 |.v s=>some (fr.getD s .undef)
 |.c x=>some x
 |.gd b g e=>match evE cl fr g with
  |some c=>match guardV b c with
   |some true=>evE cl fr e
   |some false=>some (.tuple [])
   |none=>none
  |none=>none
 |.pick g a b=>match evE cl fr g with
  |some (.bool true)=>evE cl fr a
  |some (.bool false)=>evE cl fr b
  |_=>none
 |.un u x=>match evE cl fr x with
  |some a=>unV u a
  |none=>none
 |.bi b x y=>match evE cl fr x with
  |some a=>match evE cl fr y with
   |some c=>biV b a c
   |none=>none
  |none=>none
 |.ssub l h x y z=>match evE cl fr x with
  |some a=>match evE cl fr y with
   |some b=>match evE cl fr z with
    |some c=>ssubV a (optB l b) (optB h c)
    |none=>none
   |none=>none
  |none=>none
 |.lsub n l h m x y z w=>match evE cl fr x with
  |some a=>match evE cl fr y with
   |some b=>match evE cl fr z with
    |some c=>match evE cl fr w with
     |some d=>lsubV n a (optB l b) (optB h c) (optB m d)
     |none=>none
    |none=>none
   |none=>none
  |none=>none
 |.nil=>some (.tuple [])
 |.cons x xs=>match evE cl fr x with
  |some a=>match tupleOf (evE cl fr xs) with
   |some vs=>some (.tuple (a::vs))
   |none=>none
  |none=>none
 |.tup k xs=>match tupleOf (evE cl fr xs) with
  |some vs=>tupV cl k vs
  |none=>none
inductive EOp where
 |box (n:Nat) (T:TypeId) (x:Exp)
 |zbox (zs:List PV) (T:TypeId)
 |load (n:Option Nat) (x:Exp)
 |store (n:Nat) (x y:Exp)
 |append (n bytes:Nat) (T:TypeId) (x y:Exp)
 |happend (n bytes:Nat) (T:TypeId) (x y:Exp)
 |pappend (n bytes:Nat) (T:TypeId) (x y v:Exp)
 |fill (n:Nat) (x y:Exp)
 |bown (n:Nat) (z:List PV) (len:Nat) (at_:List Nat) (xs:Exp)
 |mark (x:Exp)
 |touns (x:Exp)
 |fromuns (n:Nat) (u:TypeId) (x:Exp)
 |ustr (T:TypeId) (x y:Exp)
 |callo (f:FuncId) (xs:Exp)
 |calls (raw:List Bool) (f:FuncId) (xs:Exp)
 |callv (x xs:Exp)
 |fail
 deriving Inhabited
inductive EStmt where
 |sets (l:List (Nat × Exp))
 |eff (d:Option Nat) (g:Option (Exp × Bool)) (op:EOp)
 |swap (x y:EOp)                    -- in either order
 |chk (e:Exp)
 deriving Inhabited
inductive ERes where
 |e (x:Exp)
 |cell (x:Exp) (n:Option Nat)
 deriving Inhabited
inductive EC where
 |st (l:List EStmt)
 |seq (a b:EC)
 |cond (x:Exp) (a b:EC)
 |choose (m:List Bool) (T:TypeId) (a b:EC)
 |block (id:Nat) (a:EC)
 |loop (m:List Bool) (a:EC)
 |exit (id:Nat)
 |ret (rs:List ERes)
 |skip
 deriving Inhabited
structure EFunc where
 np:Nat
 nslots:Nat
 body:EC
 deriving Inhabited
def boxV (n:Nat) (T:TypeId) (x:PV) (st:St):Option (PV × St) :=
 if x.cells.length=n then some (.ptr st.boxes.length 0,⟨st.boxes++[x.cells],st.rows,st.bt++[T],st.rt⟩) else none
def loadV (n:Option Nat) (x:PV) (st:St):Option (PV × St) :=
 match x with
 |.ptr b o=>match st.boxes[b]? with
  |some cs=>(loadC n (cs.drop o)).map (·,st)
  |none=>none
 |.ref cs=>(loadC n cs).map (·,st)
 |_=>none
def storeV (n:Nat) (x y:PV) (st:St):Option (PV × St) :=
 match x with
 |.ptr b o=>match st.boxes[b]? with
  |some cs=>if y.cells.length=n/\o+n<=cs.length/\y.cells.all PV.isCell then
    some (.tuple [],⟨st.boxes.set b (cs.take o++(y.cells++cs.drop (o+n))),st.rows,st.bt,st.rt⟩) else none
  |none=>none
 |_=>none
def appendV (n bytes:Nat) (T:TypeId) (x y:PV) (st:St):Option (PV × St) :=
 match elemsOf y.nm with
 |some es=>evAppend n bytes T (if es.isEmpty=true then x else x.nm) es st
 |none=>none
def happendV (n bytes:Nat) (x y:PV) (st:St):Option (PV × St) :=
 match elemsOf y.nm with
 |some es=>evHappend n bytes x es st
 |none=>none
def calloV (cl:CallF) (f:FuncId) (vs:List PV) (st:St):Option (PV × St) :=
 match mapO (shutA shutN) vs with
 |some as=>match cl f as ⟨[],[],[],[]⟩ with
  |some (r,st')=>match r with
   |.own q l=>match st'.rows[q]?,st'.rt[q]? with
    |some (m,n),some T=>if m=l.length then some (.own st.rows.length l,⟨st.boxes,st.rows++[(m,n)],st.bt,st.rt++[T]⟩) else none
    |_,_=>none
   |r=>(shutR true st' shutN r).map (·,st)
  |none=>none
 |none=>none
def callsV (cl:CallF) (raw:List Bool) (f:FuncId) (vs:List PV) (st:St):Option (PV × St) :=
 match shutS raw vs with
 |some as=>cl f as st
 |none=>none
def callvV (cl:CallF) (x:PV) (vs:List PV) (st:St):Option (PV × St) :=
 match x with
 |.func f cap=>cl f (vs++cap) st
 |_=>none
def bownV (n:Nat) (z:List PV) (len:Nat) (a:List Nat) (vs:List PV) (st:St):Option (PV × St) :=
 match mapO (shutA shutN) vs with
 |some ws=>match setAt n (toElems n z len) (a.zip ws) with
  |some l=>if szAll n l=true then some (.own st.rows.length l,⟨st.boxes,st.rows++[(l.length,n)],st.bt,st.rt++[tagT]⟩) else none
  |none=>none
 |none=>none
def evEff (cl:CallF) (fr:Fr) (st:St):EOp->Option (PV × St)
 |.box n T x=>match evE cl fr x with
  |some a=>boxV n T a st
  |none=>none
 |.zbox zs T=>some (.ptr st.boxes.length 0,⟨st.boxes++[zs],st.rows,st.bt++[T],st.rt⟩)
 |.load n x=>match evE cl fr x with
  |some a=>loadV n a st
  |none=>none
 |.store n x y=>match evE cl fr x with
  |some a=>match evE cl fr y with
   |some b=>storeV n a b st
   |none=>none
  |none=>none
 |.append n bytes T x y=>match evE cl fr x with
  |some a=>match evE cl fr y with
   |some b=>appendV n bytes T a b st
   |none=>none
  |none=>none
 |.happend n bytes T x y=>match evE cl fr x with
  |some a=>match evE cl fr y with
   |some b=>happendV n bytes a b st
   |none=>none
  |none=>none
 |.pappend n bytes T x y v=>match evE cl fr x with
  |some a=>match evE cl fr y with
   |some b=>match evE cl fr v with
    |some c=>evPappend n bytes T a b c st
    |none=>none
   |none=>none
  |none=>none
 |.fill n x y=>match evE cl fr x with
  |some a=>match evE cl fr y with
   |some b=>(fillV a b).map (·,st)
   |none=>none
  |none=>none
 |.bown n z len a xs=>match tupleOf (evE cl fr xs) with
  |some vs=>bownV n z len a vs st
  |none=>none
 |.mark x=>match evE cl fr x with
  |some a=>markV a st
  |none=>none
 |.touns x=>match evE cl fr x with
  |some a=>tounsV a st
  |none=>none
 |.fromuns n u x=>match evE cl fr x with
  |some a=>fromunsV n u a st
  |none=>none
 |.ustr T x y=>match evE cl fr x with
  |some a=>match evE cl fr y with
   |some b=>ustrV T a b st
   |none=>none
  |none=>none
 |.callo f xs=>match tupleOf (evE cl fr xs) with
  |some vs=>calloV cl f vs st
  |none=>none
 |.calls raw f xs=>match tupleOf (evE cl fr xs) with
  |some vs=>callsV cl raw f vs st
  |none=>none
 |.callv x xs=>match evE cl fr x with
  |some a=>match tupleOf (evE cl fr xs) with
   |some vs=>callvV cl a vs st
   |none=>none
  |none=>none
 |.fail=>none
def evSets (cl:CallF) (fr:Fr):List (Nat × Exp)->Option (List (Nat × PV))
 |[]=>some []
 |(s,e)::l=>match evE cl fr e with
  |some x=>match evSets cl fr l with
   |some r=>some ((s,x)::r)
   |none=>none
  |none=>none
def putAll:List (Nat × PV)->Fr->Fr
 |[],fr=>fr
 |(s,x)::l,fr=>putAll l (fr.set s x)
def swapV (a:Option (PV × St)) (b:St->Option (PV × St)) (c:Option (PV × St)) (d:St->Option (PV × St)) (fr:Fr):Option (Fr × St) :=
 match a with
 |some (_,s1)=>match b s1 with
  |some (_,s2)=>match c with
   |some (_,t1)=>match d t1 with
    |some (_,t2)=>if sameSt s2 t2=true then some (fr,s2) else none
    |none=>none
   |none=>none
  |none=>none
 |none=>none
def evStmt (cl:CallF):EStmt->Fr->St->Option (Fr × St)
 |.sets l,fr,st=>match evSets cl fr l with
  |some r=>some (putAll r fr,st)
  |none=>none
 |.eff d none op,fr,st=>match evEff cl fr st op with
  |some (x,st')=>some (putF d x fr,st')
  |none=>none
 |.eff d (some (g,b)) op,fr,st=>match evE cl fr g with
  |some c=>match guardV b c with
   |some true=>match evEff cl fr st op with
    |some (x,st')=>some (putF d x fr,st')
    |none=>none
   |some false=>some (putF d (.tuple []) fr,st)
   |none=>none
  |none=>none
 |.swap x y,fr,st=>swapV (evEff cl fr st x) (fun st=>evEff cl fr st y) (evEff cl fr st y) (fun st=>evEff cl fr st x) fr
 |.chk e,fr,st=>match evE cl fr e with
  |some _=>some (fr,st)
  |none=>none
def evStmts (cl:CallF):List EStmt->Fr->St->Option (Fr × St)
 |[],fr,st=>some (fr,st)
 |s::l,fr,st=>match evStmt cl s fr st with
  |some (fr',st')=>evStmts cl l fr' st'
  |none=>none
def evRes (cl:CallF) (fr:Fr) (st:St):ERes->Option PV
 |.e x=>evE cl fr x
 |.cell x n=>match evE cl fr x with
  |some (.ptr b o)=>match st.boxes[b]? with
   |some cs=>loadC n (cs.drop o)
   |none=>none
  |_=>none
def oneOf:List PV->PV
 |[v]=>v
 |vs=>.tuple vs
def evRets (cl:CallF) (rs:List ERes) (fr:Fr) (st:St):Option PV:=(mapO (evRes cl fr st) rs).map oneOf
inductive EX where
 |normal
 |exit (id:Nat)
 |ret (v:PV)
 deriving Inhabited
abbrev ERs:=Option (EX × Fr × St)
def iterE (step:Fr->St->ERs):Nat->Fr->St->ERs
 |0,_,_=>none
 |n+1,fr,st=>match step fr st with
  |some (.normal,fr',st')=>iterE step n fr' st'
  |some (.exit i,fr',st')=>some (.exit i,fr',st')
  |some (.ret v,fr',st')=>some (.ret v,fr',st')
  |none=>none
def bothE (m:List Bool) (x y:ERs):ERs :=
 match x,y with
 |some (.normal,f,s),some (.normal,g,t)=>if PV.sames (mask m f) (mask m g)&&sameSt s t then some (.normal,mask m f,s) else none
 |_,_=>none
def roundE (m:List Bool):ERs->ERs
 |some (.normal,fr,st)=>some (.normal,mask m fr,st)
 |r=>r
def evS (cl:CallF) (n:Nat):EC->Fr->St->ERs
 |.st l,fr,st=>match evStmts cl l fr st with
  |some (fr',st')=>some (.normal,fr',st')
  |none=>none
 |.seq a b,fr,st=>match evS cl n a fr st with
  |some (.normal,fr',st')=>evS cl n b fr' st'
  |some (.exit i,fr',st')=>some (.exit i,fr',st')
  |some (.ret v,fr',st')=>some (.ret v,fr',st')
  |none=>none
 |.cond x a b,fr,st=>match evE cl fr x with
  |some (.bool c)=>if c then evS cl n a fr st else evS cl n b fr st
  |_=>none
 |.choose m T a b,fr,st=>bothE m (evS cl n a fr (St.pick T st)) (evS cl n b fr (St.pick T st))
 |.block id a,fr,st=>match evS cl n a fr st with
  |some (.exit i,fr',st')=>if i=id then some (.normal,fr',st') else some (.exit i,fr',st')
  |some (.normal,fr',st')=>some (.normal,fr',st')
  |some (.ret v,fr',st')=>some (.ret v,fr',st')
  |none=>none
 |.loop m a,fr,st=>iterE (fun fr st=>roundE m (evS cl n a fr st)) n (mask m fr) st
 |.exit id,fr,st=>some (.exit id,fr,st)
 |.ret rs,fr,st=>match evRets cl rs fr st with
  |some v=>some (.ret v,[],st)
  |none=>none
 |.skip,fr,st=>some (.normal,fr,st)
def startE (n:Nat) (args:List PV):Fr:=args++List.replicate (n-args.length) .undef
def evFE (fns:FuncId->Option EFunc) (given:FuncId->List PV->Option PV):Nat->CallF
 |0,_,_,_=>none
 |k+1,f,args,st=>match fns f with
  |some c=>if args.length=c.np then match evS (evFE fns given k) k c.body (startE c.nslots args) st with
   |some (.ret v,_,st')=>some (v,st')
   |_=>none
   else none
  |none=>givenV given f args st
end Go.Proofs.YthjnlpfibakacaaGreatDoorPe
