/- A part of the proof of this folder's statement; it has no condition of its own. -/
import Derived.Test.YthjnlpfibakacaaGreatDoorPePure0
import Derived.Test.YthjnlpfibakacaaGreatDoorWLast
set_option linter.unusedVariables false
namespace Go.Proofs.YthjnlpfibakacaaGreatDoorPe
open Go
def cv1:Value->Option PV
 |.bool b=>some (.bool b)
 |.int k n=>some (.int k n)
 |.string s=>some (.str s.data.toList)
 |.pointer a=>match a with
  |none=>some .nilp
  |some _=>none
 |.slice a n c=>match a,n,c with
  |none,0,0=>some .nils
  |_,_,_=>none
 |.nilFunc=>some .nilf
 |.nilIface=>some .nili
 |_=>none
def cv:Value->Option PV
 |.agg cs=>(mapO cv1 cs.toList).map .agg
 |.tuple cs=>match cs.toList with
  |[]=>some (.tuple [])
  |_=>none
 |.func fn a b=>match fn,a.toList,b.toList with
  |.func f,[],[]=>some (.func f [])
  |_,_,_=>none
 |v=>cv1 v
def cOpd:Operand->Option Opd
 |.tmp t=>some (.t t)
 |.const v=>(cv v).map .c
 |.func f=>some (.c (.func f []))
 |.global _=>none
def isConst:Operand->Bool
 |.const _=>true
 |_=>false
def aggT (P:Program) (t:TypeId):Option Bool :=
 match P.underlying t with
 |some (.struct _)=>some true
 |some (.array _ _)=>some true
 |some _=>some false
 |none=>none
def loadT (P:Program) (t:TypeId):Option (Option Nat) :=
 match aggT P t with
 |some true=>(P.info? t).map fun i=>some i.size
 |some false=>some none
 |none=>none
def zeroT (P:Program) (t:TypeId):Option (List PV) :=
 match P.info? t with
 |some i=>match i.zero with
  |some z=>mapO cv1 z.cells.toList
  |none=>none
 |none=>none
def sizeT (P:Program) (t:TypeId):Option Nat :=
 match P.info? t with
 |some i=>if i.size=0 then none else some i.size
 |none=>none
def elemT (P:Program) (t:TypeId):Option TypeId :=
 match P.underlying t with
 |some (.slice e)=>some e
 |_=>none
def fieldT (P:Program) (t:TypeId) (j:Nat):Option Field :=
 match P.underlying t with
 |some (.struct fs)=>fs[j]?
 |_=>none
def cParts (P:Program) (fs:Array Field):List (Nat × Operand)->Option (List (Nat × Nat × Opd))
 |[]=>some []
 |(i,x)::r=>match fs[i]?,cOpd x,cParts P fs r with
  |some f,some y,some l=>match sizeT P f.type with
   |some n=>some ((f.offset,n,y)::l)
   |none=>none
  |_,_,_=>none
def cParts1:List (Nat × Operand)->Option (List (Nat × Opd))
 |[]=>some []
 |(i,x)::r=>match cOpd x,cParts1 r with
  |some y,some l=>some ((i,y)::l)
  |_,_=>none
def cOpt:Option Operand->Option (Option Opd)
 |none=>some none
 |some x=>(cOpd x).map some
def flatF (P:Program):Nat->List Field->Option Nat
 |_,[]=>some 0
 | i, f :: l => if f.name ≠ "_" /\ f.offset = i then match P.underlying f.type, flatF P (i + 1) l with
   |some (.int _),some r=>some (1+4*r)
   |some .string,some r=>some (2+4*r)
   |some .bool,some r=>some (3+4*r)
   |_,_=>none
  else none
def eqKind (P:Program) (t:TypeId):Option Nat :=
 match P.underlying t with
 |some .bool=>some 0
 |some (.interface _)=>some 1
 |some (.pointer e)=>if (P.info? e).isSome then some 2 else none
 |some (.slice _)=>some 3
 |some (.struct fs)=>if P.eqGuardType P.depth t=false/\P.stoodInHeld t=false then (flatF P 0 fs.toList).map (· + 4) else none
 |_=>none
def isIntT (P:Program) (t:TypeId):Option IntKind :=
 match P.underlying t with
 |some (.int k)=>some k
 |_=>none
def isStrT (P:Program) (t:TypeId):Bool :=
 match P.underlying t with
 |some .string=>true
 |_=>false
def noEscOk (fn : Func) : Bool := fn.origin == ""
def rawOf (k:Nat):List Bool:=(List.range 16).map fun i => !Nat.testBit k i
def cCall (P:Program) (sh:FuncId->Nat) (c:Call):Option IOp :=
 match c.callee with
 |.builtin b=>match b with
  |.len=>match c.args.toList,c.argTypes.toList with
   |[x],[t]=>match P.underlying t,cOpd x with
    |some .string,some y=>some (.slen y)
    |some (.slice _),some y=>some (.len y)
    |_,_=>none
   |_,_=>none
  |.append=>match c.args.toList,c.argTypes.toList with
   |[x,y],[t,u]=>match elemT P t,cOpd x,cOpd y with
    |some e,some x',some y'=>match sizeT P e,P.info? e,P.underlying u with
     |some n,some i,some d=>match i.zero with
      |some z=>if z.cells.size=n/\e<tagT then match d with
        |.slice _=>if sh (hsT+e)=1 then some (.happend n i.bytes e x' y') else some (.append n i.bytes e x' y')
        |.string=>if n=1 then some (.append n i.bytes e x' y') else none
        |_=>none
       else none
      |none=>none
     |_,_,_=>none
    |_,_,_=>none
   |_,_=>none
  |.unsafeSliceData=>match c.args.toList with
   |[x]=>(cOpd x).map .sdata
   |_=>none
  |.unsafeString=>match c.args.toList,c.argTypes.toList with
   |[x,y],[t,_]=>match cOpd x,cOpd y,P.underlying t with
    |some x',some y',some (.pointer e)=>if P.cellsOf e=1/\e<tagT then some (.ustr e x' y') else none
    |_,_,_=>none
   |_,_=>none
  |.max=>match c.args.toList with
   |[x,y]=>match cOpd x,cOpd y with
    |some x',some y'=>some (.mm true x' y')
    |_,_=>none
   |_=>none
  |.min=>match c.args.toList with
   |[x,y]=>match cOpd x,cOpd y with
    |some x',some y'=>some (.mm false x' y')
    |_,_=>none
   |_=>none
  |_=>none
 |.value f=>match f with
  |.func g=>match mapO cOpd c.args.toList,P.funcs[g]? with
   | some as, some fn => if (fn.name == "runtime.NumGoroutine") = false /\ fn.body.isSome = true then
     match sh g with
     |0=>some (.calli 0 g as)
     |1=>some (.calli 1 g as)
     |2=>some (.calli 2 g as)
     |k+3=>if k=65536 then some (.calli 3 g as) else some (.calls (rawOf k) g as)
    else if fn.name == "internal/abi.NoEscape" && (fn.body.isNone && noEscOk fn) then (match as with
     |[x]=>some (.mov x)
     |_=>none)
    else none
   |_,_=>none
  |.tmp t=>(mapO cOpd c.args.toList).map (.callv (.t t))
  |_=>none
 |_=>none
def constB:Opd->Bool
 |.c _=>true
 |_=>false
def bownB (P:Program) (e:TypeId) (len:Nat) (qs:List (Nat × Opd)):Bool :=
 (match P.underlying e with
  |some (.int .u8)=>true
  |_=>false)&&(decide (2<=len)&&qs.all fun p=>constB p.2)
def cOp (P:Program) (sh:FuncId->Nat) (op:Op):Option IOp :=
 match op with
 |.move x=>(cOpd x).map .mov
 |.assign x=>(cOpd x).map .mov
 |.nilCheck x=>(cOpd x).map .nilchk
 |.pick c x y=>match cOpd c,cOpd x,cOpd y with
  |some c,some x,some y=>some (.pick c x y)
  |_,_,_=>none
 |.box t x=>match sizeT P t,cOpd x with
  |some n,some y=>some (.box n t y)
  |_,_=>none
 |.alloc t=>(zeroT P t).map (.zbox · t)
 |.build t ps=>match P.underlying t with
  |some (.struct fs)=>match zeroT P t,cParts P fs ps.toList with
   |some zs,some qs=>if (mapO (sizeT P) (fs.toList.map (·.type))).isSome then some (.build zs qs) else none
   |_,_=>none
  |_=>none
 |.buildSlice t len ps=>match elemT P t with
  |some e=>match sizeT P e,zeroT P e,cParts1 ps.toList,loadT P e with
   |some n,some z,some qs,some ld=>if len*n<=16777216/\z.length=n then (if bownB P e len qs=true then some (.bown n z len qs) else some (.bslice n z len qs)) else none
   |_,_,_,_=>none
  |none=>none
 |.load t x=>match loadT P t,cOpd x with
  |some n,some y=>some (.load n y)
  |_,_=>none
 |.store t x y=>match sizeT P t,cOpd x,cOpd y with
  |some n,some x,some y=>some (.store n x y)
  |_,_,_=>none
 |.binOp b t x y _=>match cOpd x,cOpd y with
  |some x',some y'=>match P.underlying t with
   |some (.int _)=>some (.bin b x' y')
   |some .string=>some (.bin b x' y')
   |some _=>match eqKind P t with
    |some k=>if k≠1\/isConst x=true\/isConst y=true then match b with
      |.eql=>some (.eqs k false x' y')
      |.neq=>some (.eqs k true x' y')
      |_=>none
     else none
    |none=>none
   |none=>none
  |_,_=>none
 |.unOp u t x=>match u,cOpd x with
  |.not,some x'=>some (.not x')
  |.neg,some x'=>match isIntT P t with
   |some k=>some (.bin .sub (.c (.int k 0)) x')
   |none=>none
  |_,_=>none
 |.convert s d x=>match cOpd x,P.underlying s,P.underlying d with
  |some x',some (.int _),some (.int k)=>some (.conv k x')
  |some x',some .string,some .string=>some (.smov x')
  |some x',some .string,some (.slice e)=>match P.underlying e,P.info? e with
   |some (.int .u8),some i=>if i.size=1 then some (.tobytes x') else none
   |_,_=>none
  |some x',some (.slice e),some (.slice _)=>match P.underlying e with
   |some (.int .u8)=>if s=d then some (.mark x') else none
   |_=>none
  |some x',some (.pointer t),some .unsafePointer=>if (sizeT P t).isSome then some (.touns x') else none
  |some x',some .unsafePointer,some (.pointer u)=>match sizeT P u with
   |some n=>if liesAt P P.depth u (n / P.cellsOf u) 0 u 1=true/\u<tagT then some (.fromuns n u x') else none
   |none=>none
  |some x',some (.slice e),some .string=>match P.underlying e with
   |some (.int .u8)=>some (.tostr x')
   |_=>none
  |_,_,_=>none
 |.makeInterface t x=>match cOpd x,P.underlying t with
  |some x',some d=>match d with
   |.interface _=>none
   |_=>some (.iface t x')
  |_,_=>none
 |.slice t x lo hi mx=>match cOpd x,cOpt lo,cOpt hi,cOpt mx with
  |some x',some lo',some hi',some mx'=>match P.underlying t with
   |some .string=>match mx' with
    |none=>some (.ssub x' lo' hi')
    |some _=>none
   |some (.slice e)=>if mx'.isSome=true/\hi'.isNone=true then none else (sizeT P e).map fun n=>.lsub n x' lo' hi' mx'
   |_=>none
  |_,_,_,_=>none
 |.fieldAddr t x j=>match fieldT P t j,cOpd x with
  |some f,some y=>match sizeT P f.type with
   |some _=>some (.off f.offset y)
   |none=>none
  |_,_=>none
 |.field t x j=>match fieldT P t j,cOpd x with
  |some f,some y=>match loadT P f.type with
   |some n=>some (.field n f.offset y)
   |none=>none
  |_,_=>none
 |.indexAddr t x i=>match elemT P t,cOpd x,cOpd i with
  |some e,some x',some i'=>(sizeT P e).map fun n=>.idx n x' i'
  |_,_,_=>none
 |.index t x i=>if isStrT P t then match cOpd x,cOpd i with
   |some x',some i'=>some (.sidx x' i')
   |_,_=>none
  else none
 |.extract x i=>(cOpd x).map (.ext · i)
 |.makeFunc fn fst cap=>match fn,fst.toList with
  |.func f,[]=>(mapO cOpd cap.toList).map (.mkfn f)
  |_,_=>none
 |.call c=>cCall P sh c
 |_=>none
def cGuard (ops:Array Oper):Option (Nat × Bool)->Option (Option (Nat × Bool))
 |none=>some none
 |some (j,b)=>match (ops[j]?).bind (·.dst) with
  |some t=>some (some (t,b))
  |none=>none
def cSOp (P:Program) (sh:FuncId->Nat) (ops:Array Oper) (flag:Nat) (o:Oper):Option SOp :=
 match cGuard ops o.guard with
 |some g=>match cOp P sh o.op with
  |some i=>some ⟨flag,o.dst,g,i⟩
  |none=>some ⟨flag,o.dst,g,.fail⟩
 |none=>none
def isLoad:IOp->Bool
 |.load _ _=>true
 |_=>false
def isShared:IOp->Bool
 |.calls _ _ _ | .callv _ _ | .happend _ _ _ _ _ | .pappend _ _ _ _ _ _ | .fill _ _ _=>true
 |_=>false
def cleanO (i:IOp) (dirty:List Nat):Bool :=
 match looksO i with
 |some ts=>ts.all fun t => !dirty.contains t
 |none=>false
def dirtyN (dst:Option Nat) (c:Bool) (dirty:List Nat):List Nat :=
 match dst with
 |some d=>if c then dirty.filter (· != d) else d::dirty
 |none=>dirty
open Go.Proofs.YthjnlpfibakacaaGreatDoorW.PrintLast in
def stepOk (ops:Array Oper) (ds:List Nat) (flag i:Nat) (s:IOp) (l:Array Bool) (dirty:List Nat) (ended:Bool):Bool :=
 match flag with
 |0=>isPure s&&anyB .any ops l (l.setIfInBounds i true) i
 |1=>isLoad s&&cleanO s dirty && !ended&&takeB .any ops ds l (l.setIfInBounds i true) i
 |2=>readyB .any ops l (l.setIfInBounds i true) i && !isShared s && !ended && !ds.contains i
 |3=>readyB .any ops l (l.setIfInBounds i true) i&&ds.contains i
 |_=>false
def look {α : Type} (n:Nat):List (Nat × α)->Option α
 |[]=>none
 |(k,a)::l=>if k=n then some a else look n l
structure Pn where
 n:Nat
 d:Nat
 v:Nat
 ps:List Nat
 deriving DecidableEq,Inhabited
def cPap (P:Program) (sh:FuncId->Nat) (ops:Array Oper) (flag v:Nat) (o:Oper):Option (SOp × Pn) :=
 match cSOp P sh ops flag o with
 |some s=>match s.dst,s.guard,s.op with
  |some d,none,.append n bytes T x y=>if d=v then none else some (⟨flag,some d,none,.pappend n bytes T x y (.t v)⟩,⟨n,d,v,[]⟩)
  |_,_,_=>none
 |none=>none
def cPend (P:Program) (sh:FuncId->Nat) (ops:Array Oper) (q:Pn) (flag:Nat) (o:Oper):Option (SOp × Option Pn) :=
 match cSOp P sh ops flag o with
 |some s=>if s.guard.isSome=true then none else match s.op with
  |.store n x y=>match x with
   |.t p=>if q.ps.contains p then (match y with
     |.t u=>if n=q.n/\u=q.v/\s.dst=none then some (⟨s.flag,none,none,.fill n (.t p) (.t u)⟩,none) else none
     |.c _=>none) else if s.dst=none then some (s,some q) else none
   |.c _=>none
  |op=>match s.dst with
   |none=>none
   |some t=>if t=q.d\/t=q.v\/q.ps.contains t=true then none else match op with
    |.idx n (.t r) i=>if r=q.d then (if n=q.n then some (⟨s.flag,some t,none,.pidx n (.t r) i⟩,some ⟨q.n,q.d,q.v,t::q.ps⟩) else none) else some (s,some q)
    |op=>if isPure op=true then some (s,some q) else none
 |none=>none
inductive STr where
 |nil
 |cons (flag i:Nat) (t:STr)
 |alt (t u:STr)
 deriving Inhabited
def STr.heads:STr->List Nat
 |.nil=>[]
 |.cons _ i _=>[i]
 |.alt t u=>t.heads++u.heads
def STr.depth:STr->Nat
 |.nil=>0
 |.cons _ _ t=>t.depth+1
 |.alt t u=>if t.depth=u.depth then t.depth else 0
def STr.even:STr->Bool
 |.nil=>true
 |.cons _ _ t=>t.even
 |.alt t u=>t.even&&u.even&&(t.depth==u.depth)
def STr.lasts:STr->List Nat
 |.nil=>[]
 |.cons f i t=>if f=3 then i::t.lasts else t.lasts
 |.alt t u=>t.lasts++u.lasts
def altOk (ops:Array Oper) (ds:List Nat) (flag i:Nat) (s:IOp) (ended:Bool):Bool :=
 match flag with
 |2 => !isShared s && !ended && !ds.contains i
 |3=>ds.contains i
 |_=>false
open Go.Proofs.YthjnlpfibakacaaGreatDoorW.PrintLast in
def tailOk (ops:Array Oper) (ds:List Nat) (flag i:Nat) (pu m:Bool) (l:Array Bool):Bool :=
 match flag with
 |0 => !m&&(pu&&anyB .any ops l (l.setIfInBounds i true) i)
 |3 => !pu&&((m||readyB .any ops l (l.setIfInBounds i true) i)&&ds.contains i)
 |_=>false
def isPureP:IOp->Bool
 |.pidx _ _ _=>true
 |op=>isPure op
open Go.Proofs.YthjnlpfibakacaaGreatDoorW.PrintLast in
def cTail (P:Program) (sh:FuncId->Nat) (ops:Array Oper) (ds:List Nat) (fin:Option Pn):STr->Bool->Array Bool->Option Pn->Option Tree
 |.nil,m,l,pd=>if (!m&&Region.ready .any ops l==[])=true/\pd=fin then some .nil else none
 |.alt t u,m,l,pd=>if m||(!(Region.ready .any ops l==[])&&(Region.ready .any ops l).all fun i=>(t.heads++u.heads).contains i) then match cTail P sh ops ds fin t true l pd,cTail P sh ops ds fin u true l pd with
   |some t',some u'=>some (.alt t' u')
   |_,_=>none
  else none
 |.cons flag i r,m,l,pd=>match ops[i]? with
  |none=>none
  |some o=>match pd with
   |some q=>match cPend P sh ops q flag o with
    |some (s,pd')=>if tailOk ops ds flag i (isPureP s.op) m l=true then match cTail P sh ops ds fin r false (l.setIfInBounds i true) pd' with
      |some ss=>some (.cons s ss)
      |none=>none
     else none
    |none=>none
   |none=>match cSOp P sh ops flag o with
    |some s=>if tailOk ops ds flag i (isPure s.op) m l=true then match cTail P sh ops ds fin r false (l.setIfInBounds i true) none with
      |some ss=>some (.cons s ss)
      |none=>none
     else none
    |none=>none
open Go.Proofs.YthjnlpfibakacaaGreatDoorW.PrintLast in
def cSched (P:Program) (sh:FuncId->Nat) (ops:Array Oper) (ds:List Nat) (pa:List (Nat × Nat)) (fin:Option Pn):STr->Bool->Array Bool->List Nat->Bool->Option Tree
 |.nil,m,l,_,_=>if (!m&&Region.ready .any ops l==[])=true/\fin=none then some .nil else none
 |.alt t u,m,l,dirty,ended=>if m||(!(Region.ready .any ops l==[])&&(Region.ready .any ops l).all fun i=>(t.heads++u.heads).contains i) then match cSched P sh ops ds pa fin t true l dirty ended,cSched P sh ops ds pa fin u true l dirty ended with
   |some t',some u'=>some (.alt t' u')
   |_,_=>none
  else none
 |.cons flag i r,m,l,dirty,ended=>match ops[i]? with
  |none=>none
  |some o=>match look i pa with
   |some v=>match cPap P sh ops flag v o with
    |some (s,q)=>if flag=3/\tailOk ops ds flag i false m l=true then match cTail P sh ops ds fin r false (l.setIfInBounds i true) (some q) with
      |some ss=>some (.cons s ss)
      |none=>none
     else none
    |none=>none
   |none=>match cSOp P sh ops flag o with
   |none=>none
   |some s=>if (if m then altOk ops ds flag i s.op ended else stepOk ops ds flag i s.op l dirty ended)=true then match cSched P sh ops ds pa fin r false (l.setIfInBounds i true) (dirtyN o.dst (decide (flag<=1)&&cleanO s.op dirty) dirty) (ended||flag==3) with
     |some ss=>some (.cons s ss)
     |none=>none
    else none
def cPOps (P:Program) (sh:FuncId->Nat) (ops:Array Oper) (pa:List (Nat × Nat)):List (Oper × Nat)->Option Pn->Option (List SOp)
 |[],none=>some []
 |[],some _=>none
 |(o,_)::l,some q=>match cPend P sh ops q 0 o with
  |some (s,pd)=>match cPOps P sh ops pa l pd with
   |some ss=>some (s::ss)
   |none=>none
  |none=>none
 |(o,i)::l,none=>match look i pa with
  |some v=>match cPap P sh ops 0 v o with
   |some (s,q)=>match cPOps P sh ops pa l (some q) with
    |some ss=>some (s::ss)
    |none=>none
   |none=>none
  |none=>match cSOp P sh ops 0 o with
   |some s=>match cPOps P sh ops pa l none with
    |some ss=>some (s::ss)
    |none=>none
   |none=>none
structure Hints where
 sched:List (Nat × STr)
 mask:List (Nat × List Bool)
 hap:List Nat                      -- types of elements that are appended in rows that are written into
 pa:List (Nat × List (Nat × Nat))  -- of a region: the appends whose element is filled later,and with what
 pe:List (Nat × Pn)                -- of a region: what is not filled yet at its end
 ch:List (Nat × List Bool)         -- of a region that chooses: what lives behind the choice
def Hints.sh (hs:Hints) (sh:FuncId->Nat):FuncId->Nat:=fun g=>if hsT<=g then (if hs.hap.contains (g-hsT) then 1 else 0) else sh g
def failC:IC:=.ops [⟨0,none,none,.fail⟩]
def orNil {α : Type}:Option (List α)->List α
 |some l=>l
 |none=>[]
def seqP (P:Program) (sh:FuncId->Nat) (hs:Hints):Code->Code->Option IC
 |.region id ops true,.region _ ops2 false=>match look id hs.pe with
  |some q=>match look id hs.sched with
   |some r=>if r.depth=ops.size/\r.even=true then match cSched P sh ops r.lasts (orNil (look id hs.pa)) (some q) r false (Array.replicate ops.size false) [] false,cPOps P sh ops2 [] ops2.toList.zipIdx (some q) with
     |some t,some l=>some (.seq (.draw t) (.ops l))
     |_,_=>none
    else none
   |none=>none
  |none=>none
 |_,_=>none
def boolC:Opd->Option Bool
 |.c (.bool b)=>some b
 |_=>none
def stB:SOp->Option (Nat × Bool)
 |⟨2,none,none,.store 1 (.t d) y⟩=>match boolC y with
  |some b=>some (d,b)
  |none=>none
 |_=>none
def ldB:SOp->Option (Nat × Nat)
 |⟨2,some e,none,.load none (.t d)⟩=>some (d,e)
 |_=>none
def wayB:Tree->Option (Nat × Bool × Bool × Nat)
 |.cons x (.cons y (.cons z .nil))=>match stB x,stB y,ldB z with
  |some (d,b),some (d',b'),some (d'',e)=>if d=d'/\d=d'' then some (d,b,b',e) else none
  |_,_,_=>none
 |_=>none
def formCh:Tree->Option (Nat × Nat × TypeId)
 |.cons ⟨2,some d,none,.zbox [_] T⟩ (.alt t u)=>match wayB t,wayB u with
  |some (d',_,true,e),some (d'',_,false,e')=>if d=d'/\d=d''/\e=e'/\d≠e then some (d,e,T) else none
  |some (d',_,false,e),some (d'',_,true,e')=>if d=d'/\d=d''/\e=e'/\d≠e then some (d,e,T) else none
  |_,_=>none
 |_=>none
def chOf (hs:Hints):Code->Option (List Bool)
 |.region id _ true=>look id hs.ch
 |_=>none
def seqI (m:Option (List Bool)) (x y:IC):IC :=
 match m with
 |none=>.seq x y
 |some m=>match x,y with
  |.draw t,.cond (.t e) a b=>match formCh t with
   |some (d,e',T)=>if e=e' then .choose m d e T a b else .seq x y
   |none=>.seq x y
  |_,_=>.seq x y
def comp (P:Program) (sh:FuncId->Nat) (hs:Hints):Nat->Code->Option IC
 |_,.skip=>some .skip
 |_,.ret=>some .ret
 |_,.exit id=>some (.exit id)
 |_,.region id ops draw=>if draw then match look id hs.sched with
   |some r=>if r.depth=ops.size/\r.even=true then (cSched P sh ops r.lasts (orNil (look id hs.pa)) none r false (Array.replicate ops.size false) [] false).map .draw else none
   |none=>some failC
  else match look id hs.pa with
   |none=>(mapO (cSOp P sh ops 0) ops.toList).map .ops
   |some pa=>(cPOps P sh ops pa ops.toList.zipIdx none).map .ops
 |b,.seq x y=>match seqP P sh hs x y with
  |some ic=>some ic
  |none=>match comp P sh hs b x,comp P sh hs b y with
   |some x',some y'=>some (seqI (chOf hs x) x' y')
   |_,_=>none
 |b,.cond c x y=>match cOpd c,comp P sh hs b x,comp P sh hs b y with
  |some c',some x',some y'=>some (.cond c' x' y')
  |_,_,_=>none
 |_,.block id x=>(comp P sh hs id x).map (.block id)
 |b,.loop x=>match look b hs.mask,comp P sh hs b x with
  |some m,some x'=>some (.loop m x')
  |_,_=>none
 |_,_=>some failC
def cRes (P:Program):ResultVar->Option ResV
 |.tmp t=>some (.tmp t)
 |.cell a t=>(loadT P t).map (.cell a)
def compF (P:Program) (sh:FuncId->Nat) (hs:Hints) (f:Func):Option IFunc :=
 match f.body,mapO (cRes P) f.results.toList with
 |some c,some rs=>match comp P (hs.sh sh) hs 0 c with
  |some b=>some ⟨f.ntmps,rs,b⟩
  |none=>none
 |_,_=>none
end Go.Proofs.YthjnlpfibakacaaGreatDoorPe
