/- A part of the proof of this folder's statement; it has no condition of its own. -/
import Derived.Below
set_option linter.unusedVariables false
namespace Go.Proofs.YthjnlpfibakacaaGreatDoorPe
open Go
inductive PV where
 |undef                             -- anything
 |int (k:IntKind) (n:Int)
 |bool (b:Bool)
 |str (s:List UInt8)
 |nilp
 |nilf
 |nili
 |nils                              -- the nil slice
 |emp                               -- a slice of nothing that is not nil,and without room
 |emc                               -- the same,with whatever room
 |lst (l:List PV)                 -- a slice that is looked at alone
 |full (l:List PV)                -- a slice whose capacity is its length
 |own (r:Nat) (l:List PV)       -- a slice of the frame's own row number r
 |rptr (r:Nat) (l:List PV)      -- the first cell of the frame's own row number r,which begins with l
 |ptr (b off:Nat)                 -- a cell of the frame's own box number b
 |hs (n b off len:Nat)            -- a slice whose elements,of n cells each,lie in the frame's own box number b,from cell off on
 |ref (cs:List PV)                -- a place whose cells,from there on,stay as they are
 |func (f:FuncId) (cap:List PV)
 |iface (t:TypeId) (v:PV)
 |agg (cs:List PV)
 |tuple (vs:List PV)
 deriving Inhabited
def PV.cells:PV->List PV
 |.agg cs=>cs
 |.undef=>[]
 |v=>[v]
mutual
def PV.same:PV->PV->Bool
 |.undef,.undef=>true
 |.int k n,.int k' n'=>decide (k=k')&&decide (n=n')
 |.bool b,.bool b'=>b==b'
 |.str s,.str s'=>decide (s=s')
 |.nilp,.nilp=>true
 |.nilf,.nilf=>true
 |.nili,.nili=>true
 |.nils,.nils=>true
 |.emp,.emp=>true
 |.emc,.emc=>true
 |.lst l,.lst l'=>PV.sames l l'
 |.full l,.full l'=>PV.sames l l'
 |.own r l,.own r' l'=>decide (r=r')&&PV.sames l l'
 |.rptr r l,.rptr r' l'=>decide (r=r')&&PV.sames l l'
 |.ptr b o,.ptr b' o'=>decide (b=b')&&decide (o=o')
 |.hs n b o l,.hs n' b' o' l'=>decide (n=n')&&(decide (b=b')&&(decide (o=o')&&decide (l=l')))
 |.ref l,.ref l'=>PV.sames l l'
 |.func f l,.func f' l'=>decide (f=f')&&PV.sames l l'
 |.iface t v,.iface t' v'=>decide (t=t')&&PV.same v v'
 |.agg l,.agg l'=>PV.sames l l'
 |.tuple l,.tuple l'=>PV.sames l l'
 |_,_=>false
def PV.sames:List PV->List PV->Bool
 |[],[]=>true
 |x::l,y::l'=>PV.same x y&&PV.sames l l'
 |_,_=>false
end
mutual
theorem PV.same_self : ∀ x:PV,PV.same x x=true
 |.undef=>rfl
 |.int k n=>by simp[PV.same]
 |.bool b=>by simp[PV.same]
 |.str s=>by simp[PV.same]
 |.nilp=>rfl
 |.nilf=>rfl
 |.nili=>rfl
 |.nils=>rfl
 |.emp=>rfl
 |.emc=>rfl
 |.lst l=>by simp[PV.same,PV.sames_self l]
 |.full l=>by simp[PV.same,PV.sames_self l]
 |.own r l=>by simp[PV.same,PV.sames_self l]
 |.rptr r l=>by simp[PV.same,PV.sames_self l]
 |.ptr b o=>by simp[PV.same]
 |.hs n b o l=>by simp[PV.same]
 |.ref l=>by simp[PV.same,PV.sames_self l]
 |.func f l=>by simp[PV.same,PV.sames_self l]
 |.iface t v=>by simp[PV.same,PV.same_self v]
 |.agg l=>by simp[PV.same,PV.sames_self l]
 |.tuple l=>by simp[PV.same,PV.sames_self l]
theorem PV.sames_self : ∀ l:List PV,PV.sames l l=true
 |[]=>rfl
 |x::l=>by simp[PV.sames,PV.same_self x,PV.sames_self l]
end
mutual
theorem PV.eq_of_same : ∀ x y:PV,PV.same x y=true->x=y:=by
 intro x y h
 cases x <;> cases y <;> first|rfl|(simp[PV.same] at h; done)|skip
 ·simp[PV.same] at h; rw[h.1,h.2]
 ·simp[PV.same] at h; rw[h]
 ·simp[PV.same] at h; rw[h]
 ·simp only[PV.same] at h; rw[PV.eq_of_sames _ _ h]
 ·simp only[PV.same] at h; rw[PV.eq_of_sames _ _ h]
 ·simp only[PV.same,Bool.and_eq_true,decide_eq_true_eq] at h; rw[h.1,PV.eq_of_sames _ _ h.2]
 ·simp only[PV.same,Bool.and_eq_true,decide_eq_true_eq] at h; rw[h.1,PV.eq_of_sames _ _ h.2]
 ·simp[PV.same] at h; rw[h.1,h.2]
 ·simp only[PV.same,Bool.and_eq_true,decide_eq_true_eq] at h; rw[h.1,h.2.1,h.2.2.1,h.2.2.2]
 ·simp only[PV.same] at h; rw[PV.eq_of_sames _ _ h]
 ·simp only[PV.same,Bool.and_eq_true,decide_eq_true_eq] at h; rw[h.1,PV.eq_of_sames _ _ h.2]
 ·simp only[PV.same,Bool.and_eq_true,decide_eq_true_eq] at h; rw[h.1,PV.eq_of_same _ _ h.2]
 ·simp only[PV.same] at h; rw[PV.eq_of_sames _ _ h]
 ·simp only[PV.same] at h; rw[PV.eq_of_sames _ _ h]
theorem PV.eq_of_sames : ∀ l m:List PV,PV.sames l m=true->l=m:=by
 intro l m h
 cases l <;> cases m <;> first|rfl|(simp[PV.sames] at h; done)|skip
 simp only[PV.sames,Bool.and_eq_true] at h
 rw[PV.eq_of_same _ _ h.1,PV.eq_of_sames _ _ h.2]
end
def PV.nm:PV->PV
 |.nils=>.full []
 |.emp=>.full []
 |.emc=>.lst []
 |v=>v
def PV.isCell:PV->Bool
 |.agg _ | .tuple _ | .undef=>false
 |_=>true
inductive Opd where
 |t (n:Nat)
 |c (v:PV)
 deriving Inhabited
def tagT:TypeId:=4294967296
def hsT:TypeId:=4294967297
inductive IOp where
 |mov (x:Opd)
 |smov (x:Opd)
 |nilchk (x:Opd)
 |pick (c x y:Opd)
 |box (n:Nat) (T:TypeId) (x:Opd)
 |zbox (zs:List PV) (T:TypeId)
 |build (zs:List PV) (parts:List (Nat × Nat × Opd))
 |bslice (n:Nat) (z:List PV) (len:Nat) (parts:List (Nat × Opd))
 |load (n:Option Nat) (x:Opd)
 |store (n:Nat) (x y:Opd)
 |bin (op:BinOp) (x y:Opd)
 |eqs (kind:Nat) (neg:Bool) (x y:Opd)
 |not (x:Opd)
 |conv (k:IntKind) (x:Opd)
 |tobytes (x:Opd)
 |tostr (x:Opd)
 |iface (t:TypeId) (x:Opd)
 |off (o:Nat) (x:Opd)
 |field (n:Option Nat) (o:Nat) (x:Opd)
 |idx (n:Nat) (x i:Opd)
 |sidx (x i:Opd)
 |mm (m:Bool) (x y:Opd)                               -- the greater; the less
 |ssub (x:Opd) (lo hi:Option Opd)
 |lsub (n:Nat) (x:Opd) (lo hi mx:Option Opd)
 |ext (x:Opd) (i:Nat)
 |len (x:Opd)
 |slen (x:Opd)
 |append (n bytes:Nat) (T:TypeId) (x y:Opd)
 |happend (n bytes:Nat) (T:TypeId) (x y:Opd)
 |pappend (n bytes:Nat) (T:TypeId) (x y v:Opd)      -- one element is appended that is to be filled with v
 |pidx (n:Nat) (x i:Opd)                              -- the place of a row's last element
 |fill (n:Nat) (x y:Opd)                              -- it is filled
 |bown (n:Nat) (z:List PV) (len:Nat) (parts:List (Nat × Opd))
 |mark (x:Opd)
 |sdata (x:Opd)
 |touns (x:Opd)
 |fromuns (n:Nat) (u:TypeId) (x:Opd)
 |ustr (T:TypeId) (x y:Opd)
 |calli (m:Nat) (f:FuncId) (args:List Opd)
 |calls (raw:List Bool) (f:FuncId) (args:List Opd)
 |callv (x:Opd) (args:List Opd)
 |mkfn (f:FuncId) (args:List Opd)
 |fail
 deriving Inhabited
structure SOp where
 flag:Nat                          -- in a region that draws: 0 pure,1 a load taken first,2 one alone,3 one alone that may write a held box
 dst:Option Nat
 guard:Option (Nat × Bool)
 op:IOp
 deriving Inhabited
inductive Tree where
 |nil
 |cons (s:SOp) (t:Tree)
 |alt (t u:Tree)
 deriving Inhabited
inductive IC where
 |ops (l:List SOp)
 |draw (l:Tree)
 |seq (a b:IC)
 |cond (x:Opd) (a b:IC)
 |choose (m:List Bool) (d e:Nat) (T:TypeId) (a b:IC)  -- either may be: d a place of its own,e which; both come to the same but for what m hides
 |block (id:Nat) (a:IC)
 |loop (m:List Bool) (a:IC)
 |exit (id:Nat)
 |ret
 |skip
 deriving Inhabited
inductive ResV where
 |tmp (t:Nat)
 |cell (a:Nat) (n:Option Nat)
 deriving Inhabited
structure IFunc where
 ntmps:Nat
 results:List ResV
 body:IC
 deriving Inhabited
structure St where
 boxes:List (List PV)
 rows:List (Nat × Nat)
 bt:List TypeId
 rt:List TypeId
 deriving Inhabited
abbrev Fr:=List PV
abbrev CallF:=FuncId->List PV->St->Option (PV × St)
def Opd.ev (fr:Fr):Opd->PV
 |.t n=>fr.getD n .undef
 |.c v=>v
def mapO {α β : Type} (f : α -> Option β):List α -> Option (List β)
 |[]=>some []
 |a::l=>match f a with
  |some b=>match mapO f l with
   |some bs=>some (b::bs)
   |none=>none
  |none=>none
def shutA:Nat->PV->Option PV
 |0,_=>none
 |n+1,v=>match v with
  |.own _ l=>some (.lst l)
  |.full l=>some (.lst l)
  |.nils=>some (.lst [])
  |.emp=>some (.lst [])
  |.emc=>some (.lst [])
  |.ptr _ _=>none
  |.hs _ _ _ _=>none
  |.rptr _ _=>none
  |.tuple _=>none
  |.func f cs=>match cs with
   |[]=>some (.func f [])
   |_=>none
  |.iface t x=>(shutA n x).map (.iface t)
  |.agg cs=>(mapO (shutA n) cs).map .agg
  |.undef=>some .undef
  |.int k x=>some (.int k x)
  |.bool b=>some (.bool b)
  |.str s=>some (.str s)
  |.nilp=>some .nilp
  |.nilf=>some .nilf
  |.nili=>some .nili
  |.lst l=>some (.lst l)
  |.ref cs=>some (.ref cs)
def chunk (n len:Nat) (zs:List PV):List PV:=(List.range len).map fun i=>if n=1 then zs.getD i .undef else .agg ((zs.drop (i*n)).take n)
def shutR (keep:Bool) (st:St):Nat->PV->Option PV
 |0,_=>none
 |n+1,v=>match v with
  |.own _ l=>some (.lst l)
  |.full l=>some (if keep then .full l else .lst l)
  |.nils=>some (if keep then .full [] else .lst [])
  |.emp=>some (if keep then .full [] else .lst [])
  |.emc=>some (.lst [])
  |.ptr b o=>match st.boxes[b]? with
   |some cs=>if o<=cs.length then (mapO (shutR keep st n) (cs.drop o)).map .ref else none
   |none=>none
  |.hs m b o len=>match st.boxes[b]? with
   |some cs=>if o+len*m<=cs.length/\m≠0 then match mapO (shutR keep st n) ((cs.drop o).take (len*m)) with
     |some zs=>if zs.all PV.isCell=true then some (.lst (chunk m len zs)) else none
     |none=>none
    else none
   |none=>none
  |.rptr _ _=>none
  |.tuple vs=>(mapO (shutR keep st n) vs).map .tuple
  |.func f cs=>match cs with
   |[]=>some (.func f [])
   |_=>none
  |.iface t x=>(shutR keep st n x).map (.iface t)
  |.agg cs=>(mapO (shutR keep st n) cs).map .agg
  |.undef=>some .undef
  |.int k x=>some (.int k x)
  |.bool b=>some (.bool b)
  |.str s=>some (.str s)
  |.nilp=>some .nilp
  |.nilf=>some .nilf
  |.nili=>some .nili
  |.lst l=>some (.lst l)
  |.ref cs=>some (.ref cs)
def evShift (op:BinOp) (k:IntKind) (a b:Int):Option PV :=
 if b<0 then none else match op with
  |.shl=>some (.int k (k.wrap (a*2 ^ min b.toNat k.bits)))
  |.shr=>some (.int k (a.fdiv (2 ^ min b.toNat k.bits)))
  |_=>none
def evBits (op:BinOp) (k:IntKind) (a b:Int):Option PV :=
 match op with
 |.and=>some (.int k (k.wrap (BitVec.ofInt k.bits a &&& BitVec.ofInt k.bits b).toNat))
 |.or=>some (.int k (k.wrap (BitVec.ofInt k.bits a ||| BitVec.ofInt k.bits b).toNat))
 |.xor=>some (.int k (k.wrap (BitVec.ofInt k.bits a ^^^ BitVec.ofInt k.bits b).toNat))
 |_=>none
def evBin (op:BinOp) (x y:PV):Option PV :=
 match x,y with
 |.int k a,.int k' b=>if k=k' then match op with
   |.add=>some (.int k (k.wrap (a+b)))
   |.sub=>some (.int k (k.wrap (a-b)))
   |.mul=>some (.int k (k.wrap (a*b)))
   |.quo=>if b=0 then none else some (.int k (k.wrap (a.tdiv b)))
   |.rem=>if b=0 then none else some (.int k (a.tmod b))
   |.eql=>some (.bool (decide (a=b)))
   |.neq=>some (.bool (decide (a≠b)))
   |.lss=>some (.bool (decide (a<b)))
   |.leq=>some (.bool (decide (a<=b)))
   |.gtr=>some (.bool (decide (a>b)))
   |.geq=>some (.bool (decide (a>=b)))
   |.and=>evBits .and k a b
   |.or=>evBits .or k a b
   |.xor=>evBits .xor k a b
   |.shl=>evShift .shl k a b
   |.shr=>evShift .shr k a b
   |_=>none
  else evShift op k a b
 |.str a,.str b=>match op with
   |.add=>if a.length+b.length<=4611686018427387904 then some (.str (a++b)) else none
   |.eql=>some (.bool (decide (a=b)))
   |.neq=>some (.bool (decide (a≠b)))
   |.lss=>some (.bool (Op.bytesLess a b))
   |.gtr=>some (.bool (!(Op.bytesLess a b||decide (a=b))))
   |.leq=>some (.bool (Op.bytesLess a b||decide (a=b)))
   |.geq=>some (.bool (!Op.bytesLess a b))
   |_=>none
 |_,_=>none
def cellEq (c:Nat) (x y:PV):Option Bool :=
 match c,x,y with
 |1,.int k a,.int k' b=>if k=k' then some (a==b) else none
 |2,.str a,.str b=>some (a==b)
 |3,.bool a,.bool b=>some (a==b)
 |_,_,_=>none
def eqCells (c:Nat):List PV->List PV->Option Bool
 |[],[]=>if c=0 then some true else none
 |x::l,y::m=>match cellEq (c % 4) x y,eqCells (c / 4) l m with
  |some a,some b=>some (a&&b)
  |_,_=>none
 |_,_=>none
def evEq (kind:Nat) (x y:PV):Option Bool :=
 match kind with
 |0=>match x,y with
  |.bool a,.bool b=>some (a==b)
  |_,_=>none
 |1=>match x,y with
  |.nili,.nili=>some true
  |.nili,.iface _ _=>some false
  |.iface _ _,.nili=>some false
  |_,_=>none
 |3=>match x,y with
  |.nils,.nils=>some true
  |.emp,.nils=>some false
  |.emc,.nils=>some false
  |.lst (_::_),.nils=>some false
  |.full (_::_),.nils=>some false
  |.own _ (_::_),.nils=>some false
  |.hs _ _ _ _,.nils=>some false
  |_,_=>none
 |c+4=>match x,y with
  |.agg a,.agg b=>eqCells c a b
  |_,_=>none
 |_=>match x,y with
  |.nilp,.nilp=>some true
  |.nilp,.ptr _ _=>some false
  |.ptr _ _,.nilp=>some false
  |.nilp,.ref _=>some false
  |.ref _,.nilp=>some false
  |.ptr b o,.ptr b' o'=>if b=b'/\o=o' then some true else none
  |_,_=>none
def fillP (cs:List PV):List (Nat × Nat × PV)->Option (List PV)
 |[]=>some cs
 |(o,n,v)::r=>if v.cells.length=n/\o+n<=cs.length then fillP (cs.take o++(v.cells++cs.drop (o+n))) r else none
def toElems (n:Nat) (z:List PV) (len:Nat):List PV:=List.replicate len (if z.length=1/\n=1 then z.headD .undef else .agg z)
def setAt (n:Nat) (l:List PV):List (Nat × PV)->Option (List PV)
 |[]=>some l
 |(i,v)::r=>if v.cells.length=n/\i<l.length/\v.cells.all PV.isCell=true then setAt n (l.set i v) r else none
def evIdx (n:Nat) (l:List PV) (i:Int):Option PV :=
 if 0<=i then match l[i.toNat]? with
  |some e=>if e.cells.length=n then some (.ref e.cells) else none
  |none=>none
 else none
def evHidx (n m b o len:Nat) (i:Int):Option PV:=if n=m/\0<=i/\i<(len:Int) then some (.ptr b (o+i.toNat*n)) else none
def sizesOk (n o:Nat) (l:List PV):Bool:=o==0||(match l with|[]=>true|e::_=>e.cells.length==n)
def bnd (x:Option PV) (y dflt:Nat):Option Nat :=
 match x with
 |none=>some dflt
 |some (.int _ i)=>if 0<=i/\i<=(y:Int) then some i.toNat else none
 |_=>none
def loadC (n:Option Nat) (cs:List PV):Option PV :=
 match n with
 |none=>cs.head?
 |some m=>if m<=cs.length then some (.agg (cs.take m)) else none
def elemsOf:PV->Option (List PV)
 |.lst l | .full l | .own _ l=>some l
 |.str s=>some (s.map fun b=>.int .u8 b.toNat)
 |_=>none
def slcOf:PV->Option (List PV)
 |.lst l | .full l | .own _ l=>some l
 |_=>none
def szAll (n:Nat) (l:List PV):Bool:=l.all fun e=>e.cells.length==n
def evAppend (n bytes:Nat) (T:TypeId) (x:PV) (es:List PV) (st:St):Option (PV × St) :=
 match es with
 |[]=>match x with
  |.lst l=>some (.lst l,st)
  |.full l=>some (.full l,st)
  |.own r l=>some (.own r l,st)
  |.nils=>some (.nils,st)
  |.emp=>some (.emp,st)
  |.emc=>some (.emc,st)
  |_=>none
 |e::es'=>if szAll n (e::es') then
   match x with
   |.full l=>if (l.length+(e::es').length)*(bytes+1)<=70368744177664/\szAll n l=true then
     some (.own st.rows.length (l++e::es'),⟨st.boxes,st.rows++[(l.length+(e::es').length,n)],st.bt,st.rt++[T]⟩) else none
   |.own r l=>if (l.length+(e::es').length)*(bytes+1)<=70368744177664/\st.rows[r]? = some (l.length,n)/\st.rt[r]? = some T then
     some (.own r (l++e::es'),⟨st.boxes,st.rows.set r (l.length+(e::es').length,n),st.bt,st.rt⟩) else none
   |_=>none
  else none
def cellsL (l:List PV):List PV:=l.flatMap PV.cells
def evHappend (n bytes:Nat) (x:PV) (es:List PV) (st:St):Option (PV × St) :=
 match es with
 |[]=>match x with
  |.hs m b o len=>some (.hs m b o len,st)
  |.nils=>some (.nils,st)
  |_=>none
 |e::es'=>if szAll n (e::es') then
   match x.nm with
   |.full l=>if (l.length+(e::es').length)*(bytes+1)<=70368744177664/\szAll n l=true then
     some (.hs n st.boxes.length 0 (l.length+(e::es').length),⟨st.boxes++[cellsL (l++e::es')],st.rows,st.bt++[hsT],st.rt⟩) else none
   |.hs m b 0 len=>match st.boxes[b]? with
    |some cs=>if m=n/\len*n<=cs.length/\0<cs.length/\st.bt[b]? = some hsT/\(len+(e::es').length)*(bytes+1)<=70368744177664 then
      some (.hs n st.boxes.length 0 (len+(e::es').length),⟨st.boxes.set b []++[cs.take (len*n)++cellsL (e::es')],st.rows,st.bt++[hsT],st.rt⟩) else none
    |none=>none
   |_=>none
  else none
def sdataV:PV->Option PV
 |.nils=>some .nilp
 |.own r (x::l)=>some (.rptr r (x::l))
 |_=>none
def tounsV (x:PV) (st:St):Option (PV × St) :=
 match x with
 |.ptr b o=>match st.boxes[b]? with
  |some cs=>if o<cs.length then some (.ptr b o,st) else none
  |none=>none
 |_=>none
def fromunsV (n:Nat) (u:TypeId) (x:PV) (st:St):Option (PV × St) :=
 match x with
 |.ptr b 0=>match st.boxes[b]?,st.bt[b]? with
  |some cs,some T=>if cs.length=n/\T=u then some (.ptr b 0,st) else none
  |_,_=>none
 |_=>none
def byteP:PV->Option UInt8
 |.int .u8 n=>some (UInt8.ofNat n.toNat)
 |_=>none
def byteQ:PV->Option UInt8
 |.int .u8 n=>if 0<=n/\n<256 then some (UInt8.ofNat n.toNat) else none
 |_=>none
def ustrV (T:TypeId) (x y:PV) (st:St):Option (PV × St) :=
 match x,y with
 |.nilp,.int .i64 0=>some (.str [],st)
 |.rptr r l,.int .i64 n=>if n=l.length/\st.rows[r]? = some (l.length,1)/\st.rt[r]? = some T/\l.length<=9223372036854775807 then (mapO byteQ l).map fun s=>(.str s,st) else none
 |_,_=>none
def markV (x:PV) (st:St):Option (PV × St) :=
 match x with
 |.own r (e::l)=>if st.rows[r]? = some ((e::l).length,1)/\st.rt[r]? = some tagT then some (.own r (e::l),st) else none
 |_=>none
def hsubV (n m b o len:Nat) (lo hi mx:Option PV):Option PV :=
 match mx with
 |none=>match bnd hi len len with
  |some h=>match bnd lo h 0 with
   |some l=>if n=m/\(l=0\/l<len) then some (.hs m b (o+l*n) (h-l)) else none
   |none=>none
  |none=>none
 |some mx=>match bnd (some mx) len len with
  |some c=>match bnd hi c c with
   |some h=>match bnd lo h 0 with
    |some l=>if n=m/\(l=0\/l<c) then some (.hs m b (o+l*n) (h-l)) else none
    |none=>none
   |none=>none
  |none=>none
def hsOf:PV->Option (Nat × Nat × Nat × Nat)
 |.hs m b o len=>some (m,b,o,len)
 |_=>none
def evLsub (fr:Fr) (n:Nat) (x:Opd) (lo hi mx:Option Opd):Option PV :=
 match hsOf (x.ev fr) with
 |some (m,b,o,len)=>hsubV n m b o len (lo.map (·.ev fr)) (hi.map (·.ev fr)) (mx.map (·.ev fr))
 |none =>
 match slcOf (x.ev fr).nm,mx with
 |some l,none=>match bnd (hi.map (·.ev fr)) l.length l.length with
  |some h=>match bnd (lo.map (·.ev fr)) h 0 with
   |some o=>if sizesOk n o l then some (.lst ((l.take h).drop o)) else none
   |none=>none
  |none=>none
 |some l,some m=>match bnd (some (m.ev fr)) l.length l.length with
  |some c=>match bnd (hi.map (·.ev fr)) c c with
   |some h=>match bnd (lo.map (·.ev fr)) h 0 with
    |some o=>if sizesOk n o l then (if h=c then some (.full ((l.take h).drop o)) else some (.lst ((l.take h).drop o))) else none
    |none=>none
   |none=>none
  |none=>none
 |none,_=>none
def PV.there:PV->Bool
 |.emp | .emc | .lst (_::_) | .full (_::_) | .own _ (_::_) | .hs _ _ _ _=>true
 |_=>false
abbrev PV.kp (x r:PV):PV:=r
def shutN:Nat:=6
def shutS:List Bool->List PV->Option (List PV)
 |_,[]=>some []
 |[],xs=>some xs
 |true::r,x::xs=>match shutS r xs with
  |some ys=>some (x::ys)
  |none=>none
 |false::r,x::xs=>match shutA shutN x,shutS r xs with
  |some y,some ys=>some (y::ys)
  |_,_=>none
def evPappend (n bytes:Nat) (T:TypeId) (x y v:PV) (st:St):Option (PV × St) :=
 match y with
 |.full [z]=>match shutA shutN v with
  |some u=>if z.cells.length=n/\u.cells.length=n/\u.cells.all PV.isCell=true then evAppend n bytes T x.nm [u] st else none
  |none=>none
 |_=>none
def mmV (m:Bool) (x y:PV):Option PV :=
 match x,y with
 |.int k a,.int k' b=>if k=k' then some (.int k (if m then (if b>a then b else a) else (if b<a then b else a))) else none
 |_,_=>none
def pidxV (n:Nat) (x y:PV):Option PV :=
 match x,y with
 |.own _ l,.int _ i=>if i+1=(l.length:Int) then evIdx n l i else none
 |_,_=>none
def fillV (x y:PV):Option PV :=
 match x with
 |.ref cs=>match shutA shutN y with
  |some u=>if PV.sames cs u.cells=true then some (.tuple []) else none
  |none=>none
 |_=>none
def shutK:PV->Option PV
 |.full l=>some (.full l)
 |.nils=>some .nils
 |.emp=>some .emp
 |x=>shutA shutN x
def argF (m:Nat):PV->Option PV:=if m=3 then shutK else shutA shutN
def evOp (call:CallF) (op:IOp) (fr:Fr) (st:St):Option (PV × St) :=
 match op with
 |.mov x=>some (x.ev fr,st)
 |.smov x=>match x.ev fr with
  |.str s=>some (.str s,st)
  |_=>none
 |.nilchk x=>match x.ev fr with
  |.ptr b o=>some (.ptr b o,st)
  |.ref cs=>some (.ref cs,st)
  |.func f []=>some (.func f [],st)
  |_=>none
 |.pick c x y=>match c.ev fr with
  |.bool b=>some (if b then x.ev fr else y.ev fr,st)
  |_=>none
 |.box n T x=>if (x.ev fr).cells.length=n then some (.ptr st.boxes.length 0,⟨st.boxes++[(x.ev fr).cells],st.rows,st.bt++[T],st.rt⟩) else none
 |.zbox zs T=>some (.ptr st.boxes.length 0,⟨st.boxes++[zs],st.rows,st.bt++[T],st.rt⟩)
 |.build zs ps=>(fillP zs (ps.map fun p=>(p.1,p.2.1,p.2.2.ev fr))).map fun cs=>(.agg cs,st)
 |.bslice n z len ps=>match mapO (fun p=>(shutA shutN (p.2.ev fr)).map fun v=>(p.1,v)) ps with
  |some qs=>(setAt n (toElems n z len) qs).map fun l=>(if len=0 then .emp else .full l,st)
  |none=>none
 |.bown n z len ps=>match mapO (fun p=>(shutA shutN (p.2.ev fr)).map fun v=>(p.1,v)) ps with
  |some qs=>match setAt n (toElems n z len) qs with
   |some l=>if szAll n l=true then some (.own st.rows.length l,⟨st.boxes,st.rows++[(l.length,n)],st.bt,st.rt++[tagT]⟩) else none
   |none=>none
  |none=>none
 |.mark x=>markV (x.ev fr) st
 |.load n x=>match x.ev fr with
  |.ptr b o=>match st.boxes[b]? with
   |some cs=>(loadC n (cs.drop o)).map (·,st)
   |none=>none
  |.ref cs=>(loadC n cs).map (·,st)
  |_=>none
 |.store n x y=>match x.ev fr with
  |.ptr b o=>match st.boxes[b]? with
   |some cs=>if (y.ev fr).cells.length=n/\o+n<=cs.length/\(y.ev fr).cells.all PV.isCell then
     some (.tuple [],⟨st.boxes.set b (cs.take o++((y.ev fr).cells++cs.drop (o+n))),st.rows,st.bt,st.rt⟩) else none
   |none=>none
  |_=>none
 |.bin op x y=>(evBin op (x.ev fr) (y.ev fr)).map (·,st)
 |.eqs kind neg x y=>(evEq kind (x.ev fr) (y.ev fr)).map fun b=>(.bool (if neg then !b else b),st)
 |.not x=>match x.ev fr with
  |.bool b=>some (.bool (!b),st)
  |_=>none
 |.conv k x=>match x.ev fr with
  |.int _ n=>some (.int k (k.wrap n),st)
  |_=>none
 |.tobytes x=>match x.ev fr with
  |.str s=>some (.lst (s.map fun b=>.int .u8 b.toNat),st)
  |_=>none
 |.tostr x=>match slcOf (x.ev fr).nm with
  |some l=>(mapO byteP l).map fun s=>(.str s,st)
  |none=>none
 |.iface t x=>some (.iface t (x.ev fr),st)
 |.off o x=>match x.ev fr with
  |.ptr b p=>some (.ptr b (p+o),st)
  |.ref cs=>if o<=cs.length then some (.ref (cs.drop o),st) else none
  |_=>none
 |.field n o x=>match x.ev fr with
  |.agg cs=>(loadC n (cs.drop o)).map (·,st)
  |_=>none
 |.idx n x i=>match x.ev fr,i.ev fr with
  |.lst l,.int _ i=>(evIdx n l i).map (·,st)
  |.full l,.int _ i=>(evIdx n l i).map (·,st)
  |.own _ l,.int _ i=>(evIdx n l i).map (·,st)
  |.hs m b o len,.int _ i=>(evHidx n m b o len i).map (·,st)
  |_,_=>none
 |.sidx x i=>match x.ev fr,i.ev fr with
  |.str s,.int _ i=>if 0<=i then match s[i.toNat]? with
    |some b=>some (.int .u8 b.toNat,st)
    |none=>none
   else none
  |_,_=>none
 |.ssub x lo hi=>match x.ev fr with
  |.str s=>match bnd (hi.map (·.ev fr)) s.length s.length with
   |some h=>match bnd (lo.map (·.ev fr)) h 0 with
    |some l=>some (.str ((s.take h).drop l),st)
    |none=>none
   |none=>none
  |_=>none
 |.lsub n x lo hi mx=>(evLsub fr n x lo hi mx).map fun r=>(PV.kp (x.ev fr) r,st)
 |.ext x i=>match x.ev fr with
  |.tuple vs=>match vs[i]? with
   |some v=>some (v,st)
   |none=>none
  |_=>none
 |.slen x=>match x.ev fr with
  |.str s=>some (.int .i64 s.length,st)
  |_=>none
 |.len x=>match (x.ev fr).nm with
  |.lst l=>some (.int .i64 l.length,st)
  |.full l=>some (.int .i64 l.length,st)
  |.own _ l=>some (.int .i64 l.length,st)
  |.hs _ _ _ len=>some (.int .i64 len,st)
  |_=>none
 |.happend n bytes T x y=>match elemsOf (y.ev fr).nm with
  |some es=>evHappend n bytes (x.ev fr) es st
  |none=>none
 |.append n bytes T x y=>match elemsOf (y.ev fr).nm with
  |some es=>evAppend n bytes T (if es.isEmpty=true then x.ev fr else (x.ev fr).nm) es st
  |none=>none
 |.pappend n bytes T x y v=>evPappend n bytes T (x.ev fr) (y.ev fr) (v.ev fr) st
 |.pidx n x i=>(pidxV n (x.ev fr) (i.ev fr)).map (·,st)
 |.mm m x y=>(mmV m (x.ev fr) (y.ev fr)).map (·,st)
 |.fill _ x y=>(fillV (x.ev fr) (y.ev fr)).map (·,st)
 |.sdata x=>(sdataV (x.ev fr)).map (·,st)
 |.touns x=>tounsV (x.ev fr) st
 |.fromuns n u x=>fromunsV n u (x.ev fr) st
 |.ustr T x y=>ustrV T (x.ev fr) (y.ev fr) st
 |.calli m f args=>match mapO (argF m) (args.map (·.ev fr)) with
  |some as=>match call f as ⟨[],[],[],[]⟩ with
   |some (r,st')=>if m=2 then match r with
     |.own q l=>match st'.rows[q]?,st'.rt[q]? with
      |some (m,n),some T=>if m=l.length then some (.own st.rows.length l,⟨st.boxes,st.rows++[(m,n)],st.bt,st.rt++[T]⟩) else none
      |_,_=>none
     |r=>(shutR true st' shutN r).map (·,st)
    else (shutR (m % 2==1) st' shutN r).map (·,st)
   |none=>none
  |none=>none
 |.calls raw f args=>match shutS raw (args.map (·.ev fr)) with
  |some as=>call f as st
  |none=>none
 |.callv x args=>match x.ev fr with
  |.func f cap=>call f (args.map (·.ev fr)++cap) st
  |_=>none
 |.mkfn f args=>some (.func f (args.map (·.ev fr)),st)
 |.fail=>none
def wantedB (fr:Fr):Option (Nat × Bool)->Option Bool
 |none=>some true
 |some (t,b)=>match fr.getD t .undef with
  |.bool c=>some (c==b)
  |.tuple []=>some false
  |_=>none
def putF (d:Option Nat) (v:PV) (fr:Fr):Fr :=
 match d with
 |some i=>fr.set i v
 |none=>fr
def evSOp (call:CallF) (o:SOp) (fr:Fr) (st:St):Option (Fr × St) :=
 match wantedB fr o.guard with
 |some true=>match evOp call o.op fr st with
  |some (v,st')=>some (putF o.dst v fr,st')
  |none=>none
 |some false=>some (putF o.dst (.tuple []) fr,st)
 |none=>none
def evOps (call:CallF):List SOp->Fr->St->Option (Fr × St)
 |[],fr,st=>some (fr,st)
 |o::l,fr,st=>match evSOp call o fr st with
  |some (fr',st')=>evOps call l fr' st'
  |none=>none
def heldOf (o:SOp) (fr:Fr):List Nat :=
 match o.op with
 |.load _ x=>match x.ev fr with
  |.ptr b _=>[b]
  |_=>[]
 |_=>[]
def wroteOf (o:SOp) (fr:Fr):List Nat :=
 match o.op with
 |.store _ x _=>match x.ev fr with
  |.ptr b _=>[b]
  |_=>[]
 |_=>[]
structure Sch where
 fr:Fr
 st:St
 held:List Nat
 wrote:List Nat
def samesL:List (List PV)->List (List PV)->Bool
 |[],[]=>true
 |x::l,y::m=>PV.sames x y&&samesL l m
 |_,_=>false
theorem samesL_self : ∀ l:List (List PV),samesL l l=true
 |[]=>rfl
 |x::l=>by simp[samesL,PV.sames_self x,samesL_self l]
theorem eq_of_samesL : ∀ l m:List (List PV),samesL l m=true->l=m
 |[],[],_=>rfl
 |[],_::_,h=>by simp[samesL] at h
 |_::_,[],h=>by simp[samesL] at h
 |x::l,y::m,h=>by
  simp only[samesL,Bool.and_eq_true] at h
  rw[PV.eq_of_sames _ _ h.1,eq_of_samesL l m h.2]
def Sch.same (a b:Sch):Bool:=PV.sames a.fr b.fr&&samesL a.st.boxes b.st.boxes&&decide (a.st.rows=b.st.rows)&&decide (a.st.bt=b.st.bt)&&decide (a.st.rt=b.st.rt)
theorem Sch.eq_of_same {a b:Sch} (h:Sch.same a b=true):a.fr=b.fr/\a.st=b.st:=by
 simp only[Sch.same,Bool.and_eq_true,decide_eq_true_eq] at h
 refine⟨PV.eq_of_sames _ _ h.1.1.1.1,?_⟩
 have h1:=eq_of_samesL _ _ h.1.1.1.2
 have h2:=h.1.1.2
 have h3:=h.1.2
 have h4:=h.2
 cases ha:a.st with
 |mk x y z t=>cases hb:b.st with
  |mk u v p q=>rw[ha,hb] at h1 h2 h3 h4; simp only at h1 h2 h3 h4; rw[h1,h2,h3,h4]
def evSch (call:CallF) (st0:St):Tree->Sch->Option Sch
 |.nil,s=>some s
 |.alt t u,s=>match evSch call st0 t s,evSch call st0 u s with
  |some a,some b=>if Sch.same a b=true then some ⟨a.fr,a.st,a.held++b.held,a.wrote++b.wrote⟩ else none
  |_,_=>none
 |.cons o l,s=>match wantedB s.fr o.guard with
  |some true=>match evOp call o.op s.fr (if o.flag=1 then st0 else s.st) with
   |some (v,st')=>evSch call st0 l ⟨putF o.dst v s.fr,if o.flag=1 then s.st else st',if o.flag=1 then heldOf o s.fr++s.held else s.held,if o.flag=2 then wroteOf o s.fr++s.wrote else s.wrote⟩
   |none=>none
  |some false=>evSch call st0 l ⟨putF o.dst (.tuple []) s.fr,s.st,s.held,s.wrote⟩
  |none=>none
def evDraw (call:CallF) (l:Tree) (fr:Fr) (st:St):Option (Fr × St) :=
 match evSch call st l ⟨fr,st,[],[]⟩ with
 |some s=>if s.wrote.all (fun b => !s.held.contains b) then some (s.fr,s.st) else none
 |none=>none
inductive IX where
 |normal
 |exit (id:Nat)
 |ret
 deriving DecidableEq,Inhabited
def mask:List Bool->Fr->Fr
 |true::m,v::l=>v::mask m l
 |false::m,_::l=>.undef::mask m l
 |[],l=>l.map fun _=>.undef
 |_::_,[]=>[]
abbrev CRes:=Option (IX × Fr × St)
def iter (step:Fr->St->CRes):Nat->Fr->St->CRes
 |0,_,_=>none
 |n+1,fr,st=>match step fr st with
  |some (.normal,fr',st')=>iter step n fr' st'
  |some (.exit i,fr',st')=>some (.exit i,fr',st')
  |some (.ret,fr',st')=>some (.ret,fr',st')
  |none=>none
def St.pick (T:TypeId) (st:St):St:=⟨st.boxes++[[.undef]],st.rows,st.bt++[T],st.rt⟩
def frPick (d e:Nat) (b:Bool) (fr:Fr) (st:St):Fr:=(fr.set d (.ptr st.boxes.length 0)).set e (.bool b)
def sameSt (s t:St):Bool:=samesL s.boxes t.boxes&&(decide (s.rows=t.rows)&&(decide (s.bt=t.bt)&&decide (s.rt=t.rt)))
def both (m:List Bool) (x y:CRes):CRes :=
 match x,y with
 |some (.normal,f,s),some (.normal,g,t)=>if PV.sames (mask m f) (mask m g)&&sameSt s t then some (.normal,mask m f,s) else none
 |_,_=>none
theorem sameSt_eq {s t:St} (h:sameSt s t=true):s=t:=by
 simp only[sameSt,Bool.and_eq_true,decide_eq_true_eq] at h
 cases s; cases t
 simp only at h
 rw[eq_of_samesL _ _ h.1,h.2.1,h.2.2.1,h.2.2.2]
def evC (call:CallF) (n:Nat):IC->Fr->St->CRes
 |.ops l,fr,st=>match evOps call l fr st with
  |some (fr',st')=>some (.normal,fr',st')
  |none=>none
 |.draw l,fr,st=>match evDraw call l fr st with
  |some (fr',st')=>some (.normal,fr',st')
  |none=>none
 |.seq a b,fr,st=>match evC call n a fr st with
  |some (.normal,fr',st')=>evC call n b fr' st'
  |some (.exit i,fr',st')=>some (.exit i,fr',st')
  |some (.ret,fr',st')=>some (.ret,fr',st')
  |none=>none
 |.cond x a b,fr,st=>match x.ev fr with
  |.bool c=>if c then evC call n a fr st else evC call n b fr st
  |_=>none
 |.choose m d e T a b,fr,st=>if d<fr.length/\e<fr.length then both m (evC call n a (frPick d e true fr st) (St.pick T st)) (evC call n b (frPick d e false fr st) (St.pick T st)) else none
 |.block id a,fr,st=>match evC call n a fr st with
  |some (.exit i,fr',st')=>if i=id then some (.normal,fr',st') else some (.exit i,fr',st')
  |some (.normal,fr',st')=>some (.normal,fr',st')
  |some (.ret,fr',st')=>some (.ret,fr',st')
  |none=>none
 |.loop m a,fr,st=>iter (fun fr st=>evC call n a fr st |>.map fun r=>(r.1,if r.1 = .normal then mask m r.2.1 else r.2.1,r.2.2)) n (mask m fr) st
 |.exit id,fr,st=>some (.exit id,fr,st)
 |.ret,fr,st=>some (.ret,fr,st)
 |.skip,fr,st=>some (.normal,fr,st)
def resOf (fr:Fr) (st:St):ResV->Option PV
 |.tmp t=>some (fr.getD t .undef)
 |.cell a n=>match fr.getD a .undef with
  |.ptr b o=>match st.boxes[b]? with
   |some cs=>loadC n (cs.drop o)
   |none=>none
  |_=>none
def resultsOf (rs:List ResV) (fr:Fr) (st:St):Option PV :=
 match mapO (resOf fr st) rs with
 |some [v]=>some v
 |some vs=>some (.tuple vs)
 |none=>none
def shutG:PV->Option PV
 |.nils=>some .nils
 |v=>shutA shutN v
def givAns (r:PV) (st:St):Option (PV × St) :=
 match r with
 |.own q l=>match l with
  |[]=>some (.own st.rows.length [],⟨st.boxes,st.rows++[(0,q % 65536)],st.bt,st.rt++[q / 65536]⟩)
  |_=>none
 |r=>some (r,st)
def asV (given:FuncId->List PV->Option PV) (f:FuncId) (x:PV) (t:TypeId) (b:Nat) (st:St):Option (PV × St) :=
 match shutG x with
 |some x'=>match given f [x',.iface t (.own 0 [])] with
  |some (.tuple [r,y])=>match st.boxes[b]? with
   |some [_]=>if y.cells.length=1/\y.cells.all PV.isCell=true/\st.bt[b]? ≠ some hsT then some (r,⟨st.boxes.set b y.cells,st.rows,st.bt,st.rt⟩) else none
   |_=>none
  |some (.tuple [r])=>match st.boxes[b]? with
   |some [_]=>if st.bt[b]? ≠ some hsT then some (r,st) else none
   |_=>none
  |_=>none
 |none=>none
def asArgs:List PV->Option (PV × TypeId × Nat)
 |[x,.iface t (.ptr b 0)]=>some (x,t,b)
 |_=>none
def givenV (given:FuncId->List PV->Option PV) (f:FuncId) (args:List PV) (st:St):Option (PV × St) :=
 match asArgs args with
 |some (x,t,b)=>asV given f x t b st
 |none=>match mapO shutG args with
  |some as=>match given f as with
   |some r=>givAns r st
   |none=>none
  |none=>none
def evF (fns:FuncId->Option IFunc) (given:FuncId->List PV->Option PV):Nat->CallF
 |0,_,_,_=>none
 |k+1,f,args,st=>match fns f with
  |some c=>match evC (evF fns given k) k c.body (args++List.replicate (c.ntmps-args.length) .undef) st with
   |some (.normal,fr',st')=>(resultsOf c.results fr' st').map (·,st')
   |some (.ret,fr',st')=>(resultsOf c.results fr' st').map (·,st')
   |_=>none
  |none=>givenV given f args st
end Go.Proofs.YthjnlpfibakacaaGreatDoorPe
