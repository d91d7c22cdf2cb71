/- A part of the proof of this folder's statement; it has no condition of its own. -/
import Derived.Test.YthjnlpfibakacaaGreatDoorTmpfVal
import Derived.Test.YthjnlpfibakacaaGreatDoorTmpfGivt
set_option linter.unusedVariables false
set_option linter.unusedSimpArgs false
set_option maxRecDepth 100000
namespace Go.Proofs.YthjnlpfibakacaaGreatDoorPe.Tmpf
open Go Go.Proofs.YthjnlpfibakacaaGreatDoorPe Go.Proofs.YthjnlpfibakacaaGreatDoorPe.TmpfCode
def letterB (c:UInt8):Bool:=(decide (97<=c.toNat)&&decide (c.toNat<=122))||(decide (65<=c.toNat)&&decide (c.toNat<=90))
def partB (c:UInt8):Bool:=letterB c||(decide (48<=c.toNat)&&decide (c.toNat<=57))||decide (c=45)||decide (c=95)
def signB (c:UInt8):Bool:=decide (33<=c.toNat)&&decide (c.toNat<=126) && !(decide (c=40)) && !(decide (c=41)) && !(decide (c=34)) && !(decide (c=59)) && !(decide (c=63)) && !(decide (c=126))
def blankB (c:UInt8):Bool:=decide (c=32)||decide (c=9)||decide (c=10)||decide (c=13)
def goodM (s:List UInt8):Bool :=
 match s with
 |[]=>false
 |c::r=>decide (s.length<=40)&&letterB c&&s.all partB
structure Tk where
 k:Int
 i:Int
 s:List UInt8
 deriving DecidableEq,Inhabited
abbrev Res (α : Type):=Except Int α
def nameM (s:List UInt8):Res (List UInt8) :=
 if (s.takeWhile partB).length>40 then .error 4 else if goodM (s.takeWhile partB)=true then .ok (s.takeWhile partB) else .error 2
def wordM (s:List UInt8):Res (Tk × Nat) :=
 if s.takeWhile signB=[] then .error 2
 else if (parseM (s.takeWhile signB)).2=0 then .ok (⟨1,(parseM (s.takeWhile signB)).1,[]⟩,(s.takeWhile signB).length)
 else if (parseM (s.takeWhile signB)).2≠2 then .error (parseM (s.takeWhile signB)).2
 else if (s.takeWhile signB).length>40 then .error 4
 else .ok (⟨2,0,s.takeWhile signB⟩,(s.takeWhile signB).length)
def strM:List UInt8->List UInt8->Nat->Res (List UInt8 × Nat)
 |[],_,_=>.error 3
 |c::r,acc,n=>if c=34 then (if acc.length>1000 then .error 4 else .ok (acc,n+1))
  else if c=92 then (match r with
   |[]=>.error 3
   |d::r'=>strM r' (acc++[d]) (n+2))
  else strM r (acc++[c]) (n+1)
def isStar:List UInt8->Bool
 |c::_=>decide (c=42)
 |[]=>false
def varM (r:List UInt8):Res (Tk × Nat) :=
 if isStar r=true then (match nameM (r.drop 1) with
  |.error e=>.error e
  |.ok t=>if isStar ((r.drop 1).drop t.length)=true then .ok (⟨7,0,t⟩,t.length+3) else .error 2)
 else (match nameM r with
  |.error e=>.error e
  |.ok t=>.ok (⟨6,0,t⟩,t.length+1))
def oneM:List UInt8->Res (Tk × Nat)
 |[]=>.error 2
 |c::r=>if c=40 then .ok (⟨4,0,[]⟩,1) else if c=41 then .ok (⟨5,0,[]⟩,1) else if c=126 then .ok (⟨8,0,[]⟩,1)
  else if c=34 then (match strM r [] 0 with
   |.error e=>.error e
   |.ok t=>.ok (⟨3,0,t.1⟩,t.2+1))
  else if c=63 then varM r
  else wordM (c::r)
def skipM:Bool->List UInt8->List UInt8
 |_,[]=>[]
 |true,c::r=>if c=10 then skipM false r else skipM true r
 |false,c::r=>if blankB c=true then skipM false r else if c=59 then skipM true r else c::r
theorem skipM_t {c:UInt8} {r:List UInt8}:skipM true (c::r)=if c=10 then skipM false r else skipM true r:=rfl
theorem skipM_f {c:UInt8} {r:List UInt8}:skipM false (c::r)=if blankB c=true then skipM false r else if c=59 then skipM true r else c::r:=rfl
theorem oneM_cons {c:UInt8} {r:List UInt8}:oneM (c::r)=if c=40 then .ok (⟨4,0,[]⟩,1) else if c=41 then .ok (⟨5,0,[]⟩,1) else if c=126 then .ok (⟨8,0,[]⟩,1)
  else if c=34 then (match strM r [] 0 with
   |.error e=>.error e
   |.ok t=>.ok (⟨3,0,t.1⟩,t.2+1))
  else if c=63 then varM r
  else wordM (c::r):=rfl
theorem skipM_le : ∀ (s:List UInt8) (b:Bool),(skipM b s).length<=s.length
 |[],b=>by cases b <;> exact Nat.le_refl _
 |c::r,true=>by
  unfold skipM
  have h1:=skipM_le r false
  have h2:=skipM_le r true
  split
  ·simp only[List.length_cons]; omega
  ·simp only[List.length_cons]; omega
 |c::r,false=>by
  unfold skipM
  have h1:=skipM_le r false
  have h2:=skipM_le r true
  split
  ·simp only[List.length_cons]; omega
  ·split
   ·simp only[List.length_cons]; omega
   ·exact Nat.le_refl _
structure Tok where
 k:Int
 pos:Nat
 i:Int
 s:List UInt8
 deriving DecidableEq,Inhabited
def Tok.p (t:Tok):PV:=.agg [.int .i64 t.k,.int .i64 t.pos,.int .i64 t.i,.str t.s]
def Tok.cells' (t:Tok):List PV:=[.int .i64 t.k,.int .i64 t.pos,.int .i64 t.i,.str t.s]
def scanM (pos:Nat) (s:List UInt8):Except (Nat × Int) (List Tok) :=
 match h:skipM false s with
 |[]=>.ok []
 |c::r=>match oneM (c::r) with
  |.error e=>.error (pos+(s.length-(r.length+1)),e)
  |.ok t=>match scanM (pos+(s.length-(r.length+1))+(t.2-1+1)) (r.drop (t.2-1)) with
   |.error e=>.error e
   |.ok l=>.ok (⟨t.1.k,pos+(s.length-(r.length+1)),t.1.i,t.1.s⟩::l)
termination_by s.length
decreasing_by
 have h1:=skipM_le s false
 rw[h] at h1
 simp only[List.length_cons,List.length_drop] at h1 ⊢
 omega
theorem scanM_nil {pos:Nat} {s:List UInt8} (h:skipM false s=[]):scanM pos s = .ok []:=by
 rw[scanM]
 split
 ·rfl
 ·rename_i h'; rw[h] at h'; cases h'
theorem scanM_cons {pos:Nat} {s:List UInt8} {c:UInt8} {r:List UInt8} (h:skipM false s=c::r):scanM pos s=match oneM (c::r) with
  |.error e=>.error (pos+(s.length-(r.length+1)),e)
  |.ok t=>match scanM (pos+(s.length-(r.length+1))+(t.2-1+1)) (r.drop (t.2-1)) with
   |.error e=>.error e
   |.ok l=>.ok (⟨t.1.k,pos+(s.length-(r.length+1)),t.1.i,t.1.s⟩::l):=by
 rw[scanM]
 split
 ·rename_i h'; rw[h] at h'; cases h'
 ·rename_i h'
  rw[h] at h'
  cases h'
  rfl
theorem skipM_skip : ∀ (s:List UInt8) (b:Bool),skipM false (skipM b s)=skipM b s
 |[],b=>by cases b <;> rfl
 |c::r,true=>by
  rw[skipM_t]
  split
  ·exact skipM_skip r false
  ·exact skipM_skip r true
 |c::r,false=>by
  rw[skipM_f]
  split
  ·exact skipM_skip r false
  ·split
   ·exact skipM_skip r true
   ·rename_i h1 h2
    rw[skipM_f,if_neg h1,if_neg h2]
theorem scanM_skip (pos:Nat) (s:List UInt8):scanM (pos+(s.length-(skipM false s).length)) (skipM false s)=scanM pos s:=by
 have hl:=skipM_le s false
 cases h:skipM false s with
 |nil =>
  rw[scanM_nil h,scanM_nil rfl]
 |cons c r =>
  rw[h] at hl
  have h2:skipM false (c::r)=c::r:=by
   have:=skipM_skip s false
   rw[h] at this
   exact this
  rw[scanM_cons h2,scanM_cons h]
  simp only[List.length_cons] at hl ⊢
  have e:pos+(s.length-(r.length+1))+(r.length+1-(r.length+1))=pos+(s.length-(r.length+1)):=by omega
  rw[e]
theorem takeWhile_le {α : Type} (p : α -> Bool) (l:List α):(l.takeWhile p).length<=l.length:=(List.takeWhile_sublist p).length_le
theorem strM_le : ∀ (s acc:List UInt8) (n:Nat) (t:List UInt8) (m:Nat),strM s acc n = .ok (t,m)->n+1<=m/\m<=n+s.length
 |[],acc,n,t,m,h=>by cases h
 |[c],acc,n,t,m,h=>by
  unfold strM at h
  split at h
  ·split at h
   ·cases h
   ·cases h; simp
  ·split at h
   ·cases h
   ·cases h
 |c::d::r,acc,n,t,m,h=>by
  unfold strM at h
  split at h
  ·split at h
   ·cases h
   ·cases h; simp
  ·split at h
   ·have:=strM_le r _ _ _ _ h
    simp only[List.length_cons]; omega
   ·have:=strM_le (d::r) _ _ _ _ h
    simp only[List.length_cons] at this ⊢; omega
theorem nameM_le {s t:List UInt8} (h:nameM s = .ok t):t=s.takeWhile partB/\t.length<=s.length/\t≠[]/\goodM t=true:=by
 unfold nameM at h
 split at h
 ·cases h
 ·split at h
  ·rename_i hg
   cases h
   refine⟨rfl,takeWhile_le _ _,?_,hg⟩
   intro h0
   rw[h0] at hg
   cases hg
  ·cases h
theorem wordM_le {s:List UInt8} {t:Tk} {m:Nat} (h:wordM s = .ok (t,m)):1<=m/\m<=s.length:=by
 have hl:=takeWhile_le signB s
 unfold wordM at h
 split at h
 ·cases h
 ·rename_i h0
  have:1<=(s.takeWhile signB).length:=by
   cases hh:s.takeWhile signB with
   |nil=>exact absurd hh h0
   |cons=>simp
  split at h
  ·cases h; exact⟨this,hl⟩
  ·split at h
   ·cases h
   ·split at h
    ·cases h
    ·cases h; exact⟨this,hl⟩
theorem isStar_iff {s:List UInt8}:isStar s=true ↔ ∃ r,s=42::r:=by
 cases s with
 |nil=>simp[isStar]
 |cons c r=>simp[isStar]
theorem oneM_le {s:List UInt8} {t:Tk} {m:Nat} (h:oneM s = .ok (t,m)):1<=m/\m<=s.length:=by
 cases s with
 |nil=>cases h
 |cons c r =>
  rw[oneM_cons] at h
  split at h
  ·cases h; simp
  split at h
  ·cases h; simp
  split at h
  ·cases h; simp
  split at h
  ·split at h
   ·cases h
   ·rename_i t' ht
    cases h
    have:=strM_le _ _ _ _ _ ht
    simp only[List.length_cons]
    omega
  split at h
  ·unfold varM at h
   split at h
   ·rename_i hs
    obtain⟨r',rfl⟩:=isStar_iff.1 hs
    split at h
    ·cases h
    ·rename_i t' ht
     have:=nameM_le ht
     split at h
     ·rename_i h2
      obtain⟨r2,h3⟩:=isStar_iff.1 h2
      have h4:=congrArg List.length h3
      simp only[List.drop_succ_cons,List.drop_zero,List.length_drop,List.length_cons] at h4
      cases h
      simp only[List.length_cons]
      omega
     ·cases h
   ·split at h
    ·cases h
    ·rename_i t' ht
     have:=nameM_le ht
     cases h
     simp only[List.length_cons]
     omega
  ·exact wordM_le h
end Go.Proofs.YthjnlpfibakacaaGreatDoorPe.Tmpf
set_option linter.unusedVariables false
set_option linter.unusedSimpArgs false
set_option maxRecDepth 1000000
namespace Go.Proofs.YthjnlpfibakacaaGreatDoorPe.Tmpf
open Go Go.Proofs.YthjnlpfibakacaaGreatDoorPe Go.Proofs.YthjnlpfibakacaaGreatDoorPe.TmpfCode
def isB (r:Option (PV × St)) (b:Bool):Bool :=
 match r with
 |some (.bool x,_)=>x==b
 |_=>false
theorem isB_some {r:Option (PV × St)} {b:Bool} (h:isB r b=true) : ∃ st,r=some (.bool b,st):=by
 unfold isB at h
 split at h
 ·rename_i x st
  have:x=b:=by simpa using h
  subst this
  exact⟨st,rfl⟩
 ·cases h
def byteRun (k:Nat) (f:FuncId) (p:UInt8->Bool):Bool:=(List.range 256).all fun n=>isB (evFE efns given k f [.int .u8 (n:Int)] ⟨[],[],[],[]⟩) (p (UInt8.ofNat n))
theorem byte_t {k:Nat} {f:FuncId} {p:UInt8->Bool} (h:byteRun k f p=true) (c:UInt8):tupV (callE efns given) (.call 0 f) [.int .u8 c.toNat]=some (.bool (p c)):=by
 have:=List.all_eq_true.1 h c.toNat (List.mem_range.2 c.toNat_lt)
 rw[UInt8.ofNat_toNat] at this
 obtain⟨st,h⟩:=isB_some this
 exact callV_of rfl ((callE_some efns given).2 ⟨k,h⟩) rfl
theorem letter_t (c:UInt8):tupV (callE efns given) (.call 0 f_ref3_letter) [.int .u8 c.toNat]=some (.bool (letterB c)):=byte_t (k:=10) (by kernel_rfl) c
theorem rpart_t (c:UInt8):tupV (callE efns given) (.call 0 f_ref3_Part) [.int .u8 c.toNat]=some (.bool (partB c)):=byte_t (k:=10) (by kernel_rfl) c
theorem rsignB_t (c:UInt8):tupV (callE efns given) (.call 0 f_ref3_Sign) [.int .u8 c.toNat]=some (.bool (signB c)):=byte_t (k:=10) (by kernel_rfl) c
theorem blank_t (c:UInt8):tupV (callE efns given) (.call 0 f_ref4_blank) [.int .u8 c.toNat]=some (.bool (blankB c)):=byte_t (k:=10) (by kernel_rfl) c
theorem goodM_at {s:List UInt8} {c:UInt8} (hc:s[0]? = some c):goodM s=(decide (s.length<=40)&&letterB c&&s.all partB):=by
 cases s with
 |nil=>cases hc
 |cons d r=>cases hc; rfl
theorem rgood_loop {s:List UInt8} (hs:s.length<4611686018427387904) {st:St} {K:EX->Fr->St->Option (PV × St)} : ∀ (d n:Nat),s.length-n=d->n<=s.length ->
  runL (callE efns given) [true,true] b_ref3_Good_0 [.str s,.int .i64 n] st K =
   if (s.drop n).all partB=true then K (.exit 0) [.str s,.int .i64 s.length] st else K (.ret (.bool false)) [] st:=by
 intro d
 induction d with
 |zero =>
  intro n hd hn
  have:n=s.length:=by omega
  subst this
  rw[runL_eq,List.drop_length]
  generalize runL _ _ b_ref3_Good_0=L
  simp only[b_ref3_Good_0,go_sem,Int.lt_irrefl,if_false,List.all_nil,if_true]
 |succ d ih =>
  intro n hd hn
  have hlt:n<s.length:=by omega
  obtain⟨c,hc⟩ : ∃ c,s[n]? = some c:=⟨s[n],List.getElem?_eq_getElem hlt⟩
  have w1:IntKind.i64.wrap ((n:Int)+1)=((n+1:Nat):Int):=by rw[IntWalk.i64_in _ (by omega)]; omega
  have c1:((n:Int)<(s.length:Int))=True:=eq_true (by omega)
  have hr:=ih (n+1) (by omega) (by omega)
  rw[runL_eq,drop_at hc,List.all_cons]
  generalize runL _ _ b_ref3_Good_0=L at hr ⊢
  cases hp:partB c with
  |true=>simp only[b_ref3_Good_0,go_sem,sidx_at hc,c1,w1,rpart_t,hp,hr,Bool.true_and,if_true]
  |false=>simp only[b_ref3_Good_0,go_sem,sidx_at hc,c1,w1,rpart_t,hp,Bool.false_and,if_true,Bool.false_eq_true,if_false]
theorem rgood_ok {s:List UInt8} (hs:s.length<4611686018427387904):callE efns given f_ref3_Good [.str s] ⟨[],[],[],[]⟩=some (.bool (goodM s),⟨[],[],[],[]⟩):=by
 rw[callE_fn efns given (c:=e_ref3_Good) rfl rfl]
 by_cases h0:s=[]
 ·subst h0
  simp[e_ref3_Good,go_sem,goodM]
 obtain⟨c,hc⟩ : ∃ c,s[0]? = some c:=by
  cases s with
  |nil=>exact absurd rfl h0
  |cons c r=>exact⟨c,rfl⟩
 have hlt:0<s.length:=List.length_pos_iff.2 h0
 have c1:((s.length:Int)=0)=False:=eq_false (by omega)
 have hx:biV .sidx (.str s) (.int .i64 0)=some (.int .u8 c.toNat):=sidx_at (n:=0) hc
 rw[goodM_at hc]
 by_cases h40:(s.length:Int)>40
 ·have : ¬ s.length<=40:=by omega
  rw[decide_eq_false this,Bool.false_and,Bool.false_and]
  simp only[e_ref3_Good,go_sem,c1,h40,if_true,if_false,false_or,true_or,or_true]
 ·have:s.length<=40:=by omega
  rw[decide_eq_true this,Bool.true_and]
  cases hl:letterB c with
  |false =>
   rw[Bool.false_and]
   simp only[e_ref3_Good,go_sem,c1,h40,hx,letter_t,hl,if_true,if_false,false_or,or_false,Bool.false_eq_true,decide_false,Bool.or_false,Bool.false_or,not_false_eq_true]
  |true =>
   rw[Bool.true_and]
   simp only[e_ref3_Good,go_sem,c1,h40,hx,letter_t,hl,if_true,if_false,false_or,or_false,Bool.false_eq_true,decide_false,Bool.or_false,Bool.false_or]
   generalize hK:blockK 0 _=K
   have hh:=rgood_loop hs (st:=⟨[],[],[],[]⟩) (K:=K) _ 0 rfl (by omega)
   rw[List.drop_zero] at hh
   refine Eq.trans hh ?_
   rw[<- hK]
   cases s.all partB with
   |true=>simp only[go_sem,if_true]
   |false=>simp only[go_sem,Bool.false_eq_true,if_false]
theorem rgood_t {s:List UInt8} (hs:s.length<4611686018427387904):tupV (callE efns given) (.call 0 f_ref3_Good) [.str s]=some (.bool (goodM s)):=callV_of rfl (rgood_ok hs) rfl
end Go.Proofs.YthjnlpfibakacaaGreatDoorPe.Tmpf
set_option linter.unusedVariables false
set_option linter.unusedSimpArgs false
set_option maxRecDepth 1000000
namespace Go.Proofs.YthjnlpfibakacaaGreatDoorPe.Tmpf
open Go Go.Proofs.YthjnlpfibakacaaGreatDoorPe Go.Proofs.YthjnlpfibakacaaGreatDoorPe.TmpfCode
def scC (b:List UInt8) (n:Nat):List PV:=[.lst (byts b),.int .i64 (n:Int)]
def Sc (k:Nat) (b:List UInt8) (n:Nat) (st:St):Prop:=st.boxes[k]? = some (scC b n)
theorem Sc.lt {k n:Nat} {b:List UInt8} {st:St} (h:Sc k b n st):k<st.boxes.length:=box_lt h
theorem byts_get {b:List UInt8} {n:Nat} {c:UInt8} (hc:b[n]? = some c):(byts b)[n]? = some (.int .u8 c.toNat):=by
 unfold byts
 rw[List.getElem?_map,hc]
 rfl
theorem bidx {b:List UInt8} {n:Nat} {c:UInt8} (hc:b[n]? = some c):evIdx 1 (byts b) (n:Int)=some (.ref [.int .u8 c.toNat]):=idx_at (n:=1) (byts_get hc) rfl
theorem bnd_nat {k:IntKind} {i y d:Nat} (h:i<=y):bnd (some (.int k (i:Int))) y d=some i:=by
 unfold bnd
 simp only
 rw[if_pos ⟨by omega,by omega⟩,Int.toNat_natCast]
theorem sizes_byts (o:Nat) (b:List UInt8):sizesOk 1 o (byts b)=true:=by
 unfold sizesOk
 cases b with
 |nil=>simp[byts]
 |cons c r=>simp[byts,PV.cells]
theorem blsub {b:List UInt8} {i j:Nat} (h0:i<=j) (h1:j<=b.length):lsubV 1 (.lst (byts b)) (some (.int .i64 (i:Int))) (some (.int .i64 (j:Int))) none=some (.lst (byts ((b.take j).drop i))):=by
 have hl:=byts_length b
 show (match bnd (some (PV.int .i64 (j:Int))) (byts b).length (byts b).length with
  |some h=>match bnd (some (PV.int .i64 (i:Int))) h 0 with
   |some o=>if sizesOk 1 o (byts b) then some (PV.lst (((byts b).take h).drop o)) else none
   |none=>none
  |none=>none)=_
 rw[bnd_nat (by omega)]
 simp only
 rw[bnd_nat h0]
 simp only
 rw[sizes_byts,if_pos rfl]
 unfold byts
 rw[List.map_drop,List.map_take]
theorem mapO_byteP : ∀ s:List UInt8,mapO byteP (byts s)=some s
 |[]=>rfl
 |c::s=>by
  have hc:byteP (.int .u8 (c.toNat:Int))=some c:=by
   simp only[byteP,Int.toNat_natCast,UInt8.ofNat_toNat]
  have ih:=mapO_byteP s
  unfold byts at ih ⊢
  simp only[List.map_cons,mapO,hc,ih]
theorem btostr (s:List UInt8):unV .tostr (.lst (byts s))=some (.str s):=by
 show (mapO byteP (byts s)).map PV.str=_
 rw[mapO_byteP]
 rfl
theorem btostr_own (r:Nat) (s:List UInt8):unV .tostr (.own r (byts s))=some (.str s):=by
 show (mapO byteP (byts s)).map PV.str=_
 rw[mapO_byteP]
 rfl
def pc:List UInt8->PV
 |[]=>.int .u8 0
 |c::_=>.int .u8 c.toNat
def pok:List UInt8->PV
 |[]=>.bool false
 |_::_=>.bool true
@[simp] theorem pc_cons {c : UInt8} {r : List UInt8} : pc (c :: r) = .int .u8 c.toNat := rfl
@[simp] theorem pok_cons {c : UInt8} {r : List UInt8} : pok (c :: r) = .bool true := rfl
@[simp] theorem pc_nil : pc [] = .int .u8 0 := rfl
@[simp] theorem pok_nil : pok [] = .bool false := rfl
theorem drop_get {b:List UInt8} {n:Nat} {c:UInt8} {r:List UInt8} (h:b.drop n=c::r):b[n]? = some c/\b.drop (n+1)=r/\n+1<=b.length:=by
 have h1:b[n]? = some c:=by
  have:=List.getElem?_drop (xs:=b) (i:=n) (j:=0)
  rw[h] at this
  simpa using this.symm
 have h2:=drop_at h1
 rw[h] at h2
 exact⟨h1,(List.cons.inj h2).2.symm,by have:=(List.getElem?_eq_some_iff.1 h1).1; omega⟩
theorem drop_none {b:List UInt8} {n:Nat} (h:b.drop n=[]):b.length<=n:=List.drop_eq_nil_iff.1 h
theorem wrap1 {n m:Nat} (h:n<m) (hm:m<=70000):IntKind.i64.wrap ((n:Int)+1)=((n+1:Nat):Int):=by rw[IntWalk.i64_in _ (by omega)]; omega
theorem take_while {α : Type} (p : α -> Bool) : ∀ l:List α,l.take (l.takeWhile p).length=l.takeWhile p
 |[]=>rfl
 |c::r=>by
  rw[List.takeWhile_cons]
  split
  ·rw[List.length_cons,List.take_succ_cons,take_while p r]
  ·rfl
theorem cut_while (p:UInt8->Bool) (b:List UInt8) (n:Nat):(b.take (n+((b.drop n).takeWhile p).length)).drop n=(b.drop n).takeWhile p:=by
 rw[List.drop_take,Nat.add_sub_cancel_left,take_while]
theorem while_le (p:UInt8->Bool) (b:List UInt8) {n:Nat} (h:n<=b.length):n+((b.drop n).takeWhile p).length<=b.length:=by
 have:=takeWhile_le p (b.drop n)
 rw[List.length_drop] at this
 omega
def no10 (c:UInt8):Bool := !(decide (c=10))
theorem skipM_true : ∀ s:List UInt8,skipM true s=skipM false (s.dropWhile no10)
 |[]=>rfl
 |c::r=>by
  rw[skipM_t,List.dropWhile_cons]
  by_cases h:c=10
  ·subst h
   have:no10 10=false:=rfl
   have hb:blankB 10=true:=rfl
   rw[if_pos rfl,this,if_neg (by decide),skipM_f,if_pos hb]
  ·have:no10 c=true:=by simp[no10,h]
   rw[if_neg h,this,if_pos rfl]
   exact skipM_true r
theorem drop_while {b:List UInt8} {n:Nat} {l:List UInt8} (p:UInt8->Bool) (h:b.drop n=l):b.drop (n+(l.takeWhile p).length)=l.dropWhile p:=by
 rw[<- List.drop_drop,h]
 clear h
 induction l with
 |nil=>rfl
 |cons c r ih =>
  rw[List.takeWhile_cons,List.dropWhile_cons]
  split
  ·rw[List.length_cons,List.drop_succ_cons]; exact ih
  ·rfl
end Go.Proofs.YthjnlpfibakacaaGreatDoorPe.Tmpf
set_option linter.unusedVariables false
set_option linter.unusedSimpArgs false
set_option maxRecDepth 1000000
namespace Go.Proofs.YthjnlpfibakacaaGreatDoorPe.Tmpf
open Go Go.Proofs.YthjnlpfibakacaaGreatDoorPe Go.Proofs.YthjnlpfibakacaaGreatDoorPe.TmpfCode
structure Ext (k:Nat) (b:List UInt8) (m:Nat) (st st':St):Prop where
 lt:k<st.boxes.length
 sc:Sc k b m st'
 bx : ∀ i,i<st.boxes.length->i≠k->st'.boxes[i]? = st.boxes[i]?
 bl:st.boxes.length<=st'.boxes.length
 rw : ∀ i,i<st.rows.length->st'.rows[i]? = st.rows[i]?
 rt : ∀ i,i<st.rt.length->st'.rt[i]? = st.rt[i]?
 rl:st.rows.length<=st'.rows.length
 rn:RtN st'
theorem Ext.refl {k n:Nat} {b:List UInt8} {st:St} (h:Sc k b n st) (hr:RtN st):Ext k b n st st:=⟨h.lt,h,fun _ _ _=>rfl,Nat.le_refl _,fun _ _=>rfl,fun _ _=>rfl,Nat.le_refl _,hr⟩
theorem Ext.new {k n:Nat} {b:List UInt8} {st s:St} (e:Ext k b n st s) (x:List PV) (T:TypeId):Ext k b n st ⟨s.boxes++[x],s.rows,s.bt++[T],s.rt⟩ :=
 ⟨e.lt,by unfold Sc; rw[List.getElem?_append_left e.sc.lt]; exact e.sc,fun i hi hne=>by rw[List.getElem?_append_left (Nat.lt_of_lt_of_le hi e.bl)]; exact e.bx i hi hne,by have:=e.bl; simp; omega,e.rw,e.rt,e.rl,e.rn⟩
theorem Ext.trans {k n m:Nat} {b:List UInt8} {st s t:St} (e:Ext k b n st s) (f:Ext k b m s t):Ext k b m st t :=
 ⟨e.lt,f.sc,fun i hi hne=>(f.bx i (Nat.lt_of_lt_of_le hi e.bl) hne).trans (e.bx i hi hne),Nat.le_trans e.bl f.bl,
  fun i hi=>by
   have h1:=e.rw i hi
   have:i<s.rows.length:=by
    rcases Nat.lt_or_ge i s.rows.length with h|h
    ·exact h
    ·rw[List.getElem?_eq_none h,List.getElem?_eq_getElem hi] at h1; cases h1
   exact (f.rw i this).trans h1,
  fun i hi=>by
   have h1:=e.rt i hi
   have:i<s.rt.length:=by
    rcases Nat.lt_or_ge i s.rt.length with h|h
    ·exact h
    ·rw[List.getElem?_eq_none h,List.getElem?_eq_getElem hi] at h1; cases h1
   exact (f.rt i this).trans h1,Nat.le_trans e.rl f.rl,f.rn⟩
@[go_sem] theorem fill0 {zs : List PV} : fillP zs (zip3 [] []) = some zs := by cases zs <;> rfl
@[go_sem] theorem fill03 {a b c d : PV} {k : IntKind} {n : Int} {t : List UInt8} : fillP [a, b, c, d] (zip3 [(0, 1), (3, 1)] [.int k n, .str t]) = some [.int k n, b, c, .str t] := rfl
@[go_sem] theorem fill02 {a b c d : PV} {k k' : IntKind} {n n' : Int} : fillP [a, b, c, d] (zip3 [(0, 1), (2, 1)] [.int k n, .int k' n']) = some [.int k n, b, .int k' n', d] := rfl
@[go_sem] theorem fill00 {a b c d : PV} {k : IntKind} {n : Int} : fillP [a, b, c, d] (zip3 [(0, 1)] [.int k n]) = some [.int k n, b, c, d] := rfl
@[go_sem] theorem fill11 {a b c d : PV} {k : IntKind} {n : Int} : fillP [a, b, c, d] (zip3 [(1, 1)] [.int k n]) = some [a, .int k n, c, d] := rfl
theorem nameM_err {s:List UInt8} {e:Int} (h:nameM s = .error e):(e=4\/e=2):=by
 unfold nameM at h
 split at h
 ·cases h; exact .inl rfl
 ·split at h
  ·cases h
  ·cases h; exact .inr rfl
end Go.Proofs.YthjnlpfibakacaaGreatDoorPe.Tmpf
set_option linter.unusedVariables false
set_option linter.unusedSimpArgs false
set_option maxRecDepth 1000000
namespace Go.Proofs.YthjnlpfibakacaaGreatDoorPe.Tmpf
open Go Go.Proofs.YthjnlpfibakacaaGreatDoorPe Go.Proofs.YthjnlpfibakacaaGreatDoorPe.TmpfCode
def OutI (N:Nat) (acc:List UInt8) (out:PV) (s:St):Prop :=
 acc=[]/\out = .nils \/ ∃ r,N<=r/\acc≠[]/\out = .own r (byts acc)/\s.rows[r]? = some (acc.length,1)/\s.rt[r]? = some T_byte
theorem OutI.len {N:Nat} {acc:List UInt8} {out:PV} {s:St} (h:OutI N acc out s):unV .len out=some (.int .i64 (acc.length:Int)):=by
 rcases h with ⟨rfl,rfl⟩|⟨r,_,_,rfl,_⟩
 ·rfl
 ·show some (PV.int .i64 ((byts acc).length:Int))=_
  rw[byts_length]
theorem OutI.str {N:Nat} {acc:List UInt8} {out:PV} {s:St} (h:OutI N acc out s):unV .tostr out=some (.str acc):=by
 rcases h with ⟨rfl,rfl⟩|⟨r,_,_,rfl,_⟩
 ·rfl
 ·exact btostr_own r acc
theorem strM_cons {c:UInt8} {r acc:List UInt8} {i:Nat} (h1:c≠34) (h2:c≠92):strM (c::r) acc i=strM r (acc++[c]) (i+1):=by
 cases r with
 |nil=>conv=>lhs; rw[strM,if_neg h1,if_neg h2]
 |cons d r=>conv=>lhs; rw[strM,if_neg h1,if_neg h2]
theorem strM_esc {c:UInt8} {r acc:List UInt8} {i:Nat}:strM (92::c::r) acc i=strM r (acc++[c]) (i+2):=by
 rw[strM,if_neg (by decide),if_pos rfl]
theorem strM_esc0 {acc:List UInt8} {i:Nat}:strM [92] acc i = .error 3:=by
 rw[strM,if_neg (by decide),if_pos rfl]
theorem strM_end {r acc:List UInt8} {i:Nat}:strM (34::r) acc i=if acc.length>1000 then .error 4 else .ok (acc,i+1):=by
 cases r with
 |nil=>rw[strM,if_pos rfl]
 |cons d r=>rw[strM,if_pos rfl]
theorem oneM_err {s:List UInt8} {e:Int} (h:oneM s = .error e) : ¬ e=0:=by
 have hname : ∀ {s:List UInt8} {e:Int},nameM s = .error e -> ¬ e=0:=by
  intro s e h
  rcases nameM_err h with rfl|rfl <;> decide
 cases s with
 |nil=>cases h; decide
 |cons c r =>
  rw[oneM_cons] at h
  split at h
  ·cases h
  split at h
  ·cases h
  split at h
  ·cases h
  split at h
  ·split at h
   ·rename_i e' he
    cases h
    have : ∀ (m:Nat) (s acc:List UInt8) (i:Nat),s.length<=m->strM s acc i = .error e -> ¬ e=0:=by
     intro m
     induction m with
     |zero =>
      intro s acc i hm h
      cases s with
      |nil=>cases h; decide
      |cons=>simp at hm
     |succ m ih =>
      intro s acc i hm h
      cases s with
      |nil=>cases h; decide
      |cons c r =>
       by_cases h34:c=34
       ·subst h34
        rw[strM_end] at h
        split at h
        ·cases h; decide
        ·cases h
       ·by_cases h92:c=92
        ·subst h92
         cases r with
         |nil=>rw[strM_esc0] at h; cases h; decide
         |cons d r=>rw[strM_esc] at h; exact ih r _ _ (by simp only[List.length_cons] at hm; omega) h
        ·rw[strM_cons h34 h92] at h
         exact ih r _ _ (by simp only[List.length_cons] at hm; omega) h
    exact this _ r [] 0 (Nat.le_refl _) he
   ·cases h
  split at h
  ·unfold varM at h
   split at h
   ·split at h
    ·rename_i e' he; cases h; exact hname he
    ·split at h
     ·cases h
     ·cases h; decide
   ·split at h
    ·rename_i e' he; cases h; exact hname he
    ·cases h
  ·unfold wordM at h
   split at h
   ·cases h; decide
   split at h
   ·cases h
   rename_i h0
   split at h
   ·cases h; exact h0
   split at h
   ·cases h; decide
   ·cases h
end Go.Proofs.YthjnlpfibakacaaGreatDoorPe.Tmpf
set_option linter.unusedVariables false
set_option linter.unusedSimpArgs false
set_option maxRecDepth 1000000
namespace Go.Proofs.YthjnlpfibakacaaGreatDoorPe.Tmpf
open Go Go.Proofs.YthjnlpfibakacaaGreatDoorPe Go.Proofs.YthjnlpfibakacaaGreatDoorPe.TmpfCode
def OutT (T:TypeId) (l:List Tok) (out:PV) (s:St):Prop :=
 l=[]/\out = .nils \/ ∃ r,l≠[]/\out = .own r (l.map Tok.p)/\s.rows[r]? = some (l.length,4)/\s.rt[r]? = some T
theorem szAll_toks (l:List Tok):szAll 4 (l.map Tok.p)=true:=by
 simp[szAll,Tok.p,PV.cells]
theorem out_tok {T:TypeId} {l:List Tok} {out:PV} {s:St} (t:Tok) (h:OutT T l out s) (hn:RtN s) (hl:l.length<=65536) :
  ∃ out' s',evAppend 4 40 T out.nm [t.p] s=some (out',s')/\OutT T (l++[t]) out' s'/\RtN s'/\s'.boxes=s.boxes/\s'.bt=s.bt:=by
 have hs:=szAll_toks [t]
 simp only[List.map_cons,List.map_nil] at hs
 rcases h with ⟨rfl,rfl⟩|⟨r,hne,rfl,h1,h2⟩
 ·refine⟨.own s.rows.length ([]++[t.p]),⟨s.boxes,s.rows++[(0+1,4)],s.bt,s.rt++[T]⟩,?_,.inr ⟨s.rows.length,by simp,rfl,by simp,?_⟩,?_,rfl,rfl⟩
  ·rw[n_nils,A_full,hs,if_pos rfl,if_pos ⟨by simp,rfl⟩]
   rfl
  ·unfold RtN at hn; rw[<- hn]; simp
  ·unfold RtN at hn ⊢; simp[hn]
 ·refine⟨.own r (l.map Tok.p++[t.p]),⟨s.boxes,s.rows.set r ((l.map Tok.p).length+1,4),s.bt,s.rt⟩,?_,.inr ⟨r,by simp,by simp,?_,h2⟩,?_,rfl,rfl⟩
  ·rw[n_own,A_own,hs,if_pos rfl,if_pos ⟨by simp; omega,by simpa using h1,h2⟩]
   rfl
  ·have:r<s.rows.length:=(List.getElem?_eq_some_iff.1 h1).1
   rw[List.getElem?_set_self this]
   simp
  ·unfold RtN at hn ⊢; simp[hn]
theorem OutT.ext {T:TypeId} {k m:Nat} {b:List UInt8} {l:List Tok} {out:PV} {s s':St} (h:OutT T l out s) (e:Ext k b m s s'):OutT T l out s':=by
 rcases h with h|⟨r,hne,ho,h1,h2⟩
 ·exact .inl h
 ·exact .inr ⟨r,hne,ho,(e.rw r (List.getElem?_eq_some_iff.1 h1).1).trans h1,(e.rt r (List.getElem?_eq_some_iff.1 h2).1).trans h2⟩
def behind (b:List UInt8) (p:Nat):Nat:=b.length-(skipM false (b.drop p)).length
theorem scan_step {b:List UInt8} {n:Nat} {c:UInt8} {r:List UInt8} (hd:b.drop n=c::r) (hs:skipM false (b.drop n)=b.drop n) (hn:n<=b.length) :
  scanM n (b.drop n)=match oneM (c::r) with
  |.error e=>.error (n,e)
  |.ok t=>match scanM (n+t.2) (b.drop (n+t.2)) with
   |.error e=>.error e
   |.ok l=>.ok (⟨t.1.k,n,t.1.i,t.1.s⟩::l):=by
 have hl:(b.drop n).length=r.length+1:=by rw[hd]; simp
 rw[scanM_cons (hs.trans hd),hl]
 simp only[Nat.sub_self,Nat.add_zero]
 cases ho:oneM (c::r) with
 |error e=>rfl
 |ok t =>
  have:=oneM_le (t:=t.1) (m:=t.2) ho
  have e1:t.2-1+1=t.2:=by omega
  have e2:r.drop (t.2-1)=b.drop (n+t.2):=by
   rw[<- List.drop_drop,hd]
   conv=>rhs; rw[<- e1,List.drop_succ_cons]
  simp only[e1,e2]
  all_goals rfl
def scanL (b:List UInt8):Except (Nat × Int) (List Tok):=if b.length>65536 then .error (0,4) else scanM 0 b
end Go.Proofs.YthjnlpfibakacaaGreatDoorPe.Tmpf
