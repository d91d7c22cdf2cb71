/- A part of the proof of this folder's statement; it has no condition of its own. -/
import Derived.Test.YtnlknpeelpnbaaaGreatDoorReadVal
import Derived.Test.YtnlknpeelpnbaaaGreatDoorReadGivt
set_option linter.unusedVariables false
set_option linter.unusedSimpArgs false
set_option maxRecDepth 100000
namespace Go.Proofs.YtnlknpeelpnbaaaGreatDoorPe.Read
open Go Go.Proofs.YtnlknpeelpnbaaaGreatDoorPe Go.Proofs.YtnlknpeelpnbaaaGreatDoorPe.ReadCode
def letterB (c:UInt8):Bool:=(decide (97<=c.toNat)&&decide (c.toNat<=122))||(decide (65<=c.toNat)&&decide (c.toNat<=90))
def partB (c:UInt8):Bool:=letterB c||(decide (48<=c.toNat)&&decide (c.toNat<=57))||decide (c=45)||decide (c=95)
def signB (c:UInt8):Bool:=decide (33<=c.toNat)&&decide (c.toNat<=126) && !(decide (c=40)) && !(decide (c=41)) && !(decide (c=34)) && !(decide (c=59)) && !(decide (c=63)) && !(decide (c=126))
def blankB (c:UInt8):Bool:=decide (c=32)||decide (c=9)||decide (c=10)||decide (c=13)
def goodM (s:List UInt8):Bool :=
 match s with
 |[]=>false
 |c::r=>decide (s.length<=40)&&letterB c&&s.all partB
structure Tk where
 k:Int
 i:Int
 s:List UInt8
 deriving DecidableEq,Inhabited
abbrev Res (α : Type):=Except Int α
def nameM (s:List UInt8):Res (List UInt8) :=
 if (s.takeWhile partB).length>40 then .error 4 else if goodM (s.takeWhile partB)=true then .ok (s.takeWhile partB) else .error 2
def wordM (s:List UInt8):Res (Tk × Nat) :=
 if s.takeWhile signB=[] then .error 2
 else if (parseM (s.takeWhile signB)).2=0 then .ok (⟨1,(parseM (s.takeWhile signB)).1,[]⟩,(s.takeWhile signB).length)
 else if (parseM (s.takeWhile signB)).2≠2 then .error (parseM (s.takeWhile signB)).2
 else if (s.takeWhile signB).length>40 then .error 4
 else .ok (⟨2,0,s.takeWhile signB⟩,(s.takeWhile signB).length)
def strM:List UInt8->List UInt8->Nat->Res (List UInt8 × Nat)
 |[],_,_=>.error 3
 |c::r,acc,n=>if c=34 then (if acc.length>1000 then .error 4 else .ok (acc,n+1))
  else if c=92 then (match r with
   |[]=>.error 3
   |d::r'=>strM r' (acc++[d]) (n+2))
  else strM r (acc++[c]) (n+1)
def isStar:List UInt8->Bool
 |c::_=>decide (c=42)
 |[]=>false
def varM (r:List UInt8):Res (Tk × Nat) :=
 if isStar r=true then (match nameM (r.drop 1) with
  |.error e=>.error e
  |.ok t=>if isStar ((r.drop 1).drop t.length)=true then .ok (⟨7,0,t⟩,t.length+3) else .error 2)
 else (match nameM r with
  |.error e=>.error e
  |.ok t=>.ok (⟨6,0,t⟩,t.length+1))
def oneM:List UInt8->Res (Tk × Nat)
 |[]=>.error 2
 |c::r=>if c=40 then .ok (⟨4,0,[]⟩,1) else if c=41 then .ok (⟨5,0,[]⟩,1) else if c=126 then .ok (⟨8,0,[]⟩,1)
  else if c=34 then (match strM r [] 0 with
   |.error e=>.error e
   |.ok t=>.ok (⟨3,0,t.1⟩,t.2+1))
  else if c=63 then varM r
  else wordM (c::r)
def skipM:Bool->List UInt8->List UInt8
 |_,[]=>[]
 |true,c::r=>if c=10 then skipM false r else skipM true r
 |false,c::r=>if blankB c=true then skipM false r else if c=59 then skipM true r else c::r
theorem skipM_t {c:UInt8} {r:List UInt8}:skipM true (c::r)=if c=10 then skipM false r else skipM true r:=rfl
theorem skipM_f {c:UInt8} {r:List UInt8}:skipM false (c::r)=if blankB c=true then skipM false r else if c=59 then skipM true r else c::r:=rfl
theorem oneM_cons {c:UInt8} {r:List UInt8}:oneM (c::r)=if c=40 then .ok (⟨4,0,[]⟩,1) else if c=41 then .ok (⟨5,0,[]⟩,1) else if c=126 then .ok (⟨8,0,[]⟩,1)
  else if c=34 then (match strM r [] 0 with
   |.error e=>.error e
   |.ok t=>.ok (⟨3,0,t.1⟩,t.2+1))
  else if c=63 then varM r
  else wordM (c::r):=rfl
theorem skipM_le : ∀ (s:List UInt8) (b:Bool),(skipM b s).length<=s.length
 |[],b=>by cases b <;> exact Nat.le_refl _
 |c::r,true=>by
  unfold skipM
  have h1:=skipM_le r false
  have h2:=skipM_le r true
  split
  ·simp only[List.length_cons]; omega
  ·simp only[List.length_cons]; omega
 |c::r,false=>by
  unfold skipM
  have h1:=skipM_le r false
  have h2:=skipM_le r true
  split
  ·simp only[List.length_cons]; omega
  ·split
   ·simp only[List.length_cons]; omega
   ·exact Nat.le_refl _
theorem skipM_suffix : ∀ (s:List UInt8) (b:Bool),skipM b s=s.drop (s.length-(skipM b s).length)
 |[],b=>by cases b <;> rfl
 |c::r,true=>by
  unfold skipM
  have h1:=skipM_suffix r false
  have h2:=skipM_suffix r true
  have l1:=skipM_le r false
  have l2:=skipM_le r true
  split
  ·rw[List.length_cons,show r.length+1-(skipM false r).length=(r.length-(skipM false r).length)+1 by omega,List.drop_succ_cons]; exact h1
  ·rw[List.length_cons,show r.length+1-(skipM true r).length=(r.length-(skipM true r).length)+1 by omega,List.drop_succ_cons]; exact h2
 |c::r,false=>by
  unfold skipM
  have h1:=skipM_suffix r false
  have h2:=skipM_suffix r true
  have l1:=skipM_le r false
  have l2:=skipM_le r true
  split
  ·rw[List.length_cons,show r.length+1-(skipM false r).length=(r.length-(skipM false r).length)+1 by omega,List.drop_succ_cons]; exact h1
  ·split
   ·rw[List.length_cons,show r.length+1-(skipM true r).length=(r.length-(skipM true r).length)+1 by omega,List.drop_succ_cons]; exact h2
   ·simp
structure Tok where
 k:Int
 pos:Nat
 i:Int
 s:List UInt8
 deriving DecidableEq,Inhabited
def Tok.p (t:Tok):PV:=.agg [.int .i64 t.k,.int .i64 t.pos,.int .i64 t.i,.str t.s]
def Tok.cells' (t:Tok):List PV:=[.int .i64 t.k,.int .i64 t.pos,.int .i64 t.i,.str t.s]
def scanM (pos:Nat) (s:List UInt8):Except (Nat × Int) (List Tok) :=
 match h:skipM false s with
 |[]=>.ok []
 |c::r=>match oneM (c::r) with
  |.error e=>.error (pos+(s.length-(r.length+1)),e)
  |.ok t=>match scanM (pos+(s.length-(r.length+1))+(t.2-1+1)) (r.drop (t.2-1)) with
   |.error e=>.error e
   |.ok l=>.ok (⟨t.1.k,pos+(s.length-(r.length+1)),t.1.i,t.1.s⟩::l)
termination_by s.length
decreasing_by
 have h1:=skipM_le s false
 rw[h] at h1
 simp only[List.length_cons,List.length_drop] at h1 ⊢
 omega
theorem scanM_nil {pos:Nat} {s:List UInt8} (h:skipM false s=[]):scanM pos s = .ok []:=by
 rw[scanM]
 split
 ·rfl
 ·rename_i h'; rw[h] at h'; cases h'
theorem scanM_cons {pos:Nat} {s:List UInt8} {c:UInt8} {r:List UInt8} (h:skipM false s=c::r):scanM pos s=match oneM (c::r) with
  |.error e=>.error (pos+(s.length-(r.length+1)),e)
  |.ok t=>match scanM (pos+(s.length-(r.length+1))+(t.2-1+1)) (r.drop (t.2-1)) with
   |.error e=>.error e
   |.ok l=>.ok (⟨t.1.k,pos+(s.length-(r.length+1)),t.1.i,t.1.s⟩::l):=by
 rw[scanM]
 split
 ·rename_i h'; rw[h] at h'; cases h'
 ·rename_i h'
  rw[h] at h'
  cases h'
  rfl
theorem skipM_skip : ∀ (s:List UInt8) (b:Bool),skipM false (skipM b s)=skipM b s
 |[],b=>by cases b <;> rfl
 |c::r,true=>by
  rw[skipM_t]
  split
  ·exact skipM_skip r false
  ·exact skipM_skip r true
 |c::r,false=>by
  rw[skipM_f]
  split
  ·exact skipM_skip r false
  ·split
   ·exact skipM_skip r true
   ·rename_i h1 h2
    rw[skipM_f,if_neg h1,if_neg h2]
theorem scanM_skip (pos:Nat) (s:List UInt8):scanM (pos+(s.length-(skipM false s).length)) (skipM false s)=scanM pos s:=by
 have hl:=skipM_le s false
 cases h:skipM false s with
 |nil =>
  rw[scanM_nil h,scanM_nil rfl]
 |cons c r =>
  rw[h] at hl
  have h2:skipM false (c::r)=c::r:=by
   have:=skipM_skip s false
   rw[h] at this
   exact this
  rw[scanM_cons h2,scanM_cons h]
  simp only[List.length_cons] at hl ⊢
  have e:pos+(s.length-(r.length+1))+(r.length+1-(r.length+1))=pos+(s.length-(r.length+1)):=by omega
  rw[e]
theorem takeWhile_le {α : Type} (p : α -> Bool) (l:List α):(l.takeWhile p).length<=l.length:=(List.takeWhile_sublist p).length_le
theorem strM_le : ∀ (s acc:List UInt8) (n:Nat) (t:List UInt8) (m:Nat),strM s acc n = .ok (t,m)->n+1<=m/\m<=n+s.length
 |[],acc,n,t,m,h=>by cases h
 |[c],acc,n,t,m,h=>by
  unfold strM at h
  split at h
  ·split at h
   ·cases h
   ·cases h; simp
  ·split at h
   ·cases h
   ·cases h
 |c::d::r,acc,n,t,m,h=>by
  unfold strM at h
  split at h
  ·split at h
   ·cases h
   ·cases h; simp
  ·split at h
   ·have:=strM_le r _ _ _ _ h
    simp only[List.length_cons]; omega
   ·have:=strM_le (d::r) _ _ _ _ h
    simp only[List.length_cons] at this ⊢; omega
theorem nameM_le {s t:List UInt8} (h:nameM s = .ok t):t=s.takeWhile partB/\t.length<=s.length/\t≠[]/\goodM t=true:=by
 unfold nameM at h
 split at h
 ·cases h
 ·split at h
  ·rename_i hg
   cases h
   refine⟨rfl,takeWhile_le _ _,?_,hg⟩
   intro h0
   rw[h0] at hg
   cases hg
  ·cases h
theorem wordM_le {s:List UInt8} {t:Tk} {m:Nat} (h:wordM s = .ok (t,m)):1<=m/\m<=s.length:=by
 have hl:=takeWhile_le signB s
 unfold wordM at h
 split at h
 ·cases h
 ·rename_i h0
  have:1<=(s.takeWhile signB).length:=by
   cases hh:s.takeWhile signB with
   |nil=>exact absurd hh h0
   |cons=>simp
  split at h
  ·cases h; exact⟨this,hl⟩
  ·split at h
   ·cases h
   ·split at h
    ·cases h
    ·cases h; exact⟨this,hl⟩
theorem isStar_iff {s:List UInt8}:isStar s=true ↔ ∃ r,s=42::r:=by
 cases s with
 |nil=>simp[isStar]
 |cons c r=>simp[isStar]
theorem oneM_le {s:List UInt8} {t:Tk} {m:Nat} (h:oneM s = .ok (t,m)):1<=m/\m<=s.length:=by
 cases s with
 |nil=>cases h
 |cons c r =>
  rw[oneM_cons] at h
  split at h
  ·cases h; simp
  split at h
  ·cases h; simp
  split at h
  ·cases h; simp
  split at h
  ·split at h
   ·cases h
   ·rename_i t' ht
    cases h
    have:=strM_le _ _ _ _ _ ht
    simp only[List.length_cons]
    omega
  split at h
  ·unfold varM at h
   split at h
   ·rename_i hs
    obtain⟨r',rfl⟩:=isStar_iff.1 hs
    split at h
    ·cases h
    ·rename_i t' ht
     have:=nameM_le ht
     split at h
     ·rename_i h2
      obtain⟨r2,h3⟩:=isStar_iff.1 h2
      have h4:=congrArg List.length h3
      simp only[List.drop_succ_cons,List.drop_zero,List.length_drop,List.length_cons] at h4
      cases h
      simp only[List.length_cons]
      omega
     ·cases h
   ·split at h
    ·cases h
    ·rename_i t' ht
     have:=nameM_le ht
     cases h
     simp only[List.length_cons]
     omega
  ·exact wordM_le h
end Go.Proofs.YtnlknpeelpnbaaaGreatDoorPe.Read
set_option linter.unusedVariables false
set_option linter.unusedSimpArgs false
set_option maxRecDepth 1000000
namespace Go.Proofs.YtnlknpeelpnbaaaGreatDoorPe.Read
open Go Go.Proofs.YtnlknpeelpnbaaaGreatDoorPe Go.Proofs.YtnlknpeelpnbaaaGreatDoorPe.ReadCode
def isB (r:Option (PV × St)) (b:Bool):Bool :=
 match r with
 |some (.bool x,_)=>x==b
 |_=>false
def isI (r:Option (PV × St)) (n:Int):Bool :=
 match r with
 |some (.int .i64 x,_)=>x==n
 |_=>false
theorem isB_some {r:Option (PV × St)} {b:Bool} (h:isB r b=true) : ∃ st,r=some (.bool b,st):=by
 unfold isB at h
 split at h
 ·rename_i x st
  have:x=b:=by simpa using h
  subst this
  exact⟨st,rfl⟩
 ·cases h
theorem isI_some {r:Option (PV × St)} {n:Int} (h:isI r n=true) : ∃ st,r=some (.int .i64 n,st):=by
 unfold isI at h
 split at h
 ·rename_i x st
  have:x=n:=by simpa using h
  subst this
  exact⟨st,rfl⟩
 ·cases h
def byteRun (k:Nat) (f:FuncId) (p:UInt8->Bool):Bool:=(List.range 256).all fun n=>isB (evFE efns given k f [.int .u8 (n:Int)] ⟨[],[],[],[]⟩) (p (UInt8.ofNat n))
def byteInt (k:Nat) (f:FuncId) (p:UInt8->Int):Bool:=(List.range 256).all fun n=>isI (evFE efns given k f [.int .u8 (n:Int)] ⟨[],[],[],[]⟩) (p (UInt8.ofNat n))
theorem byte_t {k:Nat} {f:FuncId} {p:UInt8->Bool} (h:byteRun k f p=true) (c:UInt8):tupV (callE efns given) (.call 0 f) [.int .u8 c.toNat]=some (.bool (p c)):=by
 have:=List.all_eq_true.1 h c.toNat (List.mem_range.2 c.toNat_lt)
 rw[UInt8.ofNat_toNat] at this
 obtain⟨st,h⟩:=isB_some this
 exact callV_of rfl ((callE_some efns given).2 ⟨k,h⟩) rfl
theorem byteI_t {k:Nat} {f:FuncId} {p:UInt8->Int} (h:byteInt k f p=true) (c:UInt8):tupV (callE efns given) (.call 0 f) [.int .u8 c.toNat]=some (.int .i64 (p c)):=by
 have:=List.all_eq_true.1 h c.toNat (List.mem_range.2 c.toNat_lt)
 rw[UInt8.ofNat_toNat] at this
 obtain⟨st,h⟩:=isI_some this
 exact callV_of rfl ((callE_some efns given).2 ⟨k,h⟩) rfl
def classM (c:UInt8):Int:=if letterB c=true then 2 else if partB c=true then 1 else 0
theorem letter_t (c:UInt8):tupV (callE efns given) (.call 0 f_ref3_letter) [.int .u8 c.toNat]=some (.bool (letterB c)):=byte_t (k:=10) (by kernel_rfl) c
theorem rpart_t (c:UInt8):tupV (callE efns given) (.call 0 f_ref3_Part) [.int .u8 c.toNat]=some (.bool (partB c)):=byte_t (k:=10) (by kernel_rfl) c
theorem rsignB_t (c:UInt8):tupV (callE efns given) (.call 0 f_ref3_Sign) [.int .u8 c.toNat]=some (.bool (signB c)):=byte_t (k:=10) (by kernel_rfl) c
theorem blank_t (c:UInt8):tupV (callE efns given) (.call 0 f_ref4_blank) [.int .u8 c.toNat]=some (.bool (blankB c)):=byte_t (k:=10) (by kernel_rfl) c
theorem class_t (c:UInt8):tupV (callE efns given) (.call 0 f_sym_class) [.int .u8 c.toNat]=some (.int .i64 (classM c)):=byteI_t (k:=10) (by kernel_rfl) c
theorem part_t (c:UInt8):tupV (callE efns given) (.call 0 f_lex_part) [.int .u8 c.toNat]=some (.bool (partB c)):=byte_t (k:=20) (by kernel_rfl) c
theorem sign_t (c:UInt8):tupV (callE efns given) (.call 0 f_lex_sign) [.int .u8 c.toNat]=some (.bool (signB c)):=byte_t (k:=20) (by kernel_rfl) c
theorem classM_letter {c:UInt8}:(classM c<2)=(letterB c=false):=by
 unfold classM
 cases h:letterB c with
 |true=>simp
 |false =>
  simp only[Bool.false_eq_true,if_false]
  split <;> simp
theorem letter_part {c:UInt8} (h:letterB c=true):partB c=true:=by unfold partB; rw[h]; rfl
theorem classM_zero {c:UInt8}:(classM c=0)=(partB c=false):=by
 unfold classM
 by_cases h:letterB c=true
 ·rw[if_pos h,letter_part h]; simp
 ·rw[if_neg h]
  cases partB c <;> simp
theorem good_loop {s:List UInt8} (hs:s.length<4611686018427387904) {st:St} {K:EX->Fr->St->Option (PV × St)} : ∀ (d n:Nat),s.length-n=d->n<=s.length ->
  runL (callE efns given) [true,true,true] b_sym_Good_0 [.str s,.int .i64 s.length,.int .i64 n] st K =
   if (s.drop n).all partB=true then K (.exit 0) [.str s,.int .i64 s.length,.int .i64 s.length] st else K (.ret (.bool false)) [] st:=by
 intro d
 induction d with
 |zero =>
  intro n hd hn
  have:n=s.length:=by omega
  subst this
  rw[runL_eq,List.drop_length]
  generalize runL _ _ b_sym_Good_0=L
  simp only[b_sym_Good_0,go_sem,Int.lt_irrefl,if_false,List.all_nil,if_true]
 |succ d ih =>
  intro n hd hn
  have hlt:n<s.length:=by omega
  obtain⟨c,hc⟩ : ∃ c,s[n]? = some c:=⟨s[n],List.getElem?_eq_getElem hlt⟩
  have w1:IntKind.i64.wrap ((n:Int)+1)=((n+1:Nat):Int):=by rw[IntWalk.i64_in _ (by omega)]; omega
  have c1:((n:Int)<(s.length:Int))=True:=eq_true (by omega)
  have hr:=ih (n+1) (by omega) (by omega)
  rw[runL_eq,drop_at hc,List.all_cons]
  generalize runL _ _ b_sym_Good_0=L at hr ⊢
  have hz := @classM_zero c
  cases hp:partB c with
  |true =>
   have hz':(classM c=0)=False:=by rw[hz,hp]; simp
   simp only[b_sym_Good_0,go_sem,sidx_at hc,c1,w1,class_t,hz',hr,Bool.true_and,if_false,if_true]
  |false =>
   have hz':(classM c=0)=True:=by rw[hz,hp]; simp
   simp only[b_sym_Good_0,go_sem,sidx_at hc,c1,w1,class_t,hz',Bool.false_and,if_true,Bool.false_eq_true,if_false]
theorem goodM_at {s:List UInt8} {c:UInt8} (hc:s[0]? = some c):goodM s=(decide (s.length<=40)&&letterB c&&s.all partB):=by
 cases s with
 |nil=>cases hc
 |cons d r=>cases hc; rfl
theorem good_ok {s:List UInt8} (hs:s.length<4611686018427387904):callE efns given f_sym_Good [.str s] ⟨[],[],[],[]⟩=some (.bool (goodM s),⟨[],[],[],[]⟩):=by
 rw[callE_fn efns given (c:=e_sym_Good) rfl rfl]
 by_cases h0:s=[]
 ·subst h0
  simp[e_sym_Good,go_sem,goodM]
 obtain⟨c,hc⟩ : ∃ c,s[0]? = some c:=by
  cases s with
  |nil=>exact absurd rfl h0
  |cons c r=>exact⟨c,rfl⟩
 have hlt:0<s.length:=List.length_pos_iff.2 h0
 have c1:((s.length:Int)<1)=False:=eq_false (by omega)
 have hx:biV .sidx (.str s) (.int .i64 0)=some (.int .u8 c.toNat):=sidx_at (n:=0) hc
 rw[goodM_at hc]
 by_cases h40:(s.length:Int)>40
 ·have : ¬ s.length<=40:=by omega
  rw[decide_eq_false this,Bool.false_and,Bool.false_and]
  simp only[e_sym_Good,go_sem,c1,h40,if_true,if_false,false_or,true_or,or_true]
 ·have:s.length<=40:=by omega
  rw[decide_eq_true this,Bool.true_and]
  cases hl:letterB c with
  |false =>
   have hz:(classM c<2)=True:=by rw[classM_letter,hl]; simp
   rw[Bool.false_and]
   simp only[e_sym_Good,go_sem,c1,h40,hx,class_t,hz,if_true,if_false,false_or,or_false,Bool.false_eq_true,decide_false,Bool.or_false,Bool.false_or,not_false_eq_true]
  |true =>
   have hz:(classM c<2)=False:=by rw[classM_letter,hl]; simp
   rw[Bool.true_and]
   simp only[e_sym_Good,go_sem,c1,h40,hx,class_t,hz,if_true,if_false,false_or,or_false,Bool.false_eq_true,decide_false,Bool.or_false,Bool.false_or]
   generalize hK:blockK 0 _=K
   have hh:=good_loop hs (st:=⟨[],[],[],[]⟩) (K:=K) _ 0 rfl (by omega)
   rw[List.drop_zero] at hh
   refine Eq.trans hh ?_
   rw[<- hK]
   cases s.all partB with
   |true=>simp only[go_sem,if_true]
   |false=>simp only[go_sem,Bool.false_eq_true,if_false]
theorem good_t {s:List UInt8} (hs:s.length<4611686018427387904):tupV (callE efns given) (.call 0 f_sym_Good) [.str s]=some (.bool (goodM s)):=callV_of rfl (good_ok hs) rfl
theorem rgood_loop {s:List UInt8} (hs:s.length<4611686018427387904) {st:St} {K:EX->Fr->St->Option (PV × St)} : ∀ (d n:Nat),s.length-n=d->n<=s.length ->
  runL (callE efns given) [true,true] b_ref3_Good_0 [.str s,.int .i64 n] st K =
   if (s.drop n).all partB=true then K (.exit 0) [.str s,.int .i64 s.length] st else K (.ret (.bool false)) [] st:=by
 intro d
 induction d with
 |zero =>
  intro n hd hn
  have:n=s.length:=by omega
  subst this
  rw[runL_eq,List.drop_length]
  generalize runL _ _ b_ref3_Good_0=L
  simp only[b_ref3_Good_0,go_sem,Int.lt_irrefl,if_false,List.all_nil,if_true]
 |succ d ih =>
  intro n hd hn
  have hlt:n<s.length:=by omega
  obtain⟨c,hc⟩ : ∃ c,s[n]? = some c:=⟨s[n],List.getElem?_eq_getElem hlt⟩
  have w1:IntKind.i64.wrap ((n:Int)+1)=((n+1:Nat):Int):=by rw[IntWalk.i64_in _ (by omega)]; omega
  have c1:((n:Int)<(s.length:Int))=True:=eq_true (by omega)
  have hr:=ih (n+1) (by omega) (by omega)
  rw[runL_eq,drop_at hc,List.all_cons]
  generalize runL _ _ b_ref3_Good_0=L at hr ⊢
  cases hp:partB c with
  |true=>simp only[b_ref3_Good_0,go_sem,sidx_at hc,c1,w1,rpart_t,hp,hr,Bool.true_and,if_true]
  |false=>simp only[b_ref3_Good_0,go_sem,sidx_at hc,c1,w1,rpart_t,hp,Bool.false_and,if_true,Bool.false_eq_true,if_false]
theorem rgood_ok {s:List UInt8} (hs:s.length<4611686018427387904):callE efns given f_ref3_Good [.str s] ⟨[],[],[],[]⟩=some (.bool (goodM s),⟨[],[],[],[]⟩):=by
 rw[callE_fn efns given (c:=e_ref3_Good) rfl rfl]
 by_cases h0:s=[]
 ·subst h0
  simp[e_ref3_Good,go_sem,goodM]
 obtain⟨c,hc⟩ : ∃ c,s[0]? = some c:=by
  cases s with
  |nil=>exact absurd rfl h0
  |cons c r=>exact⟨c,rfl⟩
 have hlt:0<s.length:=List.length_pos_iff.2 h0
 have c1:((s.length:Int)=0)=False:=eq_false (by omega)
 have hx:biV .sidx (.str s) (.int .i64 0)=some (.int .u8 c.toNat):=sidx_at (n:=0) hc
 rw[goodM_at hc]
 by_cases h40:(s.length:Int)>40
 ·have : ¬ s.length<=40:=by omega
  rw[decide_eq_false this,Bool.false_and,Bool.false_and]
  simp only[e_ref3_Good,go_sem,c1,h40,if_true,if_false,false_or,true_or,or_true]
 ·have:s.length<=40:=by omega
  rw[decide_eq_true this,Bool.true_and]
  cases hl:letterB c with
  |false =>
   rw[Bool.false_and]
   simp only[e_ref3_Good,go_sem,c1,h40,hx,letter_t,hl,if_true,if_false,false_or,or_false,Bool.false_eq_true,decide_false,Bool.or_false,Bool.false_or,not_false_eq_true]
  |true =>
   rw[Bool.true_and]
   simp only[e_ref3_Good,go_sem,c1,h40,hx,letter_t,hl,if_true,if_false,false_or,or_false,Bool.false_eq_true,decide_false,Bool.or_false,Bool.false_or]
   generalize hK:blockK 0 _=K
   have hh:=rgood_loop hs (st:=⟨[],[],[],[]⟩) (K:=K) _ 0 rfl (by omega)
   rw[List.drop_zero] at hh
   refine Eq.trans hh ?_
   rw[<- hK]
   cases s.all partB with
   |true=>simp only[go_sem,if_true]
   |false=>simp only[go_sem,Bool.false_eq_true,if_false]
theorem rgood_t {s:List UInt8} (hs:s.length<4611686018427387904):tupV (callE efns given) (.call 0 f_ref3_Good) [.str s]=some (.bool (goodM s)):=callV_of rfl (rgood_ok hs) rfl
end Go.Proofs.YtnlknpeelpnbaaaGreatDoorPe.Read
set_option linter.unusedVariables false
set_option linter.unusedSimpArgs false
set_option maxRecDepth 1000000
namespace Go.Proofs.YtnlknpeelpnbaaaGreatDoorPe.Read
open Go Go.Proofs.YtnlknpeelpnbaaaGreatDoorPe Go.Proofs.YtnlknpeelpnbaaaGreatDoorPe.ReadCode
def scC (b:List UInt8) (n:Nat):List PV:=[.lst (byts b),.int .i64 (n:Int)]
def Sc (k:Nat) (b:List UInt8) (n:Nat) (st:St):Prop:=st.boxes[k]? = some (scC b n)
def upd (k:Nat) (b:List UInt8) (n:Nat) (st:St):St:=⟨st.boxes.set k (scC b n),st.rows,st.bt,st.rt⟩
theorem upd_same {k n:Nat} {b:List UInt8} {st:St} (h:Sc k b n st):upd k b n st=st:=by
 unfold upd
 rw[set_same' h]
theorem upd_upd {k n m:Nat} {b:List UInt8} {st:St}:upd k b m (upd k b n st)=upd k b m st:=by
 unfold upd
 rw[List.set_set]
theorem upd_sc {k n:Nat} {b:List UInt8} {st:St} (h:k<st.boxes.length):Sc k b n (upd k b n st):=by
 unfold Sc upd
 exact List.getElem?_set_self h
theorem Sc.lt {k n:Nat} {b:List UInt8} {st:St} (h:Sc k b n st):k<st.boxes.length:=box_lt h
theorem byts_get {b:List UInt8} {n:Nat} {c:UInt8} (hc:b[n]? = some c):(byts b)[n]? = some (.int .u8 c.toNat):=by
 unfold byts
 rw[List.getElem?_map,hc]
 rfl
theorem bidx {b:List UInt8} {n:Nat} {c:UInt8} (hc:b[n]? = some c):evIdx 1 (byts b) (n:Int)=some (.ref [.int .u8 c.toNat]):=idx_at (n:=1) (byts_get hc) rfl
theorem bnd_nat {k:IntKind} {i y d:Nat} (h:i<=y):bnd (some (.int k (i:Int))) y d=some i:=by
 unfold bnd
 simp only
 rw[if_pos ⟨by omega,by omega⟩,Int.toNat_natCast]
theorem sizes_byts (o:Nat) (b:List UInt8):sizesOk 1 o (byts b)=true:=by
 unfold sizesOk
 cases b with
 |nil=>simp[byts]
 |cons c r=>simp[byts,PV.cells]
theorem blsub {b:List UInt8} {i j:Nat} (h0:i<=j) (h1:j<=b.length):lsubV 1 (.lst (byts b)) (some (.int .i64 (i:Int))) (some (.int .i64 (j:Int))) none=some (.lst (byts ((b.take j).drop i))):=by
 have hl:=byts_length b
 show (match bnd (some (PV.int .i64 (j:Int))) (byts b).length (byts b).length with
  |some h=>match bnd (some (PV.int .i64 (i:Int))) h 0 with
   |some o=>if sizesOk 1 o (byts b) then some (PV.lst (((byts b).take h).drop o)) else none
   |none=>none
  |none=>none)=_
 rw[bnd_nat (by omega)]
 simp only
 rw[bnd_nat h0]
 simp only
 rw[sizes_byts,if_pos rfl]
 unfold byts
 rw[List.map_drop,List.map_take]
theorem mapO_byteP : ∀ s:List UInt8,mapO byteP (byts s)=some s
 |[]=>rfl
 |c::s=>by
  have hc:byteP (.int .u8 (c.toNat:Int))=some c:=by
   simp only[byteP,Int.toNat_natCast,UInt8.ofNat_toNat]
  have ih:=mapO_byteP s
  unfold byts at ih ⊢
  simp only[List.map_cons,mapO,hc,ih]
theorem btostr (s:List UInt8):unV .tostr (.lst (byts s))=some (.str s):=by
 show (mapO byteP (byts s)).map PV.str=_
 rw[mapO_byteP]
 rfl
theorem btostr_own (r:Nat) (s:List UInt8):unV .tostr (.own r (byts s))=some (.str s):=by
 show (mapO byteP (byts s)).map PV.str=_
 rw[mapO_byteP]
 rfl
def pc:List UInt8->PV
 |[]=>.int .u8 0
 |c::_=>.int .u8 c.toNat
def pok:List UInt8->PV
 |[]=>.bool false
 |_::_=>.bool true
@[simp] theorem pc_cons {c : UInt8} {r : List UInt8} : pc (c :: r) = .int .u8 c.toNat := rfl
@[simp] theorem pok_cons {c : UInt8} {r : List UInt8} : pok (c :: r) = .bool true := rfl
@[simp] theorem pc_nil : pc [] = .int .u8 0 := rfl
@[simp] theorem pok_nil : pok [] = .bool false := rfl
theorem drop_get {b:List UInt8} {n:Nat} {c:UInt8} {r:List UInt8} (h:b.drop n=c::r):b[n]? = some c/\b.drop (n+1)=r/\n+1<=b.length:=by
 have h1:b[n]? = some c:=by
  have:=List.getElem?_drop (xs:=b) (i:=n) (j:=0)
  rw[h] at this
  simpa using this.symm
 have h2:=drop_at h1
 rw[h] at h2
 exact⟨h1,(List.cons.inj h2).2.symm,by have:=(List.getElem?_eq_some_iff.1 h1).1; omega⟩
theorem drop_none {b:List UInt8} {n:Nat} (h:b.drop n=[]):b.length<=n:=List.drop_eq_nil_iff.1 h
theorem more_ok {k n:Nat} {b:List UInt8} {st:St} (h:Sc k b n st):callE efns given f_lex_scanner_more [.ptr k 0] st=some (.tuple [pc (b.drop n),pok (b.drop n)],st):=by
 unfold Sc scC at h
 rw[callE_fn efns given (c:=e_lex_scanner_more) rfl rfl]
 cases hd:b.drop n with
 |nil =>
  have:=drop_none hd
  have c1:((n:Int)>=(b.length:Int))=True:=eq_true (by omega)
  simp only[e_lex_scanner_more,go_sem,h,byts_length,c1,if_true,pc_nil,pok_nil]
 |cons c r =>
  obtain⟨hc,_,hl⟩:=drop_get hd
  have c1:((n:Int)>=(b.length:Int))=False:=eq_false (by omega)
  simp only[e_lex_scanner_more,go_sem,h,byts_length,c1,if_false,bidx hc,pc_cons,pok_cons]
theorem wrap1 {n m:Nat} (h:n<m) (hm:m<=70000):IntKind.i64.wrap ((n:Int)+1)=((n+1:Nat):Int):=by rw[IntWalk.i64_in _ (by omega)]; omega
theorem name_loop {k:Nat} {b:List UInt8} (hb:b.length<=65536) {st:St} (hk:k<st.boxes.length) {y:PV} {K:EX->Fr->St->Option (PV × St)} : ∀ (l:List UInt8) (n:Nat),b.drop n=l->n<=b.length ->
  runL (callE efns given) [true,true,true,true,false,false,false,false,false,false,false] b_lex_scanner_name_0 [.ptr k 0,y,pc l,pok l,.undef,.undef,.undef,.undef,.undef,.undef,.undef] (upd k b n st) K =
   K (.exit 0) [.ptr k 0,y,pc (l.dropWhile partB),pok (l.dropWhile partB),.undef,.undef,.undef,.undef,.undef,.undef,.undef] (upd k b (n+(l.takeWhile partB).length) st):=by
 intro l
 induction l with
 |nil =>
  intro n hd hn
  rw[runL_eq]
  generalize runL _ _ b_lex_scanner_name_0=L
  simp only[b_lex_scanner_name_0,go_sem,pc_nil,pok_nil,List.takeWhile_nil,List.dropWhile_nil,List.length_nil,Nat.add_zero]
 |cons c r ih =>
  intro n hd hn
  obtain⟨hc,hd',hl⟩:=drop_get hd
  cases hp:partB c with
  |false =>
   rw[runL_eq]
   generalize runL _ _ b_lex_scanner_name_0=L
   simp only[b_lex_scanner_name_0,go_sem,pc_cons,pok_cons,part_t,hp,List.takeWhile_cons,List.dropWhile_cons,List.length_nil,Nat.add_zero,Bool.false_eq_true,if_false]
  |true =>
   have hr:=ih (n+1) hd' (by omega)
   have w1:=wrap1 (n:=n) (m:=b.length) (by omega) (by omega)
   have g0:(upd k b n st).boxes[k]? = some [.lst (byts b),.int .i64 (n:Int)]:=upd_sc hk
   have g1:(⟨(upd k b n st).boxes.set k [.lst (byts b),.int .i64 ((n+1:Nat):Int)],(upd k b n st).rows,(upd k b n st).bt,(upd k b n st).rt⟩:St)=upd k b (n+1) st:=upd_upd
   have m1:=more_ok (upd_sc (b:=b) (n:=n+1) hk)
   rw[hd'] at m1
   rw[runL_eq]
   generalize runL _ _ b_lex_scanner_name_0=L at hr ⊢
   have e:n+((c::r).takeWhile partB).length=n+1+(r.takeWhile partB).length:=by
    rw[List.takeWhile_cons,hp]
    simp
    omega
   rw[e,List.dropWhile_cons,if_pos hp]
   simp only[b_lex_scanner_name_0,go_sem,pc_cons,pok_cons,part_t,hp,g0,w1,g1,m1,hr,if_true]
def resS:Res (List UInt8)->PV
 |.ok t=>.tuple [.str t,.int .i64 0]
 |.error e=>.tuple [.str [],.int .i64 e]
theorem take_while {α : Type} (p : α -> Bool) : ∀ l:List α,l.take (l.takeWhile p).length=l.takeWhile p
 |[]=>rfl
 |c::r=>by
  rw[List.takeWhile_cons]
  split
  ·rw[List.length_cons,List.take_succ_cons,take_while p r]
  ·rfl
theorem cut_while (p:UInt8->Bool) (b:List UInt8) (n:Nat):(b.take (n+((b.drop n).takeWhile p).length)).drop n=(b.drop n).takeWhile p:=by
 rw[List.drop_take,Nat.add_sub_cancel_left,take_while]
theorem while_le (p:UInt8->Bool) (b:List UInt8) {n:Nat} (h:n<=b.length):n+((b.drop n).takeWhile p).length<=b.length:=by
 have:=takeWhile_le p (b.drop n)
 rw[List.length_drop] at this
 omega
theorem name_ok {k n:Nat} {b:List UInt8} (hb:b.length<=65536) {st:St} (h:Sc k b n st) (hn:n<=b.length) :
  callE efns given f_lex_scanner_name [.ptr k 0] st=some (resS (nameM (b.drop n)),upd k b (n+((b.drop n).takeWhile partB).length) st):=by
 have hm:=more_ok h
 have h':st.boxes[k]? = some [.lst (byts b),.int .i64 (n:Int)]:=h
 have hle:=while_le partB b hn
 rw[callE_fn efns given (c:=e_lex_scanner_name) rfl rfl]
 simp only[e_lex_scanner_name,go_sem,h',hm]
 generalize hK:blockK 0 _=K
 have hl:=name_loop hb h.lt (y:=.int .i64 (n:Int)) (K:=K) (b.drop n) n rfl hn
 rw[upd_same h] at hl
 refine Eq.trans hl ?_
 rw[<- hK]
 have g0:(upd k b (n+((b.drop n).takeWhile partB).length) st).boxes[k]? = some [.lst (byts b),.int .i64 ((n+((b.drop n).takeWhile partB).length:Nat):Int)]:=upd_sc h.lt
 have sb:=blsub (b:=b) (i:=n) (j:=n+((b.drop n).takeWhile partB).length) (by omega) hle
 rw[cut_while] at sb
 have hw:((b.drop n).takeWhile partB).length<4611686018427387904:=by omega
 simp only[go_sem,g0,sb,btostr,good_t hw]
 unfold nameM
 by_cases h40:(((b.drop n).takeWhile partB).length:Int)>40
 ·have:((b.drop n).takeWhile partB).length>40:=by omega
  rw[if_pos this]
  simp only[h40,if_true]
  rfl
 ·have : ¬ ((b.drop n).takeWhile partB).length>40:=by omega
  rw[if_neg this]
  cases hg:goodM ((b.drop n).takeWhile partB) with
  |true =>
   simp only[h40,if_true,if_false,Bool.not_true,Bool.false_eq_true]
   rfl
  |false =>
   simp only[h40,if_true,if_false,Bool.not_false,Bool.false_eq_true]
   rfl
def no10 (c:UInt8):Bool := !(decide (c=10))
theorem skipM_true : ∀ s:List UInt8,skipM true s=skipM false (s.dropWhile no10)
 |[]=>rfl
 |c::r=>by
  rw[skipM_t,List.dropWhile_cons]
  by_cases h:c=10
  ·subst h
   have:no10 10=false:=rfl
   have hb:blankB 10=true:=rfl
   rw[if_pos rfl,this,if_neg (by decide),skipM_f,if_pos hb]
  ·have:no10 c=true:=by simp[no10,h]
   rw[if_neg h,this,if_pos rfl]
   exact skipM_true r
theorem drop_while {b:List UInt8} {n:Nat} {l:List UInt8} (p:UInt8->Bool) (h:b.drop n=l):b.drop (n+(l.takeWhile p).length)=l.dropWhile p:=by
 rw[<- List.drop_drop,h]
 clear h
 induction l with
 |nil=>rfl
 |cons c r ih =>
  rw[List.takeWhile_cons,List.dropWhile_cons]
  split
  ·rw[List.length_cons,List.drop_succ_cons]; exact ih
  ·rfl
theorem comment_loop {k:Nat} {b:List UInt8} (hb:b.length<=65536) {st:St} (hk:k<st.boxes.length) {K:EX->Fr->St->Option (PV × St)} : ∀ (l:List UInt8) (n:Nat),b.drop n=l->n<=b.length ->
  runL (callE efns given) [true,false,false,true,true,false,false,false,false,false,false,false] b_lex_scanner_skip_0 [.ptr k 0,.undef,.undef,pc l,pok l,.undef,.undef,.undef,.undef,.undef,.undef,.undef] (upd k b n st) K =
   K (.exit 3) [.ptr k 0,.undef,.undef,pc (l.dropWhile no10),pok (l.dropWhile no10),.undef,.undef,.undef,.undef,.undef,.undef,.undef] (upd k b (n+(l.takeWhile no10).length) st):=by
 intro l
 induction l with
 |nil =>
  intro n hd hn
  rw[runL_eq]
  generalize runL _ _ b_lex_scanner_skip_0=L
  simp only[b_lex_scanner_skip_0,go_sem,pc_nil,pok_nil,List.takeWhile_nil,List.dropWhile_nil,List.length_nil,Nat.add_zero]
 |cons c r ih =>
  intro n hd hn
  obtain⟨hc,hd',hl⟩:=drop_get hd
  have e10:((c.toNat:Int)=10)=(c=10):=code_eq (n:=10) (by decide)
  by_cases hp:c=10
  ·subst hp
   rw[runL_eq]
   generalize runL _ _ b_lex_scanner_skip_0=L
   have h10:no10 10=false:=rfl
   have e10':((((10:UInt8).toNat:Nat):Int)=10)=True:=eq_true rfl
   simp only[b_lex_scanner_skip_0,go_sem,pc_cons,pok_cons,e10',h10,List.takeWhile_cons,List.dropWhile_cons,List.length_nil,Nat.add_zero,Bool.false_eq_true,if_false,if_true,ne_eq,not_true_eq_false]
  ·have hr:=ih (n+1) hd' (by omega)
   have h10:no10 c=true:=by simp[no10,hp]
   have w1:=wrap1 (n:=n) (m:=b.length) (by omega) (by omega)
   have g0:(upd k b n st).boxes[k]? = some [.lst (byts b),.int .i64 (n:Int)]:=upd_sc hk
   have g1:(⟨(upd k b n st).boxes.set k [.lst (byts b),.int .i64 ((n+1:Nat):Int)],(upd k b n st).rows,(upd k b n st).bt,(upd k b n st).rt⟩:St)=upd k b (n+1) st:=upd_upd
   have m1:=more_ok (upd_sc (b:=b) (n:=n+1) hk)
   rw[hd'] at m1
   rw[runL_eq]
   generalize runL _ _ b_lex_scanner_skip_0=L at hr ⊢
   have e:n+((c::r).takeWhile no10).length=n+1+(r.takeWhile no10).length:=by
    rw[List.takeWhile_cons,h10]
    simp
    omega
   rw[e,List.dropWhile_cons,if_pos h10]
   simp only[b_lex_scanner_skip_0,go_sem,pc_cons,pok_cons,e10,hp,g0,w1,g1,m1,hr,if_true,ne_eq,not_false_eq_true]
theorem skip_loop {k:Nat} {b:List UInt8} (hb:b.length<=65536) {st:St} (hk:k<st.boxes.length) {K:EX->Fr->St->Option (PV × St)} (hK : ∀ fr st,K (.exit 0) fr st=K (.ret (.tuple [])) [] st) : ∀ (m:Nat) (l:List UInt8) (n:Nat),l.length<=m->b.drop n=l->n<=b.length ->
  runL (callE efns given) [true,true,true,false,false,false,false,false,false,false,false,false] b_lex_scanner_skip_1 [.ptr k 0,pc l,pok l,.undef,.undef,.undef,.undef,.undef,.undef,.undef,.undef,.undef] (upd k b n st) K =
   K (.ret (.tuple [])) [] (upd k b (b.length-(skipM false l).length) st):=by
 intro m
 induction m with
 |zero =>
  intro l n hm hd hn
  cases l with
  |cons=>simp at hm
  |nil =>
   have:=drop_none hd
   have e:n=b.length:=by omega
   rw[runL_eq,e]
   generalize runL _ _ b_lex_scanner_skip_1=L
   simp only[b_lex_scanner_skip_1,go_sem,pc_nil,pok_nil,skipM,List.length_nil,Nat.sub_zero,hK]
 |succ m ih =>
  intro l n hm hd hn
  cases l with
  |nil =>
   have:=drop_none hd
   have e:n=b.length:=by omega
   rw[runL_eq,e]
   generalize runL _ _ b_lex_scanner_skip_1=L
   simp only[b_lex_scanner_skip_1,go_sem,pc_nil,pok_nil,skipM,List.length_nil,Nat.sub_zero,hK]
  |cons c r =>
   obtain⟨hc,hd',hl⟩:=drop_get hd
   have e59:((c.toNat:Int)=59)=(c=59):=code_eq (n:=59) (by decide)
   have e32:((c.toNat:Int)=32)=(c=32):=code_eq (n:=32) (by decide)
   have e9:((c.toNat:Int)=9)=(c=9):=code_eq (n:=9) (by decide)
   have e10:((c.toNat:Int)=10)=(c=10):=code_eq (n:=10) (by decide)
   have e13:((c.toNat:Int)=13)=(c=13):=code_eq (n:=13) (by decide)
   have g0:(upd k b n st).boxes[k]? = some [.lst (byts b),.int .i64 (n:Int)]:=upd_sc hk
   by_cases h59:c=59
   ·subst h59
    have h1:no10 59=true:=by decide
    have hdw:(59::r).dropWhile no10=r.dropWhile no10:=by rw[List.dropWhile_cons,if_pos h1]
    have hd2:=drop_while no10 hd
    have hle:=while_le no10 b hn
    rw[hd] at hle
    have hlen:(r.dropWhile no10).length<=m:=by
     have:=(List.dropWhile_sublist no10 (l:=r)).length_le
     simp only[List.length_cons] at hm
     omega
    rw[hdw] at hd2
    have hr:=ih (r.dropWhile no10) _ hlen hd2 hle
    have m0:=more_ok (upd_sc (b:=b) (n:=n) hk)
    rw[hd] at m0
    have m1:=more_ok (upd_sc (b:=b) (n:=n+((59::r).takeWhile no10).length) hk)
    rw[hd2] at m1
    have e59':((((59:UInt8).toNat:Nat):Int)=59)=True:=eq_true rfl
    have hsk:skipM false (59::r)=skipM false (r.dropWhile no10):=by
     rw[<- skipM_true]
     rfl
    rw[runL_eq,hsk]
    generalize runL _ _ b_lex_scanner_skip_1=L at hr ⊢
    simp only[pc_cons,pok_cons] at m0
    simp only[b_lex_scanner_skip_1,go_sem,pc_cons,pok_cons,e59',m0,if_true]
    generalize hK2:blockK 3 _=K2
    have hc2:=comment_loop hb hk (K:=K2) _ n hd hn
    refine Eq.trans hc2 ?_
    rw[<- hK2]
    simp only[go_sem,m1,hr]
   ·by_cases hbl:blankB c=true
    ·have hr:=ih r (n+1) (by simp only[List.length_cons] at hm; omega) hd' (by omega)
     have w1:=wrap1 (n:=n) (m:=b.length) (by omega) (by omega)
     have g1:(⟨(upd k b n st).boxes.set k [.lst (byts b),.int .i64 ((n+1:Nat):Int)],(upd k b n st).rows,(upd k b n st).bt,(upd k b n st).rt⟩:St)=upd k b (n+1) st:=upd_upd
     have m1:=more_ok (upd_sc (b:=b) (n:=n+1) hk)
     rw[hd'] at m1
     rw[runL_eq,skipM_f,if_pos hbl]
     generalize runL _ _ b_lex_scanner_skip_1=L at hr ⊢
     have hb4:c=32\/c=9\/c=10\/c=13:=by simpa [blankB,or_assoc] using hbl
     rcases hb4 with rfl|rfl|rfl|rfl
     ·simp only[b_lex_scanner_skip_1,go_sem,pc_cons,pok_cons,e59,e32,e9,e10,e13,h59,g0,w1,g1,m1,hr,if_true,if_false,decide_true,decide_false]
     ·have q1:((9:UInt8)=32)=False:=eq_false (by decide)
      simp only[b_lex_scanner_skip_1,go_sem,pc_cons,pok_cons,e59,e32,e9,e10,e13,h59,q1,g0,w1,g1,m1,hr,if_true,if_false,decide_true,decide_false]
     ·have q1:((10:UInt8)=32)=False:=eq_false (by decide)
      have q2:((10:UInt8)=9)=False:=eq_false (by decide)
      simp only[b_lex_scanner_skip_1,go_sem,pc_cons,pok_cons,e59,e32,e9,e10,e13,h59,q1,q2,g0,w1,g1,m1,hr,if_true,if_false,decide_true,decide_false]
     ·have q1:((13:UInt8)=32)=False:=eq_false (by decide)
      have q2:((13:UInt8)=9)=False:=eq_false (by decide)
      have q3:((13:UInt8)=10)=False:=eq_false (by decide)
      simp only[b_lex_scanner_skip_1,go_sem,pc_cons,pok_cons,e59,e32,e9,e10,e13,h59,q1,q2,q3,g0,w1,g1,m1,hr,if_true,if_false,decide_true,decide_false]
    ·have hn4 : ¬ c=32 /\ ¬ c=9 /\ ¬ c=10 /\ ¬ c=13:=by simpa [blankB,or_assoc] using hbl
     obtain⟨h32,h9,h10,h13⟩:=hn4
     have e:b.length-(c::r).length=n:=by
      have:=congrArg List.length hd
      rw[List.length_drop] at this
      omega
     rw[runL_eq,skipM_f,if_neg hbl,if_neg h59,e]
     generalize runL _ _ b_lex_scanner_skip_1=L
     simp only[b_lex_scanner_skip_1,go_sem,pc_cons,pok_cons,e59,e32,e9,e10,e13,h59,h32,h9,h10,h13,if_false,decide_false,Bool.false_eq_true]
theorem skip_ok {k n:Nat} {b:List UInt8} (hb:b.length<=65536) {st:St} (h:Sc k b n st) (hn:n<=b.length) :
  callE efns given f_lex_scanner_skip [.ptr k 0] st=some (.tuple [],upd k b (b.length-(skipM false (b.drop n)).length) st):=by
 have hm:=more_ok h
 have h':st.boxes[k]? = some [.lst (byts b),.int .i64 (n:Int)]:=h
 rw[callE_fn efns given (c:=e_lex_scanner_skip) rfl rfl]
 simp only[e_lex_scanner_skip,go_sem,hm]
 generalize hK:blockK 0 _=K
 have hl:=skip_loop hb h.lt (K:=K) (by intro fr st; rw[<- hK]; simp only[go_sem]) _ (b.drop n) n (Nat.le_refl _) rfl hn
 rw[upd_same h] at hl
 refine Eq.trans hl ?_
 rw[<- hK]
 simp only[go_sem]
end Go.Proofs.YtnlknpeelpnbaaaGreatDoorPe.Read
set_option linter.unusedVariables false
set_option linter.unusedSimpArgs false
set_option maxRecDepth 1000000
namespace Go.Proofs.YtnlknpeelpnbaaaGreatDoorPe.Read
open Go Go.Proofs.YtnlknpeelpnbaaaGreatDoorPe Go.Proofs.YtnlknpeelpnbaaaGreatDoorPe.ReadCode
def zt:List PV:=[.int .i64 0,.int .i64 0,.int .i64 0,.str []]
structure Ext (k:Nat) (b:List UInt8) (m:Nat) (st st':St):Prop where
 lt:k<st.boxes.length
 sc:Sc k b m st'
 bx : ∀ i,i<st.boxes.length->i≠k->st'.boxes[i]? = st.boxes[i]?
 bl:st.boxes.length<=st'.boxes.length
 rw : ∀ i,i<st.rows.length->st'.rows[i]? = st.rows[i]?
 rt : ∀ i,i<st.rt.length->st'.rt[i]? = st.rt[i]?
 rl:st.rows.length<=st'.rows.length
 rn:RtN st'
theorem Ext.refl {k n:Nat} {b:List UInt8} {st:St} (h:Sc k b n st) (hr:RtN st):Ext k b n st st:=⟨h.lt,h,fun _ _ _=>rfl,Nat.le_refl _,fun _ _=>rfl,fun _ _=>rfl,Nat.le_refl _,hr⟩
theorem Ext.new {k n:Nat} {b:List UInt8} {st s:St} (e:Ext k b n st s) (x:List PV) (T:TypeId):Ext k b n st ⟨s.boxes++[x],s.rows,s.bt++[T],s.rt⟩ :=
 ⟨e.lt,by unfold Sc; rw[List.getElem?_append_left e.sc.lt]; exact e.sc,fun i hi hne=>by rw[List.getElem?_append_left (Nat.lt_of_lt_of_le hi e.bl)]; exact e.bx i hi hne,by have:=e.bl; simp; omega,e.rw,e.rt,e.rl,e.rn⟩
theorem Ext.upd {k n:Nat} {b:List UInt8} {st s:St} (e:Ext k b n st s) (m:Nat):Ext k b m st (upd k b m s) :=
 ⟨e.lt,upd_sc e.sc.lt,fun i hi hne=>by unfold Read.upd; rw[List.getElem?_set_ne (Ne.symm hne)]; exact e.bx i hi hne,by have:=e.bl; simp[Read.upd]; omega,e.rw,e.rt,e.rl,e.rn⟩
theorem Ext.zset {k n z:Nat} {b:List UInt8} {st s:St} (e:Ext k b n st s) (hz:st.boxes.length<=z) (w:List PV):Ext k b n st ⟨s.boxes.set z w,s.rows,s.bt,s.rt⟩:=by
 have hk:=e.lt
 exact⟨e.lt,by unfold Sc; rw[List.getElem?_set_ne (by omega)]; exact e.sc,fun i hi hne=>by rw[List.getElem?_set_ne (by omega)]; exact e.bx i hi hne,by have:=e.bl; simp; omega,e.rw,e.rt,e.rl,e.rn⟩
theorem Ext.trans {k n m:Nat} {b:List UInt8} {st s t:St} (e:Ext k b n st s) (f:Ext k b m s t):Ext k b m st t :=
 ⟨e.lt,f.sc,fun i hi hne=>(f.bx i (Nat.lt_of_lt_of_le hi e.bl) hne).trans (e.bx i hi hne),Nat.le_trans e.bl f.bl,
  fun i hi=>by
   have h1:=e.rw i hi
   have:i<s.rows.length:=by
    rcases Nat.lt_or_ge i s.rows.length with h|h
    ·exact h
    ·rw[List.getElem?_eq_none h,List.getElem?_eq_getElem hi] at h1; cases h1
   exact (f.rw i this).trans h1,
  fun i hi=>by
   have h1:=e.rt i hi
   have:i<s.rt.length:=by
    rcases Nat.lt_or_ge i s.rt.length with h|h
    ·exact h
    ·rw[List.getElem?_eq_none h,List.getElem?_eq_getElem hi] at h1; cases h1
   exact (f.rt i this).trans h1,Nat.le_trans e.rl f.rl,f.rn⟩
@[go_sem] theorem fill0 {zs : List PV} : fillP zs (zip3 [] []) = some zs := by cases zs <;> rfl
@[go_sem] theorem fill03 {a b c d : PV} {k : IntKind} {n : Int} {t : List UInt8} : fillP [a, b, c, d] (zip3 [(0, 1), (3, 1)] [.int k n, .str t]) = some [.int k n, b, c, .str t] := rfl
@[go_sem] theorem fill02 {a b c d : PV} {k k' : IntKind} {n n' : Int} : fillP [a, b, c, d] (zip3 [(0, 1), (2, 1)] [.int k n, .int k' n']) = some [.int k n, b, .int k' n', d] := rfl
@[go_sem] theorem fill00 {a b c d : PV} {k : IntKind} {n : Int} : fillP [a, b, c, d] (zip3 [(0, 1)] [.int k n]) = some [.int k n, b, c, d] := rfl
@[go_sem] theorem fill11 {a b c d : PV} {k : IntKind} {n : Int} : fillP [a, b, c, d] (zip3 [(1, 1)] [.int k n]) = some [a, .int k n, c, d] := rfl
def tkC (t:Tk):List PV:=[.int .i64 t.k,.int .i64 0,.int .i64 t.i,.str t.s]
def resT:Res (Tk × Nat)->PV
 |.ok t=>.tuple [.agg (tkC t.1),.int .i64 0]
 |.error e=>.tuple [.agg zt,.int .i64 e]
theorem nameM_err {s:List UInt8} {e:Int} (h:nameM s = .error e):(e=4\/e=2):=by
 unfold nameM at h
 split at h
 ·cases h; exact .inl rfl
 ·split at h
  ·cases h
  ·cases h; exact .inr rfl
theorem variable_ok {k n:Nat} {b:List UInt8} (hb:b.length<=65536) {st:St} (h:Sc k b n st) (hr:RtN st) (hn:n<=b.length) :
  ∃ st' m,callE efns given f_lex_scanner_variable [.ptr k 0] st=some (resT (varM (b.drop n)),st')/\Ext k b m st st' /\ ∀ t j,varM (b.drop n) = .ok (t,j)->m+1=n+j:=by
 have E1:=(Ext.refl h hr).new zt T_lex_scanner_variable_0
 generalize hs1:(⟨st.boxes++[zt],st.rows,st.bt++[T_lex_scanner_variable_0],st.rt⟩:St)=s1 at E1
 have hz1:s1.boxes[st.boxes.length]? = some zt:=by rw[<- hs1]; simp
 have hkz:k≠st.boxes.length:=Nat.ne_of_lt h.lt
 have m1:=more_ok E1.sc
 have g1:s1.boxes[k]? = some [.lst (byts b),.int .i64 (n:Int)]:=E1.sc
 have upz : ∀ m,(upd k b m s1).boxes[st.boxes.length]? = some zt:=fun m=>by unfold upd; rw[List.getElem?_set_ne hkz]; exact hz1
 have zlt : ∀ m,st.boxes.length<(upd k b m s1).boxes.length:=fun m=>(List.getElem?_eq_some_iff.1 (upz m)).1
 have gz : ∀ m w,((upd k b m s1).boxes.set st.boxes.length w)[st.boxes.length]? = some w:=fun m w=>List.getElem?_set_self (zlt m)
 have fin : ∀ m w,Ext k b m st ⟨(upd k b m s1).boxes.set st.boxes.length w,(upd k b m s1).rows,(upd k b m s1).bt,(upd k b m s1).rt⟩:=fun m w=>(E1.upd m).zset (Nat.le_refl _) w
 unfold zt at upz
 by_cases hs:isStar (b.drop n)=true
 ·obtain⟨r,hd⟩:=isStar_iff.1 hs
  obtain⟨hc,hd',hl⟩:=drop_get hd
  have w1:=wrap1 (n:=n) (m:=b.length) (by omega) (by omega)
  have u1:(⟨s1.boxes.set k [.lst (byts b),.int .i64 ((n+1:Nat):Int)],s1.rows,s1.bt,s1.rt⟩:St)=upd k b (n+1) s1:=rfl
  have nm:=name_ok hb (upd_sc (b:=b) (n:=n+1) E1.sc.lt) hl
  rw[upd_upd,hd'] at nm
  have e42:((((42:UInt8).toNat:Nat):Int)=42)=True:=eq_true rfl
  unfold varM
  rw[if_pos hs,hd,List.drop_succ_cons,List.drop_zero]
  rw[hd] at m1
  simp only[pc_cons,pok_cons] at m1
  cases hnm:nameM r with
  |error e =>
   rw[hnm] at nm
   have he:(e=0)=False:=by rcases nameM_err hnm with rfl|rfl <;> exact eq_false (by decide)
   refine⟨_,n+1+(r.takeWhile partB).length,?_,fin _ zt,by intro t j hh; cases hh⟩
   rw[callE_fn efns given (c:=e_lex_scanner_variable) rfl rfl]
   unfold zt at hs1
   unfold resS at nm
   simp only[e_lex_scanner_variable,go_sem,hs1,m1,e42,g1,w1,u1,nm,he,upz,gz,if_true,if_false,ne_eq,not_false_eq_true]
   rfl
  |ok t =>
   rw[hnm] at nm
   obtain⟨ht,_,_,_⟩:=nameM_le hnm
   have hle:=while_le partB b hl
   rw[hd',<- ht] at hle
   rw[<- ht] at nm
   have hd2:b.drop (n+1+t.length)=r.drop t.length:=by rw[<- List.drop_drop,hd']
   have m2:=more_ok (upd_sc (b:=b) (n:=n+1+t.length) E1.sc.lt)
   rw[hd2] at m2
   unfold zt at hs1
   unfold resS at nm
   by_cases h42:isStar (r.drop t.length)=true
   ·obtain⟨r2,h2⟩:=isStar_iff.1 h42
    rw[h2] at m2
    simp only[pc_cons,pok_cons] at m2
    have hl2:=(drop_get (hd2.trans h2)).2.2
    have w2:=wrap1 (n:=n+1+t.length) (m:=b.length) (by omega) (by omega)
    have g2:(upd k b (n+1+t.length) s1).boxes[k]? = some [.lst (byts b),.int .i64 ((n+1+t.length:Nat):Int)]:=upd_sc E1.sc.lt
    have u2:(⟨(upd k b (n+1+t.length) s1).boxes.set k [.lst (byts b),.int .i64 ((n+1+t.length+1:Nat):Int)],(upd k b (n+1+t.length) s1).rows,(upd k b (n+1+t.length) s1).bt,(upd k b (n+1+t.length) s1).rt⟩:St)=upd k b (n+1+t.length+1) s1:=upd_upd
    refine⟨_,n+1+t.length+1,?_,fin _ (tkC ⟨7,0,t⟩),?_⟩
    ·rw[callE_fn efns given (c:=e_lex_scanner_variable) rfl rfl]
     simp only[e_lex_scanner_variable,go_sem,hs1,m1,e42,g1,w1,u1,nm,upz,gz,m2,g2,w2,u2,h42,if_true,if_false,ne_eq,not_false_eq_true]
     rfl
    ·intro t' j hh
     simp only[h42,if_true] at hh
     cases hh
     omega
   ·have hv:(if isStar (r.drop t.length)=true then (Except.ok (⟨7,0,t⟩,t.length+3):Res (Tk × Nat)) else Except.error 2)=Except.error 2:=if_neg h42
    simp only[hv]
    refine⟨_,n+1+t.length,?_,fin _ zt,by intro t' j hh; cases hh⟩
    ·rw[callE_fn efns given (c:=e_lex_scanner_variable) rfl rfl]
     cases h2:r.drop t.length with
     |nil =>
      rw[h2] at m2
      simp only[pc_nil,pok_nil] at m2
      simp only[e_lex_scanner_variable,go_sem,hs1,m1,e42,g1,w1,u1,nm,upz,gz,m2,if_true,if_false,ne_eq,not_false_eq_true,Bool.false_eq_true]
      rfl
     |cons c r2 =>
      rw[h2] at m2 h42
      simp only[pc_cons,pok_cons] at m2
      have hc42:(((c.toNat:Nat):Int)=42)=False:=by
       rw[show ((c.toNat:Int)=42)=(c=42) from code_eq (n:=42) (by decide)]
       exact eq_false (by simpa [isStar] using h42)
      simp only[e_lex_scanner_variable,go_sem,hs1,m1,e42,g1,w1,u1,nm,upz,gz,m2,hc42,if_true,if_false,ne_eq,not_false_eq_true,Bool.false_eq_true]
      rfl
 ·have nm:=name_ok hb E1.sc hn
  unfold varM
  rw[if_neg hs]
  unfold zt at hs1
  cases hnm:nameM (b.drop n) with
  |error e =>
   rw[hnm] at nm
   unfold resS at nm
   have he:(e=0)=False:=by rcases nameM_err hnm with rfl|rfl <;> exact eq_false (by decide)
   refine⟨_,n+((b.drop n).takeWhile partB).length,?_,fin _ zt,by intro t j hh; cases hh⟩
   rw[callE_fn efns given (c:=e_lex_scanner_variable) rfl rfl]
   cases hd:b.drop n with
   |nil =>
    rw[hd] at m1 nm
    simp only[pc_nil,pok_nil] at m1
    simp only[e_lex_scanner_variable,go_sem,hs1,m1,g1,nm,he,upz,gz,if_true,if_false,ne_eq,not_false_eq_true,Bool.false_eq_true]
    rfl
   |cons c r =>
    rw[hd] at m1 hs nm
    simp only[pc_cons,pok_cons] at m1
    have hc42:(((c.toNat:Nat):Int)=42)=False:=by
     rw[show ((c.toNat:Int)=42)=(c=42) from code_eq (n:=42) (by decide)]
     exact eq_false (by simpa [isStar] using hs)
    simp only[e_lex_scanner_variable,go_sem,hs1,m1,g1,nm,he,upz,gz,hc42,if_true,if_false,ne_eq,not_false_eq_true,Bool.false_eq_true]
    rfl
  |ok t =>
   rw[hnm] at nm
   unfold resS at nm
   obtain⟨ht,_,_,_⟩:=nameM_le hnm
   rw[<- ht] at nm
   refine⟨_,n+t.length,?_,fin _ (tkC ⟨6,0,t⟩),?_⟩
   ·rw[callE_fn efns given (c:=e_lex_scanner_variable) rfl rfl]
    cases hd:b.drop n with
    |nil =>
     rw[hd] at m1
     simp only[pc_nil,pok_nil] at m1
     simp only[e_lex_scanner_variable,go_sem,hs1,m1,g1,nm,upz,gz,if_true,if_false,ne_eq,not_false_eq_true,Bool.false_eq_true]
     rfl
    |cons c r =>
     rw[hd] at m1 hs
     simp only[pc_cons,pok_cons] at m1
     have hc42:(((c.toNat:Nat):Int)=42)=False:=by
      rw[show ((c.toNat:Int)=42)=(c=42) from code_eq (n:=42) (by decide)]
      exact eq_false (by simpa [isStar] using hs)
     simp only[e_lex_scanner_variable,go_sem,hs1,m1,g1,nm,upz,gz,hc42,if_true,if_false,ne_eq,not_false_eq_true,Bool.false_eq_true]
     rfl
   ·intro t' j hh
    cases hh
    omega
theorem parse_t {s:List UInt8} (hs:s.length<4611686018427387904):tupV (callE efns given) (.call 0 f_num_Parse) [.str s]=some (.tuple [.int .i64 (parseM s).1,.int .i64 (parseM s).2]):=callV_of rfl (parse_ok given hs ⟨[],[],[],[]⟩) rfl
theorem word_loop {k:Nat} {b:List UInt8} (hb:b.length<=65536) {st:St} (hk:k<st.boxes.length) {x y:PV} {K:EX->Fr->St->Option (PV × St)} : ∀ (l:List UInt8) (n:Nat),b.drop n=l->n<=b.length ->
  runL (callE efns given) [true,true,true,true,true,false,false,false,false,false,false,false,false,false,false] b_lex_scanner_word_0 [.ptr k 0,x,y,pc l,pok l,.undef,.undef,.undef,.undef,.undef,.undef,.undef,.undef,.undef,.undef] (upd k b n st) K =
   K (.exit 0) [.ptr k 0,x,y,pc (l.dropWhile signB),pok (l.dropWhile signB),.undef,.undef,.undef,.undef,.undef,.undef,.undef,.undef,.undef,.undef] (upd k b (n+(l.takeWhile signB).length) st):=by
 intro l
 induction l with
 |nil =>
  intro n hd hn
  rw[runL_eq]
  generalize runL _ _ b_lex_scanner_word_0=L
  simp only[b_lex_scanner_word_0,go_sem,pc_nil,pok_nil,List.takeWhile_nil,List.dropWhile_nil,List.length_nil,Nat.add_zero]
 |cons c r ih =>
  intro n hd hn
  obtain⟨hc,hd',hl⟩:=drop_get hd
  cases hp:signB c with
  |false =>
   rw[runL_eq]
   generalize runL _ _ b_lex_scanner_word_0=L
   simp only[b_lex_scanner_word_0,go_sem,pc_cons,pok_cons,sign_t,hp,List.takeWhile_cons,List.dropWhile_cons,List.length_nil,Nat.add_zero,Bool.false_eq_true,if_false]
  |true =>
   have hr:=ih (n+1) hd' (by omega)
   have w1:=wrap1 (n:=n) (m:=b.length) (by omega) (by omega)
   have g0:(upd k b n st).boxes[k]? = some [.lst (byts b),.int .i64 (n:Int)]:=upd_sc hk
   have g1:(⟨(upd k b n st).boxes.set k [.lst (byts b),.int .i64 ((n+1:Nat):Int)],(upd k b n st).rows,(upd k b n st).bt,(upd k b n st).rt⟩:St)=upd k b (n+1) st:=upd_upd
   have m1:=more_ok (upd_sc (b:=b) (n:=n+1) hk)
   rw[hd'] at m1
   rw[runL_eq]
   generalize runL _ _ b_lex_scanner_word_0=L at hr ⊢
   have e:n+((c::r).takeWhile signB).length=n+1+(r.takeWhile signB).length:=by
    rw[List.takeWhile_cons,hp]
    simp
    omega
   rw[e,List.dropWhile_cons,if_pos hp]
   simp only[b_lex_scanner_word_0,go_sem,pc_cons,pok_cons,sign_t,hp,g0,w1,g1,m1,hr,if_true]
theorem word_ok {k n:Nat} {b:List UInt8} (hb:b.length<=65536) {st:St} (h:Sc k b n st) (hr:RtN st) (hn:n<=b.length) :
  ∃ st' m,callE efns given f_lex_scanner_word [.ptr k 0] st=some (resT (wordM (b.drop n)),st')/\Ext k b m st st' /\ ∀ t j,wordM (b.drop n) = .ok (t,j)->m=n+j:=by
 have E1:=(Ext.refl h hr).new zt T_lex_scanner_word_0
 generalize hs1:(⟨st.boxes++[zt],st.rows,st.bt++[T_lex_scanner_word_0],st.rt⟩:St)=s1 at E1
 have hz1:s1.boxes[st.boxes.length]? = some zt:=by rw[<- hs1]; simp
 have hkz:k≠st.boxes.length:=Nat.ne_of_lt h.lt
 have m1:=more_ok E1.sc
 have g1:s1.boxes[k]? = some [.lst (byts b),.int .i64 (n:Int)]:=E1.sc
 have upz : ∀ m,(upd k b m s1).boxes[st.boxes.length]? = some zt:=fun m=>by unfold upd; rw[List.getElem?_set_ne hkz]; exact hz1
 have zlt : ∀ m,st.boxes.length<(upd k b m s1).boxes.length:=fun m=>(List.getElem?_eq_some_iff.1 (upz m)).1
 have gz : ∀ m w,((upd k b m s1).boxes.set st.boxes.length w)[st.boxes.length]? = some w:=fun m w=>List.getElem?_set_self (zlt m)
 have fin : ∀ m w,Ext k b m st ⟨(upd k b m s1).boxes.set st.boxes.length w,(upd k b m s1).rows,(upd k b m s1).bt,(upd k b m s1).rt⟩:=fun m w=>(E1.upd m).zset (Nat.le_refl _) w
 unfold zt at upz
 have hle:=while_le signB b hn
 have sb:=blsub (b:=b) (i:=n) (j:=n+((b.drop n).takeWhile signB).length) (by omega) hle
 rw[cut_while] at sb
 have hw:((b.drop n).takeWhile signB).length<4611686018427387904:=by omega
 have pt:=parse_t hw
 have ge : ∀ m,(upd k b m s1).boxes[k]? = some [.lst (byts b),.int .i64 (m:Int)]:=fun m=>upd_sc E1.sc.lt
 have main : ∃ st',callE efns given f_lex_scanner_word [.ptr k 0] st=some (resT (wordM (b.drop n)),st')/\Ext k b (n+((b.drop n).takeWhile signB).length) st st':=by
  rw[callE_fn efns given (c:=e_lex_scanner_word) rfl rfl]
  unfold zt at hs1
  simp only[e_lex_scanner_word,go_sem,hs1,m1,g1]
  generalize hK:blockK 0 _=K
  have hl:=word_loop hb E1.sc.lt (x:=.ptr st.boxes.length 0) (y:=.int .i64 (n:Int)) (K:=K) (b.drop n) n rfl hn
  rw[upd_same E1.sc] at hl
  unfold wordM
  by_cases h0:(b.drop n).takeWhile signB=[]
  ·rw[if_pos h0]
   refine⟨_,Eq.trans hl ?_,fin _ zt⟩
   rw[<- hK]
   have h0':((b.drop n).takeWhile signB=[])=True:=eq_true h0
   simp only[go_sem,ge,upz,gz,sb,btostr,pt,h0',if_true]
   rfl
  ·rw[if_neg h0]
   by_cases hp0:(parseM ((b.drop n).takeWhile signB)).2=0
   ·rw[if_pos hp0]
    refine⟨_,Eq.trans hl ?_,fin _ (tkC ⟨1,(parseM ((b.drop n).takeWhile signB)).1,[]⟩)⟩
    rw[<- hK]
    simp only[go_sem,ge,upz,gz,sb,btostr,pt,h0,hp0,if_true,if_false]
    rfl
   ·rw[if_neg hp0]
    by_cases hp2:(parseM ((b.drop n).takeWhile signB)).2=2
    ·rw[if_neg (by simp[hp2])]
     by_cases h40:((b.drop n).takeWhile signB).length>40
     ·have h40':(((b.drop n).takeWhile signB).length:Int)>40:=by omega
      rw[if_pos h40]
      refine⟨_,Eq.trans hl ?_,fin _ zt⟩
      rw[<- hK]
      have n20:((2:Int)=0)=False:=by simp
      simp only[go_sem,ge,upz,gz,sb,btostr,pt,h0,hp2,n20,h40',if_true,if_false,ne_eq,not_true_eq_false]
      rfl
     ·have h40' : ¬ (((b.drop n).takeWhile signB).length:Int)>40:=by omega
      rw[if_neg h40]
      refine⟨_,Eq.trans hl ?_,fin _ (tkC ⟨2,0,(b.drop n).takeWhile signB⟩)⟩
      rw[<- hK]
      have n20:((2:Int)=0)=False:=by simp
      simp only[go_sem,ge,upz,gz,sb,btostr,pt,h0,hp2,n20,h40',if_true,if_false,ne_eq,not_true_eq_false]
      rfl
    ·rw[if_pos hp2]
     refine⟨_,Eq.trans hl ?_,fin _ zt⟩
     rw[<- hK]
     simp only[go_sem,ge,upz,gz,sb,btostr,pt,h0,hp0,hp2,if_true,if_false,ne_eq,not_false_eq_true]
     rfl
 obtain⟨st',h1,h2⟩:=main
 refine⟨st',_,h1,h2,?_⟩
 intro t j hh
 unfold wordM at hh
 split at hh
 ·cases hh
 split at hh
 ·cases hh; rfl
 split at hh
 ·cases hh
 split at hh
 ·cases hh
 ·cases hh; rfl
end Go.Proofs.YtnlknpeelpnbaaaGreatDoorPe.Read
set_option linter.unusedVariables false
set_option linter.unusedSimpArgs false
set_option maxRecDepth 1000000
namespace Go.Proofs.YtnlknpeelpnbaaaGreatDoorPe.Read
open Go Go.Proofs.YtnlknpeelpnbaaaGreatDoorPe Go.Proofs.YtnlknpeelpnbaaaGreatDoorPe.ReadCode
def strT:Res (List UInt8 × Nat)->Res (Tk × Nat)
 |.error e=>.error e
 |.ok t=>.ok (⟨3,0,t.1⟩,t.2)
def OutI (N:Nat) (acc:List UInt8) (out:PV) (s:St):Prop :=
 acc=[]/\out = .nils \/ ∃ r,N<=r/\acc≠[]/\out = .own r (byts acc)/\s.rows[r]? = some (acc.length,1)/\s.rt[r]? = some T_byte
theorem OutI.len {N:Nat} {acc:List UInt8} {out:PV} {s:St} (h:OutI N acc out s):unV .len out=some (.int .i64 (acc.length:Int)):=by
 rcases h with ⟨rfl,rfl⟩|⟨r,_,_,rfl,_⟩
 ·rfl
 ·show some (PV.int .i64 ((byts acc).length:Int))=_
  rw[byts_length]
theorem OutI.str {N:Nat} {acc:List UInt8} {out:PV} {s:St} (h:OutI N acc out s):unV .tostr out=some (.str acc):=by
 rcases h with ⟨rfl,rfl⟩|⟨r,_,_,rfl,_⟩
 ·rfl
 ·exact btostr_own r acc
theorem OutI.upd {N k m:Nat} {b acc:List UInt8} {out:PV} {s:St} (h:OutI N acc out s):OutI N acc out (upd k b m s):=h
theorem out_append {N k n z:Nat} {b acc:List UInt8} {out:PV} {st s:St} (c:UInt8) (h:OutI N acc out s) (hN:N=st.rows.length) (hst:RtN st) (e:Ext k b n st s) (hl:acc.length<=65536) (hz:s.boxes[z]? = some zt) :
  ∃ out' s',evAppend 1 1 T_byte out.nm [.int .u8 c.toNat] s=some (out',s')/\OutI N (acc++[c]) out' s'/\Ext k b n st s'/\s'.boxes[z]? = some zt:=by
 have hrn:=e.rn
 have hs:szAll 1 [PV.int .u8 (c.toNat:Int)]=true:=by simp[szAll,PV.cells]
 rcases h with ⟨rfl,rfl⟩|⟨r,hNr,hne,rfl,h1,h2⟩
 ·refine⟨.own s.rows.length ([]++[.int .u8 c.toNat]),⟨s.boxes,s.rows++[(0+1,1)],s.bt,s.rt++[T_byte]⟩,?_,.inr ⟨s.rows.length,by rw[hN]; exact e.rl,by simp,rfl,by simp,?_⟩,?_,hz⟩
  ·rw[n_nils,A_full,hs,if_pos rfl,if_pos ⟨by simp,rfl⟩]
   rfl
  ·unfold RtN at hrn; rw[<- hrn]; simp
  ·have hrl:=e.rl
   unfold RtN at hrn hst
   exact⟨e.lt,e.sc,e.bx,e.bl,fun i hi=>by rw[List.getElem?_append_left (by omega)]; exact e.rw i hi,fun i hi=>by rw[List.getElem?_append_left (by omega)]; exact e.rt i hi,by simp; omega,by unfold RtN; simp[hrn]⟩
 ·have hlt:r<s.rows.length:=(List.getElem?_eq_some_iff.1 h1).1
  refine⟨.own r (byts acc++[.int .u8 c.toNat]),⟨s.boxes,s.rows.set r ((byts acc).length+1,1),s.bt,s.rt⟩,?_,.inr ⟨r,hNr,by simp,?_,?_,h2⟩,?_,hz⟩
  ·rw[n_own,A_own,hs,if_pos rfl,if_pos ⟨by rw[byts_length]; simp; omega,by rw[byts_length]; exact h1,h2⟩]
   rfl
  ·rw[byts_append]; rfl
  ·rw[List.getElem?_set_self hlt,byts_length]
   simp
  ·unfold RtN at hrn
   exact⟨e.lt,e.sc,e.bx,e.bl,fun i hi=>by rw[List.getElem?_set_ne (by omega)]; exact e.rw i hi,e.rt,by simp; exact e.rl,by unfold RtN; simp[hrn]⟩
theorem strM_cons {c:UInt8} {r acc:List UInt8} {i:Nat} (h1:c≠34) (h2:c≠92):strM (c::r) acc i=strM r (acc++[c]) (i+1):=by
 cases r with
 |nil=>conv=>lhs; rw[strM,if_neg h1,if_neg h2]
 |cons d r=>conv=>lhs; rw[strM,if_neg h1,if_neg h2]
theorem strM_esc {c:UInt8} {r acc:List UInt8} {i:Nat}:strM (92::c::r) acc i=strM r (acc++[c]) (i+2):=by
 rw[strM,if_neg (by decide),if_pos rfl]
theorem strM_esc0 {acc:List UInt8} {i:Nat}:strM [92] acc i = .error 3:=by
 rw[strM,if_neg (by decide),if_pos rfl]
theorem strM_end {r acc:List UInt8} {i:Nat}:strM (34::r) acc i=if acc.length>1000 then .error 4 else .ok (acc,i+1):=by
 cases r with
 |nil=>rw[strM,if_pos rfl]
 |cons d r=>rw[strM,if_pos rfl]
theorem text_loop {k z:Nat} {b:List UInt8} (hb:b.length<=65536) {st:St} (hst:RtN st) (hz0:st.boxes.length<=z) {K:EX->Fr->St->Option (PV × St)}
  (hK : ∀ out c ok s,s.boxes[z]? = some zt->K (.exit 0) [.ptr k 0,.ptr z 0,out,c,ok,.undef,.undef,.undef,.undef,.undef,.undef] s=K (.ret (.tuple [.agg zt,.int .i64 3])) [] ⟨s.boxes.set z zt,s.rows,s.bt,s.rt⟩) :
  ∀ (m:Nat) (l:List UInt8) (n:Nat) (acc:List UInt8) (i:Nat) (out:PV) (s:St),l.length<=m->b.drop n=l->n<=b.length->acc.length<=n->Ext k b n st s->s.boxes[z]? = some zt->OutI st.rows.length acc out s ->
  ∃ s' j,runL (callE efns given) [true,true,true,true,true,false,false,false,false,false,false] b_lex_scanner_text_0 [.ptr k 0,.ptr z 0,out,pc l,pok l,.undef,.undef,.undef,.undef,.undef,.undef] s K =
   K (.ret (resT (strT (strM l acc i)))) [] s'/\Ext k b j st s' /\ ∀ t q,strM l acc i = .ok (t,q)->j+i=n+q:=by
 intro m
 induction m with
 |zero =>
  intro l n acc i out s hm hd hn ha E hz hO
  cases l with
  |cons=>simp at hm
  |nil =>
   refine⟨⟨s.boxes.set z zt,s.rows,s.bt,s.rt⟩,n,?_,E.zset hz0 zt,by intro t q h; cases h⟩
   rw[runL_eq]
   generalize runL _ _ b_lex_scanner_text_0=L
   simp only[b_lex_scanner_text_0,go_sem,pc_nil,pok_nil,hK _ _ _ _ hz]
   rfl
 |succ m ih =>
  intro l n acc i out s hm hd hn ha E hz hO
  cases l with
  |nil =>
   refine⟨⟨s.boxes.set z zt,s.rows,s.bt,s.rt⟩,n,?_,E.zset hz0 zt,by intro t q h; cases h⟩
   rw[runL_eq]
   generalize runL _ _ b_lex_scanner_text_0=L
   simp only[b_lex_scanner_text_0,go_sem,pc_nil,pok_nil,hK _ _ _ _ hz]
   rfl
  |cons c r =>
   obtain⟨hc,hd',hl⟩:=drop_get hd
   have hkz:k≠z:=by have:=E.lt; omega
   have w1:=wrap1 (n:=n) (m:=b.length) (by omega) (by omega)
   have g0:s.boxes[k]? = some [.lst (byts b),.int .i64 (n:Int)]:=E.sc
   have u1:(⟨s.boxes.set k [.lst (byts b),.int .i64 ((n+1:Nat):Int)],s.rows,s.bt,s.rt⟩:St)=upd k b (n+1) s:=rfl
   have e34:((c.toNat:Int)=34)=(c=34):=code_eq (n:=34) (by decide)
   have e92:((c.toNat:Int)=92)=(c=92):=code_eq (n:=92) (by decide)
   have E1:=E.upd (n+1)
   have uz : ∀ q,(upd k b q s).boxes[z]? = some zt:=fun q=>by unfold upd; rw[List.getElem?_set_ne hkz]; exact hz
   have zlt : ∀ q,z<(upd k b q s).boxes.length:=fun q=>(List.getElem?_eq_some_iff.1 (uz q)).1
   have gz : ∀ q w,((upd k b q s).boxes.set z w)[z]? = some w:=fun q w=>List.getElem?_set_self (zlt q)
   have hlen:=hO.len
   have hstr:=hO.str
   by_cases h34:c=34
   ·subst h34
    have q34:((((34:UInt8).toNat:Nat):Int)=34)=True:=eq_true rfl
    unfold zt at uz
    by_cases h1000:acc.length>1000
    ·have hi:((acc.length:Nat):Int)>1000:=by omega
     refine⟨_,n+1,?_,E1.zset hz0 zt,?_⟩
     ·rw[runL_eq,strM_end,if_pos h1000]
      generalize runL _ _ b_lex_scanner_text_0=L
      simp only[b_lex_scanner_text_0,go_sem,pc_cons,pok_cons,q34,g0,w1,u1,uz,gz,hlen,hi,if_true]
      rfl
     ·intro t q h
      rw[strM_end,if_pos h1000] at h
      cases h
    ·have hi : ¬ ((acc.length:Nat):Int)>1000:=by omega
     refine⟨_,n+1,?_,E1.zset hz0 (tkC ⟨3,0,acc⟩),?_⟩
     ·rw[runL_eq,strM_end,if_neg h1000]
      generalize runL _ _ b_lex_scanner_text_0=L
      simp only[b_lex_scanner_text_0,go_sem,pc_cons,pok_cons,q34,g0,w1,u1,uz,gz,hlen,hstr,hi,if_true,if_false]
      rfl
     ·intro t q h
      rw[strM_end,if_neg h1000] at h
      cases h
      omega
   ·by_cases h92:c=92
    ·subst h92
     have q34:((((92:UInt8).toNat:Nat):Int)=34)=False:=eq_false (by decide)
     have q92:((((92:UInt8).toNat:Nat):Int)=92)=True:=eq_true rfl
     have m1:=more_ok E1.sc
     rw[hd'] at m1
     cases r with
     |nil =>
      unfold zt at uz
      simp only[pc_nil,pok_nil] at m1
      refine⟨_,n+1,?_,E1.zset hz0 zt,?_⟩
      ·rw[runL_eq,strM_esc0]
       generalize runL _ _ b_lex_scanner_text_0=L
       simp only[b_lex_scanner_text_0,go_sem,pc_cons,pok_cons,q34,q92,g0,w1,u1,uz,gz,m1,if_true,if_false]
       rfl
      ·intro t q h
       rw[strM_esc0] at h
       cases h
     |cons d r' =>
      obtain⟨hc2,hd2,hl2⟩:=drop_get hd'
      simp only[pc_cons,pok_cons] at m1
      have w2:=wrap1 (n:=n+1) (m:=b.length) (by omega) (by omega)
      have g2:(upd k b (n+1) s).boxes[k]? = some [.lst (byts b),.int .i64 ((n+1:Nat):Int)]:=E1.sc
      have u2:(⟨(upd k b (n+1) s).boxes.set k [.lst (byts b),.int .i64 ((n+1+1:Nat):Int)],(upd k b (n+1) s).rows,(upd k b (n+1) s).bt,(upd k b (n+1) s).rt⟩:St)=upd k b (n+1+1) s:=upd_upd
      obtain⟨out',s2,ap,hO',E2,hz2⟩:=out_append d (hO.upd (k:=k) (b:=b) (m:=n+1+1)) rfl hst (E.upd (n+1+1)) (by omega) (uz (n+1+1))
      obtain⟨s',j,hr,E',hj⟩:=ih r' (n+1+1) (acc++[d]) (i+2) out' s2 (by simp only[List.length_cons] at hm; omega) hd2 (by omega) (by simp; omega) E2 hz2 hO'
      have m2:=more_ok E2.sc
      rw[hd2] at m2
      refine⟨s',j,?_,E',?_⟩
      ·rw[runL_eq,strM_esc]
       generalize runL _ _ b_lex_scanner_text_0=L at hr ⊢
       simp only[b_lex_scanner_text_0,go_sem,pc_cons,pok_cons,q34,q92,g0,w1,u1,m1,g2,w2,u2,ap,m2,hr,if_true,if_false]
      ·intro t q h
       rw[strM_esc] at h
       have:=hj t q h
       omega
    ·obtain⟨out',s2,ap,hO',E2,hz2⟩:=out_append c (hO.upd (k:=k) (b:=b) (m:=n+1)) rfl hst (E.upd (n+1)) (by omega) (uz (n+1))
     obtain⟨s',j,hr,E',hj⟩:=ih r (n+1) (acc++[c]) (i+1) out' s2 (by simp only[List.length_cons] at hm; omega) hd' (by omega) (by simp; omega) E2 hz2 hO'
     have m2:=more_ok E2.sc
     rw[hd'] at m2
     refine⟨s',j,?_,E',?_⟩
     ·rw[runL_eq,strM_cons h34 h92]
      generalize runL _ _ b_lex_scanner_text_0=L at hr ⊢
      simp only[b_lex_scanner_text_0,go_sem,pc_cons,pok_cons,e34,e92,h34,h92,g0,w1,u1,ap,m2,hr,if_true,if_false]
     ·intro t q h
      rw[strM_cons h34 h92] at h
      have:=hj t q h
      omega
theorem stext_ok {k n:Nat} {b:List UInt8} (hb:b.length<=65536) {st:St} (h:Sc k b n st) (hr:RtN st) (hn:n<=b.length) :
  ∃ st' m,callE efns given f_lex_scanner_text [.ptr k 0] st=some (resT (strT (strM (b.drop n) [] 0)),st')/\Ext k b m st st' /\ ∀ t j,strM (b.drop n) [] 0 = .ok (t,j)->m=n+j:=by
 have E1:=(Ext.refl h hr).new zt T_lex_scanner_text_0
 generalize hs1:(⟨st.boxes++[zt],st.rows,st.bt++[T_lex_scanner_text_0],st.rt⟩:St)=s1 at E1
 have hz1:s1.boxes[st.boxes.length]? = some zt:=by rw[<- hs1]; simp
 have m1:=more_ok E1.sc
 rw[callE_fn efns given (c:=e_lex_scanner_text) rfl rfl]
 have hs1':=hs1
 unfold zt at hs1'
 simp only[e_lex_scanner_text,go_sem,hs1',m1]
 generalize hK:blockK 0 _=K
 obtain⟨s',j,hl,E',hj⟩:=text_loop hb hr (Nat.le_refl _) (K:=K) (z:=st.boxes.length) (by
  intro out c ok s hz
  rw[<- hK]
  have zlt:=(List.getElem?_eq_some_iff.1 hz).1
  have gz : ∀ w,(s.boxes.set st.boxes.length w)[st.boxes.length]? = some w:=fun w=>List.getElem?_set_self zlt
  unfold zt at hz
  simp only[go_sem,hz,gz]
  rfl) _ (b.drop n) n [] 0 .nils s1 (Nat.le_refl _) rfl hn (by simp) E1 hz1 (.inl ⟨rfl,rfl⟩)
 refine⟨s',j,Eq.trans hl ?_,E',fun t q hh=>by have:=hj t q hh; omega⟩
 rw[<- hK]
 simp only[go_sem]
theorem oneM_err {s:List UInt8} {e:Int} (h:oneM s = .error e) : ¬ e=0:=by
 have hname : ∀ {s:List UInt8} {e:Int},nameM s = .error e -> ¬ e=0:=by
  intro s e h
  rcases nameM_err h with rfl|rfl <;> decide
 cases s with
 |nil=>cases h; decide
 |cons c r =>
  rw[oneM_cons] at h
  split at h
  ·cases h
  split at h
  ·cases h
  split at h
  ·cases h
  split at h
  ·split at h
   ·rename_i e' he
    cases h
    have : ∀ (m:Nat) (s acc:List UInt8) (i:Nat),s.length<=m->strM s acc i = .error e -> ¬ e=0:=by
     intro m
     induction m with
     |zero =>
      intro s acc i hm h
      cases s with
      |nil=>cases h; decide
      |cons=>simp at hm
     |succ m ih =>
      intro s acc i hm h
      cases s with
      |nil=>cases h; decide
      |cons c r =>
       by_cases h34:c=34
       ·subst h34
        rw[strM_end] at h
        split at h
        ·cases h; decide
        ·cases h
       ·by_cases h92:c=92
        ·subst h92
         cases r with
         |nil=>rw[strM_esc0] at h; cases h; decide
         |cons d r=>rw[strM_esc] at h; exact ih r _ _ (by simp only[List.length_cons] at hm; omega) h
        ·rw[strM_cons h34 h92] at h
         exact ih r _ _ (by simp only[List.length_cons] at hm; omega) h
    exact this _ r [] 0 (Nat.le_refl _) he
   ·cases h
  split at h
  ·unfold varM at h
   split at h
   ·split at h
    ·rename_i e' he; cases h; exact hname he
    ·split at h
     ·cases h
     ·cases h; decide
   ·split at h
    ·rename_i e' he; cases h; exact hname he
    ·cases h
  ·unfold wordM at h
   split at h
   ·cases h; decide
   split at h
   ·cases h
   rename_i h0
   split at h
   ·cases h; exact h0
   split at h
   ·cases h; decide
   ·cases h
theorem token_ok {k n:Nat} {b:List UInt8} (hb:b.length<=65536) {st:St} (h:Sc k b n st) (hr:RtN st) {c:UInt8} {r:List UInt8} (hd:b.drop n=c::r) :
  ∃ st' m,callE efns given f_lex_scanner_token [.ptr k 0] st=some (resT (oneM (c::r)),st')/\Ext k b m st st' /\ ∀ t j,oneM (c::r) = .ok (t,j)->m=n+j:=by
 obtain⟨hc,hd',hl⟩:=drop_get hd
 have E1:=(Ext.refl h hr).new zt T_lex_scanner_token_0
 generalize hs1:(⟨st.boxes++[zt],st.rows,st.bt++[T_lex_scanner_token_0],st.rt⟩:St)=s1 at E1
 have hz1:s1.boxes[st.boxes.length]? = some zt:=by rw[<- hs1]; simp
 have hkz:k≠st.boxes.length:=Nat.ne_of_lt h.lt
 have g1:s1.boxes[k]? = some [.lst (byts b),.int .i64 (n:Int)]:=E1.sc
 have w1:=wrap1 (n:=n) (m:=b.length) (by omega) (by omega)
 have u1:(⟨s1.boxes.set k [.lst (byts b),.int .i64 ((n+1:Nat):Int)],s1.rows,s1.bt,s1.rt⟩:St)=upd k b (n+1) s1:=rfl
 have upz : ∀ m,(upd k b m s1).boxes[st.boxes.length]? = some zt:=fun m=>by unfold upd; rw[List.getElem?_set_ne hkz]; exact hz1
 have zlt : ∀ m,st.boxes.length<(upd k b m s1).boxes.length:=fun m=>(List.getElem?_eq_some_iff.1 (upz m)).1
 have gz : ∀ m w,((upd k b m s1).boxes.set st.boxes.length w)[st.boxes.length]? = some w:=fun m w=>List.getElem?_set_self (zlt m)
 have fin : ∀ m w,Ext k b m st ⟨(upd k b m s1).boxes.set st.boxes.length w,(upd k b m s1).rows,(upd k b m s1).bt,(upd k b m s1).rt⟩:=fun m w=>(E1.upd m).zset (Nat.le_refl _) w
 have E2:=E1.upd (n+1)
 have e40:((c.toNat:Int)=40)=(c=40):=code_eq (n:=40) (by decide)
 have e41:((c.toNat:Int)=41)=(c=41):=code_eq (n:=41) (by decide)
 have e126:((c.toNat:Int)=126)=(c=126):=code_eq (n:=126) (by decide)
 have e34:((c.toNat:Int)=34)=(c=34):=code_eq (n:=34) (by decide)
 have e63:((c.toNat:Int)=63)=(c=63):=code_eq (n:=63) (by decide)
 have sub : ∀ (s2:St) (m:Nat) (R:Res (Tk × Nat)),Ext k b m (upd k b (n+1) s1) s2->s2.boxes[st.boxes.length]? = some zt/\(∀ w,(s2.boxes.set st.boxes.length w)[st.boxes.length]? = some w) /\ ∀ w,Ext k b m st ⟨s2.boxes.set st.boxes.length w,s2.rows,s2.bt,s2.rt⟩:=by
  intro s2 m R e
  have z2:=(e.bx _ (zlt (n+1)) (Ne.symm hkz)).trans (upz (n+1))
  exact⟨z2,fun w=>List.getElem?_set_self (List.getElem?_eq_some_iff.1 z2).1,fun w=>(E2.trans e).zset (Nat.le_refl _) w⟩
 have sub1 : ∀ (s2:St) (m:Nat) (R:Res (Tk × Nat)),Ext k b m s1 s2->s2.boxes[st.boxes.length]? = some zt/\(∀ w,(s2.boxes.set st.boxes.length w)[st.boxes.length]? = some w) /\ ∀ w,Ext k b m st ⟨s2.boxes.set st.boxes.length w,s2.rows,s2.bt,s2.rt⟩:=by
  intro s2 m R e
  have z2:=(e.bx _ (List.getElem?_eq_some_iff.1 hz1).1 (Ne.symm hkz)).trans hz1
  exact⟨z2,fun w=>List.getElem?_set_self (List.getElem?_eq_some_iff.1 z2).1,fun w=>(E1.trans e).zset (Nat.le_refl _) w⟩
 rw[callE_fn efns given (c:=e_lex_scanner_token) rfl rfl,oneM_cons]
 have hs1':=hs1
 unfold zt at hs1' upz
 by_cases h40:c=40
 ·rw[if_pos h40]
  refine⟨_,n+1,?_,fin _ (tkC ⟨4,0,[]⟩),by intro t j hh; cases hh; rfl⟩
  simp only[e_lex_scanner_token,go_sem,hs1',g1,bidx hc,e40,h40,w1,u1,upz,gz,if_true]
  rfl
 ·rw[if_neg h40]
  by_cases h41:c=41
  ·rw[if_pos h41]
   refine⟨_,n+1,?_,fin _ (tkC ⟨5,0,[]⟩),by intro t j hh; cases hh; rfl⟩
   simp only[e_lex_scanner_token,go_sem,hs1',g1,bidx hc,e40,e41,h40,eq_true h41,w1,u1,upz,gz,if_true,if_false]
   rfl
  ·rw[if_neg h41]
   by_cases h126:c=126
   ·rw[if_pos h126]
    refine⟨_,n+1,?_,fin _ (tkC ⟨8,0,[]⟩),by intro t j hh; cases hh; rfl⟩
    simp only[e_lex_scanner_token,go_sem,hs1',g1,bidx hc,e40,e41,e126,h40,h41,eq_true h126,w1,u1,upz,gz,if_true,if_false]
    rfl
   ·rw[if_neg h126]
    by_cases h34:c=34
    ·rw[if_pos h34]
     obtain⟨s2,m,ht,et,hj⟩:=stext_ok hb E2.sc E2.rn hl
     rw[hd'] at ht hj
     obtain⟨z2,gz2,fin2⟩:=sub s2 m (.error 0) et
     unfold zt at z2
     cases hM:strM r [] 0 with
     |error e =>
      rw[hM] at ht
      unfold resT strT zt at ht
      refine⟨_,m,?_,fin2 zt,by intro t j hh; cases hh⟩
      simp only[e_lex_scanner_token,go_sem,hs1',g1,bidx hc,e40,e41,e126,e34,h40,h41,h126,eq_true h34,w1,u1,ht,z2,gz2,if_true,if_false]
      rfl
     |ok q =>
      rw[hM] at ht
      unfold resT strT tkC at ht
      refine⟨_,m,?_,fin2 (tkC ⟨3,0,q.1⟩),?_⟩
      ·simp only[e_lex_scanner_token,go_sem,hs1',g1,bidx hc,e40,e41,e126,e34,h40,h41,h126,eq_true h34,w1,u1,ht,z2,gz2,if_true,if_false]
       rfl
      ·intro t j hh
       cases hh
       have:=hj q.1 q.2 hM
       omega
    ·rw[if_neg h34]
     by_cases h63:c=63
     ·rw[if_pos h63]
      obtain⟨s2,m,ht,et,hj⟩:=variable_ok hb E2.sc E2.rn hl
      rw[hd'] at ht hj
      obtain⟨z2,gz2,fin2⟩:=sub s2 m (.error 0) et
      unfold zt at z2
      cases hM:varM r with
      |error e =>
       rw[hM] at ht
       unfold resT zt at ht
       refine⟨_,m,?_,fin2 zt,by intro t j hh; cases hh⟩
       simp only[e_lex_scanner_token,go_sem,hs1',g1,bidx hc,e40,e41,e126,e34,e63,h40,h41,h126,h34,eq_true h63,w1,u1,ht,z2,gz2,if_true,if_false]
       rfl
      |ok q =>
       rw[hM] at ht
       unfold resT tkC at ht
       refine⟨_,m,?_,fin2 (tkC q.1),?_⟩
       ·simp only[e_lex_scanner_token,go_sem,hs1',g1,bidx hc,e40,e41,e126,e34,e63,h40,h41,h126,h34,eq_true h63,w1,u1,ht,z2,gz2,if_true,if_false]
        rfl
       ·intro t j hh
        cases hh
        have:=hj t j hM
        omega
     ·rw[if_neg h63]
      obtain⟨s2,m,ht,et,hj⟩:=word_ok hb E1.sc E1.rn (by omega)
      rw[hd] at ht hj
      obtain⟨z2,gz2,fin2⟩:=sub1 s2 m (.error 0) et
      unfold zt at z2
      cases hM:wordM (c::r) with
      |error e =>
       rw[hM] at ht
       unfold resT zt at ht
       refine⟨_,m,?_,fin2 zt,by intro t j hh; cases hh⟩
       simp only[e_lex_scanner_token,go_sem,hs1',g1,bidx hc,e40,e41,e126,e34,e63,h40,h41,h126,h34,h63,w1,u1,ht,z2,gz2,if_true,if_false]
       rfl
      |ok q =>
       rw[hM] at ht
       unfold resT tkC at ht
       refine⟨_,m,?_,fin2 (tkC q.1),?_⟩
       ·simp only[e_lex_scanner_token,go_sem,hs1',g1,bidx hc,e40,e41,e126,e34,e63,h40,h41,h126,h34,h63,w1,u1,ht,z2,gz2,if_true,if_false]
        rfl
       ·intro t j hh
        cases hh
        exact hj t j hM
end Go.Proofs.YtnlknpeelpnbaaaGreatDoorPe.Read
set_option linter.unusedVariables false
set_option linter.unusedSimpArgs false
set_option maxRecDepth 1000000
namespace Go.Proofs.YtnlknpeelpnbaaaGreatDoorPe.Read
open Go Go.Proofs.YtnlknpeelpnbaaaGreatDoorPe Go.Proofs.YtnlknpeelpnbaaaGreatDoorPe.ReadCode
def faultV (a:Nat) (e:Int):PV:=.iface T_lex_fault_2 (.ref [.str [99,104,97,114],.int .i64 (a:Int),.iface T_lex_fault_1 (.int .i64 e)])
theorem fault_t (a:Nat) (e:Int):tupV (callE efns given) (.call 0 f_lex_fault) [.int .i64 (a:Int),.int .i64 e]=some (faultV a e):=by
 have key : ∃ st,callE efns given f_lex_fault [.int .i64 (a:Int),.int .i64 e] ⟨[],[],[],[]⟩=some (.iface T_lex_fault_2 (.ptr 0 0),⟨[[.str [99,104,97,114],.int .i64 (a:Int),.iface T_lex_fault_1 (.int .i64 e)]],[],st,[]⟩):=by
  refine⟨[T_lex_fault_0],?_⟩
  rw[callE_fn efns given (c:=e_lex_fault) rfl rfl]
  simp only[e_lex_fault,go_sem,zip3,fillP]
 obtain⟨st,h⟩:=key
 exact callV_of rfl h rfl
def OutT (T:TypeId) (l:List Tok) (out:PV) (s:St):Prop :=
 l=[]/\out = .nils \/ ∃ r,l≠[]/\out = .own r (l.map Tok.p)/\s.rows[r]? = some (l.length,4)/\s.rt[r]? = some T
theorem szAll_toks (l:List Tok):szAll 4 (l.map Tok.p)=true:=by
 simp[szAll,Tok.p,PV.cells]
theorem out_tok {T:TypeId} {l:List Tok} {out:PV} {s:St} (t:Tok) (h:OutT T l out s) (hn:RtN s) (hl:l.length<=65536) :
  ∃ out' s',evAppend 4 40 T out.nm [t.p] s=some (out',s')/\OutT T (l++[t]) out' s'/\RtN s'/\s'.boxes=s.boxes/\s'.bt=s.bt:=by
 have hs:=szAll_toks [t]
 simp only[List.map_cons,List.map_nil] at hs
 rcases h with ⟨rfl,rfl⟩|⟨r,hne,rfl,h1,h2⟩
 ·refine⟨.own s.rows.length ([]++[t.p]),⟨s.boxes,s.rows++[(0+1,4)],s.bt,s.rt++[T]⟩,?_,.inr ⟨s.rows.length,by simp,rfl,by simp,?_⟩,?_,rfl,rfl⟩
  ·rw[n_nils,A_full,hs,if_pos rfl,if_pos ⟨by simp,rfl⟩]
   rfl
  ·unfold RtN at hn; rw[<- hn]; simp
  ·unfold RtN at hn ⊢; simp[hn]
 ·refine⟨.own r (l.map Tok.p++[t.p]),⟨s.boxes,s.rows.set r ((l.map Tok.p).length+1,4),s.bt,s.rt⟩,?_,.inr ⟨r,by simp,by simp,?_,h2⟩,?_,rfl,rfl⟩
  ·rw[n_own,A_own,hs,if_pos rfl,if_pos ⟨by simp; omega,by simpa using h1,h2⟩]
   rfl
  ·have:r<s.rows.length:=(List.getElem?_eq_some_iff.1 h1).1
   rw[List.getElem?_set_self this]
   simp
  ·unfold RtN at hn ⊢; simp[hn]
theorem OutT.ext {T:TypeId} {k m:Nat} {b:List UInt8} {l:List Tok} {out:PV} {s s':St} (h:OutT T l out s) (e:Ext k b m s s'):OutT T l out s':=by
 rcases h with h|⟨r,hne,ho,h1,h2⟩
 ·exact .inl h
 ·exact .inr ⟨r,hne,ho,(e.rw r (List.getElem?_eq_some_iff.1 h1).1).trans h1,(e.rt r (List.getElem?_eq_some_iff.1 h2).1).trans h2⟩
theorem OutT.shut {T:TypeId} {l:List Tok} {out:PV} {s:St} (h:OutT T l out s) (st:St):shutR false st shutN out=some (.lst (l.map Tok.p)):=by
 rcases h with ⟨rfl,rfl⟩|⟨r,_,rfl,_⟩ <;> rfl
def behind (b:List UInt8) (p:Nat):Nat:=b.length-(skipM false (b.drop p)).length
theorem behind_ok {b:List UInt8} {p:Nat} (hp:p<=b.length):b.drop (behind b p)=skipM false (b.drop p)/\behind b p<=b.length/\p<=behind b p/\scanM (behind b p) (b.drop (behind b p))=scanM p (b.drop p):=by
 have h1:=skipM_suffix (b.drop p) false
 have h2:=skipM_le (b.drop p) false
 rw[List.length_drop] at h1 h2
 have e:p+(b.length-p-(skipM false (b.drop p)).length)=behind b p:=by unfold behind; omega
 have h3:b.drop (behind b p)=skipM false (b.drop p):=by
  rw[h1,List.drop_drop,e]
 refine⟨h3,by unfold behind; omega,by omega,?_⟩
 have h4:=scanM_skip p (b.drop p)
 rw[List.length_drop,e] at h4
 rw[h3,h4]
theorem scan_step {b:List UInt8} {n:Nat} {c:UInt8} {r:List UInt8} (hd:b.drop n=c::r) (hs:skipM false (b.drop n)=b.drop n) (hn:n<=b.length) :
  scanM n (b.drop n)=match oneM (c::r) with
  |.error e=>.error (n,e)
  |.ok t=>match scanM (n+t.2) (b.drop (n+t.2)) with
   |.error e=>.error e
   |.ok l=>.ok (⟨t.1.k,n,t.1.i,t.1.s⟩::l):=by
 have hl:(b.drop n).length=r.length+1:=by rw[hd]; simp
 rw[scanM_cons (hs.trans hd),hl]
 simp only[Nat.sub_self,Nat.add_zero]
 cases ho:oneM (c::r) with
 |error e=>rfl
 |ok t =>
  have:=oneM_le (t:=t.1) (m:=t.2) ho
  have e1:t.2-1+1=t.2:=by omega
  have e2:r.drop (t.2-1)=b.drop (n+t.2):=by
   rw[<- List.drop_drop,hd]
   conv=>rhs; rw[<- e1,List.drop_succ_cons]
  simp only[e1,e2]
  all_goals rfl
theorem scan_loop {b:List UInt8} (hb:b.length<=65536) {K:EX->Fr->St->Option (PV × St)} : ∀ (m n:Nat) (l:List Tok) (out:PV) (s:St),(b.drop n).length<=m->skipM false (b.drop n)=b.drop n->n<=b.length->l.length<=n->Sc 0 b n s->RtN s->OutT T_lex_Scan_0 l out s ->
  (∃ l' out' x s',scanM n (b.drop n) = .ok l'/\OutT T_lex_Scan_0 (l++l') out' s'/\runL (callE efns given) [true,true,true,false,false,false,false,false,false,false] b_lex_Scan_0 [.lst (byts b),.ptr 0 0,out,.undef,.undef,.undef,.undef,.undef,.undef,.undef] s K =
   K (.exit 0) [.lst (byts b),.ptr 0 0,out',.undef,.undef,x,.undef,.undef,.undef,.undef] s') \/
  (∃ a e s',scanM n (b.drop n) = .error (a,e)/\runL (callE efns given) [true,true,true,false,false,false,false,false,false,false] b_lex_Scan_0 [.lst (byts b),.ptr 0 0,out,.undef,.undef,.undef,.undef,.undef,.undef,.undef] s K =
   K (.ret (.tuple [.nils,faultV a e])) [] s'):=by
 intro m
 induction m with
 |zero =>
  intro n l out s hm hs hn hln hsc hrn hO
  have hd:b.drop n=[]:=List.eq_nil_of_length_eq_zero (by omega)
  have:=drop_none hd
  left
  refine⟨[],out,.int .i64 n,s,?_,by rw[List.append_nil]; exact hO,?_⟩
  ·rw[hd]; exact scanM_nil rfl
  ·have c1:((n:Int)<(b.length:Int))=False:=eq_false (by omega)
   have g0:s.boxes[0]? = some [.lst (byts b),.int .i64 (n:Int)]:=hsc
   rw[runL_eq]
   generalize runL _ _ b_lex_Scan_0=L
   simp only[b_lex_Scan_0,go_sem,g0,byts_length,c1,if_false]
 |succ m ih =>
  intro n l out s hm hs hn hln hsc hrn hO
  have g0:s.boxes[0]? = some [.lst (byts b),.int .i64 (n:Int)]:=hsc
  cases hd:b.drop n with
  |nil =>
   have:=drop_none hd
   left
   refine⟨[],out,.int .i64 n,s,scanM_nil rfl,by rw[List.append_nil]; exact hO,?_⟩
   have c1:((n:Int)<(b.length:Int))=False:=eq_false (by omega)
   rw[runL_eq]
   generalize runL _ _ b_lex_Scan_0=L
   simp only[b_lex_Scan_0,go_sem,g0,byts_length,c1,if_false]
  |cons c r =>
   obtain⟨hc,hd',hl⟩:=drop_get hd
   have c1:((n:Int)<(b.length:Int))=True:=eq_true (by omega)
   have hstep:=scan_step hd hs hn
   rw[hd] at hstep
   obtain⟨s1,p,htk,e1,hj⟩:=token_ok hb hsc hrn hd
   have E1:=e1.new zt T_lex_Scan_0
   have hlt:=e1.sc.lt
   have hz:0≠s1.boxes.length:=by omega
   cases ho:oneM (c::r) with
   |error e =>
    rw[ho] at htk hstep
    right
    have he:(e=0)=False:=eq_false (oneM_err ho)
    refine⟨n,e,⟨s1.boxes++[zt],s1.rows,s1.bt++[T_lex_Scan_0],s1.rt⟩,hstep,?_⟩
    unfold resT zt at htk
    have q1:(s1.boxes++[[PV.int .i64 0,.int .i64 0,.int .i64 0,.str []]])[s1.boxes.length]? = some [PV.int .i64 0,.int .i64 0,.int .i64 0,.str []]:=by simp
    have q2 : ∀ w,(s1.boxes++[[PV.int .i64 0,.int .i64 0,.int .i64 0,.str []]]).set s1.boxes.length w=s1.boxes++[w]:=fun w=>by simp
    rw[runL_eq]
    generalize runL _ _ b_lex_Scan_0=L
    simp only[b_lex_Scan_0,go_sem,g0,byts_length,c1,htk,q1,q2,he,fault_t,if_true,if_false,ne_eq,not_false_eq_true]
    rfl
   |ok t =>
    rw[ho] at htk hstep
    simp only at hstep
    have hp:=hj t.1 t.2 ho
    subst hp
    have htl:=oneM_le (t:=t.1) (m:=t.2) ho
    have hple:n+t.2<=b.length:=by
     have:=congrArg List.length hd
     rw[List.length_drop,List.length_cons] at this
     simp only[List.length_cons] at htl
     omega
    unfold resT tkC at htk
    have q1:(s1.boxes++[[PV.int .i64 0,.int .i64 0,.int .i64 0,.str []]])[s1.boxes.length]? = some [PV.int .i64 0,.int .i64 0,.int .i64 0,.str []]:=by simp
    have q2 : ∀ w w',(s1.boxes++[w]).set s1.boxes.length w'=s1.boxes++[w']:=fun w w'=>by simp
    have q3 : ∀ w,(s1.boxes++[w])[s1.boxes.length]? = some w:=fun w=>by simp
    -- behind the store of the place
    have O2:OutT T_lex_Scan_0 l out ⟨s1.boxes++[[.int .i64 t.1.k,.int .i64 (n:Int),.int .i64 t.1.i,.str t.1.s]],s1.rows,s1.bt++[T_lex_Scan_0],s1.rt⟩:=(hO.ext e1:OutT T_lex_Scan_0 l out s1)
    obtain⟨out',s3,ap,O3,rn3,hbx,hbt⟩:=out_tok ⟨t.1.k,n,t.1.i,t.1.s⟩ O2 e1.rn (by omega)
    have sc3:Sc 0 b (n+t.2) s3:=by
     unfold Sc
     rw[hbx,List.getElem?_append_left hlt]
     exact e1.sc
    have hsk:=skip_ok hb sc3 hple
    obtain⟨b1,b2,b3,b4⟩:=behind_ok hple
    have hdl:(b.drop (behind b (n+t.2))).length<=m:=by
     rw[List.length_drop]
     have:=congrArg List.length hd
     rw[List.length_drop] at this
     simp only[List.length_cons] at this hm
     rw[hd] at hm
     simp only[List.length_cons] at hm
     omega
    have hs4:skipM false (b.drop (behind b (n+t.2)))=b.drop (behind b (n+t.2)):=by rw[b1]; exact skipM_skip _ _
    have sc4:Sc 0 b (behind b (n+t.2)) (upd 0 b (behind b (n+t.2)) s3):=upd_sc sc3.lt
    have hih:=ih (behind b (n+t.2)) (l++[⟨t.1.k,n,t.1.i,t.1.s⟩]) out' (upd 0 b (behind b (n+t.2)) s3) hdl hs4 b2 (by simp; omega) sc4 rn3 O3
    rw[b4] at hih
    have hsk':callE efns given f_lex_scanner_skip [.ptr 0 0] s3=some (.tuple [],upd 0 b (behind b (n+t.2)) s3):=hsk
    have ap':evAppend 4 40 T_lex_Scan_0 out.nm [.agg [.int .i64 t.1.k,.int .i64 (n:Int),.int .i64 t.1.i,.str t.1.s]] ⟨s1.boxes++[[.int .i64 t.1.k,.int .i64 (n:Int),.int .i64 t.1.i,.str t.1.s]],s1.rows,s1.bt++[T_lex_Scan_0],s1.rt⟩=some (out',s3):=ap
    rcases hih with ⟨l',out2,x,s',h1,h2,h3⟩|⟨a,e,s',h1,h3⟩
    ·left
     rw[h1] at hstep
     refine⟨⟨t.1.k,n,t.1.i,t.1.s⟩::l',out2,x,s',hstep,by rw[List.append_cons]; exact h2,?_⟩
     rw[runL_eq]
     generalize runL _ _ b_lex_Scan_0=L at h3 ⊢
     simp only[b_lex_Scan_0,go_sem,g0,byts_length,c1,htk,q1,q2,q3,ap',hsk',h3,if_true,if_false,ne_eq,not_true_eq_false]
    ·right
     rw[h1] at hstep
     refine⟨a,e,s',hstep,?_⟩
     rw[runL_eq]
     generalize runL _ _ b_lex_Scan_0=L at h3 ⊢
     simp only[b_lex_Scan_0,go_sem,g0,byts_length,c1,htk,q1,q2,q3,ap',hsk',h3,if_true,if_false,ne_eq,not_true_eq_false]
def scanV:Except (Nat × Int) (List Tok)->PV
 |.ok l=>.tuple [.lst (l.map Tok.p),.nili]
 |.error q=>.tuple [.lst [],faultV q.1 q.2]
def scanL (b:List UInt8):Except (Nat × Int) (List Tok):=if b.length>65536 then .error (0,4) else scanM 0 b
theorem scan_t (b:List UInt8):tupV (callE efns given) (.call 0 f_lex_Scan) [.lst (byts b)]=some (scanV (scanL b)):=by
 unfold scanL
 by_cases hb:b.length>65536
 ·rw[if_pos hb]
  have hc:((b.length:Int)>65536)=True:=eq_true (by omega)
  have key:callE efns given f_lex_Scan [.lst (byts b)] ⟨[],[],[],[]⟩=some (.tuple [.nils,faultV 0 4],⟨[],[],[],[]⟩):=by
   rw[callE_fn efns given (c:=e_lex_Scan) rfl rfl]
   have hf:tupV (callE efns given) (.call 0 f_lex_fault) [.int .i64 0,.int .i64 4]=some (faultV 0 4):=fault_t 0 4
   simp only[e_lex_Scan,go_sem,byts_length,hc,hf,if_true]
  exact callV_of rfl key rfl
 ·rw[if_neg hb]
  have hb':b.length<=65536:=by omega
  have hc:((b.length:Int)>65536)=False:=eq_false (by omega)
  have sc0:Sc 0 b 0 ⟨[[.lst (byts b),.int .i64 0]],[],[T_lex_Scan_1],[]⟩:=rfl
  have hsk:callE efns given f_lex_scanner_skip [.ptr 0 0] ⟨[[.lst (byts b),.int .i64 0]],[],[T_lex_Scan_1],[]⟩=some (.tuple [],upd 0 b (behind b 0) ⟨[[.lst (byts b),.int .i64 0]],[],[T_lex_Scan_1],[]⟩):=skip_ok hb' sc0 (by omega)
  obtain⟨b1,b2,b3,b4⟩:=behind_ok (b:=b) (p:=0) (by omega)
  rw[List.drop_zero] at b1 b4
  have hs4:skipM false (b.drop (behind b 0))=b.drop (behind b 0):=by rw[b1]; exact skipM_skip _ _
  have key : ∀ (K0:Unit),(∃ l s',scanM 0 b = .ok l /\ ∃ out,OutT T_lex_Scan_0 l out s'/\callE efns given f_lex_Scan [.lst (byts b)] ⟨[],[],[],[]⟩=some (.tuple [out,.nili],s')) \/
    (∃ a e s',scanM 0 b = .error (a,e)/\callE efns given f_lex_Scan [.lst (byts b)] ⟨[],[],[],[]⟩=some (.tuple [.nils,faultV a e],s')):=by
   intro _
   rw[callE_fn efns given (c:=e_lex_Scan) rfl rfl]
   simp only[e_lex_Scan,go_sem,byts_length,hc,if_false,zip3,fillP,hsk]
   generalize hK:blockK 0 _=K
   rcases scan_loop hb' (K:=K) _ (behind b 0) [] .nils (upd 0 b (behind b 0) ⟨[[.lst (byts b),.int .i64 0]],[],[T_lex_Scan_1],[]⟩) (Nat.le_refl _) hs4 b2 (by simp) (upd_sc (by simp)) rfl (.inl ⟨rfl,rfl⟩) with ⟨l',out',x,s',h1,h2,h3⟩|⟨a,e,s',h1,h3⟩
   ·left
    rw[b4] at h1
    refine⟨l',s',h1,out',h2,Eq.trans h3 ?_⟩
    rw[<- hK]
    simp only[go_sem]
   ·right
    rw[b4] at h1
    refine⟨a,e,s',h1,Eq.trans h3 ?_⟩
    rw[<- hK]
    simp only[go_sem]
  rcases key () with ⟨l,s',h1,out,h2,h3⟩|⟨a,e,s',h1,h3⟩
  ·rw[h1]
   refine callV_of rfl h3 ?_
   have:=h2.shut s'
   rcases h2 with ⟨rfl,rfl⟩|⟨r,_,rfl,_⟩ <;> rfl
  ·rw[h1]
   exact callV_of rfl h3 rfl
end Go.Proofs.YtnlknpeelpnbaaaGreatDoorPe.Read
