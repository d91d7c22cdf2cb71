/- A part of the proof of this folder's statement; it has no condition of its own. -/
import Derived.Test.YthjnlpfibakacaaGreatDoorTmpfBld
import Derived.Test.YthjnlpfibakacaaGreatDoorTmpfNum
import Derived.Test.YthjnlpfibakacaaGreatDoorTmpfGivt
set_option linter.unusedVariables false
set_option linter.unusedSimpArgs false
set_option maxRecDepth 100000
namespace Go.Proofs.YthjnlpfibakacaaGreatDoorPe.Tmpf
open Go Go.Proofs.YthjnlpfibakacaaGreatDoorPe Go.Proofs.YthjnlpfibakacaaGreatDoorPe.TmpfCode
structure Vl where
 k:Int
 i:Int
 s:List UInt8
 deriving DecidableEq
def Vl.p (v:Vl):PV:=.agg [.int .i64 v.k,.int .i64 v.i,.str v.s]
def cmpI (a b:Int):Int:=if a<b then -1 else if a>b then 1 else 0
theorem idx_at {n:Nat} {l:List PV} {i:Nat} {e:PV} (h:l[i]? = some e) (hn:e.cells.length=n):evIdx n l (i:Int)=some (.ref e.cells):=by
 unfold evIdx
 rw[if_pos (Int.natCast_nonneg i),Int.toNat_natCast,h]
 simp only[hn,if_true]
section
variable (given:FuncId->List PV->Option PV)
theorem rsym_ok {s:List UInt8} : ∃ st,callE efns given f_ref3_Sym [.str s] ⟨[],[],[],[]⟩=some (Vl.p ⟨2,0,s⟩,st):=by
 refine⟨?_,?_⟩
 rotate_left
 ·rw[callE_fn efns given (c:=e_ref3_Sym) rfl rfl]
  simp only[e_ref3_Sym,go_sem,zip3,fillP]
  rfl
theorem rsym_t {s:List UInt8}:tupV (callE efns given) (.call 0 f_ref3_Sym) [.str s]=some (Vl.p ⟨2,0,s⟩):=by
 obtain⟨st,h⟩:=rsym_ok given
 exact callV_of rfl h rfl
theorem rsame_ok (v w:Vl) : ∃ st,callE efns given f_ref3_Same [v.p,w.p] ⟨[],[],[],[]⟩=some (.bool (decide (v=w)),st):=by
 refine⟨⟨[v.p.cells,w.p.cells],[],[T_ref3_Same_0,T_ref3_Same_0],[]⟩,?_⟩
 rw[callE_fn efns given (c:=e_ref3_Same) rfl rfl]
 obtain⟨k,i,s⟩:=v
 obtain⟨k',i',s'⟩:=w
 by_cases h1:k=k'
 ·subst h1
  by_cases h2:i=i'
  ·subst h2
   simp only[e_ref3_Same,Vl.p,go_sem]
   simp
  ·simp only[e_ref3_Same,Vl.p,go_sem,h2]
   simp[h2]
 ·simp only[e_ref3_Same,Vl.p,go_sem,h1]
  simp[h1]
theorem rsame_t (v w:Vl):tupV (callE efns given) (.call 0 f_ref3_Same) [v.p,w.p]=some (.bool (decide (v=w))):=by
 obtain⟨st,h⟩:=rsame_ok given v w
 exact callV_of rfl h rfl
end
end Go.Proofs.YthjnlpfibakacaaGreatDoorPe.Tmpf
set_option linter.unusedVariables false
set_option linter.unusedSimpArgs false
set_option maxRecDepth 1000000
namespace Go.Proofs.YthjnlpfibakacaaGreatDoorPe.Tmpf
open Go Go.Proofs.YthjnlpfibakacaaGreatDoorPe Go.Proofs.YthjnlpfibakacaaGreatDoorPe.TmpfCode
def lex (p r:Int):Int:=if p=0 then r else p
def c3:List UInt8->List UInt8->Int
 |[],[]=>0
 |[],_::_ => -1
 |_::_,[]=>1
 |a::x,b::y=>lex (cmpI a.toNat b.toNat) (c3 x y)
def Vl.cells' (v:Vl):List PV:=[.int .i64 v.k,.int .i64 v.i,.str v.s]
end Go.Proofs.YthjnlpfibakacaaGreatDoorPe.Tmpf
set_option linter.unusedVariables false
set_option linter.unusedSimpArgs false
set_option maxRecDepth 1000000
namespace Go.Proofs.YthjnlpfibakacaaGreatDoorPe.Tmpf
open Go Go.Proofs.YthjnlpfibakacaaGreatDoorPe Go.Proofs.YthjnlpfibakacaaGreatDoorPe.TmpfCode
def esc (c:UInt8):List UInt8:=if c=34\/c=92 then [92,c] else [c]
def escs (s:List UInt8):List UInt8:=s.flatMap esc
def quote (s:List UInt8):List UInt8:=34::(escs s++[34])
theorem esc_len (c:UInt8):1<=(esc c).length/\(esc c).length<=2:=by unfold esc; split <;> simp
theorem escs_len : ∀ s:List UInt8,s.length<=(escs s).length/\(escs s).length<=2*s.length
 |[]=>by simp[escs]
 |c::s=>by
  have h1:=esc_len c
  have h2:=escs_len s
  unfold escs at h2 ⊢
  simp only[List.flatMap_cons,List.length_append,List.length_cons]
  omega
theorem code_eq {c:UInt8} {n:Nat} (hn:n<256):((c.toNat:Int)=(n:Int))=(c=UInt8.ofNat n):=toNat_eq hn
theorem drop_at {s:List UInt8} {n:Nat} {c:UInt8} (hc:s[n]? = some c):s.drop n=c::s.drop (n+1):=by
 obtain⟨hlt,rfl⟩:=List.getElem?_eq_some_iff.1 hc
 rw[List.drop_eq_getElem_cons hlt]
theorem quote_loop {s:List UInt8} (hs:s.length<=100000) {K:EX->Fr->St->Option (PV × St)} : ∀ (d n:Nat) (acc:List UInt8) (st:St),s.length-n=d->n<=s.length->acc.length<=2*n+1->Bld 0 acc st ->
  ∃ st',Bld 0 (acc++escs (s.drop n)) st'/\runL (callE efns given) [true,true,false,true,true,false,false] b_val_Quote_0 [.str s,.ptr 0 0,.undef,.int .i64 s.length,.int .i64 n,.undef,.undef] st K =
   K (.exit 0) [.str s,.ptr 0 0,.undef,.int .i64 s.length,.int .i64 s.length,.undef,.undef] st':=by
 intro d
 induction d with
 |zero =>
  intro n acc st hd hn ha hb
  have:n=s.length:=by omega
  subst this
  refine⟨st,by rw[List.drop_length]; simpa [escs] using hb,?_⟩
  rw[runL_eq]
  generalize runL _ _ b_val_Quote_0=L
  simp only[b_val_Quote_0,go_sem,Int.lt_irrefl,if_false]
 |succ d ih =>
  intro n acc st hd hn ha hb
  have hlt:n<s.length:=by omega
  obtain⟨c,hc⟩ : ∃ c,s[n]? = some c:=⟨s[n],List.getElem?_eq_getElem hlt⟩
  have hdr:=drop_at hc
  have w1:IntKind.i64.wrap ((n:Int)+1)=((n+1:Nat):Int):=by rw[IntWalk.i64_in _ (by omega)]; omega
  have c1:(n:Int)<(s.length:Int):=by omega
  have e1:((c.toNat:Int)=34)=(c=34):=code_eq (n:=34) (by decide)
  have e2:((c.toNat:Int)=92)=(c=92):=code_eq (n:=92) (by decide)
  have plain:c≠34->c≠92 -> ∃ st',Bld 0 (acc++escs (s.drop n)) st'/\runL (callE efns given) [true,true,false,true,true,false,false] b_val_Quote_0 [.str s,.ptr 0 0,.undef,.int .i64 s.length,.int .i64 n,.undef,.undef] st K =
   K (.exit 0) [.str s,.ptr 0 0,.undef,.int .i64 s.length,.int .i64 s.length,.undef,.undef] st':=by
   intro h1 h2
   obtain⟨st1,r1,b1,_⟩:=wbyte_ok given (c:=c) hb (by omega)
   obtain⟨st',b',hr⟩:=ih (n+1) (acc++[c]) st1 (by omega) (by omega) (by simp; omega) b1
   refine⟨st',?_,?_⟩
   ·rw[hdr]
    simpa [escs,esc,h1,h2] using b'
   ·rw[runL_eq]
    generalize runL _ _ b_val_Quote_0=L at hr ⊢
    simp only[b_val_Quote_0,go_sem,sidx_at hc,c1,w1,e1,e2,h1,h2,r1,hr]
  have marked:c=34\/c=92 -> ∃ st',Bld 0 (acc++escs (s.drop n)) st'/\runL (callE efns given) [true,true,false,true,true,false,false] b_val_Quote_0 [.str s,.ptr 0 0,.undef,.int .i64 s.length,.int .i64 n,.undef,.undef] st K =
   K (.exit 0) [.str s,.ptr 0 0,.undef,.int .i64 s.length,.int .i64 s.length,.undef,.undef] st':=by
   intro h
   obtain⟨st1,r1,b1,_⟩:=wbyte_ok given (c:=92) hb (by omega)
   obtain⟨st2,r2,b2,_⟩:=wbyte_ok given (c:=c) b1 (by simp; omega)
   have r1':callE efns given f_strings_Builder_WriteByte [.ptr 0 0,.int .u8 92] st=some (.nili,st1):=r1
   obtain⟨st',b',hr⟩:=ih (n+1) (acc++[92]++[c]) st2 (by omega) (by omega) (by simp; omega) b2
   refine⟨st',?_,?_⟩
   ·rw[hdr]
    have:esc c=[92,c]:=by unfold esc; rw[if_pos h]
    simpa [escs,this] using b'
   ·rw[runL_eq]
    generalize runL _ _ b_val_Quote_0=L at hr ⊢
    rcases h with h|h
    ·subst h
     have r2':callE efns given f_strings_Builder_WriteByte [.ptr 0 0,.int .u8 (((34:UInt8).toNat:Nat):Int)] st1=some (.nili,st2):=r2
     simp only[b_val_Quote_0,go_sem,sidx_at hc,c1,w1,e1,e2,r1',r2',hr]
    ·subst h
     have h34 : ¬ (92:UInt8)=34:=by decide
     have r2':callE efns given f_strings_Builder_WriteByte [.ptr 0 0,.int .u8 (((92:UInt8).toNat:Nat):Int)] st1=some (.nili,st2):=r2
     simp only[b_val_Quote_0,go_sem,sidx_at hc,c1,w1,e1,e2,h34,r1',r2',hr]
  by_cases h1:c=34
  ·exact marked (.inl h1)
  ·by_cases h2:c=92
   ·exact marked (.inr h2)
   ·exact plain h1 h2
theorem quote_t {s:List UInt8} (hs:s.length<=100000):tupV (callE efns given) (.call 0 f_val_Quote) [.str s]=some (.str (quote s)):=by
 have hq:(quote s).length<=200002:=by
  have:=escs_len s
  simp[quote]; omega
 obtain⟨st1,r1,b1,_⟩:=wbyte_ok given (c:=34) (Bld.new ⟨[],[],[],[]⟩ rfl rfl) (by simp)
 have r1':callE efns given f_strings_Builder_WriteByte [.ptr 0 0,.int .u8 34] ⟨[[.nilp,.nils]],[],[T_bld],[]⟩=some (.nili,st1):=r1
 have key : ∃ st',callE efns given f_val_Quote [.str s] ⟨[],[],[],[]⟩=some (.str (quote s),st'):=by
  rw[callE_fn efns given (c:=e_val_Quote) rfl rfl]
  simp only[e_val_Quote,go_sem,r1']
  generalize hK:blockK 0 _=K
  obtain⟨st2,b2,hr⟩:=quote_loop hs (K:=K) s.length 0 _ st1 rfl (by omega) (by simp) b1
  rw[List.drop_zero] at b2
  obtain⟨st3,r3,b3,_⟩:=wbyte_ok given (c:=34) b2 (by have:=escs_len s; simp; omega)
  have r3':callE efns given f_strings_Builder_WriteByte [.ptr 0 0,.int .u8 34] st2=some (.nili,st3):=r3
  have e:[]++[34]++escs s++[34]=quote s:=by simp[quote]
  have b3':Bld 0 (quote s) st3:=e ▸ b3
  have r4:=bstring_ok given b3' (by omega)
  refine⟨st3,?_⟩
  refine Eq.trans hr ?_
  rw[<- hK]
  simp only[go_sem,r3',r4]
 obtain⟨st',h⟩:=key
 exact callV_of rfl h rfl
theorem rquote_loop {s:List UInt8} (hs:s.length<=100000) {st:St} {K:EX->Fr->St->Option (PV × St)} : ∀ (d n:Nat) (acc:List UInt8),s.length-n=d->n<=s.length->acc.length<=2*n+1 ->
  runL (callE efns given) [true,true,true] b_ref3_Quote_0 [.str s,.str acc,.int .i64 n] st K=K (.exit 0) [.str s,.str (acc++escs (s.drop n)),.int .i64 s.length] st:=by
 intro d
 induction d with
 |zero =>
  intro n acc hd hn ha
  have:n=s.length:=by omega
  subst this
  rw[runL_eq]
  generalize runL _ _ b_ref3_Quote_0=L
  simp only[b_ref3_Quote_0,go_sem,Int.lt_irrefl,if_false]
  simp[escs]
 |succ d ih =>
  intro n acc hd hn ha
  have hlt:n<s.length:=by omega
  obtain⟨c,hc⟩ : ∃ c,s[n]? = some c:=⟨s[n],List.getElem?_eq_getElem hlt⟩
  have hdr:=drop_at hc
  have w1:IntKind.i64.wrap ((n:Int)+1)=((n+1:Nat):Int):=by rw[IntWalk.i64_in _ (by omega)]; omega
  have c1:(n:Int)<(s.length:Int):=by omega
  have e1:((c.toNat:Int)=34)=(c=34):=code_eq (n:=34) (by decide)
  have e2:((c.toNat:Int)=92)=(c=92):=code_eq (n:=92) (by decide)
  have hsub:ssubV (.str s) (some (.int .i64 (n:Int))) (some (.int .i64 ((n+1:Nat):Int)))=some (.str [c]):=by
   rw[ssub_lh (by omega) (by omega) (by omega)]
   simp only[Int.toNat_natCast]
   rw[List.drop_take,hdr]
   simp
  by_cases hm:c=34\/c=92
  ·have hr:=ih (n+1) (acc++[92]++[c]) (by omega) (by omega) (by simp; omega)
   have he:acc++[92]++[c]++escs (s.drop (n+1))=acc++escs (s.drop n):=by
    rw[hdr]
    have:esc c=[92,c]:=by unfold esc; rw[if_pos hm]
    simp[escs,this]
   rw[he] at hr
   rw[runL_eq]
   generalize runL _ _ b_ref3_Quote_0=L at hr ⊢
   have l1:(acc.length+1<=4611686018427387904)=True:=eq_true (by omega)
   have l2:(acc.length+1+1<=4611686018427387904)=True:=eq_true (by omega)
   by_cases h1:c=34
   ·have t1:((c.toNat:Int)=34)=True:=by rw[e1]; exact eq_true h1
    simp only[b_ref3_Quote_0,go_sem,sidx_at hc,c1,w1,t1,hsub,l1,l2,List.length_append,hr]
   ·have t1:((c.toNat:Int)=34)=False:=by rw[e1]; exact eq_false h1
    have t2:((c.toNat:Int)=92)=True:=by rw[e2]; exact eq_true (hm.resolve_left h1)
    simp only[b_ref3_Quote_0,go_sem,sidx_at hc,c1,w1,t1,t2,hsub,l1,l2,List.length_append,hr]
  ·have hr:=ih (n+1) (acc++[c]) (by omega) (by omega) (by simp; omega)
   have he:acc++[c]++escs (s.drop (n+1))=acc++escs (s.drop n):=by
    rw[hdr]
    have:esc c=[c]:=by unfold esc; rw[if_neg hm]
    simp[escs,this]
   rw[he] at hr
   rw[runL_eq]
   generalize runL _ _ b_ref3_Quote_0=L at hr ⊢
   have l1:(acc.length+1<=4611686018427387904)=True:=eq_true (by omega)
   have t1:((c.toNat:Int)=34)=False:=by rw[e1]; exact eq_false fun h=>hm (.inl h)
   have t2:((c.toNat:Int)=92)=False:=by rw[e2]; exact eq_false fun h=>hm (.inr h)
   simp only[b_ref3_Quote_0,go_sem,sidx_at hc,c1,w1,t1,t2,hsub,l1,List.length_append,hr]
theorem rquote_t {s:List UInt8} (hs:s.length<=100000):tupV (callE efns given) (.call 0 f_ref3_Quote) [.str s]=some (.str (quote s)):=by
 have key:callE efns given f_ref3_Quote [.str s] ⟨[],[],[],[]⟩=some (.str (quote s),⟨[],[],[],[]⟩):=by
  rw[callE_fn efns given (c:=e_ref3_Quote) rfl rfl]
  simp only[e_ref3_Quote,go_sem]
  generalize hK:blockK 0 _=K
  have hr:=rquote_loop hs (st:=⟨[],[],[],[]⟩) (K:=K) s.length 0 [34] rfl (by omega) (by simp)
  refine Eq.trans hr ?_
  have he:=escs_len s
  have l1:((escs s).length+1+1<=4611686018427387904)=True:=eq_true (by omega)
  rw[<- hK,List.drop_zero]
  simp only[go_sem,l1]
  rfl
 exact callV_of rfl key rfl
def textV (v:Vl):List UInt8:=if v.k=1 then text v.i else if v.k=3 then quote v.s else v.s
theorem textV_t (v:Vl) (hs:v.s.length<=100000) (hi:I64 v.i):tupV (callE efns given) (.call 0 f_val_Text) [v.p]=some (.str (textV v)):=by
 have q:=quote_t hs
 have hq:(quote v.s).length<=281474976710656:=by
  have:=escs_len v.s
  simp[quote]; omega
 have c1:=clone_ok hq ⟨[],[],[],[]⟩
 have c2:=clone_ok (s:=v.s) (by omega) ⟨[],[],[],[]⟩
 have c1':tupV (callE efns given) (.call 0 f_strings_Clone) [.str (quote v.s)]=some (.str (quote v.s)):=callV_of rfl c1 rfl
 have c2':tupV (callE efns given) (.call 0 f_strings_Clone) [.str v.s]=some (.str v.s):=callV_of rfl c2 rfl
 have n':tupV (callE efns given) (.call 0 f_num_Text) [.int .i64 v.i]=some (.str (text v.i)):=callV_of rfl (text_ok hi ⟨[],[],[],[]⟩) rfl
 have key : ∃ st,callE efns given f_val_Text [v.p] ⟨[],[],[],[]⟩=some (.str (textV v),st):=by
  refine⟨⟨[v.cells'],[],[T_val_Text_0],[]⟩,?_⟩
  rw[callE_fn efns given (c:=e_val_Text) rfl rfl]
  unfold textV
  obtain⟨k,i,s⟩:=v
  by_cases h1:k=1
  ·subst h1
   simp only[e_val_Text,Vl.p,Vl.cells',go_sem,n']
  ·by_cases h3:k=3
   ·subst h3
    simp only[e_val_Text,Vl.p,Vl.cells',go_sem,q,c1']
   ·by_cases h2:k=2
    ·subst h2
     simp only[e_val_Text,Vl.p,Vl.cells',go_sem,c2']
    ·simp only[e_val_Text,Vl.p,Vl.cells',go_sem,h1,h2,h3]
 obtain⟨st,h⟩:=key
 exact callV_of rfl h rfl
theorem rtextV_t (v:Vl) (hs:v.s.length<=100000) (hi:I64 v.i):tupV (callE efns given) (.call 0 f_ref3_Text) [v.p]=some (.str (textV v)):=by
 have q:=rquote_t hs
 have n':tupV (callE efns given) (.call 0 f_ref1_Text) [.int .i64 v.i]=some (.str (text v.i)):=callV_of rfl (rtext_ok hi ⟨[],[],[],[]⟩) rfl
 have key : ∃ st,callE efns given f_ref3_Text [v.p] ⟨[],[],[],[]⟩=some (.str (textV v),st):=by
  refine⟨⟨[v.cells'],[],[T_ref3_Text_0],[]⟩,?_⟩
  rw[callE_fn efns given (c:=e_ref3_Text) rfl rfl]
  unfold textV
  obtain⟨k,i,s⟩:=v
  by_cases h1:k=1
  ·subst h1
   simp only[e_ref3_Text,Vl.p,Vl.cells',go_sem,n']
  ·by_cases h3:k=3
   ·subst h3
    simp only[e_ref3_Text,Vl.p,Vl.cells',go_sem,q]
   ·simp only[e_ref3_Text,Vl.p,Vl.cells',go_sem,h1,h3]
 obtain⟨st,h⟩:=key
 exact callV_of rfl h rfl
end Go.Proofs.YthjnlpfibakacaaGreatDoorPe.Tmpf
set_option linter.unusedVariables false
set_option linter.unusedSimpArgs false
set_option maxRecDepth 1000000
namespace Go.Proofs.YthjnlpfibakacaaGreatDoorPe.Tmpf
open Go Go.Proofs.YthjnlpfibakacaaGreatDoorPe Go.Proofs.YthjnlpfibakacaaGreatDoorPe.TmpfCode
theorem text_lenV {n:Int} (hn:I64 n):(text n).length<=21:=by
 rw[text_eq (by omega) (by omega)]
 unfold Lib.itoa
 split
 ·have:=decDigits_len 19 n.natAbs (by omega)
  simp; omega
 ·have:=decDigits_len 19 n.toNat (by omega)
  omega
def Small (v:Vl):Prop:=I64 v.k/\I64 v.i/\v.s.length<=1100
theorem rows_loop {a b:List Vl} (hab:a.length=b.length) (hl:a.length<=20) {st:St} {K:EX->Fr->St->Option (PV × St)} : ∀ (d n:Nat),a.length-n=d->n<=a.length -> ∃ i,
  runL (callE efns given) [true,true,true] b_ref3_Rows_0 [.lst (a.map Vl.p),.lst (b.map Vl.p),.int .i64 n] st K =
   if a.drop n=b.drop n then K (.exit 0) [.lst (a.map Vl.p),.lst (b.map Vl.p),i] st else K (.ret (.bool false)) [] st:=by
 intro d
 induction d with
 |zero =>
  intro n hd hn
  have:n=a.length:=by omega
  subst this
  refine⟨.int .i64 a.length,?_⟩
  rw[runL_eq,List.drop_length,hab,List.drop_length]
  generalize runL _ _ b_ref3_Rows_0=L
  have hlen:unV .len (.lst (a.map Vl.p))=some (.int .i64 a.length):=by
   show some (PV.int .i64 ((a.map Vl.p).length:Nat))=_
   simp
  simp only[b_ref3_Rows_0,go_sem,hlen,<- hab,Int.lt_irrefl,if_false,if_true]
 |succ d ih =>
  intro n hd hn
  have hlt:n<a.length:=by omega
  have hlt':n<b.length:=by omega
  obtain⟨i,hr⟩:=ih (n+1) (by omega) (by omega)
  refine⟨i,?_⟩
  have ga:(a.map Vl.p)[n]? = some (a[n]).p:=by simp[hlt]
  have gb:(b.map Vl.p)[n]? = some (b[n]).p:=by simp[hlt']
  have hlen:unV .len (.lst (a.map Vl.p))=some (.int .i64 a.length):=by
   show some (PV.int .i64 ((a.map Vl.p).length:Nat))=_
   simp
  have w1:IntKind.i64.wrap ((n:Int)+1)=((n+1:Nat):Int):=by rw[IntWalk.i64_in _ (by omega)]; omega
  have c1:((n:Int)<(a.length:Int))=True:=eq_true (by omega)
  have e1:=idx_at (n:=3) ga rfl
  have e2:=idx_at (n:=3) gb rfl
  have hs:=rsame_t given a[n] b[n]
  rw[runL_eq,List.drop_eq_getElem_cons hlt,List.drop_eq_getElem_cons hlt']
  simp only[List.cons.injEq]
  generalize a[n]=x at *
  generalize b[n]=y at *
  generalize runL _ _ b_ref3_Rows_0=L at hr ⊢
  simp only[Vl.p] at hs e1 e2
  by_cases hxy:x=y
  ·simp only[hxy,decide_true] at hs e1
   simp only[b_ref3_Rows_0,go_sem,hlen,c1,e1,e2,hs,w1,hr,hxy]
  ·simp only[b_ref3_Rows_0,go_sem,hlen,c1,e1,e2,hs,hxy]
theorem rows_t {a b:List Vl} (hl:a.length<=20) (hl':b.length<=20):tupV (callE efns given) (.call 0 f_ref3_Rows) [.lst (a.map Vl.p),.lst (b.map Vl.p)]=some (.bool (decide (a=b))):=by
 have key : ∃ st',callE efns given f_ref3_Rows [.lst (a.map Vl.p),.lst (b.map Vl.p)] ⟨[],[],[],[]⟩=some (.bool (decide (a=b)),st'):=by
  have hlen : ∀ a:List Vl,unV .len (.lst (a.map Vl.p))=some (.int .i64 a.length):=fun a=>by
   show some (PV.int .i64 ((a.map Vl.p).length:Nat))=_
   simp
  refine⟨⟨[],[],[],[]⟩,?_⟩
  rw[callE_fn efns given (c:=e_ref3_Rows) rfl rfl]
  by_cases hab:a.length=b.length
  ·have c1:((a.length:Int)≠(b.length:Int))=False:=eq_false (by omega)
   simp only[e_ref3_Rows,go_sem,hlen,c1]
   generalize hK:blockK 0 _=K
   obtain⟨i,hr⟩:=rows_loop hab hl (st:=⟨[],[],[],[]⟩) (K:=K) a.length 0 rfl (by omega)
   refine Eq.trans hr ?_
   rw[List.drop_zero,List.drop_zero,<- hK]
   by_cases h:a=b
   ·simp only[h,if_true,go_sem]
   ·simp only[h,if_false,go_sem]
  ·have c1:((a.length:Int)≠(b.length:Int))=True:=eq_true (by omega)
   have : ¬ a=b:=fun h=>hab (by rw[h])
   simp only[e_ref3_Rows,go_sem,hlen,c1,this]
 obtain⟨st',h⟩:=key
 exact callV_of rfl h rfl
end Go.Proofs.YthjnlpfibakacaaGreatDoorPe.Tmpf
