/- A part of the proof of this folder's statement; it has no condition of its own. -/
import Derived.Test.YthjnlpfibakacaaGreatDoorTmplRm
set_option linter.unusedVariables false
set_option linter.unusedSimpArgs false
set_option maxRecDepth 100000
namespace Go.Proofs.YthjnlpfibakacaaGreatDoorPe.Tmpl
open Go Go.Proofs Go.Proofs.YthjnlpfibakacaaGreatDoorPe Go.Proofs.YthjnlpfibakacaaGreatDoorPe.TmplCode
theorem svalue_t (n:Nd):tupV (callE efns given) (.call 0 f_sexp_Value) [n.p]=some (valV (valM n)):=by
 rw[Nd.p_eq]
 refine call_good (f:=f_sexp_Value) rfl ?_
 rw[callE_fn efns given (c:=e_sexp_Value) rfl rfl]
 unfold valM
 by_cases h1:n.k=1
 ·simp only[e_sexp_Value,go_sem,Nd.cells,h1]
  exact Good.done rfl
 ·by_cases h2:n.k=2
  ·simp only[e_sexp_Value,go_sem,Nd.cells,h2]
   exact Good.done rfl
  ·by_cases h3:n.k=3
   ·simp only[e_sexp_Value,go_sem,Nd.cells,h3]
    exact Good.done rfl
   ·simp only[e_sexp_Value,go_sem,Nd.cells,h1,h2,h3]
    exact Good.done rfl
theorem shead_t (n:Nd):tupV (callE efns given) (.call 0 f_sexp_Head) [n.p]=some (.str (headM n)):=by
 rw[Nd.p_eq]
 refine call_good (f:=f_sexp_Head) rfl ?_
 rw[callE_fn efns given (c:=e_sexp_Head) rfl rfl]
 unfold headM
 by_cases h0:n.k=0
 ·cases hk:n.kids with
  |nil =>
   simp only[e_sexp_Head,go_sem,Nd.cells,h0,hk,ne_eq,List.length_nil,List.map_nil]
   exact Good.done rfl
  |cons x l =>
   have c:((((List.map Nd.p l).length+1:Nat):Int)=0)=False:=eq_false (by omega)
   by_cases h2:x.k=2
   ·simp only[e_sexp_Head,go_sem,Nd.cells,h0,hk,h2,c,Nd.at0,ne_eq]
    exact Good.done rfl
   ·simp only[e_sexp_Head,go_sem,Nd.cells,h0,hk,h2,c,Nd.at0,ne_eq]
    exact Good.done rfl
 ·simp only[e_sexp_Head,go_sem,Nd.cells,h0,ne_eq]
  exact Good.done rfl
end Go.Proofs.YthjnlpfibakacaaGreatDoorPe.Tmpl
set_option linter.unusedVariables false
set_option linter.unusedSimpArgs false
set_option maxRecDepth 100000
namespace Go.Proofs.YthjnlpfibakacaaGreatDoorPe.Tmpl
open Go Go.Proofs Go.Proofs.YthjnlpfibakacaaGreatDoorPe Go.Proofs.YthjnlpfibakacaaGreatDoorPe.TmplCode
inductive Wf:Nd->Prop where
 |leaf (k pos i:Int) (s:List UInt8) (h:TokK ⟨k,i,s⟩) (h4 : ¬ k=4) (h5 : ¬ k=5) (h8 : ¬ k=8):Wf (.mk k pos i s [])
 |no (pos:Int) (k p i:Int) (s:List UInt8) (h:TokK ⟨k,i,s⟩) (h4 : ¬ k=4) (h5 : ¬ k=5) (h8 : ¬ k=8):Wf (.mk 8 pos 0 [] [.mk k p i s []])
 |list (pos:Int) (l:List Nd) (h : ∀ x,x∈l->Wf x):Wf (.mk 0 pos 0 [] l)
theorem Wf.kids {x:Nd} (h:Wf x) : ∀ y∈x.kids,Wf y:=by
 cases h with
 |leaf=>intro y hy; cases hy
 |no pos k p i s h h4 h5 h8 =>
  intro y hy
  simp only[Nd.kids,List.mem_singleton] at hy
  subst hy
  exact .leaf k p i s h h4 h5 h8
 |list pos l h=>exact h
end Go.Proofs.YthjnlpfibakacaaGreatDoorPe.Tmpl
set_option linter.unusedVariables false
set_option linter.unusedSimpArgs false
set_option maxRecDepth 100000
namespace Go.Proofs.YthjnlpfibakacaaGreatDoorPe.Tmpl
open Go Go.Proofs Go.Proofs.YthjnlpfibakacaaGreatDoorPe Go.Proofs.YthjnlpfibakacaaGreatDoorPe.TmplCode
def wordE (e:Int):List UInt8:=[[111,107],[97,114,103],[102,111,114,109],[115,104,111,114,116],[108,111,110,103],[110,97,109,101],[116,119,105,99,101],[98,111,117,110,100],[116,121,112,101],[102,117,101,108],[102,117,108,108],[114,97,110,103,101]].getD e.toNat []
theorem upto {p:Int->Prop} (h:p 1/\p 2/\p 3/\p 4/\p 5/\p 6/\p 7/\p 8/\p 9/\p 10/\p 11) {e:Int} (h1:1<=e) (h2:e<=11):p e:=by
 obtain⟨a1,a2,a3,a4,a5,a6,a7,a8,a9,a10,a11⟩:=h
 rcases (by omega:e=1\/e=2\/e=3\/e=4\/e=5\/e=6\/e=7\/e=8\/e=9\/e=10\/e=11) with rfl|rfl|rfl|rfl|rfl|rfl|rfl|rfl|rfl|rfl|rfl <;> assumption
theorem wordE_len {e:Int} (h1:1<=e) (h2:e<=11):(wordE e).length<=5:=upto (p:=fun e=>(wordE e).length<=5) (by decide) h1 h2
theorem run_a {f:FuncId} {n:Int} {r:List UInt8} (k:Nat) (h:evFE efns given k f [.int .i64 n] ⟨[],[],[],[]⟩=some (.str r,⟨[],[],[],[]⟩)):tupV (callE efns given) (.call 0 f) [.int .i64 n]=some (.str r):=callV_of rfl ((callE_some efns given).2 ⟨k,h⟩) rfl
theorem mapO_one {f:PV->Option PV} {a b:PV} (h:f a=some b):mapO f [a]=some [b]:=mS h mN
theorem errno_t {e:Int} (h1:1<=e) (h2:e<=11):tupV (callE efns given) (.call 0 f_api_Errno_Error) [.int .i64 e]=some (.str (wordE e)) :=
 upto (p:=fun e=>tupV (callE efns given) (.call 0 f_api_Errno_Error) [.int .i64 e]=some (.str (wordE e)))
  ⟨run_a 20 (by kernel_rfl),run_a 20 (by kernel_rfl),run_a 20 (by kernel_rfl),run_a 20 (by kernel_rfl),run_a 20 (by kernel_rfl),run_a 20 (by kernel_rfl),run_a 20 (by kernel_rfl),run_a 20 (by kernel_rfl),run_a 20 (by kernel_rfl),run_a 20 (by kernel_rfl),run_a 20 (by kernel_rfl)⟩ h1 h2
theorem word_t {e:Int} (h1:1<=e) (h2:e<=11):tupV (callE efns given) (.call 0 f_ref5_Word) [.int .i64 e]=some (.str (wordE e)) :=
 upto (p:=fun e=>tupV (callE efns given) (.call 0 f_ref5_Word) [.int .i64 e]=some (.str (wordE e)))
  ⟨run_a 20 (by kernel_rfl),run_a 20 (by kernel_rfl),run_a 20 (by kernel_rfl),run_a 20 (by kernel_rfl),run_a 20 (by kernel_rfl),run_a 20 (by kernel_rfl),run_a 20 (by kernel_rfl),run_a 20 (by kernel_rfl),run_a 20 (by kernel_rfl),run_a 20 (by kernel_rfl),run_a 20 (by kernel_rfl)⟩ h1 h2
theorem itoa_t {n:Int} (hn:I64 n):tupV (callE efns given) (.call 0 f_strconv_Itoa) [.int .i64 n]=some (.str (text n)):=by
 refine call_good (f:=f_strconv_Itoa) rfl ?_
 have h1:tupV (callE efns given) (.call 0 f_internal_strconv_FormatInt) [.int .i64 n,.int .i64 10]=some (.str (text n)):=callV_of rfl (ifmt_ok hn ⟨[],[],[],[]⟩) rfl
 have h2:tupV (callE efns given) (.call 0 f_internal_strconv_Itoa) [.int .i64 n]=some (.str (text n)):=by
  refine call_good (f:=f_internal_strconv_Itoa) rfl ?_
  rw[callE_fn efns given (c:=e_internal_strconv_Itoa) rfl rfl]
  simp only[e_internal_strconv_Itoa,go_sem,h1]
  exact Good.done rfl
 rw[callE_fn efns given (c:=e_strconv_Itoa) rfl rfl]
 simp only[e_strconv_Itoa,go_sem,h2]
 exact Good.done rfl
theorem rnum_t {n:Int} (hn:I64 n):tupV (callE efns given) (.call 0 f_ref1_Text) [.int .i64 n]=some (.str (text n)):=callV_of rfl (rtext_ok hn ⟨[],[],[],[]⟩) rfl
abbrev Parts:=List (List UInt8 × Int)
def partP (x:List UInt8 × Int):PV:=.agg [.str x.1,.int .i64 x.2]
def partT (x:List UInt8 × Int):List UInt8:=x.1++32::(text x.2++[58,32])
def toldP (l:Parts):List UInt8:=(l.map partT).flatten
def GoodP (l:Parts):Prop := ∀ x∈l,x.1.length<=50/\I64 x.2
theorem toldP_len : ∀ {l:Parts},GoodP l->(toldP l).length<=80*l.length
 |[],_=>by simp[toldP]
 |x::l,h=>by
  have h1:=h x (List.mem_cons_self ..)
  have h2:=text_len h1.2
  have h3:=toldP_len (l:=l) fun y hy=>h y (List.mem_cons_of_mem _ hy)
  simp only[toldP,List.map_cons,List.flatten_cons,List.length_append,List.length_cons,partT,List.length_nil] at h3 ⊢
  omega
theorem errP_nil (l:Parts) (e:Int):biV (.eqs 1 true) (errP l e) .nili=some (.bool true):=by cases l <;> rfl
theorem errP_nil2 (l:Parts) (e:Int):biV (.eqs 1 false) (errP l e) .nili=some (.bool false):=by cases l <;> rfl
theorem last_t {e:Int} (h1:1<=e) (h2:e<=11):tupV (callE efns given) (.call 0 f_sexp_last) [errP [] e]=some (.str (wordE e)):=by
 refine call_good (f:=f_sexp_last) rfl ?_
 rw[callE_fn efns given (c:=e_sexp_last) rfl rfl]
 have ha:callE efns given f_errors_As [.iface Errs.tE (.int .i64 e),.iface T_sexp_last_1 (.ptr 0 0)] ⟨[[.int .i64 0]],[],[T_sexp_last_0],[]⟩=some (.bool true,⟨[[.int .i64 e]],[],[T_sexp_last_0],[]⟩) :=
  as_t (x:=.iface Errs.tE (.int .i64 e)) (y:=.int .i64 e) rfl rfl ⟨rfl,rfl⟩ rfl (by decide)
 have he:=errno_t h1 h2
 show Good _ (runE _ _ _ _ _)
 simp only[e_sexp_last,go_sem,errP,ha,he]
 exact Good.done rfl
theorem told_t {l:Parts} {e:Int} (hl:l.length<=20) (hg:GoodP l) (h1:1<=e) (h2:e<=11):tupV (callE efns given) (.call 0 f_sexp_Told) [errP l e]=some (.str (toldP l++wordE e)):=by
 refine call_good (f:=f_sexp_Told) (mapO_one (errP_shut l e)) ?_
 rw[callE_fn efns given (c:=e_sexp_Told) rfl rfl]
 have hwl:=wordE_len h1 h2
 have htl:=toldP_len hg
 simp only[e_sexp_Told,go_sem]
 refine Good.loop (fun l':Parts=>l'.length) (fun l' fr st => ∃ out,fr=[errP l' e,.str out,.undef,.undef,.undef,.undef,.undef,.undef,.undef,.undef]/\st.bt.length=st.boxes.length/\out++toldP l'=toldP l/\GoodP l') ?_ l ?_
 ·rintro l' fr ⟨bs,rows,bt,rt⟩ ⟨out,rfl,hbt,ho,hg'⟩ k hk
  simp only at hbt
  have hn:=errP_nil l' e
  have hb1 : ∀ x y:PV,(bs++[[x]])[bs.length]? = some [x]:=fun x y=>by simp
  have hbT:(bt++[T_sexp_Told_0])[bs.length]? ≠ some hsT:=by rw[<- hbt]; simp; decide
  have hol:=congrArg List.length ho
  rw[List.length_append] at hol
  cases l' with
  |nil =>
   have ha:callE efns given f_errors_As [errP [] e,.iface T_sexp_Told_1 (.ptr bs.length 0)] ⟨bs++[[.nilp]],rows,bt++[T_sexp_Told_0],rt⟩=some (.bool false,⟨bs++[[.nilp]],rows,bt++[T_sexp_Told_0],rt⟩) :=
    as_f (x:=errP [] e) (k:=bs.length) (p:=.nilp) rfl rfl (by simp) hbT
   have hlast:=last_t h1 h2
   have c1:(out.length+(wordE e).length<=4611686018427387904)=True:=eq_true (by omega)
   simp only[b_sexp_Told_0,go_sem,hn,ha,hlast,c1]
   refine Good.done ?_
   rw[<- ho]
   simp[toldP]
   rfl
  |cons x l2 =>
   obtain⟨w,a⟩:=x
   obtain⟨hw,hI⟩:=hg' (w,a) (List.mem_cons_self ..)
   simp only at hw hI
   have hg2:GoodP l2:=fun y hy=>hg' y (List.mem_cons_of_mem _ hy)
   have ha:callE efns given f_errors_As [errP ((w,a)::l2) e,.iface T_sexp_Told_1 (.ptr bs.length 0)] ⟨bs++[[.nilp]],rows,bt++[T_sexp_Told_0],rt⟩=some (.bool true,⟨bs++[[.ref [.str w,.int .i64 a,errP l2 e]]],rows,bt++[T_sexp_Told_0],rt⟩):=by
    have:=as_t (x:=errP ((w,a)::l2) e) (t:=T_sexp_Told_1) (r:=.bool true) (y:=.ref [.str w,.int .i64 a,errP l2 e]) (k:=bs.length) (p:=.nilp) (st:=⟨bs++[[.nilp]],rows,bt++[T_sexp_Told_0],rt⟩) rfl rfl ⟨rfl,rfl⟩ (by simp) hbT
    rw[this]
    simp
    rfl
   have hn2:=errP_nil l2 e
   have hti:=itoa_t hI
   have htx:=text_len hI
   have c1:(w.length+1<=4611686018427387904)=True:=eq_true (by omega)
   have c2:(w.length+1+(text a).length<=4611686018427387904)=True:=eq_true (by omega)
   have c3:(out.length+(w.length+1+(text a).length)<=4611686018427387904)=True:=eq_true (by omega)
   have c4:(out.length+(w.length+1+(text a).length)+2<=4611686018427387904)=True:=eq_true (by omega)
   simp only[b_sexp_Told_0,go_sem,hn,ha,hn2,hti,c1,c2,c3,c4,List.length_cons,List.length_nil]
   rw[if_pos (by omega),if_pos (by omega)]
   refine hk l2 _ _ (Nat.lt_succ_self _) ⟨_,rfl,?_,?_,hg2⟩
   ·simp[hbt]
   ·rw[<- ho]
    simp[toldP,partT]
 ·exact⟨[],rfl,rfl,rfl,hg⟩
theorem number_t {l:Parts} {e:Int} (hl:l.length<=20) (h1:1<=e) (h2:e<=11):tupV (callE efns given) (.call 0 f_sexp_Number) [errP l e]=some (.int .i64 e):=by
 refine call_good (f:=f_sexp_Number) (mapO_one (errP_shut l e)) ?_
 rw[callE_fn efns given (c:=e_sexp_Number) rfl rfl]
 have hn:=errP_nil2 l e
 have hi : ∀ m,tupV (callE efns given) (.call 0 f_errors_Is) [errP l e,.iface T_sexp_Number_0 (.int .i64 m)]=some (.bool (e==m)):=fun m=>isN_t l e m (by omega)
 simp only[e_sexp_Number,go_sem,hn]
 refine Good.loop (fun n:Nat=>12-n) (fun n fr st=>fr=[errP l e,.int .i64 (n:Int),.undef,.undef]/\1<=n/\(n:Int)<=e) ?_ 1 ?_
 ·rintro n fr st ⟨rfl,hn1,hn2⟩ k hk
  have c1:((n:Int)<=11)=True:=eq_true (by omega)
  by_cases he:e=(n:Int)
  ·have hb:(e==(n:Int))=true:=by simpa using he
   simp only[b_sexp_Number_0,go_sem,c1,hi,hb]
   exact Good.done (by rw[he]; rfl)
  ·have hb:(e==(n:Int))=false:=by simpa using he
   simp only[b_sexp_Number_0,go_sem,c1,hi,hb,wrapN (n:=n) (by omega)]
   exact hk (n+1) _ _ (by omega) ⟨rfl,by omega,by omega⟩
 ·exact⟨rfl,Nat.le_refl _,h1⟩
theorem rtold_t {l:Parts} {e:Int} (hl:l.length<=20) (hg:GoodP l) (h1:1<=e) (h2:e<=11):tupV (callE efns given) (.call 0 f_ref5_Told) [.agg [.lst (l.map partP),.int .i64 e]]=some (.str (toldP l++wordE e)):=by
 refine call_good (f:=f_ref5_Told) rfl ?_
 rw[callE_fn efns given (c:=e_ref5_Told) rfl rfl]
 have hwl:=wordE_len h1 h2
 have htl:=toldP_len hg
 have e0 : ¬ e=0:=by omega
 have hw:=word_t h1 h2
 simp only[e_ref5_Told,go_sem,eq_false e0]
 refine Good.for l.length (fun n fr st=>fr=[.undef,.ptr 0 0,.str (toldP (l.take n)),.int .i64 (n:Int),.undef,.undef,.undef,.undef,.undef]/\st=⟨[[.lst (l.map partP),.int .i64 e]],[],[T_ref5_Told_0],[]⟩) ?_ ?_ ?_
 ·rintro n fr st hn ⟨rfl,rfl⟩ k hk
  have c1:((n:Int)<(l.length:Int))=True:=eq_true (by omega)
  have hat:evIdx 2 (l.map partP) (n:Int)=some (.ref [.str l[n].1,.int .i64 l[n].2]):=idx_of (e:=partP l[n]) (map_at hn) rfl
  obtain⟨hw1,hI⟩:=hg l[n] (List.getElem_mem hn)
  have hti:=rnum_t hI
  have htx:=text_len hI
  have h3:toldP (l.take (n+1))=toldP (l.take n)++partT l[n]:=by
   unfold toldP
   rw[take_succ_at hn,List.map_append,List.flatten_append]
   simp
  have h4:(toldP (l.take n)).length<=1600:=by
   have:=toldP_len (l:=l.take n) fun y hy=>hg y (List.mem_of_mem_take hy)
   rw[List.length_take] at this
   omega
  generalize l[n]=x at hat hw1 hI hti htx h3
  obtain⟨w,a⟩:=x
  simp only at hat hw1 hI hti htx
  generalize hT:toldP (l.take n)=T at h3 h4
  have d1:(T.length+w.length<=4611686018427387904)=True:=eq_true (by omega)
  have d2:(T.length+w.length+1<=4611686018427387904)=True:=eq_true (by omega)
  have d3:(T.length+w.length+1+(text a).length<=4611686018427387904)=True:=eq_true (by omega)
  have d4:(T.length+w.length+1+(text a).length+2<=4611686018427387904)=True:=eq_true (by omega)
  simp only[b_ref5_Told_0,go_sem,List.length_map,c1,hat,hti,d1,d2,d3,d4,wrapN (n:=n) (by omega),List.length_cons,List.length_nil]
  rw[if_pos (by omega),if_pos (by omega)]
  refine hk _ _ ⟨?_,rfl⟩
  rw[h3]
  simp[partT]
 ·rintro fr st ⟨rfl,rfl⟩ k
  rw[List.take_length]
  have d1:((toldP l).length+(wordE e).length<=4611686018427387904)=True:=eq_true (by omega)
  simp only[b_ref5_Told_0,go_sem,List.length_map,Int.lt_irrefl,hw,d1]
  exact Good.done rfl
 ·exact⟨rfl,rfl⟩
theorem tells_t {l:Parts} {e:Int} (hl:l.length<=20) (hg:GoodP l) (h1:1<=e) (h2:e<=11):tupV (callE efns given) (.call 0 f_law5_Tells) [errP l e,.agg [.lst (l.map partP),.int .i64 e]]=some (.bool true):=by
 refine call_good (f:=f_law5_Tells) (mapO_two (errP_shut l e) (d:=.agg [.lst (l.map partP),.int .i64 e]) rfl) ?_
 rw[callE_fn efns given (c:=e_law5_Tells) rfl rfl]
 have e0 : ¬ e=0:=by omega
 have hn2:=errP_nil2 l e
 have ht:=told_t hl hg h1 h2
 have hr:=rtold_t hl hg h1 h2
 have hnum:=number_t hl h1 h2
 have hi:tupV (callE efns given) (.call 0 f_errors_Is) [errP l e,.iface T_law5_Tells_2 (.int .i64 e)]=some (.bool (e==e)):=isN_t l e e (by omega)
 have hb:(e==e)=true:=by simp
 rw[hb] at hi
 cases l with
 |nil =>
  have ha:callE efns given f_errors_As [errP [] e,.iface T_law5_Tells_3 (.ptr 1 0)] ⟨[[.lst [],.int .i64 e],[.nilp]],[],[T_law5_Tells_0,T_law5_Tells_1],[]⟩=some (.bool false,⟨[[.lst [],.int .i64 e],[.nilp]],[],[T_law5_Tells_0,T_law5_Tells_1],[]⟩) :=
   as_f (x:=errP [] e) (k:=1) (p:=.nilp) rfl rfl rfl (by show some T_law5_Tells_1≠some hsT; decide)
  simp only[List.map_nil] at hr ⊢
  simp only[e_law5_Tells,go_sem,eq_false e0,hn2,ht,hr,hnum,hi,ha,ne_eq,List.length_nil]
  exact Good.done rfl
 |cons x l2 =>
  obtain⟨w,a⟩:=x
  have ha:callE efns given f_errors_As [errP ((w,a)::l2) e,.iface T_law5_Tells_3 (.ptr 1 0)] ⟨[[.lst (partP (w,a)::l2.map partP),.int .i64 e],[.nilp]],[],[T_law5_Tells_0,T_law5_Tells_1],[]⟩=some (.bool true,⟨[[.lst (partP (w,a)::l2.map partP),.int .i64 e],[.ref [.str w,.int .i64 a,errP l2 e]]],[],[T_law5_Tells_0,T_law5_Tells_1],[]⟩) :=
   as_t (x:=errP ((w,a)::l2) e) (t:=T_law5_Tells_3) (r:=.bool true) (y:=.ref [.str w,.int .i64 a,errP l2 e]) (k:=1) (p:=.nilp) rfl rfl ⟨rfl,rfl⟩ rfl (by show some T_law5_Tells_1≠some hsT; decide)
  have hat:evIdx 2 (partP (w,a)::l2.map partP) 0=some (.ref [.str w,.int .i64 a]):=rfl
  have c0:((((l2.map partP).length+1:Nat):Int)=0)=False:=eq_false (by omega)
  simp only[List.map_cons] at hr ⊢
  simp only[e_law5_Tells,go_sem,eq_false e0,hn2,ht,hr,hnum,hi,ha,ne_eq,hat,c0]
  exact Good.done rfl
end Go.Proofs.YthjnlpfibakacaaGreatDoorPe.Tmpl
set_option linter.unusedVariables false
set_option linter.unusedSimpArgs false
set_option maxRecDepth 100000
namespace Go.Proofs.YthjnlpfibakacaaGreatDoorPe.Tmpl
open Go Go.Proofs Go.Proofs.YthjnlpfibakacaaGreatDoorPe Go.Proofs.YthjnlpfibakacaaGreatDoorPe.TmplCode
def WfR (r:Rd):Prop:=(∀ x∈r.out,Wf x) /\ ∀ s∈r.stk,∀ x∈s.2,Wf x
theorem put_wf {x:Nd} {stk:Stk} {out:List Nd} {n m:Nat} (hx:Wf x) (h:WfR ⟨n,stk,out⟩):WfR ⟨m,(putM x stk out).1,(putM x stk out).2⟩:=by
 obtain⟨h1,h2⟩:=h
 cases stk with
 |nil =>
  refine⟨fun y hy => ?_,fun s hs=>(by cases hs)⟩
  rcases List.mem_append.1 hy with hy|hy
  ·exact h1 y hy
  ·rw[List.mem_singleton.1 hy]; exact hx
 |cons s r =>
  obtain⟨a,ks⟩:=s
  refine⟨h1,fun s hs y hy => ?_⟩
  rcases List.mem_cons.1 hs with rfl|hs
  ·rcases List.mem_append.1 hy with hy|hy
   ·exact h2 (a,ks) (List.mem_cons_self ..) y hy
   ·rw[List.mem_singleton.1 hy]; exact hx
  ·exact h2 s (List.mem_cons_of_mem _ hs) y hy
theorem step_wf {t:Tok} {ts:List Tok} {r:Rd} {q:Nat × Rd} (ht : ∀ u∈t::ts,TokK u.tk) (h:WfR r) (hq:stepM t ts r = .ok q):WfR q.2:=by
 obtain⟨n,stk,out⟩:=r
 have htk:=ht t (List.mem_cons_self ..)
 unfold stepM at hq
 split at hq
 ·split at hq
  ·cases hq
  ·split at hq
   ·cases hq
   ·rename_i u us
    have hu:=ht u (List.mem_cons_of_mem _ (List.mem_cons_self ..))
    split at hq
    ·cases hq
    ·rename_i hk
     split at hq
     ·cases hq
     ·cases hq
      exact put_wf (.no _ _ _ _ _ hu (fun e=>hk (.inl e)) (fun e=>hk (.inr (.inl e))) fun e=>hk (.inr (.inr e))) h
 ·rename_i h8
  split at hq
  ·split at hq
   ·cases hq
   ·split at hq
    ·cases hq
    ·cases hq
     refine⟨h.1,fun s hs y hy => ?_⟩
     rcases List.mem_cons.1 hs with rfl|hs
     ·cases hy
     ·exact h.2 s hs y hy
  ·rename_i h4
   split at hq
   ·split at hq
    ·cases hq
    ·rename_i a ks s hs
     simp only at hs
     subst hs
     cases hq
     exact put_wf (.list _ _ (h.2 (a,ks) (List.mem_cons_self ..))) (n:=n) ⟨h.1,fun s' hs'=>h.2 s' (List.mem_cons_of_mem _ hs')⟩
   ·rename_i h5
    split at hq
    ·cases hq
    ·cases hq
     exact put_wf (.leaf _ _ _ _ htk h4 h5 h8) h
theorem run_wf : ∀ (f:Nat) (l:List Tok) (r:Rd) (res:List Nd),(∀ t∈l,TokK t.tk)->WfR r->runM f l r = .ok res -> ∀ x∈res,Wf x
 |0,_,_,_,_,_,h=>by unfold runM at h; cases h
 |f+1,l,r,res,ht,hw,h=>by
  unfold runM at h
  cases l with
  |nil =>
   simp only at h
   unfold endM at h
   split at h
   ·cases h; exact hw.1
   ·cases h
  |cons t ts =>
   simp only at h
   split at h
   ·cases h
   ·rename_i q hq
    exact run_wf f _ q.2 res (fun u hu=>ht u (List.mem_of_mem_drop hu)) (step_wf ht hw hq) h
theorem readM_ok {b:List UInt8} {r:List Nd} (h:readM b = .ok r):(∀ x∈r,Wf x)/\Nd.szs r<=4096:=by
 unfold readM at h
 split at h
 ·cases h
 ·rename_i l hl
  have hk:=scanL_kind hl
  refine⟨?_,readL_sz h⟩
  rw[<- run_read fun t ht=>plain_of (hk t ht)] at h
  exact run_wf _ l _ r hk ⟨fun x hx=>(by cases hx),fun s hs=>(by cases hs)⟩ h
end Go.Proofs.YthjnlpfibakacaaGreatDoorPe.Tmpl
