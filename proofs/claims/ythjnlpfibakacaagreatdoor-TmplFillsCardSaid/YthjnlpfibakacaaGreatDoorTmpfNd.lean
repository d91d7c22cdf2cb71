/- A part of the proof of this folder's statement; it has no condition of its own. -/
import Derived.Test.YthjnlpfibakacaaGreatDoorTmpfLexR
import Derived.Test.YthjnlpfibakacaaGreatDoorEcOut2
set_option linter.unusedVariables false
set_option linter.unusedSimpArgs false
set_option maxRecDepth 100000
namespace Go.Proofs.YthjnlpfibakacaaGreatDoorPe.Tmpf
open Go Go.Proofs Go.Proofs.YthjnlpfibakacaaGreatDoorPe Go.Proofs.YthjnlpfibakacaaGreatDoorPe.TmpfCode
inductive Nd where
 |mk (k:Int) (pos:Int) (i:Int) (s:List UInt8) (kids:List Nd)
 deriving Inhabited
namespace Nd
def k:Nd->Int
 |.mk x _ _ _ _=>x
def pos:Nd->Int
 |.mk _ x _ _ _=>x
def i:Nd->Int
 |.mk _ _ x _ _=>x
def s:Nd->List UInt8
 |.mk _ _ _ x _=>x
def kids:Nd->List Nd
 |.mk _ _ _ _ x=>x
mutual
def p:Nd->PV
 |.mk k pos i s l=>.agg ([.int .i64 k,.int .i64 pos,.int .i64 i,.str s,.lst (ps l)])
def ps:List Nd->List PV
 |[]=>[]
 |x::l=>p x::ps l
end
theorem ps_eq : ∀ l:List Nd,ps l=l.map p
 |[]=>by simp[ps]
 |x::l=>by simp[ps,ps_eq l]
def cells (x:Nd):List PV:=[.int .i64 x.k,.int .i64 x.pos,.int .i64 x.i,.str x.s,.lst (x.kids.map Nd.p)]
theorem p_cells (x:Nd):x.p.cells=x.cells:=by
 cases x with
 |mk k pos i s l=>simp only[p,ps_eq]; rfl
theorem p_eq (x:Nd):x.p = .agg x.cells:=by
 cases x with
 |mk k pos i s l=>simp only[p,ps_eq]; rfl
mutual
def sz:Nd->Nat
 |.mk _ _ _ _ l=>szs l+1
def szs:List Nd->Nat
 |[]=>0
 |x::l=>sz x+szs l
end
theorem sz_eq (x:Nd):x.sz=szs x.kids+1:=by cases x; simp only[sz,kids]
theorem len_sz : ∀ l:List Nd,l.length<=szs l
 |[]=>Nat.le_refl _
 |y::l=>by
  rw[szs,List.length_cons]
  have:=len_sz l
  have:1<=y.sz:=by rw[sz_eq]; omega
  omega
theorem szs_append : ∀ l m:List Nd,szs (l++m)=szs l+szs m
 |[],m=>by simp[szs]
 |x::l,m=>by rw[List.cons_append,szs,szs,szs_append l m]; omega
mutual
def same:Nd->Nd->Bool
 |.mk k pos i s l,.mk k' pos' i' s' l'=>decide (k=k')&&decide (i=i')&&decide (s=s')&&sames l l'
def sames:List Nd->List Nd->Bool
 |[],[]=>true
 |x::l,y::m=>same x y&&sames l m
 |_,_=>false
end
mutual
theorem same_self : ∀ x:Nd,same x x=true
 |.mk k pos i s l=>by simp[same,sames_self l]
theorem sames_self : ∀ l:List Nd,sames l l=true
 |[]=>by simp[sames]
 |x::l=>by simp[sames,same_self x,sames_self l]
end
end Nd
def sChar:List UInt8:=[99,104,97,114]
def wrongV (pos e:Int):PV:=.agg [.lst [.agg [.str sChar,.int .i64 pos]],.int .i64 e]
def noneW:PV:=.agg [.lst [],.int .i64 0]
def headM (n:Nd):List UInt8:=if n.k=0 then (match n.kids with
 |x::_=>if x.k=2 then x.s else []
 |[]=>[]) else []
def valM (n:Nd):Option Vl:=if n.k=1\/n.k=2\/n.k=3 then some ⟨n.k,n.i,n.s⟩ else none
def valV:Option Vl->PV
 |some v=>.tuple [v.p,.bool true]
 |none=>.tuple [Vl.p ⟨0,0,[]⟩,.bool false]
theorem at_t {p e:Int}:tupV (callE efns given) (.call 0 f_ref5_At) [.str sChar,.int .i64 p,.int .i64 e]=some (wrongV p e):=by
 refine call_good (f:=f_ref5_At) rfl ?_
 rw[callE_fn efns given (c:=e_ref5_At) rfl rfl]
 simp only[e_ref5_At,go_sem,V_bs1]
 exact Good.done rfl
theorem Nd.at_ {l:List Nd} {n:Nat} (h:n<l.length):evIdx 5 (l.map Nd.p) (n:Int)=some (.ref l[n].cells):=by
 rw[<- Nd.p_cells]
 exact idx_of (map_at h) (by rw[Nd.p_cells]; rfl)
theorem Nd.at0 {x:Nd} {l:List Nd}:evIdx 5 (x.p::l.map Nd.p) 0=some (.ref x.cells):=Nd.at_ (l:=x::l) (n:=0) (Nat.succ_pos _)
theorem head_t (n:Nd):tupV (callE efns given) (.call 0 f_ref5_Head) [n.p]=some (.str (headM n)):=by
 rw[Nd.p_eq]
 refine call_good (f:=f_ref5_Head) rfl ?_
 rw[callE_fn efns given (c:=e_ref5_Head) rfl rfl]
 unfold headM
 by_cases h0:n.k=0
 ·cases hk:n.kids with
  |nil =>
   simp only[e_ref5_Head,go_sem,Nd.cells,h0,hk]
   exact Good.done rfl
  |cons x l =>
   by_cases h2:x.k=2
   ·simp only[e_ref5_Head,go_sem,Nd.cells,h0,hk,h2,show (0:Int)<((List.map Nd.p l).length+1:Nat) from by omega,gt_iff_lt,Nd.at0]
    exact Good.done rfl
   ·simp only[e_ref5_Head,go_sem,Nd.cells,h0,hk,h2,show (0:Int)<((List.map Nd.p l).length+1:Nat) from by omega,gt_iff_lt,Nd.at0]
    exact Good.done rfl
 ·simp only[e_ref5_Head,go_sem,Nd.cells,h0]
  exact Good.done rfl
theorem value_t (n:Nd):tupV (callE efns given) (.call 0 f_ref5_Value) [n.p]=some (valV (valM n)):=by
 rw[Nd.p_eq]
 refine call_good (f:=f_ref5_Value) rfl ?_
 rw[callE_fn efns given (c:=e_ref5_Value) rfl rfl]
 unfold valM
 by_cases h1:n.k=1
 ·simp only[e_ref5_Value,go_sem,Nd.cells,h1]
  exact Good.done rfl
 ·by_cases h2:n.k=2
  ·simp only[e_ref5_Value,go_sem,Nd.cells,h2]
   exact Good.done rfl
  ·by_cases h3:n.k=3
   ·simp only[e_ref5_Value,go_sem,Nd.cells,h3]
    exact Good.done rfl
   ·simp only[e_ref5_Value,go_sem,Nd.cells,h1,h2,h3]
    exact Good.done rfl
end Go.Proofs.YthjnlpfibakacaaGreatDoorPe.Tmpf
set_option linter.unusedVariables false
set_option linter.unusedSimpArgs false
set_option maxRecDepth 100000
namespace Go.Proofs.YthjnlpfibakacaaGreatDoorPe.Tmpf
open Go Go.Proofs Go.Proofs.YthjnlpfibakacaaGreatDoorPe Go.Proofs.YthjnlpfibakacaaGreatDoorPe.TmpfCode
abbrev Er (α : Type):=Except (Int × Int) α
mutual
def nodeM:Nat->Nat->List Tok->Nat->Er (Nd × List Tok × Nat)
 |0,_,_,_=>.error (0,3)
 |f+1,deep,l,n=>match l with
  |[]=>.error (0,3)
  |t::ts=>if t.k=5 then .error (t.pos,2) else if n+1>4096 then .error (t.pos,4)
   else if t.k=8 then (match ts with
    |[]=>.error (t.pos,3)
    |u::_=>if u.k=4\/u.k=5\/u.k=8 then .error (t.pos,2) else match nodeM f deep ts (n+1) with
     |.error e=>.error e
     |.ok q=>.ok (.mk 8 t.pos t.i t.s [q.1],q.2.1,q.2.2))
   else if t.k=4 then (if deep>=32 then .error (t.pos,4) else kidsM f deep t.pos t.i t.s ts (n+1) [])
   else .ok (.mk t.k t.pos t.i t.s [],ts,n+1)
def kidsM:Nat->Nat->Nat->Int->List UInt8->List Tok->Nat->List Nd->Er (Nd × List Tok × Nat)
 |0,_,_,_,_,_,_,_=>.error (0,3)
 |f+1,deep,pos,i,s,l,n,acc=>match l with
  |[]=>.error (pos,3)
  |u::us=>if u.k=5 then .ok (.mk 0 pos i s acc,us,n) else match nodeM f (deep+1) (u::us) n with
   |.error e=>.error e
   |.ok q=>kidsM f deep pos i s q.2.1 q.2.2 (acc++[q.1])
end
def readT:Nat->List Tok->Nat->List Nd->Er (List Nd)
 |0,_,_,_=>.error (0,3)
 |f+1,l,n,acc=>match l with
  |[]=>.ok acc
  |t::ts=>match nodeM (2*(t::ts).length) 0 (t::ts) n with
   |.error e=>.error e
   |.ok q=>readT f q.2.1 q.2.2 (acc++[q.1])
theorem node_left : ∀ (f:Nat),(∀ (deep:Nat) (l:List Tok) (n:Nat) (q:Nd × List Tok × Nat),nodeM f deep l n = .ok q->(∃ d,0<d/\d<=l.length/\q.2.1=l.drop d)/\n+q.1.sz<=q.2.2/\(n<=4096->q.2.2<=4096)) /\
  ∀ (deep pos:Nat) (i:Int) (s:List UInt8) (l:List Tok) (n:Nat) (acc:List Nd) (q:Nd × List Tok × Nat),kidsM f deep pos i s l n acc = .ok q->(∃ d,0<d/\d<=l.length/\q.2.1=l.drop d)/\n+q.1.sz<=q.2.2+Nd.szs acc+1/\(n<=4096->q.2.2<=4096)
 |0=>⟨fun deep l n q h=>(by unfold nodeM at h; cases h),fun deep pos i s l n acc q h=>(by unfold kidsM at h; cases h)⟩
 |f+1=>by
  obtain⟨ih1,ih2⟩:=node_left f
  constructor
  ·intro deep l n q h
   unfold nodeM at h
   split at h
   ·cases h
   ·rename_i t ts
    split at h
    ·cases h
    ·split at h
     ·cases h
     ·rename_i hn
      split at h
      ·split at h
       ·cases h
       ·split at h
        ·cases h
        ·split at h
         ·cases h
         ·rename_i q' hq'
          cases h
          obtain⟨⟨d,h1,h2,h3⟩,h4,h5⟩:=ih1 _ _ _ _ hq'
          refine⟨⟨d+1,by omega,by simp only[List.length_cons] at h2 ⊢; omega,?_⟩,?_,fun _=>h5 (by omega)⟩
          ·show q'.2.1=_
           rw[h3,List.drop_succ_cons]
          ·show n+(Nd.mk 8 t.pos t.i t.s [q'.1]).sz<=q'.2.2
           simp only[Nd.sz,Nd.szs]
           omega
      ·split at h
       ·split at h
        ·cases h
        ·obtain⟨⟨d,h1,h2,h3⟩,h4,h5⟩:=ih2 _ _ _ _ _ _ _ _ h
         refine⟨⟨d+1,by omega,by simp only[List.length_cons]; omega,by rw[h3,List.drop_succ_cons]⟩,?_,fun _=>h5 (by omega)⟩
         simp only[Nd.szs] at h4
         omega
       ·cases h
        refine⟨⟨1,by omega,by simp,rfl⟩,?_,fun _=>by show n+1<=4096; omega⟩
        simp[Nd.sz,Nd.szs]
  ·intro deep pos i s l n acc q h
   unfold kidsM at h
   split at h
   ·cases h
   ·rename_i u us
    split at h
    ·cases h
     refine⟨⟨1,by omega,by simp,rfl⟩,?_,fun h=>h⟩
     simp only[Nd.sz]
     omega
    ·split at h
     ·cases h
     ·rename_i q' hq'
      obtain⟨⟨d,h1,h2,h3⟩,h4,h5⟩:=ih1 _ _ _ _ hq'
      obtain⟨⟨d',h1',h2',h3'⟩,h4',h5'⟩:=ih2 _ _ _ _ _ _ _ _ h
      rw[h3] at h2' h3'
      rw[List.length_drop] at h2'
      refine⟨⟨d+d',by omega,by omega,by rw[h3',List.drop_drop]⟩,?_,fun hn=>h5' (h5 hn)⟩
      rw[Nd.szs_append] at h4'
      simp only[Nd.szs] at h4'
      omega
def rdC (l:List Tok) (at_ n:Nat):List PV:=[.lst (l.map Tok.p),.int .i64 (at_:Int),.int .i64 (n:Int)]
def NdQ (n:Nd) (v:PV):Prop := ∃ kv,v = .agg [.int .i64 n.k,.int .i64 n.pos,.int .i64 n.i,.str n.s,kv]/\SlV (n.kids.map Nd.p) kv
def NQ (k:Nat) (l:List Tok) (at_:Nat) (st:St) (res:Er (Nd × List Tok × Nat)):PV->St->Prop:=fun r st' => ∃ v w,r = .tuple [v,w]/\Kp k st st'/\match res with
 |.ok q=>NdQ q.1 v/\w = .agg [.nils,.int .i64 0] /\ ∃ at',q.2.1=l.drop at'/\at_<at'/\at'<=l.length/\st'.boxes[k]? = some (rdC l at' q.2.2)
 |.error e=>(∃ n,NdQ n v)/\w=wrongV e.1 e.2
theorem tok_at' {l:List Tok} {n:Nat} (h:n<l.length):evIdx 4 (l.map Tok.p) (n:Int)=some (.ref l[n].cells'):=idx_of (e:=l[n].p) (map_at h) rfl
theorem node_err : ∀ (f:Nat),(∀ (deep:Nat) (l:List Tok) (n:Nat) (e:Int × Int),nodeM f deep l n = .error e -> ¬ e.2=0) /\
  ∀ (deep pos:Nat) (i:Int) (s:List UInt8) (l:List Tok) (n:Nat) (acc:List Nd) (e:Int × Int),kidsM f deep pos i s l n acc = .error e -> ¬ e.2=0
 |0=>⟨fun deep l n q h=>by unfold nodeM at h; cases h; exact (by decide : ¬ (3:Int)=0),fun deep pos i s l n acc q h=>by unfold kidsM at h; cases h; exact (by decide : ¬ (3:Int)=0)⟩
 |f+1=>by
  obtain⟨ih1,ih2⟩:=node_err f
  constructor
  ·intro deep l n e h
   unfold nodeM at h
   split at h
   ·cases h; exact (by decide : ¬ (3:Int)=0)
   ·split at h
    ·cases h; exact (by decide : ¬ (2:Int)=0)
    ·split at h
     ·cases h; exact (by decide : ¬ (4:Int)=0)
     ·split at h
      ·split at h
       ·cases h; exact (by decide : ¬ (3:Int)=0)
       ·split at h
        ·cases h; exact (by decide : ¬ (2:Int)=0)
        ·split at h
         ·rename_i e' he; cases h; exact ih1 _ _ _ _ he
         ·cases h
      ·split at h
       ·split at h
        ·cases h; exact (by decide : ¬ (4:Int)=0)
        ·exact ih2 _ _ _ _ _ _ _ _ h
       ·cases h
  ·intro deep pos i s l n acc e h
   unfold kidsM at h
   split at h
   ·cases h; exact (by decide : ¬ (3:Int)=0)
   ·split at h
    ·cases h
    ·split at h
     ·rename_i e' he; cases h; exact ih1 _ _ _ _ he
     ·exact ih2 _ _ _ _ _ _ _ _ h
theorem NdQ.zero:NdQ (.mk 0 0 0 [] []) (.agg [.int .i64 0,.int .i64 0,.int .i64 0,.str [],.nils]):=⟨.nils,rfl,rfl⟩
set_option maxHeartbeats 4000000 in
theorem node_ok {l:List Tok} {k:Nat} (hl:l.length<=65536) : ∀ (f deep at_ n:Nat) (bx:List (List PV)) (rows:List (Nat × Nat)) (bts rt:List TypeId),at_<l.length->2*(l.drop at_).length<=f->deep<=32->n<=4096->k<bx.length->rt.length=rows.length ->
  bx[k]? = some (rdC l at_ n)->Good (NQ k l at_ ⟨bx,rows,bts,rt⟩ (nodeM f deep (l.drop at_) n)) (callE efns given f_ref5_reader_node [.ptr k 0,.int .i64 (deep:Int)] ⟨bx,rows,bts,rt⟩):=by
 intro f
 induction f using Nat.strongRecOn with
 |_ f IH =>
 intro deep at_ n bx rows bts rt hat hf hdp hn hk hr hb
 have hd1:=List.drop_eq_getElem_cons hat
 have tat:=tok_at' hat
 rw[hd1] at hf ⊢
 simp only[List.length_cons] at hf
 obtain⟨f,rfl⟩ : ∃ q,f=q+1:=⟨f-1,by omega⟩
 have g0 : ∀ m,(bx++m)[k]? = some (rdC l at_ n):=fun m=>by rw[List.getElem?_append_left hk]; exact hb
 have s0 : ∀ m x,(bx++m).set k x=bx.set k x++m:=fun m x=>List.set_append_left _ _ hk
 have g1 : ∀ x m,(bx.set k x++m)[k]? = some x:=fun x m=>by rw[List.getElem?_append_left (by simpa using hk),List.getElem?_set_self hk]
 have s1 : ∀ x m y,(bx.set k x++m).set k y=bx.set k y++m:=fun x m y=>by rw[List.set_append_left _ _ (by simpa using hk),List.set_set]
 have kp0 : ∀ x m bt' rows' rt',rows.length<=rows'.length->(∀ i,i<rows.length->rows'[i]? = rows[i]? /\ rt'[i]? = rt[i]?)->rt'.length=rows'.length->Kp k ⟨bx,rows,bts,rt⟩ ⟨bx.set k x++m,rows',bt',rt'⟩:=fun x m bt' rows' rt' h1 h2 h3 =>
  ⟨by simp,fun i hi hne=>by show (bx.set k x++m)[i]? = bx[i]?; rw[List.getElem?_append_left (by simpa using hi),List.getElem?_set_ne (Ne.symm hne)],h1,h2,h3⟩
 have kp1 : ∀ x m bt',Kp k ⟨bx,rows,bts,rt⟩ ⟨bx.set k x++m,rows,bt',rt⟩:=fun x m bt'=>kp0 x m bt' rows rt (Nat.le_refl _) (fun _ _=>⟨rfl,rfl⟩) hr
 have hw:=fun p e=>at_t (p:=p) (e:=e)
 unfold sChar at hw
 generalize l[at_]=t at hd1 tat
 generalize hts:l.drop (at_+1)=ts at hd1 hf
 have hltl:(l.drop (at_+1)).length=l.length-(at_+1):=List.length_drop
 have w1:IntKind.i64.wrap ((at_:Int)+1)=((at_+1:Nat):Int):=wrapN (by omega)
 have w2:IntKind.i64.wrap ((n:Int)+1)=((n+1:Nat):Int):=wrapN (by omega)
 simp only[rdC] at g0
 rw[callE_fn efns given (c:=e_ref5_reader_node) rfl rfl]
 unfold nodeM
 simp only
 by_cases h5:t.k=5
 ·rw[if_pos h5]
  simp only[e_ref5_reader_node,go_sem,g0,s0,g1,s1,tat,Tok.cells',w1,w2,eq_true h5,hw,wrongV]
  exact Good.done ⟨_,_,rfl,kp1 _ _ _,⟨_,NdQ.zero⟩,rfl⟩
 ·rw[if_neg h5]
  by_cases hc:n+1>4096
  ·rw[if_pos hc]
   have c1:(((n+1:Nat):Int)>4096)=True:=eq_true (by omega)
   simp only[e_ref5_reader_node,go_sem,g0,s0,g1,s1,tat,Tok.cells',w1,w2,eq_false h5,c1,hw,wrongV]
   exact Good.done ⟨_,_,rfl,kp1 _ _ _,⟨_,NdQ.zero⟩,rfl⟩
  ·rw[if_neg hc]
   have c1:(((n+1:Nat):Int)>4096)=False:=eq_false (by omega)
   by_cases h8:t.k=8
   ·rw[if_pos h8]
    cases hts2:ts with
    |nil =>
     rw[hts2] at hts
     rw[hts] at hltl
     simp only[List.length_nil] at hltl
     have c2:(((at_+1:Nat):Int)=(l.length:Int))=True:=eq_true (by omega)
     simp only[e_ref5_reader_node,go_sem,g0,s0,g1,s1,tat,Tok.cells',w1,w2,eq_false h5,c1,eq_true h8,List.length_map,c2,hw,wrongV]
     exact Good.done ⟨_,_,rfl,kp1 _ _ _,⟨_,NdQ.zero⟩,rfl⟩
    |cons u us =>
     rw[hts2] at hts
     rw[hts] at hltl
     simp only[List.length_cons] at hltl
     have hat2:at_+1<l.length:=by omega
     have c2:(((at_+1:Nat):Int)=(l.length:Int))=False:=eq_false (by omega)
     have uat:=tok_at' hat2
     have hu:l[at_+1]=u:=by
      have:=List.drop_eq_getElem_cons hat2
      rw[hts] at this
      exact (List.cons.inj this).1.symm
     rw[hu] at uat
     simp only
     by_cases hbad:u.k=4\/u.k=5\/u.k=8
     ·rw[if_pos hbad]
      have hb':((u.k=4\/u.k=5)\/u.k=8)=True:=eq_true (by rcases hbad with h|h|h; exact .inl (.inl h); exact .inl (.inr h); exact .inr h)
      simp only[e_ref5_reader_node,go_sem,g0,s0,g1,s1,tat,uat,Tok.cells',w1,w2,eq_false h5,c1,eq_true h8,List.length_map,c2,hb',hw,wrongV]
      exact Good.done ⟨_,_,rfl,kp1 _ _ _,⟨_,NdQ.zero⟩,rfl⟩
     ·rw[if_neg hbad]
      have hb':((u.k=4\/u.k=5)\/u.k=8)=False:=eq_false (by rintro ((h|h)|h); exact hbad (.inl h); exact hbad (.inr (.inl h)); exact hbad (.inr (.inr h)))
      have hcall:=IH f (Nat.lt_succ_self _) deep (at_+1) (n+1) (bx.set k [.lst (l.map Tok.p),.int .i64 ((at_+1:Nat):Int),.int .i64 ((n+1:Nat):Int)]++[[.int .i64 0,.int .i64 0,.int .i64 0,.str [],.nils],[.nils,.int .i64 0],[.int .i64 t.k,.int .i64 (t.pos:Int),.int .i64 t.i,.str t.s],[.int .i64 t.k,.int .i64 (t.pos:Int),.int .i64 t.i,.str t.s,.nils]])
       rows (bts++[T_ref5_reader_node_0,T_ref5_reader_node_1,T_ref5_reader_node_2,T_ref5_reader_node_0]) rt hat2 (by rw[hts]; rw[hts2] at hf; omega) hdp (by omega) (by simp; omega) hr (g1 _ _)
      obtain⟨_,⟨bx2,rows2,bt2,rt2⟩,hcall,v,w,rfl,hkp,hres⟩:=hcall
      obtain⟨pre,rest,hbx2,hpl,hpo,hpk⟩:=hkp.split (by simpa using hk)
      have hr2:rt2.length=rows2.length:=hkp.rn
      simp only at hbx2 hpk
      subst hbx2
      rw[List.length_set] at hpl
      have p_get : ∀ (m:List (List PV)) j,(pre++m)[bx.length+j]? = m[j]? := fun m j=>by rw[<- hpl]; exact bx_get
      have p_get0 : ∀ (m:List (List PV)),(pre++m)[bx.length]? = m[0]? := fun m=>by rw[<- hpl]; exact bx_get0
      have p_set : ∀ (m:List (List PV)) j x,(pre++m).set (bx.length+j) x=pre++m.set j x:=fun m j x=>by rw[<- hpl]; exact bx_set
      have p_set0 : ∀ (m:List (List PV)) x,(pre++m).set bx.length x=pre++m.set 0 x:=fun m x=>by rw[<- hpl]; exact bx_set0
      have kp2 : ∀ m bt',Kp k ⟨bx,rows,bts,rt⟩ ⟨pre++m,rows2,bt',rt2⟩:=fun m bt'=>⟨by simp; omega,fun i hi hne=>by
       have hi':i<bx.length:=hi
       show (pre++m)[i]? = bx[i]?
       rw[List.getElem?_append_left (by omega),hpo i hne,List.getElem?_set_ne (Ne.symm hne)],hkp.rl,fun i hi=>hkp.rw i hi,hr2⟩
      rw[hts] at hres
      cases hm:nodeM f deep (u::us) (n+1) with
      |error e =>
       rw[hm] at hres
       obtain⟨⟨y,kv,rfl,hkv⟩,rfl⟩:=hres
       rcases hkv.or with ⟨rfl,hnil⟩|⟨rfl,hnil⟩|⟨rfl,hnil⟩|rfl|⟨r0,rfl⟩|rfl
       all_goals
        simp only[e_ref5_reader_node,go_sem,g0,s0,g1,s1,tat,uat,Tok.cells',w1,w2,eq_false h5,c1,eq_true h8,List.length_map,c2,hb',hcall,hpl,p_get,p_get0,p_set,p_set0,wrongV]
        refine Good.done ⟨_,_,rfl,kp2 _ _,⟨.mk t.k t.pos t.i t.s [y],_,rfl,?_⟩,rfl⟩
        show SlV [y.p] _
        rw[Nd.p_eq,Nd.cells]
        first|rfl|(rw[hnil]; rfl)
      |ok q =>
       rw[hm] at hres
       obtain⟨⟨kv,rfl,hkv⟩,rfl,at2,e1,e2,e3,e4⟩:=hres
       rcases hkv.or with ⟨rfl,hnil⟩|⟨rfl,hnil⟩|⟨rfl,hnil⟩|rfl|⟨r0,rfl⟩|rfl
       all_goals
        simp only[e_ref5_reader_node,go_sem,g0,s0,g1,s1,tat,uat,Tok.cells',w1,w2,eq_false h5,c1,eq_true h8,List.length_map,c2,hb',hcall,hpl,p_get,p_get0,p_set,p_set0]
        rw[show PV.int .i64 t.k=PV.int .i64 8 from by rw[h8]]
        refine Good.done ⟨_,_,rfl,kp2 _ _,⟨_,rfl,?_⟩,rfl,at2,e1,by omega,e3,by
         show (pre++_)[k]? = _
         rw[List.getElem?_append_left (by omega),hpk]
         exact e4⟩
        show SlV [q.1.p] _
        rw[Nd.p_eq,Nd.cells]
        first|rfl|(rw[hnil]; rfl)
   ·rw[if_neg h8]
    by_cases h4:t.k=4
    ·rw[if_pos h4]
     by_cases hdd:deep>=32
     ·rw[if_pos hdd]
      have c3:((deep:Int)>=32)=True:=eq_true (by omega)
      simp only[e_ref5_reader_node,go_sem,g0,s0,g1,s1,tat,Tok.cells',w1,w2,eq_false h5,c1,eq_false h8,eq_true h4,c3,ne_eq,hw,wrongV]
      exact Good.done ⟨_,_,rfl,kp1 _ _ _,⟨_,NdQ.zero⟩,rfl⟩
     ·rw[if_neg hdd]
      have c3:((deep:Int)>=32)=False:=eq_false (by omega)
      simp only[e_ref5_reader_node,go_sem,g0,s0,g1,s1,tat,Tok.cells',w1,w2,eq_false h5,c1,eq_false h8,eq_true h4,c3,ne_eq]
      generalize hL:kidsM f deep t.pos t.i t.s ts (n+1) []=L
      refine Good.loop (fun a:Nat=>l.length-a) (fun a fr st=>at_<a/\a<=l.length /\ ∃ pre rest rows2 bt2 rt2 kv acc n2 f2,fr=[.ptr k 0,.int .i64 (deep:Int),.ptr bx.length 0,.ptr (bx.length+1) 0,.ptr (bx.length+2) 0,.ptr (bx.length+3) 0]++List.replicate 44 .undef /\
       st=⟨pre++[.int .i64 0,.int .i64 0,.int .i64 0,.str [],.nils]::[.nils,.int .i64 0]::[.int .i64 t.k,.int .i64 (t.pos:Int),.int .i64 t.i,.str t.s]::[.int .i64 0,.int .i64 (t.pos:Int),.int .i64 t.i,.str t.s,kv]::rest,rows2,bt2,rt2⟩ /\
       pre.length=bx.length/\(∀ i,i≠k->pre[i]? = bx[i]?)/\pre[k]? = some (rdC l a n2)/\rows.length<=rows2.length/\(∀ i,i<rows.length->rows2[i]? = rows[i]? /\ rt2[i]? = rt[i]?)/\rt2.length=rows2.length /\
       OutV 5 T_ref5_reader_node_0 (acc.map Nd.p) kv rows2 rt2/\(∀ r l1,kv = .own r l1->rows.length<=r)/\acc.length<=a/\n2<=4096/\f2<=f/\2*(l.drop a).length+1<=f2/\L=kidsM f2 deep t.pos t.i t.s (l.drop a) n2 acc) ?_ (at_+1) ?_
      ·rintro a fr st ⟨ha1,ha2,pre,rest,rows2,bt2,rt2,kv,acc,n2,f2,rfl,rfl,hpl,hpo,hpk,hrl,hrw,hr2,hO,hkr,hacc,hn2,hf2,hf3,he⟩ K hK
       obtain⟨f2,rfl⟩ : ∃ q,f2=q+1:=⟨f2-1,by omega⟩
       have hk2:k<pre.length:=by omega
       have q0 : ∀ m,(pre++m)[k]? = some (rdC l a n2):=fun m=>by rw[List.getElem?_append_left hk2]; exact hpk
       have qs : ∀ m x,(pre++m).set k x=pre.set k x++m:=fun m x=>List.set_append_left _ _ hk2
       have q1 : ∀ x m,(pre.set k x++m)[k]? = some x:=fun x m=>by rw[List.getElem?_append_left (by simpa using hk2),List.getElem?_set_self hk2]
       have p_get : ∀ (m:List (List PV)) j,(pre++m)[bx.length+j]? = m[j]? := fun m j=>by rw[<- hpl]; exact bx_get
       have p_get0 : ∀ (m:List (List PV)),(pre++m)[bx.length]? = m[0]? := fun m=>by rw[<- hpl]; exact bx_get0
       have p_set : ∀ (m:List (List PV)) j x,(pre++m).set (bx.length+j) x=pre++m.set j x:=fun m j x=>by rw[<- hpl]; exact bx_set
       have p_set0 : ∀ (m:List (List PV)) x,(pre++m).set bx.length x=pre++m.set 0 x:=fun m x=>by rw[<- hpl]; exact bx_set0
       have p2_get : ∀ y (m:List (List PV)) j,(pre.set k y++m)[bx.length+j]? = m[j]? := fun y m j=>by rw[<- hpl]; exact bs_get
       have p2_set : ∀ y (m:List (List PV)) j x,(pre.set k y++m).set (bx.length+j) x=pre.set k y++m.set j x:=fun y m j x=>by rw[<- hpl]; exact bs_set
       have p2_get0 : ∀ y (m:List (List PV)),(pre.set k y++m)[bx.length]? = m[0]? := fun y m=>by rw[<- hpl]; exact bs_get0
       have p2_set0 : ∀ y (m:List (List PV)) x,(pre.set k y++m).set bx.length x=pre.set k y++m.set 0 x:=fun y m x=>by rw[<- hpl]; exact bs_set0
       have kpA : ∀ m bt',Kp k ⟨bx,rows,bts,rt⟩ ⟨pre++m,rows2,bt',rt2⟩:=fun m bt'=>⟨by simp; omega,fun i hi hne=>by
        have hi':i<bx.length:=hi
        show (pre++m)[i]? = bx[i]?
        rw[List.getElem?_append_left (by omega),hpo i hne],hrl,hrw,hr2⟩
       have kpB : ∀ x m bt',Kp k ⟨bx,rows,bts,rt⟩ ⟨pre.set k x++m,rows2,bt',rt2⟩:=fun x m bt'=>⟨by simp; omega,fun i hi hne=>by
        have hi':i<bx.length:=hi
        show (pre.set k x++m)[i]? = bx[i]?
        rw[List.getElem?_append_left (by simp; omega),List.getElem?_set_ne (Ne.symm hne),hpo i hne],hrl,hrw,hr2⟩
       simp only[rdC] at q0
       by_cases hend:a=l.length
       ·have c4:((a:Int)=(l.length:Int))=True:=eq_true (by omega)
        rw[List.drop_eq_nil_of_le (i:=a) (by omega)] at he
        unfold kidsM at he
        simp only[b_ref5_reader_node_0,go_sem,q0,List.length_map,c4,p_get,p_get0,p_set,p_set0,hw,wrongV]
        rw[he]
        exact Good.done ⟨_,_,rfl,kpA _ _,⟨_,NdQ.zero⟩,rfl⟩
       ·have ha3:a<l.length:=by omega
        have c4:((a:Int)=(l.length:Int))=False:=eq_false (by omega)
        have uat:=tok_at' ha3
        have hd2:=List.drop_eq_getElem_cons ha3
        generalize l[a]=u at uat hd2
        rw[hd2] at he hf3
        unfold kidsM at he
        simp only at he
        simp only[List.length_cons] at hf3
        have wa:IntKind.i64.wrap ((a:Int)+1)=((a+1:Nat):Int):=wrapN (by omega)
        by_cases hu5:u.k=5
        ·rw[if_pos hu5] at he
         simp only[b_ref5_reader_node_0,go_sem,q0,qs,List.length_map,c4,uat,Tok.cells',eq_true hu5,wa,p_get,p_get0,p_set,p_set0,p2_get,p2_get0,p2_set,p2_set0,hO.cells,hO.cell]
         rw[he]
         exact Good.done ⟨_,_,rfl,kpB _ _ _,⟨kv,rfl,hO.sl⟩,rfl,a+1,rfl,by omega,by omega,by rw[q1]; rfl⟩
        ·rw[if_neg hu5] at he
         have wd:IntKind.i64.wrap ((deep:Int)+1)=((deep+1:Nat):Int):=wrapN (by omega)
         have hcall:=IH f2 (by omega) (deep+1) a n2 (pre++[.int .i64 0,.int .i64 0,.int .i64 0,.str [],.nils]::[.nils,.int .i64 0]::[.int .i64 t.k,.int .i64 (t.pos:Int),.int .i64 t.i,.str t.s]::[.int .i64 0,.int .i64 (t.pos:Int),.int .i64 t.i,.str t.s,kv]::rest)
          rows2 bt2 rt2 ha3 (by rw[hd2]; simp only[List.length_cons]; omega) (by omega) hn2 (by simp; omega) hr2 (q0 _)
         rw[hd2] at hcall
         obtain⟨_,⟨bx3,rows3,bt3,rt3⟩,hcall,v,w,rfl,hkp,hres⟩:=hcall
         obtain⟨pre3,rest3,hbx3,hpl3,hpo3,hpk3⟩:=hkp.split (by omega)
         have hr3:rt3.length=rows3.length:=hkp.rn
         have hrl3:rows2.length<=rows3.length:=hkp.rl
         have hrw3 : ∀ i,i<rows2.length->rows3[i]? = rows2[i]? /\ rt3[i]? = rt2[i]? := hkp.rw
         simp only at hbx3 hpk3
         subst hbx3
         simp only[List.cons_append] at hcall
         generalize rest++rest3=rest4 at hcall
         have r_get : ∀ (m:List (List PV)) j,(pre3++m)[bx.length+j]? = m[j]? := fun m j=>by rw[<- hpl,<- hpl3]; exact bx_get
         have r_get0 : ∀ (m:List (List PV)),(pre3++m)[bx.length]? = m[0]? := fun m=>by rw[<- hpl,<- hpl3]; exact bx_get0
         have r_set : ∀ (m:List (List PV)) j x,(pre3++m).set (bx.length+j) x=pre3++m.set j x:=fun m j x=>by rw[<- hpl,<- hpl3]; exact bx_set
         have r_set0 : ∀ (m:List (List PV)) x,(pre3++m).set bx.length x=pre3++m.set 0 x:=fun m x=>by rw[<- hpl,<- hpl3]; exact bx_set0
         rw[hpl] at hpl3
         have hrwA : ∀ i,i<rows.length->rows3[i]? = rows[i]? /\ rt3[i]? = rt[i]? := fun i hi=>⟨(hrw3 i (by omega)).1.trans (hrw i hi).1,(hrw3 i (by omega)).2.trans (hrw i hi).2⟩
         have kpC : ∀ m bt',Kp k ⟨bx,rows,bts,rt⟩ ⟨pre3++m,rows3,bt',rt3⟩:=fun m bt'=>⟨by simp; omega,fun i hi hne=>by
          have hi':i<bx.length:=hi
          show (pre3++m)[i]? = bx[i]?
          rw[List.getElem?_append_left (by omega),hpo3 i hne,hpo i hne],by show rows.length<=rows3.length; omega,hrwA,hr3⟩
         cases hm:nodeM f2 (deep+1) (u::l.drop (a+1)) n2 with
         |error e =>
          rw[hm] at hres he
          obtain⟨⟨y,kv2,rfl,hkv2⟩,rfl⟩:=hres
          have hne:=(node_err f2).1 _ _ _ _ hm
          rcases hkv2.or with ⟨rfl,hnil⟩|⟨rfl,hnil⟩|⟨rfl,hnil⟩|rfl|⟨r0,rfl⟩|rfl
          all_goals
           simp only[b_ref5_reader_node_0,go_sem,q0,List.length_map,c4,uat,Tok.cells',eq_false hu5,wd,hcall,hpl3,r_get,r_get0,r_set,r_set0,wrongV,eq_false hne,ne_eq]
           rw[he]
           exact Good.done ⟨_,_,rfl,kpC _ _,⟨_,NdQ.zero⟩,rfl⟩
         |ok q =>
          rw[hm] at hres he
          obtain⟨⟨kv2,rfl,hkv2⟩,rfl,a3,e1,e2,e3,e4⟩:=hres
          have hO3:OutV 5 T_ref5_reader_node_0 (acc.map Nd.p) kv rows3 rt3:=hkp.out hO
          obtain⟨kv',rows4,rt4,ap,hO',hr4,hrl4,_,hrw4,hkr4⟩:=hO3.app1 (b:=64) hr3 (e:=q.1.p) (by rw[Nd.p_cells]; rfl) (by simp; omega)
          obtain⟨⟨d,hd3,hd4,hd5⟩,_,hd6⟩:=(node_left f2).1 _ _ _ _ hm
          simp only[Nd.p_eq q.1,Nd.cells] at ap
          rcases hkv2.or with ⟨rfl,hnil⟩|⟨rfl,hnil⟩|⟨rfl,hnil⟩|rfl|⟨r0,rfl⟩|rfl
          all_goals
           try rw[hnil] at ap
           simp only[b_ref5_reader_node_0,go_sem,q0,List.length_map,c4,uat,Tok.cells',eq_false hu5,wd,hcall,hpl3,r_get,r_get0,r_set,r_set0,ap,hO'.cells,hO'.cell,ne_eq]
           refine hK a3 _ _ (by omega) ⟨by omega,e3,pre3,_,rows4,_,rt4,kv',acc++[q.1],q.2.2,f2,rfl,rfl,hpl3,fun i hne=>(hpo3 i hne).trans (hpo i hne),hpk3.trans e4,by omega,fun i hi => ?_,hr4,?_,fun r l1 hh => ?_,by simp; omega,hd6 hn2,by omega,?_,?_⟩
           ·have:=hrw4 i (by omega) (fun r l1 hh hi'=>by have:=hkr r l1 hh; omega)
            exact⟨this.1.trans (hrwA i hi).1,this.2.trans (hrwA i hi).2⟩
           ·rw[List.map_append,List.map_singleton]; exact hO'
           ·rcases hkr4 r l1 hh with ⟨l0,h⟩|h
            ·exact hkr r l0 h
            ·omega
           ·have:=List.length_drop (i:=a3) (l:=l)
            have:=List.length_drop (i:=a+1) (l:=l)
            omega
           ·rw[he,<- e1]
      ·exact⟨by omega,by omega,bx.set k [.lst (l.map Tok.p),.int .i64 ((at_+1:Nat):Int),.int .i64 ((n+1:Nat):Int)],[],rows,_,rt,.nils,[],n+1,f,rfl,rfl,by simp,fun i hne=>List.getElem?_set_ne (Ne.symm hne),by rw[List.getElem?_set_self hk]; rfl,Nat.le_refl _,fun _ _=>⟨rfl,rfl⟩,hr,.nils,fun r l1 h=>(by cases h),by simp,by omega,Nat.le_refl _,by rw[hts]; omega,by rw[hts]; exact hL.symm⟩
    ·rw[if_neg h4]
     simp only[e_ref5_reader_node,go_sem,g0,s0,g1,s1,tat,Tok.cells',w1,w2,eq_false h5,c1,eq_false h8,eq_false h4,ne_eq]
     exact Good.done ⟨_,_,rfl,kp1 _ _ _,⟨_,rfl,rfl⟩,rfl,at_+1,hts.symm,by omega,by omega,by rw[g1]; rfl⟩
end Go.Proofs.YthjnlpfibakacaaGreatDoorPe.Tmpf
set_option linter.unusedVariables false
set_option linter.unusedSimpArgs false
set_option maxRecDepth 100000
namespace Go.Proofs.YthjnlpfibakacaaGreatDoorPe.Tmpf
open Go Go.Proofs Go.Proofs.YthjnlpfibakacaaGreatDoorPe Go.Proofs.YthjnlpfibakacaaGreatDoorPe.TmpfCode
def readL (l:List Tok):Er (List Nd):=readT (l.length+1) l 0 []
def readM (b:List UInt8):Er (List Nd):=match scanL b with
 |.error q=>.error (q.1,q.2)
 |.ok l=>readL l
def readV:Er (List Nd)->PV
 |.ok l=>.tuple [.lst (l.map Nd.p),noneW]
 |.error e=>.tuple [.lst [],wrongV e.1 e.2]
theorem readT_ok : ∀ (f:Nat) (l:List Tok) (n:Nat) (acc r:List Nd),readT f l n acc = .ok r->n+Nd.szs r<=4096+Nd.szs acc+n/\(n<=4096->n+Nd.szs r<=4096+Nd.szs acc)
 |0,_,_,_,_,h=>by unfold readT at h; cases h
 |f+1,l,n,acc,r,h=>by
  unfold readT at h
  split at h
  ·cases h; constructor <;> omega
  ·rename_i t ts
   split at h
   ·cases h
   ·rename_i q hq
    obtain⟨_,h2,h3⟩:=(node_left _).1 _ _ _ _ hq
    obtain⟨h4,h5⟩:=readT_ok f _ _ _ _ h
    rw[Nd.szs_append] at h4 h5
    simp only[Nd.szs] at h4 h5
    constructor
    ·by_cases hn:n<=4096
     ·have:=h5 (h3 hn); omega
     ·exfalso
      have:nodeM (2*(t::ts).length) 0 (t::ts) n = .ok q:=hq
      rw[show 2*(t::ts).length=(2*ts.length+1)+1 by simp; omega] at this
      unfold nodeM at this
      simp only at this
      split at this
      ·cases this
      ·rw[if_pos (by omega)] at this
       cases this
    ·intro hn
     have:=h5 (h3 hn)
     omega
theorem readL_sz {l:List Tok} {r:List Nd} (h:readL l = .ok r):Nd.szs r<=4096:=by
 have:=(readT_ok _ _ _ _ _ h).2 (Nat.zero_le _)
 simp only[Nd.szs] at this
 omega
set_option maxHeartbeats 1000000 in
theorem read_t (b:List UInt8):tupV (callE efns given) (.call 0 f_ref5_Read) [.lst (byts b)]=some (readV (readM b)):=by
 have hs:=rscan_t b
 refine call_good (f:=f_ref5_Read) rfl ?_
 rw[callE_fn efns given (c:=e_ref5_Read) rfl rfl]
 have hw:=fun p e=>at_t (p:=p) (e:=e)
 unfold sChar at hw
 unfold readM
 cases h1:scanL b with
 |error q =>
  rw[h1] at hs
  have hne:=scanL_err h1
  simp only[rscanV] at hs
  simp only[e_ref5_Read,go_sem,hs,eq_false hne,hw,wrongV,ne_eq]
  exact Good.done rfl
 |ok l =>
  rw[h1] at hs
  simp only[rscanV] at hs
  have hl:l.length<=65536:=by
   have:=scanL_len h1
   omega
  simp only[e_ref5_Read,go_sem,hs,ne_eq]
  generalize hL:readL l=L
  unfold readL at hL
  refine Good.loop (fun a:Nat=>l.length-a) (fun a fr st=>a<=l.length /\ ∃ rest rows bt rt out acc n f,fr=[.undef,.ptr 0 0,.lst (l.map Tok.p),.undef,.ptr 1 0,out]++List.replicate 10 .undef /\
   st=⟨[.nils,.int .i64 0]::rdC l a n::rest,rows,bt,rt⟩/\rt.length=rows.length/\OutV 5 T_ref5_Read_0 (acc.map Nd.p) out rows rt/\acc.length<=a/\n<=4096/\(l.drop a).length+1<=f/\L=readT f (l.drop a) n acc) ?_ 0 ?_
  ·rintro a fr st ⟨ha,rest,rows,bt,rt,out,acc,n,f,rfl,rfl,hr,hO,hacc,hn,hf,he⟩ K hK
   obtain⟨f,rfl⟩ : ∃ q,f=q+1:=⟨f-1,by omega⟩
   by_cases ha2:a<l.length
   ·have c1:((a:Int)<(l.length:Int))=True:=eq_true (by omega)
    obtain⟨r0,⟨bx3,rows3,bt3,rt3⟩,hcall,v,w,rfl,hkp,hres⟩:=node_ok (k:=1) hl (2*(l.drop a).length) 0 a n ([.nils,.int .i64 0]::rdC l a n::rest) rows bt rt ha2 (Nat.le_refl _) (by omega) hn (by simp) hr rfl
    have hd:=List.drop_eq_getElem_cons ha2
    rw[hd] at he hf hres
    unfold readT at he
    simp only at he
    generalize l[a]=t at he hf hres
    obtain⟨b1,rest3,rfl⟩ : ∃ b1 rest3,bx3=[.nils,.int .i64 0]::b1::rest3:=by
     have h2:2<=bx3.length:=by have:=hkp.bl; simp at this; omega
     have h0:=hkp.bx 0 (by simp) (by decide)
     match bx3,h2 with
     |x::y::r,_ =>
      simp at h0
      exact⟨y,r,by rw[h0]⟩
    have hr3:rt3.length=rows3.length:=hkp.rn
    have hcall':callE efns given f_ref5_reader_node [.ptr 1 0,.int .i64 0] ⟨[.nils,.int .i64 0]::rdC l a n::rest,rows,bt,rt⟩=some (.tuple [v,w],⟨[.nils,.int .i64 0]::b1::rest3,rows3,bt3,rt3⟩):=hcall
    simp only[rdC] at hcall'
    cases hm:nodeM (2*(t::l.drop (a+1)).length) 0 (t::l.drop (a+1)) n with
    |error e =>
     rw[hm] at he hres
     obtain⟨⟨y,kv,rfl,hkv⟩,rfl⟩:=hres
     have hne:=(node_err _).1 _ _ _ _ hm
     rcases hkv.or with ⟨rfl,hnil⟩|⟨rfl,hnil⟩|⟨rfl,hnil⟩|rfl|⟨r0,rfl⟩|rfl
     all_goals
      simp only[b_ref5_Read_0,go_sem,rdC,List.length_map,c1,hcall',wrongV,eq_false hne,ne_eq]
      exact Good.done (by rw[he]; rfl)
    |ok q =>
     rw[hm] at he hres
     obtain⟨⟨kv,rfl,hkv⟩,rfl,a3,e1,e2,e3,e4⟩:=hres
     obtain rfl:b1=rdC l a3 q.2.2:=by simpa using e4
     have hO3:OutV 5 T_ref5_Read_0 (acc.map Nd.p) out rows3 rt3:=hkp.out hO
     obtain⟨out',rows4,rt4,ap,hO',hr4,_⟩:=hO3.app1 (b:=64) hr3 (e:=q.1.p) (by rw[Nd.p_cells]; rfl) (by simp; omega)
     obtain⟨_,_,hd6⟩:=(node_left _).1 _ _ _ _ hm
     simp only[Nd.p_eq q.1,Nd.cells] at ap
     rcases hkv.or with ⟨rfl,hnil⟩|⟨rfl,hnil⟩|⟨rfl,hnil⟩|rfl|⟨r0,rfl⟩|rfl
     all_goals
      try rw[hnil] at ap
      simp only[b_ref5_Read_0,go_sem,rdC,List.length_map,c1,hcall',ap,ne_eq]
      refine hK a3 _ _ (by omega) ⟨e3,_,rows4,_,rt4,out',acc++[q.1],q.2.2,f,rfl,rfl,hr4,by rw[List.map_append,List.map_singleton]; exact hO',by simp; omega,hd6 hn,?_,by rw[he,<- e1]⟩
      have:=List.length_drop (i:=a3) (l:=l)
      have:=List.length_drop (i:=a+1) (l:=l)
      simp only[List.length_cons] at hf
      omega
   ·have c1:((a:Int)<(l.length:Int))=False:=eq_false (by omega)
    rw[List.drop_eq_nil_of_le (i:=a) (by omega)] at he
    unfold readT at he
    simp only[b_ref5_Read_0,go_sem,rdC,List.length_map,c1]
    refine Good.done ?_
    rw[he]
    exact ret_tup (mS (hO.shutR _ _) (mS rfl mN))
  ·exact⟨Nat.zero_le _,[],[],_,[],.nils,[],0,l.length+1,rfl,rfl,rfl,.nils,Nat.le_refl _,by omega,by simp,hL.symm⟩
end Go.Proofs.YthjnlpfibakacaaGreatDoorPe.Tmpf
