/- A part of the proof of this folder's statement; it has no condition of its own. -/
import Derived.Test.YtplcjcdjjppooaaGreatDoorFltNt
import Derived.Test.YtplcjcdjjppooaaGreatDoorFltGivt
import Derived.Test.YtplcjcdjjppooaaGreatDoorEcWp2
set_option linter.unusedVariables false
set_option linter.unusedSimpArgs false
set_option maxRecDepth 100000
namespace Go.Proofs.YtplcjcdjjppooaaGreatDoorPe.Flt
open Go Go.Proofs Go.Proofs.YtplcjcdjjppooaaGreatDoorPe Go.Proofs.YtplcjcdjjppooaaGreatDoorPe.FltCode
def IsTrue (o:Option (PV × St)):Prop:=Good (fun v _=>v = .bool true) o
theorem IsTrue.ex {o:Option (PV × St)} (h:IsTrue o) : ∃ st,o=some (.bool true,st):=by
 obtain⟨v,st,h,rfl⟩:=h
 exact⟨st,h⟩
end Go.Proofs.YtplcjcdjjppooaaGreatDoorPe.Flt
set_option linter.unusedVariables false
set_option linter.unusedSimpArgs false
set_option maxRecDepth 100000
namespace Go.Proofs.YtplcjcdjjppooaaGreatDoorPe.Flt
open Go Go.Proofs Go.Proofs.YtplcjcdjjppooaaGreatDoorPe Go.Proofs.YtplcjcdjjppooaaGreatDoorPe.FltCode
inductive PosOk (M:Nat):Nd->Prop where
 |mk {k pos i:Int} {s:List UInt8} {kids:List Nd} (h:0<=pos/\pos<=M) (hk : ∀ x∈kids,PosOk M x):PosOk M (.mk k pos i s kids)
theorem PosOk.pos {M:Nat} {x:Nd} (h:PosOk M x):0<=x.pos/\x.pos<=M:=by cases h; assumption
theorem PosOk.kids {M:Nat} {x:Nd} (h:PosOk M x) : ∀ y∈x.kids,PosOk M y:=by cases h; assumption
end Go.Proofs.YtplcjcdjjppooaaGreatDoorPe.Flt
set_option maxRecDepth 1000000
namespace Go.Proofs.YtplcjcdjjppooaaGreatDoorPe.Flt
open Go Go.Proofs Go.Proofs.YtplcjcdjjppooaaGreatDoorPe Go.Proofs.YtplcjcdjjppooaaGreatDoorPe.FltCode
theorem known_t:tupV (callE efns given) (.call 0 f_law5_known) []=some (.bool true):=run_t (k:=100) (by kernel_rfl)
end Go.Proofs.YtplcjcdjjppooaaGreatDoorPe.Flt
set_option linter.unusedVariables false
set_option linter.unusedSimpArgs false
set_option maxRecDepth 1000000
namespace Go.Proofs.YtplcjcdjjppooaaGreatDoorPe.Flt
open Go Go.Proofs Go.Proofs.YtplcjcdjjppooaaGreatDoorPe Go.Proofs.YtplcjcdjjppooaaGreatDoorPe.FltCode
def newP:PV:=.iface Errs.tS (.ref [.str [120]])
theorem new_t:tupV (callE efns given) (.call 0 f_errors_New) [.str [120]]=some newP:=by
 refine call_good (f:=f_errors_New) rfl ?_
 rw[callE_fn efns given (c:=e_errors_New) rfl rfl]
 simp only[e_errors_New,go_sem]
 exact Good.done rfl
def strO:Option (PV × St)->Option (List UInt8)
 |some (.str s,_)=>some s
 |_=>none
def intO:Option (PV × St)->Option Int
 |some (.int .i64 s,_)=>some s
 |_=>none
theorem strO_some {o:Option (PV × St)} {s:List UInt8} (h:strO o=some s) : ∃ st,o=some (.str s,st):=by
 unfold strO at h
 split at h
 ·cases h; exact⟨_,rfl⟩
 ·cases h
theorem intO_some {o:Option (PV × St)} {s:Int} (h:intO o=some s) : ∃ st,o=some (.int .i64 s,st):=by
 unfold intO at h
 split at h
 ·cases h; exact⟨_,rfl⟩
 ·cases h
theorem newtold_t:tupV (callE efns given) (.call 0 f_sexp_Told) [newP]=some (.str [63]):=by
 have h:strO (evFE efns given 60 f_sexp_Told [newP] ⟨[],[],[],[]⟩)=some [63]:=by kernel_rfl
 obtain⟨st,h⟩:=strO_some h
 exact callV_of («as» := [newP]) rfl ((callE_some efns given).2 ⟨60,h⟩) rfl
theorem newnum_t:tupV (callE efns given) (.call 0 f_sexp_Number) [newP]=some (.int .i64 2):=by
 have h:intO (evFE efns given 60 f_sexp_Number [newP] ⟨[],[],[],[]⟩)=some 2:=by kernel_rfl
 obtain⟨st,h⟩:=intO_some h
 exact callV_of («as» := [newP]) rfl ((callE_some efns given).2 ⟨60,h⟩) rfl
theorem in_t {w:List UInt8} {a e:Int} {l:Parts} {v:PV} (hv:SlV (l.map partP) v) (hl:l.length<=1000):tupV (callE efns given) (.call 0 f_ref5_In) [.str w,.int .i64 a,.agg [v,.int .i64 e]]=some (.agg [.lst (((w,a)::l).map partP),.int .i64 e]):=by
 have key:tupV (callE efns given) (.call 0 f_ref5_In) [.str w,.int .i64 a,.agg [.lst (l.map partP),.int .i64 e]]=some (.agg [.lst (((w,a)::l).map partP),.int .i64 e]):=by
  refine call_good (f:=f_ref5_In) rfl ?_
  rw[callE_fn efns given (c:=e_ref5_In) rfl rfl]
  have hsz:szAll 2 (l.map partP)=true:=by
   unfold szAll
   rw[List.all_map]
   exact List.all_eq_true.2 fun x _=>rfl
  have hO0:OutV 2 T_ref5_In_0 [partP (w,a)] (.full [partP (w,a)]) [] []:=.inl ⟨rfl,rfl⟩
  obtain⟨o,r,t,a1,hO,hr,_⟩:=hO0.app (b:=24) rfl (es:=l.map partP) hsz (by simp; omega)
  simp only[go_sem,partP] at a1
  simp only[e_ref5_In,go_sem,partP,a1,hO.cells,hO.cell]
  exact Good.done (ret_agg (mS (hO.shutR _ _) (mS rfl mN)))
 rw[<- key]
 have hsh:shutA 6 (PV.agg [v,.int .i64 e])=some (.agg [.lst (l.map partP),.int .i64 e]):=shutA_agg (k:=5) (mS (hv.shutA 4) (mS rfl mN))
 have hsh2:shutA 6 (PV.agg [.lst (l.map partP),.int .i64 e])=some (.agg [.lst (l.map partP),.int .i64 e]):=shutA_agg (k:=5) (mS ((show SlV (l.map partP) (.lst (l.map partP)) from rfl).shutA 4) (mS rfl mN))
 exact tup_shut (by rw[argF_0]; exact (mS (f:=shutA shutN) (b:=.str w) rfl (mS (b:=.int .i64 a) rfl (mS hsh mN))).trans (mS (f:=shutA shutN) (b:=.str w) rfl (mS (b:=.int .i64 a) rfl (mS hsh2 mN))).symm)
theorem faults_law (parts:List (List UInt8)) (at_:List Int) (e:Int) (ha : ∀ x∈at_,I64 x) :
  IsTrue (callE efns given f_law5_ReadFaults [.lst (parts.map PV.str),.lst (at_.map (PV.int .i64)),.int .i64 e] ⟨[],[],[],[]⟩):=by
 rw[callE_fn efns given (c:=e_law5_ReadFaults) rfl rfl]
 have hk:=known_t
 by_cases h1:parts.length>20
 ·have c1:((parts.length:Int)>20)=True:=eq_true (by omega)
  simp only[e_law5_ReadFaults,go_sem,hk,List.length_map,c1]
  exact Good.done rfl
 have c1:((parts.length:Int)>20)=False:=eq_false (by omega)
 by_cases h2:at_.length<parts.length
 ·have c2:((at_.length:Int)<(parts.length:Int))=True:=eq_true (by omega)
  simp only[e_law5_ReadFaults,go_sem,hk,List.length_map,c1,c2]
  exact Good.done rfl
 have c2:((at_.length:Int)<(parts.length:Int))=False:=eq_false (by omega)
 by_cases h3:e<1
 ·simp only[e_law5_ReadFaults,go_sem,hk,List.length_map,c1,c2,eq_true h3]
  exact Good.done rfl
 by_cases h4:e>11
 ·simp only[e_law5_ReadFaults,go_sem,hk,List.length_map,c1,c2,eq_false h3,eq_true h4]
  exact Good.done rfl
 have q1:=new_t
 have q2:=newtold_t
 have q3:=newnum_t
 generalize newP=NP at *
 simp only[e_law5_ReadFaults,go_sem,hk,List.length_map,c1,c2,eq_false h3,eq_false h4,IntWalk.i64_in (n:=(parts.length:Int)-1) (by omega)]
 have hzl:(parts.zip at_).length=parts.length:=by simp; omega
 refine Good.for parts.length (fun c fr st => ∃ v,fr=[.lst (parts.map PV.str),.lst (at_.map (PV.int .i64)),.undef,errP ((parts.zip at_).drop (parts.length-c)) e,.ptr 0 0,.int .i64 (((parts.length-c:Nat):Int)-1),.undef,.undef] /\
  st=⟨[[v,.int .i64 e]],[],[T_law5_ReadFaults_1],[]⟩/\SlV (((parts.zip at_).drop (parts.length-c)).map partP) v/\GoodP ((parts.zip at_).drop (parts.length-c))) ?_ ?_ ?_
 ·rintro c fr st hc ⟨v,rfl,rfl,hv,hg⟩ k hk2
  obtain⟨m,hm⟩ : ∃ m,parts.length-c=m+1:=⟨parts.length-c-1,by omega⟩
  have hm':parts.length-(c+1)=m:=by omega
  have e1:(((m+1:Nat):Int)-1)=(m:Int):=by omega
  have hml:m<parts.length:=by omega
  have hma:m<at_.length:=by omega
  have c3:((m:Int)>=0)=True:=eq_true (by omega)
  have hat:evIdx 1 (parts.map PV.str) (m:Int)=some (.ref [.str parts[m]]):=idx_of (e:=.str parts[m]) (map_at hml) rfl
  have hat2:evIdx 1 (at_.map (PV.int .i64)) (m:Int)=some (.ref [.int .i64 at_[m]]):=idx_of (e:=.int .i64 at_[m]) (map_at hma) rfl
  rw[hm] at hv hg ⊢
  rw[hm'] at hk2
  rw[e1]
  have hd:(parts.zip at_).drop m=(parts[m],at_[m])::(parts.zip at_).drop (m+1):=by
   rw[List.drop_eq_getElem_cons (by rw[hzl]; exact hml),List.getElem_zip]
  rw[hd] at hk2
  have hlen:((parts.zip at_).drop (m+1)).length<=1000:=by simp; omega
  generalize (parts.zip at_).drop (m+1)=l at hv hg hk2 hlen
  have hi:=ha at_[m] (List.getElem_mem hma)
  generalize parts[m]=w at hat hk2
  generalize at_[m]=a at hat2 hk2 hi
  by_cases h5:w.length>50
  ·have c4:((w.length:Int)>50)=True:=eq_true (by omega)
   simp only[b_law5_ReadFaults_0,go_sem,c3,hat,c4]
   exact Good.done rfl
  have c4:((w.length:Int)>50)=False:=eq_false (by omega)
  have hin:=in_t (w:=w) (a:=a) (e:=e) hv hlen
  have hes:shutA 6 (errP l e)=some (errP l e):=errP_shut l e
  have hec:(errP l e).cells=[errP l e]:=by cases l <;> rfl
  have hec2:(errP l e).isCell=true:=by cases l <;> rfl
  rw[show errP ((w,a)::l) e = .iface T_law5_ReadFaults_0 (.ref [.str w,.int .i64 a,errP l e]) from rfl] at hk2
  generalize errP l e=E at *
  simp only[b_law5_ReadFaults_0,go_sem,c3,hat,hat2,c4,hes,hec,hec2,hin,IntWalk.i64_in (n:=(m:Int)-1) (by omega)]
  refine hk2 _ _ ⟨_,rfl,rfl,rfl,fun x hx => ?_⟩
  rcases List.mem_cons.1 hx with rfl|hx
  ·exact⟨by simp only; omega,hi⟩
  ·exact hg x hx
 ·rintro fr st ⟨v,rfl,rfl,hv,hg⟩ k
  rw[Nat.sub_self,List.drop_zero] at hv hg ⊢
  have hzl2:(parts.zip at_).length<=20:=by omega
  generalize parts.zip at_=l at hv hg hzl2
  have ht:tupV (callE efns given) (.call 0 f_law5_Tells) [errP l e,.agg [v,.int .i64 e]]=some (.bool true):=by
   rw[<- tells_t (e:=e) hzl2 hg (by omega) (by omega)]
   exact tup_shut (by rw[argF_0]; exact (mS (errP_shut l e) (mS (shutA_agg (mS (hv.shutA _) (mS rfl mN))) mN)).trans (mS (errP_shut l e) (mS rfl mN)).symm)
  generalize errP l e=E at *
  simp only[b_law5_ReadFaults_0,go_sem,show ((0:Int)-1>=0)=False from eq_false (by omega),ht,q1,q2,q3]
  exact Good.done rfl
 ·refine⟨.nils,?_,rfl,?_,?_⟩
  ·rw[Nat.sub_zero,List.drop_eq_nil_of_le (by rw[hzl]; exact Nat.le_refl _)]
   rfl
  ·rw[Nat.sub_zero,List.drop_eq_nil_of_le (by rw[hzl]; exact Nat.le_refl _)]
   rfl
  ·rw[Nat.sub_zero,List.drop_eq_nil_of_le (by rw[hzl]; exact Nat.le_refl _)]
   intro x hx
   cases hx
end Go.Proofs.YtplcjcdjjppooaaGreatDoorPe.Flt
