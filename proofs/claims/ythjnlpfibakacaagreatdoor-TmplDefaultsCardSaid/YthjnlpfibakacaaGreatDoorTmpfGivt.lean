/- A part of the proof of this folder's statement; it has no condition of its own. -/
import Derived.Test.YthjnlpfibakacaaGreatDoorTmpfNum
import Derived.Test.YthjnlpfibakacaaGreatDoorTmpfLay
import Derived.Test.YthjnlpfibakacaaGreatDoorPeSound3
set_option maxRecDepth 1000000
set_option linter.unusedVariables false
set_option linter.unusedSimpArgs false
namespace Go.Proofs.YthjnlpfibakacaaGreatDoorPe.Tmpf
open Go Go.Proofs Go.Proofs.YthjnlpfibakacaaGreatDoorPe Go.Proofs.YthjnlpfibakacaaGreatDoorPe.TmpfCode
def digs:Nat->Nat->List UInt8
 |0,u=>[UInt8.ofNat (48+u)]
 |k+1,u=>if u<10 then [UInt8.ofNat (48+u)] else digs k (u / 10)++[UInt8.ofNat (48+u % 10)]
theorem digs_eq : ∀ (k u:Nat),u<10 ^ (k+1)->digs k u=Lib.decDigits u
 |0,u,h=>by
  rw[Lib.decDigits,dif_pos (by omega)]
  rfl
 |k+1,u,h=>by
  rw[Lib.decDigits]
  unfold digs
  by_cases hu:u<10
  ·rw[if_pos hu,dif_pos hu]
  ·rw[if_neg hu,dif_neg hu,digs_eq k (u / 10) (by rw[Nat.pow_succ] at h; omega)]
def text (n:Int):List UInt8:=if n<0 then 45::digs 20 n.natAbs else digs 20 n.toNat
theorem text_eq {n:Int} (h0 : -9223372036854775808<=n) (h1:n<=9223372036854775807):text n=Lib.itoa n:=by
 unfold text Lib.itoa
 split
 ·rw[digs_eq 20 _ (by omega)]
 ·rw[digs_eq 20 _ (by omega)]
def format:List PV->Option PV
 |[.int .i64 n,.int .i64 10]=>if -9223372036854775808<=n/\n<=9223372036854775807 then some (.str (text n)) else none
 |_=>none
def cloned:List PV->Option PV
 |[.str s]=>if s.length<=281474976710656 then some (.str s) else none
 |_=>none
def strsOf:List PV->Option (List (List UInt8))
 |[]=>some []
 |.str s::l=>match strsOf l with
  |some r=>some (s::r)
  |none=>none
 |_=>none
def joinM (sep:List UInt8):List (List UInt8)->List UInt8
 |[]=>[]
 |[x]=>x
 |x::l=>x++sep++joinM sep l
def joinG:List PV->Option PV
 |[.lst l,.str sep]=>match strsOf l with
  |some xs=>if xs.length<=140737488355328/\(joinM sep xs).length<=140737488355328 then some (.str (joinM sep xs)) else none
  |none=>none
 |[.nils,.str sep]=>some (.str [])
 |_=>none
def given (f:FuncId) (l:List PV):Option PV:=if f=f_internal_strconv_FormatInt then format l else if f=f_internal_stringslite_Clone then cloned l else if f=f_strings_Join then joinG l else none
theorem invI {F:Fix} {w:World} {v:Value} {k:IntKind} {m:Int} (h:RepD F w (.int k m) v):v = .int k m:=by
 cases h with
 |int=>rfl
 |sl hx=>rcases hx with hx|⟨hx,_⟩ <;> cases hx
theorem invS {F:Fix} {w:World} {v:Value} {s:List UInt8} (h:RepD F w (.str s) v):v = .string ⟨⟨s⟩⟩:=by
 cases h with
 |str=>rfl
 |sl hx=>rcases hx with hx|⟨hx,_⟩ <;> cases hx
theorem two {vs:Array Value} (hs:vs.size=2):vs = #[vs.getD 0 Go.undef,vs.getD 1 Go.undef]:=by
 apply Array.ext
 ·simpa using hs
 ·intro k hk hk'
  match k,hk with
  |0,hk=>simp[hk]
  |1,hk=>simp[hk]
  |k+2,hk=>omega
theorem invN {F:Fix} {w:World} {v:Value} (h:RepD F w .nils v):v = .slice none 0 0:=by
 cases h with
 |nils=>rfl
 |sl hx=>rcases hx with hx|⟨hx,_⟩ <;> cases hx
theorem one {vs:Array Value} (hs:vs.size=1):vs = #[vs.getD 0 Go.undef]:=by
 apply Array.ext
 ·simpa using hs
 ·intro k hk hk'
  match k,hk with
  |0,hk=>simp[hk]
  |k+1,hk=>omega
theorem strsOf_eq : ∀ {l:List PV} {xs:List (List UInt8)},strsOf l=some xs->l=xs.map .str
 |[],xs,h=>by cases h; rfl
 |x::l,xs,h=>by
  unfold strsOf at h
  split at h
  ·rename_i e; cases e
  ·rename_i s l' e
   cases e
   split at h
   ·rename_i r hr
    cases h
    rw[List.map_cons,<- strsOf_eq hr]
   ·cases h
  ·cases h
theorem joinM_tail (sep x:List UInt8) (l:List (List UInt8)):joinM sep (x::l)=x++Lib.joinTail sep l:=by
 induction l generalizing x with
 |nil=>simp[joinM,Lib.joinTail]
 |cons y l ih =>
  show x++sep++joinM sep (y::l)=_
  rw[ih,List.append_assoc]
  simp[Lib.joinTail]
theorem joinM_eq (sep:List UInt8) (l:List (List UInt8)):joinM sep l=Lib.join l sep:=by
 cases l with
 |nil=>rfl
 |cons x l=>rw[joinM_tail,Lib.join_cons]
theorem join_given {W:World} {xs:List (List UInt8)} {sep:List UInt8} (h1:xs.length<=140737488355328) (h2:(joinM sep xs).length<=140737488355328) {w:World} {F:Fix} {v:Value} (hFd : ∀ b o,F b o->b<w.heap.size) (hr:RepD F w (.lst (xs.map .str)) v) :
  Calls Tryz.prog f_strings_Join #[v,.string ⟨⟨sep⟩⟩] w fun e w'=>e = .returned (.string ⟨⟨joinM sep xs⟩⟩)/\Go.RowKit.Below w.heap.size w w':=by
 cases hr with
 |@sl _ l a cap b o sz vs hx hcap ha hsz hc hv =>
  rcases hx with hx|⟨hx,_⟩
  ·cases hx
   have hm:(xs.map (fun s=>(⟨⟨s⟩⟩:ByteArray))).map (·.data.toList)=xs:=by
    rw[List.map_map]
    exact (List.map_congr_left fun s _=>rfl).trans (List.map_id _)
   rw[joinM_eq] at h2 ⊢
   cases hxs:xs with
   |nil =>
    subst hxs
    exact (Any.strings_Join_none { laysJoin with } extra a cap ⟨⟨sep⟩⟩ w).mono fun e w' ⟨he,hw⟩=>⟨he,hw ▸ Go.RowKit.Below.refl _ _⟩
   |cons x0 l0 =>
    rw[<- hxs]
    have h0:0<(xs.map PV.str).length:=by rw[hxs]; simp
    rw[ha.1 (by rw[hxs]; simp)]
    have hv1 : ∀ j (h:j<xs.length),vs j = .string ⟨⟨xs[j]⟩⟩:=fun j h=>by
     have:=hv j (by simpa using h)
     rw[List.getElem_map] at this
     exact invS this
    have hs1:sz=1:=by
     rw[<- hsz 0 h0,hv1 0 (by simpa using h0)]
     rfl
    subst hs1
    have hbk:b<w.heap.size:=hFd _ _ (hc 0 0 h0 (by omega)).1
    rw[List.length_map] at hcap ⊢
    have:=Any.strings_Join { laysJoin with } extra b o cap (xs.map (fun s=>(⟨⟨s⟩⟩:ByteArray))) ⟨⟨sep⟩⟩ w (fun j x hj => ?_) hbk (by simpa using h1) (by simpa using hcap) (by rw[hm]; exact h2)
    ·rw[hm,List.length_map] at this
     exact this
    ·obtain⟨h,rfl⟩:=List.getElem?_eq_some_iff.1 hj
     rw[List.length_map] at h
     have h3:=(hc j 0 (by simpa using h) (by omega)).2.1
     rw[hv1 j h] at h3
     rw[List.getElem_map]
     rw[Nat.mul_one,Nat.add_zero] at h3
     exact h3
  ·cases hx
theorem given_plain_ok {W : World} (htab : Lib.TabIs Tryz.prog W "internal/strconv.uint64pow10" .u64 Lib.pow10Tab) : GivenPlain Tryz.prog W (fnsOf Tryz.prog sh rows) given := by
 intro f xs r hf hg
 unfold given at hg
 by_cases h1:f=f_internal_strconv_FormatInt
 ·subst h1
  rw[if_pos rfl] at hg
  unfold format at hg
  split at hg
  ·rename_i n
   split at hg
   ·rename_i hn
    cases hg
    refine⟨⟨G_internal_strconv_FormatInt,by kernel_rfl,by rfl,by rfl⟩,fun w F vs hFd hb hsz hr => ?_⟩
    rw[two hsz,invI (hr 0 (by simp)),invI (hr 1 (by simp))]
    refine (Any.internal_strconv_FormatInt_10 laysFmt n hn.1 hn.2 w ((Lib.tabBelow_of_tabIs htab) w hb)).mono fun e w' hh => ?_
    obtain⟨rfl,k,os,rfl⟩:=hh
    refine given_plain hFd rfl (Lib.below_grow _ w (Nat.le_refl _) k os) ?_
    rw[text_eq hn.1 hn.2]
    exact .str _
   ·cases hg
  ·cases hg
 rw[if_neg h1] at hg
 by_cases h2:f=f_internal_stringslite_Clone
 ·subst h2
  rw[if_pos rfl] at hg
  unfold cloned at hg
  split at hg
  ·rename_i s
   split at hg
   ·rename_i hs
    cases hg
    refine⟨⟨G_internal_stringslite_Clone,by kernel_rfl,by rfl,by rfl⟩,fun w F vs hFd hb hsz hr => ?_⟩
    rw[one hsz,invS (hr 0 (by simp))]
    refine (Any.stringslite_Clone laysClone ⟨⟨s⟩⟩ w (by show s.length<=_; exact hs)).mono fun e w' hh => ?_
    obtain⟨rfl,hbel⟩:=hh
    exact given_plain hFd rfl hbel (.str _)
   ·cases hg
  ·cases hg
 rw[if_neg h2] at hg
 by_cases h5:f=f_strings_Join
 ·subst h5
  rw[if_pos rfl] at hg
  unfold joinG at hg
  split at hg
  ·rename_i l sep
   split at hg
   ·rename_i xs hxs
    split at hg
    ·rename_i hn
     cases hg
     obtain rfl:=strsOf_eq hxs
     refine⟨⟨G_strings_Join,by kernel_rfl,by rfl,by rfl⟩,fun w F vs hFd hb hsz hr => ?_⟩
     have h1:=hr 1 (by simp)
     simp only[List.getElem_cons_succ,List.getElem_cons_zero] at h1
     rw[two hsz,invS h1]
     refine (join_given (W:=W) hn.1 hn.2 hFd (hr 0 (by simp))).mono fun e w' hh => ?_
     obtain⟨rfl,hbel⟩:=hh
     exact given_plain hFd rfl hbel (.str _)
    ·cases hg
   ·cases hg
  ·rename_i sep
   cases hg
   refine⟨⟨G_strings_Join,by kernel_rfl,by rfl,by rfl⟩,fun w F vs hFd hb hsz hr => ?_⟩
   have h1:=hr 1 (by simp)
   have h0:=hr 0 (by simp)
   simp only[List.getElem_cons_succ,List.getElem_cons_zero] at h1 h0
   rw[two hsz,invS h1,invN h0]
   refine (Any.strings_Join_none { laysJoin with } extra none 0 ⟨⟨sep⟩⟩ w).mono fun e w' hh => ?_
   obtain⟨rfl,rfl⟩:=hh
   exact given_plain hFd rfl (Go.RowKit.Below.refl _ _) (.str _)
  ·cases hg
 ·rw[if_neg h5] at hg; cases hg
theorem given_ok {W : World} (htab : Lib.TabIs Tryz.prog W "internal/strconv.uint64pow10" .u64 Lib.pow10Tab) : GivenOk Tryz.prog W (fnsOf Tryz.prog sh rows) given := by
 refine GivenPlain.ok (given_plain_ok htab) fun f x t l hg => ?_
 unfold given at hg
 split at hg
 ·unfold format at hg; simp at hg
 ·split at hg
  ·unfold cloned at hg; simp at hg
  ·split at hg
   ·unfold joinG at hg; simp at hg
   ·cases hg
end Go.Proofs.YthjnlpfibakacaaGreatDoorPe.Tmpf
set_option maxRecDepth 1000000
set_option linter.unusedVariables false
set_option linter.unusedSimpArgs false
namespace Go.Proofs.YthjnlpfibakacaaGreatDoorPe.Tmpf
open Go Go.Proofs Go.Proofs.YthjnlpfibakacaaGreatDoorPe Go.Proofs.YthjnlpfibakacaaGreatDoorPe.TmpfCode
theorem acc_append (l:List UInt8) (c:UInt8) : ∀ v,acc v (l++[c])=10*acc v l+(c.toNat-48):=by
 induction l with
 |nil=>intro v; rw[List.nil_append,acc_cons]; rfl
 |cons d r ih=>intro v; rw[List.cons_append,acc_cons,acc_cons,ih]
theorem dec_ok (u:Nat):acc 0 (Lib.decDigits u)=u/\(Lib.decDigits u).all digit=true/\Lib.decDigits u≠[]:=by
 induction u using Nat.strongRecOn with
 |_ u ih =>
  have hc : ∀ x,x<10->(UInt8.ofNat (48+x)).toNat=48+x:=by intro x hx; rw[UInt8.toNat_ofNat']; omega
  have hdg : ∀ x,x<10->digit (UInt8.ofNat (48+x))=true:=by
   intro x hx
   unfold digit
   rw[hc x hx]
   simp
   omega
  rw[Lib.decDigits]
  split
  ·rename_i h
   refine⟨?_,?_,by simp⟩
   ·rw[acc_cons,hc u h]; show acc _ []=_; simp[acc]
   ·rw[List.all_cons,hdg u h]; rfl
  ·rename_i h
   obtain⟨h1,h2,h3⟩:=ih (u / 10) (by omega)
   refine⟨?_,?_,by simp⟩
   ·rw[acc_append,h1,hc _ (by omega)]; omega
   ·rw[List.all_append,h2,List.all_cons,hdg (u % 10) (by omega)]; rfl
end Go.Proofs.YthjnlpfibakacaaGreatDoorPe.Tmpf
