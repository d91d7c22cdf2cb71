/- A part of the proof of this folder's statement; it has no condition of its own. -/
import Derived.Test.YthjnlpfibakacaaGreatDoorTmpfLexM
set_option linter.unusedVariables false
set_option linter.unusedSimpArgs false
set_option maxRecDepth 1000000
namespace Go.Proofs.YthjnlpfibakacaaGreatDoorPe.Tmpf
open Go Go.Proofs.YthjnlpfibakacaaGreatDoorPe Go.Proofs.YthjnlpfibakacaaGreatDoorPe.TmpfCode
theorem rname_loop {b:List UInt8} (hb:b.length<=65536) {st:St} {y:PV} {K:EX->Fr->St->Option (PV × St)} : ∀ (l:List UInt8) (n:Nat),b.drop n=l->n<=b.length ->
  runL (callE efns given) [true,true,true,false] b_ref4_name_0 [.lst (byts b),y,.int .i64 (n:Int),.undef] st K =
   K (.exit 0) [.lst (byts b),y,.int .i64 ((n+(l.takeWhile partB).length:Nat):Int),.undef] st:=by
 intro l
 induction l with
 |nil =>
  intro n hd hn
  have:=drop_none hd
  have c1:((n:Int)<(b.length:Int))=False:=eq_false (by omega)
  rw[runL_eq]
  generalize runL _ _ b_ref4_name_0=L
  simp only[b_ref4_name_0,go_sem,byts_length,c1,List.takeWhile_nil,List.length_nil,Nat.add_zero,if_false]
 |cons c r ih =>
  intro n hd hn
  obtain⟨hc,hd',hl⟩:=drop_get hd
  have c1:((n:Int)<(b.length:Int))=True:=eq_true (by omega)
  cases hp:partB c with
  |false =>
   rw[runL_eq]
   generalize runL _ _ b_ref4_name_0=L
   simp only[b_ref4_name_0,go_sem,byts_length,c1,bidx hc,rpart_t,hp,List.takeWhile_cons,List.length_nil,Nat.add_zero,if_true,if_false,Bool.false_eq_true]
  |true =>
   have hr:=ih (n+1) hd' (by omega)
   have w1:=wrap1 (n:=n) (m:=b.length) (by omega) (by omega)
   rw[runL_eq]
   generalize runL _ _ b_ref4_name_0=L at hr ⊢
   have e:n+((c::r).takeWhile partB).length=n+1+(r.takeWhile partB).length:=by
    rw[List.takeWhile_cons,hp]
    simp
    omega
   rw[e]
   simp only[b_ref4_name_0,go_sem,byts_length,c1,bidx hc,rpart_t,hp,w1,hr,if_true]
def resN (a:Nat):Res (List UInt8)->PV
 |.ok t=>.tuple [.str t,.int .i64 ((a+t.length:Nat):Int),.int .i64 0]
 |.error e=>.tuple [.str [],.int .i64 0,.int .i64 e]
theorem rname_t {b:List UInt8} (hb:b.length<=65536) {n:Nat} (hn:n<=b.length):tupV (callE efns given) (.call 0 f_ref4_name) [.lst (byts b),.int .i64 (n:Int)]=some (resN n (nameM (b.drop n))):=by
 have hle:=while_le partB b hn
 have key:callE efns given f_ref4_name [.lst (byts b),.int .i64 (n:Int)] ⟨[],[],[],[]⟩=some (resN n (nameM (b.drop n)),⟨[],[],[],[]⟩):=by
  rw[callE_fn efns given (c:=e_ref4_name) rfl rfl]
  simp only[e_ref4_name,go_sem]
  generalize hK:blockK 0 _=K
  refine Eq.trans (rname_loop hb (K:=K) _ n rfl hn) ?_
  rw[<- hK]
  have sb:=blsub (b:=b) (i:=n) (j:=n+((b.drop n).takeWhile partB).length) (by omega) hle
  rw[cut_while] at sb
  have hw:((b.drop n).takeWhile partB).length<4611686018427387904:=by omega
  simp only[go_sem,sb,btostr,rgood_t hw]
  unfold nameM
  by_cases h40:((b.drop n).takeWhile partB).length>40
  ·have h40':(((b.drop n).takeWhile partB).length:Int)>40:=by omega
   rw[if_pos h40]
   simp only[h40',if_true]
   rfl
  ·have h40' : ¬ (((b.drop n).takeWhile partB).length:Int)>40:=by omega
   rw[if_neg h40]
   cases hg:goodM ((b.drop n).takeWhile partB) with
   |true =>
    simp only[h40',if_true,if_false,Bool.not_true,Bool.false_eq_true]
    rfl
   |false =>
    simp only[h40',if_true,if_false,Bool.not_false,Bool.false_eq_true]
    rfl
 refine callV_of rfl key ?_
 cases nameM (b.drop n) <;> rfl
def resX:Res (List UInt8 × Nat)->PV
 |.ok t=>.tuple [.str t.1,.int .i64 (t.2:Int),.int .i64 0]
 |.error e=>.tuple [.str [],.int .i64 0,.int .i64 e]
theorem rtext_loop4 {b:List UInt8} (hb:b.length<=65536) {st:St} {K:EX->Fr->St->Option (PV × St)}
  (hK : ∀ fr,K (.exit 0) fr st=K (.ret (.tuple [.str [],.int .i64 0,.int .i64 3])) [] st) :
  ∀ (m:Nat) (l:List UInt8) (n:Nat) (acc:List UInt8),l.length<=m->b.drop n=l->n<=b.length->acc.length<=n ->
  runL (callE efns given) [true,true,true,false] b_ref4_text_0 [.lst (byts b),.int .i64 (n:Int),.str acc,.undef] st K=K (.ret (resX (strM l acc n))) [] st:=by
 have stop : ∀ (n:Nat) (acc:List UInt8),b.drop n=[]->runL (callE efns given) [true,true,true,false] b_ref4_text_0 [.lst (byts b),.int .i64 (n:Int),.str acc,.undef] st K=K (.ret (resX (strM [] acc n))) [] st:=by
  intro n acc hd
  have:=drop_none hd
  have c1:((n:Int)<(b.length:Int))=False:=eq_false (by omega)
  rw[runL_eq]
  generalize runL _ _ b_ref4_text_0=L
  simp only[b_ref4_text_0,go_sem,byts_length,c1,if_false,hK]
  rfl
 intro m
 induction m with
 |zero =>
  intro l n acc hm hd hn ha
  cases l with
  |cons=>simp at hm
  |nil=>exact stop n acc hd
 |succ m ih =>
  intro l n acc hm hd hn ha
  cases l with
  |nil=>exact stop n acc hd
  |cons c r =>
   obtain⟨hc,hd',hl⟩:=drop_get hd
   have c1:((n:Int)<(b.length:Int))=True:=eq_true (by omega)
   have w1:=wrap1 (n:=n) (m:=b.length) (by omega) (by omega)
   have e34:((c.toNat:Int)=34)=(c=34):=code_eq (n:=34) (by decide)
   have e92:((c.toNat:Int)=92)=(c=92):=code_eq (n:=92) (by decide)
   have hlim : ∀ d:UInt8,(acc.length+[d].length<=4611686018427387904)=True:=by intro d; exact eq_true (by simp only[List.length_cons,List.length_nil]; omega)
   have hlim1:(acc.length+1<=4611686018427387904)=True:=eq_true (by omega)
   by_cases h34:c=34
   ·subst h34
    have q34:((((34:UInt8).toNat:Nat):Int)=34)=True:=eq_true rfl
    rw[runL_eq,strM_end]
    generalize runL _ _ b_ref4_text_0=L
    by_cases h1000:acc.length>1000
    ·have hi:((acc.length:Nat):Int)>1000:=by omega
     rw[if_pos h1000]
     simp only[b_ref4_text_0,go_sem,byts_length,c1,bidx hc,q34,hi,if_true]
     rfl
    ·have hi : ¬ ((acc.length:Nat):Int)>1000:=by omega
     rw[if_neg h1000]
     simp only[b_ref4_text_0,go_sem,byts_length,c1,bidx hc,q34,hi,w1,if_true,if_false]
     rfl
   ·by_cases h92:c=92
    ·subst h92
     have q34:((((92:UInt8).toNat:Nat):Int)=34)=False:=eq_false (by decide)
     have q92:((((92:UInt8).toNat:Nat):Int)=92)=True:=eq_true rfl
     cases r with
     |nil =>
      have:=drop_none hd'
      have c2:((n+1:Nat):Int)=(b.length:Int):=by omega
      rw[runL_eq,strM_esc0]
      generalize runL _ _ b_ref4_text_0=L
      simp only[b_ref4_text_0,go_sem,byts_length,c1,bidx hc,q34,q92,w1,c2,if_true,if_false]
      rfl
     |cons d r' =>
      obtain⟨hc2,hd2,hl2⟩:=drop_get hd'
      have c2:(((n+1:Nat):Int)=(b.length:Int))=False:=eq_false (by omega)
      have w2:=wrap1 (n:=n+1) (m:=b.length) (by omega) (by omega)
      have hr:=ih r' (n+1+1) (acc++[d]) (by simp only[List.length_cons] at hm; omega) hd2 (by omega) (by simp; omega)
      have hlim2:=hlim d
      rw[runL_eq,strM_esc]
      generalize runL _ _ b_ref4_text_0=L at hr ⊢
      simp only[b_ref4_text_0,go_sem,byts_length,c1,bidx hc,bidx hc2,q34,q92,w1,c2,w2,Int.toNat_natCast,UInt8.ofNat_toNat,hlim2,hlim1,hr,if_true,if_false]
    ·have hr:=ih r (n+1) (acc++[c]) (by simp only[List.length_cons] at hm; omega) hd' (by omega) (by simp; omega)
     have hlim2:=hlim c
     rw[runL_eq,strM_cons h34 h92]
     generalize runL _ _ b_ref4_text_0=L at hr ⊢
     simp only[b_ref4_text_0,go_sem,byts_length,c1,bidx hc,e34,e92,h34,h92,w1,Int.toNat_natCast,UInt8.ofNat_toNat,hlim2,hlim1,hr,if_true,if_false]
theorem rtext_t {b:List UInt8} (hb:b.length<=65536) {n:Nat} (hn:n<=b.length):tupV (callE efns given) (.call 0 f_ref4_text) [.lst (byts b),.int .i64 (n:Int)]=some (resX (strM (b.drop n) [] n)):=by
 have key:callE efns given f_ref4_text [.lst (byts b),.int .i64 (n:Int)] ⟨[],[],[],[]⟩=some (resX (strM (b.drop n) [] n),⟨[],[],[],[]⟩):=by
  rw[callE_fn efns given (c:=e_ref4_text) rfl rfl]
  simp only[e_ref4_text,go_sem]
  generalize hK:blockK 0 _=K
  refine Eq.trans (rtext_loop4 hb (K:=K) (by intro fr; rw[<- hK]; simp only[go_sem]) _ _ n [] (Nat.le_refl _) rfl hn (by simp)) ?_
  rw[<- hK]
  simp only[go_sem]
 refine callV_of rfl key ?_
 cases strM (b.drop n) [] n <;> rfl
theorem strM_shift : ∀ (m:Nat) (s acc:List UInt8) (i d:Nat),s.length<=m->strM s acc (i+d)=(match strM s acc i with
  |.error e=>.error e
  |.ok t=>.ok (t.1,t.2+d)):=by
 intro m
 induction m with
 |zero =>
  intro s acc i d hm
  cases s with
  |nil=>rfl
  |cons=>simp at hm
 |succ m ih =>
  intro s acc i d hm
  cases s with
  |nil=>rfl
  |cons c r =>
   by_cases h34:c=34
   ·subst h34
    rw[strM_end,strM_end]
    split
    ·rfl
    ·show Except.ok (acc,i+d+1)=Except.ok (acc,i+1+d)
     rw[Nat.add_right_comm]
   ·by_cases h92:c=92
    ·subst h92
     cases r with
     |nil=>rw[strM_esc0,strM_esc0]
     |cons e r =>
      rw[strM_esc,strM_esc,Nat.add_right_comm]
      exact ih _ _ _ _ (by simp only[List.length_cons] at hm; omega)
    ·rw[strM_cons h34 h92,strM_cons h34 h92,Nat.add_right_comm]
     exact ih _ _ _ _ (by simp only[List.length_cons] at hm; omega)
theorem one_loop {b:List UInt8} (hb:b.length<=65536) {st:St} {x y z:PV} {K:EX->Fr->St->Option (PV × St)} : ∀ (l:List UInt8) (n:Nat),b.drop n=l->n<=b.length ->
  runL (callE efns given) [true,true,true,true,false,false,false,true,false,false,false,false,false,false,false,false,false,false,false,false,false,false,false,false] b_ref4_one_0
   [.lst (byts b),x,y,z,.undef,.undef,.undef,.int .i64 (n:Int),.undef,.undef,.undef,.undef,.undef,.undef,.undef,.undef,.undef,.undef,.undef,.undef,.undef,.undef,.undef,.undef] st K =
   K (.exit 1) [.lst (byts b),x,y,z,.undef,.undef,.undef,.int .i64 ((n+(l.takeWhile signB).length:Nat):Int),.undef,.undef,.undef,.undef,.undef,.undef,.undef,.undef,.undef,.undef,.undef,.undef,.undef,.undef,.undef,.undef] st:=by
 intro l
 induction l with
 |nil =>
  intro n hd hn
  have:=drop_none hd
  have c1:((n:Int)<(b.length:Int))=False:=eq_false (by omega)
  rw[runL_eq]
  generalize runL _ _ b_ref4_one_0=L
  simp only[b_ref4_one_0,go_sem,byts_length,c1,List.takeWhile_nil,List.length_nil,Nat.add_zero,if_false]
 |cons c r ih =>
  intro n hd hn
  obtain⟨hc,hd',hl⟩:=drop_get hd
  have c1:((n:Int)<(b.length:Int))=True:=eq_true (by omega)
  cases hp:signB c with
  |false =>
   rw[runL_eq]
   generalize runL _ _ b_ref4_one_0=L
   simp only[b_ref4_one_0,go_sem,byts_length,c1,bidx hc,rsignB_t,hp,List.takeWhile_cons,List.length_nil,Nat.add_zero,if_true,if_false,Bool.false_eq_true]
  |true =>
   have hr:=ih (n+1) hd' (by omega)
   have w1:=wrap1 (n:=n) (m:=b.length) (by omega) (by omega)
   rw[runL_eq]
   generalize runL _ _ b_ref4_one_0=L at hr ⊢
   have e:n+((c::r).takeWhile signB).length=n+1+(r.takeWhile signB).length:=by
    rw[List.takeWhile_cons,hp]
    simp
    omega
   rw[e]
   simp only[b_ref4_one_0,go_sem,byts_length,c1,bidx hc,rsignB_t,hp,w1,hr,if_true]
def errOf {α : Type}:Res α -> Int
 |.ok _=>0
 |.error e=>e
theorem shape_t {s:List UInt8} (hs:s.length<4611686018427387904):tupV (callE efns given) (.call 0 f_ref1_Shape) [.str s]=some (.bool (shapeM s)):=callV_of rfl (shape_ok given hs ⟨[],[],[],[]⟩) rfl
theorem rparse_t {s:List UInt8} (hs:s.length<4611686018427387904):tupV (callE efns given) (.call 0 f_ref1_Parse) [.str s]=some (.tuple [.int .i64 (parseM s).1,.int .i64 (parseM s).2]):=callV_of rfl (rparse_ok given hs ⟨[],[],[],[]⟩) rfl
def OneR (n:Nat) (R:Res (Tk × Nat)) (v:PV):Prop :=
 ∃ (tk:Tk) (q:Int),v = .tuple [.agg [.int .i64 tk.k,.int .i64 (n:Int),.int .i64 tk.i,.str tk.s],.int .i64 q,.int .i64 (errOf R)] /\ ∀ t m,R = .ok (t,m)->tk=t/\q=((n+m:Nat):Int)
theorem mkOne {A:Option (PV × St)} {n:Nat} {R:Res (Tk × Nat)} {tk:Tk} {q:Int}
  (h:A=some (.tuple [.agg [.int .i64 tk.k,.int .i64 (n:Int),.int .i64 tk.i,.str tk.s],.int .i64 q,.int .i64 (errOf R)],⟨[[.int .i64 tk.k,.int .i64 (n:Int),.int .i64 tk.i,.str tk.s],[.int .i64 tk.k,.int .i64 (n:Int),.int .i64 tk.i,.str tk.s]],[],[T_ref4_one_0,T_ref4_one_0],[]⟩))
  (h2 : ∀ t m,R = .ok (t,m)->tk=t/\q=((n+m:Nat):Int)) : ∃ v st,A=some (v,st)/\OneR n R v:=⟨_,_,h,tk,q,rfl,h2⟩
theorem one_ok {b:List UInt8} (hb:b.length<=65536) {n:Nat} {c:UInt8} {r:List UInt8} (hd:b.drop n=c::r) :
  ∃ v st,callE efns given f_ref4_one [.lst (byts b),.int .i64 (n:Int)] ⟨[],[],[],[]⟩=some (v,st)/\OneR n (oneM (c::r)) v:=by
 obtain⟨hc,hd',hl⟩:=drop_get hd
 have w1:=wrap1 (n:=n) (m:=b.length) (by omega) (by omega)
 have e40:((c.toNat:Int)=40)=(c=40):=code_eq (n:=40) (by decide)
 have e41:((c.toNat:Int)=41)=(c=41):=code_eq (n:=41) (by decide)
 have e126:((c.toNat:Int)=126)=(c=126):=code_eq (n:=126) (by decide)
 have e34:((c.toNat:Int)=34)=(c=34):=code_eq (n:=34) (by decide)
 have e63:((c.toNat:Int)=63)=(c=63):=code_eq (n:=63) (by decide)
 rw[callE_fn efns given (c:=e_ref4_one) rfl rfl,oneM_cons]
 by_cases h40:c=40
 ·rw[if_pos h40]
  refine mkOne (tk:=⟨4,0,[]⟩) (q:=((n+1:Nat):Int)) ?_ (by intro t m hh; cases hh; exact⟨rfl,rfl⟩)
  simp only[e_ref4_one,go_sem,bidx hc,e40,eq_true h40,w1,if_true,if_false]
  rfl
 ·rw[if_neg h40]
  by_cases h41:c=41
  ·rw[if_pos h41]
   refine mkOne (tk:=⟨5,0,[]⟩) (q:=((n+1:Nat):Int)) ?_ (by intro t m hh; cases hh; exact⟨rfl,rfl⟩)
   simp only[e_ref4_one,go_sem,bidx hc,e40,e41,h40,eq_true h41,w1,if_true,if_false]
   rfl
  ·rw[if_neg h41]
   by_cases h126:c=126
   ·rw[if_pos h126]
    refine mkOne (tk:=⟨8,0,[]⟩) (q:=((n+1:Nat):Int)) ?_ (by intro t m hh; cases hh; exact⟨rfl,rfl⟩)
    simp only[e_ref4_one,go_sem,bidx hc,e40,e41,e126,h40,h41,eq_true h126,w1,if_true,if_false]
    rfl
   ·rw[if_neg h126]
    by_cases h34:c=34
    ·rw[if_pos h34]
     have ht:=rtext_t hb hl
     rw[hd'] at ht
     have hsh:=strM_shift _ r [] 0 (n+1) (Nat.le_refl _)
     rw[Nat.zero_add] at hsh
     rw[hsh] at ht
     cases hM:strM r [] 0 with
     |error e =>
      rw[hM] at ht
      unfold resX at ht
      refine mkOne (tk:=⟨3,0,[]⟩) (q:=0) ?_ (by intro t m hh; cases hh)
      simp only[e_ref4_one,go_sem,bidx hc,e40,e41,e126,e34,h40,h41,h126,eq_true h34,w1,ht,if_true,if_false]
      rfl
     |ok q =>
      rw[hM] at ht
      unfold resX at ht
      refine mkOne (tk:=⟨3,0,q.1⟩) (q:=((q.2+(n+1):Nat):Int)) ?_ (by intro t m hh; cases hh; exact⟨rfl,by omega⟩)
      simp only[e_ref4_one,go_sem,bidx hc,e40,e41,e126,e34,h40,h41,h126,eq_true h34,w1,ht,if_true,if_false]
      rfl
    ·rw[if_neg h34]
     by_cases h63:c=63
     ·rw[if_pos h63]
      unfold varM
      by_cases hs:isStar r=true
      ·rw[if_pos hs]
       obtain⟨r1,hr1⟩:=isStar_iff.1 hs
       rw[hr1] at hd'
       obtain⟨hc2,hd2,hl2⟩:=drop_get hd'
       have w2:IntKind.i64.wrap ((n:Int)+2)=((n+1+1:Nat):Int):=by rw[IntWalk.i64_in _ (by omega)]; omega
       have q42:((((42:UInt8).toNat:Nat):Int)=42)=True:=eq_true rfl
       have c2:(((n+1:Nat):Int)<(b.length:Int))=True:=eq_true (by omega)
       have nm:=rname_t hb hl2
       rw[hd2] at nm
       rw[hr1,List.drop_succ_cons,List.drop_zero]
       cases hnm:nameM r1 with
       |error e =>
        rw[hnm] at nm
        unfold resN at nm
        have he:(e=0)=False:=by rcases nameM_err hnm with rfl|rfl <;> exact eq_false (by decide)
        have w3:IntKind.i64.wrap ((0:Int)+1)=1:=rfl
        refine mkOne (tk:=⟨7,0,[]⟩) (q:=1) ?_ (by intro t m hh; cases hh)
        simp only[e_ref4_one,go_sem,bidx hc,e40,e41,e126,e34,e63,h40,h41,h126,h34,eq_true h63,w1,w2,w3,byts_length,c2,bidx hc2,q42,nm,he,if_true,if_false]
        rfl
       |ok t =>
        rw[hnm] at nm
        obtain⟨ht,_,_,_⟩:=nameM_le hnm
        have hle:=while_le partB b hl2
        rw[hd2,<- ht] at hle
        unfold resN at nm
        have hd3:b.drop (n+1+1+t.length)=r1.drop t.length:=by rw[<- List.drop_drop,hd2]
        have w3:IntKind.i64.wrap (((n+1+1+t.length:Nat):Int)+1)=((n+1+1+t.length+1:Nat):Int):=by rw[IntWalk.i64_in _ (by omega)]; omega
        cases h2:r1.drop t.length with
        |nil =>
         rw[h2] at hd3
         have:=drop_none hd3
         have c3:(((n+1+1+t.length:Nat):Int)=(b.length:Int))=True:=eq_true (by omega)
         have hv:isStar (r1.drop t.length)=false:=by rw[h2]; rfl
         simp only[hv,Bool.false_eq_true,if_false]
         refine mkOne (tk:=⟨7,0,t⟩) (q:=((n+1+1+t.length+1:Nat):Int)) ?_ (by intro t m hh; cases hh)
         simp only[e_ref4_one,go_sem,bidx hc,e40,e41,e126,e34,e63,h40,h41,h126,h34,eq_true h63,w1,w2,w3,byts_length,c2,bidx hc2,q42,nm,c3,if_true,if_false]
         rfl
        |cons d r2 =>
         rw[h2] at hd3
         obtain⟨hc3,_,hl3⟩:=drop_get hd3
         have c3:(((n+1+1+t.length:Nat):Int)=(b.length:Int))=False:=eq_false (by omega)
         have d42:((d.toNat:Int)=42)=(d=42):=code_eq (n:=42) (by decide)
         by_cases h42:d=42
         ·have hv:isStar (r1.drop t.length)=true:=by rw[h2]; simp[isStar,h42]
          simp only[hv,if_true]
          refine mkOne (tk:=⟨7,0,t⟩) (q:=((n+1+1+t.length+1:Nat):Int)) ?_ (by intro t' m hh; cases hh; exact⟨rfl,by omega⟩)
          simp only[e_ref4_one,go_sem,bidx hc,e40,e41,e126,e34,e63,h40,h41,h126,h34,eq_true h63,w1,w2,w3,byts_length,c2,bidx hc2,q42,nm,c3,bidx hc3,d42,eq_true h42,ne_eq,not_true_eq_false,if_true,if_false]
          rfl
         ·have hv:isStar (r1.drop t.length)=false:=by rw[h2]; simp[isStar,h42]
          simp only[hv,Bool.false_eq_true,if_false]
          refine mkOne (tk:=⟨7,0,t⟩) (q:=((n+1+1+t.length+1:Nat):Int)) ?_ (by intro t' m hh; cases hh)
          simp only[e_ref4_one,go_sem,bidx hc,e40,e41,e126,e34,e63,h40,h41,h126,h34,eq_true h63,w1,w2,w3,byts_length,c2,bidx hc2,q42,nm,c3,bidx hc3,d42,h42,ne_eq,not_false_eq_true,if_true,if_false]
          rfl
      ·rw[if_neg hs]
       have nm:=rname_t hb hl
       rw[hd'] at nm
       cases hnm:nameM r with
       |error e =>
        rw[hnm] at nm
        unfold resN at nm
        cases r with
        |nil =>
         have:=drop_none hd'
         have c2:(((n+1:Nat):Int)<(b.length:Int))=False:=eq_false (by omega)
         refine mkOne (tk:=⟨6,0,[]⟩) (q:=0) ?_ (by intro t m hh; cases hh)
         simp only[e_ref4_one,go_sem,bidx hc,e40,e41,e126,e34,e63,h40,h41,h126,h34,eq_true h63,w1,byts_length,c2,nm,if_true,if_false]
         rfl
        |cons d r2 =>
         obtain⟨hc2,_,hl2⟩:=drop_get hd'
         have c2:(((n+1:Nat):Int)<(b.length:Int))=True:=eq_true (by omega)
         have d42:((d.toNat:Int)=42)=False:=by
          rw[show ((d.toNat:Int)=42)=(d=42) from code_eq (n:=42) (by decide)]
          exact eq_false (by simpa [isStar] using hs)
         refine mkOne (tk:=⟨6,0,[]⟩) (q:=0) ?_ (by intro t m hh; cases hh)
         simp only[e_ref4_one,go_sem,bidx hc,e40,e41,e126,e34,e63,h40,h41,h126,h34,eq_true h63,w1,byts_length,c2,bidx hc2,d42,nm,if_true,if_false]
         rfl
       |ok t =>
        rw[hnm] at nm
        unfold resN at nm
        cases r with
        |nil =>
         have:=drop_none hd'
         have c2:(((n+1:Nat):Int)<(b.length:Int))=False:=eq_false (by omega)
         refine mkOne (tk:=⟨6,0,t⟩) (q:=((n+1+t.length:Nat):Int)) ?_ (by intro t m hh; cases hh; exact⟨rfl,by omega⟩)
         simp only[e_ref4_one,go_sem,bidx hc,e40,e41,e126,e34,e63,h40,h41,h126,h34,eq_true h63,w1,byts_length,c2,nm,if_true,if_false]
         rfl
        |cons d r2 =>
         obtain⟨hc2,_,hl2⟩:=drop_get hd'
         have c2:(((n+1:Nat):Int)<(b.length:Int))=True:=eq_true (by omega)
         have d42:((d.toNat:Int)=42)=False:=by
          rw[show ((d.toNat:Int)=42)=(d=42) from code_eq (n:=42) (by decide)]
          exact eq_false (by simpa [isStar] using hs)
         refine mkOne (tk:=⟨6,0,t⟩) (q:=((n+1+t.length:Nat):Int)) ?_ (by intro t m hh; cases hh; exact⟨rfl,by omega⟩)
         simp only[e_ref4_one,go_sem,bidx hc,e40,e41,e126,e34,e63,h40,h41,h126,h34,eq_true h63,w1,byts_length,c2,bidx hc2,d42,nm,if_true,if_false]
         rfl
     ·rw[if_neg h63]
      have hle:=while_le signB b (n:=n) (by omega)
      have sb:=blsub (b:=b) (i:=n) (j:=n+((b.drop n).takeWhile signB).length) (by omega) hle
      rw[cut_while] at sb
      have hw:((b.drop n).takeWhile signB).length<4611686018427387904:=by omega
      have shp:=shape_t hw
      have rp:=rparse_t hw
      have pe:=parseM_eq ((b.drop n).takeWhile signB)
      simp only[e_ref4_one,go_sem,bidx hc,e40,e41,e126,e34,e63,h40,h41,h126,h34,h63,if_false]
      generalize hK:blockK 1 _=K
      have hlp:=one_loop hb (x:=.int .i64 (n:Int)) (y:=.ptr 0 0) (z:=.ptr 1 0) (st:=⟨[[.int .i64 0,.int .i64 0,.int .i64 0,.str []],[.int .i64 0,.int .i64 (n:Int),.int .i64 0,.str []]],[],[T_ref4_one_0,T_ref4_one_0],[]⟩) (K:=K) _ n rfl (by omega)
      unfold wordM
      rw[<- hd]
      generalize (b.drop n).takeWhile signB=w at *
      by_cases h0:w=[]
      ·have h0':((w.length:Int)=0)=True:=eq_true (by rw[h0]; rfl)
       rw[if_pos h0]
       refine mkOne (tk:=⟨0,0,[]⟩) (q:=0) (Eq.trans hlp ?_) (by intro t m hh; cases hh)
       rw[<- hK]
       simp only[go_sem,sb,btostr,h0',if_true]
       rfl
      ·have h0':((w.length:Int)=0)=False:=eq_false (by have:=List.length_pos_iff.2 h0; omega)
       rw[if_neg h0]
       cases hsh:shapeM w with
       |true =>
        rw[hsh] at shp
        rw[hsh,if_pos rfl] at pe
        have hne2 : ¬ (parseM w).2=2:=by
         rw[pe]
         generalize (if (parts w).1=true then -(acc 0 (parts w).2:Int) else (acc 0 (parts w).2:Int))=x
         unfold fit
         split <;> simp
        by_cases hp0:(parseM w).2=0
        ·rw[if_pos hp0]
         refine mkOne (tk:=⟨1,(parseM w).1,[]⟩) (q:=((n+w.length:Nat):Int)) (Eq.trans hlp ?_) (by intro t m hh; cases hh; exact⟨rfl,rfl⟩)
         rw[<- hK]
         simp only[go_sem,sb,btostr,h0',shp,rp,hp0,if_true,if_false]
         rfl
        ·rw[if_neg hp0,if_pos hne2]
         refine mkOne (tk:=⟨1,(parseM w).1,[]⟩) (q:=((n+w.length:Nat):Int)) (Eq.trans hlp ?_) (by intro t m hh; cases hh)
         rw[<- hK]
         simp only[go_sem,sb,btostr,h0',shp,rp,if_true,if_false]
         rfl
       |false =>
        rw[hsh] at shp
        rw[hsh,if_neg (by decide)] at pe
        have hp2:(parseM w).2=2:=by rw[pe]
        rw[if_neg (by rw[hp2]; decide),if_neg (by rw[hp2]; decide)]
        by_cases h4:w.length>40
        ·have h4':(w.length:Int)>40:=by omega
         rw[if_pos h4]
         refine mkOne (tk:=⟨0,0,[]⟩) (q:=0) (Eq.trans hlp ?_) (by intro t m hh; cases hh)
         rw[<- hK]
         simp only[go_sem,sb,btostr,h0',shp,h4',if_true,if_false,Bool.false_eq_true]
         rfl
        ·have h4' : ¬ (w.length:Int)>40:=by omega
         rw[if_neg h4]
         refine mkOne (tk:=⟨2,0,w⟩) (q:=((n+w.length:Nat):Int)) (Eq.trans hlp ?_) (by intro t m hh; cases hh; exact⟨rfl,rfl⟩)
         rw[<- hK]
         simp only[go_sem,sb,btostr,h0',shp,h4',if_true,if_false,Bool.false_eq_true]
         rfl
end Go.Proofs.YthjnlpfibakacaaGreatDoorPe.Tmpf
set_option linter.unusedVariables false
set_option linter.unusedSimpArgs false
set_option maxRecDepth 1000000
namespace Go.Proofs.YthjnlpfibakacaaGreatDoorPe.Tmpf
open Go Go.Proofs.YthjnlpfibakacaaGreatDoorPe Go.Proofs.YthjnlpfibakacaaGreatDoorPe.TmpfCode
theorem scanM_adv {b:List UInt8} {n n':Nat} (h1:n<=n') (h2:n'<=b.length) (h:skipM false (b.drop n)=skipM false (b.drop n')):scanM n (b.drop n)=scanM n' (b.drop n'):=by
 have k:=skipM_le (b.drop n') false
 rw[<- scanM_skip n (b.drop n),<- scanM_skip n' (b.drop n'),h]
 rw[List.length_drop] at k
 have e:n+((b.drop n).length-(skipM false (b.drop n')).length)=n'+((b.drop n').length-(skipM false (b.drop n')).length):=by
  rw[List.length_drop,List.length_drop]; omega
 rw[e]
theorem rcomment_loop {b:List UInt8} (hb:b.length<=65536) {st:St} {x:PV} {K:EX->Fr->St->Option (PV × St)} : ∀ (l:List UInt8) (n:Nat),b.drop n=l->n<=b.length ->
  runL (callE efns given) [true,true,true,false,false,false,false,false] b_ref4_Scan_0 [.lst (byts b),x,.int .i64 (n:Int),.undef,.undef,.undef,.undef,.undef] st K =
   K (.exit 2) [.lst (byts b),x,.int .i64 ((n+(l.takeWhile no10).length:Nat):Int),.undef,.undef,.undef,.undef,.undef] st:=by
 intro l
 induction l with
 |nil =>
  intro n hd hn
  have:=drop_none hd
  have c1:((n:Int)<(b.length:Int))=False:=eq_false (by omega)
  rw[runL_eq]
  generalize runL _ _ b_ref4_Scan_0=L
  simp only[b_ref4_Scan_0,go_sem,byts_length,c1,List.takeWhile_nil,List.length_nil,Nat.add_zero,if_false]
 |cons c r ih =>
  intro n hd hn
  obtain⟨hc,hd',hl⟩:=drop_get hd
  have c1:((n:Int)<(b.length:Int))=True:=eq_true (by omega)
  have e10:((c.toNat:Int)=10)=(c=10):=code_eq (n:=10) (by decide)
  by_cases hp:c=10
  ·have h10:no10 c=false:=by simp[no10,hp]
   rw[runL_eq]
   generalize runL _ _ b_ref4_Scan_0=L
   simp only[b_ref4_Scan_0,go_sem,byts_length,c1,bidx hc,e10,eq_true hp,h10,List.takeWhile_cons,List.length_nil,Nat.add_zero,if_true,if_false,Bool.false_eq_true,ne_eq,not_true_eq_false]
  ·have hr:=ih (n+1) hd' (by omega)
   have h10:no10 c=true:=by simp[no10,hp]
   have w1:=wrap1 (n:=n) (m:=b.length) (by omega) (by omega)
   rw[runL_eq]
   generalize runL _ _ b_ref4_Scan_0=L at hr ⊢
   have e:n+((c::r).takeWhile no10).length=n+1+(r.takeWhile no10).length:=by
    rw[List.takeWhile_cons,h10]
    simp
    omega
   rw[e]
   simp only[b_ref4_Scan_0,go_sem,byts_length,c1,bidx hc,e10,hp,w1,hr,if_true,ne_eq,not_false_eq_true]
theorem one_t {b:List UInt8} (hb:b.length<=65536) {n:Nat} {c:UInt8} {r:List UInt8} (hd:b.drop n=c::r) : ∃ v,tupV (callE efns given) (.call 0 f_ref4_one) [.lst (byts b),.int .i64 (n:Int)]=some v/\OneR n (oneM (c::r)) v:=by
 obtain⟨v,st,h1,h2⟩:=one_ok hb hd
 refine⟨v,callV_of rfl h1 ?_,h2⟩
 obtain⟨tk,q,rfl,_⟩:=h2
 rfl
theorem rscan_loop {b:List UInt8} (hb:b.length<=65536) {K:EX->Fr->St->Option (PV × St)} : ∀ (m n:Nat) (l:List Tok) (out:PV) (s:St),(b.drop n).length<=m->n<=b.length->l.length<=n->RtN s->OutT T_ref4_Scan_0 l out s ->
  (∃ l' out' x s',scanM n (b.drop n) = .ok l'/\OutT T_ref4_Scan_0 (l++l') out' s'/\runL (callE efns given) [true,true,true,false,false,false,false,false] b_ref4_Scan_1 [.lst (byts b),out,.int .i64 (n:Int),.undef,.undef,.undef,.undef,.undef] s K =
   K (.exit 0) [.lst (byts b),out',x,.undef,.undef,.undef,.undef,.undef] s') \/
  (∃ a e s',scanM n (b.drop n) = .error (a,e)/\runL (callE efns given) [true,true,true,false,false,false,false,false] b_ref4_Scan_1 [.lst (byts b),out,.int .i64 (n:Int),.undef,.undef,.undef,.undef,.undef] s K =
   K (.ret (.tuple [.nils,.int .i64 ((a:Nat):Int),.int .i64 e])) [] s'):=by
 intro m
 have stop : ∀ (n:Nat) (l:List Tok) (out:PV) (s:St),b.drop n=[]->OutT T_ref4_Scan_0 l out s->(∃ l' out' x s',scanM n (b.drop n) = .ok l'/\OutT T_ref4_Scan_0 (l++l') out' s'/\runL (callE efns given) [true,true,true,false,false,false,false,false] b_ref4_Scan_1 [.lst (byts b),out,.int .i64 (n:Int),.undef,.undef,.undef,.undef,.undef] s K =
   K (.exit 0) [.lst (byts b),out',x,.undef,.undef,.undef,.undef,.undef] s'):=by
  intro n l out s hd hO
  have:=drop_none hd
  refine⟨[],out,.int .i64 (n:Int),s,by rw[hd]; exact scanM_nil rfl,by rw[List.append_nil]; exact hO,?_⟩
  have c1:((n:Int)<(b.length:Int))=False:=eq_false (by omega)
  rw[runL_eq]
  generalize runL _ _ b_ref4_Scan_1=L
  simp only[b_ref4_Scan_1,go_sem,byts_length,c1,if_false]
 induction m with
 |zero =>
  intro n l out s hm hn hln hrn hO
  exact .inl (stop n l out s (List.eq_nil_of_length_eq_zero (by omega)) hO)
 |succ m ih =>
  intro n l out s hm hn hln hrn hO
  cases hd:b.drop n with
  |nil=>rw[<- hd]; exact .inl (stop n l out s hd hO)
  |cons c r =>
   obtain⟨hc,hd',hl⟩:=drop_get hd
   have c1:((n:Int)<(b.length:Int))=True:=eq_true (by omega)
   have e59:((c.toNat:Int)=59)=(c=59):=code_eq (n:=59) (by decide)
   have w1:=wrap1 (n:=n) (m:=b.length) (by omega) (by omega)
   cases hbl:blankB c with
   |true =>
    have hlm:(b.drop (n+1)).length<=m:=by
     rw[hd']
     rw[hd] at hm
     simp only[List.length_cons] at hm
     omega
    have hadv:scanM n (b.drop n)=scanM (n+1) (b.drop (n+1)):=scanM_adv (by omega) hl (by rw[hd,hd',skipM_f,if_pos hbl])
    rw[<- hd,hadv]
    rcases ih (n+1) l out s hlm hl (by omega) hrn hO with ⟨l',out2,x,s',h1,h2,h3⟩|⟨a,e,s',h1,h3⟩
    ·left
     refine⟨l',out2,x,s',h1,h2,?_⟩
     rw[runL_eq]
     generalize runL _ _ b_ref4_Scan_1=L at h3 ⊢
     simp only[b_ref4_Scan_1,go_sem,byts_length,c1,bidx hc,blank_t,hbl,w1,h3,if_true]
    ·right
     refine⟨a,e,s',h1,?_⟩
     rw[runL_eq]
     generalize runL _ _ b_ref4_Scan_1=L at h3 ⊢
     simp only[b_ref4_Scan_1,go_sem,byts_length,c1,bidx hc,blank_t,hbl,w1,h3,if_true]
   |false =>
    have hblf : ¬ blankB c=true:=by rw[hbl]; decide
    by_cases h59:c=59
    ·have hdw:=drop_while no10 hd
     have hle:=while_le no10 b hn
     rw[hd] at hle
     have h1c:no10 c=true:=by rw[h59]; decide
     have hdw2:(c::r).dropWhile no10=r.dropWhile no10:=by rw[List.dropWhile_cons,if_pos h1c]
     have hge:1<=((c::r).takeWhile no10).length:=by rw[List.takeWhile_cons,if_pos h1c]; simp
     rw[hdw2] at hdw
     have hlm:(b.drop (n+((c::r).takeWhile no10).length)).length<=m:=by
      rw[List.length_drop]
      rw[List.length_drop] at hm
      omega
     have hadv:scanM n (b.drop n)=scanM (n+((c::r).takeWhile no10).length) (b.drop (n+((c::r).takeWhile no10).length)):=scanM_adv (by omega) hle (by
      rw[hd,hdw,<- skipM_true,skipM_f,if_neg hblf,if_pos h59])
     rw[<- hd,hadv]
     have cl:=fun (K2:EX->Fr->St->Option (PV × St))=>rcomment_loop hb (st:=s) (x:=out) (K:=K2) _ n hd hn
     rcases ih _ l out s hlm hle (by omega) hrn hO with ⟨l',out2,x,s',h1,h2,h3⟩|⟨a,e,s',h1,h3⟩
     ·left
      refine⟨l',out2,x,s',h1,h2,?_⟩
      rw[runL_eq]
      generalize runL _ _ b_ref4_Scan_1=L at h3 ⊢
      simp only[b_ref4_Scan_1,go_sem,byts_length,c1,bidx hc,blank_t,hbl,e59,eq_true h59,cl,h3,if_true,if_false,Bool.false_eq_true]
     ·right
      refine⟨a,e,s',h1,?_⟩
      rw[runL_eq]
      generalize runL _ _ b_ref4_Scan_1=L at h3 ⊢
      simp only[b_ref4_Scan_1,go_sem,byts_length,c1,bidx hc,blank_t,hbl,e59,eq_true h59,cl,h3,if_true,if_false,Bool.false_eq_true]
    ·have hsk:skipM false (b.drop n)=b.drop n:=by rw[hd,skipM_f,if_neg hblf,if_neg h59]
     have hstep:=scan_step hd hsk hn
     rw[hd] at hstep
     obtain⟨v,hone,tk,q,rfl,hok⟩:=one_t hb hd
     have q1:(s.boxes++[[PV.int .i64 0,.int .i64 0,.int .i64 0,.str []]])[s.boxes.length]? = some [PV.int .i64 0,.int .i64 0,.int .i64 0,.str []]:=by simp
     have q2 : ∀ w w',(s.boxes++[w]).set s.boxes.length w'=s.boxes++[w']:=fun w w'=>by simp
     have q3 : ∀ w,(s.boxes++[w])[s.boxes.length]? = some w:=fun w=>by simp
     cases ho:oneM (c::r) with
     |error e =>
      rw[ho] at hstep hone
      have he:(e=0)=False:=eq_false (oneM_err ho)
      right
      refine⟨n,e,⟨s.boxes++[[.int .i64 tk.k,.int .i64 (n:Int),.int .i64 tk.i,.str tk.s]],s.rows,s.bt++[T_ref4_Scan_0],s.rt⟩,hstep,?_⟩
      unfold errOf at hone
      rw[runL_eq]
      generalize runL _ _ b_ref4_Scan_1=L
      simp only[b_ref4_Scan_1,go_sem,byts_length,c1,bidx hc,blank_t,hbl,e59,h59,hone,q1,q2,q3,he,if_true,if_false,Bool.false_eq_true,ne_eq,not_false_eq_true]
     |ok t =>
      obtain⟨rfl,rfl⟩:=hok t.1 t.2 ho
      rw[ho] at hstep hone
      simp only at hstep
      unfold errOf at hone
      have htl:=oneM_le (t:=t.1) (m:=t.2) ho
      have hple:n+t.2<=b.length:=by
       have:=congrArg List.length hd
       rw[List.length_drop,List.length_cons] at this
       simp only[List.length_cons] at htl
       omega
      have O2:OutT T_ref4_Scan_0 l out ⟨s.boxes++[[.int .i64 t.1.k,.int .i64 (n:Int),.int .i64 t.1.i,.str t.1.s]],s.rows,s.bt++[T_ref4_Scan_0],s.rt⟩:=hO
      obtain⟨out',s3,ap,O3,rn3,hbx,hbt⟩:=out_tok ⟨t.1.k,n,t.1.i,t.1.s⟩ O2 hrn (by omega)
      have ap':evAppend 4 40 T_ref4_Scan_0 out.nm [.agg [.int .i64 t.1.k,.int .i64 (n:Int),.int .i64 t.1.i,.str t.1.s]] ⟨s.boxes++[[.int .i64 t.1.k,.int .i64 (n:Int),.int .i64 t.1.i,.str t.1.s]],s.rows,s.bt++[T_ref4_Scan_0],s.rt⟩=some (out',s3):=ap
      have hlm:(b.drop (n+t.2)).length<=m:=by
       rw[List.length_drop]
       rw[List.length_drop] at hm
       omega
      rcases ih (n+t.2) (l++[⟨t.1.k,n,t.1.i,t.1.s⟩]) out' s3 hlm hple (by simp; omega) rn3 O3 with ⟨l',out2,x,s',h1,h2,h3⟩|⟨a,e,s',h1,h3⟩
      ·left
       rw[h1] at hstep
       refine⟨⟨t.1.k,n,t.1.i,t.1.s⟩::l',out2,x,s',hstep,by rw[List.append_cons]; exact h2,?_⟩
       rw[runL_eq]
       generalize runL _ _ b_ref4_Scan_1=L at h3 ⊢
       simp only[b_ref4_Scan_1,go_sem,byts_length,c1,bidx hc,blank_t,hbl,e59,h59,hone,q1,q2,q3,ap',h3,if_true,if_false,Bool.false_eq_true,ne_eq,not_true_eq_false]
      ·right
       rw[h1] at hstep
       refine⟨a,e,s',hstep,?_⟩
       rw[runL_eq]
       generalize runL _ _ b_ref4_Scan_1=L at h3 ⊢
       simp only[b_ref4_Scan_1,go_sem,byts_length,c1,bidx hc,blank_t,hbl,e59,h59,hone,q1,q2,q3,ap',h3,if_true,if_false,Bool.false_eq_true,ne_eq,not_true_eq_false]
def rscanV:Except (Nat × Int) (List Tok)->PV
 |.ok l=>.tuple [.lst (l.map Tok.p),.int .i64 0,.int .i64 0]
 |.error q=>.tuple [.lst [],.int .i64 (q.1:Int),.int .i64 q.2]
theorem rscan_t (b:List UInt8):tupV (callE efns given) (.call 0 f_ref4_Scan) [.lst (byts b)]=some (rscanV (scanL b)):=by
 unfold scanL
 by_cases hb:b.length>65536
 ·rw[if_pos hb]
  have hc:((b.length:Int)>65536)=True:=eq_true (by omega)
  have key:callE efns given f_ref4_Scan [.lst (byts b)] ⟨[],[],[],[]⟩=some (.tuple [.nils,.int .i64 0,.int .i64 4],⟨[],[],[],[]⟩):=by
   rw[callE_fn efns given (c:=e_ref4_Scan) rfl rfl]
   simp only[e_ref4_Scan,go_sem,byts_length,hc,if_true]
  exact callV_of rfl key rfl
 ·rw[if_neg hb]
  have hb':b.length<=65536:=by omega
  have hc:((b.length:Int)>65536)=False:=eq_false (by omega)
  have key : ∀ (K0:Unit),(∃ l s',scanM 0 b = .ok l /\ ∃ out,OutT T_ref4_Scan_0 l out s'/\callE efns given f_ref4_Scan [.lst (byts b)] ⟨[],[],[],[]⟩=some (.tuple [out,.int .i64 0,.int .i64 0],s')) \/
    (∃ a e s',scanM 0 b = .error (a,e)/\callE efns given f_ref4_Scan [.lst (byts b)] ⟨[],[],[],[]⟩=some (.tuple [.nils,.int .i64 ((a:Nat):Int),.int .i64 e],s')):=by
   intro _
   rw[callE_fn efns given (c:=e_ref4_Scan) rfl rfl]
   simp only[e_ref4_Scan,go_sem,byts_length,hc,if_false]
   generalize hK:blockK 0 _=K
   rcases rscan_loop hb' (K:=K) _ 0 [] .nils ⟨[],[],[],[]⟩ (Nat.le_refl _) (by omega) (by simp) rfl (.inl ⟨rfl,rfl⟩) with ⟨l',out',x,s',h1,h2,h3⟩|⟨a,e,s',h1,h3⟩
   ·left
    rw[List.drop_zero] at h1
    refine⟨l',s',h1,out',h2,Eq.trans h3 ?_⟩
    rw[<- hK]
    simp only[go_sem]
   ·right
    rw[List.drop_zero] at h1
    refine⟨a,e,s',h1,Eq.trans h3 ?_⟩
    rw[<- hK]
    simp only[go_sem]
  rcases key () with ⟨l,s',h1,out,h2,h3⟩|⟨a,e,s',h1,h3⟩
  ·rw[h1]
   refine callV_of rfl h3 ?_
   rcases h2 with ⟨rfl,rfl⟩|⟨r,_,rfl,_⟩ <;> rfl
  ·rw[h1]
   exact callV_of rfl h3 rfl
def Tok.Small (t:Tok):Prop:=I64 t.i/\t.s.length<=100000
theorem strM_len : ∀ (m:Nat) (s acc:List UInt8) (i:Nat) (t:List UInt8) (q:Nat),s.length<=m->strM s acc i = .ok (t,q)->t.length<=1000:=by
 intro m
 induction m with
 |zero =>
  intro s acc i t q hm h
  cases s with
  |nil=>cases h
  |cons=>simp at hm
 |succ m ih =>
  intro s acc i t q hm h
  cases s with
  |nil=>cases h
  |cons c r =>
   by_cases h34:c=34
   ·subst h34
    rw[strM_end] at h
    split at h
    ·cases h
    ·cases h; omega
   ·by_cases h92:c=92
    ·subst h92
     cases r with
     |nil=>rw[strM_esc0] at h; cases h
     |cons d r=>rw[strM_esc] at h; exact ih r _ _ _ _ (by simp only[List.length_cons] at hm; omega) h
    ·rw[strM_cons h34 h92] at h
     exact ih r _ _ _ _ (by simp only[List.length_cons] at hm; omega) h
theorem parseM_in (s:List UInt8):I64 (parseM s).1:=by
 rw[parseM_eq]
 split
 ·exact fst_fit
 ·exact⟨by decide,by decide⟩
inductive TokK:Tk->Prop
 |sign (k:Int) (h:k=4\/k=5\/k=8):TokK ⟨k,0,[]⟩
 |str (s:List UInt8) (h:s.length<=1000):TokK ⟨3,0,s⟩
 |name (k:Int) (s:List UInt8) (hk:k=6\/k=7) (h:goodM s=true):TokK ⟨k,0,s⟩
 |int (i:Int) (h:I64 i):TokK ⟨1,i,[]⟩
 |sym (s:List UInt8) (h1:s≠[]) (h2:s.length<=40) (h3:s.all signB=true) (h4:(parseM s).2=2):TokK ⟨2,0,s⟩
theorem all_while {α : Type} (p : α -> Bool) : ∀ l:List α,(l.takeWhile p).all p=true
 |[]=>rfl
 |c::r=>by
  rw[List.takeWhile_cons]
  split
  ·rename_i h; rw[List.all_cons,h,all_while p r]; rfl
  ·rfl
theorem oneM_kind {s:List UInt8} {t:Tk} {m:Nat} (h:oneM s = .ok (t,m)):TokK t:=by
 cases s with
 |nil=>cases h
 |cons c r =>
  rw[oneM_cons] at h
  split at h
  ·cases h; exact .sign 4 (.inl rfl)
  split at h
  ·cases h; exact .sign 5 (.inr (.inl rfl))
  split at h
  ·cases h; exact .sign 8 (.inr (.inr rfl))
  split at h
  ·split at h
   ·cases h
   ·rename_i t' ht
    cases h
    exact .str _ (strM_len _ _ _ _ t'.1 t'.2 (Nat.le_refl _) ht)
  split at h
  ·unfold varM at h
   split at h
   ·split at h
    ·cases h
    ·rename_i t' ht
     split at h
     ·cases h; exact .name 7 _ (.inr rfl) (nameM_le ht).2.2.2
     ·cases h
   ·split at h
    ·cases h
    ·rename_i t' ht
     cases h; exact .name 6 _ (.inl rfl) (nameM_le ht).2.2.2
  ·unfold wordM at h
   split at h
   ·cases h
   rename_i h0
   split at h
   ·cases h; exact .int _ (parseM_in _)
   split at h
   ·cases h
   rename_i h2
   split at h
   ·cases h
   ·cases h; exact .sym _ h0 (by omega) (all_while _ _) (by omega)
theorem goodM_len {s:List UInt8} (h:goodM s=true):s.length<=40/\s≠[]/\s.all partB=true:=by
 cases s with
 |nil=>cases h
 |cons c r =>
  simp only[goodM,Bool.and_eq_true,decide_eq_true_eq] at h
  exact⟨h.1.1,by simp,h.2⟩
theorem TokK.small {t:Tk} (h:TokK t):I64 t.i/\t.s.length<=1000:=by
 have h0:I64 0:=⟨by decide,by decide⟩
 cases h with
 |sign k h=>exact⟨h0,by simp⟩
 |str s h=>exact⟨h0,h⟩
 |name k s hk h=>exact⟨h0,by have:=(goodM_len h).1; simp only; omega⟩
 |int i h=>exact⟨h,by simp⟩
 |sym s h1 h2 h3 h4=>exact⟨h0,by simp only; omega⟩
def Tok.tk (t:Tok):Tk:=⟨t.k,t.i,t.s⟩
theorem scanM_kind : ∀ (m:Nat) (s:List UInt8) (n:Nat) (l:List Tok),s.length<=m->scanM n s = .ok l -> ∀ t∈l,TokK t.tk:=by
 intro m
 induction m with
 |zero =>
  intro s n l hm h t ht
  have:s=[]:=List.eq_nil_of_length_eq_zero (by omega)
  subst this
  rw[scanM_nil rfl] at h
  cases h
  simp at ht
 |succ m ih =>
  intro s n l hm h t ht
  cases hs:skipM false s with
  |nil =>
   rw[scanM_nil hs] at h
   cases h
   simp at ht
  |cons c r =>
   have hle:=skipM_le s false
   rw[hs,List.length_cons] at hle
   rw[scanM_cons hs] at h
   split at h
   ·cases h
   ·rename_i tk ho
    split at h
    ·cases h
    ·rename_i l' hl'
     cases h
     rcases List.mem_cons.1 ht with rfl|ht
     ·exact oneM_kind (t:=tk.1) (m:=tk.2) ho
     ·exact ih _ _ _ (by rw[List.length_drop]; omega) hl' t ht
theorem scanM_err : ∀ (m:Nat) (s:List UInt8) (n:Nat) (a:Nat) (e:Int),s.length<=m->scanM n s = .error (a,e) -> ¬ e=0:=by
 intro m
 induction m with
 |zero =>
  intro s n a e hm h
  have:s=[]:=List.eq_nil_of_length_eq_zero (by omega)
  subst this
  rw[scanM_nil rfl] at h
  cases h
 |succ m ih =>
  intro s n a e hm h
  cases hs:skipM false s with
  |nil =>
   rw[scanM_nil hs] at h
   cases h
  |cons c r =>
   have hle:=skipM_le s false
   rw[hs,List.length_cons] at hle
   rw[scanM_cons hs] at h
   split at h
   ·rename_i e' he
    cases h
    exact oneM_err he
   ·rename_i tk ho
    split at h
    ·rename_i q hq
     cases h
     exact ih _ _ _ _ (by rw[List.length_drop]; omega) hq
    ·cases h
theorem scanL_err {b:List UInt8} {a:Nat} {e:Int} (h:scanL b = .error (a,e)) : ¬ e=0:=by
 unfold scanL at h
 split at h
 ·cases h; decide
 ·exact scanM_err _ _ _ _ _ (Nat.le_refl _) h
theorem scanL_kind {b:List UInt8} {l:List Tok} (h:scanL b = .ok l) : ∀ t∈l,TokK t.tk:=by
 unfold scanL at h
 split at h
 ·cases h
 ·exact scanM_kind _ _ _ _ (Nat.le_refl _) h
theorem Tok.small {t:Tok} (h:TokK t.tk):t.Small:=⟨h.small.1,by have:=h.small.2; simp only[Tok.tk] at this; omega⟩
end Go.Proofs.YthjnlpfibakacaaGreatDoorPe.Tmpf
set_option linter.unusedVariables false
set_option linter.unusedSimpArgs false
set_option maxRecDepth 1000000
namespace Go.Proofs.YthjnlpfibakacaaGreatDoorPe.Tmpf
open Go Go.Proofs.YthjnlpfibakacaaGreatDoorPe Go.Proofs.YthjnlpfibakacaaGreatDoorPe.TmpfCode
theorem scanM_len : ∀ (m:Nat) (s:List UInt8) (n:Nat) (l:List Tok),s.length<=m->scanM n s = .ok l->l.length<=s.length:=by
 intro m
 induction m with
 |zero =>
  intro s n l hm h
  have:s=[]:=List.eq_nil_of_length_eq_zero (by omega)
  subst this
  rw[scanM_nil rfl] at h
  cases h
  simp
 |succ m ih =>
  intro s n l hm h
  cases hs:skipM false s with
  |nil =>
   rw[scanM_nil hs] at h
   cases h
   simp
  |cons c r =>
   have hle:=skipM_le s false
   rw[hs,List.length_cons] at hle
   rw[scanM_cons hs] at h
   split at h
   ·cases h
   ·rename_i tk ho
    split at h
    ·cases h
    ·rename_i l' hl'
     cases h
     have:=ih _ _ _ (by rw[List.length_drop]; omega) hl'
     rw[List.length_drop] at this
     simp only[List.length_cons]
     omega
theorem scanL_len {b:List UInt8} {l:List Tok} (h:scanL b = .ok l):l.length<=b.length/\b.length<=65536:=by
 unfold scanL at h
 split at h
 ·cases h
 ·exact⟨scanM_len _ _ _ _ (Nat.le_refl _) h,by omega⟩
end Go.Proofs.YthjnlpfibakacaaGreatDoorPe.Tmpf
set_option linter.unusedVariables false
set_option linter.unusedSimpArgs false
set_option maxRecDepth 1000000
namespace Go.Proofs.YthjnlpfibakacaaGreatDoorPe.Tmpf
open Go Go.Proofs.YthjnlpfibakacaaGreatDoorPe Go.Proofs.YthjnlpfibakacaaGreatDoorPe.TmpfCode
def EndB:List UInt8->Prop
 |[]=>True
 |c::_=>signB c=false/\partB c=false
def Stops (p:UInt8->Bool):List UInt8->Prop
 |[]=>True
 |c::_=>p c=false
theorem EndB.sign {r:List UInt8} (h:EndB r):Stops signB r:=by
 cases r with
 |nil=>trivial
 |cons c r=>exact h.1
theorem EndB.part {r:List UInt8} (h:EndB r):Stops partB r:=by
 cases r with
 |nil=>trivial
 |cons c r=>exact h.2
theorem tobytes_ok {s:List UInt8}:unV .tobytes (.str s)=some (.lst (byts s)):=rfl
def rightM (v:Vl):Bool :=
 if v.k=1 then decide (v.s=[])
 else if v.k=2 then decide (v.i=0)&&decide (1<=v.s.length)&&decide (v.s.length<=40) && !(shapeM v.s)&&v.s.all signB
 else if v.k=3 then decide (v.i=0)&&decide (v.s.length<=1000)
 else false
end Go.Proofs.YthjnlpfibakacaaGreatDoorPe.Tmpf
set_option linter.unusedVariables false
set_option linter.unusedSimpArgs false
set_option maxRecDepth 100000
namespace Go.Proofs.YthjnlpfibakacaaGreatDoorPe.Tmpf
open Go Go.Proofs Go.Proofs.YthjnlpfibakacaaGreatDoorPe Go.Proofs.YthjnlpfibakacaaGreatDoorPe.TmpfCode
theorem rightB_loop (v:Vl) (hs:v.s.length<=9223372036854775807) {K:EX->Fr->St->Option (PV × St)} : ∀ (d n:Nat) (ok:Bool),v.s.length-n=d->n<=v.s.length ->
  ∃ i x1 x2,runL (callE efns given) [false,true,true,true,false,false,false,false,false,false,false,false,false,false,false,false] b_ref3_Right_0
   [.undef,.ptr 0 0,.bool ok,.int .i64 n,.undef,.undef,.undef,.undef,.undef,.undef,.undef,.undef,.undef,.undef,.undef,.undef] ⟨[v.cells'],[],[T_ref3_Right_0],[]⟩ K =
   K (.exit 1) [.undef,.ptr 0 0,.bool (ok&&(v.s.drop n).all signB),i,.undef,.undef,.undef,.undef,.undef,.undef,.undef,.undef,x1,x2,.undef,.undef] ⟨[v.cells'],[],[T_ref3_Right_0],[]⟩:=by
 intro d
 induction d with
 |zero =>
  intro n ok hd hn
  have:n=v.s.length:=by omega
  subst this
  refine⟨.int .i64 v.s.length,.str v.s,.undef,?_⟩
  rw[runL_eq,List.drop_length,List.all_nil,Bool.and_true]
  generalize runL _ _ b_ref3_Right_0=L
  simp only[b_ref3_Right_0,Vl.cells',go_sem,Int.lt_irrefl,if_false]
 |succ d ih =>
  intro n ok hd hn
  have hlt:n<v.s.length:=by omega
  obtain⟨c,hc⟩ : ∃ c,v.s[n]? = some c:=⟨v.s[n],List.getElem?_eq_getElem hlt⟩
  have w1:IntKind.i64.wrap ((n:Int)+1)=((n+1:Nat):Int):=by rw[IntWalk.i64_in _ (by omega)]; omega
  have c1:((n:Int)<(v.s.length:Int))=True:=eq_true (by omega)
  have hb:=rsignB_t c
  rw[drop_at hc,List.all_cons]
  cases ok with
  |true =>
   obtain⟨i,x1,x2,hr⟩:=ih (n+1) (signB c) (by omega) (by omega)
   refine⟨i,x1,x2,?_⟩
   rw[runL_eq]
   generalize runL _ _ b_ref3_Right_0=L at hr ⊢
   simp only[Vl.cells'] at hr
   simp only[b_ref3_Right_0,Vl.cells',go_sem,sidx_at hc,c1,w1,hb,hr,Bool.true_and]
  |false =>
   obtain⟨i,x1,x2,hr⟩:=ih (n+1) false (by omega) (by omega)
   refine⟨i,x1,x2,?_⟩
   rw[runL_eq]
   generalize runL _ _ b_ref3_Right_0=L at hr ⊢
   simp only[Vl.cells'] at hr
   simp only[b_ref3_Right_0,Vl.cells',go_sem,c1,w1,hr,Bool.false_and]
theorem rightM_t (v:Vl) (hs:v.s.length<=9223372036854775807):tupV (callE efns given) (.call 0 f_ref3_Right) [v.p]=some (.bool (rightM v)):=by
 have key : ∃ st,callE efns given f_ref3_Right [v.p] ⟨[],[],[],[]⟩=some (.bool (rightM v),st):=by
  refine⟨⟨[v.cells'],[],[T_ref3_Right_0],[]⟩,?_⟩
  unfold rightM
  by_cases h1:v.k=1
  ·rw[if_pos h1,callE_fn efns given (c:=e_ref3_Right) rfl rfl]
   simp only[e_ref3_Right,Vl.p,Vl.cells',go_sem,h1]
  ·rw[if_neg h1]
   by_cases h2:v.k=2
   ·rw[if_pos h2,callE_fn efns given (c:=e_ref3_Right) rfl rfl]
    by_cases hi:v.i=0
    ·by_cases l1:(v.s.length:Int)>=1
     ·have l1':1<=v.s.length:=by omega
      by_cases l2:(v.s.length:Int)<=40
      ·have l2':v.s.length<=40:=by omega
       have sh:=shape_t (s:=v.s) (by omega)
       simp only[e_ref3_Right,Vl.p,Vl.cells',go_sem,h2,hi,sh,l1,l2]
       generalize hK:blockK 1 _=K
       obtain⟨i,x1,x2,hr⟩:=rightB_loop v hs (K:=K) v.s.length 0 (!(shapeM v.s)) rfl (by omega)
       simp only[Vl.cells',h2,hi] at hr
       refine Eq.trans hr ?_
       rw[<- hK]
       simp only[go_sem,Vl.cells',h2,hi,List.drop_zero,l1',l2',decide_true,Bool.true_and]
      ·have l2' : ¬ v.s.length<=40:=by omega
       simp only[e_ref3_Right,Vl.p,Vl.cells',go_sem,h2,hi,l1,l2]
       generalize hK:blockK 1 _=K
       obtain⟨i,x1,x2,hr⟩:=rightB_loop v hs (K:=K) v.s.length 0 (false) rfl (by omega)
       simp only[Vl.cells',h2,hi] at hr
       refine Eq.trans hr ?_
       rw[<- hK]
       simp only[go_sem,Vl.cells',h2,hi,List.drop_zero,l1',l2',decide_true,decide_false,Bool.true_and,Bool.and_false,Bool.false_and]
     ·have l1' : ¬ 1<=v.s.length:=by omega
      simp only[e_ref3_Right,Vl.p,Vl.cells',go_sem,h2,hi,l1]
      generalize hK:blockK 1 _=K
      obtain⟨i,x1,x2,hr⟩:=rightB_loop v hs (K:=K) v.s.length 0 (false) rfl (by omega)
      simp only[Vl.cells',h2,hi] at hr
      refine Eq.trans hr ?_
      rw[<- hK]
      simp only[go_sem,Vl.cells',h2,hi,List.drop_zero,l1',decide_true,decide_false,Bool.true_and,Bool.and_false,Bool.false_and]
    ·simp only[e_ref3_Right,Vl.p,Vl.cells',go_sem,h2,hi]
     generalize hK:blockK 1 _=K
     obtain⟨i,x1,x2,hr⟩:=rightB_loop v hs (K:=K) v.s.length 0 (false) rfl (by omega)
     simp only[Vl.cells',h2] at hr
     refine Eq.trans hr ?_
     rw[<- hK]
     simp only[go_sem,Vl.cells',h2,hi,List.drop_zero,decide_false,Bool.false_and]
   ·rw[if_neg h2]
    by_cases h3:v.k=3
    ·rw[if_pos h3,callE_fn efns given (c:=e_ref3_Right) rfl rfl]
     by_cases hi:v.i=0
     ·have e:decide ((v.s.length:Int)<=1000)=decide (v.s.length<=1000):=by
       rw[decide_eq_decide]; omega
      simp only[e_ref3_Right,Vl.p,Vl.cells',go_sem,h3,hi,e,decide_true,Bool.true_and]
     ·simp only[e_ref3_Right,Vl.p,Vl.cells',go_sem,h3,hi,decide_false,Bool.false_and]
    ·rw[if_neg h3,callE_fn efns given (c:=e_ref3_Right) rfl rfl]
     simp only[e_ref3_Right,Vl.p,Vl.cells',go_sem,h1,h2,h3]
 obtain⟨st,h⟩:=key
 exact callV_of rfl h rfl
theorem rightM_small {v:Vl} (h:rightM v=true):v.s.length<=1000:=by
 unfold rightM at h
 split at h
 ·simp only[decide_eq_true_eq] at h; rw[h]; simp
 ·split at h
  ·simp only[Bool.and_eq_true,decide_eq_true_eq] at h; omega
  ·split at h
   ·simp only[Bool.and_eq_true,decide_eq_true_eq] at h; omega
   ·cases h
end Go.Proofs.YthjnlpfibakacaaGreatDoorPe.Tmpf
