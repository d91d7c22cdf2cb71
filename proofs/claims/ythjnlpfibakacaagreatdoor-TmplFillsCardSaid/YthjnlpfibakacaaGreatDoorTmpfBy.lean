/- A part of the proof of this folder's statement; it has no condition of its own. -/
import Derived.Test.YthjnlpfibakacaaGreatDoorTmpfNt
import Derived.Test.YthjnlpfibakacaaGreatDoorTmpfGivt
import Derived.Test.YthjnlpfibakacaaGreatDoorEcWp2
set_option linter.unusedVariables false
set_option linter.unusedSimpArgs false
set_option maxRecDepth 100000
namespace Go.Proofs.YthjnlpfibakacaaGreatDoorPe.Tmpf
open Go Go.Proofs Go.Proofs.YthjnlpfibakacaaGreatDoorPe Go.Proofs.YthjnlpfibakacaaGreatDoorPe.TmpfCode
theorem parseM_errs (s:List UInt8):(parseM s).2=0\/(parseM s).2=2\/(parseM s).2=11:=by
 have hf : ∀ n,(fit n).2=0\/(fit n).2=2\/(fit n).2=11:=fun n=>by
  unfold fit
  split <;> simp
 unfold parseM
 simp only
 split
 ·split
  ·simp
  ·exact hf _
 ·split
  ·simp
  ·exact hf _
 ·split
  ·simp
  ·exact hf _
theorem nameM_errs {s:List UInt8} {e:Int} (h:nameM s = .error e):1<=e/\e<=11:=by
 unfold nameM at h
 split at h
 ·cases h; simp
 ·split at h
  ·cases h
  ·cases h; simp
theorem strM_errs : ∀ (s acc:List UInt8) (n:Nat) {e:Int},strM s acc n = .error e->1<=e/\e<=11
 |[],acc,n,e,h=>by cases h; simp
 |[c],acc,n,e,h=>by
  unfold strM at h
  split at h
  ·split at h
   ·cases h; simp
   ·cases h
  ·split at h
   ·cases h; simp
   ·exact strM_errs [] _ _ h
 |c::d::r,acc,n,e,h=>by
  unfold strM at h
  split at h
  ·split at h
   ·cases h; simp
   ·cases h
  ·split at h
   ·exact strM_errs r _ _ h
   ·exact strM_errs (d::r) _ _ h
theorem oneM_errs {s:List UInt8} {e:Int} (h:oneM s = .error e):1<=e/\e<=11:=by
 cases s with
 |nil=>cases h; simp
 |cons c r =>
  rw[oneM_cons] at h
  split at h
  ·cases h
  split at h
  ·cases h
  split at h
  ·cases h
  split at h
  ·split at h
   ·rename_i e' he
    cases h
    exact strM_errs _ _ _ he
   ·cases h
  split at h
  ·unfold varM at h
   split at h
   ·split at h
    ·rename_i e' he; cases h; exact nameM_errs he
    ·split at h
     ·cases h
     ·cases h; simp
   ·split at h
    ·rename_i e' he; cases h; exact nameM_errs he
    ·cases h
  ·unfold wordM at h
   have hp:=parseM_errs ((c::r).takeWhile signB)
   split at h
   ·cases h; simp
   ·split at h
    ·cases h
    ·rename_i h0
     split at h
     ·cases h
      omega
     ·split at h
      ·cases h; simp
      ·cases h
theorem scanM_pos : ∀ (m:Nat) (s:List UInt8) (n:Nat),s.length<=m->(∀ p e,scanM n s = .error (p,e)->1<=e/\e<=11/\n<=p/\p<n+s.length) /\ ∀ l,scanM n s = .ok l -> ∀ t∈l,n<=t.pos/\t.pos<n+s.length:=by
 intro m
 induction m with
 |zero =>
  intro s n hm
  have:s=[]:=List.eq_nil_of_length_eq_zero (by omega)
  subst this
  rw[scanM_nil rfl]
  exact⟨fun p e h=>(by cases h),fun l h t ht=>(by cases h; cases ht)⟩
 |succ m ih =>
  intro s n hm
  cases hs:skipM false s with
  |nil =>
   rw[scanM_nil hs]
   exact⟨fun p e h=>(by cases h),fun l h t ht=>(by cases h; cases ht)⟩
  |cons c r =>
   have hle:=skipM_le s false
   rw[hs,List.length_cons] at hle
   rw[scanM_cons hs]
   cases ho:oneM (c::r) with
   |error e =>
    obtain⟨h1,h2⟩:=oneM_errs ho
    refine⟨fun p e' h => ?_,fun l h=>(by cases h)⟩
    cases h
    exact⟨h1,h2,by omega,by omega⟩
   |ok t =>
    obtain⟨t,d⟩:=t
    have hd:=oneM_le ho
    simp only[List.length_cons] at hd
    obtain⟨i1,i2⟩:=ih (r.drop (d-1)) (n+(s.length-(r.length+1))+(d-1+1)) (by rw[List.length_drop]; omega)
    rw[List.length_drop] at i1 i2
    simp only
    cases hh:scanM (n+(s.length-(r.length+1))+(d-1+1)) (r.drop (d-1)) with
    |error q =>
     refine⟨fun p e' h => ?_,fun l h=>(by cases h)⟩
     obtain⟨qp,qe⟩:=q
     cases h
     obtain⟨j1,j2,j3,j4⟩:=i1 _ _ hh
     exact⟨j1,j2,by omega,by omega⟩
    |ok l =>
     refine⟨fun p e' h=>(by cases h),fun l' h u hu => ?_⟩
     cases h
     rcases List.mem_cons.1 hu with rfl|hu
     ·simp only; omega
     ·have:=i2 l hh u hu
      omega
theorem readM_err {b:List UInt8} {e:Int × Int} (h:readM b = .error e):1<=e.2/\e.2<=11/\0<=e.1/\(b.length<=65536->e.1<b.length)/\e.1<=65536:=by
 unfold readM at h
 split at h
 ·rename_i q hq
  cases h
  unfold scanL at hq
  split at hq
  ·cases hq
   refine⟨by simp,by simp,by simp,fun h=>by omega,by simp⟩
  ·obtain⟨qp,qe⟩:=q
   obtain⟨h1,h2,h3,h4⟩:=(scanM_pos _ b 0 (Nat.le_refl _)).1 _ _ hq
   exact⟨h1,h2,by simp,fun _=>by simp only; omega,by simp only; omega⟩
 ·rename_i l hl
  obtain⟨h1,h2,t,ht,h3⟩:=readT_err _ _ _ _ _ (Nat.le_refl _) h
  have hb:=(scanL_len hl).2
  unfold scanL at hl
  rw[if_neg (by omega)] at hl
  have:=(scanM_pos _ b 0 (Nat.le_refl _)).2 _ hl t ht
  exact⟨by omega,by omega,by omega,fun _=>by omega,by omega⟩
def IsTrue (o:Option (PV × St)):Prop:=Good (fun v _=>v = .bool true) o
theorem IsTrue.ex {o:Option (PV × St)} (h:IsTrue o) : ∃ st,o=some (.bool true,st):=by
 obtain⟨v,st,h,rfl⟩:=h
 exact⟨st,h⟩
end Go.Proofs.YthjnlpfibakacaaGreatDoorPe.Tmpf
set_option linter.unusedVariables false
set_option linter.unusedSimpArgs false
set_option maxRecDepth 100000
namespace Go.Proofs.YthjnlpfibakacaaGreatDoorPe.Tmpf
open Go Go.Proofs Go.Proofs.YthjnlpfibakacaaGreatDoorPe Go.Proofs.YthjnlpfibakacaaGreatDoorPe.TmpfCode
inductive PosOk (M:Nat):Nd->Prop where
 |mk {k pos i:Int} {s:List UInt8} {kids:List Nd} (h:0<=pos/\pos<=M) (hk : ∀ x∈kids,PosOk M x):PosOk M (.mk k pos i s kids)
theorem PosOk.pos {M:Nat} {x:Nd} (h:PosOk M x):0<=x.pos/\x.pos<=M:=by cases h; assumption
theorem PosOk.kids {M:Nat} {x:Nd} (h:PosOk M x) : ∀ y∈x.kids,PosOk M y:=by cases h; assumption
theorem node_pos {M:Nat} : ∀ (f:Nat),(∀ (deep:Nat) (l:List Tok) (n:Nat) (q:Nd × List Tok × Nat),(∀ t∈l,t.pos<=M)->nodeM f deep l n = .ok q->PosOk M q.1 /\ ∀ t∈q.2.1,t.pos<=M) /\
  ∀ (deep pos:Nat) (i:Int) (s:List UInt8) (l:List Tok) (n:Nat) (acc:List Nd) (q:Nd × List Tok × Nat),(∀ t∈l,t.pos<=M)->pos<=M->(∀ x∈acc,PosOk M x)->kidsM f deep pos i s l n acc = .ok q->PosOk M q.1 /\ ∀ t∈q.2.1,t.pos<=M
 |0=>⟨fun deep l n q _ h=>(by unfold nodeM at h; cases h),fun deep pos i s l n acc q _ _ _ h=>(by unfold kidsM at h; cases h)⟩
 |f+1=>by
  obtain⟨ih1,ih2⟩:=node_pos f
  constructor
  ·intro deep l n q hl h
   unfold nodeM at h
   split at h
   ·cases h
   ·rename_i t ts
    have ht:=hl t (List.mem_cons_self ..)
    have hts : ∀ u∈ts,u.pos<=M:=fun u hu=>hl u (List.mem_cons_of_mem _ hu)
    have hp:0<=(t.pos:Int)/\(t.pos:Int)<=M:=by omega
    split at h
    ·cases h
    ·split at h
     ·cases h
     ·split at h
      ·split at h
       ·cases h
       ·rename_i u us
        split at h
        ·cases h
        ·split at h
         ·cases h
         ·rename_i r hr
          obtain⟨a,b⟩:=ih1 _ _ _ _ hts hr
          cases h
          exact⟨.mk hp (fun x hx=>by rw[List.mem_singleton.1 hx]; exact a),b⟩
      ·split at h
       ·split at h
        ·cases h
        ·exact ih2 _ _ _ _ _ _ _ _ hts ht (fun x hx=>by cases hx) h
       ·cases h
        exact⟨.mk hp (fun x hx=>by cases hx),hts⟩
  ·intro deep pos i s l n acc q hl hp ha h
   unfold kidsM at h
   split at h
   ·cases h
   ·rename_i u us
    split at h
    ·cases h
     exact⟨.mk (by omega) ha,fun t ht=>hl t (List.mem_cons_of_mem _ ht)⟩
    ·split at h
     ·cases h
     ·rename_i r hr
      obtain⟨a,b⟩:=ih1 _ _ _ _ hl hr
      refine ih2 _ _ _ _ _ _ _ _ b hp (fun x hx => ?_) h
      rcases List.mem_append.1 hx with hx|hx
      ·exact ha x hx
      ·rw[List.mem_singleton.1 hx]; exact a
theorem readT_pos {M:Nat} : ∀ (f:Nat) (l:List Tok) (n:Nat) (acc r:List Nd),(∀ t∈l,t.pos<=M)->(∀ x∈acc,PosOk M x)->readT f l n acc = .ok r -> ∀ x∈r,PosOk M x
 |0,l,n,acc,r,_,_,h=>by unfold readT at h; cases h
 |f+1,l,n,acc,r,hl,ha,h=>by
  unfold readT at h
  split at h
  ·cases h; exact ha
  ·split at h
   ·cases h
   ·rename_i q hq
    obtain⟨a,b⟩:=(node_pos _).1 _ _ _ _ hl hq
    refine readT_pos f _ _ _ _ b (fun x hx => ?_) h
    rcases List.mem_append.1 hx with hx|hx
    ·exact ha x hx
    ·rw[List.mem_singleton.1 hx]; exact a
theorem readM_pos {b:List UInt8} {r:List Nd} (h:readM b = .ok r) : ∀ x∈r,PosOk 65536 x:=by
 unfold readM at h
 split at h
 ·cases h
 ·rename_i l hl
  have hb:=(scanL_len hl).2
  unfold scanL at hl
  rw[if_neg (by omega)] at hl
  exact readT_pos _ _ _ _ _ (fun t ht=>by have:=(scanM_pos _ b 0 (Nat.le_refl _)).2 _ hl t ht; omega) (fun x hx=>by cases hx) h
theorem Wf.s_le {x:Nd} (h:Wf x):x.s.length<=1000:=by
 cases h with
 |leaf k pos i s h=>exact (TokK.small h).2
 |no=>simp[Nd.s]
 |list=>simp[Nd.s]
theorem Wf.i_in {x:Nd} (h:Wf x):I64 x.i:=by
 cases h with
 |leaf k pos i s h=>exact (TokK.small h).1
 |no=>simp[Nd.i,I64]
 |list=>simp[Nd.i,I64]
end Go.Proofs.YthjnlpfibakacaaGreatDoorPe.Tmpf
set_option maxRecDepth 1000000
namespace Go.Proofs.YthjnlpfibakacaaGreatDoorPe.Tmpf
open Go Go.Proofs Go.Proofs.YthjnlpfibakacaaGreatDoorPe Go.Proofs.YthjnlpfibakacaaGreatDoorPe.TmpfCode
theorem known_t:tupV (callE efns given) (.call 0 f_law9_known) []=some (.bool true):=run_t (k:=100) (by kernel_rfl)
end Go.Proofs.YthjnlpfibakacaaGreatDoorPe.Tmpf
