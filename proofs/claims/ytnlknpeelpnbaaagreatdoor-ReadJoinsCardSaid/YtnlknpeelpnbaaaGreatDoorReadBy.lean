/- A part of the proof of this folder's statement; it has no condition of its own. -/
import Derived.Test.YtnlknpeelpnbaaaGreatDoorReadNt
set_option linter.unusedVariables false
set_option linter.unusedSimpArgs false
set_option maxRecDepth 100000
namespace Go.Proofs.YtnlknpeelpnbaaaGreatDoorPe.Read
open Go Go.Proofs Go.Proofs.YtnlknpeelpnbaaaGreatDoorPe Go.Proofs.YtnlknpeelpnbaaaGreatDoorPe.ReadCode
theorem parseM_errs (s:List UInt8):(parseM s).2=0\/(parseM s).2=2\/(parseM s).2=11:=by
 have hf : ∀ n,(fit n).2=0\/(fit n).2=2\/(fit n).2=11:=fun n=>by
  unfold fit
  split <;> simp
 unfold parseM
 simp only
 split
 ·split
  ·simp
  ·exact hf _
 ·split
  ·simp
  ·exact hf _
 ·split
  ·simp
  ·exact hf _
theorem nameM_errs {s:List UInt8} {e:Int} (h:nameM s = .error e):1<=e/\e<=11:=by
 unfold nameM at h
 split at h
 ·cases h; simp
 ·split at h
  ·cases h
  ·cases h; simp
theorem strM_errs : ∀ (s acc:List UInt8) (n:Nat) {e:Int},strM s acc n = .error e->1<=e/\e<=11
 |[],acc,n,e,h=>by cases h; simp
 |[c],acc,n,e,h=>by
  unfold strM at h
  split at h
  ·split at h
   ·cases h; simp
   ·cases h
  ·split at h
   ·cases h; simp
   ·exact strM_errs [] _ _ h
 |c::d::r,acc,n,e,h=>by
  unfold strM at h
  split at h
  ·split at h
   ·cases h; simp
   ·cases h
  ·split at h
   ·exact strM_errs r _ _ h
   ·exact strM_errs (d::r) _ _ h
theorem oneM_errs {s:List UInt8} {e:Int} (h:oneM s = .error e):1<=e/\e<=11:=by
 cases s with
 |nil=>cases h; simp
 |cons c r =>
  rw[oneM_cons] at h
  split at h
  ·cases h
  split at h
  ·cases h
  split at h
  ·cases h
  split at h
  ·split at h
   ·rename_i e' he
    cases h
    exact strM_errs _ _ _ he
   ·cases h
  split at h
  ·unfold varM at h
   split at h
   ·split at h
    ·rename_i e' he; cases h; exact nameM_errs he
    ·split at h
     ·cases h
     ·cases h; simp
   ·split at h
    ·rename_i e' he; cases h; exact nameM_errs he
    ·cases h
  ·unfold wordM at h
   have hp:=parseM_errs ((c::r).takeWhile signB)
   split at h
   ·cases h; simp
   ·split at h
    ·cases h
    ·rename_i h0
     split at h
     ·cases h
      omega
     ·split at h
      ·cases h; simp
      ·cases h
theorem scanM_pos : ∀ (m:Nat) (s:List UInt8) (n:Nat),s.length<=m->(∀ p e,scanM n s = .error (p,e)->1<=e/\e<=11/\n<=p/\p<n+s.length) /\ ∀ l,scanM n s = .ok l -> ∀ t∈l,n<=t.pos/\t.pos<n+s.length:=by
 intro m
 induction m with
 |zero =>
  intro s n hm
  have:s=[]:=List.eq_nil_of_length_eq_zero (by omega)
  subst this
  rw[scanM_nil rfl]
  exact⟨fun p e h=>(by cases h),fun l h t ht=>(by cases h; cases ht)⟩
 |succ m ih =>
  intro s n hm
  cases hs:skipM false s with
  |nil =>
   rw[scanM_nil hs]
   exact⟨fun p e h=>(by cases h),fun l h t ht=>(by cases h; cases ht)⟩
  |cons c r =>
   have hle:=skipM_le s false
   rw[hs,List.length_cons] at hle
   rw[scanM_cons hs]
   cases ho:oneM (c::r) with
   |error e =>
    obtain⟨h1,h2⟩:=oneM_errs ho
    refine⟨fun p e' h => ?_,fun l h=>(by cases h)⟩
    cases h
    exact⟨h1,h2,by omega,by omega⟩
   |ok t =>
    obtain⟨t,d⟩:=t
    have hd:=oneM_le ho
    simp only[List.length_cons] at hd
    obtain⟨i1,i2⟩:=ih (r.drop (d-1)) (n+(s.length-(r.length+1))+(d-1+1)) (by rw[List.length_drop]; omega)
    rw[List.length_drop] at i1 i2
    simp only
    cases hh:scanM (n+(s.length-(r.length+1))+(d-1+1)) (r.drop (d-1)) with
    |error q =>
     refine⟨fun p e' h => ?_,fun l h=>(by cases h)⟩
     obtain⟨qp,qe⟩:=q
     cases h
     obtain⟨j1,j2,j3,j4⟩:=i1 _ _ hh
     exact⟨j1,j2,by omega,by omega⟩
    |ok l =>
     refine⟨fun p e' h=>(by cases h),fun l' h u hu => ?_⟩
     cases h
     rcases List.mem_cons.1 hu with rfl|hu
     ·simp only; omega
     ·have:=i2 l hh u hu
      omega
theorem readM_err {b:List UInt8} {e:Int × Int} (h:readM b = .error e):1<=e.2/\e.2<=11/\0<=e.1/\(b.length<=65536->e.1<b.length)/\e.1<=65536:=by
 unfold readM at h
 split at h
 ·rename_i q hq
  cases h
  unfold scanL at hq
  split at hq
  ·cases hq
   refine⟨by simp,by simp,by simp,fun h=>by omega,by simp⟩
  ·obtain⟨qp,qe⟩:=q
   obtain⟨h1,h2,h3,h4⟩:=(scanM_pos _ b 0 (Nat.le_refl _)).1 _ _ hq
   exact⟨h1,h2,by simp,fun _=>by simp only; omega,by simp only; omega⟩
 ·rename_i l hl
  obtain⟨h1,h2,t,ht,h3⟩:=readT_err _ _ _ _ _ (Nat.le_refl _) h
  have hb:=(scanL_len hl).2
  unfold scanL at hl
  rw[if_neg (by omega)] at hl
  have:=(scanM_pos _ b 0 (Nat.le_refl _)).2 _ hl t ht
  exact⟨by omega,by omega,by omega,fun _=>by omega,by omega⟩
def IsTrue (o:Option (PV × St)):Prop:=Good (fun v _=>v = .bool true) o
theorem IsTrue.ex {o:Option (PV × St)} (h:IsTrue o) : ∃ st,o=some (.bool true,st):=by
 obtain⟨v,st,h,rfl⟩:=h
 exact⟨st,h⟩
end Go.Proofs.YtnlknpeelpnbaaaGreatDoorPe.Read
