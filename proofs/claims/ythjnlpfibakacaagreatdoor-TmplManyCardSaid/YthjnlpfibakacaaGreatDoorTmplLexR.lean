/- A part of the proof of this folder's statement; it has no condition of its own. -/
import Derived.Test.YthjnlpfibakacaaGreatDoorTmplLexM
set_option linter.unusedVariables false
set_option linter.unusedSimpArgs false
set_option maxRecDepth 1000000
namespace Go.Proofs.YthjnlpfibakacaaGreatDoorPe.Tmpl
open Go Go.Proofs.YthjnlpfibakacaaGreatDoorPe Go.Proofs.YthjnlpfibakacaaGreatDoorPe.TmplCode
end Go.Proofs.YthjnlpfibakacaaGreatDoorPe.Tmpl
set_option linter.unusedVariables false
set_option linter.unusedSimpArgs false
set_option maxRecDepth 1000000
namespace Go.Proofs.YthjnlpfibakacaaGreatDoorPe.Tmpl
open Go Go.Proofs.YthjnlpfibakacaaGreatDoorPe Go.Proofs.YthjnlpfibakacaaGreatDoorPe.TmplCode
def Tok.Small (t:Tok):Prop:=I64 t.i/\t.s.length<=100000
theorem strM_len : ∀ (m:Nat) (s acc:List UInt8) (i:Nat) (t:List UInt8) (q:Nat),s.length<=m->strM s acc i = .ok (t,q)->t.length<=1000:=by
 intro m
 induction m with
 |zero =>
  intro s acc i t q hm h
  cases s with
  |nil=>cases h
  |cons=>simp at hm
 |succ m ih =>
  intro s acc i t q hm h
  cases s with
  |nil=>cases h
  |cons c r =>
   by_cases h34:c=34
   ·subst h34
    rw[strM_end] at h
    split at h
    ·cases h
    ·cases h; omega
   ·by_cases h92:c=92
    ·subst h92
     cases r with
     |nil=>rw[strM_esc0] at h; cases h
     |cons d r=>rw[strM_esc] at h; exact ih r _ _ _ _ (by simp only[List.length_cons] at hm; omega) h
    ·rw[strM_cons h34 h92] at h
     exact ih r _ _ _ _ (by simp only[List.length_cons] at hm; omega) h
theorem parseM_in (s:List UInt8):I64 (parseM s).1:=by
 rw[parseM_eq]
 split
 ·exact fst_fit
 ·exact⟨by decide,by decide⟩
inductive TokK:Tk->Prop
 |sign (k:Int) (h:k=4\/k=5\/k=8):TokK ⟨k,0,[]⟩
 |str (s:List UInt8) (h:s.length<=1000):TokK ⟨3,0,s⟩
 |name (k:Int) (s:List UInt8) (hk:k=6\/k=7) (h:goodM s=true):TokK ⟨k,0,s⟩
 |int (i:Int) (h:I64 i):TokK ⟨1,i,[]⟩
 |sym (s:List UInt8) (h1:s≠[]) (h2:s.length<=40) (h3:s.all signB=true) (h4:(parseM s).2=2):TokK ⟨2,0,s⟩
theorem all_while {α : Type} (p : α -> Bool) : ∀ l:List α,(l.takeWhile p).all p=true
 |[]=>rfl
 |c::r=>by
  rw[List.takeWhile_cons]
  split
  ·rename_i h; rw[List.all_cons,h,all_while p r]; rfl
  ·rfl
theorem oneM_kind {s:List UInt8} {t:Tk} {m:Nat} (h:oneM s = .ok (t,m)):TokK t:=by
 cases s with
 |nil=>cases h
 |cons c r =>
  rw[oneM_cons] at h
  split at h
  ·cases h; exact .sign 4 (.inl rfl)
  split at h
  ·cases h; exact .sign 5 (.inr (.inl rfl))
  split at h
  ·cases h; exact .sign 8 (.inr (.inr rfl))
  split at h
  ·split at h
   ·cases h
   ·rename_i t' ht
    cases h
    exact .str _ (strM_len _ _ _ _ t'.1 t'.2 (Nat.le_refl _) ht)
  split at h
  ·unfold varM at h
   split at h
   ·split at h
    ·cases h
    ·rename_i t' ht
     split at h
     ·cases h; exact .name 7 _ (.inr rfl) (nameM_le ht).2.2.2
     ·cases h
   ·split at h
    ·cases h
    ·rename_i t' ht
     cases h; exact .name 6 _ (.inl rfl) (nameM_le ht).2.2.2
  ·unfold wordM at h
   split at h
   ·cases h
   rename_i h0
   split at h
   ·cases h; exact .int _ (parseM_in _)
   split at h
   ·cases h
   rename_i h2
   split at h
   ·cases h
   ·cases h; exact .sym _ h0 (by omega) (all_while _ _) (by omega)
theorem goodM_len {s:List UInt8} (h:goodM s=true):s.length<=40/\s≠[]/\s.all partB=true:=by
 cases s with
 |nil=>cases h
 |cons c r =>
  simp only[goodM,Bool.and_eq_true,decide_eq_true_eq] at h
  exact⟨h.1.1,by simp,h.2⟩
theorem TokK.small {t:Tk} (h:TokK t):I64 t.i/\t.s.length<=1000:=by
 have h0:I64 0:=⟨by decide,by decide⟩
 cases h with
 |sign k h=>exact⟨h0,by simp⟩
 |str s h=>exact⟨h0,h⟩
 |name k s hk h=>exact⟨h0,by have:=(goodM_len h).1; simp only; omega⟩
 |int i h=>exact⟨h,by simp⟩
 |sym s h1 h2 h3 h4=>exact⟨h0,by simp only; omega⟩
def Tok.tk (t:Tok):Tk:=⟨t.k,t.i,t.s⟩
theorem scanM_kind : ∀ (m:Nat) (s:List UInt8) (n:Nat) (l:List Tok),s.length<=m->scanM n s = .ok l -> ∀ t∈l,TokK t.tk:=by
 intro m
 induction m with
 |zero =>
  intro s n l hm h t ht
  have:s=[]:=List.eq_nil_of_length_eq_zero (by omega)
  subst this
  rw[scanM_nil rfl] at h
  cases h
  simp at ht
 |succ m ih =>
  intro s n l hm h t ht
  cases hs:skipM false s with
  |nil =>
   rw[scanM_nil hs] at h
   cases h
   simp at ht
  |cons c r =>
   have hle:=skipM_le s false
   rw[hs,List.length_cons] at hle
   rw[scanM_cons hs] at h
   split at h
   ·cases h
   ·rename_i tk ho
    split at h
    ·cases h
    ·rename_i l' hl'
     cases h
     rcases List.mem_cons.1 ht with rfl|ht
     ·exact oneM_kind (t:=tk.1) (m:=tk.2) ho
     ·exact ih _ _ _ (by rw[List.length_drop]; omega) hl' t ht
theorem scanL_kind {b:List UInt8} {l:List Tok} (h:scanL b = .ok l) : ∀ t∈l,TokK t.tk:=by
 unfold scanL at h
 split at h
 ·cases h
 ·exact scanM_kind _ _ _ _ (Nat.le_refl _) h
theorem Tok.small {t:Tok} (h:TokK t.tk):t.Small:=⟨h.small.1,by have:=h.small.2; simp only[Tok.tk] at this; omega⟩
end Go.Proofs.YthjnlpfibakacaaGreatDoorPe.Tmpl
set_option linter.unusedVariables false
set_option linter.unusedSimpArgs false
set_option maxRecDepth 1000000
namespace Go.Proofs.YthjnlpfibakacaaGreatDoorPe.Tmpl
open Go Go.Proofs.YthjnlpfibakacaaGreatDoorPe Go.Proofs.YthjnlpfibakacaaGreatDoorPe.TmplCode
theorem scanM_len : ∀ (m:Nat) (s:List UInt8) (n:Nat) (l:List Tok),s.length<=m->scanM n s = .ok l->l.length<=s.length:=by
 intro m
 induction m with
 |zero =>
  intro s n l hm h
  have:s=[]:=List.eq_nil_of_length_eq_zero (by omega)
  subst this
  rw[scanM_nil rfl] at h
  cases h
  simp
 |succ m ih =>
  intro s n l hm h
  cases hs:skipM false s with
  |nil =>
   rw[scanM_nil hs] at h
   cases h
   simp
  |cons c r =>
   have hle:=skipM_le s false
   rw[hs,List.length_cons] at hle
   rw[scanM_cons hs] at h
   split at h
   ·cases h
   ·rename_i tk ho
    split at h
    ·cases h
    ·rename_i l' hl'
     cases h
     have:=ih _ _ _ (by rw[List.length_drop]; omega) hl'
     rw[List.length_drop] at this
     simp only[List.length_cons]
     omega
theorem scanL_len {b:List UInt8} {l:List Tok} (h:scanL b = .ok l):l.length<=b.length/\b.length<=65536:=by
 unfold scanL at h
 split at h
 ·cases h
 ·exact⟨scanM_len _ _ _ _ (Nat.le_refl _) h,by omega⟩
end Go.Proofs.YthjnlpfibakacaaGreatDoorPe.Tmpl
set_option linter.unusedVariables false
set_option linter.unusedSimpArgs false
set_option maxRecDepth 1000000
namespace Go.Proofs.YthjnlpfibakacaaGreatDoorPe.Tmpl
open Go Go.Proofs.YthjnlpfibakacaaGreatDoorPe Go.Proofs.YthjnlpfibakacaaGreatDoorPe.TmplCode
def EndB:List UInt8->Prop
 |[]=>True
 |c::_=>signB c=false/\partB c=false
def Stops (p:UInt8->Bool):List UInt8->Prop
 |[]=>True
 |c::_=>p c=false
theorem EndB.sign {r:List UInt8} (h:EndB r):Stops signB r:=by
 cases r with
 |nil=>trivial
 |cons c r=>exact h.1
theorem EndB.part {r:List UInt8} (h:EndB r):Stops partB r:=by
 cases r with
 |nil=>trivial
 |cons c r=>exact h.2
theorem text_len {n:Int} (hn:I64 n):(text n).length<=21:=by
 rw[text_eq (by omega) (by omega)]
 unfold Lib.itoa
 split
 ·have:=decDigits_len 19 n.natAbs (by omega)
  simp only[List.length_cons]; omega
 ·have:=decDigits_len 19 n.toNat (by omega)
  omega
theorem tobytes_ok {s:List UInt8}:unV .tobytes (.str s)=some (.lst (byts s)):=rfl
end Go.Proofs.YthjnlpfibakacaaGreatDoorPe.Tmpl
