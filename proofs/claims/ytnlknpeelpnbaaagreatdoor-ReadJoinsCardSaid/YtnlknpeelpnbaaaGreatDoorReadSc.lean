/- A part of the proof of this folder's statement; it has no condition of its own. -/
import Derived.Test.YtnlknpeelpnbaaaGreatDoorReadTk
import Derived.Test.YtnlknpeelpnbaaaGreatDoorReadDp
set_option linter.unusedVariables false
set_option linter.unusedSimpArgs false
set_option maxRecDepth 100000
namespace Go.Proofs.YtnlknpeelpnbaaaGreatDoorPe.Read
open Go Go.Proofs Go.Proofs.YtnlknpeelpnbaaaGreatDoorPe Go.Proofs.YtnlknpeelpnbaaaGreatDoorPe.ReadCode
def ahead (l:List Tok):Except (Nat × Int) (List Tok)->Except (Nat × Int) (List Tok)
 |.error e=>.error e
 |.ok m=>.ok (l++m)
theorem ahead_ahead (a b:List Tok) (x:Except (Nat × Int) (List Tok)):ahead a (ahead b x)=ahead (a++b) x:=by
 cases x with
 |error e=>rfl
 |ok m=>simp[ahead]
def ScT (s:List UInt8) (ts:List Tk):Prop := ∀ p,∃ l:List Tok,l.map Tok.tk=ts /\ ∀ r,EndB r->scanM p (s++r)=ahead l (scanM (p+s.length) r)
def ScA (s:List UInt8) (ts:List Tk):Prop := ∀ p,∃ l:List Tok,l.map Tok.tk=ts /\ ∀ r,scanM p (s++r)=ahead l (scanM (p+s.length) r)
theorem ScA.sc {s:List UInt8} {ts:List Tk} (h:ScA s ts):ScT s ts:=fun p=>by
 obtain⟨l,h1,h2⟩:=h p
 exact⟨l,h1,fun r _=>h2 r⟩
theorem ScA.nil:ScA [] []:=fun p=>⟨[],rfl,fun r=>by
 show scanM p r=ahead [] (scanM (p+0) r)
 rw[Nat.add_zero]
 cases scanM p r <;> rfl⟩
theorem ScA.app {s t:List UInt8} {a b:List Tk} (h:ScA s a) (k:ScT t b):ScT (s++t) (a++b):=fun p=>by
 obtain⟨l,h1,h2⟩:=h p
 obtain⟨m,k1,k2⟩:=k (p+s.length)
 refine⟨l++m,by rw[List.map_append,h1,k1],fun r hr => ?_⟩
 rw[List.append_assoc,h2,k2 r hr,ahead_ahead,List.length_append,Nat.add_assoc]
theorem ScT.app {s t:List UInt8} {a b:List Tk} (h:ScT s a) (he : ∀ r,EndB (t++r)) (k:ScT t b):ScT (s++t) (a++b):=fun p=>by
 obtain⟨l,h1,h2⟩:=h p
 obtain⟨m,k1,k2⟩:=k (p+s.length)
 refine⟨l++m,by rw[List.map_append,h1,k1],fun r hr => ?_⟩
 rw[List.append_assoc,h2 _ (he r),k2 r hr,ahead_ahead,List.length_append,Nat.add_assoc]
theorem blank_scan {c:UInt8} (h:blankB c=true):ScA [c] []:=fun p=>⟨[],rfl,fun r=>by
 have hs:skipM false (c::r)=skipM false r:=by rw[skipM_f,if_pos h]
 have hl:=skipM_le r false
 show scanM p (c::r)=ahead [] (scanM (p+1) r)
 rw[scanM_eq (p:=p) (q:=p+1) hs (by simp only[List.length_cons]; omega)]
 cases scanM (p+1) r <;> rfl⟩
def sizeT (l:List Tk):Nat:=(l.map fun t=>(tkT t).length+1).sum
end Go.Proofs.YtnlknpeelpnbaaaGreatDoorPe.Read
