/- A part of the proof of this folder's statement; it has no condition of its own. -/
import Derived.Test.YthjnlpfibakacaaGreatDoorTmplNt
import Derived.Test.YthjnlpfibakacaaGreatDoorTmplGivt
import Derived.Test.YthjnlpfibakacaaGreatDoorEcWp2
set_option linter.unusedVariables false
set_option linter.unusedSimpArgs false
set_option maxRecDepth 100000
namespace Go.Proofs.YthjnlpfibakacaaGreatDoorPe.Tmpl
open Go Go.Proofs Go.Proofs.YthjnlpfibakacaaGreatDoorPe Go.Proofs.YthjnlpfibakacaaGreatDoorPe.TmplCode
theorem tells_at {p e:Int} (h1:1<=e) (h2:e<=11) (hp:0<=p) (hp2:p<=65536):tupV (callE efns given) (.call 0 f_law5_Tells) [errP [(sChar,p)] e,wrongV p e]=some (.bool true) :=
 tells_t (l:=[(sChar,p)]) (by simp) (fun x hx=>by rw[List.mem_singleton.1 hx]; exact⟨by show (4:Nat)<=50; decide,by simp only[I64]; omega⟩) h1 h2
def IsTrue (o:Option (PV × St)):Prop:=Good (fun v _=>v = .bool true) o
theorem IsTrue.ex {o:Option (PV × St)} (h:IsTrue o) : ∃ st,o=some (.bool true,st):=by
 obtain⟨v,st,h,rfl⟩:=h
 exact⟨st,h⟩
end Go.Proofs.YthjnlpfibakacaaGreatDoorPe.Tmpl
set_option linter.unusedVariables false
set_option linter.unusedSimpArgs false
set_option maxRecDepth 100000
namespace Go.Proofs.YthjnlpfibakacaaGreatDoorPe.Tmpl
open Go Go.Proofs Go.Proofs.YthjnlpfibakacaaGreatDoorPe Go.Proofs.YthjnlpfibakacaaGreatDoorPe.TmplCode
inductive PosOk (M:Nat):Nd->Prop where
 |mk {k pos i:Int} {s:List UInt8} {kids:List Nd} (h:0<=pos/\pos<=M) (hk : ∀ x∈kids,PosOk M x):PosOk M (.mk k pos i s kids)
theorem PosOk.pos {M:Nat} {x:Nd} (h:PosOk M x):0<=x.pos/\x.pos<=M:=by cases h; assumption
theorem PosOk.kids {M:Nat} {x:Nd} (h:PosOk M x) : ∀ y∈x.kids,PosOk M y:=by cases h; assumption
theorem Wf.s_le {x:Nd} (h:Wf x):x.s.length<=1000:=by
 cases h with
 |leaf k pos i s h=>exact (TokK.small h).2
 |no=>simp[Nd.s]
 |list=>simp[Nd.s]
def scanF:Nat->Nat->List UInt8->Except (Nat × Int) (List Tok)
 |0,pos,_=>.error (pos,3)
 |f+1,pos,s=>match skipM false s with
  |[]=>.ok []
  |c::r=>match oneM (c::r) with
   |.error e=>.error (pos+(s.length-(r.length+1)),e)
   |.ok t=>match scanF f (pos+(s.length-(r.length+1))+(t.2-1+1)) (r.drop (t.2-1)) with
    |.error e=>.error e
    |.ok l=>.ok (⟨t.1.k,pos+(s.length-(r.length+1)),t.1.i,t.1.s⟩::l)
theorem scanF_eq : ∀ (f pos:Nat) (s:List UInt8),s.length<f->scanF f pos s=scanM pos s
 |0,pos,s,h=>by omega
 |f+1,pos,s,h=>by
  unfold scanF
  cases hs:skipM false s with
  |nil=>rw[scanM_nil hs]
  |cons c r =>
   rw[scanM_cons hs]
   simp only
   have hle:=skipM_le s false
   rw[hs,List.length_cons] at hle
   cases oneM (c::r) with
   |error e=>rfl
   |ok t =>
    simp only
    rw[scanF_eq f _ _ (by rw[List.length_drop]; omega)]
    cases scanM (pos+(s.length-(r.length+1))+(t.2-1+1)) (r.drop (t.2-1)) <;> rfl
def readK (b:List UInt8):Er (List Nd):=if b.length>65536 then .error (0,4) else match scanF (b.length+1) 0 b with
 |.error q=>.error (q.1,q.2)
 |.ok l=>readL l
theorem readK_eq (b:List UInt8):readK b=readM b:=by
 unfold readK readM scanL
 rw[scanF_eq _ _ _ (Nat.lt_succ_self _)]
 split
 ·rfl
 ·rfl
end Go.Proofs.YthjnlpfibakacaaGreatDoorPe.Tmpl
set_option maxRecDepth 1000000
namespace Go.Proofs.YthjnlpfibakacaaGreatDoorPe.Tmpl
open Go Go.Proofs Go.Proofs.YthjnlpfibakacaaGreatDoorPe Go.Proofs.YthjnlpfibakacaaGreatDoorPe.TmplCode
theorem known_t:tupV (callE efns given) (.call 0 f_law9_known) []=some (.bool true):=run_t (k:=100) (by kernel_rfl)
end Go.Proofs.YthjnlpfibakacaaGreatDoorPe.Tmpl
