/- A part of the proof of this folder's statement; it has no condition of its own. -/
import Derived.Test.YthjnlpfibakacaaGreatDoorEcWp2
set_option linter.unusedVariables false
set_option linter.unusedSimpArgs false
namespace Go.Proofs.YthjnlpfibakacaaGreatDoorPe
open Go
def Good (Q:PV->St->Prop) (R:Option (PV × St)):Prop := ∃ v st,R=some (v,st)/\Q v st
theorem Good.done {Q:PV->St->Prop} {v:PV} {st:St} (h:Q v st):Good Q (some (v,st)):=⟨v,st,rfl,h⟩
theorem Good.imp {Q Q':PV->St->Prop} {R:Option (PV × St)} (h:Good Q R) (hi : ∀ v st,Q v st->Q' v st):Good Q' R:=by
 obtain⟨v,st,h1,h2⟩:=h
 exact⟨v,st,h1,hi v st h2⟩
theorem Good.on {Q Q':PV->St->Prop} {R:Option (PV × St)} {f:PV->St->Option (PV × St)} (h:Good Q R) (hi : ∀ v st,Q v st->Good Q' (f v st)):Good Q' (onS R f):=by
 obtain⟨v,st,h1,h2⟩:=h
 rw[h1]
 exact hi v st h2
section
variable {cl:CallF} {m:List Bool} {a:EC} {K:EX->Fr->St->Option (PV × St)} {Q:PV->St->Prop}
theorem Good.loop {ι : Type} (μ : ι -> Nat) (P : ι -> Fr->St->Prop)
  (hstep : ∀ i fr st,P i fr st -> ∀ k:Fr->St->Option (PV × St),(∀ j fr' st',μ j < μ i->P j fr' st'->Good Q (k fr' st'))->Good Q (runE cl a fr st (seqK (fun fr st=>k (mask m fr) st) K)))
  (i : ι) {fr:Fr} {st:St} (h:P i fr st):Good Q (runL cl m a fr st K):=by
 generalize hn : μ i=n
 induction n using Nat.strongRecOn generalizing i fr st with
 |_ n ih =>
  rw[runL_eq]
  exact hstep i fr st h (fun fr st=>runL cl m a fr st K) (fun j fr' st' hj hp=>ih (μ j) (hn ▸ hj) j hp rfl)
theorem Good.for (N:Nat) (P:Nat->Fr->St->Prop)
  (hstep : ∀ n fr st,n<N->P n fr st -> ∀ k:Fr->St->Option (PV × St),(∀ fr' st',P (n+1) fr' st'->Good Q (k fr' st'))->Good Q (runE cl a fr st (seqK (fun fr st=>k (mask m fr) st) K)))
  (hend : ∀ fr st,P N fr st -> ∀ k:Fr->St->Option (PV × St),Good Q (runE cl a fr st (seqK (fun fr st=>k (mask m fr) st) K)))
  {fr:Fr} {st:St} (h:P 0 fr st):Good Q (runL cl m a fr st K):=by
 refine Good.loop (fun n=>N-n) (fun n fr st=>n<=N/\P n fr st) ?_ 0 ⟨Nat.zero_le _,h⟩
 intro n fr st ⟨hn,hp⟩ k hk
 by_cases h:n<N
 ·exact hstep n fr st h hp k fun fr' st' hp'=>hk (n+1) fr' st' (by omega) ⟨by omega,hp'⟩
 ·obtain rfl:n=N:=by omega
  exact hend fr st hp k
end
def Ret (r:PV):PV->St->Prop:=fun v st=>shutR false st shutN v=some r
theorem call_good {cl:CallF} {f:FuncId} {vs as:List PV} {r:PV} (h1:mapO (shutA shutN) vs=some as) (h2:Good (Ret r) (cl f as ⟨[],[],[],[]⟩)):tupV cl (.call 0 f) vs=some r:=by
 obtain⟨v,st,h2,h3⟩:=h2
 exact callV_of h1 h2 h3
def RetQ (Q:PV->Prop):PV->St->Prop:=fun v st => ∃ r,shutR false st shutN v=some r/\Q r
theorem RetQ.mk {Q:PV->Prop} {v r:PV} {st:St} (h:shutR false st shutN v=some r) (hq:Q r):RetQ Q v st:=⟨r,h,hq⟩
end Go.Proofs.YthjnlpfibakacaaGreatDoorPe
