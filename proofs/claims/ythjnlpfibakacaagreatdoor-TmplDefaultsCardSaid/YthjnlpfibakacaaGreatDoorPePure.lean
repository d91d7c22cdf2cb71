/- A part of the proof of this folder's statement; it has no condition of its own. -/
import Derived.Test.YthjnlpfibakacaaGreatDoorPeRel
import Derived.LaidEql
import Derived.Test.YthjnlpfibakacaaGreatDoorPeComp
import Derived.WalkKit
import Derived.Laws.AppendOwn
import Derived.Laws.StructEq
set_option linter.unusedVariables false
set_option linter.unusedSimpArgs false
namespace Go.Proofs.YthjnlpfibakacaaGreatDoorPe
open Go Go.RowKit
theorem cv1_rep {F:Fix} {w:World} {v:Value} {x:PV} (h:cv1 v=some x):RepD F w x v:=by
 cases v with
 |bool b=>cases h; exact .bool b
 |int k n=>cases h; exact .int k n
 |string s=>cases h; obtain⟨⟨l⟩⟩:=s; exact .str l
 |pointer a=>cases a with
  |none=>cases h; exact .nilp
  |some a=>cases h
 |slice a n c =>
  simp only[cv1] at h
  split at h
  ·cases h
   exact .nils
  ·cases h
 |nilFunc=>cases h; exact .nilf
 |nilIface=>cases h; exact .nili
 |_=>cases h
theorem cv_rep {F:Fix} {w:World} {v:Value} {x:PV} (h:cv v=some x):RepD F w x v:=by
 unfold cv at h
 split at h
 ·rename_i cs
  cases h1:mapO cv1 cs.toList with
  |none=>rw[h1] at h; cases h
  |some zs =>
   rw[h1] at h; cases h
   obtain⟨e,k⟩:=mapO_some h1
   refine .agg (by simpa using e.symm) fun j hj => ?_
   have hj':j<cs.toList.length:=by omega
   have:=k j hj' hj
   rw[Array.getD_eq_getD_getElem?,Array.getElem?_eq_getElem (by simpa using hj')]
   exact cv1_rep (by simpa using this)
 ·rename_i cs
  split at h
  ·rename_i e
   cases h
   have:cs = #[]:=by cases cs; simp at e; simp[e]
   subst this
   exact .tuple rfl fun j hj=>absurd hj (Nat.not_lt_zero _)
  ·cases h
 ·rename_i fn a b
  split at h
  ·rename_i f e1 e2
   cases h
   have h1:a = #[]:=by cases a; simp at e1; simp[e1]
   have h2:b = #[]:=by cases b; simp at e2; simp[e2]
   subst h1; subst h2
   exact .func f
  ·cases h
 ·exact cv1_rep h
theorem cOpd_rep {G:Gh} {w:World} {fr:Fr} {a:Act} (hf:FrRel G w fr a) {x:Operand} {y:Opd} (h:cOpd x=some y):Rep G w (y.ev fr) (a.eval x):=by
 cases x with
 |tmp t=>cases h; exact hf.get t
 |const v =>
  unfold cOpd at h
  simp only at h
  cases h1:cv v with
  |none=>rw[h1] at h; cases h
  |some z=>rw[h1] at h; cases h; exact .d (cv_rep h1)
 |global g=>cases h
 |func f=>cases h; exact .d (.func f)
theorem Rep.int_inv {G:Gh} {w:World} {k:IntKind} {n:Int} {v:Value} (h:Rep G w (.int k n) v):v = .int k n:=by
 cases h with|d h =>
 cases h with
 |sl hx=>rcases hx with hx|⟨hx,_⟩ <;> cases hx
 |int=>rfl
theorem Rep.bool_inv {G:Gh} {w:World} {b:Bool} {v:Value} (h:Rep G w (.bool b) v):v = .bool b:=by
 cases h with|d h =>
 cases h with
 |sl hx=>rcases hx with hx|⟨hx,_⟩ <;> cases hx
 |bool=>rfl
theorem Rep.str_inv {G:Gh} {w:World} {s:List UInt8} {v:Value} (h:Rep G w (.str s) v):v = .string ⟨⟨s⟩⟩:=by
 cases h with|d h =>
 cases h with
 |sl hx=>rcases hx with hx|⟨hx,_⟩ <;> cases hx
 |str=>rfl
theorem Rep.nili_inv {G:Gh} {w:World} {v:Value} (h:Rep G w .nili v):v = .nilIface:=by
 cases h with|d h =>
 cases h with
 |sl hx=>rcases hx with hx|⟨hx,_⟩ <;> cases hx
 |nili=>rfl
theorem Rep.nilp_inv {G:Gh} {w:World} {v:Value} (h:Rep G w .nilp v):v = .pointer none:=by
 cases h with|d h =>
 cases h with
 |sl hx=>rcases hx with hx|⟨hx,_⟩ <;> cases hx
 |nilp=>rfl
theorem Rep.iface_inv {G:Gh} {w:World} {t:TypeId} {x:PV} {v:Value} (h:Rep G w (.iface t x) v) : ∃ u,v = .iface t u/\Rep G w x u:=by
 cases h with
 |d h =>
  cases h with
  |sl hx=>rcases hx with hx|⟨hx,_⟩ <;> cases hx
  |iface h=>exact⟨_,rfl,.d h⟩
 |iface h=>exact⟨_,rfl,h⟩
theorem Rep.ptr_inv {G:Gh} {w:World} {b o:Nat} {v:Value} (h:Rep G w (.ptr b o) v) : ∃ blk,G.bx b=some blk/\v = .pointer (some ⟨blk,o,none⟩):=by
 cases h with
 |d h =>
  cases h with
  |sl hx=>rcases hx with hx|⟨hx,_⟩ <;> cases hx
 |ptr o h=>exact⟨_,h,rfl⟩
theorem Rep.hs_inv {G:Gh} {w:World} {n b o len:Nat} {v:Value} (h:Rep G w (.hs n b o len) v) : ∃ blk cap,G.bx b=some blk/\len<=cap/\o+cap*n<=G.bs b/\v = .slice (some ⟨blk,o,none⟩) len cap:=by
 cases h with
 |d h =>
  cases h with
  |sl hx=>rcases hx with hx|⟨hx,_⟩ <;> cases hx
 |hs n o len cap h hc hk=>exact⟨_,_,h,hc,hk,rfl⟩
theorem Rep.ref_inv {G:Gh} {w:World} {cs:List PV} {v:Value} (h:Rep G w (.ref cs) v) : ∃ (b o:Nat) (vs:Nat->Value),v = .pointer (some ⟨b,o,none⟩) /\
  (∀ j,j<cs.length->G.F b (o+j)/\w.cell? ⟨b,o+j,none⟩=some (vs j)) /\ ∀ j (h:j<cs.length),RepD G.F w (cs[j]) (vs j):=by
 cases h with|d h =>
 cases h with
 |sl hx=>rcases hx with hx|⟨hx,_⟩ <;> cases hx
 |ref hc hr=>exact⟨_,_,_,rfl,hc,hr⟩
theorem Rep.agg_inv {G:Gh} {w:World} {cs:List PV} {v:Value} (h:Rep G w (.agg cs) v) : ∃ vs,v = .agg vs/\vs.size=cs.length /\ ∀ j (h:j<cs.length),Rep G w (cs[j]) (vs.getD j Go.undef):=by
 cases h with
 |d h =>
  cases h with
  |sl hx=>rcases hx with hx|⟨hx,_⟩ <;> cases hx
  |agg hl hr=>exact⟨_,rfl,hl,fun j hj=>.d (hr j hj)⟩
 |agg hl hr=>exact⟨_,rfl,hl,hr⟩
theorem Rep.tuple_inv {G:Gh} {w:World} {cs:List PV} {v:Value} (h:Rep G w (.tuple cs) v) : ∃ vs,v = .tuple vs/\vs.size=cs.length /\ ∀ j (h:j<cs.length),Rep G w (cs[j]) (vs.getD j Go.undef):=by
 cases h with
 |d h =>
  cases h with
  |sl hx=>rcases hx with hx|⟨hx,_⟩ <;> cases hx
  |tuple hl hr=>exact⟨_,rfl,hl,fun j hj=>.d (hr j hj)⟩
 |tuple hl hr=>exact⟨_,rfl,hl,hr⟩
theorem Rep.func_inv {G:Gh} {w:World} {f:FuncId} {cs:List PV} {v:Value} (h:Rep G w (.func f cs) v) : ∃ vs,v = .func (.func f) #[] vs/\vs.size=cs.length /\ ∀ j (h:j<cs.length),Rep G w (cs[j]) (vs.getD j Go.undef):=by
 cases h with
 |d h =>
  cases h with
  |sl hx=>rcases hx with hx|⟨hx,_⟩ <;> cases hx
  |func f=>exact⟨_,rfl,rfl,fun j hj=>absurd hj (Nat.not_lt_zero _)⟩
 |func f hl hr=>exact⟨_,rfl,hl,hr⟩
def Yv (P:Program) (s:Sem Value) (v:Value):Prop := ∀ w',s.run P w' = .ok v w'
theorem eqGuard_ok {P:Program} {op:BinOp} {t:TypeId} {ox oy:Operand} {v u:Value} (h:v ≠ .nilIface\/u ≠ .nilIface) (h' : ∀ cs,v ≠ .agg cs) (w':World):(eqGuard op t ox oy v u).run P w' = .ok () w':=by
 unfold eqGuard
 cases op <;> first|rfl|skip
 all_goals
  simp only[Bool.not_true,Bool.false_eq_true,if_false]
  split
  ·rcases h with h|h <;> exact absurd rfl h
  ·exact absurd rfl (h' _)
  ·rfl
theorem toList_str (s:List UInt8):(ByteArray.mk (Array.mk s)).toList=s:=ByteArray.toList_eq _
theorem beq_dec (a b:List UInt8):(a==b)=decide (a=b):=by rw[Bool.eq_iff_iff]; simp
theorem bin_ok {P:Program} {G:Gh} {w:World} {op:BinOp} {t:TypeId} {ox oy:Operand} {x y z:PV} {v u:Value} (hx:Rep G w x v) (hy:Rep G w y u) (h:evBin op x y=some z) :
  ∃ r,Yv P (do eqGuard op t ox oy v u; binOp op t v u) r/\Rep G w z r:=by
 unfold evBin at h
 split at h
 ·rename_i k a k' b
  obtain rfl:=hx.int_inv
  obtain rfl:=hy.int_inv
  have hg : ∀ w',(eqGuard op t ox oy (.int k a) (.int k' b)).run P w' = .ok () w':=eqGuard_ok (.inl (by simp)) (by simp)
  split at h
  ·rename_i hk
   subst hk
   cases op <;> (simp only at h) <;> try (cases h; done)
   case add=>cases h; exact⟨_,fun w'=>by rw[Sem.run_bind,hg w']; simp[binOp,Op.intArith],.d (.int _ _)⟩
   case sub=>cases h; exact⟨_,fun w'=>by rw[Sem.run_bind,hg w']; simp[binOp,Op.intArith],.d (.int _ _)⟩
   case mul=>cases h; exact⟨_,fun w'=>by rw[Sem.run_bind,hg w']; simp[binOp,Op.intArith],.d (.int _ _)⟩
   case quo =>
    split at h
    ·cases h
    ·rename_i hb
     cases h
     exact⟨_,fun w'=>by rw[Sem.run_bind,hg w']; simp[binOp,Op.intDiv,hb],.d (.int _ _)⟩
   case rem =>
    split at h
    ·cases h
    ·rename_i hb
     cases h
     exact⟨_,fun w'=>by rw[Sem.run_bind,hg w']; simp[binOp,Op.intDiv,hb],.d (.int _ _)⟩
   case eql=>cases h; exact⟨_,fun w'=>by rw[Sem.run_bind,hg w']; simp[binOp,Op.intCmp]; rfl,.d (.bool _)⟩
   case neq=>cases h; exact⟨_,fun w'=>by rw[Sem.run_bind,hg w']; simp[binOp,Op.intCmp]; rfl,.d (.bool _)⟩
   case lss=>cases h; exact⟨_,fun w'=>by rw[Sem.run_bind,hg w']; simp[binOp,Op.intCmp],.d (.bool _)⟩
   case leq=>cases h; exact⟨_,fun w'=>by rw[Sem.run_bind,hg w']; simp[binOp,Op.intCmp],.d (.bool _)⟩
   case gtr=>cases h; exact⟨_,fun w'=>by rw[Sem.run_bind,hg w']; simp[binOp,Op.intCmp],.d (.bool _)⟩
   case geq=>cases h; exact⟨_,fun w'=>by rw[Sem.run_bind,hg w']; simp[binOp,Op.intCmp],.d (.bool _)⟩
   case and=>cases h; exact⟨_,fun w'=>by rw[Sem.run_bind,hg w']; simp[binOp,Op.intBits],.d (.int _ _)⟩
   case or=>cases h; exact⟨_,fun w'=>by rw[Sem.run_bind,hg w']; simp[binOp,Op.intBits],.d (.int _ _)⟩
   case xor=>cases h; exact⟨_,fun w'=>by rw[Sem.run_bind,hg w']; simp[binOp,Op.intBits],.d (.int _ _)⟩
   case shl =>
    unfold evShift at h
    split at h
    ·cases h
    ·rename_i hb; cases h; exact⟨_,fun w'=>by rw[Sem.run_bind,hg w']; simp[binOp,Op.shift,hb],.d (.int _ _)⟩
   case shr =>
    unfold evShift at h
    split at h
    ·cases h
    ·rename_i hb; cases h; exact⟨_,fun w'=>by rw[Sem.run_bind,hg w']; simp[binOp,Op.shift,hb],.d (.int _ _)⟩
  ·unfold evShift at h
   split at h
   ·cases h
   ·rename_i hb
    cases op <;> (simp only at h) <;> try (cases h; done)
    case shl=>cases h; exact⟨_,fun w'=>by rw[Sem.run_bind,hg w']; simp[binOp,Op.shift,hb],.d (.int _ _)⟩
    case shr=>cases h; exact⟨_,fun w'=>by rw[Sem.run_bind,hg w']; simp[binOp,Op.shift,hb],.d (.int _ _)⟩
 ·rename_i a b
  obtain rfl:=hx.str_inv
  obtain rfl:=hy.str_inv
  have hg : ∀ w',(eqGuard op t ox oy (.string ⟨⟨a⟩⟩) (.string ⟨⟨b⟩⟩)).run P w' = .ok () w':=eqGuard_ok (.inl (by simp)) (by simp)
  cases op <;> (simp only at h) <;> try (cases h; done)
  case add =>
   split at h
   ·rename_i hl
    cases h
    have e:(ByteArray.mk (Array.mk a))++(ByteArray.mk (Array.mk b))=ByteArray.mk (Array.mk (a++b)):=by
     apply ByteArray.ext
     simp[ByteArray.data_append]
    refine⟨_,fun w' => ?_,.d (.str _)⟩
    rw[Sem.run_bind,hg w']
    have h1:(ByteArray.mk (Array.mk a)).size=a.length:=rfl
    have h2:(ByteArray.mk (Array.mk b)).size=b.length:=rfl
    have h3 : ¬ (IntKind.i64.max<((a.length+b.length:Nat):Int)):=by
     have:IntKind.i64.max=9223372036854775807:=by decide
     omega
    simp only[Result.andThen_ok,binOp,Op.stringOp,h1,h2,e,gt_iff_lt]
    rw[if_neg h3]
    rfl
   ·cases h
  case eql=>cases h; exact⟨_,fun w'=>by rw[Sem.run_bind,hg w']; simp[binOp,Op.stringOp,toList_str,beq_dec],.d (.bool _)⟩
  case neq=>cases h; exact⟨_,fun w'=>by rw[Sem.run_bind,hg w']; simp[binOp,Op.stringOp,toList_str,beq_dec],.d (.bool _)⟩
  case lss=>cases h; exact⟨_,fun w'=>by rw[Sem.run_bind,hg w']; simp[binOp,Op.stringOp,toList_str],.d (.bool _)⟩
  case leq=>cases h; exact⟨_,fun w'=>by rw[Sem.run_bind,hg w']; simp[binOp,Op.stringOp,toList_str,beq_dec],.d (.bool _)⟩
  case gtr=>cases h; exact⟨_,fun w'=>by rw[Sem.run_bind,hg w']; simp[binOp,Op.stringOp,toList_str,beq_dec],.d (.bool _)⟩
  case geq=>cases h; exact⟨_,fun w'=>by rw[Sem.run_bind,hg w']; simp[binOp,Op.stringOp,toList_str],.d (.bool _)⟩
 ·cases h
theorem run_und {P:Program} {t:TypeId} {d:TypeDesc} (h:P.underlying t=some d) (w:World):(underlying t).run P w = .ok d w:=by simp[underlying,h]
theorem run_info {P:Program} {t:TypeId} {i:TypeInfo} (h:P.info? t=some i) (w:World):(typeInfo t).run P w = .ok i w:=by simp[typeInfo,h]
theorem run_size {P:Program} {t:TypeId} {i:TypeInfo} (h:P.info? t=some i) (w:World):(sizeOf t).run P w = .ok i.size w:=by simp[sizeOf,run_info h]
theorem run_equalIn_bool (d:Nat) {P:Program} {t:TypeId} (h:P.underlying t=some .bool) (a b:Bool) (w:World):(Op.equalIn (d+1) t (.bool a) (.bool b)).run P w = .ok (a==b) w:=by
 simp[Op.equalIn,run_und h]
theorem run_equal_bool {P:Program} {t:TypeId} (h:P.underlying t=some .bool) (a b:Bool) (w:World):(Op.equal t (.bool a) (.bool b)).run P w = .ok (a==b) w:=by
 simp only[Op.equal,Op.maxDepth]
 exact run_equalIn_bool 9999 h _ _ _
theorem run_equalIn_nn (d:Nat) {P:Program} {t:TypeId} {ms:Array (String × TypeId)} (h:P.underlying t=some (.interface ms)) (w:World):(Op.equalIn (d+1) t .nilIface .nilIface).run P w = .ok true w:=by
 simp[Op.equalIn,run_und h]
theorem run_equal_nn {P:Program} {t:TypeId} {ms:Array (String × TypeId)} (h:P.underlying t=some (.interface ms)) (w:World):(Op.equal t .nilIface .nilIface).run P w = .ok true w:=by
 simp only[Op.equal,Op.maxDepth]
 exact run_equalIn_nn 9999 h _
theorem run_equalIn_ni (d:Nat) {P:Program} {t u:TypeId} {v:Value} {ms:Array (String × TypeId)} (h:P.underlying t=some (.interface ms)) (w:World):(Op.equalIn (d+1) t .nilIface (.iface u v)).run P w = .ok false w:=by
 simp[Op.equalIn,run_und h]
theorem run_equal_ni {P:Program} {t u:TypeId} {v:Value} {ms:Array (String × TypeId)} (h:P.underlying t=some (.interface ms)) (w:World):(Op.equal t .nilIface (.iface u v)).run P w = .ok false w:=by
 simp only[Op.equal,Op.maxDepth]
 exact run_equalIn_ni 9999 h _
theorem run_equalIn_in (d:Nat) {P:Program} {t u:TypeId} {v:Value} {ms:Array (String × TypeId)} (h:P.underlying t=some (.interface ms)) (w:World):(Op.equalIn (d+1) t (.iface u v) .nilIface).run P w = .ok false w:=by
 simp[Op.equalIn,run_und h]
theorem run_equal_in {P:Program} {t u:TypeId} {v:Value} {ms:Array (String × TypeId)} (h:P.underlying t=some (.interface ms)) (w:World):(Op.equal t (.iface u v) .nilIface).run P w = .ok false w:=by
 simp only[Op.equal,Op.maxDepth]
 exact run_equalIn_in 9999 h _
theorem run_equalIn_pn (d:Nat) {P:Program} {t e:TypeId} (h:P.underlying t=some (.pointer e)) (a:Option Addr) (w:World):(Op.equalIn (d+1) t (.pointer none) (.pointer a)).run P w = .ok a.isNone w:=by
 simp[Op.equalIn,run_und h]
theorem run_equal_pn {P:Program} {t e:TypeId} (h:P.underlying t=some (.pointer e)) (a:Option Addr) (w:World):(Op.equal t (.pointer none) (.pointer a)).run P w = .ok a.isNone w:=by
 simp only[Op.equal,Op.maxDepth]
 exact run_equalIn_pn 9999 h _ _
theorem run_equalIn_np (d:Nat) {P:Program} {t e:TypeId} (h:P.underlying t=some (.pointer e)) (a:Addr) (w:World):(Op.equalIn (d+1) t (.pointer (some a)) (.pointer none)).run P w = .ok false w:=by
 simp[Op.equalIn,run_und h]
theorem run_equal_np {P:Program} {t e:TypeId} (h:P.underlying t=some (.pointer e)) (a:Addr) (w:World):(Op.equal t (.pointer (some a)) (.pointer none)).run P w = .ok false w:=by
 simp only[Op.equal,Op.maxDepth]
 exact run_equalIn_np 9999 h _ _
theorem run_equalIn_ps (d:Nat) {P:Program} {t e:TypeId} {j:TypeInfo} (h:P.underlying t=some (.pointer e)) (hte:P.info? e=some j) (a:Addr) (w:World):(Op.equalIn (d+1) t (.pointer (some a)) (.pointer (some a))).run P w = .ok true w:=by
 simp[Op.equalIn,run_und h,sizeOf,typeInfo,hte,run_sameAddr_same]
theorem run_equal_ps {P:Program} {t e:TypeId} {j:TypeInfo} (h:P.underlying t=some (.pointer e)) (hte:P.info? e=some j) (a:Addr) (w:World):(Op.equal t (.pointer (some a)) (.pointer (some a))).run P w = .ok true w:=by
 simp only[Op.equal,Op.maxDepth]
 exact run_equalIn_ps 9999 h hte a w
theorem run_equalIn_sn (d:Nat) {P:Program} {t e:TypeId} (h:P.underlying t=some (.slice e)) (a:Option Addr) (n c m k:Nat) (w:World):(Op.equalIn (d+1) t (.slice a n c) (.slice none m k)).run P w = .ok a.isNone w:=by
 cases a <;> simp[Op.equalIn,run_und h]
theorem run_equal_sn {P:Program} {t e:TypeId} (h:P.underlying t=some (.slice e)) (a:Option Addr) (n c m k:Nat) (w:World):(Op.equal t (.slice a n c) (.slice none m k)).run P w = .ok a.isNone w:=by
 simp only[Op.equal,Op.maxDepth]
 exact run_equalIn_sn 9999 h _ _ _ _ _ _
theorem Rep.nils_inv {G:Gh} {w:World} {v:Value} (h:Rep G w .nils v):v = .slice none 0 0:=by
 cases h with|d h=>cases h with
  |nils=>rfl
  |sl hx=>rcases hx with hx|⟨hx,_⟩ <;> cases hx
theorem Rep.emp_inv {G:Gh} {w:World} {v:Value} (h:Rep G w .emp v) : ∃ a,v = .slice (some a) 0 0:=by
 cases h with|d h=>cases h with
  |emp a=>exact⟨a,rfl⟩
  |sl hx=>rcases hx with hx|⟨hx,_⟩ <;> cases hx
theorem Rep.emc_inv {G:Gh} {w:World} {v:Value} (h:Rep G w .emc v) : ∃ a c,v = .slice (some a) 0 c:=by
 cases h with|d h=>cases h with
  |emc a c=>exact⟨a,c,rfl⟩
  |sl hx=>rcases hx with hx|⟨hx,_⟩ <;> cases hx
theorem RepD.lst_some {F:Fix} {w:World} {e:PV} {l:List PV} {v:Value} (h:RepD F w (.lst (e::l)) v) : ∃ a n c,v = .slice (some a) n c:=by
 cases h with
 |sl hx hcap ha hsz hc hr =>
  rcases hx with hx|⟨hx,_⟩
  ·cases hx; exact⟨_,_,_,by rw[ha.1 (by simp)]⟩
  ·cases hx
theorem Rep.slice_some {G:Gh} {w:World} {x e:PV} {l:List PV} {v:Value} (h:Rep G w x v) (hx:x = .lst (e::l)\/x = .full (e::l) \/ ∃ r,x = .own r (e::l)) : ∃ a n c,v = .slice (some a) n c:=by
 obtain⟨a,cap,rfl,hd,_⟩:=h.slice hx
 exact hd.lst_some
theorem eq_bin {P:Program} {t:TypeId} {ox oy:Operand} {v u:Value} {b:Bool} (neg:Bool) (hg : ∀ w',(eqGuard (if neg then .neq else .eql) t ox oy v u).run P w' = .ok () w')
  (hb:binOp .eql t v u=(do pure (.bool (<- Op.equal t v u)))/\binOp .neq t v u=(do pure (.bool (!(<- Op.equal t v u))))) (he : ∀ w',(Op.equal t v u).run P w' = .ok b w') :
  Yv P (do eqGuard (if neg then .neq else .eql) t ox oy v u; binOp (if neg then .neq else .eql) t v u) (.bool (if neg then !b else b)):=by
 intro w'
 rw[Sem.run_bind,hg w']
 cases neg with
 |false=>simp only[Result.andThen_ok,Bool.false_eq_true,if_false]; rw[hb.1]; simp[he]
 |true=>simp only[Result.andThen_ok,if_true]; rw[hb.2]; simp[he]
def flatD:TypeDesc->Bool
 |.struct _=>false
 |.array _ _=>false
 |_=>true
theorem part_cell {P:Program} {t:TypeId} {d:TypeDesc} (hu:P.underlying t=some d) (hd:flatD d=true) {vs:Array Value} {o:Nat} (ho:o<vs.size) (w':World):(part t vs o).run P w' = .ok (vs.getD o Go.undef) w':=by
 have ha:(isAgg t).run P w' = .ok false w':=by
  unfold isAgg
  rw[Sem.run_bind,run_und hu]
  cases d <;> first|rfl|(cases hd)
 have hv:vs[o]? = some (vs.getD o Go.undef):=by rw[Array.getD_eq_getD_getElem?,Array.getElem?_eq_getElem ho]; rfl
 unfold part
 rw[Sem.run_bind,ha]
 simp only[Result.andThen_ok,Bool.false_eq_true,if_false]
 rw[hv]
 rfl
theorem eqFields_ok {P:Program} {G:Gh} {w:World} (d:Nat) (w':World) : ∀ (fs:List Field) (i c:Nat) (xs ys:List PV) (vs us:Array Value) {r:Bool},flatF P i fs=some c->vs.size=i+xs.length->us.size=i+ys.length ->
  (∀ j (h:j<xs.length),Rep G w (xs[j]) (vs.getD (i+j) Go.undef))->(∀ j (h:j<ys.length),Rep G w (ys[j]) (us.getD (i+j) Go.undef))->eqCells c xs ys=some r->(Op.eqFields (d+1) vs us fs).run P w' = .ok r w'
 |[],i,c,[],[],vs,us,r,hf,_,_,_,_,h=>by
  cases hf
  simp only[eqCells,if_true] at h
  cases h
  rfl
 |[],i,c,x::xs,[],vs,us,r,hf,_,_,_,_,h=>by cases h
 |[],i,c,[],y::ys,vs,us,r,hf,_,_,_,_,h=>by cases h
 |[],i,c,x::xs,y::ys,vs,us,r,hf,_,_,_,_,h=>by
  cases hf
  simp[eqCells,cellEq] at h
 |f::fs,i,c,[],ys,vs,us,r,hf,_,_,_,_,h=>by
  exfalso
  cases ys with
  |nil =>
   unfold eqCells at h
   unfold flatF at hf
   split at hf
   ·split at hf <;> first|(cases hf; done)|(cases hf; rw[if_neg (by omega)] at h; cases h)
   ·cases hf
  |cons y ys=>cases h
 |f::fs,i,c,x::xs,[],vs,us,r,hf,_,_,_,_,h=>by cases h
 |f::fs,i,c,x::xs,y::ys,vs,us,r,hf,hv,hu,hrv,hru,h=>by
  unfold flatF at hf
  split at hf
  ·rename_i hname
   obtain⟨hn,ho⟩:=hname
   subst ho
   have key : ∀ (q k:Nat) (dd:TypeDesc),P.underlying f.type=some dd->flatD dd=true->flatF P (f.offset+1) fs=some q->c=k+4*q->k<4 ->
     (∀ e,cellEq k x y=some e->(Op.equalIn (d+1) f.type (vs.getD f.offset Go.undef) (us.getD f.offset Go.undef)).run P w' = .ok e w')->(Op.eqFields (d+1) vs us (f::fs)).run P w' = .ok r w':=by
    intro q k dd hdd hflat hq hc hk hcell
    unfold eqCells at h
    have e1:c % 4=k:=by omega
    have e2:c / 4=q:=by omega
    rw[e1,e2] at h
    split at h
    ·rename_i a b ha hb
     cases h
     have IH:=eqFields_ok (G:=G) (w:=w) d w' fs (f.offset+1) q xs ys vs us hq (by simp at hv; omega) (by simp at hu; omega)
      (fun j hj=>by have:=hrv (j+1) (by simpa using hj); simpa [Nat.add_assoc,Nat.add_comm 1 j] using this) (fun j hj=>by have:=hru (j+1) (by simpa using hj); simpa [Nat.add_assoc,Nat.add_comm 1 j] using this) hb
     unfold Op.eqFields
     rw[if_pos hn,Sem.run_bind,part_cell hdd hflat (by rw[hv]; simp) w']
     simp only[Result.andThen_ok]
     rw[Sem.run_bind,part_cell hdd hflat (by rw[hu]; simp) w']
     simp only[Result.andThen_ok]
     rw[Sem.run_bind,hcell a ha]
     simp only[Result.andThen_ok]
     cases a with
     |true=>simp only[Bool.not_true,Bool.false_eq_true,if_false,Bool.true_and]; exact IH
     |false=>simp only[Bool.not_false,if_true,Bool.false_and]; rfl
    ·cases h
   have hx0:Rep G w x (vs.getD f.offset Go.undef):=by have:=hrv 0 (by simp); rw[Nat.add_zero] at this; exact this
   have hy0:Rep G w y (us.getD f.offset Go.undef):=by have:=hru 0 (by simp); rw[Nat.add_zero] at this; exact this
   split at hf
   ·rename_i kk q hdd hq
    cases hf
    refine key q 1 _ hdd rfl hq rfl (by omega) fun e he => ?_
    unfold cellEq at he
    split at he <;> first|(cases he; done)|skip
    ·split at he
     ·rename_i hk
      subst hk
      cases he
      rw[hx0.int_inv,hy0.int_inv]
      exact run_equalIn_int w' d f.type _ _ _ _ hdd
     ·cases he
    ·rename_i h0; cases h0
    ·rename_i h0; cases h0
   ·rename_i q hdd hq
    cases hf
    refine key q 2 _ hdd rfl hq rfl (by omega) fun e he => ?_
    unfold cellEq at he
    split at he <;> first|(cases he; done)|skip
    ·rename_i h0; cases h0
    ·cases he
     rw[hx0.str_inv,hy0.str_inv,run_equalIn_string w' d f.type _ _ hdd,toList_str,toList_str]
    ·rename_i h0; cases h0
   ·rename_i q hdd hq
    cases hf
    refine key q 3 _ hdd rfl hq rfl (by omega) fun e he => ?_
    unfold cellEq at he
    split at he <;> first|(cases he; done)|skip
    ·rename_i h0; cases h0
    ·rename_i h0; cases h0
    ·cases he
     rw[hx0.bool_inv,hy0.bool_inv]
     exact run_equalIn_bool' w' d f.type _ _ hdd
   ·cases hf
  ·cases hf
theorem eqs_ok {P:Program} {G:Gh} {w:World} {t:TypeId} {ox oy:Operand} {x y:PV} {v u:Value} {k:Nat} {b:Bool} (neg:Bool) (hx:Rep G w x v) (hy:Rep G w y u) (hk:eqKind P t=some k)
  (hc:k≠1\/isConst ox=true\/isConst oy=true) (h:evEq k x y=some b) :
  Yv P (do eqGuard (if neg then .neq else .eql) t ox oy v u; binOp (if neg then .neq else .eql) t v u) (.bool (if neg then !b else b)):=by
 unfold eqKind at hk
 split at hk
 ·rename_i hu
  cases hk
  simp only[evEq] at h
  split at h
  ·cases h
   obtain rfl:=hx.bool_inv
   obtain rfl:=hy.bool_inv
   exact eq_bin neg (eqGuard_ok (.inl (by simp)) (by simp)) ⟨rfl,rfl⟩ (run_equal_bool hu _ _)
  ·cases h
 ·rename_i ms hu
  cases hk
  simp only[evEq] at h
  split at h
  ·cases h
   obtain rfl:=hx.nili_inv
   obtain rfl:=hy.nili_inv
   refine eq_bin neg (fun w' => ?_) ⟨rfl,rfl⟩ (run_equal_nn hu)
   have hc':isConst ox=true\/isConst oy=true:=hc.resolve_left (fun h=>h rfl)
   unfold eqGuard
   rcases hc' with h|h
   ·cases ox <;> first|(cases h; done)|(cases neg <;> rfl)
   ·cases oy <;> first|(cases h; done)|(cases ox <;> cases neg <;> rfl)
  ·cases h
   obtain rfl:=hx.nili_inv
   obtain⟨u,rfl,_⟩:=hy.iface_inv
   exact eq_bin neg (eqGuard_ok (.inr (by simp)) (by simp)) ⟨rfl,rfl⟩ (run_equal_ni hu)
  ·cases h
   obtain⟨u,rfl,_⟩:=hx.iface_inv
   obtain rfl:=hy.nili_inv
   exact eq_bin neg (eqGuard_ok (.inl (by simp)) (by simp)) ⟨rfl,rfl⟩ (run_equal_in hu)
  ·cases h
 ·rename_i e hu
  split at hk
  case isFalse=>cases hk
  rename_i hinfo
  obtain⟨ij,hij⟩:=Option.isSome_iff_exists.1 hinfo
  cases hk
  simp only[evEq] at h
  split at h
  ·cases h
   obtain rfl:=hx.nilp_inv
   obtain rfl:=hy.nilp_inv
   exact eq_bin neg (eqGuard_ok (.inl (by simp)) (by simp)) ⟨rfl,rfl⟩ (run_equal_pn hu _)
  ·cases h
   obtain rfl:=hx.nilp_inv
   obtain⟨_,_,rfl⟩:=hy.ptr_inv
   exact eq_bin neg (eqGuard_ok (.inl (by simp)) (by simp)) ⟨rfl,rfl⟩ (run_equal_pn hu _)
  ·cases h
   obtain⟨_,_,rfl⟩:=hx.ptr_inv
   obtain rfl:=hy.nilp_inv
   exact eq_bin neg (eqGuard_ok (.inl (by simp)) (by simp)) ⟨rfl,rfl⟩ (run_equal_np hu _)
  ·cases h
   obtain rfl:=hx.nilp_inv
   obtain⟨_,_,_,rfl,_⟩:=hy.ref_inv
   exact eq_bin neg (eqGuard_ok (.inl (by simp)) (by simp)) ⟨rfl,rfl⟩ (run_equal_pn hu _)
  ·cases h
   obtain⟨_,_,_,rfl,_⟩:=hx.ref_inv
   obtain rfl:=hy.nilp_inv
   exact eq_bin neg (eqGuard_ok (.inl (by simp)) (by simp)) ⟨rfl,rfl⟩ (run_equal_np hu _)
  ·split at h
   ·rename_i hbo
    obtain⟨rfl,rfl⟩:=hbo
    cases h
    obtain⟨k1,e1,rfl⟩:=hx.ptr_inv
    obtain⟨k2,e2,rfl⟩:=hy.ptr_inv
    rw[e1] at e2
    cases e2
    exact eq_bin neg (eqGuard_ok (.inl (by simp)) (by simp)) ⟨rfl,rfl⟩ (run_equal_ps hu hij _)
   ·cases h
  ·cases h
 ·rename_i e hu
  cases hk
  have key : ∀ {v u:Value} (hy:Rep G w .nils u),(∃ a n c,v = .slice (some a) n c)->Yv P (do eqGuard (if neg then .neq else .eql) t ox oy v u; binOp (if neg then .neq else .eql) t v u) (.bool (if neg then !false else false)):=by
   rintro v u hy ⟨a,n,c,rfl⟩
   obtain rfl:=hy.nils_inv
   exact eq_bin neg (eqGuard_ok (.inl (by simp)) (by simp)) ⟨rfl,rfl⟩ (run_equal_sn hu _ _ _ _ _)
  simp only[evEq] at h
  split at h
  ·cases h
   obtain rfl:=hx.nils_inv
   obtain rfl:=hy.nils_inv
   exact eq_bin neg (eqGuard_ok (.inl (by simp)) (by simp)) ⟨rfl,rfl⟩ (run_equal_sn hu _ _ _ _ _)
  ·cases h
   obtain⟨a,rfl⟩:=hx.emp_inv
   exact key hy ⟨a,_,_,rfl⟩
  ·cases h
   obtain⟨a,c,rfl⟩:=hx.emc_inv
   exact key hy ⟨a,_,_,rfl⟩
  ·cases h; exact key hy (hx.slice_some (.inl rfl))
  ·cases h; exact key hy (hx.slice_some (.inr (.inl rfl)))
  ·cases h; exact key hy (hx.slice_some (.inr (.inr ⟨_,rfl⟩)))
  ·cases h; obtain⟨blk,cap,_,_,_,rfl⟩:=hx.hs_inv; exact key hy ⟨_,_,_,rfl⟩
  ·cases h
 ·rename_i fs hu
  split at hk
  ·rename_i hcc
   obtain⟨c,hfl,rfl⟩:=Option.map_eq_some_iff.1 hk
   simp only[evEq] at h
   split at h
   ·rename_i xs ys
    obtain⟨vs,rfl,hv1,hv2⟩:=hx.agg_inv
    obtain⟨us,rfl,hu1,hu2⟩:=hy.agg_inv
    have hfo:P.fieldsOf t=fs:=by simp only[Program.fieldsOf,hu]
    have hrun : ∀ w',(Op.equalIn 10000 t (.agg vs) (.agg us)).run P w' = .ok b w':=by
     intro w'
     rw[show (10000:Nat)=9999+1 from rfl,run_equalIn_agg w' 9999 t vs us (by rw[hfo]; exact hu) hcc.2,hfo]
     exact eqFields_ok (G:=G) (w:=w) 9998 w' fs.toList 0 c xs ys vs us hfl (by omega) (by omega) (fun j hj=>by simpa using hv2 j hj) (fun j hj=>by simpa using hu2 j hj) h
    intro w'
    rw[Sem.run_bind,run_eqGuard_agg w' _ t ox oy vs us hcc.1]
    simp only[Result.andThen_ok]
    cases neg with
    |true=>simp only[if_true]; rw[run_neq_struct,hrun]; rfl
    |false=>simp only[Bool.false_eq_true,if_false]; rw[run_eql_struct,hrun]; rfl
   ·cases h
  ·cases hk
 ·cases hk
theorem sizeT_some {P:Program} {t:TypeId} {n:Nat} (h:sizeT P t=some n) : ∃ i,P.info? t=some i/\i.size=n/\n≠0:=by
 unfold sizeT at h
 split at h
 ·rename_i i hi
  split at h
  ·cases h
  ·rename_i h0; cases h; exact⟨i,hi,rfl,h0⟩
 ·cases h
theorem elemT_some {P:Program} {t e:TypeId} (h:elemT P t=some e):P.underlying t=some (.slice e):=by
 unfold elemT at h
 split at h
 ·rename_i hu; cases h; exact hu
 ·cases h
theorem fieldT_some {P:Program} {t:TypeId} {j:Nat} {f:Field} (h:fieldT P t j=some f) : ∃ fs,P.underlying t=some (.struct fs)/\fs[j]? = some f:=by
 unfold fieldT at h
 split at h
 ·rename_i fs hu; exact⟨fs,hu,h⟩
 ·cases h
theorem addr_add (b o n:Nat):(⟨b,o,none⟩:Addr).add n=⟨b,o+n,none⟩:=by
 unfold Addr.add
 split
 ·rename_i h; subst h; rfl
 ·rfl
theorem off_ok {P:Program} {G:Gh} {w:World} {t:TypeId} {j n:Nat} {f:Field} {x z:PV} {v:Value} {st st':St} (hf:fieldT P t j=some f) (hs:sizeT P f.type=some n) (hx:Rep G w x v)
  {cl:CallF} {y:Opd} {fr:Fr} (hy:y.ev fr=x) (h:evOp cl (.off f.offset y) fr st=some (z,st')):st'=st /\ ∃ r,Yv P (Instr.fieldAt t v j) r/\Rep G w z r:=by
 obtain⟨fs,hu,hj⟩:=fieldT_some hf
 obtain⟨i,hi,hin,h0⟩:=sizeT_some hs
 have hne : ¬ (i.size=0):=by omega
 simp only[evOp,hy] at h
 split at h
 ·rename_i b p
  cases h
  obtain⟨blk,hb,rfl⟩:=hx.ptr_inv
  exact⟨rfl,_,fun w'=>by simp[Instr.fieldAt,run_und hu,hj,Instr.sureAddr,fieldPlace,run_size hi,hne,addr_add],.ptr _ hb⟩
 ·rename_i cs
  split at h
  ·rename_i ho
   cases h
   obtain⟨b,o,vs,rfl,hc,hr⟩:=hx.ref_inv
   refine⟨rfl,.pointer (some ⟨b,o+f.offset,none⟩),fun w'=>by simp[Instr.fieldAt,run_und hu,hj,Instr.sureAddr,fieldPlace,run_size hi,hne,addr_add],.d (.ref (vs:=fun j=>vs (f.offset+j)) (fun j hj => ?_) (fun j hj => ?_))⟩
   ·have:=hc (f.offset+j) (by simp at hj; omega)
    rw[Nat.add_assoc]; exact this
   ·have:=hr (f.offset+j) (by simp at hj; omega)
    simpa using this
  ·cases h
 ·cases h
theorem part_ok {P:Program} {G:Gh} {w:World} {t:TypeId} {m:Option Nat} {cs:List PV} {vs:Array Value} {o:Nat} {z:PV} (hl:loadT P t=some m) (hs:vs.size=cs.length)
  (hr : ∀ j (h:j<cs.length),Rep G w (cs[j]) (vs.getD j Go.undef)) (h:loadC m (cs.drop o)=some z) : ∃ r,Yv P (part t vs o) r/\Rep G w z r:=by
 unfold loadT at hl
 unfold aggT at hl
 cases hu:P.underlying t with
 |none=>rw[hu] at hl; cases hl
 |some d =>
  rw[hu] at hl
  cases hi:P.info? t with
  |none =>
   exfalso
   unfold Program.underlying at hu
   rw[hi] at hu
   cases hu
  |some i =>
  have agg:loadT P t=some (some i.size)->(∀ w',(isAgg t).run P w' = .ok true w')->m=some i.size -> ∃ r,Yv P (part t vs o) r/\Rep G w z r:=by
   intro _ ha hm
   subst hm
   simp only[loadC] at h
   split at h
   ·rename_i hle
    cases h
    refine⟨.agg (vs.extract o (o+i.size)),fun w'=>by simp[part,ha,run_size hi],.agg ?_ ?_⟩
    ·simp only[List.length_drop] at hle
     simp[hs]; omega
    ·intro j hj
     simp only[List.length_drop] at hle
     simp only[List.length_take,List.length_drop] at hj
     have:=hr (o+j) (by omega)
     rw[Array.getD_eq_getD_getElem?] at this ⊢
     rw[Array.getElem?_extract]
     rw[if_pos (by omega)]
     simpa using this
   ·cases h
  have cell:(∀ w',(isAgg t).run P w' = .ok false w')->m=none -> ∃ r,Yv P (part t vs o) r/\Rep G w z r:=by
   intro ha hm
   subst hm
   simp only[loadC] at h
   have ho:o<cs.length:=by
    rcases Nat.lt_or_ge o cs.length with h'|h'
    ·exact h'
    ·rw[List.drop_eq_nil_of_le h'] at h; cases h
   have:=hr o ho
   rw[List.head?_drop,List.getElem?_eq_getElem ho] at h
   cases h
   have hv:vs[o]? = some (vs.getD o Go.undef):=by rw[Array.getD_eq_getD_getElem?,Array.getElem?_eq_getElem (by omega)]; rfl
   exact⟨_,fun w'=>by unfold part; rw[Sem.run_bind,ha]; simp only[Result.andThen_ok,Bool.false_eq_true,if_false]; rw[hv]; rfl,this⟩
  have hag : ∀ b,(match d with | .struct _=>true | .array _ _=>true|_=>false)=b -> ∀ w',(isAgg t).run P w' = .ok b w':=by
   intro b hb w'
   unfold isAgg
   rw[Sem.run_bind,run_und hu]
   subst hb
   cases d <;> rfl
  cases d with
  |struct fs=>simp only[hi,Option.map_some,Option.some.injEq] at hl; exact agg (by simp[loadT,aggT,hu,hi]) (hag true rfl) hl.symm
  |array n e=>simp only[hi,Option.map_some,Option.some.injEq] at hl; exact agg (by simp[loadT,aggT,hu,hi]) (hag true rfl) hl.symm
  |_=>simp only[Option.some.injEq] at hl; exact cell (hag false rfl) hl.symm
end Go.Proofs.YthjnlpfibakacaaGreatDoorPe
