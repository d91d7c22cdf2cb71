/- A part of the proof of this folder's statement; it has no condition of its own. -/
import Derived.Test.YthjnlpfibakacaaGreatDoorEcLim
import Derived.Attr
set_option linter.unusedVariables false
set_option linter.unusedSimpArgs false
namespace Go.Proofs.YthjnlpfibakacaaGreatDoorPe
open Go
def onB {α : Type} (o:Option PV) (x y:Option α):Option α :=
 match o with
 |some (.bool true)=>x
 |some (.bool false)=>y
 |_=>none
def onV {α : Type} (o:Option PV) (f:PV->Option α):Option α :=
 match o with
 |some a=>f a
 |none=>none
def onS {α : Type} (o:Option (PV × St)) (f:PV->St->Option α):Option α :=
 match o with
 |some (a,st)=>f a st
 |none=>none
def onF {α : Type} (o:Option (Fr × St)) (f:Fr->St->Option α):Option α :=
 match o with
 |some (a,st)=>f a st
 |none=>none
def onL {α : Type} (o:Option (List PV)) (f:List PV->Option α):Option α :=
 match o with
 |some a=>f a
 |none=>none
def gdB (b:Bool) (o:Option PV) (x:Option PV):Option PV :=
 match o with
 |some c=>match guardV b c with
  |some true=>x
  |some false=>some (.tuple [])
  |none=>none
 |none=>none
section
variable {α : Type}
@[go_sem] theorem onB_b {b : Bool} {x y : Option α} : onB (some (.bool b)) x y = if b = true then x else y := by cases b <;> rfl
@[go_sem high] theorem onB_and {a b : Bool} : onB (some (.bool a)) (some (PV.bool b)) (some (PV.bool false)) = some (PV.bool (a && b)) := by cases a <;> rfl
@[go_sem high] theorem onB_or {a b : Bool} : onB (some (.bool a)) (some (PV.bool true)) (some (PV.bool b)) = some (PV.bool (a || b)) := by cases a <;> rfl
@[go_sem high] theorem onB_t {x y : Option α} : onB (some (.bool true)) x y = x := rfl
@[go_sem high] theorem onB_f {x y : Option α} : onB (some (.bool false)) x y = y := rfl
@[go_sem] theorem onB_none {x y : Option α} : onB none x y = none := rfl
@[go_sem] theorem onB_ite {c : Prop} [Decidable c] {a b : Option PV} {x y : Option α} : onB (if c then a else b) x y = if c then onB a x y else onB b x y := by split <;> rfl
@[go_sem] theorem onV_some {a : PV} {f : PV -> Option α} : onV (some a) f = f a := rfl
@[go_sem] theorem onV_none {f : PV -> Option α} : onV none f = none := rfl
@[go_sem] theorem onV_ite {c : Prop} [Decidable c] {a b : Option PV} {f : PV -> Option α} : onV (if c then a else b) f = if c then onV a f else onV b f := by split <;> rfl
@[go_sem] theorem onS_some {a : PV} {st : St} {f : PV -> St -> Option α} : onS (some (a, st)) f = f a st := rfl
@[go_sem] theorem onS_none {f : PV -> St -> Option α} : onS none f = none := rfl
@[go_sem] theorem onS_ite {c : Prop} [Decidable c] {a b : Option (PV × St)} {f : PV -> St -> Option α} : onS (if c then a else b) f = if c then onS a f else onS b f := by split <;> rfl
@[go_sem] theorem onF_some {a : Fr} {st : St} {f : Fr -> St -> Option α} : onF (some (a, st)) f = f a st := rfl
@[go_sem] theorem onF_none {f : Fr -> St -> Option α} : onF none f = none := rfl
@[go_sem] theorem onF_ite {c : Prop} [Decidable c] {a b : Option (Fr × St)} {f : Fr -> St -> Option α} : onF (if c then a else b) f = if c then onF a f else onF b f := by split <;> rfl
@[go_sem] theorem onL_some {a : List PV} {f : List PV -> Option α} : onL (some a) f = f a := rfl
@[go_sem] theorem onL_none {f : List PV -> Option α} : onL none f = none := rfl
@[go_sem] theorem onL_ite {c : Prop} [Decidable c] {a b : Option (List PV)} {f : List PV -> Option α} : onL (if c then a else b) f = if c then onL a f else onL b f := by split <;> rfl
end
@[go_sem] theorem gdB_b {b c : Bool} {x : Option PV} : gdB b (some (.bool c)) x = if c = b then x else some (.tuple []) := by cases b <;> cases c <;> rfl
@[go_sem] theorem gdB_t {b : Bool} {x : Option PV} : gdB b (some (.tuple [])) x = some (.tuple []) := rfl
@[go_sem] theorem tupleOf_ite {c : Prop} [Decidable c] {a b : Option PV} : tupleOf (if c then a else b) = if c then tupleOf a else tupleOf b := by split <;> rfl
@[go_sem] theorem tupleOf_t {vs : List PV} : tupleOf (some (.tuple vs)) = some vs := rfl
@[go_sem] theorem tupleOf_none : tupleOf none = none := rfl
section
variable {cl:CallF} {fr:Fr} {st:St}
@[go_sem] theorem E_v {s : Nat} : evE cl fr (.v s) = some (fr.getD s .undef) := rfl
@[go_sem] theorem E_c {x : PV} : evE cl fr (.c x) = some x := rfl
@[go_sem] theorem E_nil : evE cl fr .nil = some (.tuple []) := rfl
@[go_sem] theorem E_gd {b : Bool} {g e : Exp} : evE cl fr (.gd b g e) = gdB b (evE cl fr g) (evE cl fr e) := by
 conv=>lhs; unfold evE
 rfl
@[go_sem] theorem E_pick {g a b : Exp} : evE cl fr (.pick g a b) = onB (evE cl fr g) (evE cl fr a) (evE cl fr b) := by
 conv=>lhs; unfold evE
 rfl
@[go_sem] theorem E_un {u : UOp} {x : Exp} : evE cl fr (.un u x) = onV (evE cl fr x) (unV u) := by
 conv=>lhs; unfold evE
 rfl
@[go_sem] theorem E_bi {b : BOp} {x y : Exp} : evE cl fr (.bi b x y) = onV (evE cl fr x) fun a => onV (evE cl fr y) fun c => biV b a c := by
 conv=>lhs; unfold evE
 rfl
@[go_sem] theorem E_ssub {l h : Bool} {x y z : Exp} : evE cl fr (.ssub l h x y z) = onV (evE cl fr x) fun a => onV (evE cl fr y) fun b => onV (evE cl fr z) fun c => ssubV a (optB l b) (optB h c) := by
 conv=>lhs; unfold evE
 rfl
@[go_sem] theorem E_lsub {n : Nat} {l h m : Bool} {x y z w : Exp} : evE cl fr (.lsub n l h m x y z w) = onV (evE cl fr x) fun a => onV (evE cl fr y) fun b => onV (evE cl fr z) fun c => onV (evE cl fr w) fun d => lsubV n a (optB l b) (optB h c) (optB m d) := by
 conv=>lhs; unfold evE
 rfl
@[go_sem] theorem E_cons {x xs : Exp} : evE cl fr (.cons x xs) = onV (evE cl fr x) fun a => onL (tupleOf (evE cl fr xs)) fun vs => some (.tuple (a :: vs)) := by
 conv=>lhs; unfold evE
 rfl
@[go_sem] theorem E_tup {k : TOp} {xs : Exp} : evE cl fr (.tup k xs) = onL (tupleOf (evE cl fr xs)) (tupV cl k) := by
 conv=>lhs; unfold evE
 rfl
@[go_sem] theorem F_box {n : Nat} {T : TypeId} {x : Exp} : evEff cl fr st (.box n T x) = onV (evE cl fr x) fun a => boxV n T a st := rfl
@[go_sem] theorem F_zbox {zs : List PV} {T : TypeId} : evEff cl fr st (.zbox zs T) = some (.ptr st.boxes.length 0, ⟨st.boxes ++ [zs], st.rows, st.bt ++ [T], st.rt⟩) := rfl
@[go_sem] theorem F_load {n : Option Nat} {x : Exp} : evEff cl fr st (.load n x) = onV (evE cl fr x) fun a => loadV n a st := rfl
@[go_sem] theorem F_store {n : Nat} {x y : Exp} : evEff cl fr st (.store n x y) = onV (evE cl fr x) fun a => onV (evE cl fr y) fun b => storeV n a b st := rfl
@[go_sem] theorem F_append {n b : Nat} {T : TypeId} {x y : Exp} : evEff cl fr st (.append n b T x y) = onV (evE cl fr x) fun a => onV (evE cl fr y) fun c => appendV n b T a c st := rfl
@[go_sem] theorem F_happend {n b : Nat} {T : TypeId} {x y : Exp} : evEff cl fr st (.happend n b T x y) = onV (evE cl fr x) fun a => onV (evE cl fr y) fun c => happendV n b a c st := rfl
@[go_sem] theorem F_pappend {n b : Nat} {T : TypeId} {x y v : Exp} : evEff cl fr st (.pappend n b T x y v) = onV (evE cl fr x) fun a => onV (evE cl fr y) fun c => onV (evE cl fr v) fun d => evPappend n b T a c d st := rfl
@[go_sem] theorem F_fill {n : Nat} {x y : Exp} : evEff cl fr st (.fill n x y) = onV (evE cl fr x) fun a => onV (evE cl fr y) fun c => (fillV a c).map (·, st) := rfl
@[go_sem] theorem F_bown {n len : Nat} {z : List PV} {a : List Nat} {xs : Exp} : evEff cl fr st (.bown n z len a xs) = onL (tupleOf (evE cl fr xs)) fun vs => bownV n z len a vs st := rfl
@[go_sem] theorem F_mark {x : Exp} : evEff cl fr st (.mark x) = onV (evE cl fr x) fun a => markV a st := rfl
@[go_sem] theorem F_touns {x : Exp} : evEff cl fr st (.touns x) = onV (evE cl fr x) fun a => tounsV a st := rfl
@[go_sem] theorem F_fromuns {n : Nat} {u : TypeId} {x : Exp} : evEff cl fr st (.fromuns n u x) = onV (evE cl fr x) fun a => fromunsV n u a st := rfl
@[go_sem] theorem F_ustr {T : TypeId} {x y : Exp} : evEff cl fr st (.ustr T x y) = onV (evE cl fr x) fun a => onV (evE cl fr y) fun c => ustrV T a c st := rfl
@[go_sem] theorem F_callo {f : FuncId} {xs : Exp} : evEff cl fr st (.callo f xs) = onL (tupleOf (evE cl fr xs)) fun vs => calloV cl f vs st := rfl
@[go_sem] theorem F_calls {r : List Bool} {f : FuncId} {xs : Exp} : evEff cl fr st (.calls r f xs) = onL (tupleOf (evE cl fr xs)) fun vs => callsV cl r f vs st := rfl
@[go_sem] theorem F_callv {x xs : Exp} : evEff cl fr st (.callv x xs) = onV (evE cl fr x) fun a => onL (tupleOf (evE cl fr xs)) fun vs => callvV cl a vs st := rfl
@[go_sem] theorem S_nil : evSets cl fr [] = some [] := rfl
def onR {α : Type} (o:Option (List (Nat × PV))) (f:List (Nat × PV)->Option α):Option α :=
 match o with
 |some a=>f a
 |none=>none
@[go_sem] theorem onR_some {α : Type} {a : List (Nat × PV)} {f : List (Nat × PV) -> Option α} : onR (some a) f = f a := rfl
@[go_sem] theorem onR_none {α : Type} {f : List (Nat × PV) -> Option α} : onR none f = none := rfl
@[go_sem] theorem onR_ite {α : Type} {c : Prop} [Decidable c] {a b : Option (List (Nat × PV))} {f : List (Nat × PV) -> Option α} : onR (if c then a else b) f = if c then onR a f else onR b f := by split <;> rfl
@[go_sem] theorem S_cons {s : Nat} {e : Exp} {l : List (Nat × Exp)} : evSets cl fr ((s, e) :: l) = onV (evE cl fr e) fun x => onR (evSets cl fr l) fun r => some ((s, x) :: r) := rfl
@[go_sem] theorem T_sets {l : List (Nat × Exp)} : evStmt cl (.sets l) fr st = onR (evSets cl fr l) fun r => some (putAll r fr, st) := rfl
@[go_sem] theorem T_eff {d : Option Nat} {op : EOp} : evStmt cl (.eff d none op) fr st = onS (evEff cl fr st op) fun x st' => some (putF d x fr, st') := rfl
def onG {α : Type} (b:Bool) (o:Option PV) (x y:Option α):Option α :=
 match o with
 |some c=>match guardV b c with
  |some true=>x
  |some false=>y
  |none=>none
 |none=>none
@[go_sem] theorem onG_b {α : Type} {b c : Bool} {x y : Option α} : onG b (some (.bool c)) x y = if c = b then x else y := by cases b <;> cases c <;> rfl
@[go_sem] theorem onG_t {α : Type} {b : Bool} {x y : Option α} : onG b (some (.tuple [])) x y = y := rfl
@[go_sem] theorem onG_ite {α : Type} {d : Bool} {c : Prop} [Decidable c] {a b : Option PV} {x y : Option α} : onG d (if c then a else b) x y = if c then onG d a x y else onG d b x y := by split <;> rfl
@[go_sem] theorem T_geff {d : Option Nat} {g : Exp} {b : Bool} {op : EOp} : evStmt cl (.eff d (some (g, b)) op) fr st = onG b (evE cl fr g) (onS (evEff cl fr st op) fun x st' => some (putF d x fr, st')) (some (putF d (.tuple []) fr, st)) := rfl
@[go_sem] theorem T_chk {e : Exp} : evStmt cl (.chk e) fr st = onV (evE cl fr e) fun _ => some (fr, st) := by
 simp only[evStmt,onV]
 cases evE cl fr e <;> rfl
@[go_sem] theorem Ts_nil : evStmts cl [] fr st = some (fr, st) := rfl
@[go_sem] theorem Ts_cons {s : EStmt} {l : List EStmt} : evStmts cl (s :: l) fr st = onF (evStmt cl s fr st) fun fr' st' => evStmts cl l fr' st' := rfl
@[go_sem] theorem R_1 {a : ERes} : evRets cl [a] fr st = evRes cl fr st a := by
 unfold evRets mapO
 cases evRes cl fr st a <;> rfl
@[go_sem] theorem R_2 {a b : ERes} : evRets cl [a, b] fr st = onV (evRes cl fr st a) fun x => onV (evRes cl fr st b) fun y => some (.tuple [x, y]) := by
 simp only[evRets,mapO,onV]
 cases evRes cl fr st a with
 |none=>rfl
 |some x=>cases evRes cl fr st b <;> rfl
@[go_sem] theorem R_3 {a b c : ERes} : evRets cl [a, b, c] fr st = onV (evRes cl fr st a) fun x => onV (evRes cl fr st b) fun y => onV (evRes cl fr st c) fun z => some (.tuple [x, y, z]) := by
 simp only[evRets,mapO,onV]
 cases evRes cl fr st a with
 |none=>rfl
 |some x=>cases evRes cl fr st b with
  |none=>rfl
  |some y=>cases evRes cl fr st c <;> rfl
@[go_sem] theorem R_0 : evRets cl [] fr st = some (.tuple []) := rfl
@[go_sem] theorem R_e {x : Exp} : evRes cl fr st (.e x) = evE cl fr x := rfl
variable {α : Type} {K:EX->Fr->St->Option α}
@[go_sem] theorem X_st {l : List EStmt} : runE cl (.st l) fr st K = onF (evStmts cl l fr st) fun fr' st' => K .normal fr' st' := by rw [runE_st]; rfl
@[go_sem] theorem X_cond {e : Exp} {a b : EC} : runE cl (.cond e a b) fr st K = onB (evE cl fr e) (runE cl a fr st K) (runE cl b fr st K) := by rw [runE_cond]; rfl
@[go_sem] theorem X_choose {m : List Bool} {T : TypeId} {a b : EC} : runE cl (.choose m T a b) fr st K = bothK K (bothE m (runE cl a fr (St.pick T st) idK) (runE cl b fr (St.pick T st) idK)) := runE_choose
@[go_sem] theorem X_ret {rs : List ERes} : runE cl (.ret rs) fr st K = onV (evRets cl rs fr st) fun v => K (.ret v) [] st := by rw [runE_ret]; rfl
attribute [go_sem] runE_seq runE_block runE_exit runE_skip runE_loop
@[go_sem] theorem seqK_n {k : Fr -> St -> Option α} : seqK k K .normal fr st = k fr st := rfl
@[go_sem] theorem seqK_e {k : Fr -> St -> Option α} {i : Nat} : seqK k K (.exit i) fr st = K (.exit i) fr st := rfl
@[go_sem] theorem seqK_r {k : Fr -> St -> Option α} {v : PV} : seqK k K (.ret v) fr st = K (.ret v) fr st := rfl
@[go_sem] theorem blockK_n {id : Nat} : blockK id K .normal fr st = K .normal fr st := rfl
@[go_sem] theorem blockK_e {id i : Nat} : blockK id K (.exit i) fr st = if i = id then K .normal fr st else K (.exit i) fr st := rfl
@[go_sem] theorem blockK_r {id : Nat} {v : PV} : blockK id K (.ret v) fr st = K (.ret v) fr st := rfl
@[go_sem] theorem retK_r {v : PV} : retK (.ret v) fr st = some (v, st) := rfl
@[go_sem] theorem retK_n : retK .normal fr st = none := rfl
@[go_sem] theorem retK_e {i : Nat} : retK (.exit i) fr st = none := rfl
end
section
variable {k:IntKind} {a b:Int}
@[go_sem] theorem U_not {b : Bool} : unV .not (.bool b) = some (.bool (!b)) := rfl
@[go_sem] theorem U_conv {k' : IntKind} : unV (.conv k) (.int k' a) = some (.int k (k.wrap a)) := rfl
@[go_sem] theorem U_slen {s : List UInt8} : unV .slen (.str s) = some (.int .i64 s.length) := rfl
@[go_sem] theorem U_smov {s : List UInt8} : unV .smov (.str s) = some (.str s) := rfl
@[go_sem] theorem U_len {l : List PV} : unV .len (.lst l) = some (.int .i64 l.length) := rfl
@[go_sem] theorem U_lenf {l : List PV} : unV .len (.full l) = some (.int .i64 l.length) := rfl
@[go_sem] theorem U_leno {r : Nat} {l : List PV} : unV .len (.own r l) = some (.int .i64 l.length) := rfl
@[go_sem] theorem U_lenn : unV .len .nils = some (.int .i64 0) := rfl
@[go_sem] theorem U_lene : unV .len .emp = some (.int .i64 0) := rfl
@[go_sem] theorem U_iface {t : TypeId} {x : PV} : unV (.iface t) x = some (.iface t x) := rfl
@[go_sem] theorem U_ext {i : Nat} {vs : List PV} : unV (.ext i) (.tuple vs) = vs[i]? := rfl
@[go_sem] theorem U_field {n : Option Nat} {o : Nat} {cs : List PV} : unV (.field n o) (.agg cs) = loadC n (cs.drop o) := rfl
@[go_sem] theorem U_ld {n : Option Nat} {cs : List PV} : unV (.ld n) (.ref cs) = loadC n cs := rfl
@[go_sem] theorem U_off {o : Nat} {cs : List PV} : unV (.off o) (.ref cs) = if o <= cs.length then some (.ref (cs.drop o)) else none := rfl
@[go_sem] theorem U_offp {o b p : Nat} : unV (.off o) (.ptr b p) = some (.ptr b (p + o)) := rfl
@[go_sem] theorem U_nilp {b o : Nat} : unV .nilchk (.ptr b o) = some (.ptr b o) := rfl
@[go_sem] theorem U_nilr {cs : List PV} : unV .nilchk (.ref cs) = some (.ref cs) := rfl
@[go_sem] theorem U_nilf {f : FuncId} : unV .nilchk (.func f []) = some (.func f []) := rfl
@[go_sem] theorem B_add : biV (.bin .add) (.int k a) (.int k b) = some (.int k (k.wrap (a + b))) := by simp [biV, evBin]
@[go_sem] theorem B_sub : biV (.bin .sub) (.int k a) (.int k b) = some (.int k (k.wrap (a - b))) := by simp [biV, evBin]
@[go_sem] theorem B_mul : biV (.bin .mul) (.int k a) (.int k b) = some (.int k (k.wrap (a * b))) := by simp [biV, evBin]
@[go_sem] theorem B_quo : biV (.bin .quo) (.int k a) (.int k b) = if b = 0 then none else some (.int k (k.wrap (a.tdiv b))) := by simp [biV, evBin]
@[go_sem] theorem B_rem : biV (.bin .rem) (.int k a) (.int k b) = if b = 0 then none else some (.int k (a.tmod b)) := by simp [biV, evBin]
@[go_sem] theorem B_eql : biV (.bin .eql) (.int k a) (.int k b) = some (.bool (decide (a = b))) := by simp [biV, evBin]
@[go_sem] theorem B_neq : biV (.bin .neq) (.int k a) (.int k b) = some (.bool (decide (a ≠ b))) := by simp [biV, evBin]
@[go_sem] theorem B_lss : biV (.bin .lss) (.int k a) (.int k b) = some (.bool (decide (a < b))) := by simp [biV, evBin]
@[go_sem] theorem B_leq : biV (.bin .leq) (.int k a) (.int k b) = some (.bool (decide (a <= b))) := by simp [biV, evBin]
@[go_sem] theorem B_gtr : biV (.bin .gtr) (.int k a) (.int k b) = some (.bool (decide (a > b))) := by simp [biV, evBin]
@[go_sem] theorem B_geq : biV (.bin .geq) (.int k a) (.int k b) = some (.bool (decide (a >= b))) := by simp [biV, evBin]
@[go_sem] theorem B_and : biV (.bin .and) (.int k a) (.int k b) = evBits .and k a b := by simp [biV, evBin]
@[go_sem] theorem B_or : biV (.bin .or) (.int k a) (.int k b) = evBits .or k a b := by simp [biV, evBin]
@[go_sem] theorem B_xor : biV (.bin .xor) (.int k a) (.int k b) = evBits .xor k a b := by simp [biV, evBin]
@[go_sem] theorem B_shl {k' : IntKind} : biV (.bin .shl) (.int k a) (.int k' b) = evShift .shl k a b := by
 simp only[biV,evBin]; split <;> rfl
@[go_sem] theorem B_shr {k' : IntKind} : biV (.bin .shr) (.int k a) (.int k' b) = evShift .shr k a b := by
 simp only[biV,evBin]; split <;> rfl
@[go_sem] theorem B_sadd {s t : List UInt8} : biV (.bin .add) (.str s) (.str t) = if s.length + t.length <= 4611686018427387904 then some (.str (s ++ t)) else none := rfl
@[go_sem] theorem B_seql {s t : List UInt8} : biV (.bin .eql) (.str s) (.str t) = some (.bool (decide (s = t))) := rfl
@[go_sem] theorem B_sneq {s t : List UInt8} : biV (.bin .neq) (.str s) (.str t) = some (.bool (decide (s ≠ t))) := rfl
@[go_sem] theorem B_slss {s t : List UInt8} : biV (.bin .lss) (.str s) (.str t) = some (.bool (Op.bytesLess s t)) := rfl
@[go_sem] theorem B_sgtr {s t : List UInt8} : biV (.bin .gtr) (.str s) (.str t) = some (.bool (!(Op.bytesLess s t || decide (s = t)))) := rfl
@[go_sem] theorem B_bool {n : Bool} {x y : Bool} : biV (.eqs 0 n) (.bool x) (.bool y) = some (.bool (if n then !(x == y) else x == y)) := rfl
@[go_sem] theorem B_nili {n : Bool} : biV (.eqs 1 n) .nili .nili = some (.bool (if n then !true else true)) := rfl
@[go_sem] theorem B_nili1 {n : Bool} {t : TypeId} {x : PV} : biV (.eqs 1 n) (.iface t x) .nili = some (.bool (if n then !false else false)) := rfl
@[go_sem] theorem B_nili2 {n : Bool} {t : TypeId} {x : PV} : biV (.eqs 1 n) .nili (.iface t x) = some (.bool (if n then !false else false)) := rfl
@[go_sem] theorem B_idx {n : Nat} {l : List PV} {i : Int} {k : IntKind} : biV (.idx n) (.lst l) (.int k i) = evIdx n l i := rfl
@[go_sem] theorem B_idxf {n : Nat} {l : List PV} {i : Int} {k : IntKind} : biV (.idx n) (.full l) (.int k i) = evIdx n l i := rfl
@[go_sem] theorem B_idxo {n r : Nat} {l : List PV} {i : Int} {k : IntKind} : biV (.idx n) (.own r l) (.int k i) = evIdx n l i := rfl
end
@[go_sem] theorem V_ext0 {x : PV} {xs : List PV} : (x :: xs)[0]? = some x := rfl
@[go_sem] theorem argF_0 : argF 0 = shutA shutN := rfl
@[go_sem] theorem argF_1 : argF 1 = shutA shutN := rfl
@[go_sem] theorem argF_3 : argF 3 = shutK := rfl
theorem V_call {cl:CallF} {m:Nat} {f:FuncId} {vs:List PV}:tupV cl (.call m f) vs=onL (mapO (argF m) vs) fun as=>onS (cl f as ⟨[],[],[],[]⟩) fun r st=>shutR (m % 2==1) st shutN r:=rfl
@[go_sem] theorem V_build {cl : CallF} {zs : List PV} {a : List (Nat × Nat)} {vs : List PV} : tupV cl (.build zs a) vs = (fillP zs (zip3 a vs)).map .agg := rfl
@[go_sem] theorem V_mkfn {cl : CallF} {f : FuncId} {vs : List PV} : tupV cl (.mkfn f) vs = some (.func f vs) := rfl
@[go_sem] theorem V_bslice {cl : CallF} {n : Nat} {z : List PV} {len : Nat} {a : List Nat} {vs : List PV} : tupV cl (.bslice n z len a) vs = onL (mapO (shutA shutN) vs) fun ws => (setAt n (toElems n z len) (a.zip ws)).map fun l => if len = 0 then .emp else .full l := rfl
@[go_sem] theorem M_cons {α β : Type} {f : α -> Option β} {a : α} {l : List α} : mapO f (a :: l) = match f a with
  |some b=>(mapO f l).map (b :: ·)
  |none=>none:=by
 conv=>lhs; unfold mapO
 cases f a with
 |none=>rfl
 |some b=>cases mapO f l <;> rfl
@[go_sem] theorem M_nil {α β : Type} {f : α -> Option β} : mapO f [] = some [] := rfl
theorem box_lt {b:Nat} {cs:List PV} {l:List (List PV)} (hb:l[b]? = some cs):b<l.length:=(List.getElem?_eq_some_iff.1 hb).1
theorem sidx_at {s:List UInt8} {n:Nat} {c:UInt8} {k:IntKind} (h:s[n]? = some c):biV .sidx (.str s) (.int k (n:Int))=some (.int .u8 c.toNat):=by
 simp only[biV,sidxV,Int.natCast_nonneg,if_true,Int.toNat_natCast,h]
theorem V_bs1 {cl:CallF} {n:Nat} {z:List PV} {x y:PV} (h:shutA shutN x=some y) (h1:y.cells.length=n) (h2:y.cells.all PV.isCell=true):tupV cl (.bslice n z 1 [0]) [x]=some (.full [y]):=by
 simp only[tupV,mapO,h,List.zip_cons_cons,List.zip_nil_left,setAt,toElems,List.replicate,h1,List.length_cons,List.length_nil]
 simp[h2]
@[go_sem high] theorem V_bsi {cl : CallF} {z : List PV} {k : IntKind} {v : Int} : tupV cl (.bslice 1 z 1 [0]) [.int k v] = some (.full [.int k v]) := V_bs1 rfl rfl rfl
@[go_sem] theorem U_tostr1 {v : Int} : unV .tostr (.full [.int .u8 v]) = some (.str [UInt8.ofNat v.toNat]) := rfl
theorem callV_of {cl:CallF} {m:Nat} {f:FuncId} {vs as:List PV} {r r':PV} {st:St} (h1:mapO (argF m) vs=some as) (h2:cl f as ⟨[],[],[],[]⟩=some (r,st)) (h3:shutR (m % 2==1) st shutN r=some r'):tupV cl (.call m f) vs=some r':=by
 simp only[tupV,callV,h1,h2,h3]
attribute [go_sem] true_and and_true and_false false_and true_or or_true false_or or_false not_true_eq_false not_false_eq_true Nat.le_refl Nat.reduceLeDiff Nat.lt_irrefl
attribute [go_sem] putAll putF startE List.getD_cons_zero List.getD_cons_succ List.set_cons_zero List.set_cons_succ List.length_cons List.length_nil List.replicate List.cons_append List.nil_append List.append_nil
 Nat.reduceAdd Nat.reduceSub Nat.reduceEqDiff Nat.zero_add decide_eq_true_eq Bool.and_eq_true Bool.or_eq_true Bool.not_eq_true' Bool.not_eq_false' Bool.false_eq_true Bool.true_eq_false if_true if_false ite_self decide_true decide_false mask List.map_cons List.map_nil reduceIte beq_self_eq_true
 loadC List.head?_cons List.take_zero List.take_succ_cons PV.cells PV.isCell List.all_cons List.all_nil Bool.and_true List.singleton_append List.drop_nil List.take_nil
 List.getElem?_cons_zero List.getElem?_cons_succ List.drop_zero List.drop_succ_cons optB shutA shutN shutR Option.map_some Option.map_none
end Go.Proofs.YthjnlpfibakacaaGreatDoorPe
