/- A part of the proof of this folder's statement; it has no condition of its own. -/
import Derived.Test.YthjnlpfibakacaaGreatDoorEcWp
set_option linter.unusedVariables false
namespace Go.Proofs.YthjnlpfibakacaaGreatDoorPe
open Go
variable {cl:CallF} {st:St} {f:FuncId}
@[go_sem] theorem C_calls {r : List Bool} {vs : List PV} : callsV cl r f vs st = onL (shutS r vs) fun as => cl f as st := by
 unfold callsV onL
 cases shutS r vs <;> rfl
@[go_sem] theorem H_nil {r : List Bool} : shutS r [] = some [] := by cases r <;> rfl
@[go_sem] theorem H_all {x : PV} {xs : List PV} : shutS [] (x :: xs) = some (x :: xs) := rfl
@[go_sem] theorem H_true {r : List Bool} {x : PV} {xs : List PV} : shutS (true :: r) (x :: xs) = onL (shutS r xs) fun ys => some (x :: ys) := by
 show (match shutS r xs with
  |some ys=>some (x::ys)
  |none=>none)=_
 unfold onL
 cases shutS r xs <;> rfl
@[go_sem] theorem H_false {r : List Bool} {x : PV} {xs : List PV} : shutS (false :: r) (x :: xs) = onV (shutA shutN x) fun y => onL (shutS r xs) fun ys => some (y :: ys) := by
 show (match shutA shutN x,shutS r xs with
  |some y,some ys=>some (y::ys)
  |_,_=>none)=_
 unfold onL onV
 cases shutA shutN x <;> cases shutS r xs <;> rfl
@[go_sem] theorem beq01 : ((0 : Nat) == 1) = false := rfl
@[go_sem] theorem M_box {n : Nat} {T : TypeId} {x : PV} : boxV n T x st = if x.cells.length = n then some (.ptr st.boxes.length 0, ⟨st.boxes ++ [x.cells], st.rows, st.bt ++ [T], st.rt⟩) else none := rfl
@[go_sem] theorem M_load {n : Option Nat} {b o : Nat} : loadV n (.ptr b o) st = onL (st.boxes[b]?) fun cs => onV (loadC n (cs.drop o)) fun v => some (v, st) := by
 unfold loadV onL onV
 simp only
 cases st.boxes[b]? with
 |none=>rfl
 |some cs=>simp only; cases loadC n (cs.drop o) <;> rfl
@[go_sem] theorem M_store {n b o : Nat} {y : PV} : storeV n (.ptr b o) y st = onL (st.boxes[b]?) fun cs => if y.cells.length = n /\ o + n <= cs.length /\ y.cells.all PV.isCell then
    some (.tuple [],⟨st.boxes.set b (cs.take o++(y.cells++cs.drop (o+n))),st.rows,st.bt,st.rt⟩) else none:=by
 unfold storeV onL
 simp only
 cases st.boxes[b]? <;> rfl
def takeO (st st':St) (r:PV):Option (PV × St) :=
 match r with
 |.own q l=>match st'.rows[q]?,st'.rt[q]? with
  |some (m,n),some T=>if m=l.length then some (.own st.rows.length l,⟨st.boxes,st.rows++[(m,n)],st.bt,st.rt++[T]⟩) else none
  |_,_=>none
 |r=>(shutR true st' shutN r).map (·,st)
@[go_sem] theorem M_callo {vs : List PV} : calloV cl f vs st = onL (mapO (shutA shutN) vs) fun as => onS (cl f as ⟨[], [], [], []⟩) fun r st' => takeO st st' r := by
 unfold calloV onL onS takeO
 cases mapO (shutA shutN) vs with
 |none=>rfl
 |some as =>
  simp only
  cases cl f as ⟨[],[],[],[]⟩ <;> rfl
@[go_sem] theorem T_lst {st' : St} {l : List PV} : takeO st st' (.lst l) = some (.lst l, st) := rfl
@[go_sem] theorem T_full {st' : St} {l : List PV} : takeO st st' (.full l) = some (.full l, st) := rfl
@[go_sem] theorem M_append {n b : Nat} {T : TypeId} {x y : PV} : appendV n b T x y st = onL (elemsOf y.nm) fun es => evAppend n b T (if es.isEmpty = true then x else x.nm) es st := by
 unfold appendV onL
 cases elemsOf y.nm <;> rfl
@[go_sem] theorem n_nils : PV.nm .nils = .full [] := rfl
@[go_sem] theorem n_emp : PV.nm .emp = .full [] := rfl
@[go_sem] theorem n_emc : PV.nm .emc = .lst [] := rfl
@[go_sem] theorem n_lst {l : List PV} : PV.nm (.lst l) = .lst l := rfl
@[go_sem] theorem n_full {l : List PV} : PV.nm (.full l) = .full l := rfl
@[go_sem] theorem n_own {r : Nat} {l : List PV} : PV.nm (.own r l) = .own r l := rfl
@[go_sem] theorem n_str {s : List UInt8} : PV.nm (.str s) = .str s := rfl
@[go_sem] theorem e_lst {l : List PV} : elemsOf (.lst l) = some l := rfl
@[go_sem] theorem e_full {l : List PV} : elemsOf (.full l) = some l := rfl
@[go_sem] theorem e_own {r : Nat} {l : List PV} : elemsOf (.own r l) = some l := rfl
@[go_sem] theorem e_str {s : List UInt8} : elemsOf (.str s) = some (s.map fun b => .int .u8 b.toNat) := rfl
@[go_sem] theorem setAt1 {n : Nat} {z : List PV} {y : PV} : setAt n (toElems n z 1) ([0].zip [y]) = if y.cells.length = n /\ y.cells.all PV.isCell = true then some [y] else none := by
 simp[setAt,toElems]
attribute [go_sem] List.isEmpty_cons List.isEmpty_nil
@[go_sem] theorem A_full {n b : Nat} {T : TypeId} {l : List PV} {e : PV} {es : List PV} : evAppend n b T (.full l) (e :: es) st = if szAll n (e :: es) then (if (l.length + (e :: es).length) * (b + 1) <= 70368744177664 /\ szAll n l = true then
     some (.own st.rows.length (l++e::es),⟨st.boxes,st.rows++[(l.length+(e::es).length,n)],st.bt,st.rt++[T]⟩) else none) else none:=rfl
@[go_sem] theorem A_own {n b r : Nat} {T : TypeId} {l : List PV} {e : PV} {es : List PV} : evAppend n b T (.own r l) (e :: es) st = if szAll n (e :: es) then (if (l.length + (e :: es).length) * (b + 1) <= 70368744177664 /\ st.rows[r]? = some (l.length, n) /\ st.rt[r]? = some T then
     some (.own r (l++e::es),⟨st.boxes,st.rows.set r (l.length+(e::es).length,n),st.bt,st.rt⟩) else none) else none:=rfl
@[go_sem] theorem M_touns {b o : Nat} : tounsV (.ptr b o) st = onL (st.boxes[b]?) fun cs => if o < cs.length then some (.ptr b o, st) else none := by
 unfold tounsV onL
 simp only
 cases st.boxes[b]? <;> rfl
@[go_sem] theorem S_nils : unV .sdata .nils = some .nilp := rfl
@[go_sem] theorem S_own {r : Nat} {x : PV} {l : List PV} : unV .sdata (.own r (x :: l)) = some (.rptr r (x :: l)) := rfl
@[go_sem] theorem M_ustr0 {T : TypeId} : ustrV T .nilp (.int .i64 0) st = some (.str [], st) := rfl
@[go_sem] theorem B_pn {n : Bool} : biV (.eqs 2 n) .nilp .nilp = some (.bool (if n then !true else true)) := rfl
@[go_sem] theorem B_ppn {n : Bool} {b o : Nat} : biV (.eqs 2 n) (.ptr b o) .nilp = some (.bool (if n then !false else false)) := rfl
@[go_sem] theorem B_npp {n : Bool} {b o : Nat} : biV (.eqs 2 n) .nilp (.ptr b o) = some (.bool (if n then !false else false)) := rfl
@[go_sem] theorem B_prn {n : Bool} {l : List PV} : biV (.eqs 2 n) (.ref l) .nilp = some (.bool (if n then !false else false)) := rfl
@[go_sem] theorem B_pp {n : Bool} {b o : Nat} : biV (.eqs 2 n) (.ptr b o) (.ptr b o) = some (.bool (if n then !true else true)) := by simp [biV, eqsV, evEq]
attribute [go_sem] Nat.reduceLT Int.reduceLT Int.reduceLE Int.reduceEq Int.reduceAdd Int.reduceSub Int.reduceNeg Nat.zero_lt_succ Bool.not_true Bool.not_false
@[go_sem] theorem V_apart {cl : CallF} {w : PV} {l : List PV} : tupV cl .apart (w :: l) = if apartV w l = true then some (.tuple []) else none := rfl
@[go_sem] theorem ofBox_p {b c o : Nat} : ofBox b (.ptr c o) = (c == b) := rfl
@[go_sem] theorem ofBox_r {b : Nat} {l : List PV} : ofBox b (.ref l) = false := rfl
@[go_sem] theorem apartV_p {b o : Nat} {l : List PV} : apartV (.ptr b o) l = l.all fun v => !ofBox b v := rfl
attribute [go_sem] Nat.reduceBEq
def cellV (n:Option Nat) (a:PV) (st:St):Option PV :=
 match a with
 |.ptr b o=>match st.boxes[b]? with
  |some cs=>loadC n (cs.drop o)
  |none=>none
 |_=>none
@[go_sem] theorem R_cell {cl : CallF} {fr : Fr} {st : St} {x : Exp} {n : Option Nat} : evRes cl fr st (.cell x n) = onV (evE cl fr x) fun a => cellV n a st := by
 show (match evE cl fr x with
  |some (.ptr b o)=>match st.boxes[b]? with
   |some cs=>loadC n (cs.drop o)
   |none=>none
  |_=>none)=_
 unfold onV cellV
 cases evE cl fr x with
 |none=>rfl
 |some a=>cases a <;> rfl
@[go_sem] theorem R_ptr {n : Option Nat} {b o : Nat} {st : St} : cellV n (.ptr b o) st = onL (st.boxes[b]?) fun cs => loadC n (cs.drop o) := by
 show (match st.boxes[b]? with
   |some cs=>loadC n (cs.drop o)
   |none=>none)=_
 unfold onL
 cases st.boxes[b]? <;> rfl
def trueO:Option (PV × St)->Bool
 |some (.bool b,_)=>b
 |_=>false
theorem trueO_some {r:Option (PV × St)} (h:trueO r=true) : ∃ st',r=some (.bool true,st'):=by
 unfold trueO at h
 split at h
 ·rename_i b st; cases h; exact⟨st,rfl⟩
 ·cases h
theorem run_t {efns:FuncId->Option EFunc} {given:FuncId->List PV->Option PV} {k:Nat} {f:FuncId} (h:trueO (evFE efns given k f [] ⟨[],[],[],[]⟩)=true):tupV (callE efns given) (.call 0 f) []=some (.bool true):=by
 obtain⟨st,h⟩:=trueO_some h
 exact callV_of rfl ((callE_some efns given).2 ⟨k,h⟩) rfl
end Go.Proofs.YthjnlpfibakacaaGreatDoorPe
