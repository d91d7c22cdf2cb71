/- val, ref3: what their functions come to. -/
import Derived.Test.YtpohgiinajfepaaDoorLexBld
import Derived.Test.YtpohgiinajfepaaDoorLexRef1
set_option linter.unusedVariables false
set_option linter.unusedSimpArgs false
set_option maxRecDepth 100000
namespace Go.Proofs.YtpohgiinajfepaaDoorPe.Lex
open Go Go.Proofs.YtpohgiinajfepaaDoorPe Go.Proofs.YtpohgiinajfepaaDoorPe.LexCode
attribute [local go_sem] V_bslice

/-- A value. -/
structure Vl where
  k : Int
  i : Int
  s : List UInt8
  deriving DecidableEq

def Vl.p (v : Vl) : PV := .agg [.int .i64 v.k, .int .i64 v.i, .str v.s]

/-- The first that is not nought. -/
def orM : List Int → Int
  | [] => 0
  | x :: l => if x = 0 then orM l else x

def cmpI (a b : Int) : Int := if a < b then -1 else if a > b then 1 else 0
def cmpS (a b : List UInt8) : Int := if Op.bytesLess a b = true then -1 else if a = b then 0 else 1
def ints (l : List Int) : List PV := l.map (.int .i64)

theorem idx_at {n : Nat} {l : List PV} {i : Nat} {e : PV} (h : l[i]? = some e) (hn : e.cells.length = n) : evIdx n l (i : Int) = some (.ref e.cells) := by
  unfold evIdx
  rw [if_pos (Int.natCast_nonneg i), Int.toNat_natCast, h]
  simp only [hn, if_true]

section
variable (given : FuncId → List PV → Option PV)

/-- The order of values. -/
def cmpV (v w : Vl) : Int := orM [cmpI v.k w.k, cmpI v.i w.i, cmpS v.s w.s]

theorem ofSym_ok {s : List UInt8} : ∃ st, callE efns given f_val_OfSym [.str s] ⟨[], [], [], []⟩ = some (Vl.p ⟨2, 0, s⟩, st) := by
  refine ⟨?_, ?_⟩
  rotate_left
  · rw [callE_fn efns given (c := e_val_OfSym) rfl rfl]
    simp only [e_val_OfSym, go_sem, zip3, fillP]
    rfl

theorem ofSym_t {s : List UInt8} : tupV (callE efns given) (.call 0 f_val_OfSym) [.str s] = some (Vl.p ⟨2, 0, s⟩) := by
  obtain ⟨st, h⟩ := ofSym_ok given
  exact callV_of rfl h rfl

def boolV (b : Bool) : Vl := ⟨2, 0, if b then [84, 82, 85, 69] else [70, 65, 76, 83, 69]⟩

end
end Go.Proofs.YtpohgiinajfepaaDoorPe.Lex
