/- A part of the proof of this folder's statement; it has no condition of its own. -/
import Derived.Test.YtnlknpeelpnbaaaGreatDoorReadBld
import Derived.Test.YtnlknpeelpnbaaaGreatDoorReadNum
import Derived.Test.YtnlknpeelpnbaaaGreatDoorReadGivt
set_option linter.unusedVariables false
set_option linter.unusedSimpArgs false
set_option maxRecDepth 100000
namespace Go.Proofs.YtnlknpeelpnbaaaGreatDoorPe.Read
open Go Go.Proofs.YtnlknpeelpnbaaaGreatDoorPe Go.Proofs.YtnlknpeelpnbaaaGreatDoorPe.ReadCode
structure Vl where
 k : Int
 i : Int
 s : List UInt8
 deriving DecidableEq
def Vl.p (v : Vl) : PV := .agg [.int .i64 v.k, .int .i64 v.i, .str v.s]
def cmpI (a b : Int) : Int := if a < b then -1 else if a > b then 1 else 0
theorem idx_at {n : Nat} {l : List PV} {i : Nat} {e : PV} (h : l[i]? = some e) (hn : e.cells.length = n) : evIdx n l (i : Int) = some (.ref e.cells) := by
 unfold evIdx
 rw [if_pos (Int.natCast_nonneg i), Int.toNat_natCast, h]
 simp only [hn, if_true]
section
variable (given : FuncId -> List PV -> Option PV)
end
end Go.Proofs.YtnlknpeelpnbaaaGreatDoorPe.Read
set_option linter.unusedVariables false
set_option linter.unusedSimpArgs false
set_option maxRecDepth 1000000
namespace Go.Proofs.YtnlknpeelpnbaaaGreatDoorPe.Read
open Go Go.Proofs.YtnlknpeelpnbaaaGreatDoorPe Go.Proofs.YtnlknpeelpnbaaaGreatDoorPe.ReadCode
def lex (p r : Int) : Int := if p = 0 then r else p
def c3 : List UInt8 -> List UInt8 -> Int
 | [], [] => 0
 | [], _ :: _ => -1
 | _ :: _, [] => 1
 | a :: x, b :: y => lex (cmpI a.toNat b.toNat) (c3 x y)
def Vl.cells' (v : Vl) : List PV := [.int .i64 v.k, .int .i64 v.i, .str v.s]
end Go.Proofs.YtnlknpeelpnbaaaGreatDoorPe.Read
set_option linter.unusedVariables false
set_option linter.unusedSimpArgs false
set_option maxRecDepth 1000000
namespace Go.Proofs.YtnlknpeelpnbaaaGreatDoorPe.Read
open Go Go.Proofs.YtnlknpeelpnbaaaGreatDoorPe Go.Proofs.YtnlknpeelpnbaaaGreatDoorPe.ReadCode
def esc (c : UInt8) : List UInt8 := if c = 34 \/ c = 92 then [92, c] else [c]
def escs (s : List UInt8) : List UInt8 := s.flatMap esc
def quote (s : List UInt8) : List UInt8 := 34 :: (escs s ++ [34])
theorem esc_len (c : UInt8) : 1 <= (esc c).length /\ (esc c).length <= 2 := by unfold esc; split <;> simp
theorem escs_len : ∀ s : List UInt8, s.length <= (escs s).length /\ (escs s).length <= 2 * s.length
 | [] => by simp [escs]
 | c :: s => by
  have h1 := esc_len c
  have h2 := escs_len s
  unfold escs at h2 ⊢
  simp only [List.flatMap_cons, List.length_append, List.length_cons]
  omega
theorem code_eq {c : UInt8} {n : Nat} (hn : n < 256) : ((c.toNat : Int) = (n : Int)) = (c = UInt8.ofNat n) := toNat_eq hn
theorem drop_at {s : List UInt8} {n : Nat} {c : UInt8} (hc : s[n]? = some c) : s.drop n = c :: s.drop (n + 1) := by
 obtain ⟨hlt, rfl⟩ := List.getElem?_eq_some_iff.1 hc
 rw [List.drop_eq_getElem_cons hlt]
theorem quote_loop {s : List UInt8} (hs : s.length <= 100000) {K : EX -> Fr -> St -> Option (PV × St)} : ∀ (d n : Nat) (acc : List UInt8) (st : St), s.length - n = d -> n <= s.length -> acc.length <= 2 * n + 1 -> Bld 0 acc st ->
  ∃ st', Bld 0 (acc ++ escs (s.drop n)) st' /\ runL (callE efns given) [true, true, false, true, true, false, false] b_val_Quote_0 [.str s, .ptr 0 0, .undef, .int .i64 s.length, .int .i64 n, .undef, .undef] st K =
   K (.exit 0) [.str s, .ptr 0 0, .undef, .int .i64 s.length, .int .i64 s.length, .undef, .undef] st' := by
 intro d
 induction d with
 | zero =>
  intro n acc st hd hn ha hb
  have : n = s.length := by omega
  subst this
  refine ⟨st, by rw [List.drop_length]; simpa [escs] using hb, ?_⟩
  rw [runL_eq]
  generalize runL _ _ b_val_Quote_0 = L
  simp only [b_val_Quote_0, go_sem, Int.lt_irrefl, if_false]
 | succ d ih =>
  intro n acc st hd hn ha hb
  have hlt : n < s.length := by omega
  obtain ⟨c, hc⟩ : ∃ c, s[n]? = some c := ⟨s[n], List.getElem?_eq_getElem hlt⟩
  have hdr := drop_at hc
  have w1 : IntKind.i64.wrap ((n : Int) + 1) = ((n + 1 : Nat) : Int) := by rw [IntWalk.i64_in _ (by omega)]; omega
  have c1 : (n : Int) < (s.length : Int) := by omega
  have e1 : ((c.toNat : Int) = 34) = (c = 34) := code_eq (n := 34) (by decide)
  have e2 : ((c.toNat : Int) = 92) = (c = 92) := code_eq (n := 92) (by decide)
  have plain : c ≠ 34 -> c ≠ 92 -> ∃ st', Bld 0 (acc ++ escs (s.drop n)) st' /\ runL (callE efns given) [true, true, false, true, true, false, false] b_val_Quote_0 [.str s, .ptr 0 0, .undef, .int .i64 s.length, .int .i64 n, .undef, .undef] st K =
   K (.exit 0) [.str s, .ptr 0 0, .undef, .int .i64 s.length, .int .i64 s.length, .undef, .undef] st' := by
   intro h1 h2
   obtain ⟨st1, r1, b1, _⟩ := wbyte_ok given (c := c) hb (by omega)
   obtain ⟨st', b', hr⟩ := ih (n + 1) (acc ++ [c]) st1 (by omega) (by omega) (by simp; omega) b1
   refine ⟨st', ?_, ?_⟩
   ·rw [hdr]
    simpa [escs, esc, h1, h2] using b'
   ·rw [runL_eq]
    generalize runL _ _ b_val_Quote_0 = L at hr ⊢
    simp only [b_val_Quote_0, go_sem, sidx_at hc, c1, w1, e1, e2, h1, h2, r1, hr]
  have marked : c = 34 \/ c = 92 -> ∃ st', Bld 0 (acc ++ escs (s.drop n)) st' /\ runL (callE efns given) [true, true, false, true, true, false, false] b_val_Quote_0 [.str s, .ptr 0 0, .undef, .int .i64 s.length, .int .i64 n, .undef, .undef] st K =
   K (.exit 0) [.str s, .ptr 0 0, .undef, .int .i64 s.length, .int .i64 s.length, .undef, .undef] st' := by
   intro h
   obtain ⟨st1, r1, b1, _⟩ := wbyte_ok given (c := 92) hb (by omega)
   obtain ⟨st2, r2, b2, _⟩ := wbyte_ok given (c := c) b1 (by simp; omega)
   have r1' : callE efns given f_strings_Builder_WriteByte [.ptr 0 0, .int .u8 92] st = some (.nili, st1) := r1
   obtain ⟨st', b', hr⟩ := ih (n + 1) (acc ++ [92] ++ [c]) st2 (by omega) (by omega) (by simp; omega) b2
   refine ⟨st', ?_, ?_⟩
   ·rw [hdr]
    have : esc c = [92, c] := by unfold esc; rw [if_pos h]
    simpa [escs, this] using b'
   ·rw [runL_eq]
    generalize runL _ _ b_val_Quote_0 = L at hr ⊢
    rcases h with h | h
    ·subst h
     have r2' : callE efns given f_strings_Builder_WriteByte [.ptr 0 0, .int .u8 (((34 : UInt8).toNat : Nat) : Int)] st1 = some (.nili, st2) := r2
     simp only [b_val_Quote_0, go_sem, sidx_at hc, c1, w1, e1, e2, r1', r2', hr]
    ·subst h
     have h34 : ¬ (92 : UInt8) = 34 := by decide
     have r2' : callE efns given f_strings_Builder_WriteByte [.ptr 0 0, .int .u8 (((92 : UInt8).toNat : Nat) : Int)] st1 = some (.nili, st2) := r2
     simp only [b_val_Quote_0, go_sem, sidx_at hc, c1, w1, e1, e2, h34, r1', r2', hr]
  by_cases h1 : c = 34
  ·exact marked (.inl h1)
  ·by_cases h2 : c = 92
   ·exact marked (.inr h2)
   ·exact plain h1 h2
theorem quote_t {s : List UInt8} (hs : s.length <= 100000) : tupV (callE efns given) (.call 0 f_val_Quote) [.str s] = some (.str (quote s)) := by
 have hq : (quote s).length <= 200002 := by
  have := escs_len s
  simp [quote]; omega
 obtain ⟨st1, r1, b1, _⟩ := wbyte_ok given (c := 34) (Bld.new ⟨[], [], [], []⟩ rfl rfl) (by simp)
 have r1' : callE efns given f_strings_Builder_WriteByte [.ptr 0 0, .int .u8 34] ⟨[[.nilp, .nils]], [], [T_bld], []⟩ = some (.nili, st1) := r1
 have key : ∃ st', callE efns given f_val_Quote [.str s] ⟨[], [], [], []⟩ = some (.str (quote s), st') := by
  rw [callE_fn efns given (c := e_val_Quote) rfl rfl]
  simp only [e_val_Quote, go_sem, r1']
  generalize hK : blockK 0 _ = K
  obtain ⟨st2, b2, hr⟩ := quote_loop hs (K := K) s.length 0 _ st1 rfl (by omega) (by simp) b1
  rw [List.drop_zero] at b2
  obtain ⟨st3, r3, b3, _⟩ := wbyte_ok given (c := 34) b2 (by have := escs_len s; simp; omega)
  have r3' : callE efns given f_strings_Builder_WriteByte [.ptr 0 0, .int .u8 34] st2 = some (.nili, st3) := r3
  have e : [] ++ [34] ++ escs s ++ [34] = quote s := by simp [quote]
  have b3' : Bld 0 (quote s) st3 := e ▸ b3
  have r4 := bstring_ok given b3' (by omega)
  refine ⟨st3, ?_⟩
  refine Eq.trans hr ?_
  rw [<- hK]
  simp only [go_sem, r3', r4]
 obtain ⟨st', h⟩ := key
 exact callV_of rfl h rfl
def textV (v : Vl) : List UInt8 := if v.k = 1 then text v.i else if v.k = 3 then quote v.s else v.s
theorem textV_t (v : Vl) (hs : v.s.length <= 100000) (hi : I64 v.i) : tupV (callE efns given) (.call 0 f_val_Text) [v.p] = some (.str (textV v)) := by
 have q := quote_t hs
 have hq : (quote v.s).length <= 281474976710656 := by
  have := escs_len v.s
  simp [quote]; omega
 have c1 := clone_ok hq ⟨[], [], [], []⟩
 have c2 := clone_ok (s := v.s) (by omega) ⟨[], [], [], []⟩
 have c1' : tupV (callE efns given) (.call 0 f_strings_Clone) [.str (quote v.s)] = some (.str (quote v.s)) := callV_of rfl c1 rfl
 have c2' : tupV (callE efns given) (.call 0 f_strings_Clone) [.str v.s] = some (.str v.s) := callV_of rfl c2 rfl
 have n' : tupV (callE efns given) (.call 0 f_num_Text) [.int .i64 v.i] = some (.str (text v.i)) := callV_of rfl (text_ok hi ⟨[], [], [], []⟩) rfl
 have key : ∃ st, callE efns given f_val_Text [v.p] ⟨[], [], [], []⟩ = some (.str (textV v), st) := by
  refine ⟨⟨[v.cells'], [], [T_val_Text_0], []⟩, ?_⟩
  rw [callE_fn efns given (c := e_val_Text) rfl rfl]
  unfold textV
  obtain ⟨k, i, s⟩ := v
  by_cases h1 : k = 1
  ·subst h1
   simp only [e_val_Text, Vl.p, Vl.cells', go_sem, n']
  ·by_cases h3 : k = 3
   ·subst h3
    simp only [e_val_Text, Vl.p, Vl.cells', go_sem, q, c1']
   ·by_cases h2 : k = 2
    ·subst h2
     simp only [e_val_Text, Vl.p, Vl.cells', go_sem, c2']
    ·simp only [e_val_Text, Vl.p, Vl.cells', go_sem, h1, h2, h3]
 obtain ⟨st, h⟩ := key
 exact callV_of rfl h rfl
end Go.Proofs.YtnlknpeelpnbaaaGreatDoorPe.Read
