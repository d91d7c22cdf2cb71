/- What is given of slices.Clone is so. -/
import Derived.Test.YtngkdpiajikcjaaDeltaKnown
import Derived.Test.YtngkdpiajikcjaaPeLaw
set_option maxRecDepth 1000000
set_option linter.unusedVariables false
set_option linter.unusedSimpArgs false
namespace Go.Proofs.YtngkdpiajikcjaaPe.Delta
open Go Go.Proofs Go.Proofs.YtngkdpiajikcjaaPe Go.Proofs.YtngkdpiajikcjaaPe.DeltaCode

def g0 : FuncId → List PV → Option PV := fun _ _ => none

/-- The rows without what is given. -/
noncomputable def outR (f : FuncId) : Option ERow := if f = f_slices_Clone_int_int ∨ f = f_slices_Clone_eval_Bind_eval_Bind then none else rows f

theorem out_eq : efnsOf outR = outE := by
  funext f
  have h := congrFun efns_eq f
  unfold efnsOf at h ⊢
  unfold outR outE
  by_cases c : f = f_slices_Clone_int_int ∨ f = f_slices_Clone_eval_Bind_eval_Bind
  · rw [if_pos c, if_pos c]
  · rw [if_neg c, if_neg c]
    exact h

theorem out_ok : RowsOk Go.Proofs.Try.prog sh outR := by
  constructor
  intro f r h
  unfold outR at h
  split at h
  · cases h
  · exact rows_ok.at_ f r h

theorem c_nil (st : St) : callE efns g0 f_slices_Clone_int_int [.nils] st = some (.nils, st) := by
  rw [callE_fn efns g0 (c := e_slices_Clone_int_int) rfl rfl]
  rfl
theorem c_emc (st : St) : callE efns g0 f_slices_Clone_int_int [.emc] st = some (.emp, st) := by
  rw [callE_fn efns g0 (c := e_slices_Clone_int_int) rfl rfl]
  rfl
theorem c_lst {e : PV} {l : List PV} (hs : szAll 1 (e :: l) = true) (hl : (e :: l).length * 9 ≤ 70368744177664) (st : St) : callE efns g0 f_slices_Clone_int_int [.lst (e :: l)] st = some (.own st.rows.length (e :: l), ⟨st.boxes, st.rows ++ [((e :: l).length, 1)]⟩) := by
  rw [callE_fn efns g0 (c := e_slices_Clone_int_int) rfl rfl]
  have h0 : biV (.eqs 3 false) (.lst (e :: l)) .nils = some (.bool false) := rfl
  have h1 : tupV (callE efns g0) (.bslice 1 [.int .i64 0] 0 []) [] = some .emp := rfl
  have hl' : (0 + (l.length + 1)) * (8 + 1) ≤ 70368744177664 := by simp at hl; omega
  have hz : szAll 1 [] = true := rfl
  simp only [e_slices_Clone_int_int, go_sem, h0, h1, hs, hl', hz]
  rw [if_pos (by simpa using hl)]
theorem b_nil (st : St) : callE efns g0 f_slices_Clone_eval_Bind_eval_Bind [.nils] st = some (.nils, st) := by
  rw [callE_fn efns g0 (c := e_slices_Clone_eval_Bind_eval_Bind) rfl rfl]
  rfl
theorem b_emc (st : St) : callE efns g0 f_slices_Clone_eval_Bind_eval_Bind [.emc] st = some (.emp, st) := by
  rw [callE_fn efns g0 (c := e_slices_Clone_eval_Bind_eval_Bind) rfl rfl]
  rfl

theorem liftI {f : FuncId} {xs : List PV} {r : PV} {st' : St} (h : callE efns g0 f xs ⟨[], []⟩ = some (r, st')) : call (fnsOf Go.Proofs.Try.prog sh rows) g0 f xs ⟨[], []⟩ = some (r, st') := by
  refine callE_le efns g0 ?_ _ _ _ _ h
  rw [← efns_eq]
  exact rows_ok.eok

theorem one_of {F : Fix} {w : World} {vs : Array Value} {x y : PV} (h : RepD F w y (vs.getD 0 Go.undef)) : ∀ j (hj : j < [y].length), RepD F w ([y][j]) (vs.getD j Go.undef) := fun j hj => by
  have : j = 0 := by simpa using hj
  subst this
  exact h

theorem given_ok {W : World} : GivenOk Go.Proofs.Try.prog W (fnsOf Go.Proofs.Try.prog sh outR) given := by
  intro f xs r hf hg
  unfold given at hg
  have use := fun {f : FuncId} {xs : List PV} {r : PV} {st' : St} {z : PV} (h : callE efns g0 f xs ⟨[], []⟩ = some (r, st')) (hz : shutR false st' shutN r = some z) =>
    given_of_call (w0 := W) follows_ok rows_ok.fok (given_none (w := W)) (liftI h) hz
  by_cases h1 : f = f_slices_Clone_int_int
  · subst h1
    rw [if_pos rfl] at hg
    split at hg
    · rename_i l
      split at hg
      · rename_i hc
        cases hg
        refine ⟨(use (c_nil ⟨[], []⟩) (z := .lst []) rfl).1, fun w F vs hFd hb hsz hr => ?_⟩
        have h0 := hr 0 (by simp)
        rcases RepD.lst_cases h0 with hne | ⟨rfl, h | h⟩
        · cases l with
          | nil => exact absurd rfl hne
          | cons e l => exact (use (c_lst hc.1 hc.2 ⟨[], []⟩) (z := .lst (e :: l)) rfl).2 w F vs hFd hb hsz (one_of (x := .nils) h0)
        · exact (use (c_nil ⟨[], []⟩) (z := .lst []) rfl).2 w F vs hFd hb hsz (one_of (x := .nils) h)
        · exact (use (c_emc ⟨[], []⟩) (z := .lst []) rfl).2 w F vs hFd hb hsz (one_of (x := .nils) h)
      · cases hg
    · cases hg
  · rw [if_neg h1] at hg
    by_cases h2 : f = f_slices_Clone_eval_Bind_eval_Bind
    · subst h2
      rw [if_pos rfl] at hg
      split at hg
      · cases hg
        refine ⟨(use (b_nil ⟨[], []⟩) (z := .lst []) rfl).1, fun w F vs hFd hb hsz hr => ?_⟩
        have h0 := hr 0 (by simp)
        rcases RepD.lst_cases h0 with hne | ⟨_, h | h⟩
        · exact absurd rfl hne
        · exact (use (b_nil ⟨[], []⟩) (z := .lst []) rfl).2 w F vs hFd hb hsz (one_of (x := .nils) h)
        · exact (use (b_emc ⟨[], []⟩) (z := .lst []) rfl).2 w F vs hFd hb hsz (one_of (x := .nils) h)
      · cases hg
    · rw [if_neg h2] at hg; cases hg
end Go.Proofs.YtngkdpiajikcjaaPe.Delta
