/-
  The contracts of the library functions that work on bytes: bytes.Equal, bytes.Clone, slices.Grow of nothing, slices.Concat.
-/
import Derived.Test.YtpnfgnddlfkfaaaBase
import Derived.Lib.AppendZerosOnto
import Derived.Lib.LazyBuf
set_option linter.unusedSimpArgs false
set_option linter.unusedVariables false
namespace Go.Proofs.Ytpnfgnddlfkfaaa
open Go.RowKit

set_option maxHeartbeats 400000 in
theorem bytes_equal (A : Option Addr) (m cap : Nat) (l : List UInt8) (A' : Option Addr) (m' cap' : Nat) (l' : List UInt8) (w : World) (hm : l.length = m) (hr : RB w A l) (hm' : l'.length = m') (hr' : RB w A' l') :
    Calls Try.prog 66 #[.slice A m cap, .slice A' m' cap'] w fun e w' => e = .returned (.bool (l == l')) ∧ w = w' := by
  have h1 := run_str_try w A cap m l hm hr
  have h2 := run_str_try w A' cap' m' l' hm' hr'
  clear hm hm'
  go_enter Try.func66, Try.ntmps66
  go_wp2
  go_ret
  exact ⟨rfl, rfl⟩

set_option maxHeartbeats 400000 in
theorem bytes_clone (A : Option Addr) (m cap : Nat) (l : List UInt8) (w : World) (hm : l.length = m) (hl : l.length ≤ 140737488355328) (hr : RB w A l) :
    Calls Try.prog 42 #[.slice A m cap] w fun e w' => ∃ v, e = .returned v ∧ Own w' w.heap.size 5 v (l.map eb) ∧ Below w.heap.size w w' := by
  cases A with
  | none =>
    have e0 : l = [] := by
      cases l with
      | nil => rfl
      | cons x l => obtain ⟨ad, e, _⟩ := hr 0 _ rfl; cases e
    subst e0
    clear hm hr hl
    have heq := fun W : World => run_eql_slice_nil (P := Try.prog) W 23 5 none m cap Try.underlying23
    go_enter Try.func42, Try.ntmps42
    go_wp2
    go_ret
    exact ⟨_, rfl, Own.nil _ _ _, Below.refl _ _⟩
  | some ad =>
    obtain ⟨v', w2, HR, hown, hb2⟩ := append_fresh w (some ad) m cap l hm hr hl
    clear hm
    have heq := fun W : World => run_eql_slice_nil (P := Try.prog) W 23 5 (some ad) m cap Try.underlying23
    go_enter Try.func42, Try.ntmps42
    go_wp2_with (at_builtin; refine wpList_append_run rfl _ _ 23 23 rfl _ _ _ _ rfl rfl HR.out ?_)
    go_ret
    exact ⟨_, rfl, hown, hb2⟩




end Go.Proofs.Ytpnfgnddlfkfaaa
