/-
  Bodies: what Write asks of the pieces; a row of pieces that grows; Clone.
-/
import Derived.Test.YtpnfgnddlfkfaaaBody
set_option linter.unusedSimpArgs false
set_option linter.unusedVariables false
namespace Go.Proofs.Ytpnfgnddlfkfaaa
open Go.RowKit

set_option maxRecDepth 100000 in
set_option maxHeartbeats 2000000 in
theorem part_bad (p : Part) (w : World) :
    Calls Try.prog 52 #[pv p] w fun e w' => e = .returned (.bool (!fits p)) ∧ Below w.heap.size w w' := by
  have HF := fun W => part_fits p W
  obtain ⟨o, l, c, a⟩ := p
  rw [pv_mk] at HF ⊢
  go_enter Try.func52, Try.ntmps52
  go_wp2_with fail
  (with_reducible refine (HF _).mono ?_)
  rintro e w5 ⟨rfl, hb5⟩
  go_wp2
  go_ret
  exact ⟨rfl, bn (bal (Below.refl _ _) _) hb5⟩

set_option maxRecDepth 100000 in
set_option maxHeartbeats 2000000 in
theorem index_bad (A : Option Addr) (n c : Nat) (ps : List Part) (w : World) (hn : ps.length = n) (hl : n ≤ 9223372036854775807) (hr : Rd w A (pcs ps)) :
    Calls Try.prog 72 #[.slice A n c, .func (.func 52) #[] #[]] w fun e w' => ∃ i : Int, e = .returned (.int .i64 i) ∧ (0 ≤ i ↔ ps.all fits = false) ∧ Below w.heap.size w w' := by
  subst hn
  have HR := Lib.hid hr
  clear hr
  go_enter Try.func72, Try.ntmps72
  go_wp2
  go_loopw [8] (fun i wr => ∃ (k : Nat), k ≤ ps.length ∧ i = .int .i64 (k : Int) ∧ Hid ((ps.take k).all fits = true) ∧ Below w.heap.size w wr) (fun i _ => ps.length - (intOf i).toNat)
  case atStart => exact ⟨0, Nat.zero_le _, rfl, rfl, Below.refl _ _⟩
  case round =>
    obtain ⟨k, hk, rfl, hP, hb⟩ := hrel
    by_cases hlt : k < ps.length
    · obtain ⟨b, o, rfl, hblt, hcell⟩ := part_at HR.out k hlt
      obtain ⟨q0, q1, q2, q3⟩ := hcell wr hb
      have hst : ps.take (k + 1) = ps.take k ++ [ps[k]] := List.take_succ_eq_append_getElem hlt
      have HP2 : Hid ((ps.take (k + 1)).all fits = fits ps[k]) := Lib.hid (by rw [hst, List.all_append, hP.out]; simp)
      have HALL : Hid (fits ps[k] = false → ps.all fits = false) := Lib.hid fun h => by
        cases ha : ps.all fits with
        | false => rfl
        | true => rw [List.all_eq_true.1 ha _ (List.getElem_mem hlt)] at h; cases h
      have HF := fun W => part_bad ps[k] W
      clear hcell hP hst
      generalize ps[k] = p at *
      obtain ⟨po, pl, pch, pat⟩ := p
      rw [pv_mk] at HF
      replace HF := Lib.hid HF
      simp only at q0 q1 q2 q3
      have i0 : (0 : Int) ≤ (k : Int) := by omega
      have i1 : (k : Int) < (ps.length : Int) := by omega
      cases hf : fits ⟨po, pl, pch, pat⟩ with
      | false =>
        have HA2 := Lib.hid (HALL.out hf)
        clear HALL
        rw [hf] at HP2 HF
        go_wp2_with fail
        (with_reducible refine (HF.out _).mono ?_)
        rintro e w5 ⟨rfl, hb5⟩
        simp only [Bool.not_false]
        go_wp2
        go_ret
        exact ⟨_, rfl, ⟨fun _ => HA2.out, fun _ => i0⟩, bn hb hb5⟩
      | true =>
        rw [hf] at HP2 HF
        go_wp2_with fail
        (with_reducible refine (HF.out _).mono ?_)
        rintro e w5 ⟨rfl, hb5⟩
        simp only [Bool.not_true]
        have hb6 := bn hb hb5
        clear hb5
        go_wp2
        go_roundw
        case rel => exact ⟨k + 1, by omega, by go_num, HP2, hb6⟩
        case measure => simp [intOf]; try omega
    · obtain rfl : k = ps.length := by omega
      have hP2 := hP.out
      rw [List.take_length] at hP2
      have HZ := Lib.hid hP2
      clear hP2
      go_wp2
      go_ret
      exact ⟨_, rfl, ⟨fun h => absurd h (by decide), fun h => by rw [HZ.out] at h; cases h⟩, hb⟩
set_option maxRecDepth 100000 in
set_option maxHeartbeats 2000000 in
theorem contains_bad (A : Option Addr) (n c : Nat) (ps : List Part) (w : World) (hn : ps.length = n) (hl : n ≤ 9223372036854775807) (hr : Rd w A (pcs ps)) :
    Calls Try.prog 51 #[.slice A n c, .func (.func 52) #[] #[]] w fun e w' => e = .returned (.bool (!ps.all fits)) ∧ Below w.heap.size w w' := by
  have HI := index_bad A n c ps w hn hl hr
  go_enter Try.func51, Try.ntmps51
  go_wp2_with fail
  (with_reducible refine HI.mono ?_)
  rintro e w5 ⟨i, rfl, hi, hb5⟩
  go_wp2
  go_ret
  refine ⟨ret_bool ?_, hb5⟩
  rw [Bool.eq_iff_iff]
  simp [hi]
end Go.Proofs.Ytpnfgnddlfkfaaa
