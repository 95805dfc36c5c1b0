/-
  The statement on BodyTwice holds: for every input the call returns true, and every argument reads afterwards as it read before. No condition.
-/
import Derived.Test.YtpnfgnddlfkfaaaOpenB
import Derived.Test.YtpnfgnddlfkfaaaLawBTwice
set_option linter.unusedVariables false
set_option linter.unusedSimpArgs false
namespace Go.Proofs.Ytpnfgnddlfkfaaa
open Go.ChangeShapes Go.WideShapes Go.ChangeAt Go.RowKit
open Go.ChangeMaps (open_string shut_string)

set_option maxRecDepth 100000 in
theorem bodyTwice_lifted (os : Os) (started : os.Started) (H : Type) (enc : TypeId × Value → H) :
    ReturnsInHanded {} Try.checked os 9 .any (Rows.bodyTwiceSpec.pre6 enc Try.prog Try.f9 Rows.bodyTwiceRow.domain false) (Rows.bodyTwiceSpec.post enc Try.prog Try.f9 false true false false) := by
  refine returnsInHanded_of_change (C := Try.checked) own started (by kernel_rfl) Try.func9
    (ChangeSpec.witness6 (enc := enc) (C := Try.checked) false ⟨#[], #[.agg #[.int .i64 0, .slice none 0 0], .slice none 0 0, .int .u16 0], []⟩ 8 (by kernel_rfl) (by kernel_rfl) (by kernel_rfl) (by kernel_rfl)) ?_
  intro W base args ds gs before hval0 hW hcnd _
  have hval : ∀ (j : Nat) t v, Try.f9.params[j]? = some t → args[j]? = some v → Value.okWide Try.prog W .any base t v := hval0
  have hW' := hW
  obtain ⟨p, q, hA0, hV, rfl, hfz, hnd⟩ := hW
  have hA : DataW.TrodAll enc Try.prog W 0 (fun _ => true) true Try.f9.params.toList args.toList ds p := hA0
  rw [Try.params9] at hA hval
  obtain ⟨v0, vs0, d0, ds0, p0, q0, hargs, rfl, rfl, h0, r0⟩ := trodAll_cons hA
  obtain ⟨v1, vs1, d1, ds1, p1, q1, rfl, rfl, rfl, h1, r1⟩ := trodAll_cons r0
  obtain ⟨v2, vs2, d2, ds2, p2, q2, rfl, rfl, rfl, h2, r2⟩ := trodAll_cons r1
  obtain ⟨rfl, rfl, rfl⟩ := trodAll_nil r2
  obtain rfl : args = #[v0, v1, v2] := by cases args; simp_all
  obtain ⟨rfl, rfl⟩ := trodVars_none hV
  have k0 := h0
  have lt0 : ∀ x ∈ p0, x.block < W.heap.size := by obtain ⟨m, hm⟩ := k0; exact DataW.trod_lt m _ _ _ hm
  obtain ⟨s0, a0, l0, c0, rfl, hc0, hk0, hr0, bs0⟩ := open_body (hval 0 61 v0 rfl rfl) h0
  obtain ⟨a1, m1, c1, rfl⟩ := okWide_slice Try.underlying59 (hval 1 59 v1 rfl rfl)
  have k1 := h1
  have lt1 : ∀ x ∈ p1, x.block < W.heap.size := by obtain ⟨m, hm⟩ := k1; exact DataW.trod_lt m _ _ _ hm
  obtain ⟨l1, hm1, hc1, hk1, hr1⟩ := open_parts h1
  obtain ⟨n2, rfl, rfl, rfl, w2⟩ := open_int Try.underlying42 (hval 2 42 v2 rfl rfl) h2
  have w2' := w2
  obtain ⟨x2, rfl, bx2⟩ := u16_of w2
  clear hA0 hval0
  refine (show Calls _ _ _ _ _ from twice_walk s0 a0 l0.length c0 l0 a1 m1 c1 l1 x2 W rfl (Nat.le_trans (Nat.le_trans hc0 hk0) (by unfold maxLen; omega)) hr0 hm1 (Nat.le_trans (Nat.le_trans hc1 hk1) (by unfold maxLen; omega)) hr1 bx2).mono fun e W' ⟨he, bel⟩ => ?_
  subst he
  exact ⟨_, rfl, _, _, _, [], _, [], hW', trodAll_mk1 (shut_bool Try.underlying4 _), (trodAll_cons_mk (Below.trod laidOut (by kernel_rfl) (of_decide_eq_true (by kernel_rfl)) k0 bel lt0) (trodAll_cons_mk (Below.trod laidOut (by kernel_rfl) (of_decide_eq_true (by kernel_rfl)) k1 bel lt1) (trodAll_cons_mk (shut_int Try.underlying42 w2') trodAll_mk0))), rfl, bel.frame _, fun h => by cases h⟩

theorem bodyTwice_over : Rows.bodyTwiceRow.holds Try.pinned (OpenSpec.ofChange Rows.bodyTwiceSpec) :=
  OpenClaim.holds_of_wide 9 Try.f9 rfl rfl rfl rfl rfl rfl rfl ⟨rfl, rfl, rfl, rfl, rfl⟩ rfl rfl rfl rfl rfl (by kernel_rfl) Try.func9 (by kernel_rfl)
    (of_decide_eq_true (by kernel_rfl)) (by unfold Func.isWrapper; first | (rw [if_pos (by decide +kernel)]; kernel_rfl) | (rw [if_neg (by decide +kernel)]; exact ⟨rfl, rfl⟩))
    (fun os started H enc _ => bodyTwice_lifted os started H enc)

theorem bodyTwice_proved : Rows.BodyTwiceSaid := bodyTwice_over
#print axioms bodyTwice_proved
end Go.Proofs.Ytpnfgnddlfkfaaa
