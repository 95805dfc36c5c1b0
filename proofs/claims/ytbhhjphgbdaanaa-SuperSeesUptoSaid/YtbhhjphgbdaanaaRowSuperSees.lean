/-
  The statement on SuperSees holds: for every input of bulk at most 1048576 the call returns true, and every argument reads afterwards as it read before. No condition.
-/
import Derived.Test.YtbhhjphgbdaanaaOpenS
import Derived.Test.YtbhhjphgbdaanaaLawSSees
set_option linter.unusedVariables false
set_option linter.unusedSimpArgs false
namespace Go.Proofs.Ytbhhjphgbdaanaa
open Go.ChangeShapes Go.WideShapes Go.ChangeAt Go.RowKit
open Go.ChangeMaps (open_string shut_string)

set_option maxRecDepth 100000 in
theorem superSees_lifted (os : Os) (started : os.Started) (H : Type) (enc : TypeId × Value → H) (F : Stop.Interp) :
    ReturnsInHanded {} Try.checked os 5 .any ((Rows.OpenSpec.upto Rows.superSeesSpec).pre6 enc Try.prog Try.f5 Rows.superSeesUptoRow.domain false) (((Rows.OpenSpec.upto Rows.superSeesSpec).at F).post enc Try.prog Try.f5 false true false false) := by
  refine returnsInHanded_of_cond (C := Try.checked) (s := Rows.OpenSpec.upto Rows.superSeesSpec) (k := Rows.uptoSmall) rfl own started (by kernel_rfl) Try.func5
    (OpenSpec.witness (enc := enc) (C := Try.checked) (s := Rows.OpenSpec.upto Rows.superSeesSpec) (k := Rows.uptoSmall) rfl false ⟨#[], #[.agg #[.int .i64 0, .int .i64 0, .slice none 0 0, .int .i64 0, .int .u32 0, .slice none 0 0, .int .i64 0, .int .u32 0], .int .u8 0, .int .u32 0], []⟩ 8 (by kernel_rfl) (by kernel_rfl) (by kernel_rfl)
      (x := ([.agg [.lit (.int .i64 0), .lit (.int .i64 0), .agg [.nil, .lit (.int .i64 0), .lit (.int .u32 0)], .agg [.nil, .lit (.int .i64 0), .lit (.int .u32 0)]], .lit (.int .u8 0), .lit (.int .u32 0)], [], [])) (by kernel_rfl) rfl (by kernel_rfl)) ?_
  intro W base args ds gs before hval0 hW hcnd hbulk0 _
  have hval : ∀ (j : Nat) t v, Try.f5.params[j]? = some t → args[j]? = some v → Value.okWide Try.prog W .any base t v := hval0
  have hW' := hW
  obtain ⟨p, q, hA0, hV, rfl, hfz, hnd⟩ := hW
  have hA : DataW.TrodAll enc Try.prog W 0 (fun _ => true) true Try.f5.params.toList args.toList ds p := hA0
  rw [Try.params5] at hA hval
  obtain ⟨v0, vs0, d0, ds0, p0, q0, hargs, rfl, rfl, h0, r0⟩ := trodAll_cons hA
  obtain ⟨v1, vs1, d1, ds1, p1, q1, rfl, rfl, rfl, h1, r1⟩ := trodAll_cons r0
  obtain ⟨v2, vs2, d2, ds2, p2, q2, rfl, rfl, rfl, h2, r2⟩ := trodAll_cons r1
  obtain ⟨rfl, rfl, rfl⟩ := trodAll_nil r2
  obtain rfl : args = #[v0, v1, v2] := by cases args; simp_all
  obtain ⟨rfl, rfl⟩ := trodVars_none hV
  have k0 := h0
  have lt0 : ∀ x ∈ p0, x.block < W.heap.size := by obtain ⟨m, hm⟩ := k0; exact DataW.trod_lt m _ _ _ hm
  obtain ⟨s0, A0, c0, A20, c20, rfl, bn0, bb0, lj0, lc0, al0, al20⟩ := open_super (hval 0 27 v0 rfl rfl) h0
  obtain ⟨n1, rfl, rfl, rfl, w1⟩ := open_int Try.underlying5 (hval 1 5 v1 rfl rfl) h1
  have w1' := w1
  obtain ⟨x1, rfl⟩ := u8_of w1
  obtain ⟨n2, rfl, rfl, rfl, w2⟩ := open_int Try.underlying23 (hval 2 23 v2 rfl rfl) h2
  have w2' := w2
  obtain ⟨x2, rfl⟩ := u32_of w2
  have hbulk := hbulk0
  clear hA0 hval0 hbulk0
  refine (show Calls _ _ _ _ _ from ssees_walk s0 A0 c0 A20 c20 x1 x2 W (SArg.mk' bn0 bb0 lj0 lc0 al0 al20) (Nat.le_trans (Nat.le_trans lj0.2.2.2.2.2 (bulk_bound hbulk (by simp))) (by omega)) (Nat.le_trans (Nat.le_trans lc0.2.2.2.2.2 (bulk_bound hbulk (by simp))) (by omega))).mono fun e W' ⟨he, bel⟩ => ?_
  subst he
  exact ⟨_, rfl, _, _, _, [], _, [], hW', trodAll_mk1 (shut_bool Try.underlying4 _), (trodAll_cons_mk (Below.trod laidOut (by kernel_rfl) (of_decide_eq_true (by kernel_rfl)) k0 bel lt0) (trodAll_cons_mk (shut_int Try.underlying5 w1') (trodAll_cons_mk (shut_int Try.underlying23 w2') trodAll_mk0))), rfl, bel.frame _, fun h => by cases h⟩

theorem superSees_over : Rows.superSeesUptoRow.holds Try.pinned (Rows.OpenSpec.upto Rows.superSeesSpec) :=
  OpenClaim.holds_of_cond 5 Try.f5 rfl rfl rfl rfl rfl rfl rfl ⟨rfl, rfl, rfl, rfl, rfl⟩ rfl rfl rfl rfl rfl (by kernel_rfl) Try.func5 (by kernel_rfl)
    (of_decide_eq_true (by kernel_rfl)) (by unfold Func.isWrapper; first | (rw [if_pos (by decide +kernel)]; kernel_rfl) | (rw [if_neg (by decide +kernel)]; exact ⟨rfl, rfl⟩))
    (fun os started H enc _ F => superSees_lifted os started H enc F)

theorem superSees_proved : Rows.SuperSeesUptoSaid := superSees_over
#print axioms superSees_proved
end Go.Proofs.Ytbhhjphgbdaanaa
