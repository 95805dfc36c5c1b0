/-
  What the laws of layer 1 call beside crc: the document's example.
-/
import Derived.Test.YtlhlgjjgnlobjaaCrc
set_option linter.unusedSimpArgs false
set_option linter.unusedVariables false
namespace Go.Proofs.Ytlhlgjjgnlobjaa
open Go.RowKit

theorem known_9 : Crc.next 0#32 [49, 50, 51, 52, 53, 54, 55, 56, 57] = 0xE3069283#32 := by decide +kernel

set_option maxRecDepth 100000 in
set_option maxHeartbeats 1000000 in
theorem law1_awake (w : World) :
    Calls Try.prog 15 #[] w fun e w' => e = .returned (.bool true) ∧ Below w.heap.size w w' := by
  have kc := fun (w : World) (C : Array Value) (n c : Nat) => Lib.run_convert_bytes_const (P := Try.prog) w 22 5 C n c Try.underlying22 Try.underlying5
  go_enter Try.func15, Try.ntmps15
  go_wp2_with fail
  refine (crc_sum _ _ _ [49, 50, 51, 52, 53, 54, 55, 56, 57] _ rfl (by unfold maxLen; simp) (RB.lit _ _ _ _ _ rfl)).mono ?_
  rintro e w1 ⟨rfl, hb1⟩
  rw [known_9]
  go_wp2_with fail
  refine (crc_sum _ _ _ [] _ rfl (by unfold maxLen; simp) (RB.nil _ _)).mono ?_
  rintro e w2 ⟨rfl, hb2⟩
  rw [show (Crc.next 0#32 []) = 0#32 from by decide +kernel]
  go_wp2_with fail
  refine (crc_bytes 0x01020304#32 _ rfl _).mono ?_
  rintro e w3 ⟨v, rfl, ho, hb3⟩
  obtain ⟨A, cap, rfl, _, hr⟩ := ho.bytes
  have h4 : four 0x01020304#32 = [4, 3, 2, 1] := by decide +kernel
  rw [h4] at hr ⊢
  have hcv := run_str_try w3 A cap 4 _ rfl hr
  clear h4
  go_wp2
  go_ret
  exact ⟨rfl, bn (bn (bn (bal (Below.refl _ _) _) hb1) hb2) hb3⟩
end Go.Proofs.Ytlhlgjjgnlobjaa
