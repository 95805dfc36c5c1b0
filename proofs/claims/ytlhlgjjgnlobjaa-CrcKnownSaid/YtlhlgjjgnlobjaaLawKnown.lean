/-
  CrcKnown: the walk of the law.
-/
import Derived.Test.YtlhlgjjgnlobjaaLawA
set_option linter.unusedSimpArgs false
set_option linter.unusedVariables false
namespace Go.Proofs.Ytlhlgjjgnlobjaa
open Go.RowKit

def nought32 : List UInt8 := [0, 0, 0, 0, 0, 0, 0, 0, 0, 0, 0, 0, 0, 0, 0, 0, 0, 0, 0, 0, 0, 0, 0, 0, 0, 0, 0, 0, 0, 0, 0, 0]
theorem make32 (w : World) : (Instr.makeSlice 22 (.int .i64 32) (.int .i64 32)).run Try.prog w = .ok (.slice (some ⟨w.heap.size, 0, none⟩) 32 32) (w.alloc (.cells (nought32.map eb).toArray 5)) := by kernel_rfl
theorem k1 : Crc.next 0#32 [0] = 0x527D5351#32 := by decide +kernel
theorem k2 : Crc.next 0#32 nought32 = 0x8A9136AA#32 := by decide +kernel
theorem k3 : Crc.next (Crc.next 0#32 [49, 50, 51, 52, 53]) [54, 55, 56, 57] = 0xE3069283#32 := by decide +kernel
theorem k4 : Crc.next 7#32 [] = 7#32 := by decide +kernel
theorem k5 : four 0#32 = [0, 0, 0, 0] := by decide +kernel

set_option maxRecDepth 100000 in
set_option maxHeartbeats 2000000 in
theorem known_walk (w : World) :
    Calls Try.prog 5 #[] w fun e w' => e = .returned (.bool true) ∧ Below w.heap.size w w' := by
  have kc := fun (w : World) (C : Array Value) (n c : Nat) => Lib.run_convert_bytes_const (P := Try.prog) w 22 5 C n c Try.underlying22 Try.underlying5
  have hm := make32
  go_enter Try.func5, Try.ntmps5
  go_wp2_with fail
  refine (law1_awake _).mono ?_
  rintro e w1 ⟨rfl, hb1⟩
  go_wp2_with fail
  refine (crc_sum _ _ _ [0] _ rfl (by unfold maxLen; simp) (RB.lit _ _ _ _ _ rfl)).mono ?_
  rintro e w2 ⟨rfl, hb2⟩
  rw [k1]
  go_wp2_with fail
  refine (crc_sum _ _ _ nought32 _ rfl (by unfold maxLen; simp [nought32]) (RB.lit _ _ _ _ _ rfl)).mono ?_
  rintro e w3 ⟨rfl, hb3⟩
  rw [k2]
  go_wp2_with fail
  refine (crc_sum _ _ _ [49, 50, 51, 52, 53] _ rfl (by unfold maxLen; simp) (RB.lit _ _ _ _ _ rfl)).mono ?_
  rintro e w4 ⟨rfl, hb4⟩
  go_wp2_with fail
  refine (crc_next (Crc.next 0#32 [49, 50, 51, 52, 53]) _ rfl _ _ _ [54, 55, 56, 57] _ rfl (by unfold maxLen; simp) (RB.lit _ _ _ _ _ rfl)).mono ?_
  rintro e w5 ⟨rfl, hb5⟩
  rw [k3]
  go_wp2_with fail
  refine (crc_next 7#32 _ rfl _ _ _ [] _ rfl (by unfold maxLen; simp) (RB.nil _ _)).mono ?_
  rintro e w6 ⟨rfl, hb6⟩
  rw [k4]
  go_wp2_with fail
  refine (crc_bytes 0#32 _ rfl _).mono ?_
  rintro e w7 ⟨v, rfl, ho, hb7⟩
  obtain ⟨A, cap, rfl, _, hr⟩ := ho.bytes
  rw [k5] at hr ⊢
  have hcv := run_str_try w7 A cap 4 _ rfl hr
  go_wp2
  go_ret
  exact ⟨rfl, bn (bn (bn (bal (bn (bal (bn (bal (bn (bal hb1 _) hb2) _) hb3) _) hb4) _) hb5) hb6) hb7⟩
end Go.Proofs.Ytlhlgjjgnlobjaa
