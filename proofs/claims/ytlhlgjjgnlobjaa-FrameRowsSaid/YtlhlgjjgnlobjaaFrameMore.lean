/-
  Plain facts on frames, continued: behind another last, of another boot.
-/
import Derived.Test.YtlhlgjjgnlobjaaFrameMath
set_option linter.unusedSimpArgs false
set_option linter.unusedVariables false
namespace Go.Proofs.Ytlhlgjjgnlobjaa
namespace Frame
open Crc

theorem next_inj (a b : W) (l : List UInt8) (h : next a l = next b l) : a = b := by
  unfold next at h
  have h2 := run_inj _ _ l (BitVec.not_inj.1 h)
  exact BitVec.not_inj.1 h2
theorem head_boot (b b' : W) (l l' : List UInt8) (h : head b l = head b' l') : b = b' := by
  unfold head at h
  exact four_inj _ _ (List.append_inj h rfl).2
theorem mk_parts (last last' boot boot' : W) (l l' : List UInt8) (h : mk last boot l = mk last' boot' l') : last = last' ∧ boot = boot' := by
  unfold mk at h
  simp only [List.append_assoc] at h
  obtain ⟨h1, h2⟩ := List.append_inj h rfl
  obtain ⟨h3, _⟩ := List.append_inj h2 rfl
  have h4 := four_inj _ _ h3
  rw [h1] at h4
  exact ⟨next_inj _ _ _ h4, head_boot _ _ _ _ h1⟩
theorem read_other (last last' boot : W) (hne : last ≠ last') (l more : List UInt8) (h1 : 1 ≤ l.length) (h2 : l.length ≤ 16384) : read last' (mk last boot l ++ more) = none := by
  have hlen : (mk last boot l ++ more).length = l.length + 16 + more.length := by rw [List.length_append, mk_length]
  have hN : (num (mk last boot l ++ more)).toNat = l.length := by rw [mk_num, BitVec.toNat_ofNat]; omega
  unfold read
  rw [if_neg (by omega), hN, size_ok _ (by omega) (by omega), if_neg (by omega), mk_boot, mk_data, mk_take, if_neg]
  rintro ⟨_, h⟩
  exact hne (mk_parts _ _ _ _ _ _ h).1.symm
end Frame
end Go.Proofs.Ytlhlgjjgnlobjaa
