/-
  Plain facts on CRC-32C: one step, eight steps, a byte, many bytes; it is linear; a burst of up to 32 bits is seen.
-/
import Derived.IntWalk
set_option linter.unusedSimpArgs false
set_option linter.unusedVariables false
namespace Go.Proofs.Ytlhlgjjgnlobjaa
namespace Crc

abbrev W := BitVec 32
def poly : W := 0x82F63B78#32
def step (c : W) : W := (c >>> 1) ^^^ (if c.getLsbD 0 then poly else 0#32)
def steps : Nat → W → W
  | 0, c => c
  | n + 1, c => steps n (step c)
def tab (i : Nat) : W := steps 8 (BitVec.ofNat 32 i)
/-- one byte, bit by bit -/
def byte (c : W) (x : UInt8) : W := steps 8 (c ^^^ BitVec.ofNat 32 x.toNat)
def run (c : W) (l : List UInt8) : W := l.foldl byte c
/-- the sum goes on -/
def next (c : W) (l : List UInt8) : W := ~~~(run (~~~c) l)

theorem steps_succ (n : Nat) (c : W) : steps (n + 1) c = step (steps n c) := by
  induction n generalizing c with
  | zero => rfl
  | succ n ih => rw [steps, ih]; rfl
theorem step_xor (a b : W) : step (a ^^^ b) = step a ^^^ step b := by
  have h : (a ^^^ b).getLsbD 0 = (a.getLsbD 0 ^^ b.getLsbD 0) := by simp
  unfold step
  rw [h, BitVec.ushiftRight_xor_distrib]
  generalize ha : a.getLsbD 0 = p
  generalize hb : b.getLsbD 0 = q
  generalize a >>> 1 = x
  generalize b >>> 1 = y
  cases p <;> cases q <;> simp only [Bool.xor_false, Bool.false_xor, Bool.xor_self, Bool.true_xor, Bool.not_false, Bool.not_true, if_true, if_false, Bool.false_eq_true, BitVec.xor_zero] <;> (apply BitVec.eq_of_getLsbD_eq; intro i hi; simp only [BitVec.getLsbD_xor]; cases x.getLsbD i <;> cases y.getLsbD i <;> cases poly.getLsbD i <;> rfl)
theorem steps_xor (n : Nat) (a b : W) : steps n (a ^^^ b) = steps n a ^^^ steps n b := by
  induction n generalizing a b with
  | zero => rfl
  | succ n ih => simp only [steps, step_xor, ih]
theorem step_even (c : W) (h : c.getLsbD 0 = false) : step c = c >>> 1 := by
  unfold step; rw [h]; simp
/-- what has no low bits is shifted alone -/
theorem steps_high (n : Nat) (c : W) (h : ∀ i, i < n → c.getLsbD i = false) : steps n c = c >>> n := by
  induction n generalizing c with
  | zero => simp [steps]
  | succ n ih =>
    rw [steps, step_even c (h 0 (by omega)), ih]
    · rw [← BitVec.shiftRight_add, Nat.add_comm]
    · intro i hi
      rw [BitVec.getLsbD_ushiftRight]
      exact h _ (by omega)
theorem mask_bit : ∀ i, i < 32 → (0xFFFFFF00#32 : W).getLsbD i = decide (8 ≤ i) := by decide
theorem low_tab (c : W) : steps 8 c = (c >>> 8) ^^^ tab (c.toNat % 256) := by
  have hsplit : c = (c &&& 0xFFFFFF00#32) ^^^ BitVec.ofNat 32 (c.toNat % 256) := by
    apply BitVec.eq_of_getLsbD_eq
    intro i hi
    have e : (BitVec.ofNat 32 (c.toNat % 256)).getLsbD i = (decide (i < 8) && c.getLsbD i) := by
      rw [BitVec.getLsbD_ofNat, show (256 : Nat) = 2 ^ 8 from rfl, Nat.testBit_mod_two_pow]
      simp only [hi, decide_true, Bool.true_and]
      rfl
    rw [BitVec.getLsbD_xor, BitVec.getLsbD_and, e]
    rw [mask_bit i hi]
    by_cases h8 : i < 8
    · simp [h8, show ¬ 8 ≤ i by omega]
    · simp [h8, show 8 ≤ i by omega]
  have hhi : steps 8 (c &&& 0xFFFFFF00#32) = c >>> 8 := by
    rw [steps_high]
    · apply BitVec.eq_of_getLsbD_eq
      intro i hi
      rw [BitVec.getLsbD_ushiftRight, BitVec.getLsbD_ushiftRight, BitVec.getLsbD_and]
      by_cases h : 8 + i < 32
      · rw [mask_bit _ h, decide_eq_true (by omega : 8 ≤ 8 + i), Bool.and_true]
      · rw [BitVec.getLsbD_of_ge c _ (by omega)]; simp
    · intro i hi
      rw [BitVec.getLsbD_and]
      rw [mask_bit i (by omega), decide_eq_false (by omega : ¬ 8 ≤ i), Bool.and_false]
  conv => lhs; rw [hsplit, steps_xor, hhi]
  rfl
theorem byte_tab (c : W) (x : UInt8) : byte c x = (c >>> 8) ^^^ tab ((c.toNat % 256) ^^^ x.toNat) := by
  have hx : x.toNat < 2 ^ 8 := x.toNat_lt
  unfold byte
  rw [low_tab]
  congr 1
  · apply BitVec.eq_of_getLsbD_eq
    intro i hi
    rw [BitVec.getLsbD_ushiftRight, BitVec.getLsbD_ushiftRight, BitVec.getLsbD_xor, BitVec.getLsbD_ofNat]
    rw [Nat.testBit_lt_two_pow (x := x.toNat) (i := 8 + i) (Nat.lt_of_lt_of_le hx (Nat.pow_le_pow_right (by omega) (by omega)))]
    simp
  · congr 1
    rw [BitVec.toNat_xor, BitVec.toNat_ofNat, show (256 : Nat) = 2 ^ 8 from rfl, Nat.xor_mod_two_pow]
    congr 1
    omega

theorem run_append (c : W) (a b : List UInt8) : run c (a ++ b) = run (run c a) b := by unfold run; rw [List.foldl_append]
theorem next_append (c : W) (a b : List UInt8) : next c (a ++ b) = next (next c a) b := by
  unfold next; rw [run_append, BitVec.not_not]
theorem next_cut (c : W) (l : List UInt8) (k : Nat) : next (next c (l.take k)) (l.drop k) = next c l := by
  rw [← next_append, List.take_append_drop]

end Crc
end Go.Proofs.Ytlhlgjjgnlobjaa
