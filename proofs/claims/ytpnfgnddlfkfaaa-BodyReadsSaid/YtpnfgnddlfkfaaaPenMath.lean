/-
  Numbers as bytes.
-/
import Derived.Test.YtpnfgnddlfkfaaaPen
set_option linter.unusedSimpArgs false
set_option linter.unusedVariables false
namespace Go.Proofs.Ytpnfgnddlfkfaaa
open Go.RowKit

/-- the bytes of a number -/
def num (n : Nat) : List UInt8 := if n < 128 then [UInt8.ofNat n] else UInt8.ofNat (n % 128 + 128) :: num (n / 128)
termination_by n
decreasing_by omega
theorem num_small (n : Nat) (h : n < 128) : num n = [UInt8.ofNat n] := by rw [num, if_pos h]
theorem num_great (n : Nat) (h : 128 ≤ n) : num n = UInt8.ofNat (n % 128 + 128) :: num (n / 128) := by rw [num, if_neg (by omega)]
theorem num_length (n k : Nat) (hk : 0 < k) (h : n < 128 ^ k) : (num n).length ≤ k := by
  induction k generalizing n with
  | zero => omega
  | succ k ih =>
    by_cases h1 : n < 128
    · rw [num_small n h1]; simp
    · rw [num_great n (by omega)]
      have h2 : n / 128 < 128 ^ k := by rw [Nat.pow_succ] at h; omega
      have h3 : 0 < k := by
        cases k with
        | zero => simp at h; omega
        | succ k => omega
      simp
      exact ih (n / 128) h3 h2
theorem num_10 (n : Nat) (h : n ≤ 9223372036854775807) : (num n).length ≤ 10 := num_length n 10 (by omega) (by omega)
theorem or_128 (n : Nat) (hn : n ≤ 9223372036854775807) : bits .or .u8 ((n : Int) % 256) 128 = ((UInt8.ofNat (n % 128 + 128)).toNat : Int) := by
  have h1 : (n : Int) % 256 = ((n % 256 : Nat) : Int) := by simp
  rw [h1]
  have h2 : ∀ m : Fin 256, bits .or .u8 ((m.val : Nat) : Int) 128 = ((UInt8.ofNat (m.val % 128 + 128)).toNat : Int) := by decide +kernel
  have h3 := h2 ⟨n % 256, Nat.mod_lt _ (by omega)⟩
  rw [h3]
  simp

end Go.Proofs.Ytpnfgnddlfkfaaa
