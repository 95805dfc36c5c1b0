/-
  What was written is read.
-/
import Derived.Test.YtpnfgnddlfkfaaaEyeText
set_option linter.unusedSimpArgs false
set_option linter.unusedVariables false
namespace Go.Proofs.Ytpnfgnddlfkfaaa

theorem eNumGo_num (rest : List UInt8) : ∀ (k i acc n : Nat), 0 < k → n < 128 ^ k →
    eNumGo k i acc (some (num n ++ rest)) = if 4611686018427387904 < acc + n * 2 ^ (7 * i) ∨ (n = 0 ∧ 0 < i) then (0, none) else (acc + n * 2 ^ (7 * i), some rest)
  | 0, _, _, _, h0, _ => absurd h0 (by omega)
  | k + 1, i, acc, n, _, hn => by
    by_cases h : n < 128
    · have hb : (UInt8.ofNat n).toNat = n := by rw [UInt8.toNat_ofNat']; omega
      rw [num_small n h]
      show eNumGo (k + 1) i acc (some (UInt8.ofNat n :: rest)) = _
      unfold eNumGo
      rw [hb, if_neg (by omega), Nat.mod_eq_of_lt h]
    · have hb : (UInt8.ofNat (n % 128 + 128)).toNat = n % 128 + 128 := by rw [UInt8.toNat_ofNat']; omega
      have hk : 0 < k := by
        cases k with
        | zero => simp at hn; omega
        | succ k => omega
      have hn2 : n / 128 < 128 ^ k := by rw [Nat.pow_succ] at hn; omega
      rw [num_great n (by omega)]
      show eNumGo (k + 1) i acc (some (UInt8.ofNat (n % 128 + 128) :: (num (n / 128) ++ rest))) = _
      rw [show eNumGo (k + 1) i acc (some (UInt8.ofNat (n % 128 + 128) :: (num (n / 128) ++ rest))) = (if 128 ≤ (UInt8.ofNat (n % 128 + 128)).toNat then eNumGo k (i + 1) (acc + (UInt8.ofNat (n % 128 + 128)).toNat % 128 * 2 ^ (7 * i)) (some (num (n / 128) ++ rest))
        else if 4611686018427387904 < acc + (UInt8.ofNat (n % 128 + 128)).toNat % 128 * 2 ^ (7 * i) ∨ ((UInt8.ofNat (n % 128 + 128)).toNat = 0 ∧ 0 < i) then (0, none)
        else (acc + (UInt8.ofNat (n % 128 + 128)).toNat % 128 * 2 ^ (7 * i), some (num (n / 128) ++ rest))) from rfl]
      rw [hb, if_pos (by omega), eNumGo_num rest k (i + 1) _ (n / 128) hk hn2]
      have e1 : acc + (n % 128 + 128) % 128 * 2 ^ (7 * i) + n / 128 * 2 ^ (7 * (i + 1)) = acc + n * 2 ^ (7 * i) := by
        have h1 : (n % 128 + 128) % 128 = n % 128 := by omega
        rw [h1, show 7 * (i + 1) = 7 * i + 7 by omega, Nat.pow_add]
        generalize 2 ^ (7 * i) = P
        have h2 : n = n % 128 + n / 128 * 128 := by omega
        rw [Nat.add_assoc]
        congr 1
        conv => rhs; rw [h2, Nat.add_mul]
        congr 1
        rw [Nat.mul_assoc, Nat.mul_comm P, show (2 : Nat) ^ 7 = 128 from rfl]
      rw [e1]
      have e2 : ¬ (n / 128 = 0 ∧ 0 < i + 1) := by omega
      have e3 : ¬ (n = 0 ∧ 0 < i) := by omega
      by_cases e4 : 4611686018427387904 < acc + n * 2 ^ (7 * i)
      · rw [if_pos (.inl e4), if_pos (.inl e4)]
      · rw [if_neg (by rintro (h | h); exact e4 h; exact e2 h), if_neg (by rintro (h | h); exact e4 h; exact e3 h)]
theorem eNum_num (n : Nat) (hn : n ≤ 4611686018427387904) (rest : List UInt8) : eNum (some (num n ++ rest)) = (n, some rest) := by
  unfold eNum
  rw [eNumGo_num rest 9 0 0 n (by omega) (by omega), if_neg (by simp; omega)]
  simp
theorem eNum_great (n : Nat) (hn : 4611686018427387904 < n) (hn2 : n ≤ 9223372036854775807) (rest : List UInt8) : eNum (some (num n ++ rest)) = (0, none) := by
  unfold eNum
  rw [eNumGo_num rest 9 0 0 n (by omega) (by omega), if_pos (by simp; omega)]
theorem eTake_append (s rest : List UInt8) : eTake s.length (some (s ++ rest)) = (s, some rest) := by
  unfold eTake
  simp
theorem eText_text (s rest : List UInt8) (hs : s.length ≤ 4611686018427387904) : eText (some (num s.length ++ s ++ rest)) = (s, some rest) := by
  unfold eText
  rw [List.append_assoc, eNum_num _ hs, eTake_append]
theorem unlow_low : ∀ (k n : Nat), n < 256 ^ k → unlow (low k n) = n
  | 0, n, h => by simp at h; simp [low, unlow, h]
  | k + 1, n, h => by
    have h2 : n / 256 < 256 ^ k := by rw [Nat.pow_succ] at h; omega
    simp only [low, unlow]
    rw [unlow_low k (n / 256) h2, UInt8.toNat_ofNat']
    omega
theorem eFloat_float (f : Nat) (hf : f < 18446744073709551616) (rest : List UInt8) : eFloat (some (low 8 f ++ rest)) = (f, some rest) := by
  have h := eTake_append (low 8 f) rest
  rw [low_length] at h
  unfold eFloat
  rw [h]
  simp only
  rw [unlow_low 8 f (by omega)]
theorem eByte_byte (x : UInt8) (rest : List UInt8) : eByte (some (x :: rest)) = (x, some rest) := rfl
theorem eNum_none : eNum none = (0, none) := rfl
theorem eFloat_none : eFloat none = (0, none) := rfl
theorem eText_none : eText none = ([], none) := rfl
theorem eByte_none : eByte none = (0, none) := rfl
end Go.Proofs.Ytpnfgnddlfkfaaa
