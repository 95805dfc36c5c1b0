/-
  Eye.Text, Eye.Float.
-/
import Derived.Test.YtpnfgnddlfkfaaaEyeNum
set_option linter.unusedSimpArgs false
set_option linter.unusedVariables false
namespace Go.Proofs.Ytpnfgnddlfkfaaa
open Go.RowKit

theorem eNumGo_le : ∀ (k i n : Nat) (st : Option (List UInt8)), (eNumGo k i n st).1 ≤ 4611686018427387904
  | 0, _, _, _ => by unfold eNumGo; simp
  | k + 1, i, n, none => by unfold eNumGo; simp
  | k + 1, i, n, some [] => by unfold eNumGo; simp
  | k + 1, i, n, some (b :: l) => by
    unfold eNumGo
    split
    · exact eNumGo_le k _ _ _
    · split
      · simp
      · rename_i h1 h2
        simp only
        omega
def eText (st : Option (List UInt8)) : List UInt8 × Option (List UInt8) := eTake (eNum st).1 (eNum st).2

set_option maxRecDepth 100000 in
set_option maxHeartbeats 2000000 in
theorem eye_text (g : Nat) (st : Option (List UInt8)) (w : World) (h : EyeAt w g st) (hg : g < w.heap.size) :
    Calls Try.prog 48 #[.pointer (some ⟨g, 0, none⟩)] w fun e w' => e = .returned (.string ⟨(eText st).1.toArray⟩) ∧ EyeAt w' g (eText st).2 ∧ Kept g w.heap.size w w' := by
  unfold eText
  have hle := eNumGo_le 9 0 0 st
  rw [show eNumGo 9 0 0 st = eNum st from rfl] at hle
  go_enter Try.func48, Try.ntmps48
  go_wp2_with fail
  refine (eye_num g st w h hg).mono ?_
  rintro e w1 ⟨rfl, h1, hk1⟩
  go_wp2_with fail
  refine (eye_take g _ (eNum st).1 (by omega) w1 h1 (Nat.lt_of_lt_of_le hg hk1.size)).mono ?_
  rintro e w2 ⟨A, c, rfl, hc, hr, h2, hk2⟩
  have hv := run_str_try w2 A c _ _ rfl hr
  go_wp2
  go_ret
  exact ⟨rfl, h2, hk1.trans (hk2.mono hk1.size)⟩

/-- the number of bytes, the lowest first -/
def unlow : List UInt8 → Nat
  | [] => 0
  | x :: l => x.toNat + 256 * unlow l
def eFloat (st : Option (List UInt8)) : Nat × Option (List UInt8) := (unlow (eTake 8 st).1, (eTake 8 st).2)
theorem unlow_lt : ∀ (l : List UInt8), unlow l < 256 ^ l.length
  | [] => by simp [unlow]
  | x :: l => by
    have h := unlow_lt l
    have hx := x.toNat_lt
    simp only [unlow, List.length_cons, Nat.pow_succ]
    omega
theorem unlow_snoc : ∀ (l : List UInt8) (x : UInt8), unlow (l ++ [x]) = unlow l + x.toNat * 256 ^ l.length
  | [], x => by simp [unlow]
  | y :: l, x => by
    have h := unlow_snoc l x
    simp only [List.cons_append, unlow, h, List.length_cons, Nat.pow_succ]
    rw [Nat.mul_add]
    generalize 256 ^ l.length = P
    rw [show x.toNat * (P * 256) = 256 * (x.toNat * P) by rw [← Nat.mul_assoc, Nat.mul_comm]]
    omega

/-- what the walk spells for the next byte -/
theorem or_byte (n i : Nat) (b : UInt8) (hi : i ≤ 7) (h : n < 2 ^ (8 * i)) :
    bits .or .u64 (n : Int) (IntKind.u64.wrap (IntKind.u64.wrap (b.toNat : Int) * 2 ^ (8 * i))) = ((n + b.toNat * 2 ^ (8 * i) : Nat) : Int) := by
  have hb := b.toNat_lt
  have e0 : IntKind.u64.wrap (b.toNat : Int) = (b.toNat : Int) := by simp [IntKind.wrap, IntKind.signed, IntKind.bits]; omega
  rw [e0]
  have hp : 2 ^ (8 * i) ≤ 72057594037927936 := Nat.le_trans (Nat.pow_le_pow_right (by omega) (show 8 * i ≤ 56 by omega)) (by decide)
  have hpow : (2 : Int) ^ (8 * i) = ((2 ^ (8 * i) : Nat) : Int) := by simp
  rw [hpow, ← or_add n b.toNat (8 * i) h]
  generalize hP : 2 ^ (8 * i) = P at *
  generalize b.toNat = x at *
  have hm : x * P ≤ 255 * 72057594037927936 := Nat.mul_le_mul (by omega) hp
  have e2 : IntKind.u64.wrap ((x : Int) * (P : Int)) = ((x * P : Nat) : Int) := by
    rw [← Int.natCast_mul]
    generalize x * P = y at *
    simp [IntKind.wrap, IntKind.signed, IntKind.bits]; omega
  rw [e2]
  generalize x * P = y at *
  unfold bits
  simp only [IntKind.bits]
  show IntKind.wrap .u64 ((BitVec.ofInt 64 (n : Int) ||| BitVec.ofInt 64 (y : Int)).toNat : Int) = _
  have e : (BitVec.ofInt 64 (n : Int) ||| BitVec.ofInt 64 (y : Int)).toNat = n ||| y := by
    simp only [BitVec.ofInt_natCast, BitVec.toNat_or, BitVec.toNat_ofNat]
    rw [Nat.mod_eq_of_lt (by omega), Nat.mod_eq_of_lt (by omega)]
  rw [e]
  have hlt : n ||| y < 2 ^ 64 := Nat.or_lt_two_pow (by omega) (by omega)
  generalize n ||| y = c at *
  simp [IntKind.wrap, IntKind.signed, IntKind.bits]
  omega

end Go.Proofs.Ytpnfgnddlfkfaaa
