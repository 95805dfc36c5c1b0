/-
  Eye.Text, Eye.Float.
-/
import Derived.Test.YtlgkcpgbmobacaaEyeNum
set_option linter.unusedSimpArgs false
set_option linter.unusedVariables false
namespace Go.Proofs.Ytlgkcpgbmobacaa
open Go.RowKit

theorem eNumGo_le : ∀ (k i n : Nat) (st : Option (List UInt8)), (eNumGo k i n st).1 ≤ 4611686018427387904
  | 0, _, _, _ => by unfold eNumGo; simp
  | k + 1, i, n, none => by unfold eNumGo; simp
  | k + 1, i, n, some [] => by unfold eNumGo; simp
  | k + 1, i, n, some (b :: l) => by
    unfold eNumGo
    split
    · exact eNumGo_le k _ _ _
    · split
      · simp
      · rename_i h1 h2
        simp only
        omega
def eText (st : Option (List UInt8)) : List UInt8 × Option (List UInt8) := eTake (eNum st).1 (eNum st).2

set_option maxRecDepth 100000 in
set_option maxHeartbeats 2000000 in
theorem eye_text (g : Nat) (st : Option (List UInt8)) (w : World) (h : EyeAt w g st) (hg : g < w.heap.size) :
    Calls Try.prog 18 #[.pointer (some ⟨g, 0, none⟩)] w fun e w' => e = .returned (.string ⟨(eText st).1.toArray⟩) ∧ EyeAt w' g (eText st).2 ∧ Kept g w.heap.size w w' := by
  unfold eText
  have hle := eNumGo_le 9 0 0 st
  rw [show eNumGo 9 0 0 st = eNum st from rfl] at hle
  go_enter Try.func18, Try.ntmps18
  go_wp2_with fail
  refine (eye_num g st w h hg).mono ?_
  rintro e w1 ⟨rfl, h1, hk1⟩
  go_wp2_with fail
  refine (eye_take g _ (eNum st).1 (by omega) w1 h1 (Nat.lt_of_lt_of_le hg hk1.size)).mono ?_
  rintro e w2 ⟨A, c, rfl, hc, hr, h2, hk2⟩
  have hv := run_str_try w2 A c _ _ rfl hr
  go_wp2
  go_ret
  exact ⟨rfl, h2, hk1.trans (hk2.mono hk1.size)⟩

/-- the number of bytes, the lowest first -/
def unlow : List UInt8 → Nat
  | [] => 0
  | x :: l => x.toNat + 256 * unlow l
def eFloat (st : Option (List UInt8)) : Nat × Option (List UInt8) := (unlow (eTake 8 st).1, (eTake 8 st).2)
theorem unlow_lt : ∀ (l : List UInt8), unlow l < 256 ^ l.length
  | [] => by simp [unlow]
  | x :: l => by
    have h := unlow_lt l
    have hx := x.toNat_lt
    simp only [unlow, List.length_cons, Nat.pow_succ]
    omega
theorem unlow_snoc : ∀ (l : List UInt8) (x : UInt8), unlow (l ++ [x]) = unlow l + x.toNat * 256 ^ l.length
  | [], x => by simp [unlow]
  | y :: l, x => by
    have h := unlow_snoc l x
    simp only [List.cons_append, unlow, h, List.length_cons, Nat.pow_succ]
    rw [Nat.mul_add]
    generalize 256 ^ l.length = P
    rw [show x.toNat * (P * 256) = 256 * (x.toNat * P) by rw [← Nat.mul_assoc, Nat.mul_comm]]
    omega

/-- what the walk spells for the next byte -/
theorem or_byte (n i : Nat) (b : UInt8) (hi : i ≤ 7) (h : n < 2 ^ (8 * i)) :
    bits .or .u64 (n : Int) (IntKind.u64.wrap (IntKind.u64.wrap (b.toNat : Int) * 2 ^ (8 * i))) = ((n + b.toNat * 2 ^ (8 * i) : Nat) : Int) := by
  have hb := b.toNat_lt
  have e0 : IntKind.u64.wrap (b.toNat : Int) = (b.toNat : Int) := by simp [IntKind.wrap, IntKind.signed, IntKind.bits]; omega
  rw [e0]
  have hp : 2 ^ (8 * i) ≤ 72057594037927936 := Nat.le_trans (Nat.pow_le_pow_right (by omega) (show 8 * i ≤ 56 by omega)) (by decide)
  have hpow : (2 : Int) ^ (8 * i) = ((2 ^ (8 * i) : Nat) : Int) := by simp
  rw [hpow, ← or_add n b.toNat (8 * i) h]
  generalize hP : 2 ^ (8 * i) = P at *
  generalize b.toNat = x at *
  have hm : x * P ≤ 255 * 72057594037927936 := Nat.mul_le_mul (by omega) hp
  have e2 : IntKind.u64.wrap ((x : Int) * (P : Int)) = ((x * P : Nat) : Int) := by
    rw [← Int.natCast_mul]
    generalize x * P = y at *
    simp [IntKind.wrap, IntKind.signed, IntKind.bits]; omega
  rw [e2]
  generalize x * P = y at *
  unfold bits
  simp only [IntKind.bits]
  show IntKind.wrap .u64 ((BitVec.ofInt 64 (n : Int) ||| BitVec.ofInt 64 (y : Int)).toNat : Int) = _
  have e : (BitVec.ofInt 64 (n : Int) ||| BitVec.ofInt 64 (y : Int)).toNat = n ||| y := by
    simp only [BitVec.ofInt_natCast, BitVec.toNat_or, BitVec.toNat_ofNat]
    rw [Nat.mod_eq_of_lt (by omega), Nat.mod_eq_of_lt (by omega)]
  rw [e]
  have hlt : n ||| y < 2 ^ 64 := Nat.or_lt_two_pow (by omega) (by omega)
  generalize n ||| y = c at *
  simp [IntKind.wrap, IntKind.signed, IntKind.bits]
  omega

set_option maxRecDepth 100000 in
set_option maxHeartbeats 2000000 in
theorem eye_float (g : Nat) (st : Option (List UInt8)) (w : World) (h : EyeAt w g st) (hg : g < w.heap.size) :
    Calls Try.prog 26 #[.pointer (some ⟨g, 0, none⟩)] w fun e w' => e = .returned (.float .f64 (eFloat st).1) ∧ EyeAt w' g (eFloat st).2 ∧ Kept g w.heap.size w w' := by
  have hfb := frombits_run
  unfold eFloat
  have h8 : (eTake 8 st).1.length = 0 ∨ (eTake 8 st).1.length = 8 := by
    cases st with
    | none => left; rfl
    | some l =>
      by_cases h8 : 8 ≤ l.length
      · right
        have : eTake 8 (some l) = (l.take 8, some (l.drop 8)) := by unfold eTake; simp only; rw [if_pos h8]
        rw [this]
        simp only [List.length_take]
        omega
      · left
        have : eTake 8 (some l) = ([], none) := by unfold eTake; simp only; rw [if_neg h8]
        rw [this]
        rfl
  obtain ⟨x, hx⟩ : ∃ x, (eTake 8 st).1 = x := ⟨_, rfl⟩
  obtain ⟨st2, hst2⟩ : ∃ x, (eTake 8 st).2 = x := ⟨_, rfl⟩
  rw [hx] at h8
  rw [hx, hst2]
  have HX := Lib.hid hx
  have HST := Lib.hid hst2
  have hlen : x.length ≤ 8 := by omega
  clear hx hst2 h8
  go_enter Try.func26, Try.ntmps26
  go_wp2_with fail
  refine (eye_take g st 8 (by omega) w h hg).mono ?_
  rintro e w2 ⟨A, c, rfl, hc, hr, h2, hk2⟩
  rw [HX.out] at hc hr ⊢
  rw [HST.out] at h2
  go_wp2
  clear hfb
  go_loop [3, 9] (fun z i => ∃ k : Nat, k ≤ x.length ∧ i = .int .i64 (k : Int) ∧ z = .int .u64 (unlow (x.take k) : Int)) (fun _ i => x.length - (intOf i).toNat)
  case atStart => exact ⟨0, Nat.zero_le _, rfl, rfl⟩
  case round =>
    obtain ⟨k, hk, rfl, rfl⟩ := hrel
    by_cases hlt : k < x.length
    · obtain ⟨ad, rfl⟩ := hr.some_of (by omega)
      have hcell := hr.at_ k hlt
      have hlt' := unlow_lt (x.take k)
      have hsn := unlow_snoc (x.take k) x[k]
      rw [← List.take_succ_eq_append_getElem hlt] at hsn
      have hkl : (x.take k).length = k := by rw [List.length_take]; omega
      rw [hkl] at hlt' hsn
      rw [show (256 : Nat) = 2 ^ 8 from rfl, ← Nat.pow_mul] at hlt' hsn
      generalize unlow (x.take k) = n at *
      generalize x[k] = y at *
      have hor := or_byte n k y (by omega) hlt'
      rw [← hsn] at hor
      have HSN := Lib.hid hsn
      clear hsn hlt' hkl
      generalize hn2 : unlow (x.take (k + 1)) = n2 at *
      have i0 : (0 : Int) ≤ (k : Int) := by omega
      have i1 : (k : Int) < (x.length : Int) := by omega
      have HN2 : Hid (n2 = unlow (x.take (k + 1))) := Lib.hid hn2.symm
      clear hn2
      go_wp2
      go_round
      case rel => exact ⟨k + 1, by omega, by go_num, by rw [← HN2.out]⟩
      case measure => simp [intOf]; try omega
    · obtain rfl : k = x.length := by omega
      rw [List.take_length]
      have hfb := frombits_run (unlow x : Int)
      go_wp2
      go_ret
      exact ⟨rfl, h2, hk2⟩
end Go.Proofs.Ytlgkcpgbmobacaa
