/-
  Eye.Num, Eye.Text, Eye.Float.
-/
import Derived.Test.YtpnfgnddlfkfaaaEye
set_option linter.unusedSimpArgs false
set_option linter.unusedVariables false
namespace Go.Proofs.Ytpnfgnddlfkfaaa
open Go.RowKit

/-- a number, from its byte i on; n: what the bytes ahead tell; k: how many more it may have -/
def eNumGo : Nat → Nat → Nat → Option (List UInt8) → Nat × Option (List UInt8)
  | k + 1, i, n, some (b :: l) =>
    if 128 ≤ b.toNat then eNumGo k (i + 1) (n + b.toNat % 128 * 2 ^ (7 * i)) (some l)
    else if 4611686018427387904 < n + b.toNat % 128 * 2 ^ (7 * i) ∨ (b.toNat = 0 ∧ 0 < i) then (0, none)
    else (n + b.toNat % 128 * 2 ^ (7 * i), some l)
  | _, _, _, _ => (0, none)
def eNum (st : Option (List UInt8)) : Nat × Option (List UInt8) := eNumGo 9 0 0 st

theorem and_127 (b : UInt8) : bits .and .u8 (b.toNat : Int) 127 = ((b.toNat % 128 : Nat) : Int) := by
  have h : ∀ m : Fin 256, bits .and .u8 ((m.val : Nat) : Int) 127 = ((m.val % 128 : Nat) : Int) := by decide +kernel
  exact h ⟨b.toNat, b.toNat_lt⟩

theorem or_add (n x k : Nat) (h : n < 2 ^ k) : n ||| (x * 2 ^ k) = n + x * 2 ^ k := by
  have h1 : n ||| (x * 2 ^ k) = x * 2 ^ k + n := by
    rw [Nat.or_comm, ← Nat.shiftLeft_eq, ← Nat.shiftLeft_add_eq_or_of_lt h]
  omega
theorem pow_le (q : Nat) (hq : q ≤ 8) : 2 ^ (7 * q) ≤ 72057594037927936 := Nat.le_trans (Nat.pow_le_pow_right (by omega) (show 7 * q ≤ 56 by omega)) (by decide)
/-- what the walk spells for the next seven bits -/
theorem or_bits (n q : Nat) (b : UInt8) (hq : q ≤ 8) (h : n < 2 ^ (7 * q)) :
    bits .or .u64 (n : Int) (IntKind.u64.wrap (IntKind.u64.wrap (bits .and .u8 (b.toNat : Int) 127) * 2 ^ (7 * q))) = ((n + b.toNat % 128 * 2 ^ (7 * q) : Nat) : Int) := by
  rw [and_127]
  have hp := pow_le q hq
  have hpow : (2 : Int) ^ (7 * q) = ((2 ^ (7 * q) : Nat) : Int) := by simp
  rw [hpow, ← or_add n (b.toNat % 128) (7 * q) h]
  generalize hP : 2 ^ (7 * q) = P at *
  have hx : b.toNat % 128 < 128 := Nat.mod_lt _ (by omega)
  generalize b.toNat % 128 = x at *
  have hm : x * P < 9223372036854775808 := by
    have : x * P ≤ 127 * 72057594037927936 := Nat.mul_le_mul (by omega) hp
    omega
  have e1 : IntKind.u64.wrap (x : Int) = (x : Int) := by simp [IntKind.wrap, IntKind.signed, IntKind.bits]; omega
  rw [e1]
  have e2 : IntKind.u64.wrap ((x : Int) * (P : Int)) = ((x * P : Nat) : Int) := by
    rw [← Int.natCast_mul]
    generalize x * P = y at *
    simp [IntKind.wrap, IntKind.signed, IntKind.bits]; omega
  rw [e2]
  generalize x * P = y at *
  unfold bits
  simp only [IntKind.bits]
  show IntKind.wrap .u64 ((BitVec.ofInt 64 (n : Int) ||| BitVec.ofInt 64 (y : Int)).toNat : Int) = _
  have e : (BitVec.ofInt 64 (n : Int) ||| BitVec.ofInt 64 (y : Int)).toNat = n ||| y := by
    simp only [BitVec.ofInt_natCast, BitVec.toNat_or, BitVec.toNat_ofNat]
    rw [Nat.mod_eq_of_lt (by omega), Nat.mod_eq_of_lt (by omega)]
  rw [e]
  have hlt : n ||| y < 2 ^ 64 := Nat.or_lt_two_pow (by omega) (by omega)
  generalize n ||| y = c at *
  simp [IntKind.wrap, IntKind.signed, IntKind.bits]
  omega

set_option maxRecDepth 100000 in
set_option maxHeartbeats 2000000 in
theorem eye_num (g : Nat) (st : Option (List UInt8)) (w : World) (h : EyeAt w g st) (hg : g < w.heap.size) :
    Calls Try.prog 47 #[.pointer (some ⟨g, 0, none⟩)] w fun e w' => e = .returned (.int .i64 ((eNum st).1 : Int)) ∧ EyeAt w' g (eNum st).2 ∧ Kept g w.heap.size w w' := by
  have hres : ∃ r, eNum st = r := ⟨_, rfl⟩
  obtain ⟨r, hres⟩ := hres
  rw [hres]
  have HRES := Lib.hid hres
  clear hres
  go_enter Try.func47, Try.ntmps47
  go_wp2
  go_loopw [3, 6] (fun z i wr => ∃ (k q n : Nat) (st' : Option (List UInt8)), k + q = 9 ∧ i = .int .i64 (q : Int) ∧ z = .int .u64 (n : Int) ∧ EyeAt wr g st' ∧ Hid (eNumGo k q n st' = r) ∧ Hid (n < 2 ^ (7 * q)) ∧ Kept g w.heap.size w wr) (fun _ i _ => 9 - (intOf i).toNat)
  case atStart => exact ⟨9, 0, 0, st, rfl, rfl, rfl, h, HRES, (show 0 < 2 ^ (7 * 0) by decide), Kept.refl _ _ _⟩
  case round =>
    obtain ⟨k, q, n, st', hkq, rfl, rfl, he, hr, hn, hk⟩ := hrel
    have hgr : g < wr.heap.size := Nat.lt_of_lt_of_le hg hk.size
    clear h HRES
    cases k with
    | succ k =>
      match st', he, hr with
      | some (b :: l), he, hr =>
        have hb8 := b.toNat_lt
        have hb8 := b.toNat_lt
        have e1 : eByte (some (b :: l)) = (b, some l) := rfl
        have HE := Lib.hid e1
        clear e1
        have hq8 : q ≤ 8 := by omega
        have hor := or_bits n q b hq8 hn.out
        have hunf : eNumGo (k + 1) q n (some (b :: l)) = (if 128 ≤ b.toNat then eNumGo k (q + 1) (n + b.toNat % 128 * 2 ^ (7 * q)) (some l)
          else if 4611686018427387904 < n + b.toNat % 128 * 2 ^ (7 * q) ∨ (b.toNat = 0 ∧ 0 < q) then (0, none)
          else (n + b.toNat % 128 * 2 ^ (7 * q), some l)) := rfl
        have hnext : n + b.toNat % 128 * 2 ^ (7 * q) < 2 ^ (7 * (q + 1)) := by
          have h1 := hn.out
          have hx : b.toNat % 128 < 128 := Nat.mod_lt _ (by omega)
          rw [show 7 * (q + 1) = 7 * q + 7 by omega, Nat.pow_add]
          generalize 2 ^ (7 * q) = P at *
          have : b.toNat % 128 * P ≤ 127 * P := Nat.mul_le_mul_right _ (by omega)
          omega
        rw [hr.out] at hunf
        by_cases hb128 : (128 : Int) ≤ (b.toNat : Int)
        · rw [if_pos (by omega)] at hunf
          generalize n + b.toNat % 128 * 2 ^ (7 * q) = m at *
          have HU := Lib.hid hunf
          have HN := Lib.hid hnext
          clear hunf hnext
          go_wp2_with fail
          refine (eye_byte g _ wr he hgr).mono ?_
          rintro e w1 ⟨rfl, h1, hk1⟩
          rw [HE.out] at h1 ⊢
          go_wp2_with fail
          refine (eye_bad g _ w1 h1).mono ?_
          rintro e w2 ⟨rfl, rfl⟩
          go_wp2
          go_roundw
          case measure => simp [intOf]; try omega
          case rel => exact ⟨k, q + 1, m, some l, by omega, by go_num, rfl, h1, HU.out.symm, HN.out, hk.trans (hk1.mono hk.size)⟩
        · rw [if_neg (by omega)] at hunf
          by_cases hfull : 4611686018427387904 < n + b.toNat % 128 * 2 ^ (7 * q) ∨ (b.toNat = 0 ∧ 0 < q)
          · rw [if_pos hfull] at hunf
            subst hunf
            by_cases hbz : b = 0
            · subst hbz
              have hz : n + (0 : UInt8).toNat % 128 * 2 ^ (7 * q) = n := by simp
              rw [hz] at hor hfull hnext
              have hfull2 : (4611686018427387904 : Int) < (n : Int) ∨ (0 : Int) < (q : Int) := by
                rcases hfull with h | h
                · left; omega
                · right; omega
              rw [show (((0 : UInt8).toNat : Nat) : Int) = 0 from rfl] at hor
              clear hfull hz hnext hr
              by_cases hq0 : (0 : Int) < (q : Int)
              · by_cases hn2 : (4611686018427387904 : Int) < (n : Int)
                all_goals
                  go_wp2_with fail
                  refine (eye_byte g _ wr he hgr).mono ?_
                  rintro e w1 ⟨rfl, h1, hk1⟩
                  rw [HE.out] at h1 ⊢
                  rw [show (((0 : UInt8).toNat : Nat) : Int) = 0 from rfl]
                  go_wp2_with fail
                  refine (eye_bad g _ w1 h1).mono ?_
                  rintro e w2 ⟨rfl, rfl⟩
                  go_wp2_with fail
                  refine (eye_fail g _ w1 h1).mono ?_
                  rintro e w2 ⟨rfl, h2, hk2⟩
                  go_wp2
                  go_ret
                  exact ⟨rfl, h2, (hk.trans (hk1.mono hk.size)).trans (hk2.mono (Nat.le_trans hk.size hk1.size))⟩
              · have hn2 : (4611686018427387904 : Int) < (n : Int) := by omega
                go_wp2_with fail
                refine (eye_byte g _ wr he hgr).mono ?_
                rintro e w1 ⟨rfl, h1, hk1⟩
                rw [HE.out] at h1 ⊢
                rw [show (((0 : UInt8).toNat : Nat) : Int) = 0 from rfl]
                go_wp2_with fail
                refine (eye_bad g _ w1 h1).mono ?_
                rintro e w2 ⟨rfl, rfl⟩
                go_wp2_with fail
                refine (eye_fail g _ w1 h1).mono ?_
                rintro e w2 ⟨rfl, h2, hk2⟩
                go_wp2
                go_ret
                exact ⟨rfl, h2, (hk.trans (hk1.mono hk.size)).trans (hk2.mono (Nat.le_trans hk.size hk1.size))⟩
            · have hbz2 : ((b.toNat : Int) == 0) = false := beq_eq_false_iff_ne.2 (fun h => hbz (UInt8.toNat_inj.1 (by simp; omega)))
              have hfull2 : (4611686018427387904 : Int) < ((n + b.toNat % 128 * 2 ^ (7 * q) : Nat) : Int) := by
                rcases hfull with h | h
                · omega
                · exact absurd (UInt8.toNat_inj.1 (by simp; omega)) hbz
              clear hfull hnext hr hbz
              generalize n + b.toNat % 128 * 2 ^ (7 * q) = m at *
              go_wp2_with fail
              refine (eye_byte g _ wr he hgr).mono ?_
              rintro e w1 ⟨rfl, h1, hk1⟩
              rw [HE.out] at h1 ⊢
              go_wp2_with fail
              refine (eye_bad g _ w1 h1).mono ?_
              rintro e w2 ⟨rfl, rfl⟩
              go_wp2_with fail
              refine (eye_fail g _ w1 h1).mono ?_
              rintro e w2 ⟨rfl, h2, hk2⟩
              go_wp2
              go_ret
              exact ⟨rfl, h2, (hk.trans (hk1.mono hk.size)).trans (hk2.mono (Nat.le_trans hk.size hk1.size))⟩
          · rw [if_neg hfull] at hunf
            by_cases hbz : b = 0
            · subst hbz
              have hz : n + (0 : UInt8).toNat % 128 * 2 ^ (7 * q) = n := by simp
              rw [hz] at hor hfull hnext hunf
              subst hunf
              have hq0 : ¬ (0 : Int) < (q : Int) := fun h => hfull (.inr ⟨rfl, by omega⟩)
              have hn2 : ¬ (4611686018427387904 : Int) < (n : Int) := fun h => hfull (.inl (by omega))
              rw [show (((0 : UInt8).toNat : Nat) : Int) = 0 from rfl] at hor
              clear hfull hz hnext hr
              go_wp2_with fail
              refine (eye_byte g _ wr he hgr).mono ?_
              rintro e w1 ⟨rfl, h1, hk1⟩
              rw [HE.out] at h1 ⊢
              rw [show (((0 : UInt8).toNat : Nat) : Int) = 0 from rfl]
              go_wp2_with fail
              refine (eye_bad g _ w1 h1).mono ?_
              rintro e w2 ⟨rfl, rfl⟩
              go_wp2
              go_ret
              exact ⟨rfl, h1, hk.trans (hk1.mono hk.size)⟩
            · have hbz2 : ((b.toNat : Int) == 0) = false := beq_eq_false_iff_ne.2 (fun h => hbz (UInt8.toNat_inj.1 (by simp; omega)))
              have hn2 : ¬ (4611686018427387904 : Int) < ((n + b.toNat % 128 * 2 ^ (7 * q) : Nat) : Int) := fun h => hfull (.inl (by omega))
              clear hfull hnext hr hbz
              generalize n + b.toNat % 128 * 2 ^ (7 * q) = m at *
              subst hunf
              go_wp2_with fail
              refine (eye_byte g _ wr he hgr).mono ?_
              rintro e w1 ⟨rfl, h1, hk1⟩
              rw [HE.out] at h1 ⊢
              go_wp2_with fail
              refine (eye_bad g _ w1 h1).mono ?_
              rintro e w2 ⟨rfl, rfl⟩
              go_wp2
              go_ret
              exact ⟨rfl, h1, hk.trans (hk1.mono hk.size)⟩
      | some [], he, hr =>
        have hr2 : r = (0, none) := hr.out.symm
        subst hr2
        go_wp2_with fail
        refine (eye_byte g _ wr he hgr).mono ?_
        rintro e w1 ⟨rfl, h1, hk1⟩
        go_wp2_with fail
        refine (eye_bad g _ w1 h1).mono ?_
        rintro e w2 ⟨rfl, rfl⟩
        go_wp2
        go_ret
        exact ⟨rfl, h1, hk.trans (hk1.mono hk.size)⟩
      | none, he, hr =>
        have hr2 : r = (0, none) := hr.out.symm
        subst hr2
        go_wp2_with fail
        refine (eye_byte g _ wr he hgr).mono ?_
        rintro e w1 ⟨rfl, h1, hk1⟩
        go_wp2_with fail
        refine (eye_bad g _ w1 h1).mono ?_
        rintro e w2 ⟨rfl, rfl⟩
        go_wp2
        go_ret
        exact ⟨rfl, h1, hk.trans (hk1.mono hk.size)⟩
    | zero =>
      have hr2 : r = (0, none) := by have := hr.out; unfold eNumGo at this; exact this.symm
      subst hr2
      obtain rfl : q = 9 := by omega
      go_wp2_with fail
      refine (eye_fail g _ wr he).mono ?_
      rintro e w2 ⟨rfl, h2, hk2⟩
      go_wp2
      go_ret
      exact ⟨rfl, h2, hk.trans (hk2.mono hk.size)⟩
end Go.Proofs.Ytpnfgnddlfkfaaa
