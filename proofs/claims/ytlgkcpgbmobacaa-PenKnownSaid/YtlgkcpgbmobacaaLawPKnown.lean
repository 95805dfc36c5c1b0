/-
  What PenKnown calls and gives.
-/
import Derived.Test.YtlgkcpgbmobacaaLaw2
import Derived.Test.YtlgkcpgbmobacaaPenTurn
set_option linter.unusedSimpArgs false
set_option linter.unusedVariables false
namespace Go.Proofs.Ytlgkcpgbmobacaa
open Go.RowKit

set_option maxRecDepth 100000 in
set_option maxHeartbeats 2000000 in
theorem copysign (w : World) :
    Calls Try.prog 35 #[.float .f64 0, .float .f64 13830554455654793216] w fun e w' => e = .returned (.float .f64 9223372036854775808) ∧ w = w' := by
  have h1 := bits_run 0
  have h2 := bits_run 13830554455654793216
  have h3 := frombits_run 9223372036854775808
  go_enter Try.func35, Try.ntmps35
  have hk : bits .or .u64 (bits .andNot .u64 0 9223372036854775808) (bits .and .u64 13830554455654793216 9223372036854775808) = 9223372036854775808 := by decide +kernel
  go_wp2
  go_ret
  exact ⟨rfl, rfl⟩
set_option maxRecDepth 100000 in
set_option maxHeartbeats 4000000 in
theorem pknown_walk (w : World) :
    Calls Try.prog 7 #[] w fun e w' => e = .returned (.bool true) ∧ Below w.heap.size w w' := by
  go_enter Try.func7, Try.ntmps7
  go_wp2_with fail
  refine (law2_awake _).mono ?_
  rintro e w1 ⟨rfl, hb1⟩
  go_wp2
  have r0 : RB (w1.alloc (.cells #[] 5)) (some ⟨w1.heap.size, 0, none⟩) [] := RB.lit w1 _ _ [] _ rfl
  have b0 : Below w1.heap.size w1 (w1.alloc (.cells #[] 5)) := bal (Below.refl _ _) _
  have s0 := size_more w1 (.cells #[] 5)
  generalize (w1.alloc (.cells #[] 5)) = W1 at *
  have r1 : RB (W1.alloc (.cells #[.int .u8 128] 5)) (some ⟨W1.heap.size, 0, none⟩) [128] := RB.lit W1 _ _ [128] _ rfl
  have b1 : Below W1.heap.size W1 (W1.alloc (.cells #[.int .u8 128] 5)) := bal (Below.refl _ _) _
  have s1 := size_more W1 (.cells #[.int .u8 128] 5)
  generalize (W1.alloc (.cells #[.int .u8 128] 5)) = W2 at *
  have r2 : RB (W2.alloc (.cells #[.int .u8 128, .int .u8 0] 5)) (some ⟨W2.heap.size, 0, none⟩) [128, 0] := RB.lit W2 _ _ [128, 0] _ rfl
  have b2 : Below W2.heap.size W2 (W2.alloc (.cells #[.int .u8 128, .int .u8 0] 5)) := bal (Below.refl _ _) _
  have s2 := size_more W2 (.cells #[.int .u8 128, .int .u8 0] 5)
  generalize (W2.alloc (.cells #[.int .u8 128, .int .u8 0] 5)) = W3 at *
  have r3 : RB (W3.alloc (.cells #[.int .u8 255, .int .u8 0] 5)) (some ⟨W3.heap.size, 0, none⟩) [255, 0] := RB.lit W3 _ _ [255, 0] _ rfl
  have b3 : Below W3.heap.size W3 (W3.alloc (.cells #[.int .u8 255, .int .u8 0] 5)) := bal (Below.refl _ _) _
  have s3 := size_more W3 (.cells #[.int .u8 255, .int .u8 0] 5)
  generalize (W3.alloc (.cells #[.int .u8 255, .int .u8 0] 5)) = W4 at *
  have r4 : RB (W4.alloc (.cells #[.int .u8 128, .int .u8 128, .int .u8 128, .int .u8 128, .int .u8 128, .int .u8 128, .int .u8 128, .int .u8 128, .int .u8 128, .int .u8 1] 5)) (some ⟨W4.heap.size, 0, none⟩) [128, 128, 128, 128, 128, 128, 128, 128, 128, 1] := RB.lit W4 _ _ [128, 128, 128, 128, 128, 128, 128, 128, 128, 1] _ rfl
  have b4 : Below W4.heap.size W4 (W4.alloc (.cells #[.int .u8 128, .int .u8 128, .int .u8 128, .int .u8 128, .int .u8 128, .int .u8 128, .int .u8 128, .int .u8 128, .int .u8 128, .int .u8 1] 5)) := bal (Below.refl _ _) _
  have s4 := size_more W4 (.cells #[.int .u8 128, .int .u8 128, .int .u8 128, .int .u8 128, .int .u8 128, .int .u8 128, .int .u8 128, .int .u8 128, .int .u8 128, .int .u8 1] 5)
  generalize (W4.alloc (.cells #[.int .u8 128, .int .u8 128, .int .u8 128, .int .u8 128, .int .u8 128, .int .u8 128, .int .u8 128, .int .u8 128, .int .u8 128, .int .u8 1] 5)) = W5 at *
  have r5 : RB (W5.alloc (.cells #[.int .u8 129, .int .u8 128, .int .u8 128, .int .u8 128, .int .u8 128, .int .u8 128, .int .u8 128, .int .u8 128, .int .u8 64] 5)) (some ⟨W5.heap.size, 0, none⟩) [129, 128, 128, 128, 128, 128, 128, 128, 64] := RB.lit W5 _ _ [129, 128, 128, 128, 128, 128, 128, 128, 64] _ rfl
  have b5 : Below W5.heap.size W5 (W5.alloc (.cells #[.int .u8 129, .int .u8 128, .int .u8 128, .int .u8 128, .int .u8 128, .int .u8 128, .int .u8 128, .int .u8 128, .int .u8 64] 5)) := bal (Below.refl _ _) _
  have s5 := size_more W5 (.cells #[.int .u8 129, .int .u8 128, .int .u8 128, .int .u8 128, .int .u8 128, .int .u8 128, .int .u8 128, .int .u8 128, .int .u8 64] 5)
  generalize (W5.alloc (.cells #[.int .u8 129, .int .u8 128, .int .u8 128, .int .u8 128, .int .u8 128, .int .u8 128, .int .u8 128, .int .u8 128, .int .u8 64] 5)) = W6 at *
  have hB := Blk.new W6 24 #[.slice (some ⟨w1.heap.size, 0, none⟩) 0 0, .slice (some ⟨w1.heap.size + 1, 0, none⟩) 1 1, .slice (some ⟨w1.heap.size + 1 + 1, 0, none⟩) 2 2, .slice (some ⟨w1.heap.size + 1 + 1 + 1, 0, none⟩) 2 2, .slice (some ⟨w1.heap.size + 1 + 1 + 1 + 1, 0, none⟩) 10 10, .slice (some ⟨w1.heap.size + 1 + 1 + 1 + 1 + 1, 0, none⟩) 9 9]
  have b6 : Below W6.heap.size W6 (W6.alloc (.cells #[.slice (some ⟨w1.heap.size, 0, none⟩) 0 0, .slice (some ⟨w1.heap.size + 1, 0, none⟩) 1 1, .slice (some ⟨w1.heap.size + 1 + 1, 0, none⟩) 2 2, .slice (some ⟨w1.heap.size + 1 + 1 + 1, 0, none⟩) 2 2, .slice (some ⟨w1.heap.size + 1 + 1 + 1 + 1, 0, none⟩) 10 10, .slice (some ⟨w1.heap.size + 1 + 1 + 1 + 1 + 1, 0, none⟩) 9 9] 24)) := bal (Below.refl _ _) _
  rw [s0] at r1
  rw [s1, s0] at r2
  rw [s2, s1, s0] at r3
  rw [s3, s2, s1, s0] at r4
  rw [s4, s3, s2, s1, s0] at r5
  rw [s5, s4, s3, s2, s1, s0] at hB
  generalize (W6.alloc (.cells #[.slice (some ⟨w1.heap.size, 0, none⟩) 0 0, .slice (some ⟨w1.heap.size + 1, 0, none⟩) 1 1, .slice (some ⟨w1.heap.size + 1 + 1, 0, none⟩) 2 2, .slice (some ⟨w1.heap.size + 1 + 1 + 1, 0, none⟩) 2 2, .slice (some ⟨w1.heap.size + 1 + 1 + 1 + 1, 0, none⟩) 10 10, .slice (some ⟨w1.heap.size + 1 + 1 + 1 + 1 + 1, 0, none⟩) 9 9] 24)) = W7 at *
  have q0 := r0.below (bn (bn (bn (bn (bn b1 b2) b3) b4) b5) b6)
  have q1 := r1.below (bn (bn (bn (bn b2 b3) b4) b5) b6)
  have q2 := r2.below (bn (bn (bn b3 b4) b5) b6)
  have q3 := r3.below (bn (bn b4 b5) b6)
  have q4 := r4.below (bn b5 b6)
  have q5 := r5.below b6
  have hb7 : Below w.heap.size w W7 := bn (bn (bn (bn (bn (bn (bn hb1 b0) b1) b2) b3) b4) b5) b6
  generalize hS : w1.heap.size = S at *
  have hall : ∀ k, k < 6 → ∃ A m l, W7.cell? ⟨S + 1 + 1 + 1 + 1 + 1 + 1, k, none⟩ = some (.slice A m m) ∧ l.length = m ∧ m ≤ 10 ∧ RB W7 A l ∧ eNum (some l) = (0, none) := by
    intro k hk
    match k, hk with
    | 0, _ => exact ⟨_, _, [], hB.cell 0, rfl, by decide, q0, by decide +kernel⟩
    | 1, _ => exact ⟨_, _, [128], hB.cell 1, rfl, by decide, q1, by decide +kernel⟩
    | 2, _ => exact ⟨_, _, [128, 0], hB.cell 2, rfl, by decide, q2, by decide +kernel⟩
    | 3, _ => exact ⟨_, _, [255, 0], hB.cell 3, rfl, by decide, q3, by decide +kernel⟩
    | 4, _ => exact ⟨_, _, [128, 128, 128, 128, 128, 128, 128, 128, 128, 1], hB.cell 4, rfl, by decide, q4, by decide +kernel⟩
    | 5, _ => exact ⟨_, _, [129, 128, 128, 128, 128, 128, 128, 128, 64], hB.cell 5, rfl, by decide, q5, by decide +kernel⟩
    | k + 6, hk => omega
  have HALL := Lib.hid hall
  clear hall r0 r1 r2 r3 r4 r5 q0 q1 q2 q3 q4 q5 b0 b1 b2 b3 b4 b5 b6 s0 s1 s2 s3 s4 s5 hB hS hb1
  generalize S + 1 + 1 + 1 + 1 + 1 + 1 = T at *
  go_loopw [2] (fun i wr => ∃ k : Nat, k ≤ 6 ∧ i = .int .i64 (k : Int) ∧ Below W7.heap.size W7 wr) (fun i _ => 6 - (intOf i).toNat)
  case atStart => exact ⟨0, Nat.zero_le _, rfl, Below.refl _ _⟩
  case round =>
    obtain ⟨k, hk, rfl, hbr⟩ := hrel
    by_cases hlt : k < 6
    · obtain ⟨A, m, l, hc, hl, hm10, hr, hn⟩ := HALL.out k hlt
      have hcell : wr.cell? ⟨T, k, none⟩ = some (.slice A m m) := (hbr.cell (block_lt_of_cell hc)).trans hc
      have HN := Lib.hid hn
      have HL := Lib.hid hl
      have i0 : (0 : Int) ≤ (k : Int) := by omega
      have i1 : (k : Int) < 6 := by omega
      clear hn hc hl
      go_wp2_with fail
      refine (eye_new A m m l _ HL.out (by rw [HL.out]; omega) (hr.below hbr)).mono ?_
      rintro e w2 ⟨g, rfl, hg, he2, hb2⟩
      have hz1 := hbr.size
      have hbr2 := bn hbr hb2
      have hz2 := hbr2.size
      have hg7 : W7.heap.size ≤ g := by omega
      have hg2 : g < w2.heap.size := by obtain ⟨_, _, h, _⟩ := he2; exact h.lt
      go_wp2_with fail
      refine (eye_num g _ w2 he2 hg2).mono ?_
      rintro e w3 ⟨rfl, he3, hk3⟩
      rw [HN.out] at he3 ⊢
      have hbr3 := hbr2.trans (hk3.below hz2 hg7)
      have hz3 := hbr3.size
      have hg3 := Nat.lt_of_lt_of_le hg2 hk3.size
      go_wp2_with fail
      refine (eye_bad g _ w3 he3).mono ?_
      rintro e _ ⟨rfl, rfl⟩
      go_wp2_with fail
      refine (eye_left g _ w3 he3).mono ?_
      rintro e _ ⟨rfl, rfl⟩
      rw [show ((left none : Nat) : Int) = 0 from rfl]
      go_wp2_with fail
      refine (eye_byte g _ w3 he3 hg3).mono ?_
      rintro e w4 ⟨rfl, he4, hk4⟩
      rw [eByte_none] at he4 ⊢
      have hbr4 := hbr3.trans (hk4.below hz3 hg7)
      have hz4 := hbr4.size
      have hg4 := Nat.lt_of_lt_of_le hg3 hk4.size
      go_wp2_with fail
      refine (eye_text g _ w4 he4 hg4).mono ?_
      rintro e w5 ⟨rfl, he5, hk5⟩
      rw [eText_none] at he5 ⊢
      have hbr5 := hbr4.trans (hk5.below hz4 hg7)
      have hz5 := hbr5.size
      have hg5 := Nat.lt_of_lt_of_le hg4 hk5.size
      go_wp2_with fail
      refine (eye_float g _ w5 he5 hg5).mono ?_
      rintro e w6 ⟨rfl, he6, hk6⟩
      rw [eFloat_none] at he6 ⊢
      have hbr6 := hbr5.trans (hk6.below hz5 hg7)
      go_wp2
      go_roundw
      case rel => exact ⟨k + 1, by omega, by go_num, hbr6⟩
      case measure => simp [intOf]; try omega
    · obtain rfl : k = 6 := by omega
      have hb := bn hb7 hbr
      clear hb7 hbr HALL
      go_wp2_with fail
      have hl0 := RB.lit wr 5 (0, 0) [128, 128, 128, 128, 128, 128, 128, 128, 64, 3, 1, 2] _ rfl
      refine (eye_new _ 12 12 [128, 128, 128, 128, 128, 128, 128, 128, 64, 3, 1, 2] _ rfl (by decide) hl0).mono ?_
      rintro e w2 ⟨g, rfl, hg, he2, hb2⟩
      have hb2 := bn (bal hb _) hb2
      have hz2 := hb2.size
      have hgw : w.heap.size ≤ g := by have := hb.size; simp at hg; omega
      have hg2 : g < w2.heap.size := by obtain ⟨_, _, h, _⟩ := he2; exact h.lt
      have hn : eNum (some [128, 128, 128, 128, 128, 128, 128, 128, 64, 3, 1, 2]) = (4611686018427387904, some [3, 1, 2]) := by decide +kernel
      have hx : eText (some [3, 1, 2]) = ([], none) := by decide +kernel
      have HN := Lib.hid hn
      have HX := Lib.hid hx
      clear hn hx hg hl0
      go_wp2_with fail
      refine (eye_num g _ w2 he2 hg2).mono ?_
      rintro e w3 ⟨rfl, he3, hk3⟩
      rw [HN.out] at he3 ⊢
      have hb3 := hb2.trans (hk3.below hz2 hgw)
      have hz3 := hb3.size
      have hg3 := Nat.lt_of_lt_of_le hg2 hk3.size
      go_wp2_with fail
      refine (eye_text g _ w3 he3 hg3).mono ?_
      rintro e w4 ⟨rfl, he4, hk4⟩
      rw [HX.out] at he4 ⊢
      have hb4 := hb3.trans (hk4.below hz3 hgw)
      have hz4 := hb4.size
      have hp := pen_fresh w4
      have hz := size_more w4 (.cells #[.slice none 0 0] 26)
      have HZ := Lib.hid hz
      clear hz
      go_wp2_with fail
      refine (pen_num w4.heap.size (w4.heap.size + 1) [] (-5) (by decide) (by decide) _ hp (by rw [HZ.out]; omega) (by simp)).mono ?_
      rintro e w5 ⟨rfl, hp5, hk5⟩
      rw [List.nil_append, show num (-5 : Int).toNat = [0] from num_small 0 (by decide)] at hp5
      have z5 := hk5.size
      rw [HZ.out] at z5
      go_wp2_with fail
      refine (pen_text w4.heap.size (w4.heap.size + 1) [0] [] _ hp5 z5 (by simp)).mono ?_
      rintro e w6 ⟨rfl, hp6, hk6⟩
      rw [show num ([] : List UInt8).length = [0] from num_small 0 (by decide)] at hp6
      have z6 := Nat.le_trans z5 hk6.size
      go_wp2_with fail
      refine (copysign _).mono ?_
      rintro e _ ⟨rfl, rfl⟩
      go_wp2_with fail
      refine (pen_float w4.heap.size (w4.heap.size + 1) _ 9223372036854775808 _ hp6 z6 (by simp)).mono ?_
      rintro e w7 ⟨rfl, hp7, hk7⟩
      rw [show low 8 9223372036854775808 = [0, 0, 0, 0, 0, 0, 0, 128] by decide +kernel] at hp7
      have z7 := Nat.le_trans z6 hk7.size
      go_wp2_with fail
      refine (pen_byte w4.heap.size (w4.heap.size + 1) _ 9 _ rfl _ hp7 z7 (by simp)).mono ?_
      rintro e w8 ⟨rfl, hp8, hk8⟩
      have hk48 := ((hk5.trans hk6).trans hk7).trans hk8
      have hb48 : Below w4.heap.size w4 w8 := (bal (Below.refl _ w4) _).trans (hk48.below (by omega) (Nat.le_refl _))
      have hb08 := hb4.trans (hb48.mono hz4)
      have he8 := he4.keep hb48
      simp only [List.nil_append, List.cons_append, List.append_nil] at hp8
      clear hp hp5 hp6 hp7 hk5 hk6 hk7 hk8 hk48 hb48 he4 he3 he2
      go_wp2_with fail
      refine (eye_bad g _ w8 he8).mono ?_
      rintro e _ ⟨rfl, rfl⟩
      go_wp2_with fail
      refine (pen_bytes _ _ _ w8 hp8 (by decide)).mono ?_
      rintro e w9 ⟨v9, rfl, ho9, hb9⟩
      obtain ⟨A9, c9, rfl, k9, r9⟩ := ho9.bytes
      have hv := run_str_try w9 A9 c9 11 _ rfl r9
      go_wp2
      go_ret
      exact ⟨rfl, bn hb08 hb9⟩
end Go.Proofs.Ytlgkcpgbmobacaa
