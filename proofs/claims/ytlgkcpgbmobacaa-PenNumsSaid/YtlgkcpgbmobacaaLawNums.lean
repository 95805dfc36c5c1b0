/-
  What PenNums calls and gives.
-/
import Derived.Test.YtlgkcpgbmobacaaLaw2
set_option linter.unusedSimpArgs false
set_option linter.unusedVariables false
namespace Go.Proofs.Ytlgkcpgbmobacaa
open Go.RowKit

theorem num_ne_nil (n : Nat) : num n ≠ [] := by
  by_cases h : n < 128
  · rw [num_small n h]; simp
  · rw [num_great n (by omega)]; simp
theorem num_inj (n m : Nat) (h : num n = num m) : n = m := by
  induction n using Nat.strongRecOn generalizing m with
  | ind n ih =>
    by_cases hn : n < 128
    · by_cases hm : m < 128
      · rw [num_small n hn, num_small m hm] at h
        have := congrArg UInt8.toNat (List.cons.inj h).1
        rw [UInt8.toNat_ofNat', UInt8.toNat_ofNat'] at this
        omega
      · rw [num_small n hn, num_great m (by omega)] at h
        exact absurd (List.cons.inj h).2.symm (num_ne_nil _)
    · by_cases hm : m < 128
      · rw [num_small m hm, num_great n (by omega)] at h
        exact absurd (List.cons.inj h).2 (num_ne_nil _)
      · rw [num_great n (by omega), num_great m (by omega)] at h
        have h1 := congrArg UInt8.toNat (List.cons.inj h).1
        rw [UInt8.toNat_ofNat', UInt8.toNat_ofNat'] at h1
        have h2 := ih (n / 128) (by omega) (m / 128) (List.cons.inj h).2
        omega

set_option maxRecDepth 100000 in
set_option maxHeartbeats 4000000 in
theorem nums_walk (n m : Int) (hn : -9223372036854775808 ≤ n ∧ n ≤ 9223372036854775807) (hm : -9223372036854775808 ≤ m ∧ m ≤ 9223372036854775807) (w : World) :
    Calls Try.prog 3 #[.int .i64 n, .int .i64 m] w fun e w' => e = .returned (.bool true) ∧ Below w.heap.size w w' := by
  obtain ⟨hn1, hn2⟩ := hn
  obtain ⟨hm1, hm2⟩ := hm
  by_cases hbad : n < 0 ∨ m < 0 ∨ 4611686018427387904 < n ∨ 4611686018427387904 < m
  · by_cases h1 : n < 0
    · go_enter Try.func3, Try.ntmps3
      go_wp2_with fail
      refine (law2_awake _).mono ?_
      rintro e w1 ⟨rfl, hb1⟩
      go_wp2
      go_ret
      exact ⟨rfl, hb1⟩
    · by_cases h2 : m < 0
      · go_enter Try.func3, Try.ntmps3
        go_wp2_with fail
        refine (law2_awake _).mono ?_
        rintro e w1 ⟨rfl, hb1⟩
        go_wp2
        go_ret
        exact ⟨rfl, hb1⟩
      · by_cases h3 : 4611686018427387904 < n
        · go_enter Try.func3, Try.ntmps3
          go_wp2_with fail
          refine (law2_awake _).mono ?_
          rintro e w1 ⟨rfl, hb1⟩
          go_wp2
          go_ret
          exact ⟨rfl, hb1⟩
        · have h4 : 4611686018427387904 < m := by omega
          go_enter Try.func3, Try.ntmps3
          go_wp2_with fail
          refine (law2_awake _).mono ?_
          rintro e w1 ⟨rfl, hb1⟩
          go_wp2
          go_ret
          exact ⟨rfl, hb1⟩
  · have h1 : ¬ n < 0 := fun h => hbad (.inl h)
    have h2 : ¬ m < 0 := fun h => hbad (.inr (.inl h))
    have h3 : ¬ 4611686018427387904 < n := fun h => hbad (.inr (.inr (.inl h)))
    have h4 : ¬ 4611686018427387904 < m := fun h => hbad (.inr (.inr (.inr h)))
    clear hbad
    obtain ⟨n, rfl⟩ := Int.eq_ofNat_of_zero_le (by omega : 0 ≤ n)
    obtain ⟨m, rfl⟩ := Int.eq_ofNat_of_zero_le (by omega : 0 ≤ m)
    have hnl := num_10 n (by omega)
    have hml := num_10 m (by omega)
    go_enter Try.func3, Try.ntmps3
    go_wp2_with fail
    refine (law2_awake _).mono ?_
    rintro e w1 ⟨rfl, hb1⟩
    have hz := hb1.size
    generalize hS : w1.heap.size = S at *
    have hB1 := Blk.new w1 26 #[.slice none 0 0]
    have hB2 := Blk.new (w1.alloc (.cells #[.slice none 0 0] 26)) 26 #[.slice none 0 0]
    have hB1' := hB1.alloc (.cells #[.slice none 0 0] 26)
    have hs1 := size_more w1 (.cells #[.slice none 0 0] 26)
    have hs2 := size_more (w1.alloc (.cells #[.slice none 0 0] 26)) (.cells #[.slice none 0 0] 26)
    rw [hs1, hS] at hB2 hs2
    rw [hS] at hB1'
    have hb00 : Below S w1 ((w1.alloc (.cells #[.slice none 0 0] 26)).alloc (.cells #[.slice none 0 0] 26)) := by rw [← hS]; exact bal (bal (Below.refl _ _) _) _
    have HS2 := Lib.hid hs2
    have HS := Lib.hid hS
    clear hs1 hs2 hB1 hS
    go_wp2_with fail
    rw [HS.out]
    refine (pen_num S (S + 2) [] (n : Int) (by omega) (by omega) _ ⟨_, hB1', Own.nil _ _ _⟩ (by rw [HS2.out]; omega) (by simp)).mono ?_
    rintro e w2 ⟨rfl, hp2, hk2⟩
    rw [List.nil_append, show ((n : Int)).toNat = n by omega] at hp2
    have hq2 := hB2.keep hk2 (by omega) (by omega)
    have hb2 := hb00.trans (hk2.below (by omega) (Nat.le_refl _))
    have hz2 := hk2.size
    rw [HS2.out] at hz2
    clear hk2 hB1' hB2 hb00
    go_wp2_with fail
    refine (pen_num (S + 1) w2.heap.size [] (m : Int) (by omega) (by omega) _ ⟨_, hq2, Own.nil _ _ _⟩ (Nat.le_refl _) (by simp)).mono ?_
    rintro e w3 ⟨rfl, hq3, hk3⟩
    rw [List.nil_append, show ((m : Int)).toNat = m by omega] at hq3
    have hp3 : PenAt w3 S (S + 2) (num n) := by
      obtain ⟨v, h1, h2⟩ := hp2
      exact ⟨v, h1.keep hk3 (by omega) (by omega), h2.keep hk3 (Nat.le_refl _) (by omega)⟩
    have hb3 : Below S w1 w3 := hb2.trans (hk3.below (by omega) (by omega))
    have hb03 : Below w.heap.size w w3 := hb1.trans (hb3.mono hz)
    clear hb3 hb2 hk3 hp2 hq2 hb1
    go_wp2
    go_loop [7, 8] (fun u x => ∃ (z q : Nat), u = .int .i64 (z : Int) ∧ x = .int .i64 (q : Int) ∧ Hid (z + (num q).length = (num n).length + 1) ∧ q ≤ n ∧ z ≤ 10) (fun _ x => (intOf x).toNat)
    case atStart => exact ⟨1, n, rfl, rfl, Nat.add_comm _ _, Nat.le_refl _, by omega⟩
    case round =>
      obtain ⟨z, q, rfl, rfl, hzq, hqn, hz10⟩ := hrel
      by_cases h128 : (128 : Int) ≤ (q : Int)
      · have hg := num_great q (by omega)
        have hlen : (num q).length = (num (q / 128)).length + 1 := by rw [hg]; rfl
        have hpos : 0 < (num (q / 128)).length := List.length_pos_iff.2 (num_ne_nil _)
        have hzq' := hzq.out
        have hnew : z + 1 + (num (q / 128)).length = (num n).length + 1 := by omega
        have hz9 : z + 1 ≤ 10 := by omega
        have HNEW := Lib.hid hnew
        clear hg hlen hpos hzq' hnew hnl
        go_wp2
        go_round
        case measure => 
          have e1 : ((q : Int) / 128).toNat = q / 128 := by omega
          show (q : Int).toNat > ((q : Int) / 128).toNat
          rw [e1]
          omega
        case rel => exact ⟨z + 1, q / 128, by go_num, by go_num, HNEW.out, by omega, hz9⟩
      · have hsm : (num q).length = 1 := by rw [num_small q (by omega)]; rfl
        have hzn : (num n).length = z := by have := hzq.out; omega
        have hv1 : Hid ((num n).length = z) := Lib.hid hzn
        clear hzq hsm hzn
        have hcmp : (num n == num m) = ((n : Int) == (m : Int)) := by
          by_cases e : n = m
          · subst e; simp
          · rw [beq_eq_false_iff_ne.2 (fun h => e (num_inj n m h)), beq_eq_false_iff_ne.2 (by omega)]
        have HCMP := Lib.hid hcmp
        clear hcmp
        generalize num n = ln at *
        generalize num m = lm at *
        have hlm : Hid (∃ y, lm.length = y ∧ y ≤ 10) := Lib.hid ⟨_, rfl, hml⟩
        obtain ⟨y, hy, hy10⟩ := hlm.out
        have HY := Lib.hid hy
        clear hy hml hlm
        have hk := bdr (Below.refl w3.heap.size w3)
        go_wp2
        go_region_held (fun w2 => Below w3.heap.size w3 w2) (exact hk) (first
          | (go_at_call 15; (with_reducible refine (pen_bytes S (S + 2) ln _ (hp3.keep hk) (by rw [hv1.out]; omega)).mono ?_); rintro e w' ⟨v5, rfl, ho5, hb'⟩; obtain ⟨A5, c5, rfl, k5, r5⟩ := ho5.bytes; rw [hv1.out]; have hcv5 := run_str_try w' A5 c5 z ln hv1.out r5; replace hk := bn hk hb'; clear hb')
          | (go_at_call 15; (with_reducible refine (pen_bytes (S + 1) w2.heap.size lm _ (hq3.keep hk) (by rw [HY.out]; omega)).mono ?_); rintro e w' ⟨v6, rfl, ho6, hb'⟩; obtain ⟨A6, c6, rfl, k6, r6⟩ := ho6.bytes; rw [HY.out]; have hcv6 := run_str_try w' A6 c6 y lm HY.out r6; have hcv5 := run_str_try w' A5 c5 z ln hv1.out (r5.below hb'); replace hk := bn hk hb'; clear hb'))
        all_goals go_wp2
        all_goals go_ret
        all_goals exact ⟨ret_bool (by rw [HCMP.out]; simp), bn hb03 hk⟩
end Go.Proofs.Ytlgkcpgbmobacaa
