/-
  What PenTurns calls and gives.
-/
import Derived.Test.YtlgkcpgbmobacaaLaw2
import Derived.Test.YtlgkcpgbmobacaaRef1
import Derived.Test.YtlgkcpgbmobacaaPenTurn
set_option linter.unusedSimpArgs false
set_option linter.unusedVariables false
namespace Go.Proofs.Ytlgkcpgbmobacaa
open Go.RowKit

set_option maxRecDepth 100000 in
set_option maxHeartbeats 4000000 in
theorem pturns_walk (n : Int) (hn : -9223372036854775808 ≤ n ∧ n ≤ 9223372036854775807) (f : Nat) (hf : f < 18446744073709551616) (s : List UInt8) (w : World) :
    Calls Try.prog 6 #[.int .i64 n, .float .f64 f, .string ⟨s.toArray⟩] w fun e w' => e = .returned (.bool true) ∧ Below w.heap.size w w' := by
  obtain ⟨hn1, hn2⟩ := hn
  have hsz0 : (⟨s.toArray⟩ : ByteArray).size = s.length := by simp [ByteArray.size]
  by_cases hs : (3000 : Int) < (s.length : Int)
  · go_enter Try.func6, Try.ntmps6
    go_wp2_with fail
    refine (law2_awake _).mono ?_
    rintro e w1 ⟨rfl, hb1⟩
    go_wp2
    go_ret
    exact ⟨rfl, hb1⟩
  · have hs' : s.length ≤ 3000 := by omega
    have hnl := num_10 n.toNat (by omega)
    go_enter Try.func6, Try.ntmps6
    go_wp2_with fail
    refine (law2_awake _).mono ?_
    rintro e w1 ⟨rfl, hb1⟩
    have hp := pen_fresh w1
    have hz := size_more w1 (.cells #[.slice none 0 0] 26)
    have HZ := Lib.hid hz
    clear hz
    go_wp2_with fail
    refine (pen_num w1.heap.size (w1.heap.size + 1) [] n hn1 hn2 _ hp (by rw [HZ.out]; omega) (by simp)).mono ?_
    rintro e w2 ⟨rfl, hp2, hk2⟩
    rw [List.nil_append] at hp2
    go_wp2_with fail
    have hz2 := hk2.size
    rw [HZ.out] at hz2
    refine (pen_float w1.heap.size (w1.heap.size + 1) _ f _ hp2 hz2 (by omega)).mono ?_
    rintro e w3 ⟨rfl, hp3, hk3⟩
    have hz3 := Nat.le_trans hz2 hk3.size
    go_wp2_with fail
    refine (pen_text w1.heap.size (w1.heap.size + 1) _ s _ hp3 hz3 (by rw [List.length_append, low_length]; omega)).mono ?_
    rintro e w4 ⟨rfl, hp4, hk4⟩
    have hz4 := Nat.le_trans hz3 hk4.size
    have hsl := num_10 s.length (by omega)
    go_wp2_with fail
    refine (pen_byte w1.heap.size (w1.heap.size + 1) _ 7 _ rfl _ hp4 hz4 (by simp only [List.length_append, low_length]; omega)).mono ?_
    rintro e w5 ⟨rfl, hp5, hk5⟩
    have hz5 := Nat.le_trans hz4 hk5.size
    have hk15 := (((hk2.trans hk3).trans hk4).trans hk5)
    have hb5 : Below w.heap.size w w5 := hb1.trans (((bal (Below.refl _ w1) _).trans (hk15.below (by omega) (Nat.le_refl _))).mono hb1.size)
    have hall : Hid (num n.toNat ++ low 8 f ++ num s.length ++ s ++ [7] = num n.toNat ++ (low 8 f ++ (num s.length ++ s ++ [7]))) := Lib.hid (by simp only [List.append_assoc])
    clear hk2 hk3 hk4 hk5 hk15 hp hp2 hp3 hp4 hz2 hz3 hz4 HZ
    go_wp2_with fail
    refine (ref_num n hn1 hn2 _).mono ?_
    rintro e w6 ⟨v6, rfl, ho6, hb6⟩
    obtain ⟨A6, c6, rfl, k6, r6⟩ := ho6.bytes
    have hl8 : (low 8 f).length ≤ 8 := Nat.le_of_eq (low_length 8 f)
    have ho0 : Own (w5.alloc (.cells #[] 5)) w5.heap.size 5 (.slice (some ⟨w5.heap.size, 0, none⟩) 0 0) (([] : List UInt8).map eb) := Own.lit w5 w5.heap.size 5 [] (Nat.le_refl _) (by simp)
    have hb56 : Below w5.heap.size w5 w6 := bn (bal (Below.refl _ _) _) hb6
    have z6 := hb56.size
    obtain ⟨v7, w7, HR7, ho7, hb7, _⟩ := append_bytes w6 w5.heap.size _ [] (ho0.below hb6) A6 (num n.toNat).length c6 _ rfl r6 (by simp; omega) z6
    rw [List.nil_append] at ho7
    have hb57 := hb56.trans hb7
    generalize hln : num n.toNat = ln at *
    have HLN := Lib.hid hln
    clear hln
    go_wp2_with (at_builtin; refine wpList_append_run rfl _ _ 24 24 rfl _ _ _ _ rfl rfl HR7.out ?_)
    refine (ref_float f _).mono ?_
    rintro e w8 ⟨v8, rfl, ho8, hb8⟩
    obtain ⟨A8, c8, rfl, k8, r8⟩ := ho8.bytes
    have hb58 := bn hb57 hb8
    have z7 := hb57.size
    have z8 := hb58.size
    obtain ⟨v9, w9, HR9, ho9, hb9, _⟩ := append_bytes w8 w5.heap.size _ ln (ho7.below hb8) A8 (low 8 f).length c8 _ rfl r8 (by omega) z8
    have hb59 := hb58.trans hb9
    generalize hlf : low 8 f = lf at *
    have HLF := Lib.hid hlf
    clear hlf
    go_wp2_with (at_builtin; refine wpList_append_run rfl _ _ 24 24 rfl _ _ _ _ rfl rfl HR9.out ?_)
    refine (ref_text s (by omega) _).mono ?_
    rintro e w10 ⟨v10, rfl, ho10, hb10⟩
    obtain ⟨A10, c10, rfl, k10, r10⟩ := ho10.bytes
    have hb510 := bn hb59 hb10
    have z10 := hb510.size
    have hlt : (num s.length ++ s).length ≤ 3010 := by rw [List.length_append]; omega
    obtain ⟨M, hM⟩ : ∃ M, (num s.length ++ s).length = M := ⟨_, rfl⟩
    rw [hM]
    rw [hM] at k10 hlt
    obtain ⟨v11, w11, HR11, ho11, hb11, _⟩ := append_bytes w10 w5.heap.size _ (ln ++ lf) (ho9.below hb10) A10 M c10 _ hM r10 (by rw [List.length_append, hM]; omega) z10
    have hb511 := hb510.trans hb11
    have z11 := hb511.size
    obtain ⟨v12, w12, HR12, ho12, hb12⟩ := append_one w11 w5.heap.size _ _ ho11 7 (by rw [List.length_append, List.length_append, hM]; omega) z11
    have hb512 := hb511.trans hb12
    clear hM
    have hwant : ln ++ lf ++ (num s.length ++ s) ++ [7] = ln ++ lf ++ num s.length ++ s ++ [7] := by simp only [List.append_assoc]
    rw [hwant] at ho12
    clear hwant
    rw [show (((7 : UInt8).toNat : Nat) : Int) = 7 from rfl] at HR12
    have hlen : ∃ N, (ln ++ lf ++ num s.length ++ s ++ [7]).length = N ∧ N ≤ 3100 := ⟨_, rfl, by simp only [List.length_append, List.length_singleton]; omega⟩
    obtain ⟨N, hN, hN2⟩ := hlen
    obtain ⟨A12, c12, rfl, k12, r12⟩ := ho12.bytes
    rw [hN] at HR12 k12
    have HN := Lib.hid hN
    clear hN
    go_wp2_with (first | (at_builtin; refine wpList_append_run rfl _ _ 24 24 rfl _ _ _ _ rfl rfl HR11.out ?_) | (at_builtin; refine wpList_append_run rfl _ _ 24 24 rfl _ _ _ _ rfl rfl HR12.out ?_))
    have hp12 := hp5.keep hb512
    clear HR7 HR9 HR11 HR12 ho6 ho7 ho8 ho9 ho10 ho11 ho0 hp5 r6 r8 r10 hb56 hb57 hb58 hb59 hb510 hb511
    generalize hwt : ln ++ lf ++ num s.length ++ s ++ [7] = wt at *
    have HWT := Lib.hid hwt
    clear hwt
    have hNl : wt.length ≤ 3100 := by rw [HN.out]; exact hN2
    have hb012 := bn hb5 hb512
    clear k6 k8 k10 k12 hl8 hlt hnl hsl z6 z7 z8 z10 z11 hb6 hb7 hb8 hb9 hb10 hb11 hb12 hb512 hb1 hb5 hz5 hsz0
    have hsw : ∃ sw : ByteArray, (⟨wt.toArray⟩ : ByteArray) = sw := ⟨_, rfl⟩
    obtain ⟨sw, hsw⟩ := hsw
    have HSW := Lib.hid hsw
    clear hsw
    have hcv : ∀ W : World, Below w12.heap.size w12 W → (convert 24 9 (.slice A12 N c12)).run Try.prog W = .ok (.string sw) W := fun W h => by
      have := run_str_try W A12 c12 N _ HN.out (r12.below h)
      rw [HSW.out] at this; exact this
    have HCV := Lib.hid hcv
    clear hcv
    have hk := bdr (Below.refl w12.heap.size w12)
    go_wp2
    go_region_held (fun w2 => Below w12.heap.size w12 w2 ∧ (convert 24 9 (.slice A12 N c12)).run Try.prog w2 = .ok (.string sw) w2) (exact ⟨hk, HCV.out _ hk⟩)
      ((go_at_call 15; (with_reducible refine (pen_bytes _ _ wt _ (hp12.keep hk) (by omega)).mono ?_); rintro e w' ⟨v5, rfl, ho5, hb'⟩; obtain ⟨A5, c5, rfl, k5, r5⟩ := ho5.bytes; rw [HN.out]; have hcv5 := run_str_try w' A5 c5 N wt HN.out r5; rw [HSW.out] at hcv5; replace hk := bn hk hb'; clear hb'))
    clear hcv5 ho5 k5 r5
    have r13 := r12.below hk
    have hb013 := bn hb012 hk
    have hNl2 : N ≤ 3100 := hN2
    go_wp2_with fail
    refine (eye_new A12 N c12 wt _ HN.out (by omega) r13).mono ?_
    rintro e w14 ⟨g, rfl, hg, he14, hb14⟩
    have hb014 := bn hb013 hb14
    have hg14 : g < w14.heap.size := by obtain ⟨_, _, h, _⟩ := he14; exact h.lt
    have z13 := hb013.size
    have z14 := hb014.size
    by_cases hn62 : 4611686018427387904 < n
    · have e1 : eNum (some wt) = (0, none) := by
        rw [hall.out, ← HLN.out]; exact eNum_great _ (by omega) (by omega) _
      have E1 := Lib.hid e1
      clear e1
      go_wp2_with fail
      refine (eye_num g _ w14 he14 hg14).mono ?_
      rintro e w15 ⟨rfl, he15, hk15⟩
      rw [E1.out] at he15 ⊢
      go_wp2_with fail
      refine (eye_float g _ w15 he15 (Nat.lt_of_lt_of_le hg14 hk15.size)).mono ?_
      rintro e w16 ⟨rfl, he16, hk16⟩
      rw [eFloat_none] at he16 ⊢
      have hk1416 := hk15.trans (hk16.mono hk15.size)
      go_wp2_with fail
      refine (eye_text g _ w16 he16 (Nat.lt_of_lt_of_le hg14 hk1416.size)).mono ?_
      rintro e w17 ⟨rfl, he17, hk17⟩
      rw [eText_none] at he17 ⊢
      have hk1417 := hk1416.trans (hk17.mono hk1416.size)
      go_wp2_with fail
      refine (eye_byte g _ w17 he17 (Nat.lt_of_lt_of_le hg14 hk1417.size)).mono ?_
      rintro e w18 ⟨rfl, he18, hk18⟩
      rw [eByte_none] at he18 ⊢
      have hk1418 := hk1417.trans (hk18.mono hk1417.size)
      have hb018 := hb014.trans (hk1418.below z14 (by omega))
      go_wp2_with (go_at_call 20; refine (eye_bad g _ w18 he18).mono ?_; rintro e w19 ⟨rfl, rfl⟩)
      go_ret
      exact ⟨rfl, hb018⟩
    · have e1 : eNum (some wt) = (n.toNat, some (lf ++ (num s.length ++ s ++ [7]))) := by
        rw [hall.out, ← HLN.out]; exact eNum_num _ (by omega) _
      have e2 : eFloat (some (lf ++ (num s.length ++ s ++ [7]))) = (f, some (num s.length ++ s ++ [7])) := by
        rw [← HLF.out]; exact eFloat_float f hf _
      have e3 : eText (some (num s.length ++ s ++ [7])) = (s, some [7]) := eText_text s [7] (by omega)
      have E1 := Lib.hid e1
      have E2 := Lib.hid e2
      have E3 := Lib.hid e3
      clear e1 e2 e3
      go_wp2_with fail
      refine (eye_num g _ w14 he14 hg14).mono ?_
      rintro e w15 ⟨rfl, he15, hk15⟩
      rw [E1.out] at he15 ⊢
      go_wp2_with fail
      refine (eye_float g _ w15 he15 (Nat.lt_of_lt_of_le hg14 hk15.size)).mono ?_
      rintro e w16 ⟨rfl, he16, hk16⟩
      rw [E2.out] at he16 ⊢
      have hk1416 := hk15.trans (hk16.mono hk15.size)
      go_wp2_with fail
      refine (eye_text g _ w16 he16 (Nat.lt_of_lt_of_le hg14 hk1416.size)).mono ?_
      rintro e w17 ⟨rfl, he17, hk17⟩
      rw [E3.out] at he17 ⊢
      have hk1417 := hk1416.trans (hk17.mono hk1416.size)
      go_wp2_with fail
      refine (eye_byte g _ w17 he17 (Nat.lt_of_lt_of_le hg14 hk1417.size)).mono ?_
      rintro e w18 ⟨rfl, he18, hk18⟩
      rw [eByte_byte] at he18 ⊢
      have hk1418 := hk1417.trans (hk18.mono hk1417.size)
      have hb018 := hb014.trans (hk1418.below z14 (by omega))
      have hbits := bits_run f
      go_wp2_with (first | (go_at_call 21; refine (eye_left g _ w18 he18).mono ?_; rintro e w19 ⟨rfl, rfl⟩) | (go_at_call 20; refine (eye_bad g _ w18 he18).mono ?_; rintro e w19 ⟨rfl, rfl⟩))
      all_goals first
        | (go_ret; exact ⟨rfl, hb018⟩)
        | (exfalso; simp only [left, List.length_nil] at *; omega)
        | trace_state
end Go.Proofs.Ytlgkcpgbmobacaa
