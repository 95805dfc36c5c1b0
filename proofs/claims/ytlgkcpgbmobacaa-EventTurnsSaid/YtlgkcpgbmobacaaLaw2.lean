/-
  What the laws of layer 2 call beside pen: the document's example.
-/
import Derived.Test.YtlgkcpgbmobacaaEyeNum
set_option linter.unusedSimpArgs false
set_option linter.unusedVariables false
namespace Go.Proofs.Ytlgkcpgbmobacaa
open Go.RowKit

theorem size_more (w : World) (o : Obj) : (w.alloc o).heap.size = w.heap.size + 1 := by simp
theorem pen_fresh (w : World) : PenAt (w.alloc (.cells #[.slice none 0 0] 26)) w.heap.size (w.heap.size + 1) [] := ⟨_, Blk.new _ _ _, Own.nil _ _ _⟩
theorem PenAt.keep {w w' : World} {g B : Nat} {l : List UInt8} (h : PenAt w g B l) (hb : Below w.heap.size w w') : PenAt w' g B l := by
  obtain ⟨v, h1, h2⟩ := h
  exact ⟨v, h1.below hb, h2.below hb⟩
theorem num_300 : num 300 = [172, 2] := by rw [num_great 300 (by decide), num_small _ (by decide)]; rfl

set_option maxRecDepth 100000 in
set_option maxHeartbeats 2000000 in
theorem law2_awake (w : World) :
    Calls Try.prog 13 #[] w fun e w' => e = .returned (.bool true) ∧ Below w.heap.size w w' := by
  have hp := pen_fresh w
  have hz := size_more w (.cells #[.slice none 0 0] 26)
  have HZ := Lib.hid hz
  clear hz
  go_enter Try.func13, Try.ntmps13
  go_wp2_with fail
  refine (pen_num w.heap.size (w.heap.size + 1) [] 300 (by decide) (by decide) _ hp (by rw [HZ.out]; omega) (by simp)).mono ?_
  rintro e w1 ⟨rfl, hp1, hk1⟩
  rw [show num (300 : Int).toNat = [172, 2] from num_300, List.nil_append] at hp1
  have hb1 : Below w.heap.size w w1 := (bal (Below.refl _ w) _).trans (hk1.below (by omega) (by omega))
  go_wp2_with fail
  refine (pen_bytes _ _ _ w1 hp1 (by decide)).mono ?_
  rintro e w2 ⟨v2, rfl, ho2, hb2⟩
  obtain ⟨A2, c2, rfl, k2, r2⟩ := ho2.bytes
  go_wp2_with fail
  refine (eye_new A2 2 c2 _ w2 rfl (by decide) r2).mono ?_
  rintro e w3 ⟨g3, rfl, hg3, he3, hb3⟩
  go_wp2_with fail
  refine (pen_bytes _ _ _ w3 ((hp1.keep hb2).keep hb3) (by decide)).mono ?_
  rintro e w4 ⟨v4, rfl, ho4, hb4⟩
  obtain ⟨A4, c4, rfl, k4, r4⟩ := ho4.bytes
  have hv := run_str_try w4 A4 c4 2 _ rfl r4
  have he4 := he3.keep hb4
  have hlt3 : g3 < w3.heap.size := by
    obtain ⟨_, _, h, _⟩ := he3
    exact h.lt
  have hb14 := bn (bn (bn hb1 hb2) hb3) hb4
  have hn : eNum (some [172, 2]) = (300, some []) := by decide +kernel
  have HN := Lib.hid hn
  clear hn
  go_wp2_with fail
  refine (eye_num g3 _ w4 he4 (Nat.lt_of_lt_of_le hlt3 hb4.size)).mono ?_
  rintro e w5 ⟨rfl, he5, hk5⟩
  rw [HN.out] at he5 ⊢
  have hb15 : Below w.heap.size w w5 := hb14.trans (hk5.below hb14.size (by have := hb1.size; have := hb2.size; omega))
  go_wp2_with (go_at_call 20; refine (eye_bad g3 _ w5 he5).mono ?_; rintro e w6 ⟨rfl, rfl⟩)
  go_wp2_with (go_at_call 21; refine (eye_left g3 _ w5 he5).mono ?_; rintro e w6 ⟨rfl, rfl⟩)
  go_ret
  exact ⟨rfl, hb15⟩
end Go.Proofs.Ytlgkcpgbmobacaa
