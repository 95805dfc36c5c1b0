/-
  What the laws of layer 14 call beside event: the document's example.
-/
import Derived.Test.YtlgkcpgbmobacaaEvParse
set_option linter.unusedSimpArgs false
set_option linter.unusedVariables false
namespace Go.Proofs.Ytlgkcpgbmobacaa
open Go.RowKit

def mkdirA : Item := ⟨2, [47, 97], [], 0, 0, 0, []⟩
theorem mkdirA_may : may mkdirA = true := by decide +kernel
theorem mkdirA_enc : enc mkdirA = [2, 2, 47, 97] := by
  unfold enc mkdirA
  simp only [show ([47, 97] : List UInt8).length = 2 from rfl, num_small 2 (by decide)]
  rfl
theorem mkdirA_dec : dItem (some [2, 2, 47, 97]) = (mkdirA, some []) := by
  have := dItem_enc mkdirA [] mkdirA_may (by decide)
  rwa [mkdirA_enc] at this

set_option maxRecDepth 100000 in
set_option maxHeartbeats 4000000 in
theorem law14_awake (w : World) :
    Calls Try.prog 36 #[] w fun e w' => e = .returned (.bool true) ∧ Below w.heap.size w w' := by
  have hb := fun W : World => event_bytes mkdirA none 0 none 0 W (Rd.nil _ _) (fun ad e => by cases e) (by decide) mkdirA_may
  rw [mkdirA_enc] at hb
  simp only [mkdirA, iv_eq, List.length_nil] at hb
  have HB := Lib.hid hb
  clear hb
  go_enter Try.func36, Try.ntmps36
  go_wp2_with fail
  refine (HB.out _).mono ?_
  rintro e w1 ⟨v1, rfl, ho1, hb1⟩
  obtain ⟨A1, c1, rfl, k1, r1⟩ := ho1.bytes
  go_wp2_with fail
  refine (event_parse A1 4 c1 [2, 2, 47, 97] _ rfl (by decide) r1).mono ?_
  rintro e w2 ⟨it, ok, A5, c5, A6, c6, rfl, hok, hit, hrd, had, hb2⟩
  rw [mkdirA_dec] at hok hit
  obtain rfl : ok = true := hok.2 ⟨mkdirA_may, rfl⟩
  rw [if_pos rfl] at hit
  subst hit
  simp only [mkdirA, iv_eq, List.length_nil]
  have hv := fun o : Obj => run_str_try (w2.alloc o) A1 c1 4 [2, 2, 47, 97] rfl ((r1.below hb2).below (bal (Below.refl _ _) _))
  have hb12 := bn hb1 hb2
  go_wp2
  go_ret
  exact ⟨rfl, bal hb12 _⟩
end Go.Proofs.Ytlgkcpgbmobacaa
