/-
  The reference's numbers, texts, floats as bytes.
-/
import Derived.Test.YtangfnenfhkokaaEyeText
set_option linter.unusedSimpArgs false
set_option linter.unusedVariables false
namespace Go.Proofs.Ytangfnenfhkokaa
open Go.RowKit

/-- 'append(x, b)' of one byte, x the call's own -/
theorem append_one (w : World) (B : Nat) (v : Value) (a : List UInt8) (hown : Own w B 5 v (a.map eb)) (x : UInt8) (hl : a.length < 140737488355328) (hB : B ≤ w.heap.size) :
    ∃ v' w2, Hid ((Builtin.append_ #[42, 42] 42 #[v, .slice (some ⟨w.heap.size, 0, none⟩) 1 1]).run Try.prog (w.alloc (.cells #[.int .u8 (x.toNat : Int)] 5)) = .ok v' w2) ∧ Own w2 B 5 v' ((a ++ [x]).map eb) ∧ Below B w w2 := by
  obtain ⟨v2, w2, HR, ho2, hb2, _⟩ := append_bytes (w.alloc (.cells #[.int .u8 (x.toNat : Int)] 5)) B v a (hown.below (bal (Below.refl _ w) _)) (some ⟨w.heap.size, 0, none⟩) 1 1 [x] rfl (RB.lit _ _ _ _ _ rfl) (by simp; omega) (by simp; omega)
  exact ⟨v2, w2, HR, ho2, ((Below.refl B w).alloc hB _).trans hb2⟩

end Go.Proofs.Ytangfnenfhkokaa
