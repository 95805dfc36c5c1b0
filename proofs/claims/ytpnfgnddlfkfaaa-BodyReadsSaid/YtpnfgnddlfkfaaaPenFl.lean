/-
  Pen.Float.
-/
import Derived.Test.YtpnfgnddlfkfaaaPenNum
import Derived.Laws.Externs
set_option linter.unusedSimpArgs false
set_option linter.unusedVariables false
namespace Go.Proofs.Ytpnfgnddlfkfaaa
open Go.RowKit

/-- the k lowest bytes of a number -/
def low : Nat → Nat → List UInt8
  | 0, _ => []
  | k + 1, n => UInt8.ofNat (n % 256) :: low k (n / 256)
theorem low_length : ∀ (k n : Nat), (low k n).length = k
  | 0, _ => rfl
  | k + 1, n => by simp [low, low_length k]

end Go.Proofs.Ytpnfgnddlfkfaaa
