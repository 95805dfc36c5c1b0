/-
  The contracts of the library functions that work on bytes: bytes.Equal, bytes.Clone, slices.Grow of nothing, slices.Concat.
-/
import Derived.Test.YtlgkcpgbmobacaaBase
import Derived.Lib.AppendZerosOnto
import Derived.Lib.LazyBuf
set_option linter.unusedSimpArgs false
set_option linter.unusedVariables false
namespace Go.Proofs.Ytlgkcpgbmobacaa
open Go.RowKit






end Go.Proofs.Ytlgkcpgbmobacaa
