/-
  The walks that compare parts of modules, on both sides.
-/
import Derived.Test.YtdegfnejhamejaaSame1Zf
namespace Go.Proofs.Ytdegfnejhamejaa
open Go.RowKit
set_option linter.unusedVariables false
set_option linter.unusedSimpArgs false

end Go.Proofs.Ytdegfnejhamejaa
