/-
  The reference's Same: whole modules compared.
-/
import Derived.Test.YtdegfnejhamejaaSame3Zf
import Derived.StillTailTactics
namespace Go.Proofs.Ytdegfnejhamejaa
open Go.RowKit
set_option linter.unusedVariables false
set_option linter.unusedSimpArgs false

end Go.Proofs.Ytdegfnejhamejaa
