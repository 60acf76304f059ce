/-
  What the statements ask first: that the program answers at all (answers).
-/
import Derived.Test.YtdegfnejhamejaaOwnZk
namespace Go.Proofs.Ytdegfnejhamejaa
open Go.RowKit
set_option linter.unusedVariables false
set_option linter.unusedSimpArgs false

end Go.Proofs.Ytdegfnejhamejaa
