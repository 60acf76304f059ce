/-
  The plain side of reading: what number, list, instruction, module bytes begin with, or where the first fault is.
-/
import Derived.Test.YtdegfnejhamejaaEncNZk
namespace Go.Proofs.Ytdegfnejhamejaa
set_option linter.unusedVariables false

end Go.Proofs.Ytdegfnejhamejaa
