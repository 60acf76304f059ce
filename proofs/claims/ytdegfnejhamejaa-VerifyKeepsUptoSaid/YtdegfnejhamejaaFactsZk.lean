/-
  A region that draws its order, most of whose operations leave a fact that lasts (a value in a slot of its own, new memory): whatever order is drawn, each operation is looked at once.
-/
import Derived.Test.YtdegfnejhamejaaHeldGZk
namespace Go.Proofs.Ytdegfnejhamejaa
set_option linter.unusedVariables false
set_option linter.unusedSimpArgs false

end Go.Proofs.Ytdegfnejhamejaa
