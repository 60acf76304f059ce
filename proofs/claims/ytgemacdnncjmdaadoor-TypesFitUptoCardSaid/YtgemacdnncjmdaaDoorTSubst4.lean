/-
  texts, has, Twice: lists of names.
-/
import Derived.Test.YtgemacdnncjmdaaDoorTFactsA
import Derived.Test.YtgemacdnncjmdaaDoorTSubst3
import Derived.Test.YtgemacdnncjmdaaDoorTTold2
namespace Go.Proofs.YtgemacdnncjmdaaDoor
open Go.RowKit
set_option linter.unusedVariables false
set_option linter.unusedSimpArgs false

end Go.Proofs.YtgemacdnncjmdaaDoor
