/-
  The part of TTold2 that a seat without types.Text needs.
-/
import Derived.Test.YtlbcaiohjghclaaDoorTTold
namespace Go.Proofs.YtlbcaiohjghclaaDoor
open Go.RowKit
set_option linter.unusedVariables false
set_option linter.unusedSimpArgs false

theorem infoStr : (Tryd.prog.info? 9).map (fun i => (i.zero, i.size, i.bytes)) = some (some (.string ByteArray.empty), 1, 16) := by kernel_rfl
def strC (_ : World) (cs : List Value) (s : ByteArray) : Prop := cs = [.string s]
theorem strC.one (cs : List Value) (s : ByteArray) {w : World} (h : strC w cs s) : ∀ u ∈ cs, u.oneCell' = true := by
  subst h
  intro u hu
  simp at hu
  subst hu
  rfl

end Go.Proofs.YtlbcaiohjghclaaDoor
