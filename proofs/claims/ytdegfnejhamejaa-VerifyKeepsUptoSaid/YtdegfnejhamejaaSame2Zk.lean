/-
  The walks that compare parts of modules, on both sides.
-/
import Derived.Test.YtdegfnejhamejaaSame1Zk
namespace Go.Proofs.Ytdegfnejhamejaa
open Go.RowKit
set_option linter.unusedVariables false
set_option linter.unusedSimpArgs false

theorem sum10 : ∀ l : List Int, (l.map fun _ => 10).sum = 10 * l.length
  | [] => rfl
  | x :: l => by have := sum10 l; simp only [List.map_cons, List.sum_cons, List.length_cons]; omega
theorem sum_le_of {α : Type} (c : α → Nat) {l : List α} {k : Nat} {x : α} {N : Nat} (h : l[k]? = some x) (hl : (l.map c).sum ≤ N) : c x ≤ N := by have := sum_at c h; omega
end Go.Proofs.Ytdegfnejhamejaa
