/-
  Names, as plain data.
-/
import Derived.Laws.RangeAny
import Derived.Lib.ValidLaws
import Derived.Test.YtgaodjoddfjfmaaDoorNd
namespace Go.Proofs.YtgaodjoddfjfmaaDoor
set_option linter.unusedVariables false
set_option linter.unusedSimpArgs false

/-! ## Names -/
def letterB (r : Nat) : Bool := decide ((65 ≤ r ∧ r ≤ 90) ∨ (97 ≤ r ∧ r ≤ 122) ∨ r = 95 ∨ (192 ≤ r ∧ r ≤ 591 ∧ r ≠ 215 ∧ r ≠ 247))
def digitB (r : Nat) : Bool := decide (48 ≤ r ∧ r ≤ 57)
/-- All characters from a place on are such as a name has; so many looks at most. -/
def runesOK (s : ByteArray) : Nat → Nat → Bool
  | 0, _ => true
  | n + 1, pos => if pos < s.size then (letterB (Utf8.decode s pos).1 || (decide (0 < pos) && digitB (Utf8.decode s pos).1)) && runesOK s n (pos + (Utf8.decode s pos).2) else true
def nameOK (s : ByteArray) : Bool := decide (1 ≤ s.size) && decide (s.size ≤ 64) && runesOK s s.size 0

end Go.Proofs.YtgaodjoddfjfmaaDoor
