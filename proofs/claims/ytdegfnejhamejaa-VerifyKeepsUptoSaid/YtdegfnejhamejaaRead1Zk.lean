/-
  Reading in the program: its boxes, a fault told (Decode$1), a number (Decode$2).
-/
import Derived.Test.YtdegfnejhamejaaReadNZk
import Derived.Test.YtdegfnejhamejaaOwnZk
import Derived.IntWalk
namespace Go.Proofs.Ytdegfnejhamejaa
open Go.RowKit
set_option linter.unusedVariables false
set_option linter.unusedSimpArgs false

/-- Where Decode's variables lie. -/
structure EnvB where
  ba : Nat
  bb : Nat
  bs : Nat
  bf : Nat
  bn : Nat
  bm : Nat
  be : Nat
  bi : Nat
  bl : Nat
  A : Option Addr
  c : Nat
abbrev ptr (b : Nat) : Value := .pointer (some ⟨b, 0, none⟩)
/-- What reading may turn. -/
def ME (E : EnvB) (b t : Nat) : Prop := (b = E.ba ∨ b = E.bb) ∧ t = 3
end Go.Proofs.Ytdegfnejhamejaa
