/-
  DERIVED. GIVEN WITH THE SEED: THE CARDS: each row of YtlbcaiohjghclaaDoorRows.lean that lists a variable, with what it lists TIED to the program's text (the seventh form; the later family's looks); each row that meets fmt, with fmt's text TOLD by the authors' own Lean function (tested against real Go, not proved from fmt's source: count such statements apart). THE CARD IS WHAT COUNTS. Prove the row's statement (the work); the ties are given (YtlbcaiohjghclaaDoorTie.lean); close each card by the builder's one call (the guide's Derived/Test/ToyasCard.lean, 'card_holds'). Laid BY PROGRAM, IN A SANDBOX (cutbox-door.mjs). By AI agents, Wed Nov 11 2026. No macro, syntax, notation, axiom, sorry.
-/
import Derived.Test.YtlbcaiohjghclaaDoorRows
import GoSem.ClaimSeven
namespace Go.Proofs.YtlbcaiohjghclaaDoor
namespace Rows

/-- THE TIED CARD OF 'mullionlaw08.UnifyFinds'. -/
def unifyFindsCard : Claim7 := { stood := { row := unifyFindsRow, standIns := [], harness := (true, "36a52e8fcf11088925aa091b85c888b002cdd24b825fd2f3b5d27d2bb71ec3d2"), looks := false }, kinds := [], alts := [], laidByText := true, laidKinds := [.data, .pinned], laidTests := true, laidLooks := .later }
def UnifyFindsCardSaid : Prop := Claim7.holds Tryd.pinned (.plain (OpenSpec.ofChange unifyFindsSpec)) unifyFindsCard

/-- THE SECOND FORM's CARD OF 'mullionlaw08.UnifyFinds'. -/
def unifyFindsUptoCard : Claim7 := { stood := { row := unifyFindsUptoRow, standIns := [], harness := (true, "36a52e8fcf11088925aa091b85c888b002cdd24b825fd2f3b5d27d2bb71ec3d2"), looks := false }, kinds := [], alts := [], laidByText := true, laidKinds := [.data, .pinned], laidTests := true, laidLooks := .later }
def UnifyFindsUptoCardSaid : Prop := Claim7.holds Tryd.pinned (.plain (OpenSpec.upto unifyFindsSpec)) unifyFindsUptoCard
end Rows
end Go.Proofs.YtlbcaiohjghclaaDoor
