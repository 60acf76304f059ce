/-
  DERIVED. GIVEN WITH THE SEED: THE CARDS: each row of YtefiefckjoledaaDoorRows.lean that lists a variable, with what it lists TIED to the program's text (the seventh form; the later family's looks); each row that meets fmt, with fmt's text TOLD by the authors' own Lean function (tested against real Go, not proved from fmt's source: count such statements apart). THE CARD IS WHAT COUNTS. Prove the row's statement (the work); the ties are given (YtefiefckjoledaaDoorTie.lean); close each card by the builder's one call (the guide's Derived/Test/ToyasCard.lean, 'card_holds'). Laid BY PROGRAM, IN A SANDBOX (cutbox-door.mjs). By AI agents, Wed Nov 11 2026. No macro, syntax, notation, axiom, sorry.
-/
import Derived.Test.YtefiefckjoledaaDoorRows
import GoSem.ClaimSeven
namespace Go.Proofs.YtefiefckjoledaaDoor
namespace Rows

/-- THE TIED CARD OF 'mullionlaw08.UnifyFinds'. -/
def unifyFindsCard : Claim7 := { stood := { row := unifyFindsRow, standIns := [], harness := (true, "f1d96a98e49129c6609a0b3598c8d3e7503ea06332f966ab1b93e1da8e667e17"), looks := false }, kinds := [], alts := [], laidByText := true, laidKinds := [.data, .pinned], laidTests := true, laidLooks := .later }
def UnifyFindsCardSaid : Prop := Claim7.holds Tryd.pinned (.plain (OpenSpec.ofChange unifyFindsSpec)) unifyFindsCard

/-- THE TIED CARD OF 'mullionlaw08.UnifyFits'. -/
def unifyFitsCard : Claim7 := { stood := { row := unifyFitsRow, standIns := [], harness := (true, "f1d96a98e49129c6609a0b3598c8d3e7503ea06332f966ab1b93e1da8e667e17"), looks := false }, kinds := [], alts := [], laidByText := true, laidKinds := [.data, .pinned], laidTests := true, laidLooks := .later }
def UnifyFitsCardSaid : Prop := Claim7.holds Tryd.pinned (.plain (OpenSpec.ofChange unifyFitsSpec)) unifyFitsCard

/-- THE TIED CARD OF 'mullionlaw08.UnifyPlain'. -/
def unifyPlainCard : Claim7 := { stood := { row := unifyPlainRow, standIns := [], harness := (true, "f1d96a98e49129c6609a0b3598c8d3e7503ea06332f966ab1b93e1da8e667e17"), looks := false }, kinds := [], alts := [], laidByText := true, laidKinds := [.data, .pinned], laidTests := true, laidLooks := .later }
def UnifyPlainCardSaid : Prop := Claim7.holds Tryd.pinned (.plain (OpenSpec.ofChange unifyPlainSpec)) unifyPlainCard

/-- THE TIED CARD OF 'mullionlaw08.UnifyKeeps'. -/
def unifyKeepsCard : Claim7 := { stood := { row := unifyKeepsRow, standIns := [], harness := (true, "f1d96a98e49129c6609a0b3598c8d3e7503ea06332f966ab1b93e1da8e667e17"), looks := false }, kinds := [], alts := [], laidByText := true, laidKinds := [.data, .pinned], laidTests := true, laidLooks := .later }
def UnifyKeepsCardSaid : Prop := Claim7.holds Tryd.pinned (.plain (OpenSpec.ofChange unifyKeepsSpec)) unifyKeepsCard

/-- THE TIED CARD OF 'mullionlaw02.TypesSame'. -/
def typesSameCard : Claim7 := { stood := { row := typesSameRow, standIns := [], harness := (true, "f1d96a98e49129c6609a0b3598c8d3e7503ea06332f966ab1b93e1da8e667e17"), looks := false }, kinds := [], alts := [], laidByText := true, laidKinds := [.data, .pinned], laidTests := true, laidLooks := .later }
def TypesSameCardSaid : Prop := Claim7.holds Tryd.pinned (.plain (OpenSpec.ofChange typesSameSpec)) typesSameCard

/-- THE TIED CARD OF 'mullionlaw08.UnifyBack'. -/
def unifyBackCard : Claim7 := { stood := { row := unifyBackRow, standIns := [], harness := (true, "f1d96a98e49129c6609a0b3598c8d3e7503ea06332f966ab1b93e1da8e667e17"), looks := false }, kinds := [], alts := [], laidByText := true, laidKinds := [.data, .pinned], laidTests := true, laidLooks := .later }
def UnifyBackCardSaid : Prop := Claim7.holds Tryd.pinned (.plain (OpenSpec.ofChange unifyBackSpec)) unifyBackCard

/-- THE TIED CARD OF 'mullionlaw02.TypesCopies'. -/
def typesCopiesCard : Claim7 := { stood := { row := typesCopiesRow, standIns := [], harness := (true, "f1d96a98e49129c6609a0b3598c8d3e7503ea06332f966ab1b93e1da8e667e17"), looks := false }, kinds := [], alts := [], laidByText := true, laidKinds := [.data, .pinned], laidTests := true, laidLooks := .later }
def TypesCopiesCardSaid : Prop := Claim7.holds Tryd.pinned (.plain (OpenSpec.ofChange typesCopiesSpec)) typesCopiesCard

/-- THE TIED CARD OF 'mullionlaw02.TypesRelate'. -/
def typesRelateCard : Claim7 := { stood := { row := typesRelateRow, standIns := [], harness := (true, "f1d96a98e49129c6609a0b3598c8d3e7503ea06332f966ab1b93e1da8e667e17"), looks := false }, kinds := [], alts := [], laidByText := true, laidKinds := [.data, .pinned], laidTests := true, laidLooks := .later }
def TypesRelateCardSaid : Prop := Claim7.holds Tryd.pinned (.plain (OpenSpec.ofChange typesRelateSpec)) typesRelateCard

/-- THE TIED CARD OF 'mullionlaw02.TypesNest'. -/
def typesNestCard : Claim7 := { stood := { row := typesNestRow, standIns := [], harness := (true, "f1d96a98e49129c6609a0b3598c8d3e7503ea06332f966ab1b93e1da8e667e17"), looks := false }, kinds := [], alts := [], laidByText := true, laidKinds := [.data, .pinned], laidTests := true, laidLooks := .later }
def TypesNestCardSaid : Prop := Claim7.holds Tryd.pinned (.plain (OpenSpec.ofChange typesNestSpec)) typesNestCard

/-- THE TIED CARD OF 'mullionlaw08.UnifyInfers'. -/
def unifyInfersCard : Claim7 := { stood := { row := unifyInfersRow, standIns := [], harness := (true, "f1d96a98e49129c6609a0b3598c8d3e7503ea06332f966ab1b93e1da8e667e17"), looks := false }, kinds := [], alts := [], laidByText := true, laidKinds := [.data, .pinned], laidTests := true, laidLooks := .later }
def UnifyInfersCardSaid : Prop := Claim7.holds Tryd.pinned (.plain (OpenSpec.ofChange unifyInfersSpec)) unifyInfersCard

/-- THE TIED CARD OF 'mullionlaw02.TypesFill'. -/
def typesFillCard : Claim7 := { stood := { row := typesFillRow, standIns := [], harness := (true, "f1d96a98e49129c6609a0b3598c8d3e7503ea06332f966ab1b93e1da8e667e17"), looks := false }, kinds := [], alts := [], laidByText := true, laidKinds := [.data, .pinned], laidTests := true, laidLooks := .later }
def TypesFillCardSaid : Prop := Claim7.holds Tryd.pinned (.plain (OpenSpec.ofChange typesFillSpec)) typesFillCard

/-- THE TIED CARD OF 'mullionlaw02.TypesTwice'. -/
def typesTwiceCard : Claim7 := { stood := { row := typesTwiceRow, standIns := [], harness := (true, "f1d96a98e49129c6609a0b3598c8d3e7503ea06332f966ab1b93e1da8e667e17"), looks := false }, kinds := [], alts := [], laidByText := true, laidKinds := [.data, .pinned], laidTests := true, laidLooks := .later }
def TypesTwiceCardSaid : Prop := Claim7.holds Tryd.pinned (.plain (OpenSpec.ofChange typesTwiceSpec)) typesTwiceCard

/-- THE SECOND FORM's CARD OF 'mullionlaw08.UnifyFinds'. -/
def unifyFindsUptoCard : Claim7 := { stood := { row := unifyFindsUptoRow, standIns := [], harness := (true, "f1d96a98e49129c6609a0b3598c8d3e7503ea06332f966ab1b93e1da8e667e17"), looks := false }, kinds := [], alts := [], laidByText := true, laidKinds := [.data, .pinned], laidTests := true, laidLooks := .later }
def UnifyFindsUptoCardSaid : Prop := Claim7.holds Tryd.pinned (.plain (OpenSpec.upto unifyFindsSpec)) unifyFindsUptoCard

/-- THE SECOND FORM's CARD OF 'mullionlaw08.UnifyFits'. -/
def unifyFitsUptoCard : Claim7 := { stood := { row := unifyFitsUptoRow, standIns := [], harness := (true, "f1d96a98e49129c6609a0b3598c8d3e7503ea06332f966ab1b93e1da8e667e17"), looks := false }, kinds := [], alts := [], laidByText := true, laidKinds := [.data, .pinned], laidTests := true, laidLooks := .later }
def UnifyFitsUptoCardSaid : Prop := Claim7.holds Tryd.pinned (.plain (OpenSpec.upto unifyFitsSpec)) unifyFitsUptoCard

/-- THE SECOND FORM's CARD OF 'mullionlaw08.UnifyPlain'. -/
def unifyPlainUptoCard : Claim7 := { stood := { row := unifyPlainUptoRow, standIns := [], harness := (true, "f1d96a98e49129c6609a0b3598c8d3e7503ea06332f966ab1b93e1da8e667e17"), looks := false }, kinds := [], alts := [], laidByText := true, laidKinds := [.data, .pinned], laidTests := true, laidLooks := .later }
def UnifyPlainUptoCardSaid : Prop := Claim7.holds Tryd.pinned (.plain (OpenSpec.upto unifyPlainSpec)) unifyPlainUptoCard

/-- THE SECOND FORM's CARD OF 'mullionlaw08.UnifyKeeps'. -/
def unifyKeepsUptoCard : Claim7 := { stood := { row := unifyKeepsUptoRow, standIns := [], harness := (true, "f1d96a98e49129c6609a0b3598c8d3e7503ea06332f966ab1b93e1da8e667e17"), looks := false }, kinds := [], alts := [], laidByText := true, laidKinds := [.data, .pinned], laidTests := true, laidLooks := .later }
def UnifyKeepsUptoCardSaid : Prop := Claim7.holds Tryd.pinned (.plain (OpenSpec.upto unifyKeepsSpec)) unifyKeepsUptoCard

/-- THE SECOND FORM's CARD OF 'mullionlaw02.TypesSame'. -/
def typesSameUptoCard : Claim7 := { stood := { row := typesSameUptoRow, standIns := [], harness := (true, "f1d96a98e49129c6609a0b3598c8d3e7503ea06332f966ab1b93e1da8e667e17"), looks := false }, kinds := [], alts := [], laidByText := true, laidKinds := [.data, .pinned], laidTests := true, laidLooks := .later }
def TypesSameUptoCardSaid : Prop := Claim7.holds Tryd.pinned (.plain (OpenSpec.upto typesSameSpec)) typesSameUptoCard

/-- THE SECOND FORM's CARD OF 'mullionlaw08.UnifyBack'. -/
def unifyBackUptoCard : Claim7 := { stood := { row := unifyBackUptoRow, standIns := [], harness := (true, "f1d96a98e49129c6609a0b3598c8d3e7503ea06332f966ab1b93e1da8e667e17"), looks := false }, kinds := [], alts := [], laidByText := true, laidKinds := [.data, .pinned], laidTests := true, laidLooks := .later }
def UnifyBackUptoCardSaid : Prop := Claim7.holds Tryd.pinned (.plain (OpenSpec.upto unifyBackSpec)) unifyBackUptoCard

/-- THE SECOND FORM's CARD OF 'mullionlaw02.TypesCopies'. -/
def typesCopiesUptoCard : Claim7 := { stood := { row := typesCopiesUptoRow, standIns := [], harness := (true, "f1d96a98e49129c6609a0b3598c8d3e7503ea06332f966ab1b93e1da8e667e17"), looks := false }, kinds := [], alts := [], laidByText := true, laidKinds := [.data, .pinned], laidTests := true, laidLooks := .later }
def TypesCopiesUptoCardSaid : Prop := Claim7.holds Tryd.pinned (.plain (OpenSpec.upto typesCopiesSpec)) typesCopiesUptoCard

/-- THE SECOND FORM's CARD OF 'mullionlaw02.TypesRelate'. -/
def typesRelateUptoCard : Claim7 := { stood := { row := typesRelateUptoRow, standIns := [], harness := (true, "f1d96a98e49129c6609a0b3598c8d3e7503ea06332f966ab1b93e1da8e667e17"), looks := false }, kinds := [], alts := [], laidByText := true, laidKinds := [.data, .pinned], laidTests := true, laidLooks := .later }
def TypesRelateUptoCardSaid : Prop := Claim7.holds Tryd.pinned (.plain (OpenSpec.upto typesRelateSpec)) typesRelateUptoCard

/-- THE SECOND FORM's CARD OF 'mullionlaw02.TypesNest'. -/
def typesNestUptoCard : Claim7 := { stood := { row := typesNestUptoRow, standIns := [], harness := (true, "f1d96a98e49129c6609a0b3598c8d3e7503ea06332f966ab1b93e1da8e667e17"), looks := false }, kinds := [], alts := [], laidByText := true, laidKinds := [.data, .pinned], laidTests := true, laidLooks := .later }
def TypesNestUptoCardSaid : Prop := Claim7.holds Tryd.pinned (.plain (OpenSpec.upto typesNestSpec)) typesNestUptoCard

/-- THE SECOND FORM's CARD OF 'mullionlaw08.UnifyInfers'. -/
def unifyInfersUptoCard : Claim7 := { stood := { row := unifyInfersUptoRow, standIns := [], harness := (true, "f1d96a98e49129c6609a0b3598c8d3e7503ea06332f966ab1b93e1da8e667e17"), looks := false }, kinds := [], alts := [], laidByText := true, laidKinds := [.data, .pinned], laidTests := true, laidLooks := .later }
def UnifyInfersUptoCardSaid : Prop := Claim7.holds Tryd.pinned (.plain (OpenSpec.upto unifyInfersSpec)) unifyInfersUptoCard

/-- THE SECOND FORM's CARD OF 'mullionlaw02.TypesFill'. -/
def typesFillUptoCard : Claim7 := { stood := { row := typesFillUptoRow, standIns := [], harness := (true, "f1d96a98e49129c6609a0b3598c8d3e7503ea06332f966ab1b93e1da8e667e17"), looks := false }, kinds := [], alts := [], laidByText := true, laidKinds := [.data, .pinned], laidTests := true, laidLooks := .later }
def TypesFillUptoCardSaid : Prop := Claim7.holds Tryd.pinned (.plain (OpenSpec.upto typesFillSpec)) typesFillUptoCard

/-- THE SECOND FORM's CARD OF 'mullionlaw02.TypesTwice'. -/
def typesTwiceUptoCard : Claim7 := { stood := { row := typesTwiceUptoRow, standIns := [], harness := (true, "f1d96a98e49129c6609a0b3598c8d3e7503ea06332f966ab1b93e1da8e667e17"), looks := false }, kinds := [], alts := [], laidByText := true, laidKinds := [.data, .pinned], laidTests := true, laidLooks := .later }
def TypesTwiceUptoCardSaid : Prop := Claim7.holds Tryd.pinned (.plain (OpenSpec.upto typesTwiceSpec)) typesTwiceUptoCard
end Rows
end Go.Proofs.YtefiefckjoledaaDoor
