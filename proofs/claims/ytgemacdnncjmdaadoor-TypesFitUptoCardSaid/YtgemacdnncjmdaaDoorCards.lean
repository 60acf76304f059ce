/-
  DERIVED. GIVEN WITH THE SEED: THE CARDS: each row of YtgemacdnncjmdaaDoorRows.lean that lists a variable, with what it lists TIED to the program's text (the seventh form; the later family's looks); each row that meets fmt, with fmt's text TOLD by the authors' own Lean function (tested against real Go, not proved from fmt's source: count such statements apart). THE CARD IS WHAT COUNTS. Prove the row's statement (the work); the ties are given (YtgemacdnncjmdaaDoorTie.lean); close each card by the builder's one call (the guide's Derived/Test/ToyasCard.lean, 'card_holds'). Laid BY PROGRAM, IN A SANDBOX (cutbox-door.mjs). By AI agents, Wed Nov 11 2026. No macro, syntax, notation, axiom, sorry.
-/
import Derived.Test.YtgemacdnncjmdaaDoorRows
import GoSem.ClaimSeven
namespace Go.Proofs.YtgemacdnncjmdaaDoor
namespace Rows

/-- THE TIED CARD OF 'mullionlaw08.UnifyKeeps'. -/
def unifyKeepsCard : Claim7 := { stood := { row := unifyKeepsRow, standIns := [], harness := (true, "f541f5f9cd79c9fc12e2fdd2b250c7ccc1483db0be49af82a74acbf1227e60e7"), looks := false }, kinds := [], alts := [], laidByText := true, laidKinds := [.data, .pinned], laidTests := true, laidLooks := .later }
def UnifyKeepsCardSaid : Prop := Claim7.holds Tryd.pinned (.plain (OpenSpec.ofChange unifyKeepsSpec)) unifyKeepsCard

/-- THE TIED CARD OF 'mullionlaw08.UnifyBack'. -/
def unifyBackCard : Claim7 := { stood := { row := unifyBackRow, standIns := [], harness := (true, "f541f5f9cd79c9fc12e2fdd2b250c7ccc1483db0be49af82a74acbf1227e60e7"), looks := false }, kinds := [], alts := [], laidByText := true, laidKinds := [.data, .pinned], laidTests := true, laidLooks := .later }
def UnifyBackCardSaid : Prop := Claim7.holds Tryd.pinned (.plain (OpenSpec.ofChange unifyBackSpec)) unifyBackCard

/-- THE TIED CARD OF 'mullionlaw02.TypesRelate'. -/
def typesRelateCard : Claim7 := { stood := { row := typesRelateRow, standIns := [], harness := (true, "f541f5f9cd79c9fc12e2fdd2b250c7ccc1483db0be49af82a74acbf1227e60e7"), looks := false }, kinds := [], alts := [], laidByText := true, laidKinds := [.data, .pinned], laidTests := true, laidLooks := .later }
def TypesRelateCardSaid : Prop := Claim7.holds Tryd.pinned (.plain (OpenSpec.ofChange typesRelateSpec)) typesRelateCard

/-- THE TIED CARD OF 'mullionlaw02.TypesNest'. -/
def typesNestCard : Claim7 := { stood := { row := typesNestRow, standIns := [], harness := (true, "f541f5f9cd79c9fc12e2fdd2b250c7ccc1483db0be49af82a74acbf1227e60e7"), looks := false }, kinds := [], alts := [], laidByText := true, laidKinds := [.data, .pinned], laidTests := true, laidLooks := .later }
def TypesNestCardSaid : Prop := Claim7.holds Tryd.pinned (.plain (OpenSpec.ofChange typesNestSpec)) typesNestCard

/-- THE TIED CARD OF 'mullionlaw08.UnifyInfers'. -/
def unifyInfersCard : Claim7 := { stood := { row := unifyInfersRow, standIns := [], harness := (true, "f541f5f9cd79c9fc12e2fdd2b250c7ccc1483db0be49af82a74acbf1227e60e7"), looks := false }, kinds := [], alts := [], laidByText := true, laidKinds := [.data, .pinned], laidTests := true, laidLooks := .later }
def UnifyInfersCardSaid : Prop := Claim7.holds Tryd.pinned (.plain (OpenSpec.ofChange unifyInfersSpec)) unifyInfersCard

/-- THE TIED CARD OF 'mullionlaw02.TypesFit'. -/
def typesFitCard : Claim7 := { stood := { row := typesFitRow, standIns := [], harness := (true, "f541f5f9cd79c9fc12e2fdd2b250c7ccc1483db0be49af82a74acbf1227e60e7"), looks := false }, kinds := [], alts := [], laidByText := true, laidKinds := [.data, .pinned], laidTests := true, laidLooks := .later }
def TypesFitCardSaid : Prop := Claim7.holds Tryd.pinned (.plain (OpenSpec.ofChange typesFitSpec)) typesFitCard

/-- THE SECOND FORM's CARD OF 'mullionlaw08.UnifyKeeps'. -/
def unifyKeepsUptoCard : Claim7 := { stood := { row := unifyKeepsUptoRow, standIns := [], harness := (true, "f541f5f9cd79c9fc12e2fdd2b250c7ccc1483db0be49af82a74acbf1227e60e7"), looks := false }, kinds := [], alts := [], laidByText := true, laidKinds := [.data, .pinned], laidTests := true, laidLooks := .later }
def UnifyKeepsUptoCardSaid : Prop := Claim7.holds Tryd.pinned (.plain (OpenSpec.upto unifyKeepsSpec)) unifyKeepsUptoCard

/-- THE SECOND FORM's CARD OF 'mullionlaw08.UnifyBack'. -/
def unifyBackUptoCard : Claim7 := { stood := { row := unifyBackUptoRow, standIns := [], harness := (true, "f541f5f9cd79c9fc12e2fdd2b250c7ccc1483db0be49af82a74acbf1227e60e7"), looks := false }, kinds := [], alts := [], laidByText := true, laidKinds := [.data, .pinned], laidTests := true, laidLooks := .later }
def UnifyBackUptoCardSaid : Prop := Claim7.holds Tryd.pinned (.plain (OpenSpec.upto unifyBackSpec)) unifyBackUptoCard

/-- THE SECOND FORM's CARD OF 'mullionlaw02.TypesRelate'. -/
def typesRelateUptoCard : Claim7 := { stood := { row := typesRelateUptoRow, standIns := [], harness := (true, "f541f5f9cd79c9fc12e2fdd2b250c7ccc1483db0be49af82a74acbf1227e60e7"), looks := false }, kinds := [], alts := [], laidByText := true, laidKinds := [.data, .pinned], laidTests := true, laidLooks := .later }
def TypesRelateUptoCardSaid : Prop := Claim7.holds Tryd.pinned (.plain (OpenSpec.upto typesRelateSpec)) typesRelateUptoCard

/-- THE SECOND FORM's CARD OF 'mullionlaw02.TypesNest'. -/
def typesNestUptoCard : Claim7 := { stood := { row := typesNestUptoRow, standIns := [], harness := (true, "f541f5f9cd79c9fc12e2fdd2b250c7ccc1483db0be49af82a74acbf1227e60e7"), looks := false }, kinds := [], alts := [], laidByText := true, laidKinds := [.data, .pinned], laidTests := true, laidLooks := .later }
def TypesNestUptoCardSaid : Prop := Claim7.holds Tryd.pinned (.plain (OpenSpec.upto typesNestSpec)) typesNestUptoCard

/-- THE SECOND FORM's CARD OF 'mullionlaw08.UnifyInfers'. -/
def unifyInfersUptoCard : Claim7 := { stood := { row := unifyInfersUptoRow, standIns := [], harness := (true, "f541f5f9cd79c9fc12e2fdd2b250c7ccc1483db0be49af82a74acbf1227e60e7"), looks := false }, kinds := [], alts := [], laidByText := true, laidKinds := [.data, .pinned], laidTests := true, laidLooks := .later }
def UnifyInfersUptoCardSaid : Prop := Claim7.holds Tryd.pinned (.plain (OpenSpec.upto unifyInfersSpec)) unifyInfersUptoCard

/-- THE SECOND FORM's CARD OF 'mullionlaw02.TypesFit'. -/
def typesFitUptoCard : Claim7 := { stood := { row := typesFitUptoRow, standIns := [], harness := (true, "f541f5f9cd79c9fc12e2fdd2b250c7ccc1483db0be49af82a74acbf1227e60e7"), looks := false }, kinds := [], alts := [], laidByText := true, laidKinds := [.data, .pinned], laidTests := true, laidLooks := .later }
def TypesFitUptoCardSaid : Prop := Claim7.holds Tryd.pinned (.plain (OpenSpec.upto typesFitSpec)) typesFitUptoCard
end Rows
end Go.Proofs.YtgemacdnncjmdaaDoor
