/-
  DERIVED. GIVEN WITH THE SEED: THE CARDS: each row of YtgaodjoddfjfmaaDoorRows.lean that lists a variable, with what it lists TIED to the program's text (the seventh form; the later family's looks); each row that meets fmt, with fmt's text TOLD by the authors' own Lean function (tested against real Go, not proved from fmt's source: count such statements apart). THE CARD IS WHAT COUNTS. Prove the row's statement (the work); the ties are given (YtgaodjoddfjfmaaDoorTie.lean); close each card by the builder's one call (the guide's Derived/Test/ToyasCard.lean, 'card_holds'). Laid BY PROGRAM, IN A SANDBOX (cutbox-door.mjs). By AI agents, Wed Nov 11 2026. No macro, syntax, notation, axiom, sorry.
-/
import Derived.Test.YtgaodjoddfjfmaaDoorRows
import GoSem.ClaimSeven
namespace Go.Proofs.YtgaodjoddfjfmaaDoor
namespace Rows

/-- THE TIED CARD OF 'mullionlaw04.TreeSame'. -/
def treeSameCard : Claim7 := { stood := { row := treeSameRow, standIns := [], harness := (true, "f33bba73c8d259fc4a90a4c4e47477e89914042239de023ce4cd84a0a41bb42e"), looks := false }, kinds := [], alts := [], laidByText := true, laidKinds := [.data, .widerDeep, .pinned], laidTests := true, laidLooks := .later }
def TreeSameCardSaid : Prop := Claim7.holds Tryd.pinned (.plain (OpenSpec.ofChange treeSameSpec)) treeSameCard

/-- THE TIED CARD OF 'mullionlaw04.TreeSound'. -/
def treeSoundCard : Claim7 := { stood := { row := treeSoundRow, standIns := [], harness := (true, "f33bba73c8d259fc4a90a4c4e47477e89914042239de023ce4cd84a0a41bb42e"), looks := false }, kinds := [], alts := [], laidByText := true, laidKinds := [.data, .widerDeep, .pinned], laidTests := true, laidLooks := .later }
def TreeSoundCardSaid : Prop := Claim7.holds Tryd.pinned (.plain (OpenSpec.ofChange treeSoundSpec)) treeSoundCard

/-- THE TIED CARD OF 'mullionlaw04.TreeParts'. -/
def treePartsCard : Claim7 := { stood := { row := treePartsRow, standIns := [], harness := (true, "f33bba73c8d259fc4a90a4c4e47477e89914042239de023ce4cd84a0a41bb42e"), looks := false }, kinds := [], alts := [], laidByText := true, laidKinds := [.data, .widerDeep, .pinned], laidTests := true, laidLooks := .later }
def TreePartsCardSaid : Prop := Claim7.holds Tryd.pinned (.plain (OpenSpec.ofChange treePartsSpec)) treePartsCard

/-- THE TIED CARD OF 'mullionlaw04.TreeSizes'. -/
def treeSizesCard : Claim7 := { stood := { row := treeSizesRow, standIns := [], harness := (true, "f33bba73c8d259fc4a90a4c4e47477e89914042239de023ce4cd84a0a41bb42e"), looks := false }, kinds := [], alts := [], laidByText := true, laidKinds := [.data, .widerDeep, .pinned], laidTests := true, laidLooks := .later }
def TreeSizesCardSaid : Prop := Claim7.holds Tryd.pinned (.plain (OpenSpec.ofChange treeSizesSpec)) treeSizesCard

/-- THE TIED CARD OF 'mullionlaw04.TreeGrows'. -/
def treeGrowsCard : Claim7 := { stood := { row := treeGrowsRow, standIns := [], harness := (true, "f33bba73c8d259fc4a90a4c4e47477e89914042239de023ce4cd84a0a41bb42e"), looks := false }, kinds := [], alts := [], laidByText := true, laidKinds := [.data, .widerDeep, .pinned], laidTests := true, laidLooks := .later }
def TreeGrowsCardSaid : Prop := Claim7.holds Tryd.pinned (.plain (OpenSpec.ofChange treeGrowsSpec)) treeGrowsCard

/-- THE TIED CARD OF 'mullionlaw04.TreeNames'. -/
def treeNamesCard : Claim7 := { stood := { row := treeNamesRow, standIns := [], harness := (true, "f33bba73c8d259fc4a90a4c4e47477e89914042239de023ce4cd84a0a41bb42e"), looks := false }, kinds := [], alts := [], laidByText := true, laidKinds := [.data, .widerDeep, .pinned], laidTests := true, laidLooks := .later }
def TreeNamesCardSaid : Prop := Claim7.holds Tryd.pinned (.plain (OpenSpec.ofChange treeNamesSpec)) treeNamesCard

/-- THE TIED CARD OF 'mullionlaw04.TreeWalks'. -/
def treeWalksCard : Claim7 := { stood := { row := treeWalksRow, standIns := [], harness := (true, "f33bba73c8d259fc4a90a4c4e47477e89914042239de023ce4cd84a0a41bb42e"), looks := false }, kinds := [], alts := [], laidByText := true, laidKinds := [.data, .widerDeep, .pinned], laidTests := true, laidLooks := .later }
def TreeWalksCardSaid : Prop := Claim7.holds Tryd.pinned (.plain (OpenSpec.ofChange treeWalksSpec)) treeWalksCard

/-- THE TIED CARD OF 'mullionlaw04.TreeLeaves'. -/
def treeLeavesCard : Claim7 := { stood := { row := treeLeavesRow, standIns := [], harness := (true, "f33bba73c8d259fc4a90a4c4e47477e89914042239de023ce4cd84a0a41bb42e"), looks := false }, kinds := [], alts := [], laidByText := true, laidKinds := [.data, .widerDeep, .pinned], laidTests := true, laidLooks := .later }
def TreeLeavesCardSaid : Prop := Claim7.holds Tryd.pinned (.plain (OpenSpec.ofChange treeLeavesSpec)) treeLeavesCard

/-- THE SECOND FORM's CARD OF 'mullionlaw04.TreeSame'. -/
def treeSameUptoCard : Claim7 := { stood := { row := treeSameUptoRow, standIns := [], harness := (true, "f33bba73c8d259fc4a90a4c4e47477e89914042239de023ce4cd84a0a41bb42e"), looks := false }, kinds := [], alts := [], laidByText := true, laidKinds := [.data, .widerDeep, .pinned], laidTests := true, laidLooks := .later }
def TreeSameUptoCardSaid : Prop := Claim7.holds Tryd.pinned (.plain (OpenSpec.upto treeSameSpec)) treeSameUptoCard

/-- THE SECOND FORM's CARD OF 'mullionlaw04.TreeSound'. -/
def treeSoundUptoCard : Claim7 := { stood := { row := treeSoundUptoRow, standIns := [], harness := (true, "f33bba73c8d259fc4a90a4c4e47477e89914042239de023ce4cd84a0a41bb42e"), looks := false }, kinds := [], alts := [], laidByText := true, laidKinds := [.data, .widerDeep, .pinned], laidTests := true, laidLooks := .later }
def TreeSoundUptoCardSaid : Prop := Claim7.holds Tryd.pinned (.plain (OpenSpec.upto treeSoundSpec)) treeSoundUptoCard

/-- THE SECOND FORM's CARD OF 'mullionlaw04.TreeParts'. -/
def treePartsUptoCard : Claim7 := { stood := { row := treePartsUptoRow, standIns := [], harness := (true, "f33bba73c8d259fc4a90a4c4e47477e89914042239de023ce4cd84a0a41bb42e"), looks := false }, kinds := [], alts := [], laidByText := true, laidKinds := [.data, .widerDeep, .pinned], laidTests := true, laidLooks := .later }
def TreePartsUptoCardSaid : Prop := Claim7.holds Tryd.pinned (.plain (OpenSpec.upto treePartsSpec)) treePartsUptoCard

/-- THE SECOND FORM's CARD OF 'mullionlaw04.TreeSizes'. -/
def treeSizesUptoCard : Claim7 := { stood := { row := treeSizesUptoRow, standIns := [], harness := (true, "f33bba73c8d259fc4a90a4c4e47477e89914042239de023ce4cd84a0a41bb42e"), looks := false }, kinds := [], alts := [], laidByText := true, laidKinds := [.data, .widerDeep, .pinned], laidTests := true, laidLooks := .later }
def TreeSizesUptoCardSaid : Prop := Claim7.holds Tryd.pinned (.plain (OpenSpec.upto treeSizesSpec)) treeSizesUptoCard

/-- THE SECOND FORM's CARD OF 'mullionlaw04.TreeGrows'. -/
def treeGrowsUptoCard : Claim7 := { stood := { row := treeGrowsUptoRow, standIns := [], harness := (true, "f33bba73c8d259fc4a90a4c4e47477e89914042239de023ce4cd84a0a41bb42e"), looks := false }, kinds := [], alts := [], laidByText := true, laidKinds := [.data, .widerDeep, .pinned], laidTests := true, laidLooks := .later }
def TreeGrowsUptoCardSaid : Prop := Claim7.holds Tryd.pinned (.plain (OpenSpec.upto treeGrowsSpec)) treeGrowsUptoCard

/-- THE SECOND FORM's CARD OF 'mullionlaw04.TreeNames'. -/
def treeNamesUptoCard : Claim7 := { stood := { row := treeNamesUptoRow, standIns := [], harness := (true, "f33bba73c8d259fc4a90a4c4e47477e89914042239de023ce4cd84a0a41bb42e"), looks := false }, kinds := [], alts := [], laidByText := true, laidKinds := [.data, .widerDeep, .pinned], laidTests := true, laidLooks := .later }
def TreeNamesUptoCardSaid : Prop := Claim7.holds Tryd.pinned (.plain (OpenSpec.upto treeNamesSpec)) treeNamesUptoCard

/-- THE SECOND FORM's CARD OF 'mullionlaw04.TreeWalks'. -/
def treeWalksUptoCard : Claim7 := { stood := { row := treeWalksUptoRow, standIns := [], harness := (true, "f33bba73c8d259fc4a90a4c4e47477e89914042239de023ce4cd84a0a41bb42e"), looks := false }, kinds := [], alts := [], laidByText := true, laidKinds := [.data, .widerDeep, .pinned], laidTests := true, laidLooks := .later }
def TreeWalksUptoCardSaid : Prop := Claim7.holds Tryd.pinned (.plain (OpenSpec.upto treeWalksSpec)) treeWalksUptoCard

/-- THE SECOND FORM's CARD OF 'mullionlaw04.TreeLeaves'. -/
def treeLeavesUptoCard : Claim7 := { stood := { row := treeLeavesUptoRow, standIns := [], harness := (true, "f33bba73c8d259fc4a90a4c4e47477e89914042239de023ce4cd84a0a41bb42e"), looks := false }, kinds := [], alts := [], laidByText := true, laidKinds := [.data, .widerDeep, .pinned], laidTests := true, laidLooks := .later }
def TreeLeavesUptoCardSaid : Prop := Claim7.holds Tryd.pinned (.plain (OpenSpec.upto treeLeavesSpec)) treeLeavesUptoCard
end Rows
end Go.Proofs.YtgaodjoddfjfmaaDoor
