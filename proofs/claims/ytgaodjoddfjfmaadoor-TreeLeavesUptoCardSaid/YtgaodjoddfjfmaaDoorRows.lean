/-
  NARROWER THAN 'FOR EVERY INPUT', by the rows' own cells (each row's printed sentence says how): TreeSame: loops, laid · TreeSound: loops, laid · TreeParts: loops, laid · TreeSizes: loops, laid · TreeGrows: loops, laid · TreeNames: loops, laid · TreeWalks: loops, laid · TreeLeaves: loops, laid.
  DERIVED. THE GIVEN ROWS OF THIS SEAT. 8 by the template 'for every input the law returns true; each argument reads behind the call as it read before'; 0 by the template 'total and deterministic' (their statements: YtgaodjoddfjfmaaDoorTotals.lean).
  GIVEN WITH THE SEED: the statements are not yours to turn. If you find one false, say at which input.
  Laid BY PROGRAM, IN A SANDBOX (cutbox-rows.mjs): the forced cells as the released guide's own fill.sh prints them over the translation a93cb78ca5b3b9a8… (all of the seat's roots in one cut). By AI agents, Wed Nov 11 2026. No macro, syntax, notation, axiom, sorry.
-/
import Derived.Test.YtgaodjoddfjfmaaDoorChecked
import GoSem.PinnedTables
import GoSem.Claim
import GoSem.ClaimJoined
import GoSem.ClaimMapViews
import Derived.JoinedTies
import Derived.KernelRfl
namespace Go.Proofs.YtgaodjoddfjfmaaDoor
/- THE CELL 'sum', in the pinned program and in every row, IS THE sha256 OF THE DUMP (.gsa) THAT YtgaodjoddfjfmaaDoorProg.lean LOADS. Nothing in Lean hashes anything: it is a label: what it is worth is what the hold of that sum in a sandbox is worth. -/
noncomputable def Tryd.pinned : Pinned := { name := "ytgaodjoddfjfmaadoor", sum := "a93cb78ca5b3b9a8c64f44f93dd86df793fc8deb012ef21b3447bcd83be1c749", checked := Tryd.checked }
namespace Rows
def none {H : Type} : Left H := { results := [], args := [] }

/- WHAT THE LISTED PACKAGE-LEVEL VARIABLES READ AS WHEN THE CALL BEGINS. Each datum BY PROGRAM (the guide's laid-datum.mjs) off the statement by which the dump's own 'gosem.cut.vars' lays the variable. In a bare row this is a premise. The card (YtgaodjoddfjfmaaDoorCards.lean) ties it to the program's text. -/
def laid_unicode_utf8_acceptRanges {H : Type} : DataW H := .agg [.agg [.lit (.int .u8 128), .lit (.int .u8 191)], .agg [.lit (.int .u8 160), .lit (.int .u8 191)], .agg [.lit (.int .u8 128), .lit (.int .u8 159)], .agg [.lit (.int .u8 144), .lit (.int .u8 191)], .agg [.lit (.int .u8 128), .lit (.int .u8 143)], .agg [.lit (.int .u8 0), .lit (.int .u8 0)], .agg [.lit (.int .u8 0), .lit (.int .u8 0)], .agg [.lit (.int .u8 0), .lit (.int .u8 0)], .agg [.lit (.int .u8 0), .lit (.int .u8 0)], .agg [.lit (.int .u8 0), .lit (.int .u8 0)], .agg [.lit (.int .u8 0), .lit (.int .u8 0)], .agg [.lit (.int .u8 0), .lit (.int .u8 0)], .agg [.lit (.int .u8 0), .lit (.int .u8 0)], .agg [.lit (.int .u8 0), .lit (.int .u8 0)], .agg [.lit (.int .u8 0), .lit (.int .u8 0)], .agg [.lit (.int .u8 0), .lit (.int .u8 0)]]
def laid_mullion_tree_Ops {H : Type} : DataW H := .agg [.slice [.lit (.string [42]), .lit (.string [47]), .lit (.string [37]), .lit (.string [60, 60]), .lit (.string [62, 62]), .lit (.string [38]), .lit (.string [38, 94])] [], .slice [.lit (.string [43]), .lit (.string [45]), .lit (.string [124]), .lit (.string [94])] [], .slice [.lit (.string [61, 61]), .lit (.string [33, 61]), .lit (.string [60]), .lit (.string [60, 61]), .lit (.string [62]), .lit (.string [62, 61])] [], .slice [.lit (.string [38, 38])] [], .slice [.lit (.string [124, 124])] []]
/-- One of Go's own tables, pinned by name: the form's constant. -/
def laid_unicode_utf8_first : DataW Unit := Go.Pinned.utf8First

/-- 'mullionlaw04.TreeSame': WHATEVER THE INPUT: true; the input reads as it did. -/
def treeSameSpec : ChangeSpec := { name := "treeSame", fn := fun _ => fun
  | [d1, d2] => { results := [.lit (.bool true)], args := [d1, d2] }
  | _ => none }
def treeSameRow : OpenClaim := { program := "ytgaodjoddfjfmaadoor", sum := "a93cb78ca5b3b9a8c64f44f93dd86df793fc8deb012ef21b3447bcd83be1c749", func := "mullion/mullionlaw04.TreeSame", spec := "treeSame", inPlace := ["internal/bytealg.IndexByteString", "internal/bytealg.IndexString"], unfollowed := true, recurses := true, named := ["unicode/utf8.first", "unicode/utf8.acceptRanges", "internal/bytealg.MaxLen", "mullion/tree.Ops"], loops := true, apart := false, laid := [("unicode/utf8.acceptRanges", laid_unicode_utf8_acceptRanges), ("mullion/tree.Ops", laid_mullion_tree_Ops), ("unicode/utf8.first", laid_unicode_utf8_first)] }
def TreeSameSaid : Prop := treeSameRow.holds Tryd.pinned (OpenSpec.ofChange treeSameSpec)

/-- ITS FALSE NEIGHBOUR: 'it returns false'. Refute it at one input. -/
def treeSameWrong : ChangeSpec := { name := "treeSame", fn := fun _ => fun
  | [d1, d2] => { results := [.lit (.bool false)], args := [d1, d2] }
  | _ => none }
def TreeSameWrongFalsely : Prop := treeSameRow.holds Tryd.pinned (OpenSpec.ofChange treeSameWrong)

/-- 'mullionlaw04.TreeSound': WHATEVER THE INPUT: true; the input reads as it did. -/
def treeSoundSpec : ChangeSpec := { name := "treeSound", fn := fun _ => fun
  | [d1, d2] => { results := [.lit (.bool true)], args := [d1, d2] }
  | _ => none }
def treeSoundRow : OpenClaim := { program := "ytgaodjoddfjfmaadoor", sum := "a93cb78ca5b3b9a8c64f44f93dd86df793fc8deb012ef21b3447bcd83be1c749", func := "mullion/mullionlaw04.TreeSound", spec := "treeSound", inPlace := ["internal/bytealg.IndexByteString", "internal/bytealg.IndexString"], unfollowed := true, recurses := true, named := ["unicode/utf8.first", "unicode/utf8.acceptRanges", "internal/bytealg.MaxLen", "mullion/tree.Ops"], loops := true, apart := false, laid := [("unicode/utf8.acceptRanges", laid_unicode_utf8_acceptRanges), ("mullion/tree.Ops", laid_mullion_tree_Ops), ("unicode/utf8.first", laid_unicode_utf8_first)] }
def TreeSoundSaid : Prop := treeSoundRow.holds Tryd.pinned (OpenSpec.ofChange treeSoundSpec)

/-- ITS FALSE NEIGHBOUR: 'it returns false'. Refute it at one input. -/
def treeSoundWrong : ChangeSpec := { name := "treeSound", fn := fun _ => fun
  | [d1, d2] => { results := [.lit (.bool false)], args := [d1, d2] }
  | _ => none }
def TreeSoundWrongFalsely : Prop := treeSoundRow.holds Tryd.pinned (OpenSpec.ofChange treeSoundWrong)

/-- 'mullionlaw04.TreeParts': WHATEVER THE INPUT: true; the input reads as it did. -/
def treePartsSpec : ChangeSpec := { name := "treeParts", fn := fun _ => fun
  | [d] => { results := [.lit (.bool true)], args := [d] }
  | _ => none }
def treePartsRow : OpenClaim := { program := "ytgaodjoddfjfmaadoor", sum := "a93cb78ca5b3b9a8c64f44f93dd86df793fc8deb012ef21b3447bcd83be1c749", func := "mullion/mullionlaw04.TreeParts", spec := "treeParts", inPlace := ["internal/bytealg.IndexByteString", "internal/bytealg.IndexString"], unfollowed := true, recurses := true, named := ["unicode/utf8.first", "unicode/utf8.acceptRanges", "internal/bytealg.MaxLen", "mullion/tree.Ops"], loops := true, apart := false, laid := [("unicode/utf8.acceptRanges", laid_unicode_utf8_acceptRanges), ("mullion/tree.Ops", laid_mullion_tree_Ops), ("unicode/utf8.first", laid_unicode_utf8_first)] }
def TreePartsSaid : Prop := treePartsRow.holds Tryd.pinned (OpenSpec.ofChange treePartsSpec)

/-- ITS FALSE NEIGHBOUR: 'it returns false'. Refute it at one input. -/
def treePartsWrong : ChangeSpec := { name := "treeParts", fn := fun _ => fun
  | [d] => { results := [.lit (.bool false)], args := [d] }
  | _ => none }
def TreePartsWrongFalsely : Prop := treePartsRow.holds Tryd.pinned (OpenSpec.ofChange treePartsWrong)

/-- 'mullionlaw04.TreeSizes': WHATEVER THE INPUT: true; the input reads as it did. -/
def treeSizesSpec : ChangeSpec := { name := "treeSizes", fn := fun _ => fun
  | [d] => { results := [.lit (.bool true)], args := [d] }
  | _ => none }
def treeSizesRow : OpenClaim := { program := "ytgaodjoddfjfmaadoor", sum := "a93cb78ca5b3b9a8c64f44f93dd86df793fc8deb012ef21b3447bcd83be1c749", func := "mullion/mullionlaw04.TreeSizes", spec := "treeSizes", inPlace := ["internal/bytealg.IndexByteString", "internal/bytealg.IndexString"], unfollowed := true, recurses := true, named := ["unicode/utf8.first", "unicode/utf8.acceptRanges", "internal/bytealg.MaxLen", "mullion/tree.Ops"], loops := true, apart := false, laid := [("unicode/utf8.acceptRanges", laid_unicode_utf8_acceptRanges), ("mullion/tree.Ops", laid_mullion_tree_Ops), ("unicode/utf8.first", laid_unicode_utf8_first)] }
def TreeSizesSaid : Prop := treeSizesRow.holds Tryd.pinned (OpenSpec.ofChange treeSizesSpec)

/-- ITS FALSE NEIGHBOUR: 'it returns false'. Refute it at one input. -/
def treeSizesWrong : ChangeSpec := { name := "treeSizes", fn := fun _ => fun
  | [d] => { results := [.lit (.bool false)], args := [d] }
  | _ => none }
def TreeSizesWrongFalsely : Prop := treeSizesRow.holds Tryd.pinned (OpenSpec.ofChange treeSizesWrong)

/-- 'mullionlaw04.TreeGrows': WHATEVER THE INPUT: true; the input reads as it did. -/
def treeGrowsSpec : ChangeSpec := { name := "treeGrows", fn := fun _ => fun
  | [d] => { results := [.lit (.bool true)], args := [d] }
  | _ => none }
def treeGrowsRow : OpenClaim := { program := "ytgaodjoddfjfmaadoor", sum := "a93cb78ca5b3b9a8c64f44f93dd86df793fc8deb012ef21b3447bcd83be1c749", func := "mullion/mullionlaw04.TreeGrows", spec := "treeGrows", inPlace := ["internal/bytealg.IndexByteString", "internal/bytealg.IndexString"], unfollowed := true, recurses := true, named := ["unicode/utf8.first", "unicode/utf8.acceptRanges", "internal/bytealg.MaxLen", "mullion/tree.Ops"], loops := true, apart := false, laid := [("unicode/utf8.acceptRanges", laid_unicode_utf8_acceptRanges), ("mullion/tree.Ops", laid_mullion_tree_Ops), ("unicode/utf8.first", laid_unicode_utf8_first)] }
def TreeGrowsSaid : Prop := treeGrowsRow.holds Tryd.pinned (OpenSpec.ofChange treeGrowsSpec)

/-- ITS FALSE NEIGHBOUR: 'it returns false'. Refute it at one input. -/
def treeGrowsWrong : ChangeSpec := { name := "treeGrows", fn := fun _ => fun
  | [d] => { results := [.lit (.bool false)], args := [d] }
  | _ => none }
def TreeGrowsWrongFalsely : Prop := treeGrowsRow.holds Tryd.pinned (OpenSpec.ofChange treeGrowsWrong)

/-- 'mullionlaw04.TreeNames': WHATEVER THE INPUT: true; the input reads as it did. -/
def treeNamesSpec : ChangeSpec := { name := "treeNames", fn := fun _ => fun
  | [d] => { results := [.lit (.bool true)], args := [d] }
  | _ => none }
def treeNamesRow : OpenClaim := { program := "ytgaodjoddfjfmaadoor", sum := "a93cb78ca5b3b9a8c64f44f93dd86df793fc8deb012ef21b3447bcd83be1c749", func := "mullion/mullionlaw04.TreeNames", spec := "treeNames", inPlace := ["internal/bytealg.IndexByteString", "internal/bytealg.IndexString"], unfollowed := true, recurses := true, named := ["unicode/utf8.first", "unicode/utf8.acceptRanges", "internal/bytealg.MaxLen", "mullion/tree.Ops"], loops := true, apart := false, laid := [("unicode/utf8.acceptRanges", laid_unicode_utf8_acceptRanges), ("mullion/tree.Ops", laid_mullion_tree_Ops), ("unicode/utf8.first", laid_unicode_utf8_first)] }
def TreeNamesSaid : Prop := treeNamesRow.holds Tryd.pinned (OpenSpec.ofChange treeNamesSpec)

/-- ITS FALSE NEIGHBOUR: 'it returns false'. Refute it at one input. -/
def treeNamesWrong : ChangeSpec := { name := "treeNames", fn := fun _ => fun
  | [d] => { results := [.lit (.bool false)], args := [d] }
  | _ => none }
def TreeNamesWrongFalsely : Prop := treeNamesRow.holds Tryd.pinned (OpenSpec.ofChange treeNamesWrong)

/-- 'mullionlaw04.TreeWalks': WHATEVER THE INPUT: true; the input reads as it did. -/
def treeWalksSpec : ChangeSpec := { name := "treeWalks", fn := fun _ => fun
  | [d] => { results := [.lit (.bool true)], args := [d] }
  | _ => none }
def treeWalksRow : OpenClaim := { program := "ytgaodjoddfjfmaadoor", sum := "a93cb78ca5b3b9a8c64f44f93dd86df793fc8deb012ef21b3447bcd83be1c749", func := "mullion/mullionlaw04.TreeWalks", spec := "treeWalks", inPlace := ["internal/bytealg.IndexByteString", "internal/bytealg.IndexString"], unfollowed := true, recurses := true, named := ["unicode/utf8.first", "unicode/utf8.acceptRanges", "internal/bytealg.MaxLen", "mullion/tree.Ops"], loops := true, apart := false, laid := [("unicode/utf8.acceptRanges", laid_unicode_utf8_acceptRanges), ("mullion/tree.Ops", laid_mullion_tree_Ops), ("unicode/utf8.first", laid_unicode_utf8_first)] }
def TreeWalksSaid : Prop := treeWalksRow.holds Tryd.pinned (OpenSpec.ofChange treeWalksSpec)

/-- ITS FALSE NEIGHBOUR: 'it returns false'. Refute it at one input. -/
def treeWalksWrong : ChangeSpec := { name := "treeWalks", fn := fun _ => fun
  | [d] => { results := [.lit (.bool false)], args := [d] }
  | _ => none }
def TreeWalksWrongFalsely : Prop := treeWalksRow.holds Tryd.pinned (OpenSpec.ofChange treeWalksWrong)

/-- 'mullionlaw04.TreeLeaves': WHATEVER THE INPUT: true; the input reads as it did. -/
def treeLeavesSpec : ChangeSpec := { name := "treeLeaves", fn := fun _ => fun
  | [d1, d2] => { results := [.lit (.bool true)], args := [d1, d2] }
  | _ => none }
def treeLeavesRow : OpenClaim := { program := "ytgaodjoddfjfmaadoor", sum := "a93cb78ca5b3b9a8c64f44f93dd86df793fc8deb012ef21b3447bcd83be1c749", func := "mullion/mullionlaw04.TreeLeaves", spec := "treeLeaves", inPlace := ["internal/bytealg.IndexByteString", "internal/bytealg.IndexString"], unfollowed := true, recurses := true, named := ["unicode/utf8.first", "unicode/utf8.acceptRanges", "internal/bytealg.MaxLen", "mullion/tree.Ops"], loops := true, apart := false, laid := [("unicode/utf8.acceptRanges", laid_unicode_utf8_acceptRanges), ("mullion/tree.Ops", laid_mullion_tree_Ops), ("unicode/utf8.first", laid_unicode_utf8_first)] }
def TreeLeavesSaid : Prop := treeLeavesRow.holds Tryd.pinned (OpenSpec.ofChange treeLeavesSpec)

/-- ITS FALSE NEIGHBOUR: 'it returns false'. Refute it at one input. -/
def treeLeavesWrong : ChangeSpec := { name := "treeLeaves", fn := fun _ => fun
  | [d1, d2] => { results := [.lit (.bool false)], args := [d1, d2] }
  | _ => none }
def TreeLeavesWrongFalsely : Prop := treeLeavesRow.holds Tryd.pinned (OpenSpec.ofChange treeLeavesWrong)

/- THE SECOND FORM. 'bulk': how many values and letters a reading holds, each counted each time it is reached (what is shared counts as often as it is met; a slice's spare places count too). A statement '..UptoSaid' is the law's where the arguments, and the package variables that the reading takes, are together of bulk at most 1048576: NARROWER than '..Said'. Prove '..Said' where nothing that the law and all that it calls make is longer than what came in: it says more and counts as full. Else prove '..UptoSaid'. A law counts once. -/
mutual
def uptoBulk {H : Type} : DataW H → Nat
  | .lit (.string bytes) => bytes.length + 1
  | .lit _ => 1
  | .nil => 1
  | .ptr d => uptoBulk d + 1
  | .slice elems spare => uptoBulkAll elems + uptoBulkAll spare + 1
  | .agg parts => uptoBulkAll parts + 1
  | .iface _ d => uptoBulk d + 1
  | .map entries => uptoBulkEntries entries + 1
  | .held _ => 1
def uptoBulkAll {H : Type} : List (DataW H) → Nat
  | [] => 0
  | d :: r => uptoBulk d + uptoBulkAll r
def uptoBulkEntries {H : Type} : List (Lit × DataW H) → Nat
  | [] => 0
  | x :: r => uptoBulkEntry x + uptoBulkEntries r
def uptoBulkEntry {H : Type} : Lit × DataW H → Nat
  | (.string bytes, d) => bytes.length + uptoBulk d + 1
  | (_, d) => uptoBulk d + 1
 end
def uptoSmall : (H : Type) → List (DataW H) → Bool := fun _ ds => decide (uptoBulkAll ds ≤ 1048576)
def OpenSpec.upto (s : _root_.Go.ChangeSpec) : _root_.Go.OpenSpec := { _root_.Go.OpenSpec.ofChange s with cond := some uptoSmall }

/-- 'mullionlaw04.TreeSame', WHERE WHAT IT READS IS OF BULK AT MOST 1048576: true; the input reads as it did. -/
def treeSameUptoRow : OpenClaim := { program := "ytgaodjoddfjfmaadoor", sum := "a93cb78ca5b3b9a8c64f44f93dd86df793fc8deb012ef21b3447bcd83be1c749", func := "mullion/mullionlaw04.TreeSame", spec := "treeSame", inPlace := ["internal/bytealg.IndexByteString", "internal/bytealg.IndexString"], unfollowed := true, recurses := true, named := ["unicode/utf8.first", "unicode/utf8.acceptRanges", "internal/bytealg.MaxLen", "mullion/tree.Ops"], loops := true, apart := false, laid := [("unicode/utf8.acceptRanges", laid_unicode_utf8_acceptRanges), ("mullion/tree.Ops", laid_mullion_tree_Ops), ("unicode/utf8.first", laid_unicode_utf8_first)], narrowed := true }
def TreeSameUptoSaid : Prop := treeSameUptoRow.holds Tryd.pinned (OpenSpec.upto treeSameSpec)

/-- 'mullionlaw04.TreeSound', WHERE WHAT IT READS IS OF BULK AT MOST 1048576: true; the input reads as it did. -/
def treeSoundUptoRow : OpenClaim := { program := "ytgaodjoddfjfmaadoor", sum := "a93cb78ca5b3b9a8c64f44f93dd86df793fc8deb012ef21b3447bcd83be1c749", func := "mullion/mullionlaw04.TreeSound", spec := "treeSound", inPlace := ["internal/bytealg.IndexByteString", "internal/bytealg.IndexString"], unfollowed := true, recurses := true, named := ["unicode/utf8.first", "unicode/utf8.acceptRanges", "internal/bytealg.MaxLen", "mullion/tree.Ops"], loops := true, apart := false, laid := [("unicode/utf8.acceptRanges", laid_unicode_utf8_acceptRanges), ("mullion/tree.Ops", laid_mullion_tree_Ops), ("unicode/utf8.first", laid_unicode_utf8_first)], narrowed := true }
def TreeSoundUptoSaid : Prop := treeSoundUptoRow.holds Tryd.pinned (OpenSpec.upto treeSoundSpec)

/-- 'mullionlaw04.TreeParts', WHERE WHAT IT READS IS OF BULK AT MOST 1048576: true; the input reads as it did. -/
def treePartsUptoRow : OpenClaim := { program := "ytgaodjoddfjfmaadoor", sum := "a93cb78ca5b3b9a8c64f44f93dd86df793fc8deb012ef21b3447bcd83be1c749", func := "mullion/mullionlaw04.TreeParts", spec := "treeParts", inPlace := ["internal/bytealg.IndexByteString", "internal/bytealg.IndexString"], unfollowed := true, recurses := true, named := ["unicode/utf8.first", "unicode/utf8.acceptRanges", "internal/bytealg.MaxLen", "mullion/tree.Ops"], loops := true, apart := false, laid := [("unicode/utf8.acceptRanges", laid_unicode_utf8_acceptRanges), ("mullion/tree.Ops", laid_mullion_tree_Ops), ("unicode/utf8.first", laid_unicode_utf8_first)], narrowed := true }
def TreePartsUptoSaid : Prop := treePartsUptoRow.holds Tryd.pinned (OpenSpec.upto treePartsSpec)

/-- 'mullionlaw04.TreeSizes', WHERE WHAT IT READS IS OF BULK AT MOST 1048576: true; the input reads as it did. -/
def treeSizesUptoRow : OpenClaim := { program := "ytgaodjoddfjfmaadoor", sum := "a93cb78ca5b3b9a8c64f44f93dd86df793fc8deb012ef21b3447bcd83be1c749", func := "mullion/mullionlaw04.TreeSizes", spec := "treeSizes", inPlace := ["internal/bytealg.IndexByteString", "internal/bytealg.IndexString"], unfollowed := true, recurses := true, named := ["unicode/utf8.first", "unicode/utf8.acceptRanges", "internal/bytealg.MaxLen", "mullion/tree.Ops"], loops := true, apart := false, laid := [("unicode/utf8.acceptRanges", laid_unicode_utf8_acceptRanges), ("mullion/tree.Ops", laid_mullion_tree_Ops), ("unicode/utf8.first", laid_unicode_utf8_first)], narrowed := true }
def TreeSizesUptoSaid : Prop := treeSizesUptoRow.holds Tryd.pinned (OpenSpec.upto treeSizesSpec)

/-- 'mullionlaw04.TreeGrows', WHERE WHAT IT READS IS OF BULK AT MOST 1048576: true; the input reads as it did. -/
def treeGrowsUptoRow : OpenClaim := { program := "ytgaodjoddfjfmaadoor", sum := "a93cb78ca5b3b9a8c64f44f93dd86df793fc8deb012ef21b3447bcd83be1c749", func := "mullion/mullionlaw04.TreeGrows", spec := "treeGrows", inPlace := ["internal/bytealg.IndexByteString", "internal/bytealg.IndexString"], unfollowed := true, recurses := true, named := ["unicode/utf8.first", "unicode/utf8.acceptRanges", "internal/bytealg.MaxLen", "mullion/tree.Ops"], loops := true, apart := false, laid := [("unicode/utf8.acceptRanges", laid_unicode_utf8_acceptRanges), ("mullion/tree.Ops", laid_mullion_tree_Ops), ("unicode/utf8.first", laid_unicode_utf8_first)], narrowed := true }
def TreeGrowsUptoSaid : Prop := treeGrowsUptoRow.holds Tryd.pinned (OpenSpec.upto treeGrowsSpec)

/-- 'mullionlaw04.TreeNames', WHERE WHAT IT READS IS OF BULK AT MOST 1048576: true; the input reads as it did. -/
def treeNamesUptoRow : OpenClaim := { program := "ytgaodjoddfjfmaadoor", sum := "a93cb78ca5b3b9a8c64f44f93dd86df793fc8deb012ef21b3447bcd83be1c749", func := "mullion/mullionlaw04.TreeNames", spec := "treeNames", inPlace := ["internal/bytealg.IndexByteString", "internal/bytealg.IndexString"], unfollowed := true, recurses := true, named := ["unicode/utf8.first", "unicode/utf8.acceptRanges", "internal/bytealg.MaxLen", "mullion/tree.Ops"], loops := true, apart := false, laid := [("unicode/utf8.acceptRanges", laid_unicode_utf8_acceptRanges), ("mullion/tree.Ops", laid_mullion_tree_Ops), ("unicode/utf8.first", laid_unicode_utf8_first)], narrowed := true }
def TreeNamesUptoSaid : Prop := treeNamesUptoRow.holds Tryd.pinned (OpenSpec.upto treeNamesSpec)

/-- 'mullionlaw04.TreeWalks', WHERE WHAT IT READS IS OF BULK AT MOST 1048576: true; the input reads as it did. -/
def treeWalksUptoRow : OpenClaim := { program := "ytgaodjoddfjfmaadoor", sum := "a93cb78ca5b3b9a8c64f44f93dd86df793fc8deb012ef21b3447bcd83be1c749", func := "mullion/mullionlaw04.TreeWalks", spec := "treeWalks", inPlace := ["internal/bytealg.IndexByteString", "internal/bytealg.IndexString"], unfollowed := true, recurses := true, named := ["unicode/utf8.first", "unicode/utf8.acceptRanges", "internal/bytealg.MaxLen", "mullion/tree.Ops"], loops := true, apart := false, laid := [("unicode/utf8.acceptRanges", laid_unicode_utf8_acceptRanges), ("mullion/tree.Ops", laid_mullion_tree_Ops), ("unicode/utf8.first", laid_unicode_utf8_first)], narrowed := true }
def TreeWalksUptoSaid : Prop := treeWalksUptoRow.holds Tryd.pinned (OpenSpec.upto treeWalksSpec)

/-- 'mullionlaw04.TreeLeaves', WHERE WHAT IT READS IS OF BULK AT MOST 1048576: true; the input reads as it did. -/
def treeLeavesUptoRow : OpenClaim := { program := "ytgaodjoddfjfmaadoor", sum := "a93cb78ca5b3b9a8c64f44f93dd86df793fc8deb012ef21b3447bcd83be1c749", func := "mullion/mullionlaw04.TreeLeaves", spec := "treeLeaves", inPlace := ["internal/bytealg.IndexByteString", "internal/bytealg.IndexString"], unfollowed := true, recurses := true, named := ["unicode/utf8.first", "unicode/utf8.acceptRanges", "internal/bytealg.MaxLen", "mullion/tree.Ops"], loops := true, apart := false, laid := [("unicode/utf8.acceptRanges", laid_unicode_utf8_acceptRanges), ("mullion/tree.Ops", laid_mullion_tree_Ops), ("unicode/utf8.first", laid_unicode_utf8_first)], narrowed := true }
def TreeLeavesUptoSaid : Prop := treeLeavesUptoRow.holds Tryd.pinned (OpenSpec.upto treeLeavesSpec)

end Rows
end Go.Proofs.YtgaodjoddfjfmaaDoor
