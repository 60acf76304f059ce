/-
  NARROWER THAN 'FOR EVERY INPUT', by the rows' own cells (each row's printed sentence says how): UnifyKeeps: loops, laid · UnifyBack: loops, laid · TypesRelate: loops, laid · TypesNest: loops, laid · UnifyInfers: loops, laid · TypesFit: loops, laid.
  DERIVED. THE GIVEN ROWS OF THIS SEAT. 6 by the template 'for every input the law returns true; each argument reads behind the call as it read before'; 0 by the template 'total and deterministic' (their statements: YtgemacdnncjmdaaDoorTotals.lean).
  GIVEN WITH THE SEED: the statements are not yours to turn. If you find one false, say at which input.
  Laid BY PROGRAM, IN A SANDBOX (cutbox-rows.mjs): the forced cells as the released guide's own fill.sh prints them over the translation b19c9b63c3ce3d7a… (all of the seat's roots in one cut). By AI agents, Wed Nov 11 2026. No macro, syntax, notation, axiom, sorry.
-/
import Derived.Test.YtgemacdnncjmdaaDoorChecked
import GoSem.PinnedTables
import GoSem.Claim
import GoSem.ClaimJoined
import GoSem.ClaimMapViews
import Derived.JoinedTies
import Derived.KernelRfl
namespace Go.Proofs.YtgemacdnncjmdaaDoor
/- THE CELL 'sum', in the pinned program and in every row, IS THE sha256 OF THE DUMP (.gsa) THAT YtgemacdnncjmdaaDoorProg.lean LOADS. Nothing in Lean hashes anything: it is a label: what it is worth is what the hold of that sum in a sandbox is worth. -/
noncomputable def Tryd.pinned : Pinned := { name := "ytgemacdnncjmdaadoor", sum := "b19c9b63c3ce3d7aea4f28f648482564cb7f5d9124b115b99ff3ef80b0c63b88", checked := Tryd.checked }
namespace Rows
def none {H : Type} : Left H := { results := [], args := [] }

/- WHAT THE LISTED PACKAGE-LEVEL VARIABLES READ AS WHEN THE CALL BEGINS. Each datum BY PROGRAM (the guide's laid-datum.mjs) off the statement by which the dump's own 'gosem.cut.vars' lays the variable. In a bare row this is a premise. The card (YtgemacdnncjmdaaDoorCards.lean) ties it to the program's text. -/
def laid_unicode_utf8_acceptRanges {H : Type} : DataW H := .agg [.agg [.lit (.int .u8 128), .lit (.int .u8 191)], .agg [.lit (.int .u8 160), .lit (.int .u8 191)], .agg [.lit (.int .u8 128), .lit (.int .u8 159)], .agg [.lit (.int .u8 144), .lit (.int .u8 191)], .agg [.lit (.int .u8 128), .lit (.int .u8 143)], .agg [.lit (.int .u8 0), .lit (.int .u8 0)], .agg [.lit (.int .u8 0), .lit (.int .u8 0)], .agg [.lit (.int .u8 0), .lit (.int .u8 0)], .agg [.lit (.int .u8 0), .lit (.int .u8 0)], .agg [.lit (.int .u8 0), .lit (.int .u8 0)], .agg [.lit (.int .u8 0), .lit (.int .u8 0)], .agg [.lit (.int .u8 0), .lit (.int .u8 0)], .agg [.lit (.int .u8 0), .lit (.int .u8 0)], .agg [.lit (.int .u8 0), .lit (.int .u8 0)], .agg [.lit (.int .u8 0), .lit (.int .u8 0)], .agg [.lit (.int .u8 0), .lit (.int .u8 0)]]
/-- One of Go's own tables, pinned by name: the form's constant. -/
def laid_unicode_utf8_first : DataW Unit := Go.Pinned.utf8First

/-- 'mullionlaw08.UnifyKeeps': WHATEVER THE INPUT: true; the input reads as it did. -/
def unifyKeepsSpec : ChangeSpec := { name := "unifyKeeps", fn := fun _ => fun
  | [d1, d2, d3] => { results := [.lit (.bool true)], args := [d1, d2, d3] }
  | _ => none }
def unifyKeepsRow : OpenClaim := { program := "ytgemacdnncjmdaadoor", sum := "b19c9b63c3ce3d7aea4f28f648482564cb7f5d9124b115b99ff3ef80b0c63b88", func := "mullion/mullionlaw08.UnifyKeeps", spec := "unifyKeeps", unfollowed := true, recurses := true, named := ["unicode/utf8.first", "unicode/utf8.acceptRanges"], loops := true, apart := false, laid := [("unicode/utf8.acceptRanges", laid_unicode_utf8_acceptRanges), ("unicode/utf8.first", laid_unicode_utf8_first)] }
def UnifyKeepsSaid : Prop := unifyKeepsRow.holds Tryd.pinned (OpenSpec.ofChange unifyKeepsSpec)

/-- ITS FALSE NEIGHBOUR: 'it returns false'. Refute it at one input. -/
def unifyKeepsWrong : ChangeSpec := { name := "unifyKeeps", fn := fun _ => fun
  | [d1, d2, d3] => { results := [.lit (.bool false)], args := [d1, d2, d3] }
  | _ => none }
def UnifyKeepsWrongFalsely : Prop := unifyKeepsRow.holds Tryd.pinned (OpenSpec.ofChange unifyKeepsWrong)

/-- 'mullionlaw08.UnifyBack': WHATEVER THE INPUT: true; the input reads as it did. -/
def unifyBackSpec : ChangeSpec := { name := "unifyBack", fn := fun _ => fun
  | [d1, d2, d3] => { results := [.lit (.bool true)], args := [d1, d2, d3] }
  | _ => none }
def unifyBackRow : OpenClaim := { program := "ytgemacdnncjmdaadoor", sum := "b19c9b63c3ce3d7aea4f28f648482564cb7f5d9124b115b99ff3ef80b0c63b88", func := "mullion/mullionlaw08.UnifyBack", spec := "unifyBack", unfollowed := true, recurses := true, named := ["unicode/utf8.first", "unicode/utf8.acceptRanges"], loops := true, apart := false, laid := [("unicode/utf8.acceptRanges", laid_unicode_utf8_acceptRanges), ("unicode/utf8.first", laid_unicode_utf8_first)] }
def UnifyBackSaid : Prop := unifyBackRow.holds Tryd.pinned (OpenSpec.ofChange unifyBackSpec)

/-- ITS FALSE NEIGHBOUR: 'it returns false'. Refute it at one input. -/
def unifyBackWrong : ChangeSpec := { name := "unifyBack", fn := fun _ => fun
  | [d1, d2, d3] => { results := [.lit (.bool false)], args := [d1, d2, d3] }
  | _ => none }
def UnifyBackWrongFalsely : Prop := unifyBackRow.holds Tryd.pinned (OpenSpec.ofChange unifyBackWrong)

/-- 'mullionlaw02.TypesRelate': WHATEVER THE INPUT: true; the input reads as it did. -/
def typesRelateSpec : ChangeSpec := { name := "typesRelate", fn := fun _ => fun
  | [d1, d2, d3] => { results := [.lit (.bool true)], args := [d1, d2, d3] }
  | _ => none }
def typesRelateRow : OpenClaim := { program := "ytgemacdnncjmdaadoor", sum := "b19c9b63c3ce3d7aea4f28f648482564cb7f5d9124b115b99ff3ef80b0c63b88", func := "mullion/mullionlaw02.TypesRelate", spec := "typesRelate", inPlace := ["internal/abi.NoEscape", "internal/bytealg.MakeNoZero"], unfollowed := true, recurses := true, named := ["unicode/utf8.first", "unicode/utf8.acceptRanges"], loops := true, apart := false, laid := [("unicode/utf8.acceptRanges", laid_unicode_utf8_acceptRanges), ("unicode/utf8.first", laid_unicode_utf8_first)] }
def TypesRelateSaid : Prop := typesRelateRow.holds Tryd.pinned (OpenSpec.ofChange typesRelateSpec)

/-- ITS FALSE NEIGHBOUR: 'it returns false'. Refute it at one input. -/
def typesRelateWrong : ChangeSpec := { name := "typesRelate", fn := fun _ => fun
  | [d1, d2, d3] => { results := [.lit (.bool false)], args := [d1, d2, d3] }
  | _ => none }
def TypesRelateWrongFalsely : Prop := typesRelateRow.holds Tryd.pinned (OpenSpec.ofChange typesRelateWrong)

/-- 'mullionlaw02.TypesNest': WHATEVER THE INPUT: true; the input reads as it did. -/
def typesNestSpec : ChangeSpec := { name := "typesNest", fn := fun _ => fun
  | [d] => { results := [.lit (.bool true)], args := [d] }
  | _ => none }
def typesNestRow : OpenClaim := { program := "ytgemacdnncjmdaadoor", sum := "b19c9b63c3ce3d7aea4f28f648482564cb7f5d9124b115b99ff3ef80b0c63b88", func := "mullion/mullionlaw02.TypesNest", spec := "typesNest", inPlace := ["internal/abi.NoEscape", "internal/bytealg.MakeNoZero"], unfollowed := true, recurses := true, named := ["unicode/utf8.first", "unicode/utf8.acceptRanges"], loops := true, apart := false, laid := [("unicode/utf8.acceptRanges", laid_unicode_utf8_acceptRanges), ("unicode/utf8.first", laid_unicode_utf8_first)] }
def TypesNestSaid : Prop := typesNestRow.holds Tryd.pinned (OpenSpec.ofChange typesNestSpec)

/-- ITS FALSE NEIGHBOUR: 'it returns false'. Refute it at one input. -/
def typesNestWrong : ChangeSpec := { name := "typesNest", fn := fun _ => fun
  | [d] => { results := [.lit (.bool false)], args := [d] }
  | _ => none }
def TypesNestWrongFalsely : Prop := typesNestRow.holds Tryd.pinned (OpenSpec.ofChange typesNestWrong)

/-- 'mullionlaw08.UnifyInfers': WHATEVER THE INPUT: true; the input reads as it did. -/
def unifyInfersSpec : ChangeSpec := { name := "unifyInfers", fn := fun _ => fun
  | [d1, d2, d3] => { results := [.lit (.bool true)], args := [d1, d2, d3] }
  | _ => none }
def unifyInfersRow : OpenClaim := { program := "ytgemacdnncjmdaadoor", sum := "b19c9b63c3ce3d7aea4f28f648482564cb7f5d9124b115b99ff3ef80b0c63b88", func := "mullion/mullionlaw08.UnifyInfers", spec := "unifyInfers", unfollowed := true, recurses := true, named := ["unicode/utf8.first", "unicode/utf8.acceptRanges"], loops := true, apart := false, laid := [("unicode/utf8.acceptRanges", laid_unicode_utf8_acceptRanges), ("unicode/utf8.first", laid_unicode_utf8_first)] }
def UnifyInfersSaid : Prop := unifyInfersRow.holds Tryd.pinned (OpenSpec.ofChange unifyInfersSpec)

/-- ITS FALSE NEIGHBOUR: 'it returns false'. Refute it at one input. -/
def unifyInfersWrong : ChangeSpec := { name := "unifyInfers", fn := fun _ => fun
  | [d1, d2, d3] => { results := [.lit (.bool false)], args := [d1, d2, d3] }
  | _ => none }
def UnifyInfersWrongFalsely : Prop := unifyInfersRow.holds Tryd.pinned (OpenSpec.ofChange unifyInfersWrong)

/-- 'mullionlaw02.TypesFit': WHATEVER THE INPUT: true; the input reads as it did. -/
def typesFitSpec : ChangeSpec := { name := "typesFit", fn := fun _ => fun
  | [d1, d2] => { results := [.lit (.bool true)], args := [d1, d2] }
  | _ => none }
def typesFitRow : OpenClaim := { program := "ytgemacdnncjmdaadoor", sum := "b19c9b63c3ce3d7aea4f28f648482564cb7f5d9124b115b99ff3ef80b0c63b88", func := "mullion/mullionlaw02.TypesFit", spec := "typesFit", inPlace := ["internal/abi.NoEscape", "internal/bytealg.MakeNoZero"], unfollowed := true, recurses := true, named := ["unicode/utf8.first", "unicode/utf8.acceptRanges"], loops := true, apart := false, laid := [("unicode/utf8.acceptRanges", laid_unicode_utf8_acceptRanges), ("unicode/utf8.first", laid_unicode_utf8_first)] }
def TypesFitSaid : Prop := typesFitRow.holds Tryd.pinned (OpenSpec.ofChange typesFitSpec)

/-- ITS FALSE NEIGHBOUR: 'it returns false'. Refute it at one input. -/
def typesFitWrong : ChangeSpec := { name := "typesFit", fn := fun _ => fun
  | [d1, d2] => { results := [.lit (.bool false)], args := [d1, d2] }
  | _ => none }
def TypesFitWrongFalsely : Prop := typesFitRow.holds Tryd.pinned (OpenSpec.ofChange typesFitWrong)

/- THE SECOND FORM. 'bulk': how many values and letters a reading holds, each counted each time it is reached (what is shared counts as often as it is met; a slice's spare places count too). A statement '..UptoSaid' is the law's where the arguments, and the package variables that the reading takes, are together of bulk at most 1048576: NARROWER than '..Said'. Prove '..Said' where nothing that the law and all that it calls make is longer than what came in: it says more and counts as full. Else prove '..UptoSaid'. A law counts once. -/
mutual
def uptoBulk {H : Type} : DataW H → Nat
  | .lit (.string bytes) => bytes.length + 1
  | .lit _ => 1
  | .nil => 1
  | .ptr d => uptoBulk d + 1
  | .slice elems spare => uptoBulkAll elems + uptoBulkAll spare + 1
  | .agg parts => uptoBulkAll parts + 1
  | .iface _ d => uptoBulk d + 1
  | .map entries => uptoBulkEntries entries + 1
  | .held _ => 1
def uptoBulkAll {H : Type} : List (DataW H) → Nat
  | [] => 0
  | d :: r => uptoBulk d + uptoBulkAll r
def uptoBulkEntries {H : Type} : List (Lit × DataW H) → Nat
  | [] => 0
  | x :: r => uptoBulkEntry x + uptoBulkEntries r
def uptoBulkEntry {H : Type} : Lit × DataW H → Nat
  | (.string bytes, d) => bytes.length + uptoBulk d + 1
  | (_, d) => uptoBulk d + 1
 end
def uptoSmall : (H : Type) → List (DataW H) → Bool := fun _ ds => decide (uptoBulkAll ds ≤ 1048576)
def OpenSpec.upto (s : _root_.Go.ChangeSpec) : _root_.Go.OpenSpec := { _root_.Go.OpenSpec.ofChange s with cond := some uptoSmall }

/-- 'mullionlaw08.UnifyKeeps', WHERE WHAT IT READS IS OF BULK AT MOST 1048576: true; the input reads as it did. -/
def unifyKeepsUptoRow : OpenClaim := { program := "ytgemacdnncjmdaadoor", sum := "b19c9b63c3ce3d7aea4f28f648482564cb7f5d9124b115b99ff3ef80b0c63b88", func := "mullion/mullionlaw08.UnifyKeeps", spec := "unifyKeeps", unfollowed := true, recurses := true, named := ["unicode/utf8.first", "unicode/utf8.acceptRanges"], loops := true, apart := false, laid := [("unicode/utf8.acceptRanges", laid_unicode_utf8_acceptRanges), ("unicode/utf8.first", laid_unicode_utf8_first)], narrowed := true }
def UnifyKeepsUptoSaid : Prop := unifyKeepsUptoRow.holds Tryd.pinned (OpenSpec.upto unifyKeepsSpec)

/-- 'mullionlaw08.UnifyBack', WHERE WHAT IT READS IS OF BULK AT MOST 1048576: true; the input reads as it did. -/
def unifyBackUptoRow : OpenClaim := { program := "ytgemacdnncjmdaadoor", sum := "b19c9b63c3ce3d7aea4f28f648482564cb7f5d9124b115b99ff3ef80b0c63b88", func := "mullion/mullionlaw08.UnifyBack", spec := "unifyBack", unfollowed := true, recurses := true, named := ["unicode/utf8.first", "unicode/utf8.acceptRanges"], loops := true, apart := false, laid := [("unicode/utf8.acceptRanges", laid_unicode_utf8_acceptRanges), ("unicode/utf8.first", laid_unicode_utf8_first)], narrowed := true }
def UnifyBackUptoSaid : Prop := unifyBackUptoRow.holds Tryd.pinned (OpenSpec.upto unifyBackSpec)

/-- 'mullionlaw02.TypesRelate', WHERE WHAT IT READS IS OF BULK AT MOST 1048576: true; the input reads as it did. -/
def typesRelateUptoRow : OpenClaim := { program := "ytgemacdnncjmdaadoor", sum := "b19c9b63c3ce3d7aea4f28f648482564cb7f5d9124b115b99ff3ef80b0c63b88", func := "mullion/mullionlaw02.TypesRelate", spec := "typesRelate", inPlace := ["internal/abi.NoEscape", "internal/bytealg.MakeNoZero"], unfollowed := true, recurses := true, named := ["unicode/utf8.first", "unicode/utf8.acceptRanges"], loops := true, apart := false, laid := [("unicode/utf8.acceptRanges", laid_unicode_utf8_acceptRanges), ("unicode/utf8.first", laid_unicode_utf8_first)], narrowed := true }
def TypesRelateUptoSaid : Prop := typesRelateUptoRow.holds Tryd.pinned (OpenSpec.upto typesRelateSpec)

/-- 'mullionlaw02.TypesNest', WHERE WHAT IT READS IS OF BULK AT MOST 1048576: true; the input reads as it did. -/
def typesNestUptoRow : OpenClaim := { program := "ytgemacdnncjmdaadoor", sum := "b19c9b63c3ce3d7aea4f28f648482564cb7f5d9124b115b99ff3ef80b0c63b88", func := "mullion/mullionlaw02.TypesNest", spec := "typesNest", inPlace := ["internal/abi.NoEscape", "internal/bytealg.MakeNoZero"], unfollowed := true, recurses := true, named := ["unicode/utf8.first", "unicode/utf8.acceptRanges"], loops := true, apart := false, laid := [("unicode/utf8.acceptRanges", laid_unicode_utf8_acceptRanges), ("unicode/utf8.first", laid_unicode_utf8_first)], narrowed := true }
def TypesNestUptoSaid : Prop := typesNestUptoRow.holds Tryd.pinned (OpenSpec.upto typesNestSpec)

/-- 'mullionlaw08.UnifyInfers', WHERE WHAT IT READS IS OF BULK AT MOST 1048576: true; the input reads as it did. -/
def unifyInfersUptoRow : OpenClaim := { program := "ytgemacdnncjmdaadoor", sum := "b19c9b63c3ce3d7aea4f28f648482564cb7f5d9124b115b99ff3ef80b0c63b88", func := "mullion/mullionlaw08.UnifyInfers", spec := "unifyInfers", unfollowed := true, recurses := true, named := ["unicode/utf8.first", "unicode/utf8.acceptRanges"], loops := true, apart := false, laid := [("unicode/utf8.acceptRanges", laid_unicode_utf8_acceptRanges), ("unicode/utf8.first", laid_unicode_utf8_first)], narrowed := true }
def UnifyInfersUptoSaid : Prop := unifyInfersUptoRow.holds Tryd.pinned (OpenSpec.upto unifyInfersSpec)

/-- 'mullionlaw02.TypesFit', WHERE WHAT IT READS IS OF BULK AT MOST 1048576: true; the input reads as it did. -/
def typesFitUptoRow : OpenClaim := { program := "ytgemacdnncjmdaadoor", sum := "b19c9b63c3ce3d7aea4f28f648482564cb7f5d9124b115b99ff3ef80b0c63b88", func := "mullion/mullionlaw02.TypesFit", spec := "typesFit", inPlace := ["internal/abi.NoEscape", "internal/bytealg.MakeNoZero"], unfollowed := true, recurses := true, named := ["unicode/utf8.first", "unicode/utf8.acceptRanges"], loops := true, apart := false, laid := [("unicode/utf8.acceptRanges", laid_unicode_utf8_acceptRanges), ("unicode/utf8.first", laid_unicode_utf8_first)], narrowed := true }
def TypesFitUptoSaid : Prop := typesFitUptoRow.holds Tryd.pinned (OpenSpec.upto typesFitSpec)

end Rows
end Go.Proofs.YtgemacdnncjmdaaDoor
