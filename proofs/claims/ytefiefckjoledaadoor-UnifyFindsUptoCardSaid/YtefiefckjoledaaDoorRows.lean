/-
  NARROWER THAN 'FOR EVERY INPUT', by the rows' own cells (each row's printed sentence says how): UnifyFinds: loops, laid · UnifyFits: loops, laid · UnifyPlain: loops, laid · UnifyKeeps: loops, laid · TypesSame: loops, laid · UnifyBack: loops, laid · TypesCopies: loops, laid · TypesRelate: loops, laid · TypesNest: loops, laid · UnifyInfers: loops, laid · TypesFill: loops, laid · TypesTwice: loops, laid.
  DERIVED. THE GIVEN ROWS OF THIS SEAT. 12 by the template 'for every input the law returns true; each argument reads behind the call as it read before'; 0 by the template 'total and deterministic' (their statements: YtefiefckjoledaaDoorTotals.lean).
  GIVEN WITH THE SEED: the statements are not yours to turn. If you find one false, say at which input.
  Laid BY PROGRAM, IN A SANDBOX (cutbox-rows.mjs): the forced cells as the released guide's own fill.sh prints them over the translation 68bf3d440820b157… (all of the seat's roots in one cut). By AI agents, Wed Nov 11 2026. No macro, syntax, notation, axiom, sorry.
-/
import Derived.Test.YtefiefckjoledaaDoorChecked
import GoSem.PinnedTables
import GoSem.Claim
import GoSem.ClaimJoined
import GoSem.ClaimMapViews
import Derived.JoinedTies
import Derived.KernelRfl
namespace Go.Proofs.YtefiefckjoledaaDoor
/- THE CELL 'sum', in the pinned program and in every row, IS THE sha256 OF THE DUMP (.gsa) THAT YtefiefckjoledaaDoorProg.lean LOADS. Nothing in Lean hashes anything: it is a label: what it is worth is what the hold of that sum in a sandbox is worth. -/
noncomputable def Tryd.pinned : Pinned := { name := "ytefiefckjoledaadoor", sum := "68bf3d440820b157cd94cb1e25255c356afadbf2826baba9f4a39ac2c728485b", checked := Tryd.checked }
namespace Rows
def none {H : Type} : Left H := { results := [], args := [] }

/- WHAT THE LISTED PACKAGE-LEVEL VARIABLES READ AS WHEN THE CALL BEGINS. Each datum BY PROGRAM (the guide's laid-datum.mjs) off the statement by which the dump's own 'gosem.cut.vars' lays the variable. In a bare row this is a premise. The card (YtefiefckjoledaaDoorCards.lean) ties it to the program's text. -/
def laid_unicode_utf8_acceptRanges {H : Type} : DataW H := .agg [.agg [.lit (.int .u8 128), .lit (.int .u8 191)], .agg [.lit (.int .u8 160), .lit (.int .u8 191)], .agg [.lit (.int .u8 128), .lit (.int .u8 159)], .agg [.lit (.int .u8 144), .lit (.int .u8 191)], .agg [.lit (.int .u8 128), .lit (.int .u8 143)], .agg [.lit (.int .u8 0), .lit (.int .u8 0)], .agg [.lit (.int .u8 0), .lit (.int .u8 0)], .agg [.lit (.int .u8 0), .lit (.int .u8 0)], .agg [.lit (.int .u8 0), .lit (.int .u8 0)], .agg [.lit (.int .u8 0), .lit (.int .u8 0)], .agg [.lit (.int .u8 0), .lit (.int .u8 0)], .agg [.lit (.int .u8 0), .lit (.int .u8 0)], .agg [.lit (.int .u8 0), .lit (.int .u8 0)], .agg [.lit (.int .u8 0), .lit (.int .u8 0)], .agg [.lit (.int .u8 0), .lit (.int .u8 0)], .agg [.lit (.int .u8 0), .lit (.int .u8 0)]]
/-- One of Go's own tables, pinned by name: the form's constant. -/
def laid_unicode_utf8_first : DataW Unit := Go.Pinned.utf8First

/-- 'mullionlaw08.UnifyFinds': WHATEVER THE INPUT: true; the input reads as it did. -/
def unifyFindsSpec : ChangeSpec := { name := "unifyFinds", fn := fun _ => fun
  | [d1, d2, d3] => { results := [.lit (.bool true)], args := [d1, d2, d3] }
  | _ => none }
def unifyFindsRow : OpenClaim := { program := "ytefiefckjoledaadoor", sum := "68bf3d440820b157cd94cb1e25255c356afadbf2826baba9f4a39ac2c728485b", func := "mullion/mullionlaw08.UnifyFinds", spec := "unifyFinds", unfollowed := true, recurses := true, named := ["unicode/utf8.first", "unicode/utf8.acceptRanges"], loops := true, apart := false, laid := [("unicode/utf8.acceptRanges", laid_unicode_utf8_acceptRanges), ("unicode/utf8.first", laid_unicode_utf8_first)] }
def UnifyFindsSaid : Prop := unifyFindsRow.holds Tryd.pinned (OpenSpec.ofChange unifyFindsSpec)

/-- ITS FALSE NEIGHBOUR: 'it returns false'. Refute it at one input. -/
def unifyFindsWrong : ChangeSpec := { name := "unifyFinds", fn := fun _ => fun
  | [d1, d2, d3] => { results := [.lit (.bool false)], args := [d1, d2, d3] }
  | _ => none }
def UnifyFindsWrongFalsely : Prop := unifyFindsRow.holds Tryd.pinned (OpenSpec.ofChange unifyFindsWrong)

/-- 'mullionlaw08.UnifyFits': WHATEVER THE INPUT: true; the input reads as it did. -/
def unifyFitsSpec : ChangeSpec := { name := "unifyFits", fn := fun _ => fun
  | [d1, d2, d3] => { results := [.lit (.bool true)], args := [d1, d2, d3] }
  | _ => none }
def unifyFitsRow : OpenClaim := { program := "ytefiefckjoledaadoor", sum := "68bf3d440820b157cd94cb1e25255c356afadbf2826baba9f4a39ac2c728485b", func := "mullion/mullionlaw08.UnifyFits", spec := "unifyFits", unfollowed := true, recurses := true, named := ["unicode/utf8.first", "unicode/utf8.acceptRanges"], loops := true, apart := false, laid := [("unicode/utf8.acceptRanges", laid_unicode_utf8_acceptRanges), ("unicode/utf8.first", laid_unicode_utf8_first)] }
def UnifyFitsSaid : Prop := unifyFitsRow.holds Tryd.pinned (OpenSpec.ofChange unifyFitsSpec)

/-- ITS FALSE NEIGHBOUR: 'it returns false'. Refute it at one input. -/
def unifyFitsWrong : ChangeSpec := { name := "unifyFits", fn := fun _ => fun
  | [d1, d2, d3] => { results := [.lit (.bool false)], args := [d1, d2, d3] }
  | _ => none }
def UnifyFitsWrongFalsely : Prop := unifyFitsRow.holds Tryd.pinned (OpenSpec.ofChange unifyFitsWrong)

/-- 'mullionlaw08.UnifyPlain': WHATEVER THE INPUT: true; the input reads as it did. -/
def unifyPlainSpec : ChangeSpec := { name := "unifyPlain", fn := fun _ => fun
  | [d1, d2] => { results := [.lit (.bool true)], args := [d1, d2] }
  | _ => none }
def unifyPlainRow : OpenClaim := { program := "ytefiefckjoledaadoor", sum := "68bf3d440820b157cd94cb1e25255c356afadbf2826baba9f4a39ac2c728485b", func := "mullion/mullionlaw08.UnifyPlain", spec := "unifyPlain", unfollowed := true, recurses := true, named := ["unicode/utf8.first", "unicode/utf8.acceptRanges"], loops := true, apart := false, laid := [("unicode/utf8.acceptRanges", laid_unicode_utf8_acceptRanges), ("unicode/utf8.first", laid_unicode_utf8_first)] }
def UnifyPlainSaid : Prop := unifyPlainRow.holds Tryd.pinned (OpenSpec.ofChange unifyPlainSpec)

/-- ITS FALSE NEIGHBOUR: 'it returns false'. Refute it at one input. -/
def unifyPlainWrong : ChangeSpec := { name := "unifyPlain", fn := fun _ => fun
  | [d1, d2] => { results := [.lit (.bool false)], args := [d1, d2] }
  | _ => none }
def UnifyPlainWrongFalsely : Prop := unifyPlainRow.holds Tryd.pinned (OpenSpec.ofChange unifyPlainWrong)

/-- 'mullionlaw08.UnifyKeeps': WHATEVER THE INPUT: true; the input reads as it did. -/
def unifyKeepsSpec : ChangeSpec := { name := "unifyKeeps", fn := fun _ => fun
  | [d1, d2, d3] => { results := [.lit (.bool true)], args := [d1, d2, d3] }
  | _ => none }
def unifyKeepsRow : OpenClaim := { program := "ytefiefckjoledaadoor", sum := "68bf3d440820b157cd94cb1e25255c356afadbf2826baba9f4a39ac2c728485b", func := "mullion/mullionlaw08.UnifyKeeps", spec := "unifyKeeps", unfollowed := true, recurses := true, named := ["unicode/utf8.first", "unicode/utf8.acceptRanges"], loops := true, apart := false, laid := [("unicode/utf8.acceptRanges", laid_unicode_utf8_acceptRanges), ("unicode/utf8.first", laid_unicode_utf8_first)] }
def UnifyKeepsSaid : Prop := unifyKeepsRow.holds Tryd.pinned (OpenSpec.ofChange unifyKeepsSpec)

/-- ITS FALSE NEIGHBOUR: 'it returns false'. Refute it at one input. -/
def unifyKeepsWrong : ChangeSpec := { name := "unifyKeeps", fn := fun _ => fun
  | [d1, d2, d3] => { results := [.lit (.bool false)], args := [d1, d2, d3] }
  | _ => none }
def UnifyKeepsWrongFalsely : Prop := unifyKeepsRow.holds Tryd.pinned (OpenSpec.ofChange unifyKeepsWrong)

/-- 'mullionlaw02.TypesSame': WHATEVER THE INPUT: true; the input reads as it did. -/
def typesSameSpec : ChangeSpec := { name := "typesSame", fn := fun _ => fun
  | [d1, d2] => { results := [.lit (.bool true)], args := [d1, d2] }
  | _ => none }
def typesSameRow : OpenClaim := { program := "ytefiefckjoledaadoor", sum := "68bf3d440820b157cd94cb1e25255c356afadbf2826baba9f4a39ac2c728485b", func := "mullion/mullionlaw02.TypesSame", spec := "typesSame", inPlace := ["internal/abi.NoEscape", "internal/bytealg.MakeNoZero"], unfollowed := true, recurses := true, named := ["unicode/utf8.first", "unicode/utf8.acceptRanges"], loops := true, apart := false, laid := [("unicode/utf8.acceptRanges", laid_unicode_utf8_acceptRanges), ("unicode/utf8.first", laid_unicode_utf8_first)] }
def TypesSameSaid : Prop := typesSameRow.holds Tryd.pinned (OpenSpec.ofChange typesSameSpec)

/-- ITS FALSE NEIGHBOUR: 'it returns false'. Refute it at one input. -/
def typesSameWrong : ChangeSpec := { name := "typesSame", fn := fun _ => fun
  | [d1, d2] => { results := [.lit (.bool false)], args := [d1, d2] }
  | _ => none }
def TypesSameWrongFalsely : Prop := typesSameRow.holds Tryd.pinned (OpenSpec.ofChange typesSameWrong)

/-- 'mullionlaw08.UnifyBack': WHATEVER THE INPUT: true; the input reads as it did. -/
def unifyBackSpec : ChangeSpec := { name := "unifyBack", fn := fun _ => fun
  | [d1, d2, d3] => { results := [.lit (.bool true)], args := [d1, d2, d3] }
  | _ => none }
def unifyBackRow : OpenClaim := { program := "ytefiefckjoledaadoor", sum := "68bf3d440820b157cd94cb1e25255c356afadbf2826baba9f4a39ac2c728485b", func := "mullion/mullionlaw08.UnifyBack", spec := "unifyBack", unfollowed := true, recurses := true, named := ["unicode/utf8.first", "unicode/utf8.acceptRanges"], loops := true, apart := false, laid := [("unicode/utf8.acceptRanges", laid_unicode_utf8_acceptRanges), ("unicode/utf8.first", laid_unicode_utf8_first)] }
def UnifyBackSaid : Prop := unifyBackRow.holds Tryd.pinned (OpenSpec.ofChange unifyBackSpec)

/-- ITS FALSE NEIGHBOUR: 'it returns false'. Refute it at one input. -/
def unifyBackWrong : ChangeSpec := { name := "unifyBack", fn := fun _ => fun
  | [d1, d2, d3] => { results := [.lit (.bool false)], args := [d1, d2, d3] }
  | _ => none }
def UnifyBackWrongFalsely : Prop := unifyBackRow.holds Tryd.pinned (OpenSpec.ofChange unifyBackWrong)

/-- 'mullionlaw02.TypesCopies': WHATEVER THE INPUT: true; the input reads as it did. -/
def typesCopiesSpec : ChangeSpec := { name := "typesCopies", fn := fun _ => fun
  | [d] => { results := [.lit (.bool true)], args := [d] }
  | _ => none }
def typesCopiesRow : OpenClaim := { program := "ytefiefckjoledaadoor", sum := "68bf3d440820b157cd94cb1e25255c356afadbf2826baba9f4a39ac2c728485b", func := "mullion/mullionlaw02.TypesCopies", spec := "typesCopies", inPlace := ["internal/abi.NoEscape", "internal/bytealg.MakeNoZero"], unfollowed := true, recurses := true, named := ["unicode/utf8.first", "unicode/utf8.acceptRanges"], loops := true, apart := false, laid := [("unicode/utf8.acceptRanges", laid_unicode_utf8_acceptRanges), ("unicode/utf8.first", laid_unicode_utf8_first)] }
def TypesCopiesSaid : Prop := typesCopiesRow.holds Tryd.pinned (OpenSpec.ofChange typesCopiesSpec)

/-- ITS FALSE NEIGHBOUR: 'it returns false'. Refute it at one input. -/
def typesCopiesWrong : ChangeSpec := { name := "typesCopies", fn := fun _ => fun
  | [d] => { results := [.lit (.bool false)], args := [d] }
  | _ => none }
def TypesCopiesWrongFalsely : Prop := typesCopiesRow.holds Tryd.pinned (OpenSpec.ofChange typesCopiesWrong)

/-- 'mullionlaw02.TypesRelate': WHATEVER THE INPUT: true; the input reads as it did. -/
def typesRelateSpec : ChangeSpec := { name := "typesRelate", fn := fun _ => fun
  | [d1, d2, d3] => { results := [.lit (.bool true)], args := [d1, d2, d3] }
  | _ => none }
def typesRelateRow : OpenClaim := { program := "ytefiefckjoledaadoor", sum := "68bf3d440820b157cd94cb1e25255c356afadbf2826baba9f4a39ac2c728485b", func := "mullion/mullionlaw02.TypesRelate", spec := "typesRelate", inPlace := ["internal/abi.NoEscape", "internal/bytealg.MakeNoZero"], unfollowed := true, recurses := true, named := ["unicode/utf8.first", "unicode/utf8.acceptRanges"], loops := true, apart := false, laid := [("unicode/utf8.acceptRanges", laid_unicode_utf8_acceptRanges), ("unicode/utf8.first", laid_unicode_utf8_first)] }
def TypesRelateSaid : Prop := typesRelateRow.holds Tryd.pinned (OpenSpec.ofChange typesRelateSpec)

/-- ITS FALSE NEIGHBOUR: 'it returns false'. Refute it at one input. -/
def typesRelateWrong : ChangeSpec := { name := "typesRelate", fn := fun _ => fun
  | [d1, d2, d3] => { results := [.lit (.bool false)], args := [d1, d2, d3] }
  | _ => none }
def TypesRelateWrongFalsely : Prop := typesRelateRow.holds Tryd.pinned (OpenSpec.ofChange typesRelateWrong)

/-- 'mullionlaw02.TypesNest': WHATEVER THE INPUT: true; the input reads as it did. -/
def typesNestSpec : ChangeSpec := { name := "typesNest", fn := fun _ => fun
  | [d] => { results := [.lit (.bool true)], args := [d] }
  | _ => none }
def typesNestRow : OpenClaim := { program := "ytefiefckjoledaadoor", sum := "68bf3d440820b157cd94cb1e25255c356afadbf2826baba9f4a39ac2c728485b", func := "mullion/mullionlaw02.TypesNest", spec := "typesNest", inPlace := ["internal/abi.NoEscape", "internal/bytealg.MakeNoZero"], unfollowed := true, recurses := true, named := ["unicode/utf8.first", "unicode/utf8.acceptRanges"], loops := true, apart := false, laid := [("unicode/utf8.acceptRanges", laid_unicode_utf8_acceptRanges), ("unicode/utf8.first", laid_unicode_utf8_first)] }
def TypesNestSaid : Prop := typesNestRow.holds Tryd.pinned (OpenSpec.ofChange typesNestSpec)

/-- ITS FALSE NEIGHBOUR: 'it returns false'. Refute it at one input. -/
def typesNestWrong : ChangeSpec := { name := "typesNest", fn := fun _ => fun
  | [d] => { results := [.lit (.bool false)], args := [d] }
  | _ => none }
def TypesNestWrongFalsely : Prop := typesNestRow.holds Tryd.pinned (OpenSpec.ofChange typesNestWrong)

/-- 'mullionlaw08.UnifyInfers': WHATEVER THE INPUT: true; the input reads as it did. -/
def unifyInfersSpec : ChangeSpec := { name := "unifyInfers", fn := fun _ => fun
  | [d1, d2, d3] => { results := [.lit (.bool true)], args := [d1, d2, d3] }
  | _ => none }
def unifyInfersRow : OpenClaim := { program := "ytefiefckjoledaadoor", sum := "68bf3d440820b157cd94cb1e25255c356afadbf2826baba9f4a39ac2c728485b", func := "mullion/mullionlaw08.UnifyInfers", spec := "unifyInfers", unfollowed := true, recurses := true, named := ["unicode/utf8.first", "unicode/utf8.acceptRanges"], loops := true, apart := false, laid := [("unicode/utf8.acceptRanges", laid_unicode_utf8_acceptRanges), ("unicode/utf8.first", laid_unicode_utf8_first)] }
def UnifyInfersSaid : Prop := unifyInfersRow.holds Tryd.pinned (OpenSpec.ofChange unifyInfersSpec)

/-- ITS FALSE NEIGHBOUR: 'it returns false'. Refute it at one input. -/
def unifyInfersWrong : ChangeSpec := { name := "unifyInfers", fn := fun _ => fun
  | [d1, d2, d3] => { results := [.lit (.bool false)], args := [d1, d2, d3] }
  | _ => none }
def UnifyInfersWrongFalsely : Prop := unifyInfersRow.holds Tryd.pinned (OpenSpec.ofChange unifyInfersWrong)

/-- 'mullionlaw02.TypesFill': WHATEVER THE INPUT: true; the input reads as it did. -/
def typesFillSpec : ChangeSpec := { name := "typesFill", fn := fun _ => fun
  | [d1, d2, d3] => { results := [.lit (.bool true)], args := [d1, d2, d3] }
  | _ => none }
def typesFillRow : OpenClaim := { program := "ytefiefckjoledaadoor", sum := "68bf3d440820b157cd94cb1e25255c356afadbf2826baba9f4a39ac2c728485b", func := "mullion/mullionlaw02.TypesFill", spec := "typesFill", inPlace := ["internal/abi.NoEscape", "internal/bytealg.MakeNoZero"], unfollowed := true, recurses := true, named := ["unicode/utf8.first", "unicode/utf8.acceptRanges"], loops := true, apart := false, laid := [("unicode/utf8.acceptRanges", laid_unicode_utf8_acceptRanges), ("unicode/utf8.first", laid_unicode_utf8_first)] }
def TypesFillSaid : Prop := typesFillRow.holds Tryd.pinned (OpenSpec.ofChange typesFillSpec)

/-- ITS FALSE NEIGHBOUR: 'it returns false'. Refute it at one input. -/
def typesFillWrong : ChangeSpec := { name := "typesFill", fn := fun _ => fun
  | [d1, d2, d3] => { results := [.lit (.bool false)], args := [d1, d2, d3] }
  | _ => none }
def TypesFillWrongFalsely : Prop := typesFillRow.holds Tryd.pinned (OpenSpec.ofChange typesFillWrong)

/-- 'mullionlaw02.TypesTwice': WHATEVER THE INPUT: true; the input reads as it did. -/
def typesTwiceSpec : ChangeSpec := { name := "typesTwice", fn := fun _ => fun
  | [d1, d2, d3, d4, d5] => { results := [.lit (.bool true)], args := [d1, d2, d3, d4, d5] }
  | _ => none }
def typesTwiceRow : OpenClaim := { program := "ytefiefckjoledaadoor", sum := "68bf3d440820b157cd94cb1e25255c356afadbf2826baba9f4a39ac2c728485b", func := "mullion/mullionlaw02.TypesTwice", spec := "typesTwice", inPlace := ["internal/abi.NoEscape", "internal/bytealg.MakeNoZero"], unfollowed := true, recurses := true, named := ["unicode/utf8.first", "unicode/utf8.acceptRanges"], loops := true, apart := false, laid := [("unicode/utf8.acceptRanges", laid_unicode_utf8_acceptRanges), ("unicode/utf8.first", laid_unicode_utf8_first)] }
def TypesTwiceSaid : Prop := typesTwiceRow.holds Tryd.pinned (OpenSpec.ofChange typesTwiceSpec)

/-- ITS FALSE NEIGHBOUR: 'it returns false'. Refute it at one input. -/
def typesTwiceWrong : ChangeSpec := { name := "typesTwice", fn := fun _ => fun
  | [d1, d2, d3, d4, d5] => { results := [.lit (.bool false)], args := [d1, d2, d3, d4, d5] }
  | _ => none }
def TypesTwiceWrongFalsely : Prop := typesTwiceRow.holds Tryd.pinned (OpenSpec.ofChange typesTwiceWrong)

/- THE SECOND FORM. 'bulk': how many values and letters a reading holds, each counted each time it is reached (what is shared counts as often as it is met; a slice's spare places count too). A statement '..UptoSaid' is the law's where the arguments, and the package variables that the reading takes, are together of bulk at most 1048576: NARROWER than '..Said'. Prove '..Said' where nothing that the law and all that it calls make is longer than what came in: it says more and counts as full. Else prove '..UptoSaid'. A law counts once. -/
mutual
def uptoBulk {H : Type} : DataW H → Nat
  | .lit (.string bytes) => bytes.length + 1
  | .lit _ => 1
  | .nil => 1
  | .ptr d => uptoBulk d + 1
  | .slice elems spare => uptoBulkAll elems + uptoBulkAll spare + 1
  | .agg parts => uptoBulkAll parts + 1
  | .iface _ d => uptoBulk d + 1
  | .map entries => uptoBulkEntries entries + 1
  | .held _ => 1
def uptoBulkAll {H : Type} : List (DataW H) → Nat
  | [] => 0
  | d :: r => uptoBulk d + uptoBulkAll r
def uptoBulkEntries {H : Type} : List (Lit × DataW H) → Nat
  | [] => 0
  | x :: r => uptoBulkEntry x + uptoBulkEntries r
def uptoBulkEntry {H : Type} : Lit × DataW H → Nat
  | (.string bytes, d) => bytes.length + uptoBulk d + 1
  | (_, d) => uptoBulk d + 1
 end
def uptoSmall : (H : Type) → List (DataW H) → Bool := fun _ ds => decide (uptoBulkAll ds ≤ 1048576)
def OpenSpec.upto (s : _root_.Go.ChangeSpec) : _root_.Go.OpenSpec := { _root_.Go.OpenSpec.ofChange s with cond := some uptoSmall }

/-- 'mullionlaw08.UnifyFinds', WHERE WHAT IT READS IS OF BULK AT MOST 1048576: true; the input reads as it did. -/
def unifyFindsUptoRow : OpenClaim := { program := "ytefiefckjoledaadoor", sum := "68bf3d440820b157cd94cb1e25255c356afadbf2826baba9f4a39ac2c728485b", func := "mullion/mullionlaw08.UnifyFinds", spec := "unifyFinds", unfollowed := true, recurses := true, named := ["unicode/utf8.first", "unicode/utf8.acceptRanges"], loops := true, apart := false, laid := [("unicode/utf8.acceptRanges", laid_unicode_utf8_acceptRanges), ("unicode/utf8.first", laid_unicode_utf8_first)], narrowed := true }
def UnifyFindsUptoSaid : Prop := unifyFindsUptoRow.holds Tryd.pinned (OpenSpec.upto unifyFindsSpec)

/-- 'mullionlaw08.UnifyFits', WHERE WHAT IT READS IS OF BULK AT MOST 1048576: true; the input reads as it did. -/
def unifyFitsUptoRow : OpenClaim := { program := "ytefiefckjoledaadoor", sum := "68bf3d440820b157cd94cb1e25255c356afadbf2826baba9f4a39ac2c728485b", func := "mullion/mullionlaw08.UnifyFits", spec := "unifyFits", unfollowed := true, recurses := true, named := ["unicode/utf8.first", "unicode/utf8.acceptRanges"], loops := true, apart := false, laid := [("unicode/utf8.acceptRanges", laid_unicode_utf8_acceptRanges), ("unicode/utf8.first", laid_unicode_utf8_first)], narrowed := true }
def UnifyFitsUptoSaid : Prop := unifyFitsUptoRow.holds Tryd.pinned (OpenSpec.upto unifyFitsSpec)

/-- 'mullionlaw08.UnifyPlain', WHERE WHAT IT READS IS OF BULK AT MOST 1048576: true; the input reads as it did. -/
def unifyPlainUptoRow : OpenClaim := { program := "ytefiefckjoledaadoor", sum := "68bf3d440820b157cd94cb1e25255c356afadbf2826baba9f4a39ac2c728485b", func := "mullion/mullionlaw08.UnifyPlain", spec := "unifyPlain", unfollowed := true, recurses := true, named := ["unicode/utf8.first", "unicode/utf8.acceptRanges"], loops := true, apart := false, laid := [("unicode/utf8.acceptRanges", laid_unicode_utf8_acceptRanges), ("unicode/utf8.first", laid_unicode_utf8_first)], narrowed := true }
def UnifyPlainUptoSaid : Prop := unifyPlainUptoRow.holds Tryd.pinned (OpenSpec.upto unifyPlainSpec)

/-- 'mullionlaw08.UnifyKeeps', WHERE WHAT IT READS IS OF BULK AT MOST 1048576: true; the input reads as it did. -/
def unifyKeepsUptoRow : OpenClaim := { program := "ytefiefckjoledaadoor", sum := "68bf3d440820b157cd94cb1e25255c356afadbf2826baba9f4a39ac2c728485b", func := "mullion/mullionlaw08.UnifyKeeps", spec := "unifyKeeps", unfollowed := true, recurses := true, named := ["unicode/utf8.first", "unicode/utf8.acceptRanges"], loops := true, apart := false, laid := [("unicode/utf8.acceptRanges", laid_unicode_utf8_acceptRanges), ("unicode/utf8.first", laid_unicode_utf8_first)], narrowed := true }
def UnifyKeepsUptoSaid : Prop := unifyKeepsUptoRow.holds Tryd.pinned (OpenSpec.upto unifyKeepsSpec)

/-- 'mullionlaw02.TypesSame', WHERE WHAT IT READS IS OF BULK AT MOST 1048576: true; the input reads as it did. -/
def typesSameUptoRow : OpenClaim := { program := "ytefiefckjoledaadoor", sum := "68bf3d440820b157cd94cb1e25255c356afadbf2826baba9f4a39ac2c728485b", func := "mullion/mullionlaw02.TypesSame", spec := "typesSame", inPlace := ["internal/abi.NoEscape", "internal/bytealg.MakeNoZero"], unfollowed := true, recurses := true, named := ["unicode/utf8.first", "unicode/utf8.acceptRanges"], loops := true, apart := false, laid := [("unicode/utf8.acceptRanges", laid_unicode_utf8_acceptRanges), ("unicode/utf8.first", laid_unicode_utf8_first)], narrowed := true }
def TypesSameUptoSaid : Prop := typesSameUptoRow.holds Tryd.pinned (OpenSpec.upto typesSameSpec)

/-- 'mullionlaw08.UnifyBack', WHERE WHAT IT READS IS OF BULK AT MOST 1048576: true; the input reads as it did. -/
def unifyBackUptoRow : OpenClaim := { program := "ytefiefckjoledaadoor", sum := "68bf3d440820b157cd94cb1e25255c356afadbf2826baba9f4a39ac2c728485b", func := "mullion/mullionlaw08.UnifyBack", spec := "unifyBack", unfollowed := true, recurses := true, named := ["unicode/utf8.first", "unicode/utf8.acceptRanges"], loops := true, apart := false, laid := [("unicode/utf8.acceptRanges", laid_unicode_utf8_acceptRanges), ("unicode/utf8.first", laid_unicode_utf8_first)], narrowed := true }
def UnifyBackUptoSaid : Prop := unifyBackUptoRow.holds Tryd.pinned (OpenSpec.upto unifyBackSpec)

/-- 'mullionlaw02.TypesCopies', WHERE WHAT IT READS IS OF BULK AT MOST 1048576: true; the input reads as it did. -/
def typesCopiesUptoRow : OpenClaim := { program := "ytefiefckjoledaadoor", sum := "68bf3d440820b157cd94cb1e25255c356afadbf2826baba9f4a39ac2c728485b", func := "mullion/mullionlaw02.TypesCopies", spec := "typesCopies", inPlace := ["internal/abi.NoEscape", "internal/bytealg.MakeNoZero"], unfollowed := true, recurses := true, named := ["unicode/utf8.first", "unicode/utf8.acceptRanges"], loops := true, apart := false, laid := [("unicode/utf8.acceptRanges", laid_unicode_utf8_acceptRanges), ("unicode/utf8.first", laid_unicode_utf8_first)], narrowed := true }
def TypesCopiesUptoSaid : Prop := typesCopiesUptoRow.holds Tryd.pinned (OpenSpec.upto typesCopiesSpec)

/-- 'mullionlaw02.TypesRelate', WHERE WHAT IT READS IS OF BULK AT MOST 1048576: true; the input reads as it did. -/
def typesRelateUptoRow : OpenClaim := { program := "ytefiefckjoledaadoor", sum := "68bf3d440820b157cd94cb1e25255c356afadbf2826baba9f4a39ac2c728485b", func := "mullion/mullionlaw02.TypesRelate", spec := "typesRelate", inPlace := ["internal/abi.NoEscape", "internal/bytealg.MakeNoZero"], unfollowed := true, recurses := true, named := ["unicode/utf8.first", "unicode/utf8.acceptRanges"], loops := true, apart := false, laid := [("unicode/utf8.acceptRanges", laid_unicode_utf8_acceptRanges), ("unicode/utf8.first", laid_unicode_utf8_first)], narrowed := true }
def TypesRelateUptoSaid : Prop := typesRelateUptoRow.holds Tryd.pinned (OpenSpec.upto typesRelateSpec)

/-- 'mullionlaw02.TypesNest', WHERE WHAT IT READS IS OF BULK AT MOST 1048576: true; the input reads as it did. -/
def typesNestUptoRow : OpenClaim := { program := "ytefiefckjoledaadoor", sum := "68bf3d440820b157cd94cb1e25255c356afadbf2826baba9f4a39ac2c728485b", func := "mullion/mullionlaw02.TypesNest", spec := "typesNest", inPlace := ["internal/abi.NoEscape", "internal/bytealg.MakeNoZero"], unfollowed := true, recurses := true, named := ["unicode/utf8.first", "unicode/utf8.acceptRanges"], loops := true, apart := false, laid := [("unicode/utf8.acceptRanges", laid_unicode_utf8_acceptRanges), ("unicode/utf8.first", laid_unicode_utf8_first)], narrowed := true }
def TypesNestUptoSaid : Prop := typesNestUptoRow.holds Tryd.pinned (OpenSpec.upto typesNestSpec)

/-- 'mullionlaw08.UnifyInfers', WHERE WHAT IT READS IS OF BULK AT MOST 1048576: true; the input reads as it did. -/
def unifyInfersUptoRow : OpenClaim := { program := "ytefiefckjoledaadoor", sum := "68bf3d440820b157cd94cb1e25255c356afadbf2826baba9f4a39ac2c728485b", func := "mullion/mullionlaw08.UnifyInfers", spec := "unifyInfers", unfollowed := true, recurses := true, named := ["unicode/utf8.first", "unicode/utf8.acceptRanges"], loops := true, apart := false, laid := [("unicode/utf8.acceptRanges", laid_unicode_utf8_acceptRanges), ("unicode/utf8.first", laid_unicode_utf8_first)], narrowed := true }
def UnifyInfersUptoSaid : Prop := unifyInfersUptoRow.holds Tryd.pinned (OpenSpec.upto unifyInfersSpec)

/-- 'mullionlaw02.TypesFill', WHERE WHAT IT READS IS OF BULK AT MOST 1048576: true; the input reads as it did. -/
def typesFillUptoRow : OpenClaim := { program := "ytefiefckjoledaadoor", sum := "68bf3d440820b157cd94cb1e25255c356afadbf2826baba9f4a39ac2c728485b", func := "mullion/mullionlaw02.TypesFill", spec := "typesFill", inPlace := ["internal/abi.NoEscape", "internal/bytealg.MakeNoZero"], unfollowed := true, recurses := true, named := ["unicode/utf8.first", "unicode/utf8.acceptRanges"], loops := true, apart := false, laid := [("unicode/utf8.acceptRanges", laid_unicode_utf8_acceptRanges), ("unicode/utf8.first", laid_unicode_utf8_first)], narrowed := true }
def TypesFillUptoSaid : Prop := typesFillUptoRow.holds Tryd.pinned (OpenSpec.upto typesFillSpec)

/-- 'mullionlaw02.TypesTwice', WHERE WHAT IT READS IS OF BULK AT MOST 1048576: true; the input reads as it did. -/
def typesTwiceUptoRow : OpenClaim := { program := "ytefiefckjoledaadoor", sum := "68bf3d440820b157cd94cb1e25255c356afadbf2826baba9f4a39ac2c728485b", func := "mullion/mullionlaw02.TypesTwice", spec := "typesTwice", inPlace := ["internal/abi.NoEscape", "internal/bytealg.MakeNoZero"], unfollowed := true, recurses := true, named := ["unicode/utf8.first", "unicode/utf8.acceptRanges"], loops := true, apart := false, laid := [("unicode/utf8.acceptRanges", laid_unicode_utf8_acceptRanges), ("unicode/utf8.first", laid_unicode_utf8_first)], narrowed := true }
def TypesTwiceUptoSaid : Prop := typesTwiceUptoRow.holds Tryd.pinned (OpenSpec.upto typesTwiceSpec)

end Rows
end Go.Proofs.YtefiefckjoledaaDoor
