/-
  No cell of these rows narrows 'for every input' (looked for: loops, veiled, ifaces, maps, wideKeys, modest, calm, conditions, laid).
  DERIVED. THE GIVEN ROWS OF THIS SEAT. 6 by the template 'for every input the law returns true; each argument reads behind the call as it read before'; 0 by the template 'total and deterministic' (their statements: YtclllnoohoonoaaTotals.lean).
  GIVEN WITH THE SEED: the statements are not yours to turn. If you find one false, say at which input.
  Laid BY PROGRAM, IN A SANDBOX (cutbox-rows.mjs): the forced cells as the released guide's own fill.sh prints them over the translation 75c0daaf1d1b44bc… (all of the seat's roots in one cut). By AI agents, Wed Nov 11 2026. No macro, syntax, notation, axiom, sorry.
-/
import Derived.Test.YtclllnoohoonoaaChecked
import GoSem.Claim
import GoSem.ClaimJoined
import GoSem.ClaimMapViews
import Derived.JoinedTies
import Derived.KernelRfl
namespace Go.Proofs.Ytclllnoohoonoaa
/- THE CELL 'sum', in the pinned program and in every row, IS THE sha256 OF THE DUMP (.gsa) THAT YtclllnoohoonoaaProg.lean LOADS. Nothing in Lean hashes anything: it is a label: what it is worth is what the hold of that sum in a sandbox is worth. -/
noncomputable def Try.pinned : Pinned := { name := "ytclllnoohoonoaa", sum := "75c0daaf1d1b44bc2cfdafbf6b0eadd9f25a6910c16224f8cc1ce62f8032efbd", checked := Try.checked }
namespace Rows
def none {H : Type} : Left H := { results := [], args := [] }

/-- 'mullionlaw14.ChansBound': WHATEVER THE INPUT: true; the input reads as it did. -/
def chansBoundSpec : ChangeSpec := { name := "chansBound", fn := fun _ => fun
  | [d] => { results := [.lit (.bool true)], args := [d] }
  | _ => none }
def chansBoundRow : OpenClaim := { program := "ytclllnoohoonoaa", sum := "75c0daaf1d1b44bc2cfdafbf6b0eadd9f25a6910c16224f8cc1ce62f8032efbd", func := "mullion/mullionlaw14.ChansBound", spec := "chansBound", unfollowed := true, recurses := true, apart := false }
def ChansBoundSaid : Prop := chansBoundRow.holds Try.pinned (OpenSpec.ofChange chansBoundSpec)

/-- ITS FALSE NEIGHBOUR: 'it returns false'. Refute it at one input. -/
def chansBoundWrong : ChangeSpec := { name := "chansBound", fn := fun _ => fun
  | [d] => { results := [.lit (.bool false)], args := [d] }
  | _ => none }
def ChansBoundWrongFalsely : Prop := chansBoundRow.holds Try.pinned (OpenSpec.ofChange chansBoundWrong)

/-- 'mullionlaw14.ChansOrder': WHATEVER THE INPUT: true; the input reads as it did. -/
def chansOrderSpec : ChangeSpec := { name := "chansOrder", fn := fun _ => fun
  | [d1, d2, d3] => { results := [.lit (.bool true)], args := [d1, d2, d3] }
  | _ => none }
def chansOrderRow : OpenClaim := { program := "ytclllnoohoonoaa", sum := "75c0daaf1d1b44bc2cfdafbf6b0eadd9f25a6910c16224f8cc1ce62f8032efbd", func := "mullion/mullionlaw14.ChansOrder", spec := "chansOrder", unfollowed := true, recurses := true, apart := false }
def ChansOrderSaid : Prop := chansOrderRow.holds Try.pinned (OpenSpec.ofChange chansOrderSpec)

/-- ITS FALSE NEIGHBOUR: 'it returns false'. Refute it at one input. -/
def chansOrderWrong : ChangeSpec := { name := "chansOrder", fn := fun _ => fun
  | [d1, d2, d3] => { results := [.lit (.bool false)], args := [d1, d2, d3] }
  | _ => none }
def ChansOrderWrongFalsely : Prop := chansOrderRow.holds Try.pinned (OpenSpec.ofChange chansOrderWrong)

/-- 'mullionlaw14.ChansMeets': WHATEVER THE INPUT: true; the input reads as it did. -/
def chansMeetsSpec : ChangeSpec := { name := "chansMeets", fn := fun _ => fun
  | [d1, d2, d3] => { results := [.lit (.bool true)], args := [d1, d2, d3] }
  | _ => none }
def chansMeetsRow : OpenClaim := { program := "ytclllnoohoonoaa", sum := "75c0daaf1d1b44bc2cfdafbf6b0eadd9f25a6910c16224f8cc1ce62f8032efbd", func := "mullion/mullionlaw14.ChansMeets", spec := "chansMeets", unfollowed := true, recurses := true, apart := false }
def ChansMeetsSaid : Prop := chansMeetsRow.holds Try.pinned (OpenSpec.ofChange chansMeetsSpec)

/-- ITS FALSE NEIGHBOUR: 'it returns false'. Refute it at one input. -/
def chansMeetsWrong : ChangeSpec := { name := "chansMeets", fn := fun _ => fun
  | [d1, d2, d3] => { results := [.lit (.bool false)], args := [d1, d2, d3] }
  | _ => none }
def ChansMeetsWrongFalsely : Prop := chansMeetsRow.holds Try.pinned (OpenSpec.ofChange chansMeetsWrong)

/-- 'mullionlaw14.ChansActs': WHATEVER THE INPUT: true; the input reads as it did. -/
def chansActsSpec : ChangeSpec := { name := "chansActs", fn := fun _ => fun
  | [d] => { results := [.lit (.bool true)], args := [d] }
  | _ => none }
def chansActsRow : OpenClaim := { program := "ytclllnoohoonoaa", sum := "75c0daaf1d1b44bc2cfdafbf6b0eadd9f25a6910c16224f8cc1ce62f8032efbd", func := "mullion/mullionlaw14.ChansActs", spec := "chansActs", unfollowed := true, recurses := true, apart := false }
def ChansActsSaid : Prop := chansActsRow.holds Try.pinned (OpenSpec.ofChange chansActsSpec)

/-- ITS FALSE NEIGHBOUR: 'it returns false'. Refute it at one input. -/
def chansActsWrong : ChangeSpec := { name := "chansActs", fn := fun _ => fun
  | [d] => { results := [.lit (.bool false)], args := [d] }
  | _ => none }
def ChansActsWrongFalsely : Prop := chansActsRow.holds Try.pinned (OpenSpec.ofChange chansActsWrong)

/-- 'mullionlaw14.ChansPicks': WHATEVER THE INPUT: true; the input reads as it did. -/
def chansPicksSpec : ChangeSpec := { name := "chansPicks", fn := fun _ => fun
  | [d1, d2, d3] => { results := [.lit (.bool true)], args := [d1, d2, d3] }
  | _ => none }
def chansPicksRow : OpenClaim := { program := "ytclllnoohoonoaa", sum := "75c0daaf1d1b44bc2cfdafbf6b0eadd9f25a6910c16224f8cc1ce62f8032efbd", func := "mullion/mullionlaw14.ChansPicks", spec := "chansPicks", unfollowed := true, recurses := true, apart := false }
def ChansPicksSaid : Prop := chansPicksRow.holds Try.pinned (OpenSpec.ofChange chansPicksSpec)

/-- ITS FALSE NEIGHBOUR: 'it returns false'. Refute it at one input. -/
def chansPicksWrong : ChangeSpec := { name := "chansPicks", fn := fun _ => fun
  | [d1, d2, d3] => { results := [.lit (.bool false)], args := [d1, d2, d3] }
  | _ => none }
def ChansPicksWrongFalsely : Prop := chansPicksRow.holds Try.pinned (OpenSpec.ofChange chansPicksWrong)

/-- 'mullionlaw14.ChansNil': WHATEVER THE INPUT: true; the input reads as it did. -/
def chansNilSpec : ChangeSpec := { name := "chansNil", fn := fun _ => fun
  | [] => { results := [.lit (.bool true)], args := [] }
  | _ => none }
def chansNilRow : OpenClaim := { program := "ytclllnoohoonoaa", sum := "75c0daaf1d1b44bc2cfdafbf6b0eadd9f25a6910c16224f8cc1ce62f8032efbd", func := "mullion/mullionlaw14.ChansNil", spec := "chansNil", unfollowed := true, recurses := true, apart := false }
def ChansNilSaid : Prop := chansNilRow.holds Try.pinned (OpenSpec.ofChange chansNilSpec)

/-- ITS FALSE NEIGHBOUR: 'it returns false'. Refute it at one input. -/
def chansNilWrong : ChangeSpec := { name := "chansNil", fn := fun _ => fun
  | [] => { results := [.lit (.bool false)], args := [] }
  | _ => none }
def ChansNilWrongFalsely : Prop := chansNilRow.holds Try.pinned (OpenSpec.ofChange chansNilWrong)

/- THE SECOND FORM. 'bulk': how many values and letters a reading holds, each counted each time it is reached (what is shared counts as often as it is met; a slice's spare places count too). A statement '..UptoSaid' is the law's where the arguments, and the package variables that the reading takes, are together of bulk at most 1048576: NARROWER than '..Said'. Prove '..Said' where nothing that the law and all that it calls make is longer than what came in: it says more and counts as full. Else prove '..UptoSaid'. A law counts once. -/
mutual
def uptoBulk {H : Type} : DataW H → Nat
  | .lit (.string bytes) => bytes.length + 1
  | .lit _ => 1
  | .nil => 1
  | .ptr d => uptoBulk d + 1
  | .slice elems spare => uptoBulkAll elems + uptoBulkAll spare + 1
  | .agg parts => uptoBulkAll parts + 1
  | .iface _ d => uptoBulk d + 1
  | .map entries => uptoBulkEntries entries + 1
  | .held _ => 1
def uptoBulkAll {H : Type} : List (DataW H) → Nat
  | [] => 0
  | d :: r => uptoBulk d + uptoBulkAll r
def uptoBulkEntries {H : Type} : List (Lit × DataW H) → Nat
  | [] => 0
  | x :: r => uptoBulkEntry x + uptoBulkEntries r
def uptoBulkEntry {H : Type} : Lit × DataW H → Nat
  | (.string bytes, d) => bytes.length + uptoBulk d + 1
  | (_, d) => uptoBulk d + 1
 end
def uptoSmall : (H : Type) → List (DataW H) → Bool := fun _ ds => decide (uptoBulkAll ds ≤ 1048576)
def OpenSpec.upto (s : _root_.Go.ChangeSpec) : _root_.Go.OpenSpec := { _root_.Go.OpenSpec.ofChange s with cond := some uptoSmall }

/-- 'mullionlaw14.ChansBound', WHERE WHAT IT READS IS OF BULK AT MOST 1048576: true; the input reads as it did. -/
def chansBoundUptoRow : OpenClaim := { program := "ytclllnoohoonoaa", sum := "75c0daaf1d1b44bc2cfdafbf6b0eadd9f25a6910c16224f8cc1ce62f8032efbd", func := "mullion/mullionlaw14.ChansBound", spec := "chansBound", unfollowed := true, recurses := true, apart := false, narrowed := true }
def ChansBoundUptoSaid : Prop := chansBoundUptoRow.holds Try.pinned (OpenSpec.upto chansBoundSpec)

/-- 'mullionlaw14.ChansOrder', WHERE WHAT IT READS IS OF BULK AT MOST 1048576: true; the input reads as it did. -/
def chansOrderUptoRow : OpenClaim := { program := "ytclllnoohoonoaa", sum := "75c0daaf1d1b44bc2cfdafbf6b0eadd9f25a6910c16224f8cc1ce62f8032efbd", func := "mullion/mullionlaw14.ChansOrder", spec := "chansOrder", unfollowed := true, recurses := true, apart := false, narrowed := true }
def ChansOrderUptoSaid : Prop := chansOrderUptoRow.holds Try.pinned (OpenSpec.upto chansOrderSpec)

/-- 'mullionlaw14.ChansMeets', WHERE WHAT IT READS IS OF BULK AT MOST 1048576: true; the input reads as it did. -/
def chansMeetsUptoRow : OpenClaim := { program := "ytclllnoohoonoaa", sum := "75c0daaf1d1b44bc2cfdafbf6b0eadd9f25a6910c16224f8cc1ce62f8032efbd", func := "mullion/mullionlaw14.ChansMeets", spec := "chansMeets", unfollowed := true, recurses := true, apart := false, narrowed := true }
def ChansMeetsUptoSaid : Prop := chansMeetsUptoRow.holds Try.pinned (OpenSpec.upto chansMeetsSpec)

/-- 'mullionlaw14.ChansActs', WHERE WHAT IT READS IS OF BULK AT MOST 1048576: true; the input reads as it did. -/
def chansActsUptoRow : OpenClaim := { program := "ytclllnoohoonoaa", sum := "75c0daaf1d1b44bc2cfdafbf6b0eadd9f25a6910c16224f8cc1ce62f8032efbd", func := "mullion/mullionlaw14.ChansActs", spec := "chansActs", unfollowed := true, recurses := true, apart := false, narrowed := true }
def ChansActsUptoSaid : Prop := chansActsUptoRow.holds Try.pinned (OpenSpec.upto chansActsSpec)

/-- 'mullionlaw14.ChansPicks', WHERE WHAT IT READS IS OF BULK AT MOST 1048576: true; the input reads as it did. -/
def chansPicksUptoRow : OpenClaim := { program := "ytclllnoohoonoaa", sum := "75c0daaf1d1b44bc2cfdafbf6b0eadd9f25a6910c16224f8cc1ce62f8032efbd", func := "mullion/mullionlaw14.ChansPicks", spec := "chansPicks", unfollowed := true, recurses := true, apart := false, narrowed := true }
def ChansPicksUptoSaid : Prop := chansPicksUptoRow.holds Try.pinned (OpenSpec.upto chansPicksSpec)

/-- 'mullionlaw14.ChansNil', WHERE WHAT IT READS IS OF BULK AT MOST 1048576: true; the input reads as it did. -/
def chansNilUptoRow : OpenClaim := { program := "ytclllnoohoonoaa", sum := "75c0daaf1d1b44bc2cfdafbf6b0eadd9f25a6910c16224f8cc1ce62f8032efbd", func := "mullion/mullionlaw14.ChansNil", spec := "chansNil", unfollowed := true, recurses := true, apart := false, narrowed := true }
def ChansNilUptoSaid : Prop := chansNilUptoRow.holds Try.pinned (OpenSpec.upto chansNilSpec)

end Rows
end Go.Proofs.Ytclllnoohoonoaa
