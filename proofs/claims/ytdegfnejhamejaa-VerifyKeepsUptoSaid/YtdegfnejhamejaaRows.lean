/-
  No cell of these rows narrows 'for every input' (looked for: loops, veiled, ifaces, maps, wideKeys, modest, calm, conditions, laid).
  DERIVED. THE GIVEN ROWS OF THIS SEAT. 4 by the template 'for every input the law returns true; each argument reads behind the call as it read before'; 0 by the template 'total and deterministic' (their statements: YtdegfnejhamejaaTotals.lean).
  GIVEN WITH THE SEED: the statements are not yours to turn. If you find one false, say at which input.
  Laid BY PROGRAM, IN A SANDBOX (cutbox-rows.mjs): the forced cells as the released guide's own fill.sh prints them over the translation 6fa8c368c7c54c38… (all of the seat's roots in one cut). By AI agents, Wed Nov 11 2026. No macro, syntax, notation, axiom, sorry.
-/
import Derived.Test.YtdegfnejhamejaaChecked
import GoSem.Claim
import GoSem.ClaimJoined
import GoSem.ClaimMapViews
import Derived.JoinedTies
import Derived.KernelRfl
namespace Go.Proofs.Ytdegfnejhamejaa
/- THE CELL 'sum', in the pinned program and in every row, IS THE sha256 OF THE DUMP (.gsa) THAT YtdegfnejhamejaaProg.lean LOADS. Nothing in Lean hashes anything: it is a label: what it is worth is what the hold of that sum in a sandbox is worth. -/
noncomputable def Try.pinned : Pinned := { name := "ytdegfnejhamejaa", sum := "6fa8c368c7c54c383f5cc39c3482f5d69737c0a749b0cce33a04aadc4215dec9", checked := Try.checked }
namespace Rows
def none {H : Type} : Left H := { results := [], args := [] }

/-- 'mullionlaw13.VerifyMore': WHATEVER THE INPUT: true; the input reads as it did. -/
def verifyMoreSpec : ChangeSpec := { name := "verifyMore", fn := fun _ => fun
  | [d] => { results := [.lit (.bool true)], args := [d] }
  | _ => none }
def verifyMoreRow : OpenClaim := { program := "ytdegfnejhamejaa", sum := "6fa8c368c7c54c383f5cc39c3482f5d69737c0a749b0cce33a04aadc4215dec9", func := "mullion/mullionlaw13.VerifyMore", spec := "verifyMore", unfollowed := true, recurses := true, plainKeys := false, apart := false }
def VerifyMoreSaid : Prop := verifyMoreRow.holds Try.pinned (OpenSpec.ofChange verifyMoreSpec)

/-- ITS FALSE NEIGHBOUR: 'it returns false'. Refute it at one input. -/
def verifyMoreWrong : ChangeSpec := { name := "verifyMore", fn := fun _ => fun
  | [d] => { results := [.lit (.bool false)], args := [d] }
  | _ => none }
def VerifyMoreWrongFalsely : Prop := verifyMoreRow.holds Try.pinned (OpenSpec.ofChange verifyMoreWrong)

/-- 'mullionlaw13.VerifyFlows': WHATEVER THE INPUT: true; the input reads as it did. -/
def verifyFlowsSpec : ChangeSpec := { name := "verifyFlows", fn := fun _ => fun
  | [d1, d2] => { results := [.lit (.bool true)], args := [d1, d2] }
  | _ => none }
def verifyFlowsRow : OpenClaim := { program := "ytdegfnejhamejaa", sum := "6fa8c368c7c54c383f5cc39c3482f5d69737c0a749b0cce33a04aadc4215dec9", func := "mullion/mullionlaw13.VerifyFlows", spec := "verifyFlows", unfollowed := true, recurses := true, plainKeys := false, apart := false }
def VerifyFlowsSaid : Prop := verifyFlowsRow.holds Try.pinned (OpenSpec.ofChange verifyFlowsSpec)

/-- ITS FALSE NEIGHBOUR: 'it returns false'. Refute it at one input. -/
def verifyFlowsWrong : ChangeSpec := { name := "verifyFlows", fn := fun _ => fun
  | [d1, d2] => { results := [.lit (.bool false)], args := [d1, d2] }
  | _ => none }
def VerifyFlowsWrongFalsely : Prop := verifyFlowsRow.holds Try.pinned (OpenSpec.ofChange verifyFlowsWrong)

/-- 'mullionlaw13.VerifyKeeps': WHATEVER THE INPUT: true; the input reads as it did. -/
def verifyKeepsSpec : ChangeSpec := { name := "verifyKeeps", fn := fun _ => fun
  | [d1, d2, d3] => { results := [.lit (.bool true)], args := [d1, d2, d3] }
  | _ => none }
def verifyKeepsRow : OpenClaim := { program := "ytdegfnejhamejaa", sum := "6fa8c368c7c54c383f5cc39c3482f5d69737c0a749b0cce33a04aadc4215dec9", func := "mullion/mullionlaw13.VerifyKeeps", spec := "verifyKeeps", unfollowed := true, recurses := true, plainKeys := false, apart := false }
def VerifyKeepsSaid : Prop := verifyKeepsRow.holds Try.pinned (OpenSpec.ofChange verifyKeepsSpec)

/-- ITS FALSE NEIGHBOUR: 'it returns false'. Refute it at one input. -/
def verifyKeepsWrong : ChangeSpec := { name := "verifyKeeps", fn := fun _ => fun
  | [d1, d2, d3] => { results := [.lit (.bool false)], args := [d1, d2, d3] }
  | _ => none }
def VerifyKeepsWrongFalsely : Prop := verifyKeepsRow.holds Try.pinned (OpenSpec.ofChange verifyKeepsWrong)

/-- 'mullionlaw13.VerifyTurns': WHATEVER THE INPUT: true; the input reads as it did. -/
def verifyTurnsSpec : ChangeSpec := { name := "verifyTurns", fn := fun _ => fun
  | [d] => { results := [.lit (.bool true)], args := [d] }
  | _ => none }
def verifyTurnsRow : OpenClaim := { program := "ytdegfnejhamejaa", sum := "6fa8c368c7c54c383f5cc39c3482f5d69737c0a749b0cce33a04aadc4215dec9", func := "mullion/mullionlaw13.VerifyTurns", spec := "verifyTurns", unfollowed := true, recurses := true, plainKeys := false, apart := false }
def VerifyTurnsSaid : Prop := verifyTurnsRow.holds Try.pinned (OpenSpec.ofChange verifyTurnsSpec)

/-- ITS FALSE NEIGHBOUR: 'it returns false'. Refute it at one input. -/
def verifyTurnsWrong : ChangeSpec := { name := "verifyTurns", fn := fun _ => fun
  | [d] => { results := [.lit (.bool false)], args := [d] }
  | _ => none }
def VerifyTurnsWrongFalsely : Prop := verifyTurnsRow.holds Try.pinned (OpenSpec.ofChange verifyTurnsWrong)

/- THE SECOND FORM. 'bulk': how many values and letters a reading holds, each counted each time it is reached (what is shared counts as often as it is met; a slice's spare places count too). A statement '..UptoSaid' is the law's where the arguments, and the package variables that the reading takes, are together of bulk at most 1048576: NARROWER than '..Said'. Prove '..Said' where nothing that the law and all that it calls make is longer than what came in: it says more and counts as full. Else prove '..UptoSaid'. A law counts once. -/
mutual
def uptoBulk {H : Type} : DataW H → Nat
  | .lit (.string bytes) => bytes.length + 1
  | .lit _ => 1
  | .nil => 1
  | .ptr d => uptoBulk d + 1
  | .slice elems spare => uptoBulkAll elems + uptoBulkAll spare + 1
  | .agg parts => uptoBulkAll parts + 1
  | .iface _ d => uptoBulk d + 1
  | .map entries => uptoBulkEntries entries + 1
  | .held _ => 1
def uptoBulkAll {H : Type} : List (DataW H) → Nat
  | [] => 0
  | d :: r => uptoBulk d + uptoBulkAll r
def uptoBulkEntries {H : Type} : List (Lit × DataW H) → Nat
  | [] => 0
  | x :: r => uptoBulkEntry x + uptoBulkEntries r
def uptoBulkEntry {H : Type} : Lit × DataW H → Nat
  | (.string bytes, d) => bytes.length + uptoBulk d + 1
  | (_, d) => uptoBulk d + 1
 end
def uptoSmall : (H : Type) → List (DataW H) → Bool := fun _ ds => decide (uptoBulkAll ds ≤ 1048576)
def OpenSpec.upto (s : _root_.Go.ChangeSpec) : _root_.Go.OpenSpec := { _root_.Go.OpenSpec.ofChange s with cond := some uptoSmall }

/-- 'mullionlaw13.VerifyMore', WHERE WHAT IT READS IS OF BULK AT MOST 1048576: true; the input reads as it did. -/
def verifyMoreUptoRow : OpenClaim := { program := "ytdegfnejhamejaa", sum := "6fa8c368c7c54c383f5cc39c3482f5d69737c0a749b0cce33a04aadc4215dec9", func := "mullion/mullionlaw13.VerifyMore", spec := "verifyMore", unfollowed := true, recurses := true, plainKeys := false, apart := false, narrowed := true }
def VerifyMoreUptoSaid : Prop := verifyMoreUptoRow.holds Try.pinned (OpenSpec.upto verifyMoreSpec)

/-- 'mullionlaw13.VerifyFlows', WHERE WHAT IT READS IS OF BULK AT MOST 1048576: true; the input reads as it did. -/
def verifyFlowsUptoRow : OpenClaim := { program := "ytdegfnejhamejaa", sum := "6fa8c368c7c54c383f5cc39c3482f5d69737c0a749b0cce33a04aadc4215dec9", func := "mullion/mullionlaw13.VerifyFlows", spec := "verifyFlows", unfollowed := true, recurses := true, plainKeys := false, apart := false, narrowed := true }
def VerifyFlowsUptoSaid : Prop := verifyFlowsUptoRow.holds Try.pinned (OpenSpec.upto verifyFlowsSpec)

/-- 'mullionlaw13.VerifyKeeps', WHERE WHAT IT READS IS OF BULK AT MOST 1048576: true; the input reads as it did. -/
def verifyKeepsUptoRow : OpenClaim := { program := "ytdegfnejhamejaa", sum := "6fa8c368c7c54c383f5cc39c3482f5d69737c0a749b0cce33a04aadc4215dec9", func := "mullion/mullionlaw13.VerifyKeeps", spec := "verifyKeeps", unfollowed := true, recurses := true, plainKeys := false, apart := false, narrowed := true }
def VerifyKeepsUptoSaid : Prop := verifyKeepsUptoRow.holds Try.pinned (OpenSpec.upto verifyKeepsSpec)

/-- 'mullionlaw13.VerifyTurns', WHERE WHAT IT READS IS OF BULK AT MOST 1048576: true; the input reads as it did. -/
def verifyTurnsUptoRow : OpenClaim := { program := "ytdegfnejhamejaa", sum := "6fa8c368c7c54c383f5cc39c3482f5d69737c0a749b0cce33a04aadc4215dec9", func := "mullion/mullionlaw13.VerifyTurns", spec := "verifyTurns", unfollowed := true, recurses := true, plainKeys := false, apart := false, narrowed := true }
def VerifyTurnsUptoSaid : Prop := verifyTurnsUptoRow.holds Try.pinned (OpenSpec.upto verifyTurnsSpec)

end Rows
end Go.Proofs.Ytdegfnejhamejaa
