/-
  The three listed tables: what the rows' list gives; a world that holds them.
-/
import Derived.Test.YtgaodjoddfjfmaaDoorNOpen
import Derived.Test.YtgaodjoddfjfmaaDoorTie
import Derived.Test.YtgaodjoddfjfmaaDoorCards
import Derived.PinnedBridge
import Derived.Lib.LaidU8T
import Derived.Lib.LaidIn
import Derived.Lib.LaidTab
import Derived.Deep.DeepHandedRow
import Derived.Deep.DeepWitnessRowRef
import Derived.SevenTiedAt
namespace Go.Proofs.YtgaodjoddfjfmaaDoor
open Go.ChangeShapes Go.WideShapes Go.ChangeAt Go.RowKit
set_option linter.unusedVariables false
set_option linter.unusedSimpArgs false

abbrev laidL : List (String × DataW Unit) := [("unicode/utf8.acceptRanges", Rows.laid_unicode_utf8_acceptRanges), ("mullion/tree.Ops", Rows.laid_mullion_tree_Ops), ("unicode/utf8.first", Rows.laid_unicode_utf8_first)]
theorem own : ownKnob Tryd.prog.godebug = none := by kernel_rfl
theorem laidB : laidOutB Tryd.prog = true := by kernel_rfl
/-- The settled world, the three tables holding what their text lays. -/
noncomputable def laidWorld (os : Os) : World :=
  let w0 := World.holding Tryd.prog os ⟨#[Obj.cells #[.string ⟨#[42]⟩, .string ⟨#[47]⟩, .string ⟨#[37]⟩, .string ⟨#[60, 60]⟩, .string ⟨#[62, 62]⟩, .string ⟨#[38]⟩, .string ⟨#[38, 94]⟩] 9 (0, 0), Obj.cells #[.string ⟨#[43]⟩, .string ⟨#[45]⟩, .string ⟨#[124]⟩, .string ⟨#[94]⟩] 9 (0, 0), Obj.cells #[.string ⟨#[61, 61]⟩, .string ⟨#[33, 61]⟩, .string ⟨#[60]⟩, .string ⟨#[60, 61]⟩, .string ⟨#[62]⟩, .string ⟨#[62, 61]⟩] 9 (0, 0), Obj.cells #[.string ⟨#[38, 38]⟩] 9 (0, 0), Obj.cells #[.string ⟨#[124, 124]⟩] 9 (0, 0)], #[], []⟩
  let put (h : Array Obj) (g : Nat) (cs : Array Value) : Array Obj := h.modify g fun
    | .cells _ t frozen => .cells cs t frozen
    | o => o
  let h1 := put w0.heap 1 (Lib.firstTab.map fun z => Value.int .u8 z).toArray
  let h2 := put h1 2 ((List.range 16).flatMap fun i => [Value.int .u8 (Lib.accLo i), Value.int .u8 (Lib.accHi i)]).toArray
  let h3 := put h2 0 #[.slice (some ⟨9, 0, none⟩) 7 7, .slice (some ⟨10, 0, none⟩) 4 4, .slice (some ⟨11, 0, none⟩) 6 6, .slice (some ⟨12, 0, none⟩) 1 1, .slice (some ⟨13, 0, none⟩) 1 1]
  { w0 with heap := h3 }
set_option maxRecDepth 100000 in
theorem laid_met (os : Os) (args : Array Value) : laidMet Tryd.prog laidL ((laidWorld os).forCall (fun _ _ => 0) ⟨#[], args, []⟩).memory :=
  (LaidIn.of_run (l := laidL) [0, 1, 2, 9, 10, 11, 12, 13] 16 (by kernel_rfl) (by kernel_rfl) (by kernel_rfl) (by kernel_rfl)).met
theorem readNd : Tryd.prog.readableRec 25 = true ∧ 25 < Tryd.prog.types.size := ⟨by kernel_rfl, of_decide_eq_true (by kernel_rfl)⟩
theorem readInt : Tryd.prog.readableRec 3 = true ∧ 3 < Tryd.prog.types.size := ⟨by kernel_rfl, of_decide_eq_true (by kernel_rfl)⟩
theorem readU8 : Tryd.prog.readableRec 5 = true ∧ 5 < Tryd.prog.types.size := ⟨by kernel_rfl, of_decide_eq_true (by kernel_rfl)⟩
end Go.Proofs.YtgaodjoddfjfmaaDoor
