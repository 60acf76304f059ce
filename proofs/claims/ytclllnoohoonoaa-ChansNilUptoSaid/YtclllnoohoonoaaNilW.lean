/-
  The walk of the statement ChansNil: a nil hub is refused.
-/
import Derived.Test.YtclllnoohoonoaaHAns
namespace Go.Proofs.Ytclllnoohoonoaa
open Go.RowKit
set_option linter.unusedVariables false
set_option linter.unusedSimpArgs false

def NilRes (v : Value) (w : World) (e : Ending) (w' : World) : Prop := e = .returned v ∧ w' = w
set_option maxRecDepth 100000 in
theorem make_nil (w : World) : Calls Try.prog 13 #[.pointer none, .int .i64 1] w (NilRes (.tuple #[.int .i64 0, .int .i64 2]) w) := by
  go_enter Try.func13, Try.ntmps13
  go_wp2_with fail
  go_ret2
  exact ⟨rfl, rfl⟩
set_option maxRecDepth 100000 in
theorem do_nil (w : World) : Calls Try.prog 15 #[.pointer none, .int .i64 1, .slice none 0 0, .int .i64 0, .bool true] w (NilRes (.tuple #[.int .i64 0, .int .u64 0, .bool false, .slice none 0 0, .int .i64 2]) w) := by
  go_enter Try.func15, Try.ntmps15
  go_wp2_with fail
  refine bodyPost_ret (results_tmp5 rfl _ _ _) rfl ?_
  exact ⟨rfl, rfl⟩
set_option maxRecDepth 100000 in
theorem shut_nil (w : World) : Calls Try.prog 16 #[.pointer none, .int .i64 1] w fun e w' => e = .returned (.tuple #[.slice none 0 0, .int .i64 2]) ∧ Chg (fun _ _ => False) w w' := by
  go_enter Try.func16, Try.ntmps16
  go_wp2_with fail
  go_ret2
  exact ⟨rfl, chg_alloc _ _⟩
set_option maxRecDepth 100000 in
theorem ready_nil (w : World) : Calls Try.prog 25 #[.pointer none, .slice none 0 0] w (NilRes (.tuple #[.slice none 0 0, .int .i64 2]) w) := by
  go_enter Try.func25, Try.ntmps25
  go_wp2_with fail
  go_ret2
  exact ⟨rfl, rfl⟩
set_option maxRecDepth 100000 in
theorem buffer_nil (w : World) : Calls Try.prog 11 #[.pointer none, .int .i64 1] w (NilRes (.tuple #[.slice none 0 0, .int .i64 2]) w) := by
  go_enter Try.func11, Try.ntmps11
  go_wp2_with fail
  go_ret2
  exact ⟨rfl, rfl⟩
set_option maxRecDepth 100000 in
theorem drop_nil (w : World) : Calls Try.prog 26 #[.pointer none, .int .i64 1] w (NilRes (.int .i64 2) w) := by
  go_enter Try.func26, Try.ntmps26
  go_wp2_with fail
  go_ret
  exact ⟨rfl, rfl⟩
set_option maxRecDepth 100000 in
theorem waiting_nil (w : World) : Calls Try.prog 14 #[.pointer none] w (NilRes (.slice none 0 0) w) := by
  go_enter Try.func14, Try.ntmps14
  go_wp2_with fail
  go_ret
  exact ⟨rfl, rfl⟩
set_option maxRecDepth 100000 in
theorem copy_nil (w : World) : Calls Try.prog 20 #[.pointer none] w (NilRes (.pointer none) w) := by
  go_enter Try.func20, Try.ntmps20
  go_wp2_with fail
  go_ret
  exact ⟨rfl, rfl⟩
set_option maxRecDepth 100000 in
set_option maxHeartbeats 2000000 in
theorem chansNil_walk (w : World) : Calls Try.prog 8 #[] w fun e w' => e = .returned (.bool true) ∧ Below w.heap.size w w' := by
  go_enter Try.func8, Try.ntmps8
  go_wp2_with fail
  refine (make_nil _).mono fun e w1 hh => ?_
  obtain ⟨rfl, rfl⟩ := hh
  go_wp2_with fail
  refine (do_nil _).mono fun e w1 hh => ?_
  obtain ⟨rfl, rfl⟩ := hh
  go_wp2_with fail
  refine (shut_nil _).mono fun e w1 hh => ?_
  obtain ⟨rfl, hc1⟩ := hh
  have H1 := Lib.hid hc1
  clear hc1
  go_wp2_with fail
  refine (ready_nil _).mono fun e w2 hh => ?_
  obtain ⟨rfl, rfl⟩ := hh
  go_wp2_with fail
  refine (buffer_nil _).mono fun e w2 hh => ?_
  obtain ⟨rfl, rfl⟩ := hh
  go_wp2_with fail
  refine (hanswers_any _).mono fun e w3 hh => ?_
  obtain ⟨rfl, hc3⟩ := hh
  have H3 := Lib.hid (H1.out.trans hc3)
  clear hc3
  go_wp2_with fail
  refine (drop_nil _).mono fun e w2 hh => ?_
  obtain ⟨rfl, rfl⟩ := hh
  go_wp2_with fail
  refine (waiting_nil _).mono fun e w2 hh => ?_
  obtain ⟨rfl, rfl⟩ := hh
  go_wp2_with fail
  refine (copy_nil _).mono fun e w2 hh => ?_
  obtain ⟨rfl, rfl⟩ := hh
  go_wp2
  go_ret
  exact ⟨rfl, H3.out.below (fun _ _ h => h.elim) (Nat.le_refl _)⟩
end Go.Proofs.Ytclllnoohoonoaa
