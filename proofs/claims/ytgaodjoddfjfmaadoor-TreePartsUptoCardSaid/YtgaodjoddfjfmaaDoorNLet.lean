/-
  Letters: ref02.Letter, types.Letter, types.Digit.
-/
import Derived.Test.YtgaodjoddfjfmaaDoorNNm
import Derived.Test.YtgaodjoddfjfmaaDoorNdR
import Derived.Test.YtgaodjoddfjfmaaDoorTShelf
namespace Go.Proofs.YtgaodjoddfjfmaaDoor
open Go.RowKit
set_option linter.unusedVariables false
set_option linter.unusedSimpArgs false

set_option maxRecDepth 100000 in
set_option maxHeartbeats 1000000 in
theorem rletter_any (r : Nat) (w : World) : Calls Tryd.prog 65 #[.int .i32 r] w fun e w' => e = .returned (.bool (letterB r)) ∧ w' = w := by
  by_cases h1 : 65 ≤ (r : Int) <;> by_cases h2 : (r : Int) ≤ 90 <;> by_cases h3 : 97 ≤ (r : Int) <;> by_cases h4 : (r : Int) ≤ 122 <;> by_cases h5 : (r : Int) = 95 <;> by_cases h6 : 192 ≤ (r : Int) <;> by_cases h7 : (r : Int) ≤ 591 <;> by_cases h8 : (r : Int) = 215 <;> by_cases h9 : (r : Int) = 247 <;> try omega
  all_goals
    go_enter Tryd.func65, Tryd.ntmps65
    go_wp2
    go_ret
    refine ⟨?_, rfl⟩
    unfold letterB
    first
      | rw [decide_eq_true (by omega)]
      | rw [decide_eq_false (by omega)]
    first
      | rfl
      | simp [h5, h8, h9]
set_option maxRecDepth 100000 in
set_option maxHeartbeats 1000000 in
theorem letter_any (r : Nat) (w : World) : Calls Tryd.prog 76 #[.int .i32 r] w fun e w' => e = .returned (.bool (letterB r)) ∧ w' = w := by
  by_cases h1 : 65 ≤ (r : Int) <;> by_cases h2 : (r : Int) ≤ 90 <;> by_cases h3 : 97 ≤ (r : Int) <;> by_cases h4 : (r : Int) ≤ 122 <;> by_cases h5 : (r : Int) = 95 <;> by_cases h6 : 192 ≤ (r : Int) <;> by_cases h7 : (r : Int) ≤ 591 <;> by_cases h8 : (r : Int) = 215 <;> by_cases h9 : (r : Int) = 247 <;> try omega
  all_goals
    go_enter Tryd.func76, Tryd.ntmps76
    go_wp2
    go_ret
    refine ⟨?_, rfl⟩
    unfold letterB
    first
      | rw [decide_eq_true (by omega)]
      | rw [decide_eq_false (by omega)]
    first
      | rfl
      | simp [h5, h8, h9]
set_option maxRecDepth 100000 in
theorem digit_any (r : Nat) (w : World) : Calls Tryd.prog 77 #[.int .i32 r] w fun e w' => e = .returned (.bool (digitB r)) ∧ w' = w := by
  by_cases h1 : 48 ≤ (r : Int) <;> by_cases h2 : (r : Int) ≤ 57 <;> try omega
  all_goals
    go_enter Tryd.func77, Tryd.ntmps77
    go_wp2
    go_ret
    refine ⟨?_, rfl⟩
    unfold digitB
    first
      | rw [decide_eq_true (by omega)]
      | rw [decide_eq_false (by omega)]
    first
      | rfl
      | simp [h1, h2]
end Go.Proofs.YtgaodjoddfjfmaaDoor
