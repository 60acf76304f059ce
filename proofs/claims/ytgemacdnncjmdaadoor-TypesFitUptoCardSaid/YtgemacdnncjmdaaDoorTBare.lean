/-
  ref02.bare at the five ways in which it is called.
-/
import Derived.Test.YtgemacdnncjmdaaDoorTName2
namespace Go.Proofs.YtgemacdnncjmdaaDoor
open Go.RowKit
set_option linter.unusedVariables false
set_option linter.unusedSimpArgs false

theorem len0 {α : Type} (l : List α) : (((l.length : Nat) : Int) == 0) = l.isEmpty := by
  cases l with
  | nil => rfl
  | cons x l =>
    simp only [List.length_cons, List.isEmpty_cons, beq_eq_false_iff_ne]
    omega
theorem dec_nil {α : Type} (l : List α) [Decidable (l = [])] : decide (l = []) = l.isEmpty := by
  cases l <;> simp
theorem name_empty (t : Ty) : (t.name = ByteArray.empty) ↔ t.name.toList = [] := by
  constructor
  · intro h
    have h2 : t.name = ⟨#[]⟩ := h
    exact List.isEmpty_iff.1 (strE_true h2)
  · intro h
    have h2 := strE_true (s := ⟨#[]⟩) rfl
    exact str_inj (h.trans (List.isEmpty_iff.1 h2).symm)
set_option maxRecDepth 100000 in
set_option maxHeartbeats 1000000 in
theorem bareS (t : Ty) (Af : Option Addr) (cf : Nat) (Al : Option Addr) (cl : Nat) (Ar : Option Addr) (cr : Nat) (w : World) :
    Calls Tryd.prog 79 #[.agg #[.int .i64 t.kind, .string t.name, .int .i64 t.con, .slice Af t.fields.length cf, .slice Al t.list.length cl, .slice Ar t.res.length cr], .bool true, .bool false, .bool true, .bool false, .bool false] w
      fun e w' => e = .returned (.bool (bare t true false true false false)) ∧ Chg (fun _ _ => False) w w' := by
  have hn := Lib.hid (name_empty t)
  go_enter Tryd.func79, Tryd.ntmps79
  go_wp2_with fail
  all_goals
    go_ret
    refine ⟨?_, chg_alloc _ _⟩
    have hn := hn.out
    simp_all [bare, len0, dec_nil]
set_option maxRecDepth 100000 in
set_option maxHeartbeats 1000000 in
theorem bareL (t : Ty) (Af : Option Addr) (cf : Nat) (Al : Option Addr) (cl : Nat) (Ar : Option Addr) (cr : Nat) (w : World) :
    Calls Tryd.prog 79 #[.agg #[.int .i64 t.kind, .string t.name, .int .i64 t.con, .slice Af t.fields.length cf, .slice Al t.list.length cl, .slice Ar t.res.length cr], .bool false, .bool false, .bool false, .bool true, .bool false] w
      fun e w' => e = .returned (.bool (bare t false false false true false)) ∧ Chg (fun _ _ => False) w w' := by
  have hn := Lib.hid (name_empty t)
  go_enter Tryd.func79, Tryd.ntmps79
  go_wp2_with fail
  all_goals
    go_ret
    refine ⟨?_, chg_alloc _ _⟩
    have hn := hn.out
    simp_all [bare, len0, dec_nil]
set_option maxRecDepth 100000 in
set_option maxHeartbeats 1000000 in
theorem bareF (t : Ty) (Af : Option Addr) (cf : Nat) (Al : Option Addr) (cl : Nat) (Ar : Option Addr) (cr : Nat) (w : World) :
    Calls Tryd.prog 79 #[.agg #[.int .i64 t.kind, .string t.name, .int .i64 t.con, .slice Af t.fields.length cf, .slice Al t.list.length cl, .slice Ar t.res.length cr], .bool false, .bool false, .bool false, .bool true, .bool true] w
      fun e w' => e = .returned (.bool (bare t false false false true true)) ∧ Chg (fun _ _ => False) w w' := by
  have hn := Lib.hid (name_empty t)
  go_enter Tryd.func79, Tryd.ntmps79
  go_wp2_with fail
  all_goals
    go_ret
    refine ⟨?_, chg_alloc _ _⟩
    have hn := hn.out
    simp_all [bare, len0, dec_nil]
set_option maxRecDepth 100000 in
set_option maxHeartbeats 1000000 in
theorem bareP (t : Ty) (Af : Option Addr) (cf : Nat) (Al : Option Addr) (cl : Nat) (Ar : Option Addr) (cr : Nat) (w : World) :
    Calls Tryd.prog 79 #[.agg #[.int .i64 t.kind, .string t.name, .int .i64 t.con, .slice Af t.fields.length cf, .slice Al t.list.length cl, .slice Ar t.res.length cr], .bool true, .bool true, .bool false, .bool false, .bool false] w
      fun e w' => e = .returned (.bool (bare t true true false false false)) ∧ Chg (fun _ _ => False) w w' := by
  have hn := Lib.hid (name_empty t)
  go_enter Tryd.func79, Tryd.ntmps79
  go_wp2_with fail
  all_goals
    go_ret
    refine ⟨?_, chg_alloc _ _⟩
    have hn := hn.out
    simp_all [bare, len0, dec_nil]
set_option maxRecDepth 100000 in
set_option maxHeartbeats 1000000 in
theorem bareN (t : Ty) (Af : Option Addr) (cf : Nat) (Al : Option Addr) (cl : Nat) (Ar : Option Addr) (cr : Nat) (w : World) :
    Calls Tryd.prog 79 #[.agg #[.int .i64 t.kind, .string t.name, .int .i64 t.con, .slice Af t.fields.length cf, .slice Al t.list.length cl, .slice Ar t.res.length cr], .bool false, .bool false, .bool false, .bool false, .bool false] w
      fun e w' => e = .returned (.bool (bare t false false false false false)) ∧ Chg (fun _ _ => False) w w' := by
  have hn := Lib.hid (name_empty t)
  go_enter Tryd.func79, Tryd.ntmps79
  go_wp2_with fail
  all_goals
    go_ret
    refine ⟨?_, chg_alloc _ _⟩
    have hn := hn.out
    simp_all [bare, len0, dec_nil]
end Go.Proofs.YtgemacdnncjmdaaDoor
