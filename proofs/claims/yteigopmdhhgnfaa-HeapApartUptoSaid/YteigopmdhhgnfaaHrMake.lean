/-
  Make of the reference's heap; New of the program's, refused.
-/
import Derived.Test.YteigopmdhhgnfaaHrPut
namespace Go.Proofs.Yteigopmdhhgnfaa
open Go.RowKit
set_option linter.unusedVariables false
set_option linter.unusedSimpArgs false

theorem good_nil : GoodO [] := ⟨List.Pairwise.nil, fun o h => (by cases h), fun o h => (by cases h), fun o h => (by cases h), fun o h => (by cases h), fun o h => (by cases h)⟩
theorem robjs_nil (F : Nat → Prop) (w : World) : RObjs F w none 0 [] :=
  ⟨[], World.ownsRow_nil _ _ _ _, rfl, fun cs h => (by cases h), fun k x cs h => (by simp at h), fun i j ci cj g h => (by simp at h), fun g h => (OwnB.none_ h).elim⟩
set_option maxRecDepth 100000 in
theorem rmake_any (w : World) (c : Nat) (hc : c ≤ 65536) : Calls Try.prog 26 #[.int .i64 (c : Int)] w fun e w' => e = .returned (.tuple #[.pointer (some ⟨w.heap.size, 0, none⟩), .int .i64 0]) ∧ RhI (fun b => b = w.heap.size) w' w.heap.size none 0 [] c ∧ Chg (fun _ _ => False) w w' := by
  have hb := Blk.new w 42 #[.slice none 0 0, .int .i64 (c : Int)]
  have hch := chg_alloc w (.cells #[.slice none 0 0, .int .i64 (c : Int)] 42)
  have q1 : ¬ (c : Int) < 0 := by omega
  have q2 : ¬ (65536 : Int) < (c : Int) := by omega
  have q3 : decide (c > 65536) = false := decide_eq_false (by omega)
  have q4 : decide (65536 < c) = false := decide_eq_false (by omega)
  have HB := Lib.hid (And.intro hb (And.intro hch hc))
  clear hb hch hc
  go_enter Try.func26, Try.ntmps26
  go_wp2_with fail
  go_ret2
  exact ⟨rfl, ⟨HB.out.1, robjs_nil _ _, rfl, fun b hb => by subst hb; exact HB.out.1.lt, good_nil, Nat.zero_le _, HB.out.2.2⟩, HB.out.2.1⟩
set_option maxRecDepth 100000 in
theorem rmake_bad (w : World) (c : Int) (hc : c < 0 ∨ 65536 < c) : Calls Try.prog 26 #[.int .i64 c] w fun e w' => e = .returned (.tuple #[.pointer none, .int .i64 2]) ∧ Chg (fun _ _ => False) w w' := by
  rcases hc with hc | hc
  · go_enter Try.func26, Try.ntmps26
    go_wp2_with fail
    go_ret2
    exact ⟨rfl, Chg.refl _ _⟩
  · have h0 : ¬ c < 0 := by omega
    go_enter Try.func26, Try.ntmps26
    go_wp2_with fail
    go_ret2
    exact ⟨rfl, Chg.refl _ _⟩
set_option maxRecDepth 100000 in
theorem hnew_bad (w : World) (c : Int) (hc : c < 0 ∨ 65536 < c) : Calls Try.prog 25 #[.int .i64 c] w fun e w' => e = .returned (.tuple #[.pointer none, .int .i64 2]) ∧ Chg (fun _ _ => False) w w' := by
  rcases hc with hc | hc
  · go_enter Try.func25, Try.ntmps25
    go_wp2_with fail
    go_ret2
    exact ⟨rfl, Chg.refl _ _⟩
  · have h0 : ¬ c < 0 := by omega
    go_enter Try.func25, Try.ntmps25
    go_wp2_with fail
    go_ret2
    exact ⟨rfl, Chg.refl _ _⟩
/-- A new heap of the program's holds nothing. -/
theorem HpI.fresh {w : World} {b p c : Nat} (hm : IMap w b 0 0 fun _ => none) (hb : Blk w p 75 #[.map (some b), .int .i64 (c : Int), .int .i64 0, .int .i64 1]) (hc : c ≤ 65536) (bo : Nat → Nat) (A : Nat → Option Addr) (cc : Nat → Nat) : HpI (fun q => q = b ∨ q = p) w p b 0 0 bo A cc [] c 1 :=
  ⟨hb, hm.ext fun s _ => rfl, fun o h => (by cases h), fun o h => (by cases h), ⟨.inr rfl, .inl rfl⟩, fun q h => by rcases h with rfl | rfl; exact hm.lt; exact hb.lt, good_nil, ⟨Nat.le_refl _, fun i h1 h2 => by omega⟩, ⟨Nat.zero_le _, hc⟩⟩
end Go.Proofs.Yteigopmdhhgnfaa
