/-
  What a program that does nothing does not answer: trees.
-/
import Derived.Test.YtgaodjoddfjfmaaDoorNMeas
namespace Go.Proofs.YtgaodjoddfjfmaaDoor
open Go.RowKit
set_option linter.unusedVariables false
set_option linter.unusedSimpArgs false

set_option maxRecDepth 100000 in
theorem ntext31 (w : World) (n : Nat) : Calls Tryd.prog 47 #[.agg #[.int .i64 31, .string ⟨#[]⟩, .int .u64 n, .int .i64 0, .slice none 0 0]] w fun e w' => e = .returned (.bool true) ∧ Chg (fun _ _ => False) w w' := by
  have hc1 := chg_alloc w (.cells #[.int .i64 31, .string ⟨#[]⟩, .int .u64 n, .int .i64 0, .slice none 0 0] 25)
  go_enter Tryd.func47, Tryd.ntmps47
  go_wp2_with fail
  go_ret
  exact ⟨rfl, hc1⟩
set_option maxRecDepth 100000 in
theorem nnumber31 (w : World) (n : Nat) : Calls Tryd.prog 48 #[.agg #[.int .i64 31, .string ⟨#[]⟩, .int .u64 n, .int .i64 0, .slice none 0 0]] w fun e w' => e = .returned (.bool true) ∧ Chg (fun _ _ => False) w w' := by
  have hc1 := chg_alloc w (.cells #[.int .i64 31, .string ⟨#[]⟩, .int .u64 n, .int .i64 0, .slice none 0 0] 25)
  go_enter Tryd.func48, Tryd.ntmps48
  go_wp2_with fail
  go_ret
  exact ⟨rfl, hc1⟩
set_option maxRecDepth 100000 in
theorem nlist31 (w : World) (n : Nat) : Calls Tryd.prog 49 #[.agg #[.int .i64 31, .string ⟨#[]⟩, .int .u64 n, .int .i64 0, .slice none 0 0]] w fun e w' => e = .returned (.bool true) ∧ Chg (fun _ _ => False) w w' := by
  have hc1 := chg_alloc w (.cells #[.int .i64 31, .string ⟨#[]⟩, .int .u64 n, .int .i64 0, .slice none 0 0] 25)
  go_enter Tryd.func49, Tryd.ntmps49
  go_wp2_with fail
  go_ret
  exact ⟨rfl, hc1⟩
set_option maxRecDepth 100000 in
theorem isStmt31 (w : World) : Calls Tryd.prog 32 #[.int .i64 31] w fun e w' => e = .returned (.bool false) ∧ Chg (fun _ _ => False) w w' := by
  go_enter Tryd.func32, Tryd.ntmps32
  go_wp2_with fail
  go_ret
  exact ⟨rfl, Chg.refl _ _⟩
set_option maxRecDepth 100000 in
theorem isExpr31 (w : World) : Calls Tryd.prog 33 #[.int .i64 31] w fun e w' => e = .returned (.bool true) ∧ Chg (fun _ _ => False) w w' := by
  go_enter Tryd.func33, Tryd.ntmps33
  go_wp2_with fail
  go_ret
  exact ⟨rfl, Chg.refl _ _⟩
set_option maxRecDepth 100000 in
theorem idxN0 (w : World) (f : Value) : Calls Tryd.prog 64 #[.slice none 0 0, f] w fun e w' => e = .returned (.int .i64 (-1)) ∧ Chg (fun _ _ => False) w w' := by
  go_enter Tryd.func64, Tryd.ntmps64
  go_wp2_with fail
  go_loopw [8] (fun i wr => i = .int .i64 0 ∧ Chg (fun _ _ => False) w wr) (fun i _ => 0)
  case atStart => exact ⟨rfl, Chg.refl _ _⟩
  case round =>
    obtain ⟨rfl, hch⟩ := hrel
    go_wp2_with fail
    go_ret
    exact ⟨rfl, hch⟩
set_option maxRecDepth 100000 in
theorem contN0 (w : World) (f : Value) : Calls Tryd.prog 50 #[.slice none 0 0, f] w fun e w' => e = .returned (.bool false) ∧ Chg (fun _ _ => False) w w' := by
  have hcall := idxN0 w f
  go_enter Tryd.func50, Tryd.ntmps50
  go_wp2_with fail
  refine hcall.mono fun e w1 h => ?_
  obtain ⟨rfl, hc1⟩ := h
  go_wp2_with fail
  go_ret
  exact ⟨rfl, hc1⟩
set_option maxRecDepth 100000 in
theorem good31 (w : World) (n : Nat) : Calls Tryd.prog 41 #[.agg #[.int .i64 31, .string ⟨#[]⟩, .int .u64 n, .int .i64 0, .slice none 0 0], .int .i64 0] w fun e w' => e = .returned (.bool true) ∧ Chg (fun _ _ => False) w w' := by
  have hb1 := (Blk.new w 25 #[.int .i64 31, .string ⟨#[]⟩, .int .u64 n, .int .i64 0, .slice none 0 0]).alloc (.cells #[.int .i64 0] 3)
  have hb2 := Blk.new (w.alloc (.cells #[.int .i64 31, .string ⟨#[]⟩, .int .u64 n, .int .i64 0, .slice none 0 0] 25)) 3 #[.int .i64 0]
  have hc1 := (chg_alloc w (.cells #[.int .i64 31, .string ⟨#[]⟩, .int .u64 n, .int .i64 0, .slice none 0 0] 25)).alloc (.cells #[.int .i64 0] 3)
  simp only [World.size_alloc] at hb2
  go_enter Tryd.func41, Tryd.ntmps41
  go_wp2_with fail
  generalize (w.alloc (.cells #[.int .i64 31, .string ⟨#[]⟩, .int .u64 n, .int .i64 0, .slice none 0 0] 25)).alloc (.cells #[.int .i64 0] 3) = W at hb1 hb2 hc1 ⊢
  generalize w.heap.size + 1 = g2 at hb2 ⊢
  generalize w.heap.size = g1 at hb1 ⊢
  refine (ntext31 W n).mono fun e w1 h => ?_
  obtain ⟨rfl, hc2⟩ := h
  have hb1 := hc2.blk hb1 id
  have hb2 := hc2.blk hb2 id
  obtain ⟨c0, c1, c2, c3, c4⟩ := hb1.cells5
  have d0 : w1.cell? ⟨g2, 0, none⟩ = some (.int .i64 0) := by simpa using hb2.cell 0
  go_wp2_with fail
  clear c0 c1 c2 c3 c4 d0
  refine (nnumber31 w1 n).mono fun e w2 h => ?_
  obtain ⟨rfl, hc3⟩ := h
  have hb1 := hc3.blk hb1 id
  have hb2 := hc3.blk hb2 id
  obtain ⟨c0, c1, c2, c3, c4⟩ := hb1.cells5
  have d0 : w2.cell? ⟨g2, 0, none⟩ = some (.int .i64 0) := by simpa using hb2.cell 0
  go_wp2_with fail
  clear c0 c1 c2 c3 c4 d0
  refine (nlist31 w2 n).mono fun e w3 h => ?_
  obtain ⟨rfl, hc4⟩ := h
  have hb1 := hc4.blk hb1 id
  have hb2 := hc4.blk hb2 id
  obtain ⟨c0, c1, c2, c3, c4⟩ := hb1.cells5
  have d0 : w3.cell? ⟨g2, 0, none⟩ = some (.int .i64 0) := by simpa using hb2.cell 0
  go_wp2_with fail
  clear c0 c1 c2 c3 c4 d0
  refine (contN0 w3 _).mono fun e w4 h => ?_
  obtain ⟨rfl, hc5⟩ := h
  go_wp2_with fail
  go_ret
  exact ⟨rfl, (((hc1.trans hc2).trans hc3).trans hc4).trans hc5⟩
theorem nd31 (w : World) (n : Nat) (hn : U64 n) : NdR 1 w.heap.size w (ndCells (Nd.mk 31 ⟨#[]⟩ n 0 []).kind (Nd.mk 31 ⟨#[]⟩ n 0 []).text (Nd.mk 31 ⟨#[]⟩ n 0 []).n (Nd.mk 31 ⟨#[]⟩ n 0 []).at_ none (Nd.mk 31 ⟨#[]⟩ n 0 []).list.length 0) (.mk 31 ⟨#[]⟩ n 0 []) :=
  ⟨⟨by simp [Nd.kind, I64], by simp [Nd.at_, I64], hn, by show ByteArray.size ⟨#[]⟩ ≤ _; decide, by simp [Nd.list]⟩, none, 0, rfl, SlR.nil _ _ _ _ _ _ _⟩
theorem size31 (w : World) (n : Nat) (hn : U64 n) : Calls Tryd.prog 18 #[.agg #[.int .i64 31, .string ⟨#[]⟩, .int .u64 n, .int .i64 0, .slice none 0 0]] w fun e w' => e = .returned (.int .i64 1) ∧ Chg (fun _ _ => False) w w' :=
  (nsize_any 1 w.heap.size w (.mk 31 ⟨#[]⟩ n 0 []) none 0 (Nat.le_refl _) (nd31 w n hn) (by simp [size_eq, Nd.list, sizeL])).mono fun e w' h => ⟨by rw [h.1]; simp [size_eq, Nd.list, sizeL], h.2⟩
set_option maxRecDepth 100000 in
theorem sound31 (w : World) (n : Nat) (hn : U64 n) : Calls Tryd.prog 31 #[.agg #[.int .i64 31, .string ⟨#[]⟩, .int .u64 n, .int .i64 0, .slice none 0 0]] w fun e w' => e = .returned (.bool true) ∧ Chg (fun _ _ => False) w w' := by
  have hb1 := Blk.new w 25 #[.int .i64 31, .string ⟨#[]⟩, .int .u64 n, .int .i64 0, .slice none 0 0]
  have hc1 := chg_alloc w (.cells #[.int .i64 31, .string ⟨#[]⟩, .int .u64 n, .int .i64 0, .slice none 0 0] 25)
  go_enter Tryd.func31, Tryd.ntmps31
  go_wp2_with fail
  generalize w.alloc (.cells #[.int .i64 31, .string ⟨#[]⟩, .int .u64 n, .int .i64 0, .slice none 0 0] 25) = W at hb1 hc1 ⊢
  generalize w.heap.size = g1 at hb1 ⊢
  refine (good31 W n).mono fun e w1 h => ?_
  obtain ⟨rfl, hc2⟩ := h
  have hb1 := hc2.blk hb1 id
  obtain ⟨c0, c1, c2, c3, c4⟩ := hb1.cells5
  go_wp2_with fail
  clear c0 c1 c2 c3 c4
  refine (size31 w1 n hn).mono fun e w2 h => ?_
  obtain ⟨rfl, hc3⟩ := h
  go_wp2_with fail
  go_ret
  exact ⟨rfl, (hc1.trans hc2).trans hc3⟩
set_option maxRecDepth 100000 in
theorem nSound31_1 (w : World) (n : Nat) : Calls Tryd.prog 17 #[.agg #[.int .i64 31, .string ⟨#[]⟩, .int .u64 n, .int .i64 0, .slice none 0 0], .int .i64 1] w fun e w' => e = .returned (.int .i64 1) ∧ Chg (fun _ _ => False) w w' := by
  have hc1 := chg_alloc w (.cells #[.int .i64 31, .string ⟨#[]⟩, .int .u64 n, .int .i64 0, .slice none 0 0] 25)
  go_enter Tryd.func17, Tryd.ntmps17
  go_wp2_with fail
  refine (isStmt31 _).mono fun e w1 h => ?_
  obtain ⟨rfl, hc2⟩ := h
  go_wp2_with fail
  go_ret
  exact ⟨rfl, hc1.trans hc2⟩
set_option maxRecDepth 100000 in
theorem nSound31_2 (w : World) (n : Nat) (hn : U64 n) : Calls Tryd.prog 17 #[.agg #[.int .i64 31, .string ⟨#[]⟩, .int .u64 n, .int .i64 0, .slice none 0 0], .int .i64 2] w fun e w' => e = .returned (.int .i64 0) ∧ Chg (fun _ _ => False) w w' := by
  have hb1 := Blk.new w 25 #[.int .i64 31, .string ⟨#[]⟩, .int .u64 n, .int .i64 0, .slice none 0 0]
  have hc1 := chg_alloc w (.cells #[.int .i64 31, .string ⟨#[]⟩, .int .u64 n, .int .i64 0, .slice none 0 0] 25)
  go_enter Tryd.func17, Tryd.ntmps17
  go_wp2_with fail
  generalize w.alloc (.cells #[.int .i64 31, .string ⟨#[]⟩, .int .u64 n, .int .i64 0, .slice none 0 0] 25) = W at hb1 hc1 ⊢
  generalize w.heap.size = g1 at hb1 ⊢
  refine (isExpr31 W).mono fun e w1 h => ?_
  obtain ⟨rfl, hc2⟩ := h
  have hb1 := hc2.blk hb1 id
  obtain ⟨c0, c1, c2, c3, c4⟩ := hb1.cells5
  go_wp2_with fail
  clear c0 c1 c2 c3 c4
  refine (sound31 w1 n hn).mono fun e w2 h => ?_
  obtain ⟨rfl, hc3⟩ := h
  go_wp2_with fail
  go_ret
  exact ⟨rfl, (hc1.trans hc2).trans hc3⟩
set_option maxRecDepth 100000 in
theorem answers4_any (w : World) : Calls Tryd.prog 11 #[] w fun e w' => e = .returned (.bool true) ∧ Chg (fun _ _ => False) w w' := by
  go_enter Tryd.func11, Tryd.ntmps11
  go_wp2_with fail
  refine (size31 _ 0 (by unfold U64; omega)).mono fun e w1 h => ?_
  obtain ⟨rfl, hc1⟩ := h
  go_wp2_with fail
  refine (nSound31_1 _ 5).mono fun e w2 h => ?_
  obtain ⟨rfl, hc2⟩ := h
  go_wp2_with fail
  refine (nSound31_2 _ 5 (by unfold U64; omega)).mono fun e w3 h => ?_
  obtain ⟨rfl, hc3⟩ := h
  go_wp2_with fail
  go_ret
  exact ⟨rfl, (hc1.trans hc2).trans hc3⟩
end Go.Proofs.YtgaodjoddfjfmaaDoor
