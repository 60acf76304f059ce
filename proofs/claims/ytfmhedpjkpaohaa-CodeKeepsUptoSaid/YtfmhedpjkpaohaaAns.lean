/-
  What the statements ask first: that the program answers at all (answers).
-/
import Derived.Test.YtfmhedpjkpaohaaOwn
namespace Go.Proofs.Ytfmhedpjkpaohaa
open Go.RowKit
set_option linter.unusedVariables false
set_option linter.unusedSimpArgs false

theorem cell2_new (w : World) (t : TypeId) (a b : Value) : (w.alloc (.cells #[a, b] t)).cell? ⟨w.heap.size, 0, none⟩ = some a ∧ (w.alloc (.cells #[a, b] t)).cell? ⟨w.heap.size, 1, none⟩ = some b := (Blk.new w t #[a, b]).cells2
set_option maxRecDepth 100000 in
theorem measure_nil (w : World) :
   Calls Try.prog 28 #[.agg #[.slice none 0 0, .slice none 0 0]] w fun e w' => e = .returned (.tuple #[.slice none 0 0, .bool true]) ∧ Below w.heap.size w w' := by
  have hmm := @run_makeMap Try.prog
  go_enter Try.func28, Try.ntmps28
  go_wp2_with fail
  go_loopw [4, 13] (fun v i wr => v = .slice none 0 0 ∧ i = .int .i64 0 ∧ wr = (w.alloc (.cells #[.slice none 0 0, .slice none 0 0] 25)).alloc (.map #[] 0)) (fun _ _ _ => 0)
  case atStart => exact ⟨rfl, rfl, rfl⟩
  case round =>
    obtain ⟨rfl, rfl, rfl⟩ := hrel
    go_wp2_with fail
    go_quiet (fail)
    go_wp2
    go_ret2
    refine ⟨rfl, ?_⟩
    exact below_drewN (((Below.refl _ _).alloc (Nat.le_refl _) _).alloc (by simp) _) _
set_option maxRecDepth 100000 in
theorem check_nil (w : World) :
   Calls Try.prog 15 #[.agg #[.slice none 0 0, .slice none 0 0]] w fun e w' => e = .returned (.int .i64 1) ∧ Below w.heap.size w w' := by
  go_enter Try.func15, Try.ntmps15
  go_wp2_with fail
  refine (measure_nil _).mono fun e w1 h => ?_
  obtain ⟨rfl, hb⟩ := h
  have hb1 := (Chg.of_below hb (fun _ _ => False)).blk (Blk.new w 25 #[.slice none 0 0, .slice none 0 0]) id
  obtain ⟨c0, c1⟩ := hb1.cells2
  have hbb := ((Below.refl w.heap.size w).alloc (Nat.le_refl _) (.cells #[.slice none 0 0, .slice none 0 0] 25)).trans (hb.mono (by simp))
  clear hb hb1
  go_wp2_with fail
  go_loopw [4, 5, 18] (fun v z i wr => v = .bool true ∧ z = .int .i64 0 ∧ i = .int .i64 0 ∧ wr = w1) (fun _ _ _ _ => 0)
  case atStart => exact ⟨rfl, rfl, rfl, rfl⟩
  case round =>
    obtain ⟨rfl, rfl, rfl, rfl⟩ := hrel
    go_wp2_with fail
    go_ret
    exact ⟨rfl, hbb⟩

def ansMod : ModD := ⟨[⟨1, [], 0⟩], []⟩
theorem ansMod_enc : encAns ansMod = (0, [1, 1, 0, 0, 0]) := by
  have h1 : encN 1 = [1] := encN_lt (by omega)
  have h0 : encN 0 = [0] := encN_lt (by omega)
  have h : encMod ansMod = some [1, 1, 0, 0, 0] := by simp [encMod, ansMod, encL, allO, encShape, encI, seqO, h1, h0]
  unfold encAns
  rw [h]
  rfl
theorem ansMod_rep (w : World) : ModR (w.heap.size + 1) (w.alloc (.cells #[.int .i64 1, .slice none 0 0, .int .i64 0] 41)) (.agg #[.slice (some ⟨w.heap.size, 0, none⟩) 1 1, .slice none 0 0]) ansMod := by
  obtain ⟨c0, c1, c2⟩ := (Blk.new w 41 #[.int .i64 1, .slice none 0 0, .int .i64 0]).cells3
  refine ⟨some ⟨w.heap.size, 0, none⟩, 1, none, 0, rfl, ⟨_, 1, rfl, Nat.le_refl _, fun _ => ⟨w.heap.size, 0, rfl, .inl (by omega), by simp, fun k x hx => ?_⟩⟩, SlR.nil _ _ _ _ _ _ _⟩
  match k, hx with
  | 0, hx =>
    simp [ansMod] at hx
    subst hx
    refine ⟨[.int .i64 1, .slice none 0 0, .int .i64 0], rfl, ⟨none, 0, rfl, by unfold I64; simp, by unfold I64; simp, SlR.nil _ _ _ _ _ _ _⟩, fun j u hu => ?_⟩
    match j, hu with
    | 0, hu => simp at hu; subst hu; simp [c0]
    | 1, hu => simp at hu; subst hu; simp [c1]
    | 2, hu => simp at hu; subst hu; simp [c2]
  | k + 1, hx => simp [ansMod] at hx
set_option maxRecDepth 100000 in
theorem answers_any (w : World) : Calls Try.prog 13 #[] w fun e w' => e = .returned (.bool true) ∧ Below w.heap.size w w' := by
  have hrep := ansMod_rep w
  have hb0 := (Below.refl w.heap.size w).alloc (Nat.le_refl _) (.cells #[.int .i64 1, .slice none 0 0, .int .i64 0] 41)
  go_enter Try.func13, Try.ntmps13
  go_wp2_with fail
  refine (encode_any _ _ _ ansMod (by simp) hrep (by simp [cMod, ansMod, cShape, cInts])).mono fun e w1 h => ?_
  obtain ⟨A, n, c, rfl, hb1, how, hlen⟩ := h
  rw [ansMod_enc] at *
  simp only [List.length_cons, List.length_nil] at hlen
  obtain rfl : n = 5 := by omega
  have hb := hb0.trans (hb1.mono (by simp))
  clear hrep hb0 hb1 how hlen
  go_wp2_with fail
  refine (check_nil _).mono fun e w2 h => ?_
  obtain ⟨rfl, hb2⟩ := h
  have hbe := hb.trans (hb2.mono hb.size)
  go_wp2_with fail
  go_ret
  exact ⟨rfl, hbe⟩
end Go.Proofs.Ytfmhedpjkpaohaa
