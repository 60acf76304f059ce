/-
  tree.Binds, the reference's Strength: how strong an operator of two binds.
-/
import Derived.Test.YtgaodjoddfjfmaaDoorNWord2
namespace Go.Proofs.YtgaodjoddfjfmaaDoor
open Go.RowKit
set_option linter.unusedVariables false
set_option linter.unusedSimpArgs false

def opsL : Nat → List ByteArray
  | 0 => [⟨#[42]⟩, ⟨#[47]⟩, ⟨#[37]⟩, ⟨#[60, 60]⟩, ⟨#[62, 62]⟩, ⟨#[38]⟩, ⟨#[38, 94]⟩]
  | 1 => [⟨#[43]⟩, ⟨#[45]⟩, ⟨#[124]⟩, ⟨#[94]⟩]
  | 2 => [⟨#[61, 61]⟩, ⟨#[33, 61]⟩, ⟨#[60]⟩, ⟨#[60, 61]⟩, ⟨#[62]⟩, ⟨#[62, 61]⟩]
  | 3 => [⟨#[38, 38]⟩]
  | 4 => [⟨#[124, 124]⟩]
  | _ => []
def bindsB (s : ByteArray) : Int := if Lib.containsS (opsL 0) s then 5 else if Lib.containsS (opsL 1) s then 4 else if Lib.containsS (opsL 2) s then 3 else if Lib.containsS (opsL 3) s then 2 else if Lib.containsS (opsL 4) s then 1 else 0
def notTo (s : ByteArray) (k : Nat) : Prop := ∀ j, j < k → Lib.containsS (opsL j) s = false
theorem take_ops {k n : Nat} (h : n = (opsL k).length) : (opsL k).take n = opsL k := by rw [h, List.take_length]
theorem binds_at (k : Nat) (hk : k < 5) {n : Nat} {s : ByteArray} (h : notTo s k) (hc : Lib.containsS ((opsL k).take n) s = true) (hn : n = (opsL k).length := by rfl) : bindsB s = 5 - (k : Int) := by
  rw [take_ops hn] at hc
  unfold bindsB
  match k, hk with
  | 0, _ => rw [if_pos hc]; rfl
  | 1, _ => rw [h 0 (by omega), if_neg (by simp), if_pos hc]; rfl
  | 2, _ => rw [h 0 (by omega), h 1 (by omega), if_neg (by simp), if_neg (by simp), if_pos hc]; rfl
  | 3, _ => rw [h 0 (by omega), h 1 (by omega), h 2 (by omega), if_neg (by simp), if_neg (by simp), if_neg (by simp), if_pos hc]; rfl
  | 4, _ => rw [h 0 (by omega), h 1 (by omega), h 2 (by omega), h 3 (by omega), if_neg (by simp), if_neg (by simp), if_neg (by simp), if_neg (by simp), if_pos hc]; rfl
theorem binds_next (k : Nat) (hk : k < 5) {n : Nat} {s : ByteArray} (h : notTo s k) (hc : Lib.containsS ((opsL k).take n) s = false) (hn : n = (opsL k).length := by rfl) : notTo s (k + 1) := by
  rw [take_ops hn] at hc
  intro j hj
  by_cases hjk : j = k
  · subst hjk; exact hc
  · exact h j (by omega)
theorem binds_zero {s : ByteArray} (h : notTo s 5) : bindsB s = 0 := by
  unfold bindsB
  rw [h 0 (by omega), h 1 (by omega), h 2 (by omega), h 3 (by omega), h 4 (by omega)]
  rfl
theorem binds_none {s : ByteArray} (h : ∀ i, i < 5 → s ∉ opsL i) : bindsB s = 0 := binds_zero fun j hj => by
  exact Bool.eq_false_iff.2 fun h' => h j hj ((Lib.containsS_iff _ _).1 h')
theorem binds_in {s : ByteArray} (k : Nat) (hk : k < 5) (h : s ∈ opsL k) (hn : ∀ j, j < k → s ∉ opsL j) : bindsB s = 5 - (k : Int) :=
  binds_at k hk (fun j hj => Bool.eq_false_iff.2 fun h' => hn j hj ((Lib.containsS_iff _ _).1 h')) (n := (opsL k).length) (by rw [List.take_length]; exact (Lib.containsS_iff _ _).2 h)
theorem lit_eq {s : ByteArray} {a : Array UInt8} (h : s = ⟨a⟩) : (s.toList == a.toList) = true := by subst h; rw [ByteArray.toList_eq]; simp
theorem lit_ne {s : ByteArray} {a : Array UInt8} (h : ¬ s = ⟨a⟩) : (s.toList == a.toList) = false := by
  simp only [beq_eq_false_iff_ne]
  intro h'
  exact h (str_inj (by rw [h', ByteArray.toList_eq]))
/-- The table of operators lies in its variable. -/
def OpsR (w : World) : Prop := ∃ g0 o0 c0 g1 o1 c1 g2 o2 c2 g3 o3 c3 g4 o4 c4, w.cell? ⟨0, 0, none⟩ = some (.slice (some ⟨g0, o0, none⟩) 7 c0) ∧ w.cell? ⟨0, 1, none⟩ = some (.slice (some ⟨g1, o1, none⟩) 4 c1) ∧ w.cell? ⟨0, 2, none⟩ = some (.slice (some ⟨g2, o2, none⟩) 6 c2) ∧ w.cell? ⟨0, 3, none⟩ = some (.slice (some ⟨g3, o3, none⟩) 1 c3) ∧ w.cell? ⟨0, 4, none⟩ = some (.slice (some ⟨g4, o4, none⟩) 1 c4) ∧
  (∀ j, j < (opsL 0).length → w.cell? ⟨g0, o0 + j, none⟩ = some (.string ((opsL 0).getD j ByteArray.empty))) ∧ (∀ j, j < (opsL 1).length → w.cell? ⟨g1, o1 + j, none⟩ = some (.string ((opsL 1).getD j ByteArray.empty))) ∧ (∀ j, j < (opsL 2).length → w.cell? ⟨g2, o2 + j, none⟩ = some (.string ((opsL 2).getD j ByteArray.empty))) ∧ (∀ j, j < (opsL 3).length → w.cell? ⟨g3, o3 + j, none⟩ = some (.string ((opsL 3).getD j ByteArray.empty))) ∧ (∀ j, j < (opsL 4).length → w.cell? ⟨g4, o4 + j, none⟩ = some (.string ((opsL 4).getD j ByteArray.empty)))
theorem OpsR.keep0 {w w' : World} (h : OpsR w) (hc : Chg (fun _ _ => False) w w') : OpsR w' := by
  obtain ⟨g0, o0, c0, g1, o1, c1, g2, o2, c2, g3, o3, c3, g4, o4, c4, h0, h1, h2, h3, h4, k0, k1, k2, k3, k4⟩ := h
  have f := fun {a : Addr} {v : Value} (h : w.cell? a = some v) => h
  exact ⟨g0, o0, c0, g1, o1, c1, g2, o2, c2, g3, o3, c3, g4, o4, c4, hc.cell h0 fun _ => id, hc.cell h1 fun _ => id, hc.cell h2 fun _ => id, hc.cell h3 fun _ => id, hc.cell h4 fun _ => id, fun j hj => hc.cell (k0 j hj) fun _ => id, fun j hj => hc.cell (k1 j hj) fun _ => id, fun j hj => hc.cell (k2 j hj) fun _ => id, fun j hj => hc.cell (k3 j hj) fun _ => id, fun j hj => hc.cell (k4 j hj) fun _ => id⟩
def bdRel (s : ByteArray) (W : World) (i : Value) (wr : World) : Prop := ∃ k : Nat, k ≤ 5 ∧ i = .int .i64 k ∧ notTo s k ∧ wr = W
set_option maxRecDepth 100000 in
set_option maxHeartbeats 2000000 in
theorem binds_any (s : ByteArray) (w : World) (hO : OpsR w) : Calls Tryd.prog 56 #[.string s] w fun e w' => e = .returned (.int .i64 (bindsB s)) ∧ Chg (fun _ _ => False) w w' := by
  obtain ⟨g0, o0, c0, g1, o1, c1, g2, o2, c2, g3, o3, c3, g4, o4, c4, h⟩ := hO
  obtain ⟨a0, a1, a2, a3, a4, _⟩ := id h
  have HO := Lib.hid h
  clear h
  have hix0 : ∀ w, (Instr.index 68 (.agg #[.slice (some ⟨g0, o0, none⟩) 7 c0, .slice (some ⟨g1, o1, none⟩) 4 c1, .slice (some ⟨g2, o2, none⟩) 6 c2, .slice (some ⟨g3, o3, none⟩) 1 c3, .slice (some ⟨g4, o4, none⟩) 1 c4]) (.int .i64 0)).run Tryd.prog w = .ok (.slice (some ⟨g0, o0, none⟩) 7 c0) w := fun w => by
    simp [Instr.index, run_underlying Tryd.underlying68, asIntOf, go_sem, part]
  have hix1 : ∀ w, (Instr.index 68 (.agg #[.slice (some ⟨g0, o0, none⟩) 7 c0, .slice (some ⟨g1, o1, none⟩) 4 c1, .slice (some ⟨g2, o2, none⟩) 6 c2, .slice (some ⟨g3, o3, none⟩) 1 c3, .slice (some ⟨g4, o4, none⟩) 1 c4]) (.int .i64 1)).run Tryd.prog w = .ok (.slice (some ⟨g1, o1, none⟩) 4 c1) w := fun w => by
    simp [Instr.index, run_underlying Tryd.underlying68, asIntOf, go_sem, part]
  have hix2 : ∀ w, (Instr.index 68 (.agg #[.slice (some ⟨g0, o0, none⟩) 7 c0, .slice (some ⟨g1, o1, none⟩) 4 c1, .slice (some ⟨g2, o2, none⟩) 6 c2, .slice (some ⟨g3, o3, none⟩) 1 c3, .slice (some ⟨g4, o4, none⟩) 1 c4]) (.int .i64 2)).run Tryd.prog w = .ok (.slice (some ⟨g2, o2, none⟩) 6 c2) w := fun w => by
    simp [Instr.index, run_underlying Tryd.underlying68, asIntOf, go_sem, part]
  have hix3 : ∀ w, (Instr.index 68 (.agg #[.slice (some ⟨g0, o0, none⟩) 7 c0, .slice (some ⟨g1, o1, none⟩) 4 c1, .slice (some ⟨g2, o2, none⟩) 6 c2, .slice (some ⟨g3, o3, none⟩) 1 c3, .slice (some ⟨g4, o4, none⟩) 1 c4]) (.int .i64 3)).run Tryd.prog w = .ok (.slice (some ⟨g3, o3, none⟩) 1 c3) w := fun w => by
    simp [Instr.index, run_underlying Tryd.underlying68, asIntOf, go_sem, part]
  have hix4 : ∀ w, (Instr.index 68 (.agg #[.slice (some ⟨g0, o0, none⟩) 7 c0, .slice (some ⟨g1, o1, none⟩) 4 c1, .slice (some ⟨g2, o2, none⟩) 6 c2, .slice (some ⟨g3, o3, none⟩) 1 c3, .slice (some ⟨g4, o4, none⟩) 1 c4]) (.int .i64 4)).run Tryd.prog w = .ok (.slice (some ⟨g4, o4, none⟩) 1 c4) w := fun w => by
    simp [Instr.index, run_underlying Tryd.underlying68, asIntOf, go_sem, part]
  go_enter Tryd.func56, Tryd.ntmps56
  go_wp2_with fail
  go_loopw [6] (fun i wr => bdRel s w i wr) (fun i _ => 5 - (intOf i).toNat)
  case atStart => exact ⟨0, Nat.zero_le _, rfl, fun j hj => by omega, rfl⟩
  case round =>
    obtain ⟨k, hk, rfl, hs, rfl⟩ := hrel
    have hk' : k = 0 ∨ k = 1 ∨ k = 2 ∨ k = 3 ∨ k = 4 ∨ k = 5 := by omega
    clear hk
    rcases hk' with rfl | rfl | rfl | rfl | rfl | rfl
    · have hcall := Tryd.slices_Contains_string g0 o0 7 c0 (opsL 0) s wr (by decide) (by decide) (fun j hj => by exact HO.out.2.2.2.2.2.1 j hj)
      have HS := Lib.hid hs
      clear hs
      cases hc : Lib.containsS ((opsL 0).take 7) s with
      | true =>
        rw [hc] at hcall
        have HC := Lib.hid hc
        clear hc
        go_wp2_with fail
        refine hcall.mono fun e w1 h => ?_
        obtain ⟨rfl, rfl⟩ := h
        clear hcall
        go_wp2_with fail
        go_ret
        refine ⟨?_, Chg.refl _ _⟩
        rw [binds_at 0 (by omega) HS.out HC.out]
        rfl
      | false =>
        rw [hc] at hcall
        have HC := Lib.hid hc
        clear hc
        go_wp2_with fail
        refine hcall.mono fun e w1 h => ?_
        obtain ⟨rfl, rfl⟩ := h
        clear hcall
        go_wp2_with fail
        go_roundw
        case rel => exact ⟨1, by omega, rfl, binds_next 0 (by omega) HS.out HC.out, rfl⟩
        case measure => simp [intOf]
    · have hcall := Tryd.slices_Contains_string g1 o1 4 c1 (opsL 1) s wr (by decide) (by decide) (fun j hj => by exact HO.out.2.2.2.2.2.2.1 j hj)
      have HS := Lib.hid hs
      clear hs
      cases hc : Lib.containsS ((opsL 1).take 4) s with
      | true =>
        rw [hc] at hcall
        have HC := Lib.hid hc
        clear hc
        go_wp2_with fail
        refine hcall.mono fun e w1 h => ?_
        obtain ⟨rfl, rfl⟩ := h
        clear hcall
        go_wp2_with fail
        go_ret
        refine ⟨?_, Chg.refl _ _⟩
        rw [binds_at 1 (by omega) HS.out HC.out]
        rfl
      | false =>
        rw [hc] at hcall
        have HC := Lib.hid hc
        clear hc
        go_wp2_with fail
        refine hcall.mono fun e w1 h => ?_
        obtain ⟨rfl, rfl⟩ := h
        clear hcall
        go_wp2_with fail
        go_roundw
        case rel => exact ⟨2, by omega, rfl, binds_next 1 (by omega) HS.out HC.out, rfl⟩
        case measure => simp [intOf]
    · have hcall := Tryd.slices_Contains_string g2 o2 6 c2 (opsL 2) s wr (by decide) (by decide) (fun j hj => by exact HO.out.2.2.2.2.2.2.2.1 j hj)
      have HS := Lib.hid hs
      clear hs
      cases hc : Lib.containsS ((opsL 2).take 6) s with
      | true =>
        rw [hc] at hcall
        have HC := Lib.hid hc
        clear hc
        go_wp2_with fail
        refine hcall.mono fun e w1 h => ?_
        obtain ⟨rfl, rfl⟩ := h
        clear hcall
        go_wp2_with fail
        go_ret
        refine ⟨?_, Chg.refl _ _⟩
        rw [binds_at 2 (by omega) HS.out HC.out]
        rfl
      | false =>
        rw [hc] at hcall
        have HC := Lib.hid hc
        clear hc
        go_wp2_with fail
        refine hcall.mono fun e w1 h => ?_
        obtain ⟨rfl, rfl⟩ := h
        clear hcall
        go_wp2_with fail
        go_roundw
        case rel => exact ⟨3, by omega, rfl, binds_next 2 (by omega) HS.out HC.out, rfl⟩
        case measure => simp [intOf]
    · have hcall := Tryd.slices_Contains_string g3 o3 1 c3 (opsL 3) s wr (by decide) (by decide) (fun j hj => by exact HO.out.2.2.2.2.2.2.2.2.1 j hj)
      have HS := Lib.hid hs
      clear hs
      cases hc : Lib.containsS ((opsL 3).take 1) s with
      | true =>
        rw [hc] at hcall
        have HC := Lib.hid hc
        clear hc
        go_wp2_with fail
        refine hcall.mono fun e w1 h => ?_
        obtain ⟨rfl, rfl⟩ := h
        clear hcall
        go_wp2_with fail
        go_ret
        refine ⟨?_, Chg.refl _ _⟩
        rw [binds_at 3 (by omega) HS.out HC.out]
        rfl
      | false =>
        rw [hc] at hcall
        have HC := Lib.hid hc
        clear hc
        go_wp2_with fail
        refine hcall.mono fun e w1 h => ?_
        obtain ⟨rfl, rfl⟩ := h
        clear hcall
        go_wp2_with fail
        go_roundw
        case rel => exact ⟨4, by omega, rfl, binds_next 3 (by omega) HS.out HC.out, rfl⟩
        case measure => simp [intOf]
    · have hcall := Tryd.slices_Contains_string g4 o4 1 c4 (opsL 4) s wr (by decide) (by decide) (fun j hj => by exact HO.out.2.2.2.2.2.2.2.2.2 j hj)
      have HS := Lib.hid hs
      clear hs
      cases hc : Lib.containsS ((opsL 4).take 1) s with
      | true =>
        rw [hc] at hcall
        have HC := Lib.hid hc
        clear hc
        go_wp2_with fail
        refine hcall.mono fun e w1 h => ?_
        obtain ⟨rfl, rfl⟩ := h
        clear hcall
        go_wp2_with fail
        go_ret
        refine ⟨?_, Chg.refl _ _⟩
        rw [binds_at 4 (by omega) HS.out HC.out]
        rfl
      | false =>
        rw [hc] at hcall
        have HC := Lib.hid hc
        clear hc
        go_wp2_with fail
        refine hcall.mono fun e w1 h => ?_
        obtain ⟨rfl, rfl⟩ := h
        clear hcall
        go_wp2_with fail
        go_roundw
        case rel => exact ⟨5, by omega, rfl, binds_next 4 (by omega) HS.out HC.out, rfl⟩
        case measure => simp [intOf]
    · have HB := Lib.hid (binds_zero hs)
      clear hs
      go_wp2_with fail
      go_ret
      exact ⟨by rw [HB.out]; rfl, Chg.refl _ _⟩
end Go.Proofs.YtgaodjoddfjfmaaDoor

