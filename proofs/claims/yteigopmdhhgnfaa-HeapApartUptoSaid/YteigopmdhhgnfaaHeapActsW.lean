/-
  The walk of the statement HeapActs.
-/
import Derived.Test.YteigopmdhhgnfaaHCopy
namespace Go.Proofs.Yteigopmdhhgnfaa
open Go.RowKit
set_option linter.unusedVariables false
set_option linter.unusedSimpArgs false


theorem hcopy_P {G : Nat → Prop} {w : World} {p N bud : Nat} {S : List ObjD} (h : HpR G w p N S bud) : Calls Try.prog 27 #[.pointer (some ⟨p, 0, none⟩)] w fun e w' => ∃ p2 G', e = .returned (.pointer (some ⟨p2, 0, none⟩)) ∧ HpR G' w' p2 65536 S bud ∧ (∀ b, G' b → w.heap.size ≤ b) ∧ Chg (fun _ _ => False) w w' := by
  obtain ⟨m, n, cnt, bo, A, c, least, h1, h2⟩ := h
  exact hcopy_any G w p m n cnt bo A c S bud least h1
theorem HTwo.copy {base p p2 q bud N : Nat} {w w' : World} {S1 S2 : List ObjD} {G' : Nat → Prop} (h : HTwo base w p q bud N S1 S2) (hb : base ≤ w.heap.size) (h1 : HpR G' w' p2 65536 S1 bud) (h2 : ∀ b, G' b → w.heap.size ≤ b) (hc : Chg (fun _ _ => False) w w') : HTwo base w' p2 q bud 65536 S1 S2 := by
  obtain ⟨G, F, k1, k2, k3, k4, k5⟩ := h
  exact ⟨G', F, h1, k2.keep hc (fun _ _ _ => id), fun b hg hf => by have := h2 b hg; have := k2.lt hf; omega, fun b hg => Nat.le_trans hb (h2 b hg), k5⟩
def haRel (q C : Nat) (w : World) (l : List HActD) (hv i : Value) (wr : World) : Prop := ∃ p k : Nat, k ≤ l.length ∧ hv = .pointer (some ⟨p, 0, none⟩) ∧ i = .int .i64 (k : Int) ∧ HTwo w.heap.size wr p q C (65536 + k) (grownS C (l.take k)) (grownS C (l.take k)) ∧ Chg (ML2 w.heap.size) w wr
set_option maxRecDepth 100000 in
set_option maxHeartbeats 8000000 in
theorem heapActs_walk (w : World) (cells : Int) (A : Option Addr) (c : Nat) (l : List HActD) (hl : HActsA w.heap.size w (.slice A l.length c) l) (hn : l.length ≤ 1048576) :
    Calls Try.prog 7 #[.int .i64 cells, .slice A l.length c] w fun e w' => e = .returned (.bool true) ∧ Below w.heap.size w w' := by
  have HL := Lib.hid hl
  have HB := Lib.hid (Nat.le_refl w.heap.size)
  clear hl
  by_cases hbad : cells < 0 ∨ 65536 < cells
  · have c1 := hnew_bad w cells hbad
    have HBAD := Lib.hid hbad
    clear hbad HL hn
    generalize l.length = nl
    go_enter Try.func7, Try.ntmps7
    go_wp2_with fail
    refine c1.mono fun e w1 hh => ?_
    obtain ⟨rfl, hc1⟩ := hh
    have c2 := rmake_bad w1 cells HBAD.out
    have H1 := Lib.hid hc1
    clear c1 hc1
    go_wp2_with fail
    refine c2.mono fun e w2 hh => ?_
    obtain ⟨rfl, hc2⟩ := hh
    have H2 := Lib.hid (H1.out.trans hc2)
    clear c2 hc2
    go_wp2_with fail
    refine (answers12_any w2).mono fun e w3 hh => ?_
    obtain ⟨rfl, hc3⟩ := hh
    have H3 := Lib.hid (H2.out.trans hc3)
    clear hc3
    go_wp2_with fail
    go_loopw [5, 9] (fun hv i wr => hv = .pointer none ∧ i = .int .i64 0 ∧ wr = w3) (fun _ _ _ => 0)
    case atStart => exact ⟨rfl, rfl, rfl⟩
    case round =>
      obtain ⟨rfl, rfl, rfl⟩ := hrel
      by_cases hlt : 0 < nl
      · have q1 : decide (0 < nl) = true := decide_eq_true hlt
        have q2 : (0 : Int) < (nl : Int) := by omega
        go_wp2_with fail
        go_ret
        exact ⟨by simp, below_ml2 H3.out.no⟩
      · have q1 : decide (0 < nl) = false := decide_eq_false hlt
        have q2 : ¬ (0 : Int) < (nl : Int) := by omega
        go_wp2_with fail
        go_ret
        exact ⟨by simp, below_ml2 H3.out.no⟩
  · obtain ⟨C, rfl⟩ : ∃ C : Nat, cells = (C : Int) := ⟨cells.toNat, by omega⟩
    have hC6 : C ≤ 65536 := by omega
    have c1 := hnew_any w C hC6
    have HC := Lib.hid hC6
    clear hbad hC6
    go_enter Try.func7, Try.ntmps7
    go_wp2_with fail
    refine c1.mono fun e w1 hh => ?_
    obtain ⟨rfl, hm, hg, hc1⟩ := hh
    have c2 := rmake_any w1 C HC.out
    have H1 := Lib.hid (And.intro hm (And.intro hg hc1))
    clear c1 hm hg hc1
    go_wp2_with fail
    refine c2.mono fun e w2 hh => ?_
    obtain ⟨rfl, hr, hc2⟩ := hh
    have h2 := HTwo.fresh (Nat.le_refl _) rfl rfl H1.out.1 H1.out.2.1 HC.out H1.out.2.2 hr hc2
    have H2 := Lib.hid (And.intro h2 (H1.out.2.2.trans hc2))
    clear c2 h2 hr hc2
    obtain ⟨p0, hp⟩ : ∃ p0, w.heap.size + 1 = p0 := ⟨_, rfl⟩
    obtain ⟨q, hq⟩ : ∃ q, w1.heap.size = q := ⟨_, rfl⟩
    rw [hp, hq] at H2
    simp only [hp, hq]
    clear hp hq
    go_wp2_with fail
    refine (answers12_any w2).mono fun e w3 hh => ?_
    obtain ⟨rfl, hc3⟩ := hh
    have H3 := Lib.hid (And.intro (H2.out.1.same hc3) (H2.out.2.trans hc3))
    clear hc3
    go_wp2_with fail
    go_loopw [5, 9] (fun hv i wr => haRel q C w l hv i wr) (fun _ i _ => l.length - (intOf i).toNat)
    case atStart => exact ⟨p0, 0, Nat.zero_le _, rfl, rfl, H3.out.1.mono (Nat.zero_le _), H3.out.2.no⟩
    case round =>
      obtain ⟨p, k, hkl, rfl, rfl, h2, hch⟩ := hrel
      have q5 : IntKind.i64.wrap ((k : Int) + 1) = (k : Int) + 1 := IntWalk.i64_in _ ⟨by omega, by omega⟩
      by_cases hlt : k < l.length
      · obtain ⟨b, o, a, A', c', B', d', rfl, hx, ha, z0, z1, z2, z3, z4, z5⟩ := (HL.out.keep hch).at_ hlt
        have q6 : decide (k < l.length) = true := decide_eq_true hlt
        have q7 : (k : Int) < (l.length : Int) := by omega
        by_cases h6 : a.kind = 6
        · have e6 : (a.kind == 6) = true := by simp [h6]
          obtain ⟨G, hG, _, _⟩ := h2.left hch.size
          have c4 := hcopy_P hG
          have HK := Lib.hid (And.intro h2 (And.intro hch (And.intro hx (And.intro ha hch.size))))
          clear h2 hch hx ha hG h6
          go_wp2_with fail
          refine c4.mono fun e w4 hh => ?_
          obtain ⟨p2, G', rfl, hp2, hG', hc4⟩ := hh
          have HX := Lib.hid (And.intro HK.out.2.2.1 (HK.out.2.2.2.1.keep hc4.no))
          have HY := Lib.hid (And.intro (HK.out.1.copy HK.out.2.2.2.2 hp2 hG' hc4) (HK.out.2.1.trans hc4.no))
          have y0 := hc4.cell z0 fun _ => id
          have y1 := hc4.cell z1 fun _ => id
          have y2 := hc4.cell z2 fun _ => id
          have y3 := hc4.cell z3 fun _ => id
          have y4 := hc4.cell z4 fun _ => id
          have y5 := hc4.cell z5 fun _ => id
          clear c4 hp2 hG' hc4 z0 z1 z2 z3 z4 z5
          have c5 := hact_any w4 w.heap.size p2 q C 65536 (grownS C (l.take k)) (Nat.le_trans HB.out (HY.out.2.size)) HY.out.1 (by simp only [maxLen]; omega) a A' c' B' d' HX.out.2
          unfold hactV at c5
          go_wp2_with fail
          refine c5.mono fun e w7 hh => ?_
          obtain ⟨rfl, h7, hc7⟩ := hh
          have hs7 : w.heap.size ≤ w7.heap.size := Nat.le_trans (Nat.le_trans HB.out HY.out.2.size) hc7.size
          have c6 := alike12_any w7 w.heap.size p2 q C (65536 + 1) _ hs7 h7
          have H7 := Lib.hid (And.intro h7 (HY.out.2.trans hc7))
          clear c5 h7 hc7 hs7
          go_wp2_with fail
          refine c6.mono fun e w8 hh => ?_
          obtain ⟨rfl, hc8⟩ := hh
          have H8 := Lib.hid (And.intro (H7.out.1.same hc8) (H7.out.2.trans hc8.no))
          clear c6 hc8
          go_wp2_with fail
          go_roundw
          case rel => exact ⟨p2, k + 1, hlt, rfl, by simp, by rw [grownS_succ HX.out.1]; exact H8.out.1.mono (by omega), H8.out.2⟩
          case measure => simp [intOf]; omega
        · have e6 : (a.kind == 6) = false := by simp [h6]
          have HX := Lib.hid (And.intro hx ha)
          have HY := Lib.hid (And.intro h2 hch)
          clear h2 hch hx ha h6
          have c5 := hact_any wr w.heap.size p q C (65536 + k) (grownS C (l.take k)) (Nat.le_trans HB.out (HY.out.2.size)) HY.out.1 (by simp only [maxLen]; omega) a A' c' B' d' HX.out.2
          unfold hactV at c5
          go_wp2_with fail
          refine c5.mono fun e w7 hh => ?_
          obtain ⟨rfl, h7, hc7⟩ := hh
          have hs7 : w.heap.size ≤ w7.heap.size := Nat.le_trans (Nat.le_trans HB.out HY.out.2.size) hc7.size
          have c6 := alike12_any w7 w.heap.size p q C ((65536 + k) + 1) _ hs7 h7
          have H7 := Lib.hid (And.intro h7 (HY.out.2.trans hc7))
          clear c5 h7 hc7 hs7
          go_wp2_with fail
          refine c6.mono fun e w8 hh => ?_
          obtain ⟨rfl, hc8⟩ := hh
          have H8 := Lib.hid (And.intro (H7.out.1.same hc8) (H7.out.2.trans hc8.no))
          clear c6 hc8
          go_wp2_with fail
          go_roundw
          case rel => exact ⟨p, k + 1, hlt, rfl, by simp, by rw [grownS_succ HX.out.1]; exact H8.out.1.mono (by omega), H8.out.2⟩
          case measure => simp [intOf]; omega
      · have q6 : decide (k < l.length) = false := decide_eq_false hlt
        have q7 : ¬ (k : Int) < (l.length : Int) := by omega
        have HR := Lib.hid hch
        clear h2 hch
        go_wp2_with fail
        go_ret
        exact ⟨by simp, below_ml2 HR.out⟩
end Go.Proofs.Yteigopmdhhgnfaa
