/-
  Names: ref02.Name, types.Name.
-/
import Derived.Test.YtgaodjoddfjfmaaDoorNLet
namespace Go.Proofs.YtgaodjoddfjfmaaDoor
open Go.RowKit
set_option linter.unusedVariables false
set_option linter.unusedSimpArgs false

theorem width_pos (s : ByteArray) (pos : Nat) (h : pos < s.size) : 1 ≤ (Utf8.decode s pos).2 := by
  by_cases ha : (s[pos]'h).toNat < 128
  · rw [decode_ascii s pos h ha]
    exact Nat.le_refl _
  · exact (decode_high s pos h (by omega)).2
theorem runesOK_end {s : ByteArray} {b pos : Nat} (h : ¬ pos < s.size) : runesOK s b pos = true := by
  cases b with
  | zero => rfl
  | succ b => simp [runesOK, h]
def nameRel (s : ByteArray) (w wr : World) : Prop := ∃ pos b : Nat, wr = w.iter s pos ∧ runesOK s b pos = runesOK s s.size 0 ∧ s.size ≤ pos + b
theorem chg_iter (w : World) (s : ByteArray) (pos : Nat) : Chg (fun _ _ => False) w (w.iter s pos) := chg_alloc w _
set_option maxRecDepth 100000 in
set_option maxHeartbeats 1000000 in
theorem rname_any (s : ByteArray) (w : World) : Calls Tryd.prog 52 #[.string s] w fun e w' => e = .returned (.bool (nameOK s)) ∧ Chg (fun _ _ => False) w w' := by
  go_enter Tryd.func52, Tryd.ntmps52
  go_wp2_with fail
  go_loopw [3, 4] (fun _ _ wr => nameRel s w wr) (fun _ _ wr => s.size - wr.iterPos w.heap.size)
  case atStart => exact ⟨0, s.size, rfl, rfl, by omega⟩
  case round =>
    obtain ⟨pos, b, rfl, hr, hb⟩ := hrel
    by_cases hp : pos < s.size
    · have hnx : ∀ ty, (Instr.next (.pointer (some ⟨w.heap.size, 0, none⟩)) true ty).run Tryd.prog (w.iter s pos) = _ := fun ty => run_next_any w s pos ty hp
      have hwd := width_pos s pos hp
      obtain ⟨b, rfl⟩ : ∃ b', b = b' + 1 := ⟨b - 1, by omega⟩
      simp only [runesOK, hp, if_true] at hr
      cases hL : letterB (Utf8.decode s pos).1 with
      | true =>
        have hl : ∀ w, Calls Tryd.prog 65 #[.int .i32 ((Utf8.decode s pos).1 : Nat)] w fun e w' => e = .returned (.bool true) ∧ w' = w := fun w => hL ▸ rletter_any _ w
        have H := Lib.hid (And.intro hr (And.intro hL (And.intro hb hwd)))
        clear hr hL hb hwd
        go_wp2_with (go_at_call 65; refine (hl _).mono ?_; rintro e w' ⟨rfl, rfl⟩)
        go_roundw
        case rel =>
          obtain ⟨hr, hL, hb, hwd⟩ := H.out
          rw [hL] at hr
          exact ⟨pos + (Utf8.decode s pos).2, b, rfl, by simpa using hr, by omega⟩
        case measure =>
          obtain ⟨hr, hL, hb, hwd⟩ := H.out
          simp
          omega
      | false =>
        have hl : ∀ w, Calls Tryd.prog 65 #[.int .i32 ((Utf8.decode s pos).1 : Nat)] w fun e w' => e = .returned (.bool false) ∧ w' = w := fun w => hL ▸ rletter_any _ w
        have H := Lib.hid (And.intro hr (And.intro hL (And.intro hb hwd)))
        clear hr hL hb hwd
        by_cases h1 : (0 : Int) < (pos : Int)
        · by_cases h2 : (48 : Int) ≤ ((Utf8.decode s pos).1 : Int)
          · by_cases h3 : ((Utf8.decode s pos).1 : Int) ≤ 57
            · go_wp2_with (go_at_call 65; refine (hl _).mono ?_; rintro e w' ⟨rfl, rfl⟩)
              go_roundw
              case rel =>
                obtain ⟨hr, hL, hb, hwd⟩ := H.out
                have hd : digitB (Utf8.decode s pos).1 = true := decide_eq_true (by omega)
                have h0 : decide (0 < pos) = true := decide_eq_true (by omega)
                rw [hL, hd, h0] at hr
                exact ⟨pos + (Utf8.decode s pos).2, b, rfl, by simpa using hr, by omega⟩
              case measure =>
                obtain ⟨hr, hL, hb, hwd⟩ := H.out
                simp
                omega
            · go_wp2_with (go_at_call 65; refine (hl _).mono ?_; rintro e w' ⟨rfl, rfl⟩)
              go_ret
              obtain ⟨hr, hL, hb, hwd⟩ := H.out
              refine ⟨?_, chg_iter _ _ _⟩
              have hd : (decide (0 < pos) && digitB (Utf8.decode s pos).1) = false := by
                unfold digitB
                rw [← Bool.not_eq_true, Bool.and_eq_true]
                rintro ⟨k1, k2⟩
                have k1 := of_decide_eq_true k1
                have k2 := of_decide_eq_true k2
                omega
              rw [hL, hd] at hr
              have hn : nameOK s = false := by
                unfold nameOK
                rw [← hr]
                simp
              rw [hn]
              first
                | rfl
                | simp
          · go_wp2_with (go_at_call 65; refine (hl _).mono ?_; rintro e w' ⟨rfl, rfl⟩)
            go_ret
            obtain ⟨hr, hL, hb, hwd⟩ := H.out
            refine ⟨?_, chg_iter _ _ _⟩
            have hd : (decide (0 < pos) && digitB (Utf8.decode s pos).1) = false := by
              unfold digitB
              rw [← Bool.not_eq_true, Bool.and_eq_true]
              rintro ⟨k1, k2⟩
              have k1 := of_decide_eq_true k1
              have k2 := of_decide_eq_true k2
              omega
            rw [hL, hd] at hr
            have hn : nameOK s = false := by
              unfold nameOK
              rw [← hr]
              simp
            rw [hn]
            first
              | rfl
              | simp
        · go_wp2_with (go_at_call 65; refine (hl _).mono ?_; rintro e w' ⟨rfl, rfl⟩)
          go_ret
          obtain ⟨hr, hL, hb, hwd⟩ := H.out
          refine ⟨?_, chg_iter _ _ _⟩
          have hd : (decide (0 < pos) && digitB (Utf8.decode s pos).1) = false := by
            unfold digitB
            rw [← Bool.not_eq_true, Bool.and_eq_true]
            rintro ⟨k1, k2⟩
            have k1 := of_decide_eq_true k1
            have k2 := of_decide_eq_true k2
            omega
          rw [hL, hd] at hr
          have hn : nameOK s = false := by
            unfold nameOK
            rw [← hr]
            simp
          rw [hn]
          first
            | rfl
            | simp
    · have hnx : ∀ ty, (Instr.next (.pointer (some ⟨w.heap.size, 0, none⟩)) true ty).run Tryd.prog (w.iter s pos) = _ := fun ty => run_next_end w s pos ty hp
      rw [runesOK_end hp] at hr
      have H := Lib.hid hr
      clear hr
      by_cases h1 : (1 : Int) ≤ (s.size : Int)
      · by_cases h2 : (s.size : Int) ≤ 64
        · go_wp2_with fail
          go_ret
          refine ⟨?_, chg_iter _ _ _⟩
          have hn : nameOK s = (decide (1 ≤ s.size) && decide (s.size ≤ 64)) := by
            unfold nameOK
            rw [← H.out, Bool.and_true]
          rw [hn, decide_eq_true (p := 1 ≤ s.size) (by omega), decide_eq_true (p := s.size ≤ 64) (by omega)]
          first
            | rfl
            | simp
        · go_wp2_with fail
          go_ret
          refine ⟨?_, chg_iter _ _ _⟩
          have hn : nameOK s = (decide (1 ≤ s.size) && decide (s.size ≤ 64)) := by
            unfold nameOK
            rw [← H.out, Bool.and_true]
          rw [hn, decide_eq_true (p := 1 ≤ s.size) (by omega), decide_eq_false (p := s.size ≤ 64) (by omega)]
          first
            | rfl
            | simp
      · by_cases h2 : (s.size : Int) ≤ 64
        · go_wp2_with fail
          go_ret
          refine ⟨?_, chg_iter _ _ _⟩
          have hn : nameOK s = (decide (1 ≤ s.size) && decide (s.size ≤ 64)) := by
            unfold nameOK
            rw [← H.out, Bool.and_true]
          rw [hn, decide_eq_false (p := 1 ≤ s.size) (by omega), decide_eq_true (p := s.size ≤ 64) (by omega)]
          first
            | rfl
            | simp
        · go_wp2_with fail
          go_ret
          refine ⟨?_, chg_iter _ _ _⟩
          have hn : nameOK s = (decide (1 ≤ s.size) && decide (s.size ≤ 64)) := by
            unfold nameOK
            rw [← H.out, Bool.and_true]
          rw [hn, decide_eq_false (p := 1 ≤ s.size) (by omega), decide_eq_false (p := s.size ≤ 64) (by omega)]
          first
            | rfl
            | simp
end Go.Proofs.YtgaodjoddfjfmaaDoor
