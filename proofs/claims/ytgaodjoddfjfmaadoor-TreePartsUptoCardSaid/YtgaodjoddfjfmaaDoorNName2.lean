/-
  types.Name: the same names.
-/
import Derived.Test.YtgaodjoddfjfmaaDoorNName
import Derived.Lib.ValidLaws
namespace Go.Proofs.YtgaodjoddfjfmaaDoor
open Go.RowKit
set_option linter.unusedVariables false
set_option linter.unusedSimpArgs false

/-- The two tables of utf8 lie where they lie. -/
def Tabs (w : World) : Prop := Lib.Utf8Tabs 1 2 w
theorem Tabs.keep {M : Nat → Nat → Prop} {w w' : World} (h : Tabs w) (hc : Chg M w w') (hM : ∀ t, ¬ M 1 t ∧ ¬ M 2 t) : Tabs w' :=
  ⟨fun c hlt => hc.cell (h.1 c hlt) fun t => (hM t).1, fun i hi => ⟨hc.cell (h.2 i hi).1 fun t => (hM t).2, hc.cell (h.2 i hi).2 fun t => (hM t).2⟩⟩
theorem Tabs.keep0 {w w' : World} (h : Tabs w) (hc : Chg (fun _ _ => False) w w') : Tabs w' := h.keep hc fun _ => ⟨id, id⟩
theorem strE_true {s : ByteArray} (h : s = ⟨#[]⟩) : s.toList.isEmpty = true := by
  subst h
  rw [ByteArray.toList_eq]
  rfl
theorem strE_false {s : ByteArray} (h : ¬ s = ⟨#[]⟩) : s.toList.isEmpty = false := by
  cases he : s.toList with
  | nil => exact absurd (str_inj (he.trans (List.isEmpty_iff.1 (strE_true (s := ⟨#[]⟩) rfl)).symm)) h
  | cons => rfl
theorem letter_valid {r : Nat} {p : Bool} (h : (letterB r || (p && digitB r)) = true) : r ≠ 65533 := by
  rintro rfl
  revert h
  cases p <;> decide
theorem runes_valid (s : ByteArray) : ∀ (b pos : Nat), s.size ≤ pos + b → runesOK s b pos = true → Lib.validD (s.data.toList.drop pos) = true
  | 0, pos, hb, _ => by
    rw [List.drop_eq_nil_of_le (by have : s.data.toList.length = s.size := by simp
                                   omega)]
    rfl
  | b + 1, pos, hb, h => by
    by_cases hp : pos < s.size
    · have hl : s.data.toList.length = s.size := by simp
      have hne : s.data.toList.drop pos ≠ [] := by
        intro he
        have := congrArg List.length he
        simp only [List.length_drop, List.length_nil] at this
        omega
      simp only [runesOK, hp, if_true, Bool.and_eq_true] at h
      rw [Lib.validD_step _ hne, Lib.decodeL_drop, if_neg (fun k => letter_valid h.1 k.1), List.drop_drop]
      exact runes_valid s b _ (by have := width_pos s pos hp; omega) h.2
    · rw [List.drop_eq_nil_of_le (by have : s.data.toList.length = s.size := by simp
                                     omega)]
      rfl
set_option maxRecDepth 100000 in
set_option maxHeartbeats 1000000 in
theorem name_any (s : ByteArray) (w : World) (hs : s.size ≤ 9223372036854775807) (hT : Tabs w) : Calls Tryd.prog 67 #[.string s] w fun e w' => e = .returned (.bool (nameOK s)) ∧ Chg (fun _ _ => False) w w' := by
  have HT := Lib.hid hT
  clear hT
  go_enter Tryd.func67, Tryd.ntmps67
  go_wp2_with fail
  go_loopw [3, 4] (fun _ _ wr => nameRel s w wr) (fun _ _ wr => s.size - wr.iterPos w.heap.size)
  case atStart => exact ⟨0, s.size, rfl, rfl, by omega⟩
  case round =>
    obtain ⟨pos, b, rfl, hr, hb⟩ := hrel
    by_cases hp : pos < s.size
    · have hnx : ∀ ty, (Instr.next (.pointer (some ⟨w.heap.size, 0, none⟩)) true ty).run Tryd.prog (w.iter s pos) = _ := fun ty => run_next_any w s pos ty hp
      have hwd := width_pos s pos hp
      obtain ⟨b, rfl⟩ : ∃ b', b = b' + 1 := ⟨b - 1, by omega⟩
      simp only [runesOK, hp, if_true] at hr
      cases hL : letterB (Utf8.decode s pos).1 with
      | true =>
        have hl : ∀ w, Calls Tryd.prog 76 #[.int .i32 ((Utf8.decode s pos).1 : Nat)] w fun e w' => e = .returned (.bool true) ∧ w' = w := fun w => hL ▸ letter_any _ w
        have H := Lib.hid (And.intro hr (And.intro hL (And.intro hb hwd)))
        clear hr hL hb hwd
        go_wp2_with (go_at_call 76; refine (hl _).mono ?_; rintro e w' ⟨rfl, rfl⟩)
        go_roundw
        case rel =>
          obtain ⟨hr, hL, hb, hwd⟩ := H.out
          rw [hL] at hr
          exact ⟨pos + (Utf8.decode s pos).2, b, rfl, by simpa using hr, by omega⟩
        case measure =>
          obtain ⟨hr, hL, hb, hwd⟩ := H.out
          simp
          omega
      | false =>
        have hl : ∀ w, Calls Tryd.prog 76 #[.int .i32 ((Utf8.decode s pos).1 : Nat)] w fun e w' => e = .returned (.bool false) ∧ w' = w := fun w => hL ▸ letter_any _ w
        have H := Lib.hid (And.intro hr (And.intro hL (And.intro hb hwd)))
        clear hr hL hb hwd
        by_cases h1 : (pos : Int) = 0
        · have h2 : (decide (0 < pos) && digitB (Utf8.decode s pos).1) = false := by rw [decide_eq_false (by omega)]; rfl
          have hd := digit_any
          go_wp2_with (first | (go_at_call 76; refine (hl _).mono ?_; rintro e w' ⟨rfl, rfl⟩) | (go_at_call 77; refine (hd _).mono ?_; rintro e w' ⟨rfl, rfl⟩))
          go_ret
          obtain ⟨hr, hL, hb, hwd⟩ := H.out
          refine ⟨?_, chg_iter _ _ _⟩
          rw [hL, h2] at hr
          have hn : nameOK s = false := by
            unfold nameOK
            rw [← hr]
            simp
          rw [hn]
          first
            | rfl
            | simp
        · cases hD : digitB (Utf8.decode s pos).1 with
          | true =>
            have hd : ∀ w, Calls Tryd.prog 77 #[.int .i32 ((Utf8.decode s pos).1 : Nat)] w fun e w' => e = .returned (.bool true) ∧ w' = w := fun w => hD ▸ digit_any _ w
            have HD := Lib.hid hD
            clear hD
            go_wp2_with (first | (go_at_call 76; refine (hl _).mono ?_; rintro e w' ⟨rfl, rfl⟩) | (go_at_call 77; refine (hd _).mono ?_; rintro e w' ⟨rfl, rfl⟩))
            go_roundw
            case rel =>
              obtain ⟨hr, hL, hb, hwd⟩ := H.out
              have h0 : decide (0 < pos) = true := decide_eq_true (by omega)
              rw [hL, HD.out, h0] at hr
              exact ⟨pos + (Utf8.decode s pos).2, b, rfl, by simpa using hr, by omega⟩
            case measure =>
              obtain ⟨hr, hL, hb, hwd⟩ := H.out
              simp
              omega
          | false =>
            have hd : ∀ w, Calls Tryd.prog 77 #[.int .i32 ((Utf8.decode s pos).1 : Nat)] w fun e w' => e = .returned (.bool false) ∧ w' = w := fun w => hD ▸ digit_any _ w
            have HD := Lib.hid hD
            clear hD
            go_wp2_with (first | (go_at_call 76; refine (hl _).mono ?_; rintro e w' ⟨rfl, rfl⟩) | (go_at_call 77; refine (hd _).mono ?_; rintro e w' ⟨rfl, rfl⟩))
            go_ret
            obtain ⟨hr, hL, hb, hwd⟩ := H.out
            refine ⟨?_, chg_iter _ _ _⟩
            rw [hL, HD.out, Bool.and_false] at hr
            have hn : nameOK s = false := by
              unfold nameOK
              rw [← hr]
              simp
            rw [hn]
            first
              | rfl
              | simp
    · have hnx : ∀ ty, (Instr.next (.pointer (some ⟨w.heap.size, 0, none⟩)) true ty).run Tryd.prog (w.iter s pos) = _ := fun ty => run_next_end w s pos ty hp
      rw [runesOK_end hp] at hr
      have hv : Lib.validD s.data.toList = true := runes_valid s s.size 0 (by omega) hr.symm
      have hval : ∀ w, Tabs w → Calls Tryd.prog 78 #[.string s] w fun e w' => e = .returned (.bool true) ∧ Chg (fun _ _ => False) w w' := fun w h => (hv ▸ Tryd.utf8_ValidString s w hs h).mono fun e w' h => ⟨h.1, Chg.of_below h.2 _⟩
      have H := Lib.hid hr
      have hT2 := HT.out.keep0 (chg_iter w s pos)
      clear hr hv
      by_cases h1 : s = ⟨#[]⟩
      · have q1 := strE_true h1
        replace h1 := Lib.hid h1
        go_wp2_with fail
        go_ret
        refine ⟨?_, chg_iter _ _ _⟩
        have h1 := h1.out
        subst h1
        rfl
      · have q1 := strE_false h1
        have h11 : 1 ≤ s.size := by
          rcases Nat.eq_zero_or_pos s.size with h | h
          · exact absurd (by cases s; congr 1; exact Array.eq_empty_of_size_eq_zero h) h1
          · exact h
        by_cases h2 : (s.size : Int) ≤ 64
        · go_wp2_with (go_at_call 78; refine (hval _ hT2).mono ?_; rintro e w' ⟨rfl, hcv⟩)
          go_ret
          refine ⟨?_, (chg_iter _ _ _).trans hcv⟩
          have hn : nameOK s = true := by
            unfold nameOK
            rw [← H.out, Bool.and_true, decide_eq_true (p := 1 ≤ s.size) (by omega), decide_eq_true (p := s.size ≤ 64) (by omega)]
            rfl
          rw [hn]
          first
            | rfl
            | simp
        · go_wp2_with fail
          go_ret
          refine ⟨?_, chg_iter _ _ _⟩
          have hn : nameOK s = false := by
            unfold nameOK
            rw [← H.out, Bool.and_true, decide_eq_false (p := s.size ≤ 64) (by omega), Bool.and_false]
          rw [hn]
          first
            | rfl
            | simp
end Go.Proofs.YtgaodjoddfjfmaaDoor
