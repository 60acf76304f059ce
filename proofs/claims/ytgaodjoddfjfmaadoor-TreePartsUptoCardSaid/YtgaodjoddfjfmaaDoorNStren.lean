/-
  The reference's Strength.
-/
import Derived.Test.YtgaodjoddfjfmaaDoorNBinds
namespace Go.Proofs.YtgaodjoddfjfmaaDoor
open Go.RowKit
set_option linter.unusedVariables false
set_option linter.unusedSimpArgs false

set_option maxRecDepth 100000 in
set_option maxHeartbeats 2000000 in
theorem strength_any (s : ByteArray) (w : World) : Calls Tryd.prog 43 #[.string s] w fun e w' => e = .returned (.int .i64 (bindsB s)) ∧ w' = w := by
  by_cases h0 : s = ⟨#[42]⟩
  · have q0 : (s.toList == [42]) = true := lit_eq h0
    have HB := Lib.hid (show bindsB s = 5 by rw [h0]; exact binds_in 0 (by omega) (by simp [opsL]) fun j hj => by omega)
    clear h0
    go_enter Tryd.func43, Tryd.ntmps43
    go_wp2_with fail
    go_ret
    exact ⟨by rw [HB.out]; rfl, rfl⟩
  · have q0 : (s.toList == [42]) = false := lit_ne h0
    by_cases h1 : s = ⟨#[47]⟩
    · have q1 : (s.toList == [47]) = true := lit_eq h1
      have HB := Lib.hid (show bindsB s = 5 by rw [h1]; exact binds_in 0 (by omega) (by simp [opsL]) fun j hj => by omega)
      clear h0 h1
      go_enter Tryd.func43, Tryd.ntmps43
      go_wp2_with fail
      go_ret
      exact ⟨by rw [HB.out]; rfl, rfl⟩
    · have q1 : (s.toList == [47]) = false := lit_ne h1
      by_cases h2 : s = ⟨#[37]⟩
      · have q2 : (s.toList == [37]) = true := lit_eq h2
        have HB := Lib.hid (show bindsB s = 5 by rw [h2]; exact binds_in 0 (by omega) (by simp [opsL]) fun j hj => by omega)
        clear h0 h1 h2
        go_enter Tryd.func43, Tryd.ntmps43
        go_wp2_with fail
        go_ret
        exact ⟨by rw [HB.out]; rfl, rfl⟩
      · have q2 : (s.toList == [37]) = false := lit_ne h2
        by_cases h3 : s = ⟨#[60, 60]⟩
        · have q3 : (s.toList == [60, 60]) = true := lit_eq h3
          have HB := Lib.hid (show bindsB s = 5 by rw [h3]; exact binds_in 0 (by omega) (by simp [opsL]) fun j hj => by omega)
          clear h0 h1 h2 h3
          go_enter Tryd.func43, Tryd.ntmps43
          go_wp2_with fail
          go_ret
          exact ⟨by rw [HB.out]; rfl, rfl⟩
        · have q3 : (s.toList == [60, 60]) = false := lit_ne h3
          by_cases h4 : s = ⟨#[62, 62]⟩
          · have q4 : (s.toList == [62, 62]) = true := lit_eq h4
            have HB := Lib.hid (show bindsB s = 5 by rw [h4]; exact binds_in 0 (by omega) (by simp [opsL]) fun j hj => by omega)
            clear h0 h1 h2 h3 h4
            go_enter Tryd.func43, Tryd.ntmps43
            go_wp2_with fail
            go_ret
            exact ⟨by rw [HB.out]; rfl, rfl⟩
          · have q4 : (s.toList == [62, 62]) = false := lit_ne h4
            by_cases h5 : s = ⟨#[38]⟩
            · have q5 : (s.toList == [38]) = true := lit_eq h5
              have HB := Lib.hid (show bindsB s = 5 by rw [h5]; exact binds_in 0 (by omega) (by simp [opsL]) fun j hj => by omega)
              clear h0 h1 h2 h3 h4 h5
              go_enter Tryd.func43, Tryd.ntmps43
              go_wp2_with fail
              go_ret
              exact ⟨by rw [HB.out]; rfl, rfl⟩
            · have q5 : (s.toList == [38]) = false := lit_ne h5
              by_cases h6 : s = ⟨#[38, 94]⟩
              · have q6 : (s.toList == [38, 94]) = true := lit_eq h6
                have HB := Lib.hid (show bindsB s = 5 by rw [h6]; exact binds_in 0 (by omega) (by simp [opsL]) fun j hj => by omega)
                clear h0 h1 h2 h3 h4 h5 h6
                go_enter Tryd.func43, Tryd.ntmps43
                go_wp2_with fail
                go_ret
                exact ⟨by rw [HB.out]; rfl, rfl⟩
              · have q6 : (s.toList == [38, 94]) = false := lit_ne h6
                by_cases h7 : s = ⟨#[43]⟩
                · have q7 : (s.toList == [43]) = true := lit_eq h7
                  have HB := Lib.hid (show bindsB s = 4 by rw [h7]; exact binds_in 1 (by omega) (by simp [opsL]) fun j hj => by match j, hj with | 0, _ => simp [opsL])
                  clear h0 h1 h2 h3 h4 h5 h6 h7
                  go_enter Tryd.func43, Tryd.ntmps43
                  go_wp2_with fail
                  go_ret
                  exact ⟨by rw [HB.out]; rfl, rfl⟩
                · have q7 : (s.toList == [43]) = false := lit_ne h7
                  by_cases h8 : s = ⟨#[45]⟩
                  · have q8 : (s.toList == [45]) = true := lit_eq h8
                    have HB := Lib.hid (show bindsB s = 4 by rw [h8]; exact binds_in 1 (by omega) (by simp [opsL]) fun j hj => by match j, hj with | 0, _ => simp [opsL])
                    clear h0 h1 h2 h3 h4 h5 h6 h7 h8
                    go_enter Tryd.func43, Tryd.ntmps43
                    go_wp2_with fail
                    go_ret
                    exact ⟨by rw [HB.out]; rfl, rfl⟩
                  · have q8 : (s.toList == [45]) = false := lit_ne h8
                    by_cases h9 : s = ⟨#[124]⟩
                    · have q9 : (s.toList == [124]) = true := lit_eq h9
                      have HB := Lib.hid (show bindsB s = 4 by rw [h9]; exact binds_in 1 (by omega) (by simp [opsL]) fun j hj => by match j, hj with | 0, _ => simp [opsL])
                      clear h0 h1 h2 h3 h4 h5 h6 h7 h8 h9
                      go_enter Tryd.func43, Tryd.ntmps43
                      go_wp2_with fail
                      go_ret
                      exact ⟨by rw [HB.out]; rfl, rfl⟩
                    · have q9 : (s.toList == [124]) = false := lit_ne h9
                      by_cases h10 : s = ⟨#[94]⟩
                      · have q10 : (s.toList == [94]) = true := lit_eq h10
                        have HB := Lib.hid (show bindsB s = 4 by rw [h10]; exact binds_in 1 (by omega) (by simp [opsL]) fun j hj => by match j, hj with | 0, _ => simp [opsL])
                        clear h0 h1 h2 h3 h4 h5 h6 h7 h8 h9 h10
                        go_enter Tryd.func43, Tryd.ntmps43
                        go_wp2_with fail
                        go_ret
                        exact ⟨by rw [HB.out]; rfl, rfl⟩
                      · have q10 : (s.toList == [94]) = false := lit_ne h10
                        by_cases h11 : s = ⟨#[61, 61]⟩
                        · have q11 : (s.toList == [61, 61]) = true := lit_eq h11
                          have HB := Lib.hid (show bindsB s = 3 by rw [h11]; exact binds_in 2 (by omega) (by simp [opsL]) fun j hj => by match j, hj with | 0, _ => simp [opsL] | 1, _ => simp [opsL])
                          clear h0 h1 h2 h3 h4 h5 h6 h7 h8 h9 h10 h11
                          go_enter Tryd.func43, Tryd.ntmps43
                          go_wp2_with fail
                          go_ret
                          exact ⟨by rw [HB.out]; rfl, rfl⟩
                        · have q11 : (s.toList == [61, 61]) = false := lit_ne h11
                          by_cases h12 : s = ⟨#[33, 61]⟩
                          · have q12 : (s.toList == [33, 61]) = true := lit_eq h12
                            have HB := Lib.hid (show bindsB s = 3 by rw [h12]; exact binds_in 2 (by omega) (by simp [opsL]) fun j hj => by match j, hj with | 0, _ => simp [opsL] | 1, _ => simp [opsL])
                            clear h0 h1 h2 h3 h4 h5 h6 h7 h8 h9 h10 h11 h12
                            go_enter Tryd.func43, Tryd.ntmps43
                            go_wp2_with fail
                            go_ret
                            exact ⟨by rw [HB.out]; rfl, rfl⟩
                          · have q12 : (s.toList == [33, 61]) = false := lit_ne h12
                            by_cases h13 : s = ⟨#[60]⟩
                            · have q13 : (s.toList == [60]) = true := lit_eq h13
                              have HB := Lib.hid (show bindsB s = 3 by rw [h13]; exact binds_in 2 (by omega) (by simp [opsL]) fun j hj => by match j, hj with | 0, _ => simp [opsL] | 1, _ => simp [opsL])
                              clear h0 h1 h2 h3 h4 h5 h6 h7 h8 h9 h10 h11 h12 h13
                              go_enter Tryd.func43, Tryd.ntmps43
                              go_wp2_with fail
                              go_ret
                              exact ⟨by rw [HB.out]; rfl, rfl⟩
                            · have q13 : (s.toList == [60]) = false := lit_ne h13
                              by_cases h14 : s = ⟨#[60, 61]⟩
                              · have q14 : (s.toList == [60, 61]) = true := lit_eq h14
                                have HB := Lib.hid (show bindsB s = 3 by rw [h14]; exact binds_in 2 (by omega) (by simp [opsL]) fun j hj => by match j, hj with | 0, _ => simp [opsL] | 1, _ => simp [opsL])
                                clear h0 h1 h2 h3 h4 h5 h6 h7 h8 h9 h10 h11 h12 h13 h14
                                go_enter Tryd.func43, Tryd.ntmps43
                                go_wp2_with fail
                                go_ret
                                exact ⟨by rw [HB.out]; rfl, rfl⟩
                              · have q14 : (s.toList == [60, 61]) = false := lit_ne h14
                                by_cases h15 : s = ⟨#[62]⟩
                                · have q15 : (s.toList == [62]) = true := lit_eq h15
                                  have HB := Lib.hid (show bindsB s = 3 by rw [h15]; exact binds_in 2 (by omega) (by simp [opsL]) fun j hj => by match j, hj with | 0, _ => simp [opsL] | 1, _ => simp [opsL])
                                  clear h0 h1 h2 h3 h4 h5 h6 h7 h8 h9 h10 h11 h12 h13 h14 h15
                                  go_enter Tryd.func43, Tryd.ntmps43
                                  go_wp2_with fail
                                  go_ret
                                  exact ⟨by rw [HB.out]; rfl, rfl⟩
                                · have q15 : (s.toList == [62]) = false := lit_ne h15
                                  by_cases h16 : s = ⟨#[62, 61]⟩
                                  · have q16 : (s.toList == [62, 61]) = true := lit_eq h16
                                    have HB := Lib.hid (show bindsB s = 3 by rw [h16]; exact binds_in 2 (by omega) (by simp [opsL]) fun j hj => by match j, hj with | 0, _ => simp [opsL] | 1, _ => simp [opsL])
                                    clear h0 h1 h2 h3 h4 h5 h6 h7 h8 h9 h10 h11 h12 h13 h14 h15 h16
                                    go_enter Tryd.func43, Tryd.ntmps43
                                    go_wp2_with fail
                                    go_ret
                                    exact ⟨by rw [HB.out]; rfl, rfl⟩
                                  · have q16 : (s.toList == [62, 61]) = false := lit_ne h16
                                    by_cases h17 : s = ⟨#[38, 38]⟩
                                    · have q17 : (s.toList == [38, 38]) = true := lit_eq h17
                                      have HB := Lib.hid (show bindsB s = 2 by rw [h17]; exact binds_in 3 (by omega) (by simp [opsL]) fun j hj => by match j, hj with | 0, _ => simp [opsL] | 1, _ => simp [opsL] | 2, _ => simp [opsL])
                                      clear h0 h1 h2 h3 h4 h5 h6 h7 h8 h9 h10 h11 h12 h13 h14 h15 h16 h17
                                      go_enter Tryd.func43, Tryd.ntmps43
                                      go_wp2_with fail
                                      go_ret
                                      exact ⟨by rw [HB.out]; rfl, rfl⟩
                                    · have q17 : (s.toList == [38, 38]) = false := lit_ne h17
                                      by_cases h18 : s = ⟨#[124, 124]⟩
                                      · have q18 : (s.toList == [124, 124]) = true := lit_eq h18
                                        have HB := Lib.hid (show bindsB s = 1 by rw [h18]; exact binds_in 4 (by omega) (by simp [opsL]) fun j hj => by match j, hj with | 0, _ => simp [opsL] | 1, _ => simp [opsL] | 2, _ => simp [opsL] | 3, _ => simp [opsL])
                                        clear h0 h1 h2 h3 h4 h5 h6 h7 h8 h9 h10 h11 h12 h13 h14 h15 h16 h17 h18
                                        go_enter Tryd.func43, Tryd.ntmps43
                                        go_wp2_with fail
                                        go_ret
                                        exact ⟨by rw [HB.out]; rfl, rfl⟩
                                      · have q18 : (s.toList == [124, 124]) = false := lit_ne h18
                                        have HB := Lib.hid (show bindsB s = 0 from binds_none (by intro i hi; match i, hi with | 0, _ => (simp [opsL]; exact ⟨h0, h1, h2, h3, h4, h5, h6⟩) | 1, _ => (simp [opsL]; exact ⟨h7, h8, h9, h10⟩) | 2, _ => (simp [opsL]; exact ⟨h11, h12, h13, h14, h15, h16⟩) | 3, _ => (simp [opsL]; exact h17) | 4, _ => (simp [opsL]; exact h18)))
                                        clear h0 h1 h2 h3 h4 h5 h6 h7 h8 h9 h10 h11 h12 h13 h14 h15 h16 h17 h18
                                        go_enter Tryd.func43, Tryd.ntmps43
                                        go_wp2_with fail
                                        go_ret
                                        exact ⟨by rw [HB.out]; rfl, rfl⟩
end Go.Proofs.YtgaodjoddfjfmaaDoor
