/-
  tree.list: are the nodes in a node what its kind says?
-/
import Derived.Test.YtgaodjoddfjfmaaDoorNList1
import Derived.Test.YtgaodjoddfjfmaaDoorNList2
import Derived.Test.YtgaodjoddfjfmaaDoorNList3
import Derived.Test.YtgaodjoddfjfmaaDoorNList4
namespace Go.Proofs.YtgaodjoddfjfmaaDoor
open Go.RowKit
set_option linter.unusedVariables false
set_option linter.unusedSimpArgs false

/-- Are the nodes in a node what its kind says? -/
noncomputable def listF (k : Int) (num : Nat) (l : List Nd) : Bool :=
  if k = 1 then (l.all fun x => isTopK x.kind) else if k = 2 then (decide (l.length ≤ 16) && l.all fun x => x.kind == 5) else if k = 3 then (kindsF l [4, 6, 7, 20]) else if k = 4 then (decide (l.length ≤ 16) && l.all fun x => x.kind == 8) else if k = 5 then (kindsF l [-2]) else if k = 6 then (decide (l.length ≤ 16) && l.all fun x => x.kind == 5) else if k = 7 then (decide (l.length = 0) || kindsF l [-2]) else if k = 8 then (decide (l.length = 0)) else if k = 10 then (decide (l.length = 0)) else if k = 11 then (kindsF l [-2]) else if k = 12 then (kindsF l [-2]) else if k = 13 then (decide (num ≤ l.length) && decide (l.length ≤ 16 + num) && l.all fun x => isTypeK x.kind) else if k = 20 then (l.all fun x => isStmtK x.kind) else if k = 21 then (kindsF l [-1]) else if k = 22 then (kindsF l [-2]) else if k = 23 then (kindsF l [-1, -1] && firstK l fun k => decide (k = 30) || (decide (k = 35) || decide (k = 36))) else if k = 24 then (kindsF l [34] || kindsF l [39]) else if k = 25 then (kindsF l [-1, 20] || kindsF l [-1, 20, 20] || kindsF l [-1, 20, 25]) else if k = 26 then (kindsF l [-1, 20]) else if k = 27 then (decide (l.length = 0)) else if k = 28 then (decide (l.length = 0) || kindsF l [-1]) else if k = 29 then (kindsF l [34]) else if k = 30 then (decide (l.length = 0)) else if k = 31 then (decide (l.length = 0)) else if k = 32 then (decide (l.length = 0)) else if k = 33 then (l.all fun x => isExprK x.kind) else if k = 34 then (decide (1 ≤ l.length) && decide (l.length ≤ 17) && l.all fun x => isExprK x.kind) else if k = 35 then (kindsF l [-1]) else if k = 36 then (decide (2 ≤ l.length) && decide (l.length ≤ 17) && (firstK l isExprK) && l.tail.all fun x => isArgK x.kind) else if k = 37 then (decide (l.length ≤ 16) && l.all fun x => isExprK x.kind) else if k = 38 then (kindsF l [6, 7, 20]) else if k = 39 then (kindsF l [-1]) else if k = 40 then (kindsF l [-2, -1]) else if k = 41 then (kindsF l [-1, -1]) else if k = 42 then (casesF l) else if k = 43 then (kindsF l [-1, 20]) else if k = 44 then (kindsF l [-1, -1, 20]) else if k = 45 then (kindsF l [20]) else false
set_option maxRecDepth 100000 in
set_option maxHeartbeats 4000000 in
theorem list_any (k : Int) (n B : Nat) (w : World) (s : ByteArray) (num : Nat) (p : Int) (A : Option Addr) (c : Nat) (l : List Nd) (hB : B ≤ w.heap.size) (hl : NdsR n B w (.slice A l.length c) l) (hll : l.length ≤ 1048576) (hnum : k = 13 → num ≤ 1) :
    Calls Tryd.prog 49 #[.agg #[.int .i64 k, .string s, .int .u64 num, .int .i64 p, .slice A l.length c]] w fun e w' => e = .returned (.bool (listF k num l)) ∧ Chg (fun _ _ => False) w w' := by
  by_cases h1 : k = 1
  · subst h1
    have HR : listF 1 num l = (l.all fun x => isTopK x.kind) := by unfold listF; simp only [reduceIte, Int.reduceEq]
    rw [HR]
    exact list_1 n B w s num p A c l hB hl hll
  · have q1 : (k == 1) = false := by simp [h1]
    by_cases h2 : k = 2
    · subst h2
      have HR : listF 2 num l = (decide (l.length ≤ 16) && l.all fun x => x.kind == 5) := by unfold listF; simp only [reduceIte, Int.reduceEq]
      rw [HR]
      exact list_2 n B w s num p A c l hB hl hll
    · have q2 : (k == 2) = false := by simp [h2]
      by_cases h3 : k = 3
      · subst h3
        have HR : listF 3 num l = (kindsF l [4, 6, 7, 20]) := by unfold listF; simp only [reduceIte, Int.reduceEq]
        rw [HR]
        exact list_3 n B w s num p A c l hB hl hll
      · have q3 : (k == 3) = false := by simp [h3]
        by_cases h4 : k = 4
        · subst h4
          have HR : listF 4 num l = (decide (l.length ≤ 16) && l.all fun x => x.kind == 8) := by unfold listF; simp only [reduceIte, Int.reduceEq]
          rw [HR]
          exact list_4 n B w s num p A c l hB hl hll
        · have q4 : (k == 4) = false := by simp [h4]
          by_cases h5 : k = 5
          · subst h5
            have HR : listF 5 num l = (kindsF l [-2]) := by unfold listF; simp only [reduceIte, Int.reduceEq]
            rw [HR]
            exact list_5 n B w s num p A c l hB hl hll
          · have q5 : (k == 5) = false := by simp [h5]
            by_cases h6 : k = 6
            · subst h6
              have HR : listF 6 num l = (decide (l.length ≤ 16) && l.all fun x => x.kind == 5) := by unfold listF; simp only [reduceIte, Int.reduceEq]
              rw [HR]
              exact list_6 n B w s num p A c l hB hl hll
            · have q6 : (k == 6) = false := by simp [h6]
              by_cases h7 : k = 7
              · subst h7
                have HR : listF 7 num l = (decide (l.length = 0) || kindsF l [-2]) := by unfold listF; simp only [reduceIte, Int.reduceEq]
                rw [HR]
                exact list_7 n B w s num p A c l hB hl hll
              · have q7 : (k == 7) = false := by simp [h7]
                by_cases h8 : k = 8
                · subst h8
                  have HR : listF 8 num l = (decide (l.length = 0)) := by unfold listF; simp only [reduceIte, Int.reduceEq]
                  rw [HR]
                  exact list_8 n B w s num p A c l hB hl hll
                · have q8 : (k == 8) = false := by simp [h8]
                  by_cases h10 : k = 10
                  · subst h10
                    have HR : listF 10 num l = (decide (l.length = 0)) := by unfold listF; simp only [reduceIte, Int.reduceEq]
                    rw [HR]
                    exact list_10 n B w s num p A c l hB hl hll
                  · have q10 : (k == 10) = false := by simp [h10]
                    by_cases h11 : k = 11
                    · subst h11
                      have HR : listF 11 num l = (kindsF l [-2]) := by unfold listF; simp only [reduceIte, Int.reduceEq]
                      rw [HR]
                      exact list_11 n B w s num p A c l hB hl hll
                    · have q11 : (k == 11) = false := by simp [h11]
                      by_cases h12 : k = 12
                      · subst h12
                        have HR : listF 12 num l = (kindsF l [-2]) := by unfold listF; simp only [reduceIte, Int.reduceEq]
                        rw [HR]
                        exact list_12 n B w s num p A c l hB hl hll
                      · have q12 : (k == 12) = false := by simp [h12]
                        by_cases h13 : k = 13
                        · subst h13
                          have HR : listF 13 num l = (decide (num ≤ l.length) && decide (l.length ≤ 16 + num) && l.all fun x => isTypeK x.kind) := by unfold listF; simp only [reduceIte, Int.reduceEq]
                          rw [HR]
                          exact list_13 n B w s num p A c l hB hl hll (by have := hnum rfl; omega)
                        · have q13 : (k == 13) = false := by simp [h13]
                          by_cases h20 : k = 20
                          · subst h20
                            have HR : listF 20 num l = (l.all fun x => isStmtK x.kind) := by unfold listF; simp only [reduceIte, Int.reduceEq]
                            rw [HR]
                            exact list_20 n B w s num p A c l hB hl hll
                          · have q20 : (k == 20) = false := by simp [h20]
                            by_cases h21 : k = 21
                            · subst h21
                              have HR : listF 21 num l = (kindsF l [-1]) := by unfold listF; simp only [reduceIte, Int.reduceEq]
                              rw [HR]
                              exact list_21 n B w s num p A c l hB hl hll
                            · have q21 : (k == 21) = false := by simp [h21]
                              by_cases h22 : k = 22
                              · subst h22
                                have HR : listF 22 num l = (kindsF l [-2]) := by unfold listF; simp only [reduceIte, Int.reduceEq]
                                rw [HR]
                                exact list_22 n B w s num p A c l hB hl hll
                              · have q22 : (k == 22) = false := by simp [h22]
                                by_cases h23 : k = 23
                                · subst h23
                                  have HR : listF 23 num l = (kindsF l [-1, -1] && firstK l fun k => decide (k = 30) || (decide (k = 35) || decide (k = 36))) := by unfold listF; simp only [reduceIte, Int.reduceEq]
                                  rw [HR]
                                  exact list_23 n B w s num p A c l hB hl hll
                                · have q23 : (k == 23) = false := by simp [h23]
                                  by_cases h24 : k = 24
                                  · subst h24
                                    have HR : listF 24 num l = (kindsF l [34] || kindsF l [39]) := by unfold listF; simp only [reduceIte, Int.reduceEq]
                                    rw [HR]
                                    exact list_24 n B w s num p A c l hB hl hll
                                  · have q24 : (k == 24) = false := by simp [h24]
                                    by_cases h25 : k = 25
                                    · subst h25
                                      have HR : listF 25 num l = (kindsF l [-1, 20] || kindsF l [-1, 20, 20] || kindsF l [-1, 20, 25]) := by unfold listF; simp only [reduceIte, Int.reduceEq]
                                      rw [HR]
                                      exact list_25 n B w s num p A c l hB hl hll
                                    · have q25 : (k == 25) = false := by simp [h25]
                                      by_cases h26 : k = 26
                                      · subst h26
                                        have HR : listF 26 num l = (kindsF l [-1, 20]) := by unfold listF; simp only [reduceIte, Int.reduceEq]
                                        rw [HR]
                                        exact list_26 n B w s num p A c l hB hl hll
                                      · have q26 : (k == 26) = false := by simp [h26]
                                        by_cases h27 : k = 27
                                        · subst h27
                                          have HR : listF 27 num l = (decide (l.length = 0)) := by unfold listF; simp only [reduceIte, Int.reduceEq]
                                          rw [HR]
                                          exact list_27 n B w s num p A c l hB hl hll
                                        · have q27 : (k == 27) = false := by simp [h27]
                                          by_cases h28 : k = 28
                                          · subst h28
                                            have HR : listF 28 num l = (decide (l.length = 0) || kindsF l [-1]) := by unfold listF; simp only [reduceIte, Int.reduceEq]
                                            rw [HR]
                                            exact list_28 n B w s num p A c l hB hl hll
                                          · have q28 : (k == 28) = false := by simp [h28]
                                            by_cases h29 : k = 29
                                            · subst h29
                                              have HR : listF 29 num l = (kindsF l [34]) := by unfold listF; simp only [reduceIte, Int.reduceEq]
                                              rw [HR]
                                              exact list_29 n B w s num p A c l hB hl hll
                                            · have q29 : (k == 29) = false := by simp [h29]
                                              by_cases h30 : k = 30
                                              · subst h30
                                                have HR : listF 30 num l = (decide (l.length = 0)) := by unfold listF; simp only [reduceIte, Int.reduceEq]
                                                rw [HR]
                                                exact list_30 n B w s num p A c l hB hl hll
                                              · have q30 : (k == 30) = false := by simp [h30]
                                                by_cases h31 : k = 31
                                                · subst h31
                                                  have HR : listF 31 num l = (decide (l.length = 0)) := by unfold listF; simp only [reduceIte, Int.reduceEq]
                                                  rw [HR]
                                                  exact list_31 n B w s num p A c l hB hl hll
                                                · have q31 : (k == 31) = false := by simp [h31]
                                                  by_cases h32 : k = 32
                                                  · subst h32
                                                    have HR : listF 32 num l = (decide (l.length = 0)) := by unfold listF; simp only [reduceIte, Int.reduceEq]
                                                    rw [HR]
                                                    exact list_32 n B w s num p A c l hB hl hll
                                                  · have q32 : (k == 32) = false := by simp [h32]
                                                    by_cases h33 : k = 33
                                                    · subst h33
                                                      have HR : listF 33 num l = (l.all fun x => isExprK x.kind) := by unfold listF; simp only [reduceIte, Int.reduceEq]
                                                      rw [HR]
                                                      exact list_33 n B w s num p A c l hB hl hll
                                                    · have q33 : (k == 33) = false := by simp [h33]
                                                      by_cases h34 : k = 34
                                                      · subst h34
                                                        have HR : listF 34 num l = (decide (1 ≤ l.length) && decide (l.length ≤ 17) && l.all fun x => isExprK x.kind) := by unfold listF; simp only [reduceIte, Int.reduceEq]
                                                        rw [HR]
                                                        exact list_34 n B w s num p A c l hB hl hll
                                                      · have q34 : (k == 34) = false := by simp [h34]
                                                        by_cases h35 : k = 35
                                                        · subst h35
                                                          have HR : listF 35 num l = (kindsF l [-1]) := by unfold listF; simp only [reduceIte, Int.reduceEq]
                                                          rw [HR]
                                                          exact list_35 n B w s num p A c l hB hl hll
                                                        · have q35 : (k == 35) = false := by simp [h35]
                                                          by_cases h36 : k = 36
                                                          · subst h36
                                                            have HR : listF 36 num l = (decide (2 ≤ l.length) && decide (l.length ≤ 17) && (firstK l isExprK) && l.tail.all fun x => isArgK x.kind) := by unfold listF; simp only [reduceIte, Int.reduceEq]
                                                            rw [HR]
                                                            exact list_36 n B w s num p A c l hB hl hll
                                                          · have q36 : (k == 36) = false := by simp [h36]
                                                            by_cases h37 : k = 37
                                                            · subst h37
                                                              have HR : listF 37 num l = (decide (l.length ≤ 16) && l.all fun x => isExprK x.kind) := by unfold listF; simp only [reduceIte, Int.reduceEq]
                                                              rw [HR]
                                                              exact list_37 n B w s num p A c l hB hl hll
                                                            · have q37 : (k == 37) = false := by simp [h37]
                                                              by_cases h38 : k = 38
                                                              · subst h38
                                                                have HR : listF 38 num l = (kindsF l [6, 7, 20]) := by unfold listF; simp only [reduceIte, Int.reduceEq]
                                                                rw [HR]
                                                                exact list_38 n B w s num p A c l hB hl hll
                                                              · have q38 : (k == 38) = false := by simp [h38]
                                                                by_cases h39 : k = 39
                                                                · subst h39
                                                                  have HR : listF 39 num l = (kindsF l [-1]) := by unfold listF; simp only [reduceIte, Int.reduceEq]
                                                                  rw [HR]
                                                                  exact list_39 n B w s num p A c l hB hl hll
                                                                · have q39 : (k == 39) = false := by simp [h39]
                                                                  by_cases h40 : k = 40
                                                                  · subst h40
                                                                    have HR : listF 40 num l = (kindsF l [-2, -1]) := by unfold listF; simp only [reduceIte, Int.reduceEq]
                                                                    rw [HR]
                                                                    exact list_40 n B w s num p A c l hB hl hll
                                                                  · have q40 : (k == 40) = false := by simp [h40]
                                                                    by_cases h41 : k = 41
                                                                    · subst h41
                                                                      have HR : listF 41 num l = (kindsF l [-1, -1]) := by unfold listF; simp only [reduceIte, Int.reduceEq]
                                                                      rw [HR]
                                                                      exact list_41 n B w s num p A c l hB hl hll
                                                                    · have q41 : (k == 41) = false := by simp [h41]
                                                                      by_cases h42 : k = 42
                                                                      · subst h42
                                                                        have HR : listF 42 num l = (casesF l) := by unfold listF; simp only [reduceIte, Int.reduceEq]
                                                                        rw [HR]
                                                                        exact list_42 n B w s num p A c l hB hl hll
                                                                      · have q42 : (k == 42) = false := by simp [h42]
                                                                        by_cases h43 : k = 43
                                                                        · subst h43
                                                                          have HR : listF 43 num l = (kindsF l [-1, 20]) := by unfold listF; simp only [reduceIte, Int.reduceEq]
                                                                          rw [HR]
                                                                          exact list_43 n B w s num p A c l hB hl hll
                                                                        · have q43 : (k == 43) = false := by simp [h43]
                                                                          by_cases h44 : k = 44
                                                                          · subst h44
                                                                            have HR : listF 44 num l = (kindsF l [-1, -1, 20]) := by unfold listF; simp only [reduceIte, Int.reduceEq]
                                                                            rw [HR]
                                                                            exact list_44 n B w s num p A c l hB hl hll
                                                                          · have q44 : (k == 44) = false := by simp [h44]
                                                                            by_cases h45 : k = 45
                                                                            · subst h45
                                                                              have HR : listF 45 num l = (kindsF l [20]) := by unfold listF; simp only [reduceIte, Int.reduceEq]
                                                                              rw [HR]
                                                                              exact list_45 n B w s num p A c l hB hl hll
                                                                            · have q45 : (k == 45) = false := by simp [h45]
                                                                              have HR := Lib.hid (show listF k num l = false by unfold listF; simp only [if_neg h1, if_neg h2, if_neg h3, if_neg h4, if_neg h5, if_neg h6, if_neg h7, if_neg h8, if_neg h10, if_neg h11, if_neg h12, if_neg h13, if_neg h20, if_neg h21, if_neg h22, if_neg h23, if_neg h24, if_neg h25, if_neg h26, if_neg h27, if_neg h28, if_neg h29, if_neg h30, if_neg h31, if_neg h32, if_neg h33, if_neg h34, if_neg h35, if_neg h36, if_neg h37, if_neg h38, if_neg h39, if_neg h40, if_neg h41, if_neg h42, if_neg h43, if_neg h44, if_neg h45])
                                                                              clear h1 h2 h3 h4 h5 h6 h7 h8 h10 h11 h12 h13 h20 h21 h22 h23 h24 h25 h26 h27 h28 h29 h30 h31 h32 h33 h34 h35 h36 h37 h38 h39 h40 h41 h42 h43 h44 h45 hnum
                                                                              have hc1 := chg_alloc w (.cells #[.int .i64 k, .string s, .int .u64 num, .int .i64 p, .slice A l.length c] 25)
                                                                              have HC := Lib.hid hc1
                                                                              clear hc1 hB hl
                                                                              go_enter Tryd.func49, Tryd.ntmps49
                                                                              go_wp2_with fail
                                                                              go_ret
                                                                              exact ⟨by rw [HR.out]; rfl, HC.out⟩
end Go.Proofs.YtgaodjoddfjfmaaDoor
