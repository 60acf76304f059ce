/-
  tree.text, tree.number: are the text and the number of a node what its kind says?
-/
import Derived.Test.YtgaodjoddfjfmaaDoorNStren
import Derived.Test.YtgaodjoddfjfmaaDoorNKinds
namespace Go.Proofs.YtgaodjoddfjfmaaDoor
open Go.RowKit
set_option linter.unusedVariables false
set_option linter.unusedSimpArgs false

def unL : List ByteArray := [⟨#[45]⟩, ⟨#[94]⟩, ⟨#[33]⟩]
def namedK (k : Int) : Bool := decide (k = 2 ∨ k = 3 ∨ k = 5 ∨ k = 8 ∨ k = 10 ∨ k = 21 ∨ k = 22 ∨ k = 30 ∨ k = 35 ∨ k = 37)
noncomputable def textF (k : Int) (s : ByteArray) (m : Nat) : Bool := if namedK k then nameW s else if k = 43 then s.toList.isEmpty || nameW s else if k = 33 then (decide (m = 1) && Lib.containsS unL s) || (decide (m = 2) && decide (0 < bindsB s)) else s.toList.isEmpty
def numF (k : Int) (n : Nat) : Bool := if k = 8 then decide (1 ≤ n ∧ n ≤ 3) else if k = 13 ∨ k = 27 ∨ k = 29 ∨ k = 32 then decide (n ≤ 1) else if k = 31 then true else decide (n = 0)
set_option maxRecDepth 100000 in
set_option maxHeartbeats 4000000 in
theorem text_any (w : World) (k : Int) (s : ByteArray) (n : Nat) (p : Int) (A : Option Addr) (m c : Nat) (hs : s.size ≤ 1048576) (hT : TabW w) (hO : OpsR w) :
    Calls Tryd.prog 47 #[.agg #[.int .i64 k, .string s, .int .u64 n, .int .i64 p, .slice A m c]] w fun e w' => e = .returned (.bool (textF k s m)) ∧ Chg (fun _ _ => False) w w' := by
  by_cases h2 : k = 2
  · subst h2
    have hb1 := Blk.new w 25 #[.int .i64 2, .string s, .int .u64 n, .int .i64 p, .slice A m c]
    have hc1 := chg_alloc w (.cells #[.int .i64 2, .string s, .int .u64 n, .int .i64 p, .slice A m c] 25)
    have H := Lib.hid (And.intro hb1 hc1)
    have hcall := sname_any s (w.alloc (.cells #[.int .i64 2, .string s, .int .u64 n, .int .i64 p, .slice A m c] 25)) hs (hT.keep0 hc1)
    clear hb1 hc1 hT hO
    go_enter Tryd.func47, Tryd.ntmps47
    go_wp2_with fail
    refine hcall.mono fun e w1 h => ?_
    obtain ⟨rfl, hc2⟩ := h
    clear hcall
    go_wp2_with fail
    go_ret
    exact ⟨by simp [textF, namedK], H.out.2.trans hc2⟩
  · have q2 : (k == 2) = false := by simp [h2]
    by_cases h3 : k = 3
    · subst h3
      have hb1 := Blk.new w 25 #[.int .i64 3, .string s, .int .u64 n, .int .i64 p, .slice A m c]
      have hc1 := chg_alloc w (.cells #[.int .i64 3, .string s, .int .u64 n, .int .i64 p, .slice A m c] 25)
      have H := Lib.hid (And.intro hb1 hc1)
      have hcall := sname_any s (w.alloc (.cells #[.int .i64 3, .string s, .int .u64 n, .int .i64 p, .slice A m c] 25)) hs (hT.keep0 hc1)
      clear hb1 hc1 hT hO
      go_enter Tryd.func47, Tryd.ntmps47
      go_wp2_with fail
      refine hcall.mono fun e w1 h => ?_
      obtain ⟨rfl, hc2⟩ := h
      clear hcall
      go_wp2_with fail
      go_ret
      exact ⟨by simp [textF, namedK], H.out.2.trans hc2⟩
    · have q3 : (k == 3) = false := by simp [h3]
      by_cases h5 : k = 5
      · subst h5
        have hb1 := Blk.new w 25 #[.int .i64 5, .string s, .int .u64 n, .int .i64 p, .slice A m c]
        have hc1 := chg_alloc w (.cells #[.int .i64 5, .string s, .int .u64 n, .int .i64 p, .slice A m c] 25)
        have H := Lib.hid (And.intro hb1 hc1)
        have hcall := sname_any s (w.alloc (.cells #[.int .i64 5, .string s, .int .u64 n, .int .i64 p, .slice A m c] 25)) hs (hT.keep0 hc1)
        clear hb1 hc1 hT hO
        go_enter Tryd.func47, Tryd.ntmps47
        go_wp2_with fail
        refine hcall.mono fun e w1 h => ?_
        obtain ⟨rfl, hc2⟩ := h
        clear hcall
        go_wp2_with fail
        go_ret
        exact ⟨by simp [textF, namedK], H.out.2.trans hc2⟩
      · have q5 : (k == 5) = false := by simp [h5]
        by_cases h8 : k = 8
        · subst h8
          have hb1 := Blk.new w 25 #[.int .i64 8, .string s, .int .u64 n, .int .i64 p, .slice A m c]
          have hc1 := chg_alloc w (.cells #[.int .i64 8, .string s, .int .u64 n, .int .i64 p, .slice A m c] 25)
          have H := Lib.hid (And.intro hb1 hc1)
          have hcall := sname_any s (w.alloc (.cells #[.int .i64 8, .string s, .int .u64 n, .int .i64 p, .slice A m c] 25)) hs (hT.keep0 hc1)
          clear hb1 hc1 hT hO
          go_enter Tryd.func47, Tryd.ntmps47
          go_wp2_with fail
          refine hcall.mono fun e w1 h => ?_
          obtain ⟨rfl, hc2⟩ := h
          clear hcall
          go_wp2_with fail
          go_ret
          exact ⟨by simp [textF, namedK], H.out.2.trans hc2⟩
        · have q8 : (k == 8) = false := by simp [h8]
          by_cases h10 : k = 10
          · subst h10
            have hb1 := Blk.new w 25 #[.int .i64 10, .string s, .int .u64 n, .int .i64 p, .slice A m c]
            have hc1 := chg_alloc w (.cells #[.int .i64 10, .string s, .int .u64 n, .int .i64 p, .slice A m c] 25)
            have H := Lib.hid (And.intro hb1 hc1)
            have hcall := sname_any s (w.alloc (.cells #[.int .i64 10, .string s, .int .u64 n, .int .i64 p, .slice A m c] 25)) hs (hT.keep0 hc1)
            clear hb1 hc1 hT hO
            go_enter Tryd.func47, Tryd.ntmps47
            go_wp2_with fail
            refine hcall.mono fun e w1 h => ?_
            obtain ⟨rfl, hc2⟩ := h
            clear hcall
            go_wp2_with fail
            go_ret
            exact ⟨by simp [textF, namedK], H.out.2.trans hc2⟩
          · have q10 : (k == 10) = false := by simp [h10]
            by_cases h21 : k = 21
            · subst h21
              have hb1 := Blk.new w 25 #[.int .i64 21, .string s, .int .u64 n, .int .i64 p, .slice A m c]
              have hc1 := chg_alloc w (.cells #[.int .i64 21, .string s, .int .u64 n, .int .i64 p, .slice A m c] 25)
              have H := Lib.hid (And.intro hb1 hc1)
              have hcall := sname_any s (w.alloc (.cells #[.int .i64 21, .string s, .int .u64 n, .int .i64 p, .slice A m c] 25)) hs (hT.keep0 hc1)
              clear hb1 hc1 hT hO
              go_enter Tryd.func47, Tryd.ntmps47
              go_wp2_with fail
              refine hcall.mono fun e w1 h => ?_
              obtain ⟨rfl, hc2⟩ := h
              clear hcall
              go_wp2_with fail
              go_ret
              exact ⟨by simp [textF, namedK], H.out.2.trans hc2⟩
            · have q21 : (k == 21) = false := by simp [h21]
              by_cases h22 : k = 22
              · subst h22
                have hb1 := Blk.new w 25 #[.int .i64 22, .string s, .int .u64 n, .int .i64 p, .slice A m c]
                have hc1 := chg_alloc w (.cells #[.int .i64 22, .string s, .int .u64 n, .int .i64 p, .slice A m c] 25)
                have H := Lib.hid (And.intro hb1 hc1)
                have hcall := sname_any s (w.alloc (.cells #[.int .i64 22, .string s, .int .u64 n, .int .i64 p, .slice A m c] 25)) hs (hT.keep0 hc1)
                clear hb1 hc1 hT hO
                go_enter Tryd.func47, Tryd.ntmps47
                go_wp2_with fail
                refine hcall.mono fun e w1 h => ?_
                obtain ⟨rfl, hc2⟩ := h
                clear hcall
                go_wp2_with fail
                go_ret
                exact ⟨by simp [textF, namedK], H.out.2.trans hc2⟩
              · have q22 : (k == 22) = false := by simp [h22]
                by_cases h30 : k = 30
                · subst h30
                  have hb1 := Blk.new w 25 #[.int .i64 30, .string s, .int .u64 n, .int .i64 p, .slice A m c]
                  have hc1 := chg_alloc w (.cells #[.int .i64 30, .string s, .int .u64 n, .int .i64 p, .slice A m c] 25)
                  have H := Lib.hid (And.intro hb1 hc1)
                  have hcall := sname_any s (w.alloc (.cells #[.int .i64 30, .string s, .int .u64 n, .int .i64 p, .slice A m c] 25)) hs (hT.keep0 hc1)
                  clear hb1 hc1 hT hO
                  go_enter Tryd.func47, Tryd.ntmps47
                  go_wp2_with fail
                  refine hcall.mono fun e w1 h => ?_
                  obtain ⟨rfl, hc2⟩ := h
                  clear hcall
                  go_wp2_with fail
                  go_ret
                  exact ⟨by simp [textF, namedK], H.out.2.trans hc2⟩
                · have q30 : (k == 30) = false := by simp [h30]
                  by_cases h35 : k = 35
                  · subst h35
                    have hb1 := Blk.new w 25 #[.int .i64 35, .string s, .int .u64 n, .int .i64 p, .slice A m c]
                    have hc1 := chg_alloc w (.cells #[.int .i64 35, .string s, .int .u64 n, .int .i64 p, .slice A m c] 25)
                    have H := Lib.hid (And.intro hb1 hc1)
                    have hcall := sname_any s (w.alloc (.cells #[.int .i64 35, .string s, .int .u64 n, .int .i64 p, .slice A m c] 25)) hs (hT.keep0 hc1)
                    clear hb1 hc1 hT hO
                    go_enter Tryd.func47, Tryd.ntmps47
                    go_wp2_with fail
                    refine hcall.mono fun e w1 h => ?_
                    obtain ⟨rfl, hc2⟩ := h
                    clear hcall
                    go_wp2_with fail
                    go_ret
                    exact ⟨by simp [textF, namedK], H.out.2.trans hc2⟩
                  · have q35 : (k == 35) = false := by simp [h35]
                    by_cases h37 : k = 37
                    · subst h37
                      have hb1 := Blk.new w 25 #[.int .i64 37, .string s, .int .u64 n, .int .i64 p, .slice A m c]
                      have hc1 := chg_alloc w (.cells #[.int .i64 37, .string s, .int .u64 n, .int .i64 p, .slice A m c] 25)
                      have H := Lib.hid (And.intro hb1 hc1)
                      have hcall := sname_any s (w.alloc (.cells #[.int .i64 37, .string s, .int .u64 n, .int .i64 p, .slice A m c] 25)) hs (hT.keep0 hc1)
                      clear hb1 hc1 hT hO
                      go_enter Tryd.func47, Tryd.ntmps47
                      go_wp2_with fail
                      refine hcall.mono fun e w1 h => ?_
                      obtain ⟨rfl, hc2⟩ := h
                      clear hcall
                      go_wp2_with fail
                      go_ret
                      exact ⟨by simp [textF, namedK], H.out.2.trans hc2⟩
                    · have q37 : (k == 37) = false := by simp [h37]
                      by_cases h43 : k = 43
                      · subst h43
                        by_cases he : s = ⟨#[]⟩
                        · have qe := strE_true he
                          clear he
                          have hb1 := Blk.new w 25 #[.int .i64 43, .string s, .int .u64 n, .int .i64 p, .slice A m c]
                          have hc1 := chg_alloc w (.cells #[.int .i64 43, .string s, .int .u64 n, .int .i64 p, .slice A m c] 25)
                          have H := Lib.hid (And.intro hb1 hc1)
                          clear hb1 hc1 hT hO
                          go_enter Tryd.func47, Tryd.ntmps47
                          go_wp2_with fail
                          go_ret
                          exact ⟨by simp [textF, namedK, qe], H.out.2⟩
                        · have qe := strE_false he
                          clear he
                          have hb1 := Blk.new w 25 #[.int .i64 43, .string s, .int .u64 n, .int .i64 p, .slice A m c]
                          have hc1 := chg_alloc w (.cells #[.int .i64 43, .string s, .int .u64 n, .int .i64 p, .slice A m c] 25)
                          have H := Lib.hid (And.intro hb1 hc1)
                          have hcall := sname_any s (w.alloc (.cells #[.int .i64 43, .string s, .int .u64 n, .int .i64 p, .slice A m c] 25)) hs (hT.keep0 hc1)
                          clear hb1 hc1 hT hO
                          go_enter Tryd.func47, Tryd.ntmps47
                          go_wp2_with fail
                          refine hcall.mono fun e w1 h => ?_
                          obtain ⟨rfl, hc2⟩ := h
                          clear hcall
                          go_wp2_with fail
                          go_ret
                          exact ⟨by simp [textF, namedK, qe], H.out.2.trans hc2⟩
                      · have q43 : (k == 43) = false := by simp [h43]
                        by_cases h33 : k = 33
                        · subst h33
                          by_cases m1 : m = 1
                          · subst m1
                            have hb1 := Blk.new w 25 #[.int .i64 33, .string s, .int .u64 n, .int .i64 p, .slice A 1 c]
                            have hc1 := chg_alloc w (.cells #[.int .i64 33, .string s, .int .u64 n, .int .i64 p, .slice A 1 c] 25)
                            have H := Lib.hid (And.intro hb1 hc1)
                            have hbs := Blk.new (w.alloc (.cells #[.int .i64 33, .string s, .int .u64 n, .int .i64 p, .slice A 1 c] 25)) 9 #[.string ⟨#[45]⟩, .string ⟨#[94]⟩, .string ⟨#[33]⟩]
                            have hc2 := chg_alloc (w.alloc (.cells #[.int .i64 33, .string s, .int .u64 n, .int .i64 p, .slice A 1 c] 25)) (.cells #[.string ⟨#[45]⟩, .string ⟨#[94]⟩, .string ⟨#[33]⟩] 9)
                            simp only [World.size_alloc] at hbs
                            have hbk := hc2.blk hb1 id
                            obtain ⟨y0, y1, y2, y3, y4⟩ := hbk.cells5
                            have hcall := Tryd.slices_Contains_string (w.heap.size + 1) 0 3 3 unL s ((w.alloc (.cells #[.int .i64 33, .string s, .int .u64 n, .int .i64 p, .slice A 1 c] 25)).alloc (.cells #[.string ⟨#[45]⟩, .string ⟨#[94]⟩, .string ⟨#[33]⟩] 9)) (by decide) (by decide) (fun j hj => by
                              rw [Nat.zero_add]
                              match j, hj with
                              | 0, _ => simp [unL]
                              | 1, _ => simp [unL]
                              | 2, _ => simp [unL])
                            have HC := Lib.hid (hc1.trans hc2)
                            clear hb1 hc1 hT hO hbs hc2 hbk
                            cases hc : Lib.containsS (unL.take 3) s with
                            | true =>
                              rw [hc] at hcall
                              have HX := Lib.hid (show Lib.containsS unL s = true from hc)
                              clear hc
                              go_enter Tryd.func47, Tryd.ntmps47
                              go_wp2_with fail
                              refine hcall.mono fun e w1 h => ?_
                              obtain ⟨rfl, rfl⟩ := h
                              clear hcall
                              go_wp2_with fail
                              go_ret
                              exact ⟨by simp [textF, namedK, HX.out], HC.out⟩
                            | false =>
                              rw [hc] at hcall
                              have HX := Lib.hid (show Lib.containsS unL s = false from hc)
                              clear hc
                              go_enter Tryd.func47, Tryd.ntmps47
                              go_wp2_with fail
                              refine hcall.mono fun e w1 h => ?_
                              obtain ⟨rfl, rfl⟩ := h
                              clear hcall
                              go_wp2_with fail
                              go_ret
                              exact ⟨by simp [textF, namedK, HX.out], HC.out⟩
                          · by_cases m2 : m = 2
                            · subst m2
                              clear m1
                              have hb1 := Blk.new w 25 #[.int .i64 33, .string s, .int .u64 n, .int .i64 p, .slice A 2 c]
                              have hc1 := chg_alloc w (.cells #[.int .i64 33, .string s, .int .u64 n, .int .i64 p, .slice A 2 c] 25)
                              have H := Lib.hid (And.intro hb1 hc1)
                              have hcall := binds_any s (w.alloc (.cells #[.int .i64 33, .string s, .int .u64 n, .int .i64 p, .slice A 2 c] 25)) (hO.keep0 hc1)
                              clear hb1 hc1 hT hO
                              go_enter Tryd.func47, Tryd.ntmps47
                              go_wp2_with fail
                              refine hcall.mono fun e w1 h => ?_
                              obtain ⟨rfl, hc2⟩ := h
                              clear hcall
                              go_wp2_with fail
                              go_ret
                              exact ⟨by simp [textF, namedK], H.out.2.trans hc2⟩
                            · have p1 : (m == 1) = false := by simp [m1]
                              have p2 : (m == 2) = false := by simp [m2]
                              have p1' : ((m : Int) == 1) = false := by simp; omega
                              have p2' : ((m : Int) == 2) = false := by simp; omega
                              have HM := Lib.hid (And.intro m1 m2)
                              clear m1 m2
                              have hb1 := Blk.new w 25 #[.int .i64 33, .string s, .int .u64 n, .int .i64 p, .slice A m c]
                              have hc1 := chg_alloc w (.cells #[.int .i64 33, .string s, .int .u64 n, .int .i64 p, .slice A m c] 25)
                              have H := Lib.hid (And.intro hb1 hc1)
                              clear hb1 hc1 hT hO
                              go_enter Tryd.func47, Tryd.ntmps47
                              go_wp2_with fail
                              go_ret
                              exact ⟨by simp [textF, namedK, HM.out.1, HM.out.2], H.out.2⟩
                        · have q33 : (k == 33) = false := by simp [h33]
                          have HK := Lib.hid (And.intro h2 (And.intro h3 (And.intro h5 (And.intro h8 (And.intro h10 (And.intro h21 (And.intro h22 (And.intro h30 (And.intro h35 (And.intro h37 (And.intro h43 h33)))))))))))
                          clear h2 h3 h5 h8 h10 h21 h22 h30 h35 h37 h43 h33
                          have hb1 := Blk.new w 25 #[.int .i64 k, .string s, .int .u64 n, .int .i64 p, .slice A m c]
                          have hc1 := chg_alloc w (.cells #[.int .i64 k, .string s, .int .u64 n, .int .i64 p, .slice A m c] 25)
                          have H := Lib.hid (And.intro hb1 hc1)
                          clear hb1 hc1 hT hO
                          go_enter Tryd.func47, Tryd.ntmps47
                          go_wp2_with fail
                          go_ret
                          refine ⟨?_, H.out.2⟩
                          obtain ⟨z2, z3, z5, z8, z10, z21, z22, z30, z35, z37, z43, z33⟩ := HK.out
                          simp [textF, namedK, z2, z3, z5, z8, z10, z21, z22, z30, z35, z37, z43, z33]
set_option maxRecDepth 100000 in
set_option maxHeartbeats 4000000 in
theorem number_any (w : World) (k : Int) (s : ByteArray) (n : Nat) (p : Int) (A : Option Addr) (m c : Nat) :
    Calls Tryd.prog 48 #[.agg #[.int .i64 k, .string s, .int .u64 n, .int .i64 p, .slice A m c]] w fun e w' => e = .returned (.bool (numF k n)) ∧ Chg (fun _ _ => False) w w' := by
  by_cases h8 : k = 8
  · subst h8
    by_cases n0 : n = 0
    · subst n0
      have hc1 := chg_alloc w (.cells #[.int .i64 8, .string s, .int .u64 ((0 : Nat) : Int), .int .i64 p, .slice A m c] 25)
      have H := Lib.hid hc1
      clear hc1
      go_enter Tryd.func48, Tryd.ntmps48
      go_wp2_with fail
      go_ret
      exact ⟨by simp [numF], H.out⟩
    · have u0 : (n == 0) = false := by simp [n0]
      by_cases n1 : n = 1
      · subst n1
        try clear n0
        have hc1 := chg_alloc w (.cells #[.int .i64 8, .string s, .int .u64 ((1 : Nat) : Int), .int .i64 p, .slice A m c] 25)
        have H := Lib.hid hc1
        clear hc1
        go_enter Tryd.func48, Tryd.ntmps48
        go_wp2_with fail
        go_ret
        exact ⟨by simp [numF], H.out⟩
      · have u1 : (n == 1) = false := by simp [n1]
        by_cases n2 : n = 2
        · subst n2
          try clear n0 n1
          have hc1 := chg_alloc w (.cells #[.int .i64 8, .string s, .int .u64 ((2 : Nat) : Int), .int .i64 p, .slice A m c] 25)
          have H := Lib.hid hc1
          clear hc1
          go_enter Tryd.func48, Tryd.ntmps48
          go_wp2_with fail
          go_ret
          exact ⟨by simp [numF], H.out⟩
        · have u2 : (n == 2) = false := by simp [n2]
          by_cases n3 : n = 3
          · subst n3
            try clear n0 n1 n2
            have hc1 := chg_alloc w (.cells #[.int .i64 8, .string s, .int .u64 ((3 : Nat) : Int), .int .i64 p, .slice A m c] 25)
            have H := Lib.hid hc1
            clear hc1
            go_enter Tryd.func48, Tryd.ntmps48
            go_wp2_with fail
            go_ret
            exact ⟨by simp [numF], H.out⟩
          · have u3 : (n == 3) = false := by simp [n3]
            have v0 : decide (n ≤ 0) = false := decide_eq_false (by omega)
            have v1 : decide (n ≤ 1) = false := decide_eq_false (by omega)
            have v2 : decide (n ≤ 2) = false := decide_eq_false (by omega)
            have v3 : decide (n ≤ 3) = false := decide_eq_false (by omega)
            have v0' : decide ((n : Int) ≤ 0) = false := decide_eq_false (by omega)
            have v1' : decide ((n : Int) ≤ 1) = false := decide_eq_false (by omega)
            have v2' : decide ((n : Int) ≤ 2) = false := decide_eq_false (by omega)
            have v3' : decide ((n : Int) ≤ 3) = false := decide_eq_false (by omega)
            have w1 : decide (1 ≤ n) = true := decide_eq_true (by omega)
            have w1' : decide ((1 : Int) ≤ (n : Int)) = true := decide_eq_true (by omega)
            have w0' : decide (0 < n) = true := decide_eq_true (by omega)
            have uu : ((n : Int) == 0) = false := by simp; omega
            have HN := Lib.hid (show 4 ≤ n by omega)
            clear n0 n1 n2 n3
            have hc1 := chg_alloc w (.cells #[.int .i64 8, .string s, .int .u64 n, .int .i64 p, .slice A m c] 25)
            have H := Lib.hid hc1
            clear hc1
            go_enter Tryd.func48, Tryd.ntmps48
            go_wp2_with fail
            go_ret
            refine ⟨?_, H.out⟩
            have := HN.out
            first
              | simp [numF]; done
              | (simp [numF]; omega)
  · have q8 : (k == 8) = false := by simp [h8]
    by_cases h13 : k = 13
    · subst h13
      by_cases n0 : n = 0
      · subst n0
        have hc1 := chg_alloc w (.cells #[.int .i64 13, .string s, .int .u64 ((0 : Nat) : Int), .int .i64 p, .slice A m c] 25)
        have H := Lib.hid hc1
        clear hc1
        go_enter Tryd.func48, Tryd.ntmps48
        go_wp2_with fail
        go_ret
        exact ⟨by simp [numF], H.out⟩
      · have u0 : (n == 0) = false := by simp [n0]
        by_cases n1 : n = 1
        · subst n1
          try clear n0
          have hc1 := chg_alloc w (.cells #[.int .i64 13, .string s, .int .u64 ((1 : Nat) : Int), .int .i64 p, .slice A m c] 25)
          have H := Lib.hid hc1
          clear hc1
          go_enter Tryd.func48, Tryd.ntmps48
          go_wp2_with fail
          go_ret
          exact ⟨by simp [numF], H.out⟩
        · have u1 : (n == 1) = false := by simp [n1]
          have v0 : decide (n ≤ 0) = false := decide_eq_false (by omega)
          have v1 : decide (n ≤ 1) = false := decide_eq_false (by omega)
          have v0' : decide ((n : Int) ≤ 0) = false := decide_eq_false (by omega)
          have v1' : decide ((n : Int) ≤ 1) = false := decide_eq_false (by omega)
          have w1 : decide (1 ≤ n) = true := decide_eq_true (by omega)
          have w1' : decide ((1 : Int) ≤ (n : Int)) = true := decide_eq_true (by omega)
          have w0' : decide (0 < n) = true := decide_eq_true (by omega)
          have uu : ((n : Int) == 0) = false := by simp; omega
          have HN := Lib.hid (show 2 ≤ n by omega)
          clear n0 n1
          have hc1 := chg_alloc w (.cells #[.int .i64 13, .string s, .int .u64 n, .int .i64 p, .slice A m c] 25)
          have H := Lib.hid hc1
          clear hc1
          go_enter Tryd.func48, Tryd.ntmps48
          go_wp2_with fail
          go_ret
          refine ⟨?_, H.out⟩
          have := HN.out
          first
            | simp [numF]; done
            | (simp [numF]; omega)
    · have q13 : (k == 13) = false := by simp [h13]
      by_cases h27 : k = 27
      · subst h27
        by_cases n0 : n = 0
        · subst n0
          have hc1 := chg_alloc w (.cells #[.int .i64 27, .string s, .int .u64 ((0 : Nat) : Int), .int .i64 p, .slice A m c] 25)
          have H := Lib.hid hc1
          clear hc1
          go_enter Tryd.func48, Tryd.ntmps48
          go_wp2_with fail
          go_ret
          exact ⟨by simp [numF], H.out⟩
        · have u0 : (n == 0) = false := by simp [n0]
          by_cases n1 : n = 1
          · subst n1
            try clear n0
            have hc1 := chg_alloc w (.cells #[.int .i64 27, .string s, .int .u64 ((1 : Nat) : Int), .int .i64 p, .slice A m c] 25)
            have H := Lib.hid hc1
            clear hc1
            go_enter Tryd.func48, Tryd.ntmps48
            go_wp2_with fail
            go_ret
            exact ⟨by simp [numF], H.out⟩
          · have u1 : (n == 1) = false := by simp [n1]
            have v0 : decide (n ≤ 0) = false := decide_eq_false (by omega)
            have v1 : decide (n ≤ 1) = false := decide_eq_false (by omega)
            have v0' : decide ((n : Int) ≤ 0) = false := decide_eq_false (by omega)
            have v1' : decide ((n : Int) ≤ 1) = false := decide_eq_false (by omega)
            have w1 : decide (1 ≤ n) = true := decide_eq_true (by omega)
            have w1' : decide ((1 : Int) ≤ (n : Int)) = true := decide_eq_true (by omega)
            have w0' : decide (0 < n) = true := decide_eq_true (by omega)
            have uu : ((n : Int) == 0) = false := by simp; omega
            have HN := Lib.hid (show 2 ≤ n by omega)
            clear n0 n1
            have hc1 := chg_alloc w (.cells #[.int .i64 27, .string s, .int .u64 n, .int .i64 p, .slice A m c] 25)
            have H := Lib.hid hc1
            clear hc1
            go_enter Tryd.func48, Tryd.ntmps48
            go_wp2_with fail
            go_ret
            refine ⟨?_, H.out⟩
            have := HN.out
            first
              | simp [numF]; done
              | (simp [numF]; omega)
      · have q27 : (k == 27) = false := by simp [h27]
        by_cases h29 : k = 29
        · subst h29
          by_cases n0 : n = 0
          · subst n0
            have hc1 := chg_alloc w (.cells #[.int .i64 29, .string s, .int .u64 ((0 : Nat) : Int), .int .i64 p, .slice A m c] 25)
            have H := Lib.hid hc1
            clear hc1
            go_enter Tryd.func48, Tryd.ntmps48
            go_wp2_with fail
            go_ret
            exact ⟨by simp [numF], H.out⟩
          · have u0 : (n == 0) = false := by simp [n0]
            by_cases n1 : n = 1
            · subst n1
              try clear n0
              have hc1 := chg_alloc w (.cells #[.int .i64 29, .string s, .int .u64 ((1 : Nat) : Int), .int .i64 p, .slice A m c] 25)
              have H := Lib.hid hc1
              clear hc1
              go_enter Tryd.func48, Tryd.ntmps48
              go_wp2_with fail
              go_ret
              exact ⟨by simp [numF], H.out⟩
            · have u1 : (n == 1) = false := by simp [n1]
              have v0 : decide (n ≤ 0) = false := decide_eq_false (by omega)
              have v1 : decide (n ≤ 1) = false := decide_eq_false (by omega)
              have v0' : decide ((n : Int) ≤ 0) = false := decide_eq_false (by omega)
              have v1' : decide ((n : Int) ≤ 1) = false := decide_eq_false (by omega)
              have w1 : decide (1 ≤ n) = true := decide_eq_true (by omega)
              have w1' : decide ((1 : Int) ≤ (n : Int)) = true := decide_eq_true (by omega)
              have w0' : decide (0 < n) = true := decide_eq_true (by omega)
              have uu : ((n : Int) == 0) = false := by simp; omega
              have HN := Lib.hid (show 2 ≤ n by omega)
              clear n0 n1
              have hc1 := chg_alloc w (.cells #[.int .i64 29, .string s, .int .u64 n, .int .i64 p, .slice A m c] 25)
              have H := Lib.hid hc1
              clear hc1
              go_enter Tryd.func48, Tryd.ntmps48
              go_wp2_with fail
              go_ret
              refine ⟨?_, H.out⟩
              have := HN.out
              first
                | simp [numF]; done
                | (simp [numF]; omega)
        · have q29 : (k == 29) = false := by simp [h29]
          by_cases h32 : k = 32
          · subst h32
            by_cases n0 : n = 0
            · subst n0
              have hc1 := chg_alloc w (.cells #[.int .i64 32, .string s, .int .u64 ((0 : Nat) : Int), .int .i64 p, .slice A m c] 25)
              have H := Lib.hid hc1
              clear hc1
              go_enter Tryd.func48, Tryd.ntmps48
              go_wp2_with fail
              go_ret
              exact ⟨by simp [numF], H.out⟩
            · have u0 : (n == 0) = false := by simp [n0]
              by_cases n1 : n = 1
              · subst n1
                try clear n0
                have hc1 := chg_alloc w (.cells #[.int .i64 32, .string s, .int .u64 ((1 : Nat) : Int), .int .i64 p, .slice A m c] 25)
                have H := Lib.hid hc1
                clear hc1
                go_enter Tryd.func48, Tryd.ntmps48
                go_wp2_with fail
                go_ret
                exact ⟨by simp [numF], H.out⟩
              · have u1 : (n == 1) = false := by simp [n1]
                have v0 : decide (n ≤ 0) = false := decide_eq_false (by omega)
                have v1 : decide (n ≤ 1) = false := decide_eq_false (by omega)
                have v0' : decide ((n : Int) ≤ 0) = false := decide_eq_false (by omega)
                have v1' : decide ((n : Int) ≤ 1) = false := decide_eq_false (by omega)
                have w1 : decide (1 ≤ n) = true := decide_eq_true (by omega)
                have w1' : decide ((1 : Int) ≤ (n : Int)) = true := decide_eq_true (by omega)
                have w0' : decide (0 < n) = true := decide_eq_true (by omega)
                have uu : ((n : Int) == 0) = false := by simp; omega
                have HN := Lib.hid (show 2 ≤ n by omega)
                clear n0 n1
                have hc1 := chg_alloc w (.cells #[.int .i64 32, .string s, .int .u64 n, .int .i64 p, .slice A m c] 25)
                have H := Lib.hid hc1
                clear hc1
                go_enter Tryd.func48, Tryd.ntmps48
                go_wp2_with fail
                go_ret
                refine ⟨?_, H.out⟩
                have := HN.out
                first
                  | simp [numF]; done
                  | (simp [numF]; omega)
          · have q32 : (k == 32) = false := by simp [h32]
            by_cases h31 : k = 31
            · subst h31
              have hc1 := chg_alloc w (.cells #[.int .i64 31, .string s, .int .u64 n, .int .i64 p, .slice A m c] 25)
              have H := Lib.hid hc1
              clear hc1
              go_enter Tryd.func48, Tryd.ntmps48
              go_wp2_with fail
              go_ret
              exact ⟨by simp [numF], H.out⟩
            · have q31 : (k == 31) = false := by simp [h31]
              have HK := Lib.hid (And.intro h8 (And.intro h13 (And.intro h27 (And.intro h29 (And.intro h32 h31)))))
              clear h8 h13 h27 h29 h32 h31
              obtain ⟨z8, z13, z27, z29, z32, z31⟩ := HK.out
              have HK2 := Lib.hid HK.out
              clear z8 z13 z27 z29 z32 z31
              by_cases n0 : n = 0
              · subst n0
                have hc1 := chg_alloc w (.cells #[.int .i64 k, .string s, .int .u64 ((0 : Nat) : Int), .int .i64 p, .slice A m c] 25)
                have H := Lib.hid hc1
                clear hc1
                go_enter Tryd.func48, Tryd.ntmps48
                go_wp2_with fail
                go_ret
                exact ⟨by simp [numF, HK.out.1, HK.out.2.1, HK.out.2.2.1, HK.out.2.2.2.1, HK.out.2.2.2.2.1, HK.out.2.2.2.2.2], H.out⟩
              · have u0 : (n == 0) = false := by simp [n0]
                have v0 : decide (n ≤ 0) = false := decide_eq_false (by omega)
                have v0' : decide ((n : Int) ≤ 0) = false := decide_eq_false (by omega)
                have w1 : decide (1 ≤ n) = true := decide_eq_true (by omega)
                have w1' : decide ((1 : Int) ≤ (n : Int)) = true := decide_eq_true (by omega)
                have w0' : decide (0 < n) = true := decide_eq_true (by omega)
                have uu : ((n : Int) == 0) = false := by simp; omega
                have HN := Lib.hid (show 1 ≤ n by omega)
                clear n0
                have hc1 := chg_alloc w (.cells #[.int .i64 k, .string s, .int .u64 n, .int .i64 p, .slice A m c] 25)
                have H := Lib.hid hc1
                clear hc1
                go_enter Tryd.func48, Tryd.ntmps48
                go_wp2_with fail
                go_ret
                refine ⟨?_, H.out⟩
                have := HN.out
                first
                  | simp [numF, HK.out.1, HK.out.2.1, HK.out.2.2.1, HK.out.2.2.2.1, HK.out.2.2.2.2.1, HK.out.2.2.2.2.2]; done
                  | (simp [numF, HK.out.1, HK.out.2.1, HK.out.2.2.1, HK.out.2.2.2.1, HK.out.2.2.2.2.1, HK.out.2.2.2.2.2]; omega)
end Go.Proofs.YtgaodjoddfjfmaaDoor
