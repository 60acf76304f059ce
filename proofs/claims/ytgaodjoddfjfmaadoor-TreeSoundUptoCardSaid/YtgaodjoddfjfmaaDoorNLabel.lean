/-
  The reference's label: are the text and the number of a node as the table has them?
-/
import Derived.Test.YtgaodjoddfjfmaaDoorNText
namespace Go.Proofs.YtgaodjoddfjfmaaDoor
open Go.RowKit
set_option linter.unusedVariables false
set_option linter.unusedSimpArgs false

set_option maxRecDepth 100000 in
set_option maxHeartbeats 2000000 in
theorem label_2 (w : World) (s : ByteArray) (n : Nat) (p : Int) (A : Option Addr) (m c : Nat) :
    Calls Tryd.prog 39 #[.agg #[.int .i64 2, .string s, .int .u64 n, .int .i64 p, .slice A m c]] w fun e w' => e = .returned (.bool (textF 2 s m && numF 2 n)) ∧ Chg (fun _ _ => False) w w' := by
  cases hn : nameW s with
  | true =>
    have HN := Lib.hid hn
    by_cases n0 : n = 0
    · subst n0
      have hc1 := chg_alloc w (.cells #[.int .i64 2, .string s, .int .u64 ((0 : Nat) : Int), .int .i64 p, .slice A m c] 25)
      have hb1 := Blk.new w 25 #[.int .i64 2, .string s, .int .u64 ((0 : Nat) : Int), .int .i64 p, .slice A m c]
      have hcall := rname3_any s (w.alloc (.cells #[.int .i64 2, .string s, .int .u64 ((0 : Nat) : Int), .int .i64 p, .slice A m c] 25))
      rw [hn] at hcall
      clear hn
      have HC := Lib.hid (And.intro hc1 hb1)
      clear hc1 hb1
      go_enter Tryd.func39, Tryd.ntmps39
      go_wp2_with fail
      refine hcall.mono fun e w1 h => ?_
      obtain ⟨rfl, hc2⟩ := h
      clear hcall
      obtain ⟨y0, y1, y2, y3, y4⟩ := (hc2.blk HC.out.2 id).cells5
      have HD := Lib.hid (HC.out.1.trans hc2)
      clear hc2
      go_wp2_with fail
      go_ret
      exact ⟨by simp [textF, numF, namedK, HN.out], HD.out⟩
    · skip
      have u0 : (n == 0) = false := by simp; omega
      have uu : ((n : Int) == 0) = false := by simp; omega
      have v0 : decide (n ≤ 0) = false := decide_eq_false (by omega)
      have v0' : decide ((n : Int) ≤ 0) = false := decide_eq_false (by omega)
      have w1 : decide (1 ≤ n) = true := decide_eq_true (by omega)
      have w1' : decide ((1 : Int) ≤ (n : Int)) = true := decide_eq_true (by omega)
      have w0' : decide (0 < n) = true := decide_eq_true (by omega)
      have HZ := Lib.hid (show 1 ≤ n by omega)
      have HZ0 := Lib.hid (show ¬ n = 0 by omega)
      have HZ1 := Lib.hid (show ¬ n ≤ 0 by omega)
      clear n0
      have hc1 := chg_alloc w (.cells #[.int .i64 2, .string s, .int .u64 n, .int .i64 p, .slice A m c] 25)
      have hb1 := Blk.new w 25 #[.int .i64 2, .string s, .int .u64 n, .int .i64 p, .slice A m c]
      have hcall := rname3_any s (w.alloc (.cells #[.int .i64 2, .string s, .int .u64 n, .int .i64 p, .slice A m c] 25))
      rw [hn] at hcall
      clear hn
      have HC := Lib.hid (And.intro hc1 hb1)
      clear hc1 hb1
      go_enter Tryd.func39, Tryd.ntmps39
      go_wp2_with fail
      refine hcall.mono fun e w1 h => ?_
      obtain ⟨rfl, hc2⟩ := h
      clear hcall
      obtain ⟨y0, y1, y2, y3, y4⟩ := (hc2.blk HC.out.2 id).cells5
      have HD := Lib.hid (HC.out.1.trans hc2)
      clear hc2
      go_wp2_with fail
      go_ret
      exact ⟨by simp [textF, numF, namedK, HN.out, HZ0.out, HZ1.out], HD.out⟩
  | false =>
    have HN := Lib.hid hn
    by_cases n0 : n = 0
    · subst n0
      have hc1 := chg_alloc w (.cells #[.int .i64 2, .string s, .int .u64 ((0 : Nat) : Int), .int .i64 p, .slice A m c] 25)
      have hb1 := Blk.new w 25 #[.int .i64 2, .string s, .int .u64 ((0 : Nat) : Int), .int .i64 p, .slice A m c]
      have hcall := rname3_any s (w.alloc (.cells #[.int .i64 2, .string s, .int .u64 ((0 : Nat) : Int), .int .i64 p, .slice A m c] 25))
      rw [hn] at hcall
      clear hn
      have HC := Lib.hid (And.intro hc1 hb1)
      clear hc1 hb1
      go_enter Tryd.func39, Tryd.ntmps39
      go_wp2_with fail
      refine hcall.mono fun e w1 h => ?_
      obtain ⟨rfl, hc2⟩ := h
      clear hcall
      obtain ⟨y0, y1, y2, y3, y4⟩ := (hc2.blk HC.out.2 id).cells5
      have HD := Lib.hid (HC.out.1.trans hc2)
      clear hc2
      go_wp2_with fail
      go_ret
      exact ⟨by simp [textF, numF, namedK, HN.out], HD.out⟩
    · skip
      have u0 : (n == 0) = false := by simp; omega
      have uu : ((n : Int) == 0) = false := by simp; omega
      have v0 : decide (n ≤ 0) = false := decide_eq_false (by omega)
      have v0' : decide ((n : Int) ≤ 0) = false := decide_eq_false (by omega)
      have w1 : decide (1 ≤ n) = true := decide_eq_true (by omega)
      have w1' : decide ((1 : Int) ≤ (n : Int)) = true := decide_eq_true (by omega)
      have w0' : decide (0 < n) = true := decide_eq_true (by omega)
      have HZ := Lib.hid (show 1 ≤ n by omega)
      have HZ0 := Lib.hid (show ¬ n = 0 by omega)
      have HZ1 := Lib.hid (show ¬ n ≤ 0 by omega)
      clear n0
      have hc1 := chg_alloc w (.cells #[.int .i64 2, .string s, .int .u64 n, .int .i64 p, .slice A m c] 25)
      have hb1 := Blk.new w 25 #[.int .i64 2, .string s, .int .u64 n, .int .i64 p, .slice A m c]
      have hcall := rname3_any s (w.alloc (.cells #[.int .i64 2, .string s, .int .u64 n, .int .i64 p, .slice A m c] 25))
      rw [hn] at hcall
      clear hn
      have HC := Lib.hid (And.intro hc1 hb1)
      clear hc1 hb1
      go_enter Tryd.func39, Tryd.ntmps39
      go_wp2_with fail
      refine hcall.mono fun e w1 h => ?_
      obtain ⟨rfl, hc2⟩ := h
      clear hcall
      obtain ⟨y0, y1, y2, y3, y4⟩ := (hc2.blk HC.out.2 id).cells5
      have HD := Lib.hid (HC.out.1.trans hc2)
      clear hc2
      go_wp2_with fail
      go_ret
      exact ⟨by simp [textF, numF, namedK, HN.out, HZ0.out, HZ1.out], HD.out⟩
set_option maxRecDepth 100000 in
set_option maxHeartbeats 2000000 in
theorem label_3 (w : World) (s : ByteArray) (n : Nat) (p : Int) (A : Option Addr) (m c : Nat) :
    Calls Tryd.prog 39 #[.agg #[.int .i64 3, .string s, .int .u64 n, .int .i64 p, .slice A m c]] w fun e w' => e = .returned (.bool (textF 3 s m && numF 3 n)) ∧ Chg (fun _ _ => False) w w' := by
  cases hn : nameW s with
  | true =>
    have HN := Lib.hid hn
    by_cases n0 : n = 0
    · subst n0
      have hc1 := chg_alloc w (.cells #[.int .i64 3, .string s, .int .u64 ((0 : Nat) : Int), .int .i64 p, .slice A m c] 25)
      have hb1 := Blk.new w 25 #[.int .i64 3, .string s, .int .u64 ((0 : Nat) : Int), .int .i64 p, .slice A m c]
      have hcall := rname3_any s (w.alloc (.cells #[.int .i64 3, .string s, .int .u64 ((0 : Nat) : Int), .int .i64 p, .slice A m c] 25))
      rw [hn] at hcall
      clear hn
      have HC := Lib.hid (And.intro hc1 hb1)
      clear hc1 hb1
      go_enter Tryd.func39, Tryd.ntmps39
      go_wp2_with fail
      refine hcall.mono fun e w1 h => ?_
      obtain ⟨rfl, hc2⟩ := h
      clear hcall
      obtain ⟨y0, y1, y2, y3, y4⟩ := (hc2.blk HC.out.2 id).cells5
      have HD := Lib.hid (HC.out.1.trans hc2)
      clear hc2
      go_wp2_with fail
      go_ret
      exact ⟨by simp [textF, numF, namedK, HN.out], HD.out⟩
    · skip
      have u0 : (n == 0) = false := by simp; omega
      have uu : ((n : Int) == 0) = false := by simp; omega
      have v0 : decide (n ≤ 0) = false := decide_eq_false (by omega)
      have v0' : decide ((n : Int) ≤ 0) = false := decide_eq_false (by omega)
      have w1 : decide (1 ≤ n) = true := decide_eq_true (by omega)
      have w1' : decide ((1 : Int) ≤ (n : Int)) = true := decide_eq_true (by omega)
      have w0' : decide (0 < n) = true := decide_eq_true (by omega)
      have HZ := Lib.hid (show 1 ≤ n by omega)
      have HZ0 := Lib.hid (show ¬ n = 0 by omega)
      have HZ1 := Lib.hid (show ¬ n ≤ 0 by omega)
      clear n0
      have hc1 := chg_alloc w (.cells #[.int .i64 3, .string s, .int .u64 n, .int .i64 p, .slice A m c] 25)
      have hb1 := Blk.new w 25 #[.int .i64 3, .string s, .int .u64 n, .int .i64 p, .slice A m c]
      have hcall := rname3_any s (w.alloc (.cells #[.int .i64 3, .string s, .int .u64 n, .int .i64 p, .slice A m c] 25))
      rw [hn] at hcall
      clear hn
      have HC := Lib.hid (And.intro hc1 hb1)
      clear hc1 hb1
      go_enter Tryd.func39, Tryd.ntmps39
      go_wp2_with fail
      refine hcall.mono fun e w1 h => ?_
      obtain ⟨rfl, hc2⟩ := h
      clear hcall
      obtain ⟨y0, y1, y2, y3, y4⟩ := (hc2.blk HC.out.2 id).cells5
      have HD := Lib.hid (HC.out.1.trans hc2)
      clear hc2
      go_wp2_with fail
      go_ret
      exact ⟨by simp [textF, numF, namedK, HN.out, HZ0.out, HZ1.out], HD.out⟩
  | false =>
    have HN := Lib.hid hn
    by_cases n0 : n = 0
    · subst n0
      have hc1 := chg_alloc w (.cells #[.int .i64 3, .string s, .int .u64 ((0 : Nat) : Int), .int .i64 p, .slice A m c] 25)
      have hb1 := Blk.new w 25 #[.int .i64 3, .string s, .int .u64 ((0 : Nat) : Int), .int .i64 p, .slice A m c]
      have hcall := rname3_any s (w.alloc (.cells #[.int .i64 3, .string s, .int .u64 ((0 : Nat) : Int), .int .i64 p, .slice A m c] 25))
      rw [hn] at hcall
      clear hn
      have HC := Lib.hid (And.intro hc1 hb1)
      clear hc1 hb1
      go_enter Tryd.func39, Tryd.ntmps39
      go_wp2_with fail
      refine hcall.mono fun e w1 h => ?_
      obtain ⟨rfl, hc2⟩ := h
      clear hcall
      obtain ⟨y0, y1, y2, y3, y4⟩ := (hc2.blk HC.out.2 id).cells5
      have HD := Lib.hid (HC.out.1.trans hc2)
      clear hc2
      go_wp2_with fail
      go_ret
      exact ⟨by simp [textF, numF, namedK, HN.out], HD.out⟩
    · skip
      have u0 : (n == 0) = false := by simp; omega
      have uu : ((n : Int) == 0) = false := by simp; omega
      have v0 : decide (n ≤ 0) = false := decide_eq_false (by omega)
      have v0' : decide ((n : Int) ≤ 0) = false := decide_eq_false (by omega)
      have w1 : decide (1 ≤ n) = true := decide_eq_true (by omega)
      have w1' : decide ((1 : Int) ≤ (n : Int)) = true := decide_eq_true (by omega)
      have w0' : decide (0 < n) = true := decide_eq_true (by omega)
      have HZ := Lib.hid (show 1 ≤ n by omega)
      have HZ0 := Lib.hid (show ¬ n = 0 by omega)
      have HZ1 := Lib.hid (show ¬ n ≤ 0 by omega)
      clear n0
      have hc1 := chg_alloc w (.cells #[.int .i64 3, .string s, .int .u64 n, .int .i64 p, .slice A m c] 25)
      have hb1 := Blk.new w 25 #[.int .i64 3, .string s, .int .u64 n, .int .i64 p, .slice A m c]
      have hcall := rname3_any s (w.alloc (.cells #[.int .i64 3, .string s, .int .u64 n, .int .i64 p, .slice A m c] 25))
      rw [hn] at hcall
      clear hn
      have HC := Lib.hid (And.intro hc1 hb1)
      clear hc1 hb1
      go_enter Tryd.func39, Tryd.ntmps39
      go_wp2_with fail
      refine hcall.mono fun e w1 h => ?_
      obtain ⟨rfl, hc2⟩ := h
      clear hcall
      obtain ⟨y0, y1, y2, y3, y4⟩ := (hc2.blk HC.out.2 id).cells5
      have HD := Lib.hid (HC.out.1.trans hc2)
      clear hc2
      go_wp2_with fail
      go_ret
      exact ⟨by simp [textF, numF, namedK, HN.out, HZ0.out, HZ1.out], HD.out⟩
set_option maxRecDepth 100000 in
set_option maxHeartbeats 2000000 in
theorem label_5 (w : World) (s : ByteArray) (n : Nat) (p : Int) (A : Option Addr) (m c : Nat) :
    Calls Tryd.prog 39 #[.agg #[.int .i64 5, .string s, .int .u64 n, .int .i64 p, .slice A m c]] w fun e w' => e = .returned (.bool (textF 5 s m && numF 5 n)) ∧ Chg (fun _ _ => False) w w' := by
  cases hn : nameW s with
  | true =>
    have HN := Lib.hid hn
    by_cases n0 : n = 0
    · subst n0
      have hc1 := chg_alloc w (.cells #[.int .i64 5, .string s, .int .u64 ((0 : Nat) : Int), .int .i64 p, .slice A m c] 25)
      have hb1 := Blk.new w 25 #[.int .i64 5, .string s, .int .u64 ((0 : Nat) : Int), .int .i64 p, .slice A m c]
      have hcall := rname3_any s (w.alloc (.cells #[.int .i64 5, .string s, .int .u64 ((0 : Nat) : Int), .int .i64 p, .slice A m c] 25))
      rw [hn] at hcall
      clear hn
      have HC := Lib.hid (And.intro hc1 hb1)
      clear hc1 hb1
      go_enter Tryd.func39, Tryd.ntmps39
      go_wp2_with fail
      refine hcall.mono fun e w1 h => ?_
      obtain ⟨rfl, hc2⟩ := h
      clear hcall
      obtain ⟨y0, y1, y2, y3, y4⟩ := (hc2.blk HC.out.2 id).cells5
      have HD := Lib.hid (HC.out.1.trans hc2)
      clear hc2
      go_wp2_with fail
      go_ret
      exact ⟨by simp [textF, numF, namedK, HN.out], HD.out⟩
    · skip
      have u0 : (n == 0) = false := by simp; omega
      have uu : ((n : Int) == 0) = false := by simp; omega
      have v0 : decide (n ≤ 0) = false := decide_eq_false (by omega)
      have v0' : decide ((n : Int) ≤ 0) = false := decide_eq_false (by omega)
      have w1 : decide (1 ≤ n) = true := decide_eq_true (by omega)
      have w1' : decide ((1 : Int) ≤ (n : Int)) = true := decide_eq_true (by omega)
      have w0' : decide (0 < n) = true := decide_eq_true (by omega)
      have HZ := Lib.hid (show 1 ≤ n by omega)
      have HZ0 := Lib.hid (show ¬ n = 0 by omega)
      have HZ1 := Lib.hid (show ¬ n ≤ 0 by omega)
      clear n0
      have hc1 := chg_alloc w (.cells #[.int .i64 5, .string s, .int .u64 n, .int .i64 p, .slice A m c] 25)
      have hb1 := Blk.new w 25 #[.int .i64 5, .string s, .int .u64 n, .int .i64 p, .slice A m c]
      have hcall := rname3_any s (w.alloc (.cells #[.int .i64 5, .string s, .int .u64 n, .int .i64 p, .slice A m c] 25))
      rw [hn] at hcall
      clear hn
      have HC := Lib.hid (And.intro hc1 hb1)
      clear hc1 hb1
      go_enter Tryd.func39, Tryd.ntmps39
      go_wp2_with fail
      refine hcall.mono fun e w1 h => ?_
      obtain ⟨rfl, hc2⟩ := h
      clear hcall
      obtain ⟨y0, y1, y2, y3, y4⟩ := (hc2.blk HC.out.2 id).cells5
      have HD := Lib.hid (HC.out.1.trans hc2)
      clear hc2
      go_wp2_with fail
      go_ret
      exact ⟨by simp [textF, numF, namedK, HN.out, HZ0.out, HZ1.out], HD.out⟩
  | false =>
    have HN := Lib.hid hn
    by_cases n0 : n = 0
    · subst n0
      have hc1 := chg_alloc w (.cells #[.int .i64 5, .string s, .int .u64 ((0 : Nat) : Int), .int .i64 p, .slice A m c] 25)
      have hb1 := Blk.new w 25 #[.int .i64 5, .string s, .int .u64 ((0 : Nat) : Int), .int .i64 p, .slice A m c]
      have hcall := rname3_any s (w.alloc (.cells #[.int .i64 5, .string s, .int .u64 ((0 : Nat) : Int), .int .i64 p, .slice A m c] 25))
      rw [hn] at hcall
      clear hn
      have HC := Lib.hid (And.intro hc1 hb1)
      clear hc1 hb1
      go_enter Tryd.func39, Tryd.ntmps39
      go_wp2_with fail
      refine hcall.mono fun e w1 h => ?_
      obtain ⟨rfl, hc2⟩ := h
      clear hcall
      obtain ⟨y0, y1, y2, y3, y4⟩ := (hc2.blk HC.out.2 id).cells5
      have HD := Lib.hid (HC.out.1.trans hc2)
      clear hc2
      go_wp2_with fail
      go_ret
      exact ⟨by simp [textF, numF, namedK, HN.out], HD.out⟩
    · skip
      have u0 : (n == 0) = false := by simp; omega
      have uu : ((n : Int) == 0) = false := by simp; omega
      have v0 : decide (n ≤ 0) = false := decide_eq_false (by omega)
      have v0' : decide ((n : Int) ≤ 0) = false := decide_eq_false (by omega)
      have w1 : decide (1 ≤ n) = true := decide_eq_true (by omega)
      have w1' : decide ((1 : Int) ≤ (n : Int)) = true := decide_eq_true (by omega)
      have w0' : decide (0 < n) = true := decide_eq_true (by omega)
      have HZ := Lib.hid (show 1 ≤ n by omega)
      have HZ0 := Lib.hid (show ¬ n = 0 by omega)
      have HZ1 := Lib.hid (show ¬ n ≤ 0 by omega)
      clear n0
      have hc1 := chg_alloc w (.cells #[.int .i64 5, .string s, .int .u64 n, .int .i64 p, .slice A m c] 25)
      have hb1 := Blk.new w 25 #[.int .i64 5, .string s, .int .u64 n, .int .i64 p, .slice A m c]
      have hcall := rname3_any s (w.alloc (.cells #[.int .i64 5, .string s, .int .u64 n, .int .i64 p, .slice A m c] 25))
      rw [hn] at hcall
      clear hn
      have HC := Lib.hid (And.intro hc1 hb1)
      clear hc1 hb1
      go_enter Tryd.func39, Tryd.ntmps39
      go_wp2_with fail
      refine hcall.mono fun e w1 h => ?_
      obtain ⟨rfl, hc2⟩ := h
      clear hcall
      obtain ⟨y0, y1, y2, y3, y4⟩ := (hc2.blk HC.out.2 id).cells5
      have HD := Lib.hid (HC.out.1.trans hc2)
      clear hc2
      go_wp2_with fail
      go_ret
      exact ⟨by simp [textF, numF, namedK, HN.out, HZ0.out, HZ1.out], HD.out⟩
set_option maxRecDepth 100000 in
set_option maxHeartbeats 2000000 in
theorem label_10 (w : World) (s : ByteArray) (n : Nat) (p : Int) (A : Option Addr) (m c : Nat) :
    Calls Tryd.prog 39 #[.agg #[.int .i64 10, .string s, .int .u64 n, .int .i64 p, .slice A m c]] w fun e w' => e = .returned (.bool (textF 10 s m && numF 10 n)) ∧ Chg (fun _ _ => False) w w' := by
  cases hn : nameW s with
  | true =>
    have HN := Lib.hid hn
    by_cases n0 : n = 0
    · subst n0
      have hc1 := chg_alloc w (.cells #[.int .i64 10, .string s, .int .u64 ((0 : Nat) : Int), .int .i64 p, .slice A m c] 25)
      have hb1 := Blk.new w 25 #[.int .i64 10, .string s, .int .u64 ((0 : Nat) : Int), .int .i64 p, .slice A m c]
      have hcall := rname3_any s (w.alloc (.cells #[.int .i64 10, .string s, .int .u64 ((0 : Nat) : Int), .int .i64 p, .slice A m c] 25))
      rw [hn] at hcall
      clear hn
      have HC := Lib.hid (And.intro hc1 hb1)
      clear hc1 hb1
      go_enter Tryd.func39, Tryd.ntmps39
      go_wp2_with fail
      refine hcall.mono fun e w1 h => ?_
      obtain ⟨rfl, hc2⟩ := h
      clear hcall
      obtain ⟨y0, y1, y2, y3, y4⟩ := (hc2.blk HC.out.2 id).cells5
      have HD := Lib.hid (HC.out.1.trans hc2)
      clear hc2
      go_wp2_with fail
      go_ret
      exact ⟨by simp [textF, numF, namedK, HN.out], HD.out⟩
    · skip
      have u0 : (n == 0) = false := by simp; omega
      have uu : ((n : Int) == 0) = false := by simp; omega
      have v0 : decide (n ≤ 0) = false := decide_eq_false (by omega)
      have v0' : decide ((n : Int) ≤ 0) = false := decide_eq_false (by omega)
      have w1 : decide (1 ≤ n) = true := decide_eq_true (by omega)
      have w1' : decide ((1 : Int) ≤ (n : Int)) = true := decide_eq_true (by omega)
      have w0' : decide (0 < n) = true := decide_eq_true (by omega)
      have HZ := Lib.hid (show 1 ≤ n by omega)
      have HZ0 := Lib.hid (show ¬ n = 0 by omega)
      have HZ1 := Lib.hid (show ¬ n ≤ 0 by omega)
      clear n0
      have hc1 := chg_alloc w (.cells #[.int .i64 10, .string s, .int .u64 n, .int .i64 p, .slice A m c] 25)
      have hb1 := Blk.new w 25 #[.int .i64 10, .string s, .int .u64 n, .int .i64 p, .slice A m c]
      have hcall := rname3_any s (w.alloc (.cells #[.int .i64 10, .string s, .int .u64 n, .int .i64 p, .slice A m c] 25))
      rw [hn] at hcall
      clear hn
      have HC := Lib.hid (And.intro hc1 hb1)
      clear hc1 hb1
      go_enter Tryd.func39, Tryd.ntmps39
      go_wp2_with fail
      refine hcall.mono fun e w1 h => ?_
      obtain ⟨rfl, hc2⟩ := h
      clear hcall
      obtain ⟨y0, y1, y2, y3, y4⟩ := (hc2.blk HC.out.2 id).cells5
      have HD := Lib.hid (HC.out.1.trans hc2)
      clear hc2
      go_wp2_with fail
      go_ret
      exact ⟨by simp [textF, numF, namedK, HN.out, HZ0.out, HZ1.out], HD.out⟩
  | false =>
    have HN := Lib.hid hn
    by_cases n0 : n = 0
    · subst n0
      have hc1 := chg_alloc w (.cells #[.int .i64 10, .string s, .int .u64 ((0 : Nat) : Int), .int .i64 p, .slice A m c] 25)
      have hb1 := Blk.new w 25 #[.int .i64 10, .string s, .int .u64 ((0 : Nat) : Int), .int .i64 p, .slice A m c]
      have hcall := rname3_any s (w.alloc (.cells #[.int .i64 10, .string s, .int .u64 ((0 : Nat) : Int), .int .i64 p, .slice A m c] 25))
      rw [hn] at hcall
      clear hn
      have HC := Lib.hid (And.intro hc1 hb1)
      clear hc1 hb1
      go_enter Tryd.func39, Tryd.ntmps39
      go_wp2_with fail
      refine hcall.mono fun e w1 h => ?_
      obtain ⟨rfl, hc2⟩ := h
      clear hcall
      obtain ⟨y0, y1, y2, y3, y4⟩ := (hc2.blk HC.out.2 id).cells5
      have HD := Lib.hid (HC.out.1.trans hc2)
      clear hc2
      go_wp2_with fail
      go_ret
      exact ⟨by simp [textF, numF, namedK, HN.out], HD.out⟩
    · skip
      have u0 : (n == 0) = false := by simp; omega
      have uu : ((n : Int) == 0) = false := by simp; omega
      have v0 : decide (n ≤ 0) = false := decide_eq_false (by omega)
      have v0' : decide ((n : Int) ≤ 0) = false := decide_eq_false (by omega)
      have w1 : decide (1 ≤ n) = true := decide_eq_true (by omega)
      have w1' : decide ((1 : Int) ≤ (n : Int)) = true := decide_eq_true (by omega)
      have w0' : decide (0 < n) = true := decide_eq_true (by omega)
      have HZ := Lib.hid (show 1 ≤ n by omega)
      have HZ0 := Lib.hid (show ¬ n = 0 by omega)
      have HZ1 := Lib.hid (show ¬ n ≤ 0 by omega)
      clear n0
      have hc1 := chg_alloc w (.cells #[.int .i64 10, .string s, .int .u64 n, .int .i64 p, .slice A m c] 25)
      have hb1 := Blk.new w 25 #[.int .i64 10, .string s, .int .u64 n, .int .i64 p, .slice A m c]
      have hcall := rname3_any s (w.alloc (.cells #[.int .i64 10, .string s, .int .u64 n, .int .i64 p, .slice A m c] 25))
      rw [hn] at hcall
      clear hn
      have HC := Lib.hid (And.intro hc1 hb1)
      clear hc1 hb1
      go_enter Tryd.func39, Tryd.ntmps39
      go_wp2_with fail
      refine hcall.mono fun e w1 h => ?_
      obtain ⟨rfl, hc2⟩ := h
      clear hcall
      obtain ⟨y0, y1, y2, y3, y4⟩ := (hc2.blk HC.out.2 id).cells5
      have HD := Lib.hid (HC.out.1.trans hc2)
      clear hc2
      go_wp2_with fail
      go_ret
      exact ⟨by simp [textF, numF, namedK, HN.out, HZ0.out, HZ1.out], HD.out⟩
set_option maxRecDepth 100000 in
set_option maxHeartbeats 2000000 in
theorem label_21 (w : World) (s : ByteArray) (n : Nat) (p : Int) (A : Option Addr) (m c : Nat) :
    Calls Tryd.prog 39 #[.agg #[.int .i64 21, .string s, .int .u64 n, .int .i64 p, .slice A m c]] w fun e w' => e = .returned (.bool (textF 21 s m && numF 21 n)) ∧ Chg (fun _ _ => False) w w' := by
  cases hn : nameW s with
  | true =>
    have HN := Lib.hid hn
    by_cases n0 : n = 0
    · subst n0
      have hc1 := chg_alloc w (.cells #[.int .i64 21, .string s, .int .u64 ((0 : Nat) : Int), .int .i64 p, .slice A m c] 25)
      have hb1 := Blk.new w 25 #[.int .i64 21, .string s, .int .u64 ((0 : Nat) : Int), .int .i64 p, .slice A m c]
      have hcall := rname3_any s (w.alloc (.cells #[.int .i64 21, .string s, .int .u64 ((0 : Nat) : Int), .int .i64 p, .slice A m c] 25))
      rw [hn] at hcall
      clear hn
      have HC := Lib.hid (And.intro hc1 hb1)
      clear hc1 hb1
      go_enter Tryd.func39, Tryd.ntmps39
      go_wp2_with fail
      refine hcall.mono fun e w1 h => ?_
      obtain ⟨rfl, hc2⟩ := h
      clear hcall
      obtain ⟨y0, y1, y2, y3, y4⟩ := (hc2.blk HC.out.2 id).cells5
      have HD := Lib.hid (HC.out.1.trans hc2)
      clear hc2
      go_wp2_with fail
      go_ret
      exact ⟨by simp [textF, numF, namedK, HN.out], HD.out⟩
    · skip
      have u0 : (n == 0) = false := by simp; omega
      have uu : ((n : Int) == 0) = false := by simp; omega
      have v0 : decide (n ≤ 0) = false := decide_eq_false (by omega)
      have v0' : decide ((n : Int) ≤ 0) = false := decide_eq_false (by omega)
      have w1 : decide (1 ≤ n) = true := decide_eq_true (by omega)
      have w1' : decide ((1 : Int) ≤ (n : Int)) = true := decide_eq_true (by omega)
      have w0' : decide (0 < n) = true := decide_eq_true (by omega)
      have HZ := Lib.hid (show 1 ≤ n by omega)
      have HZ0 := Lib.hid (show ¬ n = 0 by omega)
      have HZ1 := Lib.hid (show ¬ n ≤ 0 by omega)
      clear n0
      have hc1 := chg_alloc w (.cells #[.int .i64 21, .string s, .int .u64 n, .int .i64 p, .slice A m c] 25)
      have hb1 := Blk.new w 25 #[.int .i64 21, .string s, .int .u64 n, .int .i64 p, .slice A m c]
      have hcall := rname3_any s (w.alloc (.cells #[.int .i64 21, .string s, .int .u64 n, .int .i64 p, .slice A m c] 25))
      rw [hn] at hcall
      clear hn
      have HC := Lib.hid (And.intro hc1 hb1)
      clear hc1 hb1
      go_enter Tryd.func39, Tryd.ntmps39
      go_wp2_with fail
      refine hcall.mono fun e w1 h => ?_
      obtain ⟨rfl, hc2⟩ := h
      clear hcall
      obtain ⟨y0, y1, y2, y3, y4⟩ := (hc2.blk HC.out.2 id).cells5
      have HD := Lib.hid (HC.out.1.trans hc2)
      clear hc2
      go_wp2_with fail
      go_ret
      exact ⟨by simp [textF, numF, namedK, HN.out, HZ0.out, HZ1.out], HD.out⟩
  | false =>
    have HN := Lib.hid hn
    by_cases n0 : n = 0
    · subst n0
      have hc1 := chg_alloc w (.cells #[.int .i64 21, .string s, .int .u64 ((0 : Nat) : Int), .int .i64 p, .slice A m c] 25)
      have hb1 := Blk.new w 25 #[.int .i64 21, .string s, .int .u64 ((0 : Nat) : Int), .int .i64 p, .slice A m c]
      have hcall := rname3_any s (w.alloc (.cells #[.int .i64 21, .string s, .int .u64 ((0 : Nat) : Int), .int .i64 p, .slice A m c] 25))
      rw [hn] at hcall
      clear hn
      have HC := Lib.hid (And.intro hc1 hb1)
      clear hc1 hb1
      go_enter Tryd.func39, Tryd.ntmps39
      go_wp2_with fail
      refine hcall.mono fun e w1 h => ?_
      obtain ⟨rfl, hc2⟩ := h
      clear hcall
      obtain ⟨y0, y1, y2, y3, y4⟩ := (hc2.blk HC.out.2 id).cells5
      have HD := Lib.hid (HC.out.1.trans hc2)
      clear hc2
      go_wp2_with fail
      go_ret
      exact ⟨by simp [textF, numF, namedK, HN.out], HD.out⟩
    · skip
      have u0 : (n == 0) = false := by simp; omega
      have uu : ((n : Int) == 0) = false := by simp; omega
      have v0 : decide (n ≤ 0) = false := decide_eq_false (by omega)
      have v0' : decide ((n : Int) ≤ 0) = false := decide_eq_false (by omega)
      have w1 : decide (1 ≤ n) = true := decide_eq_true (by omega)
      have w1' : decide ((1 : Int) ≤ (n : Int)) = true := decide_eq_true (by omega)
      have w0' : decide (0 < n) = true := decide_eq_true (by omega)
      have HZ := Lib.hid (show 1 ≤ n by omega)
      have HZ0 := Lib.hid (show ¬ n = 0 by omega)
      have HZ1 := Lib.hid (show ¬ n ≤ 0 by omega)
      clear n0
      have hc1 := chg_alloc w (.cells #[.int .i64 21, .string s, .int .u64 n, .int .i64 p, .slice A m c] 25)
      have hb1 := Blk.new w 25 #[.int .i64 21, .string s, .int .u64 n, .int .i64 p, .slice A m c]
      have hcall := rname3_any s (w.alloc (.cells #[.int .i64 21, .string s, .int .u64 n, .int .i64 p, .slice A m c] 25))
      rw [hn] at hcall
      clear hn
      have HC := Lib.hid (And.intro hc1 hb1)
      clear hc1 hb1
      go_enter Tryd.func39, Tryd.ntmps39
      go_wp2_with fail
      refine hcall.mono fun e w1 h => ?_
      obtain ⟨rfl, hc2⟩ := h
      clear hcall
      obtain ⟨y0, y1, y2, y3, y4⟩ := (hc2.blk HC.out.2 id).cells5
      have HD := Lib.hid (HC.out.1.trans hc2)
      clear hc2
      go_wp2_with fail
      go_ret
      exact ⟨by simp [textF, numF, namedK, HN.out, HZ0.out, HZ1.out], HD.out⟩
set_option maxRecDepth 100000 in
set_option maxHeartbeats 2000000 in
theorem label_22 (w : World) (s : ByteArray) (n : Nat) (p : Int) (A : Option Addr) (m c : Nat) :
    Calls Tryd.prog 39 #[.agg #[.int .i64 22, .string s, .int .u64 n, .int .i64 p, .slice A m c]] w fun e w' => e = .returned (.bool (textF 22 s m && numF 22 n)) ∧ Chg (fun _ _ => False) w w' := by
  cases hn : nameW s with
  | true =>
    have HN := Lib.hid hn
    by_cases n0 : n = 0
    · subst n0
      have hc1 := chg_alloc w (.cells #[.int .i64 22, .string s, .int .u64 ((0 : Nat) : Int), .int .i64 p, .slice A m c] 25)
      have hb1 := Blk.new w 25 #[.int .i64 22, .string s, .int .u64 ((0 : Nat) : Int), .int .i64 p, .slice A m c]
      have hcall := rname3_any s (w.alloc (.cells #[.int .i64 22, .string s, .int .u64 ((0 : Nat) : Int), .int .i64 p, .slice A m c] 25))
      rw [hn] at hcall
      clear hn
      have HC := Lib.hid (And.intro hc1 hb1)
      clear hc1 hb1
      go_enter Tryd.func39, Tryd.ntmps39
      go_wp2_with fail
      refine hcall.mono fun e w1 h => ?_
      obtain ⟨rfl, hc2⟩ := h
      clear hcall
      obtain ⟨y0, y1, y2, y3, y4⟩ := (hc2.blk HC.out.2 id).cells5
      have HD := Lib.hid (HC.out.1.trans hc2)
      clear hc2
      go_wp2_with fail
      go_ret
      exact ⟨by simp [textF, numF, namedK, HN.out], HD.out⟩
    · skip
      have u0 : (n == 0) = false := by simp; omega
      have uu : ((n : Int) == 0) = false := by simp; omega
      have v0 : decide (n ≤ 0) = false := decide_eq_false (by omega)
      have v0' : decide ((n : Int) ≤ 0) = false := decide_eq_false (by omega)
      have w1 : decide (1 ≤ n) = true := decide_eq_true (by omega)
      have w1' : decide ((1 : Int) ≤ (n : Int)) = true := decide_eq_true (by omega)
      have w0' : decide (0 < n) = true := decide_eq_true (by omega)
      have HZ := Lib.hid (show 1 ≤ n by omega)
      have HZ0 := Lib.hid (show ¬ n = 0 by omega)
      have HZ1 := Lib.hid (show ¬ n ≤ 0 by omega)
      clear n0
      have hc1 := chg_alloc w (.cells #[.int .i64 22, .string s, .int .u64 n, .int .i64 p, .slice A m c] 25)
      have hb1 := Blk.new w 25 #[.int .i64 22, .string s, .int .u64 n, .int .i64 p, .slice A m c]
      have hcall := rname3_any s (w.alloc (.cells #[.int .i64 22, .string s, .int .u64 n, .int .i64 p, .slice A m c] 25))
      rw [hn] at hcall
      clear hn
      have HC := Lib.hid (And.intro hc1 hb1)
      clear hc1 hb1
      go_enter Tryd.func39, Tryd.ntmps39
      go_wp2_with fail
      refine hcall.mono fun e w1 h => ?_
      obtain ⟨rfl, hc2⟩ := h
      clear hcall
      obtain ⟨y0, y1, y2, y3, y4⟩ := (hc2.blk HC.out.2 id).cells5
      have HD := Lib.hid (HC.out.1.trans hc2)
      clear hc2
      go_wp2_with fail
      go_ret
      exact ⟨by simp [textF, numF, namedK, HN.out, HZ0.out, HZ1.out], HD.out⟩
  | false =>
    have HN := Lib.hid hn
    by_cases n0 : n = 0
    · subst n0
      have hc1 := chg_alloc w (.cells #[.int .i64 22, .string s, .int .u64 ((0 : Nat) : Int), .int .i64 p, .slice A m c] 25)
      have hb1 := Blk.new w 25 #[.int .i64 22, .string s, .int .u64 ((0 : Nat) : Int), .int .i64 p, .slice A m c]
      have hcall := rname3_any s (w.alloc (.cells #[.int .i64 22, .string s, .int .u64 ((0 : Nat) : Int), .int .i64 p, .slice A m c] 25))
      rw [hn] at hcall
      clear hn
      have HC := Lib.hid (And.intro hc1 hb1)
      clear hc1 hb1
      go_enter Tryd.func39, Tryd.ntmps39
      go_wp2_with fail
      refine hcall.mono fun e w1 h => ?_
      obtain ⟨rfl, hc2⟩ := h
      clear hcall
      obtain ⟨y0, y1, y2, y3, y4⟩ := (hc2.blk HC.out.2 id).cells5
      have HD := Lib.hid (HC.out.1.trans hc2)
      clear hc2
      go_wp2_with fail
      go_ret
      exact ⟨by simp [textF, numF, namedK, HN.out], HD.out⟩
    · skip
      have u0 : (n == 0) = false := by simp; omega
      have uu : ((n : Int) == 0) = false := by simp; omega
      have v0 : decide (n ≤ 0) = false := decide_eq_false (by omega)
      have v0' : decide ((n : Int) ≤ 0) = false := decide_eq_false (by omega)
      have w1 : decide (1 ≤ n) = true := decide_eq_true (by omega)
      have w1' : decide ((1 : Int) ≤ (n : Int)) = true := decide_eq_true (by omega)
      have w0' : decide (0 < n) = true := decide_eq_true (by omega)
      have HZ := Lib.hid (show 1 ≤ n by omega)
      have HZ0 := Lib.hid (show ¬ n = 0 by omega)
      have HZ1 := Lib.hid (show ¬ n ≤ 0 by omega)
      clear n0
      have hc1 := chg_alloc w (.cells #[.int .i64 22, .string s, .int .u64 n, .int .i64 p, .slice A m c] 25)
      have hb1 := Blk.new w 25 #[.int .i64 22, .string s, .int .u64 n, .int .i64 p, .slice A m c]
      have hcall := rname3_any s (w.alloc (.cells #[.int .i64 22, .string s, .int .u64 n, .int .i64 p, .slice A m c] 25))
      rw [hn] at hcall
      clear hn
      have HC := Lib.hid (And.intro hc1 hb1)
      clear hc1 hb1
      go_enter Tryd.func39, Tryd.ntmps39
      go_wp2_with fail
      refine hcall.mono fun e w1 h => ?_
      obtain ⟨rfl, hc2⟩ := h
      clear hcall
      obtain ⟨y0, y1, y2, y3, y4⟩ := (hc2.blk HC.out.2 id).cells5
      have HD := Lib.hid (HC.out.1.trans hc2)
      clear hc2
      go_wp2_with fail
      go_ret
      exact ⟨by simp [textF, numF, namedK, HN.out, HZ0.out, HZ1.out], HD.out⟩
set_option maxRecDepth 100000 in
set_option maxHeartbeats 2000000 in
theorem label_30 (w : World) (s : ByteArray) (n : Nat) (p : Int) (A : Option Addr) (m c : Nat) :
    Calls Tryd.prog 39 #[.agg #[.int .i64 30, .string s, .int .u64 n, .int .i64 p, .slice A m c]] w fun e w' => e = .returned (.bool (textF 30 s m && numF 30 n)) ∧ Chg (fun _ _ => False) w w' := by
  cases hn : nameW s with
  | true =>
    have HN := Lib.hid hn
    by_cases n0 : n = 0
    · subst n0
      have hc1 := chg_alloc w (.cells #[.int .i64 30, .string s, .int .u64 ((0 : Nat) : Int), .int .i64 p, .slice A m c] 25)
      have hb1 := Blk.new w 25 #[.int .i64 30, .string s, .int .u64 ((0 : Nat) : Int), .int .i64 p, .slice A m c]
      have hcall := rname3_any s (w.alloc (.cells #[.int .i64 30, .string s, .int .u64 ((0 : Nat) : Int), .int .i64 p, .slice A m c] 25))
      rw [hn] at hcall
      clear hn
      have HC := Lib.hid (And.intro hc1 hb1)
      clear hc1 hb1
      go_enter Tryd.func39, Tryd.ntmps39
      go_wp2_with fail
      refine hcall.mono fun e w1 h => ?_
      obtain ⟨rfl, hc2⟩ := h
      clear hcall
      obtain ⟨y0, y1, y2, y3, y4⟩ := (hc2.blk HC.out.2 id).cells5
      have HD := Lib.hid (HC.out.1.trans hc2)
      clear hc2
      go_wp2_with fail
      go_ret
      exact ⟨by simp [textF, numF, namedK, HN.out], HD.out⟩
    · skip
      have u0 : (n == 0) = false := by simp; omega
      have uu : ((n : Int) == 0) = false := by simp; omega
      have v0 : decide (n ≤ 0) = false := decide_eq_false (by omega)
      have v0' : decide ((n : Int) ≤ 0) = false := decide_eq_false (by omega)
      have w1 : decide (1 ≤ n) = true := decide_eq_true (by omega)
      have w1' : decide ((1 : Int) ≤ (n : Int)) = true := decide_eq_true (by omega)
      have w0' : decide (0 < n) = true := decide_eq_true (by omega)
      have HZ := Lib.hid (show 1 ≤ n by omega)
      have HZ0 := Lib.hid (show ¬ n = 0 by omega)
      have HZ1 := Lib.hid (show ¬ n ≤ 0 by omega)
      clear n0
      have hc1 := chg_alloc w (.cells #[.int .i64 30, .string s, .int .u64 n, .int .i64 p, .slice A m c] 25)
      have hb1 := Blk.new w 25 #[.int .i64 30, .string s, .int .u64 n, .int .i64 p, .slice A m c]
      have hcall := rname3_any s (w.alloc (.cells #[.int .i64 30, .string s, .int .u64 n, .int .i64 p, .slice A m c] 25))
      rw [hn] at hcall
      clear hn
      have HC := Lib.hid (And.intro hc1 hb1)
      clear hc1 hb1
      go_enter Tryd.func39, Tryd.ntmps39
      go_wp2_with fail
      refine hcall.mono fun e w1 h => ?_
      obtain ⟨rfl, hc2⟩ := h
      clear hcall
      obtain ⟨y0, y1, y2, y3, y4⟩ := (hc2.blk HC.out.2 id).cells5
      have HD := Lib.hid (HC.out.1.trans hc2)
      clear hc2
      go_wp2_with fail
      go_ret
      exact ⟨by simp [textF, numF, namedK, HN.out, HZ0.out, HZ1.out], HD.out⟩
  | false =>
    have HN := Lib.hid hn
    by_cases n0 : n = 0
    · subst n0
      have hc1 := chg_alloc w (.cells #[.int .i64 30, .string s, .int .u64 ((0 : Nat) : Int), .int .i64 p, .slice A m c] 25)
      have hb1 := Blk.new w 25 #[.int .i64 30, .string s, .int .u64 ((0 : Nat) : Int), .int .i64 p, .slice A m c]
      have hcall := rname3_any s (w.alloc (.cells #[.int .i64 30, .string s, .int .u64 ((0 : Nat) : Int), .int .i64 p, .slice A m c] 25))
      rw [hn] at hcall
      clear hn
      have HC := Lib.hid (And.intro hc1 hb1)
      clear hc1 hb1
      go_enter Tryd.func39, Tryd.ntmps39
      go_wp2_with fail
      refine hcall.mono fun e w1 h => ?_
      obtain ⟨rfl, hc2⟩ := h
      clear hcall
      obtain ⟨y0, y1, y2, y3, y4⟩ := (hc2.blk HC.out.2 id).cells5
      have HD := Lib.hid (HC.out.1.trans hc2)
      clear hc2
      go_wp2_with fail
      go_ret
      exact ⟨by simp [textF, numF, namedK, HN.out], HD.out⟩
    · skip
      have u0 : (n == 0) = false := by simp; omega
      have uu : ((n : Int) == 0) = false := by simp; omega
      have v0 : decide (n ≤ 0) = false := decide_eq_false (by omega)
      have v0' : decide ((n : Int) ≤ 0) = false := decide_eq_false (by omega)
      have w1 : decide (1 ≤ n) = true := decide_eq_true (by omega)
      have w1' : decide ((1 : Int) ≤ (n : Int)) = true := decide_eq_true (by omega)
      have w0' : decide (0 < n) = true := decide_eq_true (by omega)
      have HZ := Lib.hid (show 1 ≤ n by omega)
      have HZ0 := Lib.hid (show ¬ n = 0 by omega)
      have HZ1 := Lib.hid (show ¬ n ≤ 0 by omega)
      clear n0
      have hc1 := chg_alloc w (.cells #[.int .i64 30, .string s, .int .u64 n, .int .i64 p, .slice A m c] 25)
      have hb1 := Blk.new w 25 #[.int .i64 30, .string s, .int .u64 n, .int .i64 p, .slice A m c]
      have hcall := rname3_any s (w.alloc (.cells #[.int .i64 30, .string s, .int .u64 n, .int .i64 p, .slice A m c] 25))
      rw [hn] at hcall
      clear hn
      have HC := Lib.hid (And.intro hc1 hb1)
      clear hc1 hb1
      go_enter Tryd.func39, Tryd.ntmps39
      go_wp2_with fail
      refine hcall.mono fun e w1 h => ?_
      obtain ⟨rfl, hc2⟩ := h
      clear hcall
      obtain ⟨y0, y1, y2, y3, y4⟩ := (hc2.blk HC.out.2 id).cells5
      have HD := Lib.hid (HC.out.1.trans hc2)
      clear hc2
      go_wp2_with fail
      go_ret
      exact ⟨by simp [textF, numF, namedK, HN.out, HZ0.out, HZ1.out], HD.out⟩
set_option maxRecDepth 100000 in
set_option maxHeartbeats 2000000 in
theorem label_35 (w : World) (s : ByteArray) (n : Nat) (p : Int) (A : Option Addr) (m c : Nat) :
    Calls Tryd.prog 39 #[.agg #[.int .i64 35, .string s, .int .u64 n, .int .i64 p, .slice A m c]] w fun e w' => e = .returned (.bool (textF 35 s m && numF 35 n)) ∧ Chg (fun _ _ => False) w w' := by
  cases hn : nameW s with
  | true =>
    have HN := Lib.hid hn
    by_cases n0 : n = 0
    · subst n0
      have hc1 := chg_alloc w (.cells #[.int .i64 35, .string s, .int .u64 ((0 : Nat) : Int), .int .i64 p, .slice A m c] 25)
      have hb1 := Blk.new w 25 #[.int .i64 35, .string s, .int .u64 ((0 : Nat) : Int), .int .i64 p, .slice A m c]
      have hcall := rname3_any s (w.alloc (.cells #[.int .i64 35, .string s, .int .u64 ((0 : Nat) : Int), .int .i64 p, .slice A m c] 25))
      rw [hn] at hcall
      clear hn
      have HC := Lib.hid (And.intro hc1 hb1)
      clear hc1 hb1
      go_enter Tryd.func39, Tryd.ntmps39
      go_wp2_with fail
      refine hcall.mono fun e w1 h => ?_
      obtain ⟨rfl, hc2⟩ := h
      clear hcall
      obtain ⟨y0, y1, y2, y3, y4⟩ := (hc2.blk HC.out.2 id).cells5
      have HD := Lib.hid (HC.out.1.trans hc2)
      clear hc2
      go_wp2_with fail
      go_ret
      exact ⟨by simp [textF, numF, namedK, HN.out], HD.out⟩
    · skip
      have u0 : (n == 0) = false := by simp; omega
      have uu : ((n : Int) == 0) = false := by simp; omega
      have v0 : decide (n ≤ 0) = false := decide_eq_false (by omega)
      have v0' : decide ((n : Int) ≤ 0) = false := decide_eq_false (by omega)
      have w1 : decide (1 ≤ n) = true := decide_eq_true (by omega)
      have w1' : decide ((1 : Int) ≤ (n : Int)) = true := decide_eq_true (by omega)
      have w0' : decide (0 < n) = true := decide_eq_true (by omega)
      have HZ := Lib.hid (show 1 ≤ n by omega)
      have HZ0 := Lib.hid (show ¬ n = 0 by omega)
      have HZ1 := Lib.hid (show ¬ n ≤ 0 by omega)
      clear n0
      have hc1 := chg_alloc w (.cells #[.int .i64 35, .string s, .int .u64 n, .int .i64 p, .slice A m c] 25)
      have hb1 := Blk.new w 25 #[.int .i64 35, .string s, .int .u64 n, .int .i64 p, .slice A m c]
      have hcall := rname3_any s (w.alloc (.cells #[.int .i64 35, .string s, .int .u64 n, .int .i64 p, .slice A m c] 25))
      rw [hn] at hcall
      clear hn
      have HC := Lib.hid (And.intro hc1 hb1)
      clear hc1 hb1
      go_enter Tryd.func39, Tryd.ntmps39
      go_wp2_with fail
      refine hcall.mono fun e w1 h => ?_
      obtain ⟨rfl, hc2⟩ := h
      clear hcall
      obtain ⟨y0, y1, y2, y3, y4⟩ := (hc2.blk HC.out.2 id).cells5
      have HD := Lib.hid (HC.out.1.trans hc2)
      clear hc2
      go_wp2_with fail
      go_ret
      exact ⟨by simp [textF, numF, namedK, HN.out, HZ0.out, HZ1.out], HD.out⟩
  | false =>
    have HN := Lib.hid hn
    by_cases n0 : n = 0
    · subst n0
      have hc1 := chg_alloc w (.cells #[.int .i64 35, .string s, .int .u64 ((0 : Nat) : Int), .int .i64 p, .slice A m c] 25)
      have hb1 := Blk.new w 25 #[.int .i64 35, .string s, .int .u64 ((0 : Nat) : Int), .int .i64 p, .slice A m c]
      have hcall := rname3_any s (w.alloc (.cells #[.int .i64 35, .string s, .int .u64 ((0 : Nat) : Int), .int .i64 p, .slice A m c] 25))
      rw [hn] at hcall
      clear hn
      have HC := Lib.hid (And.intro hc1 hb1)
      clear hc1 hb1
      go_enter Tryd.func39, Tryd.ntmps39
      go_wp2_with fail
      refine hcall.mono fun e w1 h => ?_
      obtain ⟨rfl, hc2⟩ := h
      clear hcall
      obtain ⟨y0, y1, y2, y3, y4⟩ := (hc2.blk HC.out.2 id).cells5
      have HD := Lib.hid (HC.out.1.trans hc2)
      clear hc2
      go_wp2_with fail
      go_ret
      exact ⟨by simp [textF, numF, namedK, HN.out], HD.out⟩
    · skip
      have u0 : (n == 0) = false := by simp; omega
      have uu : ((n : Int) == 0) = false := by simp; omega
      have v0 : decide (n ≤ 0) = false := decide_eq_false (by omega)
      have v0' : decide ((n : Int) ≤ 0) = false := decide_eq_false (by omega)
      have w1 : decide (1 ≤ n) = true := decide_eq_true (by omega)
      have w1' : decide ((1 : Int) ≤ (n : Int)) = true := decide_eq_true (by omega)
      have w0' : decide (0 < n) = true := decide_eq_true (by omega)
      have HZ := Lib.hid (show 1 ≤ n by omega)
      have HZ0 := Lib.hid (show ¬ n = 0 by omega)
      have HZ1 := Lib.hid (show ¬ n ≤ 0 by omega)
      clear n0
      have hc1 := chg_alloc w (.cells #[.int .i64 35, .string s, .int .u64 n, .int .i64 p, .slice A m c] 25)
      have hb1 := Blk.new w 25 #[.int .i64 35, .string s, .int .u64 n, .int .i64 p, .slice A m c]
      have hcall := rname3_any s (w.alloc (.cells #[.int .i64 35, .string s, .int .u64 n, .int .i64 p, .slice A m c] 25))
      rw [hn] at hcall
      clear hn
      have HC := Lib.hid (And.intro hc1 hb1)
      clear hc1 hb1
      go_enter Tryd.func39, Tryd.ntmps39
      go_wp2_with fail
      refine hcall.mono fun e w1 h => ?_
      obtain ⟨rfl, hc2⟩ := h
      clear hcall
      obtain ⟨y0, y1, y2, y3, y4⟩ := (hc2.blk HC.out.2 id).cells5
      have HD := Lib.hid (HC.out.1.trans hc2)
      clear hc2
      go_wp2_with fail
      go_ret
      exact ⟨by simp [textF, numF, namedK, HN.out, HZ0.out, HZ1.out], HD.out⟩
set_option maxRecDepth 100000 in
set_option maxHeartbeats 2000000 in
theorem label_37 (w : World) (s : ByteArray) (n : Nat) (p : Int) (A : Option Addr) (m c : Nat) :
    Calls Tryd.prog 39 #[.agg #[.int .i64 37, .string s, .int .u64 n, .int .i64 p, .slice A m c]] w fun e w' => e = .returned (.bool (textF 37 s m && numF 37 n)) ∧ Chg (fun _ _ => False) w w' := by
  cases hn : nameW s with
  | true =>
    have HN := Lib.hid hn
    by_cases n0 : n = 0
    · subst n0
      have hc1 := chg_alloc w (.cells #[.int .i64 37, .string s, .int .u64 ((0 : Nat) : Int), .int .i64 p, .slice A m c] 25)
      have hb1 := Blk.new w 25 #[.int .i64 37, .string s, .int .u64 ((0 : Nat) : Int), .int .i64 p, .slice A m c]
      have hcall := rname3_any s (w.alloc (.cells #[.int .i64 37, .string s, .int .u64 ((0 : Nat) : Int), .int .i64 p, .slice A m c] 25))
      rw [hn] at hcall
      clear hn
      have HC := Lib.hid (And.intro hc1 hb1)
      clear hc1 hb1
      go_enter Tryd.func39, Tryd.ntmps39
      go_wp2_with fail
      refine hcall.mono fun e w1 h => ?_
      obtain ⟨rfl, hc2⟩ := h
      clear hcall
      obtain ⟨y0, y1, y2, y3, y4⟩ := (hc2.blk HC.out.2 id).cells5
      have HD := Lib.hid (HC.out.1.trans hc2)
      clear hc2
      go_wp2_with fail
      go_ret
      exact ⟨by simp [textF, numF, namedK, HN.out], HD.out⟩
    · skip
      have u0 : (n == 0) = false := by simp; omega
      have uu : ((n : Int) == 0) = false := by simp; omega
      have v0 : decide (n ≤ 0) = false := decide_eq_false (by omega)
      have v0' : decide ((n : Int) ≤ 0) = false := decide_eq_false (by omega)
      have w1 : decide (1 ≤ n) = true := decide_eq_true (by omega)
      have w1' : decide ((1 : Int) ≤ (n : Int)) = true := decide_eq_true (by omega)
      have w0' : decide (0 < n) = true := decide_eq_true (by omega)
      have HZ := Lib.hid (show 1 ≤ n by omega)
      have HZ0 := Lib.hid (show ¬ n = 0 by omega)
      have HZ1 := Lib.hid (show ¬ n ≤ 0 by omega)
      clear n0
      have hc1 := chg_alloc w (.cells #[.int .i64 37, .string s, .int .u64 n, .int .i64 p, .slice A m c] 25)
      have hb1 := Blk.new w 25 #[.int .i64 37, .string s, .int .u64 n, .int .i64 p, .slice A m c]
      have hcall := rname3_any s (w.alloc (.cells #[.int .i64 37, .string s, .int .u64 n, .int .i64 p, .slice A m c] 25))
      rw [hn] at hcall
      clear hn
      have HC := Lib.hid (And.intro hc1 hb1)
      clear hc1 hb1
      go_enter Tryd.func39, Tryd.ntmps39
      go_wp2_with fail
      refine hcall.mono fun e w1 h => ?_
      obtain ⟨rfl, hc2⟩ := h
      clear hcall
      obtain ⟨y0, y1, y2, y3, y4⟩ := (hc2.blk HC.out.2 id).cells5
      have HD := Lib.hid (HC.out.1.trans hc2)
      clear hc2
      go_wp2_with fail
      go_ret
      exact ⟨by simp [textF, numF, namedK, HN.out, HZ0.out, HZ1.out], HD.out⟩
  | false =>
    have HN := Lib.hid hn
    by_cases n0 : n = 0
    · subst n0
      have hc1 := chg_alloc w (.cells #[.int .i64 37, .string s, .int .u64 ((0 : Nat) : Int), .int .i64 p, .slice A m c] 25)
      have hb1 := Blk.new w 25 #[.int .i64 37, .string s, .int .u64 ((0 : Nat) : Int), .int .i64 p, .slice A m c]
      have hcall := rname3_any s (w.alloc (.cells #[.int .i64 37, .string s, .int .u64 ((0 : Nat) : Int), .int .i64 p, .slice A m c] 25))
      rw [hn] at hcall
      clear hn
      have HC := Lib.hid (And.intro hc1 hb1)
      clear hc1 hb1
      go_enter Tryd.func39, Tryd.ntmps39
      go_wp2_with fail
      refine hcall.mono fun e w1 h => ?_
      obtain ⟨rfl, hc2⟩ := h
      clear hcall
      obtain ⟨y0, y1, y2, y3, y4⟩ := (hc2.blk HC.out.2 id).cells5
      have HD := Lib.hid (HC.out.1.trans hc2)
      clear hc2
      go_wp2_with fail
      go_ret
      exact ⟨by simp [textF, numF, namedK, HN.out], HD.out⟩
    · skip
      have u0 : (n == 0) = false := by simp; omega
      have uu : ((n : Int) == 0) = false := by simp; omega
      have v0 : decide (n ≤ 0) = false := decide_eq_false (by omega)
      have v0' : decide ((n : Int) ≤ 0) = false := decide_eq_false (by omega)
      have w1 : decide (1 ≤ n) = true := decide_eq_true (by omega)
      have w1' : decide ((1 : Int) ≤ (n : Int)) = true := decide_eq_true (by omega)
      have w0' : decide (0 < n) = true := decide_eq_true (by omega)
      have HZ := Lib.hid (show 1 ≤ n by omega)
      have HZ0 := Lib.hid (show ¬ n = 0 by omega)
      have HZ1 := Lib.hid (show ¬ n ≤ 0 by omega)
      clear n0
      have hc1 := chg_alloc w (.cells #[.int .i64 37, .string s, .int .u64 n, .int .i64 p, .slice A m c] 25)
      have hb1 := Blk.new w 25 #[.int .i64 37, .string s, .int .u64 n, .int .i64 p, .slice A m c]
      have hcall := rname3_any s (w.alloc (.cells #[.int .i64 37, .string s, .int .u64 n, .int .i64 p, .slice A m c] 25))
      rw [hn] at hcall
      clear hn
      have HC := Lib.hid (And.intro hc1 hb1)
      clear hc1 hb1
      go_enter Tryd.func39, Tryd.ntmps39
      go_wp2_with fail
      refine hcall.mono fun e w1 h => ?_
      obtain ⟨rfl, hc2⟩ := h
      clear hcall
      obtain ⟨y0, y1, y2, y3, y4⟩ := (hc2.blk HC.out.2 id).cells5
      have HD := Lib.hid (HC.out.1.trans hc2)
      clear hc2
      go_wp2_with fail
      go_ret
      exact ⟨by simp [textF, numF, namedK, HN.out, HZ0.out, HZ1.out], HD.out⟩
set_option maxRecDepth 100000 in
set_option maxHeartbeats 2000000 in
theorem label_8 (w : World) (s : ByteArray) (n : Nat) (p : Int) (A : Option Addr) (m c : Nat) :
    Calls Tryd.prog 39 #[.agg #[.int .i64 8, .string s, .int .u64 n, .int .i64 p, .slice A m c]] w fun e w' => e = .returned (.bool (textF 8 s m && numF 8 n)) ∧ Chg (fun _ _ => False) w w' := by
  cases hn : nameW s with
  | true =>
    have HN := Lib.hid hn
    by_cases n0 : n = 0
    · subst n0
      have hc1 := chg_alloc w (.cells #[.int .i64 8, .string s, .int .u64 ((0 : Nat) : Int), .int .i64 p, .slice A m c] 25)
      have hb1 := Blk.new w 25 #[.int .i64 8, .string s, .int .u64 ((0 : Nat) : Int), .int .i64 p, .slice A m c]
      have hcall := rname3_any s (w.alloc (.cells #[.int .i64 8, .string s, .int .u64 ((0 : Nat) : Int), .int .i64 p, .slice A m c] 25))
      rw [hn] at hcall
      clear hn
      have HC := Lib.hid (And.intro hc1 hb1)
      clear hc1 hb1
      go_enter Tryd.func39, Tryd.ntmps39
      go_wp2_with fail
      refine hcall.mono fun e w1 h => ?_
      obtain ⟨rfl, hc2⟩ := h
      clear hcall
      obtain ⟨y0, y1, y2, y3, y4⟩ := (hc2.blk HC.out.2 id).cells5
      have HD := Lib.hid (HC.out.1.trans hc2)
      clear hc2
      go_wp2_with fail
      go_ret
      exact ⟨by simp [textF, numF, namedK, HN.out], HD.out⟩
    · skip
      by_cases n1 : n = 1
      · subst n1
        try clear n0
        have hc1 := chg_alloc w (.cells #[.int .i64 8, .string s, .int .u64 ((1 : Nat) : Int), .int .i64 p, .slice A m c] 25)
        have hb1 := Blk.new w 25 #[.int .i64 8, .string s, .int .u64 ((1 : Nat) : Int), .int .i64 p, .slice A m c]
        have hcall := rname3_any s (w.alloc (.cells #[.int .i64 8, .string s, .int .u64 ((1 : Nat) : Int), .int .i64 p, .slice A m c] 25))
        rw [hn] at hcall
        clear hn
        have HC := Lib.hid (And.intro hc1 hb1)
        clear hc1 hb1
        go_enter Tryd.func39, Tryd.ntmps39
        go_wp2_with fail
        refine hcall.mono fun e w1 h => ?_
        obtain ⟨rfl, hc2⟩ := h
        clear hcall
        obtain ⟨y0, y1, y2, y3, y4⟩ := (hc2.blk HC.out.2 id).cells5
        have HD := Lib.hid (HC.out.1.trans hc2)
        clear hc2
        go_wp2_with fail
        go_ret
        exact ⟨by simp [textF, numF, namedK, HN.out], HD.out⟩
      · skip
        by_cases n2 : n = 2
        · subst n2
          try clear n0 n1
          have hc1 := chg_alloc w (.cells #[.int .i64 8, .string s, .int .u64 ((2 : Nat) : Int), .int .i64 p, .slice A m c] 25)
          have hb1 := Blk.new w 25 #[.int .i64 8, .string s, .int .u64 ((2 : Nat) : Int), .int .i64 p, .slice A m c]
          have hcall := rname3_any s (w.alloc (.cells #[.int .i64 8, .string s, .int .u64 ((2 : Nat) : Int), .int .i64 p, .slice A m c] 25))
          rw [hn] at hcall
          clear hn
          have HC := Lib.hid (And.intro hc1 hb1)
          clear hc1 hb1
          go_enter Tryd.func39, Tryd.ntmps39
          go_wp2_with fail
          refine hcall.mono fun e w1 h => ?_
          obtain ⟨rfl, hc2⟩ := h
          clear hcall
          obtain ⟨y0, y1, y2, y3, y4⟩ := (hc2.blk HC.out.2 id).cells5
          have HD := Lib.hid (HC.out.1.trans hc2)
          clear hc2
          go_wp2_with fail
          go_ret
          exact ⟨by simp [textF, numF, namedK, HN.out], HD.out⟩
        · skip
          by_cases n3 : n = 3
          · subst n3
            try clear n0 n1 n2
            have hc1 := chg_alloc w (.cells #[.int .i64 8, .string s, .int .u64 ((3 : Nat) : Int), .int .i64 p, .slice A m c] 25)
            have hb1 := Blk.new w 25 #[.int .i64 8, .string s, .int .u64 ((3 : Nat) : Int), .int .i64 p, .slice A m c]
            have hcall := rname3_any s (w.alloc (.cells #[.int .i64 8, .string s, .int .u64 ((3 : Nat) : Int), .int .i64 p, .slice A m c] 25))
            rw [hn] at hcall
            clear hn
            have HC := Lib.hid (And.intro hc1 hb1)
            clear hc1 hb1
            go_enter Tryd.func39, Tryd.ntmps39
            go_wp2_with fail
            refine hcall.mono fun e w1 h => ?_
            obtain ⟨rfl, hc2⟩ := h
            clear hcall
            obtain ⟨y0, y1, y2, y3, y4⟩ := (hc2.blk HC.out.2 id).cells5
            have HD := Lib.hid (HC.out.1.trans hc2)
            clear hc2
            go_wp2_with fail
            go_ret
            exact ⟨by simp [textF, numF, namedK, HN.out], HD.out⟩
          · skip
            have u0 : (n == 0) = false := by simp; omega
            have u1 : (n == 1) = false := by simp; omega
            have u2 : (n == 2) = false := by simp; omega
            have u3 : (n == 3) = false := by simp; omega
            have uu : ((n : Int) == 0) = false := by simp; omega
            have v0 : decide (n ≤ 0) = false := decide_eq_false (by omega)
            have v1 : decide (n ≤ 1) = false := decide_eq_false (by omega)
            have v2 : decide (n ≤ 2) = false := decide_eq_false (by omega)
            have v3 : decide (n ≤ 3) = false := decide_eq_false (by omega)
            have v0' : decide ((n : Int) ≤ 0) = false := decide_eq_false (by omega)
            have v1' : decide ((n : Int) ≤ 1) = false := decide_eq_false (by omega)
            have v2' : decide ((n : Int) ≤ 2) = false := decide_eq_false (by omega)
            have v3' : decide ((n : Int) ≤ 3) = false := decide_eq_false (by omega)
            have w1 : decide (1 ≤ n) = true := decide_eq_true (by omega)
            have w1' : decide ((1 : Int) ≤ (n : Int)) = true := decide_eq_true (by omega)
            have w0' : decide (0 < n) = true := decide_eq_true (by omega)
            have HZ := Lib.hid (show 4 ≤ n by omega)
            have HZ0 := Lib.hid (show ¬ n = 0 by omega)
            have HZ1 := Lib.hid (show ¬ n ≤ 3 by omega)
            clear n0 n1 n2 n3
            have hc1 := chg_alloc w (.cells #[.int .i64 8, .string s, .int .u64 n, .int .i64 p, .slice A m c] 25)
            have hb1 := Blk.new w 25 #[.int .i64 8, .string s, .int .u64 n, .int .i64 p, .slice A m c]
            have hcall := rname3_any s (w.alloc (.cells #[.int .i64 8, .string s, .int .u64 n, .int .i64 p, .slice A m c] 25))
            rw [hn] at hcall
            clear hn
            have HC := Lib.hid (And.intro hc1 hb1)
            clear hc1 hb1
            go_enter Tryd.func39, Tryd.ntmps39
            go_wp2_with fail
            refine hcall.mono fun e w1 h => ?_
            obtain ⟨rfl, hc2⟩ := h
            clear hcall
            obtain ⟨y0, y1, y2, y3, y4⟩ := (hc2.blk HC.out.2 id).cells5
            have HD := Lib.hid (HC.out.1.trans hc2)
            clear hc2
            go_wp2_with fail
            go_ret
            exact ⟨by simp [textF, numF, namedK, HN.out, HZ0.out, HZ1.out], HD.out⟩
  | false =>
    have HN := Lib.hid hn
    by_cases n0 : n = 0
    · subst n0
      have hc1 := chg_alloc w (.cells #[.int .i64 8, .string s, .int .u64 ((0 : Nat) : Int), .int .i64 p, .slice A m c] 25)
      have hb1 := Blk.new w 25 #[.int .i64 8, .string s, .int .u64 ((0 : Nat) : Int), .int .i64 p, .slice A m c]
      have hcall := rname3_any s (w.alloc (.cells #[.int .i64 8, .string s, .int .u64 ((0 : Nat) : Int), .int .i64 p, .slice A m c] 25))
      rw [hn] at hcall
      clear hn
      have HC := Lib.hid (And.intro hc1 hb1)
      clear hc1 hb1
      go_enter Tryd.func39, Tryd.ntmps39
      go_wp2_with fail
      refine hcall.mono fun e w1 h => ?_
      obtain ⟨rfl, hc2⟩ := h
      clear hcall
      obtain ⟨y0, y1, y2, y3, y4⟩ := (hc2.blk HC.out.2 id).cells5
      have HD := Lib.hid (HC.out.1.trans hc2)
      clear hc2
      go_wp2_with fail
      go_ret
      exact ⟨by simp [textF, numF, namedK, HN.out], HD.out⟩
    · skip
      by_cases n1 : n = 1
      · subst n1
        try clear n0
        have hc1 := chg_alloc w (.cells #[.int .i64 8, .string s, .int .u64 ((1 : Nat) : Int), .int .i64 p, .slice A m c] 25)
        have hb1 := Blk.new w 25 #[.int .i64 8, .string s, .int .u64 ((1 : Nat) : Int), .int .i64 p, .slice A m c]
        have hcall := rname3_any s (w.alloc (.cells #[.int .i64 8, .string s, .int .u64 ((1 : Nat) : Int), .int .i64 p, .slice A m c] 25))
        rw [hn] at hcall
        clear hn
        have HC := Lib.hid (And.intro hc1 hb1)
        clear hc1 hb1
        go_enter Tryd.func39, Tryd.ntmps39
        go_wp2_with fail
        refine hcall.mono fun e w1 h => ?_
        obtain ⟨rfl, hc2⟩ := h
        clear hcall
        obtain ⟨y0, y1, y2, y3, y4⟩ := (hc2.blk HC.out.2 id).cells5
        have HD := Lib.hid (HC.out.1.trans hc2)
        clear hc2
        go_wp2_with fail
        go_ret
        exact ⟨by simp [textF, numF, namedK, HN.out], HD.out⟩
      · skip
        by_cases n2 : n = 2
        · subst n2
          try clear n0 n1
          have hc1 := chg_alloc w (.cells #[.int .i64 8, .string s, .int .u64 ((2 : Nat) : Int), .int .i64 p, .slice A m c] 25)
          have hb1 := Blk.new w 25 #[.int .i64 8, .string s, .int .u64 ((2 : Nat) : Int), .int .i64 p, .slice A m c]
          have hcall := rname3_any s (w.alloc (.cells #[.int .i64 8, .string s, .int .u64 ((2 : Nat) : Int), .int .i64 p, .slice A m c] 25))
          rw [hn] at hcall
          clear hn
          have HC := Lib.hid (And.intro hc1 hb1)
          clear hc1 hb1
          go_enter Tryd.func39, Tryd.ntmps39
          go_wp2_with fail
          refine hcall.mono fun e w1 h => ?_
          obtain ⟨rfl, hc2⟩ := h
          clear hcall
          obtain ⟨y0, y1, y2, y3, y4⟩ := (hc2.blk HC.out.2 id).cells5
          have HD := Lib.hid (HC.out.1.trans hc2)
          clear hc2
          go_wp2_with fail
          go_ret
          exact ⟨by simp [textF, numF, namedK, HN.out], HD.out⟩
        · skip
          by_cases n3 : n = 3
          · subst n3
            try clear n0 n1 n2
            have hc1 := chg_alloc w (.cells #[.int .i64 8, .string s, .int .u64 ((3 : Nat) : Int), .int .i64 p, .slice A m c] 25)
            have hb1 := Blk.new w 25 #[.int .i64 8, .string s, .int .u64 ((3 : Nat) : Int), .int .i64 p, .slice A m c]
            have hcall := rname3_any s (w.alloc (.cells #[.int .i64 8, .string s, .int .u64 ((3 : Nat) : Int), .int .i64 p, .slice A m c] 25))
            rw [hn] at hcall
            clear hn
            have HC := Lib.hid (And.intro hc1 hb1)
            clear hc1 hb1
            go_enter Tryd.func39, Tryd.ntmps39
            go_wp2_with fail
            refine hcall.mono fun e w1 h => ?_
            obtain ⟨rfl, hc2⟩ := h
            clear hcall
            obtain ⟨y0, y1, y2, y3, y4⟩ := (hc2.blk HC.out.2 id).cells5
            have HD := Lib.hid (HC.out.1.trans hc2)
            clear hc2
            go_wp2_with fail
            go_ret
            exact ⟨by simp [textF, numF, namedK, HN.out], HD.out⟩
          · skip
            have u0 : (n == 0) = false := by simp; omega
            have u1 : (n == 1) = false := by simp; omega
            have u2 : (n == 2) = false := by simp; omega
            have u3 : (n == 3) = false := by simp; omega
            have uu : ((n : Int) == 0) = false := by simp; omega
            have v0 : decide (n ≤ 0) = false := decide_eq_false (by omega)
            have v1 : decide (n ≤ 1) = false := decide_eq_false (by omega)
            have v2 : decide (n ≤ 2) = false := decide_eq_false (by omega)
            have v3 : decide (n ≤ 3) = false := decide_eq_false (by omega)
            have v0' : decide ((n : Int) ≤ 0) = false := decide_eq_false (by omega)
            have v1' : decide ((n : Int) ≤ 1) = false := decide_eq_false (by omega)
            have v2' : decide ((n : Int) ≤ 2) = false := decide_eq_false (by omega)
            have v3' : decide ((n : Int) ≤ 3) = false := decide_eq_false (by omega)
            have w1 : decide (1 ≤ n) = true := decide_eq_true (by omega)
            have w1' : decide ((1 : Int) ≤ (n : Int)) = true := decide_eq_true (by omega)
            have w0' : decide (0 < n) = true := decide_eq_true (by omega)
            have HZ := Lib.hid (show 4 ≤ n by omega)
            have HZ0 := Lib.hid (show ¬ n = 0 by omega)
            have HZ1 := Lib.hid (show ¬ n ≤ 3 by omega)
            clear n0 n1 n2 n3
            have hc1 := chg_alloc w (.cells #[.int .i64 8, .string s, .int .u64 n, .int .i64 p, .slice A m c] 25)
            have hb1 := Blk.new w 25 #[.int .i64 8, .string s, .int .u64 n, .int .i64 p, .slice A m c]
            have hcall := rname3_any s (w.alloc (.cells #[.int .i64 8, .string s, .int .u64 n, .int .i64 p, .slice A m c] 25))
            rw [hn] at hcall
            clear hn
            have HC := Lib.hid (And.intro hc1 hb1)
            clear hc1 hb1
            go_enter Tryd.func39, Tryd.ntmps39
            go_wp2_with fail
            refine hcall.mono fun e w1 h => ?_
            obtain ⟨rfl, hc2⟩ := h
            clear hcall
            obtain ⟨y0, y1, y2, y3, y4⟩ := (hc2.blk HC.out.2 id).cells5
            have HD := Lib.hid (HC.out.1.trans hc2)
            clear hc2
            go_wp2_with fail
            go_ret
            exact ⟨by simp [textF, numF, namedK, HN.out, HZ0.out, HZ1.out], HD.out⟩
set_option maxRecDepth 100000 in
set_option maxHeartbeats 2000000 in
theorem label_43 (w : World) (s : ByteArray) (n : Nat) (p : Int) (A : Option Addr) (m c : Nat) :
    Calls Tryd.prog 39 #[.agg #[.int .i64 43, .string s, .int .u64 n, .int .i64 p, .slice A m c]] w fun e w' => e = .returned (.bool (textF 43 s m && numF 43 n)) ∧ Chg (fun _ _ => False) w w' := by
  cases hn : nameW s with
  | true =>
    have HN := Lib.hid hn
    by_cases he : s = ⟨#[]⟩
    · have qe := strE_true he
      have HE := Lib.hid qe
      clear he
      by_cases n0 : n = 0
      · subst n0
        have hc1 := chg_alloc w (.cells #[.int .i64 43, .string s, .int .u64 ((0 : Nat) : Int), .int .i64 p, .slice A m c] 25)
        have hb1 := Blk.new w 25 #[.int .i64 43, .string s, .int .u64 ((0 : Nat) : Int), .int .i64 p, .slice A m c]
        have hcall := rname3_any s (w.alloc (.cells #[.int .i64 43, .string s, .int .u64 ((0 : Nat) : Int), .int .i64 p, .slice A m c] 25))
        rw [hn] at hcall
        clear hn
        have HC := Lib.hid (And.intro hc1 hb1)
        clear hc1 hb1
        go_enter Tryd.func39, Tryd.ntmps39
        go_wp2_with fail
        refine hcall.mono fun e w1 h => ?_
        obtain ⟨rfl, hc2⟩ := h
        clear hcall
        obtain ⟨y0, y1, y2, y3, y4⟩ := (hc2.blk HC.out.2 id).cells5
        have HD := Lib.hid (HC.out.1.trans hc2)
        clear hc2
        go_wp2_with fail
        go_ret
        exact ⟨by simp [textF, numF, namedK, HN.out, HE.out], HD.out⟩
      · skip
        have u0 : (n == 0) = false := by simp; omega
        have uu : ((n : Int) == 0) = false := by simp; omega
        have v0 : decide (n ≤ 0) = false := decide_eq_false (by omega)
        have v0' : decide ((n : Int) ≤ 0) = false := decide_eq_false (by omega)
        have w1 : decide (1 ≤ n) = true := decide_eq_true (by omega)
        have w1' : decide ((1 : Int) ≤ (n : Int)) = true := decide_eq_true (by omega)
        have w0' : decide (0 < n) = true := decide_eq_true (by omega)
        have HZ := Lib.hid (show 1 ≤ n by omega)
        have HZ0 := Lib.hid (show ¬ n = 0 by omega)
        have HZ1 := Lib.hid (show ¬ n ≤ 0 by omega)
        clear n0
        have hc1 := chg_alloc w (.cells #[.int .i64 43, .string s, .int .u64 n, .int .i64 p, .slice A m c] 25)
        have hb1 := Blk.new w 25 #[.int .i64 43, .string s, .int .u64 n, .int .i64 p, .slice A m c]
        have hcall := rname3_any s (w.alloc (.cells #[.int .i64 43, .string s, .int .u64 n, .int .i64 p, .slice A m c] 25))
        rw [hn] at hcall
        clear hn
        have HC := Lib.hid (And.intro hc1 hb1)
        clear hc1 hb1
        go_enter Tryd.func39, Tryd.ntmps39
        go_wp2_with fail
        refine hcall.mono fun e w1 h => ?_
        obtain ⟨rfl, hc2⟩ := h
        clear hcall
        obtain ⟨y0, y1, y2, y3, y4⟩ := (hc2.blk HC.out.2 id).cells5
        have HD := Lib.hid (HC.out.1.trans hc2)
        clear hc2
        go_wp2_with fail
        go_ret
        exact ⟨by simp [textF, numF, namedK, HN.out, HE.out, HZ0.out, HZ1.out], HD.out⟩
    · have qe := strE_false he
      have HE := Lib.hid qe
      clear he
      by_cases n0 : n = 0
      · subst n0
        have hc1 := chg_alloc w (.cells #[.int .i64 43, .string s, .int .u64 ((0 : Nat) : Int), .int .i64 p, .slice A m c] 25)
        have hb1 := Blk.new w 25 #[.int .i64 43, .string s, .int .u64 ((0 : Nat) : Int), .int .i64 p, .slice A m c]
        have hcall := rname3_any s (w.alloc (.cells #[.int .i64 43, .string s, .int .u64 ((0 : Nat) : Int), .int .i64 p, .slice A m c] 25))
        rw [hn] at hcall
        clear hn
        have HC := Lib.hid (And.intro hc1 hb1)
        clear hc1 hb1
        go_enter Tryd.func39, Tryd.ntmps39
        go_wp2_with fail
        refine hcall.mono fun e w1 h => ?_
        obtain ⟨rfl, hc2⟩ := h
        clear hcall
        obtain ⟨y0, y1, y2, y3, y4⟩ := (hc2.blk HC.out.2 id).cells5
        have HD := Lib.hid (HC.out.1.trans hc2)
        clear hc2
        go_wp2_with fail
        go_ret
        exact ⟨by simp [textF, numF, namedK, HN.out, HE.out], HD.out⟩
      · skip
        have u0 : (n == 0) = false := by simp; omega
        have uu : ((n : Int) == 0) = false := by simp; omega
        have v0 : decide (n ≤ 0) = false := decide_eq_false (by omega)
        have v0' : decide ((n : Int) ≤ 0) = false := decide_eq_false (by omega)
        have w1 : decide (1 ≤ n) = true := decide_eq_true (by omega)
        have w1' : decide ((1 : Int) ≤ (n : Int)) = true := decide_eq_true (by omega)
        have w0' : decide (0 < n) = true := decide_eq_true (by omega)
        have HZ := Lib.hid (show 1 ≤ n by omega)
        have HZ0 := Lib.hid (show ¬ n = 0 by omega)
        have HZ1 := Lib.hid (show ¬ n ≤ 0 by omega)
        clear n0
        have hc1 := chg_alloc w (.cells #[.int .i64 43, .string s, .int .u64 n, .int .i64 p, .slice A m c] 25)
        have hb1 := Blk.new w 25 #[.int .i64 43, .string s, .int .u64 n, .int .i64 p, .slice A m c]
        have hcall := rname3_any s (w.alloc (.cells #[.int .i64 43, .string s, .int .u64 n, .int .i64 p, .slice A m c] 25))
        rw [hn] at hcall
        clear hn
        have HC := Lib.hid (And.intro hc1 hb1)
        clear hc1 hb1
        go_enter Tryd.func39, Tryd.ntmps39
        go_wp2_with fail
        refine hcall.mono fun e w1 h => ?_
        obtain ⟨rfl, hc2⟩ := h
        clear hcall
        obtain ⟨y0, y1, y2, y3, y4⟩ := (hc2.blk HC.out.2 id).cells5
        have HD := Lib.hid (HC.out.1.trans hc2)
        clear hc2
        go_wp2_with fail
        go_ret
        exact ⟨by simp [textF, numF, namedK, HN.out, HE.out, HZ0.out, HZ1.out], HD.out⟩
  | false =>
    have HN := Lib.hid hn
    by_cases he : s = ⟨#[]⟩
    · have qe := strE_true he
      have HE := Lib.hid qe
      clear he
      by_cases n0 : n = 0
      · subst n0
        have hc1 := chg_alloc w (.cells #[.int .i64 43, .string s, .int .u64 ((0 : Nat) : Int), .int .i64 p, .slice A m c] 25)
        have hb1 := Blk.new w 25 #[.int .i64 43, .string s, .int .u64 ((0 : Nat) : Int), .int .i64 p, .slice A m c]
        have hcall := rname3_any s (w.alloc (.cells #[.int .i64 43, .string s, .int .u64 ((0 : Nat) : Int), .int .i64 p, .slice A m c] 25))
        rw [hn] at hcall
        clear hn
        have HC := Lib.hid (And.intro hc1 hb1)
        clear hc1 hb1
        go_enter Tryd.func39, Tryd.ntmps39
        go_wp2_with fail
        refine hcall.mono fun e w1 h => ?_
        obtain ⟨rfl, hc2⟩ := h
        clear hcall
        obtain ⟨y0, y1, y2, y3, y4⟩ := (hc2.blk HC.out.2 id).cells5
        have HD := Lib.hid (HC.out.1.trans hc2)
        clear hc2
        go_wp2_with fail
        go_ret
        exact ⟨by simp [textF, numF, namedK, HN.out, HE.out], HD.out⟩
      · skip
        have u0 : (n == 0) = false := by simp; omega
        have uu : ((n : Int) == 0) = false := by simp; omega
        have v0 : decide (n ≤ 0) = false := decide_eq_false (by omega)
        have v0' : decide ((n : Int) ≤ 0) = false := decide_eq_false (by omega)
        have w1 : decide (1 ≤ n) = true := decide_eq_true (by omega)
        have w1' : decide ((1 : Int) ≤ (n : Int)) = true := decide_eq_true (by omega)
        have w0' : decide (0 < n) = true := decide_eq_true (by omega)
        have HZ := Lib.hid (show 1 ≤ n by omega)
        have HZ0 := Lib.hid (show ¬ n = 0 by omega)
        have HZ1 := Lib.hid (show ¬ n ≤ 0 by omega)
        clear n0
        have hc1 := chg_alloc w (.cells #[.int .i64 43, .string s, .int .u64 n, .int .i64 p, .slice A m c] 25)
        have hb1 := Blk.new w 25 #[.int .i64 43, .string s, .int .u64 n, .int .i64 p, .slice A m c]
        have hcall := rname3_any s (w.alloc (.cells #[.int .i64 43, .string s, .int .u64 n, .int .i64 p, .slice A m c] 25))
        rw [hn] at hcall
        clear hn
        have HC := Lib.hid (And.intro hc1 hb1)
        clear hc1 hb1
        go_enter Tryd.func39, Tryd.ntmps39
        go_wp2_with fail
        refine hcall.mono fun e w1 h => ?_
        obtain ⟨rfl, hc2⟩ := h
        clear hcall
        obtain ⟨y0, y1, y2, y3, y4⟩ := (hc2.blk HC.out.2 id).cells5
        have HD := Lib.hid (HC.out.1.trans hc2)
        clear hc2
        go_wp2_with fail
        go_ret
        exact ⟨by simp [textF, numF, namedK, HN.out, HE.out, HZ0.out, HZ1.out], HD.out⟩
    · have qe := strE_false he
      have HE := Lib.hid qe
      clear he
      by_cases n0 : n = 0
      · subst n0
        have hc1 := chg_alloc w (.cells #[.int .i64 43, .string s, .int .u64 ((0 : Nat) : Int), .int .i64 p, .slice A m c] 25)
        have hb1 := Blk.new w 25 #[.int .i64 43, .string s, .int .u64 ((0 : Nat) : Int), .int .i64 p, .slice A m c]
        have hcall := rname3_any s (w.alloc (.cells #[.int .i64 43, .string s, .int .u64 ((0 : Nat) : Int), .int .i64 p, .slice A m c] 25))
        rw [hn] at hcall
        clear hn
        have HC := Lib.hid (And.intro hc1 hb1)
        clear hc1 hb1
        go_enter Tryd.func39, Tryd.ntmps39
        go_wp2_with fail
        refine hcall.mono fun e w1 h => ?_
        obtain ⟨rfl, hc2⟩ := h
        clear hcall
        obtain ⟨y0, y1, y2, y3, y4⟩ := (hc2.blk HC.out.2 id).cells5
        have HD := Lib.hid (HC.out.1.trans hc2)
        clear hc2
        go_wp2_with fail
        go_ret
        exact ⟨by simp [textF, numF, namedK, HN.out, HE.out], HD.out⟩
      · skip
        have u0 : (n == 0) = false := by simp; omega
        have uu : ((n : Int) == 0) = false := by simp; omega
        have v0 : decide (n ≤ 0) = false := decide_eq_false (by omega)
        have v0' : decide ((n : Int) ≤ 0) = false := decide_eq_false (by omega)
        have w1 : decide (1 ≤ n) = true := decide_eq_true (by omega)
        have w1' : decide ((1 : Int) ≤ (n : Int)) = true := decide_eq_true (by omega)
        have w0' : decide (0 < n) = true := decide_eq_true (by omega)
        have HZ := Lib.hid (show 1 ≤ n by omega)
        have HZ0 := Lib.hid (show ¬ n = 0 by omega)
        have HZ1 := Lib.hid (show ¬ n ≤ 0 by omega)
        clear n0
        have hc1 := chg_alloc w (.cells #[.int .i64 43, .string s, .int .u64 n, .int .i64 p, .slice A m c] 25)
        have hb1 := Blk.new w 25 #[.int .i64 43, .string s, .int .u64 n, .int .i64 p, .slice A m c]
        have hcall := rname3_any s (w.alloc (.cells #[.int .i64 43, .string s, .int .u64 n, .int .i64 p, .slice A m c] 25))
        rw [hn] at hcall
        clear hn
        have HC := Lib.hid (And.intro hc1 hb1)
        clear hc1 hb1
        go_enter Tryd.func39, Tryd.ntmps39
        go_wp2_with fail
        refine hcall.mono fun e w1 h => ?_
        obtain ⟨rfl, hc2⟩ := h
        clear hcall
        obtain ⟨y0, y1, y2, y3, y4⟩ := (hc2.blk HC.out.2 id).cells5
        have HD := Lib.hid (HC.out.1.trans hc2)
        clear hc2
        go_wp2_with fail
        go_ret
        exact ⟨by simp [textF, numF, namedK, HN.out, HE.out, HZ0.out, HZ1.out], HD.out⟩
set_option maxRecDepth 100000 in
set_option maxHeartbeats 2000000 in
theorem label_33 (w : World) (s : ByteArray) (n : Nat) (p : Int) (A : Option Addr) (m c : Nat) :
    Calls Tryd.prog 39 #[.agg #[.int .i64 33, .string s, .int .u64 n, .int .i64 p, .slice A m c]] w fun e w' => e = .returned (.bool (textF 33 s m && numF 33 n)) ∧ Chg (fun _ _ => False) w w' := by
  by_cases s45 : s = ⟨#[45]⟩
  · have g45 : (s.toList == [45]) = true := lit_eq s45
    have HX := Lib.hid (show Lib.containsS unL s = true from (Lib.containsS_iff _ _).2 (by rw [s45]; simp [unL]))
    clear s45
    by_cases m1 : m = 1
    · subst m1
      by_cases n0 : n = 0
      · subst n0
        have hc1 := chg_alloc w (.cells #[.int .i64 33, .string s, .int .u64 ((0 : Nat) : Int), .int .i64 p, .slice A 1 c] 25)
        have hb1 := Blk.new w 25 #[.int .i64 33, .string s, .int .u64 ((0 : Nat) : Int), .int .i64 p, .slice A 1 c]
        have hcall := rname3_any s (w.alloc (.cells #[.int .i64 33, .string s, .int .u64 ((0 : Nat) : Int), .int .i64 p, .slice A 1 c] 25))
        have HC := Lib.hid (And.intro hc1 hb1)
        clear hc1 hb1
        go_enter Tryd.func39, Tryd.ntmps39
        go_wp2_with fail
        refine hcall.mono fun e w1 h => ?_
        obtain ⟨rfl, hc2⟩ := h
        clear hcall
        obtain ⟨y0, y1, y2, y3, y4⟩ := (hc2.blk HC.out.2 id).cells5
        have HD := Lib.hid (HC.out.1.trans hc2)
        clear hc2
        go_wp2_with fail
        go_ret
        exact ⟨by simp [textF, numF, namedK, HX.out], HD.out⟩
      · skip
        have u0 : (n == 0) = false := by simp; omega
        have uu : ((n : Int) == 0) = false := by simp; omega
        have v0 : decide (n ≤ 0) = false := decide_eq_false (by omega)
        have v0' : decide ((n : Int) ≤ 0) = false := decide_eq_false (by omega)
        have w1 : decide (1 ≤ n) = true := decide_eq_true (by omega)
        have w1' : decide ((1 : Int) ≤ (n : Int)) = true := decide_eq_true (by omega)
        have w0' : decide (0 < n) = true := decide_eq_true (by omega)
        have HZ := Lib.hid (show 1 ≤ n by omega)
        have HZ0 := Lib.hid (show ¬ n = 0 by omega)
        have HZ1 := Lib.hid (show ¬ n ≤ 0 by omega)
        clear n0
        have hc1 := chg_alloc w (.cells #[.int .i64 33, .string s, .int .u64 n, .int .i64 p, .slice A 1 c] 25)
        have hb1 := Blk.new w 25 #[.int .i64 33, .string s, .int .u64 n, .int .i64 p, .slice A 1 c]
        have hcall := rname3_any s (w.alloc (.cells #[.int .i64 33, .string s, .int .u64 n, .int .i64 p, .slice A 1 c] 25))
        have HC := Lib.hid (And.intro hc1 hb1)
        clear hc1 hb1
        go_enter Tryd.func39, Tryd.ntmps39
        go_wp2_with fail
        refine hcall.mono fun e w1 h => ?_
        obtain ⟨rfl, hc2⟩ := h
        clear hcall
        obtain ⟨y0, y1, y2, y3, y4⟩ := (hc2.blk HC.out.2 id).cells5
        have HD := Lib.hid (HC.out.1.trans hc2)
        clear hc2
        go_wp2_with fail
        go_ret
        exact ⟨by simp [textF, numF, namedK, HX.out, HZ0.out, HZ1.out], HD.out⟩
    · by_cases m2 : m = 2
      · subst m2
        clear m1
        by_cases n0 : n = 0
        · subst n0
          have hc1 := chg_alloc w (.cells #[.int .i64 33, .string s, .int .u64 ((0 : Nat) : Int), .int .i64 p, .slice A 2 c] 25)
          have hb1 := Blk.new w 25 #[.int .i64 33, .string s, .int .u64 ((0 : Nat) : Int), .int .i64 p, .slice A 2 c]
          have hcall := rname3_any s (w.alloc (.cells #[.int .i64 33, .string s, .int .u64 ((0 : Nat) : Int), .int .i64 p, .slice A 2 c] 25))
          have HC := Lib.hid (And.intro hc1 hb1)
          clear hc1 hb1
          go_enter Tryd.func39, Tryd.ntmps39
          go_wp2_with fail
          refine hcall.mono fun e w1 h => ?_
          obtain ⟨rfl, hc2⟩ := h
          clear hcall
          obtain ⟨y0, y1, y2, y3, y4⟩ := (hc2.blk HC.out.2 id).cells5
          have HD := Lib.hid (HC.out.1.trans hc2)
          clear hc2
          go_wp2_with fail
          refine (strength_any s _).mono fun e w2 h => ?_
          obtain ⟨rfl, rfl⟩ := h
          go_wp2_with fail
          go_ret
          exact ⟨by simp [textF, numF, namedK, HX.out], HD.out⟩
        · skip
          have u0 : (n == 0) = false := by simp; omega
          have uu : ((n : Int) == 0) = false := by simp; omega
          have v0 : decide (n ≤ 0) = false := decide_eq_false (by omega)
          have v0' : decide ((n : Int) ≤ 0) = false := decide_eq_false (by omega)
          have w1 : decide (1 ≤ n) = true := decide_eq_true (by omega)
          have w1' : decide ((1 : Int) ≤ (n : Int)) = true := decide_eq_true (by omega)
          have w0' : decide (0 < n) = true := decide_eq_true (by omega)
          have HZ := Lib.hid (show 1 ≤ n by omega)
          have HZ0 := Lib.hid (show ¬ n = 0 by omega)
          have HZ1 := Lib.hid (show ¬ n ≤ 0 by omega)
          clear n0
          have hc1 := chg_alloc w (.cells #[.int .i64 33, .string s, .int .u64 n, .int .i64 p, .slice A 2 c] 25)
          have hb1 := Blk.new w 25 #[.int .i64 33, .string s, .int .u64 n, .int .i64 p, .slice A 2 c]
          have hcall := rname3_any s (w.alloc (.cells #[.int .i64 33, .string s, .int .u64 n, .int .i64 p, .slice A 2 c] 25))
          have HC := Lib.hid (And.intro hc1 hb1)
          clear hc1 hb1
          go_enter Tryd.func39, Tryd.ntmps39
          go_wp2_with fail
          refine hcall.mono fun e w1 h => ?_
          obtain ⟨rfl, hc2⟩ := h
          clear hcall
          obtain ⟨y0, y1, y2, y3, y4⟩ := (hc2.blk HC.out.2 id).cells5
          have HD := Lib.hid (HC.out.1.trans hc2)
          clear hc2
          go_wp2_with fail
          go_ret
          exact ⟨by simp [textF, numF, namedK, HX.out, HZ0.out, HZ1.out], HD.out⟩
      · have p1 : (m == 1) = false := by simp [m1]
        have p2 : (m == 2) = false := by simp [m2]
        have p1' : ((m : Int) == 1) = false := by rw [beq_eq_false_iff_ne]; omega
        have p2' : ((m : Int) == 2) = false := by rw [beq_eq_false_iff_ne]; omega
        have HM := Lib.hid (And.intro m1 m2)
        clear m1 m2
        by_cases n0 : n = 0
        · subst n0
          have hc1 := chg_alloc w (.cells #[.int .i64 33, .string s, .int .u64 ((0 : Nat) : Int), .int .i64 p, .slice A m c] 25)
          have hb1 := Blk.new w 25 #[.int .i64 33, .string s, .int .u64 ((0 : Nat) : Int), .int .i64 p, .slice A m c]
          have hcall := rname3_any s (w.alloc (.cells #[.int .i64 33, .string s, .int .u64 ((0 : Nat) : Int), .int .i64 p, .slice A m c] 25))
          have HC := Lib.hid (And.intro hc1 hb1)
          clear hc1 hb1
          go_enter Tryd.func39, Tryd.ntmps39
          go_wp2_with fail
          refine hcall.mono fun e w1 h => ?_
          obtain ⟨rfl, hc2⟩ := h
          clear hcall
          obtain ⟨y0, y1, y2, y3, y4⟩ := (hc2.blk HC.out.2 id).cells5
          have HD := Lib.hid (HC.out.1.trans hc2)
          clear hc2
          go_wp2_with fail
          go_ret
          exact ⟨by simp [textF, numF, namedK, HX.out, HM.out.1, HM.out.2], HD.out⟩
        · skip
          have u0 : (n == 0) = false := by simp; omega
          have uu : ((n : Int) == 0) = false := by simp; omega
          have v0 : decide (n ≤ 0) = false := decide_eq_false (by omega)
          have v0' : decide ((n : Int) ≤ 0) = false := decide_eq_false (by omega)
          have w1 : decide (1 ≤ n) = true := decide_eq_true (by omega)
          have w1' : decide ((1 : Int) ≤ (n : Int)) = true := decide_eq_true (by omega)
          have w0' : decide (0 < n) = true := decide_eq_true (by omega)
          have HZ := Lib.hid (show 1 ≤ n by omega)
          have HZ0 := Lib.hid (show ¬ n = 0 by omega)
          have HZ1 := Lib.hid (show ¬ n ≤ 0 by omega)
          clear n0
          have hc1 := chg_alloc w (.cells #[.int .i64 33, .string s, .int .u64 n, .int .i64 p, .slice A m c] 25)
          have hb1 := Blk.new w 25 #[.int .i64 33, .string s, .int .u64 n, .int .i64 p, .slice A m c]
          have hcall := rname3_any s (w.alloc (.cells #[.int .i64 33, .string s, .int .u64 n, .int .i64 p, .slice A m c] 25))
          have HC := Lib.hid (And.intro hc1 hb1)
          clear hc1 hb1
          go_enter Tryd.func39, Tryd.ntmps39
          go_wp2_with fail
          refine hcall.mono fun e w1 h => ?_
          obtain ⟨rfl, hc2⟩ := h
          clear hcall
          obtain ⟨y0, y1, y2, y3, y4⟩ := (hc2.blk HC.out.2 id).cells5
          have HD := Lib.hid (HC.out.1.trans hc2)
          clear hc2
          go_wp2_with fail
          go_ret
          exact ⟨by simp [textF, numF, namedK, HX.out, HM.out.1, HM.out.2, HZ0.out, HZ1.out], HD.out⟩
  · have g45 : (s.toList == [45]) = false := lit_ne s45
    by_cases s94 : s = ⟨#[94]⟩
    · have g94 : (s.toList == [94]) = true := lit_eq s94
      have HX := Lib.hid (show Lib.containsS unL s = true from (Lib.containsS_iff _ _).2 (by rw [s94]; simp [unL]))
      clear s45 s94
      by_cases m1 : m = 1
      · subst m1
        by_cases n0 : n = 0
        · subst n0
          have hc1 := chg_alloc w (.cells #[.int .i64 33, .string s, .int .u64 ((0 : Nat) : Int), .int .i64 p, .slice A 1 c] 25)
          have hb1 := Blk.new w 25 #[.int .i64 33, .string s, .int .u64 ((0 : Nat) : Int), .int .i64 p, .slice A 1 c]
          have hcall := rname3_any s (w.alloc (.cells #[.int .i64 33, .string s, .int .u64 ((0 : Nat) : Int), .int .i64 p, .slice A 1 c] 25))
          have HC := Lib.hid (And.intro hc1 hb1)
          clear hc1 hb1
          go_enter Tryd.func39, Tryd.ntmps39
          go_wp2_with fail
          refine hcall.mono fun e w1 h => ?_
          obtain ⟨rfl, hc2⟩ := h
          clear hcall
          obtain ⟨y0, y1, y2, y3, y4⟩ := (hc2.blk HC.out.2 id).cells5
          have HD := Lib.hid (HC.out.1.trans hc2)
          clear hc2
          go_wp2_with fail
          go_ret
          exact ⟨by simp [textF, numF, namedK, HX.out], HD.out⟩
        · skip
          have u0 : (n == 0) = false := by simp; omega
          have uu : ((n : Int) == 0) = false := by simp; omega
          have v0 : decide (n ≤ 0) = false := decide_eq_false (by omega)
          have v0' : decide ((n : Int) ≤ 0) = false := decide_eq_false (by omega)
          have w1 : decide (1 ≤ n) = true := decide_eq_true (by omega)
          have w1' : decide ((1 : Int) ≤ (n : Int)) = true := decide_eq_true (by omega)
          have w0' : decide (0 < n) = true := decide_eq_true (by omega)
          have HZ := Lib.hid (show 1 ≤ n by omega)
          have HZ0 := Lib.hid (show ¬ n = 0 by omega)
          have HZ1 := Lib.hid (show ¬ n ≤ 0 by omega)
          clear n0
          have hc1 := chg_alloc w (.cells #[.int .i64 33, .string s, .int .u64 n, .int .i64 p, .slice A 1 c] 25)
          have hb1 := Blk.new w 25 #[.int .i64 33, .string s, .int .u64 n, .int .i64 p, .slice A 1 c]
          have hcall := rname3_any s (w.alloc (.cells #[.int .i64 33, .string s, .int .u64 n, .int .i64 p, .slice A 1 c] 25))
          have HC := Lib.hid (And.intro hc1 hb1)
          clear hc1 hb1
          go_enter Tryd.func39, Tryd.ntmps39
          go_wp2_with fail
          refine hcall.mono fun e w1 h => ?_
          obtain ⟨rfl, hc2⟩ := h
          clear hcall
          obtain ⟨y0, y1, y2, y3, y4⟩ := (hc2.blk HC.out.2 id).cells5
          have HD := Lib.hid (HC.out.1.trans hc2)
          clear hc2
          go_wp2_with fail
          go_ret
          exact ⟨by simp [textF, numF, namedK, HX.out, HZ0.out, HZ1.out], HD.out⟩
      · by_cases m2 : m = 2
        · subst m2
          clear m1
          by_cases n0 : n = 0
          · subst n0
            have hc1 := chg_alloc w (.cells #[.int .i64 33, .string s, .int .u64 ((0 : Nat) : Int), .int .i64 p, .slice A 2 c] 25)
            have hb1 := Blk.new w 25 #[.int .i64 33, .string s, .int .u64 ((0 : Nat) : Int), .int .i64 p, .slice A 2 c]
            have hcall := rname3_any s (w.alloc (.cells #[.int .i64 33, .string s, .int .u64 ((0 : Nat) : Int), .int .i64 p, .slice A 2 c] 25))
            have HC := Lib.hid (And.intro hc1 hb1)
            clear hc1 hb1
            go_enter Tryd.func39, Tryd.ntmps39
            go_wp2_with fail
            refine hcall.mono fun e w1 h => ?_
            obtain ⟨rfl, hc2⟩ := h
            clear hcall
            obtain ⟨y0, y1, y2, y3, y4⟩ := (hc2.blk HC.out.2 id).cells5
            have HD := Lib.hid (HC.out.1.trans hc2)
            clear hc2
            go_wp2_with fail
            refine (strength_any s _).mono fun e w2 h => ?_
            obtain ⟨rfl, rfl⟩ := h
            go_wp2_with fail
            go_ret
            exact ⟨by simp [textF, numF, namedK, HX.out], HD.out⟩
          · skip
            have u0 : (n == 0) = false := by simp; omega
            have uu : ((n : Int) == 0) = false := by simp; omega
            have v0 : decide (n ≤ 0) = false := decide_eq_false (by omega)
            have v0' : decide ((n : Int) ≤ 0) = false := decide_eq_false (by omega)
            have w1 : decide (1 ≤ n) = true := decide_eq_true (by omega)
            have w1' : decide ((1 : Int) ≤ (n : Int)) = true := decide_eq_true (by omega)
            have w0' : decide (0 < n) = true := decide_eq_true (by omega)
            have HZ := Lib.hid (show 1 ≤ n by omega)
            have HZ0 := Lib.hid (show ¬ n = 0 by omega)
            have HZ1 := Lib.hid (show ¬ n ≤ 0 by omega)
            clear n0
            have hc1 := chg_alloc w (.cells #[.int .i64 33, .string s, .int .u64 n, .int .i64 p, .slice A 2 c] 25)
            have hb1 := Blk.new w 25 #[.int .i64 33, .string s, .int .u64 n, .int .i64 p, .slice A 2 c]
            have hcall := rname3_any s (w.alloc (.cells #[.int .i64 33, .string s, .int .u64 n, .int .i64 p, .slice A 2 c] 25))
            have HC := Lib.hid (And.intro hc1 hb1)
            clear hc1 hb1
            go_enter Tryd.func39, Tryd.ntmps39
            go_wp2_with fail
            refine hcall.mono fun e w1 h => ?_
            obtain ⟨rfl, hc2⟩ := h
            clear hcall
            obtain ⟨y0, y1, y2, y3, y4⟩ := (hc2.blk HC.out.2 id).cells5
            have HD := Lib.hid (HC.out.1.trans hc2)
            clear hc2
            go_wp2_with fail
            go_ret
            exact ⟨by simp [textF, numF, namedK, HX.out, HZ0.out, HZ1.out], HD.out⟩
        · have p1 : (m == 1) = false := by simp [m1]
          have p2 : (m == 2) = false := by simp [m2]
          have p1' : ((m : Int) == 1) = false := by rw [beq_eq_false_iff_ne]; omega
          have p2' : ((m : Int) == 2) = false := by rw [beq_eq_false_iff_ne]; omega
          have HM := Lib.hid (And.intro m1 m2)
          clear m1 m2
          by_cases n0 : n = 0
          · subst n0
            have hc1 := chg_alloc w (.cells #[.int .i64 33, .string s, .int .u64 ((0 : Nat) : Int), .int .i64 p, .slice A m c] 25)
            have hb1 := Blk.new w 25 #[.int .i64 33, .string s, .int .u64 ((0 : Nat) : Int), .int .i64 p, .slice A m c]
            have hcall := rname3_any s (w.alloc (.cells #[.int .i64 33, .string s, .int .u64 ((0 : Nat) : Int), .int .i64 p, .slice A m c] 25))
            have HC := Lib.hid (And.intro hc1 hb1)
            clear hc1 hb1
            go_enter Tryd.func39, Tryd.ntmps39
            go_wp2_with fail
            refine hcall.mono fun e w1 h => ?_
            obtain ⟨rfl, hc2⟩ := h
            clear hcall
            obtain ⟨y0, y1, y2, y3, y4⟩ := (hc2.blk HC.out.2 id).cells5
            have HD := Lib.hid (HC.out.1.trans hc2)
            clear hc2
            go_wp2_with fail
            go_ret
            exact ⟨by simp [textF, numF, namedK, HX.out, HM.out.1, HM.out.2], HD.out⟩
          · skip
            have u0 : (n == 0) = false := by simp; omega
            have uu : ((n : Int) == 0) = false := by simp; omega
            have v0 : decide (n ≤ 0) = false := decide_eq_false (by omega)
            have v0' : decide ((n : Int) ≤ 0) = false := decide_eq_false (by omega)
            have w1 : decide (1 ≤ n) = true := decide_eq_true (by omega)
            have w1' : decide ((1 : Int) ≤ (n : Int)) = true := decide_eq_true (by omega)
            have w0' : decide (0 < n) = true := decide_eq_true (by omega)
            have HZ := Lib.hid (show 1 ≤ n by omega)
            have HZ0 := Lib.hid (show ¬ n = 0 by omega)
            have HZ1 := Lib.hid (show ¬ n ≤ 0 by omega)
            clear n0
            have hc1 := chg_alloc w (.cells #[.int .i64 33, .string s, .int .u64 n, .int .i64 p, .slice A m c] 25)
            have hb1 := Blk.new w 25 #[.int .i64 33, .string s, .int .u64 n, .int .i64 p, .slice A m c]
            have hcall := rname3_any s (w.alloc (.cells #[.int .i64 33, .string s, .int .u64 n, .int .i64 p, .slice A m c] 25))
            have HC := Lib.hid (And.intro hc1 hb1)
            clear hc1 hb1
            go_enter Tryd.func39, Tryd.ntmps39
            go_wp2_with fail
            refine hcall.mono fun e w1 h => ?_
            obtain ⟨rfl, hc2⟩ := h
            clear hcall
            obtain ⟨y0, y1, y2, y3, y4⟩ := (hc2.blk HC.out.2 id).cells5
            have HD := Lib.hid (HC.out.1.trans hc2)
            clear hc2
            go_wp2_with fail
            go_ret
            exact ⟨by simp [textF, numF, namedK, HX.out, HM.out.1, HM.out.2, HZ0.out, HZ1.out], HD.out⟩
    · have g94 : (s.toList == [94]) = false := lit_ne s94
      by_cases s33 : s = ⟨#[33]⟩
      · have g33 : (s.toList == [33]) = true := lit_eq s33
        have HX := Lib.hid (show Lib.containsS unL s = true from (Lib.containsS_iff _ _).2 (by rw [s33]; simp [unL]))
        clear s45 s94 s33
        by_cases m1 : m = 1
        · subst m1
          by_cases n0 : n = 0
          · subst n0
            have hc1 := chg_alloc w (.cells #[.int .i64 33, .string s, .int .u64 ((0 : Nat) : Int), .int .i64 p, .slice A 1 c] 25)
            have hb1 := Blk.new w 25 #[.int .i64 33, .string s, .int .u64 ((0 : Nat) : Int), .int .i64 p, .slice A 1 c]
            have hcall := rname3_any s (w.alloc (.cells #[.int .i64 33, .string s, .int .u64 ((0 : Nat) : Int), .int .i64 p, .slice A 1 c] 25))
            have HC := Lib.hid (And.intro hc1 hb1)
            clear hc1 hb1
            go_enter Tryd.func39, Tryd.ntmps39
            go_wp2_with fail
            refine hcall.mono fun e w1 h => ?_
            obtain ⟨rfl, hc2⟩ := h
            clear hcall
            obtain ⟨y0, y1, y2, y3, y4⟩ := (hc2.blk HC.out.2 id).cells5
            have HD := Lib.hid (HC.out.1.trans hc2)
            clear hc2
            go_wp2_with fail
            go_ret
            exact ⟨by simp [textF, numF, namedK, HX.out], HD.out⟩
          · skip
            have u0 : (n == 0) = false := by simp; omega
            have uu : ((n : Int) == 0) = false := by simp; omega
            have v0 : decide (n ≤ 0) = false := decide_eq_false (by omega)
            have v0' : decide ((n : Int) ≤ 0) = false := decide_eq_false (by omega)
            have w1 : decide (1 ≤ n) = true := decide_eq_true (by omega)
            have w1' : decide ((1 : Int) ≤ (n : Int)) = true := decide_eq_true (by omega)
            have w0' : decide (0 < n) = true := decide_eq_true (by omega)
            have HZ := Lib.hid (show 1 ≤ n by omega)
            have HZ0 := Lib.hid (show ¬ n = 0 by omega)
            have HZ1 := Lib.hid (show ¬ n ≤ 0 by omega)
            clear n0
            have hc1 := chg_alloc w (.cells #[.int .i64 33, .string s, .int .u64 n, .int .i64 p, .slice A 1 c] 25)
            have hb1 := Blk.new w 25 #[.int .i64 33, .string s, .int .u64 n, .int .i64 p, .slice A 1 c]
            have hcall := rname3_any s (w.alloc (.cells #[.int .i64 33, .string s, .int .u64 n, .int .i64 p, .slice A 1 c] 25))
            have HC := Lib.hid (And.intro hc1 hb1)
            clear hc1 hb1
            go_enter Tryd.func39, Tryd.ntmps39
            go_wp2_with fail
            refine hcall.mono fun e w1 h => ?_
            obtain ⟨rfl, hc2⟩ := h
            clear hcall
            obtain ⟨y0, y1, y2, y3, y4⟩ := (hc2.blk HC.out.2 id).cells5
            have HD := Lib.hid (HC.out.1.trans hc2)
            clear hc2
            go_wp2_with fail
            go_ret
            exact ⟨by simp [textF, numF, namedK, HX.out, HZ0.out, HZ1.out], HD.out⟩
        · by_cases m2 : m = 2
          · subst m2
            clear m1
            by_cases n0 : n = 0
            · subst n0
              have hc1 := chg_alloc w (.cells #[.int .i64 33, .string s, .int .u64 ((0 : Nat) : Int), .int .i64 p, .slice A 2 c] 25)
              have hb1 := Blk.new w 25 #[.int .i64 33, .string s, .int .u64 ((0 : Nat) : Int), .int .i64 p, .slice A 2 c]
              have hcall := rname3_any s (w.alloc (.cells #[.int .i64 33, .string s, .int .u64 ((0 : Nat) : Int), .int .i64 p, .slice A 2 c] 25))
              have HC := Lib.hid (And.intro hc1 hb1)
              clear hc1 hb1
              go_enter Tryd.func39, Tryd.ntmps39
              go_wp2_with fail
              refine hcall.mono fun e w1 h => ?_
              obtain ⟨rfl, hc2⟩ := h
              clear hcall
              obtain ⟨y0, y1, y2, y3, y4⟩ := (hc2.blk HC.out.2 id).cells5
              have HD := Lib.hid (HC.out.1.trans hc2)
              clear hc2
              go_wp2_with fail
              refine (strength_any s _).mono fun e w2 h => ?_
              obtain ⟨rfl, rfl⟩ := h
              go_wp2_with fail
              go_ret
              exact ⟨by simp [textF, numF, namedK, HX.out], HD.out⟩
            · skip
              have u0 : (n == 0) = false := by simp; omega
              have uu : ((n : Int) == 0) = false := by simp; omega
              have v0 : decide (n ≤ 0) = false := decide_eq_false (by omega)
              have v0' : decide ((n : Int) ≤ 0) = false := decide_eq_false (by omega)
              have w1 : decide (1 ≤ n) = true := decide_eq_true (by omega)
              have w1' : decide ((1 : Int) ≤ (n : Int)) = true := decide_eq_true (by omega)
              have w0' : decide (0 < n) = true := decide_eq_true (by omega)
              have HZ := Lib.hid (show 1 ≤ n by omega)
              have HZ0 := Lib.hid (show ¬ n = 0 by omega)
              have HZ1 := Lib.hid (show ¬ n ≤ 0 by omega)
              clear n0
              have hc1 := chg_alloc w (.cells #[.int .i64 33, .string s, .int .u64 n, .int .i64 p, .slice A 2 c] 25)
              have hb1 := Blk.new w 25 #[.int .i64 33, .string s, .int .u64 n, .int .i64 p, .slice A 2 c]
              have hcall := rname3_any s (w.alloc (.cells #[.int .i64 33, .string s, .int .u64 n, .int .i64 p, .slice A 2 c] 25))
              have HC := Lib.hid (And.intro hc1 hb1)
              clear hc1 hb1
              go_enter Tryd.func39, Tryd.ntmps39
              go_wp2_with fail
              refine hcall.mono fun e w1 h => ?_
              obtain ⟨rfl, hc2⟩ := h
              clear hcall
              obtain ⟨y0, y1, y2, y3, y4⟩ := (hc2.blk HC.out.2 id).cells5
              have HD := Lib.hid (HC.out.1.trans hc2)
              clear hc2
              go_wp2_with fail
              go_ret
              exact ⟨by simp [textF, numF, namedK, HX.out, HZ0.out, HZ1.out], HD.out⟩
          · have p1 : (m == 1) = false := by simp [m1]
            have p2 : (m == 2) = false := by simp [m2]
            have p1' : ((m : Int) == 1) = false := by rw [beq_eq_false_iff_ne]; omega
            have p2' : ((m : Int) == 2) = false := by rw [beq_eq_false_iff_ne]; omega
            have HM := Lib.hid (And.intro m1 m2)
            clear m1 m2
            by_cases n0 : n = 0
            · subst n0
              have hc1 := chg_alloc w (.cells #[.int .i64 33, .string s, .int .u64 ((0 : Nat) : Int), .int .i64 p, .slice A m c] 25)
              have hb1 := Blk.new w 25 #[.int .i64 33, .string s, .int .u64 ((0 : Nat) : Int), .int .i64 p, .slice A m c]
              have hcall := rname3_any s (w.alloc (.cells #[.int .i64 33, .string s, .int .u64 ((0 : Nat) : Int), .int .i64 p, .slice A m c] 25))
              have HC := Lib.hid (And.intro hc1 hb1)
              clear hc1 hb1
              go_enter Tryd.func39, Tryd.ntmps39
              go_wp2_with fail
              refine hcall.mono fun e w1 h => ?_
              obtain ⟨rfl, hc2⟩ := h
              clear hcall
              obtain ⟨y0, y1, y2, y3, y4⟩ := (hc2.blk HC.out.2 id).cells5
              have HD := Lib.hid (HC.out.1.trans hc2)
              clear hc2
              go_wp2_with fail
              go_ret
              exact ⟨by simp [textF, numF, namedK, HX.out, HM.out.1, HM.out.2], HD.out⟩
            · skip
              have u0 : (n == 0) = false := by simp; omega
              have uu : ((n : Int) == 0) = false := by simp; omega
              have v0 : decide (n ≤ 0) = false := decide_eq_false (by omega)
              have v0' : decide ((n : Int) ≤ 0) = false := decide_eq_false (by omega)
              have w1 : decide (1 ≤ n) = true := decide_eq_true (by omega)
              have w1' : decide ((1 : Int) ≤ (n : Int)) = true := decide_eq_true (by omega)
              have w0' : decide (0 < n) = true := decide_eq_true (by omega)
              have HZ := Lib.hid (show 1 ≤ n by omega)
              have HZ0 := Lib.hid (show ¬ n = 0 by omega)
              have HZ1 := Lib.hid (show ¬ n ≤ 0 by omega)
              clear n0
              have hc1 := chg_alloc w (.cells #[.int .i64 33, .string s, .int .u64 n, .int .i64 p, .slice A m c] 25)
              have hb1 := Blk.new w 25 #[.int .i64 33, .string s, .int .u64 n, .int .i64 p, .slice A m c]
              have hcall := rname3_any s (w.alloc (.cells #[.int .i64 33, .string s, .int .u64 n, .int .i64 p, .slice A m c] 25))
              have HC := Lib.hid (And.intro hc1 hb1)
              clear hc1 hb1
              go_enter Tryd.func39, Tryd.ntmps39
              go_wp2_with fail
              refine hcall.mono fun e w1 h => ?_
              obtain ⟨rfl, hc2⟩ := h
              clear hcall
              obtain ⟨y0, y1, y2, y3, y4⟩ := (hc2.blk HC.out.2 id).cells5
              have HD := Lib.hid (HC.out.1.trans hc2)
              clear hc2
              go_wp2_with fail
              go_ret
              exact ⟨by simp [textF, numF, namedK, HX.out, HM.out.1, HM.out.2, HZ0.out, HZ1.out], HD.out⟩
      · have g33 : (s.toList == [33]) = false := lit_ne s33
        have HX := Lib.hid (show Lib.containsS unL s = false from Bool.eq_false_iff.2 fun h => by have := (Lib.containsS_iff _ _).1 h; simp [unL] at this; rcases this with h | h | h <;> first | exact s45 h | exact s94 h | exact s33 h)
        clear s45 s94 s33
        by_cases m1 : m = 1
        · subst m1
          by_cases n0 : n = 0
          · subst n0
            have hc1 := chg_alloc w (.cells #[.int .i64 33, .string s, .int .u64 ((0 : Nat) : Int), .int .i64 p, .slice A 1 c] 25)
            have hb1 := Blk.new w 25 #[.int .i64 33, .string s, .int .u64 ((0 : Nat) : Int), .int .i64 p, .slice A 1 c]
            have hcall := rname3_any s (w.alloc (.cells #[.int .i64 33, .string s, .int .u64 ((0 : Nat) : Int), .int .i64 p, .slice A 1 c] 25))
            have HC := Lib.hid (And.intro hc1 hb1)
            clear hc1 hb1
            go_enter Tryd.func39, Tryd.ntmps39
            go_wp2_with fail
            refine hcall.mono fun e w1 h => ?_
            obtain ⟨rfl, hc2⟩ := h
            clear hcall
            obtain ⟨y0, y1, y2, y3, y4⟩ := (hc2.blk HC.out.2 id).cells5
            have HD := Lib.hid (HC.out.1.trans hc2)
            clear hc2
            go_wp2_with fail
            go_ret
            exact ⟨by simp [textF, numF, namedK, HX.out], HD.out⟩
          · skip
            have u0 : (n == 0) = false := by simp; omega
            have uu : ((n : Int) == 0) = false := by simp; omega
            have v0 : decide (n ≤ 0) = false := decide_eq_false (by omega)
            have v0' : decide ((n : Int) ≤ 0) = false := decide_eq_false (by omega)
            have w1 : decide (1 ≤ n) = true := decide_eq_true (by omega)
            have w1' : decide ((1 : Int) ≤ (n : Int)) = true := decide_eq_true (by omega)
            have w0' : decide (0 < n) = true := decide_eq_true (by omega)
            have HZ := Lib.hid (show 1 ≤ n by omega)
            have HZ0 := Lib.hid (show ¬ n = 0 by omega)
            have HZ1 := Lib.hid (show ¬ n ≤ 0 by omega)
            clear n0
            have hc1 := chg_alloc w (.cells #[.int .i64 33, .string s, .int .u64 n, .int .i64 p, .slice A 1 c] 25)
            have hb1 := Blk.new w 25 #[.int .i64 33, .string s, .int .u64 n, .int .i64 p, .slice A 1 c]
            have hcall := rname3_any s (w.alloc (.cells #[.int .i64 33, .string s, .int .u64 n, .int .i64 p, .slice A 1 c] 25))
            have HC := Lib.hid (And.intro hc1 hb1)
            clear hc1 hb1
            go_enter Tryd.func39, Tryd.ntmps39
            go_wp2_with fail
            refine hcall.mono fun e w1 h => ?_
            obtain ⟨rfl, hc2⟩ := h
            clear hcall
            obtain ⟨y0, y1, y2, y3, y4⟩ := (hc2.blk HC.out.2 id).cells5
            have HD := Lib.hid (HC.out.1.trans hc2)
            clear hc2
            go_wp2_with fail
            go_ret
            exact ⟨by simp [textF, numF, namedK, HX.out, HZ0.out, HZ1.out], HD.out⟩
        · by_cases m2 : m = 2
          · subst m2
            clear m1
            by_cases n0 : n = 0
            · subst n0
              have hc1 := chg_alloc w (.cells #[.int .i64 33, .string s, .int .u64 ((0 : Nat) : Int), .int .i64 p, .slice A 2 c] 25)
              have hb1 := Blk.new w 25 #[.int .i64 33, .string s, .int .u64 ((0 : Nat) : Int), .int .i64 p, .slice A 2 c]
              have hcall := rname3_any s (w.alloc (.cells #[.int .i64 33, .string s, .int .u64 ((0 : Nat) : Int), .int .i64 p, .slice A 2 c] 25))
              have HC := Lib.hid (And.intro hc1 hb1)
              clear hc1 hb1
              go_enter Tryd.func39, Tryd.ntmps39
              go_wp2_with fail
              refine hcall.mono fun e w1 h => ?_
              obtain ⟨rfl, hc2⟩ := h
              clear hcall
              obtain ⟨y0, y1, y2, y3, y4⟩ := (hc2.blk HC.out.2 id).cells5
              have HD := Lib.hid (HC.out.1.trans hc2)
              clear hc2
              go_wp2_with fail
              refine (strength_any s _).mono fun e w2 h => ?_
              obtain ⟨rfl, rfl⟩ := h
              go_wp2_with fail
              go_ret
              exact ⟨by simp [textF, numF, namedK, HX.out], HD.out⟩
            · skip
              have u0 : (n == 0) = false := by simp; omega
              have uu : ((n : Int) == 0) = false := by simp; omega
              have v0 : decide (n ≤ 0) = false := decide_eq_false (by omega)
              have v0' : decide ((n : Int) ≤ 0) = false := decide_eq_false (by omega)
              have w1 : decide (1 ≤ n) = true := decide_eq_true (by omega)
              have w1' : decide ((1 : Int) ≤ (n : Int)) = true := decide_eq_true (by omega)
              have w0' : decide (0 < n) = true := decide_eq_true (by omega)
              have HZ := Lib.hid (show 1 ≤ n by omega)
              have HZ0 := Lib.hid (show ¬ n = 0 by omega)
              have HZ1 := Lib.hid (show ¬ n ≤ 0 by omega)
              clear n0
              have hc1 := chg_alloc w (.cells #[.int .i64 33, .string s, .int .u64 n, .int .i64 p, .slice A 2 c] 25)
              have hb1 := Blk.new w 25 #[.int .i64 33, .string s, .int .u64 n, .int .i64 p, .slice A 2 c]
              have hcall := rname3_any s (w.alloc (.cells #[.int .i64 33, .string s, .int .u64 n, .int .i64 p, .slice A 2 c] 25))
              have HC := Lib.hid (And.intro hc1 hb1)
              clear hc1 hb1
              go_enter Tryd.func39, Tryd.ntmps39
              go_wp2_with fail
              refine hcall.mono fun e w1 h => ?_
              obtain ⟨rfl, hc2⟩ := h
              clear hcall
              obtain ⟨y0, y1, y2, y3, y4⟩ := (hc2.blk HC.out.2 id).cells5
              have HD := Lib.hid (HC.out.1.trans hc2)
              clear hc2
              go_wp2_with fail
              go_ret
              exact ⟨by simp [textF, numF, namedK, HX.out, HZ0.out, HZ1.out], HD.out⟩
          · have p1 : (m == 1) = false := by simp [m1]
            have p2 : (m == 2) = false := by simp [m2]
            have p1' : ((m : Int) == 1) = false := by rw [beq_eq_false_iff_ne]; omega
            have p2' : ((m : Int) == 2) = false := by rw [beq_eq_false_iff_ne]; omega
            have HM := Lib.hid (And.intro m1 m2)
            clear m1 m2
            by_cases n0 : n = 0
            · subst n0
              have hc1 := chg_alloc w (.cells #[.int .i64 33, .string s, .int .u64 ((0 : Nat) : Int), .int .i64 p, .slice A m c] 25)
              have hb1 := Blk.new w 25 #[.int .i64 33, .string s, .int .u64 ((0 : Nat) : Int), .int .i64 p, .slice A m c]
              have hcall := rname3_any s (w.alloc (.cells #[.int .i64 33, .string s, .int .u64 ((0 : Nat) : Int), .int .i64 p, .slice A m c] 25))
              have HC := Lib.hid (And.intro hc1 hb1)
              clear hc1 hb1
              go_enter Tryd.func39, Tryd.ntmps39
              go_wp2_with fail
              refine hcall.mono fun e w1 h => ?_
              obtain ⟨rfl, hc2⟩ := h
              clear hcall
              obtain ⟨y0, y1, y2, y3, y4⟩ := (hc2.blk HC.out.2 id).cells5
              have HD := Lib.hid (HC.out.1.trans hc2)
              clear hc2
              go_wp2_with fail
              go_ret
              exact ⟨by simp [textF, numF, namedK, HX.out, HM.out.1, HM.out.2], HD.out⟩
            · skip
              have u0 : (n == 0) = false := by simp; omega
              have uu : ((n : Int) == 0) = false := by simp; omega
              have v0 : decide (n ≤ 0) = false := decide_eq_false (by omega)
              have v0' : decide ((n : Int) ≤ 0) = false := decide_eq_false (by omega)
              have w1 : decide (1 ≤ n) = true := decide_eq_true (by omega)
              have w1' : decide ((1 : Int) ≤ (n : Int)) = true := decide_eq_true (by omega)
              have w0' : decide (0 < n) = true := decide_eq_true (by omega)
              have HZ := Lib.hid (show 1 ≤ n by omega)
              have HZ0 := Lib.hid (show ¬ n = 0 by omega)
              have HZ1 := Lib.hid (show ¬ n ≤ 0 by omega)
              clear n0
              have hc1 := chg_alloc w (.cells #[.int .i64 33, .string s, .int .u64 n, .int .i64 p, .slice A m c] 25)
              have hb1 := Blk.new w 25 #[.int .i64 33, .string s, .int .u64 n, .int .i64 p, .slice A m c]
              have hcall := rname3_any s (w.alloc (.cells #[.int .i64 33, .string s, .int .u64 n, .int .i64 p, .slice A m c] 25))
              have HC := Lib.hid (And.intro hc1 hb1)
              clear hc1 hb1
              go_enter Tryd.func39, Tryd.ntmps39
              go_wp2_with fail
              refine hcall.mono fun e w1 h => ?_
              obtain ⟨rfl, hc2⟩ := h
              clear hcall
              obtain ⟨y0, y1, y2, y3, y4⟩ := (hc2.blk HC.out.2 id).cells5
              have HD := Lib.hid (HC.out.1.trans hc2)
              clear hc2
              go_wp2_with fail
              go_ret
              exact ⟨by simp [textF, numF, namedK, HX.out, HM.out.1, HM.out.2, HZ0.out, HZ1.out], HD.out⟩
set_option maxRecDepth 100000 in
set_option maxHeartbeats 2000000 in
theorem label_13 (w : World) (s : ByteArray) (n : Nat) (p : Int) (A : Option Addr) (m c : Nat) :
    Calls Tryd.prog 39 #[.agg #[.int .i64 13, .string s, .int .u64 n, .int .i64 p, .slice A m c]] w fun e w' => e = .returned (.bool (textF 13 s m && numF 13 n)) ∧ Chg (fun _ _ => False) w w' := by
  by_cases he : s = ⟨#[]⟩
  · have qe := strE_true he
    have HE := Lib.hid qe
    clear he
    by_cases n0 : n = 0
    · subst n0
      have hc1 := chg_alloc w (.cells #[.int .i64 13, .string s, .int .u64 ((0 : Nat) : Int), .int .i64 p, .slice A m c] 25)
      have hb1 := Blk.new w 25 #[.int .i64 13, .string s, .int .u64 ((0 : Nat) : Int), .int .i64 p, .slice A m c]
      have hcall := rname3_any s (w.alloc (.cells #[.int .i64 13, .string s, .int .u64 ((0 : Nat) : Int), .int .i64 p, .slice A m c] 25))
      have HC := Lib.hid (And.intro hc1 hb1)
      clear hc1 hb1
      go_enter Tryd.func39, Tryd.ntmps39
      go_wp2_with fail
      refine hcall.mono fun e w1 h => ?_
      obtain ⟨rfl, hc2⟩ := h
      clear hcall
      obtain ⟨y0, y1, y2, y3, y4⟩ := (hc2.blk HC.out.2 id).cells5
      have HD := Lib.hid (HC.out.1.trans hc2)
      clear hc2
      go_wp2_with fail
      go_ret
      exact ⟨by simp [textF, numF, namedK, HE.out], HD.out⟩
    · skip
      by_cases n1 : n = 1
      · subst n1
        try clear n0
        have hc1 := chg_alloc w (.cells #[.int .i64 13, .string s, .int .u64 ((1 : Nat) : Int), .int .i64 p, .slice A m c] 25)
        have hb1 := Blk.new w 25 #[.int .i64 13, .string s, .int .u64 ((1 : Nat) : Int), .int .i64 p, .slice A m c]
        have hcall := rname3_any s (w.alloc (.cells #[.int .i64 13, .string s, .int .u64 ((1 : Nat) : Int), .int .i64 p, .slice A m c] 25))
        have HC := Lib.hid (And.intro hc1 hb1)
        clear hc1 hb1
        go_enter Tryd.func39, Tryd.ntmps39
        go_wp2_with fail
        refine hcall.mono fun e w1 h => ?_
        obtain ⟨rfl, hc2⟩ := h
        clear hcall
        obtain ⟨y0, y1, y2, y3, y4⟩ := (hc2.blk HC.out.2 id).cells5
        have HD := Lib.hid (HC.out.1.trans hc2)
        clear hc2
        go_wp2_with fail
        go_ret
        exact ⟨by simp [textF, numF, namedK, HE.out], HD.out⟩
      · skip
        have u0 : (n == 0) = false := by simp; omega
        have u1 : (n == 1) = false := by simp; omega
        have uu : ((n : Int) == 0) = false := by simp; omega
        have v0 : decide (n ≤ 0) = false := decide_eq_false (by omega)
        have v1 : decide (n ≤ 1) = false := decide_eq_false (by omega)
        have v0' : decide ((n : Int) ≤ 0) = false := decide_eq_false (by omega)
        have v1' : decide ((n : Int) ≤ 1) = false := decide_eq_false (by omega)
        have w1 : decide (1 ≤ n) = true := decide_eq_true (by omega)
        have w1' : decide ((1 : Int) ≤ (n : Int)) = true := decide_eq_true (by omega)
        have w0' : decide (0 < n) = true := decide_eq_true (by omega)
        have HZ := Lib.hid (show 2 ≤ n by omega)
        have HZ0 := Lib.hid (show ¬ n = 0 by omega)
        have HZ1 := Lib.hid (show ¬ n ≤ 1 by omega)
        clear n0 n1
        have hc1 := chg_alloc w (.cells #[.int .i64 13, .string s, .int .u64 n, .int .i64 p, .slice A m c] 25)
        have hb1 := Blk.new w 25 #[.int .i64 13, .string s, .int .u64 n, .int .i64 p, .slice A m c]
        have hcall := rname3_any s (w.alloc (.cells #[.int .i64 13, .string s, .int .u64 n, .int .i64 p, .slice A m c] 25))
        have HC := Lib.hid (And.intro hc1 hb1)
        clear hc1 hb1
        go_enter Tryd.func39, Tryd.ntmps39
        go_wp2_with fail
        refine hcall.mono fun e w1 h => ?_
        obtain ⟨rfl, hc2⟩ := h
        clear hcall
        obtain ⟨y0, y1, y2, y3, y4⟩ := (hc2.blk HC.out.2 id).cells5
        have HD := Lib.hid (HC.out.1.trans hc2)
        clear hc2
        go_wp2_with fail
        go_ret
        exact ⟨by simp [textF, numF, namedK, HE.out, HZ0.out, HZ1.out], HD.out⟩
  · have qe := strE_false he
    have HE := Lib.hid qe
    clear he
    by_cases n0 : n = 0
    · subst n0
      have hc1 := chg_alloc w (.cells #[.int .i64 13, .string s, .int .u64 ((0 : Nat) : Int), .int .i64 p, .slice A m c] 25)
      have hb1 := Blk.new w 25 #[.int .i64 13, .string s, .int .u64 ((0 : Nat) : Int), .int .i64 p, .slice A m c]
      have hcall := rname3_any s (w.alloc (.cells #[.int .i64 13, .string s, .int .u64 ((0 : Nat) : Int), .int .i64 p, .slice A m c] 25))
      have HC := Lib.hid (And.intro hc1 hb1)
      clear hc1 hb1
      go_enter Tryd.func39, Tryd.ntmps39
      go_wp2_with fail
      refine hcall.mono fun e w1 h => ?_
      obtain ⟨rfl, hc2⟩ := h
      clear hcall
      obtain ⟨y0, y1, y2, y3, y4⟩ := (hc2.blk HC.out.2 id).cells5
      have HD := Lib.hid (HC.out.1.trans hc2)
      clear hc2
      go_wp2_with fail
      go_ret
      exact ⟨by simp [textF, numF, namedK, HE.out], HD.out⟩
    · skip
      by_cases n1 : n = 1
      · subst n1
        try clear n0
        have hc1 := chg_alloc w (.cells #[.int .i64 13, .string s, .int .u64 ((1 : Nat) : Int), .int .i64 p, .slice A m c] 25)
        have hb1 := Blk.new w 25 #[.int .i64 13, .string s, .int .u64 ((1 : Nat) : Int), .int .i64 p, .slice A m c]
        have hcall := rname3_any s (w.alloc (.cells #[.int .i64 13, .string s, .int .u64 ((1 : Nat) : Int), .int .i64 p, .slice A m c] 25))
        have HC := Lib.hid (And.intro hc1 hb1)
        clear hc1 hb1
        go_enter Tryd.func39, Tryd.ntmps39
        go_wp2_with fail
        refine hcall.mono fun e w1 h => ?_
        obtain ⟨rfl, hc2⟩ := h
        clear hcall
        obtain ⟨y0, y1, y2, y3, y4⟩ := (hc2.blk HC.out.2 id).cells5
        have HD := Lib.hid (HC.out.1.trans hc2)
        clear hc2
        go_wp2_with fail
        go_ret
        exact ⟨by simp [textF, numF, namedK, HE.out], HD.out⟩
      · skip
        have u0 : (n == 0) = false := by simp; omega
        have u1 : (n == 1) = false := by simp; omega
        have uu : ((n : Int) == 0) = false := by simp; omega
        have v0 : decide (n ≤ 0) = false := decide_eq_false (by omega)
        have v1 : decide (n ≤ 1) = false := decide_eq_false (by omega)
        have v0' : decide ((n : Int) ≤ 0) = false := decide_eq_false (by omega)
        have v1' : decide ((n : Int) ≤ 1) = false := decide_eq_false (by omega)
        have w1 : decide (1 ≤ n) = true := decide_eq_true (by omega)
        have w1' : decide ((1 : Int) ≤ (n : Int)) = true := decide_eq_true (by omega)
        have w0' : decide (0 < n) = true := decide_eq_true (by omega)
        have HZ := Lib.hid (show 2 ≤ n by omega)
        have HZ0 := Lib.hid (show ¬ n = 0 by omega)
        have HZ1 := Lib.hid (show ¬ n ≤ 1 by omega)
        clear n0 n1
        have hc1 := chg_alloc w (.cells #[.int .i64 13, .string s, .int .u64 n, .int .i64 p, .slice A m c] 25)
        have hb1 := Blk.new w 25 #[.int .i64 13, .string s, .int .u64 n, .int .i64 p, .slice A m c]
        have hcall := rname3_any s (w.alloc (.cells #[.int .i64 13, .string s, .int .u64 n, .int .i64 p, .slice A m c] 25))
        have HC := Lib.hid (And.intro hc1 hb1)
        clear hc1 hb1
        go_enter Tryd.func39, Tryd.ntmps39
        go_wp2_with fail
        refine hcall.mono fun e w1 h => ?_
        obtain ⟨rfl, hc2⟩ := h
        clear hcall
        obtain ⟨y0, y1, y2, y3, y4⟩ := (hc2.blk HC.out.2 id).cells5
        have HD := Lib.hid (HC.out.1.trans hc2)
        clear hc2
        go_wp2_with fail
        go_ret
        exact ⟨by simp [textF, numF, namedK, HE.out, HZ0.out, HZ1.out], HD.out⟩
set_option maxRecDepth 100000 in
set_option maxHeartbeats 2000000 in
theorem label_27 (w : World) (s : ByteArray) (n : Nat) (p : Int) (A : Option Addr) (m c : Nat) :
    Calls Tryd.prog 39 #[.agg #[.int .i64 27, .string s, .int .u64 n, .int .i64 p, .slice A m c]] w fun e w' => e = .returned (.bool (textF 27 s m && numF 27 n)) ∧ Chg (fun _ _ => False) w w' := by
  by_cases he : s = ⟨#[]⟩
  · have qe := strE_true he
    have HE := Lib.hid qe
    clear he
    by_cases n0 : n = 0
    · subst n0
      have hc1 := chg_alloc w (.cells #[.int .i64 27, .string s, .int .u64 ((0 : Nat) : Int), .int .i64 p, .slice A m c] 25)
      have hb1 := Blk.new w 25 #[.int .i64 27, .string s, .int .u64 ((0 : Nat) : Int), .int .i64 p, .slice A m c]
      have hcall := rname3_any s (w.alloc (.cells #[.int .i64 27, .string s, .int .u64 ((0 : Nat) : Int), .int .i64 p, .slice A m c] 25))
      have HC := Lib.hid (And.intro hc1 hb1)
      clear hc1 hb1
      go_enter Tryd.func39, Tryd.ntmps39
      go_wp2_with fail
      refine hcall.mono fun e w1 h => ?_
      obtain ⟨rfl, hc2⟩ := h
      clear hcall
      obtain ⟨y0, y1, y2, y3, y4⟩ := (hc2.blk HC.out.2 id).cells5
      have HD := Lib.hid (HC.out.1.trans hc2)
      clear hc2
      go_wp2_with fail
      go_ret
      exact ⟨by simp [textF, numF, namedK, HE.out], HD.out⟩
    · skip
      by_cases n1 : n = 1
      · subst n1
        try clear n0
        have hc1 := chg_alloc w (.cells #[.int .i64 27, .string s, .int .u64 ((1 : Nat) : Int), .int .i64 p, .slice A m c] 25)
        have hb1 := Blk.new w 25 #[.int .i64 27, .string s, .int .u64 ((1 : Nat) : Int), .int .i64 p, .slice A m c]
        have hcall := rname3_any s (w.alloc (.cells #[.int .i64 27, .string s, .int .u64 ((1 : Nat) : Int), .int .i64 p, .slice A m c] 25))
        have HC := Lib.hid (And.intro hc1 hb1)
        clear hc1 hb1
        go_enter Tryd.func39, Tryd.ntmps39
        go_wp2_with fail
        refine hcall.mono fun e w1 h => ?_
        obtain ⟨rfl, hc2⟩ := h
        clear hcall
        obtain ⟨y0, y1, y2, y3, y4⟩ := (hc2.blk HC.out.2 id).cells5
        have HD := Lib.hid (HC.out.1.trans hc2)
        clear hc2
        go_wp2_with fail
        go_ret
        exact ⟨by simp [textF, numF, namedK, HE.out], HD.out⟩
      · skip
        have u0 : (n == 0) = false := by simp; omega
        have u1 : (n == 1) = false := by simp; omega
        have uu : ((n : Int) == 0) = false := by simp; omega
        have v0 : decide (n ≤ 0) = false := decide_eq_false (by omega)
        have v1 : decide (n ≤ 1) = false := decide_eq_false (by omega)
        have v0' : decide ((n : Int) ≤ 0) = false := decide_eq_false (by omega)
        have v1' : decide ((n : Int) ≤ 1) = false := decide_eq_false (by omega)
        have w1 : decide (1 ≤ n) = true := decide_eq_true (by omega)
        have w1' : decide ((1 : Int) ≤ (n : Int)) = true := decide_eq_true (by omega)
        have w0' : decide (0 < n) = true := decide_eq_true (by omega)
        have HZ := Lib.hid (show 2 ≤ n by omega)
        have HZ0 := Lib.hid (show ¬ n = 0 by omega)
        have HZ1 := Lib.hid (show ¬ n ≤ 1 by omega)
        clear n0 n1
        have hc1 := chg_alloc w (.cells #[.int .i64 27, .string s, .int .u64 n, .int .i64 p, .slice A m c] 25)
        have hb1 := Blk.new w 25 #[.int .i64 27, .string s, .int .u64 n, .int .i64 p, .slice A m c]
        have hcall := rname3_any s (w.alloc (.cells #[.int .i64 27, .string s, .int .u64 n, .int .i64 p, .slice A m c] 25))
        have HC := Lib.hid (And.intro hc1 hb1)
        clear hc1 hb1
        go_enter Tryd.func39, Tryd.ntmps39
        go_wp2_with fail
        refine hcall.mono fun e w1 h => ?_
        obtain ⟨rfl, hc2⟩ := h
        clear hcall
        obtain ⟨y0, y1, y2, y3, y4⟩ := (hc2.blk HC.out.2 id).cells5
        have HD := Lib.hid (HC.out.1.trans hc2)
        clear hc2
        go_wp2_with fail
        go_ret
        exact ⟨by simp [textF, numF, namedK, HE.out, HZ0.out, HZ1.out], HD.out⟩
  · have qe := strE_false he
    have HE := Lib.hid qe
    clear he
    by_cases n0 : n = 0
    · subst n0
      have hc1 := chg_alloc w (.cells #[.int .i64 27, .string s, .int .u64 ((0 : Nat) : Int), .int .i64 p, .slice A m c] 25)
      have hb1 := Blk.new w 25 #[.int .i64 27, .string s, .int .u64 ((0 : Nat) : Int), .int .i64 p, .slice A m c]
      have hcall := rname3_any s (w.alloc (.cells #[.int .i64 27, .string s, .int .u64 ((0 : Nat) : Int), .int .i64 p, .slice A m c] 25))
      have HC := Lib.hid (And.intro hc1 hb1)
      clear hc1 hb1
      go_enter Tryd.func39, Tryd.ntmps39
      go_wp2_with fail
      refine hcall.mono fun e w1 h => ?_
      obtain ⟨rfl, hc2⟩ := h
      clear hcall
      obtain ⟨y0, y1, y2, y3, y4⟩ := (hc2.blk HC.out.2 id).cells5
      have HD := Lib.hid (HC.out.1.trans hc2)
      clear hc2
      go_wp2_with fail
      go_ret
      exact ⟨by simp [textF, numF, namedK, HE.out], HD.out⟩
    · skip
      by_cases n1 : n = 1
      · subst n1
        try clear n0
        have hc1 := chg_alloc w (.cells #[.int .i64 27, .string s, .int .u64 ((1 : Nat) : Int), .int .i64 p, .slice A m c] 25)
        have hb1 := Blk.new w 25 #[.int .i64 27, .string s, .int .u64 ((1 : Nat) : Int), .int .i64 p, .slice A m c]
        have hcall := rname3_any s (w.alloc (.cells #[.int .i64 27, .string s, .int .u64 ((1 : Nat) : Int), .int .i64 p, .slice A m c] 25))
        have HC := Lib.hid (And.intro hc1 hb1)
        clear hc1 hb1
        go_enter Tryd.func39, Tryd.ntmps39
        go_wp2_with fail
        refine hcall.mono fun e w1 h => ?_
        obtain ⟨rfl, hc2⟩ := h
        clear hcall
        obtain ⟨y0, y1, y2, y3, y4⟩ := (hc2.blk HC.out.2 id).cells5
        have HD := Lib.hid (HC.out.1.trans hc2)
        clear hc2
        go_wp2_with fail
        go_ret
        exact ⟨by simp [textF, numF, namedK, HE.out], HD.out⟩
      · skip
        have u0 : (n == 0) = false := by simp; omega
        have u1 : (n == 1) = false := by simp; omega
        have uu : ((n : Int) == 0) = false := by simp; omega
        have v0 : decide (n ≤ 0) = false := decide_eq_false (by omega)
        have v1 : decide (n ≤ 1) = false := decide_eq_false (by omega)
        have v0' : decide ((n : Int) ≤ 0) = false := decide_eq_false (by omega)
        have v1' : decide ((n : Int) ≤ 1) = false := decide_eq_false (by omega)
        have w1 : decide (1 ≤ n) = true := decide_eq_true (by omega)
        have w1' : decide ((1 : Int) ≤ (n : Int)) = true := decide_eq_true (by omega)
        have w0' : decide (0 < n) = true := decide_eq_true (by omega)
        have HZ := Lib.hid (show 2 ≤ n by omega)
        have HZ0 := Lib.hid (show ¬ n = 0 by omega)
        have HZ1 := Lib.hid (show ¬ n ≤ 1 by omega)
        clear n0 n1
        have hc1 := chg_alloc w (.cells #[.int .i64 27, .string s, .int .u64 n, .int .i64 p, .slice A m c] 25)
        have hb1 := Blk.new w 25 #[.int .i64 27, .string s, .int .u64 n, .int .i64 p, .slice A m c]
        have hcall := rname3_any s (w.alloc (.cells #[.int .i64 27, .string s, .int .u64 n, .int .i64 p, .slice A m c] 25))
        have HC := Lib.hid (And.intro hc1 hb1)
        clear hc1 hb1
        go_enter Tryd.func39, Tryd.ntmps39
        go_wp2_with fail
        refine hcall.mono fun e w1 h => ?_
        obtain ⟨rfl, hc2⟩ := h
        clear hcall
        obtain ⟨y0, y1, y2, y3, y4⟩ := (hc2.blk HC.out.2 id).cells5
        have HD := Lib.hid (HC.out.1.trans hc2)
        clear hc2
        go_wp2_with fail
        go_ret
        exact ⟨by simp [textF, numF, namedK, HE.out, HZ0.out, HZ1.out], HD.out⟩
set_option maxRecDepth 100000 in
set_option maxHeartbeats 2000000 in
theorem label_29 (w : World) (s : ByteArray) (n : Nat) (p : Int) (A : Option Addr) (m c : Nat) :
    Calls Tryd.prog 39 #[.agg #[.int .i64 29, .string s, .int .u64 n, .int .i64 p, .slice A m c]] w fun e w' => e = .returned (.bool (textF 29 s m && numF 29 n)) ∧ Chg (fun _ _ => False) w w' := by
  by_cases he : s = ⟨#[]⟩
  · have qe := strE_true he
    have HE := Lib.hid qe
    clear he
    by_cases n0 : n = 0
    · subst n0
      have hc1 := chg_alloc w (.cells #[.int .i64 29, .string s, .int .u64 ((0 : Nat) : Int), .int .i64 p, .slice A m c] 25)
      have hb1 := Blk.new w 25 #[.int .i64 29, .string s, .int .u64 ((0 : Nat) : Int), .int .i64 p, .slice A m c]
      have hcall := rname3_any s (w.alloc (.cells #[.int .i64 29, .string s, .int .u64 ((0 : Nat) : Int), .int .i64 p, .slice A m c] 25))
      have HC := Lib.hid (And.intro hc1 hb1)
      clear hc1 hb1
      go_enter Tryd.func39, Tryd.ntmps39
      go_wp2_with fail
      refine hcall.mono fun e w1 h => ?_
      obtain ⟨rfl, hc2⟩ := h
      clear hcall
      obtain ⟨y0, y1, y2, y3, y4⟩ := (hc2.blk HC.out.2 id).cells5
      have HD := Lib.hid (HC.out.1.trans hc2)
      clear hc2
      go_wp2_with fail
      go_ret
      exact ⟨by simp [textF, numF, namedK, HE.out], HD.out⟩
    · skip
      by_cases n1 : n = 1
      · subst n1
        try clear n0
        have hc1 := chg_alloc w (.cells #[.int .i64 29, .string s, .int .u64 ((1 : Nat) : Int), .int .i64 p, .slice A m c] 25)
        have hb1 := Blk.new w 25 #[.int .i64 29, .string s, .int .u64 ((1 : Nat) : Int), .int .i64 p, .slice A m c]
        have hcall := rname3_any s (w.alloc (.cells #[.int .i64 29, .string s, .int .u64 ((1 : Nat) : Int), .int .i64 p, .slice A m c] 25))
        have HC := Lib.hid (And.intro hc1 hb1)
        clear hc1 hb1
        go_enter Tryd.func39, Tryd.ntmps39
        go_wp2_with fail
        refine hcall.mono fun e w1 h => ?_
        obtain ⟨rfl, hc2⟩ := h
        clear hcall
        obtain ⟨y0, y1, y2, y3, y4⟩ := (hc2.blk HC.out.2 id).cells5
        have HD := Lib.hid (HC.out.1.trans hc2)
        clear hc2
        go_wp2_with fail
        go_ret
        exact ⟨by simp [textF, numF, namedK, HE.out], HD.out⟩
      · skip
        have u0 : (n == 0) = false := by simp; omega
        have u1 : (n == 1) = false := by simp; omega
        have uu : ((n : Int) == 0) = false := by simp; omega
        have v0 : decide (n ≤ 0) = false := decide_eq_false (by omega)
        have v1 : decide (n ≤ 1) = false := decide_eq_false (by omega)
        have v0' : decide ((n : Int) ≤ 0) = false := decide_eq_false (by omega)
        have v1' : decide ((n : Int) ≤ 1) = false := decide_eq_false (by omega)
        have w1 : decide (1 ≤ n) = true := decide_eq_true (by omega)
        have w1' : decide ((1 : Int) ≤ (n : Int)) = true := decide_eq_true (by omega)
        have w0' : decide (0 < n) = true := decide_eq_true (by omega)
        have HZ := Lib.hid (show 2 ≤ n by omega)
        have HZ0 := Lib.hid (show ¬ n = 0 by omega)
        have HZ1 := Lib.hid (show ¬ n ≤ 1 by omega)
        clear n0 n1
        have hc1 := chg_alloc w (.cells #[.int .i64 29, .string s, .int .u64 n, .int .i64 p, .slice A m c] 25)
        have hb1 := Blk.new w 25 #[.int .i64 29, .string s, .int .u64 n, .int .i64 p, .slice A m c]
        have hcall := rname3_any s (w.alloc (.cells #[.int .i64 29, .string s, .int .u64 n, .int .i64 p, .slice A m c] 25))
        have HC := Lib.hid (And.intro hc1 hb1)
        clear hc1 hb1
        go_enter Tryd.func39, Tryd.ntmps39
        go_wp2_with fail
        refine hcall.mono fun e w1 h => ?_
        obtain ⟨rfl, hc2⟩ := h
        clear hcall
        obtain ⟨y0, y1, y2, y3, y4⟩ := (hc2.blk HC.out.2 id).cells5
        have HD := Lib.hid (HC.out.1.trans hc2)
        clear hc2
        go_wp2_with fail
        go_ret
        exact ⟨by simp [textF, numF, namedK, HE.out, HZ0.out, HZ1.out], HD.out⟩
  · have qe := strE_false he
    have HE := Lib.hid qe
    clear he
    by_cases n0 : n = 0
    · subst n0
      have hc1 := chg_alloc w (.cells #[.int .i64 29, .string s, .int .u64 ((0 : Nat) : Int), .int .i64 p, .slice A m c] 25)
      have hb1 := Blk.new w 25 #[.int .i64 29, .string s, .int .u64 ((0 : Nat) : Int), .int .i64 p, .slice A m c]
      have hcall := rname3_any s (w.alloc (.cells #[.int .i64 29, .string s, .int .u64 ((0 : Nat) : Int), .int .i64 p, .slice A m c] 25))
      have HC := Lib.hid (And.intro hc1 hb1)
      clear hc1 hb1
      go_enter Tryd.func39, Tryd.ntmps39
      go_wp2_with fail
      refine hcall.mono fun e w1 h => ?_
      obtain ⟨rfl, hc2⟩ := h
      clear hcall
      obtain ⟨y0, y1, y2, y3, y4⟩ := (hc2.blk HC.out.2 id).cells5
      have HD := Lib.hid (HC.out.1.trans hc2)
      clear hc2
      go_wp2_with fail
      go_ret
      exact ⟨by simp [textF, numF, namedK, HE.out], HD.out⟩
    · skip
      by_cases n1 : n = 1
      · subst n1
        try clear n0
        have hc1 := chg_alloc w (.cells #[.int .i64 29, .string s, .int .u64 ((1 : Nat) : Int), .int .i64 p, .slice A m c] 25)
        have hb1 := Blk.new w 25 #[.int .i64 29, .string s, .int .u64 ((1 : Nat) : Int), .int .i64 p, .slice A m c]
        have hcall := rname3_any s (w.alloc (.cells #[.int .i64 29, .string s, .int .u64 ((1 : Nat) : Int), .int .i64 p, .slice A m c] 25))
        have HC := Lib.hid (And.intro hc1 hb1)
        clear hc1 hb1
        go_enter Tryd.func39, Tryd.ntmps39
        go_wp2_with fail
        refine hcall.mono fun e w1 h => ?_
        obtain ⟨rfl, hc2⟩ := h
        clear hcall
        obtain ⟨y0, y1, y2, y3, y4⟩ := (hc2.blk HC.out.2 id).cells5
        have HD := Lib.hid (HC.out.1.trans hc2)
        clear hc2
        go_wp2_with fail
        go_ret
        exact ⟨by simp [textF, numF, namedK, HE.out], HD.out⟩
      · skip
        have u0 : (n == 0) = false := by simp; omega
        have u1 : (n == 1) = false := by simp; omega
        have uu : ((n : Int) == 0) = false := by simp; omega
        have v0 : decide (n ≤ 0) = false := decide_eq_false (by omega)
        have v1 : decide (n ≤ 1) = false := decide_eq_false (by omega)
        have v0' : decide ((n : Int) ≤ 0) = false := decide_eq_false (by omega)
        have v1' : decide ((n : Int) ≤ 1) = false := decide_eq_false (by omega)
        have w1 : decide (1 ≤ n) = true := decide_eq_true (by omega)
        have w1' : decide ((1 : Int) ≤ (n : Int)) = true := decide_eq_true (by omega)
        have w0' : decide (0 < n) = true := decide_eq_true (by omega)
        have HZ := Lib.hid (show 2 ≤ n by omega)
        have HZ0 := Lib.hid (show ¬ n = 0 by omega)
        have HZ1 := Lib.hid (show ¬ n ≤ 1 by omega)
        clear n0 n1
        have hc1 := chg_alloc w (.cells #[.int .i64 29, .string s, .int .u64 n, .int .i64 p, .slice A m c] 25)
        have hb1 := Blk.new w 25 #[.int .i64 29, .string s, .int .u64 n, .int .i64 p, .slice A m c]
        have hcall := rname3_any s (w.alloc (.cells #[.int .i64 29, .string s, .int .u64 n, .int .i64 p, .slice A m c] 25))
        have HC := Lib.hid (And.intro hc1 hb1)
        clear hc1 hb1
        go_enter Tryd.func39, Tryd.ntmps39
        go_wp2_with fail
        refine hcall.mono fun e w1 h => ?_
        obtain ⟨rfl, hc2⟩ := h
        clear hcall
        obtain ⟨y0, y1, y2, y3, y4⟩ := (hc2.blk HC.out.2 id).cells5
        have HD := Lib.hid (HC.out.1.trans hc2)
        clear hc2
        go_wp2_with fail
        go_ret
        exact ⟨by simp [textF, numF, namedK, HE.out, HZ0.out, HZ1.out], HD.out⟩
set_option maxRecDepth 100000 in
set_option maxHeartbeats 2000000 in
theorem label_32 (w : World) (s : ByteArray) (n : Nat) (p : Int) (A : Option Addr) (m c : Nat) :
    Calls Tryd.prog 39 #[.agg #[.int .i64 32, .string s, .int .u64 n, .int .i64 p, .slice A m c]] w fun e w' => e = .returned (.bool (textF 32 s m && numF 32 n)) ∧ Chg (fun _ _ => False) w w' := by
  by_cases he : s = ⟨#[]⟩
  · have qe := strE_true he
    have HE := Lib.hid qe
    clear he
    by_cases n0 : n = 0
    · subst n0
      have hc1 := chg_alloc w (.cells #[.int .i64 32, .string s, .int .u64 ((0 : Nat) : Int), .int .i64 p, .slice A m c] 25)
      have hb1 := Blk.new w 25 #[.int .i64 32, .string s, .int .u64 ((0 : Nat) : Int), .int .i64 p, .slice A m c]
      have hcall := rname3_any s (w.alloc (.cells #[.int .i64 32, .string s, .int .u64 ((0 : Nat) : Int), .int .i64 p, .slice A m c] 25))
      have HC := Lib.hid (And.intro hc1 hb1)
      clear hc1 hb1
      go_enter Tryd.func39, Tryd.ntmps39
      go_wp2_with fail
      refine hcall.mono fun e w1 h => ?_
      obtain ⟨rfl, hc2⟩ := h
      clear hcall
      obtain ⟨y0, y1, y2, y3, y4⟩ := (hc2.blk HC.out.2 id).cells5
      have HD := Lib.hid (HC.out.1.trans hc2)
      clear hc2
      go_wp2_with fail
      go_ret
      exact ⟨by simp [textF, numF, namedK, HE.out], HD.out⟩
    · skip
      by_cases n1 : n = 1
      · subst n1
        try clear n0
        have hc1 := chg_alloc w (.cells #[.int .i64 32, .string s, .int .u64 ((1 : Nat) : Int), .int .i64 p, .slice A m c] 25)
        have hb1 := Blk.new w 25 #[.int .i64 32, .string s, .int .u64 ((1 : Nat) : Int), .int .i64 p, .slice A m c]
        have hcall := rname3_any s (w.alloc (.cells #[.int .i64 32, .string s, .int .u64 ((1 : Nat) : Int), .int .i64 p, .slice A m c] 25))
        have HC := Lib.hid (And.intro hc1 hb1)
        clear hc1 hb1
        go_enter Tryd.func39, Tryd.ntmps39
        go_wp2_with fail
        refine hcall.mono fun e w1 h => ?_
        obtain ⟨rfl, hc2⟩ := h
        clear hcall
        obtain ⟨y0, y1, y2, y3, y4⟩ := (hc2.blk HC.out.2 id).cells5
        have HD := Lib.hid (HC.out.1.trans hc2)
        clear hc2
        go_wp2_with fail
        go_ret
        exact ⟨by simp [textF, numF, namedK, HE.out], HD.out⟩
      · skip
        have u0 : (n == 0) = false := by simp; omega
        have u1 : (n == 1) = false := by simp; omega
        have uu : ((n : Int) == 0) = false := by simp; omega
        have v0 : decide (n ≤ 0) = false := decide_eq_false (by omega)
        have v1 : decide (n ≤ 1) = false := decide_eq_false (by omega)
        have v0' : decide ((n : Int) ≤ 0) = false := decide_eq_false (by omega)
        have v1' : decide ((n : Int) ≤ 1) = false := decide_eq_false (by omega)
        have w1 : decide (1 ≤ n) = true := decide_eq_true (by omega)
        have w1' : decide ((1 : Int) ≤ (n : Int)) = true := decide_eq_true (by omega)
        have w0' : decide (0 < n) = true := decide_eq_true (by omega)
        have HZ := Lib.hid (show 2 ≤ n by omega)
        have HZ0 := Lib.hid (show ¬ n = 0 by omega)
        have HZ1 := Lib.hid (show ¬ n ≤ 1 by omega)
        clear n0 n1
        have hc1 := chg_alloc w (.cells #[.int .i64 32, .string s, .int .u64 n, .int .i64 p, .slice A m c] 25)
        have hb1 := Blk.new w 25 #[.int .i64 32, .string s, .int .u64 n, .int .i64 p, .slice A m c]
        have hcall := rname3_any s (w.alloc (.cells #[.int .i64 32, .string s, .int .u64 n, .int .i64 p, .slice A m c] 25))
        have HC := Lib.hid (And.intro hc1 hb1)
        clear hc1 hb1
        go_enter Tryd.func39, Tryd.ntmps39
        go_wp2_with fail
        refine hcall.mono fun e w1 h => ?_
        obtain ⟨rfl, hc2⟩ := h
        clear hcall
        obtain ⟨y0, y1, y2, y3, y4⟩ := (hc2.blk HC.out.2 id).cells5
        have HD := Lib.hid (HC.out.1.trans hc2)
        clear hc2
        go_wp2_with fail
        go_ret
        exact ⟨by simp [textF, numF, namedK, HE.out, HZ0.out, HZ1.out], HD.out⟩
  · have qe := strE_false he
    have HE := Lib.hid qe
    clear he
    by_cases n0 : n = 0
    · subst n0
      have hc1 := chg_alloc w (.cells #[.int .i64 32, .string s, .int .u64 ((0 : Nat) : Int), .int .i64 p, .slice A m c] 25)
      have hb1 := Blk.new w 25 #[.int .i64 32, .string s, .int .u64 ((0 : Nat) : Int), .int .i64 p, .slice A m c]
      have hcall := rname3_any s (w.alloc (.cells #[.int .i64 32, .string s, .int .u64 ((0 : Nat) : Int), .int .i64 p, .slice A m c] 25))
      have HC := Lib.hid (And.intro hc1 hb1)
      clear hc1 hb1
      go_enter Tryd.func39, Tryd.ntmps39
      go_wp2_with fail
      refine hcall.mono fun e w1 h => ?_
      obtain ⟨rfl, hc2⟩ := h
      clear hcall
      obtain ⟨y0, y1, y2, y3, y4⟩ := (hc2.blk HC.out.2 id).cells5
      have HD := Lib.hid (HC.out.1.trans hc2)
      clear hc2
      go_wp2_with fail
      go_ret
      exact ⟨by simp [textF, numF, namedK, HE.out], HD.out⟩
    · skip
      by_cases n1 : n = 1
      · subst n1
        try clear n0
        have hc1 := chg_alloc w (.cells #[.int .i64 32, .string s, .int .u64 ((1 : Nat) : Int), .int .i64 p, .slice A m c] 25)
        have hb1 := Blk.new w 25 #[.int .i64 32, .string s, .int .u64 ((1 : Nat) : Int), .int .i64 p, .slice A m c]
        have hcall := rname3_any s (w.alloc (.cells #[.int .i64 32, .string s, .int .u64 ((1 : Nat) : Int), .int .i64 p, .slice A m c] 25))
        have HC := Lib.hid (And.intro hc1 hb1)
        clear hc1 hb1
        go_enter Tryd.func39, Tryd.ntmps39
        go_wp2_with fail
        refine hcall.mono fun e w1 h => ?_
        obtain ⟨rfl, hc2⟩ := h
        clear hcall
        obtain ⟨y0, y1, y2, y3, y4⟩ := (hc2.blk HC.out.2 id).cells5
        have HD := Lib.hid (HC.out.1.trans hc2)
        clear hc2
        go_wp2_with fail
        go_ret
        exact ⟨by simp [textF, numF, namedK, HE.out], HD.out⟩
      · skip
        have u0 : (n == 0) = false := by simp; omega
        have u1 : (n == 1) = false := by simp; omega
        have uu : ((n : Int) == 0) = false := by simp; omega
        have v0 : decide (n ≤ 0) = false := decide_eq_false (by omega)
        have v1 : decide (n ≤ 1) = false := decide_eq_false (by omega)
        have v0' : decide ((n : Int) ≤ 0) = false := decide_eq_false (by omega)
        have v1' : decide ((n : Int) ≤ 1) = false := decide_eq_false (by omega)
        have w1 : decide (1 ≤ n) = true := decide_eq_true (by omega)
        have w1' : decide ((1 : Int) ≤ (n : Int)) = true := decide_eq_true (by omega)
        have w0' : decide (0 < n) = true := decide_eq_true (by omega)
        have HZ := Lib.hid (show 2 ≤ n by omega)
        have HZ0 := Lib.hid (show ¬ n = 0 by omega)
        have HZ1 := Lib.hid (show ¬ n ≤ 1 by omega)
        clear n0 n1
        have hc1 := chg_alloc w (.cells #[.int .i64 32, .string s, .int .u64 n, .int .i64 p, .slice A m c] 25)
        have hb1 := Blk.new w 25 #[.int .i64 32, .string s, .int .u64 n, .int .i64 p, .slice A m c]
        have hcall := rname3_any s (w.alloc (.cells #[.int .i64 32, .string s, .int .u64 n, .int .i64 p, .slice A m c] 25))
        have HC := Lib.hid (And.intro hc1 hb1)
        clear hc1 hb1
        go_enter Tryd.func39, Tryd.ntmps39
        go_wp2_with fail
        refine hcall.mono fun e w1 h => ?_
        obtain ⟨rfl, hc2⟩ := h
        clear hcall
        obtain ⟨y0, y1, y2, y3, y4⟩ := (hc2.blk HC.out.2 id).cells5
        have HD := Lib.hid (HC.out.1.trans hc2)
        clear hc2
        go_wp2_with fail
        go_ret
        exact ⟨by simp [textF, numF, namedK, HE.out, HZ0.out, HZ1.out], HD.out⟩
set_option maxRecDepth 100000 in
set_option maxHeartbeats 2000000 in
theorem label_31 (w : World) (s : ByteArray) (n : Nat) (p : Int) (A : Option Addr) (m c : Nat) :
    Calls Tryd.prog 39 #[.agg #[.int .i64 31, .string s, .int .u64 n, .int .i64 p, .slice A m c]] w fun e w' => e = .returned (.bool (textF 31 s m && numF 31 n)) ∧ Chg (fun _ _ => False) w w' := by
  by_cases he : s = ⟨#[]⟩
  · have qe := strE_true he
    have HE := Lib.hid qe
    clear he
    have hc1 := chg_alloc w (.cells #[.int .i64 31, .string s, .int .u64 n, .int .i64 p, .slice A m c] 25)
    have hb1 := Blk.new w 25 #[.int .i64 31, .string s, .int .u64 n, .int .i64 p, .slice A m c]
    have hcall := rname3_any s (w.alloc (.cells #[.int .i64 31, .string s, .int .u64 n, .int .i64 p, .slice A m c] 25))
    have HC := Lib.hid (And.intro hc1 hb1)
    clear hc1 hb1
    go_enter Tryd.func39, Tryd.ntmps39
    go_wp2_with fail
    refine hcall.mono fun e w1 h => ?_
    obtain ⟨rfl, hc2⟩ := h
    clear hcall
    obtain ⟨y0, y1, y2, y3, y4⟩ := (hc2.blk HC.out.2 id).cells5
    have HD := Lib.hid (HC.out.1.trans hc2)
    clear hc2
    go_wp2_with fail
    go_ret
    exact ⟨by simp [textF, numF, namedK, HE.out], HD.out⟩
  · have qe := strE_false he
    have HE := Lib.hid qe
    clear he
    have hc1 := chg_alloc w (.cells #[.int .i64 31, .string s, .int .u64 n, .int .i64 p, .slice A m c] 25)
    have hb1 := Blk.new w 25 #[.int .i64 31, .string s, .int .u64 n, .int .i64 p, .slice A m c]
    have hcall := rname3_any s (w.alloc (.cells #[.int .i64 31, .string s, .int .u64 n, .int .i64 p, .slice A m c] 25))
    have HC := Lib.hid (And.intro hc1 hb1)
    clear hc1 hb1
    go_enter Tryd.func39, Tryd.ntmps39
    go_wp2_with fail
    refine hcall.mono fun e w1 h => ?_
    obtain ⟨rfl, hc2⟩ := h
    clear hcall
    obtain ⟨y0, y1, y2, y3, y4⟩ := (hc2.blk HC.out.2 id).cells5
    have HD := Lib.hid (HC.out.1.trans hc2)
    clear hc2
    go_wp2_with fail
    go_ret
    exact ⟨by simp [textF, numF, namedK, HE.out], HD.out⟩
set_option maxRecDepth 100000 in
set_option maxHeartbeats 4000000 in
theorem label_any (w : World) (k : Int) (s : ByteArray) (n : Nat) (p : Int) (A : Option Addr) (m c : Nat) :
    Calls Tryd.prog 39 #[.agg #[.int .i64 k, .string s, .int .u64 n, .int .i64 p, .slice A m c]] w fun e w' => e = .returned (.bool (textF k s m && numF k n)) ∧ Chg (fun _ _ => False) w w' := by
  by_cases h2 : k = 2
  · subst h2
    exact label_2 w s n p A m c
  · have q2 : (k == 2) = false := by simp [h2]
    by_cases h3 : k = 3
    · subst h3
      exact label_3 w s n p A m c
    · have q3 : (k == 3) = false := by simp [h3]
      by_cases h5 : k = 5
      · subst h5
        exact label_5 w s n p A m c
      · have q5 : (k == 5) = false := by simp [h5]
        by_cases h10 : k = 10
        · subst h10
          exact label_10 w s n p A m c
        · have q10 : (k == 10) = false := by simp [h10]
          by_cases h21 : k = 21
          · subst h21
            exact label_21 w s n p A m c
          · have q21 : (k == 21) = false := by simp [h21]
            by_cases h22 : k = 22
            · subst h22
              exact label_22 w s n p A m c
            · have q22 : (k == 22) = false := by simp [h22]
              by_cases h30 : k = 30
              · subst h30
                exact label_30 w s n p A m c
              · have q30 : (k == 30) = false := by simp [h30]
                by_cases h35 : k = 35
                · subst h35
                  exact label_35 w s n p A m c
                · have q35 : (k == 35) = false := by simp [h35]
                  by_cases h37 : k = 37
                  · subst h37
                    exact label_37 w s n p A m c
                  · have q37 : (k == 37) = false := by simp [h37]
                    by_cases h8 : k = 8
                    · subst h8
                      exact label_8 w s n p A m c
                    · have q8 : (k == 8) = false := by simp [h8]
                      by_cases h43 : k = 43
                      · subst h43
                        exact label_43 w s n p A m c
                      · have q43 : (k == 43) = false := by simp [h43]
                        by_cases h33 : k = 33
                        · subst h33
                          exact label_33 w s n p A m c
                        · have q33 : (k == 33) = false := by simp [h33]
                          by_cases h13 : k = 13
                          · subst h13
                            exact label_13 w s n p A m c
                          · have q13 : (k == 13) = false := by simp [h13]
                            by_cases h27 : k = 27
                            · subst h27
                              exact label_27 w s n p A m c
                            · have q27 : (k == 27) = false := by simp [h27]
                              by_cases h29 : k = 29
                              · subst h29
                                exact label_29 w s n p A m c
                              · have q29 : (k == 29) = false := by simp [h29]
                                by_cases h32 : k = 32
                                · subst h32
                                  exact label_32 w s n p A m c
                                · have q32 : (k == 32) = false := by simp [h32]
                                  by_cases h31 : k = 31
                                  · subst h31
                                    exact label_31 w s n p A m c
                                  · have q31 : (k == 31) = false := by simp [h31]
                                    have HK := Lib.hid (And.intro h2 (And.intro h3 (And.intro h5 (And.intro h10 (And.intro h21 (And.intro h22 (And.intro h30 (And.intro h35 (And.intro h37 (And.intro h8 (And.intro h43 (And.intro h33 (And.intro h13 (And.intro h27 (And.intro h29 (And.intro h32 h31))))))))))))))))
                                    clear h2 h3 h5 h10 h21 h22 h30 h35 h37 h8 h43 h33 h13 h27 h29 h32 h31
                                    by_cases he : s = ⟨#[]⟩
                                    · have qe := strE_true he
                                      have HE := Lib.hid qe
                                      clear he
                                      by_cases n0 : n = 0
                                      · subst n0
                                        have hc1 := chg_alloc w (.cells #[.int .i64 k, .string s, .int .u64 ((0 : Nat) : Int), .int .i64 p, .slice A m c] 25)
                                        have hb1 := Blk.new w 25 #[.int .i64 k, .string s, .int .u64 ((0 : Nat) : Int), .int .i64 p, .slice A m c]
                                        have hcall := rname3_any s (w.alloc (.cells #[.int .i64 k, .string s, .int .u64 ((0 : Nat) : Int), .int .i64 p, .slice A m c] 25))
                                        have HC := Lib.hid (And.intro hc1 hb1)
                                        clear hc1 hb1
                                        go_enter Tryd.func39, Tryd.ntmps39
                                        go_wp2_with fail
                                        refine hcall.mono fun e w1 h => ?_
                                        obtain ⟨rfl, hc2⟩ := h
                                        clear hcall
                                        obtain ⟨y0, y1, y2, y3, y4⟩ := (hc2.blk HC.out.2 id).cells5
                                        have HD := Lib.hid (HC.out.1.trans hc2)
                                        clear hc2
                                        go_wp2_with fail
                                        go_ret
                                        exact ⟨by simp [textF, numF, namedK, HE.out, HK.out.1, HK.out.2.1, HK.out.2.2.1, HK.out.2.2.2.1, HK.out.2.2.2.2.1, HK.out.2.2.2.2.2.1, HK.out.2.2.2.2.2.2.1, HK.out.2.2.2.2.2.2.2.1, HK.out.2.2.2.2.2.2.2.2.1, HK.out.2.2.2.2.2.2.2.2.2.1, HK.out.2.2.2.2.2.2.2.2.2.2.1, HK.out.2.2.2.2.2.2.2.2.2.2.2.1, HK.out.2.2.2.2.2.2.2.2.2.2.2.2.1, HK.out.2.2.2.2.2.2.2.2.2.2.2.2.2.1, HK.out.2.2.2.2.2.2.2.2.2.2.2.2.2.2.1, HK.out.2.2.2.2.2.2.2.2.2.2.2.2.2.2.2.1, HK.out.2.2.2.2.2.2.2.2.2.2.2.2.2.2.2.2], HD.out⟩
                                      · skip
                                        have u0 : (n == 0) = false := by simp; omega
                                        have uu : ((n : Int) == 0) = false := by simp; omega
                                        have v0 : decide (n ≤ 0) = false := decide_eq_false (by omega)
                                        have v0' : decide ((n : Int) ≤ 0) = false := decide_eq_false (by omega)
                                        have w1 : decide (1 ≤ n) = true := decide_eq_true (by omega)
                                        have w1' : decide ((1 : Int) ≤ (n : Int)) = true := decide_eq_true (by omega)
                                        have w0' : decide (0 < n) = true := decide_eq_true (by omega)
                                        have HZ := Lib.hid (show 1 ≤ n by omega)
                                        have HZ0 := Lib.hid (show ¬ n = 0 by omega)
                                        have HZ1 := Lib.hid (show ¬ n ≤ 0 by omega)
                                        clear n0
                                        have hc1 := chg_alloc w (.cells #[.int .i64 k, .string s, .int .u64 n, .int .i64 p, .slice A m c] 25)
                                        have hb1 := Blk.new w 25 #[.int .i64 k, .string s, .int .u64 n, .int .i64 p, .slice A m c]
                                        have hcall := rname3_any s (w.alloc (.cells #[.int .i64 k, .string s, .int .u64 n, .int .i64 p, .slice A m c] 25))
                                        have HC := Lib.hid (And.intro hc1 hb1)
                                        clear hc1 hb1
                                        go_enter Tryd.func39, Tryd.ntmps39
                                        go_wp2_with fail
                                        refine hcall.mono fun e w1 h => ?_
                                        obtain ⟨rfl, hc2⟩ := h
                                        clear hcall
                                        obtain ⟨y0, y1, y2, y3, y4⟩ := (hc2.blk HC.out.2 id).cells5
                                        have HD := Lib.hid (HC.out.1.trans hc2)
                                        clear hc2
                                        go_wp2_with fail
                                        go_ret
                                        exact ⟨by simp [textF, numF, namedK, HE.out, HZ0.out, HZ1.out, HK.out.1, HK.out.2.1, HK.out.2.2.1, HK.out.2.2.2.1, HK.out.2.2.2.2.1, HK.out.2.2.2.2.2.1, HK.out.2.2.2.2.2.2.1, HK.out.2.2.2.2.2.2.2.1, HK.out.2.2.2.2.2.2.2.2.1, HK.out.2.2.2.2.2.2.2.2.2.1, HK.out.2.2.2.2.2.2.2.2.2.2.1, HK.out.2.2.2.2.2.2.2.2.2.2.2.1, HK.out.2.2.2.2.2.2.2.2.2.2.2.2.1, HK.out.2.2.2.2.2.2.2.2.2.2.2.2.2.1, HK.out.2.2.2.2.2.2.2.2.2.2.2.2.2.2.1, HK.out.2.2.2.2.2.2.2.2.2.2.2.2.2.2.2.1, HK.out.2.2.2.2.2.2.2.2.2.2.2.2.2.2.2.2], HD.out⟩
                                    · have qe := strE_false he
                                      have HE := Lib.hid qe
                                      clear he
                                      by_cases n0 : n = 0
                                      · subst n0
                                        have hc1 := chg_alloc w (.cells #[.int .i64 k, .string s, .int .u64 ((0 : Nat) : Int), .int .i64 p, .slice A m c] 25)
                                        have hb1 := Blk.new w 25 #[.int .i64 k, .string s, .int .u64 ((0 : Nat) : Int), .int .i64 p, .slice A m c]
                                        have hcall := rname3_any s (w.alloc (.cells #[.int .i64 k, .string s, .int .u64 ((0 : Nat) : Int), .int .i64 p, .slice A m c] 25))
                                        have HC := Lib.hid (And.intro hc1 hb1)
                                        clear hc1 hb1
                                        go_enter Tryd.func39, Tryd.ntmps39
                                        go_wp2_with fail
                                        refine hcall.mono fun e w1 h => ?_
                                        obtain ⟨rfl, hc2⟩ := h
                                        clear hcall
                                        obtain ⟨y0, y1, y2, y3, y4⟩ := (hc2.blk HC.out.2 id).cells5
                                        have HD := Lib.hid (HC.out.1.trans hc2)
                                        clear hc2
                                        go_wp2_with fail
                                        go_ret
                                        exact ⟨by simp [textF, numF, namedK, HE.out, HK.out.1, HK.out.2.1, HK.out.2.2.1, HK.out.2.2.2.1, HK.out.2.2.2.2.1, HK.out.2.2.2.2.2.1, HK.out.2.2.2.2.2.2.1, HK.out.2.2.2.2.2.2.2.1, HK.out.2.2.2.2.2.2.2.2.1, HK.out.2.2.2.2.2.2.2.2.2.1, HK.out.2.2.2.2.2.2.2.2.2.2.1, HK.out.2.2.2.2.2.2.2.2.2.2.2.1, HK.out.2.2.2.2.2.2.2.2.2.2.2.2.1, HK.out.2.2.2.2.2.2.2.2.2.2.2.2.2.1, HK.out.2.2.2.2.2.2.2.2.2.2.2.2.2.2.1, HK.out.2.2.2.2.2.2.2.2.2.2.2.2.2.2.2.1, HK.out.2.2.2.2.2.2.2.2.2.2.2.2.2.2.2.2], HD.out⟩
                                      · skip
                                        have u0 : (n == 0) = false := by simp; omega
                                        have uu : ((n : Int) == 0) = false := by simp; omega
                                        have v0 : decide (n ≤ 0) = false := decide_eq_false (by omega)
                                        have v0' : decide ((n : Int) ≤ 0) = false := decide_eq_false (by omega)
                                        have w1 : decide (1 ≤ n) = true := decide_eq_true (by omega)
                                        have w1' : decide ((1 : Int) ≤ (n : Int)) = true := decide_eq_true (by omega)
                                        have w0' : decide (0 < n) = true := decide_eq_true (by omega)
                                        have HZ := Lib.hid (show 1 ≤ n by omega)
                                        have HZ0 := Lib.hid (show ¬ n = 0 by omega)
                                        have HZ1 := Lib.hid (show ¬ n ≤ 0 by omega)
                                        clear n0
                                        have hc1 := chg_alloc w (.cells #[.int .i64 k, .string s, .int .u64 n, .int .i64 p, .slice A m c] 25)
                                        have hb1 := Blk.new w 25 #[.int .i64 k, .string s, .int .u64 n, .int .i64 p, .slice A m c]
                                        have hcall := rname3_any s (w.alloc (.cells #[.int .i64 k, .string s, .int .u64 n, .int .i64 p, .slice A m c] 25))
                                        have HC := Lib.hid (And.intro hc1 hb1)
                                        clear hc1 hb1
                                        go_enter Tryd.func39, Tryd.ntmps39
                                        go_wp2_with fail
                                        refine hcall.mono fun e w1 h => ?_
                                        obtain ⟨rfl, hc2⟩ := h
                                        clear hcall
                                        obtain ⟨y0, y1, y2, y3, y4⟩ := (hc2.blk HC.out.2 id).cells5
                                        have HD := Lib.hid (HC.out.1.trans hc2)
                                        clear hc2
                                        go_wp2_with fail
                                        go_ret
                                        exact ⟨by simp [textF, numF, namedK, HE.out, HZ0.out, HZ1.out, HK.out.1, HK.out.2.1, HK.out.2.2.1, HK.out.2.2.2.1, HK.out.2.2.2.2.1, HK.out.2.2.2.2.2.1, HK.out.2.2.2.2.2.2.1, HK.out.2.2.2.2.2.2.2.1, HK.out.2.2.2.2.2.2.2.2.1, HK.out.2.2.2.2.2.2.2.2.2.1, HK.out.2.2.2.2.2.2.2.2.2.2.1, HK.out.2.2.2.2.2.2.2.2.2.2.2.1, HK.out.2.2.2.2.2.2.2.2.2.2.2.2.1, HK.out.2.2.2.2.2.2.2.2.2.2.2.2.2.1, HK.out.2.2.2.2.2.2.2.2.2.2.2.2.2.2.1, HK.out.2.2.2.2.2.2.2.2.2.2.2.2.2.2.2.1, HK.out.2.2.2.2.2.2.2.2.2.2.2.2.2.2.2.2], HD.out⟩
end Go.Proofs.YtgaodjoddfjfmaaDoor
