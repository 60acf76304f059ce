/-
  The reference's children, kind by kind (1).
-/
import Derived.Test.YtgaodjoddfjfmaaDoorNRef2
namespace Go.Proofs.YtgaodjoddfjfmaaDoor
open Go.RowKit
set_option linter.unusedVariables false
set_option linter.unusedSimpArgs false

set_option maxRecDepth 100000 in
set_option maxHeartbeats 2000000 in
theorem child_2 (n B : Nat) (w : World) (s : ByteArray) (num : Nat) (p : Int) (A : Option Addr) (c : Nat) (l : List Nd) (hB : B ≤ w.heap.size) (hl : NdsR n B w (.slice A l.length c) l) (hll : l.length ≤ 1048576) :
    Calls Tryd.prog 40 #[.agg #[.int .i64 2, .string s, .int .u64 num, .int .i64 p, .slice A l.length c]] w fun e w' => e = .returned (.bool (decide (l.length ≤ 16) && l.all fun x => x.kind == 5)) ∧ Chg (fun _ _ => False) w w' := by
  have hb1 := Blk.new w 25 #[.int .i64 2, .string s, .int .u64 num, .int .i64 p, .slice A l.length c]
  have hc1 := chg_alloc w (.cells #[.int .i64 2, .string s, .int .u64 num, .int .i64 p, .slice A l.length c] 25)
  have hl1 := NdsR.keep0 hc1 hl
  clear hB hl hb1
  have hcall := same4_any n B (w.alloc (.cells #[.int .i64 2, .string s, .int .u64 num, .int .i64 p, .slice A l.length c] 25)) l A c 5 hl1 hll
  have HC := Lib.hid hc1
  clear hc1 hl1
  cases hx : (l.all fun x => x.kind == 5) with
  | false =>
    rw [hx] at hcall
    have HX := Lib.hid hx
    clear hx
    go_enter Tryd.func40, Tryd.ntmps40
    go_wp2_with fail
    refine hcall.mono fun e w1 h => ?_
    obtain ⟨rfl, rfl⟩ := h
    clear hcall
    go_wp2_with fail
    go_ret
    exact ⟨by rw [Bool.and_false]; rfl, HC.out⟩
  | true =>
    rw [hx] at hcall
    have HX := Lib.hid hx
    clear hx
    by_cases ga : l.length ≤ 16
    · have GA := Lib.hid (show decide (l.length ≤ 16) = true from decide_eq_true ga)
      have ga0 : decide (l.length ≤ 16) = true := by first | exact decide_eq_true (by omega) | (simp; omega)
      have ga1 : decide ((l.length : Int) ≤ 16) = true := by first | exact decide_eq_true (by omega) | (simp; omega)
      clear ga
      go_enter Tryd.func40, Tryd.ntmps40
      go_wp2_with fail
      refine hcall.mono fun e w1 h => ?_
      obtain ⟨rfl, rfl⟩ := h
      clear hcall
      go_wp2_with fail
      go_ret
      exact ⟨by rw [GA.out]; rfl, HC.out⟩
    · have GA := Lib.hid (show decide (l.length ≤ 16) = false from decide_eq_false ga)
      have ga0 : decide (l.length ≤ 16) = false := by first | exact decide_eq_false (by omega) | (simp; omega)
      have ga1 : decide ((l.length : Int) ≤ 16) = false := by first | exact decide_eq_false (by omega) | (simp; omega)
      clear ga
      go_enter Tryd.func40, Tryd.ntmps40
      go_wp2_with fail
      refine hcall.mono fun e w1 h => ?_
      obtain ⟨rfl, rfl⟩ := h
      clear hcall
      go_wp2_with fail
      go_ret
      exact ⟨by rw [GA.out]; rfl, HC.out⟩
set_option maxRecDepth 100000 in
set_option maxHeartbeats 2000000 in
theorem child_6 (n B : Nat) (w : World) (s : ByteArray) (num : Nat) (p : Int) (A : Option Addr) (c : Nat) (l : List Nd) (hB : B ≤ w.heap.size) (hl : NdsR n B w (.slice A l.length c) l) (hll : l.length ≤ 1048576) :
    Calls Tryd.prog 40 #[.agg #[.int .i64 6, .string s, .int .u64 num, .int .i64 p, .slice A l.length c]] w fun e w' => e = .returned (.bool (decide (l.length ≤ 16) && l.all fun x => x.kind == 5)) ∧ Chg (fun _ _ => False) w w' := by
  have hb1 := Blk.new w 25 #[.int .i64 6, .string s, .int .u64 num, .int .i64 p, .slice A l.length c]
  have hc1 := chg_alloc w (.cells #[.int .i64 6, .string s, .int .u64 num, .int .i64 p, .slice A l.length c] 25)
  have hl1 := NdsR.keep0 hc1 hl
  clear hB hl hb1
  have hcall := same4_any n B (w.alloc (.cells #[.int .i64 6, .string s, .int .u64 num, .int .i64 p, .slice A l.length c] 25)) l A c 5 hl1 hll
  have HC := Lib.hid hc1
  clear hc1 hl1
  cases hx : (l.all fun x => x.kind == 5) with
  | false =>
    rw [hx] at hcall
    have HX := Lib.hid hx
    clear hx
    go_enter Tryd.func40, Tryd.ntmps40
    go_wp2_with fail
    refine hcall.mono fun e w1 h => ?_
    obtain ⟨rfl, rfl⟩ := h
    clear hcall
    go_wp2_with fail
    go_ret
    exact ⟨by rw [Bool.and_false]; rfl, HC.out⟩
  | true =>
    rw [hx] at hcall
    have HX := Lib.hid hx
    clear hx
    by_cases ga : l.length ≤ 16
    · have GA := Lib.hid (show decide (l.length ≤ 16) = true from decide_eq_true ga)
      have ga0 : decide (l.length ≤ 16) = true := by first | exact decide_eq_true (by omega) | (simp; omega)
      have ga1 : decide ((l.length : Int) ≤ 16) = true := by first | exact decide_eq_true (by omega) | (simp; omega)
      clear ga
      go_enter Tryd.func40, Tryd.ntmps40
      go_wp2_with fail
      refine hcall.mono fun e w1 h => ?_
      obtain ⟨rfl, rfl⟩ := h
      clear hcall
      go_wp2_with fail
      go_ret
      exact ⟨by rw [GA.out]; rfl, HC.out⟩
    · have GA := Lib.hid (show decide (l.length ≤ 16) = false from decide_eq_false ga)
      have ga0 : decide (l.length ≤ 16) = false := by first | exact decide_eq_false (by omega) | (simp; omega)
      have ga1 : decide ((l.length : Int) ≤ 16) = false := by first | exact decide_eq_false (by omega) | (simp; omega)
      clear ga
      go_enter Tryd.func40, Tryd.ntmps40
      go_wp2_with fail
      refine hcall.mono fun e w1 h => ?_
      obtain ⟨rfl, rfl⟩ := h
      clear hcall
      go_wp2_with fail
      go_ret
      exact ⟨by rw [GA.out]; rfl, HC.out⟩
set_option maxRecDepth 100000 in
set_option maxHeartbeats 2000000 in
theorem child_3 (n B : Nat) (w : World) (s : ByteArray) (num : Nat) (p : Int) (A : Option Addr) (c : Nat) (l : List Nd) (hB : B ≤ w.heap.size) (hl : NdsR n B w (.slice A l.length c) l) (hll : l.length ≤ 1048576) :
    Calls Tryd.prog 40 #[.agg #[.int .i64 3, .string s, .int .u64 num, .int .i64 p, .slice A l.length c]] w fun e w' => e = .returned (.bool (kindsF l [4, 6, 7, 20])) ∧ Chg (fun _ _ => False) w w' := by
  have hb1 := Blk.new w 25 #[.int .i64 3, .string s, .int .u64 num, .int .i64 p, .slice A l.length c]
  have hc1 := chg_alloc w (.cells #[.int .i64 3, .string s, .int .u64 num, .int .i64 p, .slice A l.length c] 25)
  have hl1 := NdsR.keep0 hc1 hl
  clear hB hl hb1
  have hcall := rlist_any n B (w.alloc (.cells #[.int .i64 3, .string s, .int .u64 num, .int .i64 p, .slice A l.length c] 25)) l [103, 112, 113, 98] A c hl1 hll (by decide) (by decide)
  rw [show (([103, 112, 113, 98] : List UInt8).map trL) = [4, 6, 7, 20] by decide] at hcall
  have HC := Lib.hid hc1
  clear hc1 hl1
  go_enter Tryd.func40, Tryd.ntmps40
  go_wp2_with fail
  refine hcall.mono fun e w1 h => ?_
  obtain ⟨rfl, hc2⟩ := h
  clear hcall
  go_wp2_with fail
  go_ret
  exact ⟨rfl, HC.out.trans hc2⟩
set_option maxRecDepth 100000 in
set_option maxHeartbeats 2000000 in
theorem child_4 (n B : Nat) (w : World) (s : ByteArray) (num : Nat) (p : Int) (A : Option Addr) (c : Nat) (l : List Nd) (hB : B ≤ w.heap.size) (hl : NdsR n B w (.slice A l.length c) l) (hll : l.length ≤ 1048576) :
    Calls Tryd.prog 40 #[.agg #[.int .i64 4, .string s, .int .u64 num, .int .i64 p, .slice A l.length c]] w fun e w' => e = .returned (.bool (decide (l.length ≤ 16) && l.all fun x => x.kind == 8)) ∧ Chg (fun _ _ => False) w w' := by
  have hb1 := Blk.new w 25 #[.int .i64 4, .string s, .int .u64 num, .int .i64 p, .slice A l.length c]
  have hc1 := chg_alloc w (.cells #[.int .i64 4, .string s, .int .u64 num, .int .i64 p, .slice A l.length c] 25)
  have hl1 := NdsR.keep0 hc1 hl
  clear hB hl hb1
  have hcall := same4_any n B (w.alloc (.cells #[.int .i64 4, .string s, .int .u64 num, .int .i64 p, .slice A l.length c] 25)) l A c 8 hl1 hll
  have HC := Lib.hid hc1
  clear hc1 hl1
  cases hx : (l.all fun x => x.kind == 8) with
  | false =>
    rw [hx] at hcall
    have HX := Lib.hid hx
    clear hx
    go_enter Tryd.func40, Tryd.ntmps40
    go_wp2_with fail
    refine hcall.mono fun e w1 h => ?_
    obtain ⟨rfl, rfl⟩ := h
    clear hcall
    go_wp2_with fail
    go_ret
    exact ⟨by rw [Bool.and_false]; rfl, HC.out⟩
  | true =>
    rw [hx] at hcall
    have HX := Lib.hid hx
    clear hx
    by_cases ga : l.length ≤ 16
    · have GA := Lib.hid (show decide (l.length ≤ 16) = true from decide_eq_true ga)
      have ga0 : decide (l.length ≤ 16) = true := by first | exact decide_eq_true (by omega) | (simp; omega)
      have ga1 : decide ((l.length : Int) ≤ 16) = true := by first | exact decide_eq_true (by omega) | (simp; omega)
      clear ga
      go_enter Tryd.func40, Tryd.ntmps40
      go_wp2_with fail
      refine hcall.mono fun e w1 h => ?_
      obtain ⟨rfl, rfl⟩ := h
      clear hcall
      go_wp2_with fail
      go_ret
      exact ⟨by rw [GA.out]; rfl, HC.out⟩
    · have GA := Lib.hid (show decide (l.length ≤ 16) = false from decide_eq_false ga)
      have ga0 : decide (l.length ≤ 16) = false := by first | exact decide_eq_false (by omega) | (simp; omega)
      have ga1 : decide ((l.length : Int) ≤ 16) = false := by first | exact decide_eq_false (by omega) | (simp; omega)
      clear ga
      go_enter Tryd.func40, Tryd.ntmps40
      go_wp2_with fail
      refine hcall.mono fun e w1 h => ?_
      obtain ⟨rfl, rfl⟩ := h
      clear hcall
      go_wp2_with fail
      go_ret
      exact ⟨by rw [GA.out]; rfl, HC.out⟩
set_option maxRecDepth 100000 in
set_option maxHeartbeats 2000000 in
theorem child_5 (n B : Nat) (w : World) (s : ByteArray) (num : Nat) (p : Int) (A : Option Addr) (c : Nat) (l : List Nd) (hB : B ≤ w.heap.size) (hl : NdsR n B w (.slice A l.length c) l) (hll : l.length ≤ 1048576) :
    Calls Tryd.prog 40 #[.agg #[.int .i64 5, .string s, .int .u64 num, .int .i64 p, .slice A l.length c]] w fun e w' => e = .returned (.bool (kindsF l [-2])) ∧ Chg (fun _ _ => False) w w' := by
  have hb1 := Blk.new w 25 #[.int .i64 5, .string s, .int .u64 num, .int .i64 p, .slice A l.length c]
  have hc1 := chg_alloc w (.cells #[.int .i64 5, .string s, .int .u64 num, .int .i64 p, .slice A l.length c] 25)
  have hl1 := NdsR.keep0 hc1 hl
  clear hB hl hb1
  have hcall := rlist_any n B (w.alloc (.cells #[.int .i64 5, .string s, .int .u64 num, .int .i64 p, .slice A l.length c] 25)) l [116] A c hl1 hll (by decide) (by decide)
  rw [show (([116] : List UInt8).map trL) = [-2] by decide] at hcall
  have HC := Lib.hid hc1
  clear hc1 hl1
  go_enter Tryd.func40, Tryd.ntmps40
  go_wp2_with fail
  refine hcall.mono fun e w1 h => ?_
  obtain ⟨rfl, hc2⟩ := h
  clear hcall
  go_wp2_with fail
  go_ret
  exact ⟨rfl, HC.out.trans hc2⟩
set_option maxRecDepth 100000 in
set_option maxHeartbeats 2000000 in
theorem child_7 (n B : Nat) (w : World) (s : ByteArray) (num : Nat) (p : Int) (A : Option Addr) (c : Nat) (l : List Nd) (hB : B ≤ w.heap.size) (hl : NdsR n B w (.slice A l.length c) l) (hll : l.length ≤ 1048576) :
    Calls Tryd.prog 40 #[.agg #[.int .i64 7, .string s, .int .u64 num, .int .i64 p, .slice A l.length c]] w fun e w' => e = .returned (.bool (decide (l.length = 0) || kindsF l [-2])) ∧ Chg (fun _ _ => False) w w' := by
  by_cases h0 : l.length = 0
  · have q0 : (l.length == 0) = true := by simp [h0]
    have q0' : ((l.length : Int) == 0) = true := by simp [h0]
    have H0 := Lib.hid (show decide (l.length = 0) = true from decide_eq_true h0)
    clear h0
    have hc1 := chg_alloc w (.cells #[.int .i64 7, .string s, .int .u64 num, .int .i64 p, .slice A l.length c] 25)
    have HC := Lib.hid hc1
    clear hc1 hB hl
    go_enter Tryd.func40, Tryd.ntmps40
    go_wp2_with fail
    go_ret
    exact ⟨by rw [H0.out]; rfl, HC.out⟩
  · have q0 : (l.length == 0) = false := by simp [h0]
    have q0' : ((l.length : Int) == 0) = false := by rw [beq_eq_false_iff_ne]; omega
    have H0 := Lib.hid (show decide (l.length = 0) = false from decide_eq_false h0)
    clear h0
    have hb1 := Blk.new w 25 #[.int .i64 7, .string s, .int .u64 num, .int .i64 p, .slice A l.length c]
    have hc1 := chg_alloc w (.cells #[.int .i64 7, .string s, .int .u64 num, .int .i64 p, .slice A l.length c] 25)
    have hl1 := NdsR.keep0 hc1 hl
    clear hB hl hb1
    have hcall := rlist_any n B (w.alloc (.cells #[.int .i64 7, .string s, .int .u64 num, .int .i64 p, .slice A l.length c] 25)) l [116] A c hl1 hll (by decide) (by decide)
    rw [show (([116] : List UInt8).map trL) = [-2] by decide] at hcall
    have HC := Lib.hid hc1
    clear hc1 hl1
    go_enter Tryd.func40, Tryd.ntmps40
    go_wp2_with fail
    refine hcall.mono fun e w1 h => ?_
    obtain ⟨rfl, hc2⟩ := h
    clear hcall
    go_wp2_with fail
    go_ret
    exact ⟨by rw [H0.out]; rfl, HC.out.trans hc2⟩
set_option maxRecDepth 100000 in
set_option maxHeartbeats 2000000 in
theorem child_8 (n B : Nat) (w : World) (s : ByteArray) (num : Nat) (p : Int) (A : Option Addr) (c : Nat) (l : List Nd) (hB : B ≤ w.heap.size) (hl : NdsR n B w (.slice A l.length c) l) (hll : l.length ≤ 1048576) :
    Calls Tryd.prog 40 #[.agg #[.int .i64 8, .string s, .int .u64 num, .int .i64 p, .slice A l.length c]] w fun e w' => e = .returned (.bool (decide (l.length = 0))) ∧ Chg (fun _ _ => False) w w' := by
  by_cases h0 : l.length = 0
  · have q0 : (l.length == 0) = true := by simp [h0]
    have q0' : ((l.length : Int) == 0) = true := by simp [h0]
    have H0 := Lib.hid (show decide (l.length = 0) = true from decide_eq_true h0)
    clear h0
    have hc1 := chg_alloc w (.cells #[.int .i64 8, .string s, .int .u64 num, .int .i64 p, .slice A l.length c] 25)
    have HC := Lib.hid hc1
    clear hc1 hB hl
    go_enter Tryd.func40, Tryd.ntmps40
    go_wp2_with fail
    go_ret
    exact ⟨by rw [H0.out]; rfl, HC.out⟩
  · have q0 : (l.length == 0) = false := by simp [h0]
    have q0' : ((l.length : Int) == 0) = false := by rw [beq_eq_false_iff_ne]; omega
    have H0 := Lib.hid (show decide (l.length = 0) = false from decide_eq_false h0)
    clear h0
    have hc1 := chg_alloc w (.cells #[.int .i64 8, .string s, .int .u64 num, .int .i64 p, .slice A l.length c] 25)
    have HC := Lib.hid hc1
    clear hc1 hB hl
    go_enter Tryd.func40, Tryd.ntmps40
    go_wp2_with fail
    go_ret
    exact ⟨by rw [H0.out]; rfl, HC.out⟩
set_option maxRecDepth 100000 in
set_option maxHeartbeats 2000000 in
theorem child_10 (n B : Nat) (w : World) (s : ByteArray) (num : Nat) (p : Int) (A : Option Addr) (c : Nat) (l : List Nd) (hB : B ≤ w.heap.size) (hl : NdsR n B w (.slice A l.length c) l) (hll : l.length ≤ 1048576) :
    Calls Tryd.prog 40 #[.agg #[.int .i64 10, .string s, .int .u64 num, .int .i64 p, .slice A l.length c]] w fun e w' => e = .returned (.bool (decide (l.length = 0))) ∧ Chg (fun _ _ => False) w w' := by
  by_cases h0 : l.length = 0
  · have q0 : (l.length == 0) = true := by simp [h0]
    have q0' : ((l.length : Int) == 0) = true := by simp [h0]
    have H0 := Lib.hid (show decide (l.length = 0) = true from decide_eq_true h0)
    clear h0
    have hc1 := chg_alloc w (.cells #[.int .i64 10, .string s, .int .u64 num, .int .i64 p, .slice A l.length c] 25)
    have HC := Lib.hid hc1
    clear hc1 hB hl
    go_enter Tryd.func40, Tryd.ntmps40
    go_wp2_with fail
    go_ret
    exact ⟨by rw [H0.out]; rfl, HC.out⟩
  · have q0 : (l.length == 0) = false := by simp [h0]
    have q0' : ((l.length : Int) == 0) = false := by rw [beq_eq_false_iff_ne]; omega
    have H0 := Lib.hid (show decide (l.length = 0) = false from decide_eq_false h0)
    clear h0
    have hc1 := chg_alloc w (.cells #[.int .i64 10, .string s, .int .u64 num, .int .i64 p, .slice A l.length c] 25)
    have HC := Lib.hid hc1
    clear hc1 hB hl
    go_enter Tryd.func40, Tryd.ntmps40
    go_wp2_with fail
    go_ret
    exact ⟨by rw [H0.out]; rfl, HC.out⟩
set_option maxRecDepth 100000 in
set_option maxHeartbeats 2000000 in
theorem child_11 (n B : Nat) (w : World) (s : ByteArray) (num : Nat) (p : Int) (A : Option Addr) (c : Nat) (l : List Nd) (hB : B ≤ w.heap.size) (hl : NdsR n B w (.slice A l.length c) l) (hll : l.length ≤ 1048576) :
    Calls Tryd.prog 40 #[.agg #[.int .i64 11, .string s, .int .u64 num, .int .i64 p, .slice A l.length c]] w fun e w' => e = .returned (.bool (kindsF l [-2])) ∧ Chg (fun _ _ => False) w w' := by
  have hb1 := Blk.new w 25 #[.int .i64 11, .string s, .int .u64 num, .int .i64 p, .slice A l.length c]
  have hc1 := chg_alloc w (.cells #[.int .i64 11, .string s, .int .u64 num, .int .i64 p, .slice A l.length c] 25)
  have hl1 := NdsR.keep0 hc1 hl
  clear hB hl hb1
  have hcall := rlist_any n B (w.alloc (.cells #[.int .i64 11, .string s, .int .u64 num, .int .i64 p, .slice A l.length c] 25)) l [116] A c hl1 hll (by decide) (by decide)
  rw [show (([116] : List UInt8).map trL) = [-2] by decide] at hcall
  have HC := Lib.hid hc1
  clear hc1 hl1
  go_enter Tryd.func40, Tryd.ntmps40
  go_wp2_with fail
  refine hcall.mono fun e w1 h => ?_
  obtain ⟨rfl, hc2⟩ := h
  clear hcall
  go_wp2_with fail
  go_ret
  exact ⟨rfl, HC.out.trans hc2⟩
set_option maxRecDepth 100000 in
set_option maxHeartbeats 2000000 in
theorem child_12 (n B : Nat) (w : World) (s : ByteArray) (num : Nat) (p : Int) (A : Option Addr) (c : Nat) (l : List Nd) (hB : B ≤ w.heap.size) (hl : NdsR n B w (.slice A l.length c) l) (hll : l.length ≤ 1048576) :
    Calls Tryd.prog 40 #[.agg #[.int .i64 12, .string s, .int .u64 num, .int .i64 p, .slice A l.length c]] w fun e w' => e = .returned (.bool (kindsF l [-2])) ∧ Chg (fun _ _ => False) w w' := by
  have hb1 := Blk.new w 25 #[.int .i64 12, .string s, .int .u64 num, .int .i64 p, .slice A l.length c]
  have hc1 := chg_alloc w (.cells #[.int .i64 12, .string s, .int .u64 num, .int .i64 p, .slice A l.length c] 25)
  have hl1 := NdsR.keep0 hc1 hl
  clear hB hl hb1
  have hcall := rlist_any n B (w.alloc (.cells #[.int .i64 12, .string s, .int .u64 num, .int .i64 p, .slice A l.length c] 25)) l [116] A c hl1 hll (by decide) (by decide)
  rw [show (([116] : List UInt8).map trL) = [-2] by decide] at hcall
  have HC := Lib.hid hc1
  clear hc1 hl1
  go_enter Tryd.func40, Tryd.ntmps40
  go_wp2_with fail
  refine hcall.mono fun e w1 h => ?_
  obtain ⟨rfl, hc2⟩ := h
  clear hcall
  go_wp2_with fail
  go_ret
  exact ⟨rfl, HC.out.trans hc2⟩
set_option maxRecDepth 100000 in
set_option maxHeartbeats 2000000 in
theorem child_20 (n B : Nat) (w : World) (s : ByteArray) (num : Nat) (p : Int) (A : Option Addr) (c : Nat) (l : List Nd) (hB : B ≤ w.heap.size) (hl : NdsR n B w (.slice A l.length c) l) (hll : l.length ≤ 1048576) :
    Calls Tryd.prog 40 #[.agg #[.int .i64 20, .string s, .int .u64 num, .int .i64 p, .slice A l.length c]] w fun e w' => e = .returned (.bool (l.all fun x => isStmtK x.kind)) ∧ Chg (fun _ _ => False) w w' := by
  have hb1 := Blk.new w 25 #[.int .i64 20, .string s, .int .u64 num, .int .i64 p, .slice A l.length c]
  have hc1 := chg_alloc w (.cells #[.int .i64 20, .string s, .int .u64 num, .int .i64 p, .slice A l.length c] 25)
  have hl1 := NdsR.keep0 hc1 hl
  clear hB hl hb1
  have hcall := run4_any n B (w.alloc (.cells #[.int .i64 20, .string s, .int .u64 num, .int .i64 p, .slice A l.length c] 25)) l A c 115 hl1 hll
  rw [show (fun x : Nd => sortF x.kind == 115) = fun x => isStmtK x.kind from funext fun x => sort_s x.kind] at hcall
  have HC := Lib.hid hc1
  clear hc1 hl1
  go_enter Tryd.func40, Tryd.ntmps40
  go_wp2_with fail
  refine hcall.mono fun e w1 h => ?_
  obtain ⟨rfl, rfl⟩ := h
  clear hcall
  go_wp2_with fail
  go_ret
  exact ⟨rfl, HC.out⟩
set_option maxRecDepth 100000 in
set_option maxHeartbeats 2000000 in
theorem child_21 (n B : Nat) (w : World) (s : ByteArray) (num : Nat) (p : Int) (A : Option Addr) (c : Nat) (l : List Nd) (hB : B ≤ w.heap.size) (hl : NdsR n B w (.slice A l.length c) l) (hll : l.length ≤ 1048576) :
    Calls Tryd.prog 40 #[.agg #[.int .i64 21, .string s, .int .u64 num, .int .i64 p, .slice A l.length c]] w fun e w' => e = .returned (.bool (kindsF l [-1])) ∧ Chg (fun _ _ => False) w w' := by
  have hb1 := Blk.new w 25 #[.int .i64 21, .string s, .int .u64 num, .int .i64 p, .slice A l.length c]
  have hc1 := chg_alloc w (.cells #[.int .i64 21, .string s, .int .u64 num, .int .i64 p, .slice A l.length c] 25)
  have hl1 := NdsR.keep0 hc1 hl
  clear hB hl hb1
  have hcall := rlist_any n B (w.alloc (.cells #[.int .i64 21, .string s, .int .u64 num, .int .i64 p, .slice A l.length c] 25)) l [101] A c hl1 hll (by decide) (by decide)
  rw [show (([101] : List UInt8).map trL) = [-1] by decide] at hcall
  have HC := Lib.hid hc1
  clear hc1 hl1
  go_enter Tryd.func40, Tryd.ntmps40
  go_wp2_with fail
  refine hcall.mono fun e w1 h => ?_
  obtain ⟨rfl, hc2⟩ := h
  clear hcall
  go_wp2_with fail
  go_ret
  exact ⟨rfl, HC.out.trans hc2⟩
set_option maxRecDepth 100000 in
set_option maxHeartbeats 2000000 in
theorem child_22 (n B : Nat) (w : World) (s : ByteArray) (num : Nat) (p : Int) (A : Option Addr) (c : Nat) (l : List Nd) (hB : B ≤ w.heap.size) (hl : NdsR n B w (.slice A l.length c) l) (hll : l.length ≤ 1048576) :
    Calls Tryd.prog 40 #[.agg #[.int .i64 22, .string s, .int .u64 num, .int .i64 p, .slice A l.length c]] w fun e w' => e = .returned (.bool (kindsF l [-2])) ∧ Chg (fun _ _ => False) w w' := by
  have hb1 := Blk.new w 25 #[.int .i64 22, .string s, .int .u64 num, .int .i64 p, .slice A l.length c]
  have hc1 := chg_alloc w (.cells #[.int .i64 22, .string s, .int .u64 num, .int .i64 p, .slice A l.length c] 25)
  have hl1 := NdsR.keep0 hc1 hl
  clear hB hl hb1
  have hcall := rlist_any n B (w.alloc (.cells #[.int .i64 22, .string s, .int .u64 num, .int .i64 p, .slice A l.length c] 25)) l [116] A c hl1 hll (by decide) (by decide)
  rw [show (([116] : List UInt8).map trL) = [-2] by decide] at hcall
  have HC := Lib.hid hc1
  clear hc1 hl1
  go_enter Tryd.func40, Tryd.ntmps40
  go_wp2_with fail
  refine hcall.mono fun e w1 h => ?_
  obtain ⟨rfl, hc2⟩ := h
  clear hcall
  go_wp2_with fail
  go_ret
  exact ⟨rfl, HC.out.trans hc2⟩
end Go.Proofs.YtgaodjoddfjfmaaDoor
