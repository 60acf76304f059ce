/-
  The reference's children, kind by kind (2).
-/
import Derived.Test.YtgaodjoddfjfmaaDoorNRef2
namespace Go.Proofs.YtgaodjoddfjfmaaDoor
open Go.RowKit
set_option linter.unusedVariables false
set_option linter.unusedSimpArgs false

set_option maxRecDepth 100000 in
set_option maxHeartbeats 2000000 in
theorem child_24 (n B : Nat) (w : World) (s : ByteArray) (num : Nat) (p : Int) (A : Option Addr) (c : Nat) (l : List Nd) (hB : B ≤ w.heap.size) (hl : NdsR n B w (.slice A l.length c) l) (hll : l.length ≤ 1048576) :
    Calls Tryd.prog 40 #[.agg #[.int .i64 24, .string s, .int .u64 num, .int .i64 p, .slice A l.length c]] w fun e w' => e = .returned (.bool (kindsF l [34] || kindsF l [39])) ∧ Chg (fun _ _ => False) w w' := by
  have hb1 := Blk.new w 25 #[.int .i64 24, .string s, .int .u64 num, .int .i64 p, .slice A l.length c]
  have hc1 := chg_alloc w (.cells #[.int .i64 24, .string s, .int .u64 num, .int .i64 p, .slice A l.length c] 25)
  have hl1 := NdsR.keep0 hc1 hl
  clear hB hl hb1
  have hcall := rlist_any n B (w.alloc (.cells #[.int .i64 24, .string s, .int .u64 num, .int .i64 p, .slice A l.length c] 25)) l [99] A c hl1 hll (by decide) (by decide)
  rw [show (([99] : List UInt8).map trL) = [34] by decide] at hcall
  have hcc0 := hc1
  cases hx0 : kindsF l [34] with
  | true =>
    rw [hx0] at hcall
    have HX0 := Lib.hid hx0
    clear hx0
    have HC0 := Lib.hid (And.intro hcc0 hl1)
    clear hcc0 hl1 hc1
    go_enter Tryd.func40, Tryd.ntmps40
    go_wp2_with fail
    refine hcall.mono fun e v0 h => ?_
    obtain ⟨rfl, hv0⟩ := h
    clear hcall
    go_wp2_with fail
    go_ret
    exact ⟨by simp [HX0.out], HC0.out.1.trans hv0⟩
  | false =>
    rw [hx0] at hcall
    have HX0 := Lib.hid hx0
    clear hx0
    have HC0 := Lib.hid (And.intro hcc0 hl1)
    clear hcc0 hl1 hc1
    go_enter Tryd.func40, Tryd.ntmps40
    go_wp2_with fail
    refine hcall.mono fun e v0 h => ?_
    obtain ⟨rfl, hv0⟩ := h
    clear hcall
    have hw0 := HC0.out.1.trans hv0
    have hl2 := NdsR.keep0 hv0 HC0.out.2
    clear hv0
    have hcall := rlist_any n B (v0) l [114] A c hl2 hll (by decide) (by decide)
    rw [show (([114] : List UInt8).map trL) = [39] by decide] at hcall
    have hcc1 := hw0
    cases hx1 : kindsF l [39] with
    | true =>
      rw [hx1] at hcall
      have HX1 := Lib.hid hx1
      clear hx1
      have HC1 := Lib.hid (And.intro hcc1 hl2)
      clear hcc1 hl2
      go_wp2_with fail
      refine hcall.mono fun e v1 h => ?_
      obtain ⟨rfl, hv1⟩ := h
      clear hcall
      go_wp2_with fail
      go_ret
      exact ⟨by simp [HX0.out, HX1.out], HC1.out.1.trans hv1⟩
    | false =>
      rw [hx1] at hcall
      have HX1 := Lib.hid hx1
      clear hx1
      have HC1 := Lib.hid (And.intro hcc1 hl2)
      clear hcc1 hl2
      go_wp2_with fail
      refine hcall.mono fun e v1 h => ?_
      obtain ⟨rfl, hv1⟩ := h
      clear hcall
      go_wp2_with fail
      go_ret
      exact ⟨by simp [HX0.out, HX1.out], HC1.out.1.trans hv1⟩
set_option maxRecDepth 100000 in
set_option maxHeartbeats 2000000 in
theorem child_25 (n B : Nat) (w : World) (s : ByteArray) (num : Nat) (p : Int) (A : Option Addr) (c : Nat) (l : List Nd) (hB : B ≤ w.heap.size) (hl : NdsR n B w (.slice A l.length c) l) (hll : l.length ≤ 1048576) :
    Calls Tryd.prog 40 #[.agg #[.int .i64 25, .string s, .int .u64 num, .int .i64 p, .slice A l.length c]] w fun e w' => e = .returned (.bool (kindsF l [-1, 20] || kindsF l [-1, 20, 20] || kindsF l [-1, 20, 25])) ∧ Chg (fun _ _ => False) w w' := by
  have hb1 := Blk.new w 25 #[.int .i64 25, .string s, .int .u64 num, .int .i64 p, .slice A l.length c]
  have hc1 := chg_alloc w (.cells #[.int .i64 25, .string s, .int .u64 num, .int .i64 p, .slice A l.length c] 25)
  have hl1 := NdsR.keep0 hc1 hl
  clear hB hl hb1
  have hcall := rlist_any n B (w.alloc (.cells #[.int .i64 25, .string s, .int .u64 num, .int .i64 p, .slice A l.length c] 25)) l [101, 98] A c hl1 hll (by decide) (by decide)
  rw [show (([101, 98] : List UInt8).map trL) = [-1, 20] by decide] at hcall
  have hcc0 := hc1
  cases hx0 : kindsF l [-1, 20] with
  | true =>
    rw [hx0] at hcall
    have HX0 := Lib.hid hx0
    clear hx0
    have HC0 := Lib.hid (And.intro hcc0 hl1)
    clear hcc0 hl1 hc1
    go_enter Tryd.func40, Tryd.ntmps40
    go_wp2_with fail
    refine hcall.mono fun e v0 h => ?_
    obtain ⟨rfl, hv0⟩ := h
    clear hcall
    go_wp2_with fail
    go_ret
    exact ⟨by simp [HX0.out], HC0.out.1.trans hv0⟩
  | false =>
    rw [hx0] at hcall
    have HX0 := Lib.hid hx0
    clear hx0
    have HC0 := Lib.hid (And.intro hcc0 hl1)
    clear hcc0 hl1 hc1
    go_enter Tryd.func40, Tryd.ntmps40
    go_wp2_with fail
    refine hcall.mono fun e v0 h => ?_
    obtain ⟨rfl, hv0⟩ := h
    clear hcall
    have hw0 := HC0.out.1.trans hv0
    have hl2 := NdsR.keep0 hv0 HC0.out.2
    clear hv0
    have hcall := rlist_any n B (v0) l [101, 98, 98] A c hl2 hll (by decide) (by decide)
    rw [show (([101, 98, 98] : List UInt8).map trL) = [-1, 20, 20] by decide] at hcall
    have hcc1 := hw0
    cases hx1 : kindsF l [-1, 20, 20] with
    | true =>
      rw [hx1] at hcall
      have HX1 := Lib.hid hx1
      clear hx1
      have HC1 := Lib.hid (And.intro hcc1 hl2)
      clear hcc1 hl2
      go_wp2_with fail
      refine hcall.mono fun e v1 h => ?_
      obtain ⟨rfl, hv1⟩ := h
      clear hcall
      go_wp2_with fail
      go_ret
      exact ⟨by simp [HX0.out, HX1.out], HC1.out.1.trans hv1⟩
    | false =>
      rw [hx1] at hcall
      have HX1 := Lib.hid hx1
      clear hx1
      have HC1 := Lib.hid (And.intro hcc1 hl2)
      clear hcc1 hl2
      go_wp2_with fail
      refine hcall.mono fun e v1 h => ?_
      obtain ⟨rfl, hv1⟩ := h
      clear hcall
      have hw1 := HC1.out.1.trans hv1
      have hl3 := NdsR.keep0 hv1 HC1.out.2
      clear hv1
      have hcall := rlist_any n B (v1) l [101, 98, 105] A c hl3 hll (by decide) (by decide)
      rw [show (([101, 98, 105] : List UInt8).map trL) = [-1, 20, 25] by decide] at hcall
      have hcc2 := hw1
      cases hx2 : kindsF l [-1, 20, 25] with
      | true =>
        rw [hx2] at hcall
        have HX2 := Lib.hid hx2
        clear hx2
        have HC2 := Lib.hid (And.intro hcc2 hl3)
        clear hcc2 hl3
        go_wp2_with fail
        refine hcall.mono fun e v2 h => ?_
        obtain ⟨rfl, hv2⟩ := h
        clear hcall
        go_wp2_with fail
        go_ret
        exact ⟨by simp [HX0.out, HX1.out, HX2.out], HC2.out.1.trans hv2⟩
      | false =>
        rw [hx2] at hcall
        have HX2 := Lib.hid hx2
        clear hx2
        have HC2 := Lib.hid (And.intro hcc2 hl3)
        clear hcc2 hl3
        go_wp2_with fail
        refine hcall.mono fun e v2 h => ?_
        obtain ⟨rfl, hv2⟩ := h
        clear hcall
        go_wp2_with fail
        go_ret
        exact ⟨by simp [HX0.out, HX1.out, HX2.out], HC2.out.1.trans hv2⟩
set_option maxRecDepth 100000 in
set_option maxHeartbeats 2000000 in
theorem child_26 (n B : Nat) (w : World) (s : ByteArray) (num : Nat) (p : Int) (A : Option Addr) (c : Nat) (l : List Nd) (hB : B ≤ w.heap.size) (hl : NdsR n B w (.slice A l.length c) l) (hll : l.length ≤ 1048576) :
    Calls Tryd.prog 40 #[.agg #[.int .i64 26, .string s, .int .u64 num, .int .i64 p, .slice A l.length c]] w fun e w' => e = .returned (.bool (kindsF l [-1, 20])) ∧ Chg (fun _ _ => False) w w' := by
  have hb1 := Blk.new w 25 #[.int .i64 26, .string s, .int .u64 num, .int .i64 p, .slice A l.length c]
  have hc1 := chg_alloc w (.cells #[.int .i64 26, .string s, .int .u64 num, .int .i64 p, .slice A l.length c] 25)
  have hl1 := NdsR.keep0 hc1 hl
  clear hB hl hb1
  have hcall := rlist_any n B (w.alloc (.cells #[.int .i64 26, .string s, .int .u64 num, .int .i64 p, .slice A l.length c] 25)) l [101, 98] A c hl1 hll (by decide) (by decide)
  rw [show (([101, 98] : List UInt8).map trL) = [-1, 20] by decide] at hcall
  have HC := Lib.hid hc1
  clear hc1 hl1
  go_enter Tryd.func40, Tryd.ntmps40
  go_wp2_with fail
  refine hcall.mono fun e w1 h => ?_
  obtain ⟨rfl, hc2⟩ := h
  clear hcall
  go_wp2_with fail
  go_ret
  exact ⟨rfl, HC.out.trans hc2⟩
set_option maxRecDepth 100000 in
set_option maxHeartbeats 2000000 in
theorem child_27 (n B : Nat) (w : World) (s : ByteArray) (num : Nat) (p : Int) (A : Option Addr) (c : Nat) (l : List Nd) (hB : B ≤ w.heap.size) (hl : NdsR n B w (.slice A l.length c) l) (hll : l.length ≤ 1048576) :
    Calls Tryd.prog 40 #[.agg #[.int .i64 27, .string s, .int .u64 num, .int .i64 p, .slice A l.length c]] w fun e w' => e = .returned (.bool (decide (l.length = 0))) ∧ Chg (fun _ _ => False) w w' := by
  by_cases h0 : l.length = 0
  · have q0 : (l.length == 0) = true := by simp [h0]
    have q0' : ((l.length : Int) == 0) = true := by simp [h0]
    have H0 := Lib.hid (show decide (l.length = 0) = true from decide_eq_true h0)
    clear h0
    have hc1 := chg_alloc w (.cells #[.int .i64 27, .string s, .int .u64 num, .int .i64 p, .slice A l.length c] 25)
    have HC := Lib.hid hc1
    clear hc1 hB hl
    go_enter Tryd.func40, Tryd.ntmps40
    go_wp2_with fail
    go_ret
    exact ⟨by rw [H0.out]; rfl, HC.out⟩
  · have q0 : (l.length == 0) = false := by simp [h0]
    have q0' : ((l.length : Int) == 0) = false := by rw [beq_eq_false_iff_ne]; omega
    have H0 := Lib.hid (show decide (l.length = 0) = false from decide_eq_false h0)
    clear h0
    have hc1 := chg_alloc w (.cells #[.int .i64 27, .string s, .int .u64 num, .int .i64 p, .slice A l.length c] 25)
    have HC := Lib.hid hc1
    clear hc1 hB hl
    go_enter Tryd.func40, Tryd.ntmps40
    go_wp2_with fail
    go_ret
    exact ⟨by rw [H0.out]; rfl, HC.out⟩
set_option maxRecDepth 100000 in
set_option maxHeartbeats 2000000 in
theorem child_28 (n B : Nat) (w : World) (s : ByteArray) (num : Nat) (p : Int) (A : Option Addr) (c : Nat) (l : List Nd) (hB : B ≤ w.heap.size) (hl : NdsR n B w (.slice A l.length c) l) (hll : l.length ≤ 1048576) :
    Calls Tryd.prog 40 #[.agg #[.int .i64 28, .string s, .int .u64 num, .int .i64 p, .slice A l.length c]] w fun e w' => e = .returned (.bool (decide (l.length = 0) || kindsF l [-1])) ∧ Chg (fun _ _ => False) w w' := by
  by_cases h0 : l.length = 0
  · have q0 : (l.length == 0) = true := by simp [h0]
    have q0' : ((l.length : Int) == 0) = true := by simp [h0]
    have H0 := Lib.hid (show decide (l.length = 0) = true from decide_eq_true h0)
    clear h0
    have hc1 := chg_alloc w (.cells #[.int .i64 28, .string s, .int .u64 num, .int .i64 p, .slice A l.length c] 25)
    have HC := Lib.hid hc1
    clear hc1 hB hl
    go_enter Tryd.func40, Tryd.ntmps40
    go_wp2_with fail
    go_ret
    exact ⟨by rw [H0.out]; rfl, HC.out⟩
  · have q0 : (l.length == 0) = false := by simp [h0]
    have q0' : ((l.length : Int) == 0) = false := by rw [beq_eq_false_iff_ne]; omega
    have H0 := Lib.hid (show decide (l.length = 0) = false from decide_eq_false h0)
    clear h0
    have hb1 := Blk.new w 25 #[.int .i64 28, .string s, .int .u64 num, .int .i64 p, .slice A l.length c]
    have hc1 := chg_alloc w (.cells #[.int .i64 28, .string s, .int .u64 num, .int .i64 p, .slice A l.length c] 25)
    have hl1 := NdsR.keep0 hc1 hl
    clear hB hl hb1
    have hcall := rlist_any n B (w.alloc (.cells #[.int .i64 28, .string s, .int .u64 num, .int .i64 p, .slice A l.length c] 25)) l [101] A c hl1 hll (by decide) (by decide)
    rw [show (([101] : List UInt8).map trL) = [-1] by decide] at hcall
    have HC := Lib.hid hc1
    clear hc1 hl1
    go_enter Tryd.func40, Tryd.ntmps40
    go_wp2_with fail
    refine hcall.mono fun e w1 h => ?_
    obtain ⟨rfl, hc2⟩ := h
    clear hcall
    go_wp2_with fail
    go_ret
    exact ⟨by rw [H0.out]; rfl, HC.out.trans hc2⟩
set_option maxRecDepth 100000 in
set_option maxHeartbeats 2000000 in
theorem child_29 (n B : Nat) (w : World) (s : ByteArray) (num : Nat) (p : Int) (A : Option Addr) (c : Nat) (l : List Nd) (hB : B ≤ w.heap.size) (hl : NdsR n B w (.slice A l.length c) l) (hll : l.length ≤ 1048576) :
    Calls Tryd.prog 40 #[.agg #[.int .i64 29, .string s, .int .u64 num, .int .i64 p, .slice A l.length c]] w fun e w' => e = .returned (.bool (kindsF l [34])) ∧ Chg (fun _ _ => False) w w' := by
  have hb1 := Blk.new w 25 #[.int .i64 29, .string s, .int .u64 num, .int .i64 p, .slice A l.length c]
  have hc1 := chg_alloc w (.cells #[.int .i64 29, .string s, .int .u64 num, .int .i64 p, .slice A l.length c] 25)
  have hl1 := NdsR.keep0 hc1 hl
  clear hB hl hb1
  have hcall := rlist_any n B (w.alloc (.cells #[.int .i64 29, .string s, .int .u64 num, .int .i64 p, .slice A l.length c] 25)) l [99] A c hl1 hll (by decide) (by decide)
  rw [show (([99] : List UInt8).map trL) = [34] by decide] at hcall
  have HC := Lib.hid hc1
  clear hc1 hl1
  go_enter Tryd.func40, Tryd.ntmps40
  go_wp2_with fail
  refine hcall.mono fun e w1 h => ?_
  obtain ⟨rfl, hc2⟩ := h
  clear hcall
  go_wp2_with fail
  go_ret
  exact ⟨rfl, HC.out.trans hc2⟩
set_option maxRecDepth 100000 in
set_option maxHeartbeats 2000000 in
theorem child_30 (n B : Nat) (w : World) (s : ByteArray) (num : Nat) (p : Int) (A : Option Addr) (c : Nat) (l : List Nd) (hB : B ≤ w.heap.size) (hl : NdsR n B w (.slice A l.length c) l) (hll : l.length ≤ 1048576) :
    Calls Tryd.prog 40 #[.agg #[.int .i64 30, .string s, .int .u64 num, .int .i64 p, .slice A l.length c]] w fun e w' => e = .returned (.bool (decide (l.length = 0))) ∧ Chg (fun _ _ => False) w w' := by
  by_cases h0 : l.length = 0
  · have q0 : (l.length == 0) = true := by simp [h0]
    have q0' : ((l.length : Int) == 0) = true := by simp [h0]
    have H0 := Lib.hid (show decide (l.length = 0) = true from decide_eq_true h0)
    clear h0
    have hc1 := chg_alloc w (.cells #[.int .i64 30, .string s, .int .u64 num, .int .i64 p, .slice A l.length c] 25)
    have HC := Lib.hid hc1
    clear hc1 hB hl
    go_enter Tryd.func40, Tryd.ntmps40
    go_wp2_with fail
    go_ret
    exact ⟨by rw [H0.out]; rfl, HC.out⟩
  · have q0 : (l.length == 0) = false := by simp [h0]
    have q0' : ((l.length : Int) == 0) = false := by rw [beq_eq_false_iff_ne]; omega
    have H0 := Lib.hid (show decide (l.length = 0) = false from decide_eq_false h0)
    clear h0
    have hc1 := chg_alloc w (.cells #[.int .i64 30, .string s, .int .u64 num, .int .i64 p, .slice A l.length c] 25)
    have HC := Lib.hid hc1
    clear hc1 hB hl
    go_enter Tryd.func40, Tryd.ntmps40
    go_wp2_with fail
    go_ret
    exact ⟨by rw [H0.out]; rfl, HC.out⟩
set_option maxRecDepth 100000 in
set_option maxHeartbeats 2000000 in
theorem child_31 (n B : Nat) (w : World) (s : ByteArray) (num : Nat) (p : Int) (A : Option Addr) (c : Nat) (l : List Nd) (hB : B ≤ w.heap.size) (hl : NdsR n B w (.slice A l.length c) l) (hll : l.length ≤ 1048576) :
    Calls Tryd.prog 40 #[.agg #[.int .i64 31, .string s, .int .u64 num, .int .i64 p, .slice A l.length c]] w fun e w' => e = .returned (.bool (decide (l.length = 0))) ∧ Chg (fun _ _ => False) w w' := by
  by_cases h0 : l.length = 0
  · have q0 : (l.length == 0) = true := by simp [h0]
    have q0' : ((l.length : Int) == 0) = true := by simp [h0]
    have H0 := Lib.hid (show decide (l.length = 0) = true from decide_eq_true h0)
    clear h0
    have hc1 := chg_alloc w (.cells #[.int .i64 31, .string s, .int .u64 num, .int .i64 p, .slice A l.length c] 25)
    have HC := Lib.hid hc1
    clear hc1 hB hl
    go_enter Tryd.func40, Tryd.ntmps40
    go_wp2_with fail
    go_ret
    exact ⟨by rw [H0.out]; rfl, HC.out⟩
  · have q0 : (l.length == 0) = false := by simp [h0]
    have q0' : ((l.length : Int) == 0) = false := by rw [beq_eq_false_iff_ne]; omega
    have H0 := Lib.hid (show decide (l.length = 0) = false from decide_eq_false h0)
    clear h0
    have hc1 := chg_alloc w (.cells #[.int .i64 31, .string s, .int .u64 num, .int .i64 p, .slice A l.length c] 25)
    have HC := Lib.hid hc1
    clear hc1 hB hl
    go_enter Tryd.func40, Tryd.ntmps40
    go_wp2_with fail
    go_ret
    exact ⟨by rw [H0.out]; rfl, HC.out⟩
set_option maxRecDepth 100000 in
set_option maxHeartbeats 2000000 in
theorem child_32 (n B : Nat) (w : World) (s : ByteArray) (num : Nat) (p : Int) (A : Option Addr) (c : Nat) (l : List Nd) (hB : B ≤ w.heap.size) (hl : NdsR n B w (.slice A l.length c) l) (hll : l.length ≤ 1048576) :
    Calls Tryd.prog 40 #[.agg #[.int .i64 32, .string s, .int .u64 num, .int .i64 p, .slice A l.length c]] w fun e w' => e = .returned (.bool (decide (l.length = 0))) ∧ Chg (fun _ _ => False) w w' := by
  by_cases h0 : l.length = 0
  · have q0 : (l.length == 0) = true := by simp [h0]
    have q0' : ((l.length : Int) == 0) = true := by simp [h0]
    have H0 := Lib.hid (show decide (l.length = 0) = true from decide_eq_true h0)
    clear h0
    have hc1 := chg_alloc w (.cells #[.int .i64 32, .string s, .int .u64 num, .int .i64 p, .slice A l.length c] 25)
    have HC := Lib.hid hc1
    clear hc1 hB hl
    go_enter Tryd.func40, Tryd.ntmps40
    go_wp2_with fail
    go_ret
    exact ⟨by rw [H0.out]; rfl, HC.out⟩
  · have q0 : (l.length == 0) = false := by simp [h0]
    have q0' : ((l.length : Int) == 0) = false := by rw [beq_eq_false_iff_ne]; omega
    have H0 := Lib.hid (show decide (l.length = 0) = false from decide_eq_false h0)
    clear h0
    have hc1 := chg_alloc w (.cells #[.int .i64 32, .string s, .int .u64 num, .int .i64 p, .slice A l.length c] 25)
    have HC := Lib.hid hc1
    clear hc1 hB hl
    go_enter Tryd.func40, Tryd.ntmps40
    go_wp2_with fail
    go_ret
    exact ⟨by rw [H0.out]; rfl, HC.out⟩
set_option maxRecDepth 100000 in
set_option maxHeartbeats 2000000 in
theorem child_35 (n B : Nat) (w : World) (s : ByteArray) (num : Nat) (p : Int) (A : Option Addr) (c : Nat) (l : List Nd) (hB : B ≤ w.heap.size) (hl : NdsR n B w (.slice A l.length c) l) (hll : l.length ≤ 1048576) :
    Calls Tryd.prog 40 #[.agg #[.int .i64 35, .string s, .int .u64 num, .int .i64 p, .slice A l.length c]] w fun e w' => e = .returned (.bool (kindsF l [-1])) ∧ Chg (fun _ _ => False) w w' := by
  have hb1 := Blk.new w 25 #[.int .i64 35, .string s, .int .u64 num, .int .i64 p, .slice A l.length c]
  have hc1 := chg_alloc w (.cells #[.int .i64 35, .string s, .int .u64 num, .int .i64 p, .slice A l.length c] 25)
  have hl1 := NdsR.keep0 hc1 hl
  clear hB hl hb1
  have hcall := rlist_any n B (w.alloc (.cells #[.int .i64 35, .string s, .int .u64 num, .int .i64 p, .slice A l.length c] 25)) l [101] A c hl1 hll (by decide) (by decide)
  rw [show (([101] : List UInt8).map trL) = [-1] by decide] at hcall
  have HC := Lib.hid hc1
  clear hc1 hl1
  go_enter Tryd.func40, Tryd.ntmps40
  go_wp2_with fail
  refine hcall.mono fun e w1 h => ?_
  obtain ⟨rfl, hc2⟩ := h
  clear hcall
  go_wp2_with fail
  go_ret
  exact ⟨rfl, HC.out.trans hc2⟩
set_option maxRecDepth 100000 in
set_option maxHeartbeats 2000000 in
theorem child_37 (n B : Nat) (w : World) (s : ByteArray) (num : Nat) (p : Int) (A : Option Addr) (c : Nat) (l : List Nd) (hB : B ≤ w.heap.size) (hl : NdsR n B w (.slice A l.length c) l) (hll : l.length ≤ 1048576) :
    Calls Tryd.prog 40 #[.agg #[.int .i64 37, .string s, .int .u64 num, .int .i64 p, .slice A l.length c]] w fun e w' => e = .returned (.bool (decide (l.length ≤ 16) && l.all fun x => isExprK x.kind)) ∧ Chg (fun _ _ => False) w w' := by
  have hb1 := Blk.new w 25 #[.int .i64 37, .string s, .int .u64 num, .int .i64 p, .slice A l.length c]
  have hc1 := chg_alloc w (.cells #[.int .i64 37, .string s, .int .u64 num, .int .i64 p, .slice A l.length c] 25)
  have hl1 := NdsR.keep0 hc1 hl
  clear hB hl hb1
  have hcall := run4_any n B (w.alloc (.cells #[.int .i64 37, .string s, .int .u64 num, .int .i64 p, .slice A l.length c] 25)) l A c 101 hl1 hll
  rw [show (fun x : Nd => sortF x.kind == 101) = fun x => isExprK x.kind from funext fun x => sort_e x.kind] at hcall
  have HC := Lib.hid hc1
  clear hc1 hl1
  cases hx : (l.all fun x => isExprK x.kind) with
  | false =>
    rw [hx] at hcall
    have HX := Lib.hid hx
    clear hx
    go_enter Tryd.func40, Tryd.ntmps40
    go_wp2_with fail
    refine hcall.mono fun e w1 h => ?_
    obtain ⟨rfl, rfl⟩ := h
    clear hcall
    go_wp2_with fail
    go_ret
    exact ⟨by rw [Bool.and_false]; rfl, HC.out⟩
  | true =>
    rw [hx] at hcall
    have HX := Lib.hid hx
    clear hx
    by_cases ga : l.length ≤ 16
    · have GA := Lib.hid (show decide (l.length ≤ 16) = true from decide_eq_true ga)
      have ga0 : decide (l.length ≤ 16) = true := by first | exact decide_eq_true (by omega) | (simp; omega)
      have ga1 : decide ((l.length : Int) ≤ 16) = true := by first | exact decide_eq_true (by omega) | (simp; omega)
      clear ga
      go_enter Tryd.func40, Tryd.ntmps40
      go_wp2_with fail
      refine hcall.mono fun e w1 h => ?_
      obtain ⟨rfl, rfl⟩ := h
      clear hcall
      go_wp2_with fail
      go_ret
      exact ⟨by rw [GA.out]; rfl, HC.out⟩
    · have GA := Lib.hid (show decide (l.length ≤ 16) = false from decide_eq_false ga)
      have ga0 : decide (l.length ≤ 16) = false := by first | exact decide_eq_false (by omega) | (simp; omega)
      have ga1 : decide ((l.length : Int) ≤ 16) = false := by first | exact decide_eq_false (by omega) | (simp; omega)
      clear ga
      go_enter Tryd.func40, Tryd.ntmps40
      go_wp2_with fail
      refine hcall.mono fun e w1 h => ?_
      obtain ⟨rfl, rfl⟩ := h
      clear hcall
      go_wp2_with fail
      go_ret
      exact ⟨by rw [GA.out]; rfl, HC.out⟩
set_option maxRecDepth 100000 in
set_option maxHeartbeats 2000000 in
theorem child_38 (n B : Nat) (w : World) (s : ByteArray) (num : Nat) (p : Int) (A : Option Addr) (c : Nat) (l : List Nd) (hB : B ≤ w.heap.size) (hl : NdsR n B w (.slice A l.length c) l) (hll : l.length ≤ 1048576) :
    Calls Tryd.prog 40 #[.agg #[.int .i64 38, .string s, .int .u64 num, .int .i64 p, .slice A l.length c]] w fun e w' => e = .returned (.bool (kindsF l [6, 7, 20])) ∧ Chg (fun _ _ => False) w w' := by
  have hb1 := Blk.new w 25 #[.int .i64 38, .string s, .int .u64 num, .int .i64 p, .slice A l.length c]
  have hc1 := chg_alloc w (.cells #[.int .i64 38, .string s, .int .u64 num, .int .i64 p, .slice A l.length c] 25)
  have hl1 := NdsR.keep0 hc1 hl
  clear hB hl hb1
  have hcall := rlist_any n B (w.alloc (.cells #[.int .i64 38, .string s, .int .u64 num, .int .i64 p, .slice A l.length c] 25)) l [112, 113, 98] A c hl1 hll (by decide) (by decide)
  rw [show (([112, 113, 98] : List UInt8).map trL) = [6, 7, 20] by decide] at hcall
  have HC := Lib.hid hc1
  clear hc1 hl1
  go_enter Tryd.func40, Tryd.ntmps40
  go_wp2_with fail
  refine hcall.mono fun e w1 h => ?_
  obtain ⟨rfl, hc2⟩ := h
  clear hcall
  go_wp2_with fail
  go_ret
  exact ⟨rfl, HC.out.trans hc2⟩
set_option maxRecDepth 100000 in
set_option maxHeartbeats 2000000 in
theorem child_39 (n B : Nat) (w : World) (s : ByteArray) (num : Nat) (p : Int) (A : Option Addr) (c : Nat) (l : List Nd) (hB : B ≤ w.heap.size) (hl : NdsR n B w (.slice A l.length c) l) (hll : l.length ≤ 1048576) :
    Calls Tryd.prog 40 #[.agg #[.int .i64 39, .string s, .int .u64 num, .int .i64 p, .slice A l.length c]] w fun e w' => e = .returned (.bool (kindsF l [-1])) ∧ Chg (fun _ _ => False) w w' := by
  have hb1 := Blk.new w 25 #[.int .i64 39, .string s, .int .u64 num, .int .i64 p, .slice A l.length c]
  have hc1 := chg_alloc w (.cells #[.int .i64 39, .string s, .int .u64 num, .int .i64 p, .slice A l.length c] 25)
  have hl1 := NdsR.keep0 hc1 hl
  clear hB hl hb1
  have hcall := rlist_any n B (w.alloc (.cells #[.int .i64 39, .string s, .int .u64 num, .int .i64 p, .slice A l.length c] 25)) l [101] A c hl1 hll (by decide) (by decide)
  rw [show (([101] : List UInt8).map trL) = [-1] by decide] at hcall
  have HC := Lib.hid hc1
  clear hc1 hl1
  go_enter Tryd.func40, Tryd.ntmps40
  go_wp2_with fail
  refine hcall.mono fun e w1 h => ?_
  obtain ⟨rfl, hc2⟩ := h
  clear hcall
  go_wp2_with fail
  go_ret
  exact ⟨rfl, HC.out.trans hc2⟩
end Go.Proofs.YtgaodjoddfjfmaaDoor
