/-
  tree.list, kind by kind (3).
-/
import Derived.Test.YtgaodjoddfjfmaaDoorNKinds
namespace Go.Proofs.YtgaodjoddfjfmaaDoor
open Go.RowKit
set_option linter.unusedVariables false
set_option linter.unusedSimpArgs false

set_option maxRecDepth 100000 in
set_option maxHeartbeats 2000000 in
theorem list_29 (n B : Nat) (w : World) (s : ByteArray) (num : Nat) (p : Int) (A : Option Addr) (c : Nat) (l : List Nd) (hB : B ≤ w.heap.size) (hl : NdsR n B w (.slice A l.length c) l) (hll : l.length ≤ 1048576) :
    Calls Tryd.prog 49 #[.agg #[.int .i64 29, .string s, .int .u64 num, .int .i64 p, .slice A l.length c]] w fun e w' => e = .returned (.bool (kindsF l [34])) ∧ Chg (fun _ _ => False) w w' := by
  have hb1 := Blk.new w 25 #[.int .i64 29, .string s, .int .u64 num, .int .i64 p, .slice A l.length c]
  have hc1 := chg_alloc w (.cells #[.int .i64 29, .string s, .int .u64 num, .int .i64 p, .slice A l.length c] 25)
  have hl1 := NdsR.keep0 hc1 hl
  have hB1 := Nat.le_trans hB hc1.size
  clear hB hl
  have hbs := Blk.new (w.alloc (.cells #[.int .i64 29, .string s, .int .u64 num, .int .i64 p, .slice A l.length c] 25)) 3 #[.int .i64 34]
  have hcs := chg_alloc (w.alloc (.cells #[.int .i64 29, .string s, .int .u64 num, .int .i64 p, .slice A l.length c] 25)) (.cells #[.int .i64 34] 3)
  simp only [World.size_alloc] at hbs
  have hcall := kinds_any n B ((w.alloc (.cells #[.int .i64 29, .string s, .int .u64 num, .int .i64 p, .slice A l.length c] 25)).alloc (.cells #[.int .i64 34] 3)) l [34] A c (w.heap.size + 1) 1 (NdsR.keep0 hcs hl1) (fun i k hk => by
    match i, hk with
    | 0, hk => simp at hk; subst hk; simp
    | i + 1, hk => simp at hk) hll (by decide)
  have HC := Lib.hid (hc1.trans hcs)
  clear hb1 hc1 hl1 hB1 hbs hcs
  go_enter Tryd.func49, Tryd.ntmps49
  go_wp2_with fail
  refine hcall.mono fun e w1 h => ?_
  obtain ⟨rfl, hc2⟩ := h
  clear hcall
  go_wp2_with fail
  go_ret
  exact ⟨rfl, HC.out.trans hc2⟩
set_option maxRecDepth 100000 in
set_option maxHeartbeats 2000000 in
theorem list_30 (n B : Nat) (w : World) (s : ByteArray) (num : Nat) (p : Int) (A : Option Addr) (c : Nat) (l : List Nd) (hB : B ≤ w.heap.size) (hl : NdsR n B w (.slice A l.length c) l) (hll : l.length ≤ 1048576) :
    Calls Tryd.prog 49 #[.agg #[.int .i64 30, .string s, .int .u64 num, .int .i64 p, .slice A l.length c]] w fun e w' => e = .returned (.bool (decide (l.length = 0))) ∧ Chg (fun _ _ => False) w w' := by
  have hc1 := chg_alloc w (.cells #[.int .i64 30, .string s, .int .u64 num, .int .i64 p, .slice A l.length c] 25)
  have HC := Lib.hid hc1
  clear hc1 hB hl
  by_cases h0 : l.length = 0
  · have q0 : (l.length == 0) = true := by simp [h0]
    have q0' : ((l.length : Int) == 0) = true := by simp [h0]
    have H0 := Lib.hid (show decide (l.length = 0) = true from decide_eq_true h0)
    clear h0
    go_enter Tryd.func49, Tryd.ntmps49
    go_wp2_with fail
    go_ret
    exact ⟨by rw [H0.out]; rfl, HC.out⟩
  · have q0 : (l.length == 0) = false := by simp [h0]
    have q0' : ((l.length : Int) == 0) = false := by rw [beq_eq_false_iff_ne]; omega
    have H0 := Lib.hid (show decide (l.length = 0) = false from decide_eq_false h0)
    clear h0
    go_enter Tryd.func49, Tryd.ntmps49
    go_wp2_with fail
    go_ret
    exact ⟨by rw [H0.out]; rfl, HC.out⟩
set_option maxRecDepth 100000 in
set_option maxHeartbeats 2000000 in
theorem list_31 (n B : Nat) (w : World) (s : ByteArray) (num : Nat) (p : Int) (A : Option Addr) (c : Nat) (l : List Nd) (hB : B ≤ w.heap.size) (hl : NdsR n B w (.slice A l.length c) l) (hll : l.length ≤ 1048576) :
    Calls Tryd.prog 49 #[.agg #[.int .i64 31, .string s, .int .u64 num, .int .i64 p, .slice A l.length c]] w fun e w' => e = .returned (.bool (decide (l.length = 0))) ∧ Chg (fun _ _ => False) w w' := by
  have hc1 := chg_alloc w (.cells #[.int .i64 31, .string s, .int .u64 num, .int .i64 p, .slice A l.length c] 25)
  have HC := Lib.hid hc1
  clear hc1 hB hl
  by_cases h0 : l.length = 0
  · have q0 : (l.length == 0) = true := by simp [h0]
    have q0' : ((l.length : Int) == 0) = true := by simp [h0]
    have H0 := Lib.hid (show decide (l.length = 0) = true from decide_eq_true h0)
    clear h0
    go_enter Tryd.func49, Tryd.ntmps49
    go_wp2_with fail
    go_ret
    exact ⟨by rw [H0.out]; rfl, HC.out⟩
  · have q0 : (l.length == 0) = false := by simp [h0]
    have q0' : ((l.length : Int) == 0) = false := by rw [beq_eq_false_iff_ne]; omega
    have H0 := Lib.hid (show decide (l.length = 0) = false from decide_eq_false h0)
    clear h0
    go_enter Tryd.func49, Tryd.ntmps49
    go_wp2_with fail
    go_ret
    exact ⟨by rw [H0.out]; rfl, HC.out⟩
set_option maxRecDepth 100000 in
set_option maxHeartbeats 2000000 in
theorem list_32 (n B : Nat) (w : World) (s : ByteArray) (num : Nat) (p : Int) (A : Option Addr) (c : Nat) (l : List Nd) (hB : B ≤ w.heap.size) (hl : NdsR n B w (.slice A l.length c) l) (hll : l.length ≤ 1048576) :
    Calls Tryd.prog 49 #[.agg #[.int .i64 32, .string s, .int .u64 num, .int .i64 p, .slice A l.length c]] w fun e w' => e = .returned (.bool (decide (l.length = 0))) ∧ Chg (fun _ _ => False) w w' := by
  have hc1 := chg_alloc w (.cells #[.int .i64 32, .string s, .int .u64 num, .int .i64 p, .slice A l.length c] 25)
  have HC := Lib.hid hc1
  clear hc1 hB hl
  by_cases h0 : l.length = 0
  · have q0 : (l.length == 0) = true := by simp [h0]
    have q0' : ((l.length : Int) == 0) = true := by simp [h0]
    have H0 := Lib.hid (show decide (l.length = 0) = true from decide_eq_true h0)
    clear h0
    go_enter Tryd.func49, Tryd.ntmps49
    go_wp2_with fail
    go_ret
    exact ⟨by rw [H0.out]; rfl, HC.out⟩
  · have q0 : (l.length == 0) = false := by simp [h0]
    have q0' : ((l.length : Int) == 0) = false := by rw [beq_eq_false_iff_ne]; omega
    have H0 := Lib.hid (show decide (l.length = 0) = false from decide_eq_false h0)
    clear h0
    go_enter Tryd.func49, Tryd.ntmps49
    go_wp2_with fail
    go_ret
    exact ⟨by rw [H0.out]; rfl, HC.out⟩
set_option maxRecDepth 100000 in
set_option maxHeartbeats 2000000 in
theorem list_33 (n B : Nat) (w : World) (s : ByteArray) (num : Nat) (p : Int) (A : Option Addr) (c : Nat) (l : List Nd) (hB : B ≤ w.heap.size) (hl : NdsR n B w (.slice A l.length c) l) (hll : l.length ≤ 1048576) :
    Calls Tryd.prog 49 #[.agg #[.int .i64 33, .string s, .int .u64 num, .int .i64 p, .slice A l.length c]] w fun e w' => e = .returned (.bool (l.all fun x => isExprK x.kind)) ∧ Chg (fun _ _ => False) w w' := by
  have hb1 := Blk.new w 25 #[.int .i64 33, .string s, .int .u64 num, .int .i64 p, .slice A l.length c]
  have hc1 := chg_alloc w (.cells #[.int .i64 33, .string s, .int .u64 num, .int .i64 p, .slice A l.length c] 25)
  have hl1 := NdsR.keep0 hc1 hl
  have hB1 := Nat.le_trans hB hc1.size
  clear hB hl
  have hcall := all_of n B (w.alloc (.cells #[.int .i64 33, .string s, .int .u64 num, .int .i64 p, .slice A l.length c] 25)) l A c 33 #[] isExprK (fun _ => True) hB1 hl1 hll isExpr_fn trivial
  have HC := Lib.hid hc1
  clear hb1 hc1 hl1 hB1
  go_enter Tryd.func49, Tryd.ntmps49
  go_wp2_with fail
  refine hcall.mono fun e w1 h => ?_
  obtain ⟨rfl, hc2⟩ := h
  clear hcall
  go_wp2_with fail
  go_ret
  exact ⟨rfl, HC.out.trans hc2⟩
set_option maxRecDepth 100000 in
set_option maxHeartbeats 2000000 in
theorem list_35 (n B : Nat) (w : World) (s : ByteArray) (num : Nat) (p : Int) (A : Option Addr) (c : Nat) (l : List Nd) (hB : B ≤ w.heap.size) (hl : NdsR n B w (.slice A l.length c) l) (hll : l.length ≤ 1048576) :
    Calls Tryd.prog 49 #[.agg #[.int .i64 35, .string s, .int .u64 num, .int .i64 p, .slice A l.length c]] w fun e w' => e = .returned (.bool (kindsF l [-1])) ∧ Chg (fun _ _ => False) w w' := by
  have hb1 := Blk.new w 25 #[.int .i64 35, .string s, .int .u64 num, .int .i64 p, .slice A l.length c]
  have hc1 := chg_alloc w (.cells #[.int .i64 35, .string s, .int .u64 num, .int .i64 p, .slice A l.length c] 25)
  have hl1 := NdsR.keep0 hc1 hl
  have hB1 := Nat.le_trans hB hc1.size
  clear hB hl
  have hbs := Blk.new (w.alloc (.cells #[.int .i64 35, .string s, .int .u64 num, .int .i64 p, .slice A l.length c] 25)) 3 #[.int .i64 (-1)]
  have hcs := chg_alloc (w.alloc (.cells #[.int .i64 35, .string s, .int .u64 num, .int .i64 p, .slice A l.length c] 25)) (.cells #[.int .i64 (-1)] 3)
  simp only [World.size_alloc] at hbs
  have hcall := kinds_any n B ((w.alloc (.cells #[.int .i64 35, .string s, .int .u64 num, .int .i64 p, .slice A l.length c] 25)).alloc (.cells #[.int .i64 (-1)] 3)) l [-1] A c (w.heap.size + 1) 1 (NdsR.keep0 hcs hl1) (fun i k hk => by
    match i, hk with
    | 0, hk => simp at hk; subst hk; simp
    | i + 1, hk => simp at hk) hll (by decide)
  have HC := Lib.hid (hc1.trans hcs)
  clear hb1 hc1 hl1 hB1 hbs hcs
  go_enter Tryd.func49, Tryd.ntmps49
  go_wp2_with fail
  refine hcall.mono fun e w1 h => ?_
  obtain ⟨rfl, hc2⟩ := h
  clear hcall
  go_wp2_with fail
  go_ret
  exact ⟨rfl, HC.out.trans hc2⟩
set_option maxRecDepth 100000 in
set_option maxHeartbeats 2000000 in
theorem list_37 (n B : Nat) (w : World) (s : ByteArray) (num : Nat) (p : Int) (A : Option Addr) (c : Nat) (l : List Nd) (hB : B ≤ w.heap.size) (hl : NdsR n B w (.slice A l.length c) l) (hll : l.length ≤ 1048576) :
    Calls Tryd.prog 49 #[.agg #[.int .i64 37, .string s, .int .u64 num, .int .i64 p, .slice A l.length c]] w fun e w' => e = .returned (.bool (decide (l.length ≤ 16) && l.all fun x => isExprK x.kind)) ∧ Chg (fun _ _ => False) w w' := by
  by_cases hf : l.length ≤ 16
  · have qf : decide (l.length ≤ 16) = true := decide_eq_true hf
    have qf' : decide ((l.length : Int) ≤ 16) = true := decide_eq_true (by omega)
    have HF := Lib.hid qf
    clear hf
    have hb1 := Blk.new w 25 #[.int .i64 37, .string s, .int .u64 num, .int .i64 p, .slice A l.length c]
    have hc1 := chg_alloc w (.cells #[.int .i64 37, .string s, .int .u64 num, .int .i64 p, .slice A l.length c] 25)
    have hl1 := NdsR.keep0 hc1 hl
    have hB1 := Nat.le_trans hB hc1.size
    clear hB hl
    have hcall := all_of n B (w.alloc (.cells #[.int .i64 37, .string s, .int .u64 num, .int .i64 p, .slice A l.length c] 25)) l A c 33 #[] isExprK (fun _ => True) hB1 hl1 hll isExpr_fn trivial
    have HC := Lib.hid hc1
    clear hb1 hc1 hl1 hB1
    go_enter Tryd.func49, Tryd.ntmps49
    go_wp2_with fail
    refine hcall.mono fun e w1 h => ?_
    obtain ⟨rfl, hc2⟩ := h
    clear hcall
    go_wp2_with fail
    go_ret
    exact ⟨by rw [HF.out]; rfl, HC.out.trans hc2⟩
  · have qf : decide (l.length ≤ 16) = false := decide_eq_false hf
    have qf' : decide ((l.length : Int) ≤ 16) = false := decide_eq_false (by omega)
    have HF := Lib.hid qf
    clear hf
    have hc1 := chg_alloc w (.cells #[.int .i64 37, .string s, .int .u64 num, .int .i64 p, .slice A l.length c] 25)
    have HC := Lib.hid hc1
    clear hc1 hB hl
    go_enter Tryd.func49, Tryd.ntmps49
    go_wp2_with fail
    go_ret
    exact ⟨by rw [HF.out]; rfl, HC.out⟩
set_option maxRecDepth 100000 in
set_option maxHeartbeats 2000000 in
theorem list_38 (n B : Nat) (w : World) (s : ByteArray) (num : Nat) (p : Int) (A : Option Addr) (c : Nat) (l : List Nd) (hB : B ≤ w.heap.size) (hl : NdsR n B w (.slice A l.length c) l) (hll : l.length ≤ 1048576) :
    Calls Tryd.prog 49 #[.agg #[.int .i64 38, .string s, .int .u64 num, .int .i64 p, .slice A l.length c]] w fun e w' => e = .returned (.bool (kindsF l [6, 7, 20])) ∧ Chg (fun _ _ => False) w w' := by
  have hb1 := Blk.new w 25 #[.int .i64 38, .string s, .int .u64 num, .int .i64 p, .slice A l.length c]
  have hc1 := chg_alloc w (.cells #[.int .i64 38, .string s, .int .u64 num, .int .i64 p, .slice A l.length c] 25)
  have hl1 := NdsR.keep0 hc1 hl
  have hB1 := Nat.le_trans hB hc1.size
  clear hB hl
  have hbs := Blk.new (w.alloc (.cells #[.int .i64 38, .string s, .int .u64 num, .int .i64 p, .slice A l.length c] 25)) 3 #[.int .i64 6, .int .i64 7, .int .i64 20]
  have hcs := chg_alloc (w.alloc (.cells #[.int .i64 38, .string s, .int .u64 num, .int .i64 p, .slice A l.length c] 25)) (.cells #[.int .i64 6, .int .i64 7, .int .i64 20] 3)
  simp only [World.size_alloc] at hbs
  have hcall := kinds_any n B ((w.alloc (.cells #[.int .i64 38, .string s, .int .u64 num, .int .i64 p, .slice A l.length c] 25)).alloc (.cells #[.int .i64 6, .int .i64 7, .int .i64 20] 3)) l [6, 7, 20] A c (w.heap.size + 1) 3 (NdsR.keep0 hcs hl1) (fun i k hk => by
    match i, hk with
    | 0, hk => simp at hk; subst hk; simp
    | 1, hk => simp at hk; subst hk; simp
    | 2, hk => simp at hk; subst hk; simp
    | i + 3, hk => simp at hk) hll (by decide)
  have HC := Lib.hid (hc1.trans hcs)
  clear hb1 hc1 hl1 hB1 hbs hcs
  go_enter Tryd.func49, Tryd.ntmps49
  go_wp2_with fail
  refine hcall.mono fun e w1 h => ?_
  obtain ⟨rfl, hc2⟩ := h
  clear hcall
  go_wp2_with fail
  go_ret
  exact ⟨rfl, HC.out.trans hc2⟩
set_option maxRecDepth 100000 in
set_option maxHeartbeats 2000000 in
theorem list_39 (n B : Nat) (w : World) (s : ByteArray) (num : Nat) (p : Int) (A : Option Addr) (c : Nat) (l : List Nd) (hB : B ≤ w.heap.size) (hl : NdsR n B w (.slice A l.length c) l) (hll : l.length ≤ 1048576) :
    Calls Tryd.prog 49 #[.agg #[.int .i64 39, .string s, .int .u64 num, .int .i64 p, .slice A l.length c]] w fun e w' => e = .returned (.bool (kindsF l [-1])) ∧ Chg (fun _ _ => False) w w' := by
  have hb1 := Blk.new w 25 #[.int .i64 39, .string s, .int .u64 num, .int .i64 p, .slice A l.length c]
  have hc1 := chg_alloc w (.cells #[.int .i64 39, .string s, .int .u64 num, .int .i64 p, .slice A l.length c] 25)
  have hl1 := NdsR.keep0 hc1 hl
  have hB1 := Nat.le_trans hB hc1.size
  clear hB hl
  have hbs := Blk.new (w.alloc (.cells #[.int .i64 39, .string s, .int .u64 num, .int .i64 p, .slice A l.length c] 25)) 3 #[.int .i64 (-1)]
  have hcs := chg_alloc (w.alloc (.cells #[.int .i64 39, .string s, .int .u64 num, .int .i64 p, .slice A l.length c] 25)) (.cells #[.int .i64 (-1)] 3)
  simp only [World.size_alloc] at hbs
  have hcall := kinds_any n B ((w.alloc (.cells #[.int .i64 39, .string s, .int .u64 num, .int .i64 p, .slice A l.length c] 25)).alloc (.cells #[.int .i64 (-1)] 3)) l [-1] A c (w.heap.size + 1) 1 (NdsR.keep0 hcs hl1) (fun i k hk => by
    match i, hk with
    | 0, hk => simp at hk; subst hk; simp
    | i + 1, hk => simp at hk) hll (by decide)
  have HC := Lib.hid (hc1.trans hcs)
  clear hb1 hc1 hl1 hB1 hbs hcs
  go_enter Tryd.func49, Tryd.ntmps49
  go_wp2_with fail
  refine hcall.mono fun e w1 h => ?_
  obtain ⟨rfl, hc2⟩ := h
  clear hcall
  go_wp2_with fail
  go_ret
  exact ⟨rfl, HC.out.trans hc2⟩
set_option maxRecDepth 100000 in
set_option maxHeartbeats 2000000 in
theorem list_40 (n B : Nat) (w : World) (s : ByteArray) (num : Nat) (p : Int) (A : Option Addr) (c : Nat) (l : List Nd) (hB : B ≤ w.heap.size) (hl : NdsR n B w (.slice A l.length c) l) (hll : l.length ≤ 1048576) :
    Calls Tryd.prog 49 #[.agg #[.int .i64 40, .string s, .int .u64 num, .int .i64 p, .slice A l.length c]] w fun e w' => e = .returned (.bool (kindsF l [-2, -1])) ∧ Chg (fun _ _ => False) w w' := by
  have hb1 := Blk.new w 25 #[.int .i64 40, .string s, .int .u64 num, .int .i64 p, .slice A l.length c]
  have hc1 := chg_alloc w (.cells #[.int .i64 40, .string s, .int .u64 num, .int .i64 p, .slice A l.length c] 25)
  have hl1 := NdsR.keep0 hc1 hl
  have hB1 := Nat.le_trans hB hc1.size
  clear hB hl
  have hbs := Blk.new (w.alloc (.cells #[.int .i64 40, .string s, .int .u64 num, .int .i64 p, .slice A l.length c] 25)) 3 #[.int .i64 (-2), .int .i64 (-1)]
  have hcs := chg_alloc (w.alloc (.cells #[.int .i64 40, .string s, .int .u64 num, .int .i64 p, .slice A l.length c] 25)) (.cells #[.int .i64 (-2), .int .i64 (-1)] 3)
  simp only [World.size_alloc] at hbs
  have hcall := kinds_any n B ((w.alloc (.cells #[.int .i64 40, .string s, .int .u64 num, .int .i64 p, .slice A l.length c] 25)).alloc (.cells #[.int .i64 (-2), .int .i64 (-1)] 3)) l [-2, -1] A c (w.heap.size + 1) 2 (NdsR.keep0 hcs hl1) (fun i k hk => by
    match i, hk with
    | 0, hk => simp at hk; subst hk; simp
    | 1, hk => simp at hk; subst hk; simp
    | i + 2, hk => simp at hk) hll (by decide)
  have HC := Lib.hid (hc1.trans hcs)
  clear hb1 hc1 hl1 hB1 hbs hcs
  go_enter Tryd.func49, Tryd.ntmps49
  go_wp2_with fail
  refine hcall.mono fun e w1 h => ?_
  obtain ⟨rfl, hc2⟩ := h
  clear hcall
  go_wp2_with fail
  go_ret
  exact ⟨rfl, HC.out.trans hc2⟩
set_option maxRecDepth 100000 in
set_option maxHeartbeats 2000000 in
theorem list_41 (n B : Nat) (w : World) (s : ByteArray) (num : Nat) (p : Int) (A : Option Addr) (c : Nat) (l : List Nd) (hB : B ≤ w.heap.size) (hl : NdsR n B w (.slice A l.length c) l) (hll : l.length ≤ 1048576) :
    Calls Tryd.prog 49 #[.agg #[.int .i64 41, .string s, .int .u64 num, .int .i64 p, .slice A l.length c]] w fun e w' => e = .returned (.bool (kindsF l [-1, -1])) ∧ Chg (fun _ _ => False) w w' := by
  have hb1 := Blk.new w 25 #[.int .i64 41, .string s, .int .u64 num, .int .i64 p, .slice A l.length c]
  have hc1 := chg_alloc w (.cells #[.int .i64 41, .string s, .int .u64 num, .int .i64 p, .slice A l.length c] 25)
  have hl1 := NdsR.keep0 hc1 hl
  have hB1 := Nat.le_trans hB hc1.size
  clear hB hl
  have hbs := Blk.new (w.alloc (.cells #[.int .i64 41, .string s, .int .u64 num, .int .i64 p, .slice A l.length c] 25)) 3 #[.int .i64 (-1), .int .i64 (-1)]
  have hcs := chg_alloc (w.alloc (.cells #[.int .i64 41, .string s, .int .u64 num, .int .i64 p, .slice A l.length c] 25)) (.cells #[.int .i64 (-1), .int .i64 (-1)] 3)
  simp only [World.size_alloc] at hbs
  have hcall := kinds_any n B ((w.alloc (.cells #[.int .i64 41, .string s, .int .u64 num, .int .i64 p, .slice A l.length c] 25)).alloc (.cells #[.int .i64 (-1), .int .i64 (-1)] 3)) l [-1, -1] A c (w.heap.size + 1) 2 (NdsR.keep0 hcs hl1) (fun i k hk => by
    match i, hk with
    | 0, hk => simp at hk; subst hk; simp
    | 1, hk => simp at hk; subst hk; simp
    | i + 2, hk => simp at hk) hll (by decide)
  have HC := Lib.hid (hc1.trans hcs)
  clear hb1 hc1 hl1 hB1 hbs hcs
  go_enter Tryd.func49, Tryd.ntmps49
  go_wp2_with fail
  refine hcall.mono fun e w1 h => ?_
  obtain ⟨rfl, hc2⟩ := h
  clear hcall
  go_wp2_with fail
  go_ret
  exact ⟨rfl, HC.out.trans hc2⟩
set_option maxRecDepth 100000 in
set_option maxHeartbeats 2000000 in
theorem list_42 (n B : Nat) (w : World) (s : ByteArray) (num : Nat) (p : Int) (A : Option Addr) (c : Nat) (l : List Nd) (hB : B ≤ w.heap.size) (hl : NdsR n B w (.slice A l.length c) l) (hll : l.length ≤ 1048576) :
    Calls Tryd.prog 49 #[.agg #[.int .i64 42, .string s, .int .u64 num, .int .i64 p, .slice A l.length c]] w fun e w' => e = .returned (.bool (casesF l)) ∧ Chg (fun _ _ => False) w w' := by
  have hb1 := Blk.new w 25 #[.int .i64 42, .string s, .int .u64 num, .int .i64 p, .slice A l.length c]
  have hc1 := chg_alloc w (.cells #[.int .i64 42, .string s, .int .u64 num, .int .i64 p, .slice A l.length c] 25)
  have hl1 := NdsR.keep0 hc1 hl
  have hB1 := Nat.le_trans hB hc1.size
  clear hB hl
  have hcall := cases_any n B (w.alloc (.cells #[.int .i64 42, .string s, .int .u64 num, .int .i64 p, .slice A l.length c] 25)) l A c hB1 hl1 hll
  have HC := Lib.hid hc1
  clear hb1 hc1 hl1 hB1
  go_enter Tryd.func49, Tryd.ntmps49
  go_wp2_with fail
  refine hcall.mono fun e w1 h => ?_
  obtain ⟨rfl, hc2⟩ := h
  clear hcall
  go_wp2_with fail
  go_ret
  exact ⟨rfl, HC.out.trans hc2⟩
set_option maxRecDepth 100000 in
set_option maxHeartbeats 2000000 in
theorem list_43 (n B : Nat) (w : World) (s : ByteArray) (num : Nat) (p : Int) (A : Option Addr) (c : Nat) (l : List Nd) (hB : B ≤ w.heap.size) (hl : NdsR n B w (.slice A l.length c) l) (hll : l.length ≤ 1048576) :
    Calls Tryd.prog 49 #[.agg #[.int .i64 43, .string s, .int .u64 num, .int .i64 p, .slice A l.length c]] w fun e w' => e = .returned (.bool (kindsF l [-1, 20])) ∧ Chg (fun _ _ => False) w w' := by
  have hb1 := Blk.new w 25 #[.int .i64 43, .string s, .int .u64 num, .int .i64 p, .slice A l.length c]
  have hc1 := chg_alloc w (.cells #[.int .i64 43, .string s, .int .u64 num, .int .i64 p, .slice A l.length c] 25)
  have hl1 := NdsR.keep0 hc1 hl
  have hB1 := Nat.le_trans hB hc1.size
  clear hB hl
  have hbs := Blk.new (w.alloc (.cells #[.int .i64 43, .string s, .int .u64 num, .int .i64 p, .slice A l.length c] 25)) 3 #[.int .i64 (-1), .int .i64 20]
  have hcs := chg_alloc (w.alloc (.cells #[.int .i64 43, .string s, .int .u64 num, .int .i64 p, .slice A l.length c] 25)) (.cells #[.int .i64 (-1), .int .i64 20] 3)
  simp only [World.size_alloc] at hbs
  have hcall := kinds_any n B ((w.alloc (.cells #[.int .i64 43, .string s, .int .u64 num, .int .i64 p, .slice A l.length c] 25)).alloc (.cells #[.int .i64 (-1), .int .i64 20] 3)) l [-1, 20] A c (w.heap.size + 1) 2 (NdsR.keep0 hcs hl1) (fun i k hk => by
    match i, hk with
    | 0, hk => simp at hk; subst hk; simp
    | 1, hk => simp at hk; subst hk; simp
    | i + 2, hk => simp at hk) hll (by decide)
  have HC := Lib.hid (hc1.trans hcs)
  clear hb1 hc1 hl1 hB1 hbs hcs
  go_enter Tryd.func49, Tryd.ntmps49
  go_wp2_with fail
  refine hcall.mono fun e w1 h => ?_
  obtain ⟨rfl, hc2⟩ := h
  clear hcall
  go_wp2_with fail
  go_ret
  exact ⟨rfl, HC.out.trans hc2⟩
set_option maxRecDepth 100000 in
set_option maxHeartbeats 2000000 in
theorem list_44 (n B : Nat) (w : World) (s : ByteArray) (num : Nat) (p : Int) (A : Option Addr) (c : Nat) (l : List Nd) (hB : B ≤ w.heap.size) (hl : NdsR n B w (.slice A l.length c) l) (hll : l.length ≤ 1048576) :
    Calls Tryd.prog 49 #[.agg #[.int .i64 44, .string s, .int .u64 num, .int .i64 p, .slice A l.length c]] w fun e w' => e = .returned (.bool (kindsF l [-1, -1, 20])) ∧ Chg (fun _ _ => False) w w' := by
  have hb1 := Blk.new w 25 #[.int .i64 44, .string s, .int .u64 num, .int .i64 p, .slice A l.length c]
  have hc1 := chg_alloc w (.cells #[.int .i64 44, .string s, .int .u64 num, .int .i64 p, .slice A l.length c] 25)
  have hl1 := NdsR.keep0 hc1 hl
  have hB1 := Nat.le_trans hB hc1.size
  clear hB hl
  have hbs := Blk.new (w.alloc (.cells #[.int .i64 44, .string s, .int .u64 num, .int .i64 p, .slice A l.length c] 25)) 3 #[.int .i64 (-1), .int .i64 (-1), .int .i64 20]
  have hcs := chg_alloc (w.alloc (.cells #[.int .i64 44, .string s, .int .u64 num, .int .i64 p, .slice A l.length c] 25)) (.cells #[.int .i64 (-1), .int .i64 (-1), .int .i64 20] 3)
  simp only [World.size_alloc] at hbs
  have hcall := kinds_any n B ((w.alloc (.cells #[.int .i64 44, .string s, .int .u64 num, .int .i64 p, .slice A l.length c] 25)).alloc (.cells #[.int .i64 (-1), .int .i64 (-1), .int .i64 20] 3)) l [-1, -1, 20] A c (w.heap.size + 1) 3 (NdsR.keep0 hcs hl1) (fun i k hk => by
    match i, hk with
    | 0, hk => simp at hk; subst hk; simp
    | 1, hk => simp at hk; subst hk; simp
    | 2, hk => simp at hk; subst hk; simp
    | i + 3, hk => simp at hk) hll (by decide)
  have HC := Lib.hid (hc1.trans hcs)
  clear hb1 hc1 hl1 hB1 hbs hcs
  go_enter Tryd.func49, Tryd.ntmps49
  go_wp2_with fail
  refine hcall.mono fun e w1 h => ?_
  obtain ⟨rfl, hc2⟩ := h
  clear hcall
  go_wp2_with fail
  go_ret
  exact ⟨rfl, HC.out.trans hc2⟩
set_option maxRecDepth 100000 in
set_option maxHeartbeats 2000000 in
theorem list_45 (n B : Nat) (w : World) (s : ByteArray) (num : Nat) (p : Int) (A : Option Addr) (c : Nat) (l : List Nd) (hB : B ≤ w.heap.size) (hl : NdsR n B w (.slice A l.length c) l) (hll : l.length ≤ 1048576) :
    Calls Tryd.prog 49 #[.agg #[.int .i64 45, .string s, .int .u64 num, .int .i64 p, .slice A l.length c]] w fun e w' => e = .returned (.bool (kindsF l [20])) ∧ Chg (fun _ _ => False) w w' := by
  have hb1 := Blk.new w 25 #[.int .i64 45, .string s, .int .u64 num, .int .i64 p, .slice A l.length c]
  have hc1 := chg_alloc w (.cells #[.int .i64 45, .string s, .int .u64 num, .int .i64 p, .slice A l.length c] 25)
  have hl1 := NdsR.keep0 hc1 hl
  have hB1 := Nat.le_trans hB hc1.size
  clear hB hl
  have hbs := Blk.new (w.alloc (.cells #[.int .i64 45, .string s, .int .u64 num, .int .i64 p, .slice A l.length c] 25)) 3 #[.int .i64 20]
  have hcs := chg_alloc (w.alloc (.cells #[.int .i64 45, .string s, .int .u64 num, .int .i64 p, .slice A l.length c] 25)) (.cells #[.int .i64 20] 3)
  simp only [World.size_alloc] at hbs
  have hcall := kinds_any n B ((w.alloc (.cells #[.int .i64 45, .string s, .int .u64 num, .int .i64 p, .slice A l.length c] 25)).alloc (.cells #[.int .i64 20] 3)) l [20] A c (w.heap.size + 1) 1 (NdsR.keep0 hcs hl1) (fun i k hk => by
    match i, hk with
    | 0, hk => simp at hk; subst hk; simp
    | i + 1, hk => simp at hk) hll (by decide)
  have HC := Lib.hid (hc1.trans hcs)
  clear hb1 hc1 hl1 hB1 hbs hcs
  go_enter Tryd.func49, Tryd.ntmps49
  go_wp2_with fail
  refine hcall.mono fun e w1 h => ?_
  obtain ⟨rfl, hc2⟩ := h
  clear hcall
  go_wp2_with fail
  go_ret
  exact ⟨rfl, HC.out.trans hc2⟩
end Go.Proofs.YtgaodjoddfjfmaaDoor
