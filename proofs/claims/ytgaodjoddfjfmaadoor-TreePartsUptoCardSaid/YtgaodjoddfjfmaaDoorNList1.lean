/-
  tree.list, kind by kind (1).
-/
import Derived.Test.YtgaodjoddfjfmaaDoorNKinds
namespace Go.Proofs.YtgaodjoddfjfmaaDoor
open Go.RowKit
set_option linter.unusedVariables false
set_option linter.unusedSimpArgs false

set_option maxRecDepth 100000 in
set_option maxHeartbeats 2000000 in
theorem list_1 (n B : Nat) (w : World) (s : ByteArray) (num : Nat) (p : Int) (A : Option Addr) (c : Nat) (l : List Nd) (hB : B ≤ w.heap.size) (hl : NdsR n B w (.slice A l.length c) l) (hll : l.length ≤ 1048576) :
    Calls Tryd.prog 49 #[.agg #[.int .i64 1, .string s, .int .u64 num, .int .i64 p, .slice A l.length c]] w fun e w' => e = .returned (.bool (l.all fun x => isTopK x.kind)) ∧ Chg (fun _ _ => False) w w' := by
  have hb1 := Blk.new w 25 #[.int .i64 1, .string s, .int .u64 num, .int .i64 p, .slice A l.length c]
  have hc1 := chg_alloc w (.cells #[.int .i64 1, .string s, .int .u64 num, .int .i64 p, .slice A l.length c] 25)
  have hl1 := NdsR.keep0 hc1 hl
  have hB1 := Nat.le_trans hB hc1.size
  clear hB hl
  have hcall := all_of n B (w.alloc (.cells #[.int .i64 1, .string s, .int .u64 num, .int .i64 p, .slice A l.length c] 25)) l A c 58 #[] isTopK (fun _ => True) hB1 hl1 hll isTop_fn trivial
  have HC := Lib.hid hc1
  clear hb1 hc1 hl1 hB1
  go_enter Tryd.func49, Tryd.ntmps49
  go_wp2_with fail
  refine hcall.mono fun e w1 h => ?_
  obtain ⟨rfl, hc2⟩ := h
  clear hcall
  go_wp2_with fail
  go_ret
  exact ⟨rfl, HC.out.trans hc2⟩
set_option maxRecDepth 100000 in
set_option maxHeartbeats 2000000 in
theorem list_2 (n B : Nat) (w : World) (s : ByteArray) (num : Nat) (p : Int) (A : Option Addr) (c : Nat) (l : List Nd) (hB : B ≤ w.heap.size) (hl : NdsR n B w (.slice A l.length c) l) (hll : l.length ≤ 1048576) :
    Calls Tryd.prog 49 #[.agg #[.int .i64 2, .string s, .int .u64 num, .int .i64 p, .slice A l.length c]] w fun e w' => e = .returned (.bool (decide (l.length ≤ 16) && l.all fun x => x.kind == 5)) ∧ Chg (fun _ _ => False) w w' := by
  by_cases hf : l.length ≤ 16
  · have qf : decide (l.length ≤ 16) = true := decide_eq_true hf
    have qf' : decide ((l.length : Int) ≤ 16) = true := decide_eq_true (by omega)
    have HF := Lib.hid qf
    clear hf
    have hb1 := Blk.new w 25 #[.int .i64 2, .string s, .int .u64 num, .int .i64 p, .slice A l.length c]
    have hc1 := chg_alloc w (.cells #[.int .i64 2, .string s, .int .u64 num, .int .i64 p, .slice A l.length c] 25)
    have hl1 := NdsR.keep0 hc1 hl
    have hB1 := Nat.le_trans hB hc1.size
    clear hB hl
    have ho := only_any (w.alloc (.cells #[.int .i64 2, .string s, .int .u64 num, .int .i64 p, .slice A l.length c] 25)) 5
    have HC := Lib.hid (And.intro hc1 (And.intro hl1 hB1))
    clear hb1 hc1 hl1 hB1
    go_enter Tryd.func49, Tryd.ntmps49
    go_wp2_with fail
    refine ho.mono fun e w1 h => ?_
    obtain ⟨g, rfl, hg, hc2⟩ := h
    clear ho
    have hcall := all_of n B w1 l A c 71 #[.pointer (some ⟨g, 0, none⟩)] (fun k => k == 5) _ (Nat.le_trans HC.out.2.2 hc2.size) (NdsR.keep0 hc2 HC.out.2.1) hll (only_fn 5 g) hg
    have HC2 := Lib.hid (HC.out.1.trans hc2)
    clear hc2 hg
    go_wp2_with fail
    refine hcall.mono fun e w2 h => ?_
    obtain ⟨rfl, hc3⟩ := h
    clear hcall
    go_wp2_with fail
    go_ret
    exact ⟨by rw [HF.out]; rfl, HC2.out.trans hc3⟩
  · have qf : decide (l.length ≤ 16) = false := decide_eq_false hf
    have qf' : decide ((l.length : Int) ≤ 16) = false := decide_eq_false (by omega)
    have HF := Lib.hid qf
    clear hf
    have hc1 := chg_alloc w (.cells #[.int .i64 2, .string s, .int .u64 num, .int .i64 p, .slice A l.length c] 25)
    have HC := Lib.hid hc1
    clear hc1 hB hl
    go_enter Tryd.func49, Tryd.ntmps49
    go_wp2_with fail
    go_ret
    exact ⟨by rw [HF.out]; rfl, HC.out⟩
set_option maxRecDepth 100000 in
set_option maxHeartbeats 2000000 in
theorem list_3 (n B : Nat) (w : World) (s : ByteArray) (num : Nat) (p : Int) (A : Option Addr) (c : Nat) (l : List Nd) (hB : B ≤ w.heap.size) (hl : NdsR n B w (.slice A l.length c) l) (hll : l.length ≤ 1048576) :
    Calls Tryd.prog 49 #[.agg #[.int .i64 3, .string s, .int .u64 num, .int .i64 p, .slice A l.length c]] w fun e w' => e = .returned (.bool (kindsF l [4, 6, 7, 20])) ∧ Chg (fun _ _ => False) w w' := by
  have hb1 := Blk.new w 25 #[.int .i64 3, .string s, .int .u64 num, .int .i64 p, .slice A l.length c]
  have hc1 := chg_alloc w (.cells #[.int .i64 3, .string s, .int .u64 num, .int .i64 p, .slice A l.length c] 25)
  have hl1 := NdsR.keep0 hc1 hl
  have hB1 := Nat.le_trans hB hc1.size
  clear hB hl
  have hbs := Blk.new (w.alloc (.cells #[.int .i64 3, .string s, .int .u64 num, .int .i64 p, .slice A l.length c] 25)) 3 #[.int .i64 4, .int .i64 6, .int .i64 7, .int .i64 20]
  have hcs := chg_alloc (w.alloc (.cells #[.int .i64 3, .string s, .int .u64 num, .int .i64 p, .slice A l.length c] 25)) (.cells #[.int .i64 4, .int .i64 6, .int .i64 7, .int .i64 20] 3)
  simp only [World.size_alloc] at hbs
  have hcall := kinds_any n B ((w.alloc (.cells #[.int .i64 3, .string s, .int .u64 num, .int .i64 p, .slice A l.length c] 25)).alloc (.cells #[.int .i64 4, .int .i64 6, .int .i64 7, .int .i64 20] 3)) l [4, 6, 7, 20] A c (w.heap.size + 1) 4 (NdsR.keep0 hcs hl1) (fun i k hk => by
    match i, hk with
    | 0, hk => simp at hk; subst hk; simp
    | 1, hk => simp at hk; subst hk; simp
    | 2, hk => simp at hk; subst hk; simp
    | 3, hk => simp at hk; subst hk; simp
    | i + 4, hk => simp at hk) hll (by decide)
  have HC := Lib.hid (hc1.trans hcs)
  clear hb1 hc1 hl1 hB1 hbs hcs
  go_enter Tryd.func49, Tryd.ntmps49
  go_wp2_with fail
  refine hcall.mono fun e w1 h => ?_
  obtain ⟨rfl, hc2⟩ := h
  clear hcall
  go_wp2_with fail
  go_ret
  exact ⟨rfl, HC.out.trans hc2⟩
set_option maxRecDepth 100000 in
set_option maxHeartbeats 2000000 in
theorem list_4 (n B : Nat) (w : World) (s : ByteArray) (num : Nat) (p : Int) (A : Option Addr) (c : Nat) (l : List Nd) (hB : B ≤ w.heap.size) (hl : NdsR n B w (.slice A l.length c) l) (hll : l.length ≤ 1048576) :
    Calls Tryd.prog 49 #[.agg #[.int .i64 4, .string s, .int .u64 num, .int .i64 p, .slice A l.length c]] w fun e w' => e = .returned (.bool (decide (l.length ≤ 16) && l.all fun x => x.kind == 8)) ∧ Chg (fun _ _ => False) w w' := by
  by_cases hf : l.length ≤ 16
  · have qf : decide (l.length ≤ 16) = true := decide_eq_true hf
    have qf' : decide ((l.length : Int) ≤ 16) = true := decide_eq_true (by omega)
    have HF := Lib.hid qf
    clear hf
    have hb1 := Blk.new w 25 #[.int .i64 4, .string s, .int .u64 num, .int .i64 p, .slice A l.length c]
    have hc1 := chg_alloc w (.cells #[.int .i64 4, .string s, .int .u64 num, .int .i64 p, .slice A l.length c] 25)
    have hl1 := NdsR.keep0 hc1 hl
    have hB1 := Nat.le_trans hB hc1.size
    clear hB hl
    have ho := only_any (w.alloc (.cells #[.int .i64 4, .string s, .int .u64 num, .int .i64 p, .slice A l.length c] 25)) 8
    have HC := Lib.hid (And.intro hc1 (And.intro hl1 hB1))
    clear hb1 hc1 hl1 hB1
    go_enter Tryd.func49, Tryd.ntmps49
    go_wp2_with fail
    refine ho.mono fun e w1 h => ?_
    obtain ⟨g, rfl, hg, hc2⟩ := h
    clear ho
    have hcall := all_of n B w1 l A c 71 #[.pointer (some ⟨g, 0, none⟩)] (fun k => k == 8) _ (Nat.le_trans HC.out.2.2 hc2.size) (NdsR.keep0 hc2 HC.out.2.1) hll (only_fn 8 g) hg
    have HC2 := Lib.hid (HC.out.1.trans hc2)
    clear hc2 hg
    go_wp2_with fail
    refine hcall.mono fun e w2 h => ?_
    obtain ⟨rfl, hc3⟩ := h
    clear hcall
    go_wp2_with fail
    go_ret
    exact ⟨by rw [HF.out]; rfl, HC2.out.trans hc3⟩
  · have qf : decide (l.length ≤ 16) = false := decide_eq_false hf
    have qf' : decide ((l.length : Int) ≤ 16) = false := decide_eq_false (by omega)
    have HF := Lib.hid qf
    clear hf
    have hc1 := chg_alloc w (.cells #[.int .i64 4, .string s, .int .u64 num, .int .i64 p, .slice A l.length c] 25)
    have HC := Lib.hid hc1
    clear hc1 hB hl
    go_enter Tryd.func49, Tryd.ntmps49
    go_wp2_with fail
    go_ret
    exact ⟨by rw [HF.out]; rfl, HC.out⟩
set_option maxRecDepth 100000 in
set_option maxHeartbeats 2000000 in
theorem list_5 (n B : Nat) (w : World) (s : ByteArray) (num : Nat) (p : Int) (A : Option Addr) (c : Nat) (l : List Nd) (hB : B ≤ w.heap.size) (hl : NdsR n B w (.slice A l.length c) l) (hll : l.length ≤ 1048576) :
    Calls Tryd.prog 49 #[.agg #[.int .i64 5, .string s, .int .u64 num, .int .i64 p, .slice A l.length c]] w fun e w' => e = .returned (.bool (kindsF l [-2])) ∧ Chg (fun _ _ => False) w w' := by
  have hb1 := Blk.new w 25 #[.int .i64 5, .string s, .int .u64 num, .int .i64 p, .slice A l.length c]
  have hc1 := chg_alloc w (.cells #[.int .i64 5, .string s, .int .u64 num, .int .i64 p, .slice A l.length c] 25)
  have hl1 := NdsR.keep0 hc1 hl
  have hB1 := Nat.le_trans hB hc1.size
  clear hB hl
  have hbs := Blk.new (w.alloc (.cells #[.int .i64 5, .string s, .int .u64 num, .int .i64 p, .slice A l.length c] 25)) 3 #[.int .i64 (-2)]
  have hcs := chg_alloc (w.alloc (.cells #[.int .i64 5, .string s, .int .u64 num, .int .i64 p, .slice A l.length c] 25)) (.cells #[.int .i64 (-2)] 3)
  simp only [World.size_alloc] at hbs
  have hcall := kinds_any n B ((w.alloc (.cells #[.int .i64 5, .string s, .int .u64 num, .int .i64 p, .slice A l.length c] 25)).alloc (.cells #[.int .i64 (-2)] 3)) l [-2] A c (w.heap.size + 1) 1 (NdsR.keep0 hcs hl1) (fun i k hk => by
    match i, hk with
    | 0, hk => simp at hk; subst hk; simp
    | i + 1, hk => simp at hk) hll (by decide)
  have HC := Lib.hid (hc1.trans hcs)
  clear hb1 hc1 hl1 hB1 hbs hcs
  go_enter Tryd.func49, Tryd.ntmps49
  go_wp2_with fail
  refine hcall.mono fun e w1 h => ?_
  obtain ⟨rfl, hc2⟩ := h
  clear hcall
  go_wp2_with fail
  go_ret
  exact ⟨rfl, HC.out.trans hc2⟩
set_option maxRecDepth 100000 in
set_option maxHeartbeats 2000000 in
theorem list_6 (n B : Nat) (w : World) (s : ByteArray) (num : Nat) (p : Int) (A : Option Addr) (c : Nat) (l : List Nd) (hB : B ≤ w.heap.size) (hl : NdsR n B w (.slice A l.length c) l) (hll : l.length ≤ 1048576) :
    Calls Tryd.prog 49 #[.agg #[.int .i64 6, .string s, .int .u64 num, .int .i64 p, .slice A l.length c]] w fun e w' => e = .returned (.bool (decide (l.length ≤ 16) && l.all fun x => x.kind == 5)) ∧ Chg (fun _ _ => False) w w' := by
  by_cases hf : l.length ≤ 16
  · have qf : decide (l.length ≤ 16) = true := decide_eq_true hf
    have qf' : decide ((l.length : Int) ≤ 16) = true := decide_eq_true (by omega)
    have HF := Lib.hid qf
    clear hf
    have hb1 := Blk.new w 25 #[.int .i64 6, .string s, .int .u64 num, .int .i64 p, .slice A l.length c]
    have hc1 := chg_alloc w (.cells #[.int .i64 6, .string s, .int .u64 num, .int .i64 p, .slice A l.length c] 25)
    have hl1 := NdsR.keep0 hc1 hl
    have hB1 := Nat.le_trans hB hc1.size
    clear hB hl
    have ho := only_any (w.alloc (.cells #[.int .i64 6, .string s, .int .u64 num, .int .i64 p, .slice A l.length c] 25)) 5
    have HC := Lib.hid (And.intro hc1 (And.intro hl1 hB1))
    clear hb1 hc1 hl1 hB1
    go_enter Tryd.func49, Tryd.ntmps49
    go_wp2_with fail
    refine ho.mono fun e w1 h => ?_
    obtain ⟨g, rfl, hg, hc2⟩ := h
    clear ho
    have hcall := all_of n B w1 l A c 71 #[.pointer (some ⟨g, 0, none⟩)] (fun k => k == 5) _ (Nat.le_trans HC.out.2.2 hc2.size) (NdsR.keep0 hc2 HC.out.2.1) hll (only_fn 5 g) hg
    have HC2 := Lib.hid (HC.out.1.trans hc2)
    clear hc2 hg
    go_wp2_with fail
    refine hcall.mono fun e w2 h => ?_
    obtain ⟨rfl, hc3⟩ := h
    clear hcall
    go_wp2_with fail
    go_ret
    exact ⟨by rw [HF.out]; rfl, HC2.out.trans hc3⟩
  · have qf : decide (l.length ≤ 16) = false := decide_eq_false hf
    have qf' : decide ((l.length : Int) ≤ 16) = false := decide_eq_false (by omega)
    have HF := Lib.hid qf
    clear hf
    have hc1 := chg_alloc w (.cells #[.int .i64 6, .string s, .int .u64 num, .int .i64 p, .slice A l.length c] 25)
    have HC := Lib.hid hc1
    clear hc1 hB hl
    go_enter Tryd.func49, Tryd.ntmps49
    go_wp2_with fail
    go_ret
    exact ⟨by rw [HF.out]; rfl, HC.out⟩
set_option maxRecDepth 100000 in
set_option maxHeartbeats 2000000 in
theorem list_7 (n B : Nat) (w : World) (s : ByteArray) (num : Nat) (p : Int) (A : Option Addr) (c : Nat) (l : List Nd) (hB : B ≤ w.heap.size) (hl : NdsR n B w (.slice A l.length c) l) (hll : l.length ≤ 1048576) :
    Calls Tryd.prog 49 #[.agg #[.int .i64 7, .string s, .int .u64 num, .int .i64 p, .slice A l.length c]] w fun e w' => e = .returned (.bool (decide (l.length = 0) || kindsF l [-2])) ∧ Chg (fun _ _ => False) w w' := by
  by_cases h0 : l.length = 0
  · have q0 : (l.length == 0) = true := by simp [h0]
    have q0' : ((l.length : Int) == 0) = true := by simp [h0]
    have H0 := Lib.hid (show decide (l.length = 0) = true from decide_eq_true h0)
    have hc1 := chg_alloc w (.cells #[.int .i64 7, .string s, .int .u64 num, .int .i64 p, .slice A l.length c] 25)
    have HC := Lib.hid hc1
    clear hc1 hB hl
    clear h0
    go_enter Tryd.func49, Tryd.ntmps49
    go_wp2_with fail
    go_ret
    exact ⟨by rw [H0.out]; rfl, HC.out⟩
  · have q0 : (l.length == 0) = false := by simp [h0]
    have q0' : ((l.length : Int) == 0) = false := by rw [beq_eq_false_iff_ne]; omega
    have H0 := Lib.hid (show decide (l.length = 0) = false from decide_eq_false h0)
    clear h0
    have hb1 := Blk.new w 25 #[.int .i64 7, .string s, .int .u64 num, .int .i64 p, .slice A l.length c]
    have hc1 := chg_alloc w (.cells #[.int .i64 7, .string s, .int .u64 num, .int .i64 p, .slice A l.length c] 25)
    have hl1 := NdsR.keep0 hc1 hl
    have hB1 := Nat.le_trans hB hc1.size
    clear hB hl
    have hbs := Blk.new (w.alloc (.cells #[.int .i64 7, .string s, .int .u64 num, .int .i64 p, .slice A l.length c] 25)) 3 #[.int .i64 (-2)]
    have hcs := chg_alloc (w.alloc (.cells #[.int .i64 7, .string s, .int .u64 num, .int .i64 p, .slice A l.length c] 25)) (.cells #[.int .i64 (-2)] 3)
    simp only [World.size_alloc] at hbs
    have hcall := kinds_any n B ((w.alloc (.cells #[.int .i64 7, .string s, .int .u64 num, .int .i64 p, .slice A l.length c] 25)).alloc (.cells #[.int .i64 (-2)] 3)) l [-2] A c (w.heap.size + 1) 1 (NdsR.keep0 hcs hl1) (fun i k hk => by
      match i, hk with
      | 0, hk => simp at hk; subst hk; simp
      | i + 1, hk => simp at hk) hll (by decide)
    have HC := Lib.hid (hc1.trans hcs)
    clear hb1 hc1 hl1 hB1 hbs hcs
    go_enter Tryd.func49, Tryd.ntmps49
    go_wp2_with fail
    refine hcall.mono fun e w1 h => ?_
    obtain ⟨rfl, hc2⟩ := h
    clear hcall
    go_wp2_with fail
    go_ret
    exact ⟨by rw [H0.out]; rfl, HC.out.trans hc2⟩
set_option maxRecDepth 100000 in
set_option maxHeartbeats 2000000 in
theorem list_8 (n B : Nat) (w : World) (s : ByteArray) (num : Nat) (p : Int) (A : Option Addr) (c : Nat) (l : List Nd) (hB : B ≤ w.heap.size) (hl : NdsR n B w (.slice A l.length c) l) (hll : l.length ≤ 1048576) :
    Calls Tryd.prog 49 #[.agg #[.int .i64 8, .string s, .int .u64 num, .int .i64 p, .slice A l.length c]] w fun e w' => e = .returned (.bool (decide (l.length = 0))) ∧ Chg (fun _ _ => False) w w' := by
  have hc1 := chg_alloc w (.cells #[.int .i64 8, .string s, .int .u64 num, .int .i64 p, .slice A l.length c] 25)
  have HC := Lib.hid hc1
  clear hc1 hB hl
  by_cases h0 : l.length = 0
  · have q0 : (l.length == 0) = true := by simp [h0]
    have q0' : ((l.length : Int) == 0) = true := by simp [h0]
    have H0 := Lib.hid (show decide (l.length = 0) = true from decide_eq_true h0)
    clear h0
    go_enter Tryd.func49, Tryd.ntmps49
    go_wp2_with fail
    go_ret
    exact ⟨by rw [H0.out]; rfl, HC.out⟩
  · have q0 : (l.length == 0) = false := by simp [h0]
    have q0' : ((l.length : Int) == 0) = false := by rw [beq_eq_false_iff_ne]; omega
    have H0 := Lib.hid (show decide (l.length = 0) = false from decide_eq_false h0)
    clear h0
    go_enter Tryd.func49, Tryd.ntmps49
    go_wp2_with fail
    go_ret
    exact ⟨by rw [H0.out]; rfl, HC.out⟩
set_option maxRecDepth 100000 in
set_option maxHeartbeats 2000000 in
theorem list_10 (n B : Nat) (w : World) (s : ByteArray) (num : Nat) (p : Int) (A : Option Addr) (c : Nat) (l : List Nd) (hB : B ≤ w.heap.size) (hl : NdsR n B w (.slice A l.length c) l) (hll : l.length ≤ 1048576) :
    Calls Tryd.prog 49 #[.agg #[.int .i64 10, .string s, .int .u64 num, .int .i64 p, .slice A l.length c]] w fun e w' => e = .returned (.bool (decide (l.length = 0))) ∧ Chg (fun _ _ => False) w w' := by
  have hc1 := chg_alloc w (.cells #[.int .i64 10, .string s, .int .u64 num, .int .i64 p, .slice A l.length c] 25)
  have HC := Lib.hid hc1
  clear hc1 hB hl
  by_cases h0 : l.length = 0
  · have q0 : (l.length == 0) = true := by simp [h0]
    have q0' : ((l.length : Int) == 0) = true := by simp [h0]
    have H0 := Lib.hid (show decide (l.length = 0) = true from decide_eq_true h0)
    clear h0
    go_enter Tryd.func49, Tryd.ntmps49
    go_wp2_with fail
    go_ret
    exact ⟨by rw [H0.out]; rfl, HC.out⟩
  · have q0 : (l.length == 0) = false := by simp [h0]
    have q0' : ((l.length : Int) == 0) = false := by rw [beq_eq_false_iff_ne]; omega
    have H0 := Lib.hid (show decide (l.length = 0) = false from decide_eq_false h0)
    clear h0
    go_enter Tryd.func49, Tryd.ntmps49
    go_wp2_with fail
    go_ret
    exact ⟨by rw [H0.out]; rfl, HC.out⟩
end Go.Proofs.YtgaodjoddfjfmaaDoor
