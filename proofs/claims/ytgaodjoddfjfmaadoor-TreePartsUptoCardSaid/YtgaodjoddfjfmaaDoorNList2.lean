/-
  tree.list, kind by kind (2).
-/
import Derived.Test.YtgaodjoddfjfmaaDoorNKinds
namespace Go.Proofs.YtgaodjoddfjfmaaDoor
open Go.RowKit
set_option linter.unusedVariables false
set_option linter.unusedSimpArgs false

set_option maxRecDepth 100000 in
set_option maxHeartbeats 2000000 in
theorem list_11 (n B : Nat) (w : World) (s : ByteArray) (num : Nat) (p : Int) (A : Option Addr) (c : Nat) (l : List Nd) (hB : B ≤ w.heap.size) (hl : NdsR n B w (.slice A l.length c) l) (hll : l.length ≤ 1048576) :
    Calls Tryd.prog 49 #[.agg #[.int .i64 11, .string s, .int .u64 num, .int .i64 p, .slice A l.length c]] w fun e w' => e = .returned (.bool (kindsF l [-2])) ∧ Chg (fun _ _ => False) w w' := by
  have hb1 := Blk.new w 25 #[.int .i64 11, .string s, .int .u64 num, .int .i64 p, .slice A l.length c]
  have hc1 := chg_alloc w (.cells #[.int .i64 11, .string s, .int .u64 num, .int .i64 p, .slice A l.length c] 25)
  have hl1 := NdsR.keep0 hc1 hl
  have hB1 := Nat.le_trans hB hc1.size
  clear hB hl
  have hbs := Blk.new (w.alloc (.cells #[.int .i64 11, .string s, .int .u64 num, .int .i64 p, .slice A l.length c] 25)) 3 #[.int .i64 (-2)]
  have hcs := chg_alloc (w.alloc (.cells #[.int .i64 11, .string s, .int .u64 num, .int .i64 p, .slice A l.length c] 25)) (.cells #[.int .i64 (-2)] 3)
  simp only [World.size_alloc] at hbs
  have hcall := kinds_any n B ((w.alloc (.cells #[.int .i64 11, .string s, .int .u64 num, .int .i64 p, .slice A l.length c] 25)).alloc (.cells #[.int .i64 (-2)] 3)) l [-2] A c (w.heap.size + 1) 1 (NdsR.keep0 hcs hl1) (fun i k hk => by
    match i, hk with
    | 0, hk => simp at hk; subst hk; simp
    | i + 1, hk => simp at hk) hll (by decide)
  have HC := Lib.hid (hc1.trans hcs)
  clear hb1 hc1 hl1 hB1 hbs hcs
  go_enter Tryd.func49, Tryd.ntmps49
  go_wp2_with fail
  refine hcall.mono fun e w1 h => ?_
  obtain ⟨rfl, hc2⟩ := h
  clear hcall
  go_wp2_with fail
  go_ret
  exact ⟨rfl, HC.out.trans hc2⟩
set_option maxRecDepth 100000 in
set_option maxHeartbeats 2000000 in
theorem list_12 (n B : Nat) (w : World) (s : ByteArray) (num : Nat) (p : Int) (A : Option Addr) (c : Nat) (l : List Nd) (hB : B ≤ w.heap.size) (hl : NdsR n B w (.slice A l.length c) l) (hll : l.length ≤ 1048576) :
    Calls Tryd.prog 49 #[.agg #[.int .i64 12, .string s, .int .u64 num, .int .i64 p, .slice A l.length c]] w fun e w' => e = .returned (.bool (kindsF l [-2])) ∧ Chg (fun _ _ => False) w w' := by
  have hb1 := Blk.new w 25 #[.int .i64 12, .string s, .int .u64 num, .int .i64 p, .slice A l.length c]
  have hc1 := chg_alloc w (.cells #[.int .i64 12, .string s, .int .u64 num, .int .i64 p, .slice A l.length c] 25)
  have hl1 := NdsR.keep0 hc1 hl
  have hB1 := Nat.le_trans hB hc1.size
  clear hB hl
  have hbs := Blk.new (w.alloc (.cells #[.int .i64 12, .string s, .int .u64 num, .int .i64 p, .slice A l.length c] 25)) 3 #[.int .i64 (-2)]
  have hcs := chg_alloc (w.alloc (.cells #[.int .i64 12, .string s, .int .u64 num, .int .i64 p, .slice A l.length c] 25)) (.cells #[.int .i64 (-2)] 3)
  simp only [World.size_alloc] at hbs
  have hcall := kinds_any n B ((w.alloc (.cells #[.int .i64 12, .string s, .int .u64 num, .int .i64 p, .slice A l.length c] 25)).alloc (.cells #[.int .i64 (-2)] 3)) l [-2] A c (w.heap.size + 1) 1 (NdsR.keep0 hcs hl1) (fun i k hk => by
    match i, hk with
    | 0, hk => simp at hk; subst hk; simp
    | i + 1, hk => simp at hk) hll (by decide)
  have HC := Lib.hid (hc1.trans hcs)
  clear hb1 hc1 hl1 hB1 hbs hcs
  go_enter Tryd.func49, Tryd.ntmps49
  go_wp2_with fail
  refine hcall.mono fun e w1 h => ?_
  obtain ⟨rfl, hc2⟩ := h
  clear hcall
  go_wp2_with fail
  go_ret
  exact ⟨rfl, HC.out.trans hc2⟩
set_option maxRecDepth 100000 in
set_option maxHeartbeats 2000000 in
theorem list_20 (n B : Nat) (w : World) (s : ByteArray) (num : Nat) (p : Int) (A : Option Addr) (c : Nat) (l : List Nd) (hB : B ≤ w.heap.size) (hl : NdsR n B w (.slice A l.length c) l) (hll : l.length ≤ 1048576) :
    Calls Tryd.prog 49 #[.agg #[.int .i64 20, .string s, .int .u64 num, .int .i64 p, .slice A l.length c]] w fun e w' => e = .returned (.bool (l.all fun x => isStmtK x.kind)) ∧ Chg (fun _ _ => False) w w' := by
  have hb1 := Blk.new w 25 #[.int .i64 20, .string s, .int .u64 num, .int .i64 p, .slice A l.length c]
  have hc1 := chg_alloc w (.cells #[.int .i64 20, .string s, .int .u64 num, .int .i64 p, .slice A l.length c] 25)
  have hl1 := NdsR.keep0 hc1 hl
  have hB1 := Nat.le_trans hB hc1.size
  clear hB hl
  have hcall := all_of n B (w.alloc (.cells #[.int .i64 20, .string s, .int .u64 num, .int .i64 p, .slice A l.length c] 25)) l A c 32 #[] isStmtK (fun _ => True) hB1 hl1 hll isStmt_fn trivial
  have HC := Lib.hid hc1
  clear hb1 hc1 hl1 hB1
  go_enter Tryd.func49, Tryd.ntmps49
  go_wp2_with fail
  refine hcall.mono fun e w1 h => ?_
  obtain ⟨rfl, hc2⟩ := h
  clear hcall
  go_wp2_with fail
  go_ret
  exact ⟨rfl, HC.out.trans hc2⟩
set_option maxRecDepth 100000 in
set_option maxHeartbeats 2000000 in
theorem list_21 (n B : Nat) (w : World) (s : ByteArray) (num : Nat) (p : Int) (A : Option Addr) (c : Nat) (l : List Nd) (hB : B ≤ w.heap.size) (hl : NdsR n B w (.slice A l.length c) l) (hll : l.length ≤ 1048576) :
    Calls Tryd.prog 49 #[.agg #[.int .i64 21, .string s, .int .u64 num, .int .i64 p, .slice A l.length c]] w fun e w' => e = .returned (.bool (kindsF l [-1])) ∧ Chg (fun _ _ => False) w w' := by
  have hb1 := Blk.new w 25 #[.int .i64 21, .string s, .int .u64 num, .int .i64 p, .slice A l.length c]
  have hc1 := chg_alloc w (.cells #[.int .i64 21, .string s, .int .u64 num, .int .i64 p, .slice A l.length c] 25)
  have hl1 := NdsR.keep0 hc1 hl
  have hB1 := Nat.le_trans hB hc1.size
  clear hB hl
  have hbs := Blk.new (w.alloc (.cells #[.int .i64 21, .string s, .int .u64 num, .int .i64 p, .slice A l.length c] 25)) 3 #[.int .i64 (-1)]
  have hcs := chg_alloc (w.alloc (.cells #[.int .i64 21, .string s, .int .u64 num, .int .i64 p, .slice A l.length c] 25)) (.cells #[.int .i64 (-1)] 3)
  simp only [World.size_alloc] at hbs
  have hcall := kinds_any n B ((w.alloc (.cells #[.int .i64 21, .string s, .int .u64 num, .int .i64 p, .slice A l.length c] 25)).alloc (.cells #[.int .i64 (-1)] 3)) l [-1] A c (w.heap.size + 1) 1 (NdsR.keep0 hcs hl1) (fun i k hk => by
    match i, hk with
    | 0, hk => simp at hk; subst hk; simp
    | i + 1, hk => simp at hk) hll (by decide)
  have HC := Lib.hid (hc1.trans hcs)
  clear hb1 hc1 hl1 hB1 hbs hcs
  go_enter Tryd.func49, Tryd.ntmps49
  go_wp2_with fail
  refine hcall.mono fun e w1 h => ?_
  obtain ⟨rfl, hc2⟩ := h
  clear hcall
  go_wp2_with fail
  go_ret
  exact ⟨rfl, HC.out.trans hc2⟩
set_option maxRecDepth 100000 in
set_option maxHeartbeats 2000000 in
theorem list_22 (n B : Nat) (w : World) (s : ByteArray) (num : Nat) (p : Int) (A : Option Addr) (c : Nat) (l : List Nd) (hB : B ≤ w.heap.size) (hl : NdsR n B w (.slice A l.length c) l) (hll : l.length ≤ 1048576) :
    Calls Tryd.prog 49 #[.agg #[.int .i64 22, .string s, .int .u64 num, .int .i64 p, .slice A l.length c]] w fun e w' => e = .returned (.bool (kindsF l [-2])) ∧ Chg (fun _ _ => False) w w' := by
  have hb1 := Blk.new w 25 #[.int .i64 22, .string s, .int .u64 num, .int .i64 p, .slice A l.length c]
  have hc1 := chg_alloc w (.cells #[.int .i64 22, .string s, .int .u64 num, .int .i64 p, .slice A l.length c] 25)
  have hl1 := NdsR.keep0 hc1 hl
  have hB1 := Nat.le_trans hB hc1.size
  clear hB hl
  have hbs := Blk.new (w.alloc (.cells #[.int .i64 22, .string s, .int .u64 num, .int .i64 p, .slice A l.length c] 25)) 3 #[.int .i64 (-2)]
  have hcs := chg_alloc (w.alloc (.cells #[.int .i64 22, .string s, .int .u64 num, .int .i64 p, .slice A l.length c] 25)) (.cells #[.int .i64 (-2)] 3)
  simp only [World.size_alloc] at hbs
  have hcall := kinds_any n B ((w.alloc (.cells #[.int .i64 22, .string s, .int .u64 num, .int .i64 p, .slice A l.length c] 25)).alloc (.cells #[.int .i64 (-2)] 3)) l [-2] A c (w.heap.size + 1) 1 (NdsR.keep0 hcs hl1) (fun i k hk => by
    match i, hk with
    | 0, hk => simp at hk; subst hk; simp
    | i + 1, hk => simp at hk) hll (by decide)
  have HC := Lib.hid (hc1.trans hcs)
  clear hb1 hc1 hl1 hB1 hbs hcs
  go_enter Tryd.func49, Tryd.ntmps49
  go_wp2_with fail
  refine hcall.mono fun e w1 h => ?_
  obtain ⟨rfl, hc2⟩ := h
  clear hcall
  go_wp2_with fail
  go_ret
  exact ⟨rfl, HC.out.trans hc2⟩
set_option maxRecDepth 100000 in
set_option maxHeartbeats 2000000 in
theorem list_24 (n B : Nat) (w : World) (s : ByteArray) (num : Nat) (p : Int) (A : Option Addr) (c : Nat) (l : List Nd) (hB : B ≤ w.heap.size) (hl : NdsR n B w (.slice A l.length c) l) (hll : l.length ≤ 1048576) :
    Calls Tryd.prog 49 #[.agg #[.int .i64 24, .string s, .int .u64 num, .int .i64 p, .slice A l.length c]] w fun e w' => e = .returned (.bool (kindsF l [34] || kindsF l [39])) ∧ Chg (fun _ _ => False) w w' := by
  have hb1 := Blk.new w 25 #[.int .i64 24, .string s, .int .u64 num, .int .i64 p, .slice A l.length c]
  have hc1 := chg_alloc w (.cells #[.int .i64 24, .string s, .int .u64 num, .int .i64 p, .slice A l.length c] 25)
  have hl1 := NdsR.keep0 hc1 hl
  have hB1 := Nat.le_trans hB hc1.size
  clear hB hl
  have hbs := Blk.new (w.alloc (.cells #[.int .i64 24, .string s, .int .u64 num, .int .i64 p, .slice A l.length c] 25)) 3 #[.int .i64 34]
  have hcs := chg_alloc (w.alloc (.cells #[.int .i64 24, .string s, .int .u64 num, .int .i64 p, .slice A l.length c] 25)) (.cells #[.int .i64 34] 3)
  simp only [World.size_alloc] at hbs
  have hcall := kinds_any n B ((w.alloc (.cells #[.int .i64 24, .string s, .int .u64 num, .int .i64 p, .slice A l.length c] 25)).alloc (.cells #[.int .i64 34] 3)) l [34] A c (w.heap.size + 1) 1 (NdsR.keep0 hcs hl1) (fun i k hk => by
    match i, hk with
    | 0, hk => simp at hk; subst hk; simp
    | i + 1, hk => simp at hk) hll (by decide)
  have hcc0 := (hc1).trans hcs
  cases hx0 : kindsF l [34] with
  | true =>
    rw [hx0] at hcall
    have HX0 := Lib.hid hx0
    clear hx0 hbs hcs
    clear hb1
    have HC0 := Lib.hid (And.intro hcc0 hl1)
    clear hcc0 hl1 hc1 hB1
    go_enter Tryd.func49, Tryd.ntmps49
    go_wp2_with fail
    refine hcall.mono fun e v0 h => ?_
    obtain ⟨rfl, hv0⟩ := h
    clear hcall
    go_wp2_with fail
    go_ret
    exact ⟨by simp [HX0.out], HC0.out.1.trans hv0⟩
  | false =>
    rw [hx0] at hcall
    have HX0 := Lib.hid hx0
    clear hx0 hbs hcs
    clear hb1
    have HC0 := Lib.hid (And.intro hcc0 hl1)
    clear hcc0 hl1 hc1 hB1
    go_enter Tryd.func49, Tryd.ntmps49
    go_wp2_with fail
    refine hcall.mono fun e v0 h => ?_
    obtain ⟨rfl, hv0⟩ := h
    clear hcall
    have hw0 := HC0.out.1.trans hv0
    have hl2 := NdsR.keep0 hv0 (NdsR.keep0 (chg_alloc _ (.cells #[.int .i64 34] 3)) HC0.out.2)
    have hbs := Blk.new (v0) 3 #[.int .i64 39]
    have hcs := chg_alloc (v0) (.cells #[.int .i64 39] 3)
    have hcall := kinds_any n B ((v0).alloc (.cells #[.int .i64 39] 3)) l [39] A c (v0.heap.size) 1 (NdsR.keep0 hcs hl2) (fun i k hk => by
      match i, hk with
      | 0, hk => simp at hk; subst hk; simp
      | i + 1, hk => simp at hk) hll (by decide)
    have hcc1 := (hw0).trans hcs
    cases hx1 : kindsF l [39] with
    | true =>
      rw [hx1] at hcall
      have HX1 := Lib.hid hx1
      clear hx1 hbs hcs
      have HC1 := Lib.hid (And.intro hcc1 hl2)
      clear hcc1 hl2
      go_wp2_with fail
      refine hcall.mono fun e v1 h => ?_
      obtain ⟨rfl, hv1⟩ := h
      clear hcall
      go_wp2_with fail
      go_ret
      exact ⟨by simp [HX0.out, HX1.out], HC1.out.1.trans hv1⟩
    | false =>
      rw [hx1] at hcall
      have HX1 := Lib.hid hx1
      clear hx1 hbs hcs
      have HC1 := Lib.hid (And.intro hcc1 hl2)
      clear hcc1 hl2
      go_wp2_with fail
      refine hcall.mono fun e v1 h => ?_
      obtain ⟨rfl, hv1⟩ := h
      clear hcall
      go_wp2_with fail
      go_ret
      exact ⟨by simp [HX0.out, HX1.out], HC1.out.1.trans hv1⟩
set_option maxRecDepth 100000 in
set_option maxHeartbeats 2000000 in
theorem list_25 (n B : Nat) (w : World) (s : ByteArray) (num : Nat) (p : Int) (A : Option Addr) (c : Nat) (l : List Nd) (hB : B ≤ w.heap.size) (hl : NdsR n B w (.slice A l.length c) l) (hll : l.length ≤ 1048576) :
    Calls Tryd.prog 49 #[.agg #[.int .i64 25, .string s, .int .u64 num, .int .i64 p, .slice A l.length c]] w fun e w' => e = .returned (.bool (kindsF l [-1, 20] || kindsF l [-1, 20, 20] || kindsF l [-1, 20, 25])) ∧ Chg (fun _ _ => False) w w' := by
  have hb1 := Blk.new w 25 #[.int .i64 25, .string s, .int .u64 num, .int .i64 p, .slice A l.length c]
  have hc1 := chg_alloc w (.cells #[.int .i64 25, .string s, .int .u64 num, .int .i64 p, .slice A l.length c] 25)
  have hl1 := NdsR.keep0 hc1 hl
  have hB1 := Nat.le_trans hB hc1.size
  clear hB hl
  have hbs := Blk.new (w.alloc (.cells #[.int .i64 25, .string s, .int .u64 num, .int .i64 p, .slice A l.length c] 25)) 3 #[.int .i64 (-1), .int .i64 20]
  have hcs := chg_alloc (w.alloc (.cells #[.int .i64 25, .string s, .int .u64 num, .int .i64 p, .slice A l.length c] 25)) (.cells #[.int .i64 (-1), .int .i64 20] 3)
  simp only [World.size_alloc] at hbs
  have hcall := kinds_any n B ((w.alloc (.cells #[.int .i64 25, .string s, .int .u64 num, .int .i64 p, .slice A l.length c] 25)).alloc (.cells #[.int .i64 (-1), .int .i64 20] 3)) l [-1, 20] A c (w.heap.size + 1) 2 (NdsR.keep0 hcs hl1) (fun i k hk => by
    match i, hk with
    | 0, hk => simp at hk; subst hk; simp
    | 1, hk => simp at hk; subst hk; simp
    | i + 2, hk => simp at hk) hll (by decide)
  have hcc0 := (hc1).trans hcs
  cases hx0 : kindsF l [-1, 20] with
  | true =>
    rw [hx0] at hcall
    have HX0 := Lib.hid hx0
    clear hx0 hbs hcs
    clear hb1
    have HC0 := Lib.hid (And.intro hcc0 hl1)
    clear hcc0 hl1 hc1 hB1
    go_enter Tryd.func49, Tryd.ntmps49
    go_wp2_with fail
    refine hcall.mono fun e v0 h => ?_
    obtain ⟨rfl, hv0⟩ := h
    clear hcall
    go_wp2_with fail
    go_ret
    exact ⟨by simp [HX0.out], HC0.out.1.trans hv0⟩
  | false =>
    rw [hx0] at hcall
    have HX0 := Lib.hid hx0
    clear hx0 hbs hcs
    clear hb1
    have HC0 := Lib.hid (And.intro hcc0 hl1)
    clear hcc0 hl1 hc1 hB1
    go_enter Tryd.func49, Tryd.ntmps49
    go_wp2_with fail
    refine hcall.mono fun e v0 h => ?_
    obtain ⟨rfl, hv0⟩ := h
    clear hcall
    have hw0 := HC0.out.1.trans hv0
    have hl2 := NdsR.keep0 hv0 (NdsR.keep0 (chg_alloc _ (.cells #[.int .i64 (-1), .int .i64 20] 3)) HC0.out.2)
    have hbs := Blk.new (v0) 3 #[.int .i64 (-1), .int .i64 20, .int .i64 20]
    have hcs := chg_alloc (v0) (.cells #[.int .i64 (-1), .int .i64 20, .int .i64 20] 3)
    have hcall := kinds_any n B ((v0).alloc (.cells #[.int .i64 (-1), .int .i64 20, .int .i64 20] 3)) l [-1, 20, 20] A c (v0.heap.size) 3 (NdsR.keep0 hcs hl2) (fun i k hk => by
      match i, hk with
      | 0, hk => simp at hk; subst hk; simp
      | 1, hk => simp at hk; subst hk; simp
      | 2, hk => simp at hk; subst hk; simp
      | i + 3, hk => simp at hk) hll (by decide)
    have hcc1 := (hw0).trans hcs
    cases hx1 : kindsF l [-1, 20, 20] with
    | true =>
      rw [hx1] at hcall
      have HX1 := Lib.hid hx1
      clear hx1 hbs hcs
      have HC1 := Lib.hid (And.intro hcc1 hl2)
      clear hcc1 hl2
      go_wp2_with fail
      refine hcall.mono fun e v1 h => ?_
      obtain ⟨rfl, hv1⟩ := h
      clear hcall
      go_wp2_with fail
      go_ret
      exact ⟨by simp [HX0.out, HX1.out], HC1.out.1.trans hv1⟩
    | false =>
      rw [hx1] at hcall
      have HX1 := Lib.hid hx1
      clear hx1 hbs hcs
      have HC1 := Lib.hid (And.intro hcc1 hl2)
      clear hcc1 hl2
      go_wp2_with fail
      refine hcall.mono fun e v1 h => ?_
      obtain ⟨rfl, hv1⟩ := h
      clear hcall
      have hw1 := HC1.out.1.trans hv1
      have hl3 := NdsR.keep0 hv1 (NdsR.keep0 (chg_alloc _ (.cells #[.int .i64 (-1), .int .i64 20, .int .i64 20] 3)) HC1.out.2)
      have hbs := Blk.new (v1) 3 #[.int .i64 (-1), .int .i64 20, .int .i64 25]
      have hcs := chg_alloc (v1) (.cells #[.int .i64 (-1), .int .i64 20, .int .i64 25] 3)
      have hcall := kinds_any n B ((v1).alloc (.cells #[.int .i64 (-1), .int .i64 20, .int .i64 25] 3)) l [-1, 20, 25] A c (v1.heap.size) 3 (NdsR.keep0 hcs hl3) (fun i k hk => by
        match i, hk with
        | 0, hk => simp at hk; subst hk; simp
        | 1, hk => simp at hk; subst hk; simp
        | 2, hk => simp at hk; subst hk; simp
        | i + 3, hk => simp at hk) hll (by decide)
      have hcc2 := (hw1).trans hcs
      cases hx2 : kindsF l [-1, 20, 25] with
      | true =>
        rw [hx2] at hcall
        have HX2 := Lib.hid hx2
        clear hx2 hbs hcs
        have HC2 := Lib.hid (And.intro hcc2 hl3)
        clear hcc2 hl3
        go_wp2_with fail
        refine hcall.mono fun e v2 h => ?_
        obtain ⟨rfl, hv2⟩ := h
        clear hcall
        go_wp2_with fail
        go_ret
        exact ⟨by simp [HX0.out, HX1.out, HX2.out], HC2.out.1.trans hv2⟩
      | false =>
        rw [hx2] at hcall
        have HX2 := Lib.hid hx2
        clear hx2 hbs hcs
        have HC2 := Lib.hid (And.intro hcc2 hl3)
        clear hcc2 hl3
        go_wp2_with fail
        refine hcall.mono fun e v2 h => ?_
        obtain ⟨rfl, hv2⟩ := h
        clear hcall
        go_wp2_with fail
        go_ret
        exact ⟨by simp [HX0.out, HX1.out, HX2.out], HC2.out.1.trans hv2⟩
set_option maxRecDepth 100000 in
set_option maxHeartbeats 2000000 in
theorem list_26 (n B : Nat) (w : World) (s : ByteArray) (num : Nat) (p : Int) (A : Option Addr) (c : Nat) (l : List Nd) (hB : B ≤ w.heap.size) (hl : NdsR n B w (.slice A l.length c) l) (hll : l.length ≤ 1048576) :
    Calls Tryd.prog 49 #[.agg #[.int .i64 26, .string s, .int .u64 num, .int .i64 p, .slice A l.length c]] w fun e w' => e = .returned (.bool (kindsF l [-1, 20])) ∧ Chg (fun _ _ => False) w w' := by
  have hb1 := Blk.new w 25 #[.int .i64 26, .string s, .int .u64 num, .int .i64 p, .slice A l.length c]
  have hc1 := chg_alloc w (.cells #[.int .i64 26, .string s, .int .u64 num, .int .i64 p, .slice A l.length c] 25)
  have hl1 := NdsR.keep0 hc1 hl
  have hB1 := Nat.le_trans hB hc1.size
  clear hB hl
  have hbs := Blk.new (w.alloc (.cells #[.int .i64 26, .string s, .int .u64 num, .int .i64 p, .slice A l.length c] 25)) 3 #[.int .i64 (-1), .int .i64 20]
  have hcs := chg_alloc (w.alloc (.cells #[.int .i64 26, .string s, .int .u64 num, .int .i64 p, .slice A l.length c] 25)) (.cells #[.int .i64 (-1), .int .i64 20] 3)
  simp only [World.size_alloc] at hbs
  have hcall := kinds_any n B ((w.alloc (.cells #[.int .i64 26, .string s, .int .u64 num, .int .i64 p, .slice A l.length c] 25)).alloc (.cells #[.int .i64 (-1), .int .i64 20] 3)) l [-1, 20] A c (w.heap.size + 1) 2 (NdsR.keep0 hcs hl1) (fun i k hk => by
    match i, hk with
    | 0, hk => simp at hk; subst hk; simp
    | 1, hk => simp at hk; subst hk; simp
    | i + 2, hk => simp at hk) hll (by decide)
  have HC := Lib.hid (hc1.trans hcs)
  clear hb1 hc1 hl1 hB1 hbs hcs
  go_enter Tryd.func49, Tryd.ntmps49
  go_wp2_with fail
  refine hcall.mono fun e w1 h => ?_
  obtain ⟨rfl, hc2⟩ := h
  clear hcall
  go_wp2_with fail
  go_ret
  exact ⟨rfl, HC.out.trans hc2⟩
set_option maxRecDepth 100000 in
set_option maxHeartbeats 2000000 in
theorem list_27 (n B : Nat) (w : World) (s : ByteArray) (num : Nat) (p : Int) (A : Option Addr) (c : Nat) (l : List Nd) (hB : B ≤ w.heap.size) (hl : NdsR n B w (.slice A l.length c) l) (hll : l.length ≤ 1048576) :
    Calls Tryd.prog 49 #[.agg #[.int .i64 27, .string s, .int .u64 num, .int .i64 p, .slice A l.length c]] w fun e w' => e = .returned (.bool (decide (l.length = 0))) ∧ Chg (fun _ _ => False) w w' := by
  have hc1 := chg_alloc w (.cells #[.int .i64 27, .string s, .int .u64 num, .int .i64 p, .slice A l.length c] 25)
  have HC := Lib.hid hc1
  clear hc1 hB hl
  by_cases h0 : l.length = 0
  · have q0 : (l.length == 0) = true := by simp [h0]
    have q0' : ((l.length : Int) == 0) = true := by simp [h0]
    have H0 := Lib.hid (show decide (l.length = 0) = true from decide_eq_true h0)
    clear h0
    go_enter Tryd.func49, Tryd.ntmps49
    go_wp2_with fail
    go_ret
    exact ⟨by rw [H0.out]; rfl, HC.out⟩
  · have q0 : (l.length == 0) = false := by simp [h0]
    have q0' : ((l.length : Int) == 0) = false := by rw [beq_eq_false_iff_ne]; omega
    have H0 := Lib.hid (show decide (l.length = 0) = false from decide_eq_false h0)
    clear h0
    go_enter Tryd.func49, Tryd.ntmps49
    go_wp2_with fail
    go_ret
    exact ⟨by rw [H0.out]; rfl, HC.out⟩
set_option maxRecDepth 100000 in
set_option maxHeartbeats 2000000 in
theorem list_28 (n B : Nat) (w : World) (s : ByteArray) (num : Nat) (p : Int) (A : Option Addr) (c : Nat) (l : List Nd) (hB : B ≤ w.heap.size) (hl : NdsR n B w (.slice A l.length c) l) (hll : l.length ≤ 1048576) :
    Calls Tryd.prog 49 #[.agg #[.int .i64 28, .string s, .int .u64 num, .int .i64 p, .slice A l.length c]] w fun e w' => e = .returned (.bool (decide (l.length = 0) || kindsF l [-1])) ∧ Chg (fun _ _ => False) w w' := by
  by_cases h0 : l.length = 0
  · have q0 : (l.length == 0) = true := by simp [h0]
    have q0' : ((l.length : Int) == 0) = true := by simp [h0]
    have H0 := Lib.hid (show decide (l.length = 0) = true from decide_eq_true h0)
    have hc1 := chg_alloc w (.cells #[.int .i64 28, .string s, .int .u64 num, .int .i64 p, .slice A l.length c] 25)
    have HC := Lib.hid hc1
    clear hc1 hB hl
    clear h0
    go_enter Tryd.func49, Tryd.ntmps49
    go_wp2_with fail
    go_ret
    exact ⟨by rw [H0.out]; rfl, HC.out⟩
  · have q0 : (l.length == 0) = false := by simp [h0]
    have q0' : ((l.length : Int) == 0) = false := by rw [beq_eq_false_iff_ne]; omega
    have H0 := Lib.hid (show decide (l.length = 0) = false from decide_eq_false h0)
    clear h0
    have hb1 := Blk.new w 25 #[.int .i64 28, .string s, .int .u64 num, .int .i64 p, .slice A l.length c]
    have hc1 := chg_alloc w (.cells #[.int .i64 28, .string s, .int .u64 num, .int .i64 p, .slice A l.length c] 25)
    have hl1 := NdsR.keep0 hc1 hl
    have hB1 := Nat.le_trans hB hc1.size
    clear hB hl
    have hbs := Blk.new (w.alloc (.cells #[.int .i64 28, .string s, .int .u64 num, .int .i64 p, .slice A l.length c] 25)) 3 #[.int .i64 (-1)]
    have hcs := chg_alloc (w.alloc (.cells #[.int .i64 28, .string s, .int .u64 num, .int .i64 p, .slice A l.length c] 25)) (.cells #[.int .i64 (-1)] 3)
    simp only [World.size_alloc] at hbs
    have hcall := kinds_any n B ((w.alloc (.cells #[.int .i64 28, .string s, .int .u64 num, .int .i64 p, .slice A l.length c] 25)).alloc (.cells #[.int .i64 (-1)] 3)) l [-1] A c (w.heap.size + 1) 1 (NdsR.keep0 hcs hl1) (fun i k hk => by
      match i, hk with
      | 0, hk => simp at hk; subst hk; simp
      | i + 1, hk => simp at hk) hll (by decide)
    have HC := Lib.hid (hc1.trans hcs)
    clear hb1 hc1 hl1 hB1 hbs hcs
    go_enter Tryd.func49, Tryd.ntmps49
    go_wp2_with fail
    refine hcall.mono fun e w1 h => ?_
    obtain ⟨rfl, hc2⟩ := h
    clear hcall
    go_wp2_with fail
    go_ret
    exact ⟨by rw [H0.out]; rfl, HC.out.trans hc2⟩
end Go.Proofs.YtgaodjoddfjfmaaDoor
