/-
  tree.list, kind by kind (4).
-/
import Derived.Test.YtgaodjoddfjfmaaDoorNKinds
import Derived.Test.YtgaodjoddfjfmaaDoorTShelf
namespace Go.Proofs.YtgaodjoddfjfmaaDoor
open Go.RowKit
set_option linter.unusedVariables false
set_option linter.unusedSimpArgs false

def firstK (l : List Nd) (p : Int → Bool) : Bool := match l with
  | [] => false
  | x :: _ => p x.kind
theorem firstK_at {l : List Nd} {x : Nd} {p : Int → Bool} (h : l[0]? = some x) : firstK l p = p x.kind := by
  cases l with
  | nil => simp at h
  | cons y l => simp at h; subst h; rfl
theorem nds_cap {n B c : Nat} {w : World} {A : Option Addr} {l : List Nd} (h : NdsR n B w (.slice A l.length c) l) : l.length ≤ c := by
  obtain ⟨A0, c0, hv, hc, _⟩ := h
  injection hv with _ _ hcc
  omega
theorem nds_tail {n B b o c : Nat} {w : World} {l : List Nd} (h : NdsR n B w (.slice (some ⟨b, o, none⟩) l.length c) l) (h2 : 2 ≤ l.length) : NdsR n B w (.slice (some ⟨b, o + 5, none⟩) l.tail.length (c - 1)) l.tail := by
  obtain ⟨A, c0, hv, hc, hr⟩ := h
  injection hv with hA _ hcc
  subst hA
  subst hcc
  obtain ⟨b', o', hA, hL, hb, hx⟩ := hr (by omega)
  injection hA with hA
  injection hA with h1 h2' _
  subst h1
  subst h2'
  refine ⟨_, _, rfl, by rw [List.length_tail]; omega, fun _ => ⟨_, _, rfl, hL, hb, fun k x hk => ?_⟩⟩
  obtain ⟨cs, k1, k2, k3⟩ := hx (k + 1) x (by rw [← hk]; cases l with | nil => rfl | cons y l => rfl)
  exact ⟨cs, k1, k2, fun j u hj => by rw [← k3 j u hj]; congr 2; omega⟩
set_option maxRecDepth 100000 in
set_option maxHeartbeats 2000000 in
theorem list_13 (n B : Nat) (w : World) (s : ByteArray) (num : Nat) (p : Int) (A : Option Addr) (c : Nat) (l : List Nd) (hB : B ≤ w.heap.size) (hl : NdsR n B w (.slice A l.length c) l) (hll : l.length ≤ 1048576) (hnum : num = 0 ∨ num = 1) :
    Calls Tryd.prog 49 #[.agg #[.int .i64 13, .string s, .int .u64 num, .int .i64 p, .slice A l.length c]] w fun e w' => e = .returned (.bool (decide (num ≤ l.length) && decide (l.length ≤ 16 + num) && l.all fun x => isTypeK x.kind)) ∧ Chg (fun _ _ => False) w w' := by
  rcases hnum with rfl | rfl
  · have GA0 : decide (0 ≤ l.length) = true := decide_eq_true (by omega)
    have ga0 : decide ((0 : Int) ≤ (l.length : Int)) = true := decide_eq_true (by omega)
    have ga1 : decide ((l.length : Int) ≥ 0) = true := decide_eq_true (by omega)
    by_cases gb : l.length ≤ 16 + 0
    · have GB := Lib.hid (show decide (l.length ≤ 16 + 0) = true from decide_eq_true gb)
      have gb0 : decide (l.length ≤ 16) = true := by first | exact decide_eq_true (by omega) | (simp; omega)
      have gb1 : decide ((l.length : Int) ≤ 16) = true := by first | exact decide_eq_true (by omega) | (simp; omega)
      clear gb
      have hb1 := Blk.new w 25 #[.int .i64 13, .string s, .int .u64 ((0 : Nat) : Int), .int .i64 p, .slice A l.length c]
      have hc1 := chg_alloc w (.cells #[.int .i64 13, .string s, .int .u64 ((0 : Nat) : Int), .int .i64 p, .slice A l.length c] 25)
      have hl1 := NdsR.keep0 hc1 hl
      have hB1 := Nat.le_trans hB hc1.size
      clear hB hl
      have hcall := all_of n B (w.alloc (.cells #[.int .i64 13, .string s, .int .u64 ((0 : Nat) : Int), .int .i64 p, .slice A l.length c] 25)) l A c 34 #[] isTypeK (fun _ => True) hB1 hl1 hll isType_fn trivial
      have HC := Lib.hid hc1
      clear hb1 hc1 hl1 hB1
      go_enter Tryd.func49, Tryd.ntmps49
      go_wp2_with fail
      refine hcall.mono fun e w1 h => ?_
      obtain ⟨rfl, hc2⟩ := h
      clear hcall
      go_wp2_with fail
      go_ret
      exact ⟨by rw [GA0, GB.out]; rfl, HC.out.trans hc2⟩
    · have GB := Lib.hid (show decide (l.length ≤ 16 + 0) = false from decide_eq_false gb)
      have gb0 : decide (l.length ≤ 16) = false := by first | exact decide_eq_false (by omega) | (simp; omega)
      have gb1 : decide ((l.length : Int) ≤ 16) = false := by first | exact decide_eq_false (by omega) | (simp; omega)
      clear gb
      have hc1 := chg_alloc w (.cells #[.int .i64 13, .string s, .int .u64 ((0 : Nat) : Int), .int .i64 p, .slice A l.length c] 25)
      have HC := Lib.hid hc1
      clear hc1 hB hl
      go_enter Tryd.func49, Tryd.ntmps49
      go_wp2_with fail
      go_ret
      exact ⟨by rw [GA0, GB.out]; rfl, HC.out⟩
  · by_cases ga : 1 ≤ l.length
    · have GA := Lib.hid (show decide (1 ≤ l.length) = true from decide_eq_true ga)
      have ga0 : decide (1 ≤ l.length) = true := by first | exact decide_eq_true (by omega) | (simp; omega)
      have ga1 : decide ((1 : Int) ≤ (l.length : Int)) = true := by first | exact decide_eq_true (by omega) | (simp; omega)
      have ga2 : decide (0 < l.length) = true := by first | exact decide_eq_true (by omega) | (simp; omega)
      have ga3 : decide ((0 : Int) < (l.length : Int)) = true := by first | exact decide_eq_true (by omega) | (simp; omega)
      have ga4 : decide (l.length ≥ 1) = true := by first | exact decide_eq_true (by omega) | (simp; omega)
      have ga5 : decide ((l.length : Int) ≥ 1) = true := by first | exact decide_eq_true (by omega) | (simp; omega)
      clear ga
      by_cases gb : l.length ≤ 16 + 1
      · have GB := Lib.hid (show decide (l.length ≤ 16 + 1) = true from decide_eq_true gb)
        have gb0 : decide (l.length ≤ 17) = true := by first | exact decide_eq_true (by omega) | (simp; omega)
        have gb1 : decide ((l.length : Int) ≤ 17) = true := by first | exact decide_eq_true (by omega) | (simp; omega)
        clear gb
        have hb1 := Blk.new w 25 #[.int .i64 13, .string s, .int .u64 ((1 : Nat) : Int), .int .i64 p, .slice A l.length c]
        have hc1 := chg_alloc w (.cells #[.int .i64 13, .string s, .int .u64 ((1 : Nat) : Int), .int .i64 p, .slice A l.length c] 25)
        have hl1 := NdsR.keep0 hc1 hl
        have hB1 := Nat.le_trans hB hc1.size
        clear hB hl
        have hcall := all_of n B (w.alloc (.cells #[.int .i64 13, .string s, .int .u64 ((1 : Nat) : Int), .int .i64 p, .slice A l.length c] 25)) l A c 34 #[] isTypeK (fun _ => True) hB1 hl1 hll isType_fn trivial
        have HC := Lib.hid hc1
        clear hb1 hc1 hl1 hB1
        go_enter Tryd.func49, Tryd.ntmps49
        go_wp2_with fail
        refine hcall.mono fun e w1 h => ?_
        obtain ⟨rfl, hc2⟩ := h
        clear hcall
        go_wp2_with fail
        go_ret
        exact ⟨by rw [GA.out, GB.out]; rfl, HC.out.trans hc2⟩
      · have GB := Lib.hid (show decide (l.length ≤ 16 + 1) = false from decide_eq_false gb)
        have gb0 : decide (l.length ≤ 17) = false := by first | exact decide_eq_false (by omega) | (simp; omega)
        have gb1 : decide ((l.length : Int) ≤ 17) = false := by first | exact decide_eq_false (by omega) | (simp; omega)
        clear gb
        have hc1 := chg_alloc w (.cells #[.int .i64 13, .string s, .int .u64 ((1 : Nat) : Int), .int .i64 p, .slice A l.length c] 25)
        have HC := Lib.hid hc1
        clear hc1 hB hl
        go_enter Tryd.func49, Tryd.ntmps49
        go_wp2_with fail
        go_ret
        exact ⟨by rw [GA.out, GB.out]; rfl, HC.out⟩
    · have GA := Lib.hid (show decide (1 ≤ l.length) = false from decide_eq_false ga)
      have ga0 : decide (1 ≤ l.length) = false := by first | exact decide_eq_false (by omega) | (simp; omega)
      have ga1 : decide ((1 : Int) ≤ (l.length : Int)) = false := by first | exact decide_eq_false (by omega) | (simp; omega)
      have ga2 : decide (0 < l.length) = false := by first | exact decide_eq_false (by omega) | (simp; omega)
      have ga3 : decide ((0 : Int) < (l.length : Int)) = false := by first | exact decide_eq_false (by omega) | (simp; omega)
      have ga4 : decide (l.length ≥ 1) = false := by first | exact decide_eq_false (by omega) | (simp; omega)
      have ga5 : decide ((l.length : Int) ≥ 1) = false := by first | exact decide_eq_false (by omega) | (simp; omega)
      clear ga
      have hc1 := chg_alloc w (.cells #[.int .i64 13, .string s, .int .u64 ((1 : Nat) : Int), .int .i64 p, .slice A l.length c] 25)
      have HC := Lib.hid hc1
      clear hc1 hB hl
      go_enter Tryd.func49, Tryd.ntmps49
      go_wp2_with fail
      go_ret
      exact ⟨by rw [GA.out]; rfl, HC.out⟩
set_option maxRecDepth 100000 in
set_option maxHeartbeats 2000000 in
theorem list_23 (n B : Nat) (w : World) (s : ByteArray) (num : Nat) (p : Int) (A : Option Addr) (c : Nat) (l : List Nd) (hB : B ≤ w.heap.size) (hl : NdsR n B w (.slice A l.length c) l) (hll : l.length ≤ 1048576) :
    Calls Tryd.prog 49 #[.agg #[.int .i64 23, .string s, .int .u64 num, .int .i64 p, .slice A l.length c]] w fun e w' => e = .returned (.bool (kindsF l [-1, -1] && firstK l fun k => decide (k = 30) || (decide (k = 35) || decide (k = 36)))) ∧ Chg (fun _ _ => False) w w' := by
  have hb1 := Blk.new w 25 #[.int .i64 23, .string s, .int .u64 num, .int .i64 p, .slice A l.length c]
  have hc1 := chg_alloc w (.cells #[.int .i64 23, .string s, .int .u64 num, .int .i64 p, .slice A l.length c] 25)
  have hl1 := NdsR.keep0 hc1 hl
  have hB1 := Nat.le_trans hB hc1.size
  clear hB hl
  have hbs := Blk.new (w.alloc (.cells #[.int .i64 23, .string s, .int .u64 num, .int .i64 p, .slice A l.length c] 25)) 3 #[.int .i64 (-1), .int .i64 (-1)]
  have hcs := chg_alloc (w.alloc (.cells #[.int .i64 23, .string s, .int .u64 num, .int .i64 p, .slice A l.length c] 25)) (.cells #[.int .i64 (-1), .int .i64 (-1)] 3)
  simp only [World.size_alloc] at hbs
  have hcall := kinds_any n B ((w.alloc (.cells #[.int .i64 23, .string s, .int .u64 num, .int .i64 p, .slice A l.length c] 25)).alloc (.cells #[.int .i64 (-1), .int .i64 (-1)] 3)) l [-1, -1] A c (w.heap.size + 1) 2 (NdsR.keep0 hcs hl1) (fun i k hk => by
    match i, hk with
    | 0, hk => simp at hk; subst hk; simp
    | 1, hk => simp at hk; subst hk; simp
    | i + 2, hk => simp at hk) hll (by decide)
  have hcc := hc1.trans hcs
  have hl2 := NdsR.keep0 hcs hl1
  cases hx : kindsF l [-1, -1] with
  | false =>
    rw [hx] at hcall
    have HX := Lib.hid hx
    have HC := Lib.hid hcc
    clear hx hbs hcs hb1 hl1 hc1 hB1 hl2 hcc
    go_enter Tryd.func49, Tryd.ntmps49
    go_wp2_with fail
    refine hcall.mono fun e w1 h => ?_
    obtain ⟨rfl, hc2⟩ := h
    clear hcall
    go_wp2_with fail
    go_ret
    exact ⟨rfl, HC.out.trans hc2⟩
  | true =>
    rw [hx] at hcall
    have hlen : l.length = 2 := (kindsF_true.1 hx).1
    have HX := Lib.hid hx
    have q2 : (0 : Int) < (l.length : Int) := by omega
    have HC := Lib.hid (And.intro hcc (And.intro hl2 hlen))
    clear hx hbs hcs hb1 hl1 hc1 hB1 hl2 hcc hlen
    go_enter Tryd.func49, Tryd.ntmps49
    go_wp2_with fail
    refine hcall.mono fun e w1 h => ?_
    obtain ⟨rfl, hc2⟩ := h
    clear hcall
    obtain ⟨b, o, x, X, cx, rfl, hkx, hRx, z0, z1, z2, z3, z4⟩ := NdsR.at_ (NdsR.keep0 hc2 HC.out.2.1) (k := 0) (by have := HC.out.2.2; omega)
    rw [show o + 0 * 5 = o by omega] at z0 z1 z2 z3 z4
    have hca := chg_alloc w1 (.cells #[.int .i64 30, .int .i64 35, .int .i64 36] 3)
    have hba := Blk.new w1 3 #[.int .i64 30, .int .i64 35, .int .i64 36]
    have y0 := hca.cell z0 fun _ => id
    have hcal := Tryd.slices_Contains_int w1.heap.size 0 3 3 [30, 35, 36] x.kind (w1.alloc (.cells #[.int .i64 30, .int .i64 35, .int .i64 36] 3)) (by decide) (by decide) (fun j hj => by
      rw [Nat.zero_add]
      match j, hj with
      | 0, _ => simp
      | 1, _ => simp
      | 2, _ => simp)
    have HD := Lib.hid (And.intro ((HC.out.1.trans hc2).trans hca) hkx)
    clear hc2 hca hba hRx hkx z0 z1 z2 z3 z4
    go_wp2_with fail
    refine hcal.mono fun e w2 h => ?_
    obtain ⟨rfl, rfl⟩ := h
    clear hcal y0
    go_wp2_with fail
    go_ret
    exact ⟨by rw [firstK_at HD.out.2]; rfl, HD.out.1⟩
set_option maxRecDepth 100000 in
set_option maxHeartbeats 2000000 in
theorem list_34 (n B : Nat) (w : World) (s : ByteArray) (num : Nat) (p : Int) (A : Option Addr) (c : Nat) (l : List Nd) (hB : B ≤ w.heap.size) (hl : NdsR n B w (.slice A l.length c) l) (hll : l.length ≤ 1048576) :
    Calls Tryd.prog 49 #[.agg #[.int .i64 34, .string s, .int .u64 num, .int .i64 p, .slice A l.length c]] w fun e w' => e = .returned (.bool (decide (1 ≤ l.length) && decide (l.length ≤ 17) && l.all fun x => isExprK x.kind)) ∧ Chg (fun _ _ => False) w w' := by
  by_cases ga : 1 ≤ l.length
  · have GA := Lib.hid (show decide (1 ≤ l.length) = true from decide_eq_true ga)
    have ga0 : decide (1 ≤ l.length) = true := by first | exact decide_eq_true (by omega) | (simp; omega)
    have ga1 : decide ((1 : Int) ≤ (l.length : Int)) = true := by first | exact decide_eq_true (by omega) | (simp; omega)
    have ga2 : decide (0 < l.length) = true := by first | exact decide_eq_true (by omega) | (simp; omega)
    have ga3 : decide ((0 : Int) < (l.length : Int)) = true := by first | exact decide_eq_true (by omega) | (simp; omega)
    have ga4 : decide (l.length ≥ 1) = true := by first | exact decide_eq_true (by omega) | (simp; omega)
    have ga5 : decide ((l.length : Int) ≥ 1) = true := by first | exact decide_eq_true (by omega) | (simp; omega)
    clear ga
    by_cases gb : l.length ≤ 17
    · have GB := Lib.hid (show decide (l.length ≤ 17) = true from decide_eq_true gb)
      have gb0 : decide (l.length ≤ 17) = true := by first | exact decide_eq_true (by omega) | (simp; omega)
      have gb1 : decide ((l.length : Int) ≤ 17) = true := by first | exact decide_eq_true (by omega) | (simp; omega)
      clear gb
      have hb1 := Blk.new w 25 #[.int .i64 34, .string s, .int .u64 num, .int .i64 p, .slice A l.length c]
      have hc1 := chg_alloc w (.cells #[.int .i64 34, .string s, .int .u64 num, .int .i64 p, .slice A l.length c] 25)
      have hl1 := NdsR.keep0 hc1 hl
      have hB1 := Nat.le_trans hB hc1.size
      clear hB hl
      have hcall := all_of n B (w.alloc (.cells #[.int .i64 34, .string s, .int .u64 num, .int .i64 p, .slice A l.length c] 25)) l A c 33 #[] isExprK (fun _ => True) hB1 hl1 hll isExpr_fn trivial
      have HC := Lib.hid hc1
      clear hb1 hc1 hl1 hB1
      go_enter Tryd.func49, Tryd.ntmps49
      go_wp2_with fail
      refine hcall.mono fun e w1 h => ?_
      obtain ⟨rfl, hc2⟩ := h
      clear hcall
      go_wp2_with fail
      go_ret
      exact ⟨by rw [GA.out, GB.out]; rfl, HC.out.trans hc2⟩
    · have GB := Lib.hid (show decide (l.length ≤ 17) = false from decide_eq_false gb)
      have gb0 : decide (l.length ≤ 17) = false := by first | exact decide_eq_false (by omega) | (simp; omega)
      have gb1 : decide ((l.length : Int) ≤ 17) = false := by first | exact decide_eq_false (by omega) | (simp; omega)
      clear gb
      have hc1 := chg_alloc w (.cells #[.int .i64 34, .string s, .int .u64 num, .int .i64 p, .slice A l.length c] 25)
      have HC := Lib.hid hc1
      clear hc1 hB hl
      go_enter Tryd.func49, Tryd.ntmps49
      go_wp2_with fail
      go_ret
      exact ⟨by rw [GA.out, GB.out]; rfl, HC.out⟩
  · have GA := Lib.hid (show decide (1 ≤ l.length) = false from decide_eq_false ga)
    have ga0 : decide (1 ≤ l.length) = false := by first | exact decide_eq_false (by omega) | (simp; omega)
    have ga1 : decide ((1 : Int) ≤ (l.length : Int)) = false := by first | exact decide_eq_false (by omega) | (simp; omega)
    have ga2 : decide (0 < l.length) = false := by first | exact decide_eq_false (by omega) | (simp; omega)
    have ga3 : decide ((0 : Int) < (l.length : Int)) = false := by first | exact decide_eq_false (by omega) | (simp; omega)
    have ga4 : decide (l.length ≥ 1) = false := by first | exact decide_eq_false (by omega) | (simp; omega)
    have ga5 : decide ((l.length : Int) ≥ 1) = false := by first | exact decide_eq_false (by omega) | (simp; omega)
    clear ga
    have hc1 := chg_alloc w (.cells #[.int .i64 34, .string s, .int .u64 num, .int .i64 p, .slice A l.length c] 25)
    have HC := Lib.hid hc1
    clear hc1 hB hl
    go_enter Tryd.func49, Tryd.ntmps49
    go_wp2_with fail
    go_ret
    exact ⟨by rw [GA.out]; rfl, HC.out⟩
set_option maxRecDepth 100000 in
set_option maxHeartbeats 2000000 in
theorem list_36 (n B : Nat) (w : World) (s : ByteArray) (num : Nat) (p : Int) (A : Option Addr) (c : Nat) (l : List Nd) (hB : B ≤ w.heap.size) (hl : NdsR n B w (.slice A l.length c) l) (hll : l.length ≤ 1048576) :
    Calls Tryd.prog 49 #[.agg #[.int .i64 36, .string s, .int .u64 num, .int .i64 p, .slice A l.length c]] w fun e w' => e = .returned (.bool (decide (2 ≤ l.length) && decide (l.length ≤ 17) && (firstK l isExprK) && l.tail.all fun x => isArgK x.kind)) ∧ Chg (fun _ _ => False) w w' := by
  by_cases ga : 2 ≤ l.length
  · have GA := Lib.hid (show decide (2 ≤ l.length) = true from decide_eq_true ga)
    have ga0 : decide (2 ≤ l.length) = true := by first | exact decide_eq_true (by omega) | (simp; omega)
    have ga1 : decide ((2 : Int) ≤ (l.length : Int)) = true := by first | exact decide_eq_true (by omega) | (simp; omega)
    have ga2 : decide (1 < l.length) = true := by first | exact decide_eq_true (by omega) | (simp; omega)
    have ga3 : decide ((1 : Int) < (l.length : Int)) = true := by first | exact decide_eq_true (by omega) | (simp; omega)
    have ga4 : decide (l.length ≥ 2) = true := by first | exact decide_eq_true (by omega) | (simp; omega)
    have ga5 : decide ((l.length : Int) ≥ 2) = true := by first | exact decide_eq_true (by omega) | (simp; omega)
    clear ga
    by_cases gb : l.length ≤ 17
    · have GB := Lib.hid (show decide (l.length ≤ 17) = true from decide_eq_true gb)
      have gb0 : decide (l.length ≤ 17) = true := by first | exact decide_eq_true (by omega) | (simp; omega)
      have gb1 : decide ((l.length : Int) ≤ 17) = true := by first | exact decide_eq_true (by omega) | (simp; omega)
      clear gb
      have GL := Lib.hid (of_decide_eq_true GA.out)
      have hb1 := Blk.new w 25 #[.int .i64 36, .string s, .int .u64 num, .int .i64 p, .slice A l.length c]
      have hc1 := chg_alloc w (.cells #[.int .i64 36, .string s, .int .u64 num, .int .i64 p, .slice A l.length c] 25)
      have hl1 := NdsR.keep0 hc1 hl
      have hB1 := Nat.le_trans hB hc1.size
      clear hB hl
      obtain ⟨b, o, x, X, cx, rfl, hkx, hRx, z0, z1, z2, z3, z4⟩ := NdsR.at_ hl1 (k := 0) (by have := GL.out; omega)
      rw [show o + 0 * 5 = o by omega] at z0 z1 z2 z3 z4
      have hcap := nds_cap hl1
      have hc1n : ¬ c = 1 := by have := GL.out; omega
      have hc1n' : ¬ 1 = c := by have := GL.out; omega
      have hc1b : (c == 1) = false := by simp; omega
      have q2 : (0 : Int) < (l.length : Int) := by have := GL.out; omega
      have q3 : (1 : Int) ≤ (l.length : Int) := by have := GL.out; omega
      have hcall := isExpr_any (w.alloc (.cells #[.int .i64 36, .string s, .int .u64 num, .int .i64 p, .slice (some ⟨b, o, none⟩) l.length c] 25)) x.kind
      have HD := Lib.hid (And.intro hc1 (And.intro hkx (And.intro hl1 hB1)))
      clear hc1 hb1 hl1 hRx hkx hB1
      cases hx : isExprK x.kind with
      | false =>
        rw [hx] at hcall
        have HX := Lib.hid hx
        clear hx
        go_enter Tryd.func49, Tryd.ntmps49
        go_wp2_with fail
        refine hcall.mono fun e w2 h => ?_
        obtain ⟨rfl, hc2⟩ := h
        clear hcall
        go_wp2_with fail
        go_ret
        exact ⟨by rw [GA.out, GB.out, firstK_at HD.out.2.1, HX.out]; rfl, HD.out.1.trans hc2⟩
      | true =>
        rw [hx] at hcall
        have HX := Lib.hid hx
        clear hx
        go_enter Tryd.func49, Tryd.ntmps49
        go_wp2_with fail
        refine hcall.mono fun e w2 h => ?_
        obtain ⟨rfl, hc2⟩ := h
        clear hcall
        have htl := nds_tail (NdsR.keep0 hc2 HD.out.2.2.1) GL.out
        have hcal := all_of n B w2 l.tail (some ⟨b, o + 5, none⟩) (c - 1) 62 #[] isArgK (fun _ => True) (Nat.le_trans HD.out.2.2.2 hc2.size) htl (by rw [List.length_tail]; omega) isArg_fn trivial
        rw [List.length_tail] at hcal
        have HC2 := Lib.hid (HD.out.1.trans hc2)
        clear hc2 htl z0 z1 z2 z3 z4
        go_wp2_with fail
        refine hcal.mono fun e w3 h => ?_
        obtain ⟨rfl, hc3⟩ := h
        clear hcal
        go_wp2_with fail
        go_ret
        exact ⟨by rw [GA.out, GB.out, firstK_at HD.out.2.1, HX.out]; rfl, HC2.out.trans hc3⟩
    · have GB := Lib.hid (show decide (l.length ≤ 17) = false from decide_eq_false gb)
      have gb0 : decide (l.length ≤ 17) = false := by first | exact decide_eq_false (by omega) | (simp; omega)
      have gb1 : decide ((l.length : Int) ≤ 17) = false := by first | exact decide_eq_false (by omega) | (simp; omega)
      clear gb
      have hc1 := chg_alloc w (.cells #[.int .i64 36, .string s, .int .u64 num, .int .i64 p, .slice A l.length c] 25)
      have HC := Lib.hid hc1
      clear hc1 hB hl
      go_enter Tryd.func49, Tryd.ntmps49
      go_wp2_with fail
      go_ret
      exact ⟨by rw [GA.out, GB.out]; rfl, HC.out⟩
  · have GA := Lib.hid (show decide (2 ≤ l.length) = false from decide_eq_false ga)
    have ga0 : decide (2 ≤ l.length) = false := by first | exact decide_eq_false (by omega) | (simp; omega)
    have ga1 : decide ((2 : Int) ≤ (l.length : Int)) = false := by first | exact decide_eq_false (by omega) | (simp; omega)
    have ga2 : decide (1 < l.length) = false := by first | exact decide_eq_false (by omega) | (simp; omega)
    have ga3 : decide ((1 : Int) < (l.length : Int)) = false := by first | exact decide_eq_false (by omega) | (simp; omega)
    have ga4 : decide (l.length ≥ 2) = false := by first | exact decide_eq_false (by omega) | (simp; omega)
    have ga5 : decide ((l.length : Int) ≥ 2) = false := by first | exact decide_eq_false (by omega) | (simp; omega)
    clear ga
    have hc1 := chg_alloc w (.cells #[.int .i64 36, .string s, .int .u64 num, .int .i64 p, .slice A l.length c] 25)
    have HC := Lib.hid hc1
    clear hc1 hB hl
    go_enter Tryd.func49, Tryd.ntmps49
    go_wp2_with fail
    go_ret
    exact ⟨by rw [GA.out]; rfl, HC.out⟩
end Go.Proofs.YtgaodjoddfjfmaaDoor
