/-
  The reference's children, kind by kind (3).
-/
import Derived.Test.YtgaodjoddfjfmaaDoorNRef2
import Derived.Test.YtgaodjoddfjfmaaDoorNList4
namespace Go.Proofs.YtgaodjoddfjfmaaDoor
open Go.RowKit
set_option linter.unusedVariables false
set_option linter.unusedSimpArgs false

theorem kinds_one {l : List Nd} (h : l.length = 1) : kindsF l [-1] = l.all fun x => isExprK x.kind := by
  match l, h with
  | [x], _ =>
    cases hx : isExprK x.kind with
    | true =>
      rw [kindsF_true.2 ⟨rfl, fun j y k hy hk => ?_⟩]
      · simp [hx]
      · match j with
        | 0 => simp at hy hk; subst hy; subst hk; exact hx
        | j + 1 => simp at hy
    | false =>
      rw [kindsF_false fun h => by have := h.2 0 x (-1) rfl rfl; rw [show kind1 x.kind (-1) = isExprK x.kind from rfl, hx] at this; cases this]
      simp [hx]
theorem kinds_two {l : List Nd} (h : l.length = 2) : kindsF l [-1, -1] = l.all fun x => isExprK x.kind := by
  match l, h with
  | [x, y], _ =>
    cases hx : isExprK x.kind with
    | true =>
      cases hy : isExprK y.kind with
      | true =>
        rw [kindsF_true.2 ⟨rfl, fun j z k hz hk => ?_⟩]
        · simp [hx, hy]
        · match j with
          | 0 => simp at hz hk; subst hz; subst hk; exact hx
          | 1 => simp at hz hk; subst hz; subst hk; exact hy
          | j + 2 => simp at hz
      | false =>
        rw [kindsF_false fun h => by have := h.2 1 y (-1) rfl rfl; rw [show kind1 y.kind (-1) = isExprK y.kind from rfl, hy] at this; cases this]
        simp [hy]
    | false =>
      rw [kindsF_false fun h => by have := h.2 0 x (-1) rfl rfl; rw [show kind1 x.kind (-1) = isExprK x.kind from rfl, hx] at this; cases this]
      simp [hx]
theorem kinds_len {l : List Nd} {m : List Int} (h : ¬ l.length = m.length) : kindsF l m = false := kindsF_false fun h' => h h'.1
theorem kinds_one_two {l : List Nd} (h : l.length = 1 ∨ l.length = 2) : (kindsF l [-1] || kindsF l [-1, -1]) = l.all fun x => isExprK x.kind := by
  rcases h with h | h
  · rw [kinds_one h, kinds_len (m := [-1, -1]) (by simp [h]), Bool.or_false]
  · rw [kinds_two h, kinds_len (m := [-1]) (by simp [h]), Bool.false_or]
set_option maxRecDepth 100000 in
set_option maxHeartbeats 2000000 in
theorem child_13 (n B : Nat) (w : World) (s : ByteArray) (num : Nat) (p : Int) (A : Option Addr) (c : Nat) (l : List Nd) (hB : B ≤ w.heap.size) (hl : NdsR n B w (.slice A l.length c) l) (hll : l.length ≤ 1048576) (hnum : num = 0 ∨ num = 1) :
    Calls Tryd.prog 40 #[.agg #[.int .i64 13, .string s, .int .u64 num, .int .i64 p, .slice A l.length c]] w fun e w' => e = .returned (.bool (decide (num ≤ l.length) && decide (l.length ≤ 16 + num) && l.all fun x => isTypeK x.kind)) ∧ Chg (fun _ _ => False) w w' := by
  rcases hnum with rfl | rfl
  · have gw : IntKind.u64.wrap (l.length : Int) = (l.length : Int) := IntWalk.u64_in _ ⟨by omega, by omega⟩
    have hb1 := Blk.new w 25 #[.int .i64 13, .string s, .int .u64 ((0 : Nat) : Int), .int .i64 p, .slice A l.length c]
    have hc1 := chg_alloc w (.cells #[.int .i64 13, .string s, .int .u64 ((0 : Nat) : Int), .int .i64 p, .slice A l.length c] 25)
    have hl1 := NdsR.keep0 hc1 hl
    clear hB hl hb1
    have hcall := run4_any n B (w.alloc (.cells #[.int .i64 13, .string s, .int .u64 ((0 : Nat) : Int), .int .i64 p, .slice A l.length c] 25)) l A c 116 hl1 hll
    rw [show (fun x : Nd => sortF x.kind == 116) = fun x => isTypeK x.kind from funext fun x => sort_t x.kind] at hcall
    have HC := Lib.hid hc1
    clear hc1 hl1
    cases hx : (l.all fun x => isTypeK x.kind) with
    | false =>
      rw [hx] at hcall
      have HX := Lib.hid hx
      clear hx
      go_enter Tryd.func40, Tryd.ntmps40
      go_wp2_with fail
      refine hcall.mono fun e w1 h => ?_
      obtain ⟨rfl, rfl⟩ := h
      clear hcall
      go_wp2_with fail
      go_ret
      exact ⟨by rw [Bool.and_false]; rfl, HC.out⟩
    | true =>
      rw [hx] at hcall
      have HX := Lib.hid hx
      clear hx
      have GA := Lib.hid (show decide (0 ≤ l.length) = true from decide_eq_true (by omega))
      have ga0 : decide ((0 : Int) ≤ (l.length : Int)) = true := decide_eq_true (by omega)
      have ga1 : decide ((l.length : Int) ≥ 0) = true := decide_eq_true (by omega)
      by_cases gb : l.length ≤ 16 + 0
      · have GB := Lib.hid (show decide (l.length ≤ 16 + 0) = true from decide_eq_true gb)
        have gb0 : decide (l.length ≤ 16) = true := by first | exact decide_eq_true (by omega) | (simp; omega)
        have gb1 : decide ((l.length : Int) ≤ 16) = true := by first | exact decide_eq_true (by omega) | (simp; omega)
        clear gb
        go_enter Tryd.func40, Tryd.ntmps40
        go_wp2_with fail
        refine hcall.mono fun e w1 h => ?_
        obtain ⟨rfl, rfl⟩ := h
        clear hcall
        go_wp2_with fail
        go_ret
        exact ⟨by rw [GA.out, GB.out]; rfl, HC.out⟩
      · have GB := Lib.hid (show decide (l.length ≤ 16 + 0) = false from decide_eq_false gb)
        have gb0 : decide (l.length ≤ 16) = false := by first | exact decide_eq_false (by omega) | (simp; omega)
        have gb1 : decide ((l.length : Int) ≤ 16) = false := by first | exact decide_eq_false (by omega) | (simp; omega)
        clear gb
        go_enter Tryd.func40, Tryd.ntmps40
        go_wp2_with fail
        refine hcall.mono fun e w1 h => ?_
        obtain ⟨rfl, rfl⟩ := h
        clear hcall
        go_wp2_with fail
        go_ret
        exact ⟨by rw [GA.out, GB.out]; rfl, HC.out⟩
  · have gw : IntKind.u64.wrap (l.length : Int) = (l.length : Int) := IntWalk.u64_in _ ⟨by omega, by omega⟩
    have hb1 := Blk.new w 25 #[.int .i64 13, .string s, .int .u64 ((1 : Nat) : Int), .int .i64 p, .slice A l.length c]
    have hc1 := chg_alloc w (.cells #[.int .i64 13, .string s, .int .u64 ((1 : Nat) : Int), .int .i64 p, .slice A l.length c] 25)
    have hl1 := NdsR.keep0 hc1 hl
    clear hB hl hb1
    have hcall := run4_any n B (w.alloc (.cells #[.int .i64 13, .string s, .int .u64 ((1 : Nat) : Int), .int .i64 p, .slice A l.length c] 25)) l A c 116 hl1 hll
    rw [show (fun x : Nd => sortF x.kind == 116) = fun x => isTypeK x.kind from funext fun x => sort_t x.kind] at hcall
    have HC := Lib.hid hc1
    clear hc1 hl1
    cases hx : (l.all fun x => isTypeK x.kind) with
    | false =>
      rw [hx] at hcall
      have HX := Lib.hid hx
      clear hx
      go_enter Tryd.func40, Tryd.ntmps40
      go_wp2_with fail
      refine hcall.mono fun e w1 h => ?_
      obtain ⟨rfl, rfl⟩ := h
      clear hcall
      go_wp2_with fail
      go_ret
      exact ⟨by rw [Bool.and_false]; rfl, HC.out⟩
    | true =>
      rw [hx] at hcall
      have HX := Lib.hid hx
      clear hx
      by_cases ga : 1 ≤ l.length
      · have GA := Lib.hid (show decide (1 ≤ l.length) = true from decide_eq_true ga)
        have ga0 : decide (1 ≤ l.length) = true := by first | exact decide_eq_true (by omega) | (simp; omega)
        have ga1 : decide ((1 : Int) ≤ (l.length : Int)) = true := by first | exact decide_eq_true (by omega) | (simp; omega)
        have ga2 : decide (0 < l.length) = true := by first | exact decide_eq_true (by omega) | (simp; omega)
        have ga3 : decide ((0 : Int) < (l.length : Int)) = true := by first | exact decide_eq_true (by omega) | (simp; omega)
        have ga4 : decide (l.length ≥ 1) = true := by first | exact decide_eq_true (by omega) | (simp; omega)
        have ga5 : decide ((l.length : Int) ≥ 1) = true := by first | exact decide_eq_true (by omega) | (simp; omega)
        clear ga
        by_cases gb : l.length ≤ 16 + 1
        · have GB := Lib.hid (show decide (l.length ≤ 16 + 1) = true from decide_eq_true gb)
          have gb0 : decide (l.length ≤ 17) = true := by first | exact decide_eq_true (by omega) | (simp; omega)
          have gb1 : decide ((l.length : Int) ≤ 17) = true := by first | exact decide_eq_true (by omega) | (simp; omega)
          clear gb
          go_enter Tryd.func40, Tryd.ntmps40
          go_wp2_with fail
          refine hcall.mono fun e w1 h => ?_
          obtain ⟨rfl, rfl⟩ := h
          clear hcall
          go_wp2_with fail
          go_ret
          exact ⟨by rw [GA.out, GB.out]; rfl, HC.out⟩
        · have GB := Lib.hid (show decide (l.length ≤ 16 + 1) = false from decide_eq_false gb)
          have gb0 : decide (l.length ≤ 17) = false := by first | exact decide_eq_false (by omega) | (simp; omega)
          have gb1 : decide ((l.length : Int) ≤ 17) = false := by first | exact decide_eq_false (by omega) | (simp; omega)
          clear gb
          go_enter Tryd.func40, Tryd.ntmps40
          go_wp2_with fail
          refine hcall.mono fun e w1 h => ?_
          obtain ⟨rfl, rfl⟩ := h
          clear hcall
          go_wp2_with fail
          go_ret
          exact ⟨by rw [GA.out, GB.out]; rfl, HC.out⟩
      · have GA := Lib.hid (show decide (1 ≤ l.length) = false from decide_eq_false ga)
        have ga0 : decide (1 ≤ l.length) = false := by first | exact decide_eq_false (by omega) | (simp; omega)
        have ga1 : decide ((1 : Int) ≤ (l.length : Int)) = false := by first | exact decide_eq_false (by omega) | (simp; omega)
        have ga2 : decide (0 < l.length) = false := by first | exact decide_eq_false (by omega) | (simp; omega)
        have ga3 : decide ((0 : Int) < (l.length : Int)) = false := by first | exact decide_eq_false (by omega) | (simp; omega)
        have ga4 : decide (l.length ≥ 1) = false := by first | exact decide_eq_false (by omega) | (simp; omega)
        have ga5 : decide ((l.length : Int) ≥ 1) = false := by first | exact decide_eq_false (by omega) | (simp; omega)
        clear ga
        go_enter Tryd.func40, Tryd.ntmps40
        go_wp2_with fail
        refine hcall.mono fun e w1 h => ?_
        obtain ⟨rfl, rfl⟩ := h
        clear hcall
        go_wp2_with fail
        go_ret
        exact ⟨by rw [GA.out]; rfl, HC.out⟩
set_option maxRecDepth 100000 in
set_option maxHeartbeats 2000000 in
theorem child_23 (n B : Nat) (w : World) (s : ByteArray) (num : Nat) (p : Int) (A : Option Addr) (c : Nat) (l : List Nd) (hB : B ≤ w.heap.size) (hl : NdsR n B w (.slice A l.length c) l) (hll : l.length ≤ 1048576) :
    Calls Tryd.prog 40 #[.agg #[.int .i64 23, .string s, .int .u64 num, .int .i64 p, .slice A l.length c]] w fun e w' => e = .returned (.bool (kindsF l [-1, -1] && firstK l fun k => decide (k = 30) || (decide (k = 35) || decide (k = 36)))) ∧ Chg (fun _ _ => False) w w' := by
  have hb1 := Blk.new w 25 #[.int .i64 23, .string s, .int .u64 num, .int .i64 p, .slice A l.length c]
  have hc1 := chg_alloc w (.cells #[.int .i64 23, .string s, .int .u64 num, .int .i64 p, .slice A l.length c] 25)
  have hl1 := NdsR.keep0 hc1 hl
  clear hB hl hb1
  have hcall := rlist_any n B (w.alloc (.cells #[.int .i64 23, .string s, .int .u64 num, .int .i64 p, .slice A l.length c] 25)) l [101, 101] A c hl1 hll (by decide) (by decide)
  rw [show (([101, 101] : List UInt8).map trL) = [-1, -1] by decide] at hcall
  have hcc := hc1
  cases hx : kindsF l [-1, -1] with
  | false =>
    rw [hx] at hcall
    have HX := Lib.hid hx
    have HC := Lib.hid hcc
    clear hx hl1 hc1 hcc
    go_enter Tryd.func40, Tryd.ntmps40
    go_wp2_with fail
    refine hcall.mono fun e w1 h => ?_
    obtain ⟨rfl, hc2⟩ := h
    clear hcall
    go_wp2_with fail
    go_ret
    exact ⟨rfl, HC.out.trans hc2⟩
  | true =>
    rw [hx] at hcall
    have hlen : l.length = 2 := (kindsF_true.1 hx).1
    have HX := Lib.hid hx
    have q2 : (0 : Int) < (l.length : Int) := by omega
    have HC := Lib.hid (And.intro hcc (And.intro hl1 hlen))
    clear hx hl1 hc1 hlen hcc
    obtain ⟨b, o, x, X, cx, rfl, hkx, hRx, z0, z1, z2, z3, z4⟩ := NdsR.at_ HC.out.2.1 (k := 0) (by have := HC.out.2.2; omega)
    rw [show o + 0 * 5 = o by omega] at z0 z1 z2 z3 z4
    have HK := Lib.hid (And.intro hkx z0)
    clear hkx hRx z0 z1 z2 z3 z4
    by_cases k30 : x.kind = 30
    · have r30 : (x.kind == 30) = true := by simp [k30]
      have HV := Lib.hid k30
      clear k30
      go_enter Tryd.func40, Tryd.ntmps40
      go_wp2_with fail
      refine hcall.mono fun e w1 h => ?_
      obtain ⟨rfl, hc2⟩ := h
      clear hcall
      have z0 := hc2.cell HK.out.2 fun _ => id
      have HD := Lib.hid (HC.out.1.trans hc2)
      clear hc2
      go_wp2_with fail
      go_ret
      exact ⟨by rw [firstK_at HK.out.1, HV.out]; rfl, HD.out⟩
    · have r30 : (x.kind == 30) = false := by simp [k30]
      by_cases k35 : x.kind = 35
      · have r35 : (x.kind == 35) = true := by simp [k35]
        have HV := Lib.hid k35
        clear k30 k35
        go_enter Tryd.func40, Tryd.ntmps40
        go_wp2_with fail
        refine hcall.mono fun e w1 h => ?_
        obtain ⟨rfl, hc2⟩ := h
        clear hcall
        have z0 := hc2.cell HK.out.2 fun _ => id
        have HD := Lib.hid (HC.out.1.trans hc2)
        clear hc2
        go_wp2_with fail
        go_ret
        exact ⟨by rw [firstK_at HK.out.1, HV.out]; rfl, HD.out⟩
      · have r35 : (x.kind == 35) = false := by simp [k35]
        by_cases k36 : x.kind = 36
        · have r36 : (x.kind == 36) = true := by simp [k36]
          have HV := Lib.hid k36
          clear k30 k35 k36
          go_enter Tryd.func40, Tryd.ntmps40
          go_wp2_with fail
          refine hcall.mono fun e w1 h => ?_
          obtain ⟨rfl, hc2⟩ := h
          clear hcall
          have z0 := hc2.cell HK.out.2 fun _ => id
          have HD := Lib.hid (HC.out.1.trans hc2)
          clear hc2
          go_wp2_with fail
          go_ret
          exact ⟨by rw [firstK_at HK.out.1, HV.out]; rfl, HD.out⟩
        · have r36 : (x.kind == 36) = false := by simp [k36]
          have HV := Lib.hid (And.intro k30 (And.intro k35 k36))
          clear k30 k35 k36
          go_enter Tryd.func40, Tryd.ntmps40
          go_wp2_with fail
          refine hcall.mono fun e w1 h => ?_
          obtain ⟨rfl, hc2⟩ := h
          clear hcall
          have z0 := hc2.cell HK.out.2 fun _ => id
          have HD := Lib.hid (HC.out.1.trans hc2)
          clear hc2
          go_wp2_with fail
          go_ret
          exact ⟨by rw [firstK_at HK.out.1]; simp [HV.out.1, HV.out.2.1, HV.out.2.2], HD.out⟩
set_option maxRecDepth 100000 in
set_option maxHeartbeats 2000000 in
theorem child_33 (n B : Nat) (w : World) (s : ByteArray) (num : Nat) (p : Int) (A : Option Addr) (c : Nat) (l : List Nd) (hB : B ≤ w.heap.size) (hl : NdsR n B w (.slice A l.length c) l) (hll : l.length ≤ 1048576) (h33 : l.length = 1 ∨ l.length = 2) :
    Calls Tryd.prog 40 #[.agg #[.int .i64 33, .string s, .int .u64 num, .int .i64 p, .slice A l.length c]] w fun e w' => e = .returned (.bool (l.all fun x => isExprK x.kind)) ∧ Chg (fun _ _ => False) w w' := by
  have hb1 := Blk.new w 25 #[.int .i64 33, .string s, .int .u64 num, .int .i64 p, .slice A l.length c]
  have hc1 := chg_alloc w (.cells #[.int .i64 33, .string s, .int .u64 num, .int .i64 p, .slice A l.length c] 25)
  have hl1 := NdsR.keep0 hc1 hl
  clear hB hl hb1
  have hcall := rlist_any n B (w.alloc (.cells #[.int .i64 33, .string s, .int .u64 num, .int .i64 p, .slice A l.length c] 25)) l [101] A c hl1 hll (by decide) (by decide)
  rw [show (([101] : List UInt8).map trL) = [-1] by decide] at hcall
  have hcc0 := hc1
  cases hx0 : kindsF l [-1] with
  | true =>
    rw [hx0] at hcall
    have HX0 := Lib.hid hx0
    clear hx0
    have HC0 := Lib.hid (And.intro hcc0 hl1)
    clear hcc0 hl1 hc1
    go_enter Tryd.func40, Tryd.ntmps40
    go_wp2_with fail
    refine hcall.mono fun e v0 h => ?_
    obtain ⟨rfl, hv0⟩ := h
    clear hcall
    go_wp2_with fail
    go_ret
    exact ⟨by rw [← kinds_one_two h33]; simp [HX0.out], HC0.out.1.trans hv0⟩
  | false =>
    rw [hx0] at hcall
    have HX0 := Lib.hid hx0
    clear hx0
    have HC0 := Lib.hid (And.intro hcc0 hl1)
    clear hcc0 hl1 hc1
    go_enter Tryd.func40, Tryd.ntmps40
    go_wp2_with fail
    refine hcall.mono fun e v0 h => ?_
    obtain ⟨rfl, hv0⟩ := h
    clear hcall
    have hw0 := HC0.out.1.trans hv0
    have hl2 := NdsR.keep0 hv0 HC0.out.2
    clear hv0
    have hcall := rlist_any n B (v0) l [101, 101] A c hl2 hll (by decide) (by decide)
    rw [show (([101, 101] : List UInt8).map trL) = [-1, -1] by decide] at hcall
    have hcc1 := hw0
    cases hx1 : kindsF l [-1, -1] with
    | true =>
      rw [hx1] at hcall
      have HX1 := Lib.hid hx1
      clear hx1
      have HC1 := Lib.hid (And.intro hcc1 hl2)
      clear hcc1 hl2
      go_wp2_with fail
      refine hcall.mono fun e v1 h => ?_
      obtain ⟨rfl, hv1⟩ := h
      clear hcall
      go_wp2_with fail
      go_ret
      exact ⟨by rw [← kinds_one_two h33]; simp [HX0.out, HX1.out], HC1.out.1.trans hv1⟩
    | false =>
      rw [hx1] at hcall
      have HX1 := Lib.hid hx1
      clear hx1
      have HC1 := Lib.hid (And.intro hcc1 hl2)
      clear hcc1 hl2
      go_wp2_with fail
      refine hcall.mono fun e v1 h => ?_
      obtain ⟨rfl, hv1⟩ := h
      clear hcall
      go_wp2_with fail
      go_ret
      exact ⟨by rw [← kinds_one_two h33]; simp [HX0.out, HX1.out], HC1.out.1.trans hv1⟩
set_option maxRecDepth 100000 in
set_option maxHeartbeats 2000000 in
theorem child_34 (n B : Nat) (w : World) (s : ByteArray) (num : Nat) (p : Int) (A : Option Addr) (c : Nat) (l : List Nd) (hB : B ≤ w.heap.size) (hl : NdsR n B w (.slice A l.length c) l) (hll : l.length ≤ 1048576) :
    Calls Tryd.prog 40 #[.agg #[.int .i64 34, .string s, .int .u64 num, .int .i64 p, .slice A l.length c]] w fun e w' => e = .returned (.bool (decide (1 ≤ l.length) && decide (l.length ≤ 17) && l.all fun x => isExprK x.kind)) ∧ Chg (fun _ _ => False) w w' := by
  by_cases ga : 1 ≤ l.length
  · have GA := Lib.hid (show decide (1 ≤ l.length) = true from decide_eq_true ga)
    have ga0 : decide (1 ≤ l.length) = true := by first | exact decide_eq_true (by omega) | (simp; omega)
    have ga1 : decide ((1 : Int) ≤ (l.length : Int)) = true := by first | exact decide_eq_true (by omega) | (simp; omega)
    have ga2 : decide (0 < l.length) = true := by first | exact decide_eq_true (by omega) | (simp; omega)
    have ga3 : decide ((0 : Int) < (l.length : Int)) = true := by first | exact decide_eq_true (by omega) | (simp; omega)
    have ga4 : decide (l.length ≥ 1) = true := by first | exact decide_eq_true (by omega) | (simp; omega)
    have ga5 : decide ((l.length : Int) ≥ 1) = true := by first | exact decide_eq_true (by omega) | (simp; omega)
    clear ga
    by_cases gb : l.length ≤ 17
    · have GB := Lib.hid (show decide (l.length ≤ 17) = true from decide_eq_true gb)
      have gb0 : decide (l.length ≤ 17) = true := by first | exact decide_eq_true (by omega) | (simp; omega)
      have gb1 : decide ((l.length : Int) ≤ 17) = true := by first | exact decide_eq_true (by omega) | (simp; omega)
      clear gb
      have hb1 := Blk.new w 25 #[.int .i64 34, .string s, .int .u64 num, .int .i64 p, .slice A l.length c]
      have hc1 := chg_alloc w (.cells #[.int .i64 34, .string s, .int .u64 num, .int .i64 p, .slice A l.length c] 25)
      have hl1 := NdsR.keep0 hc1 hl
      clear hB hl hb1
      have hcall := run4_any n B (w.alloc (.cells #[.int .i64 34, .string s, .int .u64 num, .int .i64 p, .slice A l.length c] 25)) l A c 101 hl1 hll
      rw [show (fun x : Nd => sortF x.kind == 101) = fun x => isExprK x.kind from funext fun x => sort_e x.kind] at hcall
      have HC := Lib.hid hc1
      clear hc1 hl1
      go_enter Tryd.func40, Tryd.ntmps40
      go_wp2_with fail
      refine hcall.mono fun e w1 h => ?_
      obtain ⟨rfl, rfl⟩ := h
      clear hcall
      go_wp2_with fail
      go_ret
      exact ⟨by rw [GA.out, GB.out]; rfl, HC.out⟩
    · have GB := Lib.hid (show decide (l.length ≤ 17) = false from decide_eq_false gb)
      have gb0 : decide (l.length ≤ 17) = false := by first | exact decide_eq_false (by omega) | (simp; omega)
      have gb1 : decide ((l.length : Int) ≤ 17) = false := by first | exact decide_eq_false (by omega) | (simp; omega)
      clear gb
      have hc1 := chg_alloc w (.cells #[.int .i64 34, .string s, .int .u64 num, .int .i64 p, .slice A l.length c] 25)
      have HC := Lib.hid hc1
      clear hc1 hB hl
      go_enter Tryd.func40, Tryd.ntmps40
      go_wp2_with fail
      go_ret
      exact ⟨by rw [GA.out, GB.out]; rfl, HC.out⟩
  · have GA := Lib.hid (show decide (1 ≤ l.length) = false from decide_eq_false ga)
    have ga0 : decide (1 ≤ l.length) = false := by first | exact decide_eq_false (by omega) | (simp; omega)
    have ga1 : decide ((1 : Int) ≤ (l.length : Int)) = false := by first | exact decide_eq_false (by omega) | (simp; omega)
    have ga2 : decide (0 < l.length) = false := by first | exact decide_eq_false (by omega) | (simp; omega)
    have ga3 : decide ((0 : Int) < (l.length : Int)) = false := by first | exact decide_eq_false (by omega) | (simp; omega)
    have ga4 : decide (l.length ≥ 1) = false := by first | exact decide_eq_false (by omega) | (simp; omega)
    have ga5 : decide ((l.length : Int) ≥ 1) = false := by first | exact decide_eq_false (by omega) | (simp; omega)
    clear ga
    have hc1 := chg_alloc w (.cells #[.int .i64 34, .string s, .int .u64 num, .int .i64 p, .slice A l.length c] 25)
    have HC := Lib.hid hc1
    clear hc1 hB hl
    go_enter Tryd.func40, Tryd.ntmps40
    go_wp2_with fail
    go_ret
    exact ⟨by rw [GA.out]; rfl, HC.out⟩
set_option maxRecDepth 100000 in
set_option maxHeartbeats 2000000 in
theorem child_40 (n B : Nat) (w : World) (s : ByteArray) (num : Nat) (p : Int) (A : Option Addr) (c : Nat) (l : List Nd) (hB : B ≤ w.heap.size) (hl : NdsR n B w (.slice A l.length c) l) (hll : l.length ≤ 1048576) :
    Calls Tryd.prog 40 #[.agg #[.int .i64 40, .string s, .int .u64 num, .int .i64 p, .slice A l.length c]] w fun e w' => e = .returned (.bool (kindsF l [-2, -1])) ∧ Chg (fun _ _ => False) w w' := by
  have hb1 := Blk.new w 25 #[.int .i64 40, .string s, .int .u64 num, .int .i64 p, .slice A l.length c]
  have hc1 := chg_alloc w (.cells #[.int .i64 40, .string s, .int .u64 num, .int .i64 p, .slice A l.length c] 25)
  have hl1 := NdsR.keep0 hc1 hl
  clear hB hl hb1
  have hcall := rlist_any n B (w.alloc (.cells #[.int .i64 40, .string s, .int .u64 num, .int .i64 p, .slice A l.length c] 25)) l [116, 101] A c hl1 hll (by decide) (by decide)
  rw [show (([116, 101] : List UInt8).map trL) = [-2, -1] by decide] at hcall
  have HC := Lib.hid hc1
  clear hc1 hl1
  go_enter Tryd.func40, Tryd.ntmps40
  go_wp2_with fail
  refine hcall.mono fun e w1 h => ?_
  obtain ⟨rfl, hc2⟩ := h
  clear hcall
  go_wp2_with fail
  go_ret
  exact ⟨rfl, HC.out.trans hc2⟩
set_option maxRecDepth 100000 in
set_option maxHeartbeats 2000000 in
theorem child_41 (n B : Nat) (w : World) (s : ByteArray) (num : Nat) (p : Int) (A : Option Addr) (c : Nat) (l : List Nd) (hB : B ≤ w.heap.size) (hl : NdsR n B w (.slice A l.length c) l) (hll : l.length ≤ 1048576) :
    Calls Tryd.prog 40 #[.agg #[.int .i64 41, .string s, .int .u64 num, .int .i64 p, .slice A l.length c]] w fun e w' => e = .returned (.bool (kindsF l [-1, -1])) ∧ Chg (fun _ _ => False) w w' := by
  have hb1 := Blk.new w 25 #[.int .i64 41, .string s, .int .u64 num, .int .i64 p, .slice A l.length c]
  have hc1 := chg_alloc w (.cells #[.int .i64 41, .string s, .int .u64 num, .int .i64 p, .slice A l.length c] 25)
  have hl1 := NdsR.keep0 hc1 hl
  clear hB hl hb1
  have hcall := rlist_any n B (w.alloc (.cells #[.int .i64 41, .string s, .int .u64 num, .int .i64 p, .slice A l.length c] 25)) l [101, 101] A c hl1 hll (by decide) (by decide)
  rw [show (([101, 101] : List UInt8).map trL) = [-1, -1] by decide] at hcall
  have HC := Lib.hid hc1
  clear hc1 hl1
  go_enter Tryd.func40, Tryd.ntmps40
  go_wp2_with fail
  refine hcall.mono fun e w1 h => ?_
  obtain ⟨rfl, hc2⟩ := h
  clear hcall
  go_wp2_with fail
  go_ret
  exact ⟨rfl, HC.out.trans hc2⟩
set_option maxRecDepth 100000 in
set_option maxHeartbeats 2000000 in
theorem child_43 (n B : Nat) (w : World) (s : ByteArray) (num : Nat) (p : Int) (A : Option Addr) (c : Nat) (l : List Nd) (hB : B ≤ w.heap.size) (hl : NdsR n B w (.slice A l.length c) l) (hll : l.length ≤ 1048576) :
    Calls Tryd.prog 40 #[.agg #[.int .i64 43, .string s, .int .u64 num, .int .i64 p, .slice A l.length c]] w fun e w' => e = .returned (.bool (kindsF l [-1, 20])) ∧ Chg (fun _ _ => False) w w' := by
  have hb1 := Blk.new w 25 #[.int .i64 43, .string s, .int .u64 num, .int .i64 p, .slice A l.length c]
  have hc1 := chg_alloc w (.cells #[.int .i64 43, .string s, .int .u64 num, .int .i64 p, .slice A l.length c] 25)
  have hl1 := NdsR.keep0 hc1 hl
  clear hB hl hb1
  have hcall := rlist_any n B (w.alloc (.cells #[.int .i64 43, .string s, .int .u64 num, .int .i64 p, .slice A l.length c] 25)) l [101, 98] A c hl1 hll (by decide) (by decide)
  rw [show (([101, 98] : List UInt8).map trL) = [-1, 20] by decide] at hcall
  have HC := Lib.hid hc1
  clear hc1 hl1
  go_enter Tryd.func40, Tryd.ntmps40
  go_wp2_with fail
  refine hcall.mono fun e w1 h => ?_
  obtain ⟨rfl, hc2⟩ := h
  clear hcall
  go_wp2_with fail
  go_ret
  exact ⟨rfl, HC.out.trans hc2⟩
set_option maxRecDepth 100000 in
set_option maxHeartbeats 2000000 in
theorem child_44 (n B : Nat) (w : World) (s : ByteArray) (num : Nat) (p : Int) (A : Option Addr) (c : Nat) (l : List Nd) (hB : B ≤ w.heap.size) (hl : NdsR n B w (.slice A l.length c) l) (hll : l.length ≤ 1048576) :
    Calls Tryd.prog 40 #[.agg #[.int .i64 44, .string s, .int .u64 num, .int .i64 p, .slice A l.length c]] w fun e w' => e = .returned (.bool (kindsF l [-1, -1, 20])) ∧ Chg (fun _ _ => False) w w' := by
  have hb1 := Blk.new w 25 #[.int .i64 44, .string s, .int .u64 num, .int .i64 p, .slice A l.length c]
  have hc1 := chg_alloc w (.cells #[.int .i64 44, .string s, .int .u64 num, .int .i64 p, .slice A l.length c] 25)
  have hl1 := NdsR.keep0 hc1 hl
  clear hB hl hb1
  have hcall := rlist_any n B (w.alloc (.cells #[.int .i64 44, .string s, .int .u64 num, .int .i64 p, .slice A l.length c] 25)) l [101, 101, 98] A c hl1 hll (by decide) (by decide)
  rw [show (([101, 101, 98] : List UInt8).map trL) = [-1, -1, 20] by decide] at hcall
  have HC := Lib.hid hc1
  clear hc1 hl1
  go_enter Tryd.func40, Tryd.ntmps40
  go_wp2_with fail
  refine hcall.mono fun e w1 h => ?_
  obtain ⟨rfl, hc2⟩ := h
  clear hcall
  go_wp2_with fail
  go_ret
  exact ⟨rfl, HC.out.trans hc2⟩
set_option maxRecDepth 100000 in
set_option maxHeartbeats 2000000 in
theorem child_45 (n B : Nat) (w : World) (s : ByteArray) (num : Nat) (p : Int) (A : Option Addr) (c : Nat) (l : List Nd) (hB : B ≤ w.heap.size) (hl : NdsR n B w (.slice A l.length c) l) (hll : l.length ≤ 1048576) :
    Calls Tryd.prog 40 #[.agg #[.int .i64 45, .string s, .int .u64 num, .int .i64 p, .slice A l.length c]] w fun e w' => e = .returned (.bool (kindsF l [20])) ∧ Chg (fun _ _ => False) w w' := by
  have hb1 := Blk.new w 25 #[.int .i64 45, .string s, .int .u64 num, .int .i64 p, .slice A l.length c]
  have hc1 := chg_alloc w (.cells #[.int .i64 45, .string s, .int .u64 num, .int .i64 p, .slice A l.length c] 25)
  have hl1 := NdsR.keep0 hc1 hl
  clear hB hl hb1
  have hcall := rlist_any n B (w.alloc (.cells #[.int .i64 45, .string s, .int .u64 num, .int .i64 p, .slice A l.length c] 25)) l [98] A c hl1 hll (by decide) (by decide)
  rw [show (([98] : List UInt8).map trL) = [20] by decide] at hcall
  have HC := Lib.hid hc1
  clear hc1 hl1
  go_enter Tryd.func40, Tryd.ntmps40
  go_wp2_with fail
  refine hcall.mono fun e w1 h => ?_
  obtain ⟨rfl, hc2⟩ := h
  clear hcall
  go_wp2_with fail
  go_ret
  exact ⟨rfl, HC.out.trans hc2⟩
end Go.Proofs.YtgaodjoddfjfmaaDoor
