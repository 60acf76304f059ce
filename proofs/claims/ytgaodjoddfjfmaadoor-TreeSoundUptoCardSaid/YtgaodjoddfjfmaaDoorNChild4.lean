/-
  The reference's children, kind by kind (4: the loops).
-/
import Derived.Test.YtgaodjoddfjfmaaDoorNRef2
import Derived.Test.YtgaodjoddfjfmaaDoorNList4
namespace Go.Proofs.YtgaodjoddfjfmaaDoor
open Go.RowKit
set_option linter.unusedVariables false
set_option linter.unusedSimpArgs false

def cs4Rel (l : List Nd) (W : World) (v i : Value) (wr : World) : Prop := ∃ k : Nat, k ≤ l.length ∧ i = .int .i64 k ∧ v = .int .i64 ((l.take k).countP fun x => x.kind == 45 : Nat) ∧ (l.take k).all (fun x => isCaseK x.kind) = true ∧ wr = W
def tlRel (l : List Nd) (W : World) (i : Value) (wr : World) : Prop := ∃ k : Nat, k ≤ l.length + 1 ∧ 1 ≤ k ∧ i = .int .i64 k ∧ (∀ j y, 1 ≤ j → j < k → l[j]? = some y → isArgK y.kind = true) ∧ wr = W
theorem tail_at {l : List Nd} (j : Nat) : l.tail[j]? = l[j + 1]? := by cases l <;> rfl
theorem tail_not {l : List Nd} {k : Nat} {x : Nd} (h1 : 1 ≤ k) (h : l[k]? = some x) (hq : isArgK x.kind = false) : (l.tail.all fun x => isArgK x.kind) = false := by
  rw [List.all_eq_false]
  refine ⟨x, ?_, by simp [hq]⟩
  obtain ⟨k, rfl⟩ : ∃ j, k = j + 1 := ⟨k - 1, by omega⟩
  rw [← tail_at] at h
  exact List.mem_of_getElem? h
theorem tail_all {l : List Nd} (h : ∀ j y, 1 ≤ j → l[j]? = some y → isArgK y.kind = true) : (l.tail.all fun x => isArgK x.kind) = true := by
  rw [List.all_eq_true]
  intro x hx
  obtain ⟨j, hj⟩ := List.getElem?_of_mem hx
  rw [tail_at] at hj
  exact h _ x (by omega) hj
set_option maxRecDepth 100000 in
set_option maxHeartbeats 2000000 in
theorem child_1 (n B : Nat) (w : World) (s : ByteArray) (num : Nat) (p : Int) (A : Option Addr) (c : Nat) (l : List Nd) (hB : B ≤ w.heap.size) (hl : NdsR n B w (.slice A l.length c) l) (hll : l.length ≤ 1048576) :
    Calls Tryd.prog 40 #[.agg #[.int .i64 1, .string s, .int .u64 num, .int .i64 p, .slice A l.length c]] w fun e w' => e = .returned (.bool (l.all fun x => isTopK x.kind)) ∧ Chg (fun _ _ => False) w w' := by
  have hc1 := chg_alloc w (.cells #[.int .i64 1, .string s, .int .u64 num, .int .i64 p, .slice A l.length c] 25)
  have hl1 := NdsR.keep0 hc1 hl
  clear hB hl
  go_enter Tryd.func40, Tryd.ntmps40
  go_wp2_with fail
  generalize w.alloc (.cells #[.int .i64 1, .string s, .int .u64 num, .int .i64 p, .slice A l.length c] 25) = W at hl1 hc1 ⊢
  have HH := Lib.hid (And.intro hl1 hc1)
  clear hl1 hc1
  go_loopw [5] (fun i wr => alRel l (fun x => isTopK x.kind) W i wr) (fun i _ => l.length - (intOf i).toNat)
  case atStart => exact ⟨0, Nat.zero_le _, rfl, by simp, rfl⟩
  case round =>
    obtain ⟨k, hk, rfl, ha, rfl⟩ := hrel
    have q3 : IntKind.i64.wrap ((k : Int) + 1) = (k : Int) + 1 := IntWalk.i64_in _ ⟨by omega, by omega⟩
    by_cases hlt : k < l.length
    · have q1 : decide (k < l.length) = true := decide_eq_true hlt
      have q2 : (k : Int) < (l.length : Int) := by omega
      obtain ⟨bb, oo, x, X, cx, rfl, hkx, hRx, z0, z1, z2, z3, z4⟩ := NdsR.at_ HH.out.1 hlt
      by_cases k2 : x.kind = 2
      · have r2 : (x.kind != 2) = false := by simp [k2]
        have HK := Lib.hid (And.intro ha (And.intro hkx (show isTopK x.kind = true by unfold isTopK; exact decide_eq_true (by omega))))
        clear ha hkx hRx z1 z2 z3 z4
        clear k2
        go_wp2_with fail
        go_roundw
        case rel => exact ⟨k + 1, hlt, by simp, all_succ HK.out.2.1 HK.out.2.2 HK.out.1, rfl⟩
        case measure => simp [intOf]; omega
      · have r2 : (x.kind != 2) = true := by simp [k2]
        by_cases k3 : x.kind = 3
        · have r3 : (x.kind != 3) = false := by simp [k3]
          have HK := Lib.hid (And.intro ha (And.intro hkx (show isTopK x.kind = true by unfold isTopK; exact decide_eq_true (by omega))))
          clear ha hkx hRx z1 z2 z3 z4
          clear k2 k3
          go_wp2_with fail
          go_roundw
          case rel => exact ⟨k + 1, hlt, by simp, all_succ HK.out.2.1 HK.out.2.2 HK.out.1, rfl⟩
          case measure => simp [intOf]; omega
        · have r3 : (x.kind != 3) = true := by simp [k3]
          have HK := Lib.hid (And.intro ha (And.intro hkx (show isTopK x.kind = false by unfold isTopK; exact decide_eq_false (by omega))))
          clear ha hkx hRx z1 z2 z3 z4
          clear k2 k3
          go_wp2_with fail
          go_ret
          exact ⟨by rw [all_not HK.out.2.1 HK.out.2.2]; rfl, HH.out.2⟩
    · have q1 : decide (k < l.length) = false := decide_eq_false hlt
      obtain rfl : k = l.length := by omega
      rw [List.take_length] at ha
      have HK := Lib.hid ha
      clear ha
      go_wp2_with fail
      go_ret
      exact ⟨by rw [HK.out]; rfl, HH.out.2⟩
set_option maxRecDepth 100000 in
set_option maxHeartbeats 2000000 in
theorem child_42 (n B : Nat) (w : World) (s : ByteArray) (num : Nat) (p : Int) (A : Option Addr) (c : Nat) (l : List Nd) (hB : B ≤ w.heap.size) (hl : NdsR n B w (.slice A l.length c) l) (hll : l.length ≤ 1048576) :
    Calls Tryd.prog 40 #[.agg #[.int .i64 42, .string s, .int .u64 num, .int .i64 p, .slice A l.length c]] w fun e w' => e = .returned (.bool (casesF l)) ∧ Chg (fun _ _ => False) w w' := by
  have hc1 := chg_alloc w (.cells #[.int .i64 42, .string s, .int .u64 num, .int .i64 p, .slice A l.length c] 25)
  have hl1 := NdsR.keep0 hc1 hl
  clear hB hl
  go_enter Tryd.func40, Tryd.ntmps40
  go_wp2_with fail
  generalize w.alloc (.cells #[.int .i64 42, .string s, .int .u64 num, .int .i64 p, .slice A l.length c] 25) = W at hl1 hc1 ⊢
  have HH := Lib.hid (And.intro hl1 hc1)
  clear hl1 hc1
  go_loopw [7, 8] (fun v i wr => cs4Rel l W v i wr) (fun _ i _ => l.length - (intOf i).toNat)
  case atStart => exact ⟨0, Nat.zero_le _, rfl, rfl, by simp, rfl⟩
  case round =>
    obtain ⟨k, hk, rfl, rfl, ha, rfl⟩ := hrel
    have q3 : IntKind.i64.wrap ((k : Int) + 1) = (k : Int) + 1 := IntWalk.i64_in _ ⟨by omega, by omega⟩
    by_cases hlt : k < l.length
    · have q1 : decide (k < l.length) = true := decide_eq_true hlt
      have q2 : (k : Int) < (l.length : Int) := by omega
      obtain ⟨bb, oo, x, X, cx, rfl, hkx, hRx, z0, z1, z2, z3, z4⟩ := NdsR.at_ HH.out.1 hlt
      have hct : (l.take (k + 1)).countP (fun x => x.kind == 45) = (l.take k).countP (fun x => x.kind == 45) + (if x.kind == 45 then 1 else 0) := by
        obtain ⟨h1, h2⟩ := List.getElem?_eq_some_iff.1 hkx
        rw [List.take_succ_eq_append_getElem h1, h2, List.countP_append, List.countP_cons, List.countP_nil, Nat.zero_add]
      have hcl : (l.take k).countP (fun x => x.kind == 45) ≤ k := Nat.le_trans List.countP_le_length (by rw [List.length_take]; omega)
      by_cases k45 : x.kind = 45
      · have q5 : (x.kind == 45) = true := by simp [k45]
        have t1 : decide (x.kind < 43) = false := decide_eq_false (by omega)
        have t2 : decide (x.kind > 45) = false := decide_eq_false (by omega)
        have t3 : decide (45 < x.kind) = false := decide_eq_false (by omega)
        have t4 : ¬ x.kind < 43 := by omega
        have t5 : ¬ 45 < x.kind := by omega
        have Q5 := Lib.hid q5
        have HK := Lib.hid (And.intro ha (And.intro hkx (And.intro hct (show isCaseK x.kind = true by unfold isCaseK; exact decide_eq_true (by omega)))))
        clear ha hkx hRx z1 z2 z3 z4 hct
        generalize (l.take k).countP (fun x => x.kind == 45) = s0 at hcl HK ⊢
        have q4 : IntKind.i64.wrap ((s0 : Int) + 1) = (s0 : Int) + 1 := IntWalk.i64_in _ ⟨by omega, by omega⟩
        clear k45
        go_wp2_with fail
        go_roundw
        case rel => exact ⟨k + 1, hlt, by simp, by rw [HK.out.2.2.1, Q5.out]; simp, all_succ HK.out.2.1 HK.out.2.2.2 HK.out.1, rfl⟩
        case measure => simp [intOf]; omega
      · have q5 : (x.kind == 45) = false := by simp [k45]
        have Q5 := Lib.hid q5
        by_cases k43 : x.kind < 43
        · have t1 : decide (x.kind < 43) = true := decide_eq_true (by omega)
          have HK := Lib.hid (And.intro ha (And.intro hkx (And.intro hct (show isCaseK x.kind = false by unfold isCaseK; exact decide_eq_false (by omega)))))
          clear ha hkx hRx z1 z2 z3 z4 hct
          generalize (l.take k).countP (fun x => x.kind == 45) = s0 at hcl HK ⊢
          have q4 : IntKind.i64.wrap ((s0 : Int) + 1) = (s0 : Int) + 1 := IntWalk.i64_in _ ⟨by omega, by omega⟩
          clear k45
          go_wp2_with fail
          go_ret
          exact ⟨by unfold casesF; rw [all_not HK.out.2.1 HK.out.2.2.2, Bool.and_false]; rfl, HH.out.2⟩
        · have t1 : decide (x.kind < 43) = false := decide_eq_false (by omega)
          by_cases k46 : 45 < x.kind
          · have t2 : decide (x.kind > 45) = true := decide_eq_true (by omega)
            have t3 : decide (45 < x.kind) = true := decide_eq_true (by omega)
            have HK := Lib.hid (And.intro ha (And.intro hkx (And.intro hct (show isCaseK x.kind = false by unfold isCaseK; exact decide_eq_false (by omega)))))
            clear ha hkx hRx z1 z2 z3 z4 hct
            generalize (l.take k).countP (fun x => x.kind == 45) = s0 at hcl HK ⊢
            have q4 : IntKind.i64.wrap ((s0 : Int) + 1) = (s0 : Int) + 1 := IntWalk.i64_in _ ⟨by omega, by omega⟩
            clear k45
            go_wp2_with fail
            go_ret
            exact ⟨by unfold casesF; rw [all_not HK.out.2.1 HK.out.2.2.2, Bool.and_false]; rfl, HH.out.2⟩
          · have t2 : decide (x.kind > 45) = false := decide_eq_false (by omega)
            have t3 : decide (45 < x.kind) = false := decide_eq_false (by omega)
            have HK := Lib.hid (And.intro ha (And.intro hkx (And.intro hct (show isCaseK x.kind = true by unfold isCaseK; exact decide_eq_true (by omega)))))
            clear ha hkx hRx z1 z2 z3 z4 hct
            generalize (l.take k).countP (fun x => x.kind == 45) = s0 at hcl HK ⊢
            have q4 : IntKind.i64.wrap ((s0 : Int) + 1) = (s0 : Int) + 1 := IntWalk.i64_in _ ⟨by omega, by omega⟩
            clear k45
            go_wp2_with fail
            go_roundw
            case rel => exact ⟨k + 1, hlt, by simp, by rw [HK.out.2.2.1, Q5.out]; simp, all_succ HK.out.2.1 HK.out.2.2.2 HK.out.1, rfl⟩
            case measure => simp [intOf]; omega
    · have q1 : decide (k < l.length) = false := decide_eq_false hlt
      obtain rfl : k = l.length := by omega
      rw [List.take_length] at ha ⊢
      have HF := Lib.hid (show casesF l = decide ((l.countP fun x => x.kind == 45) ≤ 1) by unfold casesF; rw [ha, Bool.and_true])
      clear ha
      generalize (l.countP fun x => x.kind == 45) = s0 at HF ⊢
      by_cases h1 : s0 ≤ 1
      · have q5 : decide (s0 ≤ 1) = true := decide_eq_true h1
        have q6 : decide ((s0 : Int) ≤ 1) = true := decide_eq_true (by omega)
        rw [q5] at HF
        clear h1
        go_wp2_with fail
        go_ret
        exact ⟨by rw [HF.out]; rfl, HH.out.2⟩
      · have q5 : decide (s0 ≤ 1) = false := decide_eq_false h1
        have q6 : decide ((s0 : Int) ≤ 1) = false := decide_eq_false (by omega)
        rw [q5] at HF
        clear h1
        go_wp2_with fail
        go_ret
        exact ⟨by rw [HF.out]; rfl, HH.out.2⟩
set_option maxRecDepth 100000 in
set_option maxHeartbeats 2000000 in
theorem child_36 (n B : Nat) (w : World) (s : ByteArray) (num : Nat) (p : Int) (A : Option Addr) (c : Nat) (l : List Nd) (hB : B ≤ w.heap.size) (hl : NdsR n B w (.slice A l.length c) l) (hll : l.length ≤ 1048576) :
    Calls Tryd.prog 40 #[.agg #[.int .i64 36, .string s, .int .u64 num, .int .i64 p, .slice A l.length c]] w fun e w' => e = .returned (.bool (decide (2 ≤ l.length) && decide (l.length ≤ 17) && (firstK l isExprK) && l.tail.all fun x => isArgK x.kind)) ∧ Chg (fun _ _ => False) w w' := by
  have hc1 := chg_alloc w (.cells #[.int .i64 36, .string s, .int .u64 num, .int .i64 p, .slice A l.length c] 25)
  have hl1 := NdsR.keep0 hc1 hl
  clear hB hl
  go_enter Tryd.func40, Tryd.ntmps40
  go_wp2_with fail
  generalize w.alloc (.cells #[.int .i64 36, .string s, .int .u64 num, .int .i64 p, .slice A l.length c] 25) = W at hl1 hc1 ⊢
  have HH := Lib.hid (And.intro hl1 hc1)
  clear hl1 hc1
  go_loopw [6] (fun i wr => tlRel l W i wr) (fun i _ => l.length - (intOf i).toNat)
  case atStart => exact ⟨1, by omega, by omega, rfl, fun j x h1 h2 => by omega, rfl⟩
  case round =>
    obtain ⟨k, hk, h1k, rfl, ha, rfl⟩ := hrel
    have q3 : IntKind.i64.wrap ((k : Int) + 1) = (k : Int) + 1 := IntWalk.i64_in _ ⟨by omega, by omega⟩
    by_cases hlt : k < l.length
    · have q1 : decide (k < l.length) = true := decide_eq_true hlt
      have q2 : (k : Int) < (l.length : Int) := by omega
      obtain ⟨bb, oo, x, X, cx, rfl, hkx, hRx, z0, z1, z2, z3, z4⟩ := NdsR.at_ HH.out.1 hlt
      cases hx : isExprK x.kind with
      | true =>
        have hs : (sortF x.kind != 101) = false := by have := sort_e x.kind; rw [hx] at this; simp only [bne, this]; rfl
        have HK := Lib.hid (And.intro ha (And.intro hkx (And.intro h1k (show isArgK x.kind = true by unfold isArgK; rw [hx]; rfl))))
        clear ha hkx hRx z1 z2 z3 z4 h1k hx
        go_wp2_with fail
        refine (sort_any _ x.kind).mono fun e w5 h => ?_
        obtain ⟨rfl, rfl⟩ := h
        go_wp2_with fail
        go_roundw
        case rel => exact ⟨k + 1, by have := HK.out.2.2.1; omega, by omega, by simp, fun j y h1 h2 hy => by
          by_cases hjk : j = k
          · subst hjk
            rw [HK.out.2.1] at hy
            cases hy
            exact HK.out.2.2.2
          · exact HK.out.1 j y h1 (by omega) hy, rfl⟩
        case measure => simp [intOf]; omega
      | false =>
        have hs : (sortF x.kind != 101) = true := by have := sort_e x.kind; rw [hx] at this; simp only [bne, this]; rfl
        by_cases k11 : x.kind = 11
        · have r11 : (x.kind != 11) = false := by simp [k11]
          have HK := Lib.hid (And.intro ha (And.intro hkx (And.intro h1k (show isArgK x.kind = true by unfold isArgK; rw [k11]; rfl))))
          clear ha hkx hRx z1 z2 z3 z4 h1k hx k11
          go_wp2_with fail
          refine (sort_any _ x.kind).mono fun e w5 h => ?_
          obtain ⟨rfl, rfl⟩ := h
          go_wp2_with fail
          go_roundw
          case rel => exact ⟨k + 1, by have := HK.out.2.2.1; omega, by omega, by simp, fun j y h1 h2 hy => by
            by_cases hjk : j = k
            · subst hjk
              rw [HK.out.2.1] at hy
              cases hy
              exact HK.out.2.2.2
            · exact HK.out.1 j y h1 (by omega) hy, rfl⟩
          case measure => simp [intOf]; omega
        · have r11 : (x.kind != 11) = true := by simp [k11]
          by_cases k12 : x.kind = 12
          · have r12 : (x.kind != 12) = false := by simp [k12]
            have HK := Lib.hid (And.intro ha (And.intro hkx (And.intro h1k (show isArgK x.kind = true by unfold isArgK; rw [k12]; rfl))))
            clear ha hkx hRx z1 z2 z3 z4 h1k hx k11 k12
            go_wp2_with fail
            refine (sort_any _ x.kind).mono fun e w5 h => ?_
            obtain ⟨rfl, rfl⟩ := h
            go_wp2_with fail
            go_roundw
            case rel => exact ⟨k + 1, by have := HK.out.2.2.1; omega, by omega, by simp, fun j y h1 h2 hy => by
              by_cases hjk : j = k
              · subst hjk
                rw [HK.out.2.1] at hy
                cases hy
                exact HK.out.2.2.2
              · exact HK.out.1 j y h1 (by omega) hy, rfl⟩
            case measure => simp [intOf]; omega
          · have r12 : (x.kind != 12) = true := by simp [k12]
            have HK := Lib.hid (And.intro ha (And.intro hkx (And.intro h1k (show isArgK x.kind = false by unfold isArgK; rw [hx, decide_eq_false (by omega)]; rfl))))
            clear ha hkx hRx z1 z2 z3 z4 h1k hx k11 k12
            go_wp2_with fail
            refine (sort_any _ x.kind).mono fun e w5 h => ?_
            obtain ⟨rfl, rfl⟩ := h
            go_wp2_with fail
            go_ret
            exact ⟨by rw [show (l.tail.all fun x => isArgK x.kind) = false from tail_not HK.out.2.2.1 HK.out.2.1 HK.out.2.2.2, Bool.and_false]; rfl, HH.out.2⟩
    · have q1 : decide (k < l.length) = false := decide_eq_false hlt
      have HK := Lib.hid (show (l.tail.all fun x => isArgK x.kind) = true from tail_all fun j y h1 hy => ha j y h1 (by have := (List.getElem?_eq_some_iff.1 hy).1; omega) hy)
      clear ha
      by_cases ga : 2 ≤ l.length
      · have GA := Lib.hid (show decide (2 ≤ l.length) = true from decide_eq_true ga)
        have ga0 : decide (2 ≤ l.length) = true := by first | exact decide_eq_true (by omega) | (simp; omega)
        have ga1 : decide ((2 : Int) ≤ (l.length : Int)) = true := by first | exact decide_eq_true (by omega) | (simp; omega)
        have ga2 : decide (1 < l.length) = true := by first | exact decide_eq_true (by omega) | (simp; omega)
        have ga3 : decide ((1 : Int) < (l.length : Int)) = true := by first | exact decide_eq_true (by omega) | (simp; omega)
        have ga4 : decide (l.length ≥ 2) = true := by first | exact decide_eq_true (by omega) | (simp; omega)
        have ga5 : decide ((l.length : Int) ≥ 2) = true := by first | exact decide_eq_true (by omega) | (simp; omega)
        clear ga
        by_cases gb : l.length ≤ 17
        · have GB := Lib.hid (show decide (l.length ≤ 17) = true from decide_eq_true gb)
          have gb0 : decide (l.length ≤ 17) = true := by first | exact decide_eq_true (by omega) | (simp; omega)
          have gb1 : decide ((l.length : Int) ≤ 17) = true := by first | exact decide_eq_true (by omega) | (simp; omega)
          clear gb
          have GL := Lib.hid (of_decide_eq_true GA.out)
          obtain ⟨b, o, x, X, cx, rfl, hkx, hRx, z0, z1, z2, z3, z4⟩ := NdsR.at_ HH.out.1 (k := 0) (by have := GL.out; omega)
          rw [show o + 0 * 5 = o by omega] at z0 z1 z2 z3 z4
          have q2 : (0 : Int) < (l.length : Int) := by have := GL.out; omega
          have HX0 := Lib.hid hkx
          clear hkx hRx z1 z2 z3 z4
          cases hx : isExprK x.kind with
          | true =>
            have hs : (sortF x.kind == 101) = true := by rw [sort_e, hx]
            have HX := Lib.hid hx
            clear hx
            go_wp2_with fail
            refine (sort_any _ x.kind).mono fun e w5 h => ?_
            obtain ⟨rfl, rfl⟩ := h
            go_wp2_with fail
            go_ret
            exact ⟨by rw [GA.out, GB.out, firstK_at HX0.out, HX.out, HK.out]; rfl, HH.out.2⟩
          | false =>
            have hs : (sortF x.kind == 101) = false := by rw [sort_e, hx]
            have HX := Lib.hid hx
            clear hx
            go_wp2_with fail
            refine (sort_any _ x.kind).mono fun e w5 h => ?_
            obtain ⟨rfl, rfl⟩ := h
            go_wp2_with fail
            go_ret
            exact ⟨by rw [GA.out, GB.out, firstK_at HX0.out, HX.out, HK.out]; rfl, HH.out.2⟩
        · have GB := Lib.hid (show decide (l.length ≤ 17) = false from decide_eq_false gb)
          have gb0 : decide (l.length ≤ 17) = false := by first | exact decide_eq_false (by omega) | (simp; omega)
          have gb1 : decide ((l.length : Int) ≤ 17) = false := by first | exact decide_eq_false (by omega) | (simp; omega)
          clear gb
          go_wp2_with fail
          go_ret
          exact ⟨by rw [GA.out, GB.out]; rfl, HH.out.2⟩
      · have GA := Lib.hid (show decide (2 ≤ l.length) = false from decide_eq_false ga)
        have ga0 : decide (2 ≤ l.length) = false := by first | exact decide_eq_false (by omega) | (simp; omega)
        have ga1 : decide ((2 : Int) ≤ (l.length : Int)) = false := by first | exact decide_eq_false (by omega) | (simp; omega)
        have ga2 : decide (1 < l.length) = false := by first | exact decide_eq_false (by omega) | (simp; omega)
        have ga3 : decide ((1 : Int) < (l.length : Int)) = false := by first | exact decide_eq_false (by omega) | (simp; omega)
        have ga4 : decide (l.length ≥ 2) = false := by first | exact decide_eq_false (by omega) | (simp; omega)
        have ga5 : decide ((l.length : Int) ≥ 2) = false := by first | exact decide_eq_false (by omega) | (simp; omega)
        clear ga
        go_wp2_with fail
        go_ret
        exact ⟨by rw [GA.out]; rfl, HH.out.2⟩
end Go.Proofs.YtgaodjoddfjfmaaDoor
