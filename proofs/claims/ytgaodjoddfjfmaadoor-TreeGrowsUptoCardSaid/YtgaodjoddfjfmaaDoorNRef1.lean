/-
  The reference's sort, run, same over nodes.
-/
import Derived.Test.YtgaodjoddfjfmaaDoorNKinds
namespace Go.Proofs.YtgaodjoddfjfmaaDoor
open Go.RowKit
set_option linter.unusedVariables false
set_option linter.unusedSimpArgs false

def sortF (k : Int) : Int := if isStmtK k then 115 else if isExprK k then 101 else if isTypeK k then 116 else 45
theorem sortF_115 {k : Int} (h : (20 ≤ k ∧ k ≤ 29) ∨ k = 41 ∨ k = 42) : sortF k = 115 := by
  unfold sortF isStmtK
  rw [decide_eq_true h]
  rfl
theorem sortF_101 {k : Int} (h : 30 ≤ k ∧ k ≤ 40) : sortF k = 101 := by
  unfold sortF isStmtK isExprK
  rw [decide_eq_false (by omega), decide_eq_true h]
  rfl
theorem sortF_116 {k : Int} (h : 10 ≤ k ∧ k ≤ 13) : sortF k = 116 := by
  unfold sortF isStmtK isExprK isTypeK
  rw [decide_eq_false (by omega), decide_eq_false (by omega), decide_eq_true h]
  rfl
theorem sortF_45 {k : Int} (h : k < 10 ∨ (14 ≤ k ∧ k ≤ 19) ∨ 43 ≤ k) : sortF k = 45 := by
  unfold sortF isStmtK isExprK isTypeK
  rw [decide_eq_false (by omega), decide_eq_false (by omega), decide_eq_false (by omega)]
  rfl
theorem sort_s (k : Int) : (sortF k == 115) = isStmtK k := by
  unfold sortF
  cases h : isStmtK k <;> cases h1 : isExprK k <;> cases h2 : isTypeK k <;> rfl
theorem sort_e (k : Int) : (sortF k == 101) = isExprK k := by
  unfold sortF
  cases h : isStmtK k <;> cases h1 : isExprK k <;> cases h2 : isTypeK k <;> first
    | rfl
    | (unfold isStmtK at h; unfold isExprK at h1; have h := of_decide_eq_true h; have h1 := of_decide_eq_true h1; omega)
theorem sort_t (k : Int) : (sortF k == 116) = isTypeK k := by
  unfold sortF
  cases h : isStmtK k <;> cases h1 : isExprK k <;> cases h2 : isTypeK k <;> first
    | rfl
    | (unfold isStmtK at h; unfold isTypeK at h2; have h := of_decide_eq_true h; have h2 := of_decide_eq_true h2; omega)
    | (unfold isExprK at h1; unfold isTypeK at h2; have h1 := of_decide_eq_true h1; have h2 := of_decide_eq_true h2; omega)
set_option maxRecDepth 100000 in
theorem sort_any (w : World) (k : Int) : Calls Tryd.prog 30 #[.int .i64 k] w fun e w' => e = .returned (.int .u8 (sortF k)) ∧ w' = w := by
  have h : (20 ≤ k ∧ k ≤ 29) ∨ (k = 41) ∨ (k = 42) ∨ (30 ≤ k ∧ k ≤ 40) ∨ (10 ≤ k ∧ k ≤ 13) ∨ (k < 10) ∨ (14 ≤ k ∧ k ≤ 19) ∨ (43 ≤ k) := by omega
  rcases h with h | h | h | h | h | h | h | h
  · have a0 : 20 ≤ k := by omega
    have a1 : k ≤ 29 := by omega
    have a2 : (k == 41) = false := by simp; omega
    have a3 : (k == 42) = false := by simp; omega
    have a4 : ¬ 30 ≤ k := by omega
    have a5 : k ≤ 40 := by omega
    have a6 : 10 ≤ k := by omega
    have a7 : ¬ k ≤ 13 := by omega
    have HV := Lib.hid (show sortF k = 115 from sortF_115 (by omega))
    clear h
    go_enter Tryd.func30, Tryd.ntmps30
    go_wp2
    go_ret
    exact ⟨by first | (rw [HV.out]; rfl) | rfl, rfl⟩
  · have a0 : 20 ≤ k := by omega
    have a1 : ¬ k ≤ 29 := by omega
    have a2 : (k == 41) = true := by simp; omega
    have a3 : (k == 42) = false := by simp; omega
    have a4 : 30 ≤ k := by omega
    have a5 : ¬ k ≤ 40 := by omega
    have a6 : 10 ≤ k := by omega
    have a7 : ¬ k ≤ 13 := by omega
    have HV := Lib.hid (show sortF k = 115 from sortF_115 (by omega))
    clear h
    go_enter Tryd.func30, Tryd.ntmps30
    go_wp2
    go_ret
    exact ⟨by first | (rw [HV.out]; rfl) | rfl, rfl⟩
  · have a0 : 20 ≤ k := by omega
    have a1 : ¬ k ≤ 29 := by omega
    have a2 : (k == 41) = false := by simp; omega
    have a3 : (k == 42) = true := by simp; omega
    have a4 : 30 ≤ k := by omega
    have a5 : ¬ k ≤ 40 := by omega
    have a6 : 10 ≤ k := by omega
    have a7 : ¬ k ≤ 13 := by omega
    have HV := Lib.hid (show sortF k = 115 from sortF_115 (by omega))
    clear h
    go_enter Tryd.func30, Tryd.ntmps30
    go_wp2
    go_ret
    exact ⟨by first | (rw [HV.out]; rfl) | rfl, rfl⟩
  · have a0 : 20 ≤ k := by omega
    have a1 : ¬ k ≤ 29 := by omega
    have a2 : (k == 41) = false := by simp; omega
    have a3 : (k == 42) = false := by simp; omega
    have a4 : 30 ≤ k := by omega
    have a5 : k ≤ 40 := by omega
    have a6 : 10 ≤ k := by omega
    have a7 : ¬ k ≤ 13 := by omega
    have HV := Lib.hid (show sortF k = 101 from sortF_101 (by omega))
    clear h
    go_enter Tryd.func30, Tryd.ntmps30
    go_wp2
    go_ret
    exact ⟨by first | (rw [HV.out]; rfl) | rfl, rfl⟩
  · have a0 : ¬ 20 ≤ k := by omega
    have a1 : k ≤ 29 := by omega
    have a2 : (k == 41) = false := by simp; omega
    have a3 : (k == 42) = false := by simp; omega
    have a4 : ¬ 30 ≤ k := by omega
    have a5 : k ≤ 40 := by omega
    have a6 : 10 ≤ k := by omega
    have a7 : k ≤ 13 := by omega
    have HV := Lib.hid (show sortF k = 116 from sortF_116 (by omega))
    clear h
    go_enter Tryd.func30, Tryd.ntmps30
    go_wp2
    go_ret
    exact ⟨by first | (rw [HV.out]; rfl) | rfl, rfl⟩
  · have a0 : ¬ 20 ≤ k := by omega
    have a1 : k ≤ 29 := by omega
    have a2 : (k == 41) = false := by simp; omega
    have a3 : (k == 42) = false := by simp; omega
    have a4 : ¬ 30 ≤ k := by omega
    have a5 : k ≤ 40 := by omega
    have a6 : ¬ 10 ≤ k := by omega
    have a7 : k ≤ 13 := by omega
    have HV := Lib.hid (show sortF k = 45 from sortF_45 (by omega))
    clear h
    go_enter Tryd.func30, Tryd.ntmps30
    go_wp2
    go_ret
    exact ⟨by first | (rw [HV.out]; rfl) | rfl, rfl⟩
  · have a0 : ¬ 20 ≤ k := by omega
    have a1 : k ≤ 29 := by omega
    have a2 : (k == 41) = false := by simp; omega
    have a3 : (k == 42) = false := by simp; omega
    have a4 : ¬ 30 ≤ k := by omega
    have a5 : k ≤ 40 := by omega
    have a6 : 10 ≤ k := by omega
    have a7 : ¬ k ≤ 13 := by omega
    have HV := Lib.hid (show sortF k = 45 from sortF_45 (by omega))
    clear h
    go_enter Tryd.func30, Tryd.ntmps30
    go_wp2
    go_ret
    exact ⟨by first | (rw [HV.out]; rfl) | rfl, rfl⟩
  · have a0 : 20 ≤ k := by omega
    have a1 : ¬ k ≤ 29 := by omega
    have a2 : (k == 41) = false := by simp; omega
    have a3 : (k == 42) = false := by simp; omega
    have a4 : 30 ≤ k := by omega
    have a5 : ¬ k ≤ 40 := by omega
    have a6 : 10 ≤ k := by omega
    have a7 : ¬ k ≤ 13 := by omega
    have HV := Lib.hid (show sortF k = 45 from sortF_45 (by omega))
    clear h
    go_enter Tryd.func30, Tryd.ntmps30
    go_wp2
    go_ret
    exact ⟨by first | (rw [HV.out]; rfl) | rfl, rfl⟩
def alRel (l : List Nd) (q : Nd → Bool) (W : World) (i : Value) (wr : World) : Prop := ∃ k : Nat, k ≤ l.length ∧ i = .int .i64 k ∧ (l.take k).all q = true ∧ wr = W
theorem all_succ {l : List Nd} {q : Nd → Bool} {k : Nat} {x : Nd} (h : l[k]? = some x) (hq : q x = true) (ha : (l.take k).all q = true) : (l.take (k + 1)).all q = true := by
  obtain ⟨h1, h2⟩ := List.getElem?_eq_some_iff.1 h
  rw [List.take_succ_eq_append_getElem h1, h2, List.all_append, ha]
  simp [hq]
theorem all_not {l : List Nd} {q : Nd → Bool} {k : Nat} {x : Nd} (h : l[k]? = some x) (hq : q x = false) : l.all q = false := by
  rw [List.all_eq_false]
  exact ⟨x, List.mem_of_getElem? h, by simp [hq]⟩
set_option maxRecDepth 100000 in
set_option maxHeartbeats 1000000 in
theorem same4_any (n B : Nat) (w : World) (l : List Nd) (A : Option Addr) (c : Nat) (m : Int) (hl : NdsR n B w (.slice A l.length c) l) (hll : l.length ≤ 1048576) :
    Calls Tryd.prog 44 #[.slice A l.length c, .int .i64 m] w fun e w' => e = .returned (.bool (l.all fun x => x.kind == m)) ∧ w' = w := by
  have HL := Lib.hid hl
  clear hl
  go_enter Tryd.func44, Tryd.ntmps44
  go_wp2_with fail
  go_loopw [5] (fun i wr => alRel l (fun x => x.kind == m) w i wr) (fun i _ => l.length - (intOf i).toNat)
  case atStart => exact ⟨0, Nat.zero_le _, rfl, by simp, rfl⟩
  case round =>
    obtain ⟨k, hk, rfl, ha, rfl⟩ := hrel
    have q3 : IntKind.i64.wrap ((k : Int) + 1) = (k : Int) + 1 := IntWalk.i64_in _ ⟨by omega, by omega⟩
    by_cases hlt : k < l.length
    · have q1 : decide (k < l.length) = true := decide_eq_true hlt
      have q2 : (k : Int) < (l.length : Int) := by omega
      obtain ⟨bb, oo, x, X, cx, rfl, hkx, hRx, z0, z1, z2, z3, z4⟩ := NdsR.at_ HL.out hlt

      cases hq : (x.kind == m) with
      | true =>
        have HK := Lib.hid (And.intro ha (And.intro hkx hq))
        have q5 : (x.kind != m) = false := by simp only [bne, hq]; rfl
        clear ha hkx hRx z1 z2 z3 z4 hq
        go_wp2_with fail

        go_roundw
        case rel => exact ⟨k + 1, hlt, by simp, all_succ HK.out.2.1 HK.out.2.2 HK.out.1, rfl⟩
        case measure => simp [intOf]; omega
      | false =>
        have HK := Lib.hid (And.intro ha (And.intro hkx hq))
        have q5 : (x.kind != m) = true := by simp only [bne, hq]; rfl
        clear ha hkx hRx z1 z2 z3 z4 hq
        go_wp2_with fail

        go_ret
        exact ⟨by rw [all_not HK.out.2.1 HK.out.2.2]; rfl, rfl⟩
    · have q1 : decide (k < l.length) = false := decide_eq_false hlt
      obtain rfl : k = l.length := by omega
      rw [List.take_length] at ha
      have HK := Lib.hid ha
      clear ha
      go_wp2_with fail
      go_ret
      exact ⟨by rw [HK.out]; rfl, rfl⟩
set_option maxRecDepth 100000 in
set_option maxHeartbeats 1000000 in
theorem run4_any (n B : Nat) (w : World) (l : List Nd) (A : Option Addr) (c : Nat) (m : Int) (hl : NdsR n B w (.slice A l.length c) l) (hll : l.length ≤ 1048576) :
    Calls Tryd.prog 46 #[.slice A l.length c, .int .i64 0, .int .u8 m] w fun e w' => e = .returned (.bool (l.all fun x => sortF x.kind == m)) ∧ w' = w := by
  have HL := Lib.hid hl
  clear hl
  go_enter Tryd.func46, Tryd.ntmps46
  go_wp2_with fail
  go_loopw [7] (fun i wr => alRel l (fun x => sortF x.kind == m) w i wr) (fun i _ => l.length - (intOf i).toNat)
  case atStart => exact ⟨0, Nat.zero_le _, rfl, by simp, rfl⟩
  case round =>
    obtain ⟨k, hk, rfl, ha, rfl⟩ := hrel
    have q3 : IntKind.i64.wrap ((k : Int) + 1) = (k : Int) + 1 := IntWalk.i64_in _ ⟨by omega, by omega⟩
    by_cases hlt : k < l.length
    · have q1 : decide (k < l.length) = true := decide_eq_true hlt
      have q2 : (k : Int) < (l.length : Int) := by omega
      obtain ⟨bb, oo, x, X, cx, rfl, hkx, hRx, z0, z1, z2, z3, z4⟩ := NdsR.at_ HL.out hlt
      cases hq : (sortF x.kind == m) with
      | true =>
        have HK := Lib.hid (And.intro ha (And.intro hkx hq))
        have q5 : (sortF x.kind != m) = false := by simp only [bne, hq]; rfl
        clear ha hkx hRx z1 z2 z3 z4 hq
        go_wp2_with fail
        refine (sort_any _ _).mono fun e w5 h => ?_
        obtain ⟨rfl, rfl⟩ := h
        go_wp2_with fail
        go_roundw
        case rel => exact ⟨k + 1, hlt, by simp, all_succ HK.out.2.1 HK.out.2.2 HK.out.1, rfl⟩
        case measure => simp [intOf]; omega
      | false =>
        have HK := Lib.hid (And.intro ha (And.intro hkx hq))
        have q5 : (sortF x.kind != m) = true := by simp only [bne, hq]; rfl
        clear ha hkx hRx z1 z2 z3 z4 hq
        go_wp2_with fail
        refine (sort_any _ _).mono fun e w5 h => ?_
        obtain ⟨rfl, rfl⟩ := h
        go_wp2_with fail
        go_ret
        exact ⟨by rw [all_not HK.out.2.1 HK.out.2.2]; rfl, rfl⟩
    · have q1 : decide (k < l.length) = false := decide_eq_false hlt
      obtain rfl : k = l.length := by omega
      rw [List.take_length] at ha
      have HK := Lib.hid ha
      clear ha
      go_wp2_with fail
      go_ret
      exact ⟨by rw [HK.out]; rfl, rfl⟩
end Go.Proofs.YtgaodjoddfjfmaaDoor
