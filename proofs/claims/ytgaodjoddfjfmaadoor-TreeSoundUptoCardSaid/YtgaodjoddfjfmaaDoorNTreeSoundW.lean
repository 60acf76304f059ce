/-
  The walk of TreeSound.
-/
import Derived.Test.YtgaodjoddfjfmaaDoorNAns
import Derived.Test.YtgaodjoddfjfmaaDoorNRight
namespace Go.Proofs.YtgaodjoddfjfmaaDoor
open Go.RowKit
set_option linter.unusedVariables false
set_option linter.unusedSimpArgs false

theorem heldN_next {w0 w1 w2 : World} {g1 : Nat} {v0 v1 v2 v3 v4 : Value} (k : w1.cell? ⟨g1, 0, none⟩ = some v0 ∧ w1.cell? ⟨g1, 1, none⟩ = some v1 ∧ w1.cell? ⟨g1, 2, none⟩ = some v2 ∧ w1.cell? ⟨g1, 3, none⟩ = some v3 ∧ w1.cell? ⟨g1, 4, none⟩ = some v4 ∧ Chg (fun _ _ => False) w0 w1) (hc : Chg (fun _ _ => False) w1 w2) :
    w2.cell? ⟨g1, 0, none⟩ = some v0 ∧ w2.cell? ⟨g1, 1, none⟩ = some v1 ∧ w2.cell? ⟨g1, 2, none⟩ = some v2 ∧ w2.cell? ⟨g1, 3, none⟩ = some v3 ∧ w2.cell? ⟨g1, 4, none⟩ = some v4 ∧ Chg (fun _ _ => False) w0 w2 :=
  ⟨hc.cell k.1 fun _ h => h, hc.cell k.2.1 fun _ h => h, hc.cell k.2.2.1 fun _ h => h, hc.cell k.2.2.2.1 fun _ h => h, hc.cell k.2.2.2.2.1 fun _ h => h, k.2.2.2.2.2.trans hc⟩
theorem heldN_chg {w0 w1 : World} {g1 : Nat} {v0 v1 v2 v3 v4 : Value} (k : w1.cell? ⟨g1, 0, none⟩ = some v0 ∧ w1.cell? ⟨g1, 1, none⟩ = some v1 ∧ w1.cell? ⟨g1, 2, none⟩ = some v2 ∧ w1.cell? ⟨g1, 3, none⟩ = some v3 ∧ w1.cell? ⟨g1, 4, none⟩ = some v4 ∧ Chg (fun _ _ => False) w0 w1) : Chg (fun _ _ => False) w0 w1 := k.2.2.2.2.2
set_option maxRecDepth 100000 in
set_option maxHeartbeats 4000000 in
theorem soundOut_t (n B : Nat) (w : World) (t : Nd) (s : Int) (hs : ¬ (1 ≤ s ∧ s ≤ 3)) (A : Option Addr) (c : Nat) (hB : B ≤ w.heap.size) (hT : NdR n B w (ndCells t.kind t.text t.n t.at_ A t.list.length c) t) (hTW : TabW w) (hO : OpsR w)
    (hchk : ∀ (B : Nat) (w : World) (A : Option Addr) (c : Nat), B ≤ w.heap.size → NdR n B w (ndCells t.kind t.text t.n t.at_ A t.list.length c) t → TabW w → OpsR w → Calls Tryd.prog 16 #[.agg #[.int .i64 t.kind, .string t.text, .int .u64 t.n, .int .i64 t.at_, .slice A t.list.length c]] w fun e w' => e = .returned (.int .i64 0) ∧ Chg (fun _ _ => False) w w')
    (hrs : ∀ (B : Nat) (w : World) (A : Option Addr) (c : Nat), B ≤ w.heap.size → NdR n B w (ndCells t.kind t.text t.n t.at_ A t.list.length c) t → Calls Tryd.prog 15 #[.agg #[.int .i64 t.kind, .string t.text, .int .u64 t.n, .int .i64 t.at_, .slice A t.list.length c], .int .u8 112] w fun e w' => e = .returned (.bool true) ∧ Chg (fun _ _ => False) w w')
    (hns : ∀ (B : Nat) (w : World) (A : Option Addr) (c : Nat), B ≤ w.heap.size → NdR n B w (ndCells t.kind t.text t.n t.at_ A t.list.length c) t → TabW w → OpsR w → Calls Tryd.prog 17 #[.agg #[.int .i64 t.kind, .string t.text, .int .u64 t.n, .int .i64 t.at_, .slice A t.list.length c], .int .i64 s] w fun e w' => e = .returned (.int .i64 2) ∧ Chg (fun _ _ => False) w w') :
    Calls Tryd.prog 4 #[.agg #[.int .i64 t.kind, .string t.text, .int .u64 t.n, .int .i64 t.at_, .slice A t.list.length c], .int .i64 s] w fun e w' => e = .returned (.bool true) ∧ Chg (fun _ _ => False) w w' := by
  have s1 : decide (1 ≤ s) = false ∨ (decide (1 ≤ s) = true ∧ decide (s ≤ 3) = false) := by
    by_cases h : 1 ≤ s
    · exact .inr ⟨decide_eq_true h, decide_eq_false (by omega)⟩
    · exact .inl (decide_eq_false h)
  clear hs
  rcases s1 with s1 | ⟨s1, s2⟩
  · have s1' : ¬ 1 ≤ s := of_decide_eq_false s1
    have s1'' : s < 1 := by omega
    have s1c : decide (s ≥ 1) = false := s1
    have hb1 := Blk.new w 25 #[.int .i64 t.kind, .string t.text, .int .u64 t.n, .int .i64 t.at_, .slice A t.list.length c]
    have hc1 := chg_alloc w (.cells #[.int .i64 t.kind, .string t.text, .int .u64 t.n, .int .i64 t.at_, .slice A t.list.length c] 25)
    have HP := Lib.hid (And.intro hB (And.intro hT (And.intro hTW hO)))
    have HQ := Lib.hid (And.intro hchk (And.intro hrs hns))
    clear hB hT hTW hO hchk hrs hns
    go_enter Tryd.func4, Tryd.ntmps4
    go_wp2_with fail
    generalize w.alloc (.cells #[.int .i64 t.kind, .string t.text, .int .u64 t.n, .int .i64 t.at_, .slice A t.list.length c] 25) = W at hb1 hc1 ⊢
    generalize w.heap.size = g1 at hb1 ⊢
    obtain ⟨c0, c1, c2, c3, c4⟩ := hb1.cells5
    have H1 := Lib.hid hc1
    have hK : W.cell? ⟨g1, 0, none⟩ = some (.int .i64 t.kind) ∧ W.cell? ⟨g1, 1, none⟩ = some (.string t.text) ∧ W.cell? ⟨g1, 2, none⟩ = some (.int .u64 t.n) ∧ W.cell? ⟨g1, 3, none⟩ = some (.int .i64 t.at_) ∧ W.cell? ⟨g1, 4, none⟩ = some (.slice A t.list.length c) ∧ Chg (fun _ _ => False) W W := ⟨c0, c1, c2, c3, c4, Chg.refl _ _⟩
    have hKd := heldN_next hK ((Chg.refl (fun _ _ => False) W).drew)
    clear hb1 hc1 hK
    go_region_held3 (fun w' => w'.cell? ⟨g1, 0, none⟩ = some (.int .i64 t.kind) ∧ w'.cell? ⟨g1, 1, none⟩ = some (.string t.text) ∧ w'.cell? ⟨g1, 2, none⟩ = some (.int .u64 t.n) ∧ w'.cell? ⟨g1, 3, none⟩ = some (.int .i64 t.at_) ∧ w'.cell? ⟨g1, 4, none⟩ = some (.slice A t.list.length c) ∧ Chg (fun _ _ => False) W w')
      (assumption)
      (first
        | (go_at_call 11
           refine (answers4_any _).mono ?_
           rintro e w' ⟨rfl, hb⟩
           have hS := heldN_next (by assumption) hb
           clear hb)
        | (go_at_call 13
           refine (own_any n B _ t A c (by exact Nat.le_trans HP.out.1 (H1.out.trans (heldN_chg (by assumption))).size) (NdR.keep0 (H1.out.trans (heldN_chg (by assumption))) HP.out.2.1)).mono ?_
           rintro e w' ⟨A7, c7, rfl, hN, hb⟩
           have hv := hN.ndR
           have hS := heldN_next (by assumption) hb
           clear hb hN)
        | (go_at_call 16
           refine (HQ.out.1 _ _ _ _ (Nat.le_refl _) (by assumption) (HP.out.2.2.1.keep0 (H1.out.trans (heldN_chg (by assumption)))) (HP.out.2.2.2.keep0 (H1.out.trans (heldN_chg (by assumption))))).mono ?_
           rintro e w' ⟨rfl, hb⟩
           have hS := heldN_next (by assumption) hb
           clear hb)
        | (go_at_call 17
           refine (HQ.out.2.2 _ _ _ _ (Nat.le_refl _) (by assumption) (HP.out.2.2.1.keep0 (H1.out.trans (heldN_chg (by assumption)))) (HP.out.2.2.2.keep0 (H1.out.trans (heldN_chg (by assumption))))).mono ?_
           rintro e w' ⟨rfl, hb⟩
           have hS := heldN_next (by assumption) hb
           clear hb)
        | (go_at_call 15
           refine (HQ.out.2.1 B _ A c (by exact Nat.le_trans HP.out.1 (H1.out.trans (heldN_chg (by assumption))).size) (NdR.keep0 (H1.out.trans (heldN_chg (by assumption))) HP.out.2.1)).mono ?_
           rintro e w' ⟨rfl, hb⟩
           have hS := heldN_next (by assumption) hb
           clear hb))
    have hS := H1.out.trans (heldN_chg (by assumption))
    clear c0 c1 c2 c3 c4
    go_wp2_with fail
    go_ret
    exact ⟨by simp, hS⟩
  · have s1' : 1 ≤ s := of_decide_eq_true s1
    have s2' : ¬ s ≤ 3 := of_decide_eq_false s2
    have s2'' : 3 < s := by omega
    have s1c : decide (s ≥ 1) = true := s1
    have hb1 := Blk.new w 25 #[.int .i64 t.kind, .string t.text, .int .u64 t.n, .int .i64 t.at_, .slice A t.list.length c]
    have hc1 := chg_alloc w (.cells #[.int .i64 t.kind, .string t.text, .int .u64 t.n, .int .i64 t.at_, .slice A t.list.length c] 25)
    have HP := Lib.hid (And.intro hB (And.intro hT (And.intro hTW hO)))
    have HQ := Lib.hid (And.intro hchk (And.intro hrs hns))
    clear hB hT hTW hO hchk hrs hns
    go_enter Tryd.func4, Tryd.ntmps4
    go_wp2_with fail
    generalize w.alloc (.cells #[.int .i64 t.kind, .string t.text, .int .u64 t.n, .int .i64 t.at_, .slice A t.list.length c] 25) = W at hb1 hc1 ⊢
    generalize w.heap.size = g1 at hb1 ⊢
    obtain ⟨c0, c1, c2, c3, c4⟩ := hb1.cells5
    have H1 := Lib.hid hc1
    have hK : W.cell? ⟨g1, 0, none⟩ = some (.int .i64 t.kind) ∧ W.cell? ⟨g1, 1, none⟩ = some (.string t.text) ∧ W.cell? ⟨g1, 2, none⟩ = some (.int .u64 t.n) ∧ W.cell? ⟨g1, 3, none⟩ = some (.int .i64 t.at_) ∧ W.cell? ⟨g1, 4, none⟩ = some (.slice A t.list.length c) ∧ Chg (fun _ _ => False) W W := ⟨c0, c1, c2, c3, c4, Chg.refl _ _⟩
    have hKd := heldN_next hK ((Chg.refl (fun _ _ => False) W).drew)
    clear hb1 hc1 hK
    go_region_held3 (fun w' => w'.cell? ⟨g1, 0, none⟩ = some (.int .i64 t.kind) ∧ w'.cell? ⟨g1, 1, none⟩ = some (.string t.text) ∧ w'.cell? ⟨g1, 2, none⟩ = some (.int .u64 t.n) ∧ w'.cell? ⟨g1, 3, none⟩ = some (.int .i64 t.at_) ∧ w'.cell? ⟨g1, 4, none⟩ = some (.slice A t.list.length c) ∧ Chg (fun _ _ => False) W w')
      (assumption)
      (first
        | (go_at_call 11
           refine (answers4_any _).mono ?_
           rintro e w' ⟨rfl, hb⟩
           have hS := heldN_next (by assumption) hb
           clear hb)
        | (go_at_call 13
           refine (own_any n B _ t A c (by exact Nat.le_trans HP.out.1 (H1.out.trans (heldN_chg (by assumption))).size) (NdR.keep0 (H1.out.trans (heldN_chg (by assumption))) HP.out.2.1)).mono ?_
           rintro e w' ⟨A7, c7, rfl, hN, hb⟩
           have hv := hN.ndR
           have hS := heldN_next (by assumption) hb
           clear hb hN)
        | (go_at_call 16
           refine (HQ.out.1 _ _ _ _ (Nat.le_refl _) (by assumption) (HP.out.2.2.1.keep0 (H1.out.trans (heldN_chg (by assumption)))) (HP.out.2.2.2.keep0 (H1.out.trans (heldN_chg (by assumption))))).mono ?_
           rintro e w' ⟨rfl, hb⟩
           have hS := heldN_next (by assumption) hb
           clear hb)
        | (go_at_call 17
           refine (HQ.out.2.2 _ _ _ _ (Nat.le_refl _) (by assumption) (HP.out.2.2.1.keep0 (H1.out.trans (heldN_chg (by assumption)))) (HP.out.2.2.2.keep0 (H1.out.trans (heldN_chg (by assumption))))).mono ?_
           rintro e w' ⟨rfl, hb⟩
           have hS := heldN_next (by assumption) hb
           clear hb)
        | (go_at_call 15
           refine (HQ.out.2.1 B _ A c (by exact Nat.le_trans HP.out.1 (H1.out.trans (heldN_chg (by assumption))).size) (NdR.keep0 (H1.out.trans (heldN_chg (by assumption))) HP.out.2.1)).mono ?_
           rintro e w' ⟨rfl, hb⟩
           have hS := heldN_next (by assumption) hb
           clear hb))
    have hS := H1.out.trans (heldN_chg (by assumption))
    clear c0 c1 c2 c3 c4
    go_wp2_with fail
    go_ret
    exact ⟨by simp, hS⟩
set_option maxRecDepth 100000 in
set_option maxHeartbeats 4000000 in
theorem soundOut_f (n B : Nat) (w : World) (t : Nd) (s : Int) (hs : ¬ (1 ≤ s ∧ s ≤ 3)) (A : Option Addr) (c : Nat) (hB : B ≤ w.heap.size) (hT : NdR n B w (ndCells t.kind t.text t.n t.at_ A t.list.length c) t) (hTW : TabW w) (hO : OpsR w)
    (hchk : ∀ (B : Nat) (w : World) (A : Option Addr) (c : Nat), B ≤ w.heap.size → NdR n B w (ndCells t.kind t.text t.n t.at_ A t.list.length c) t → TabW w → OpsR w → Calls Tryd.prog 16 #[.agg #[.int .i64 t.kind, .string t.text, .int .u64 t.n, .int .i64 t.at_, .slice A t.list.length c]] w fun e w' => e = .returned (.int .i64 1) ∧ Chg (fun _ _ => False) w w')
    (hrs : ∀ (B : Nat) (w : World) (A : Option Addr) (c : Nat), B ≤ w.heap.size → NdR n B w (ndCells t.kind t.text t.n t.at_ A t.list.length c) t → Calls Tryd.prog 15 #[.agg #[.int .i64 t.kind, .string t.text, .int .u64 t.n, .int .i64 t.at_, .slice A t.list.length c], .int .u8 112] w fun e w' => e = .returned (.bool false) ∧ Chg (fun _ _ => False) w w')
    (hns : ∀ (B : Nat) (w : World) (A : Option Addr) (c : Nat), B ≤ w.heap.size → NdR n B w (ndCells t.kind t.text t.n t.at_ A t.list.length c) t → TabW w → OpsR w → Calls Tryd.prog 17 #[.agg #[.int .i64 t.kind, .string t.text, .int .u64 t.n, .int .i64 t.at_, .slice A t.list.length c], .int .i64 s] w fun e w' => e = .returned (.int .i64 2) ∧ Chg (fun _ _ => False) w w') :
    Calls Tryd.prog 4 #[.agg #[.int .i64 t.kind, .string t.text, .int .u64 t.n, .int .i64 t.at_, .slice A t.list.length c], .int .i64 s] w fun e w' => e = .returned (.bool true) ∧ Chg (fun _ _ => False) w w' := by
  have s1 : decide (1 ≤ s) = false ∨ (decide (1 ≤ s) = true ∧ decide (s ≤ 3) = false) := by
    by_cases h : 1 ≤ s
    · exact .inr ⟨decide_eq_true h, decide_eq_false (by omega)⟩
    · exact .inl (decide_eq_false h)
  clear hs
  rcases s1 with s1 | ⟨s1, s2⟩
  · have s1' : ¬ 1 ≤ s := of_decide_eq_false s1
    have s1'' : s < 1 := by omega
    have s1c : decide (s ≥ 1) = false := s1
    have hb1 := Blk.new w 25 #[.int .i64 t.kind, .string t.text, .int .u64 t.n, .int .i64 t.at_, .slice A t.list.length c]
    have hc1 := chg_alloc w (.cells #[.int .i64 t.kind, .string t.text, .int .u64 t.n, .int .i64 t.at_, .slice A t.list.length c] 25)
    have HP := Lib.hid (And.intro hB (And.intro hT (And.intro hTW hO)))
    have HQ := Lib.hid (And.intro hchk (And.intro hrs hns))
    clear hB hT hTW hO hchk hrs hns
    go_enter Tryd.func4, Tryd.ntmps4
    go_wp2_with fail
    generalize w.alloc (.cells #[.int .i64 t.kind, .string t.text, .int .u64 t.n, .int .i64 t.at_, .slice A t.list.length c] 25) = W at hb1 hc1 ⊢
    generalize w.heap.size = g1 at hb1 ⊢
    obtain ⟨c0, c1, c2, c3, c4⟩ := hb1.cells5
    have H1 := Lib.hid hc1
    have hK : W.cell? ⟨g1, 0, none⟩ = some (.int .i64 t.kind) ∧ W.cell? ⟨g1, 1, none⟩ = some (.string t.text) ∧ W.cell? ⟨g1, 2, none⟩ = some (.int .u64 t.n) ∧ W.cell? ⟨g1, 3, none⟩ = some (.int .i64 t.at_) ∧ W.cell? ⟨g1, 4, none⟩ = some (.slice A t.list.length c) ∧ Chg (fun _ _ => False) W W := ⟨c0, c1, c2, c3, c4, Chg.refl _ _⟩
    have hKd := heldN_next hK ((Chg.refl (fun _ _ => False) W).drew)
    clear hb1 hc1 hK
    go_region_held3 (fun w' => w'.cell? ⟨g1, 0, none⟩ = some (.int .i64 t.kind) ∧ w'.cell? ⟨g1, 1, none⟩ = some (.string t.text) ∧ w'.cell? ⟨g1, 2, none⟩ = some (.int .u64 t.n) ∧ w'.cell? ⟨g1, 3, none⟩ = some (.int .i64 t.at_) ∧ w'.cell? ⟨g1, 4, none⟩ = some (.slice A t.list.length c) ∧ Chg (fun _ _ => False) W w')
      (assumption)
      (first
        | (go_at_call 11
           refine (answers4_any _).mono ?_
           rintro e w' ⟨rfl, hb⟩
           have hS := heldN_next (by assumption) hb
           clear hb)
        | (go_at_call 13
           refine (own_any n B _ t A c (by exact Nat.le_trans HP.out.1 (H1.out.trans (heldN_chg (by assumption))).size) (NdR.keep0 (H1.out.trans (heldN_chg (by assumption))) HP.out.2.1)).mono ?_
           rintro e w' ⟨A7, c7, rfl, hN, hb⟩
           have hv := hN.ndR
           have hS := heldN_next (by assumption) hb
           clear hb hN)
        | (go_at_call 16
           refine (HQ.out.1 _ _ _ _ (Nat.le_refl _) (by assumption) (HP.out.2.2.1.keep0 (H1.out.trans (heldN_chg (by assumption)))) (HP.out.2.2.2.keep0 (H1.out.trans (heldN_chg (by assumption))))).mono ?_
           rintro e w' ⟨rfl, hb⟩
           have hS := heldN_next (by assumption) hb
           clear hb)
        | (go_at_call 17
           refine (HQ.out.2.2 _ _ _ _ (Nat.le_refl _) (by assumption) (HP.out.2.2.1.keep0 (H1.out.trans (heldN_chg (by assumption)))) (HP.out.2.2.2.keep0 (H1.out.trans (heldN_chg (by assumption))))).mono ?_
           rintro e w' ⟨rfl, hb⟩
           have hS := heldN_next (by assumption) hb
           clear hb)
        | (go_at_call 15
           refine (HQ.out.2.1 B _ A c (by exact Nat.le_trans HP.out.1 (H1.out.trans (heldN_chg (by assumption))).size) (NdR.keep0 (H1.out.trans (heldN_chg (by assumption))) HP.out.2.1)).mono ?_
           rintro e w' ⟨rfl, hb⟩
           have hS := heldN_next (by assumption) hb
           clear hb))
    have hS := H1.out.trans (heldN_chg (by assumption))
    clear c0 c1 c2 c3 c4
    go_wp2_with fail
    go_ret
    exact ⟨by simp, hS⟩
  · have s1' : 1 ≤ s := of_decide_eq_true s1
    have s2' : ¬ s ≤ 3 := of_decide_eq_false s2
    have s2'' : 3 < s := by omega
    have s1c : decide (s ≥ 1) = true := s1
    have hb1 := Blk.new w 25 #[.int .i64 t.kind, .string t.text, .int .u64 t.n, .int .i64 t.at_, .slice A t.list.length c]
    have hc1 := chg_alloc w (.cells #[.int .i64 t.kind, .string t.text, .int .u64 t.n, .int .i64 t.at_, .slice A t.list.length c] 25)
    have HP := Lib.hid (And.intro hB (And.intro hT (And.intro hTW hO)))
    have HQ := Lib.hid (And.intro hchk (And.intro hrs hns))
    clear hB hT hTW hO hchk hrs hns
    go_enter Tryd.func4, Tryd.ntmps4
    go_wp2_with fail
    generalize w.alloc (.cells #[.int .i64 t.kind, .string t.text, .int .u64 t.n, .int .i64 t.at_, .slice A t.list.length c] 25) = W at hb1 hc1 ⊢
    generalize w.heap.size = g1 at hb1 ⊢
    obtain ⟨c0, c1, c2, c3, c4⟩ := hb1.cells5
    have H1 := Lib.hid hc1
    have hK : W.cell? ⟨g1, 0, none⟩ = some (.int .i64 t.kind) ∧ W.cell? ⟨g1, 1, none⟩ = some (.string t.text) ∧ W.cell? ⟨g1, 2, none⟩ = some (.int .u64 t.n) ∧ W.cell? ⟨g1, 3, none⟩ = some (.int .i64 t.at_) ∧ W.cell? ⟨g1, 4, none⟩ = some (.slice A t.list.length c) ∧ Chg (fun _ _ => False) W W := ⟨c0, c1, c2, c3, c4, Chg.refl _ _⟩
    have hKd := heldN_next hK ((Chg.refl (fun _ _ => False) W).drew)
    clear hb1 hc1 hK
    go_region_held3 (fun w' => w'.cell? ⟨g1, 0, none⟩ = some (.int .i64 t.kind) ∧ w'.cell? ⟨g1, 1, none⟩ = some (.string t.text) ∧ w'.cell? ⟨g1, 2, none⟩ = some (.int .u64 t.n) ∧ w'.cell? ⟨g1, 3, none⟩ = some (.int .i64 t.at_) ∧ w'.cell? ⟨g1, 4, none⟩ = some (.slice A t.list.length c) ∧ Chg (fun _ _ => False) W w')
      (assumption)
      (first
        | (go_at_call 11
           refine (answers4_any _).mono ?_
           rintro e w' ⟨rfl, hb⟩
           have hS := heldN_next (by assumption) hb
           clear hb)
        | (go_at_call 13
           refine (own_any n B _ t A c (by exact Nat.le_trans HP.out.1 (H1.out.trans (heldN_chg (by assumption))).size) (NdR.keep0 (H1.out.trans (heldN_chg (by assumption))) HP.out.2.1)).mono ?_
           rintro e w' ⟨A7, c7, rfl, hN, hb⟩
           have hv := hN.ndR
           have hS := heldN_next (by assumption) hb
           clear hb hN)
        | (go_at_call 16
           refine (HQ.out.1 _ _ _ _ (Nat.le_refl _) (by assumption) (HP.out.2.2.1.keep0 (H1.out.trans (heldN_chg (by assumption)))) (HP.out.2.2.2.keep0 (H1.out.trans (heldN_chg (by assumption))))).mono ?_
           rintro e w' ⟨rfl, hb⟩
           have hS := heldN_next (by assumption) hb
           clear hb)
        | (go_at_call 17
           refine (HQ.out.2.2 _ _ _ _ (Nat.le_refl _) (by assumption) (HP.out.2.2.1.keep0 (H1.out.trans (heldN_chg (by assumption)))) (HP.out.2.2.2.keep0 (H1.out.trans (heldN_chg (by assumption))))).mono ?_
           rintro e w' ⟨rfl, hb⟩
           have hS := heldN_next (by assumption) hb
           clear hb)
        | (go_at_call 15
           refine (HQ.out.2.1 B _ A c (by exact Nat.le_trans HP.out.1 (H1.out.trans (heldN_chg (by assumption))).size) (NdR.keep0 (H1.out.trans (heldN_chg (by assumption))) HP.out.2.1)).mono ?_
           rintro e w' ⟨rfl, hb⟩
           have hS := heldN_next (by assumption) hb
           clear hb))
    have hS := H1.out.trans (heldN_chg (by assumption))
    clear c0 c1 c2 c3 c4
    go_wp2_with fail
    go_ret
    exact ⟨by simp, hS⟩
set_option maxRecDepth 100000 in
set_option maxHeartbeats 4000000 in
theorem soundIn_1tt (n B : Nat) (w : World) (t : Nd) (A : Option Addr) (c : Nat) (hB : B ≤ w.heap.size) (hT : NdR n B w (ndCells t.kind t.text t.n t.at_ A t.list.length c) t) (hTW : TabW w) (hO : OpsR w)
    (hchk : ∀ (B : Nat) (w : World) (A : Option Addr) (c : Nat), B ≤ w.heap.size → NdR n B w (ndCells t.kind t.text t.n t.at_ A t.list.length c) t → TabW w → OpsR w → Calls Tryd.prog 16 #[.agg #[.int .i64 t.kind, .string t.text, .int .u64 t.n, .int .i64 t.at_, .slice A t.list.length c]] w fun e w' => e = .returned (.int .i64 0) ∧ Chg (fun _ _ => False) w w')
    (hrs : ∀ (B : Nat) (w : World) (A : Option Addr) (c : Nat), B ≤ w.heap.size → NdR n B w (ndCells t.kind t.text t.n t.at_ A t.list.length c) t → Calls Tryd.prog 15 #[.agg #[.int .i64 t.kind, .string t.text, .int .u64 t.n, .int .i64 t.at_, .slice A t.list.length c], .int .u8 112] w fun e w' => e = .returned (.bool true) ∧ Chg (fun _ _ => False) w w')
    (hrv : ∀ (B : Nat) (w : World) (A : Option Addr) (c : Nat), B ≤ w.heap.size → NdR n B w (ndCells t.kind t.text t.n t.at_ A t.list.length c) t → Calls Tryd.prog 15 #[.agg #[.int .i64 t.kind, .string t.text, .int .u64 t.n, .int .i64 t.at_, .slice A t.list.length c], .int .u8 115] w fun e w' => e = .returned (.bool true) ∧ Chg (fun _ _ => False) w w')
    (hns : ∀ (B : Nat) (w : World) (A : Option Addr) (c : Nat), B ≤ w.heap.size → NdR n B w (ndCells t.kind t.text t.n t.at_ A t.list.length c) t → TabW w → OpsR w → Calls Tryd.prog 17 #[.agg #[.int .i64 t.kind, .string t.text, .int .u64 t.n, .int .i64 t.at_, .slice A t.list.length c], .int .i64 1] w fun e w' => e = .returned (.int .i64 0) ∧ Chg (fun _ _ => False) w w') :
    Calls Tryd.prog 4 #[.agg #[.int .i64 t.kind, .string t.text, .int .u64 t.n, .int .i64 t.at_, .slice A t.list.length c], .int .i64 1] w fun e w' => e = .returned (.bool true) ∧ Chg (fun _ _ => False) w w' := by
  have hix : ∀ w, (Instr.index 9 (.string ⟨#[45, 115, 101, 116]⟩) (.int .i64 1)).run Tryd.prog w = .ok (.int .u8 115) w := by
    intro w
    have h := run_index_string w 9 ⟨#[45, 115, 101, 116]⟩ .i64 (1 : Nat) Tryd.underlying9
    rw [dif_pos ⟨by decide, by decide⟩] at h
    exact h
  have HR := Lib.hid hrv
  clear hrv
  have hb1 := Blk.new w 25 #[.int .i64 t.kind, .string t.text, .int .u64 t.n, .int .i64 t.at_, .slice A t.list.length c]
  have hc1 := chg_alloc w (.cells #[.int .i64 t.kind, .string t.text, .int .u64 t.n, .int .i64 t.at_, .slice A t.list.length c] 25)
  have HP := Lib.hid (And.intro hB (And.intro hT (And.intro hTW hO)))
  have HQ := Lib.hid (And.intro hchk (And.intro hrs hns))
  clear hB hT hTW hO hchk hrs hns
  go_enter Tryd.func4, Tryd.ntmps4
  go_wp2_with fail
  generalize w.alloc (.cells #[.int .i64 t.kind, .string t.text, .int .u64 t.n, .int .i64 t.at_, .slice A t.list.length c] 25) = W at hb1 hc1 ⊢
  generalize w.heap.size = g1 at hb1 ⊢
  obtain ⟨c0, c1, c2, c3, c4⟩ := hb1.cells5
  have H1 := Lib.hid hc1
  have hK : W.cell? ⟨g1, 0, none⟩ = some (.int .i64 t.kind) ∧ W.cell? ⟨g1, 1, none⟩ = some (.string t.text) ∧ W.cell? ⟨g1, 2, none⟩ = some (.int .u64 t.n) ∧ W.cell? ⟨g1, 3, none⟩ = some (.int .i64 t.at_) ∧ W.cell? ⟨g1, 4, none⟩ = some (.slice A t.list.length c) ∧ Chg (fun _ _ => False) W W := ⟨c0, c1, c2, c3, c4, Chg.refl _ _⟩
  have hKd := heldN_next hK ((Chg.refl (fun _ _ => False) W).drew)
  clear hb1 hc1 hK
  go_region_held3 (fun w' => w'.cell? ⟨g1, 0, none⟩ = some (.int .i64 t.kind) ∧ w'.cell? ⟨g1, 1, none⟩ = some (.string t.text) ∧ w'.cell? ⟨g1, 2, none⟩ = some (.int .u64 t.n) ∧ w'.cell? ⟨g1, 3, none⟩ = some (.int .i64 t.at_) ∧ w'.cell? ⟨g1, 4, none⟩ = some (.slice A t.list.length c) ∧ Chg (fun _ _ => False) W w')
    (assumption)
    (first
      | (go_at_call 15
         refine (HR.out B _ A c (by exact Nat.le_trans HP.out.1 (H1.out.trans (heldN_chg (by assumption))).size) (NdR.keep0 (H1.out.trans (heldN_chg (by assumption))) HP.out.2.1)).mono ?_
         rintro e w' ⟨rfl, hb⟩
         have hS := heldN_next (by assumption) hb
         clear hb))
  clear c0 c1 c2 c3 c4 hKd
  go_wp2_with fail
  obtain ⟨c0, c1, c2, c3, c4, hch⟩ := hS
  have hK := And.intro c0 (And.intro c1 (And.intro c2 (And.intro c3 (And.intro c4 hch))))
  have hKd := heldN_next hK ((Chg.refl (fun _ _ => False) _).drew)
  clear hK hch
  go_region_held3 (fun w' => w'.cell? ⟨g1, 0, none⟩ = some (.int .i64 t.kind) ∧ w'.cell? ⟨g1, 1, none⟩ = some (.string t.text) ∧ w'.cell? ⟨g1, 2, none⟩ = some (.int .u64 t.n) ∧ w'.cell? ⟨g1, 3, none⟩ = some (.int .i64 t.at_) ∧ w'.cell? ⟨g1, 4, none⟩ = some (.slice A t.list.length c) ∧ Chg (fun _ _ => False) W w')
    (assumption)
    (first
      | (go_at_call 11
         refine (answers4_any _).mono ?_
         rintro e w' ⟨rfl, hb⟩
         have hS := heldN_next (by assumption) hb
         clear hb)
      | (go_at_call 13
         refine (own_any n B _ t A c (by exact Nat.le_trans HP.out.1 (H1.out.trans (heldN_chg (by assumption))).size) (NdR.keep0 (H1.out.trans (heldN_chg (by assumption))) HP.out.2.1)).mono ?_
         rintro e w' ⟨A7, c7, rfl, hN, hb⟩
         have hv := hN.ndR
         have hS := heldN_next (by assumption) hb
         clear hb hN)
      | (go_at_call 16
         refine (HQ.out.1 _ _ _ _ (Nat.le_refl _) (by assumption) (HP.out.2.2.1.keep0 (H1.out.trans (heldN_chg (by assumption)))) (HP.out.2.2.2.keep0 (H1.out.trans (heldN_chg (by assumption))))).mono ?_
         rintro e w' ⟨rfl, hb⟩
         have hS := heldN_next (by assumption) hb
         clear hb)
      | (go_at_call 17
         refine (HQ.out.2.2 _ _ _ _ (Nat.le_refl _) (by assumption) (HP.out.2.2.1.keep0 (H1.out.trans (heldN_chg (by assumption)))) (HP.out.2.2.2.keep0 (H1.out.trans (heldN_chg (by assumption))))).mono ?_
         rintro e w' ⟨rfl, hb⟩
         have hS := heldN_next (by assumption) hb
         clear hb)
      | (go_at_call 15
         refine (HQ.out.2.1 B _ A c (by exact Nat.le_trans HP.out.1 (H1.out.trans (heldN_chg (by assumption))).size) (NdR.keep0 (H1.out.trans (heldN_chg (by assumption))) HP.out.2.1)).mono ?_
         rintro e w' ⟨rfl, hb⟩
         have hS := heldN_next (by assumption) hb
         clear hb))
  have hS := H1.out.trans (heldN_chg (by assumption))
  clear c0 c1 c2 c3 c4
  go_wp2_with fail
  go_ret
  exact ⟨by simp, hS⟩
set_option maxRecDepth 100000 in
set_option maxHeartbeats 4000000 in
theorem soundIn_1tf (n B : Nat) (w : World) (t : Nd) (A : Option Addr) (c : Nat) (hB : B ≤ w.heap.size) (hT : NdR n B w (ndCells t.kind t.text t.n t.at_ A t.list.length c) t) (hTW : TabW w) (hO : OpsR w)
    (hchk : ∀ (B : Nat) (w : World) (A : Option Addr) (c : Nat), B ≤ w.heap.size → NdR n B w (ndCells t.kind t.text t.n t.at_ A t.list.length c) t → TabW w → OpsR w → Calls Tryd.prog 16 #[.agg #[.int .i64 t.kind, .string t.text, .int .u64 t.n, .int .i64 t.at_, .slice A t.list.length c]] w fun e w' => e = .returned (.int .i64 0) ∧ Chg (fun _ _ => False) w w')
    (hrs : ∀ (B : Nat) (w : World) (A : Option Addr) (c : Nat), B ≤ w.heap.size → NdR n B w (ndCells t.kind t.text t.n t.at_ A t.list.length c) t → Calls Tryd.prog 15 #[.agg #[.int .i64 t.kind, .string t.text, .int .u64 t.n, .int .i64 t.at_, .slice A t.list.length c], .int .u8 112] w fun e w' => e = .returned (.bool true) ∧ Chg (fun _ _ => False) w w')
    (hrv : ∀ (B : Nat) (w : World) (A : Option Addr) (c : Nat), B ≤ w.heap.size → NdR n B w (ndCells t.kind t.text t.n t.at_ A t.list.length c) t → Calls Tryd.prog 15 #[.agg #[.int .i64 t.kind, .string t.text, .int .u64 t.n, .int .i64 t.at_, .slice A t.list.length c], .int .u8 115] w fun e w' => e = .returned (.bool false) ∧ Chg (fun _ _ => False) w w')
    (hns : ∀ (B : Nat) (w : World) (A : Option Addr) (c : Nat), B ≤ w.heap.size → NdR n B w (ndCells t.kind t.text t.n t.at_ A t.list.length c) t → TabW w → OpsR w → Calls Tryd.prog 17 #[.agg #[.int .i64 t.kind, .string t.text, .int .u64 t.n, .int .i64 t.at_, .slice A t.list.length c], .int .i64 1] w fun e w' => e = .returned (.int .i64 1) ∧ Chg (fun _ _ => False) w w') :
    Calls Tryd.prog 4 #[.agg #[.int .i64 t.kind, .string t.text, .int .u64 t.n, .int .i64 t.at_, .slice A t.list.length c], .int .i64 1] w fun e w' => e = .returned (.bool true) ∧ Chg (fun _ _ => False) w w' := by
  have hix : ∀ w, (Instr.index 9 (.string ⟨#[45, 115, 101, 116]⟩) (.int .i64 1)).run Tryd.prog w = .ok (.int .u8 115) w := by
    intro w
    have h := run_index_string w 9 ⟨#[45, 115, 101, 116]⟩ .i64 (1 : Nat) Tryd.underlying9
    rw [dif_pos ⟨by decide, by decide⟩] at h
    exact h
  have HR := Lib.hid hrv
  clear hrv
  have hb1 := Blk.new w 25 #[.int .i64 t.kind, .string t.text, .int .u64 t.n, .int .i64 t.at_, .slice A t.list.length c]
  have hc1 := chg_alloc w (.cells #[.int .i64 t.kind, .string t.text, .int .u64 t.n, .int .i64 t.at_, .slice A t.list.length c] 25)
  have HP := Lib.hid (And.intro hB (And.intro hT (And.intro hTW hO)))
  have HQ := Lib.hid (And.intro hchk (And.intro hrs hns))
  clear hB hT hTW hO hchk hrs hns
  go_enter Tryd.func4, Tryd.ntmps4
  go_wp2_with fail
  generalize w.alloc (.cells #[.int .i64 t.kind, .string t.text, .int .u64 t.n, .int .i64 t.at_, .slice A t.list.length c] 25) = W at hb1 hc1 ⊢
  generalize w.heap.size = g1 at hb1 ⊢
  obtain ⟨c0, c1, c2, c3, c4⟩ := hb1.cells5
  have H1 := Lib.hid hc1
  have hK : W.cell? ⟨g1, 0, none⟩ = some (.int .i64 t.kind) ∧ W.cell? ⟨g1, 1, none⟩ = some (.string t.text) ∧ W.cell? ⟨g1, 2, none⟩ = some (.int .u64 t.n) ∧ W.cell? ⟨g1, 3, none⟩ = some (.int .i64 t.at_) ∧ W.cell? ⟨g1, 4, none⟩ = some (.slice A t.list.length c) ∧ Chg (fun _ _ => False) W W := ⟨c0, c1, c2, c3, c4, Chg.refl _ _⟩
  have hKd := heldN_next hK ((Chg.refl (fun _ _ => False) W).drew)
  clear hb1 hc1 hK
  go_region_held3 (fun w' => w'.cell? ⟨g1, 0, none⟩ = some (.int .i64 t.kind) ∧ w'.cell? ⟨g1, 1, none⟩ = some (.string t.text) ∧ w'.cell? ⟨g1, 2, none⟩ = some (.int .u64 t.n) ∧ w'.cell? ⟨g1, 3, none⟩ = some (.int .i64 t.at_) ∧ w'.cell? ⟨g1, 4, none⟩ = some (.slice A t.list.length c) ∧ Chg (fun _ _ => False) W w')
    (assumption)
    (first
      | (go_at_call 15
         refine (HR.out B _ A c (by exact Nat.le_trans HP.out.1 (H1.out.trans (heldN_chg (by assumption))).size) (NdR.keep0 (H1.out.trans (heldN_chg (by assumption))) HP.out.2.1)).mono ?_
         rintro e w' ⟨rfl, hb⟩
         have hS := heldN_next (by assumption) hb
         clear hb))
  clear c0 c1 c2 c3 c4 hKd
  go_wp2_with fail
  obtain ⟨c0, c1, c2, c3, c4, hch⟩ := hS
  have hK := And.intro c0 (And.intro c1 (And.intro c2 (And.intro c3 (And.intro c4 hch))))
  have hKd := heldN_next hK ((Chg.refl (fun _ _ => False) _).drew)
  clear hK hch
  go_region_held3 (fun w' => w'.cell? ⟨g1, 0, none⟩ = some (.int .i64 t.kind) ∧ w'.cell? ⟨g1, 1, none⟩ = some (.string t.text) ∧ w'.cell? ⟨g1, 2, none⟩ = some (.int .u64 t.n) ∧ w'.cell? ⟨g1, 3, none⟩ = some (.int .i64 t.at_) ∧ w'.cell? ⟨g1, 4, none⟩ = some (.slice A t.list.length c) ∧ Chg (fun _ _ => False) W w')
    (assumption)
    (first
      | (go_at_call 11
         refine (answers4_any _).mono ?_
         rintro e w' ⟨rfl, hb⟩
         have hS := heldN_next (by assumption) hb
         clear hb)
      | (go_at_call 13
         refine (own_any n B _ t A c (by exact Nat.le_trans HP.out.1 (H1.out.trans (heldN_chg (by assumption))).size) (NdR.keep0 (H1.out.trans (heldN_chg (by assumption))) HP.out.2.1)).mono ?_
         rintro e w' ⟨A7, c7, rfl, hN, hb⟩
         have hv := hN.ndR
         have hS := heldN_next (by assumption) hb
         clear hb hN)
      | (go_at_call 16
         refine (HQ.out.1 _ _ _ _ (Nat.le_refl _) (by assumption) (HP.out.2.2.1.keep0 (H1.out.trans (heldN_chg (by assumption)))) (HP.out.2.2.2.keep0 (H1.out.trans (heldN_chg (by assumption))))).mono ?_
         rintro e w' ⟨rfl, hb⟩
         have hS := heldN_next (by assumption) hb
         clear hb)
      | (go_at_call 17
         refine (HQ.out.2.2 _ _ _ _ (Nat.le_refl _) (by assumption) (HP.out.2.2.1.keep0 (H1.out.trans (heldN_chg (by assumption)))) (HP.out.2.2.2.keep0 (H1.out.trans (heldN_chg (by assumption))))).mono ?_
         rintro e w' ⟨rfl, hb⟩
         have hS := heldN_next (by assumption) hb
         clear hb)
      | (go_at_call 15
         refine (HQ.out.2.1 B _ A c (by exact Nat.le_trans HP.out.1 (H1.out.trans (heldN_chg (by assumption))).size) (NdR.keep0 (H1.out.trans (heldN_chg (by assumption))) HP.out.2.1)).mono ?_
         rintro e w' ⟨rfl, hb⟩
         have hS := heldN_next (by assumption) hb
         clear hb))
  have hS := H1.out.trans (heldN_chg (by assumption))
  clear c0 c1 c2 c3 c4
  go_wp2_with fail
  go_ret
  exact ⟨by simp, hS⟩
set_option maxRecDepth 100000 in
set_option maxHeartbeats 4000000 in
theorem soundIn_1ft (n B : Nat) (w : World) (t : Nd) (A : Option Addr) (c : Nat) (hB : B ≤ w.heap.size) (hT : NdR n B w (ndCells t.kind t.text t.n t.at_ A t.list.length c) t) (hTW : TabW w) (hO : OpsR w)
    (hchk : ∀ (B : Nat) (w : World) (A : Option Addr) (c : Nat), B ≤ w.heap.size → NdR n B w (ndCells t.kind t.text t.n t.at_ A t.list.length c) t → TabW w → OpsR w → Calls Tryd.prog 16 #[.agg #[.int .i64 t.kind, .string t.text, .int .u64 t.n, .int .i64 t.at_, .slice A t.list.length c]] w fun e w' => e = .returned (.int .i64 1) ∧ Chg (fun _ _ => False) w w')
    (hrs : ∀ (B : Nat) (w : World) (A : Option Addr) (c : Nat), B ≤ w.heap.size → NdR n B w (ndCells t.kind t.text t.n t.at_ A t.list.length c) t → Calls Tryd.prog 15 #[.agg #[.int .i64 t.kind, .string t.text, .int .u64 t.n, .int .i64 t.at_, .slice A t.list.length c], .int .u8 112] w fun e w' => e = .returned (.bool false) ∧ Chg (fun _ _ => False) w w')
    (hrv : ∀ (B : Nat) (w : World) (A : Option Addr) (c : Nat), B ≤ w.heap.size → NdR n B w (ndCells t.kind t.text t.n t.at_ A t.list.length c) t → Calls Tryd.prog 15 #[.agg #[.int .i64 t.kind, .string t.text, .int .u64 t.n, .int .i64 t.at_, .slice A t.list.length c], .int .u8 115] w fun e w' => e = .returned (.bool true) ∧ Chg (fun _ _ => False) w w')
    (hns : ∀ (B : Nat) (w : World) (A : Option Addr) (c : Nat), B ≤ w.heap.size → NdR n B w (ndCells t.kind t.text t.n t.at_ A t.list.length c) t → TabW w → OpsR w → Calls Tryd.prog 17 #[.agg #[.int .i64 t.kind, .string t.text, .int .u64 t.n, .int .i64 t.at_, .slice A t.list.length c], .int .i64 1] w fun e w' => e = .returned (.int .i64 0) ∧ Chg (fun _ _ => False) w w') :
    Calls Tryd.prog 4 #[.agg #[.int .i64 t.kind, .string t.text, .int .u64 t.n, .int .i64 t.at_, .slice A t.list.length c], .int .i64 1] w fun e w' => e = .returned (.bool true) ∧ Chg (fun _ _ => False) w w' := by
  have hix : ∀ w, (Instr.index 9 (.string ⟨#[45, 115, 101, 116]⟩) (.int .i64 1)).run Tryd.prog w = .ok (.int .u8 115) w := by
    intro w
    have h := run_index_string w 9 ⟨#[45, 115, 101, 116]⟩ .i64 (1 : Nat) Tryd.underlying9
    rw [dif_pos ⟨by decide, by decide⟩] at h
    exact h
  have HR := Lib.hid hrv
  clear hrv
  have hb1 := Blk.new w 25 #[.int .i64 t.kind, .string t.text, .int .u64 t.n, .int .i64 t.at_, .slice A t.list.length c]
  have hc1 := chg_alloc w (.cells #[.int .i64 t.kind, .string t.text, .int .u64 t.n, .int .i64 t.at_, .slice A t.list.length c] 25)
  have HP := Lib.hid (And.intro hB (And.intro hT (And.intro hTW hO)))
  have HQ := Lib.hid (And.intro hchk (And.intro hrs hns))
  clear hB hT hTW hO hchk hrs hns
  go_enter Tryd.func4, Tryd.ntmps4
  go_wp2_with fail
  generalize w.alloc (.cells #[.int .i64 t.kind, .string t.text, .int .u64 t.n, .int .i64 t.at_, .slice A t.list.length c] 25) = W at hb1 hc1 ⊢
  generalize w.heap.size = g1 at hb1 ⊢
  obtain ⟨c0, c1, c2, c3, c4⟩ := hb1.cells5
  have H1 := Lib.hid hc1
  have hK : W.cell? ⟨g1, 0, none⟩ = some (.int .i64 t.kind) ∧ W.cell? ⟨g1, 1, none⟩ = some (.string t.text) ∧ W.cell? ⟨g1, 2, none⟩ = some (.int .u64 t.n) ∧ W.cell? ⟨g1, 3, none⟩ = some (.int .i64 t.at_) ∧ W.cell? ⟨g1, 4, none⟩ = some (.slice A t.list.length c) ∧ Chg (fun _ _ => False) W W := ⟨c0, c1, c2, c3, c4, Chg.refl _ _⟩
  have hKd := heldN_next hK ((Chg.refl (fun _ _ => False) W).drew)
  clear hb1 hc1 hK
  go_region_held3 (fun w' => w'.cell? ⟨g1, 0, none⟩ = some (.int .i64 t.kind) ∧ w'.cell? ⟨g1, 1, none⟩ = some (.string t.text) ∧ w'.cell? ⟨g1, 2, none⟩ = some (.int .u64 t.n) ∧ w'.cell? ⟨g1, 3, none⟩ = some (.int .i64 t.at_) ∧ w'.cell? ⟨g1, 4, none⟩ = some (.slice A t.list.length c) ∧ Chg (fun _ _ => False) W w')
    (assumption)
    (first
      | (go_at_call 15
         refine (HR.out B _ A c (by exact Nat.le_trans HP.out.1 (H1.out.trans (heldN_chg (by assumption))).size) (NdR.keep0 (H1.out.trans (heldN_chg (by assumption))) HP.out.2.1)).mono ?_
         rintro e w' ⟨rfl, hb⟩
         have hS := heldN_next (by assumption) hb
         clear hb))
  clear c0 c1 c2 c3 c4 hKd
  go_wp2_with fail
  obtain ⟨c0, c1, c2, c3, c4, hch⟩ := hS
  have hK := And.intro c0 (And.intro c1 (And.intro c2 (And.intro c3 (And.intro c4 hch))))
  have hKd := heldN_next hK ((Chg.refl (fun _ _ => False) _).drew)
  clear hK hch
  go_region_held3 (fun w' => w'.cell? ⟨g1, 0, none⟩ = some (.int .i64 t.kind) ∧ w'.cell? ⟨g1, 1, none⟩ = some (.string t.text) ∧ w'.cell? ⟨g1, 2, none⟩ = some (.int .u64 t.n) ∧ w'.cell? ⟨g1, 3, none⟩ = some (.int .i64 t.at_) ∧ w'.cell? ⟨g1, 4, none⟩ = some (.slice A t.list.length c) ∧ Chg (fun _ _ => False) W w')
    (assumption)
    (first
      | (go_at_call 11
         refine (answers4_any _).mono ?_
         rintro e w' ⟨rfl, hb⟩
         have hS := heldN_next (by assumption) hb
         clear hb)
      | (go_at_call 13
         refine (own_any n B _ t A c (by exact Nat.le_trans HP.out.1 (H1.out.trans (heldN_chg (by assumption))).size) (NdR.keep0 (H1.out.trans (heldN_chg (by assumption))) HP.out.2.1)).mono ?_
         rintro e w' ⟨A7, c7, rfl, hN, hb⟩
         have hv := hN.ndR
         have hS := heldN_next (by assumption) hb
         clear hb hN)
      | (go_at_call 16
         refine (HQ.out.1 _ _ _ _ (Nat.le_refl _) (by assumption) (HP.out.2.2.1.keep0 (H1.out.trans (heldN_chg (by assumption)))) (HP.out.2.2.2.keep0 (H1.out.trans (heldN_chg (by assumption))))).mono ?_
         rintro e w' ⟨rfl, hb⟩
         have hS := heldN_next (by assumption) hb
         clear hb)
      | (go_at_call 17
         refine (HQ.out.2.2 _ _ _ _ (Nat.le_refl _) (by assumption) (HP.out.2.2.1.keep0 (H1.out.trans (heldN_chg (by assumption)))) (HP.out.2.2.2.keep0 (H1.out.trans (heldN_chg (by assumption))))).mono ?_
         rintro e w' ⟨rfl, hb⟩
         have hS := heldN_next (by assumption) hb
         clear hb)
      | (go_at_call 15
         refine (HQ.out.2.1 B _ A c (by exact Nat.le_trans HP.out.1 (H1.out.trans (heldN_chg (by assumption))).size) (NdR.keep0 (H1.out.trans (heldN_chg (by assumption))) HP.out.2.1)).mono ?_
         rintro e w' ⟨rfl, hb⟩
         have hS := heldN_next (by assumption) hb
         clear hb))
  have hS := H1.out.trans (heldN_chg (by assumption))
  clear c0 c1 c2 c3 c4
  go_wp2_with fail
  go_ret
  exact ⟨by simp, hS⟩
set_option maxRecDepth 100000 in
set_option maxHeartbeats 4000000 in
theorem soundIn_1ff (n B : Nat) (w : World) (t : Nd) (A : Option Addr) (c : Nat) (hB : B ≤ w.heap.size) (hT : NdR n B w (ndCells t.kind t.text t.n t.at_ A t.list.length c) t) (hTW : TabW w) (hO : OpsR w)
    (hchk : ∀ (B : Nat) (w : World) (A : Option Addr) (c : Nat), B ≤ w.heap.size → NdR n B w (ndCells t.kind t.text t.n t.at_ A t.list.length c) t → TabW w → OpsR w → Calls Tryd.prog 16 #[.agg #[.int .i64 t.kind, .string t.text, .int .u64 t.n, .int .i64 t.at_, .slice A t.list.length c]] w fun e w' => e = .returned (.int .i64 1) ∧ Chg (fun _ _ => False) w w')
    (hrs : ∀ (B : Nat) (w : World) (A : Option Addr) (c : Nat), B ≤ w.heap.size → NdR n B w (ndCells t.kind t.text t.n t.at_ A t.list.length c) t → Calls Tryd.prog 15 #[.agg #[.int .i64 t.kind, .string t.text, .int .u64 t.n, .int .i64 t.at_, .slice A t.list.length c], .int .u8 112] w fun e w' => e = .returned (.bool false) ∧ Chg (fun _ _ => False) w w')
    (hrv : ∀ (B : Nat) (w : World) (A : Option Addr) (c : Nat), B ≤ w.heap.size → NdR n B w (ndCells t.kind t.text t.n t.at_ A t.list.length c) t → Calls Tryd.prog 15 #[.agg #[.int .i64 t.kind, .string t.text, .int .u64 t.n, .int .i64 t.at_, .slice A t.list.length c], .int .u8 115] w fun e w' => e = .returned (.bool false) ∧ Chg (fun _ _ => False) w w')
    (hns : ∀ (B : Nat) (w : World) (A : Option Addr) (c : Nat), B ≤ w.heap.size → NdR n B w (ndCells t.kind t.text t.n t.at_ A t.list.length c) t → TabW w → OpsR w → Calls Tryd.prog 17 #[.agg #[.int .i64 t.kind, .string t.text, .int .u64 t.n, .int .i64 t.at_, .slice A t.list.length c], .int .i64 1] w fun e w' => e = .returned (.int .i64 1) ∧ Chg (fun _ _ => False) w w') :
    Calls Tryd.prog 4 #[.agg #[.int .i64 t.kind, .string t.text, .int .u64 t.n, .int .i64 t.at_, .slice A t.list.length c], .int .i64 1] w fun e w' => e = .returned (.bool true) ∧ Chg (fun _ _ => False) w w' := by
  have hix : ∀ w, (Instr.index 9 (.string ⟨#[45, 115, 101, 116]⟩) (.int .i64 1)).run Tryd.prog w = .ok (.int .u8 115) w := by
    intro w
    have h := run_index_string w 9 ⟨#[45, 115, 101, 116]⟩ .i64 (1 : Nat) Tryd.underlying9
    rw [dif_pos ⟨by decide, by decide⟩] at h
    exact h
  have HR := Lib.hid hrv
  clear hrv
  have hb1 := Blk.new w 25 #[.int .i64 t.kind, .string t.text, .int .u64 t.n, .int .i64 t.at_, .slice A t.list.length c]
  have hc1 := chg_alloc w (.cells #[.int .i64 t.kind, .string t.text, .int .u64 t.n, .int .i64 t.at_, .slice A t.list.length c] 25)
  have HP := Lib.hid (And.intro hB (And.intro hT (And.intro hTW hO)))
  have HQ := Lib.hid (And.intro hchk (And.intro hrs hns))
  clear hB hT hTW hO hchk hrs hns
  go_enter Tryd.func4, Tryd.ntmps4
  go_wp2_with fail
  generalize w.alloc (.cells #[.int .i64 t.kind, .string t.text, .int .u64 t.n, .int .i64 t.at_, .slice A t.list.length c] 25) = W at hb1 hc1 ⊢
  generalize w.heap.size = g1 at hb1 ⊢
  obtain ⟨c0, c1, c2, c3, c4⟩ := hb1.cells5
  have H1 := Lib.hid hc1
  have hK : W.cell? ⟨g1, 0, none⟩ = some (.int .i64 t.kind) ∧ W.cell? ⟨g1, 1, none⟩ = some (.string t.text) ∧ W.cell? ⟨g1, 2, none⟩ = some (.int .u64 t.n) ∧ W.cell? ⟨g1, 3, none⟩ = some (.int .i64 t.at_) ∧ W.cell? ⟨g1, 4, none⟩ = some (.slice A t.list.length c) ∧ Chg (fun _ _ => False) W W := ⟨c0, c1, c2, c3, c4, Chg.refl _ _⟩
  have hKd := heldN_next hK ((Chg.refl (fun _ _ => False) W).drew)
  clear hb1 hc1 hK
  go_region_held3 (fun w' => w'.cell? ⟨g1, 0, none⟩ = some (.int .i64 t.kind) ∧ w'.cell? ⟨g1, 1, none⟩ = some (.string t.text) ∧ w'.cell? ⟨g1, 2, none⟩ = some (.int .u64 t.n) ∧ w'.cell? ⟨g1, 3, none⟩ = some (.int .i64 t.at_) ∧ w'.cell? ⟨g1, 4, none⟩ = some (.slice A t.list.length c) ∧ Chg (fun _ _ => False) W w')
    (assumption)
    (first
      | (go_at_call 15
         refine (HR.out B _ A c (by exact Nat.le_trans HP.out.1 (H1.out.trans (heldN_chg (by assumption))).size) (NdR.keep0 (H1.out.trans (heldN_chg (by assumption))) HP.out.2.1)).mono ?_
         rintro e w' ⟨rfl, hb⟩
         have hS := heldN_next (by assumption) hb
         clear hb))
  clear c0 c1 c2 c3 c4 hKd
  go_wp2_with fail
  obtain ⟨c0, c1, c2, c3, c4, hch⟩ := hS
  have hK := And.intro c0 (And.intro c1 (And.intro c2 (And.intro c3 (And.intro c4 hch))))
  have hKd := heldN_next hK ((Chg.refl (fun _ _ => False) _).drew)
  clear hK hch
  go_region_held3 (fun w' => w'.cell? ⟨g1, 0, none⟩ = some (.int .i64 t.kind) ∧ w'.cell? ⟨g1, 1, none⟩ = some (.string t.text) ∧ w'.cell? ⟨g1, 2, none⟩ = some (.int .u64 t.n) ∧ w'.cell? ⟨g1, 3, none⟩ = some (.int .i64 t.at_) ∧ w'.cell? ⟨g1, 4, none⟩ = some (.slice A t.list.length c) ∧ Chg (fun _ _ => False) W w')
    (assumption)
    (first
      | (go_at_call 11
         refine (answers4_any _).mono ?_
         rintro e w' ⟨rfl, hb⟩
         have hS := heldN_next (by assumption) hb
         clear hb)
      | (go_at_call 13
         refine (own_any n B _ t A c (by exact Nat.le_trans HP.out.1 (H1.out.trans (heldN_chg (by assumption))).size) (NdR.keep0 (H1.out.trans (heldN_chg (by assumption))) HP.out.2.1)).mono ?_
         rintro e w' ⟨A7, c7, rfl, hN, hb⟩
         have hv := hN.ndR
         have hS := heldN_next (by assumption) hb
         clear hb hN)
      | (go_at_call 16
         refine (HQ.out.1 _ _ _ _ (Nat.le_refl _) (by assumption) (HP.out.2.2.1.keep0 (H1.out.trans (heldN_chg (by assumption)))) (HP.out.2.2.2.keep0 (H1.out.trans (heldN_chg (by assumption))))).mono ?_
         rintro e w' ⟨rfl, hb⟩
         have hS := heldN_next (by assumption) hb
         clear hb)
      | (go_at_call 17
         refine (HQ.out.2.2 _ _ _ _ (Nat.le_refl _) (by assumption) (HP.out.2.2.1.keep0 (H1.out.trans (heldN_chg (by assumption)))) (HP.out.2.2.2.keep0 (H1.out.trans (heldN_chg (by assumption))))).mono ?_
         rintro e w' ⟨rfl, hb⟩
         have hS := heldN_next (by assumption) hb
         clear hb)
      | (go_at_call 15
         refine (HQ.out.2.1 B _ A c (by exact Nat.le_trans HP.out.1 (H1.out.trans (heldN_chg (by assumption))).size) (NdR.keep0 (H1.out.trans (heldN_chg (by assumption))) HP.out.2.1)).mono ?_
         rintro e w' ⟨rfl, hb⟩
         have hS := heldN_next (by assumption) hb
         clear hb))
  have hS := H1.out.trans (heldN_chg (by assumption))
  clear c0 c1 c2 c3 c4
  go_wp2_with fail
  go_ret
  exact ⟨by simp, hS⟩
set_option maxRecDepth 100000 in
set_option maxHeartbeats 4000000 in
theorem soundIn_2tt (n B : Nat) (w : World) (t : Nd) (A : Option Addr) (c : Nat) (hB : B ≤ w.heap.size) (hT : NdR n B w (ndCells t.kind t.text t.n t.at_ A t.list.length c) t) (hTW : TabW w) (hO : OpsR w)
    (hchk : ∀ (B : Nat) (w : World) (A : Option Addr) (c : Nat), B ≤ w.heap.size → NdR n B w (ndCells t.kind t.text t.n t.at_ A t.list.length c) t → TabW w → OpsR w → Calls Tryd.prog 16 #[.agg #[.int .i64 t.kind, .string t.text, .int .u64 t.n, .int .i64 t.at_, .slice A t.list.length c]] w fun e w' => e = .returned (.int .i64 0) ∧ Chg (fun _ _ => False) w w')
    (hrs : ∀ (B : Nat) (w : World) (A : Option Addr) (c : Nat), B ≤ w.heap.size → NdR n B w (ndCells t.kind t.text t.n t.at_ A t.list.length c) t → Calls Tryd.prog 15 #[.agg #[.int .i64 t.kind, .string t.text, .int .u64 t.n, .int .i64 t.at_, .slice A t.list.length c], .int .u8 112] w fun e w' => e = .returned (.bool true) ∧ Chg (fun _ _ => False) w w')
    (hrv : ∀ (B : Nat) (w : World) (A : Option Addr) (c : Nat), B ≤ w.heap.size → NdR n B w (ndCells t.kind t.text t.n t.at_ A t.list.length c) t → Calls Tryd.prog 15 #[.agg #[.int .i64 t.kind, .string t.text, .int .u64 t.n, .int .i64 t.at_, .slice A t.list.length c], .int .u8 101] w fun e w' => e = .returned (.bool true) ∧ Chg (fun _ _ => False) w w')
    (hns : ∀ (B : Nat) (w : World) (A : Option Addr) (c : Nat), B ≤ w.heap.size → NdR n B w (ndCells t.kind t.text t.n t.at_ A t.list.length c) t → TabW w → OpsR w → Calls Tryd.prog 17 #[.agg #[.int .i64 t.kind, .string t.text, .int .u64 t.n, .int .i64 t.at_, .slice A t.list.length c], .int .i64 2] w fun e w' => e = .returned (.int .i64 0) ∧ Chg (fun _ _ => False) w w') :
    Calls Tryd.prog 4 #[.agg #[.int .i64 t.kind, .string t.text, .int .u64 t.n, .int .i64 t.at_, .slice A t.list.length c], .int .i64 2] w fun e w' => e = .returned (.bool true) ∧ Chg (fun _ _ => False) w w' := by
  have hix : ∀ w, (Instr.index 9 (.string ⟨#[45, 115, 101, 116]⟩) (.int .i64 2)).run Tryd.prog w = .ok (.int .u8 101) w := by
    intro w
    have h := run_index_string w 9 ⟨#[45, 115, 101, 116]⟩ .i64 (2 : Nat) Tryd.underlying9
    rw [dif_pos ⟨by decide, by decide⟩] at h
    exact h
  have HR := Lib.hid hrv
  clear hrv
  have hb1 := Blk.new w 25 #[.int .i64 t.kind, .string t.text, .int .u64 t.n, .int .i64 t.at_, .slice A t.list.length c]
  have hc1 := chg_alloc w (.cells #[.int .i64 t.kind, .string t.text, .int .u64 t.n, .int .i64 t.at_, .slice A t.list.length c] 25)
  have HP := Lib.hid (And.intro hB (And.intro hT (And.intro hTW hO)))
  have HQ := Lib.hid (And.intro hchk (And.intro hrs hns))
  clear hB hT hTW hO hchk hrs hns
  go_enter Tryd.func4, Tryd.ntmps4
  go_wp2_with fail
  generalize w.alloc (.cells #[.int .i64 t.kind, .string t.text, .int .u64 t.n, .int .i64 t.at_, .slice A t.list.length c] 25) = W at hb1 hc1 ⊢
  generalize w.heap.size = g1 at hb1 ⊢
  obtain ⟨c0, c1, c2, c3, c4⟩ := hb1.cells5
  have H1 := Lib.hid hc1
  have hK : W.cell? ⟨g1, 0, none⟩ = some (.int .i64 t.kind) ∧ W.cell? ⟨g1, 1, none⟩ = some (.string t.text) ∧ W.cell? ⟨g1, 2, none⟩ = some (.int .u64 t.n) ∧ W.cell? ⟨g1, 3, none⟩ = some (.int .i64 t.at_) ∧ W.cell? ⟨g1, 4, none⟩ = some (.slice A t.list.length c) ∧ Chg (fun _ _ => False) W W := ⟨c0, c1, c2, c3, c4, Chg.refl _ _⟩
  have hKd := heldN_next hK ((Chg.refl (fun _ _ => False) W).drew)
  clear hb1 hc1 hK
  go_region_held3 (fun w' => w'.cell? ⟨g1, 0, none⟩ = some (.int .i64 t.kind) ∧ w'.cell? ⟨g1, 1, none⟩ = some (.string t.text) ∧ w'.cell? ⟨g1, 2, none⟩ = some (.int .u64 t.n) ∧ w'.cell? ⟨g1, 3, none⟩ = some (.int .i64 t.at_) ∧ w'.cell? ⟨g1, 4, none⟩ = some (.slice A t.list.length c) ∧ Chg (fun _ _ => False) W w')
    (assumption)
    (first
      | (go_at_call 15
         refine (HR.out B _ A c (by exact Nat.le_trans HP.out.1 (H1.out.trans (heldN_chg (by assumption))).size) (NdR.keep0 (H1.out.trans (heldN_chg (by assumption))) HP.out.2.1)).mono ?_
         rintro e w' ⟨rfl, hb⟩
         have hS := heldN_next (by assumption) hb
         clear hb))
  clear c0 c1 c2 c3 c4 hKd
  go_wp2_with fail
  obtain ⟨c0, c1, c2, c3, c4, hch⟩ := hS
  have hK := And.intro c0 (And.intro c1 (And.intro c2 (And.intro c3 (And.intro c4 hch))))
  have hKd := heldN_next hK ((Chg.refl (fun _ _ => False) _).drew)
  clear hK hch
  go_region_held3 (fun w' => w'.cell? ⟨g1, 0, none⟩ = some (.int .i64 t.kind) ∧ w'.cell? ⟨g1, 1, none⟩ = some (.string t.text) ∧ w'.cell? ⟨g1, 2, none⟩ = some (.int .u64 t.n) ∧ w'.cell? ⟨g1, 3, none⟩ = some (.int .i64 t.at_) ∧ w'.cell? ⟨g1, 4, none⟩ = some (.slice A t.list.length c) ∧ Chg (fun _ _ => False) W w')
    (assumption)
    (first
      | (go_at_call 11
         refine (answers4_any _).mono ?_
         rintro e w' ⟨rfl, hb⟩
         have hS := heldN_next (by assumption) hb
         clear hb)
      | (go_at_call 13
         refine (own_any n B _ t A c (by exact Nat.le_trans HP.out.1 (H1.out.trans (heldN_chg (by assumption))).size) (NdR.keep0 (H1.out.trans (heldN_chg (by assumption))) HP.out.2.1)).mono ?_
         rintro e w' ⟨A7, c7, rfl, hN, hb⟩
         have hv := hN.ndR
         have hS := heldN_next (by assumption) hb
         clear hb hN)
      | (go_at_call 16
         refine (HQ.out.1 _ _ _ _ (Nat.le_refl _) (by assumption) (HP.out.2.2.1.keep0 (H1.out.trans (heldN_chg (by assumption)))) (HP.out.2.2.2.keep0 (H1.out.trans (heldN_chg (by assumption))))).mono ?_
         rintro e w' ⟨rfl, hb⟩
         have hS := heldN_next (by assumption) hb
         clear hb)
      | (go_at_call 17
         refine (HQ.out.2.2 _ _ _ _ (Nat.le_refl _) (by assumption) (HP.out.2.2.1.keep0 (H1.out.trans (heldN_chg (by assumption)))) (HP.out.2.2.2.keep0 (H1.out.trans (heldN_chg (by assumption))))).mono ?_
         rintro e w' ⟨rfl, hb⟩
         have hS := heldN_next (by assumption) hb
         clear hb)
      | (go_at_call 15
         refine (HQ.out.2.1 B _ A c (by exact Nat.le_trans HP.out.1 (H1.out.trans (heldN_chg (by assumption))).size) (NdR.keep0 (H1.out.trans (heldN_chg (by assumption))) HP.out.2.1)).mono ?_
         rintro e w' ⟨rfl, hb⟩
         have hS := heldN_next (by assumption) hb
         clear hb))
  have hS := H1.out.trans (heldN_chg (by assumption))
  clear c0 c1 c2 c3 c4
  go_wp2_with fail
  go_ret
  exact ⟨by simp, hS⟩
set_option maxRecDepth 100000 in
set_option maxHeartbeats 4000000 in
theorem soundIn_2tf (n B : Nat) (w : World) (t : Nd) (A : Option Addr) (c : Nat) (hB : B ≤ w.heap.size) (hT : NdR n B w (ndCells t.kind t.text t.n t.at_ A t.list.length c) t) (hTW : TabW w) (hO : OpsR w)
    (hchk : ∀ (B : Nat) (w : World) (A : Option Addr) (c : Nat), B ≤ w.heap.size → NdR n B w (ndCells t.kind t.text t.n t.at_ A t.list.length c) t → TabW w → OpsR w → Calls Tryd.prog 16 #[.agg #[.int .i64 t.kind, .string t.text, .int .u64 t.n, .int .i64 t.at_, .slice A t.list.length c]] w fun e w' => e = .returned (.int .i64 0) ∧ Chg (fun _ _ => False) w w')
    (hrs : ∀ (B : Nat) (w : World) (A : Option Addr) (c : Nat), B ≤ w.heap.size → NdR n B w (ndCells t.kind t.text t.n t.at_ A t.list.length c) t → Calls Tryd.prog 15 #[.agg #[.int .i64 t.kind, .string t.text, .int .u64 t.n, .int .i64 t.at_, .slice A t.list.length c], .int .u8 112] w fun e w' => e = .returned (.bool true) ∧ Chg (fun _ _ => False) w w')
    (hrv : ∀ (B : Nat) (w : World) (A : Option Addr) (c : Nat), B ≤ w.heap.size → NdR n B w (ndCells t.kind t.text t.n t.at_ A t.list.length c) t → Calls Tryd.prog 15 #[.agg #[.int .i64 t.kind, .string t.text, .int .u64 t.n, .int .i64 t.at_, .slice A t.list.length c], .int .u8 101] w fun e w' => e = .returned (.bool false) ∧ Chg (fun _ _ => False) w w')
    (hns : ∀ (B : Nat) (w : World) (A : Option Addr) (c : Nat), B ≤ w.heap.size → NdR n B w (ndCells t.kind t.text t.n t.at_ A t.list.length c) t → TabW w → OpsR w → Calls Tryd.prog 17 #[.agg #[.int .i64 t.kind, .string t.text, .int .u64 t.n, .int .i64 t.at_, .slice A t.list.length c], .int .i64 2] w fun e w' => e = .returned (.int .i64 1) ∧ Chg (fun _ _ => False) w w') :
    Calls Tryd.prog 4 #[.agg #[.int .i64 t.kind, .string t.text, .int .u64 t.n, .int .i64 t.at_, .slice A t.list.length c], .int .i64 2] w fun e w' => e = .returned (.bool true) ∧ Chg (fun _ _ => False) w w' := by
  have hix : ∀ w, (Instr.index 9 (.string ⟨#[45, 115, 101, 116]⟩) (.int .i64 2)).run Tryd.prog w = .ok (.int .u8 101) w := by
    intro w
    have h := run_index_string w 9 ⟨#[45, 115, 101, 116]⟩ .i64 (2 : Nat) Tryd.underlying9
    rw [dif_pos ⟨by decide, by decide⟩] at h
    exact h
  have HR := Lib.hid hrv
  clear hrv
  have hb1 := Blk.new w 25 #[.int .i64 t.kind, .string t.text, .int .u64 t.n, .int .i64 t.at_, .slice A t.list.length c]
  have hc1 := chg_alloc w (.cells #[.int .i64 t.kind, .string t.text, .int .u64 t.n, .int .i64 t.at_, .slice A t.list.length c] 25)
  have HP := Lib.hid (And.intro hB (And.intro hT (And.intro hTW hO)))
  have HQ := Lib.hid (And.intro hchk (And.intro hrs hns))
  clear hB hT hTW hO hchk hrs hns
  go_enter Tryd.func4, Tryd.ntmps4
  go_wp2_with fail
  generalize w.alloc (.cells #[.int .i64 t.kind, .string t.text, .int .u64 t.n, .int .i64 t.at_, .slice A t.list.length c] 25) = W at hb1 hc1 ⊢
  generalize w.heap.size = g1 at hb1 ⊢
  obtain ⟨c0, c1, c2, c3, c4⟩ := hb1.cells5
  have H1 := Lib.hid hc1
  have hK : W.cell? ⟨g1, 0, none⟩ = some (.int .i64 t.kind) ∧ W.cell? ⟨g1, 1, none⟩ = some (.string t.text) ∧ W.cell? ⟨g1, 2, none⟩ = some (.int .u64 t.n) ∧ W.cell? ⟨g1, 3, none⟩ = some (.int .i64 t.at_) ∧ W.cell? ⟨g1, 4, none⟩ = some (.slice A t.list.length c) ∧ Chg (fun _ _ => False) W W := ⟨c0, c1, c2, c3, c4, Chg.refl _ _⟩
  have hKd := heldN_next hK ((Chg.refl (fun _ _ => False) W).drew)
  clear hb1 hc1 hK
  go_region_held3 (fun w' => w'.cell? ⟨g1, 0, none⟩ = some (.int .i64 t.kind) ∧ w'.cell? ⟨g1, 1, none⟩ = some (.string t.text) ∧ w'.cell? ⟨g1, 2, none⟩ = some (.int .u64 t.n) ∧ w'.cell? ⟨g1, 3, none⟩ = some (.int .i64 t.at_) ∧ w'.cell? ⟨g1, 4, none⟩ = some (.slice A t.list.length c) ∧ Chg (fun _ _ => False) W w')
    (assumption)
    (first
      | (go_at_call 15
         refine (HR.out B _ A c (by exact Nat.le_trans HP.out.1 (H1.out.trans (heldN_chg (by assumption))).size) (NdR.keep0 (H1.out.trans (heldN_chg (by assumption))) HP.out.2.1)).mono ?_
         rintro e w' ⟨rfl, hb⟩
         have hS := heldN_next (by assumption) hb
         clear hb))
  clear c0 c1 c2 c3 c4 hKd
  go_wp2_with fail
  obtain ⟨c0, c1, c2, c3, c4, hch⟩ := hS
  have hK := And.intro c0 (And.intro c1 (And.intro c2 (And.intro c3 (And.intro c4 hch))))
  have hKd := heldN_next hK ((Chg.refl (fun _ _ => False) _).drew)
  clear hK hch
  go_region_held3 (fun w' => w'.cell? ⟨g1, 0, none⟩ = some (.int .i64 t.kind) ∧ w'.cell? ⟨g1, 1, none⟩ = some (.string t.text) ∧ w'.cell? ⟨g1, 2, none⟩ = some (.int .u64 t.n) ∧ w'.cell? ⟨g1, 3, none⟩ = some (.int .i64 t.at_) ∧ w'.cell? ⟨g1, 4, none⟩ = some (.slice A t.list.length c) ∧ Chg (fun _ _ => False) W w')
    (assumption)
    (first
      | (go_at_call 11
         refine (answers4_any _).mono ?_
         rintro e w' ⟨rfl, hb⟩
         have hS := heldN_next (by assumption) hb
         clear hb)
      | (go_at_call 13
         refine (own_any n B _ t A c (by exact Nat.le_trans HP.out.1 (H1.out.trans (heldN_chg (by assumption))).size) (NdR.keep0 (H1.out.trans (heldN_chg (by assumption))) HP.out.2.1)).mono ?_
         rintro e w' ⟨A7, c7, rfl, hN, hb⟩
         have hv := hN.ndR
         have hS := heldN_next (by assumption) hb
         clear hb hN)
      | (go_at_call 16
         refine (HQ.out.1 _ _ _ _ (Nat.le_refl _) (by assumption) (HP.out.2.2.1.keep0 (H1.out.trans (heldN_chg (by assumption)))) (HP.out.2.2.2.keep0 (H1.out.trans (heldN_chg (by assumption))))).mono ?_
         rintro e w' ⟨rfl, hb⟩
         have hS := heldN_next (by assumption) hb
         clear hb)
      | (go_at_call 17
         refine (HQ.out.2.2 _ _ _ _ (Nat.le_refl _) (by assumption) (HP.out.2.2.1.keep0 (H1.out.trans (heldN_chg (by assumption)))) (HP.out.2.2.2.keep0 (H1.out.trans (heldN_chg (by assumption))))).mono ?_
         rintro e w' ⟨rfl, hb⟩
         have hS := heldN_next (by assumption) hb
         clear hb)
      | (go_at_call 15
         refine (HQ.out.2.1 B _ A c (by exact Nat.le_trans HP.out.1 (H1.out.trans (heldN_chg (by assumption))).size) (NdR.keep0 (H1.out.trans (heldN_chg (by assumption))) HP.out.2.1)).mono ?_
         rintro e w' ⟨rfl, hb⟩
         have hS := heldN_next (by assumption) hb
         clear hb))
  have hS := H1.out.trans (heldN_chg (by assumption))
  clear c0 c1 c2 c3 c4
  go_wp2_with fail
  go_ret
  exact ⟨by simp, hS⟩
set_option maxRecDepth 100000 in
set_option maxHeartbeats 4000000 in
theorem soundIn_2ft (n B : Nat) (w : World) (t : Nd) (A : Option Addr) (c : Nat) (hB : B ≤ w.heap.size) (hT : NdR n B w (ndCells t.kind t.text t.n t.at_ A t.list.length c) t) (hTW : TabW w) (hO : OpsR w)
    (hchk : ∀ (B : Nat) (w : World) (A : Option Addr) (c : Nat), B ≤ w.heap.size → NdR n B w (ndCells t.kind t.text t.n t.at_ A t.list.length c) t → TabW w → OpsR w → Calls Tryd.prog 16 #[.agg #[.int .i64 t.kind, .string t.text, .int .u64 t.n, .int .i64 t.at_, .slice A t.list.length c]] w fun e w' => e = .returned (.int .i64 1) ∧ Chg (fun _ _ => False) w w')
    (hrs : ∀ (B : Nat) (w : World) (A : Option Addr) (c : Nat), B ≤ w.heap.size → NdR n B w (ndCells t.kind t.text t.n t.at_ A t.list.length c) t → Calls Tryd.prog 15 #[.agg #[.int .i64 t.kind, .string t.text, .int .u64 t.n, .int .i64 t.at_, .slice A t.list.length c], .int .u8 112] w fun e w' => e = .returned (.bool false) ∧ Chg (fun _ _ => False) w w')
    (hrv : ∀ (B : Nat) (w : World) (A : Option Addr) (c : Nat), B ≤ w.heap.size → NdR n B w (ndCells t.kind t.text t.n t.at_ A t.list.length c) t → Calls Tryd.prog 15 #[.agg #[.int .i64 t.kind, .string t.text, .int .u64 t.n, .int .i64 t.at_, .slice A t.list.length c], .int .u8 101] w fun e w' => e = .returned (.bool true) ∧ Chg (fun _ _ => False) w w')
    (hns : ∀ (B : Nat) (w : World) (A : Option Addr) (c : Nat), B ≤ w.heap.size → NdR n B w (ndCells t.kind t.text t.n t.at_ A t.list.length c) t → TabW w → OpsR w → Calls Tryd.prog 17 #[.agg #[.int .i64 t.kind, .string t.text, .int .u64 t.n, .int .i64 t.at_, .slice A t.list.length c], .int .i64 2] w fun e w' => e = .returned (.int .i64 0) ∧ Chg (fun _ _ => False) w w') :
    Calls Tryd.prog 4 #[.agg #[.int .i64 t.kind, .string t.text, .int .u64 t.n, .int .i64 t.at_, .slice A t.list.length c], .int .i64 2] w fun e w' => e = .returned (.bool true) ∧ Chg (fun _ _ => False) w w' := by
  have hix : ∀ w, (Instr.index 9 (.string ⟨#[45, 115, 101, 116]⟩) (.int .i64 2)).run Tryd.prog w = .ok (.int .u8 101) w := by
    intro w
    have h := run_index_string w 9 ⟨#[45, 115, 101, 116]⟩ .i64 (2 : Nat) Tryd.underlying9
    rw [dif_pos ⟨by decide, by decide⟩] at h
    exact h
  have HR := Lib.hid hrv
  clear hrv
  have hb1 := Blk.new w 25 #[.int .i64 t.kind, .string t.text, .int .u64 t.n, .int .i64 t.at_, .slice A t.list.length c]
  have hc1 := chg_alloc w (.cells #[.int .i64 t.kind, .string t.text, .int .u64 t.n, .int .i64 t.at_, .slice A t.list.length c] 25)
  have HP := Lib.hid (And.intro hB (And.intro hT (And.intro hTW hO)))
  have HQ := Lib.hid (And.intro hchk (And.intro hrs hns))
  clear hB hT hTW hO hchk hrs hns
  go_enter Tryd.func4, Tryd.ntmps4
  go_wp2_with fail
  generalize w.alloc (.cells #[.int .i64 t.kind, .string t.text, .int .u64 t.n, .int .i64 t.at_, .slice A t.list.length c] 25) = W at hb1 hc1 ⊢
  generalize w.heap.size = g1 at hb1 ⊢
  obtain ⟨c0, c1, c2, c3, c4⟩ := hb1.cells5
  have H1 := Lib.hid hc1
  have hK : W.cell? ⟨g1, 0, none⟩ = some (.int .i64 t.kind) ∧ W.cell? ⟨g1, 1, none⟩ = some (.string t.text) ∧ W.cell? ⟨g1, 2, none⟩ = some (.int .u64 t.n) ∧ W.cell? ⟨g1, 3, none⟩ = some (.int .i64 t.at_) ∧ W.cell? ⟨g1, 4, none⟩ = some (.slice A t.list.length c) ∧ Chg (fun _ _ => False) W W := ⟨c0, c1, c2, c3, c4, Chg.refl _ _⟩
  have hKd := heldN_next hK ((Chg.refl (fun _ _ => False) W).drew)
  clear hb1 hc1 hK
  go_region_held3 (fun w' => w'.cell? ⟨g1, 0, none⟩ = some (.int .i64 t.kind) ∧ w'.cell? ⟨g1, 1, none⟩ = some (.string t.text) ∧ w'.cell? ⟨g1, 2, none⟩ = some (.int .u64 t.n) ∧ w'.cell? ⟨g1, 3, none⟩ = some (.int .i64 t.at_) ∧ w'.cell? ⟨g1, 4, none⟩ = some (.slice A t.list.length c) ∧ Chg (fun _ _ => False) W w')
    (assumption)
    (first
      | (go_at_call 15
         refine (HR.out B _ A c (by exact Nat.le_trans HP.out.1 (H1.out.trans (heldN_chg (by assumption))).size) (NdR.keep0 (H1.out.trans (heldN_chg (by assumption))) HP.out.2.1)).mono ?_
         rintro e w' ⟨rfl, hb⟩
         have hS := heldN_next (by assumption) hb
         clear hb))
  clear c0 c1 c2 c3 c4 hKd
  go_wp2_with fail
  obtain ⟨c0, c1, c2, c3, c4, hch⟩ := hS
  have hK := And.intro c0 (And.intro c1 (And.intro c2 (And.intro c3 (And.intro c4 hch))))
  have hKd := heldN_next hK ((Chg.refl (fun _ _ => False) _).drew)
  clear hK hch
  go_region_held3 (fun w' => w'.cell? ⟨g1, 0, none⟩ = some (.int .i64 t.kind) ∧ w'.cell? ⟨g1, 1, none⟩ = some (.string t.text) ∧ w'.cell? ⟨g1, 2, none⟩ = some (.int .u64 t.n) ∧ w'.cell? ⟨g1, 3, none⟩ = some (.int .i64 t.at_) ∧ w'.cell? ⟨g1, 4, none⟩ = some (.slice A t.list.length c) ∧ Chg (fun _ _ => False) W w')
    (assumption)
    (first
      | (go_at_call 11
         refine (answers4_any _).mono ?_
         rintro e w' ⟨rfl, hb⟩
         have hS := heldN_next (by assumption) hb
         clear hb)
      | (go_at_call 13
         refine (own_any n B _ t A c (by exact Nat.le_trans HP.out.1 (H1.out.trans (heldN_chg (by assumption))).size) (NdR.keep0 (H1.out.trans (heldN_chg (by assumption))) HP.out.2.1)).mono ?_
         rintro e w' ⟨A7, c7, rfl, hN, hb⟩
         have hv := hN.ndR
         have hS := heldN_next (by assumption) hb
         clear hb hN)
      | (go_at_call 16
         refine (HQ.out.1 _ _ _ _ (Nat.le_refl _) (by assumption) (HP.out.2.2.1.keep0 (H1.out.trans (heldN_chg (by assumption)))) (HP.out.2.2.2.keep0 (H1.out.trans (heldN_chg (by assumption))))).mono ?_
         rintro e w' ⟨rfl, hb⟩
         have hS := heldN_next (by assumption) hb
         clear hb)
      | (go_at_call 17
         refine (HQ.out.2.2 _ _ _ _ (Nat.le_refl _) (by assumption) (HP.out.2.2.1.keep0 (H1.out.trans (heldN_chg (by assumption)))) (HP.out.2.2.2.keep0 (H1.out.trans (heldN_chg (by assumption))))).mono ?_
         rintro e w' ⟨rfl, hb⟩
         have hS := heldN_next (by assumption) hb
         clear hb)
      | (go_at_call 15
         refine (HQ.out.2.1 B _ A c (by exact Nat.le_trans HP.out.1 (H1.out.trans (heldN_chg (by assumption))).size) (NdR.keep0 (H1.out.trans (heldN_chg (by assumption))) HP.out.2.1)).mono ?_
         rintro e w' ⟨rfl, hb⟩
         have hS := heldN_next (by assumption) hb
         clear hb))
  have hS := H1.out.trans (heldN_chg (by assumption))
  clear c0 c1 c2 c3 c4
  go_wp2_with fail
  go_ret
  exact ⟨by simp, hS⟩
set_option maxRecDepth 100000 in
set_option maxHeartbeats 4000000 in
theorem soundIn_2ff (n B : Nat) (w : World) (t : Nd) (A : Option Addr) (c : Nat) (hB : B ≤ w.heap.size) (hT : NdR n B w (ndCells t.kind t.text t.n t.at_ A t.list.length c) t) (hTW : TabW w) (hO : OpsR w)
    (hchk : ∀ (B : Nat) (w : World) (A : Option Addr) (c : Nat), B ≤ w.heap.size → NdR n B w (ndCells t.kind t.text t.n t.at_ A t.list.length c) t → TabW w → OpsR w → Calls Tryd.prog 16 #[.agg #[.int .i64 t.kind, .string t.text, .int .u64 t.n, .int .i64 t.at_, .slice A t.list.length c]] w fun e w' => e = .returned (.int .i64 1) ∧ Chg (fun _ _ => False) w w')
    (hrs : ∀ (B : Nat) (w : World) (A : Option Addr) (c : Nat), B ≤ w.heap.size → NdR n B w (ndCells t.kind t.text t.n t.at_ A t.list.length c) t → Calls Tryd.prog 15 #[.agg #[.int .i64 t.kind, .string t.text, .int .u64 t.n, .int .i64 t.at_, .slice A t.list.length c], .int .u8 112] w fun e w' => e = .returned (.bool false) ∧ Chg (fun _ _ => False) w w')
    (hrv : ∀ (B : Nat) (w : World) (A : Option Addr) (c : Nat), B ≤ w.heap.size → NdR n B w (ndCells t.kind t.text t.n t.at_ A t.list.length c) t → Calls Tryd.prog 15 #[.agg #[.int .i64 t.kind, .string t.text, .int .u64 t.n, .int .i64 t.at_, .slice A t.list.length c], .int .u8 101] w fun e w' => e = .returned (.bool false) ∧ Chg (fun _ _ => False) w w')
    (hns : ∀ (B : Nat) (w : World) (A : Option Addr) (c : Nat), B ≤ w.heap.size → NdR n B w (ndCells t.kind t.text t.n t.at_ A t.list.length c) t → TabW w → OpsR w → Calls Tryd.prog 17 #[.agg #[.int .i64 t.kind, .string t.text, .int .u64 t.n, .int .i64 t.at_, .slice A t.list.length c], .int .i64 2] w fun e w' => e = .returned (.int .i64 1) ∧ Chg (fun _ _ => False) w w') :
    Calls Tryd.prog 4 #[.agg #[.int .i64 t.kind, .string t.text, .int .u64 t.n, .int .i64 t.at_, .slice A t.list.length c], .int .i64 2] w fun e w' => e = .returned (.bool true) ∧ Chg (fun _ _ => False) w w' := by
  have hix : ∀ w, (Instr.index 9 (.string ⟨#[45, 115, 101, 116]⟩) (.int .i64 2)).run Tryd.prog w = .ok (.int .u8 101) w := by
    intro w
    have h := run_index_string w 9 ⟨#[45, 115, 101, 116]⟩ .i64 (2 : Nat) Tryd.underlying9
    rw [dif_pos ⟨by decide, by decide⟩] at h
    exact h
  have HR := Lib.hid hrv
  clear hrv
  have hb1 := Blk.new w 25 #[.int .i64 t.kind, .string t.text, .int .u64 t.n, .int .i64 t.at_, .slice A t.list.length c]
  have hc1 := chg_alloc w (.cells #[.int .i64 t.kind, .string t.text, .int .u64 t.n, .int .i64 t.at_, .slice A t.list.length c] 25)
  have HP := Lib.hid (And.intro hB (And.intro hT (And.intro hTW hO)))
  have HQ := Lib.hid (And.intro hchk (And.intro hrs hns))
  clear hB hT hTW hO hchk hrs hns
  go_enter Tryd.func4, Tryd.ntmps4
  go_wp2_with fail
  generalize w.alloc (.cells #[.int .i64 t.kind, .string t.text, .int .u64 t.n, .int .i64 t.at_, .slice A t.list.length c] 25) = W at hb1 hc1 ⊢
  generalize w.heap.size = g1 at hb1 ⊢
  obtain ⟨c0, c1, c2, c3, c4⟩ := hb1.cells5
  have H1 := Lib.hid hc1
  have hK : W.cell? ⟨g1, 0, none⟩ = some (.int .i64 t.kind) ∧ W.cell? ⟨g1, 1, none⟩ = some (.string t.text) ∧ W.cell? ⟨g1, 2, none⟩ = some (.int .u64 t.n) ∧ W.cell? ⟨g1, 3, none⟩ = some (.int .i64 t.at_) ∧ W.cell? ⟨g1, 4, none⟩ = some (.slice A t.list.length c) ∧ Chg (fun _ _ => False) W W := ⟨c0, c1, c2, c3, c4, Chg.refl _ _⟩
  have hKd := heldN_next hK ((Chg.refl (fun _ _ => False) W).drew)
  clear hb1 hc1 hK
  go_region_held3 (fun w' => w'.cell? ⟨g1, 0, none⟩ = some (.int .i64 t.kind) ∧ w'.cell? ⟨g1, 1, none⟩ = some (.string t.text) ∧ w'.cell? ⟨g1, 2, none⟩ = some (.int .u64 t.n) ∧ w'.cell? ⟨g1, 3, none⟩ = some (.int .i64 t.at_) ∧ w'.cell? ⟨g1, 4, none⟩ = some (.slice A t.list.length c) ∧ Chg (fun _ _ => False) W w')
    (assumption)
    (first
      | (go_at_call 15
         refine (HR.out B _ A c (by exact Nat.le_trans HP.out.1 (H1.out.trans (heldN_chg (by assumption))).size) (NdR.keep0 (H1.out.trans (heldN_chg (by assumption))) HP.out.2.1)).mono ?_
         rintro e w' ⟨rfl, hb⟩
         have hS := heldN_next (by assumption) hb
         clear hb))
  clear c0 c1 c2 c3 c4 hKd
  go_wp2_with fail
  obtain ⟨c0, c1, c2, c3, c4, hch⟩ := hS
  have hK := And.intro c0 (And.intro c1 (And.intro c2 (And.intro c3 (And.intro c4 hch))))
  have hKd := heldN_next hK ((Chg.refl (fun _ _ => False) _).drew)
  clear hK hch
  go_region_held3 (fun w' => w'.cell? ⟨g1, 0, none⟩ = some (.int .i64 t.kind) ∧ w'.cell? ⟨g1, 1, none⟩ = some (.string t.text) ∧ w'.cell? ⟨g1, 2, none⟩ = some (.int .u64 t.n) ∧ w'.cell? ⟨g1, 3, none⟩ = some (.int .i64 t.at_) ∧ w'.cell? ⟨g1, 4, none⟩ = some (.slice A t.list.length c) ∧ Chg (fun _ _ => False) W w')
    (assumption)
    (first
      | (go_at_call 11
         refine (answers4_any _).mono ?_
         rintro e w' ⟨rfl, hb⟩
         have hS := heldN_next (by assumption) hb
         clear hb)
      | (go_at_call 13
         refine (own_any n B _ t A c (by exact Nat.le_trans HP.out.1 (H1.out.trans (heldN_chg (by assumption))).size) (NdR.keep0 (H1.out.trans (heldN_chg (by assumption))) HP.out.2.1)).mono ?_
         rintro e w' ⟨A7, c7, rfl, hN, hb⟩
         have hv := hN.ndR
         have hS := heldN_next (by assumption) hb
         clear hb hN)
      | (go_at_call 16
         refine (HQ.out.1 _ _ _ _ (Nat.le_refl _) (by assumption) (HP.out.2.2.1.keep0 (H1.out.trans (heldN_chg (by assumption)))) (HP.out.2.2.2.keep0 (H1.out.trans (heldN_chg (by assumption))))).mono ?_
         rintro e w' ⟨rfl, hb⟩
         have hS := heldN_next (by assumption) hb
         clear hb)
      | (go_at_call 17
         refine (HQ.out.2.2 _ _ _ _ (Nat.le_refl _) (by assumption) (HP.out.2.2.1.keep0 (H1.out.trans (heldN_chg (by assumption)))) (HP.out.2.2.2.keep0 (H1.out.trans (heldN_chg (by assumption))))).mono ?_
         rintro e w' ⟨rfl, hb⟩
         have hS := heldN_next (by assumption) hb
         clear hb)
      | (go_at_call 15
         refine (HQ.out.2.1 B _ A c (by exact Nat.le_trans HP.out.1 (H1.out.trans (heldN_chg (by assumption))).size) (NdR.keep0 (H1.out.trans (heldN_chg (by assumption))) HP.out.2.1)).mono ?_
         rintro e w' ⟨rfl, hb⟩
         have hS := heldN_next (by assumption) hb
         clear hb))
  have hS := H1.out.trans (heldN_chg (by assumption))
  clear c0 c1 c2 c3 c4
  go_wp2_with fail
  go_ret
  exact ⟨by simp, hS⟩
set_option maxRecDepth 100000 in
set_option maxHeartbeats 4000000 in
theorem soundIn_3tt (n B : Nat) (w : World) (t : Nd) (A : Option Addr) (c : Nat) (hB : B ≤ w.heap.size) (hT : NdR n B w (ndCells t.kind t.text t.n t.at_ A t.list.length c) t) (hTW : TabW w) (hO : OpsR w)
    (hchk : ∀ (B : Nat) (w : World) (A : Option Addr) (c : Nat), B ≤ w.heap.size → NdR n B w (ndCells t.kind t.text t.n t.at_ A t.list.length c) t → TabW w → OpsR w → Calls Tryd.prog 16 #[.agg #[.int .i64 t.kind, .string t.text, .int .u64 t.n, .int .i64 t.at_, .slice A t.list.length c]] w fun e w' => e = .returned (.int .i64 0) ∧ Chg (fun _ _ => False) w w')
    (hrs : ∀ (B : Nat) (w : World) (A : Option Addr) (c : Nat), B ≤ w.heap.size → NdR n B w (ndCells t.kind t.text t.n t.at_ A t.list.length c) t → Calls Tryd.prog 15 #[.agg #[.int .i64 t.kind, .string t.text, .int .u64 t.n, .int .i64 t.at_, .slice A t.list.length c], .int .u8 112] w fun e w' => e = .returned (.bool true) ∧ Chg (fun _ _ => False) w w')
    (hrv : ∀ (B : Nat) (w : World) (A : Option Addr) (c : Nat), B ≤ w.heap.size → NdR n B w (ndCells t.kind t.text t.n t.at_ A t.list.length c) t → Calls Tryd.prog 15 #[.agg #[.int .i64 t.kind, .string t.text, .int .u64 t.n, .int .i64 t.at_, .slice A t.list.length c], .int .u8 116] w fun e w' => e = .returned (.bool true) ∧ Chg (fun _ _ => False) w w')
    (hns : ∀ (B : Nat) (w : World) (A : Option Addr) (c : Nat), B ≤ w.heap.size → NdR n B w (ndCells t.kind t.text t.n t.at_ A t.list.length c) t → TabW w → OpsR w → Calls Tryd.prog 17 #[.agg #[.int .i64 t.kind, .string t.text, .int .u64 t.n, .int .i64 t.at_, .slice A t.list.length c], .int .i64 3] w fun e w' => e = .returned (.int .i64 0) ∧ Chg (fun _ _ => False) w w') :
    Calls Tryd.prog 4 #[.agg #[.int .i64 t.kind, .string t.text, .int .u64 t.n, .int .i64 t.at_, .slice A t.list.length c], .int .i64 3] w fun e w' => e = .returned (.bool true) ∧ Chg (fun _ _ => False) w w' := by
  have hix : ∀ w, (Instr.index 9 (.string ⟨#[45, 115, 101, 116]⟩) (.int .i64 3)).run Tryd.prog w = .ok (.int .u8 116) w := by
    intro w
    have h := run_index_string w 9 ⟨#[45, 115, 101, 116]⟩ .i64 (3 : Nat) Tryd.underlying9
    rw [dif_pos ⟨by decide, by decide⟩] at h
    exact h
  have HR := Lib.hid hrv
  clear hrv
  have hb1 := Blk.new w 25 #[.int .i64 t.kind, .string t.text, .int .u64 t.n, .int .i64 t.at_, .slice A t.list.length c]
  have hc1 := chg_alloc w (.cells #[.int .i64 t.kind, .string t.text, .int .u64 t.n, .int .i64 t.at_, .slice A t.list.length c] 25)
  have HP := Lib.hid (And.intro hB (And.intro hT (And.intro hTW hO)))
  have HQ := Lib.hid (And.intro hchk (And.intro hrs hns))
  clear hB hT hTW hO hchk hrs hns
  go_enter Tryd.func4, Tryd.ntmps4
  go_wp2_with fail
  generalize w.alloc (.cells #[.int .i64 t.kind, .string t.text, .int .u64 t.n, .int .i64 t.at_, .slice A t.list.length c] 25) = W at hb1 hc1 ⊢
  generalize w.heap.size = g1 at hb1 ⊢
  obtain ⟨c0, c1, c2, c3, c4⟩ := hb1.cells5
  have H1 := Lib.hid hc1
  have hK : W.cell? ⟨g1, 0, none⟩ = some (.int .i64 t.kind) ∧ W.cell? ⟨g1, 1, none⟩ = some (.string t.text) ∧ W.cell? ⟨g1, 2, none⟩ = some (.int .u64 t.n) ∧ W.cell? ⟨g1, 3, none⟩ = some (.int .i64 t.at_) ∧ W.cell? ⟨g1, 4, none⟩ = some (.slice A t.list.length c) ∧ Chg (fun _ _ => False) W W := ⟨c0, c1, c2, c3, c4, Chg.refl _ _⟩
  have hKd := heldN_next hK ((Chg.refl (fun _ _ => False) W).drew)
  clear hb1 hc1 hK
  go_region_held3 (fun w' => w'.cell? ⟨g1, 0, none⟩ = some (.int .i64 t.kind) ∧ w'.cell? ⟨g1, 1, none⟩ = some (.string t.text) ∧ w'.cell? ⟨g1, 2, none⟩ = some (.int .u64 t.n) ∧ w'.cell? ⟨g1, 3, none⟩ = some (.int .i64 t.at_) ∧ w'.cell? ⟨g1, 4, none⟩ = some (.slice A t.list.length c) ∧ Chg (fun _ _ => False) W w')
    (assumption)
    (first
      | (go_at_call 15
         refine (HR.out B _ A c (by exact Nat.le_trans HP.out.1 (H1.out.trans (heldN_chg (by assumption))).size) (NdR.keep0 (H1.out.trans (heldN_chg (by assumption))) HP.out.2.1)).mono ?_
         rintro e w' ⟨rfl, hb⟩
         have hS := heldN_next (by assumption) hb
         clear hb))
  clear c0 c1 c2 c3 c4 hKd
  go_wp2_with fail
  obtain ⟨c0, c1, c2, c3, c4, hch⟩ := hS
  have hK := And.intro c0 (And.intro c1 (And.intro c2 (And.intro c3 (And.intro c4 hch))))
  have hKd := heldN_next hK ((Chg.refl (fun _ _ => False) _).drew)
  clear hK hch
  go_region_held3 (fun w' => w'.cell? ⟨g1, 0, none⟩ = some (.int .i64 t.kind) ∧ w'.cell? ⟨g1, 1, none⟩ = some (.string t.text) ∧ w'.cell? ⟨g1, 2, none⟩ = some (.int .u64 t.n) ∧ w'.cell? ⟨g1, 3, none⟩ = some (.int .i64 t.at_) ∧ w'.cell? ⟨g1, 4, none⟩ = some (.slice A t.list.length c) ∧ Chg (fun _ _ => False) W w')
    (assumption)
    (first
      | (go_at_call 11
         refine (answers4_any _).mono ?_
         rintro e w' ⟨rfl, hb⟩
         have hS := heldN_next (by assumption) hb
         clear hb)
      | (go_at_call 13
         refine (own_any n B _ t A c (by exact Nat.le_trans HP.out.1 (H1.out.trans (heldN_chg (by assumption))).size) (NdR.keep0 (H1.out.trans (heldN_chg (by assumption))) HP.out.2.1)).mono ?_
         rintro e w' ⟨A7, c7, rfl, hN, hb⟩
         have hv := hN.ndR
         have hS := heldN_next (by assumption) hb
         clear hb hN)
      | (go_at_call 16
         refine (HQ.out.1 _ _ _ _ (Nat.le_refl _) (by assumption) (HP.out.2.2.1.keep0 (H1.out.trans (heldN_chg (by assumption)))) (HP.out.2.2.2.keep0 (H1.out.trans (heldN_chg (by assumption))))).mono ?_
         rintro e w' ⟨rfl, hb⟩
         have hS := heldN_next (by assumption) hb
         clear hb)
      | (go_at_call 17
         refine (HQ.out.2.2 _ _ _ _ (Nat.le_refl _) (by assumption) (HP.out.2.2.1.keep0 (H1.out.trans (heldN_chg (by assumption)))) (HP.out.2.2.2.keep0 (H1.out.trans (heldN_chg (by assumption))))).mono ?_
         rintro e w' ⟨rfl, hb⟩
         have hS := heldN_next (by assumption) hb
         clear hb)
      | (go_at_call 15
         refine (HQ.out.2.1 B _ A c (by exact Nat.le_trans HP.out.1 (H1.out.trans (heldN_chg (by assumption))).size) (NdR.keep0 (H1.out.trans (heldN_chg (by assumption))) HP.out.2.1)).mono ?_
         rintro e w' ⟨rfl, hb⟩
         have hS := heldN_next (by assumption) hb
         clear hb))
  have hS := H1.out.trans (heldN_chg (by assumption))
  clear c0 c1 c2 c3 c4
  go_wp2_with fail
  go_ret
  exact ⟨by simp, hS⟩
set_option maxRecDepth 100000 in
set_option maxHeartbeats 4000000 in
theorem soundIn_3tf (n B : Nat) (w : World) (t : Nd) (A : Option Addr) (c : Nat) (hB : B ≤ w.heap.size) (hT : NdR n B w (ndCells t.kind t.text t.n t.at_ A t.list.length c) t) (hTW : TabW w) (hO : OpsR w)
    (hchk : ∀ (B : Nat) (w : World) (A : Option Addr) (c : Nat), B ≤ w.heap.size → NdR n B w (ndCells t.kind t.text t.n t.at_ A t.list.length c) t → TabW w → OpsR w → Calls Tryd.prog 16 #[.agg #[.int .i64 t.kind, .string t.text, .int .u64 t.n, .int .i64 t.at_, .slice A t.list.length c]] w fun e w' => e = .returned (.int .i64 0) ∧ Chg (fun _ _ => False) w w')
    (hrs : ∀ (B : Nat) (w : World) (A : Option Addr) (c : Nat), B ≤ w.heap.size → NdR n B w (ndCells t.kind t.text t.n t.at_ A t.list.length c) t → Calls Tryd.prog 15 #[.agg #[.int .i64 t.kind, .string t.text, .int .u64 t.n, .int .i64 t.at_, .slice A t.list.length c], .int .u8 112] w fun e w' => e = .returned (.bool true) ∧ Chg (fun _ _ => False) w w')
    (hrv : ∀ (B : Nat) (w : World) (A : Option Addr) (c : Nat), B ≤ w.heap.size → NdR n B w (ndCells t.kind t.text t.n t.at_ A t.list.length c) t → Calls Tryd.prog 15 #[.agg #[.int .i64 t.kind, .string t.text, .int .u64 t.n, .int .i64 t.at_, .slice A t.list.length c], .int .u8 116] w fun e w' => e = .returned (.bool false) ∧ Chg (fun _ _ => False) w w')
    (hns : ∀ (B : Nat) (w : World) (A : Option Addr) (c : Nat), B ≤ w.heap.size → NdR n B w (ndCells t.kind t.text t.n t.at_ A t.list.length c) t → TabW w → OpsR w → Calls Tryd.prog 17 #[.agg #[.int .i64 t.kind, .string t.text, .int .u64 t.n, .int .i64 t.at_, .slice A t.list.length c], .int .i64 3] w fun e w' => e = .returned (.int .i64 1) ∧ Chg (fun _ _ => False) w w') :
    Calls Tryd.prog 4 #[.agg #[.int .i64 t.kind, .string t.text, .int .u64 t.n, .int .i64 t.at_, .slice A t.list.length c], .int .i64 3] w fun e w' => e = .returned (.bool true) ∧ Chg (fun _ _ => False) w w' := by
  have hix : ∀ w, (Instr.index 9 (.string ⟨#[45, 115, 101, 116]⟩) (.int .i64 3)).run Tryd.prog w = .ok (.int .u8 116) w := by
    intro w
    have h := run_index_string w 9 ⟨#[45, 115, 101, 116]⟩ .i64 (3 : Nat) Tryd.underlying9
    rw [dif_pos ⟨by decide, by decide⟩] at h
    exact h
  have HR := Lib.hid hrv
  clear hrv
  have hb1 := Blk.new w 25 #[.int .i64 t.kind, .string t.text, .int .u64 t.n, .int .i64 t.at_, .slice A t.list.length c]
  have hc1 := chg_alloc w (.cells #[.int .i64 t.kind, .string t.text, .int .u64 t.n, .int .i64 t.at_, .slice A t.list.length c] 25)
  have HP := Lib.hid (And.intro hB (And.intro hT (And.intro hTW hO)))
  have HQ := Lib.hid (And.intro hchk (And.intro hrs hns))
  clear hB hT hTW hO hchk hrs hns
  go_enter Tryd.func4, Tryd.ntmps4
  go_wp2_with fail
  generalize w.alloc (.cells #[.int .i64 t.kind, .string t.text, .int .u64 t.n, .int .i64 t.at_, .slice A t.list.length c] 25) = W at hb1 hc1 ⊢
  generalize w.heap.size = g1 at hb1 ⊢
  obtain ⟨c0, c1, c2, c3, c4⟩ := hb1.cells5
  have H1 := Lib.hid hc1
  have hK : W.cell? ⟨g1, 0, none⟩ = some (.int .i64 t.kind) ∧ W.cell? ⟨g1, 1, none⟩ = some (.string t.text) ∧ W.cell? ⟨g1, 2, none⟩ = some (.int .u64 t.n) ∧ W.cell? ⟨g1, 3, none⟩ = some (.int .i64 t.at_) ∧ W.cell? ⟨g1, 4, none⟩ = some (.slice A t.list.length c) ∧ Chg (fun _ _ => False) W W := ⟨c0, c1, c2, c3, c4, Chg.refl _ _⟩
  have hKd := heldN_next hK ((Chg.refl (fun _ _ => False) W).drew)
  clear hb1 hc1 hK
  go_region_held3 (fun w' => w'.cell? ⟨g1, 0, none⟩ = some (.int .i64 t.kind) ∧ w'.cell? ⟨g1, 1, none⟩ = some (.string t.text) ∧ w'.cell? ⟨g1, 2, none⟩ = some (.int .u64 t.n) ∧ w'.cell? ⟨g1, 3, none⟩ = some (.int .i64 t.at_) ∧ w'.cell? ⟨g1, 4, none⟩ = some (.slice A t.list.length c) ∧ Chg (fun _ _ => False) W w')
    (assumption)
    (first
      | (go_at_call 15
         refine (HR.out B _ A c (by exact Nat.le_trans HP.out.1 (H1.out.trans (heldN_chg (by assumption))).size) (NdR.keep0 (H1.out.trans (heldN_chg (by assumption))) HP.out.2.1)).mono ?_
         rintro e w' ⟨rfl, hb⟩
         have hS := heldN_next (by assumption) hb
         clear hb))
  clear c0 c1 c2 c3 c4 hKd
  go_wp2_with fail
  obtain ⟨c0, c1, c2, c3, c4, hch⟩ := hS
  have hK := And.intro c0 (And.intro c1 (And.intro c2 (And.intro c3 (And.intro c4 hch))))
  have hKd := heldN_next hK ((Chg.refl (fun _ _ => False) _).drew)
  clear hK hch
  go_region_held3 (fun w' => w'.cell? ⟨g1, 0, none⟩ = some (.int .i64 t.kind) ∧ w'.cell? ⟨g1, 1, none⟩ = some (.string t.text) ∧ w'.cell? ⟨g1, 2, none⟩ = some (.int .u64 t.n) ∧ w'.cell? ⟨g1, 3, none⟩ = some (.int .i64 t.at_) ∧ w'.cell? ⟨g1, 4, none⟩ = some (.slice A t.list.length c) ∧ Chg (fun _ _ => False) W w')
    (assumption)
    (first
      | (go_at_call 11
         refine (answers4_any _).mono ?_
         rintro e w' ⟨rfl, hb⟩
         have hS := heldN_next (by assumption) hb
         clear hb)
      | (go_at_call 13
         refine (own_any n B _ t A c (by exact Nat.le_trans HP.out.1 (H1.out.trans (heldN_chg (by assumption))).size) (NdR.keep0 (H1.out.trans (heldN_chg (by assumption))) HP.out.2.1)).mono ?_
         rintro e w' ⟨A7, c7, rfl, hN, hb⟩
         have hv := hN.ndR
         have hS := heldN_next (by assumption) hb
         clear hb hN)
      | (go_at_call 16
         refine (HQ.out.1 _ _ _ _ (Nat.le_refl _) (by assumption) (HP.out.2.2.1.keep0 (H1.out.trans (heldN_chg (by assumption)))) (HP.out.2.2.2.keep0 (H1.out.trans (heldN_chg (by assumption))))).mono ?_
         rintro e w' ⟨rfl, hb⟩
         have hS := heldN_next (by assumption) hb
         clear hb)
      | (go_at_call 17
         refine (HQ.out.2.2 _ _ _ _ (Nat.le_refl _) (by assumption) (HP.out.2.2.1.keep0 (H1.out.trans (heldN_chg (by assumption)))) (HP.out.2.2.2.keep0 (H1.out.trans (heldN_chg (by assumption))))).mono ?_
         rintro e w' ⟨rfl, hb⟩
         have hS := heldN_next (by assumption) hb
         clear hb)
      | (go_at_call 15
         refine (HQ.out.2.1 B _ A c (by exact Nat.le_trans HP.out.1 (H1.out.trans (heldN_chg (by assumption))).size) (NdR.keep0 (H1.out.trans (heldN_chg (by assumption))) HP.out.2.1)).mono ?_
         rintro e w' ⟨rfl, hb⟩
         have hS := heldN_next (by assumption) hb
         clear hb))
  have hS := H1.out.trans (heldN_chg (by assumption))
  clear c0 c1 c2 c3 c4
  go_wp2_with fail
  go_ret
  exact ⟨by simp, hS⟩
set_option maxRecDepth 100000 in
set_option maxHeartbeats 4000000 in
theorem soundIn_3ft (n B : Nat) (w : World) (t : Nd) (A : Option Addr) (c : Nat) (hB : B ≤ w.heap.size) (hT : NdR n B w (ndCells t.kind t.text t.n t.at_ A t.list.length c) t) (hTW : TabW w) (hO : OpsR w)
    (hchk : ∀ (B : Nat) (w : World) (A : Option Addr) (c : Nat), B ≤ w.heap.size → NdR n B w (ndCells t.kind t.text t.n t.at_ A t.list.length c) t → TabW w → OpsR w → Calls Tryd.prog 16 #[.agg #[.int .i64 t.kind, .string t.text, .int .u64 t.n, .int .i64 t.at_, .slice A t.list.length c]] w fun e w' => e = .returned (.int .i64 1) ∧ Chg (fun _ _ => False) w w')
    (hrs : ∀ (B : Nat) (w : World) (A : Option Addr) (c : Nat), B ≤ w.heap.size → NdR n B w (ndCells t.kind t.text t.n t.at_ A t.list.length c) t → Calls Tryd.prog 15 #[.agg #[.int .i64 t.kind, .string t.text, .int .u64 t.n, .int .i64 t.at_, .slice A t.list.length c], .int .u8 112] w fun e w' => e = .returned (.bool false) ∧ Chg (fun _ _ => False) w w')
    (hrv : ∀ (B : Nat) (w : World) (A : Option Addr) (c : Nat), B ≤ w.heap.size → NdR n B w (ndCells t.kind t.text t.n t.at_ A t.list.length c) t → Calls Tryd.prog 15 #[.agg #[.int .i64 t.kind, .string t.text, .int .u64 t.n, .int .i64 t.at_, .slice A t.list.length c], .int .u8 116] w fun e w' => e = .returned (.bool true) ∧ Chg (fun _ _ => False) w w')
    (hns : ∀ (B : Nat) (w : World) (A : Option Addr) (c : Nat), B ≤ w.heap.size → NdR n B w (ndCells t.kind t.text t.n t.at_ A t.list.length c) t → TabW w → OpsR w → Calls Tryd.prog 17 #[.agg #[.int .i64 t.kind, .string t.text, .int .u64 t.n, .int .i64 t.at_, .slice A t.list.length c], .int .i64 3] w fun e w' => e = .returned (.int .i64 0) ∧ Chg (fun _ _ => False) w w') :
    Calls Tryd.prog 4 #[.agg #[.int .i64 t.kind, .string t.text, .int .u64 t.n, .int .i64 t.at_, .slice A t.list.length c], .int .i64 3] w fun e w' => e = .returned (.bool true) ∧ Chg (fun _ _ => False) w w' := by
  have hix : ∀ w, (Instr.index 9 (.string ⟨#[45, 115, 101, 116]⟩) (.int .i64 3)).run Tryd.prog w = .ok (.int .u8 116) w := by
    intro w
    have h := run_index_string w 9 ⟨#[45, 115, 101, 116]⟩ .i64 (3 : Nat) Tryd.underlying9
    rw [dif_pos ⟨by decide, by decide⟩] at h
    exact h
  have HR := Lib.hid hrv
  clear hrv
  have hb1 := Blk.new w 25 #[.int .i64 t.kind, .string t.text, .int .u64 t.n, .int .i64 t.at_, .slice A t.list.length c]
  have hc1 := chg_alloc w (.cells #[.int .i64 t.kind, .string t.text, .int .u64 t.n, .int .i64 t.at_, .slice A t.list.length c] 25)
  have HP := Lib.hid (And.intro hB (And.intro hT (And.intro hTW hO)))
  have HQ := Lib.hid (And.intro hchk (And.intro hrs hns))
  clear hB hT hTW hO hchk hrs hns
  go_enter Tryd.func4, Tryd.ntmps4
  go_wp2_with fail
  generalize w.alloc (.cells #[.int .i64 t.kind, .string t.text, .int .u64 t.n, .int .i64 t.at_, .slice A t.list.length c] 25) = W at hb1 hc1 ⊢
  generalize w.heap.size = g1 at hb1 ⊢
  obtain ⟨c0, c1, c2, c3, c4⟩ := hb1.cells5
  have H1 := Lib.hid hc1
  have hK : W.cell? ⟨g1, 0, none⟩ = some (.int .i64 t.kind) ∧ W.cell? ⟨g1, 1, none⟩ = some (.string t.text) ∧ W.cell? ⟨g1, 2, none⟩ = some (.int .u64 t.n) ∧ W.cell? ⟨g1, 3, none⟩ = some (.int .i64 t.at_) ∧ W.cell? ⟨g1, 4, none⟩ = some (.slice A t.list.length c) ∧ Chg (fun _ _ => False) W W := ⟨c0, c1, c2, c3, c4, Chg.refl _ _⟩
  have hKd := heldN_next hK ((Chg.refl (fun _ _ => False) W).drew)
  clear hb1 hc1 hK
  go_region_held3 (fun w' => w'.cell? ⟨g1, 0, none⟩ = some (.int .i64 t.kind) ∧ w'.cell? ⟨g1, 1, none⟩ = some (.string t.text) ∧ w'.cell? ⟨g1, 2, none⟩ = some (.int .u64 t.n) ∧ w'.cell? ⟨g1, 3, none⟩ = some (.int .i64 t.at_) ∧ w'.cell? ⟨g1, 4, none⟩ = some (.slice A t.list.length c) ∧ Chg (fun _ _ => False) W w')
    (assumption)
    (first
      | (go_at_call 15
         refine (HR.out B _ A c (by exact Nat.le_trans HP.out.1 (H1.out.trans (heldN_chg (by assumption))).size) (NdR.keep0 (H1.out.trans (heldN_chg (by assumption))) HP.out.2.1)).mono ?_
         rintro e w' ⟨rfl, hb⟩
         have hS := heldN_next (by assumption) hb
         clear hb))
  clear c0 c1 c2 c3 c4 hKd
  go_wp2_with fail
  obtain ⟨c0, c1, c2, c3, c4, hch⟩ := hS
  have hK := And.intro c0 (And.intro c1 (And.intro c2 (And.intro c3 (And.intro c4 hch))))
  have hKd := heldN_next hK ((Chg.refl (fun _ _ => False) _).drew)
  clear hK hch
  go_region_held3 (fun w' => w'.cell? ⟨g1, 0, none⟩ = some (.int .i64 t.kind) ∧ w'.cell? ⟨g1, 1, none⟩ = some (.string t.text) ∧ w'.cell? ⟨g1, 2, none⟩ = some (.int .u64 t.n) ∧ w'.cell? ⟨g1, 3, none⟩ = some (.int .i64 t.at_) ∧ w'.cell? ⟨g1, 4, none⟩ = some (.slice A t.list.length c) ∧ Chg (fun _ _ => False) W w')
    (assumption)
    (first
      | (go_at_call 11
         refine (answers4_any _).mono ?_
         rintro e w' ⟨rfl, hb⟩
         have hS := heldN_next (by assumption) hb
         clear hb)
      | (go_at_call 13
         refine (own_any n B _ t A c (by exact Nat.le_trans HP.out.1 (H1.out.trans (heldN_chg (by assumption))).size) (NdR.keep0 (H1.out.trans (heldN_chg (by assumption))) HP.out.2.1)).mono ?_
         rintro e w' ⟨A7, c7, rfl, hN, hb⟩
         have hv := hN.ndR
         have hS := heldN_next (by assumption) hb
         clear hb hN)
      | (go_at_call 16
         refine (HQ.out.1 _ _ _ _ (Nat.le_refl _) (by assumption) (HP.out.2.2.1.keep0 (H1.out.trans (heldN_chg (by assumption)))) (HP.out.2.2.2.keep0 (H1.out.trans (heldN_chg (by assumption))))).mono ?_
         rintro e w' ⟨rfl, hb⟩
         have hS := heldN_next (by assumption) hb
         clear hb)
      | (go_at_call 17
         refine (HQ.out.2.2 _ _ _ _ (Nat.le_refl _) (by assumption) (HP.out.2.2.1.keep0 (H1.out.trans (heldN_chg (by assumption)))) (HP.out.2.2.2.keep0 (H1.out.trans (heldN_chg (by assumption))))).mono ?_
         rintro e w' ⟨rfl, hb⟩
         have hS := heldN_next (by assumption) hb
         clear hb)
      | (go_at_call 15
         refine (HQ.out.2.1 B _ A c (by exact Nat.le_trans HP.out.1 (H1.out.trans (heldN_chg (by assumption))).size) (NdR.keep0 (H1.out.trans (heldN_chg (by assumption))) HP.out.2.1)).mono ?_
         rintro e w' ⟨rfl, hb⟩
         have hS := heldN_next (by assumption) hb
         clear hb))
  have hS := H1.out.trans (heldN_chg (by assumption))
  clear c0 c1 c2 c3 c4
  go_wp2_with fail
  go_ret
  exact ⟨by simp, hS⟩
set_option maxRecDepth 100000 in
set_option maxHeartbeats 4000000 in
theorem soundIn_3ff (n B : Nat) (w : World) (t : Nd) (A : Option Addr) (c : Nat) (hB : B ≤ w.heap.size) (hT : NdR n B w (ndCells t.kind t.text t.n t.at_ A t.list.length c) t) (hTW : TabW w) (hO : OpsR w)
    (hchk : ∀ (B : Nat) (w : World) (A : Option Addr) (c : Nat), B ≤ w.heap.size → NdR n B w (ndCells t.kind t.text t.n t.at_ A t.list.length c) t → TabW w → OpsR w → Calls Tryd.prog 16 #[.agg #[.int .i64 t.kind, .string t.text, .int .u64 t.n, .int .i64 t.at_, .slice A t.list.length c]] w fun e w' => e = .returned (.int .i64 1) ∧ Chg (fun _ _ => False) w w')
    (hrs : ∀ (B : Nat) (w : World) (A : Option Addr) (c : Nat), B ≤ w.heap.size → NdR n B w (ndCells t.kind t.text t.n t.at_ A t.list.length c) t → Calls Tryd.prog 15 #[.agg #[.int .i64 t.kind, .string t.text, .int .u64 t.n, .int .i64 t.at_, .slice A t.list.length c], .int .u8 112] w fun e w' => e = .returned (.bool false) ∧ Chg (fun _ _ => False) w w')
    (hrv : ∀ (B : Nat) (w : World) (A : Option Addr) (c : Nat), B ≤ w.heap.size → NdR n B w (ndCells t.kind t.text t.n t.at_ A t.list.length c) t → Calls Tryd.prog 15 #[.agg #[.int .i64 t.kind, .string t.text, .int .u64 t.n, .int .i64 t.at_, .slice A t.list.length c], .int .u8 116] w fun e w' => e = .returned (.bool false) ∧ Chg (fun _ _ => False) w w')
    (hns : ∀ (B : Nat) (w : World) (A : Option Addr) (c : Nat), B ≤ w.heap.size → NdR n B w (ndCells t.kind t.text t.n t.at_ A t.list.length c) t → TabW w → OpsR w → Calls Tryd.prog 17 #[.agg #[.int .i64 t.kind, .string t.text, .int .u64 t.n, .int .i64 t.at_, .slice A t.list.length c], .int .i64 3] w fun e w' => e = .returned (.int .i64 1) ∧ Chg (fun _ _ => False) w w') :
    Calls Tryd.prog 4 #[.agg #[.int .i64 t.kind, .string t.text, .int .u64 t.n, .int .i64 t.at_, .slice A t.list.length c], .int .i64 3] w fun e w' => e = .returned (.bool true) ∧ Chg (fun _ _ => False) w w' := by
  have hix : ∀ w, (Instr.index 9 (.string ⟨#[45, 115, 101, 116]⟩) (.int .i64 3)).run Tryd.prog w = .ok (.int .u8 116) w := by
    intro w
    have h := run_index_string w 9 ⟨#[45, 115, 101, 116]⟩ .i64 (3 : Nat) Tryd.underlying9
    rw [dif_pos ⟨by decide, by decide⟩] at h
    exact h
  have HR := Lib.hid hrv
  clear hrv
  have hb1 := Blk.new w 25 #[.int .i64 t.kind, .string t.text, .int .u64 t.n, .int .i64 t.at_, .slice A t.list.length c]
  have hc1 := chg_alloc w (.cells #[.int .i64 t.kind, .string t.text, .int .u64 t.n, .int .i64 t.at_, .slice A t.list.length c] 25)
  have HP := Lib.hid (And.intro hB (And.intro hT (And.intro hTW hO)))
  have HQ := Lib.hid (And.intro hchk (And.intro hrs hns))
  clear hB hT hTW hO hchk hrs hns
  go_enter Tryd.func4, Tryd.ntmps4
  go_wp2_with fail
  generalize w.alloc (.cells #[.int .i64 t.kind, .string t.text, .int .u64 t.n, .int .i64 t.at_, .slice A t.list.length c] 25) = W at hb1 hc1 ⊢
  generalize w.heap.size = g1 at hb1 ⊢
  obtain ⟨c0, c1, c2, c3, c4⟩ := hb1.cells5
  have H1 := Lib.hid hc1
  have hK : W.cell? ⟨g1, 0, none⟩ = some (.int .i64 t.kind) ∧ W.cell? ⟨g1, 1, none⟩ = some (.string t.text) ∧ W.cell? ⟨g1, 2, none⟩ = some (.int .u64 t.n) ∧ W.cell? ⟨g1, 3, none⟩ = some (.int .i64 t.at_) ∧ W.cell? ⟨g1, 4, none⟩ = some (.slice A t.list.length c) ∧ Chg (fun _ _ => False) W W := ⟨c0, c1, c2, c3, c4, Chg.refl _ _⟩
  have hKd := heldN_next hK ((Chg.refl (fun _ _ => False) W).drew)
  clear hb1 hc1 hK
  go_region_held3 (fun w' => w'.cell? ⟨g1, 0, none⟩ = some (.int .i64 t.kind) ∧ w'.cell? ⟨g1, 1, none⟩ = some (.string t.text) ∧ w'.cell? ⟨g1, 2, none⟩ = some (.int .u64 t.n) ∧ w'.cell? ⟨g1, 3, none⟩ = some (.int .i64 t.at_) ∧ w'.cell? ⟨g1, 4, none⟩ = some (.slice A t.list.length c) ∧ Chg (fun _ _ => False) W w')
    (assumption)
    (first
      | (go_at_call 15
         refine (HR.out B _ A c (by exact Nat.le_trans HP.out.1 (H1.out.trans (heldN_chg (by assumption))).size) (NdR.keep0 (H1.out.trans (heldN_chg (by assumption))) HP.out.2.1)).mono ?_
         rintro e w' ⟨rfl, hb⟩
         have hS := heldN_next (by assumption) hb
         clear hb))
  clear c0 c1 c2 c3 c4 hKd
  go_wp2_with fail
  obtain ⟨c0, c1, c2, c3, c4, hch⟩ := hS
  have hK := And.intro c0 (And.intro c1 (And.intro c2 (And.intro c3 (And.intro c4 hch))))
  have hKd := heldN_next hK ((Chg.refl (fun _ _ => False) _).drew)
  clear hK hch
  go_region_held3 (fun w' => w'.cell? ⟨g1, 0, none⟩ = some (.int .i64 t.kind) ∧ w'.cell? ⟨g1, 1, none⟩ = some (.string t.text) ∧ w'.cell? ⟨g1, 2, none⟩ = some (.int .u64 t.n) ∧ w'.cell? ⟨g1, 3, none⟩ = some (.int .i64 t.at_) ∧ w'.cell? ⟨g1, 4, none⟩ = some (.slice A t.list.length c) ∧ Chg (fun _ _ => False) W w')
    (assumption)
    (first
      | (go_at_call 11
         refine (answers4_any _).mono ?_
         rintro e w' ⟨rfl, hb⟩
         have hS := heldN_next (by assumption) hb
         clear hb)
      | (go_at_call 13
         refine (own_any n B _ t A c (by exact Nat.le_trans HP.out.1 (H1.out.trans (heldN_chg (by assumption))).size) (NdR.keep0 (H1.out.trans (heldN_chg (by assumption))) HP.out.2.1)).mono ?_
         rintro e w' ⟨A7, c7, rfl, hN, hb⟩
         have hv := hN.ndR
         have hS := heldN_next (by assumption) hb
         clear hb hN)
      | (go_at_call 16
         refine (HQ.out.1 _ _ _ _ (Nat.le_refl _) (by assumption) (HP.out.2.2.1.keep0 (H1.out.trans (heldN_chg (by assumption)))) (HP.out.2.2.2.keep0 (H1.out.trans (heldN_chg (by assumption))))).mono ?_
         rintro e w' ⟨rfl, hb⟩
         have hS := heldN_next (by assumption) hb
         clear hb)
      | (go_at_call 17
         refine (HQ.out.2.2 _ _ _ _ (Nat.le_refl _) (by assumption) (HP.out.2.2.1.keep0 (H1.out.trans (heldN_chg (by assumption)))) (HP.out.2.2.2.keep0 (H1.out.trans (heldN_chg (by assumption))))).mono ?_
         rintro e w' ⟨rfl, hb⟩
         have hS := heldN_next (by assumption) hb
         clear hb)
      | (go_at_call 15
         refine (HQ.out.2.1 B _ A c (by exact Nat.le_trans HP.out.1 (H1.out.trans (heldN_chg (by assumption))).size) (NdR.keep0 (H1.out.trans (heldN_chg (by assumption))) HP.out.2.1)).mono ?_
         rintro e w' ⟨rfl, hb⟩
         have hS := heldN_next (by assumption) hb
         clear hb))
  have hS := H1.out.trans (heldN_chg (by assumption))
  clear c0 c1 c2 c3 c4
  go_wp2_with fail
  go_ret
  exact ⟨by simp, hS⟩
theorem treeSound_walk (n B : Nat) (w : World) (t : Nd) (s : Int) (A : Option Addr) (c : Nat) (hB : B ≤ w.heap.size) (hT : NdR n B w (ndCells t.kind t.text t.n t.at_ A t.list.length c) t) (hTW : TabW w) (hO : OpsR w) (hS : t.size ≤ 1048576) :
    Calls Tryd.prog 4 #[.agg #[.int .i64 t.kind, .string t.text, .int .u64 t.n, .int .i64 t.at_, .slice A t.list.length c], .int .i64 s] w fun e w' => e = .returned (.bool true) ∧ Chg (fun _ _ => False) w w' := by
  cases hb1 : (t.kind == 1 && soundF t)
  all_goals
    by_cases h1 : s = 1
    · subst h1
      cases hb2 : (isStmtK t.kind && soundF t)
      · first | exact soundIn_1tf n B w t A c hB hT hTW hO (fun B w A c h1 h2 h3 h4 => by have h := check4_any n B w t A c h1 h2 hS h3 h4; rw [hb1] at h; exact h) (fun B w A c h1 h2 => by have h := rSound_p n B w t A c h1 h2 hS; rw [hb1] at h; exact h) (fun B w A c h1 h2 => by have h := rSound_v n B w t A c 115 (by decide) h1 h2 hS; rw [sort_s, hb2] at h; exact h) (fun B w A c h1 h2 h3 h4 => by have h := nSound_1 n B w t A c h1 h2 hS h3 h4; rw [hb2] at h; exact h) | exact soundIn_1ff n B w t A c hB hT hTW hO (fun B w A c h1 h2 h3 h4 => by have h := check4_any n B w t A c h1 h2 hS h3 h4; rw [hb1] at h; exact h) (fun B w A c h1 h2 => by have h := rSound_p n B w t A c h1 h2 hS; rw [hb1] at h; exact h) (fun B w A c h1 h2 => by have h := rSound_v n B w t A c 115 (by decide) h1 h2 hS; rw [sort_s, hb2] at h; exact h) (fun B w A c h1 h2 h3 h4 => by have h := nSound_1 n B w t A c h1 h2 hS h3 h4; rw [hb2] at h; exact h)
      · first | exact soundIn_1tt n B w t A c hB hT hTW hO (fun B w A c h1 h2 h3 h4 => by have h := check4_any n B w t A c h1 h2 hS h3 h4; rw [hb1] at h; exact h) (fun B w A c h1 h2 => by have h := rSound_p n B w t A c h1 h2 hS; rw [hb1] at h; exact h) (fun B w A c h1 h2 => by have h := rSound_v n B w t A c 115 (by decide) h1 h2 hS; rw [sort_s, hb2] at h; exact h) (fun B w A c h1 h2 h3 h4 => by have h := nSound_1 n B w t A c h1 h2 hS h3 h4; rw [hb2] at h; exact h) | exact soundIn_1ft n B w t A c hB hT hTW hO (fun B w A c h1 h2 h3 h4 => by have h := check4_any n B w t A c h1 h2 hS h3 h4; rw [hb1] at h; exact h) (fun B w A c h1 h2 => by have h := rSound_p n B w t A c h1 h2 hS; rw [hb1] at h; exact h) (fun B w A c h1 h2 => by have h := rSound_v n B w t A c 115 (by decide) h1 h2 hS; rw [sort_s, hb2] at h; exact h) (fun B w A c h1 h2 h3 h4 => by have h := nSound_1 n B w t A c h1 h2 hS h3 h4; rw [hb2] at h; exact h)
    · by_cases h2 : s = 2
      · subst h2
        cases hb2 : (isExprK t.kind && soundF t)
        · first | exact soundIn_2tf n B w t A c hB hT hTW hO (fun B w A c h1 h2 h3 h4 => by have h := check4_any n B w t A c h1 h2 hS h3 h4; rw [hb1] at h; exact h) (fun B w A c h1 h2 => by have h := rSound_p n B w t A c h1 h2 hS; rw [hb1] at h; exact h) (fun B w A c h1 h2 => by have h := rSound_v n B w t A c 101 (by decide) h1 h2 hS; rw [sort_e, hb2] at h; exact h) (fun B w A c h1 h2 h3 h4 => by have h := nSound_2 n B w t A c h1 h2 hS h3 h4; rw [hb2] at h; exact h) | exact soundIn_2ff n B w t A c hB hT hTW hO (fun B w A c h1 h2 h3 h4 => by have h := check4_any n B w t A c h1 h2 hS h3 h4; rw [hb1] at h; exact h) (fun B w A c h1 h2 => by have h := rSound_p n B w t A c h1 h2 hS; rw [hb1] at h; exact h) (fun B w A c h1 h2 => by have h := rSound_v n B w t A c 101 (by decide) h1 h2 hS; rw [sort_e, hb2] at h; exact h) (fun B w A c h1 h2 h3 h4 => by have h := nSound_2 n B w t A c h1 h2 hS h3 h4; rw [hb2] at h; exact h)
        · first | exact soundIn_2tt n B w t A c hB hT hTW hO (fun B w A c h1 h2 h3 h4 => by have h := check4_any n B w t A c h1 h2 hS h3 h4; rw [hb1] at h; exact h) (fun B w A c h1 h2 => by have h := rSound_p n B w t A c h1 h2 hS; rw [hb1] at h; exact h) (fun B w A c h1 h2 => by have h := rSound_v n B w t A c 101 (by decide) h1 h2 hS; rw [sort_e, hb2] at h; exact h) (fun B w A c h1 h2 h3 h4 => by have h := nSound_2 n B w t A c h1 h2 hS h3 h4; rw [hb2] at h; exact h) | exact soundIn_2ft n B w t A c hB hT hTW hO (fun B w A c h1 h2 h3 h4 => by have h := check4_any n B w t A c h1 h2 hS h3 h4; rw [hb1] at h; exact h) (fun B w A c h1 h2 => by have h := rSound_p n B w t A c h1 h2 hS; rw [hb1] at h; exact h) (fun B w A c h1 h2 => by have h := rSound_v n B w t A c 101 (by decide) h1 h2 hS; rw [sort_e, hb2] at h; exact h) (fun B w A c h1 h2 h3 h4 => by have h := nSound_2 n B w t A c h1 h2 hS h3 h4; rw [hb2] at h; exact h)
      · by_cases h3 : s = 3
        · subst h3
          cases hb2 : (isTypeK t.kind && soundF t)
          · first | exact soundIn_3tf n B w t A c hB hT hTW hO (fun B w A c h1 h2 h3 h4 => by have h := check4_any n B w t A c h1 h2 hS h3 h4; rw [hb1] at h; exact h) (fun B w A c h1 h2 => by have h := rSound_p n B w t A c h1 h2 hS; rw [hb1] at h; exact h) (fun B w A c h1 h2 => by have h := rSound_v n B w t A c 116 (by decide) h1 h2 hS; rw [sort_t, hb2] at h; exact h) (fun B w A c h1 h2 h3 h4 => by have h := nSound_3 n B w t A c h1 h2 hS h3 h4; rw [hb2] at h; exact h) | exact soundIn_3ff n B w t A c hB hT hTW hO (fun B w A c h1 h2 h3 h4 => by have h := check4_any n B w t A c h1 h2 hS h3 h4; rw [hb1] at h; exact h) (fun B w A c h1 h2 => by have h := rSound_p n B w t A c h1 h2 hS; rw [hb1] at h; exact h) (fun B w A c h1 h2 => by have h := rSound_v n B w t A c 116 (by decide) h1 h2 hS; rw [sort_t, hb2] at h; exact h) (fun B w A c h1 h2 h3 h4 => by have h := nSound_3 n B w t A c h1 h2 hS h3 h4; rw [hb2] at h; exact h)
          · first | exact soundIn_3tt n B w t A c hB hT hTW hO (fun B w A c h1 h2 h3 h4 => by have h := check4_any n B w t A c h1 h2 hS h3 h4; rw [hb1] at h; exact h) (fun B w A c h1 h2 => by have h := rSound_p n B w t A c h1 h2 hS; rw [hb1] at h; exact h) (fun B w A c h1 h2 => by have h := rSound_v n B w t A c 116 (by decide) h1 h2 hS; rw [sort_t, hb2] at h; exact h) (fun B w A c h1 h2 h3 h4 => by have h := nSound_3 n B w t A c h1 h2 hS h3 h4; rw [hb2] at h; exact h) | exact soundIn_3ft n B w t A c hB hT hTW hO (fun B w A c h1 h2 h3 h4 => by have h := check4_any n B w t A c h1 h2 hS h3 h4; rw [hb1] at h; exact h) (fun B w A c h1 h2 => by have h := rSound_p n B w t A c h1 h2 hS; rw [hb1] at h; exact h) (fun B w A c h1 h2 => by have h := rSound_v n B w t A c 116 (by decide) h1 h2 hS; rw [sort_t, hb2] at h; exact h) (fun B w A c h1 h2 h3 h4 => by have h := nSound_3 n B w t A c h1 h2 hS h3 h4; rw [hb2] at h; exact h)
        · have ho : ¬ (1 ≤ s ∧ s ≤ 3) := by omega
          first
            | exact soundOut_t n B w t s ho A c hB hT hTW hO (fun B w A c h1 h2 h3 h4 => by have h := check4_any n B w t A c h1 h2 hS h3 h4; rw [hb1] at h; exact h) (fun B w A c h1 h2 => by have h := rSound_p n B w t A c h1 h2 hS; rw [hb1] at h; exact h) (fun B w A c h1 h2 h3 h4 => by have h := nSound_any n B w t A c s h1 h2 hS h3 h4; rw [show ∀ b, soundE s b = 2 from fun b => by unfold soundE; rw [if_neg ho]] at h; exact h)
            | exact soundOut_f n B w t s ho A c hB hT hTW hO (fun B w A c h1 h2 h3 h4 => by have h := check4_any n B w t A c h1 h2 hS h3 h4; rw [hb1] at h; exact h) (fun B w A c h1 h2 => by have h := rSound_p n B w t A c h1 h2 hS; rw [hb1] at h; exact h) (fun B w A c h1 h2 h3 h4 => by have h := nSound_any n B w t A c s h1 h2 hS h3 h4; rw [show ∀ b, soundE s b = 2 from fun b => by unfold soundE; rw [if_neg ho]] at h; exact h)
end Go.Proofs.YtgaodjoddfjfmaaDoor
