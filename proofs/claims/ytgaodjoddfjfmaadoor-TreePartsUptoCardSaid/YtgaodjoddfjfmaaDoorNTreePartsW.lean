/-
  The walk of TreeParts.
-/
import Derived.Test.YtgaodjoddfjfmaaDoorNAns
import Derived.Test.YtgaodjoddfjfmaaDoorNGood
namespace Go.Proofs.YtgaodjoddfjfmaaDoor
open Go.RowKit
set_option linter.unusedVariables false
set_option linter.unusedSimpArgs false

theorem right_eq (m : Nat) (t : Nd) : rightF (m + 1) t = ((labelF t && listF t.kind t.n t.list) && t.list.all (rightF m)) := rfl
theorem right_up : ∀ (m : Nat) (t : Nd), rightF m t = true → rightF (m + 1) t = true
  | 0, _, h => by cases h
  | m + 1, t, h => by
    rw [right_eq] at h ⊢
    obtain ⟨h1, h2⟩ := Bool.and_eq_true_iff.1 h
    refine Bool.and_eq_true_iff.2 ⟨h1, List.all_eq_true.2 fun x hx => right_up m x (List.all_eq_true.1 h2 x hx)⟩
theorem sound_child {t x : Nd} (h : soundF t = true) (hx : x ∈ t.list) : soundF x = true := by
  unfold soundF at h ⊢
  obtain ⟨h1, h2⟩ := Bool.and_eq_true_iff.1 h
  rw [right_eq] at h1
  refine Bool.and_eq_true_iff.2 ⟨right_up _ _ (List.all_eq_true.1 (Bool.and_eq_true_iff.1 h1).2 x hx), decide_eq_true ?_⟩
  have h3 := of_decide_eq_true h2
  have h4 := sizeL_mem hx
  rw [size_eq] at h3
  omega
set_option maxRecDepth 100000 in
set_option maxHeartbeats 8000000 in
theorem treeParts_walk (n B : Nat) (w : World) (t : Nd) (A : Option Addr) (c : Nat) (hB : B ≤ w.heap.size) (hT : NdR n B w (ndCells t.kind t.text t.n t.at_ A t.list.length c) t) (hTW : TabW w) (hO : OpsR w) (hS : t.size ≤ 1048576) :
    Calls Tryd.prog 5 #[.agg #[.int .i64 t.kind, .string t.text, .int .u64 t.n, .int .i64 t.at_, .slice A t.list.length c]] w fun e w' => e = .returned (.bool true) ∧ Chg (fun _ _ => False) w w' := by
  cases n with
  | zero => exact hT.elim
  | succ n =>
    obtain ⟨hsm, hLl⟩ := NdR.open_ hT
    have hll : t.list.length ≤ 1048576 := hsm.2.2.2.2
    have hb1 := Blk.new w 25 #[.int .i64 t.kind, .string t.text, .int .u64 t.n, .int .i64 t.at_, .slice A t.list.length c]
    have hc1 := chg_alloc w (.cells #[.int .i64 t.kind, .string t.text, .int .u64 t.n, .int .i64 t.at_, .slice A t.list.length c] 25)
    have HP := Lib.hid (And.intro hB (And.intro hT (And.intro hTW (And.intro hO hLl))))
    clear hB hT hTW hO hLl hsm
    go_enter Tryd.func5, Tryd.ntmps5
    go_wp2_with fail
    generalize w.alloc (.cells #[.int .i64 t.kind, .string t.text, .int .u64 t.n, .int .i64 t.at_, .slice A t.list.length c] 25) = W at hb1 hc1 ⊢
    generalize w.heap.size = g1 at hb1 ⊢
    have H0 := Lib.hid (And.intro hb1 hc1)
    clear hb1 hc1
    refine (answers4_any _).mono fun e w1 h => ?_
    obtain ⟨rfl, hcw⟩ := h
    obtain ⟨c0, c1, c2, c3, c4⟩ := (hcw.blk H0.out.1 id).cells5
    go_wp2_with fail
    refine (own_any (n + 1) B w1 t A c (Nat.le_trans HP.out.1 (H0.out.2.trans hcw).size) (NdR.keep0 (H0.out.2.trans hcw) HP.out.2.1)).mono fun e w2 h => ?_
    obtain ⟨A2, c2x, rfl, hN, hc2⟩ := h
    have hv2 := hN.ndR
    replace hcw := hcw.trans hc2
    clear hN hc2
    clear c0 c1 c2 c3 c4
    obtain ⟨c0, c1, c2, c3, c4⟩ := (hcw.blk H0.out.1 id).cells5
    go_wp2_with fail
    have hcall := check4_any (n + 1) _ w2 t A2 c2x (Nat.le_refl _) hv2 hS (HP.out.2.2.1.keep0 (H0.out.2.trans hcw)) (HP.out.2.2.2.1.keep0 (H0.out.2.trans hcw))
    clear hv2
    have HW2 := Lib.hid hcw
    cases hb2 : (t.kind == 1 && soundF t) with
    | true =>
      rw [hb2] at hcall
      rw [show checkE true = 0 from rfl] at hcall
      have HSS := Lib.hid (show soundF t = true from (Bool.and_eq_true_iff.1 hb2).2)
      clear hb2
      refine hcall.mono fun e w3 h => ?_
      obtain ⟨rfl, hc3⟩ := h
      clear hcall
      have hcw := HW2.out.trans hc3
      clear hc3
      clear c0 c1 c2 c3 c4
      obtain ⟨c0, c1, c2, c3, c4⟩ := (hcw.blk H0.out.1 id).cells5
      go_wp2_with fail
      have HCL := Lib.hid hcw
      clear hcw
      go_loopw [3, 4] (fun v i wr => szRel t w3 v i wr) (fun _ i _ => t.list.length - (intOf i).toNat)
      case atStart => exact ⟨0, Nat.zero_le _, rfl, by first | rfl | simp [sizeL], Chg.refl _ _⟩
      case round =>
        obtain ⟨k, hk, rfl, rfl, hch⟩ := hrel
        clear c0 c1 c2 c3 c4
        obtain ⟨c0, c1, c2, c3, c4⟩ := ((HCL.out.trans hch).blk H0.out.1 id).cells5
        have q3 : IntKind.i64.wrap ((k : Int) + 1) = (k : Int) + 1 := IntWalk.i64_in _ ⟨by omega, by omega⟩
        by_cases hlt : k < t.list.length
        · have q1 : decide (k < t.list.length) = true := decide_eq_true hlt
          have q2 : (k : Int) < (t.list.length : Int) := by omega
          obtain ⟨b, o, x, X, cx, rfl, hkx, hRx, z0, z1, z2, z3, z4⟩ := NdsR.at_ (NdsR.keep0 (H0.out.2.trans (HCL.out.trans hch)) HP.out.2.2.2.2) hlt
          have hxs : x.size ≤ 1048576 := by
            have h1 := sizeL_mem (List.mem_of_getElem? hkx)
            have h2 := hS
            rw [size_eq] at h2
            omega
          have htk : sizeL (t.list.take (k + 1)) = sizeL (t.list.take k) + x.size := by
            obtain ⟨h1, h2⟩ := List.getElem?_eq_some_iff.1 hkx
            rw [List.take_succ_eq_append_getElem h1, h2, sizeL_snoc]
          have hle : 1 + sizeL (t.list.take (k + 1)) ≤ 1048576 := by
            have h1 := sizeL_take t.list (k + 1)
            have h2 := hS
            rw [size_eq] at h2
            omega
          have hca := chg_alloc wr (.cells #[.int .i64 x.kind, .string x.text, .int .u64 x.n, .int .i64 x.at_, .slice X x.list.length cx] 25)
          have hbx := Blk.new wr 25 #[.int .i64 x.kind, .string x.text, .int .u64 x.n, .int .i64 x.at_, .slice X x.list.length cx]
          have HX := Lib.hid (And.intro hkx (And.intro (NdR.keep0 hca hRx) (And.intro (sound_child HSS.out (List.mem_of_getElem? hkx)) hxs)))
          have HK := Lib.hid (And.intro htk hle)
          have hcy := hch.trans hca
          clear hch hkx hRx hxs htk hle hca
          go_wp2_with fail
          generalize wr.alloc (.cells #[.int .i64 x.kind, .string x.text, .int .u64 x.n, .int .i64 x.at_, .slice X x.list.length cx] 25) = wa at hbx HX hcy ⊢
          generalize wr.heap.size = gx at hbx ⊢
          refine (own_any n B wa x X cx (Nat.le_trans HP.out.1 (H0.out.2.trans (HCL.out.trans hcy)).size) HX.out.2.1).mono fun e w5 h => ?_
          obtain ⟨A5, c5x, rfl, hN5, hc5⟩ := h
          have hv5 := hN5.ndR
          replace hcy := hcy.trans hc5
          clear hN5
          go_wp2_with fail
          have hcall := nsize_any n _ w5 x A5 c5x (Nat.le_refl _) hv5 HX.out.2.2.2
          refine hcall.mono fun e w6 h => ?_
          obtain ⟨rfl, hc6⟩ := h
          clear hcall hv5
          replace hcy := hcy.trans hc6
          have hcz := hc5.trans hc6
          obtain ⟨y0, y1, y2, y3, y4⟩ := (hcz.blk hbx id).cells5
          have q4 : IntKind.i64.wrap (1 + (sizeL (t.list.take k) : Int) + (x.size : Int)) = 1 + (sizeL (t.list.take k) : Int) + (x.size : Int) := IntWalk.i64_in _ ⟨by omega, by have := HK.out; omega⟩
          clear hc5 hc6 z0 z1 z2 z3 z4 c0 c1 c2 c3 c4 hbx
          have hcase : (20 ≤ x.kind ∧ x.kind ≤ 29) ∨ (x.kind = 41) ∨ (x.kind = 42) ∨ (30 ≤ x.kind ∧ x.kind ≤ 40) ∨ (10 ≤ x.kind ∧ x.kind ≤ 13) ∨ (x.kind < 10) ∨ (14 ≤ x.kind ∧ x.kind ≤ 19) ∨ (43 ≤ x.kind) := by omega
          rcases hcase with hcase | hcase | hcase | hcase | hcase | hcase | hcase | hcase
          · have a0 : 20 ≤ x.kind := by omega
            have b0 : decide (20 ≤ x.kind) = true := decide_eq_true a0
            have a1 : x.kind ≤ 29 := by omega
            have b1 : decide (x.kind ≤ 29) = true := decide_eq_true a1
            have a2 : (x.kind == 41) = false := by simp; omega
            have a3 : (x.kind == 42) = false := by simp; omega
            have a4 : ¬ 30 ≤ x.kind := by omega
            have b4 : decide (30 ≤ x.kind) = false := decide_eq_false a4
            have a5 : x.kind ≤ 40 := by omega
            have b5 : decide (x.kind ≤ 40) = true := decide_eq_true a5
            have a6 : 10 ≤ x.kind := by omega
            have b6 : decide (10 ≤ x.kind) = true := decide_eq_true a6
            have a7 : ¬ x.kind ≤ 13 := by omega
            have b7 : decide (x.kind ≤ 13) = false := decide_eq_false a7
            have HS1 := Lib.hid (show (isStmtK x.kind && soundF x) = true by rw [HX.out.2.2.1, Bool.and_true]; unfold isStmtK; exact decide_eq_true (by omega))
            clear hcase
            go_wp2_with fail
            refine (own_any n B w6 x X cx (Nat.le_trans HP.out.1 (H0.out.2.trans (HCL.out.trans hcy)).size) (NdR.keep0 hcz HX.out.2.1)).mono fun e w7 h => ?_
            obtain ⟨A7, c7x, rfl, hN7, hc7⟩ := h
            have hv7 := hN7.ndR
            replace hcy := hcy.trans hc7
            clear hN7 hc7
            go_wp2_with fail
            have hcall := nSound_1 n _ w7 x A7 c7x (Nat.le_refl _) hv7 HX.out.2.2.2 (HP.out.2.2.1.keep0 (H0.out.2.trans (HCL.out.trans hcy))) (HP.out.2.2.2.1.keep0 (H0.out.2.trans (HCL.out.trans hcy)))
            rw [HS1.out] at hcall
            clear hv7
            refine hcall.mono fun e w8 h => ?_
            obtain ⟨rfl, hc8⟩ := h
            clear hcall
            replace hcy := hcy.trans hc8
            clear hc8
            rw [show checkE true = 0 from rfl]
            go_wp2_with fail
            go_roundw
            case rel => exact ⟨k + 1, hlt, by simp, by rw [HK.out.1]; simp; omega, hcy⟩
            case measure => simp [intOf]; omega
          · have a0 : 20 ≤ x.kind := by omega
            have b0 : decide (20 ≤ x.kind) = true := decide_eq_true a0
            have a1 : ¬ x.kind ≤ 29 := by omega
            have b1 : decide (x.kind ≤ 29) = false := decide_eq_false a1
            have a2 : (x.kind == 41) = true := by simp; omega
            have a3 : (x.kind == 42) = false := by simp; omega
            have a4 : 30 ≤ x.kind := by omega
            have b4 : decide (30 ≤ x.kind) = true := decide_eq_true a4
            have a5 : ¬ x.kind ≤ 40 := by omega
            have b5 : decide (x.kind ≤ 40) = false := decide_eq_false a5
            have a6 : 10 ≤ x.kind := by omega
            have b6 : decide (10 ≤ x.kind) = true := decide_eq_true a6
            have a7 : ¬ x.kind ≤ 13 := by omega
            have b7 : decide (x.kind ≤ 13) = false := decide_eq_false a7
            have HS1 := Lib.hid (show (isStmtK x.kind && soundF x) = true by rw [HX.out.2.2.1, Bool.and_true]; unfold isStmtK; exact decide_eq_true (by omega))
            clear hcase
            go_wp2_with fail
            refine (own_any n B w6 x X cx (Nat.le_trans HP.out.1 (H0.out.2.trans (HCL.out.trans hcy)).size) (NdR.keep0 hcz HX.out.2.1)).mono fun e w7 h => ?_
            obtain ⟨A7, c7x, rfl, hN7, hc7⟩ := h
            have hv7 := hN7.ndR
            replace hcy := hcy.trans hc7
            clear hN7 hc7
            go_wp2_with fail
            have hcall := nSound_1 n _ w7 x A7 c7x (Nat.le_refl _) hv7 HX.out.2.2.2 (HP.out.2.2.1.keep0 (H0.out.2.trans (HCL.out.trans hcy))) (HP.out.2.2.2.1.keep0 (H0.out.2.trans (HCL.out.trans hcy)))
            rw [HS1.out] at hcall
            clear hv7
            refine hcall.mono fun e w8 h => ?_
            obtain ⟨rfl, hc8⟩ := h
            clear hcall
            replace hcy := hcy.trans hc8
            clear hc8
            rw [show checkE true = 0 from rfl]
            go_wp2_with fail
            go_roundw
            case rel => exact ⟨k + 1, hlt, by simp, by rw [HK.out.1]; simp; omega, hcy⟩
            case measure => simp [intOf]; omega
          · have a0 : 20 ≤ x.kind := by omega
            have b0 : decide (20 ≤ x.kind) = true := decide_eq_true a0
            have a1 : ¬ x.kind ≤ 29 := by omega
            have b1 : decide (x.kind ≤ 29) = false := decide_eq_false a1
            have a2 : (x.kind == 41) = false := by simp; omega
            have a3 : (x.kind == 42) = true := by simp; omega
            have a4 : 30 ≤ x.kind := by omega
            have b4 : decide (30 ≤ x.kind) = true := decide_eq_true a4
            have a5 : ¬ x.kind ≤ 40 := by omega
            have b5 : decide (x.kind ≤ 40) = false := decide_eq_false a5
            have a6 : 10 ≤ x.kind := by omega
            have b6 : decide (10 ≤ x.kind) = true := decide_eq_true a6
            have a7 : ¬ x.kind ≤ 13 := by omega
            have b7 : decide (x.kind ≤ 13) = false := decide_eq_false a7
            have HS1 := Lib.hid (show (isStmtK x.kind && soundF x) = true by rw [HX.out.2.2.1, Bool.and_true]; unfold isStmtK; exact decide_eq_true (by omega))
            clear hcase
            go_wp2_with fail
            refine (own_any n B w6 x X cx (Nat.le_trans HP.out.1 (H0.out.2.trans (HCL.out.trans hcy)).size) (NdR.keep0 hcz HX.out.2.1)).mono fun e w7 h => ?_
            obtain ⟨A7, c7x, rfl, hN7, hc7⟩ := h
            have hv7 := hN7.ndR
            replace hcy := hcy.trans hc7
            clear hN7 hc7
            go_wp2_with fail
            have hcall := nSound_1 n _ w7 x A7 c7x (Nat.le_refl _) hv7 HX.out.2.2.2 (HP.out.2.2.1.keep0 (H0.out.2.trans (HCL.out.trans hcy))) (HP.out.2.2.2.1.keep0 (H0.out.2.trans (HCL.out.trans hcy)))
            rw [HS1.out] at hcall
            clear hv7
            refine hcall.mono fun e w8 h => ?_
            obtain ⟨rfl, hc8⟩ := h
            clear hcall
            replace hcy := hcy.trans hc8
            clear hc8
            rw [show checkE true = 0 from rfl]
            go_wp2_with fail
            go_roundw
            case rel => exact ⟨k + 1, hlt, by simp, by rw [HK.out.1]; simp; omega, hcy⟩
            case measure => simp [intOf]; omega
          · have a0 : 20 ≤ x.kind := by omega
            have b0 : decide (20 ≤ x.kind) = true := decide_eq_true a0
            have a1 : ¬ x.kind ≤ 29 := by omega
            have b1 : decide (x.kind ≤ 29) = false := decide_eq_false a1
            have a2 : (x.kind == 41) = false := by simp; omega
            have a3 : (x.kind == 42) = false := by simp; omega
            have a4 : 30 ≤ x.kind := by omega
            have b4 : decide (30 ≤ x.kind) = true := decide_eq_true a4
            have a5 : x.kind ≤ 40 := by omega
            have b5 : decide (x.kind ≤ 40) = true := decide_eq_true a5
            have a6 : 10 ≤ x.kind := by omega
            have b6 : decide (10 ≤ x.kind) = true := decide_eq_true a6
            have a7 : ¬ x.kind ≤ 13 := by omega
            have b7 : decide (x.kind ≤ 13) = false := decide_eq_false a7
            have HS2 := Lib.hid (show (isExprK x.kind && soundF x) = true by rw [HX.out.2.2.1, Bool.and_true]; unfold isExprK; exact decide_eq_true (by omega))
            clear hcase
            go_wp2_with fail
            refine (own_any n B w6 x X cx (Nat.le_trans HP.out.1 (H0.out.2.trans (HCL.out.trans hcy)).size) (NdR.keep0 hcz HX.out.2.1)).mono fun e w7 h => ?_
            obtain ⟨A7, c7x, rfl, hN7, hc7⟩ := h
            have hv7 := hN7.ndR
            replace hcy := hcy.trans hc7
            clear hN7 hc7
            go_wp2_with fail
            have hcall := nSound_2 n _ w7 x A7 c7x (Nat.le_refl _) hv7 HX.out.2.2.2 (HP.out.2.2.1.keep0 (H0.out.2.trans (HCL.out.trans hcy))) (HP.out.2.2.2.1.keep0 (H0.out.2.trans (HCL.out.trans hcy)))
            rw [HS2.out] at hcall
            clear hv7
            refine hcall.mono fun e w8 h => ?_
            obtain ⟨rfl, hc8⟩ := h
            clear hcall
            replace hcy := hcy.trans hc8
            clear hc8
            rw [show checkE true = 0 from rfl]
            go_wp2_with fail
            go_roundw
            case rel => exact ⟨k + 1, hlt, by simp, by rw [HK.out.1]; simp; omega, hcy⟩
            case measure => simp [intOf]; omega
          · have a0 : ¬ 20 ≤ x.kind := by omega
            have b0 : decide (20 ≤ x.kind) = false := decide_eq_false a0
            have a1 : x.kind ≤ 29 := by omega
            have b1 : decide (x.kind ≤ 29) = true := decide_eq_true a1
            have a2 : (x.kind == 41) = false := by simp; omega
            have a3 : (x.kind == 42) = false := by simp; omega
            have a4 : ¬ 30 ≤ x.kind := by omega
            have b4 : decide (30 ≤ x.kind) = false := decide_eq_false a4
            have a5 : x.kind ≤ 40 := by omega
            have b5 : decide (x.kind ≤ 40) = true := decide_eq_true a5
            have a6 : 10 ≤ x.kind := by omega
            have b6 : decide (10 ≤ x.kind) = true := decide_eq_true a6
            have a7 : x.kind ≤ 13 := by omega
            have b7 : decide (x.kind ≤ 13) = true := decide_eq_true a7
            have HS3 := Lib.hid (show (isTypeK x.kind && soundF x) = true by rw [HX.out.2.2.1, Bool.and_true]; unfold isTypeK; exact decide_eq_true (by omega))
            clear hcase
            go_wp2_with fail
            refine (own_any n B w6 x X cx (Nat.le_trans HP.out.1 (H0.out.2.trans (HCL.out.trans hcy)).size) (NdR.keep0 hcz HX.out.2.1)).mono fun e w7 h => ?_
            obtain ⟨A7, c7x, rfl, hN7, hc7⟩ := h
            have hv7 := hN7.ndR
            replace hcy := hcy.trans hc7
            clear hN7 hc7
            go_wp2_with fail
            have hcall := nSound_3 n _ w7 x A7 c7x (Nat.le_refl _) hv7 HX.out.2.2.2 (HP.out.2.2.1.keep0 (H0.out.2.trans (HCL.out.trans hcy))) (HP.out.2.2.2.1.keep0 (H0.out.2.trans (HCL.out.trans hcy)))
            rw [HS3.out] at hcall
            clear hv7
            refine hcall.mono fun e w8 h => ?_
            obtain ⟨rfl, hc8⟩ := h
            clear hcall
            replace hcy := hcy.trans hc8
            clear hc8
            rw [show checkE true = 0 from rfl]
            go_wp2_with fail
            go_roundw
            case rel => exact ⟨k + 1, hlt, by simp, by rw [HK.out.1]; simp; omega, hcy⟩
            case measure => simp [intOf]; omega
          · have a0 : ¬ 20 ≤ x.kind := by omega
            have b0 : decide (20 ≤ x.kind) = false := decide_eq_false a0
            have a1 : x.kind ≤ 29 := by omega
            have b1 : decide (x.kind ≤ 29) = true := decide_eq_true a1
            have a2 : (x.kind == 41) = false := by simp; omega
            have a3 : (x.kind == 42) = false := by simp; omega
            have a4 : ¬ 30 ≤ x.kind := by omega
            have b4 : decide (30 ≤ x.kind) = false := decide_eq_false a4
            have a5 : x.kind ≤ 40 := by omega
            have b5 : decide (x.kind ≤ 40) = true := decide_eq_true a5
            have a6 : ¬ 10 ≤ x.kind := by omega
            have b6 : decide (10 ≤ x.kind) = false := decide_eq_false a6
            have a7 : x.kind ≤ 13 := by omega
            have b7 : decide (x.kind ≤ 13) = true := decide_eq_true a7
            clear hcase
            go_wp2_with fail
            go_roundw
            case rel => exact ⟨k + 1, hlt, by simp, by rw [HK.out.1]; simp; omega, hcy⟩
            case measure => simp [intOf]; omega
          · have a0 : ¬ 20 ≤ x.kind := by omega
            have b0 : decide (20 ≤ x.kind) = false := decide_eq_false a0
            have a1 : x.kind ≤ 29 := by omega
            have b1 : decide (x.kind ≤ 29) = true := decide_eq_true a1
            have a2 : (x.kind == 41) = false := by simp; omega
            have a3 : (x.kind == 42) = false := by simp; omega
            have a4 : ¬ 30 ≤ x.kind := by omega
            have b4 : decide (30 ≤ x.kind) = false := decide_eq_false a4
            have a5 : x.kind ≤ 40 := by omega
            have b5 : decide (x.kind ≤ 40) = true := decide_eq_true a5
            have a6 : 10 ≤ x.kind := by omega
            have b6 : decide (10 ≤ x.kind) = true := decide_eq_true a6
            have a7 : ¬ x.kind ≤ 13 := by omega
            have b7 : decide (x.kind ≤ 13) = false := decide_eq_false a7
            clear hcase
            go_wp2_with fail
            go_roundw
            case rel => exact ⟨k + 1, hlt, by simp, by rw [HK.out.1]; simp; omega, hcy⟩
            case measure => simp [intOf]; omega
          · have a0 : 20 ≤ x.kind := by omega
            have b0 : decide (20 ≤ x.kind) = true := decide_eq_true a0
            have a1 : ¬ x.kind ≤ 29 := by omega
            have b1 : decide (x.kind ≤ 29) = false := decide_eq_false a1
            have a2 : (x.kind == 41) = false := by simp; omega
            have a3 : (x.kind == 42) = false := by simp; omega
            have a4 : 30 ≤ x.kind := by omega
            have b4 : decide (30 ≤ x.kind) = true := decide_eq_true a4
            have a5 : ¬ x.kind ≤ 40 := by omega
            have b5 : decide (x.kind ≤ 40) = false := decide_eq_false a5
            have a6 : 10 ≤ x.kind := by omega
            have b6 : decide (10 ≤ x.kind) = true := decide_eq_true a6
            have a7 : ¬ x.kind ≤ 13 := by omega
            have b7 : decide (x.kind ≤ 13) = false := decide_eq_false a7
            clear hcase
            go_wp2_with fail
            go_roundw
            case rel => exact ⟨k + 1, hlt, by simp, by rw [HK.out.1]; simp; omega, hcy⟩
            case measure => simp [intOf]; omega
        · have q1 : decide (k < t.list.length) = false := decide_eq_false hlt
          obtain rfl : k = t.list.length := by omega
          rw [List.take_length, ← size_eq]
          have hcw := HCL.out.trans hch
          clear hch
          go_wp2_with fail
          refine (own_any (n + 1) B wr t A c (Nat.le_trans HP.out.1 (H0.out.2.trans hcw).size) (NdR.keep0 (H0.out.2.trans hcw) HP.out.2.1)).mono fun e w5 h => ?_
          obtain ⟨A5, c5x, rfl, hN, hc5⟩ := h
          have hv5 := hN.ndR
          replace hcw := hcw.trans hc5
          clear hN hc5
          clear c0 c1 c2 c3 c4
          obtain ⟨c0, c1, c2, c3, c4⟩ := (hcw.blk H0.out.1 id).cells5
          have hcall := nsize_any (n + 1) _ w5 t A5 c5x (Nat.le_refl _) hv5 hS
          have HW := Lib.hid hcw
          clear hv5 hcw
          generalize t.size = sz at hcall ⊢
          go_wp2_with fail
          refine hcall.mono fun e w6 h => ?_
          obtain ⟨rfl, hc6⟩ := h
          clear hcall
          go_wp2_with fail
          go_ret
          exact ⟨by simp, (H0.out.2.trans HW.out).trans hc6⟩
    | false =>
      rw [hb2] at hcall
      rw [show checkE false = 1 from rfl] at hcall
      clear hb2
      refine hcall.mono fun e w3 h => ?_
      obtain ⟨rfl, hc3⟩ := h
      clear hcall
      have hcw := HW2.out.trans hc3
      clear hc3
      clear c0 c1 c2 c3 c4
      obtain ⟨c0, c1, c2, c3, c4⟩ := (hcw.blk H0.out.1 id).cells5
      go_wp2_with fail
      refine (own_any (n + 1) B w3 t A c (Nat.le_trans HP.out.1 (H0.out.2.trans hcw).size) (NdR.keep0 (H0.out.2.trans hcw) HP.out.2.1)).mono fun e w4 h => ?_
      obtain ⟨A4, c4x, rfl, hN, hc4⟩ := h
      have hv4 := hN.ndR
      replace hcw := hcw.trans hc4
      clear hN hc4
      clear c0 c1 c2 c3 c4
      obtain ⟨c0, c1, c2, c3, c4⟩ := (hcw.blk H0.out.1 id).cells5
      go_wp2_with fail
      have hcall := nSound_1 (n + 1) _ w4 t A4 c4x (Nat.le_refl _) hv4 hS (HP.out.2.2.1.keep0 (H0.out.2.trans hcw)) (HP.out.2.2.2.1.keep0 (H0.out.2.trans hcw))
      clear hv4
      have HW4 := Lib.hid hcw
      cases hb4 : (isStmtK t.kind && soundF t) with
      | true =>
        rw [hb4] at hcall
        rw [show checkE true = 0 from rfl] at hcall
        have HSS := Lib.hid (show soundF t = true from (Bool.and_eq_true_iff.1 hb4).2)
        clear hb4
        refine hcall.mono fun e w5 h => ?_
        obtain ⟨rfl, hc5⟩ := h
        clear hcall
        have hcw := HW4.out.trans hc5
        clear hc5
        clear c0 c1 c2 c3 c4
        obtain ⟨c0, c1, c2, c3, c4⟩ := (hcw.blk H0.out.1 id).cells5
        go_wp2_with fail
        have HCL := Lib.hid hcw
        clear hcw
        go_loopw [3, 4] (fun v i wr => szRel t w5 v i wr) (fun _ i _ => t.list.length - (intOf i).toNat)
        case atStart => exact ⟨0, Nat.zero_le _, rfl, by first | rfl | simp [sizeL], Chg.refl _ _⟩
        case round =>
          obtain ⟨k, hk, rfl, rfl, hch⟩ := hrel
          clear c0 c1 c2 c3 c4
          obtain ⟨c0, c1, c2, c3, c4⟩ := ((HCL.out.trans hch).blk H0.out.1 id).cells5
          have q3 : IntKind.i64.wrap ((k : Int) + 1) = (k : Int) + 1 := IntWalk.i64_in _ ⟨by omega, by omega⟩
          by_cases hlt : k < t.list.length
          · have q1 : decide (k < t.list.length) = true := decide_eq_true hlt
            have q2 : (k : Int) < (t.list.length : Int) := by omega
            obtain ⟨b, o, x, X, cx, rfl, hkx, hRx, z0, z1, z2, z3, z4⟩ := NdsR.at_ (NdsR.keep0 (H0.out.2.trans (HCL.out.trans hch)) HP.out.2.2.2.2) hlt
            have hxs : x.size ≤ 1048576 := by
              have h1 := sizeL_mem (List.mem_of_getElem? hkx)
              have h2 := hS
              rw [size_eq] at h2
              omega
            have htk : sizeL (t.list.take (k + 1)) = sizeL (t.list.take k) + x.size := by
              obtain ⟨h1, h2⟩ := List.getElem?_eq_some_iff.1 hkx
              rw [List.take_succ_eq_append_getElem h1, h2, sizeL_snoc]
            have hle : 1 + sizeL (t.list.take (k + 1)) ≤ 1048576 := by
              have h1 := sizeL_take t.list (k + 1)
              have h2 := hS
              rw [size_eq] at h2
              omega
            have hca := chg_alloc wr (.cells #[.int .i64 x.kind, .string x.text, .int .u64 x.n, .int .i64 x.at_, .slice X x.list.length cx] 25)
            have hbx := Blk.new wr 25 #[.int .i64 x.kind, .string x.text, .int .u64 x.n, .int .i64 x.at_, .slice X x.list.length cx]
            have HX := Lib.hid (And.intro hkx (And.intro (NdR.keep0 hca hRx) (And.intro (sound_child HSS.out (List.mem_of_getElem? hkx)) hxs)))
            have HK := Lib.hid (And.intro htk hle)
            have hcy := hch.trans hca
            clear hch hkx hRx hxs htk hle hca
            go_wp2_with fail
            generalize wr.alloc (.cells #[.int .i64 x.kind, .string x.text, .int .u64 x.n, .int .i64 x.at_, .slice X x.list.length cx] 25) = wa at hbx HX hcy ⊢
            generalize wr.heap.size = gx at hbx ⊢
            refine (own_any n B wa x X cx (Nat.le_trans HP.out.1 (H0.out.2.trans (HCL.out.trans hcy)).size) HX.out.2.1).mono fun e w5 h => ?_
            obtain ⟨A5, c5x, rfl, hN5, hc5⟩ := h
            have hv5 := hN5.ndR
            replace hcy := hcy.trans hc5
            clear hN5
            go_wp2_with fail
            have hcall := nsize_any n _ w5 x A5 c5x (Nat.le_refl _) hv5 HX.out.2.2.2
            refine hcall.mono fun e w6 h => ?_
            obtain ⟨rfl, hc6⟩ := h
            clear hcall hv5
            replace hcy := hcy.trans hc6
            have hcz := hc5.trans hc6
            obtain ⟨y0, y1, y2, y3, y4⟩ := (hcz.blk hbx id).cells5
            have q4 : IntKind.i64.wrap (1 + (sizeL (t.list.take k) : Int) + (x.size : Int)) = 1 + (sizeL (t.list.take k) : Int) + (x.size : Int) := IntWalk.i64_in _ ⟨by omega, by have := HK.out; omega⟩
            clear hc5 hc6 z0 z1 z2 z3 z4 c0 c1 c2 c3 c4 hbx
            have hcase : (20 ≤ x.kind ∧ x.kind ≤ 29) ∨ (x.kind = 41) ∨ (x.kind = 42) ∨ (30 ≤ x.kind ∧ x.kind ≤ 40) ∨ (10 ≤ x.kind ∧ x.kind ≤ 13) ∨ (x.kind < 10) ∨ (14 ≤ x.kind ∧ x.kind ≤ 19) ∨ (43 ≤ x.kind) := by omega
            rcases hcase with hcase | hcase | hcase | hcase | hcase | hcase | hcase | hcase
            · have a0 : 20 ≤ x.kind := by omega
              have b0 : decide (20 ≤ x.kind) = true := decide_eq_true a0
              have a1 : x.kind ≤ 29 := by omega
              have b1 : decide (x.kind ≤ 29) = true := decide_eq_true a1
              have a2 : (x.kind == 41) = false := by simp; omega
              have a3 : (x.kind == 42) = false := by simp; omega
              have a4 : ¬ 30 ≤ x.kind := by omega
              have b4 : decide (30 ≤ x.kind) = false := decide_eq_false a4
              have a5 : x.kind ≤ 40 := by omega
              have b5 : decide (x.kind ≤ 40) = true := decide_eq_true a5
              have a6 : 10 ≤ x.kind := by omega
              have b6 : decide (10 ≤ x.kind) = true := decide_eq_true a6
              have a7 : ¬ x.kind ≤ 13 := by omega
              have b7 : decide (x.kind ≤ 13) = false := decide_eq_false a7
              have HS1 := Lib.hid (show (isStmtK x.kind && soundF x) = true by rw [HX.out.2.2.1, Bool.and_true]; unfold isStmtK; exact decide_eq_true (by omega))
              clear hcase
              go_wp2_with fail
              refine (own_any n B w6 x X cx (Nat.le_trans HP.out.1 (H0.out.2.trans (HCL.out.trans hcy)).size) (NdR.keep0 hcz HX.out.2.1)).mono fun e w7 h => ?_
              obtain ⟨A7, c7x, rfl, hN7, hc7⟩ := h
              have hv7 := hN7.ndR
              replace hcy := hcy.trans hc7
              clear hN7 hc7
              go_wp2_with fail
              have hcall := nSound_1 n _ w7 x A7 c7x (Nat.le_refl _) hv7 HX.out.2.2.2 (HP.out.2.2.1.keep0 (H0.out.2.trans (HCL.out.trans hcy))) (HP.out.2.2.2.1.keep0 (H0.out.2.trans (HCL.out.trans hcy)))
              rw [HS1.out] at hcall
              clear hv7
              refine hcall.mono fun e w8 h => ?_
              obtain ⟨rfl, hc8⟩ := h
              clear hcall
              replace hcy := hcy.trans hc8
              clear hc8
              rw [show checkE true = 0 from rfl]
              go_wp2_with fail
              go_roundw
              case rel => exact ⟨k + 1, hlt, by simp, by rw [HK.out.1]; simp; omega, hcy⟩
              case measure => simp [intOf]; omega
            · have a0 : 20 ≤ x.kind := by omega
              have b0 : decide (20 ≤ x.kind) = true := decide_eq_true a0
              have a1 : ¬ x.kind ≤ 29 := by omega
              have b1 : decide (x.kind ≤ 29) = false := decide_eq_false a1
              have a2 : (x.kind == 41) = true := by simp; omega
              have a3 : (x.kind == 42) = false := by simp; omega
              have a4 : 30 ≤ x.kind := by omega
              have b4 : decide (30 ≤ x.kind) = true := decide_eq_true a4
              have a5 : ¬ x.kind ≤ 40 := by omega
              have b5 : decide (x.kind ≤ 40) = false := decide_eq_false a5
              have a6 : 10 ≤ x.kind := by omega
              have b6 : decide (10 ≤ x.kind) = true := decide_eq_true a6
              have a7 : ¬ x.kind ≤ 13 := by omega
              have b7 : decide (x.kind ≤ 13) = false := decide_eq_false a7
              have HS1 := Lib.hid (show (isStmtK x.kind && soundF x) = true by rw [HX.out.2.2.1, Bool.and_true]; unfold isStmtK; exact decide_eq_true (by omega))
              clear hcase
              go_wp2_with fail
              refine (own_any n B w6 x X cx (Nat.le_trans HP.out.1 (H0.out.2.trans (HCL.out.trans hcy)).size) (NdR.keep0 hcz HX.out.2.1)).mono fun e w7 h => ?_
              obtain ⟨A7, c7x, rfl, hN7, hc7⟩ := h
              have hv7 := hN7.ndR
              replace hcy := hcy.trans hc7
              clear hN7 hc7
              go_wp2_with fail
              have hcall := nSound_1 n _ w7 x A7 c7x (Nat.le_refl _) hv7 HX.out.2.2.2 (HP.out.2.2.1.keep0 (H0.out.2.trans (HCL.out.trans hcy))) (HP.out.2.2.2.1.keep0 (H0.out.2.trans (HCL.out.trans hcy)))
              rw [HS1.out] at hcall
              clear hv7
              refine hcall.mono fun e w8 h => ?_
              obtain ⟨rfl, hc8⟩ := h
              clear hcall
              replace hcy := hcy.trans hc8
              clear hc8
              rw [show checkE true = 0 from rfl]
              go_wp2_with fail
              go_roundw
              case rel => exact ⟨k + 1, hlt, by simp, by rw [HK.out.1]; simp; omega, hcy⟩
              case measure => simp [intOf]; omega
            · have a0 : 20 ≤ x.kind := by omega
              have b0 : decide (20 ≤ x.kind) = true := decide_eq_true a0
              have a1 : ¬ x.kind ≤ 29 := by omega
              have b1 : decide (x.kind ≤ 29) = false := decide_eq_false a1
              have a2 : (x.kind == 41) = false := by simp; omega
              have a3 : (x.kind == 42) = true := by simp; omega
              have a4 : 30 ≤ x.kind := by omega
              have b4 : decide (30 ≤ x.kind) = true := decide_eq_true a4
              have a5 : ¬ x.kind ≤ 40 := by omega
              have b5 : decide (x.kind ≤ 40) = false := decide_eq_false a5
              have a6 : 10 ≤ x.kind := by omega
              have b6 : decide (10 ≤ x.kind) = true := decide_eq_true a6
              have a7 : ¬ x.kind ≤ 13 := by omega
              have b7 : decide (x.kind ≤ 13) = false := decide_eq_false a7
              have HS1 := Lib.hid (show (isStmtK x.kind && soundF x) = true by rw [HX.out.2.2.1, Bool.and_true]; unfold isStmtK; exact decide_eq_true (by omega))
              clear hcase
              go_wp2_with fail
              refine (own_any n B w6 x X cx (Nat.le_trans HP.out.1 (H0.out.2.trans (HCL.out.trans hcy)).size) (NdR.keep0 hcz HX.out.2.1)).mono fun e w7 h => ?_
              obtain ⟨A7, c7x, rfl, hN7, hc7⟩ := h
              have hv7 := hN7.ndR
              replace hcy := hcy.trans hc7
              clear hN7 hc7
              go_wp2_with fail
              have hcall := nSound_1 n _ w7 x A7 c7x (Nat.le_refl _) hv7 HX.out.2.2.2 (HP.out.2.2.1.keep0 (H0.out.2.trans (HCL.out.trans hcy))) (HP.out.2.2.2.1.keep0 (H0.out.2.trans (HCL.out.trans hcy)))
              rw [HS1.out] at hcall
              clear hv7
              refine hcall.mono fun e w8 h => ?_
              obtain ⟨rfl, hc8⟩ := h
              clear hcall
              replace hcy := hcy.trans hc8
              clear hc8
              rw [show checkE true = 0 from rfl]
              go_wp2_with fail
              go_roundw
              case rel => exact ⟨k + 1, hlt, by simp, by rw [HK.out.1]; simp; omega, hcy⟩
              case measure => simp [intOf]; omega
            · have a0 : 20 ≤ x.kind := by omega
              have b0 : decide (20 ≤ x.kind) = true := decide_eq_true a0
              have a1 : ¬ x.kind ≤ 29 := by omega
              have b1 : decide (x.kind ≤ 29) = false := decide_eq_false a1
              have a2 : (x.kind == 41) = false := by simp; omega
              have a3 : (x.kind == 42) = false := by simp; omega
              have a4 : 30 ≤ x.kind := by omega
              have b4 : decide (30 ≤ x.kind) = true := decide_eq_true a4
              have a5 : x.kind ≤ 40 := by omega
              have b5 : decide (x.kind ≤ 40) = true := decide_eq_true a5
              have a6 : 10 ≤ x.kind := by omega
              have b6 : decide (10 ≤ x.kind) = true := decide_eq_true a6
              have a7 : ¬ x.kind ≤ 13 := by omega
              have b7 : decide (x.kind ≤ 13) = false := decide_eq_false a7
              have HS2 := Lib.hid (show (isExprK x.kind && soundF x) = true by rw [HX.out.2.2.1, Bool.and_true]; unfold isExprK; exact decide_eq_true (by omega))
              clear hcase
              go_wp2_with fail
              refine (own_any n B w6 x X cx (Nat.le_trans HP.out.1 (H0.out.2.trans (HCL.out.trans hcy)).size) (NdR.keep0 hcz HX.out.2.1)).mono fun e w7 h => ?_
              obtain ⟨A7, c7x, rfl, hN7, hc7⟩ := h
              have hv7 := hN7.ndR
              replace hcy := hcy.trans hc7
              clear hN7 hc7
              go_wp2_with fail
              have hcall := nSound_2 n _ w7 x A7 c7x (Nat.le_refl _) hv7 HX.out.2.2.2 (HP.out.2.2.1.keep0 (H0.out.2.trans (HCL.out.trans hcy))) (HP.out.2.2.2.1.keep0 (H0.out.2.trans (HCL.out.trans hcy)))
              rw [HS2.out] at hcall
              clear hv7
              refine hcall.mono fun e w8 h => ?_
              obtain ⟨rfl, hc8⟩ := h
              clear hcall
              replace hcy := hcy.trans hc8
              clear hc8
              rw [show checkE true = 0 from rfl]
              go_wp2_with fail
              go_roundw
              case rel => exact ⟨k + 1, hlt, by simp, by rw [HK.out.1]; simp; omega, hcy⟩
              case measure => simp [intOf]; omega
            · have a0 : ¬ 20 ≤ x.kind := by omega
              have b0 : decide (20 ≤ x.kind) = false := decide_eq_false a0
              have a1 : x.kind ≤ 29 := by omega
              have b1 : decide (x.kind ≤ 29) = true := decide_eq_true a1
              have a2 : (x.kind == 41) = false := by simp; omega
              have a3 : (x.kind == 42) = false := by simp; omega
              have a4 : ¬ 30 ≤ x.kind := by omega
              have b4 : decide (30 ≤ x.kind) = false := decide_eq_false a4
              have a5 : x.kind ≤ 40 := by omega
              have b5 : decide (x.kind ≤ 40) = true := decide_eq_true a5
              have a6 : 10 ≤ x.kind := by omega
              have b6 : decide (10 ≤ x.kind) = true := decide_eq_true a6
              have a7 : x.kind ≤ 13 := by omega
              have b7 : decide (x.kind ≤ 13) = true := decide_eq_true a7
              have HS3 := Lib.hid (show (isTypeK x.kind && soundF x) = true by rw [HX.out.2.2.1, Bool.and_true]; unfold isTypeK; exact decide_eq_true (by omega))
              clear hcase
              go_wp2_with fail
              refine (own_any n B w6 x X cx (Nat.le_trans HP.out.1 (H0.out.2.trans (HCL.out.trans hcy)).size) (NdR.keep0 hcz HX.out.2.1)).mono fun e w7 h => ?_
              obtain ⟨A7, c7x, rfl, hN7, hc7⟩ := h
              have hv7 := hN7.ndR
              replace hcy := hcy.trans hc7
              clear hN7 hc7
              go_wp2_with fail
              have hcall := nSound_3 n _ w7 x A7 c7x (Nat.le_refl _) hv7 HX.out.2.2.2 (HP.out.2.2.1.keep0 (H0.out.2.trans (HCL.out.trans hcy))) (HP.out.2.2.2.1.keep0 (H0.out.2.trans (HCL.out.trans hcy)))
              rw [HS3.out] at hcall
              clear hv7
              refine hcall.mono fun e w8 h => ?_
              obtain ⟨rfl, hc8⟩ := h
              clear hcall
              replace hcy := hcy.trans hc8
              clear hc8
              rw [show checkE true = 0 from rfl]
              go_wp2_with fail
              go_roundw
              case rel => exact ⟨k + 1, hlt, by simp, by rw [HK.out.1]; simp; omega, hcy⟩
              case measure => simp [intOf]; omega
            · have a0 : ¬ 20 ≤ x.kind := by omega
              have b0 : decide (20 ≤ x.kind) = false := decide_eq_false a0
              have a1 : x.kind ≤ 29 := by omega
              have b1 : decide (x.kind ≤ 29) = true := decide_eq_true a1
              have a2 : (x.kind == 41) = false := by simp; omega
              have a3 : (x.kind == 42) = false := by simp; omega
              have a4 : ¬ 30 ≤ x.kind := by omega
              have b4 : decide (30 ≤ x.kind) = false := decide_eq_false a4
              have a5 : x.kind ≤ 40 := by omega
              have b5 : decide (x.kind ≤ 40) = true := decide_eq_true a5
              have a6 : ¬ 10 ≤ x.kind := by omega
              have b6 : decide (10 ≤ x.kind) = false := decide_eq_false a6
              have a7 : x.kind ≤ 13 := by omega
              have b7 : decide (x.kind ≤ 13) = true := decide_eq_true a7
              clear hcase
              go_wp2_with fail
              go_roundw
              case rel => exact ⟨k + 1, hlt, by simp, by rw [HK.out.1]; simp; omega, hcy⟩
              case measure => simp [intOf]; omega
            · have a0 : ¬ 20 ≤ x.kind := by omega
              have b0 : decide (20 ≤ x.kind) = false := decide_eq_false a0
              have a1 : x.kind ≤ 29 := by omega
              have b1 : decide (x.kind ≤ 29) = true := decide_eq_true a1
              have a2 : (x.kind == 41) = false := by simp; omega
              have a3 : (x.kind == 42) = false := by simp; omega
              have a4 : ¬ 30 ≤ x.kind := by omega
              have b4 : decide (30 ≤ x.kind) = false := decide_eq_false a4
              have a5 : x.kind ≤ 40 := by omega
              have b5 : decide (x.kind ≤ 40) = true := decide_eq_true a5
              have a6 : 10 ≤ x.kind := by omega
              have b6 : decide (10 ≤ x.kind) = true := decide_eq_true a6
              have a7 : ¬ x.kind ≤ 13 := by omega
              have b7 : decide (x.kind ≤ 13) = false := decide_eq_false a7
              clear hcase
              go_wp2_with fail
              go_roundw
              case rel => exact ⟨k + 1, hlt, by simp, by rw [HK.out.1]; simp; omega, hcy⟩
              case measure => simp [intOf]; omega
            · have a0 : 20 ≤ x.kind := by omega
              have b0 : decide (20 ≤ x.kind) = true := decide_eq_true a0
              have a1 : ¬ x.kind ≤ 29 := by omega
              have b1 : decide (x.kind ≤ 29) = false := decide_eq_false a1
              have a2 : (x.kind == 41) = false := by simp; omega
              have a3 : (x.kind == 42) = false := by simp; omega
              have a4 : 30 ≤ x.kind := by omega
              have b4 : decide (30 ≤ x.kind) = true := decide_eq_true a4
              have a5 : ¬ x.kind ≤ 40 := by omega
              have b5 : decide (x.kind ≤ 40) = false := decide_eq_false a5
              have a6 : 10 ≤ x.kind := by omega
              have b6 : decide (10 ≤ x.kind) = true := decide_eq_true a6
              have a7 : ¬ x.kind ≤ 13 := by omega
              have b7 : decide (x.kind ≤ 13) = false := decide_eq_false a7
              clear hcase
              go_wp2_with fail
              go_roundw
              case rel => exact ⟨k + 1, hlt, by simp, by rw [HK.out.1]; simp; omega, hcy⟩
              case measure => simp [intOf]; omega
          · have q1 : decide (k < t.list.length) = false := decide_eq_false hlt
            obtain rfl : k = t.list.length := by omega
            rw [List.take_length, ← size_eq]
            have hcw := HCL.out.trans hch
            clear hch
            go_wp2_with fail
            refine (own_any (n + 1) B wr t A c (Nat.le_trans HP.out.1 (H0.out.2.trans hcw).size) (NdR.keep0 (H0.out.2.trans hcw) HP.out.2.1)).mono fun e w5 h => ?_
            obtain ⟨A5, c5x, rfl, hN, hc5⟩ := h
            have hv5 := hN.ndR
            replace hcw := hcw.trans hc5
            clear hN hc5
            clear c0 c1 c2 c3 c4
            obtain ⟨c0, c1, c2, c3, c4⟩ := (hcw.blk H0.out.1 id).cells5
            have hcall := nsize_any (n + 1) _ w5 t A5 c5x (Nat.le_refl _) hv5 hS
            have HW := Lib.hid hcw
            clear hv5 hcw
            generalize t.size = sz at hcall ⊢
            go_wp2_with fail
            refine hcall.mono fun e w6 h => ?_
            obtain ⟨rfl, hc6⟩ := h
            clear hcall
            go_wp2_with fail
            go_ret
            exact ⟨by simp, (H0.out.2.trans HW.out).trans hc6⟩
      | false =>
        rw [hb4] at hcall
        rw [show checkE false = 1 from rfl] at hcall
        clear hb4
        refine hcall.mono fun e w5 h => ?_
        obtain ⟨rfl, hc5⟩ := h
        clear hcall
        have hcw := HW4.out.trans hc5
        clear hc5
        clear c0 c1 c2 c3 c4
        obtain ⟨c0, c1, c2, c3, c4⟩ := (hcw.blk H0.out.1 id).cells5
        go_wp2_with fail
        refine (own_any (n + 1) B w5 t A c (Nat.le_trans HP.out.1 (H0.out.2.trans hcw).size) (NdR.keep0 (H0.out.2.trans hcw) HP.out.2.1)).mono fun e w6 h => ?_
        obtain ⟨A6, c6x, rfl, hN, hc6⟩ := h
        have hv6 := hN.ndR
        replace hcw := hcw.trans hc6
        clear hN hc6
        clear c0 c1 c2 c3 c4
        obtain ⟨c0, c1, c2, c3, c4⟩ := (hcw.blk H0.out.1 id).cells5
        go_wp2_with fail
        have hcall := nSound_2 (n + 1) _ w6 t A6 c6x (Nat.le_refl _) hv6 hS (HP.out.2.2.1.keep0 (H0.out.2.trans hcw)) (HP.out.2.2.2.1.keep0 (H0.out.2.trans hcw))
        clear hv6
        have HW6 := Lib.hid hcw
        cases hb6 : (isExprK t.kind && soundF t) with
        | true =>
          rw [hb6] at hcall
          rw [show checkE true = 0 from rfl] at hcall
          have HSS := Lib.hid (show soundF t = true from (Bool.and_eq_true_iff.1 hb6).2)
          clear hb6
          refine hcall.mono fun e w7 h => ?_
          obtain ⟨rfl, hc7⟩ := h
          clear hcall
          have hcw := HW6.out.trans hc7
          clear hc7
          clear c0 c1 c2 c3 c4
          obtain ⟨c0, c1, c2, c3, c4⟩ := (hcw.blk H0.out.1 id).cells5
          go_wp2_with fail
          have HCL := Lib.hid hcw
          clear hcw
          go_loopw [3, 4] (fun v i wr => szRel t w7 v i wr) (fun _ i _ => t.list.length - (intOf i).toNat)
          case atStart => exact ⟨0, Nat.zero_le _, rfl, by first | rfl | simp [sizeL], Chg.refl _ _⟩
          case round =>
            obtain ⟨k, hk, rfl, rfl, hch⟩ := hrel
            clear c0 c1 c2 c3 c4
            obtain ⟨c0, c1, c2, c3, c4⟩ := ((HCL.out.trans hch).blk H0.out.1 id).cells5
            have q3 : IntKind.i64.wrap ((k : Int) + 1) = (k : Int) + 1 := IntWalk.i64_in _ ⟨by omega, by omega⟩
            by_cases hlt : k < t.list.length
            · have q1 : decide (k < t.list.length) = true := decide_eq_true hlt
              have q2 : (k : Int) < (t.list.length : Int) := by omega
              obtain ⟨b, o, x, X, cx, rfl, hkx, hRx, z0, z1, z2, z3, z4⟩ := NdsR.at_ (NdsR.keep0 (H0.out.2.trans (HCL.out.trans hch)) HP.out.2.2.2.2) hlt
              have hxs : x.size ≤ 1048576 := by
                have h1 := sizeL_mem (List.mem_of_getElem? hkx)
                have h2 := hS
                rw [size_eq] at h2
                omega
              have htk : sizeL (t.list.take (k + 1)) = sizeL (t.list.take k) + x.size := by
                obtain ⟨h1, h2⟩ := List.getElem?_eq_some_iff.1 hkx
                rw [List.take_succ_eq_append_getElem h1, h2, sizeL_snoc]
              have hle : 1 + sizeL (t.list.take (k + 1)) ≤ 1048576 := by
                have h1 := sizeL_take t.list (k + 1)
                have h2 := hS
                rw [size_eq] at h2
                omega
              have hca := chg_alloc wr (.cells #[.int .i64 x.kind, .string x.text, .int .u64 x.n, .int .i64 x.at_, .slice X x.list.length cx] 25)
              have hbx := Blk.new wr 25 #[.int .i64 x.kind, .string x.text, .int .u64 x.n, .int .i64 x.at_, .slice X x.list.length cx]
              have HX := Lib.hid (And.intro hkx (And.intro (NdR.keep0 hca hRx) (And.intro (sound_child HSS.out (List.mem_of_getElem? hkx)) hxs)))
              have HK := Lib.hid (And.intro htk hle)
              have hcy := hch.trans hca
              clear hch hkx hRx hxs htk hle hca
              go_wp2_with fail
              generalize wr.alloc (.cells #[.int .i64 x.kind, .string x.text, .int .u64 x.n, .int .i64 x.at_, .slice X x.list.length cx] 25) = wa at hbx HX hcy ⊢
              generalize wr.heap.size = gx at hbx ⊢
              refine (own_any n B wa x X cx (Nat.le_trans HP.out.1 (H0.out.2.trans (HCL.out.trans hcy)).size) HX.out.2.1).mono fun e w5 h => ?_
              obtain ⟨A5, c5x, rfl, hN5, hc5⟩ := h
              have hv5 := hN5.ndR
              replace hcy := hcy.trans hc5
              clear hN5
              go_wp2_with fail
              have hcall := nsize_any n _ w5 x A5 c5x (Nat.le_refl _) hv5 HX.out.2.2.2
              refine hcall.mono fun e w6 h => ?_
              obtain ⟨rfl, hc6⟩ := h
              clear hcall hv5
              replace hcy := hcy.trans hc6
              have hcz := hc5.trans hc6
              obtain ⟨y0, y1, y2, y3, y4⟩ := (hcz.blk hbx id).cells5
              have q4 : IntKind.i64.wrap (1 + (sizeL (t.list.take k) : Int) + (x.size : Int)) = 1 + (sizeL (t.list.take k) : Int) + (x.size : Int) := IntWalk.i64_in _ ⟨by omega, by have := HK.out; omega⟩
              clear hc5 hc6 z0 z1 z2 z3 z4 c0 c1 c2 c3 c4 hbx
              have hcase : (20 ≤ x.kind ∧ x.kind ≤ 29) ∨ (x.kind = 41) ∨ (x.kind = 42) ∨ (30 ≤ x.kind ∧ x.kind ≤ 40) ∨ (10 ≤ x.kind ∧ x.kind ≤ 13) ∨ (x.kind < 10) ∨ (14 ≤ x.kind ∧ x.kind ≤ 19) ∨ (43 ≤ x.kind) := by omega
              rcases hcase with hcase | hcase | hcase | hcase | hcase | hcase | hcase | hcase
              · have a0 : 20 ≤ x.kind := by omega
                have b0 : decide (20 ≤ x.kind) = true := decide_eq_true a0
                have a1 : x.kind ≤ 29 := by omega
                have b1 : decide (x.kind ≤ 29) = true := decide_eq_true a1
                have a2 : (x.kind == 41) = false := by simp; omega
                have a3 : (x.kind == 42) = false := by simp; omega
                have a4 : ¬ 30 ≤ x.kind := by omega
                have b4 : decide (30 ≤ x.kind) = false := decide_eq_false a4
                have a5 : x.kind ≤ 40 := by omega
                have b5 : decide (x.kind ≤ 40) = true := decide_eq_true a5
                have a6 : 10 ≤ x.kind := by omega
                have b6 : decide (10 ≤ x.kind) = true := decide_eq_true a6
                have a7 : ¬ x.kind ≤ 13 := by omega
                have b7 : decide (x.kind ≤ 13) = false := decide_eq_false a7
                have HS1 := Lib.hid (show (isStmtK x.kind && soundF x) = true by rw [HX.out.2.2.1, Bool.and_true]; unfold isStmtK; exact decide_eq_true (by omega))
                clear hcase
                go_wp2_with fail
                refine (own_any n B w6 x X cx (Nat.le_trans HP.out.1 (H0.out.2.trans (HCL.out.trans hcy)).size) (NdR.keep0 hcz HX.out.2.1)).mono fun e w7 h => ?_
                obtain ⟨A7, c7x, rfl, hN7, hc7⟩ := h
                have hv7 := hN7.ndR
                replace hcy := hcy.trans hc7
                clear hN7 hc7
                go_wp2_with fail
                have hcall := nSound_1 n _ w7 x A7 c7x (Nat.le_refl _) hv7 HX.out.2.2.2 (HP.out.2.2.1.keep0 (H0.out.2.trans (HCL.out.trans hcy))) (HP.out.2.2.2.1.keep0 (H0.out.2.trans (HCL.out.trans hcy)))
                rw [HS1.out] at hcall
                clear hv7
                refine hcall.mono fun e w8 h => ?_
                obtain ⟨rfl, hc8⟩ := h
                clear hcall
                replace hcy := hcy.trans hc8
                clear hc8
                rw [show checkE true = 0 from rfl]
                go_wp2_with fail
                go_roundw
                case rel => exact ⟨k + 1, hlt, by simp, by rw [HK.out.1]; simp; omega, hcy⟩
                case measure => simp [intOf]; omega
              · have a0 : 20 ≤ x.kind := by omega
                have b0 : decide (20 ≤ x.kind) = true := decide_eq_true a0
                have a1 : ¬ x.kind ≤ 29 := by omega
                have b1 : decide (x.kind ≤ 29) = false := decide_eq_false a1
                have a2 : (x.kind == 41) = true := by simp; omega
                have a3 : (x.kind == 42) = false := by simp; omega
                have a4 : 30 ≤ x.kind := by omega
                have b4 : decide (30 ≤ x.kind) = true := decide_eq_true a4
                have a5 : ¬ x.kind ≤ 40 := by omega
                have b5 : decide (x.kind ≤ 40) = false := decide_eq_false a5
                have a6 : 10 ≤ x.kind := by omega
                have b6 : decide (10 ≤ x.kind) = true := decide_eq_true a6
                have a7 : ¬ x.kind ≤ 13 := by omega
                have b7 : decide (x.kind ≤ 13) = false := decide_eq_false a7
                have HS1 := Lib.hid (show (isStmtK x.kind && soundF x) = true by rw [HX.out.2.2.1, Bool.and_true]; unfold isStmtK; exact decide_eq_true (by omega))
                clear hcase
                go_wp2_with fail
                refine (own_any n B w6 x X cx (Nat.le_trans HP.out.1 (H0.out.2.trans (HCL.out.trans hcy)).size) (NdR.keep0 hcz HX.out.2.1)).mono fun e w7 h => ?_
                obtain ⟨A7, c7x, rfl, hN7, hc7⟩ := h
                have hv7 := hN7.ndR
                replace hcy := hcy.trans hc7
                clear hN7 hc7
                go_wp2_with fail
                have hcall := nSound_1 n _ w7 x A7 c7x (Nat.le_refl _) hv7 HX.out.2.2.2 (HP.out.2.2.1.keep0 (H0.out.2.trans (HCL.out.trans hcy))) (HP.out.2.2.2.1.keep0 (H0.out.2.trans (HCL.out.trans hcy)))
                rw [HS1.out] at hcall
                clear hv7
                refine hcall.mono fun e w8 h => ?_
                obtain ⟨rfl, hc8⟩ := h
                clear hcall
                replace hcy := hcy.trans hc8
                clear hc8
                rw [show checkE true = 0 from rfl]
                go_wp2_with fail
                go_roundw
                case rel => exact ⟨k + 1, hlt, by simp, by rw [HK.out.1]; simp; omega, hcy⟩
                case measure => simp [intOf]; omega
              · have a0 : 20 ≤ x.kind := by omega
                have b0 : decide (20 ≤ x.kind) = true := decide_eq_true a0
                have a1 : ¬ x.kind ≤ 29 := by omega
                have b1 : decide (x.kind ≤ 29) = false := decide_eq_false a1
                have a2 : (x.kind == 41) = false := by simp; omega
                have a3 : (x.kind == 42) = true := by simp; omega
                have a4 : 30 ≤ x.kind := by omega
                have b4 : decide (30 ≤ x.kind) = true := decide_eq_true a4
                have a5 : ¬ x.kind ≤ 40 := by omega
                have b5 : decide (x.kind ≤ 40) = false := decide_eq_false a5
                have a6 : 10 ≤ x.kind := by omega
                have b6 : decide (10 ≤ x.kind) = true := decide_eq_true a6
                have a7 : ¬ x.kind ≤ 13 := by omega
                have b7 : decide (x.kind ≤ 13) = false := decide_eq_false a7
                have HS1 := Lib.hid (show (isStmtK x.kind && soundF x) = true by rw [HX.out.2.2.1, Bool.and_true]; unfold isStmtK; exact decide_eq_true (by omega))
                clear hcase
                go_wp2_with fail
                refine (own_any n B w6 x X cx (Nat.le_trans HP.out.1 (H0.out.2.trans (HCL.out.trans hcy)).size) (NdR.keep0 hcz HX.out.2.1)).mono fun e w7 h => ?_
                obtain ⟨A7, c7x, rfl, hN7, hc7⟩ := h
                have hv7 := hN7.ndR
                replace hcy := hcy.trans hc7
                clear hN7 hc7
                go_wp2_with fail
                have hcall := nSound_1 n _ w7 x A7 c7x (Nat.le_refl _) hv7 HX.out.2.2.2 (HP.out.2.2.1.keep0 (H0.out.2.trans (HCL.out.trans hcy))) (HP.out.2.2.2.1.keep0 (H0.out.2.trans (HCL.out.trans hcy)))
                rw [HS1.out] at hcall
                clear hv7
                refine hcall.mono fun e w8 h => ?_
                obtain ⟨rfl, hc8⟩ := h
                clear hcall
                replace hcy := hcy.trans hc8
                clear hc8
                rw [show checkE true = 0 from rfl]
                go_wp2_with fail
                go_roundw
                case rel => exact ⟨k + 1, hlt, by simp, by rw [HK.out.1]; simp; omega, hcy⟩
                case measure => simp [intOf]; omega
              · have a0 : 20 ≤ x.kind := by omega
                have b0 : decide (20 ≤ x.kind) = true := decide_eq_true a0
                have a1 : ¬ x.kind ≤ 29 := by omega
                have b1 : decide (x.kind ≤ 29) = false := decide_eq_false a1
                have a2 : (x.kind == 41) = false := by simp; omega
                have a3 : (x.kind == 42) = false := by simp; omega
                have a4 : 30 ≤ x.kind := by omega
                have b4 : decide (30 ≤ x.kind) = true := decide_eq_true a4
                have a5 : x.kind ≤ 40 := by omega
                have b5 : decide (x.kind ≤ 40) = true := decide_eq_true a5
                have a6 : 10 ≤ x.kind := by omega
                have b6 : decide (10 ≤ x.kind) = true := decide_eq_true a6
                have a7 : ¬ x.kind ≤ 13 := by omega
                have b7 : decide (x.kind ≤ 13) = false := decide_eq_false a7
                have HS2 := Lib.hid (show (isExprK x.kind && soundF x) = true by rw [HX.out.2.2.1, Bool.and_true]; unfold isExprK; exact decide_eq_true (by omega))
                clear hcase
                go_wp2_with fail
                refine (own_any n B w6 x X cx (Nat.le_trans HP.out.1 (H0.out.2.trans (HCL.out.trans hcy)).size) (NdR.keep0 hcz HX.out.2.1)).mono fun e w7 h => ?_
                obtain ⟨A7, c7x, rfl, hN7, hc7⟩ := h
                have hv7 := hN7.ndR
                replace hcy := hcy.trans hc7
                clear hN7 hc7
                go_wp2_with fail
                have hcall := nSound_2 n _ w7 x A7 c7x (Nat.le_refl _) hv7 HX.out.2.2.2 (HP.out.2.2.1.keep0 (H0.out.2.trans (HCL.out.trans hcy))) (HP.out.2.2.2.1.keep0 (H0.out.2.trans (HCL.out.trans hcy)))
                rw [HS2.out] at hcall
                clear hv7
                refine hcall.mono fun e w8 h => ?_
                obtain ⟨rfl, hc8⟩ := h
                clear hcall
                replace hcy := hcy.trans hc8
                clear hc8
                rw [show checkE true = 0 from rfl]
                go_wp2_with fail
                go_roundw
                case rel => exact ⟨k + 1, hlt, by simp, by rw [HK.out.1]; simp; omega, hcy⟩
                case measure => simp [intOf]; omega
              · have a0 : ¬ 20 ≤ x.kind := by omega
                have b0 : decide (20 ≤ x.kind) = false := decide_eq_false a0
                have a1 : x.kind ≤ 29 := by omega
                have b1 : decide (x.kind ≤ 29) = true := decide_eq_true a1
                have a2 : (x.kind == 41) = false := by simp; omega
                have a3 : (x.kind == 42) = false := by simp; omega
                have a4 : ¬ 30 ≤ x.kind := by omega
                have b4 : decide (30 ≤ x.kind) = false := decide_eq_false a4
                have a5 : x.kind ≤ 40 := by omega
                have b5 : decide (x.kind ≤ 40) = true := decide_eq_true a5
                have a6 : 10 ≤ x.kind := by omega
                have b6 : decide (10 ≤ x.kind) = true := decide_eq_true a6
                have a7 : x.kind ≤ 13 := by omega
                have b7 : decide (x.kind ≤ 13) = true := decide_eq_true a7
                have HS3 := Lib.hid (show (isTypeK x.kind && soundF x) = true by rw [HX.out.2.2.1, Bool.and_true]; unfold isTypeK; exact decide_eq_true (by omega))
                clear hcase
                go_wp2_with fail
                refine (own_any n B w6 x X cx (Nat.le_trans HP.out.1 (H0.out.2.trans (HCL.out.trans hcy)).size) (NdR.keep0 hcz HX.out.2.1)).mono fun e w7 h => ?_
                obtain ⟨A7, c7x, rfl, hN7, hc7⟩ := h
                have hv7 := hN7.ndR
                replace hcy := hcy.trans hc7
                clear hN7 hc7
                go_wp2_with fail
                have hcall := nSound_3 n _ w7 x A7 c7x (Nat.le_refl _) hv7 HX.out.2.2.2 (HP.out.2.2.1.keep0 (H0.out.2.trans (HCL.out.trans hcy))) (HP.out.2.2.2.1.keep0 (H0.out.2.trans (HCL.out.trans hcy)))
                rw [HS3.out] at hcall
                clear hv7
                refine hcall.mono fun e w8 h => ?_
                obtain ⟨rfl, hc8⟩ := h
                clear hcall
                replace hcy := hcy.trans hc8
                clear hc8
                rw [show checkE true = 0 from rfl]
                go_wp2_with fail
                go_roundw
                case rel => exact ⟨k + 1, hlt, by simp, by rw [HK.out.1]; simp; omega, hcy⟩
                case measure => simp [intOf]; omega
              · have a0 : ¬ 20 ≤ x.kind := by omega
                have b0 : decide (20 ≤ x.kind) = false := decide_eq_false a0
                have a1 : x.kind ≤ 29 := by omega
                have b1 : decide (x.kind ≤ 29) = true := decide_eq_true a1
                have a2 : (x.kind == 41) = false := by simp; omega
                have a3 : (x.kind == 42) = false := by simp; omega
                have a4 : ¬ 30 ≤ x.kind := by omega
                have b4 : decide (30 ≤ x.kind) = false := decide_eq_false a4
                have a5 : x.kind ≤ 40 := by omega
                have b5 : decide (x.kind ≤ 40) = true := decide_eq_true a5
                have a6 : ¬ 10 ≤ x.kind := by omega
                have b6 : decide (10 ≤ x.kind) = false := decide_eq_false a6
                have a7 : x.kind ≤ 13 := by omega
                have b7 : decide (x.kind ≤ 13) = true := decide_eq_true a7
                clear hcase
                go_wp2_with fail
                go_roundw
                case rel => exact ⟨k + 1, hlt, by simp, by rw [HK.out.1]; simp; omega, hcy⟩
                case measure => simp [intOf]; omega
              · have a0 : ¬ 20 ≤ x.kind := by omega
                have b0 : decide (20 ≤ x.kind) = false := decide_eq_false a0
                have a1 : x.kind ≤ 29 := by omega
                have b1 : decide (x.kind ≤ 29) = true := decide_eq_true a1
                have a2 : (x.kind == 41) = false := by simp; omega
                have a3 : (x.kind == 42) = false := by simp; omega
                have a4 : ¬ 30 ≤ x.kind := by omega
                have b4 : decide (30 ≤ x.kind) = false := decide_eq_false a4
                have a5 : x.kind ≤ 40 := by omega
                have b5 : decide (x.kind ≤ 40) = true := decide_eq_true a5
                have a6 : 10 ≤ x.kind := by omega
                have b6 : decide (10 ≤ x.kind) = true := decide_eq_true a6
                have a7 : ¬ x.kind ≤ 13 := by omega
                have b7 : decide (x.kind ≤ 13) = false := decide_eq_false a7
                clear hcase
                go_wp2_with fail
                go_roundw
                case rel => exact ⟨k + 1, hlt, by simp, by rw [HK.out.1]; simp; omega, hcy⟩
                case measure => simp [intOf]; omega
              · have a0 : 20 ≤ x.kind := by omega
                have b0 : decide (20 ≤ x.kind) = true := decide_eq_true a0
                have a1 : ¬ x.kind ≤ 29 := by omega
                have b1 : decide (x.kind ≤ 29) = false := decide_eq_false a1
                have a2 : (x.kind == 41) = false := by simp; omega
                have a3 : (x.kind == 42) = false := by simp; omega
                have a4 : 30 ≤ x.kind := by omega
                have b4 : decide (30 ≤ x.kind) = true := decide_eq_true a4
                have a5 : ¬ x.kind ≤ 40 := by omega
                have b5 : decide (x.kind ≤ 40) = false := decide_eq_false a5
                have a6 : 10 ≤ x.kind := by omega
                have b6 : decide (10 ≤ x.kind) = true := decide_eq_true a6
                have a7 : ¬ x.kind ≤ 13 := by omega
                have b7 : decide (x.kind ≤ 13) = false := decide_eq_false a7
                clear hcase
                go_wp2_with fail
                go_roundw
                case rel => exact ⟨k + 1, hlt, by simp, by rw [HK.out.1]; simp; omega, hcy⟩
                case measure => simp [intOf]; omega
            · have q1 : decide (k < t.list.length) = false := decide_eq_false hlt
              obtain rfl : k = t.list.length := by omega
              rw [List.take_length, ← size_eq]
              have hcw := HCL.out.trans hch
              clear hch
              go_wp2_with fail
              refine (own_any (n + 1) B wr t A c (Nat.le_trans HP.out.1 (H0.out.2.trans hcw).size) (NdR.keep0 (H0.out.2.trans hcw) HP.out.2.1)).mono fun e w5 h => ?_
              obtain ⟨A5, c5x, rfl, hN, hc5⟩ := h
              have hv5 := hN.ndR
              replace hcw := hcw.trans hc5
              clear hN hc5
              clear c0 c1 c2 c3 c4
              obtain ⟨c0, c1, c2, c3, c4⟩ := (hcw.blk H0.out.1 id).cells5
              have hcall := nsize_any (n + 1) _ w5 t A5 c5x (Nat.le_refl _) hv5 hS
              have HW := Lib.hid hcw
              clear hv5 hcw
              generalize t.size = sz at hcall ⊢
              go_wp2_with fail
              refine hcall.mono fun e w6 h => ?_
              obtain ⟨rfl, hc6⟩ := h
              clear hcall
              go_wp2_with fail
              go_ret
              exact ⟨by simp, (H0.out.2.trans HW.out).trans hc6⟩
        | false =>
          rw [hb6] at hcall
          rw [show checkE false = 1 from rfl] at hcall
          clear hb6
          refine hcall.mono fun e w7 h => ?_
          obtain ⟨rfl, hc7⟩ := h
          clear hcall
          have hcw := HW6.out.trans hc7
          clear hc7
          clear c0 c1 c2 c3 c4
          obtain ⟨c0, c1, c2, c3, c4⟩ := (hcw.blk H0.out.1 id).cells5
          go_wp2_with fail
          refine (answers4_any _).mono fun e w9 h => ?_
          obtain ⟨rfl, hc9⟩ := h
          go_wp2_with fail
          go_ret
          exact ⟨rfl, (H0.out.2.trans hcw).trans hc9⟩
end Go.Proofs.YtgaodjoddfjfmaaDoor
