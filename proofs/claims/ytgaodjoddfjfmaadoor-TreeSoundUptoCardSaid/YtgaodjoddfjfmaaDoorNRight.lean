/-
  The reference's Right and Sound.
-/
import Derived.Test.YtgaodjoddfjfmaaDoorNLabel
import Derived.Test.YtgaodjoddfjfmaaDoorNChild5
import Derived.Test.YtgaodjoddfjfmaaDoorNGood
namespace Go.Proofs.YtgaodjoddfjfmaaDoor
open Go.RowKit
set_option linter.unusedVariables false
set_option linter.unusedSimpArgs false

theorem label_num {t : Nd} (h : labelF t = true) : numF t.kind t.n = true := by unfold labelF at h; exact (Bool.and_eq_true_iff.1 h).2
theorem label_text {t : Nd} (h : labelF t = true) : textF t.kind t.text t.list.length = true := by unfold labelF at h; exact (Bool.and_eq_true_iff.1 h).1
def rtRel (m : Nat) (t : Nd) (W : World) (i : Value) (wr : World) : Prop := ∃ k : Nat, k ≤ t.list.length ∧ i = .int .i64 k ∧ (t.list.take k).all (rightF m) = true ∧ Chg (fun _ _ => False) W wr
def rrightC (n : Nat) : Prop := ∀ (B : Nat) (w : World) (t : Nd) (A : Option Addr) (c : Nat) (m : Nat) (d : Int), B ≤ w.heap.size → NdR n B w (ndCells t.kind t.text t.n t.at_ A t.list.length c) t → m ≤ 65 → d = (m : Int) - 1 →
    Calls Tryd.prog 29 #[.agg #[.int .i64 t.kind, .string t.text, .int .u64 t.n, .int .i64 t.at_, .slice A t.list.length c], .int .i64 d] w fun e w' => e = .returned (.bool (rightF m t)) ∧ Chg (fun _ _ => False) w w'
set_option maxRecDepth 100000 in
set_option maxHeartbeats 4000000 in
theorem rright_step (n : Nat) (IH : rrightC n) : rrightC (n + 1) := by
  intro B w t A c m d hB hT hm hd
  obtain ⟨hsm, hLl⟩ := NdR.open_ hT
  cases m with
  | zero =>
    have hc1 := chg_alloc w (.cells #[.int .i64 t.kind, .string t.text, .int .u64 t.n, .int .i64 t.at_, .slice A t.list.length c] 25)
    have q1 : decide (d < 0) = true := decide_eq_true (by omega)
    have q3 : d < 0 := by omega
    have HC := Lib.hid hc1
    clear hB hT hm hd hsm hLl hc1
    go_enter Tryd.func29, Tryd.ntmps29
    go_wp2_with fail
    go_ret
    exact ⟨rfl, HC.out⟩
  | succ m =>
    have hb1 := Blk.new w 25 #[.int .i64 t.kind, .string t.text, .int .u64 t.n, .int .i64 t.at_, .slice A t.list.length c]
    have hc1 := chg_alloc w (.cells #[.int .i64 t.kind, .string t.text, .int .u64 t.n, .int .i64 t.at_, .slice A t.list.length c] 25)
    have q1 : decide (d < 0) = false := decide_eq_false (by omega)
    have q3 : ¬ d < 0 := by omega
    have q3' : 0 ≤ d := by omega
    have qd : IntKind.i64.wrap (d - 1) = d - 1 := IntWalk.i64_in _ ⟨by omega, by omega⟩
    have hll : t.list.length ≤ 1048576 := hsm.2.2.2.2
    have HP := Lib.hid (And.intro hB (And.intro hLl (And.intro hd (And.intro hm IH))))
    clear hB hT hLl hd hm hsm IH
    go_enter Tryd.func29, Tryd.ntmps29
    go_wp2_with fail
    generalize w.alloc (.cells #[.int .i64 t.kind, .string t.text, .int .u64 t.n, .int .i64 t.at_, .slice A t.list.length c] 25) = W at hb1 hc1 ⊢
    generalize w.heap.size = g1 at hb1 ⊢
    obtain ⟨c0, c1, c2, c3, c4⟩ := hb1.cells5
    have HB0 := Lib.hid (And.intro hb1 hc1)
    have hcall := label_any W t.kind t.text t.n t.at_ A t.list.length c
    rw [show (textF t.kind t.text t.list.length && numF t.kind t.n) = labelF t from rfl] at hcall
    clear hb1 hc1
    cases hla : labelF t with
    | false =>
      rw [hla] at hcall
      have HX := Lib.hid hla
      clear hla
      refine hcall.mono fun e w1 h => ?_
      obtain ⟨rfl, hc1⟩ := h
      clear hcall
      have hb1 := hc1.blk HB0.out.1 id
      have hcw := HB0.out.2.trans hc1
      have HB1 := Lib.hid (And.intro hb1 hcw)
      clear c0 c1 c2 c3 c4
      obtain ⟨c0, c1, c2, c3, c4⟩ := hb1.cells5
      clear hb1 hcw hc1
      go_wp2_with fail
      go_ret
      exact ⟨by rw [show rightF (m + 1) t = ((labelF t && listF t.kind t.n t.list) && t.list.all (rightF m)) from rfl, HX.out, Bool.false_and, Bool.false_and]; rfl, HB1.out.2⟩
    | true =>
      rw [hla] at hcall
      have HX := Lib.hid hla
      clear hla
      refine hcall.mono fun e w1 h => ?_
      obtain ⟨rfl, hc1⟩ := h
      clear hcall
      have hb1 := hc1.blk HB0.out.1 id
      have hcw := HB0.out.2.trans hc1
      have HB1 := Lib.hid (And.intro hb1 hcw)
      clear c0 c1 c2 c3 c4
      obtain ⟨c0, c1, c2, c3, c4⟩ := hb1.cells5
      have hcall := child_any t.kind n B w1 t.text t.n t.at_ A c t.list (Nat.le_trans HP.out.1 hcw.size) (NdsR.keep0 hcw HP.out.2.1) hll (fun h => numF_13 (label_num HX.out) h) (fun h => textF_33 (label_text HX.out) h)
      clear hb1 hcw hc1
      go_wp2_with fail
      cases hli : listF t.kind t.n t.list with
      | false =>
        rw [hli] at hcall
        have HL := Lib.hid hli
        clear hli
        refine hcall.mono fun e w2 h => ?_
        obtain ⟨rfl, hc2⟩ := h
        clear hcall
        have hb1 := hc2.blk HB1.out.1 id
        have hcw := HB1.out.2.trans hc2
        have HB2 := Lib.hid (And.intro hb1 hcw)
        clear c0 c1 c2 c3 c4
        obtain ⟨c0, c1, c2, c3, c4⟩ := hb1.cells5
        clear hb1 hcw hc2
        go_wp2_with fail
        go_ret
        exact ⟨by rw [show rightF (m + 1) t = ((labelF t && listF t.kind t.n t.list) && t.list.all (rightF m)) from rfl, HL.out, Bool.and_false, Bool.false_and]; rfl, HB2.out.2⟩
      | true =>
        rw [hli] at hcall
        have HL := Lib.hid hli
        clear hli
        refine hcall.mono fun e w2 h => ?_
        obtain ⟨rfl, hc2⟩ := h
        clear hcall
        have hb1 := hc2.blk HB1.out.1 id
        have hcw := HB1.out.2.trans hc2
        have HB2 := Lib.hid (And.intro hb1 hcw)
        clear c0 c1 c2 c3 c4
        obtain ⟨c0, c1, c2, c3, c4⟩ := hb1.cells5
        clear hb1 hcw hc2
        go_wp2_with fail
        go_loopw [5] (fun i wr => rtRel m t w2 i wr) (fun i _ => t.list.length - (intOf i).toNat)
        case atStart => exact ⟨0, Nat.zero_le _, rfl, by simp, Chg.refl _ _⟩
        case round =>
          obtain ⟨k, hk, rfl, ha, hch⟩ := hrel
          clear c0 c1 c2 c3 c4
          obtain ⟨c0, c1, c2, c3, c4⟩ := (hch.blk HB2.out.1 id).cells5
          have hcw := HB2.out.2.trans hch
          have q5 : IntKind.i64.wrap ((k : Int) + 1) = (k : Int) + 1 := IntWalk.i64_in _ ⟨by omega, by omega⟩
          by_cases hlt : k < t.list.length
          · have r1 : decide (k < t.list.length) = true := decide_eq_true hlt
            have r2 : (k : Int) < (t.list.length : Int) := by omega
            obtain ⟨b, o, x, X, cx, rfl, hkx, hRx, z0, z1, z2, z3, z4⟩ := NdsR.at_ (NdsR.keep0 hcw HP.out.2.1) hlt
            have hcall := HP.out.2.2.2.2 B wr x X cx m (d - 1) (Nat.le_trans HP.out.1 hcw.size) hRx (by have := HP.out.2.2.2.1; omega) (by have := HP.out.2.2.1; omega)
            have HK := Lib.hid (And.intro ha (And.intro hkx hch))
            clear ha hkx hRx hch hcw
            cases hq : rightF m x with
            | true =>
              rw [hq] at hcall
              have HQ := Lib.hid hq
              clear hq
              go_wp2_with fail
              refine hcall.mono fun e w5 h => ?_
              obtain ⟨rfl, hc5⟩ := h
              clear hcall
              go_wp2_with fail
              go_roundw
              case rel => exact ⟨k + 1, hlt, by simp, all_succ HK.out.2.1 HQ.out HK.out.1, HK.out.2.2.trans hc5⟩
              case measure => simp [intOf]; omega
            | false =>
              rw [hq] at hcall
              have HQ := Lib.hid hq
              clear hq
              go_wp2_with fail
              refine hcall.mono fun e w5 h => ?_
              obtain ⟨rfl, hc5⟩ := h
              clear hcall
              go_wp2_with fail
              go_ret
              exact ⟨by rw [show rightF (m + 1) t = ((labelF t && listF t.kind t.n t.list) && t.list.all (rightF m)) from rfl, all_not HK.out.2.1 HQ.out, Bool.and_false]; rfl, (HB2.out.2.trans HK.out.2.2).trans hc5⟩
          · have r1 : decide (k < t.list.length) = false := decide_eq_false hlt
            obtain rfl : k = t.list.length := by omega
            rw [List.take_length] at ha
            have HK := Lib.hid (And.intro ha hcw)
            clear ha hch hcw
            go_wp2_with fail
            go_ret
            exact ⟨by rw [show rightF (m + 1) t = ((labelF t && listF t.kind t.n t.list) && t.list.all (rightF m)) from rfl, HX.out, HL.out, HK.out.1]; rfl, HK.out.2⟩
theorem rright_any : ∀ n, rrightC n
  | 0 => fun B w t A c m d hB hT => hT.elim
  | n + 1 => rright_step n (rright_any n)
def rsortB (v : Int) (k : Int) : Bool := if v = 112 then (k == 1) else (sortF k == v)
set_option maxRecDepth 100000 in
set_option maxHeartbeats 1000000 in
theorem rSound_p (n : Nat) (B : Nat) (w : World) (t : Nd) (A : Option Addr) (c : Nat) (hB : B ≤ w.heap.size) (hT : NdR n B w (ndCells t.kind t.text t.n t.at_ A t.list.length c) t) (hS : t.size ≤ 1048576) :
    Calls Tryd.prog 15 #[.agg #[.int .i64 t.kind, .string t.text, .int .u64 t.n, .int .i64 t.at_, .slice A t.list.length c], .int .u8 112] w fun e w' => e = .returned (.bool ((t.kind == 1) && soundF t)) ∧ Chg (fun _ _ => False) w w' := by
  have hb1 := Blk.new w 25 #[.int .i64 t.kind, .string t.text, .int .u64 t.n, .int .i64 t.at_, .slice A t.list.length c]
  have hc1 := chg_alloc w (.cells #[.int .i64 t.kind, .string t.text, .int .u64 t.n, .int .i64 t.at_, .slice A t.list.length c] 25)
  have HP := Lib.hid (And.intro hB hT)
  clear hB hT
  by_cases h1 : t.kind = 1
  · have k1 : (t.kind == 1) = true := by simp [h1]
    have HK := Lib.hid k1
    clear h1
    go_enter Tryd.func15, Tryd.ntmps15
    go_wp2_with fail
    generalize w.alloc (.cells #[.int .i64 t.kind, .string t.text, .int .u64 t.n, .int .i64 t.at_, .slice A t.list.length c] 25) = W at hb1 hc1 ⊢
    generalize w.heap.size = g1 at hb1 ⊢
    obtain ⟨c0, c1, c2, c3, c4⟩ := hb1.cells5
    have HB := Lib.hid (And.intro hb1 hc1)
    have hcall := rright_any n B _ t A c 65 64 (Nat.le_trans HP.out.1 hc1.size) (NdR.keep0 hc1 HP.out.2) (by omega) (by omega)
    clear hb1 hc1
    cases hr : rightF 65 t with
    | false =>
      rw [hr] at hcall
      have HR := Lib.hid hr
      clear hr
      refine hcall.mono fun e w1 h => ?_
      obtain ⟨rfl, hc2⟩ := h
      clear hcall
      go_wp2_with fail
      go_ret
      exact ⟨by unfold soundF; rw [HK.out, HR.out]; rfl, HB.out.2.trans hc2⟩
    | true =>
      rw [hr] at hcall
      have HR := Lib.hid hr
      clear hr
      refine hcall.mono fun e w1 h => ?_
      obtain ⟨rfl, hc2⟩ := h
      clear hcall c0 c1 c2 c3 c4
      obtain ⟨c0, c1, c2, c3, c4⟩ := (hc2.blk HB.out.1 id).cells5
      have hcw := HB.out.2.trans hc2
      have hcall := rnsize_any n B w1 t A c (Nat.le_trans HP.out.1 hcw.size) (NdR.keep0 hcw HP.out.2) hS
      have HW := Lib.hid hcw
      clear hcw hc2
      have HF := Lib.hid (show soundF t = decide (t.size ≤ 16384) by unfold soundF; rw [HR.out, Bool.true_and])
      generalize t.size = sz at hcall hS HF
      go_wp2_with fail
      refine hcall.mono fun e w2 h => ?_
      obtain ⟨rfl, hc3⟩ := h
      clear hcall
      by_cases hz : sz ≤ 16384
      · have q1 : decide (sz ≤ 16384) = true := decide_eq_true hz
        have q2 : decide ((sz : Int) ≤ 16384) = true := decide_eq_true (by omega)
        rw [q1] at HF
        clear hz
        go_wp2_with fail
        go_ret
        exact ⟨by rw [HK.out, HF.out]; rfl, HW.out.trans hc3⟩
      · have q1 : decide (sz ≤ 16384) = false := decide_eq_false hz
        have q2 : decide ((sz : Int) ≤ 16384) = false := decide_eq_false (by omega)
        rw [q1] at HF
        clear hz
        go_wp2_with fail
        go_ret
        exact ⟨by rw [HK.out, HF.out]; rfl, HW.out.trans hc3⟩
  · have k1 : (t.kind == 1) = false := by simp [h1]
    have HK := Lib.hid k1
    have HC := Lib.hid hc1
    clear h1 hb1 hc1
    go_enter Tryd.func15, Tryd.ntmps15
    go_wp2_with fail
    go_ret
    exact ⟨by rw [HK.out]; rfl, HC.out⟩
set_option maxRecDepth 100000 in
set_option maxHeartbeats 1000000 in
theorem rSound_v (n : Nat) (B : Nat) (w : World) (t : Nd) (A : Option Addr) (c : Nat) (v : Int) (hv : ¬ v = 112) (hB : B ≤ w.heap.size) (hT : NdR n B w (ndCells t.kind t.text t.n t.at_ A t.list.length c) t) (hS : t.size ≤ 1048576) :
    Calls Tryd.prog 15 #[.agg #[.int .i64 t.kind, .string t.text, .int .u64 t.n, .int .i64 t.at_, .slice A t.list.length c], .int .u8 v] w fun e w' => e = .returned (.bool ((sortF t.kind == v) && soundF t)) ∧ Chg (fun _ _ => False) w w' := by
  have hb1 := Blk.new w 25 #[.int .i64 t.kind, .string t.text, .int .u64 t.n, .int .i64 t.at_, .slice A t.list.length c]
  have hc1 := chg_alloc w (.cells #[.int .i64 t.kind, .string t.text, .int .u64 t.n, .int .i64 t.at_, .slice A t.list.length c] 25)
  have HP := Lib.hid (And.intro hB hT)
  have v1 : (v == 112) = false := by simp [hv]
  clear hB hT hv
  go_enter Tryd.func15, Tryd.ntmps15
  go_wp2_with fail
  generalize w.alloc (.cells #[.int .i64 t.kind, .string t.text, .int .u64 t.n, .int .i64 t.at_, .slice A t.list.length c] 25) = W at hb1 hc1 ⊢
  generalize w.heap.size = g1 at hb1 ⊢
  obtain ⟨c0, c1, c2, c3, c4⟩ := hb1.cells5
  have HB := Lib.hid (And.intro hb1 hc1)
  refine (sort_any W t.kind).mono fun e w1 h => ?_
  obtain ⟨rfl, hw1⟩ := h
  subst hw1
  cases hk : (sortF t.kind == v) with
  | true =>
    have HK := Lib.hid hk
    have hcall := rright_any n B _ t A c 65 64 (Nat.le_trans HP.out.1 hc1.size) (NdR.keep0 hc1 HP.out.2) (by omega) (by omega)
    clear hb1 hc1
    go_wp2_with fail
    cases hr : rightF 65 t with
    | false =>
      rw [hr] at hcall
      have HR := Lib.hid hr
      clear hr
      refine hcall.mono fun e w1 h => ?_
      obtain ⟨rfl, hc2⟩ := h
      clear hcall
      go_wp2_with fail
      go_ret
      exact ⟨by unfold soundF; rw [HK.out, HR.out]; rfl, HB.out.2.trans hc2⟩
    | true =>
      rw [hr] at hcall
      have HR := Lib.hid hr
      clear hr
      refine hcall.mono fun e w1 h => ?_
      obtain ⟨rfl, hc2⟩ := h
      clear hcall c0 c1 c2 c3 c4
      obtain ⟨c0, c1, c2, c3, c4⟩ := (hc2.blk HB.out.1 id).cells5
      have hcw := HB.out.2.trans hc2
      have hcall := rnsize_any n B w1 t A c (Nat.le_trans HP.out.1 hcw.size) (NdR.keep0 hcw HP.out.2) hS
      have HW := Lib.hid hcw
      clear hcw hc2
      have HF := Lib.hid (show soundF t = decide (t.size ≤ 16384) by unfold soundF; rw [HR.out, Bool.true_and])
      generalize t.size = sz at hcall hS HF
      go_wp2_with fail
      refine hcall.mono fun e w2 h => ?_
      obtain ⟨rfl, hc3⟩ := h
      clear hcall
      by_cases hz : sz ≤ 16384
      · have q1 : decide (sz ≤ 16384) = true := decide_eq_true hz
        have q2 : decide ((sz : Int) ≤ 16384) = true := decide_eq_true (by omega)
        rw [q1] at HF
        clear hz
        go_wp2_with fail
        go_ret
        exact ⟨by rw [HK.out, HF.out]; rfl, HW.out.trans hc3⟩
      · have q1 : decide (sz ≤ 16384) = false := decide_eq_false hz
        have q2 : decide ((sz : Int) ≤ 16384) = false := decide_eq_false (by omega)
        rw [q1] at HF
        clear hz
        go_wp2_with fail
        go_ret
        exact ⟨by rw [HK.out, HF.out]; rfl, HW.out.trans hc3⟩
  | false =>
    have HK := Lib.hid hk
    clear hb1 hc1
    go_wp2_with fail
    go_ret
    exact ⟨by rw [HK.out]; rfl, HB.out.2⟩
theorem rSound_any (n : Nat) (B : Nat) (w : World) (t : Nd) (A : Option Addr) (c : Nat) (v : Int) (hB : B ≤ w.heap.size) (hT : NdR n B w (ndCells t.kind t.text t.n t.at_ A t.list.length c) t) (hS : t.size ≤ 1048576) :
    Calls Tryd.prog 15 #[.agg #[.int .i64 t.kind, .string t.text, .int .u64 t.n, .int .i64 t.at_, .slice A t.list.length c], .int .u8 v] w fun e w' => e = .returned (.bool (rsortB v t.kind && soundF t)) ∧ Chg (fun _ _ => False) w w' := by
  by_cases hv : v = 112
  · subst hv; exact rSound_p n B w t A c hB hT hS
  · rw [show rsortB v t.kind = (sortF t.kind == v) from if_neg hv]; exact rSound_v n B w t A c v hv hB hT hS
end Go.Proofs.YtgaodjoddfjfmaaDoor
