/-
  types.Subst$1, slices.IndexFunc and ContainsFunc at []Type: is one of many types unsound?
-/
import Derived.Test.YtgemacdnncjmdaaDoorTFill4
import Derived.Test.YtgemacdnncjmdaaDoorTMeas
namespace Go.Proofs.YtgemacdnncjmdaaDoor
open Go.RowKit
set_option linter.unusedVariables false
set_option linter.unusedSimpArgs false

set_option maxRecDepth 100000 in
set_option maxHeartbeats 1000000 in
theorem subst1_any (n B : Nat) (w : World) (x : Ty) (Xf : Option Addr) (xf : Nat) (Xl : Option Addr) (xl : Nat) (Xr : Option Addr) (xr : Nat) (hB : B ≤ w.heap.size) (hTab : Tabs w) (hT : TyR n B w (tyCells x.kind x.name x.con Xf x.fields.length xf Xl x.list.length xl Xr x.res.length xr) x) :
    Calls Tryd.prog 36 #[.agg #[.int .i64 x.kind, .string x.name, .int .i64 x.con, .slice Xf x.fields.length xf, .slice Xl x.list.length xl, .slice Xr x.res.length xr]] w fun e w' => e = .returned (.bool (!soundT x)) ∧ Chg (fun _ _ => False) w w' := by
  have hc1 := chg_alloc w (.cells #[.int .i64 x.kind, .string x.name, .int .i64 x.con, .slice Xf x.fields.length xf, .slice Xl x.list.length xl, .slice Xr x.res.length xr] 33)
  have hcall := sound_any n B _ x Xf xf Xl xl Xr xr (Nat.le_trans hB hc1.size) (hTab.keep0 hc1) (TyR.keep0 hc1 hT)
  clear hT hTab
  go_enter Tryd.func36, Tryd.ntmps36
  go_wp2_with fail
  refine hcall.mono fun e w2 h => ?_
  obtain ⟨rfl, hc2⟩ := h
  have HC := Lib.hid (hc1.trans hc2)
  clear hcall hc1 hc2
  go_wp2_with fail
  go_ret
  exact ⟨rfl, HC.out⟩
def idxTRel (l : List Ty) (W : World) (i : Value) (wr : World) : Prop := ∃ k : Nat, k ≤ l.length ∧ i = .int .i64 k ∧ (l.take k).all soundT = true ∧ Chg (fun _ _ => False) W wr
set_option maxRecDepth 100000 in
set_option maxHeartbeats 2000000 in
theorem idxT_of (n B : Nat) (w : World) (l : List Ty) (A : Option Addr) (c : Nat) (hB : B ≤ w.heap.size) (hTab : Tabs w) (hl : TysR n B w (.slice A l.length c) l) (hl20 : l.length ≤ 1048576) :
    Calls Tryd.prog 55 #[.slice A l.length c, .func (.func 36) #[] #[]] w fun e w' => ∃ r : Int, e = .returned (.int .i64 r) ∧ decide (0 ≤ r) = (!l.all soundT) ∧ Chg (fun _ _ => False) w w' := by
  have H0 := Lib.hid (And.intro hB (And.intro hl hTab))
  clear hB hl hTab
  go_enter Tryd.func55, Tryd.ntmps55
  go_wp2_with fail
  go_loopw [5, 8] (fun _ i wr => idxTRel l w i wr) (fun _ i _ => l.length - (intOf i).toNat)
  case atStart => exact ⟨0, Nat.zero_le _, rfl, by simp, Chg.refl _ _⟩
  case round =>
    obtain ⟨k, hk, rfl, hs, hch⟩ := hrel
    have q3 : IntKind.i64.wrap ((k : Int) + 1) = (k : Int) + 1 := IntWalk.i64_in _ ⟨by omega, by omega⟩
    by_cases hlt : k < l.length
    · have q1 : decide (k < l.length) = true := decide_eq_true hlt
      have q2 : (k : Int) < (l.length : Int) := by omega
      obtain ⟨bb, oo, x, Xf, xf, Xl, xl, Xr, xr, rfl, hkx, hRx, z0, z1, z2, z3, z4, z5⟩ := TysR.at_ (TysR.keep0 hch H0.out.2.1) hlt
      have hcall := subst1_any n B wr x Xf xf Xl xl Xr xr (Nat.le_trans H0.out.1 hch.size) (H0.out.2.2.keep0 hch) hRx
      have HK := Lib.hid (And.intro hs (And.intro hch hkx))
      clear hs hch hkx hRx
      cases he : soundT x with
      | true =>
        rw [he] at hcall
        have HE := Lib.hid he
        clear he
        go_wp2_with fail
        refine hcall.mono fun e w5 h => ?_
        obtain ⟨rfl, hc5⟩ := h
        clear hcall
        go_wp2_with fail
        go_roundw
        case rel =>
          obtain ⟨h1, h2⟩ := List.getElem?_eq_some_iff.1 HK.out.2.2
          refine ⟨k + 1, hlt, by simp, ?_, HK.out.2.1.trans hc5⟩
          rw [List.take_succ_eq_append_getElem h1, h2, List.all_append, HK.out.1]
          simp [HE.out]
        case measure => simp [intOf]; omega
      | false =>
        rw [he] at hcall
        have HE := Lib.hid he
        clear he
        go_wp2_with fail
        refine hcall.mono fun e w5 h => ?_
        obtain ⟨rfl, hc5⟩ := h
        clear hcall
        go_wp2_with fail
        go_ret
        refine ⟨k, rfl, ?_, HK.out.2.1.trans hc5⟩
        have hal : l.all soundT = false := by
          rw [← Bool.not_eq_true, List.all_eq_true]
          intro ha
          have := ha _ (List.mem_of_getElem? HK.out.2.2)
          rw [HE.out] at this
          cases this
        rw [hal, decide_eq_true (by omega)]
        rfl
    · have q1 : decide (k < l.length) = false := decide_eq_false hlt
      obtain rfl : k = l.length := by omega
      rw [List.take_length] at hs
      have HK := Lib.hid (And.intro hs hch)
      clear hs hch
      go_wp2_with fail
      go_ret
      refine ⟨-1, rfl, ?_, HK.out.2⟩
      rw [HK.out.1]
      rfl
set_option maxRecDepth 100000 in
set_option maxHeartbeats 1000000 in
theorem contT_of (n B : Nat) (w : World) (l : List Ty) (A : Option Addr) (c : Nat) (hB : B ≤ w.heap.size) (hTab : Tabs w) (hl : TysR n B w (.slice A l.length c) l) (hl20 : l.length ≤ 1048576) :
    Calls Tryd.prog 35 #[.slice A l.length c, .func (.func 36) #[] #[]] w fun e w' => e = .returned (.bool (!l.all soundT)) ∧ Chg (fun _ _ => False) w w' := by
  have hcall := idxT_of n B w l A c hB hTab hl hl20
  clear hl hTab
  go_enter Tryd.func35, Tryd.ntmps35
  go_wp2_with fail
  refine hcall.mono fun e w5 h => ?_
  obtain ⟨r, rfl, hr, hc5⟩ := h
  have HR := Lib.hid hr
  clear hcall hr
  go_wp2_with fail
  go_ret
  refine ⟨?_, hc5⟩
  rw [← HR.out]
  rfl
end Go.Proofs.YtgemacdnncjmdaaDoor
