/-
  ref02.Equals: may values of a sound type be compared?
-/
import Derived.Test.YtgemacdnncjmdaaDoorTCmp
namespace Go.Proofs.YtgemacdnncjmdaaDoor
open Go.RowKit
set_option linter.unusedVariables false
set_option linter.unusedSimpArgs false

theorem shape_fields {t : Ty} (hs : shapeT t = true) (h8 : ¬ t.kind = 8) : t.fields = [] := by
  unfold shapeT at hs
  rw [if_neg h8] at hs
  split at hs
  · simp only [Bool.and_eq_true, bare_iff, decide_eq_true_eq] at hs
    exact List.eq_nil_of_length_eq_zero (hs.1.2.2.1 trivial)
  · split at hs
    · simp only [Bool.and_eq_true, bare_iff, decide_eq_true_eq] at hs
      exact List.eq_nil_of_length_eq_zero (hs.1.1.2.2.1 trivial)
    · split at hs
      · simp only [Bool.and_eq_true, bare_iff, decide_eq_true_eq] at hs
        exact List.eq_nil_of_length_eq_zero (hs.1.1.2.2.1 trivial)
      · simp only [Bool.and_eq_true, bare_iff, decide_eq_true_eq] at hs
        exact List.eq_nil_of_length_eq_zero (hs.2.2.2.1 trivial)
def EqlC (f : Nat) : Prop := ∀ (n B : Nat) (w : World) (t : Ty) (Af : Option Addr) (cf : Nat) (Al : Option Addr) (cl : Nat) (Ar : Option Addr) (cr : Nat), B ≤ w.heap.size → TyR n B w (tyCells t.kind t.name t.con Af t.fields.length cf Al t.list.length cl Ar t.res.length cr) t → (lookT f t).isSome = true →
    Calls Tryd.prog 51 #[.agg #[.int .i64 t.kind, .string t.name, .int .i64 t.con, .slice Af t.fields.length cf, .slice Al t.list.length cl, .slice Ar t.res.length cr]] w fun e w' => e = .returned (.bool (cmpF f t)) ∧ Chg (fun _ _ => False) w w'
set_option maxRecDepth 100000 in
set_option maxHeartbeats 2000000 in
theorem eql_step (f : Nat) (IH : EqlC f) : EqlC (f + 1) := by
  intro n B w t Af cf Al cl Ar cr hB hA hok
  cases n with
  | zero => exact hA.elim
  | succ n =>
  obtain ⟨hsm, hF, hL, hR⟩ := TyR.open_ hA
  obtain ⟨hs, hin⟩ := lookT_open hok
  have hb1 := Blk.new w 33 #[.int .i64 t.kind, .string t.name, .int .i64 t.con, .slice Af t.fields.length cf, .slice Al t.list.length cl, .slice Ar t.res.length cr]
  have hc1 := chg_alloc w (.cells #[.int .i64 t.kind, .string t.name, .int .i64 t.con, .slice Af t.fields.length cf, .slice Al t.list.length cl, .slice Ar t.res.length cr] 33)
  by_cases h9 : t.kind = 9
  · have q9 : (t.kind == 9) = true := by simp [h9]
    have HE := Lib.hid (show cmpF (f + 1) t = false by rw [cmpF_succ]; rw [if_pos (.inl h9)])
    clear h9 hA hF hL hR hin hok hs hsm
    go_enter Tryd.func51, Tryd.ntmps51
    go_wp2_with fail
    go_ret
    rw [HE.out]
    exact ⟨rfl, hc1⟩
  · have q9 : (t.kind == 9) = false := by simp [h9]
    by_cases h11 : t.kind = 11
    · have q11 : (t.kind == 11) = true := by simp [h11]
      have HE := Lib.hid (show cmpF (f + 1) t = false by rw [cmpF_succ]; rw [if_pos (.inr h11)])
      clear h9 h11 hA hF hL hR hin hok hs hsm
      go_enter Tryd.func51, Tryd.ntmps51
      go_wp2_with fail
      go_ret
      rw [HE.out]
      exact ⟨rfl, hc1⟩
    · have q11 : (t.kind == 11) = false := by simp [h11]
      by_cases h12 : t.kind = 12
      · have q12 : (t.kind == 12) = true := by simp [h12]
        by_cases hc : t.con = 1
        · have qc : (t.con == 1) = true := by simp [hc]
          have HE := Lib.hid (show cmpF (f + 1) t = false by rw [cmpF_succ]; rw [if_neg (by omega), if_pos h12]; simp [hc])
          clear h9 h11 h12 hc hA hF hL hR hin hok hs hsm
          go_enter Tryd.func51, Tryd.ntmps51
          go_wp2_with fail
          go_ret
          rw [HE.out]
          exact ⟨rfl, hc1⟩
        · have qc : (t.con == 1) = false := by simp [hc]
          have hall : cmpF (f + 1) t = t.fields.all (fun p => cmpF f p.2) := by
            rw [cmpF_succ, if_neg (by omega)]
            by_cases h8 : t.kind = 8
            · rw [if_neg (by omega), if_pos h8]
            · rw [shape_fields hs h8]
              rw [if_pos h12]; simp [hc]
          clear h9 h11 h12 hc
          have HP := Lib.hid (And.intro hB (And.intro hF (And.intro hin (And.intro hall hb1))))
          have HC := Lib.hid (And.intro hc1 hB)
          have hfl := hsm.2.2.2.1
          clear hA hF hL hR hin hok hs hsm hall hB hb1 hc1
          go_enter Tryd.func51, Tryd.ntmps51
          go_wp2_with fail
          generalize w.alloc (.cells #[.int .i64 t.kind, .string t.name, .int .i64 t.con, .slice Af t.fields.length cf, .slice Al t.list.length cl, .slice Ar t.res.length cr] 33) = W at HP HC ⊢
          generalize w.heap.size = g1 at HP ⊢
          go_loopw [3] (fun i wr => idxRel f t.fields W i wr) (fun i _ => t.fields.length - (intOf i).toNat)
          case atStart => exact ⟨0, Nat.zero_le _, rfl, by simp, Chg.refl _ _⟩
          case round =>
            obtain ⟨k, hk, rfl, hs, hch⟩ := hrel
            have q3 : IntKind.i64.wrap ((k : Int) + 1) = (k : Int) + 1 := IntWalk.i64_in _ ⟨by omega, by omega⟩
            obtain ⟨x0, x1, x2, x3, x4, x5⟩ := (hch.blk HP.out.2.2.2.2 id).cells6
            have hcw := HC.out.1.trans hch
            by_cases hlt : k < t.fields.length
            · have q1 : decide (k < t.fields.length) = true := decide_eq_true hlt
              have q2 : (k : Int) < (t.fields.length : Int) := by omega
              obtain ⟨bb, oo, nm, x, Xf, xf, Xl, xl, Xr, xr, rfl, hbB, hkx, hnms, hRx, z0, z1, z2, z3, z4, z5, z6⟩ := fld_at (SlR.keep HP.out.2.1 hcw (no_lets _ _) fun _ _ h => h.imp fun _ _ h => TyR.keep0 hcw h) hlt
              have hcall := IH n B wr x Xf xf Xl xl Xr xr (Nat.le_trans HC.out.2 hcw.size) hRx (HP.out.2.2.1 _ (mem_fields (List.mem_of_getElem? hkx)))
              have HK := Lib.hid (And.intro hs (And.intro hch (And.intro hkx hcw)))
              clear hs hch hkx hRx hcw hbB hnms
              cases he : cmpF f x with
              | true =>
                rw [he] at hcall
                have HE := Lib.hid he
                clear he
                go_wp2_with fail
                refine hcall.mono fun e w5 h => ?_
                obtain ⟨rfl, hc5⟩ := h
                clear hcall
                go_wp2_with fail
                go_roundw
                case rel =>
                  obtain ⟨h1, h2⟩ := List.getElem?_eq_some_iff.1 HK.out.2.2.1
                  refine ⟨k + 1, hlt, by simp, ?_, HK.out.2.1.trans hc5⟩
                  rw [List.take_succ_eq_append_getElem h1, h2, List.all_append, HK.out.1]
                  simp [HE.out]
                case measure => simp [intOf]; omega
              | false =>
                rw [he] at hcall
                have HE := Lib.hid he
                clear he
                go_wp2_with fail
                refine hcall.mono fun e w5 h => ?_
                obtain ⟨rfl, hc5⟩ := h
                clear hcall
                go_wp2_with fail
                go_ret
                rw [HP.out.2.2.2.1]
                have hbad : t.fields.all (fun p => cmpF f p.2) = false := by
                  rw [List.all_eq_false]
                  exact ⟨_, List.mem_of_getElem? HK.out.2.2.1, by rw [HE.out]; decide⟩
                rw [hbad]
                exact ⟨rfl, HK.out.2.2.2.trans hc5⟩
            · have q1 : decide (k < t.fields.length) = false := decide_eq_false hlt
              obtain rfl : k = t.fields.length := by omega
              rw [List.take_length] at hs
              have HK := Lib.hid (And.intro hs hcw)
              clear hs hcw hch
              go_wp2_with fail
              go_ret
              rw [HP.out.2.2.2.1, HK.out.1]
              exact ⟨rfl, HK.out.2⟩
      · have q12 : (t.kind == 12) = false := by simp [h12]
        have hall : cmpF (f + 1) t = t.fields.all (fun p => cmpF f p.2) := by
          rw [cmpF_succ, if_neg (by omega)]
          by_cases h8 : t.kind = 8
          · rw [if_neg (by omega), if_pos h8]
          · rw [shape_fields hs h8]
            rw [if_neg h12, if_neg h8]; rfl
        clear h9 h11 h12
        have HP := Lib.hid (And.intro hB (And.intro hF (And.intro hin (And.intro hall hb1))))
        have HC := Lib.hid (And.intro hc1 hB)
        have hfl := hsm.2.2.2.1
        clear hA hF hL hR hin hok hs hsm hall hB hb1 hc1
        go_enter Tryd.func51, Tryd.ntmps51
        go_wp2_with fail
        generalize w.alloc (.cells #[.int .i64 t.kind, .string t.name, .int .i64 t.con, .slice Af t.fields.length cf, .slice Al t.list.length cl, .slice Ar t.res.length cr] 33) = W at HP HC ⊢
        generalize w.heap.size = g1 at HP ⊢
        go_loopw [3] (fun i wr => idxRel f t.fields W i wr) (fun i _ => t.fields.length - (intOf i).toNat)
        case atStart => exact ⟨0, Nat.zero_le _, rfl, by simp, Chg.refl _ _⟩
        case round =>
          obtain ⟨k, hk, rfl, hs, hch⟩ := hrel
          have q3 : IntKind.i64.wrap ((k : Int) + 1) = (k : Int) + 1 := IntWalk.i64_in _ ⟨by omega, by omega⟩
          obtain ⟨x0, x1, x2, x3, x4, x5⟩ := (hch.blk HP.out.2.2.2.2 id).cells6
          have hcw := HC.out.1.trans hch
          by_cases hlt : k < t.fields.length
          · have q1 : decide (k < t.fields.length) = true := decide_eq_true hlt
            have q2 : (k : Int) < (t.fields.length : Int) := by omega
            obtain ⟨bb, oo, nm, x, Xf, xf, Xl, xl, Xr, xr, rfl, hbB, hkx, hnms, hRx, z0, z1, z2, z3, z4, z5, z6⟩ := fld_at (SlR.keep HP.out.2.1 hcw (no_lets _ _) fun _ _ h => h.imp fun _ _ h => TyR.keep0 hcw h) hlt
            have hcall := IH n B wr x Xf xf Xl xl Xr xr (Nat.le_trans HC.out.2 hcw.size) hRx (HP.out.2.2.1 _ (mem_fields (List.mem_of_getElem? hkx)))
            have HK := Lib.hid (And.intro hs (And.intro hch (And.intro hkx hcw)))
            clear hs hch hkx hRx hcw hbB hnms
            cases he : cmpF f x with
            | true =>
              rw [he] at hcall
              have HE := Lib.hid he
              clear he
              go_wp2_with fail
              refine hcall.mono fun e w5 h => ?_
              obtain ⟨rfl, hc5⟩ := h
              clear hcall
              go_wp2_with fail
              go_roundw
              case rel =>
                obtain ⟨h1, h2⟩ := List.getElem?_eq_some_iff.1 HK.out.2.2.1
                refine ⟨k + 1, hlt, by simp, ?_, HK.out.2.1.trans hc5⟩
                rw [List.take_succ_eq_append_getElem h1, h2, List.all_append, HK.out.1]
                simp [HE.out]
              case measure => simp [intOf]; omega
            | false =>
              rw [he] at hcall
              have HE := Lib.hid he
              clear he
              go_wp2_with fail
              refine hcall.mono fun e w5 h => ?_
              obtain ⟨rfl, hc5⟩ := h
              clear hcall
              go_wp2_with fail
              go_ret
              rw [HP.out.2.2.2.1]
              have hbad : t.fields.all (fun p => cmpF f p.2) = false := by
                rw [List.all_eq_false]
                exact ⟨_, List.mem_of_getElem? HK.out.2.2.1, by rw [HE.out]; decide⟩
              rw [hbad]
              exact ⟨rfl, HK.out.2.2.2.trans hc5⟩
          · have q1 : decide (k < t.fields.length) = false := decide_eq_false hlt
            obtain rfl : k = t.fields.length := by omega
            rw [List.take_length] at hs
            have HK := Lib.hid (And.intro hs hcw)
            clear hs hcw hch
            go_wp2_with fail
            go_ret
            rw [HP.out.2.2.2.1, HK.out.1]
            exact ⟨rfl, HK.out.2⟩
theorem eql_any : ∀ f, EqlC f
  | 0 => fun n B w t Af cf Al cl Ar cr hB hA hok => by cases hok
  | f + 1 => eql_step f (eql_any f)
def wholeK (k : Int) : Bool := decide (2 ≤ k) && decide (k ≤ 7)
def wholeT (t : Ty) : Bool := wholeK t.kind || (decide (t.kind = 12) && decide (t.con = 3))
/-- Does a sound type fit a constraint? -/
def meetsT (t : Ty) (con : Int) : Bool := if con = 1 then true else if con = 2 then cmpF 9 t else wholeT t
set_option maxRecDepth 100000 in
theorem rwhole_any (w : World) (k : Int) : Calls Tryd.prog 52 #[.int .i64 k] w fun e w' => e = .returned (.bool (wholeK k)) ∧ Chg (fun _ _ => False) w w' := by
  by_cases h2 : 2 ≤ k
  · have q2 : decide (k ≥ 2) = true := decide_eq_true h2
    have q2' : decide (2 ≤ k) = true := decide_eq_true h2
    by_cases h7 : k ≤ 7
    · have q7 : decide (k ≤ 7) = true := decide_eq_true h7
      have HW := Lib.hid (show wholeK k = true by unfold wholeK; rw [q2', q7]; rfl)
      clear h2 h7
      go_enter Tryd.func52, Tryd.ntmps52
      go_wp2_with fail
      go_ret
      rw [HW.out]
      exact ⟨rfl, Chg.refl _ _⟩
    · have q7 : decide (k ≤ 7) = false := decide_eq_false h7
      have HW := Lib.hid (show wholeK k = false by unfold wholeK; rw [q7]; simp)
      clear h2 h7
      go_enter Tryd.func52, Tryd.ntmps52
      go_wp2_with fail
      go_ret
      rw [HW.out]
      exact ⟨rfl, Chg.refl _ _⟩
  · have q2 : decide (k ≥ 2) = false := decide_eq_false h2
    have q2' : decide (2 ≤ k) = false := decide_eq_false h2
    have HW := Lib.hid (show wholeK k = false by unfold wholeK; rw [q2']; rfl)
    clear h2
    go_enter Tryd.func52, Tryd.ntmps52
    go_wp2_with fail
    go_ret
    rw [HW.out]
    exact ⟨rfl, Chg.refl _ _⟩
set_option maxRecDepth 100000 in
theorem wwhole_any (w : World) (k : Int) : Calls Tryd.prog 77 #[.int .i64 k] w fun e w' => e = .returned (.bool (wholeK k)) ∧ Chg (fun _ _ => False) w w' := by
  by_cases h2 : 2 ≤ k
  · have q2 : decide (k ≥ 2) = true := decide_eq_true h2
    have q2' : decide (2 ≤ k) = true := decide_eq_true h2
    by_cases h7 : k ≤ 7
    · have q7 : decide (k ≤ 7) = true := decide_eq_true h7
      have HW := Lib.hid (show wholeK k = true by unfold wholeK; rw [q2', q7]; rfl)
      clear h2 h7
      go_enter Tryd.func77, Tryd.ntmps77
      go_wp2_with fail
      go_ret
      rw [HW.out]
      exact ⟨rfl, Chg.refl _ _⟩
    · have q7 : decide (k ≤ 7) = false := decide_eq_false h7
      have HW := Lib.hid (show wholeK k = false by unfold wholeK; rw [q7]; simp)
      clear h2 h7
      go_enter Tryd.func77, Tryd.ntmps77
      go_wp2_with fail
      go_ret
      rw [HW.out]
      exact ⟨rfl, Chg.refl _ _⟩
  · have q2 : decide (k ≥ 2) = false := decide_eq_false h2
    have q2' : decide (2 ≤ k) = false := decide_eq_false h2
    have HW := Lib.hid (show wholeK k = false by unfold wholeK; rw [q2']; rfl)
    clear h2
    go_enter Tryd.func77, Tryd.ntmps77
    go_wp2_with fail
    go_ret
    rw [HW.out]
    exact ⟨rfl, Chg.refl _ _⟩
set_option maxRecDepth 100000 in
set_option maxHeartbeats 1000000 in
theorem twhole_any (n B : Nat) (w : World) (t : Ty) (Af : Option Addr) (cf : Nat) (Al : Option Addr) (cl : Nat) (Ar : Option Addr) (cr : Nat) :
    Calls Tryd.prog 65 #[.agg #[.int .i64 t.kind, .string t.name, .int .i64 t.con, .slice Af t.fields.length cf, .slice Al t.list.length cl, .slice Ar t.res.length cr]] w fun e w' => e = .returned (.bool (wholeT t)) ∧ Chg (fun _ _ => False) w w' := by
  have hc1 := chg_alloc w (.cells #[.int .i64 t.kind, .string t.name, .int .i64 t.con, .slice Af t.fields.length cf, .slice Al t.list.length cl, .slice Ar t.res.length cr] 33)
  have hb1 := Blk.new w 33 #[.int .i64 t.kind, .string t.name, .int .i64 t.con, .slice Af t.fields.length cf, .slice Al t.list.length cl, .slice Ar t.res.length cr]
  have hcall := wwhole_any (w.alloc (.cells #[.int .i64 t.kind, .string t.name, .int .i64 t.con, .slice Af t.fields.length cf, .slice Al t.list.length cl, .slice Ar t.res.length cr] 33)) t.kind
  have HW := Lib.hid (show wholeT t = (wholeK t.kind || (decide (t.kind = 12) && decide (t.con = 3))) from rfl)
  generalize wholeT t = wt at HW ⊢
  generalize wholeK t.kind = b at hcall HW
  by_cases h12 : t.kind = 12
  · have q12 : (t.kind == 12) = true := by simp [h12]
    have HE := Lib.hid h12
    clear h12
    by_cases h3 : t.con = 3
    · have q3 : (t.con == 3) = true := by simp [h3]
      have HF := Lib.hid h3
      clear h3
      go_enter Tryd.func65, Tryd.ntmps65
      cases b <;> (
        go_wp2_with fail
        refine hcall.mono fun e w2 h => ?_
        obtain ⟨rfl, hc2⟩ := h
        obtain ⟨x0, x1, x2, x3, x4, x5⟩ := (hc2.blk hb1 id).cells6
        clear hcall
        go_wp2_with fail
        go_ret
        exact ⟨by rw [HW.out, HE.out, HF.out]; rfl, hc1.trans hc2⟩)
    · have q3 : (t.con == 3) = false := by simp [h3]
      have HF := Lib.hid (show decide (t.con = 3) = false from decide_eq_false h3)
      clear h3
      go_enter Tryd.func65, Tryd.ntmps65
      cases b <;> (
        go_wp2_with fail
        refine hcall.mono fun e w2 h => ?_
        obtain ⟨rfl, hc2⟩ := h
        obtain ⟨x0, x1, x2, x3, x4, x5⟩ := (hc2.blk hb1 id).cells6
        clear hcall
        go_wp2_with fail
        go_ret
        exact ⟨by rw [HW.out, HF.out]; simp, hc1.trans hc2⟩)
  · have q12 : (t.kind == 12) = false := by simp [h12]
    have HE := Lib.hid (show decide (t.kind = 12) = false from decide_eq_false h12)
    clear h12
    go_enter Tryd.func65, Tryd.ntmps65
    cases b <;> (
      go_wp2_with fail
      refine hcall.mono fun e w2 h => ?_
      obtain ⟨rfl, hc2⟩ := h
      obtain ⟨x0, x1, x2, x3, x4, x5⟩ := (hc2.blk hb1 id).cells6
      clear hcall
      go_wp2_with fail
      go_ret
      exact ⟨by rw [HW.out, HE.out]; simp, hc1.trans hc2⟩)
set_option maxRecDepth 100000 in
set_option maxHeartbeats 1000000 in
theorem rmeets_any (n B : Nat) (w : World) (t : Ty) (Af : Option Addr) (cf : Nat) (Al : Option Addr) (cl : Nat) (Ar : Option Addr) (cr : Nat) (con : Int) (hB : B ≤ w.heap.size) (hT : TyR n B w (tyCells t.kind t.name t.con Af t.fields.length cf Al t.list.length cl Ar t.res.length cr) t) (hok : soundT t = true) (hcon : con = 1 ∨ con = 2 ∨ con = 3) :
    Calls Tryd.prog 30 #[.agg #[.int .i64 t.kind, .string t.name, .int .i64 t.con, .slice Af t.fields.length cf, .slice Al t.list.length cl, .slice Ar t.res.length cr], .int .i64 con] w fun e w' => e = .returned (.bool (meetsT t con)) ∧ Chg (fun _ _ => False) w w' := by
  have hc1 := chg_alloc w (.cells #[.int .i64 t.kind, .string t.name, .int .i64 t.con, .slice Af t.fields.length cf, .slice Al t.list.length cl, .slice Ar t.res.length cr] 33)
  have hb1 := Blk.new w 33 #[.int .i64 t.kind, .string t.name, .int .i64 t.con, .slice Af t.fields.length cf, .slice Al t.list.length cl, .slice Ar t.res.length cr]
  rcases hcon with rfl | rfl | rfl
  · clear hT hok hB
    go_enter Tryd.func30, Tryd.ntmps30
    go_wp2_with fail
    go_ret
    exact ⟨rfl, hc1⟩
  · have hcall := eql_any 9 n B (w.alloc (.cells #[.int .i64 t.kind, .string t.name, .int .i64 t.con, .slice Af t.fields.length cf, .slice Al t.list.length cl, .slice Ar t.res.length cr] 33)) t Af cf Al cl Ar cr (Nat.le_trans hB hc1.size) (TyR.keep0 hc1 hT) hok
    have HM := Lib.hid (show meetsT t 2 = cmpF 9 t from rfl)
    generalize cmpF 9 t = b at hcall HM
    rw [HM.out]
    clear hT hok hB
    go_enter Tryd.func30, Tryd.ntmps30
    cases b <;> (
      go_wp2_with fail
      refine hcall.mono fun e w2 h => ?_
      obtain ⟨rfl, hc2⟩ := h
      clear hcall
      go_wp2_with fail
      go_ret
      exact ⟨rfl, hc1.trans hc2⟩)
  · have hcall := rwhole_any (w.alloc (.cells #[.int .i64 t.kind, .string t.name, .int .i64 t.con, .slice Af t.fields.length cf, .slice Al t.list.length cl, .slice Ar t.res.length cr] 33)) t.kind
    have HM := Lib.hid (show meetsT t 3 = (wholeK t.kind || (decide (t.kind = 12) && decide (t.con = 3))) from rfl)
    generalize wholeK t.kind = b at hcall HM
    rw [HM.out]
    clear hT hok hB
    by_cases h12 : t.kind = 12
    · have q12 : (t.kind == 12) = true := by simp [h12]
      have d12 : decide (t.kind = 12) = true := decide_eq_true h12
      by_cases h3 : t.con = 3
      · have q3 : (t.con == 3) = true := by simp [h3]
        rw [d12, decide_eq_true h3]
        clear h12 h3 d12 HM
        go_enter Tryd.func30, Tryd.ntmps30
        cases b <;> (
          go_wp2_with fail
          refine hcall.mono fun e w2 h => ?_
          obtain ⟨rfl, hc2⟩ := h
          obtain ⟨x0, x1, x2, x3, x4, x5⟩ := (hc2.blk hb1 id).cells6
          clear hcall
          go_wp2_with fail
          go_ret
          exact ⟨rfl, hc1.trans hc2⟩)
      · have q3 : (t.con == 3) = false := by simp [h3]
        rw [d12, decide_eq_false h3]
        clear h12 h3 d12 HM
        go_enter Tryd.func30, Tryd.ntmps30
        cases b <;> (
          go_wp2_with fail
          refine hcall.mono fun e w2 h => ?_
          obtain ⟨rfl, hc2⟩ := h
          obtain ⟨x0, x1, x2, x3, x4, x5⟩ := (hc2.blk hb1 id).cells6
          clear hcall
          go_wp2_with fail
          go_ret
          exact ⟨rfl, hc1.trans hc2⟩)
    · have q12 : (t.kind == 12) = false := by simp [h12]
      rw [decide_eq_false h12]
      clear h12 HM
      go_enter Tryd.func30, Tryd.ntmps30
      cases b <;> (
        go_wp2_with fail
        refine hcall.mono fun e w2 h => ?_
        obtain ⟨rfl, hc2⟩ := h
        obtain ⟨x0, x1, x2, x3, x4, x5⟩ := (hc2.blk hb1 id).cells6
        clear hcall
        go_wp2_with fail
        go_ret
        exact ⟨rfl, hc1.trans hc2⟩)
set_option maxRecDepth 100000 in
set_option maxHeartbeats 1000000 in
theorem tmeets_any (n B : Nat) (w : World) (t : Ty) (Af : Option Addr) (cf : Nat) (Al : Option Addr) (cl : Nat) (Ar : Option Addr) (cr : Nat) (con : Int) (hB : B ≤ w.heap.size) (hT : TyR n B w (tyCells t.kind t.name t.con Af t.fields.length cf Al t.list.length cl Ar t.res.length cr) t) (hok : soundT t = true) (hcon : con = 1 ∨ con = 2 ∨ con = 3) :
    Calls Tryd.prog 45 #[.agg #[.int .i64 t.kind, .string t.name, .int .i64 t.con, .slice Af t.fields.length cf, .slice Al t.list.length cl, .slice Ar t.res.length cr], .int .i64 con] w fun e w' => e = .returned (.bool (meetsT t con)) ∧ Chg (fun _ _ => False) w w' := by
  have hc1 := chg_alloc w (.cells #[.int .i64 t.kind, .string t.name, .int .i64 t.con, .slice Af t.fields.length cf, .slice Al t.list.length cl, .slice Ar t.res.length cr] 33)
  have hb1 := Blk.new w 33 #[.int .i64 t.kind, .string t.name, .int .i64 t.con, .slice Af t.fields.length cf, .slice Al t.list.length cl, .slice Ar t.res.length cr]
  rcases hcon with rfl | rfl | rfl
  · clear hT hok hB
    go_enter Tryd.func45, Tryd.ntmps45
    go_wp2_with fail
    go_ret
    exact ⟨rfl, hc1⟩
  · have hcall := cmp_any 9 n B (w.alloc (.cells #[.int .i64 t.kind, .string t.name, .int .i64 t.con, .slice Af t.fields.length cf, .slice Al t.list.length cl, .slice Ar t.res.length cr] 33)) t Af cf Al cl Ar cr (Nat.le_trans hB hc1.size) (TyR.keep0 hc1 hT) hok
    have HM := Lib.hid (show meetsT t 2 = cmpF 9 t from rfl)
    generalize cmpF 9 t = b at hcall HM
    rw [HM.out]
    clear hT hok hB
    go_enter Tryd.func45, Tryd.ntmps45
    cases b <;> (
      go_wp2_with fail
      refine hcall.mono fun e w2 h => ?_
      obtain ⟨rfl, hc2⟩ := h
      clear hcall
      go_wp2_with fail
      go_ret
      exact ⟨rfl, hc1.trans hc2⟩)
  · have hcall := twhole_any n B (w.alloc (.cells #[.int .i64 t.kind, .string t.name, .int .i64 t.con, .slice Af t.fields.length cf, .slice Al t.list.length cl, .slice Ar t.res.length cr] 33)) t Af cf Al cl Ar cr
    have HM := Lib.hid (show meetsT t 3 = wholeT t from rfl)
    generalize wholeT t = b at hcall HM
    rw [HM.out]
    clear hT hok hB
    go_enter Tryd.func45, Tryd.ntmps45
    cases b <;> (
      go_wp2_with fail
      refine hcall.mono fun e w2 h => ?_
      obtain ⟨rfl, hc2⟩ := h
      clear hcall
      go_wp2_with fail
      go_ret
      exact ⟨rfl, hc1.trans hc2⟩)
end Go.Proofs.YtgemacdnncjmdaaDoor
