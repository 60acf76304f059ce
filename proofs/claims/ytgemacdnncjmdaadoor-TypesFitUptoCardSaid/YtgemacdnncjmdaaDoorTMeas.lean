/-
  types.measure, Sound, Check; ref02.Sound.
-/
import Derived.Test.YtgemacdnncjmdaaDoorTForm
namespace Go.Proofs.YtgemacdnncjmdaaDoor
open Go.RowKit
set_option linter.unusedVariables false
set_option linter.unusedSimpArgs false

set_option maxRecDepth 100000 in
set_option maxHeartbeats 4000000 in
theorem measure_any : ∀ (f : Nat), f ≤ 9 → ∀ (n B : Nat) (w : World) (t : Ty) (Af : Option Addr) (cf : Nat) (Al : Option Addr) (cl : Nat) (Ar : Option Addr) (cr : Nat), B ≤ w.heap.size → Tabs w →
    TyR n B w (tyCells t.kind t.name t.con Af t.fields.length cf Al t.list.length cl Ar t.res.length cr) t → ∀ L : Int, L = 9 - (f : Int) →
    Calls Tryd.prog 43 #[.agg #[.int .i64 t.kind, .string t.name, .int .i64 t.con, .slice Af t.fields.length cf, .slice Al t.list.length cl, .slice Ar t.res.length cr], .int .i64 L] w (LookRes f t w) := by
  intro f
  induction f with
  | zero =>
    intro hf n B w t Af cf Al cl Ar cr hB hTab hT L hL
    clear hT
    have hL2 : L = 9 := by omega
    subst hL2
    clear hL
    go_enter Tryd.func43, Tryd.ntmps43
    go_wp2_with fail
    go_ret3
    exact LookRes.bad rfl (chg_alloc _ _)
  | succ f IH =>
    intro hf n B w t Af cf Al cl Ar cr hB hTab hT L hL
    obtain rfl : L = 8 - (f : Int) := by omega
    clear hL
    cases n with
    | zero => exact hT.elim
    | succ n =>
      have IH := Lib.hid (IH (by omega))
      have hsm := hT.small
      have hsh := form_any n B
      have hL8 : ¬ (8 : Int) < 8 - (f : Int) := by omega
      have HT := Lib.hid (And.intro hT (And.intro hB hsm))
      have HTab := Lib.hid hTab
      clear hT hB hsm hTab
      go_enter Tryd.func43, Tryd.ntmps43
      go_wp2_with fail
      have hb1 := Blk.new w 33 #[.int .i64 t.kind, .string t.name, .int .i64 t.con, .slice Af t.fields.length cf, .slice Al t.list.length cl, .slice Ar t.res.length cr]
      have hc1 := chg_alloc w (.cells #[.int .i64 t.kind, .string t.name, .int .i64 t.con, .slice Af t.fields.length cf, .slice Al t.list.length cl, .slice Ar t.res.length cr] 33)
      generalize w.alloc (.cells #[.int .i64 t.kind, .string t.name, .int .i64 t.con, .slice Af t.fields.length cf, .slice Al t.list.length cl, .slice Ar t.res.length cr] 33) = W at hb1 hc1 ⊢
      generalize hg : w.heap.size = g at hb1 ⊢
      refine (hsh W t Af cf Al cl Ar cr (Nat.le_trans HT.out.2.1 hc1.size) (HTab.out.keep0 hc1) (TyR.keep0 hc1 HT.out.1)).mono fun e w1 h => ?_
      obtain ⟨rfl, hc2⟩ := h
      have hcw := hc1.trans hc2
      have hb2 := hc2.blk hb1 id
      obtain ⟨y0, y1, y2, y3, y4, y5⟩ := hb2.cells6
      have H1 := Lib.hid (And.intro hcw hb2)
      clear hb1 hc1 hc2 hb2 hcw
      cases hs : shapeT t with
      | false =>
        have HS := Lib.hid hs
        clear hs
        go_wp2_with fail
        go_ret3
        exact LookRes.bad (lookT_shape HS.out) H1.out.1
      | true =>
        have HS := Lib.hid hs
        clear hs
        go_wp2_with fail
        refine (parts_any n B w1 t Af cf Al cl Ar cr (Nat.le_trans HT.out.2.1 H1.out.1.size) (TyR.keep0 H1.out.1 HT.out.1)).mono fun e w2 h => ?_
        obtain ⟨A, c, rfl, hrow2, hc3⟩ := h
        have hlen : t.inner.length ≤ 3145728 := by
          obtain ⟨_, _, _, s4, s5, s6⟩ := HT.out.2.2
          simp only [Ty.inner, List.length_append, List.length_map]
          omega
        have H2 := Lib.hid (And.intro hrow2 (And.intro (H1.out.1.trans hc3) (hc3.blk H1.out.2 id)))
        clear hrow2 hc3 y0 y1 y2 y3 y4 y5
        go_wp2_with fail
        go_loopw [4, 5, 9, 10, 11, 22] (fun d c _ _ _ i wr => lookRel f t.inner w2 d c i wr) (fun _ _ _ _ _ i _ => t.inner.length - (intOf i).toNat)
        case atStart => exact ⟨0, 0, 0, Nat.zero_le _, rfl, rfl, rfl, rfl, Chg.refl _ _⟩
        case round =>
          obtain ⟨k, dd, cc, hk, rfl, rfl, rfl, hL, hch⟩ := hrel
          have q3 : IntKind.i64.wrap ((k : Int) + 1) = (k : Int) + 1 := IntWalk.i64_in _ ⟨by omega, by omega⟩
          have q4 : IntKind.i64.wrap (8 - (f : Int) + 1) = 8 - (f : Int) + 1 := IntWalk.i64_in _ ⟨by omega, by omega⟩
          obtain ⟨hdd, hcc⟩ := lookL_le (f := f) (fun t p h => lookT_le h) hL
          have hcc2 : cc ≤ 64 * 3145728 := by
            have : (t.inner.take k).length ≤ t.inner.length := by rw [List.length_take]; omega
            omega
          clear hcc
          by_cases hlt : k < t.inner.length
          · have q1 : decide (k < t.inner.length) = true := decide_eq_true hlt
            have q2 : (k : Int) < (t.inner.length : Int) := by omega
            obtain ⟨b, o, x, Xf, xf, Xl, xl, Xr, xr, rfl, hkx, hRx, z0, z1, z2, z3, z4, z5⟩ := TysR.at_ (TysR.keep0 hch H2.out.1) hlt
            have hca := chg_alloc wr (.cells #[.int .i64 x.kind, .string x.name, .int .i64 x.con, .slice Xf x.fields.length xf, .slice Xl x.list.length xl, .slice Xr x.res.length xr] 33)
            have HR := Lib.hid (And.intro hL (And.intro (hch.trans hca) (And.intro hkx (TyR.keep0 hca hRx))))
            clear hL hch hkx hRx hca
            go_wp2_with fail
            refine (IH.out n w2.heap.size _ x Xf xf Xl xl Xr xr HR.out.2.1.size (HTab.out.keep0 (H2.out.2.1.trans HR.out.2.1)) HR.out.2.2.2 (8 - (f : Int) + 1) (by omega)).mono fun e w3 h => ?_
            obtain ⟨d1, c1, rfl, hdc, hc4⟩ := h
            have hch4 := HR.out.2.1.trans hc4
            cases hx : lookT f x with
            | none =>
              have HX := Lib.hid (And.intro hx hch4)
              clear hdc hx hc4 hch4
              go_wp2_with fail
              go_ret3
              exact LookRes.bad (lookT_bad (lookL_bad HR.out.2.2.1 HX.out.1)) (H2.out.2.1.trans HX.out.2)
            | some p =>
              obtain ⟨hd1, hc1⟩ := hdc p hx
              obtain ⟨hp1, hp2⟩ := lookT_le hx
              obtain ⟨pd, pc⟩ := p
              dsimp only at hd1 hc1 hp1 hp2
              subst hd1
              subst hc1
              have hsn : lookL (lookT f) (t.inner.take (k + 1)) = some (max dd (pd + 1), cc + pc) := by
                obtain ⟨h1, h2⟩ := List.getElem?_eq_some_iff.1 HR.out.2.2.1
                rw [List.take_succ_eq_append_getElem h1, h2, lookL_snoc, HR.out.1, hx]
              have HX := Lib.hid (And.intro hsn hch4)
              clear hdc hx hc4 hch4 hsn
              have r1 : IntKind.i64.wrap ((pd : Int) + 1) = (pd : Int) + 1 := IntWalk.i64_in _ ⟨by omega, by omega⟩
              have r2 : IntKind.i64.wrap ((cc : Int) + (pc : Int)) = (cc : Int) + (pc : Int) := IntWalk.i64_in _ ⟨by omega, by omega⟩
              by_cases hm : (dd : Int) < (pd : Int) + 1
              · go_wp2_with fail
                go_roundw
                case rel => exact ⟨k + 1, pd + 1, cc + pc, hlt, by simp, by simp <;> omega, by simp, by rw [HX.out.1, Nat.max_eq_right (by omega)], HX.out.2⟩
                case measure => simp [intOf]; omega
              · go_wp2_with fail
                go_roundw
                case rel => exact ⟨k + 1, dd, cc + pc, hlt, by simp, by simp <;> omega, by simp, by rw [HX.out.1, Nat.max_eq_left (by omega)], HX.out.2⟩
                case measure => simp [intOf]; omega
          · have q1 : decide (k < t.inner.length) = false := decide_eq_false hlt
            obtain rfl : k = t.inner.length := by omega
            rw [List.take_length] at hL
            obtain ⟨y0, y1, y2, y3, y4, y5⟩ := (hch.blk H2.out.2.2 id).cells6
            have hcw := H2.out.2.1.trans hch
            by_cases h8 : t.kind = 8
            · have q8 : (t.kind == 8) = true := by simp [h8]
              have HE := Lib.hid (And.intro (lookT_struct HS.out hL h8) hcw)
              clear hL hch hcw h8
              go_wp2_with fail
              go_ret3
              refine ⟨dd, cc, ?_, ?_, HE.out.2⟩
              · rw [HE.out.1]
                by_cases h64 : cc ≤ 64
                · rw [if_pos h64, decide_eq_true (by omega)]; rfl
                · rw [if_neg h64, decide_eq_false (by omega)]; rfl
              · rw [HE.out.1]
                intro p hp
                by_cases h64 : cc ≤ 64
                · rw [if_pos h64] at hp; injection hp with hp; subst hp; exact ⟨rfl, rfl⟩
                · rw [if_neg h64] at hp; cases hp
            · have q8 : (t.kind == 8) = false := by simp [h8]
              have HE := Lib.hid (And.intro (lookT_other HS.out hL h8) hcw)
              clear hL hch hcw
              go_wp2_with fail
              go_ret3
              refine ⟨dd, 1, ?_, ?_, HE.out.2⟩
              · rw [HE.out.1]; rfl
              · rw [HE.out.1]
                intro p hp
                injection hp with hp
                subst hp
                exact ⟨rfl, rfl⟩
set_option maxRecDepth 100000 in
set_option maxHeartbeats 1000000 in
theorem rsound_any (n B : Nat) (w : World) (t : Ty) (Af : Option Addr) (cf : Nat) (Al : Option Addr) (cl : Nat) (Ar : Option Addr) (cr : Nat) (hB : B ≤ w.heap.size)
    (hT : TyR n B w (tyCells t.kind t.name t.con Af t.fields.length cf Al t.list.length cl Ar t.res.length cr) t) :
    Calls Tryd.prog 28 #[.agg #[.int .i64 t.kind, .string t.name, .int .i64 t.con, .slice Af t.fields.length cf, .slice Al t.list.length cl, .slice Ar t.res.length cr]] w fun e w' => e = .returned (.bool (soundT t)) ∧ Chg (fun _ _ => False) w w' := by
  have hc1 := chg_alloc w (.cells #[.int .i64 t.kind, .string t.name, .int .i64 t.con, .slice Af t.fields.length cf, .slice Al t.list.length cl, .slice Ar t.res.length cr] 33)
  have H := Lib.hid (And.intro hB (And.intro hT trivial))
  clear hB hT
  go_enter Tryd.func28, Tryd.ntmps28
  go_wp2_with fail
  refine (look_any 9 (by omega) n B _ t Af cf Al cl Ar cr (Nat.le_trans H.out.1 hc1.size) (TyR.keep0 hc1 H.out.2.1) 8 rfl).mono fun e w1 h => ?_
  obtain ⟨d, c, rfl, hdc, hc2⟩ := h
  have HC := Lib.hid (hc1.trans hc2)
  clear hc1 hc2 hdc
  go_wp2_with fail
  go_ret
  exact ⟨rfl, HC.out⟩
set_option maxRecDepth 100000 in
set_option maxHeartbeats 1000000 in
theorem sound_any (n B : Nat) (w : World) (t : Ty) (Af : Option Addr) (cf : Nat) (Al : Option Addr) (cl : Nat) (Ar : Option Addr) (cr : Nat) (hB : B ≤ w.heap.size) (hTab : Tabs w)
    (hT : TyR n B w (tyCells t.kind t.name t.con Af t.fields.length cf Al t.list.length cl Ar t.res.length cr) t) :
    Calls Tryd.prog 34 #[.agg #[.int .i64 t.kind, .string t.name, .int .i64 t.con, .slice Af t.fields.length cf, .slice Al t.list.length cl, .slice Ar t.res.length cr]] w fun e w' => e = .returned (.bool (soundT t)) ∧ Chg (fun _ _ => False) w w' := by
  have hc1 := chg_alloc w (.cells #[.int .i64 t.kind, .string t.name, .int .i64 t.con, .slice Af t.fields.length cf, .slice Al t.list.length cl, .slice Ar t.res.length cr] 33)
  have H := Lib.hid (And.intro hB (And.intro hT hTab))
  clear hB hT hTab
  go_enter Tryd.func34, Tryd.ntmps34
  go_wp2_with fail
  refine (measure_any 9 (by omega) n B _ t Af cf Al cl Ar cr (Nat.le_trans H.out.1 hc1.size) (H.out.2.2.keep0 hc1) (TyR.keep0 hc1 H.out.2.1) 0 rfl).mono fun e w1 h => ?_
  obtain ⟨d, c, rfl, hdc, hc2⟩ := h
  have HC := Lib.hid (hc1.trans hc2)
  clear hc1 hc2 hdc
  go_wp2_with fail
  go_ret
  exact ⟨rfl, HC.out⟩
/-- No error where it is sound. -/
def errOf (b : Bool) : Int := cond b 0 1
set_option maxRecDepth 100000 in
set_option maxHeartbeats 1000000 in
theorem check_any (n B : Nat) (w : World) (t : Ty) (Af : Option Addr) (cf : Nat) (Al : Option Addr) (cl : Nat) (Ar : Option Addr) (cr : Nat) (hB : B ≤ w.heap.size) (hTab : Tabs w)
    (hT : TyR n B w (tyCells t.kind t.name t.con Af t.fields.length cf Al t.list.length cl Ar t.res.length cr) t) :
    Calls Tryd.prog 41 #[.agg #[.int .i64 t.kind, .string t.name, .int .i64 t.con, .slice Af t.fields.length cf, .slice Al t.list.length cl, .slice Ar t.res.length cr]] w fun e w' => e = .returned (.int .i64 (errOf (soundT t))) ∧ Chg (fun _ _ => False) w w' := by
  have hc1 := chg_alloc w (.cells #[.int .i64 t.kind, .string t.name, .int .i64 t.con, .slice Af t.fields.length cf, .slice Al t.list.length cl, .slice Ar t.res.length cr] 33)
  have H := Lib.hid (And.intro hB (And.intro hT hTab))
  clear hB hT hTab
  go_enter Tryd.func41, Tryd.ntmps41
  go_wp2_with fail
  have hso := sound_any n B _ t Af cf Al cl Ar cr (Nat.le_trans H.out.1 hc1.size) (H.out.2.2.keep0 hc1) (TyR.keep0 hc1 H.out.2.1)
  cases hs : soundT t with
  | true =>
    rw [hs] at hso
    have HS := Lib.hid hs
    clear hs
    refine hso.mono fun e w1 h => ?_
    clear hso
    obtain ⟨rfl, hc2⟩ := h
    go_wp2_with fail
    go_ret
    rw [HS.out]
    exact ⟨rfl, hc1.trans hc2⟩
  | false =>
    rw [hs] at hso
    have HS := Lib.hid hs
    clear hs
    refine hso.mono fun e w1 h => ?_
    clear hso
    obtain ⟨rfl, hc2⟩ := h
    go_wp2_with fail
    go_ret
    rw [HS.out]
    exact ⟨rfl, hc1.trans hc2⟩
end Go.Proofs.YtgemacdnncjmdaaDoor
