/-
  The walk of TypesFit.
-/
import Derived.Test.YtgemacdnncjmdaaDoorTFit
import Derived.Test.YtgemacdnncjmdaaDoorTTypesSameW
namespace Go.Proofs.YtgemacdnncjmdaaDoor
open Go.RowKit
set_option linter.unusedVariables false
set_option linter.unusedSimpArgs false

theorem strs_next {w1 w2 : World} {v : Value} {l : List ByteArray} (h : StrsR w1.heap.size w1 v l) (hc : Chg (fun _ _ => False) w1 w2) : StrsR w2.heap.size w2 v l :=
  SlR.imp (SlR.keep h hc (no_lets _ _) fun _ _ h => h) (fun b _ hl => hl.imp (fun h => Nat.lt_of_lt_of_le h hc.size) id) fun _ _ h => h
set_option maxRecDepth 100000 in
set_option maxHeartbeats 8000000 in
theorem typesFit_walk (n B : Nat) (w : World) (t : Ty) (con : Int) (Af : Option Addr) (cf : Nat) (Al : Option Addr) (cl : Nat) (Ar : Option Addr) (cr : Nat) (hB : B ≤ w.heap.size) (hTab : Tabs w) (hT : TyR n B w (tyCells t.kind t.name t.con Af t.fields.length cf Al t.list.length cl Ar t.res.length cr) t) :
    Calls Tryd.prog 8 #[.agg #[.int .i64 t.kind, .string t.name, .int .i64 t.con, .slice Af t.fields.length cf, .slice Al t.list.length cl, .slice Ar t.res.length cr], .int .i64 con] w fun e w' => e = .returned (.bool true) ∧ Chg (fun _ _ => False) w w' := by
  have H := Lib.hid (And.intro hB (And.intro hTab hT))
  have HK := Lib.hid (And.intro (Blk.new w 33 #[.int .i64 t.kind, .string t.name, .int .i64 t.con, .slice Af t.fields.length cf, .slice Al t.list.length cl, .slice Ar t.res.length cr]) (chg_alloc w (.cells #[.int .i64 t.kind, .string t.name, .int .i64 t.con, .slice Af t.fields.length cf, .slice Al t.list.length cl, .slice Ar t.res.length cr] 33)))
  clear hB hTab hT
  cases hs : soundT t with
  | false =>
    have HS := Lib.hid hs
    clear hs
    go_enter Tryd.func8, Tryd.ntmps8
    go_wp2_with fail
    generalize w.alloc (.cells #[.int .i64 t.kind, .string t.name, .int .i64 t.con, .slice Af t.fields.length cf, .slice Al t.list.length cl, .slice Ar t.res.length cr] 33) = w0 at HK ⊢
    generalize w.heap.size = g1 at HK ⊢
    obtain ⟨y0, y1, y2, y3, y4, y5⟩ := HK.out.1.cells6
    go_wp2_with fail
    refine (own2_any n B w0 t Af cf Al cl Ar cr (Nat.le_trans H.out.1 HK.out.2.size) (TyR.keep0 HK.out.2 H.out.2.2)).mono fun e w1 h => ?_
    obtain ⟨Xf, xf', Xl, xl', Xr, xr', rfl, hN, hc⟩ := h
    have HK' := Lib.hid (And.intro (hc.blk HK.out.1 id) (HK.out.2.trans hc))
    clear HK y0 y1 y2 y3 y4 y5
    have HK := Lib.hid HK'.out
    clear HK'
    obtain ⟨y0, y1, y2, y3, y4, y5⟩ := HK.out.1.cells6
    have hX := TyN.tyR hN
    clear hN hc
    go_wp2_with fail
    refine (fits_bad n w1.heap.size w1 t Xf xf' Xl xl' Xr xr' con (Nat.le_refl _) (H.out.2.1.keep0 HK.out.2) hX HS.out).mono fun e w2 h => ?_
    obtain ⟨rfl, hc⟩ := h
    have HK' := Lib.hid (And.intro (hc.blk HK.out.1 id) (HK.out.2.trans hc))
    clear HK y0 y1 y2 y3 y4 y5
    have HK := Lib.hid HK'.out
    clear HK'
    obtain ⟨y0, y1, y2, y3, y4, y5⟩ := HK.out.1.cells6
    clear hc hX
    go_wp2_with fail
    refine (own2_any n B w2 t Af cf Al cl Ar cr (Nat.le_trans H.out.1 HK.out.2.size) (TyR.keep0 HK.out.2 H.out.2.2)).mono fun e w3 h => ?_
    obtain ⟨Yf, yf', Yl, yl', Yr, yr', rfl, hN, hc⟩ := h
    have HK' := Lib.hid (And.intro (hc.blk HK.out.1 id) (HK.out.2.trans hc))
    clear HK y0 y1 y2 y3 y4 y5
    have HK := Lib.hid HK'.out
    clear HK'
    obtain ⟨y0, y1, y2, y3, y4, y5⟩ := HK.out.1.cells6
    have hY := TyN.tyR hN
    clear hN hc
    go_wp2_with fail
    refine (params_bad n w3.heap.size w3 t Yf yf' Yl yl' Yr yr' (Nat.le_refl _) (H.out.2.1.keep0 HK.out.2) hY HS.out).mono fun e w4 h => ?_
    obtain ⟨rfl, hc⟩ := h
    have HK' := Lib.hid (And.intro (hc.blk HK.out.1 id) (HK.out.2.trans hc))
    clear HK y0 y1 y2 y3 y4 y5
    have HK := Lib.hid HK'.out
    clear HK'
    obtain ⟨y0, y1, y2, y3, y4, y5⟩ := HK.out.1.cells6
    clear hc hY
    go_wp2_with fail
    refine (answers2_any w4 (H.out.2.1.keep0 HK.out.2)).mono fun e w5 h => ?_
    obtain ⟨rfl, hc⟩ := h
    have HK' := Lib.hid (And.intro (hc.blk HK.out.1 id) (HK.out.2.trans hc))
    clear HK y0 y1 y2 y3 y4 y5
    have HK := Lib.hid HK'.out
    clear HK'
    obtain ⟨y0, y1, y2, y3, y4, y5⟩ := HK.out.1.cells6
    clear hc
    have hso := rsound_any n B w5 t Af cf Al cl Ar cr (Nat.le_trans H.out.1 HK.out.2.size) (TyR.keep0 HK.out.2 H.out.2.2)
    rw [HS.out] at hso
    go_wp2_with fail
    refine (hso).mono fun e w6 h => ?_
    obtain ⟨rfl, hc⟩ := h
    have HK' := Lib.hid (And.intro (hc.blk HK.out.1 id) (HK.out.2.trans hc))
    clear HK y0 y1 y2 y3 y4 y5
    have HK := Lib.hid HK'.out
    clear HK'
    obtain ⟨y0, y1, y2, y3, y4, y5⟩ := HK.out.1.cells6
    clear hc hso
    go_wp2_with fail
    go_ret
    exact ⟨rfl, HK.out.2⟩
  | true =>
    have HS := Lib.hid hs
    have HZ := Lib.hid (And.intro (show (lookT 9 t).isSome = true by unfold soundT at hs; exact hs) (And.intro (show ([] : List ByteArray).length + nodesB 9 ≤ 549755813888 by have := nodesB_mono (f := 9) (by omega); simp only [List.length_nil]; omega) (show (holesT n t []).length ≤ 549755813888 by have := nodesB_mono (f := 9) (by omega); have := holes_len n 9 t [] (by unfold soundT at hs; exact hs); simp only [List.length_nil] at this; omega)))
    clear hs
    by_cases h1 : con < 1
    · have HN := Lib.hid (show con < 1 ∨ 3 < con from .inl h1)
      have qa : decide (con < 1) = true := decide_eq_true h1
      clear h1
      go_enter Tryd.func8, Tryd.ntmps8
      go_wp2_with fail
      generalize w.alloc (.cells #[.int .i64 t.kind, .string t.name, .int .i64 t.con, .slice Af t.fields.length cf, .slice Al t.list.length cl, .slice Ar t.res.length cr] 33) = w0 at HK ⊢
      generalize w.heap.size = g1 at HK ⊢
      obtain ⟨y0, y1, y2, y3, y4, y5⟩ := HK.out.1.cells6
      go_wp2_with fail
      refine (own2_any n B w0 t Af cf Al cl Ar cr (Nat.le_trans H.out.1 HK.out.2.size) (TyR.keep0 HK.out.2 H.out.2.2)).mono fun e w1 h => ?_
      obtain ⟨Xf, xf', Xl, xl', Xr, xr', rfl, hN, hc⟩ := h
      have HK' := Lib.hid (And.intro (hc.blk HK.out.1 id) (HK.out.2.trans hc))
      clear HK y0 y1 y2 y3 y4 y5
      have HK := Lib.hid HK'.out
      clear HK'
      obtain ⟨y0, y1, y2, y3, y4, y5⟩ := HK.out.1.cells6
      have hX := TyN.tyR hN
      clear hN hc
      go_wp2_with fail
      refine (fits_arg n w1.heap.size w1 t Xf xf' Xl xl' Xr xr' con (Nat.le_refl _) (H.out.2.1.keep0 HK.out.2) hX HS.out HN.out).mono fun e w2 h => ?_
      obtain ⟨rfl, hc⟩ := h
      have HK' := Lib.hid (And.intro (hc.blk HK.out.1 id) (HK.out.2.trans hc))
      clear HK y0 y1 y2 y3 y4 y5
      have HK := Lib.hid HK'.out
      clear HK'
      obtain ⟨y0, y1, y2, y3, y4, y5⟩ := HK.out.1.cells6
      clear hc hX
      go_wp2_with fail
      refine (own2_any n B w2 t Af cf Al cl Ar cr (Nat.le_trans H.out.1 HK.out.2.size) (TyR.keep0 HK.out.2 H.out.2.2)).mono fun e w3 h => ?_
      obtain ⟨Yf, yf', Yl, yl', Yr, yr', rfl, hN, hc⟩ := h
      have HK' := Lib.hid (And.intro (hc.blk HK.out.1 id) (HK.out.2.trans hc))
      clear HK y0 y1 y2 y3 y4 y5
      have HK := Lib.hid HK'.out
      clear HK'
      obtain ⟨y0, y1, y2, y3, y4, y5⟩ := HK.out.1.cells6
      have hY := TyN.tyR hN
      clear hN hc
      go_wp2_with fail
      refine (params_ok n w3.heap.size w3 t Yf yf' Yl yl' Yr yr' (Nat.le_refl _) (H.out.2.1.keep0 HK.out.2) hY HS.out).mono fun e w4 h => ?_
      obtain ⟨P, p, rfl, hP, hc⟩ := h
      have HK' := Lib.hid (And.intro (hc.blk HK.out.1 id) (HK.out.2.trans hc))
      clear HK y0 y1 y2 y3 y4 y5
      have HK := Lib.hid HK'.out
      clear HK'
      obtain ⟨y0, y1, y2, y3, y4, y5⟩ := HK.out.1.cells6
      have HP := Lib.hid hP
      clear hc hY hP
      go_wp2_with fail
      refine (answers2_any w4 (H.out.2.1.keep0 HK.out.2)).mono fun e w5 h => ?_
      obtain ⟨rfl, hc⟩ := h
      have HK' := Lib.hid (And.intro (hc.blk HK.out.1 id) (HK.out.2.trans hc))
      clear HK y0 y1 y2 y3 y4 y5
      have HK := Lib.hid HK'.out
      clear HK'
      obtain ⟨y0, y1, y2, y3, y4, y5⟩ := HK.out.1.cells6
      have HP' := Lib.hid (strs_next HP.out hc)
      clear HP
      have HP := Lib.hid HP'.out
      clear HP'
      clear hc
      have hso := rsound_any n B w5 t Af cf Al cl Ar cr (Nat.le_trans H.out.1 HK.out.2.size) (TyR.keep0 HK.out.2 H.out.2.2)
      rw [HS.out] at hso
      go_wp2_with fail
      refine (hso).mono fun e w6 h => ?_
      obtain ⟨rfl, hc⟩ := h
      have HK' := Lib.hid (And.intro (hc.blk HK.out.1 id) (HK.out.2.trans hc))
      clear HK y0 y1 y2 y3 y4 y5
      have HK := Lib.hid HK'.out
      clear HK'
      obtain ⟨y0, y1, y2, y3, y4, y5⟩ := HK.out.1.cells6
      have HP' := Lib.hid (strs_next HP.out hc)
      clear HP
      have HP := Lib.hid HP'.out
      clear HP'
      clear hc hso
      have hho := holes_any n 9 B w6.heap.size w6 t Af cf Al cl Ar cr [] none 0 HZ.out.1 HZ.out.2.1 (Nat.le_trans H.out.1 HK.out.2.size) (Nat.le_refl _) (TyR.keep0 HK.out.2 H.out.2.2) (RowR.nil _ _ _ _ _)
      go_wp2_with fail
      refine hho.mono fun e w7 h => ?_
      obtain ⟨Q, q, rfl, hQ, hc0⟩ := h
      have hc : Chg (fun _ _ => False) w6 w7 := (Chg.refl _ _).trans_new hc0 fun b t hb h => by have := h.1; omega
      have HQ := Lib.hid (hQ.settleT (R' := StrV) (by decide) fun _ _ h => h)
      have HK' := Lib.hid (And.intro (hc.blk HK.out.1 id) (HK.out.2.trans hc))
      clear HK y0 y1 y2 y3 y4 y5
      have HK := Lib.hid HK'.out
      clear HK'
      obtain ⟨y0, y1, y2, y3, y4, y5⟩ := HK.out.1.cells6
      have HP' := Lib.hid (strs_next HP.out hc)
      clear HP
      have HP := Lib.hid HP'.out
      clear HP'
      clear hc hc0 hQ hho
      go_wp2_with fail
      refine (texts_any w7.heap.size w7 (holesT n t []) P p Q q HP.out HQ.out HZ.out.2.2).mono fun e w8 h => ?_
      obtain ⟨rfl, hc⟩ := h
      have HK' := Lib.hid (And.intro (hc.blk HK.out.1 id) (HK.out.2.trans hc))
      clear HK y0 y1 y2 y3 y4 y5
      have HK := Lib.hid HK'.out
      clear HK'
      obtain ⟨y0, y1, y2, y3, y4, y5⟩ := HK.out.1.cells6
      clear hc
      go_wp2_with fail
      go_ret
      exact ⟨rfl, HK.out.2⟩
    · by_cases h2 : 3 < con
      · have HN := Lib.hid (show con < 1 ∨ 3 < con from .inr h2)
        have qa : decide (con < 1) = false := decide_eq_false h1
        have qb : decide (con > 3) = true := decide_eq_true h2
        have qb' : decide (3 < con) = true := decide_eq_true h2
        clear h1 h2
        go_enter Tryd.func8, Tryd.ntmps8
        go_wp2_with fail
        generalize w.alloc (.cells #[.int .i64 t.kind, .string t.name, .int .i64 t.con, .slice Af t.fields.length cf, .slice Al t.list.length cl, .slice Ar t.res.length cr] 33) = w0 at HK ⊢
        generalize w.heap.size = g1 at HK ⊢
        obtain ⟨y0, y1, y2, y3, y4, y5⟩ := HK.out.1.cells6
        go_wp2_with fail
        refine (own2_any n B w0 t Af cf Al cl Ar cr (Nat.le_trans H.out.1 HK.out.2.size) (TyR.keep0 HK.out.2 H.out.2.2)).mono fun e w1 h => ?_
        obtain ⟨Xf, xf', Xl, xl', Xr, xr', rfl, hN, hc⟩ := h
        have HK' := Lib.hid (And.intro (hc.blk HK.out.1 id) (HK.out.2.trans hc))
        clear HK y0 y1 y2 y3 y4 y5
        have HK := Lib.hid HK'.out
        clear HK'
        obtain ⟨y0, y1, y2, y3, y4, y5⟩ := HK.out.1.cells6
        have hX := TyN.tyR hN
        clear hN hc
        go_wp2_with fail
        refine (fits_arg n w1.heap.size w1 t Xf xf' Xl xl' Xr xr' con (Nat.le_refl _) (H.out.2.1.keep0 HK.out.2) hX HS.out HN.out).mono fun e w2 h => ?_
        obtain ⟨rfl, hc⟩ := h
        have HK' := Lib.hid (And.intro (hc.blk HK.out.1 id) (HK.out.2.trans hc))
        clear HK y0 y1 y2 y3 y4 y5
        have HK := Lib.hid HK'.out
        clear HK'
        obtain ⟨y0, y1, y2, y3, y4, y5⟩ := HK.out.1.cells6
        clear hc hX
        go_wp2_with fail
        refine (own2_any n B w2 t Af cf Al cl Ar cr (Nat.le_trans H.out.1 HK.out.2.size) (TyR.keep0 HK.out.2 H.out.2.2)).mono fun e w3 h => ?_
        obtain ⟨Yf, yf', Yl, yl', Yr, yr', rfl, hN, hc⟩ := h
        have HK' := Lib.hid (And.intro (hc.blk HK.out.1 id) (HK.out.2.trans hc))
        clear HK y0 y1 y2 y3 y4 y5
        have HK := Lib.hid HK'.out
        clear HK'
        obtain ⟨y0, y1, y2, y3, y4, y5⟩ := HK.out.1.cells6
        have hY := TyN.tyR hN
        clear hN hc
        go_wp2_with fail
        refine (params_ok n w3.heap.size w3 t Yf yf' Yl yl' Yr yr' (Nat.le_refl _) (H.out.2.1.keep0 HK.out.2) hY HS.out).mono fun e w4 h => ?_
        obtain ⟨P, p, rfl, hP, hc⟩ := h
        have HK' := Lib.hid (And.intro (hc.blk HK.out.1 id) (HK.out.2.trans hc))
        clear HK y0 y1 y2 y3 y4 y5
        have HK := Lib.hid HK'.out
        clear HK'
        obtain ⟨y0, y1, y2, y3, y4, y5⟩ := HK.out.1.cells6
        have HP := Lib.hid hP
        clear hc hY hP
        go_wp2_with fail
        refine (answers2_any w4 (H.out.2.1.keep0 HK.out.2)).mono fun e w5 h => ?_
        obtain ⟨rfl, hc⟩ := h
        have HK' := Lib.hid (And.intro (hc.blk HK.out.1 id) (HK.out.2.trans hc))
        clear HK y0 y1 y2 y3 y4 y5
        have HK := Lib.hid HK'.out
        clear HK'
        obtain ⟨y0, y1, y2, y3, y4, y5⟩ := HK.out.1.cells6
        have HP' := Lib.hid (strs_next HP.out hc)
        clear HP
        have HP := Lib.hid HP'.out
        clear HP'
        clear hc
        have hso := rsound_any n B w5 t Af cf Al cl Ar cr (Nat.le_trans H.out.1 HK.out.2.size) (TyR.keep0 HK.out.2 H.out.2.2)
        rw [HS.out] at hso
        go_wp2_with fail
        refine (hso).mono fun e w6 h => ?_
        obtain ⟨rfl, hc⟩ := h
        have HK' := Lib.hid (And.intro (hc.blk HK.out.1 id) (HK.out.2.trans hc))
        clear HK y0 y1 y2 y3 y4 y5
        have HK := Lib.hid HK'.out
        clear HK'
        obtain ⟨y0, y1, y2, y3, y4, y5⟩ := HK.out.1.cells6
        have HP' := Lib.hid (strs_next HP.out hc)
        clear HP
        have HP := Lib.hid HP'.out
        clear HP'
        clear hc hso
        have hho := holes_any n 9 B w6.heap.size w6 t Af cf Al cl Ar cr [] none 0 HZ.out.1 HZ.out.2.1 (Nat.le_trans H.out.1 HK.out.2.size) (Nat.le_refl _) (TyR.keep0 HK.out.2 H.out.2.2) (RowR.nil _ _ _ _ _)
        go_wp2_with fail
        refine hho.mono fun e w7 h => ?_
        obtain ⟨Q, q, rfl, hQ, hc0⟩ := h
        have hc : Chg (fun _ _ => False) w6 w7 := (Chg.refl _ _).trans_new hc0 fun b t hb h => by have := h.1; omega
        have HQ := Lib.hid (hQ.settleT (R' := StrV) (by decide) fun _ _ h => h)
        have HK' := Lib.hid (And.intro (hc.blk HK.out.1 id) (HK.out.2.trans hc))
        clear HK y0 y1 y2 y3 y4 y5
        have HK := Lib.hid HK'.out
        clear HK'
        obtain ⟨y0, y1, y2, y3, y4, y5⟩ := HK.out.1.cells6
        have HP' := Lib.hid (strs_next HP.out hc)
        clear HP
        have HP := Lib.hid HP'.out
        clear HP'
        clear hc hc0 hQ hho
        go_wp2_with fail
        refine (texts_any w7.heap.size w7 (holesT n t []) P p Q q HP.out HQ.out HZ.out.2.2).mono fun e w8 h => ?_
        obtain ⟨rfl, hc⟩ := h
        have HK' := Lib.hid (And.intro (hc.blk HK.out.1 id) (HK.out.2.trans hc))
        clear HK y0 y1 y2 y3 y4 y5
        have HK := Lib.hid HK'.out
        clear HK'
        obtain ⟨y0, y1, y2, y3, y4, y5⟩ := HK.out.1.cells6
        clear hc
        go_wp2_with fail
        go_ret
        exact ⟨rfl, HK.out.2⟩
      · have HN := Lib.hid (show con = 1 ∨ con = 2 ∨ con = 3 by omega)
        have qa : decide (con < 1) = false := decide_eq_false h1
        have qb : decide (con > 3) = false := decide_eq_false (by omega)
        have qb' : decide (3 < con) = false := decide_eq_false h2
        clear h1 h2
        go_enter Tryd.func8, Tryd.ntmps8
        go_wp2_with fail
        generalize w.alloc (.cells #[.int .i64 t.kind, .string t.name, .int .i64 t.con, .slice Af t.fields.length cf, .slice Al t.list.length cl, .slice Ar t.res.length cr] 33) = w0 at HK ⊢
        generalize w.heap.size = g1 at HK ⊢
        obtain ⟨y0, y1, y2, y3, y4, y5⟩ := HK.out.1.cells6
        go_wp2_with fail
        refine (own2_any n B w0 t Af cf Al cl Ar cr (Nat.le_trans H.out.1 HK.out.2.size) (TyR.keep0 HK.out.2 H.out.2.2)).mono fun e w1 h => ?_
        obtain ⟨Xf, xf', Xl, xl', Xr, xr', rfl, hN, hc⟩ := h
        have HK' := Lib.hid (And.intro (hc.blk HK.out.1 id) (HK.out.2.trans hc))
        clear HK y0 y1 y2 y3 y4 y5
        have HK := Lib.hid HK'.out
        clear HK'
        obtain ⟨y0, y1, y2, y3, y4, y5⟩ := HK.out.1.cells6
        have hX := TyN.tyR hN
        clear hN hc
        go_wp2_with fail
        refine (fits_ok n w1.heap.size w1 t Xf xf' Xl xl' Xr xr' con (Nat.le_refl _) (H.out.2.1.keep0 HK.out.2) hX HS.out HN.out).mono fun e w2 h => ?_
        obtain ⟨rfl, hc⟩ := h
        have HK' := Lib.hid (And.intro (hc.blk HK.out.1 id) (HK.out.2.trans hc))
        clear HK y0 y1 y2 y3 y4 y5
        have HK := Lib.hid HK'.out
        clear HK'
        obtain ⟨y0, y1, y2, y3, y4, y5⟩ := HK.out.1.cells6
        clear hc hX
        go_wp2_with fail
        refine (own2_any n B w2 t Af cf Al cl Ar cr (Nat.le_trans H.out.1 HK.out.2.size) (TyR.keep0 HK.out.2 H.out.2.2)).mono fun e w3 h => ?_
        obtain ⟨Yf, yf', Yl, yl', Yr, yr', rfl, hN, hc⟩ := h
        have HK' := Lib.hid (And.intro (hc.blk HK.out.1 id) (HK.out.2.trans hc))
        clear HK y0 y1 y2 y3 y4 y5
        have HK := Lib.hid HK'.out
        clear HK'
        obtain ⟨y0, y1, y2, y3, y4, y5⟩ := HK.out.1.cells6
        have hY := TyN.tyR hN
        clear hN hc
        go_wp2_with fail
        refine (params_ok n w3.heap.size w3 t Yf yf' Yl yl' Yr yr' (Nat.le_refl _) (H.out.2.1.keep0 HK.out.2) hY HS.out).mono fun e w4 h => ?_
        obtain ⟨P, p, rfl, hP, hc⟩ := h
        have HK' := Lib.hid (And.intro (hc.blk HK.out.1 id) (HK.out.2.trans hc))
        clear HK y0 y1 y2 y3 y4 y5
        have HK := Lib.hid HK'.out
        clear HK'
        obtain ⟨y0, y1, y2, y3, y4, y5⟩ := HK.out.1.cells6
        have HP := Lib.hid hP
        clear hc hY hP
        go_wp2_with fail
        refine (answers2_any w4 (H.out.2.1.keep0 HK.out.2)).mono fun e w5 h => ?_
        obtain ⟨rfl, hc⟩ := h
        have HK' := Lib.hid (And.intro (hc.blk HK.out.1 id) (HK.out.2.trans hc))
        clear HK y0 y1 y2 y3 y4 y5
        have HK := Lib.hid HK'.out
        clear HK'
        obtain ⟨y0, y1, y2, y3, y4, y5⟩ := HK.out.1.cells6
        have HP' := Lib.hid (strs_next HP.out hc)
        clear HP
        have HP := Lib.hid HP'.out
        clear HP'
        clear hc
        have hso := rsound_any n B w5 t Af cf Al cl Ar cr (Nat.le_trans H.out.1 HK.out.2.size) (TyR.keep0 HK.out.2 H.out.2.2)
        rw [HS.out] at hso
        go_wp2_with fail
        refine (hso).mono fun e w6 h => ?_
        obtain ⟨rfl, hc⟩ := h
        have HK' := Lib.hid (And.intro (hc.blk HK.out.1 id) (HK.out.2.trans hc))
        clear HK y0 y1 y2 y3 y4 y5
        have HK := Lib.hid HK'.out
        clear HK'
        obtain ⟨y0, y1, y2, y3, y4, y5⟩ := HK.out.1.cells6
        have HP' := Lib.hid (strs_next HP.out hc)
        clear HP
        have HP := Lib.hid HP'.out
        clear HP'
        clear hc hso
        have hho := holes_any n 9 B w6.heap.size w6 t Af cf Al cl Ar cr [] none 0 HZ.out.1 HZ.out.2.1 (Nat.le_trans H.out.1 HK.out.2.size) (Nat.le_refl _) (TyR.keep0 HK.out.2 H.out.2.2) (RowR.nil _ _ _ _ _)
        go_wp2_with fail
        refine hho.mono fun e w7 h => ?_
        obtain ⟨Q, q, rfl, hQ, hc0⟩ := h
        have hc : Chg (fun _ _ => False) w6 w7 := (Chg.refl _ _).trans_new hc0 fun b t hb h => by have := h.1; omega
        have HQ := Lib.hid (hQ.settleT (R' := StrV) (by decide) fun _ _ h => h)
        have HK' := Lib.hid (And.intro (hc.blk HK.out.1 id) (HK.out.2.trans hc))
        clear HK y0 y1 y2 y3 y4 y5
        have HK := Lib.hid HK'.out
        clear HK'
        obtain ⟨y0, y1, y2, y3, y4, y5⟩ := HK.out.1.cells6
        have HP' := Lib.hid (strs_next HP.out hc)
        clear HP
        have HP := Lib.hid HP'.out
        clear HP'
        clear hc hc0 hQ hho
        go_wp2_with fail
        refine (texts_any w7.heap.size w7 (holesT n t []) P p Q q HP.out HQ.out HZ.out.2.2).mono fun e w8 h => ?_
        obtain ⟨rfl, hc⟩ := h
        have HK' := Lib.hid (And.intro (hc.blk HK.out.1 id) (HK.out.2.trans hc))
        clear HK y0 y1 y2 y3 y4 y5
        have HK := Lib.hid HK'.out
        clear HK'
        obtain ⟨y0, y1, y2, y3, y4, y5⟩ := HK.out.1.cells6
        clear hc
        have hme := rmeets_any n B w8 t Af cf Al cl Ar cr con (Nat.le_trans H.out.1 HK.out.2.size) (TyR.keep0 HK.out.2 H.out.2.2) HS.out HN.out
        have qm : (meetsT t con == meetsT t con) = true := by simp
        go_wp2_with fail
        refine (hme).mono fun e w9 h => ?_
        obtain ⟨rfl, hc⟩ := h
        have HK' := Lib.hid (And.intro (hc.blk HK.out.1 id) (HK.out.2.trans hc))
        clear HK y0 y1 y2 y3 y4 y5
        have HK := Lib.hid HK'.out
        clear HK'
        obtain ⟨y0, y1, y2, y3, y4, y5⟩ := HK.out.1.cells6
        clear hc hme
        go_wp2_with fail
        go_ret
        exact ⟨by simp, HK.out.2⟩
end Go.Proofs.YtgemacdnncjmdaaDoor
