/-
  The walk of UnifyBack.
-/
import Derived.Test.YtgemacdnncjmdaaDoorUBack0
namespace Go.Proofs.YtgemacdnncjmdaaDoor
open Go.RowKit
set_option linter.unusedVariables false
set_option linter.unusedSimpArgs false

def bkRel (names : List ByteArray) (W : World) (i : Value) (wr : World) : Prop := ∃ k : Nat, k ≤ names.length ∧ i = .int .i64 k ∧ Chg (fun _ _ => False) W wr
def bkIn (hs : List ByteArray) (s : ByteArray) (W : World) (th i : Value) (wr : World) : Prop := ∃ (k : Nat) (b : Bool), k ≤ hs.length ∧ i = .int .i64 k ∧ th = .bool b ∧ (b = true ↔ s ∈ hs.take k) ∧ Chg (fun _ _ => False) W wr
set_option maxRecDepth 100000 in
set_option maxHeartbeats 1600000 in
theorem unifyBack_walk (n B : Nat) (w : World) (t : Ty) (names : List ByteArray) (args : List Ty) (Af : Option Addr) (cf : Nat) (Al : Option Addr) (cl : Nat) (Ar : Option Addr) (cr : Nat) (An : Option Addr) (cn : Nat) (Aa : Option Addr) (ca : Nat) (hB : B ≤ w.heap.size) (hTab : Tabs w)
    (hT : TyR n B w (tyCells t.kind t.name t.con Af t.fields.length cf Al t.list.length cl Ar t.res.length cr) t) (hN : StrsR B w (.slice An names.length cn) names) (hnl : names.length ≤ 1048576) (hA : TysR n B w (.slice Aa args.length ca) args) (hal : args.length ≤ 1048576) :
    Calls Tryd.prog 4 #[.agg #[.int .i64 t.kind, .string t.name, .int .i64 t.con, .slice Af t.fields.length cf, .slice Al t.list.length cl, .slice Ar t.res.length cr], .slice An names.length cn, .slice Aa args.length ca] w fun e w' => e = .returned (.bool true) ∧ Chg (fun _ _ => False) w w' := by
  obtain ⟨i9, hi9, hz9, hs9, hb9⟩ := info_parts infoStr
  have hb3 := Blk.new w 33 #[.int .i64 t.kind, .string t.name, .int .i64 t.con, .slice Af t.fields.length cf, .slice Al t.list.length cl, .slice Ar t.res.length cr]
  have hc0 := chg_alloc w (.cells #[.int .i64 t.kind, .string t.name, .int .i64 t.con, .slice Af t.fields.length cf, .slice Al t.list.length cl, .slice Ar t.res.length cr] 33)
  have hdeep := Lib.hid hT.deepT
  have HP := Lib.hid (And.intro hB (And.intro hTab (And.intro hT (And.intro hN hA))))
  have hfill := fill_plain B n _ t Af cf Al cl Ar cr (Nat.le_trans hB hc0.size) trivial (TyR.keep0 hc0 hT)
  rw [Ty.fill_none] at hfill
  have H0 := Lib.hid (And.intro hb3 hc0)
  clear hB hTab hT hN hA hb3 hc0
  go_enter Tryd.func4, Tryd.ntmps4
  go_wp2_with fail
  generalize w.alloc (.cells #[.int .i64 t.kind, .string t.name, .int .i64 t.con, .slice Af t.fields.length cf, .slice Al t.list.length cl, .slice Ar t.res.length cr] 33) = W at hfill H0 ⊢
  generalize w.heap.size = g3 at H0 ⊢
  refine hfill.mono fun e w1 h => ?_
  obtain ⟨Bf, bf, Bl, bl, Br, br, rfl, hN1, hc1⟩ := h
  clear hfill
  have hcw := H0.out.2.trans hc1
  have hb := Blk.new w1 9 #[]
  have hc := chg_alloc w1 (.cells #[] 9)
  have hr : RowR w1.heap.size 9 1 StrV (w1.alloc (.cells #[] 9)) (some ⟨w1.heap.size, 0, none⟩) 0 ([] : List ByteArray) :=
    ⟨[], ⟨by simp, .inr ⟨w1.heap.size, 0, #[], rfl, Nat.le_refl _, hb, Nat.le_refl _, by simp [maxLen], by simp, by simp⟩⟩, rfl, by simp, by simp⟩
  have hl1 : StrsR B _ (.slice An names.length cn) names := SlR.keep HP.out.2.2.2.1 (hcw.trans hc) (no_lets _ _) fun _ _ h => h
  have hv1 : TyU n w1 (.agg #[.int .i64 t.kind, .string t.name, .int .i64 t.con, .slice Bf t.fields.length bf, .slice Bl t.list.length bl, .slice Br t.res.length br]) t := TyU.of (Nat.le_refl _) (TyN.tyR hN1)
  have HR := Lib.hid (And.intro hr (And.intro hl1 (And.intro hc (And.intro hv1 hc1))))
  clear hN1 hb hr hl1 hc hv1 hcw hc1
  go_wp2_with (at_builtin; go_must (refine wpList_pushS rfl (.tmp 19) (.tmp 20) 22 rfl w1.heap.size 9 i9 _ 1 16 Tryd.underlying22 hi9 hz9 hs9 hb9 rfl (by omega) StrV (some ⟨w1.heap.size, 0, none⟩) 0 [] rfl (by first | rfl | simp) HR.out.1 B 0 An cn names rfl (by first | rfl | simp) HR.out.2.1 (StrV.one _) (by simp) (by omega) (by omega) (by simp) (fun _ _ _ _ h => h) ?_))
  intro A2 c2 w2 hr2 hc2
  have hcn := HR.out.2.2.1.trans_new hc2 fun b t hb h => by have := h.1; omega
  have hcW := HR.out.2.2.2.2.trans hcn
  have hcw := H0.out.2.trans hcW
  have hs2 : StrsU w2 (.slice A2 names.length c2) names := ⟨w2.heap.size, A2, c2, Nat.le_refl _, rfl, by have := hr2.settleT (R' := StrV) (by decide) fun _ _ h => h; simpa using this⟩
  have how := owns8U (TysU.of (Nat.le_trans HP.out.1 hcw.size) (TysR.keep0 hcw HP.out.2.2.2.2)) hal
  try simp only [Nat.zero_add]
  have H2 := Lib.hid (And.intro hs2 (And.intro (HR.out.2.2.2.1.keep hcn) hcW))
  clear hr2 hc2 hcn hcW hcw hs2 HR
  go_wp2_with fail
  refine how.mono fun e w3 h => ?_
  obtain ⟨v3, rfl, hv3, hc3⟩ := h
  clear how
  have hcW := H2.out.2.2.trans hc3
  have hsub := substU (n := n) (ma := n) (t := t) (names := names) (args := args) (HP.out.2.1.keep0 (H0.out.2.trans hcW)) (H2.out.2.1.keep hc3) (H2.out.1.keep hc3) hv3 hnl hal
  have H3 := Lib.hid hcW
  clear hv3 hc3 hcW H2
  go_wp2_with fail
  refine hsub.mono fun e w4 h => ?_
  obtain ⟨v, rfl, ⟨Xf, xf, Xl, xl, Xr, xr, rfl, hN4⟩, hc4⟩ := h
  clear hsub
  have hlaw := back_law (names := names) (args := args) hdeep.out
  have hsz := subE_zero (t := t) (names := names) (args := args)
  generalize hu : (subT t names args) = u at hN4 hlaw ⊢
  have hca := chg_alloc w4 (.cells #[.int .i64 u.kind, .string u.name, .int .i64 u.con, .slice Xf u.fields.length xf, .slice Xl u.list.length xl, .slice Xr u.res.length xr] 33)
  have hcW := (H3.out.trans hc4).trans hca
  have hBT : BoxU n (w4.alloc (.cells #[.int .i64 u.kind, .string u.name, .int .i64 u.con, .slice Xf u.fields.length xf, .slice Xl u.list.length xl, .slice Xr u.res.length xr] 33)) g3 t := ⟨_, hcW.blk H0.out.1 id, rfl, (TyU.of (Nat.le_trans HP.out.1 H0.out.2.size) (TyR.keep0 H0.out.2 HP.out.2.2.1)).keep hcW⟩
  have hBX : BoxU (n + n) (w4.alloc (.cells #[.int .i64 u.kind, .string u.name, .int .i64 u.con, .slice Xf u.fields.length xf, .slice Xl u.list.length xl, .slice Xr u.res.length xr] 33)) w4.heap.size u := ⟨_, Blk.new _ _ _, rfl, TyU.keep (TyU.of (Nat.le_refl _) (TyN.tyR hN4)) hca⟩
  have hcw := H0.out.2.trans hcW
  have hans := answers8_any _ (HP.out.2.1.keep0 hcw)
  have HBW := Lib.hid (hcW.blk H0.out.1 id)
  have H4 := Lib.hid (And.intro hBT (And.intro hBX hcw))
  have HL := Lib.hid (And.intro hlaw hsz)
  clear hN4 hc4 hca hcW hBT hBX hcw H3 hlaw hsz hu
  go_wp2_with fail
  generalize w4.alloc (.cells #[.int .i64 u.kind, .string u.name, .int .i64 u.con, .slice Xf u.fields.length xf, .slice Xl u.list.length xl, .slice Xr u.res.length xr] 33) = W5 at hans H4 HBW ⊢
  generalize w4.heap.size = g7 at H4 ⊢
  refine hans.mono fun e w5 h => ?_
  obtain ⟨rfl, hc5⟩ := h
  clear hans
  by_cases hE : subE t names args = 0
  · rw [hE]
    have hTab := (HP.out.2.1.keep0 (H4.out.2.2.trans hc5)).keep0 (Chg.refl (fun _ _ => False) w5).drew
    have hBT := H4.out.1.keep hc5.drew
    have hBX := H4.out.2.1.keep hc5.drew
    have hNm : StrsU w5.drew (.slice An names.length cn) names := StrsU.keep (StrsU.of HP.out.1 HP.out.2.2.2.1) ((H4.out.2.2.trans hc5).drew)
    have H5 := Lib.hid (H4.out.2.2.trans hc5)
    have HB5 := Lib.hid (hc5.blk HBW.out id)
    have HSB0 := Lib.hid (HL.out.2 hE)
    have HLW := Lib.hid (HL.out.1 hE)
    clear hE hc5 H4 HL
    go_wp2_with fail
    refine wp_region_facts [(0, 35), (1, 36), (2, 37), (3, 38), (4, 39), (5, 40), (6, 41), (7, 42), (8, 43), (9, 34), (10, 44), (11, 45), (12, 46), (13, 9), (14, 10), (15, 11)] [] (bkF n (n + n) names t u) (by kernel_rfl) (by kernel_rfl) (bkF_dep (by kernel_rfl) (by kernel_rfl) (by kernel_rfl) (by kernel_rfl) (by kernel_rfl) (by kernel_rfl)) bkF_mono (ops_cons (OpF.run rfl rfl fun q w H => ⟨_, _, exec_bs0, ⟨_, rfl, Blk.new _ _ _⟩, chg_alloc _ _⟩) (ops_cons (OpF.run rfl rfl fun q w H => by
    refine ⟨_, w, exec_move (.tmp 1), ?_, Chg.refl _ _⟩
    show StrsU w (q.tmps.getD 1 undef) names
    rw [H.same 1 (by kernel_rfl)]
    exact hNm.keep H.chg) (ops_cons (OpF.run rfl rfl fun q w H => by
    obtain ⟨r0, h0⟩ := H.fact 0 (by kernel_rfl)
    have h0 := fact_at (p := fun v => ∃ b, v = .slice (some ⟨b, 0, none⟩) 0 0 ∧ Blk w b 9 #[]) (k := 0) (d := 35) h0 (by kernel_rfl)
    obtain ⟨r1, h1⟩ := H.fact 1 (by kernel_rfl)
    have h1 := fact_at (p := fun v => StrsU w v names) (k := 1) (d := 36) h1 (by kernel_rfl)
    obtain ⟨b, hb1, hb2⟩ := h0
    obtain ⟨v', w', hrun, hs, hc⟩ := exec_copyS (a := q) (w := w) (.tmp 35) (.tmp 36) hb1 hb2 h1 hnl
    exact ⟨v', w', hrun, hs, hc⟩) (ops_cons (OpF.run rfl rfl fun q w H => by
    obtain ⟨cs, hb, hsz, hu⟩ := hBT.keep H.chg
    exact ⟨_, w, exec_load 33 (.tmp 3) (H.same 3 (by kernel_rfl)) hb Tryd.underlying33 rfl (by rw [hsz]; exact infoSz6), hu, Chg.refl _ _⟩) (ops_cons (OpF.run rfl rfl fun q w H => by
    obtain ⟨r3, h3⟩ := H.fact 3 (by kernel_rfl)
    have h3 := fact_at (p := fun v => TyU n w v t) (k := 3) (d := 38) h3 (by kernel_rfl)
    obtain ⟨v0, v1, v2, v3, v4, v5, hv⟩ := tyU_cells h3
    exact ⟨_, _, exec_bt1 (.tmp 38) hv, TysU.built (hv ▸ h3), chg_alloc _ _⟩) (ops_cons (OpF.call rfl rfl fun q w H => by
    obtain ⟨r4, h4⟩ := H.fact 4 (by kernel_rfl)
    have h4 := fact_at (p := fun v => TysU n w v [t]) (k := 4) (d := 39) h4 (by kernel_rfl)
    exact ⟨_, _, exec_call1 _ _ _ (enters_owns8 w), owns8U h4 (by simp)⟩) (ops_cons (OpF.run rfl rfl fun q w H => by
    obtain ⟨cs, hb, hsz, hu⟩ := hBX.keep H.chg
    exact ⟨_, w, exec_load 33 (.tmp 7) (H.same 7 (by kernel_rfl)) hb Tryd.underlying33 rfl (by rw [hsz]; exact infoSz6), hu, Chg.refl _ _⟩) (ops_cons (OpF.run rfl rfl fun q w H => by
    obtain ⟨r6, h6⟩ := H.fact 6 (by kernel_rfl)
    have h6 := fact_at (p := fun v => TyU (n + n) w v u) (k := 6) (d := 41) h6 (by kernel_rfl)
    obtain ⟨v0, v1, v2, v3, v4, v5, hv⟩ := tyU_cells h6
    exact ⟨_, _, exec_bt1 (.tmp 41) hv, TysU.built (hv ▸ h6), chg_alloc _ _⟩) (ops_cons (OpF.call rfl rfl fun q w H => by
    obtain ⟨r2, h2⟩ := H.fact 2 (by kernel_rfl)
    have h2 := fact_at (p := fun v => StrsU w v names) (k := 2) (d := 37) h2 (by kernel_rfl)
    obtain ⟨r5, h5⟩ := H.fact 5 (by kernel_rfl)
    have h5 := fact_at (p := fun v => TysU n w v [t]) (k := 5) (d := 40) h5 (by kernel_rfl)
    obtain ⟨r7, h7⟩ := H.fact 7 (by kernel_rfl)
    have h7 := fact_at (p := fun v => TysU (n + n) w v [u]) (k := 7) (d := 42) h7 (by kernel_rfl)
    exact ⟨_, _, exec_call3 _ _ _ _ _ (enters_unify w), unifyU (n := n) (m := n + n) (names := names) (want := [t]) (have_ := [u]) (hTab.keep0 H.chg) h2 h5 h7 hnl (by simp) (by simp)⟩) (ops_cons (OpF.run rfl rfl fun q w H => by
    obtain ⟨r8, h8⟩ := H.fact 8 (by kernel_rfl)
    have h8 := fact_at (p := fun v => UniP n (n + n) names [t] [u] w v) (k := 8) (d := 43) h8 (by kernel_rfl)
    exact ⟨_, w, exec_move (.tmp 43), h8, Chg.refl _ _⟩) (ops_cons (OpF.run rfl rfl fun q w H => by
    obtain ⟨r9, h9⟩ := H.fact 9 (by kernel_rfl)
    have h1 := H.val (k := 9) (d := 34) (by kernel_rfl)
    obtain ⟨v1, v2, e1, _⟩ := h9
    exact ⟨_, w, exec_extract (.tmp 34) 0 (h1.trans e1) rfl, ⟨_, _, e1⟩, Chg.refl _ _⟩) (ops_cons (OpF.run rfl rfl fun q w H => by
    obtain ⟨r9, h9⟩ := H.fact 9 (by kernel_rfl)
    have h1 := H.val (k := 9) (d := 34) (by kernel_rfl)
    obtain ⟨v1, v2, e1, _⟩ := h9
    exact ⟨_, w, exec_extract (.tmp 34) 1 (h1.trans e1) rfl, ⟨_, _, e1⟩, Chg.refl _ _⟩) (ops_cons (OpF.run rfl rfl fun q w H => by
    obtain ⟨r9, h9⟩ := H.fact 9 (by kernel_rfl)
    have h1 := H.val (k := 9) (d := 34) (by kernel_rfl)
    obtain ⟨v1, v2, e1, _⟩ := h9
    exact ⟨_, w, exec_extract (.tmp 34) 2 (h1.trans e1) rfl, ⟨_, _, e1⟩, Chg.refl _ _⟩) (ops_cons (OpF.run rfl rfl fun q w H => ⟨_, w, exec_assign (.tmp 44), H.val (k := 10) (d := 44) (by kernel_rfl), Chg.refl _ _⟩) (ops_cons (OpF.run rfl rfl fun q w H => ⟨_, w, exec_assign (.tmp 45), H.val (k := 11) (d := 45) (by kernel_rfl), Chg.refl _ _⟩) (ops_cons (OpF.run rfl rfl fun q w H => ⟨_, w, exec_assign (.tmp 46), H.val (k := 12) (d := 46) (by kernel_rfl), Chg.refl _ _⟩) (ops_nil))))))))))))))))) ?_
    intro p v r W7 hv _ _ hcw
    obtain ⟨v1, v2, e9, _, hok⟩ := hv (9, 34) (by simp)
    obtain ⟨y10, z10, e10⟩ := hv (10, 44) (by simp)
    obtain ⟨y11, z11, e11⟩ := hv (11, 45) (by simp)
    obtain ⟨y12, z12, e12⟩ := hv (12, 46) (by simp)
    have e13 : v 13 = v 10 := hv (13, 9) (by simp)
    have e14 : v 14 = v 11 := hv (14, 10) (by simp)
    have e15 : v 15 = v 12 := hv (15, 11) (by simp)
    rw [e9] at e10 e11 e12
    rw [HLW.out.1] at e9 e10 e11 e12
    obtain f10 : v 10 = v1 := by simp only [Value.tuple.injEq, Array.mk.injEq, List.cons.injEq, and_true] at e10; simp only [e10.1, e10.2.1, e10.2.2]
    obtain f11 : v 11 = v2 := by simp only [Value.tuple.injEq, Array.mk.injEq, List.cons.injEq, and_true] at e11; simp only [e11.1, e11.2.1, e11.2.2]
    obtain f12 : v 12 = .int .i64 0 := by simp only [Value.tuple.injEq, Array.mk.injEq, List.cons.injEq, and_true] at e12; simp only [e12.1, e12.2.1, e12.2.2]
    obtain ⟨g, hg, _, _, _, hT1, hBo⟩ := hok HLW.out.1
    have HG := Lib.hid (HLW.out.2 g hg)
    have HQ := Lib.hid (And.intro trivial (And.intro (H5.out.trans hcw.drewl) (And.intro hT1 hBo)))
    have HSND := Lib.hid (show (lookT 9 t).isSome = true from HSB0.out.1)
    have HSB := Lib.hid (And.intro HSB0.out.2.1 HSB0.out.2.2.1)
    obtain ⟨x0, x1, x2, x3, x4, x5⟩ : _ ∧ _ ∧ _ ∧ _ ∧ _ ∧ _ := by
      have := (H5.out.trans hcw.drewl)
      exact (hcw.drewl.blk HB5.out id).cells6
    clear hv hcw hok hg hT1 hBo e10 e11 e12 hTab hBT hBX hNm HLW HSB0
    simp only [List.filter_nil, List.append_nil, putL, Act.put, List.setIfInBounds_toArray, List.set_cons_zero, List.set_cons_succ]
    refine ⟨by kernel_rfl, ?_⟩
    rw [e13, e14, e15, f10, f11, f12]
    clear e9 e13 e14 e15 f10 f11 f12
    obtain ⟨D1, A1, c1, hD1, rfl, hT⟩ := HQ.out.2.2.1
    obtain ⟨A3, c3, rfl, hBo⟩ := HQ.out.2.2.2
    have HTB := Lib.hid (And.intro (And.intro hD1 hT) hBo)
    clear hD1 hT hBo
    simp only [List.length_map]
    go_wp2_with fail
    have hih := holes_any n 9 B W7.heap.size W7 t Af cf Al cl Ar cr [] none 0 HSND.out (by simp only [List.length_nil, Nat.zero_add]; have := nodesB_mono (Nat.le_refl 9); omega) (Nat.le_trans HP.out.1 HQ.out.2.1.size) (Nat.le_refl _) (TyR.keep0 HQ.out.2.1 HP.out.2.2.1) (RowR.nil _ _ _ _ _)
    go_wp2_with fail
    refine hih.mono fun e w8 h => ?_
    obtain ⟨A8, c8, rfl, hr8, hc8⟩ := h
    clear hih
    have hcF : Chg (fun _ _ => False) W7 w8 := (Chg.refl (fun _ _ => False) W7).trans_new hc8 fun b t hb h => by have := h.1; omega
    have hHs : StrsR w8.heap.size w8 (.slice A8 (holesT n t []).length c8) (holesT n t []) := hr8.settleT (by decide) fun _ _ h => h
    have hHl : (holesT n t []).length ≤ 549755813888 := by
      have h1 := holes_len n 9 t [] HSND.out
      have h2 := nodesB_mono (Nat.le_refl 9)
      simp only [List.length_nil] at h1
      omega
    obtain ⟨hD1, hT⟩ := HTB.out.1
    have hBo := HTB.out.2
    have hBs := (hBo.keep hcF (fun _ _ => id) fun _ _ h => h).slr (by decide) 0
    have hTs : TysR (n + n + 1) w8.heap.size w8 (.slice A1 (names.map (tyAt g)).length c1) (names.map (tyAt g)) := SlR.imp (TysR.keep0 hcF hT) (fun b _ hl => hl.imp (fun h => Nat.lt_of_lt_of_le h (Nat.le_trans hD1 hcF.size)) id) fun _ _ h => TyR.more (Nat.le_trans hD1 hcF.size) h
    have hholes : ∀ s, s ∈ holesT n t [] ↔ inT n s t := fun s => holes_in
    have H8 := Lib.hid (And.intro hBs (And.intro hTs (And.intro hHs (And.intro (HQ.out.2.1.trans hcF) hholes))))
    simp only [List.length_map] at H8 ⊢
    clear hr8 hc8 hcF hHs hT hBo hBs hTs hholes hD1
    generalize holesT n t [] = hs at H8 hHl ⊢
    go_wp2_with fail
    go_loopw [13, 14, 15] (fun i _ _ wr => bkRel names w8 i wr) (fun i _ _ _ => names.length - (intOf i).toNat)
    case atStart => exact ⟨0, Nat.zero_le _, rfl, Chg.refl _ _⟩
    case round =>
      obtain ⟨i, hi, rfl, hch⟩ := hrel
      have q3 : IntKind.i64.wrap ((i : Int) + 1) = (i : Int) + 1 := IntWalk.i64_in _ ⟨by omega, by omega⟩
      by_cases hlt : i < names.length
      · have q1 : decide (i < names.length) = true := decide_eq_true hlt
        have q2 : (i : Int) < (names.length : Int) := by omega
        have hcw := H8.out.2.2.2.1.trans hch
        obtain ⟨bs, os, s, css, rfl, hks, _, ⟨rfl, hss⟩, hcell⟩ := SlR.at2 (SlR.keep HP.out.2.2.2.1 hcw (no_lets _ _) fun _ _ h => h) hlt
        have z0 : wr.cell? ⟨bs, os + i, none⟩ = some (.string s) := by simpa using hcell 0 _ rfl
        have HI := Lib.hid (And.intro hks hch)
        clear hks hch hcw hcell
        go_wp2_with fail
        go_loopw [14, 15] (fun th k wr' => bkIn hs s wr th k wr') (fun _ k _ => hs.length - (intOf k).toNat)
        case atStart => exact ⟨0, false, Nat.zero_le _, rfl, rfl, by simp, Chg.refl _ _⟩
        case round =>
          obtain ⟨k, b, hk, rfl, rfl, hb, hch2⟩ := hrel
          have p3 : IntKind.i64.wrap ((k : Int) + 1) = (k : Int) + 1 := IntWalk.i64_in _ ⟨by omega, by omega⟩
          by_cases hlt2 : k < hs.length
          · have p1 : decide (k < hs.length) = true := decide_eq_true hlt2
            have p2 : (k : Int) < (hs.length : Int) := by omega
            obtain ⟨bh, oh, y, csh, rfl, hky, _, ⟨rfl, hys⟩, hcellh⟩ := SlR.at2 (SlR.keep H8.out.2.2.1 (HI.out.2.trans hch2) (no_lets _ _) fun _ _ h => h) hlt2
            rename World => wi
            have v0 : wi.cell? ⟨bh, oh + k, none⟩ = some (.string y) := by simpa using hcellh 0 _ rfl
            have z0' := hch2.cell z0 fun _ => id
            obtain ⟨j1, j2⟩ := List.getElem?_eq_some_iff.1 hky
            have htk : hs.take (k + 1) = hs.take k ++ [y] := by rw [List.take_succ_eq_append_getElem j1, j2]
            cases b with
            | true =>
              have HK := Lib.hid (show bkIn hs s wr (.bool true) (.int .i64 ((k : Int) + 1)) wi.drew from ⟨k + 1, true, hlt2, by simp, rfl, by rw [htk]; simp [hb.1 rfl], hch2.drew⟩)
              clear hb hch2 hky hcellh j1 j2 htk
              go_wp2_with fail
              refine wp_region_still_tail 12 (by kernel_rfl) (by kernel_rfl) ?_
              simp only [List.take_succ_cons, List.take_zero, List.drop_succ_cons, List.drop_zero]
              repeat (with_reducible refine wpStill_step (fun K hK => ?_); go_simp; with_reducible refine hK _ ?_; clear hK K)
              try with_reducible refine wpStill_nil ?_
              go_wp2_with fail
              go_roundw
              case rel => exact HK.out
              case measure => simp [intOf]; omega
            | false =>
              have hns : ¬ s ∈ hs.take k := fun h => absurd (hb.2 h) (by decide)
              by_cases hys' : y = s
              · have q5 := str_eq hys'
                have HK := Lib.hid (show bkIn hs s wr (.bool true) (.int .i64 ((k : Int) + 1)) wi.drew from ⟨k + 1, true, hlt2, by simp, rfl, by rw [htk]; simp [hys'], hch2.drew⟩)
                clear hb hch2 hky hcellh j1 j2 htk hys' hns
                go_wp2_with fail
                refine wp_region_still_tail 12 (by kernel_rfl) (by kernel_rfl) ?_
                simp only [List.take_succ_cons, List.take_zero, List.drop_succ_cons, List.drop_zero]
                repeat (with_reducible refine wpStill_step (fun K hK => ?_); go_simp; with_reducible refine hK _ ?_; clear hK K)
                try with_reducible refine wpStill_nil ?_
                go_wp2_with fail
                go_roundw
                case rel => exact HK.out
                case measure => simp [intOf]; omega
              · have q5 := str_ne hys'
                have HK := Lib.hid (show bkIn hs s wr (.bool false) (.int .i64 ((k : Int) + 1)) wi.drew from ⟨k + 1, false, hlt2, by simp, rfl, by rw [htk]; simp [hns, Ne.symm hys'], hch2.drew⟩)
                clear hb hch2 hky hcellh j1 j2 htk hys' hns
                go_wp2_with fail
                refine wp_region_still_tail 12 (by kernel_rfl) (by kernel_rfl) ?_
                simp only [List.take_succ_cons, List.take_zero, List.drop_succ_cons, List.drop_zero]
                repeat (with_reducible refine wpStill_step (fun K hK => ?_); go_simp; with_reducible refine hK _ ?_; clear hK K)
                try with_reducible refine wpStill_nil ?_
                go_wp2_with fail
                go_roundw
                case rel => exact HK.out
                case measure => simp [intOf]; omega
          · have p1 : decide (k < hs.length) = false := decide_eq_false hlt2
            obtain rfl : k = hs.length := by omega
            rw [List.take_length] at hb
            rename World => wi
            have hall := HI.out.2.trans hch2
            obtain ⟨b6, o6, y, cs6, rfl, hky, hcl6, hy6, hcell6⟩ := SlR.at2 (SlR.keep H8.out.1 hall ⟨fun _ _ _ => id, fun _ _ => id⟩ fun _ _ h => h) (k := i) (by rw [List.length_map]; exact hlt)
            obtain rfl : cs6 = [.bool y] := hy6
            have y0 : wi.cell? ⟨b6, o6 + i, none⟩ = some (.bool y) := by simpa using hcell6 0 _ rfl
            have hys : y = isAt g s := by
              rw [List.getElem?_map, HI.out.1] at hky
              exact (Option.some.inj hky).symm
            have hyb : y = b := by
              have hG := HG.out s
              rw [hys]
              unfold isAt
              by_cases hin : inT n s t
              · have hsn : s ∈ names := List.mem_of_getElem? HI.out.1
                have : b = true := hb.2 ((H8.out.2.2.2.2 s).2 hin)
                rw [this, hG.1 hin, (assoc_some s HSB.out.2.1).2 hsn]
              · have : b = false := by
                  cases b with
                  | false => rfl
                  | true => exact absurd ((H8.out.2.2.2.2 s).1 (hb.1 rfl)) hin
                rw [this, hG.2 hin]
                rfl
            cases b with
            | false =>
              obtain rfl : y = false := hyb
              have HK := Lib.hid (show bkRel names w8 (.int .i64 ((i : Int) + 1)) wi.drew from ⟨i + 1, hlt, by simp, (HI.out.2.trans hch2).drew⟩)
              clear hb hch2 hall hky hcl6 hcell6 hys
              go_wp2_with fail
              refine wp_region_still_tail 17 (by kernel_rfl) (by kernel_rfl) ?_
              simp only [List.take_succ_cons, List.take_zero, List.drop_succ_cons, List.drop_zero]
              repeat (with_reducible refine wpStill_step (fun K hK => ?_); go_simp; with_reducible refine hK _ ?_; clear hK K)
              try with_reducible refine wpStill_nil ?_
              go_wp2_with fail
              go_roundw
              case rel => exact HK.out
              case measure => simp [intOf]; omega
            | true =>
              obtain rfl : y = true := hyb
              have hin : inT n s t := (H8.out.2.2.2.2 s).1 (hb.1 rfl)
              obtain ⟨bt, ot, x, Yf, yf, Yl, yl, Yr, yr, rfl, hkx, hRx, x0, x1, x2, x3, x4, x5⟩ := TysR.at_ (TysR.keep0 hall (by have h := H8.out.2.1; rw [← List.length_map (tyAt g)] at h; exact h)) (k := i) (by rw [List.length_map]; exact hlt)
              obtain ⟨ba, oa, z, Zf, zf, Zl, zl, Zr, zr, rfl, hkz, hRz, u0, u1, u2, u3, u4, u5⟩ := TysR.at_ (TysR.keep0 (H8.out.2.2.2.1.trans hall) HP.out.2.2.2.2) (k := i) (by have := HSB.out.2.1; omega)
              have q2a : (i : Int) < (args.length : Int) := by have := HSB.out.2.1; omega
              have hxz : x = z := by
                have hx : x = tyAt g s := by
                  rw [List.getElem?_map, HI.out.1] at hkx
                  exact (Option.some.inj hkx).symm
                have hz : assoc names args s = some z := assoc_at (k := i) (fun j hj y hy hxy => by
                  obtain ⟨m1, m2⟩ := List.getElem?_eq_some_iff.1 HI.out.1
                  obtain ⟨m3, m4⟩ := List.getElem?_eq_some_iff.1 hy
                  have := (List.pairwise_iff_getElem.1 HSB.out.2.2) j i m3 m1 hj
                  rw [m2, m4] at this
                  exact this hxy.symm) HI.out.1 hkz rfl
                rw [hx]
                unfold tyAt
                rw [(HG.out s).1 hin, hz]
                rfl
              have hdr := (Chg.refl (fun _ _ => False) wi).drew
              have hsm := rsame_any (n + n + 1) wi.drew.heap.size wi.drew x z Yf yf Yl yl Yr yr Zf zf Zl zl Zr zr (Nat.le_refl _) (TyR.more (HI.out.2.trans (hch2.trans hdr)).size (TyR.keep0 hdr hRx)) (TyR.more (Nat.le_trans HP.out.1 (H8.out.2.2.2.1.trans (hall.trans hdr)).size) (TyR.deep (TyR.keep0 hdr hRz) (by omega)))
              rw [eqB_true.2 hxz] at hsm
              have HK := Lib.hid ((HI.out.2.trans hch2).trans hdr)
              clear hb hch2 hall hky hcl6 hcell6 hys hin hkx hkz hRx hRz hxz hdr
              go_wp2_with fail
              refine wp_region_still_tail 17 (by kernel_rfl) (by kernel_rfl) ?_
              simp only [List.take_succ_cons, List.take_zero, List.drop_succ_cons, List.drop_zero]
              repeat (with_reducible refine wpStill_step (fun K hK => ?_); go_simp; with_reducible refine hK _ ?_; clear hK K)
              try with_reducible refine wpStill_nil ?_
              clear x0 x1 x2 x3 x4 x5 u0 u1 u2 u3 u4 u5 y0 z0
              change wpList _ _ _ _ _ wi.drew
              generalize wi.drew = wj at hsm HK ⊢
              go_wp2_with fail
              refine hsm.mono fun e w9 h => ?_
              obtain ⟨rfl, hc9⟩ := h
              clear hsm
              have HKK := Lib.hid (show bkRel names w8 (.int .i64 ((i : Int) + 1)) w9 from ⟨i + 1, hlt, by simp, HK.out.trans hc9⟩)
              clear hc9
              go_wp2_with fail
              go_roundw
              case rel => exact HKK.out
              case measure => simp [intOf]; omega
      · have q1 : decide (i < names.length) = false := decide_eq_false hlt
        obtain rfl : i = names.length := by omega
        have HK := Lib.hid (H8.out.2.2.2.1.trans hch)
        clear hch
        go_wp2_with fail
        go_ret
        exact ⟨rfl, HK.out⟩
  · have q9 : (subE t names args != 0) = true := by simp [hE]
    have hans := answers8_any w5 (HP.out.2.1.keep0 (H4.out.2.2.trans hc5))
    have HY := Lib.hid (H4.out.2.2.trans hc5)
    clear hc5 H4 HL
    generalize subE t names args = E at q9 ⊢
    clear hE
    go_wp2_with fail
    refine hans.mono fun e w6 h => ?_
    obtain ⟨rfl, hc6⟩ := h
    go_wp2_with fail
    go_ret
    exact ⟨rfl, HY.out.trans hc6⟩
end Go.Proofs.YtgemacdnncjmdaaDoor
