/-
  The walk of UnifyPlain.
-/
import Derived.Test.YtefiefckjoledaaDoorUniU
import Derived.Test.YtefiefckjoledaaDoorTTypesTwiceW
namespace Go.Proofs.YtefiefckjoledaaDoor
open Go.RowKit
set_option linter.unusedVariables false
set_option linter.unusedSimpArgs false

def plF (n : Nat) (a b : Ty) (c : Int) : Nat → (Nat → Value) → Nat × Nat → World → Prop
  | 0, v, _, w => TyU n w (v 0) a
  | 1, v, _, w => TysU n w (v 1) [a]
  | 2, v, _, w => TysU n w (v 2) [a]
  | 3, v, _, w => TyU n w (v 3) b
  | 4, v, _, w => TysU n w (v 4) [b]
  | 5, v, _, w => TysU n w (v 5) [b]
  | 6, v, _, _ => ∃ x y, v 6 = .tuple #[x, y, .int .i64 c]
  | 7, v, _, _ => ∃ x y, v 7 = .tuple #[x, y, .int .i64 c]
  | 10, v, _, _ => v 10 = .int .i64 c
  | 13, v, _, _ => v 13 = .int .i64 c
  | _, _, _, _ => True
theorem plF_dep {n : Nat} {a b : Ty} {c : Int} {md : Region.Mode} {ops : Array Oper} (j : Nat) (val val' : Nat → Value) (r : Nat × Nat) (w : World) (h : val j = val' j) (hk : ∀ k, waitsB md ops j k = true → val k = val' k) (hF : plF n a b c j val r w) : plF n a b c j val' r w := by
  unfold plF at hF ⊢
  split at hF <;> first | (rw [← h]; exact hF) | trivial
theorem plF_mono {n : Nat} {a b : Ty} {c : Int} (j : Nat) (val : Nat → Value) (r : Nat × Nat) (w w' : World) (hc : Chg (fun _ _ => False) w w') (hF : plF n a b c j val r w) : plF n a b c j val r w' := by
  unfold plF at hF ⊢
  split at hF <;> first | exact TyU.keep hF hc | exact TysU.keep hF hc | exact hF | trivial
theorem uniE_plain {n : Nat} {a b : Ty} (h : deepT n a) : uniE n [] [a] [b] = if (soundT a && soundT b) = true then (if eqB a b = true then 0 else 9) else 1 := by
  unfold uniE
  have h1 : ([a] ++ [b]).all soundT = (soundT a && soundT b) := by simp
  rw [h1]
  by_cases hs : (soundT a && soundT b) = true
  · rw [if_pos hs, if_pos hs, if_pos ⟨by simp, rfl⟩]
    have : (matchL (matchT [] n) (noNm [a]) (noNm [b]) fun _ => none).isSome = eqB a b := by
      rw [← match_plain h]
      show (if eqB ByteArray.empty ByteArray.empty = true then _ else _ : Option (ByteArray → Option Ty)).isSome = _
      rw [if_pos (eqB_self _)]
      cases matchT [] n a b (fun _ => none) <;> rfl
    rw [this]
  · rw [if_neg hs, if_neg hs]
theorem exec_call3n {a : Act} {w : World} {dst : Option Nat} {ty : TypeId} {pos : String} {af : Array Edge} {g : Option (Nat × Bool)} (f : FuncId) (v : Value) (y z : Operand) (ts : Array TypeId) (hf : ∀ ys, (callFunc f ys).run Tryd.prog w = .ok (.enter f ys) w) : (execOp a.eval { dst := dst, op := .call { callee := .value (.func f), args := #[.const v, y, z], argTypes := ts }, type := ty, pos := pos, after := af, guard := g }).run Tryd.prog w = .ok (.enter f #[v, a.eval y, a.eval z]) w := by
  rw [exec_call f _ ts hf]; simp [Act.eval]
set_option maxRecDepth 100000 in
set_option maxHeartbeats 8000000 in
theorem unifyPlain_walk (n B : Nat) (w : World) (a b : Ty) (Af : Option Addr) (cf : Nat) (Al : Option Addr) (cl : Nat) (Ar : Option Addr) (cr : Nat) (Bf : Option Addr) (df : Nat) (Bl : Option Addr) (dl : Nat) (Br : Option Addr) (dr : Nat) (hB : B ≤ w.heap.size) (hTab : Tabs w)
    (hA : TyR n B w (tyCells a.kind a.name a.con Af a.fields.length cf Al a.list.length cl Ar a.res.length cr) a) (hC : TyR n B w (tyCells b.kind b.name b.con Bf b.fields.length df Bl b.list.length dl Br b.res.length dr) b) :
    Calls Tryd.prog 5 #[.agg #[.int .i64 a.kind, .string a.name, .int .i64 a.con, .slice Af a.fields.length cf, .slice Al a.list.length cl, .slice Ar a.res.length cr], .agg #[.int .i64 b.kind, .string b.name, .int .i64 b.con, .slice Bf b.fields.length df, .slice Bl b.list.length dl, .slice Br b.res.length dr]] w fun e w' => e = .returned (.bool true) ∧ Chg (fun _ _ => False) w w' := by
  have hc0 := (chg_alloc w (.cells #[.int .i64 a.kind, .string a.name, .int .i64 a.con, .slice Af a.fields.length cf, .slice Al a.list.length cl, .slice Ar a.res.length cr] 39)).alloc (.cells #[.int .i64 b.kind, .string b.name, .int .i64 b.con, .slice Bf b.fields.length df, .slice Bl b.list.length dl, .slice Br b.res.length dr] 39)
  have hb1 := (Blk.new w 39 #[.int .i64 a.kind, .string a.name, .int .i64 a.con, .slice Af a.fields.length cf, .slice Al a.list.length cl, .slice Ar a.res.length cr]).alloc (.cells #[.int .i64 b.kind, .string b.name, .int .i64 b.con, .slice Bf b.fields.length df, .slice Bl b.list.length dl, .slice Br b.res.length dr] 39)
  have hb2 := Blk.new (w.alloc (.cells #[.int .i64 a.kind, .string a.name, .int .i64 a.con, .slice Af a.fields.length cf, .slice Al a.list.length cl, .slice Ar a.res.length cr] 39)) 39 #[.int .i64 b.kind, .string b.name, .int .i64 b.con, .slice Bf b.fields.length df, .slice Bl b.list.length dl, .slice Br b.res.length dr]
  simp only [World.size_alloc] at hb2
  have hBA : BoxU n _ _ a := ⟨_, hb1, rfl, (TyU.of hB hA).keep hc0⟩
  have hBB : BoxU n _ _ b := ⟨_, hb2, rfl, (TyU.of hB hC).keep hc0⟩
  have HH := Lib.hid (And.intro (hTab.keep0 hc0) (And.intro hBA (And.intro hBB (And.intro hc0 (And.intro hb1 hb2)))))
  have HT := Lib.hid (And.intro hB (And.intro hTab (And.intro hA hC)))
  have HE := Lib.hid hA.deepT
  clear hB hTab hA hC hb1 hb2 hBA hBB hc0
  go_enter Tryd.func5, Tryd.ntmps5
  go_wp2_with fail
  generalize (w.alloc (.cells #[.int .i64 a.kind, .string a.name, .int .i64 a.con, .slice Af a.fields.length cf, .slice Al a.list.length cl, .slice Ar a.res.length cr] 39)).alloc (.cells #[.int .i64 b.kind, .string b.name, .int .i64 b.con, .slice Bf b.fields.length df, .slice Bl b.list.length dl, .slice Br b.res.length dr] 39) = W at HH ⊢
  generalize w.heap.size + 1 = g3 at HH ⊢
  generalize w.heap.size = g2 at HH ⊢
  have hdr := (Chg.refl (fun _ _ => False) W).drew
  have hTab := HH.out.1.keep0 hdr
  have hA := HH.out.2.1.keep hdr
  have hB := HH.out.2.2.1.keep hdr
  have HX := Lib.hid HH.out.2.2.2
  clear HH
  refine wp_region_facts [(0, 9), (1, 10), (2, 11), (3, 12), (4, 13), (5, 14), (6, 15), (7, 8), (8, 16), (9, 17), (10, 18), (11, 5), (12, 6), (13, 7)] [] (plF n a b (uniE n [] [a] [b])) (by kernel_rfl) (by kernel_rfl) plF_dep plF_mono (ops_cons (OpF.run rfl rfl fun q w H => by
    obtain ⟨cs, hb, hsz, hu⟩ := hA.keep H.chg
    exact ⟨_, w, exec_load 39 (.tmp 2) (H.same 2 (by kernel_rfl)) hb Tryd.underlying39 rfl (by rw [hsz]; exact infoSz6), hu, Chg.refl _ _⟩) (ops_cons (OpF.run rfl rfl fun q w H => by
    obtain ⟨r0, h0⟩ := H.fact 0 (by kernel_rfl)
    have h0 := fact_at (p := fun v => TyU n w v a) (k := 0) (d := 9) h0 (by kernel_rfl)
    obtain ⟨v0, v1, v2, v3, v4, v5, hv⟩ := tyU_cells h0
    exact ⟨_, _, exec_bt1 (.tmp 9) hv, TysU.built (hv ▸ h0), chg_alloc _ _⟩) (ops_cons (OpF.call rfl rfl fun q w H => by
    obtain ⟨r1, h1⟩ := H.fact 1 (by kernel_rfl)
    have h1 := fact_at (p := fun v => TysU n w v [a]) (k := 1) (d := 10) h1 (by kernel_rfl)
    exact ⟨_, _, exec_call1 _ _ _ (enters_owns8 w), owns8U h1 (by simp)⟩) (ops_cons (OpF.run rfl rfl fun q w H => by
    obtain ⟨cs, hb, hsz, hu⟩ := hB.keep H.chg
    exact ⟨_, w, exec_load 39 (.tmp 3) (H.same 3 (by kernel_rfl)) hb Tryd.underlying39 rfl (by rw [hsz]; exact infoSz6), hu, Chg.refl _ _⟩) (ops_cons (OpF.run rfl rfl fun q w H => by
    obtain ⟨r3, h3⟩ := H.fact 3 (by kernel_rfl)
    have h3 := fact_at (p := fun v => TyU n w v b) (k := 3) (d := 12) h3 (by kernel_rfl)
    obtain ⟨v0, v1, v2, v3, v4, v5, hv⟩ := tyU_cells h3
    exact ⟨_, _, exec_bt1 (.tmp 12) hv, TysU.built (hv ▸ h3), chg_alloc _ _⟩) (ops_cons (OpF.call rfl rfl fun q w H => by
    obtain ⟨r4, h4⟩ := H.fact 4 (by kernel_rfl)
    have h4 := fact_at (p := fun v => TysU n w v [b]) (k := 4) (d := 13) h4 (by kernel_rfl)
    exact ⟨_, _, exec_call1 _ _ _ (enters_owns8 w), owns8U h4 (by simp)⟩) (ops_cons (OpF.call rfl rfl fun q w H => by
    obtain ⟨r2, h2⟩ := H.fact 2 (by kernel_rfl)
    have h2 := fact_at (p := fun v => TysU n w v [a]) (k := 2) (d := 11) h2 (by kernel_rfl)
    obtain ⟨r5, h5⟩ := H.fact 5 (by kernel_rfl)
    have h5 := fact_at (p := fun v => TysU n w v [b]) (k := 5) (d := 14) h5 (by kernel_rfl)
    exact ⟨_, _, exec_call3n _ _ _ _ _ (enters_unify w), (unifyU (n := n) (m := n) (names := []) (want := [a]) (have_ := [b]) (hTab.keep0 H.chg) ⟨0, none, 0, Nat.zero_le _, rfl, SlR.nil _ _ _ _ _ _ _⟩ h2 h5 (by simp) (by simp) (by simp)).mono fun e w' ⟨v, he, hv, hc⟩ => ⟨v, he, by obtain ⟨v1, v2, e1, _⟩ := hv; exact ⟨v1, v2, e1⟩, hc⟩⟩) (ops_cons (OpF.run rfl rfl fun q w H => by
    obtain ⟨r6, h6⟩ := H.fact 6 (by kernel_rfl)
    have h6 := fact_at (p := fun v => ∃ x y, v = .tuple #[x, y, .int .i64 (uniE n [] [a] [b])]) (k := 6) (d := 15) h6 (by kernel_rfl)
    exact ⟨_, w, exec_move (.tmp 15), h6, Chg.refl _ _⟩) (ops_cons (OpF.run rfl rfl fun q w H => by
    obtain ⟨r7, h7⟩ := H.fact 7 (by kernel_rfl)
    have h7 := fact_at (p := fun v => ∃ x y, v = .tuple #[x, y, .int .i64 (uniE n [] [a] [b])]) (k := 7) (d := 8) h7 (by kernel_rfl)
    obtain ⟨x, y, e1⟩ := h7
    exact ⟨_, w, exec_extract (.tmp 8) 0 e1 rfl, trivial, Chg.refl _ _⟩) (ops_cons (OpF.run rfl rfl fun q w H => by
    obtain ⟨r7, h7⟩ := H.fact 7 (by kernel_rfl)
    have h7 := fact_at (p := fun v => ∃ x y, v = .tuple #[x, y, .int .i64 (uniE n [] [a] [b])]) (k := 7) (d := 8) h7 (by kernel_rfl)
    obtain ⟨x, y, e1⟩ := h7
    exact ⟨_, w, exec_extract (.tmp 8) 1 e1 rfl, trivial, Chg.refl _ _⟩) (ops_cons (OpF.run rfl rfl fun q w H => by
    obtain ⟨r7, h7⟩ := H.fact 7 (by kernel_rfl)
    have h7 := fact_at (p := fun v => ∃ x y, v = .tuple #[x, y, .int .i64 (uniE n [] [a] [b])]) (k := 7) (d := 8) h7 (by kernel_rfl)
    obtain ⟨x, y, e1⟩ := h7
    exact ⟨_, w, exec_extract (.tmp 8) 2 e1 rfl, rfl, Chg.refl _ _⟩) (ops_cons (OpF.run rfl rfl fun q w H => ⟨_, w, exec_assign (.tmp 16), trivial, Chg.refl _ _⟩) (ops_cons (OpF.run rfl rfl fun q w H => ⟨_, w, exec_assign (.tmp 17), trivial, Chg.refl _ _⟩) (ops_cons (OpF.run rfl rfl fun q w H => by
    obtain ⟨r10, h10⟩ := H.fact 10 (by kernel_rfl)
    have h10 := fact_at (p := fun v => v = .int .i64 (uniE n [] [a] [b])) (k := 10) (d := 18) h10 (by kernel_rfl)
    exact ⟨_, w, exec_assign (.tmp 18), h10, Chg.refl _ _⟩) (ops_nil))))))))))))))) ?_
  intro p v r w3 hv _ _ hcw
  have e13 : v 13 = _ := hv (13, 7) (by simp)
  have e10 : v 10 = _ := hv (10, 18) (by simp)
  clear hv
  simp only [List.filter_nil, List.append_nil, putL, Act.put, List.setIfInBounds_toArray, List.set_cons_zero, List.set_cons_succ]
  refine ⟨by kernel_rfl, ?_⟩
  rw [e13, e10]
  clear e13 e10
  rw [uniE_plain HE.out]
  clear HE
  cases hsa : soundT a with
  | false =>
    rw [show (false && soundT b) = false from rfl, if_neg (by decide)]
    have hq := hcw.drewl
    have hq' := HX.out.1.trans hq
    obtain ⟨x0, x1, x2, x3, x4, x5⟩ := (hq.blk HX.out.2.1 id).cells6
    obtain ⟨y0, y1, y2, y3, y4, y5⟩ := (hq.blk HX.out.2.2 id).cells6
    clear hcw hTab hA hB
    replace hsa := Lib.hid hsa
    have hcall := answers8_any _ (HT.out.2.1.keep0 hq')

    go_wp2_with fail
    refine hcall.mono fun e w4 h => ?_
    obtain ⟨rfl, hc4⟩ := h
    clear x0 x1 x2 x3 x4 x5 y0 y1 y2 y3 y4 y5
    clear hcall
    replace hq := hq.trans hc4
    clear hc4
    replace hq' := HX.out.1.trans hq
    obtain ⟨x0, x1, x2, x3, x4, x5⟩ := (hq.blk HX.out.2.1 id).cells6
    obtain ⟨y0, y1, y2, y3, y4, y5⟩ := (hq.blk HX.out.2.2 id).cells6
    have hcall := rsound_any n B _ a Af cf Al cl Ar cr (Nat.le_trans HT.out.1 hq'.size) (TyR.keep0 hq' HT.out.2.2.1)
    rw [hsa.out] at hcall
    go_wp2_with fail
    refine hcall.mono fun e w5 h => ?_
    obtain ⟨rfl, hc5⟩ := h
    clear x0 x1 x2 x3 x4 x5 y0 y1 y2 y3 y4 y5
    clear hcall
    replace hq := hq.trans hc5
    clear hc5
    replace hq' := HX.out.1.trans hq
    obtain ⟨x0, x1, x2, x3, x4, x5⟩ := (hq.blk HX.out.2.1 id).cells6
    obtain ⟨y0, y1, y2, y3, y4, y5⟩ := (hq.blk HX.out.2.2 id).cells6
    have hcall := answers8_any _ (HT.out.2.1.keep0 hq')

    go_wp2_with fail
    refine hcall.mono fun e w6 h => ?_
    obtain ⟨rfl, hc6⟩ := h
    clear x0 x1 x2 x3 x4 x5 y0 y1 y2 y3 y4 y5
    clear hcall
    replace hq := hq.trans hc6
    clear hc6
    replace hq' := HX.out.1.trans hq
    obtain ⟨x0, x1, x2, x3, x4, x5⟩ := (hq.blk HX.out.2.1 id).cells6
    obtain ⟨y0, y1, y2, y3, y4, y5⟩ := (hq.blk HX.out.2.2 id).cells6
    go_wp2_with fail
    go_ret
    exact ⟨rfl, hq'⟩
  | true =>
    cases hsb : soundT b with
    | false =>
      rw [show (true && false) = false from rfl, if_neg (by decide)]
      have hq := hcw.drewl
      have hq' := HX.out.1.trans hq
      obtain ⟨x0, x1, x2, x3, x4, x5⟩ := (hq.blk HX.out.2.1 id).cells6
      obtain ⟨y0, y1, y2, y3, y4, y5⟩ := (hq.blk HX.out.2.2 id).cells6
      clear hcw hTab hA hB
      replace hsa := Lib.hid hsa
      replace hsb := Lib.hid hsb
      have hcall := answers8_any _ (HT.out.2.1.keep0 hq')

      go_wp2_with fail
      refine hcall.mono fun e w4 h => ?_
      obtain ⟨rfl, hc4⟩ := h
      clear x0 x1 x2 x3 x4 x5 y0 y1 y2 y3 y4 y5
      clear hcall
      replace hq := hq.trans hc4
      clear hc4
      replace hq' := HX.out.1.trans hq
      obtain ⟨x0, x1, x2, x3, x4, x5⟩ := (hq.blk HX.out.2.1 id).cells6
      obtain ⟨y0, y1, y2, y3, y4, y5⟩ := (hq.blk HX.out.2.2 id).cells6
      have hcall := rsound_any n B _ a Af cf Al cl Ar cr (Nat.le_trans HT.out.1 hq'.size) (TyR.keep0 hq' HT.out.2.2.1)
      rw [hsa.out] at hcall
      go_wp2_with fail
      refine hcall.mono fun e w5 h => ?_
      obtain ⟨rfl, hc5⟩ := h
      clear x0 x1 x2 x3 x4 x5 y0 y1 y2 y3 y4 y5
      clear hcall
      replace hq := hq.trans hc5
      clear hc5
      replace hq' := HX.out.1.trans hq
      obtain ⟨x0, x1, x2, x3, x4, x5⟩ := (hq.blk HX.out.2.1 id).cells6
      obtain ⟨y0, y1, y2, y3, y4, y5⟩ := (hq.blk HX.out.2.2 id).cells6
      have hcall := rsound_any n B _ b Bf df Bl dl Br dr (Nat.le_trans HT.out.1 hq'.size) (TyR.keep0 hq' HT.out.2.2.2)
      rw [hsb.out] at hcall
      go_wp2_with fail
      refine hcall.mono fun e w6 h => ?_
      obtain ⟨rfl, hc6⟩ := h
      clear x0 x1 x2 x3 x4 x5 y0 y1 y2 y3 y4 y5
      clear hcall
      replace hq := hq.trans hc6
      clear hc6
      replace hq' := HX.out.1.trans hq
      obtain ⟨x0, x1, x2, x3, x4, x5⟩ := (hq.blk HX.out.2.1 id).cells6
      obtain ⟨y0, y1, y2, y3, y4, y5⟩ := (hq.blk HX.out.2.2 id).cells6
      have hcall := answers8_any _ (HT.out.2.1.keep0 hq')

      go_wp2_with fail
      refine hcall.mono fun e w7 h => ?_
      obtain ⟨rfl, hc7⟩ := h
      clear x0 x1 x2 x3 x4 x5 y0 y1 y2 y3 y4 y5
      clear hcall
      replace hq := hq.trans hc7
      clear hc7
      replace hq' := HX.out.1.trans hq
      obtain ⟨x0, x1, x2, x3, x4, x5⟩ := (hq.blk HX.out.2.1 id).cells6
      obtain ⟨y0, y1, y2, y3, y4, y5⟩ := (hq.blk HX.out.2.2 id).cells6
      go_wp2_with fail
      go_ret
      exact ⟨rfl, hq'⟩
    | true =>
      rw [show (true && true) = true from rfl, if_pos rfl]
      cases hab : eqB a b with
      | true =>
        rw [if_pos rfl]
        have hq := hcw.drewl
        have hq' := HX.out.1.trans hq
        obtain ⟨x0, x1, x2, x3, x4, x5⟩ := (hq.blk HX.out.2.1 id).cells6
        obtain ⟨y0, y1, y2, y3, y4, y5⟩ := (hq.blk HX.out.2.2 id).cells6
        clear hcw hTab hA hB
        replace hsa := Lib.hid hsa
        replace hsb := Lib.hid hsb
        replace hab := Lib.hid hab
        have hcall := answers8_any _ (HT.out.2.1.keep0 hq')

        go_wp2_with fail
        refine hcall.mono fun e w4 h => ?_
        obtain ⟨rfl, hc4⟩ := h
        clear x0 x1 x2 x3 x4 x5 y0 y1 y2 y3 y4 y5
        clear hcall
        replace hq := hq.trans hc4
        clear hc4
        replace hq' := HX.out.1.trans hq
        obtain ⟨x0, x1, x2, x3, x4, x5⟩ := (hq.blk HX.out.2.1 id).cells6
        obtain ⟨y0, y1, y2, y3, y4, y5⟩ := (hq.blk HX.out.2.2 id).cells6
        have hcall := rsound_any n B _ a Af cf Al cl Ar cr (Nat.le_trans HT.out.1 hq'.size) (TyR.keep0 hq' HT.out.2.2.1)
        rw [hsa.out] at hcall
        go_wp2_with fail
        refine hcall.mono fun e w5 h => ?_
        obtain ⟨rfl, hc5⟩ := h
        clear x0 x1 x2 x3 x4 x5 y0 y1 y2 y3 y4 y5
        clear hcall
        replace hq := hq.trans hc5
        clear hc5
        replace hq' := HX.out.1.trans hq
        obtain ⟨x0, x1, x2, x3, x4, x5⟩ := (hq.blk HX.out.2.1 id).cells6
        obtain ⟨y0, y1, y2, y3, y4, y5⟩ := (hq.blk HX.out.2.2 id).cells6
        have hcall := rsound_any n B _ b Bf df Bl dl Br dr (Nat.le_trans HT.out.1 hq'.size) (TyR.keep0 hq' HT.out.2.2.2)
        rw [hsb.out] at hcall
        go_wp2_with fail
        refine hcall.mono fun e w6 h => ?_
        obtain ⟨rfl, hc6⟩ := h
        clear x0 x1 x2 x3 x4 x5 y0 y1 y2 y3 y4 y5
        clear hcall
        replace hq := hq.trans hc6
        clear hc6
        replace hq' := HX.out.1.trans hq
        obtain ⟨x0, x1, x2, x3, x4, x5⟩ := (hq.blk HX.out.2.1 id).cells6
        obtain ⟨y0, y1, y2, y3, y4, y5⟩ := (hq.blk HX.out.2.2 id).cells6
        have hcall := rsame_any n B _ a b Af cf Al cl Ar cr Bf df Bl dl Br dr (Nat.le_trans HT.out.1 hq'.size) (TyR.keep0 hq' HT.out.2.2.1) (TyR.keep0 hq' HT.out.2.2.2)
        rw [hab.out] at hcall
        go_wp2_with fail
        refine hcall.mono fun e w7 h => ?_
        obtain ⟨rfl, hc7⟩ := h
        clear x0 x1 x2 x3 x4 x5 y0 y1 y2 y3 y4 y5
        clear hcall
        replace hq := hq.trans hc7
        clear hc7
        replace hq' := HX.out.1.trans hq
        obtain ⟨x0, x1, x2, x3, x4, x5⟩ := (hq.blk HX.out.2.1 id).cells6
        obtain ⟨y0, y1, y2, y3, y4, y5⟩ := (hq.blk HX.out.2.2 id).cells6
        go_wp2_with fail
        go_ret
        exact ⟨rfl, hq'⟩
      | false =>
        rw [if_neg (by decide)]
        have hq := hcw.drewl
        have hq' := HX.out.1.trans hq
        obtain ⟨x0, x1, x2, x3, x4, x5⟩ := (hq.blk HX.out.2.1 id).cells6
        obtain ⟨y0, y1, y2, y3, y4, y5⟩ := (hq.blk HX.out.2.2 id).cells6
        clear hcw hTab hA hB
        replace hsa := Lib.hid hsa
        replace hsb := Lib.hid hsb
        replace hab := Lib.hid hab
        have hcall := answers8_any _ (HT.out.2.1.keep0 hq')

        go_wp2_with fail
        refine hcall.mono fun e w4 h => ?_
        obtain ⟨rfl, hc4⟩ := h
        clear x0 x1 x2 x3 x4 x5 y0 y1 y2 y3 y4 y5
        clear hcall
        replace hq := hq.trans hc4
        clear hc4
        replace hq' := HX.out.1.trans hq
        obtain ⟨x0, x1, x2, x3, x4, x5⟩ := (hq.blk HX.out.2.1 id).cells6
        obtain ⟨y0, y1, y2, y3, y4, y5⟩ := (hq.blk HX.out.2.2 id).cells6
        have hcall := rsound_any n B _ a Af cf Al cl Ar cr (Nat.le_trans HT.out.1 hq'.size) (TyR.keep0 hq' HT.out.2.2.1)
        rw [hsa.out] at hcall
        go_wp2_with fail
        refine hcall.mono fun e w5 h => ?_
        obtain ⟨rfl, hc5⟩ := h
        clear x0 x1 x2 x3 x4 x5 y0 y1 y2 y3 y4 y5
        clear hcall
        replace hq := hq.trans hc5
        clear hc5
        replace hq' := HX.out.1.trans hq
        obtain ⟨x0, x1, x2, x3, x4, x5⟩ := (hq.blk HX.out.2.1 id).cells6
        obtain ⟨y0, y1, y2, y3, y4, y5⟩ := (hq.blk HX.out.2.2 id).cells6
        have hcall := rsound_any n B _ b Bf df Bl dl Br dr (Nat.le_trans HT.out.1 hq'.size) (TyR.keep0 hq' HT.out.2.2.2)
        rw [hsb.out] at hcall
        go_wp2_with fail
        refine hcall.mono fun e w6 h => ?_
        obtain ⟨rfl, hc6⟩ := h
        clear x0 x1 x2 x3 x4 x5 y0 y1 y2 y3 y4 y5
        clear hcall
        replace hq := hq.trans hc6
        clear hc6
        replace hq' := HX.out.1.trans hq
        obtain ⟨x0, x1, x2, x3, x4, x5⟩ := (hq.blk HX.out.2.1 id).cells6
        obtain ⟨y0, y1, y2, y3, y4, y5⟩ := (hq.blk HX.out.2.2 id).cells6
        have hcall := rsame_any n B _ a b Af cf Al cl Ar cr Bf df Bl dl Br dr (Nat.le_trans HT.out.1 hq'.size) (TyR.keep0 hq' HT.out.2.2.1) (TyR.keep0 hq' HT.out.2.2.2)
        rw [hab.out] at hcall
        go_wp2_with fail
        refine hcall.mono fun e w7 h => ?_
        obtain ⟨rfl, hc7⟩ := h
        clear x0 x1 x2 x3 x4 x5 y0 y1 y2 y3 y4 y5
        clear hcall
        replace hq := hq.trans hc7
        clear hc7
        replace hq' := HX.out.1.trans hq
        obtain ⟨x0, x1, x2, x3, x4, x5⟩ := (hq.blk HX.out.2.1 id).cells6
        obtain ⟨y0, y1, y2, y3, y4, y5⟩ := (hq.blk HX.out.2.2 id).cells6
        have hcall := rsame_any n B _ a b Af cf Al cl Ar cr Bf df Bl dl Br dr (Nat.le_trans HT.out.1 hq'.size) (TyR.keep0 hq' HT.out.2.2.1) (TyR.keep0 hq' HT.out.2.2.2)
        rw [hab.out] at hcall
        go_wp2_with fail
        refine hcall.mono fun e w8 h => ?_
        obtain ⟨rfl, hc8⟩ := h
        clear x0 x1 x2 x3 x4 x5 y0 y1 y2 y3 y4 y5
        clear hcall
        replace hq := hq.trans hc8
        clear hc8
        replace hq' := HX.out.1.trans hq
        obtain ⟨x0, x1, x2, x3, x4, x5⟩ := (hq.blk HX.out.2.1 id).cells6
        obtain ⟨y0, y1, y2, y3, y4, y5⟩ := (hq.blk HX.out.2.2 id).cells6
        go_wp2_with fail
        go_ret
        exact ⟨rfl, hq'⟩
end Go.Proofs.YtefiefckjoledaaDoor
