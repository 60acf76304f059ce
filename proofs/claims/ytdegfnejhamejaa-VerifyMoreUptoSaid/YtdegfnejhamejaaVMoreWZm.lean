/-
  The walk of the statement VerifyMore.
-/
import Derived.Test.YtdegfnejhamejaaVMoreN2Zm
import Derived.Test.YtdegfnejhamejaaVSizeZm
namespace Go.Proofs.Ytdegfnejhamejaa
open Go.RowKit
set_option linter.unusedVariables false
set_option linter.unusedSimpArgs false

/-- idle, and where its parts lie. -/
def IdleAt (w : World) (e : Ending) (w' : World) : Prop := e = .returned (.agg #[.slice none 0 0, .slice (some ⟨w.heap.size + 1 + 1, 0, none⟩) 1 1]) ∧ Blk w' (w.heap.size + 1) 50 #[.int .i64 35, .int .i64 0, .int .i64 0, .int .u64 0, .slice none 0 0] ∧
  Blk w' (w.heap.size + 1 + 1) 34 #[.int .i64 0, .slice none 0 0, .slice none 0 0, .int .i64 0, .slice (some ⟨w.heap.size + 1, 0, none⟩) 1 1] ∧ Chg (fun _ _ => False) w w'
set_option maxRecDepth 100000 in
set_option maxHeartbeats 4000000 in
theorem idle_at (w : World) : Calls Try.prog 10 #[] w (IdleAt w) := by
  go_enter Try.func10, Try.ntmps10
  go_wp2_with fail
  have h0 := ((Blk.new w 25 #[.slice none 0 0, .slice (some ⟨w.heap.size + 1 + 1, 0, none⟩) 1 1]).alloc (.cells #[.int .i64 35, .int .i64 0, .int .i64 0, .int .u64 0, .slice none 0 0] 50)).alloc (.cells #[.int .i64 0, .slice none 0 0, .slice none 0 0, .int .i64 0, .slice (some ⟨w.heap.size + 1, 0, none⟩) 1 1] 34)
  have h1 := (Blk.new (w.alloc (.cells #[.slice none 0 0, .slice (some ⟨w.heap.size + 1 + 1, 0, none⟩) 1 1] 25)) 50 #[.int .i64 35, .int .i64 0, .int .i64 0, .int .u64 0, .slice none 0 0]).alloc (.cells #[.int .i64 0, .slice none 0 0, .slice none 0 0, .int .i64 0, .slice (some ⟨w.heap.size + 1, 0, none⟩) 1 1] 34)
  have h2 := Blk.new ((w.alloc (.cells #[.slice none 0 0, .slice (some ⟨w.heap.size + 1 + 1, 0, none⟩) 1 1] 25)).alloc (.cells #[.int .i64 35, .int .i64 0, .int .i64 0, .int .u64 0, .slice none 0 0] 50)) 34 #[.int .i64 0, .slice none 0 0, .slice none 0 0, .int .i64 0, .slice (some ⟨w.heap.size + 1, 0, none⟩) 1 1]
  have hc := ((chg_alloc w (.cells #[.slice none 0 0, .slice (some ⟨w.heap.size + 1 + 1, 0, none⟩) 1 1] 25)).alloc (.cells #[.int .i64 35, .int .i64 0, .int .i64 0, .int .u64 0, .slice none 0 0] 50)).alloc (.cells #[.int .i64 0, .slice none 0 0, .slice none 0 0, .int .i64 0, .slice (some ⟨w.heap.size + 1, 0, none⟩) 1 1] 34)
  rw [World.size_alloc] at h1
  rw [World.size_alloc, World.size_alloc] at h2
  generalize ((w.alloc _).alloc _).alloc _ = w1 at h0 h1 h2 hc ⊢
  have y0 : w1.cell? ⟨w.heap.size, 0, none⟩ = some (.slice none 0 0) := by simpa using h0.cell 0
  have y1 : w1.cell? ⟨w.heap.size, 1, none⟩ = some (.slice (some ⟨w.heap.size + 1 + 1, 0, none⟩) 1 1) := by simpa using h0.cell 1
  refine bodyPost_ret (v := .agg #[.slice none 0 0, .slice (some ⟨w.heap.size + 1 + 1, 0, none⟩) 1 1]) (by simp [results, Try.results10, go_sem, y0, y1]) rfl ?_
  exact ⟨rfl, h1, h2, hc⟩
theorem func_one {w : World} {b1 : Nat} (h1 : Blk w b1 50 #[.int .i64 35, .int .i64 0, .int .i64 0, .int .u64 0, .slice none 0 0]) : FuncO 0 w [.int .i64 0, .slice none 0 0, .slice none 0 0, .int .i64 0, .slice (some ⟨b1, 0, none⟩) 1 1] idleF := by
  have hz : I64 0 := by unfold I64; omega
  have h35 : I64 35 := by unfold I64; omega
  refine ⟨none, 0, none, 0, some ⟨b1, 0, none⟩, 1, rfl, hz, hz, nil_slr, nil_slr, ?_⟩
  refine ⟨some ⟨b1, 0, none⟩, 1, rfl, Nat.le_refl _, fun _ => ⟨b1, 0, rfl, .inr ?_, h1.lt, fun k y hk => ?_⟩⟩
  · exact ⟨by decide, _, _, h1⟩
  · obtain rfl : k = 0 := by
      rcases Nat.eq_zero_or_pos k with h | h
      · exact h
      · rw [List.getElem?_eq_none (by simp [idleF]; omega)] at hk; cases hk
    have hk : (⟨35, 0, 0, 0, []⟩ : InstrD) = y := by simpa [idleF] using hk
    subst hk
    refine ⟨[.int .i64 35, .int .i64 0, .int .i64 0, .int .u64 0, .slice none 0 0], rfl, ⟨none, 0, rfl, h35, hz, hz, by unfold U64; simp, nil_slr⟩, fun j u hu => ?_⟩
    rw [show 0 + 0 * 5 + j = j by omega, h1.cell]
    simpa using hu
theorem infoFuncV : (Try.prog.info? 34).map (fun i => (i.zero, i.size, i.bytes)) = some (some (.agg #[.int .i64 0, .slice none 0 0, .slice none 0 0, .int .i64 0, .slice none 0 0]), 5, 88) := by kernel_rfl
theorem infoShapeV : (Try.prog.info? 37).map (fun i => (i.zero, i.size, i.bytes)) = some (some (.agg #[.int .i64 0, .slice none 0 0, .int .i64 0]), 3, 40) := by kernel_rfl
set_option maxRecDepth 100000 in
theorem run_fld1 (b n c : Nat) (w : World) : (Instr.field 25 (.agg #[.slice none 0 0, .slice (some ⟨b, 0, none⟩) n c]) 1).run Try.prog w = .ok (.slice (some ⟨b, 0, none⟩) n c) w := by kernel_rfl
theorem cost_more (m : ModD) : cMod (moreM m) = cMod m + 130 := by
  unfold cMod moreM
  simp only [List.map_append, List.sum_append, List.map_cons, List.map_nil, List.sum_cons, List.sum_nil]
  have h1 : cShape newS = 30 := by decide
  have h2 : cFunc idleF = 100 := by decide
  rw [h1, h2]; omega
theorem full_more {m : ModD} (h : (chkN m).2.2 = 0) (h1 : m.types.length < 256) (h2 : m.funcs.length < 256) (hf : formedMod (moreM m) = false) : codeAll m.funcs = 65536 := by
  have hm := (chk_ok h).1
  have hle : codeAll m.funcs ≤ 65536 := by
    have := hm
    unfold formedMod at this
    simp only [Bool.and_eq_true, decide_eq_true_eq] at this
    exact this.2
  rcases Nat.lt_or_ge (codeAll m.funcs) 65536 with hlt | hge
  · rw [formed_more hm h1 h2 hlt] at hf; cases hf
  · omega
set_option maxRecDepth 100000 in
set_option maxHeartbeats 8000000 in
theorem verifyMore_walk (w : World) (B : Nat) (hBw : B ≤ w.heap.size) (v : Value) (m : ModD) (hm : ModR B w v m) (hcost : cMod m ≤ 104857600) :
    Calls Try.prog 3 #[v] w fun e w' => e = .returned (.bool true) ∧ Below w.heap.size w w' := by
  have hcost1 : cMod m ≤ 1099511627776 := by omega
  have hs := small_of_cost hcost1
  obtain ⟨Am, cm, Am', cm', rfl, hT, hF⟩ := hm
  have hm0 : ModR B w (.agg #[.slice Am m.types.length cm, .slice Am' m.funcs.length cm']) m := ⟨Am, cm, Am', cm', rfl, hT, hF⟩
  clear hT hF
  have hb0 := Blk.new w 25 #[.slice Am m.types.length cm, .slice Am' m.funcs.length cm']
  have hc0 := chg_alloc w (.cells #[.slice Am m.types.length cm, .slice Am' m.funcs.length cm'] 25)
  have hm1 := hm0.keep hc0 (fun _ _ _ => id)
  obtain ⟨d0, d1⟩ := hb0.cells2
  have HV := Lib.hid (And.intro hBw (And.intro hm0 (And.intro hcost1 (And.intro hs hcost))))
  clear hm0 hs hcost
  go_enter Try.func3, Try.ntmps3
  go_wp2_with fail
  refine (own_any _ B _ m (by simp; omega) hm1 hcost1).mono fun e w1 h => ?_
  have hb1 : Below _ _ _ := h.choose_spec.choose_spec.choose_spec.choose_spec.2.1
  obtain ⟨v1, rfl, hv1⟩ := h.modR
  have hchk := vcheck_any w1 _ v1 m (Nat.le_refl _) hv1 HV.out.2.2.1 HV.out.2.2.2.1
  have hc1 : Chg (fun _ _ => False) w w1 := hc0.trans (Chg.of_below hb1 _)
  have hbk1 := (Chg.of_below hb1 (fun _ _ => False)).blk hb0 id
  clear hb0 hc0 hm1 hb1 d0 d1 hv1 hBw hcost1
  go_wp2_with fail
  refine hchk.mono fun e w2 h => ?_
  obtain ⟨rfl, hc2'⟩ := h
  have hc2 := hc1.trans hc2'
  have hbk2 := hc2'.blk hbk1 id
  clear hc2' hc1 hbk1 hchk
  go_wp2_with fail
  refine (vans_any _).mono fun e w3 h => ?_
  obtain ⟨rfl, hca3⟩ := h
  have hc3 := hc2.trans hca3
  have hbk3 := hca3.blk hbk2 id
  obtain ⟨y0, y1⟩ := hbk3.cells2
  have H3 := Lib.hid (And.intro hc3 hbk3)
  clear hca3 hbk2 hc2 hc3 hbk3
  cases hl1 : decide (256 ≤ (m.funcs.length : Int))
  · cases hl2 : decide (256 ≤ (m.types.length : Int))
    · have HL := Lib.hid (And.intro (of_decide_eq_false hl1) (of_decide_eq_false hl2))
      have hown := own_any w3 B _ m (Nat.le_trans HV.out.1 H3.out.1.size) (HV.out.2.1.keep H3.out.1 (fun _ _ _ => id)) HV.out.2.2.1
      go_wp2_with fail
      refine hown.mono fun e w4 h => ?_
      obtain ⟨A4, c4, A5, c5, rfl, hb4, hr1, hr2⟩ := h
      have hcb4 := Chg.of_below hb4 (fun _ _ => False)
      have hbk4 := hcb4.blk H3.out.2 id
      have hca := chg_alloc w4 (.cells #[.slice A4 m.types.length c4, .slice A5 m.funcs.length c5] 25)
      have hbx := Blk.new w4 25 #[.slice A4 m.types.length c4, .slice A5 m.funcs.length c5]
      have hr3 := hr1.keep1 hca (fun _ _ => id) fun cs x hx => hx.keep hca (fun _ _ _ h => h) (fun _ h => h)
      have hr4 := hr2.keep1 hca (fun _ _ => id) fun cs x hx => hx.keep hca (fun _ _ _ h => h) (fun _ h => h) (fun _ h => h) (fun _ h => h)
      obtain ⟨a0, a1⟩ := hbx.cells2
      have fz1 := hbx.frozen 1
      have fz0 := hbx.frozen 0
      have hs34 := hcb4.size
      have hs03 := H3.out.1.size
      have o5 : ∀ b, OwnB A5 m.funcs.length c5 b → w.heap.size ≤ b ∧ b < w4.heap.size := fun b hb => by have := hr2.ownIn hb; omega
      have o4 : ∀ b, OwnB A4 m.types.length c4 b → w.heap.size ≤ b ∧ b < w4.heap.size := fun b hb => by have := hr1.ownIn hb; omega
      have hg6 : w.heap.size < w4.heap.size ∧ w3.heap.size ≤ (w4.alloc (.cells #[.slice A4 m.types.length c4, .slice A5 m.funcs.length c5] 25)).heap.size := by rw [World.size_alloc]; exact ⟨hbk4.lt, by omega⟩
      have H4 := Lib.hid (And.intro (H3.out.1.trans (hcb4.trans hca)) (And.intro (hca.blk hbk4 id) (And.intro hbx (And.intro hr3 (And.intro hr4 (And.intro o5 (And.intro o4 hg6)))))))
      have n5 : ¬ OwnB A5 m.funcs.length c5 w4.heap.size := fun hb => Nat.lt_irrefl _ (o5 _ hb).2
      clear hown h hb4 hr1 hr2 hcb4 hbk4 hca hbx hr3 hr4 y0 y1 hl1 hl2 hs34 hs03 o5 o4 hg6
      go_wp2_with fail
      generalize (w4.alloc (.cells #[.slice A4 m.types.length c4, .slice A5 m.funcs.length c5] 25)) = W at *
      generalize w4.heap.size = g6 at *
      obtain ⟨i5, hi5, hz5, hs5, hb5⟩ := info_parts infoFuncV
      refine wp_region_G (S := (fun w' => Chg (fun b t => OwnB A5 m.funcs.length c5 b ∧ t = 34) W w')) 9 (by kernel_rfl) (Chg.refl _ _).drew (fun hHeld => ?_)
      refine wpAnyG_take (i := 0) (v := ?va1) rfl (by kernel_rfl) (fun _ _ _ h => h) (Or.inl ⟨by kernel_rfl, ?hy1⟩) (by assumption) ?ra1
      case hy1 => (intro w hSw; (try dsimp only at hSw); have a1 := hSw.cell a1 (fun t hm => n5 hm.1); clear hSw; go_simp; all_goals (with_reducible rfl))
      simp only [Act.put, List.setIfInBounds_toArray, List.set_cons_zero, List.set_cons_succ]
      refine wpAnyG_take (i := 1) (v := ?va2) rfl (by kernel_rfl) (fun _ _ _ h => h) (Or.inl ⟨by kernel_rfl, ?hy2⟩) (by assumption) ?ra2
      case hy2 => (intro w hSw; (try dsimp only at hSw); have a1 := hSw.cell a1 (fun t hm => n5 hm.1); clear hSw; go_simp; all_goals (with_reducible rfl))
      simp only [Act.put, List.setIfInBounds_toArray, List.set_cons_zero, List.set_cons_succ]
      have hidle := idle_at W.drew
      refine wpAnyG_ready (rs := [2]) (by kernel_rfl) (by simp) ?_
      refine AllReadyG.cons rfl (fun K hK => ?_) AllReadyG.nil
      go_simp
      go_at_call 10
      refine hidle.mono ?_
      rintro e w5 ⟨rfl, hi1, hi2, hci⟩
      have hfn := func_one hi1
      generalize W.drew.heap.size + 1 + 1 = g8 at *
      generalize W.drew.heap.size + 1 = g7 at *
      obtain ⟨b0, b1, b2, b3, b4⟩ := hi2.cells5
      have hdi := (Chg.refl (fun _ _ => False) W).drew.trans hci
      refine hK.out _ _ (hHeld.trans (hci.mono fun _ _ _ h => h.elim)) (fun hHeld => ?_)
      clear hK K hidle
      try simp only [Act.put, List.setIfInBounds_toArray, List.set_cons_zero, List.set_cons_succ]
      refine wpAnyG_ready (rs := [3]) (by kernel_rfl) (by simp) ?_
      refine AllReadyG.cons rfl (fun K hK => ?_) AllReadyG.nil
      go_simp
      rw [run_fld1]
      go_simp
      refine hK.out _ _ hHeld (fun hHeld => ?_)
      clear hK K
      try simp only [Act.put, List.setIfInBounds_toArray, List.set_cons_zero, List.set_cons_succ]
      refine wpAnyG_ready (rs := [4]) (by kernel_rfl) (by simp) ?_
      refine AllReadyG.cons rfl (fun K hK => ?_) AllReadyG.nil
      go_simp
      refine hK.out _ _ hHeld (fun hHeld => ?_)
      clear hK K
      try simp only [Act.put, List.setIfInBounds_toArray, List.set_cons_zero, List.set_cons_succ]
      refine wpAnyG_ready (rs := [5]) (by kernel_rfl) (by simp) ?_
      refine AllReadyG.cons rfl (fun K hK => ?_) AllReadyG.nil
      go_simp
      refine hK.out _ _ hHeld (fun hHeld => ?_)
      clear hK K
      try simp only [Act.put, List.setIfInBounds_toArray, List.set_cons_zero, List.set_cons_succ]
      refine wpAnyG_ready (rs := [6]) (by kernel_rfl) (by simp) ?_
      refine AllReadyG.cons rfl (fun K hK => ?_) AllReadyG.nil
      go_simp
      refine hK.out _ _ (hHeld.alloc _) (fun hHeld => ?_)
      clear hK K
      try simp only [Act.put, List.setIfInBounds_toArray, List.set_cons_zero, List.set_cons_succ]
      refine wpAnyG_ready (rs := [7]) (by kernel_rfl) (by simp) ?_
      refine AllReadyG.cons rfl (fun K hK => ?_) AllReadyG.nil
      have hst := hdi.alloc (.cells #[.int .i64 0, .slice none 0 0, .slice none 0 0, .int .i64 0, .slice (some ⟨g7, 0, none⟩) 1 1] 34)
      have hbn := Blk.new w5 34 #[.int .i64 0, .slice none 0 0, .slice none 0 0, .int .i64 0, .slice (some ⟨g7, 0, none⟩) 1 1]
      have hfn1 := hfn.keep (chg_alloc w5 (.cells #[.int .i64 0, .slice none 0 0, .slice none 0 0, .int .i64 0, .slice (some ⟨g7, 0, none⟩) 1 1] 34)) (fun _ _ _ h => h) (fun _ h => h) (fun _ h => h) (fun _ h => h)
      obtain ⟨xss, k1, k2, k3, k4⟩ := H4.out.2.2.2.2.1.keep1 hst (fun _ _ => id) fun cs x hx => hx.keep hst (fun _ _ _ h => h) (fun _ h => h) (fun _ h => h) (fun _ h => h)
      have hsz5 := hst.size
      have HW := Lib.hid (And.intro hst (And.intro hfn1 (And.intro k1 (And.intro k2 (And.intro k3 k4)))))
      have HA := Lib.hid hHeld
      clear hst k2 k3 k4 hHeld hfn hfn1 hdi hci hi1 hi2
      refine step_append_blk (P := Try.prog) _ rfl (.tmp 35) (.tmp 40) 23 rfl w3.heap.size 34 i5 _ 5 88 Try.underlying23 hi5 hz5 hs5 hb5 rfl (by omega) A5 m.funcs.length c5 xss.flatten (by simp [Act.eval]) k1 1 1 [.int .i64 0, .slice none 0 0, .slice none 0 0, .int .i64 0, .slice (some ⟨g7, 0, none⟩) 1 1] w5.heap.size (by simp [Act.eval]) hbn rfl (fun u hu => by simp at hu; rcases hu with rfl | rfl | rfl | rfl <;> rfl) (by have := HL.out.1; simp only [maxLen]; omega) (by have := HL.out.1; omega) (Nat.le_trans H4.out.2.2.2.2.2.2.2.2 hsz5) fun A' c' w' j1 j2 j3 => ?_
      refine hK.out _ _ (HA.out.grown j2 fun g' o hg ho => ?_) (fun hHeld => ?_)
      · obtain ⟨_, cs, h2⟩ := H4.out.2.2.2.2.1.lt hg
        rw [h2] at ho
        injection ho with ho
        subst ho
        exact ⟨hg, rfl⟩
      clear hK K
      try simp only [Act.put, List.setIfInBounds_toArray, List.set_cons_zero, List.set_cons_succ]
      have hch1 : Chg (fun b t => OwnB A5 m.funcs.length c5 b ∧ t = 34) _ w' := (Chg.refl _ _).grown j2 fun g' o' hg ho => by
        obtain ⟨h1, cs, h2⟩ := own_blk k1 hg
        rw [h2] at ho
        injection ho with ho
        subst ho
        exact ⟨hg, rfl⟩
      have hfun : ∀ cs x, FuncO 0 (w5.alloc (.cells #[.int .i64 0, .slice none 0 0, .slice none 0 0, .int .i64 0, .slice (some ⟨g7, 0, none⟩) 1 1] 34)) cs x → FuncO 0 w' cs x := fun cs x hx => hx.keep hch1 (fun b _ hb _ => Nat.not_lt_zero _ hb) (fun _ hm => absurd hm.2 (by decide)) (fun _ hm => absurd hm.2 (by decide)) (fun _ hm => absurd hm.2 (by decide))
      have hrow5 := RowR.snoc (R := FuncO 0) (w' := w') HW.out.2.2.2.1 HW.out.2.2.2.2.1 HW.out.2.2.2.2.2 hfun j1 rfl (hfun _ _ HW.out.2.1)
      have hn5 : w3.heap.size ≤ w'.heap.size := Nat.le_trans (Nat.le_trans H4.out.2.2.2.2.2.2.2.2 hsz5) hch1.size
      have hg6b := hHeld.blk H4.out.2.2.1 (fun hm => absurd hm.2 (by decide))
      obtain ⟨p0, p1⟩ := hg6b.cells2
      have fq := hg6b.frozen 1
      have hbox := hHeld.blk H4.out.2.1 (fun hm => absurd hm.2 (by decide))
      have htyp := H4.out.2.2.2.1.keep1 hHeld (fun _ _ hm => absurd hm.2 (by decide)) fun cs x hx => hx.keep hHeld (fun b _ hb _ => Nat.not_lt_zero _ hb) (fun _ hm => absurd hm.2 (by decide))
      have hset := chg_set (j := 1) hg6b (.slice A' (m.funcs.length + 1) c')
      have h6 := hg6b.set_ 1 (.slice A' (m.funcs.length + 1) c')
      have hrow6 := hrow5.keep1 hset (fun _ _ hm => absurd hm.2 (by decide)) fun cs x hx => hx.keep hset (fun b _ hb _ => Nat.not_lt_zero _ hb) (fun _ hm => absurd hm.2 (by decide)) (fun _ hm => absurd hm.2 (by decide)) (fun _ hm => absurd hm.2 (by decide))
      have htyp6 := htyp.keep1 hset (fun _ _ hm => absurd hm.2 (by decide)) fun cs x hx => hx.keep hset (fun b _ hb _ => Nat.not_lt_zero _ hb) (fun _ hm => absurd hm.2 (by decide))
      have hne : w.heap.size ≠ g6 := Nat.ne_of_lt H4.out.2.2.2.2.2.2.2.1
      have hbox6 := hset.blk hbox (fun hm => hne hm.1)
      have hall := (H4.out.1.mono (M' := fun b _ => w.heap.size ≤ b) fun _ _ _ h => h.elim).trans ((hHeld.mono (M' := fun b _ => w.heap.size ≤ b) fun b _ _ hm => (H4.out.2.2.2.2.2.1 b hm.1).1).trans (hset.mono (M' := fun b _ => w.heap.size ≤ b) fun b _ _ hm => by rw [hm.1]; exact Nat.le_of_lt H4.out.2.2.2.2.2.2.2.1))
      have hn6 : w3.heap.size ≤ (w'.setCell ⟨g6, 1, none⟩ (.slice A' (m.funcs.length + 1) c')).heap.size := Nat.le_trans hn5 hset.size
      obtain ⟨q0, q1⟩ := h6.cells2
      have fq0 := h6.frozen 0
      have H6 := Lib.hid (And.intro hall (And.intro hbox6 (And.intro h6 (And.intro hrow6 (And.intro htyp6 hn6)))))
      clear hall hbox6 h6 hrow6 htyp6 hn6 hset hbox htyp hg6b hn5 hrow5 hfun hch1 j1 j2 j3 k1 hbn HW HA hne hsz5 b0 b1 b2 b3 b4 a1 fz1 fz0
      refine wpAnyG_ready (rs := [8]) (by kernel_rfl) (by simp) ?_
      refine AllReadyG.cons rfl (fun K hK => ?_) AllReadyG.nil
      go_simp
      refine hK.out _ _ hHeld (fun hHeld => ?_)
      clear hK K hHeld
      try simp only [Act.put, List.setIfInBounds_toArray, List.set_cons_zero, List.set_cons_succ]
      refine wpAnyG_last rfl (by kernel_rfl) (by kernel_rfl) (fun K hK => ?_)
      go_simp
      refine hK.out _ _ ?_
      clear hK K
      try simp only [Act.put, List.setIfInBounds_toArray, List.set_cons_zero, List.set_cons_succ]
      generalize w'.setCell ⟨g6, 1, none⟩ (.slice A' (m.funcs.length + 1) c') = W6 at *
      obtain ⟨i6, hi6, hz6, hs6, hb6⟩ := info_parts infoShapeV
      have hnew : ShapeO 0 W6 [.int .i64 8, .slice none 0 0, .int .i64 0] newS := ⟨none, 0, rfl, by show I64 8; unfold I64; omega, by show I64 0; unfold I64; omega, nil_slr⟩
      go_wp2_with (at_builtin; go_must (refine wpList_push1 rfl (.tmp 44) (.tmp 46) 22 rfl w3.heap.size 37 i6 _ 3 40 Try.underlying22 hi6 hz6 hs6 hb6 rfl (by omega) (ShapeO 0) A4 c4 m.types (n := m.types.length) rfl (by first | rfl | simp) H6.out.2.2.2.2.1 1 [.int .i64 8, .slice none 0 0, .int .i64 0] newS (by first | rfl | simp) (by first | rfl | simp) rfl (by intro u hu; simp at hu; rcases hu with rfl | rfl | rfl <;> rfl) hnew (by have := HL.out.2; omega) (by omega) H6.out.2.2.2.2.2 (fun w' hc cs x hx => hx.keep hc (fun b _ hb _ => Nat.not_lt_zero _ hb) (fun _ hm => absurd hm.2 (by decide))) ?_))
      intro A'' c'' w9 hr9 hch9 hown9
      have hg9 := hch9.blk H6.out.2.2.1 (fun hm => absurd hm.2 (by decide))
      have hset9 := chg_set (j := 0) hg9 (.slice A'' (m.types.length + 1) c'')
      have hb9 := hg9.set_ 0 (.slice A'' (m.types.length + 1) c'')
      have hbx9 := hset9.blk (hch9.blk H6.out.2.1 (fun hm => absurd hm.2 (by decide))) (fun hm => Nat.ne_of_lt H4.out.2.2.2.2.2.2.2.1 hm.1)
      have hrf9 := (H6.out.2.2.2.1.keep1 hch9 (fun _ _ hm => absurd hm.2 (by decide)) fun cs x hx => hx.keep hch9 (fun b _ hb _ => Nat.not_lt_zero _ hb) (fun _ hm => absurd hm.2 (by decide)) (fun _ hm => absurd hm.2 (by decide)) (fun _ hm => absurd hm.2 (by decide))).keep1 hset9 (fun _ _ hm => absurd hm.2 (by decide)) fun cs x hx => hx.keep hset9 (fun b _ hb _ => Nat.not_lt_zero _ hb) (fun _ hm => absurd hm.2 (by decide)) (fun _ hm => absurd hm.2 (by decide)) (fun _ hm => absurd hm.2 (by decide))
      have hrt9 := hr9.keep1 hset9 (fun _ _ hm => absurd hm.2 (by decide)) fun cs x hx => hx.keep hset9 (fun b _ hb _ => Nat.not_lt_zero _ hb) (fun _ hm => absurd hm.2 (by decide))
      have hall9 := H6.out.1.trans ((hch9.mono (M' := fun b _ => w.heap.size ≤ b) fun b _ _ hm => (H4.out.2.2.2.2.2.2.1 b hm.1).1).trans (hset9.mono (M' := fun b _ => w.heap.size ≤ b) fun b _ _ hm => by rw [hm.1]; exact Nat.le_of_lt H4.out.2.2.2.2.2.2.2.1))
      have hmod9 : ModR (w9.setCell ⟨g6, 0, none⟩ (.slice A'' (m.types.length + 1) c'')).heap.size (w9.setCell ⟨g6, 0, none⟩ (.slice A'' (m.types.length + 1) c'')) (.agg #[.slice A'' (m.types.length + 1) c'', .slice A' (m.funcs.length + 1) c']) (moreM m) := by
        have h1 := SlR.settle (hrt9.slr (by decide) 0) fun _ _ h => h.settle
        have h2 := SlR.settle (hrf9.slr (by decide) 0) fun _ _ h => h.settle
        have e1 : (moreM m).types.length = m.types.length + 1 := by simp [moreM]
        have e2 : (moreM m).funcs.length = m.funcs.length + 1 := by simp [moreM]
        refine ⟨A'', c'', A', c', by rw [e1, e2], ?_, ?_⟩
        · rw [e1]; simpa [ShapesR, moreM] using h1
        · rw [e2]; simpa [FuncsR, moreM] using h2
      obtain ⟨r0, r1⟩ := hb9.cells2
      obtain ⟨u0, u1⟩ := hg9.cells2
      have fu := hg9.frozen 0
      have H9 := Lib.hid (And.intro hall9 (And.intro hbx9 (And.intro hb9 hmod9)))
      clear hg9 hset9 hb9 hbx9 hrf9 hrt9 hall9 hmod9 hr9 hch9 hown9 p0 p1 fq q0 q1 fq0 n5 hnew
      go_wp2_with fail
      generalize w9.setCell ⟨g6, 0, none⟩ (.slice A'' (m.types.length + 1) c'') = W9 at *
      have hcm : cMod (moreM m) ≤ 1099511627776 := by rw [cost_more]; have := HV.out.2.2.2.2; omega
      refine (check_any W9 _ _ (moreM m) (Nat.le_refl _) H9.out.2.2.2 hcm).mono fun e wA h => ?_
      obtain ⟨rfl, hcA⟩ := h
      have hallA := H9.out.1.trans (hcA.mono fun _ _ _ h => h.elim)
      have hbxA := hcA.blk H9.out.2.1 id
      have hgA := hcA.blk H9.out.2.2.1 id
      have hmA := H9.out.2.2.2.keep hcA (fun _ _ _ => id)
      have hm0A : ModR B wA (.agg #[.slice Am m.types.length cm, .slice Am' m.funcs.length cm']) m := HV.out.2.1.keep hallA (fun b _ hb h => by have := HV.out.1; omega)
      obtain ⟨s0, s1⟩ := hgA.cells2
      obtain ⟨t0, t1⟩ := hbxA.cells2
      have hszA := hcA.size
      have HB := Lib.hid (And.intro hallA (And.intro hmA (And.intro hm0A (And.intro hcm hszA))))
      clear hcA hallA hbxA hgA hmA hm0A hcm hszA r0 r1 u0 u1 fu
      have HLN : m.types.length < 256 ∧ m.funcs.length < 256 := by have := HL.out; omega
      cases hf : formedMod (moreM m)
      · simp only [Bool.false_eq_true, if_false]
        cases he : ((chkN m).2.2 != 0)
        · have hfull := full_more (by simpa using he) HLN.1 HLN.2 hf
          go_wp2_with fail
          refine (vsize_any wA _ _ m HB.out.2.2.1 HV.out.2.2.1).mono fun e wC h => ?_
          obtain ⟨rfl, hcC⟩ := h
          have hBl := (HB.out.1.trans (hcC.mono fun _ _ _ h => h.elim)).below (B := w.heap.size) (fun _ _ h => h) (Nat.le_refl _)
          rw [hfull]
          go_wp2_with fail
          go_ret
          exact ⟨rfl, hBl⟩
        · have hBl := HB.out.1.below (B := w.heap.size) (fun _ _ h => h) (Nat.le_refl _)
          go_wp2_with fail
          go_ret
          exact ⟨rfl, hBl⟩
      · simp only [if_true]
        go_wp2_with fail
        refine (vcheck_any wA _ _ (moreM m) HB.out.2.2.2.2 HB.out.2.1 HB.out.2.2.2.1 (small_of_cost HB.out.2.2.2.1)).mono fun e wC h => ?_
        obtain ⟨rfl, hcC⟩ := h
        have hBl := (HB.out.1.trans (hcC.mono fun _ _ _ h => h.elim)).below (B := w.heap.size) (fun _ _ h => h) (Nat.le_refl _)
        cases he : ((chkN m).2.2 != 0)
        · have hz := chk_more (by simpa using he) hf
          rw [hz]
          go_wp2_with fail
          go_ret
          exact ⟨rfl, hBl⟩
        · go_wp2_with fail
          go_ret
          exact ⟨rfl, hBl⟩
    · go_wp2_with fail
      refine (vans_any _).mono fun e w4 h => ?_
      obtain ⟨rfl, hc4⟩ := h
      have H4 := Lib.hid ((H3.out.1.trans hc4).below (B := w.heap.size) (fun _ _ h => h.elim) (Nat.le_refl _))
      clear hc4
      go_wp2_with fail
      go_ret
      exact ⟨rfl, H4.out⟩
  · go_wp2_with fail
    refine (vans_any _).mono fun e w4 h => ?_
    obtain ⟨rfl, hc4⟩ := h
    have H4 := Lib.hid ((H3.out.1.trans hc4).below (B := w.heap.size) (fun _ _ h => h.elim) (Nat.le_refl _))
    clear hc4
    go_wp2_with fail
    go_ret
    exact ⟨rfl, H4.out⟩
end Go.Proofs.Ytdegfnejhamejaa

