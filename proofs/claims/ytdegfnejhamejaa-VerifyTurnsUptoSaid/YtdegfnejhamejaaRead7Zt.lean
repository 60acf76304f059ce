/-
  Reading in the program: the cases of an instruction (Decode$8$1$1).
-/
import Derived.Test.YtdegfnejhamejaaRead6Zt
namespace Go.Proofs.Ytdegfnejhamejaa
open Go.RowKit
set_option linter.unusedVariables false
set_option linter.unusedSimpArgs false

theorem case_run {bs : List Nat} {st : Except Nat Nat} {x0 : Bool} {x1 : Int} {x2 : Int} {x3 : Int} (h0 : ∀ v a', runS (flagP bs) st = .ok (v, a') → x0 = v) (h1 : ∀ v a', runS (smallP bs 0) (endS (runS (flagP bs) st)) = .ok (v, a') → x1 = v) (h2 : ∀ v a', runS (smallP bs (-1)) (endS (runS (smallP bs 0) (endS (runS (flagP bs) st)))) = .ok (v, a') → x2 = v) (h3 : ∀ v a', runS (smallP bs 0) (endS (runS (smallP bs (-1)) (endS (runS (smallP bs 0) (endS (runS (flagP bs) st)))))) = .ok (v, a') → x3 = v) :
    endS (runS (caseP bs) st) = (endS (runS (smallP bs 0) (endS (runS (smallP bs (-1)) (endS (runS (smallP bs 0) (endS (runS (flagP bs) st)))))))) ∧ ∀ v a', runS (caseP bs) st = .ok (v, a') → (⟨x0, x1, x2, x3⟩ : CaseD) = v := by
  unfold caseP
  refine ⟨by rw [(bind_tells h0).1, (bind_tells h1).1, (bind_tells h2).1, (bind_tells h3).1, (pure_tells _ _).1], fun v a' h => ?_⟩
  exact (pure_tells _ _).2 v a' ((bind_tells h3).2 v a' ((bind_tells h2).2 v a' ((bind_tells h1).2 v a' ((bind_tells h0).2 v a' h))))

/-- What reading one more element of a list turns: the list's variable, and the list's own memory. -/
def MG (E : EnvB) (D gl T e b t : Nat) : Prop := ME E b t ∨ (b = gl ∧ t = T) ∨ (D ≤ b ∧ t = e)
/-- The instruction while its cases are read. -/
def GrowC (D gl : Nat) (op ia ib : Int) (n0 : Nat) (l : List CaseD) (w : World) : Prop := ∃ A c, Blk w gl 50 #[.int .i64 op, .int .i64 ia, .int .i64 ib, .int .u64 (n0 : Int), .slice A l.length c] ∧ RowR D 52 4 CaseR w A c l
theorem GrowC.keepE {E : EnvB} {B D gl : Nat} {op ia ib : Int} {n0 : Nat} {l : List CaseD} {w w' : World} (hl : Low E B D) (hg : D ≤ gl) (h : GrowC D gl op ia ib n0 l w) (hc : Chg (ME E) w w') : GrowC D gl op ia ib n0 l w' := by
  obtain ⟨A, c, h1, h2⟩ := h
  exact ⟨A, c, hc.blk h1 fun hm => by have := ME.low hl hm; omega, h2.keep hc (fun b hb hm => by have := ME.low hl hm; omega) fun _ _ h => h⟩
theorem enters811 : EntersC 47 := by
  intro xs w'; show (callFunc _ _).run _ _ = _
  simp [callFunc, Try.func47, go_sem]
  rw [if_neg (by decide +kernel), if_neg (fun h => by cases h)]
set_option maxRecDepth 100000 in
set_option maxHeartbeats 8000000 in
theorem cases1_any (E : EnvB) (B D : Nat) (bs : List Nat) (hl : Low E B D) (hn : bs.length ≤ 1048576) (gl : Nat) (hgl : D ≤ gl) (op ia ib : Int) (n0 : Nat) (l : List CaseD) (w : World) (st : Except Nat Nat) (h : Env E B bs w st) (hJ : GrowC D gl op ia ib n0 l w) (hln : l.length ≤ 2147483647) (hD : D ≤ w.heap.size) :
    Calls Try.prog 47 #[ptr gl, ptr E.bl, ptr E.bm] w (OneRes E B bs (MG E D gl 50 52) (GrowC D gl op ia ib n0) (caseP bs) l st w) := by
  obtain ⟨i0, hi0, hz0, hs0, hb0⟩ := info_parts infoCase
  have HE := Lib.hid h
  obtain ⟨a, hb, _⟩ := h
  have g1 := hb.flag.cell 0
  have g2 := hb.small.cell 0
  obtain ⟨A, c, hbl, xss, how, h2, h3, h4⟩ := hJ
  have g0 := hbl.cell 4
  simp only [List.getElem?_toArray, List.getElem?_cons_zero, List.getElem?_cons_succ] at g0 g1 g2
  have HBlk := Lib.hid hbl
  have HRow := Lib.hid (And.intro how (And.intro h2 (And.intro h3 h4)))
  have HLow := Lib.hid hl
  have HGl := Lib.hid hgl
  have HSz := Lib.hid hD
  clear hb hbl how h2 h3 h4 hl hgl hD
  have e3 : ∀ (xs : Array Value) (w' : World), (callFunc 39 xs).run Try.prog w' = .ok (.enter 39 xs) w' := enters3
  have e6 : ∀ (xs : Array Value) (w' : World), (callFunc 43 xs).run Try.prog w' = .ok (.enter 43 xs) w' := enters6
  go_enter Try.func47, Try.ntmps47
  go_wp2_with fail
  have hS0 : w.drew.cell? ⟨gl, 4, none⟩ = some (.slice A l.length c) ∧ w.drew.cell? ⟨E.bl, 0, none⟩ = some (.func (.func 43) #[] #[ptr E.ba, ptr E.bn, ptr E.bf]) ∧ w.drew.cell? ⟨E.bm, 0, none⟩ = some (.func (.func 39) #[] #[ptr E.ba, ptr E.bn, ptr E.bf]) := ⟨g0, g1, g2⟩
  refine wp_region_G (S := fun w' => w'.cell? ⟨gl, 4, none⟩ = some (.slice A l.length c) ∧ w'.cell? ⟨E.bl, 0, none⟩ = some (.func (.func 43) #[] #[ptr E.ba, ptr E.bn, ptr E.bf]) ∧ w'.cell? ⟨E.bm, 0, none⟩ = some (.func (.func 39) #[] #[ptr E.ba, ptr E.bn, ptr E.bf])) 14 (by kernel_rfl) hS0 (fun hHeld => ?_)
  refine wpAnyG_take (i := 0) (v := ?va1) rfl (by kernel_rfl) (fun _ _ _ h => h) (Or.inl ⟨by rfl, ?hy1⟩) (by assumption) ?ra1
  case hy1 => (intro w hSw; (try dsimp only at hSw); go_simp; all_goals (with_reducible rfl))
  simp only [Act.put, List.setIfInBounds_toArray, List.set_cons_zero, List.set_cons_succ]
  refine wpAnyG_take (i := 1) (v := ?va2) rfl (by kernel_rfl) (fun _ _ _ h => h) (Or.inl ⟨by rfl, ?hy2⟩) (by assumption) ?ra2
  case hy2 => (intro w hSw; (try dsimp only at hSw); go_simp; all_goals (with_reducible rfl))
  simp only [Act.put, List.setIfInBounds_toArray, List.set_cons_zero, List.set_cons_succ]
  refine wpAnyG_take (i := 2) (v := ?va3) rfl (by kernel_rfl) (fun _ _ _ h => h) (Or.inl ⟨by rfl, ?hy3⟩) (by assumption) ?ra3
  case hy3 => (intro w hSw; (try dsimp only at hSw); go_simp; all_goals (with_reducible rfl))
  simp only [Act.put, List.setIfInBounds_toArray, List.set_cons_zero, List.set_cons_succ]
  refine wpAnyG_take (i := 4) (v := ?va4) rfl (by kernel_rfl) (fun _ _ _ h => h) (Or.inl ⟨by rfl, ?hy4⟩) (by assumption) ?ra4
  case hy4 => (intro w hSw; (try dsimp only at hSw); go_simp; all_goals (with_reducible rfl))
  simp only [Act.put, List.setIfInBounds_toArray, List.set_cons_zero, List.set_cons_succ]
  refine wpAnyG_take (i := 6) (v := ?va5) rfl (by kernel_rfl) (fun _ _ _ h => h) (Or.inl ⟨by rfl, ?hy5⟩) (by assumption) ?ra5
  case hy5 => (intro w hSw; (try dsimp only at hSw); go_simp; all_goals (with_reducible rfl))
  simp only [Act.put, List.setIfInBounds_toArray, List.set_cons_zero, List.set_cons_succ]
  refine wpAnyG_take (i := 8) (v := ?va6) rfl (by kernel_rfl) (fun _ _ _ h => h) (Or.inl ⟨by rfl, ?hy6⟩) (by assumption) ?ra6
  case hy6 => (intro w hSw; (try dsimp only at hSw); go_simp; all_goals (with_reducible rfl))
  simp only [Act.put, List.setIfInBounds_toArray, List.set_cons_zero, List.set_cons_succ]
  refine wpAnyG_ready (rs := [3]) (by kernel_rfl) (by simp) ?_
  refine AllReadyG.cons rfl (fun K hK => ?_) ?_
  · skip
    go_simp
    refine (dflag_any E B bs _ st (HE.out.keep ((by repeat' (first | exact Chg.refl (fun _ _ => False) _ | apply Chg.drew | apply Chg.drewN | apply Chg.alloc)) : Chg (fun _ _ => False) w _) (LetsE.no E B)) hn).mono ?_
    rintro e w1 ⟨x0, rfl, hxv, hE1, hc1'⟩
    have hxi := True.intro
    have hcs : Chg (ME E) w w1 := (((by repeat' (first | exact Chg.refl (fun _ _ => False) _ | apply Chg.drew | apply Chg.drewN | apply Chg.alloc)) : Chg (fun _ _ => False) w _).mono fun _ _ _ h => h.elim).trans hc1'
    have hc1 : Chg (ME E) w w1 := hcs
    have g0 := (hc1.blk HBlk.out fun hm => by have h8 := ME.low HLow.out hm; have h9 := HGl.out; omega).cell 4
    have g1 := hE1.choose_spec.1.flag.cell 0
    have g2 := hE1.choose_spec.1.small.cell 0
    simp only [List.getElem?_toArray, List.getElem?_cons_zero, List.getElem?_cons_succ] at g0 g1 g2
    have H1 := Lib.hid (And.intro hxv (And.intro hE1 hc1))
    have HI0 := Lib.hid hxi
    have HS0 := Lib.hid hcs
    clear hxv hE1 hc1 hc1' hcs hxi
    try simp only []
    refine hK.out _ _ ⟨g0, g1, g2⟩ (fun hHeld => ?_)
    clear hK K
    try simp only [Act.put, List.setIfInBounds_toArray, List.set_cons_zero, List.set_cons_succ]
    refine wpAnyG_ready (rs := [5]) (by kernel_rfl) (by simp) ?_
    refine AllReadyG.cons rfl (fun K hK => ?_) ?_
    · skip
      go_simp
      refine (small_any E B bs _ (endS (runS (flagP bs) st)) (H1.out.2.1.keep ((by repeat' (first | exact Chg.refl (fun _ _ => False) _ | apply Chg.drew | apply Chg.drewN | apply Chg.alloc)) : Chg (fun _ _ => False) w1 _) (LetsE.no E B)) hn 0 (.inl rfl)).mono ?_
      rintro e w2 ⟨x1, rfl, hx0, hx1, hxv, hE1, hc1'⟩
      have hxi : I64 x1 := by unfold I64; omega
      clear hx0 hx1
      have hcs : Chg (ME E) w1 w2 := (((by repeat' (first | exact Chg.refl (fun _ _ => False) _ | apply Chg.drew | apply Chg.drewN | apply Chg.alloc)) : Chg (fun _ _ => False) w1 _).mono fun _ _ _ h => h.elim).trans hc1'
      have hc1 : Chg (ME E) w w2 := H1.out.2.2.trans hcs
      have g0 := (hc1.blk HBlk.out fun hm => by have h8 := ME.low HLow.out hm; have h9 := HGl.out; omega).cell 4
      have g1 := hE1.choose_spec.1.flag.cell 0
      have g2 := hE1.choose_spec.1.small.cell 0
      simp only [List.getElem?_toArray, List.getElem?_cons_zero, List.getElem?_cons_succ] at g0 g1 g2
      have H2 := Lib.hid (And.intro hxv (And.intro hE1 hc1))
      have HI1 := Lib.hid hxi
      have HS1 := Lib.hid hcs
      clear hxv hE1 hc1 hc1' hcs hxi
      try simp only []
      refine hK.out _ _ ⟨g0, g1, g2⟩ (fun hHeld => ?_)
      clear hK K
      try simp only [Act.put, List.setIfInBounds_toArray, List.set_cons_zero, List.set_cons_succ]
      refine wpAnyG_ready (rs := [7]) (by kernel_rfl) (by simp) ?_
      refine AllReadyG.cons rfl (fun K hK => ?_) ?_
      · skip
        go_simp
        refine (small_any E B bs _ (endS (runS (smallP bs 0) (endS (runS (flagP bs) st)))) (H2.out.2.1.keep ((by repeat' (first | exact Chg.refl (fun _ _ => False) _ | apply Chg.drew | apply Chg.drewN | apply Chg.alloc)) : Chg (fun _ _ => False) w2 _) (LetsE.no E B)) hn (-1) (.inr rfl)).mono ?_
        rintro e w3 ⟨x2, rfl, hx0, hx1, hxv, hE1, hc1'⟩
        have hxi : I64 x2 := by unfold I64; omega
        clear hx0 hx1
        have hcs : Chg (ME E) w2 w3 := (((by repeat' (first | exact Chg.refl (fun _ _ => False) _ | apply Chg.drew | apply Chg.drewN | apply Chg.alloc)) : Chg (fun _ _ => False) w2 _).mono fun _ _ _ h => h.elim).trans hc1'
        have hc1 : Chg (ME E) w w3 := H2.out.2.2.trans hcs
        have g0 := (hc1.blk HBlk.out fun hm => by have h8 := ME.low HLow.out hm; have h9 := HGl.out; omega).cell 4
        have g1 := hE1.choose_spec.1.flag.cell 0
        have g2 := hE1.choose_spec.1.small.cell 0
        simp only [List.getElem?_toArray, List.getElem?_cons_zero, List.getElem?_cons_succ] at g0 g1 g2
        have H3 := Lib.hid (And.intro hxv (And.intro hE1 hc1))
        have HI2 := Lib.hid hxi
        have HS2 := Lib.hid hcs
        clear hxv hE1 hc1 hc1' hcs hxi
        try simp only []
        refine hK.out _ _ ⟨g0, g1, g2⟩ (fun hHeld => ?_)
        clear hK K
        try simp only [Act.put, List.setIfInBounds_toArray, List.set_cons_zero, List.set_cons_succ]
        refine wpAnyG_ready (rs := [9]) (by kernel_rfl) (by simp) ?_
        refine AllReadyG.cons rfl (fun K hK => ?_) ?_
        · skip
          go_simp
          refine (small_any E B bs _ (endS (runS (smallP bs (-1)) (endS (runS (smallP bs 0) (endS (runS (flagP bs) st)))))) (H3.out.2.1.keep ((by repeat' (first | exact Chg.refl (fun _ _ => False) _ | apply Chg.drew | apply Chg.drewN | apply Chg.alloc)) : Chg (fun _ _ => False) w3 _) (LetsE.no E B)) hn 0 (.inl rfl)).mono ?_
          rintro e w4 ⟨x3, rfl, hx0, hx1, hxv, hE1, hc1'⟩
          have hxi : I64 x3 := by unfold I64; omega
          clear hx0 hx1
          have hcs : Chg (ME E) w3 w4 := (((by repeat' (first | exact Chg.refl (fun _ _ => False) _ | apply Chg.drew | apply Chg.drewN | apply Chg.alloc)) : Chg (fun _ _ => False) w3 _).mono fun _ _ _ h => h.elim).trans hc1'
          have hc1 : Chg (ME E) w w4 := H3.out.2.2.trans hcs
          have g0 := (hc1.blk HBlk.out fun hm => by have h8 := ME.low HLow.out hm; have h9 := HGl.out; omega).cell 4
          have g1 := hE1.choose_spec.1.flag.cell 0
          have g2 := hE1.choose_spec.1.small.cell 0
          simp only [List.getElem?_toArray, List.getElem?_cons_zero, List.getElem?_cons_succ] at g0 g1 g2
          have H4 := Lib.hid (And.intro hxv (And.intro hE1 hc1))
          have HI3 := Lib.hid hxi
          have HS3 := Lib.hid hcs
          clear hxv hE1 hc1 hc1' hcs hxi
          try simp only []
          refine hK.out _ _ ⟨g0, g1, g2⟩ (fun hHeld => ?_)
          clear hK K
          try simp only [Act.put, List.setIfInBounds_toArray, List.set_cons_zero, List.set_cons_succ]
          refine wpAnyG_take (i := 10) (v := ?va7) rfl (by kernel_rfl) (fun _ _ _ h => h) (Or.inl ⟨by rfl, ?hy7⟩) (by assumption) ?ra7
          case hy7 => (intro w hSw; (try dsimp only at hSw); go_simp; all_goals (with_reducible rfl))
          simp only [Act.put, List.setIfInBounds_toArray, List.set_cons_zero, List.set_cons_succ]
          refine wpAnyG_ready (rs := [11]) (by kernel_rfl) (by simp) ?_
          refine AllReadyG.cons rfl (fun K hK => ?_) ?_
          · skip
            go_simp
            have t0 := (chg_alloc w4 (.cells [.bool x0, .int .i64 x1, .int .i64 x2, .int .i64 x3].toArray 52)).cell g0 fun _ => id
            have t1 := (chg_alloc w4 (.cells [.bool x0, .int .i64 x1, .int .i64 x2, .int .i64 x3].toArray 52)).cell g1 fun _ => id
            have t2 := (chg_alloc w4 (.cells [.bool x0, .int .i64 x1, .int .i64 x2, .int .i64 x3].toArray 52)).cell g2 fun _ => id
            refine hK.out _ _ ⟨t0, t1, t2⟩ (fun hHeld => ?_)
            clear hK K
            try simp only [Act.put, List.setIfInBounds_toArray, List.set_cons_zero, List.set_cons_succ]
            clear t0 t1 t2
            refine wpAnyG_ready (rs := [12]) (by kernel_rfl) (by simp) ?_
            refine AllReadyG.cons rfl (fun K hK => ?_) ?_
            · skip
              refine step_append_blkR _ rfl (.tmp 4) (.tmp 14) 48 rfl D 52 i0 _ 4 32 Try.underlying48 hi0 hz0 hs0 hb0 rfl (by omega) A l.length c xss.flatten (by first | rfl | simp [Act.eval, Act.put]) (((H4.out.2.2.own HRow.out.1 fun g hg hm => by have h8 := ME.low HLow.out hm; have h9 := (own_blk HRow.out.1 hg).1; omega)).alloc _) 1 1 [.bool x0, .int .i64 x1, .int .i64 x2, .int .i64 x3] _ (by first | rfl | simp [Act.eval, Act.put]) (Blk.new _ _ _) rfl (by intro u hu; simp at hu; rcases hu with rfl | rfl | rfl | rfl <;> rfl) (by unfold maxLen; omega) (by omega) (Nat.le_trans HSz.out (Nat.le_trans H4.out.2.2.size (by simp))) ?_
              intro A6 c6 w6 hown6 hg6
              have hcg := own_chg (((H4.out.2.2.own HRow.out.1 fun g hg hm => by have h8 := ME.low HLow.out hm; have h9 := (own_blk HRow.out.1 hg).1; omega)).alloc (.cells [.bool x0, .int .i64 x1, .int .i64 x2, .int .i64 x3].toArray 52)) hg6
              have hc16 : Chg (fun b t => D ≤ b ∧ t = 52) w4 w6 := ((chg_alloc w4 _).mono fun _ _ _ h => h.elim).trans hcg
              have f0 := hc16.blk (H4.out.2.2.blk HBlk.out fun hm => by have h8 := ME.low HLow.out hm; have h9 := HGl.out; omega) (fun h => absurd h.2 (by decide))
              have s0 := f0.cell 4
              have sz := f0.frozen 4
              have s1 := (H4.out.2.1.keep hc16 (LetsE.far HLow.out fun b t h => h.1)).choose_spec.1.flag.cell 0
              have s2 := (H4.out.2.1.keep hc16 (LetsE.far HLow.out fun b t h => h.1)).choose_spec.1.small.cell 0
              simp only [List.getElem?_toArray, List.getElem?_cons_zero, List.getElem?_cons_succ] at s0 s1 s2
              have HP := Lib.hid (And.intro hown6 (And.intro hc16 f0))
              clear hown6 hg6 hcg hc16 f0
              refine hK.out _ _ ⟨s0, s1, s2⟩ (fun hHeld => ?_)
              clear hK K
              try simp only [Act.put, List.setIfInBounds_toArray, List.set_cons_zero, List.set_cons_succ]
              refine wpAnyG_take (i := 13) (v := ?va8) rfl (by kernel_rfl) (fun _ _ _ h => h) (Or.inl ⟨by rfl, ?hy8⟩) (by assumption) ?ra8
              case hy8 => (intro w hSw; (try dsimp only at hSw); go_simp; all_goals (with_reducible rfl))
              simp only [Act.put, List.setIfInBounds_toArray, List.set_cons_zero, List.set_cons_succ]
              refine wpAnyG_last rfl (by kernel_rfl) (by kernel_rfl) (fun K hK => ?_)
              go_simp
              refine hK.out _ _ ?_
              clear hK K
              try simp only [Act.put, List.setIfInBounds_toArray, List.set_cons_zero, List.set_cons_succ]
              go_wp2_with fail
              go_end0
              obtain ⟨k1, k2, k3⟩ := HP.out
              have hset := chg_set (j := 4) k3 (.slice A6 (l.length + 1) c6)
              have hE6 := H4.out.2.1.keep k2 (LetsE.far HLow.out fun b t h => h.1)
              have hE7 := hE6.keep hset (LetsE.far HLow.out fun b t h => by rw [h.1]; exact HGl.out)
              have hrow : RowR D 52 4 CaseR w6 A6 c6 (l ++ [⟨x0, x1, x2, x3⟩]) := RowR.snoc (w := w) HRow.out.2.1 HRow.out.2.2.1 HRow.out.2.2.2 (fun cs s h => h) k1 rfl ⟨rfl, HI1.out, HI2.out, HI3.out⟩
              obtain ⟨r1, r2⟩ := case_run H1.out.1 H2.out.1 H3.out.1 H4.out.1
              refine ⟨rfl, ⟨x0, x1, x2, x3⟩, ⟨A6, c6, ?_, ?_⟩, r2, by rw [r1]; exact hE7, ?_⟩
              · have := k3.set_ 4 (.slice A6 (l.length + 1) c6)
                simpa using this
              · exact hrow.keep hset (fun b hb h => absurd h.2 (by decide)) fun _ _ h => h
              · exact ((H4.out.2.2.mono fun b t _ h => .inl h).trans (k2.mono fun b t _ h => .inr (.inr h))).trans (hset.mono fun b t _ h => .inr (.inl h))
            exact AllReadyG.nil
          exact AllReadyG.nil
        exact AllReadyG.nil
      exact AllReadyG.nil
    exact AllReadyG.nil
  exact AllReadyG.nil
end Go.Proofs.Ytdegfnejhamejaa
