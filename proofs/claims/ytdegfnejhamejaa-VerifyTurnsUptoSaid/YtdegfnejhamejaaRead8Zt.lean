/-
  Reading in the program: the instructions (Decode$8$1).
-/
import Derived.Test.YtdegfnejhamejaaRead7Zt
namespace Go.Proofs.Ytdegfnejhamejaa
open Go.RowKit
set_option linter.unusedVariables false
set_option linter.unusedSimpArgs false

theorem instr_run {bs : List Nat} {st : Except Nat Nat} {x0 x1 x2 : Int} {x3 : Nat} {x4 : List CaseD} (h0 : ∀ v a', runS (smallP bs 0) st = .ok (v, a') → x0 = v) (h1 : ∀ v a', runS (smallP bs (-1)) (endS (runS (smallP bs 0) st)) = .ok (v, a') → x1 = v)
    (h2 : ∀ v a', runS (smallP bs (-1)) (endS (runS (smallP bs (-1)) (endS (runS (smallP bs 0) st)))) = .ok (v, a') → x2 = v) (h3 : ∀ v a', runS (numP bs) (endS (runS (smallP bs (-1)) (endS (runS (smallP bs (-1)) (endS (runS (smallP bs 0) st)))))) = .ok (v, a') → x3 = v)
    (h4 : ∀ v a', runS (listP bs (caseP bs)) (endS (runS (numP bs) (endS (runS (smallP bs (-1)) (endS (runS (smallP bs (-1)) (endS (runS (smallP bs 0) st)))))))) = .ok (v, a') → x4 = v) :
    endS (runS (instrP bs) st) = endS (runS (listP bs (caseP bs)) (endS (runS (numP bs) (endS (runS (smallP bs (-1)) (endS (runS (smallP bs (-1)) (endS (runS (smallP bs 0) st))))))))) ∧ ∀ v a', runS (instrP bs) st = .ok (v, a') → (⟨x0, x1, x2, x3, x4⟩ : InstrD) = v := by
  unfold instrP
  refine ⟨by rw [(bind_tells h0).1, (bind_tells h1).1, (bind_tells h2).1, (bind_tells h3).1, (bind_tells h4).1, (pure_tells _ _).1], fun v a' h => ?_⟩
  exact (pure_tells _ _).2 v a' ((bind_tells h4).2 v a' ((bind_tells h3).2 v a' ((bind_tells h2).2 v a' ((bind_tells h1).2 v a' ((bind_tells h0).2 v a' h)))))
def InstrP (D : Nat) (w : World) (cs : List Value) (x : InstrD) : Prop := ∃ A c, cs = [.int .i64 x.op, .int .i64 x.a, .int .i64 x.b, .int .u64 (x.n : Int), .slice A x.cases.length c] ∧ I64 x.op ∧ I64 x.a ∧ I64 x.b ∧ U64 x.n ∧ RowR D 52 4 CaseR w A c x.cases
theorem InstrP.keep {D : Nat} {w w' : World} {cs : List Value} {s : InstrD} {M : Nat → Nat → Prop} (h : InstrP D w cs s) (hc : Chg M w w') (hm : ∀ b, D ≤ b → ¬ M b 52) : InstrP D w' cs s := by
  obtain ⟨A, c, h1, h2, h3, h4, h5, h6⟩ := h
  exact ⟨A, c, h1, h2, h3, h4, h5, h6.keep hc hm fun _ _ h => h⟩
/-- The function while its instructions are read. -/
def GrowI (D gl : Nat) (u0 u1 u2 u3 : Value) (l : List InstrD) (w : World) : Prop := ∃ A c, Blk w gl 34 #[u0, u1, u2, u3, .slice A l.length c] ∧ RowR D 50 5 (InstrP D) w A c l
theorem GrowI.keepE {E : EnvB} {B D gl : Nat} {u0 u1 u2 u3 : Value} {l : List InstrD} {w w' : World} (hl : Low E B D) (hg : D ≤ gl) (h : GrowI D gl u0 u1 u2 u3 l w) (hc : Chg (ME E) w w') : GrowI D gl u0 u1 u2 u3 l w' := by
  obtain ⟨A, c, h1, h2⟩ := h
  exact ⟨A, c, hc.blk h1 fun hm => by have := ME.low hl hm; omega, h2.keep hc (fun b hb hm => by have := ME.low hl hm; omega) fun _ _ h => h.keep hc fun b hb hm => by have := ME.low hl hm; omega⟩
theorem enters81 : EntersC 46 := by
  intro xs w'; show (callFunc _ _).run _ _ = _
  simp [callFunc, Try.func46, go_sem]
  rw [if_neg (by decide +kernel), if_neg (fun h => by cases h)]
set_option maxRecDepth 100000 in
set_option maxHeartbeats 16000000 in
theorem instrs1_any (E : EnvB) (B D : Nat) (bs : List Nat) (hl : Low E B D) (hn : bs.length ≤ 1048576) (gl : Nat) (hgl : D ≤ gl) (u0 u1 u2 u3 : Value) (l : List InstrD) (w : World) (st : Except Nat Nat) (h : Env E B bs w st) (hJ : GrowI D gl u0 u1 u2 u3 l w) (hln : l.length ≤ 2147483647) (hD : D ≤ w.heap.size) :
    Calls Try.prog 46 #[ptr E.bm, ptr E.bn, ptr E.be, ptr E.bl, ptr gl] w (OneRes E B bs (MG E D gl 34 50) (GrowI D gl u0 u1 u2 u3) (instrP bs) l st w) := by
  obtain ⟨i0, hi0, hz0, hs0, hb0⟩ := info_parts infoInstr
  have HE := Lib.hid (And.intro h (Chg.refl (ME E) w))
  obtain ⟨a, hb, _⟩ := h
  have g0 := hb.small.cell 0
  have g1 := hb.num.cell 0
  simp only [List.getElem?_toArray, List.getElem?_cons_zero] at g0 g1
  have HJ := Lib.hid hJ
  have HLow := Lib.hid hl
  have HGl := Lib.hid hgl
  have HSz := Lib.hid hD
  clear hb hJ hl hgl hD
  have e3 : ∀ (xs : Array Value) (w' : World), (callFunc 39 xs).run Try.prog w' = .ok (.enter 39 xs) w' := enters3
  have e2 : ∀ (xs : Array Value) (w' : World), (callFunc 38 xs).run Try.prog w' = .ok (.enter 38 xs) w' := enters2
  have e4 : ∀ (xs : Array Value) (w' : World), (callFunc 40 xs).run Try.prog w' = .ok (.enter 40 xs) w' := enters4
  go_enter Try.func46, Try.ntmps46
  go_wp2_with fail
  have hS0 : w.drew.cell? ⟨E.bm, 0, none⟩ = some (.func (.func 39) #[] #[ptr E.ba, ptr E.bn, ptr E.bf]) ∧ w.drew.cell? ⟨E.bn, 0, none⟩ = some (.func (.func 38) #[] #[ptr E.bb, ptr E.ba, ptr E.bs, ptr E.bf]) := ⟨g0, g1⟩
  refine wp_region_G (S := fun w' => w'.cell? ⟨E.bm, 0, none⟩ = some (.func (.func 39) #[] #[ptr E.ba, ptr E.bn, ptr E.bf]) ∧ w'.cell? ⟨E.bn, 0, none⟩ = some (.func (.func 38) #[] #[ptr E.bb, ptr E.ba, ptr E.bs, ptr E.bf])) 10 (by kernel_rfl) hS0 (fun hHeld => ?_)
  refine wpAnyG_take (i := 0) (v := ?va1) rfl (by kernel_rfl) (fun _ _ _ h => h) (Or.inl ⟨by rfl, ?hy1⟩) (by assumption) ?ra1
  case hy1 => (intro w hSw; (try dsimp only at hSw); go_simp; all_goals (with_reducible rfl))
  simp only [Act.put, List.setIfInBounds_toArray, List.set_cons_zero, List.set_cons_succ]
  refine wpAnyG_take (i := 2) (v := ?va2) rfl (by kernel_rfl) (fun _ _ _ h => h) (Or.inl ⟨by rfl, ?hy2⟩) (by assumption) ?ra2
  case hy2 => (intro w hSw; (try dsimp only at hSw); go_simp; all_goals (with_reducible rfl))
  simp only [Act.put, List.setIfInBounds_toArray, List.set_cons_zero, List.set_cons_succ]
  refine wpAnyG_take (i := 4) (v := ?va3) rfl (by kernel_rfl) (fun _ _ _ h => h) (Or.inl ⟨by rfl, ?hy3⟩) (by assumption) ?ra3
  case hy3 => (intro w hSw; (try dsimp only at hSw); go_simp; all_goals (with_reducible rfl))
  simp only [Act.put, List.setIfInBounds_toArray, List.set_cons_zero, List.set_cons_succ]
  refine wpAnyG_take (i := 6) (v := ?va4) rfl (by kernel_rfl) (fun _ _ _ h => h) (Or.inl ⟨by rfl, ?hy4⟩) (by assumption) ?ra4
  case hy4 => (intro w hSw; (try dsimp only at hSw); go_simp; all_goals (with_reducible rfl))
  simp only [Act.put, List.setIfInBounds_toArray, List.set_cons_zero, List.set_cons_succ]
  refine wpAnyG_ready (rs := [1, 9]) (by kernel_rfl) (by simp) ?_
  refine AllReadyG.cons rfl (fun K hK => ?_) ?_
  · skip
    go_simp
    refine (small_any E B bs _ st (HE.out.1.keep ((by repeat' (first | exact Chg.refl (fun _ _ => False) _ | apply Chg.drew | apply Chg.drewN | apply Chg.alloc)) : Chg (fun _ _ => False) w _) (LetsE.no E B)) hn 0 (.inl rfl)).mono ?_
    rintro e w1 ⟨x0, rfl, hx0, hx1, hxv, hE1, hc1'⟩
    have hxi : I64 x0 := by unfold I64; omega
    clear hx0 hx1
    have hcs : Chg (ME E) w w1 := (((by repeat' (first | exact Chg.refl (fun _ _ => False) _ | apply Chg.drew | apply Chg.drewN | apply Chg.alloc)) : Chg (fun _ _ => False) w _).mono fun _ _ _ h => h.elim).trans hc1'
    have hc1 : Chg (ME E) w w1 := HE.out.2.trans hcs
    have g0 := hE1.choose_spec.1.small.cell 0
    have g1 := hE1.choose_spec.1.num.cell 0
    simp only [List.getElem?_toArray, List.getElem?_cons_zero] at g0 g1
    have HE := Lib.hid (And.intro hE1 hc1)
    have HT0 := Lib.hid hxv
    have HI0 := Lib.hid hxi
    clear hxv hE1 hc1 hc1' hcs hxi
    try simp only []
    refine hK.out _ _ ⟨g0, g1⟩ (fun hHeld => ?_)
    clear hK K
    try simp only [Act.put, List.setIfInBounds_toArray, List.set_cons_zero, List.set_cons_succ]
    refine wpAnyG_ready (rs := [3, 9]) (by kernel_rfl) (by simp) ?_
    refine AllReadyG.cons rfl (fun K hK => ?_) ?_
    · skip
      go_simp
      refine (small_any E B bs _ (endS (runS (smallP bs 0) st)) (HE.out.1.keep ((by repeat' (first | exact Chg.refl (fun _ _ => False) _ | apply Chg.drew | apply Chg.drewN | apply Chg.alloc)) : Chg (fun _ _ => False) w1 _) (LetsE.no E B)) hn (-1) (.inr rfl)).mono ?_
      rintro e w2 ⟨x1, rfl, hx0, hx1, hxv, hE1, hc1'⟩
      have hxi : I64 x1 := by unfold I64; omega
      clear hx0 hx1
      have hcs : Chg (ME E) w1 w2 := (((by repeat' (first | exact Chg.refl (fun _ _ => False) _ | apply Chg.drew | apply Chg.drewN | apply Chg.alloc)) : Chg (fun _ _ => False) w1 _).mono fun _ _ _ h => h.elim).trans hc1'
      have hc1 : Chg (ME E) w w2 := HE.out.2.trans hcs
      have g0 := hE1.choose_spec.1.small.cell 0
      have g1 := hE1.choose_spec.1.num.cell 0
      simp only [List.getElem?_toArray, List.getElem?_cons_zero] at g0 g1
      have HE := Lib.hid (And.intro hE1 hc1)
      have HT1 := Lib.hid hxv
      have HI1 := Lib.hid hxi
      clear hxv hE1 hc1 hc1' hcs hxi
      try simp only []
      refine hK.out _ _ ⟨g0, g1⟩ (fun hHeld => ?_)
      clear hK K
      try simp only [Act.put, List.setIfInBounds_toArray, List.set_cons_zero, List.set_cons_succ]
      refine wpAnyG_ready (rs := [5, 9]) (by kernel_rfl) (by simp) ?_
      refine AllReadyG.cons rfl (fun K hK => ?_) ?_
      · skip
        go_simp
        refine (small_any E B bs _ (endS (runS (smallP bs (-1)) (endS (runS (smallP bs 0) st)))) (HE.out.1.keep ((by repeat' (first | exact Chg.refl (fun _ _ => False) _ | apply Chg.drew | apply Chg.drewN | apply Chg.alloc)) : Chg (fun _ _ => False) w2 _) (LetsE.no E B)) hn (-1) (.inr rfl)).mono ?_
        rintro e w3 ⟨x2, rfl, hx0, hx1, hxv, hE1, hc1'⟩
        have hxi : I64 x2 := by unfold I64; omega
        clear hx0 hx1
        have hcs : Chg (ME E) w2 w3 := (((by repeat' (first | exact Chg.refl (fun _ _ => False) _ | apply Chg.drew | apply Chg.drewN | apply Chg.alloc)) : Chg (fun _ _ => False) w2 _).mono fun _ _ _ h => h.elim).trans hc1'
        have hc1 : Chg (ME E) w w3 := HE.out.2.trans hcs
        have g0 := hE1.choose_spec.1.small.cell 0
        have g1 := hE1.choose_spec.1.num.cell 0
        simp only [List.getElem?_toArray, List.getElem?_cons_zero] at g0 g1
        have HE := Lib.hid (And.intro hE1 hc1)
        have HT2 := Lib.hid hxv
        have HI2 := Lib.hid hxi
        clear hxv hE1 hc1 hc1' hcs hxi
        try simp only []
        refine hK.out _ _ ⟨g0, g1⟩ (fun hHeld => ?_)
        clear hK K
        try simp only [Act.put, List.setIfInBounds_toArray, List.set_cons_zero, List.set_cons_succ]
        refine wpAnyG_ready (rs := [7, 9]) (by kernel_rfl) (by simp) ?_
        refine AllReadyG.cons rfl (fun K hK => ?_) ?_
        · skip
          go_simp
          refine (number_any E B bs _ (endS (runS (smallP bs (-1)) (endS (runS (smallP bs (-1)) (endS (runS (smallP bs 0) st)))))) (HE.out.1.keep ((by repeat' (first | exact Chg.refl (fun _ _ => False) _ | apply Chg.drew | apply Chg.drewN | apply Chg.alloc)) : Chg (fun _ _ => False) w3 _) (LetsE.no E B)) hn).mono ?_
          rintro e w4 ⟨x3, rfl, hxi, hxv, hE1, hc1'⟩
          have hcs : Chg (ME E) w3 w4 := (((by repeat' (first | exact Chg.refl (fun _ _ => False) _ | apply Chg.drew | apply Chg.drewN | apply Chg.alloc)) : Chg (fun _ _ => False) w3 _).mono fun _ _ _ h => h.elim).trans hc1'
          have hc1 : Chg (ME E) w w4 := HE.out.2.trans hcs
          have g0 := hE1.choose_spec.1.small.cell 0
          have g1 := hE1.choose_spec.1.num.cell 0
          simp only [List.getElem?_toArray, List.getElem?_cons_zero] at g0 g1
          have HE := Lib.hid (And.intro hE1 hc1)
          have HT3 := Lib.hid hxv
          have HI3 := Lib.hid hxi
          clear hxv hE1 hc1 hc1' hcs hxi
          try simp only []
          refine hK.out _ _ ⟨g0, g1⟩ (fun hHeld => ?_)
          clear hK K
          try simp only [Act.put, List.setIfInBounds_toArray, List.set_cons_zero, List.set_cons_succ]
          refine wpAnyG_take (i := 8) (v := ?va5) rfl (by kernel_rfl) (fun _ _ _ h => h) (Or.inl ⟨by rfl, ?hy5⟩) (by assumption) ?ra5
          case hy5 => (intro w hSw; (try dsimp only at hSw); go_simp; all_goals (with_reducible rfl))
          simp only [Act.put, List.setIfInBounds_toArray, List.set_cons_zero, List.set_cons_succ]
          refine wpAnyG_ready (rs := [9]) (by kernel_rfl) (by simp) ?_
          refine AllReadyG.cons rfl (fun K hK => ?_) ?_
          · skip
            go_simp
            have t0 : (w4.alloc (.cells #[.int .i64 0, .int .i64 0, .int .i64 0, .int .u64 0, .slice none 0 0] 50)).cell? _ = _ := (chg_alloc w4 (.cells #[.int .i64 0, .int .i64 0, .int .i64 0, .int .u64 0, .slice none 0 0] 50)).cell g0 fun _ => id
            have t1 : (w4.alloc (.cells #[.int .i64 0, .int .i64 0, .int .i64 0, .int .u64 0, .slice none 0 0] 50)).cell? _ = _ := (chg_alloc w4 (.cells #[.int .i64 0, .int .i64 0, .int .i64 0, .int .u64 0, .slice none 0 0] 50)).cell g1 fun _ => id
            refine hK.out _ _ ⟨t0, t1⟩ (fun hHeld => ?_)
            clear hK K
            try simp only [Act.put, List.setIfInBounds_toArray, List.set_cons_zero, List.set_cons_succ]
            clear t0 t1
            have hF1 : Chg (fun _ _ => False) w4 (w4.alloc (.cells #[.int .i64 0, .int .i64 0, .int .i64 0, .int .u64 0, .slice none 0 0] 50)) := (by repeat' (first | exact Chg.refl (fun _ _ => False) _ | apply Chg.drew | apply Chg.drewN | apply Chg.alloc))
            have hF2 : Blk (w4.alloc (.cells #[.int .i64 0, .int .i64 0, .int .i64 0, .int .u64 0, .slice none 0 0] 50)) w4.heap.size 50 #[.int .i64 0, .int .i64 0, .int .i64 0, .int .u64 0, .slice none 0 0] := Blk.new w4 50 #[.int .i64 0, .int .i64 0, .int .i64 0, .int .u64 0, .slice none 0 0]
            have HF := Lib.hid (And.intro hF1 hF2)
            clear hF1 hF2
            generalize (w4.alloc (.cells #[.int .i64 0, .int .i64 0, .int .i64 0, .int .u64 0, .slice none 0 0] 50)) = wa at HF hHeld ⊢
            have hga : w.heap.size ≤ w4.heap.size := HE.out.2.size
            generalize w4.heap.size = ga at HF hga hHeld ⊢
            have hH2 := hHeld
            obtain ⟨g0, g1⟩ := hH2
            have HAL := Lib.hid (And.intro HF.out.2 hga)
            have HE := Lib.hid (And.intro (HE.out.1.keep HF.out.1 (LetsE.no E B)) (HE.out.2.trans (HF.out.1.mono fun _ _ _ h => h.elim)))
            clear HF hga
            obtain ⟨z0, z1, z2, z3, z4⟩ := HAL.out.1.cells5
            have y0 := HAL.out.1.frozen 0
            have y1 := HAL.out.1.frozen 1
            have y2 := HAL.out.1.frozen 2
            have y3 := HAL.out.1.frozen 3
            have y4 := HAL.out.1.frozen 4
            refine wpAnyG_last rfl (by kernel_rfl) (by kernel_rfl) (fun K hK => ?_)
            go_simp
            refine hK.out _ _ ?_
            clear hK K
            try simp only [Act.put, List.setIfInBounds_toArray, List.set_cons_zero, List.set_cons_succ]
            have hb0 := (HAL.out.1).set_ 0 (.int .i64 x0)
            have hd0 := chg_set (j := 0) (HAL.out.1) (.int .i64 x0)
            have hb1 := (hb0).set_ 1 (.int .i64 x1)
            have hd1 := chg_set (j := 1) (hb0) (.int .i64 x1)
            have hb2 := (hb1).set_ 2 (.int .i64 x2)
            have hd2 := chg_set (j := 2) (hb1) (.int .i64 x2)
            have hb3 := (hb2).set_ 3 (.int .u64 (x3 : Int))
            have hd3 := chg_set (j := 3) (hb2) (.int .u64 (x3 : Int))
            have hb4 := (hb3).set_ 4 (.slice none 0 0)
            have hd4 := chg_set (j := 4) (hb3) (.slice none 0 0)
            have hbs : Blk (((((wa.setCell ⟨ga, 0, none⟩ (.int .i64 x0)).setCell ⟨ga, 1, none⟩ (.int .i64 x1)).setCell ⟨ga, 2, none⟩ (.int .i64 x2)).setCell ⟨ga, 3, none⟩ (.int .u64 (x3 : Int))).setCell ⟨ga, 4, none⟩ (.slice none 0 0)) ga 50 #[.int .i64 x0, .int .i64 x1, .int .i64 x2, .int .u64 (x3 : Int), .slice none 0 0] := by simpa using hb4
            have hds : Chg (fun b t => b = ga ∧ t = 50) wa (((((wa.setCell ⟨ga, 0, none⟩ (.int .i64 x0)).setCell ⟨ga, 1, none⟩ (.int .i64 x1)).setCell ⟨ga, 2, none⟩ (.int .i64 x2)).setCell ⟨ga, 3, none⟩ (.int .u64 (x3 : Int))).setCell ⟨ga, 4, none⟩ (.slice none 0 0)) := ((((hd0).trans hd1).trans hd2).trans hd3).trans hd4
            clear z0 y0 hb0 hd0 z1 y1 hb1 hd1 z2 y2 hb2 hd2 z3 y3 hb3 hd3 z4 y4 hb4 hd4
            skip
            generalize (((((wa.setCell ⟨ga, 0, none⟩ (.int .i64 x0)).setCell ⟨ga, 1, none⟩ (.int .i64 x1)).setCell ⟨ga, 2, none⟩ (.int .i64 x2)).setCell ⟨ga, 3, none⟩ (.int .u64 (x3 : Int))).setCell ⟨ga, 4, none⟩ (.slice none 0 0)) = ws at hbs hds ⊢
            have hgw := HAL.out.2
            have hEs := HE.out.1.keep hds (LetsE.far HLow.out fun b t h => by have h8 := h.1; have h9 := HSz.out; omega)
            have hcs : Chg (ME E) w ws := HE.out.2.trans_le hds fun b t hb h => by have h8 := h.1; omega
            have ge := hEs.choose_spec.1.each.cell 0
            simp only [List.getElem?_toArray, List.getElem?_cons_zero] at ge
            have HW := Lib.hid (And.intro hbs (And.intro hEs (And.intro hcs hgw)))
            clear hbs hds hEs hcs hgw
            go_wp2_with fail
            refine (each_any E B bs _ _ HW.out.2.1 hn 47 #[ptr ga, ptr E.bl, ptr E.bm] enters811 (MG E w.heap.size ga 50 52) (fun b t h => .inl h) (GrowC w.heap.size ga x0 x1 x2 x3) (caseP bs) ⟨none, 0, HW.out.1, RowR.nil _ _ _ _ _⟩
              (fun w' hc => GrowC.keepE (HLow.out.more HSz.out) HW.out.2.2.2 ⟨none, 0, HW.out.1, RowR.nil _ _ _ _ _⟩ hc)
              (fun l1 w1 st1 hE1 hJ1 hl1 hc1 => cases1_any E B w.heap.size bs (HLow.out.more HSz.out) hn ga HW.out.2.2.2 x0 x1 x2 x3 l1 w1 st1 hE1 hJ1 hl1 (Nat.le_trans HW.out.2.2.1.size hc1.size))).mono fun e w9 hh => ?_
            obtain ⟨rfl, cs, ⟨A5, c5, hb5, hrow5⟩, hv5, hE5, hc5⟩ := hh
            have hga := HW.out.2.2.2
            have hcA : Chg (ME E) w w9 := HW.out.2.2.1.trans_le hc5 fun b t hb h => by
              rcases h with h | h | h
              · exact h
              · have := h.1; omega
              · have := h.1; omega
            obtain ⟨A, c, hbl, xss, how, h2, h3, h4⟩ := HJ.out.keepE HLow.out HGl.out hcA
            obtain ⟨z0, z1, z2, z3, z4⟩ := hb5.cells5
            obtain ⟨f0, f1, f2, f3, f4⟩ := hbl.cells5
            have hD9 : D ≤ w9.heap.size := Nat.le_trans HSz.out hcA.size
            have H5 := Lib.hid (And.intro hrow5 (And.intro hv5 (And.intro hE5 hcA)))
            have H6 := Lib.hid (And.intro hbl (And.intro h2 (And.intro h3 h4)))
            clear hb5 hrow5 hv5 hE5 hc5 hcA hbl h2 h3 h4 f0 f1 f2 f3 hga
            go_wp2_with (at_builtin; go_must (refine wpList_append_new rfl (.tmp 19) (.tmp 21) 32 rfl D 50 i0 _ 5 56 Try.underlying32 hi0 hz0 hs0 hb0 rfl (by omega) A l.length c xss.flatten rfl how 1 1 [.int .i64 x0, .int .i64 x1, .int .i64 x2, .int .u64 (x3 : Int), .slice A5 cs.length c5] rfl (by simp [World.setCell]) rfl (by simp; exact ⟨rfl, rfl, rfl, rfl, rfl⟩) (by simp only [maxLen]; omega) (by omega) hD9 ?_))
            intro A9 c9 w10 hap
            have hch := hap.chg how
            have hbf := hch.blk H6.out.1 (fun h => absurd h.2 (by decide))
            obtain ⟨k0, k1, k2, k3, k4⟩ := hbf.cells5
            have kz := hbf.frozen 4
            have HP := Lib.hid (And.intro hap.own (And.intro hch hbf))
            clear hap hch hbf how k0 k1 k2 k3
            go_wp2_with fail
            go_end0
            obtain ⟨k1, k2, k3⟩ := HP.out
            have hset := chg_set (j := 4) k3 (.slice A9 (l.length + 1) c9)
            have hE6 := H5.out.2.2.1.keep k2 (LetsE.far HLow.out fun b t h => h.1)
            have hE7 := hE6.keep hset (LetsE.far HLow.out fun b t h => by rw [h.1]; exact HGl.out)
            have hcr : RowR D 52 4 CaseR w10 A5 c5 cs := (H5.out.1.rebase HSz.out).keep k2 (fun b hb h => absurd h.2 (by decide)) fun _ _ h => h
            have hrow : RowR D 50 5 (InstrP D) w10 A9 c9 (l ++ [⟨x0, x1, x2, x3, cs⟩]) := RowR.snoc (w := w9) H6.out.2.1 H6.out.2.2.1 H6.out.2.2.2 (fun cs s h => h.keep k2 fun b hb h => absurd h.2 (by decide)) k1 rfl ⟨A5, c5, rfl, HI0.out, HI1.out, HI2.out, HI3.out, hcr⟩
            obtain ⟨r1, r2⟩ := instr_run HT0.out HT1.out HT2.out HT3.out H5.out.2.1
            refine ⟨rfl, ⟨x0, x1, x2, x3, cs⟩, ⟨A9, c9, ?_, ?_⟩, r2, by rw [r1]; exact hE7, ?_⟩
            · have := k3.set_ 4 (.slice A9 (l.length + 1) c9)
              simpa using this
            · exact hrow.keep hset (fun b hb h => absurd h.2 (by decide)) fun _ _ h => h.keep hset fun b hb h => absurd h.2 (by decide)
            · exact ((H5.out.2.2.2.mono fun b t _ h => .inl h).trans (k2.mono fun b t _ h => .inr (.inr h))).trans (hset.mono fun b t _ h => .inr (.inl h))
          exact AllReadyG.nil
        refine AllReadyG.cons rfl (fun K hK => ?_) ?_
        · skip
          go_simp
          have t0 : (w3.alloc (.cells #[.int .i64 0, .int .i64 0, .int .i64 0, .int .u64 0, .slice none 0 0] 50)).cell? _ = _ := (chg_alloc w3 (.cells #[.int .i64 0, .int .i64 0, .int .i64 0, .int .u64 0, .slice none 0 0] 50)).cell g0 fun _ => id
          have t1 : (w3.alloc (.cells #[.int .i64 0, .int .i64 0, .int .i64 0, .int .u64 0, .slice none 0 0] 50)).cell? _ = _ := (chg_alloc w3 (.cells #[.int .i64 0, .int .i64 0, .int .i64 0, .int .u64 0, .slice none 0 0] 50)).cell g1 fun _ => id
          refine hK.out _ _ ⟨t0, t1⟩ (fun hHeld => ?_)
          clear hK K
          try simp only [Act.put, List.setIfInBounds_toArray, List.set_cons_zero, List.set_cons_succ]
          clear t0 t1
          have hF1 : Chg (fun _ _ => False) w3 (w3.alloc (.cells #[.int .i64 0, .int .i64 0, .int .i64 0, .int .u64 0, .slice none 0 0] 50)) := (by repeat' (first | exact Chg.refl (fun _ _ => False) _ | apply Chg.drew | apply Chg.drewN | apply Chg.alloc))
          have hF2 : Blk (w3.alloc (.cells #[.int .i64 0, .int .i64 0, .int .i64 0, .int .u64 0, .slice none 0 0] 50)) w3.heap.size 50 #[.int .i64 0, .int .i64 0, .int .i64 0, .int .u64 0, .slice none 0 0] := Blk.new w3 50 #[.int .i64 0, .int .i64 0, .int .i64 0, .int .u64 0, .slice none 0 0]
          have HF := Lib.hid (And.intro hF1 hF2)
          clear hF1 hF2
          generalize (w3.alloc (.cells #[.int .i64 0, .int .i64 0, .int .i64 0, .int .u64 0, .slice none 0 0] 50)) = wa at HF hHeld ⊢
          have hga : w.heap.size ≤ w3.heap.size := HE.out.2.size
          generalize w3.heap.size = ga at HF hga hHeld ⊢
          have hH2 := hHeld
          obtain ⟨g0, g1⟩ := hH2
          have HAL := Lib.hid (And.intro HF.out.2 hga)
          have HE := Lib.hid (And.intro (HE.out.1.keep HF.out.1 (LetsE.no E B)) (HE.out.2.trans (HF.out.1.mono fun _ _ _ h => h.elim)))
          clear HF hga
          refine wpAnyG_ready (rs := [7]) (by kernel_rfl) (by simp) ?_
          refine AllReadyG.cons rfl (fun K hK => ?_) ?_
          · skip
            go_simp
            refine (number_any E B bs _ (endS (runS (smallP bs (-1)) (endS (runS (smallP bs (-1)) (endS (runS (smallP bs 0) st)))))) (HE.out.1.keep ((by repeat' (first | exact Chg.refl (fun _ _ => False) _ | apply Chg.drew | apply Chg.drewN | apply Chg.alloc)) : Chg (fun _ _ => False) wa _) (LetsE.no E B)) hn).mono ?_
            rintro e w4 ⟨x3, rfl, hxi, hxv, hE1, hc1'⟩
            have hcs : Chg (ME E) wa w4 := (((by repeat' (first | exact Chg.refl (fun _ _ => False) _ | apply Chg.drew | apply Chg.drewN | apply Chg.alloc)) : Chg (fun _ _ => False) wa _).mono fun _ _ _ h => h.elim).trans hc1'
            have hc1 : Chg (ME E) w w4 := HE.out.2.trans hcs
            have HAL := Lib.hid (And.intro (hcs.blk HAL.out.1 fun hm => by have h8 := ME.low HLow.out hm; have h9 := HAL.out.2; have h10 := HSz.out; omega) HAL.out.2)
            have g0 := hE1.choose_spec.1.small.cell 0
            have g1 := hE1.choose_spec.1.num.cell 0
            simp only [List.getElem?_toArray, List.getElem?_cons_zero] at g0 g1
            have HE := Lib.hid (And.intro hE1 hc1)
            have HT3 := Lib.hid hxv
            have HI3 := Lib.hid hxi
            clear hxv hE1 hc1 hc1' hcs hxi
            try simp only []
            refine hK.out _ _ ⟨g0, g1⟩ (fun hHeld => ?_)
            clear hK K
            try simp only [Act.put, List.setIfInBounds_toArray, List.set_cons_zero, List.set_cons_succ]
            refine wpAnyG_take (i := 8) (v := ?va6) rfl (by kernel_rfl) (fun _ _ _ h => h) (Or.inl ⟨by rfl, ?hy6⟩) (by assumption) ?ra6
            case hy6 => (intro w hSw; (try dsimp only at hSw); go_simp; all_goals (with_reducible rfl))
            simp only [Act.put, List.setIfInBounds_toArray, List.set_cons_zero, List.set_cons_succ]
            obtain ⟨z0, z1, z2, z3, z4⟩ := HAL.out.1.cells5
            have y0 := HAL.out.1.frozen 0
            have y1 := HAL.out.1.frozen 1
            have y2 := HAL.out.1.frozen 2
            have y3 := HAL.out.1.frozen 3
            have y4 := HAL.out.1.frozen 4
            refine wpAnyG_last rfl (by kernel_rfl) (by kernel_rfl) (fun K hK => ?_)
            go_simp
            refine hK.out _ _ ?_
            clear hK K
            try simp only [Act.put, List.setIfInBounds_toArray, List.set_cons_zero, List.set_cons_succ]
            have hb0 := (HAL.out.1).set_ 0 (.int .i64 x0)
            have hd0 := chg_set (j := 0) (HAL.out.1) (.int .i64 x0)
            have hb1 := (hb0).set_ 1 (.int .i64 x1)
            have hd1 := chg_set (j := 1) (hb0) (.int .i64 x1)
            have hb2 := (hb1).set_ 2 (.int .i64 x2)
            have hd2 := chg_set (j := 2) (hb1) (.int .i64 x2)
            have hb3 := (hb2).set_ 3 (.int .u64 (x3 : Int))
            have hd3 := chg_set (j := 3) (hb2) (.int .u64 (x3 : Int))
            have hb4 := (hb3).set_ 4 (.slice none 0 0)
            have hd4 := chg_set (j := 4) (hb3) (.slice none 0 0)
            have hbs : Blk (((((w4.setCell ⟨ga, 0, none⟩ (.int .i64 x0)).setCell ⟨ga, 1, none⟩ (.int .i64 x1)).setCell ⟨ga, 2, none⟩ (.int .i64 x2)).setCell ⟨ga, 3, none⟩ (.int .u64 (x3 : Int))).setCell ⟨ga, 4, none⟩ (.slice none 0 0)) ga 50 #[.int .i64 x0, .int .i64 x1, .int .i64 x2, .int .u64 (x3 : Int), .slice none 0 0] := by simpa using hb4
            have hds : Chg (fun b t => b = ga ∧ t = 50) w4 (((((w4.setCell ⟨ga, 0, none⟩ (.int .i64 x0)).setCell ⟨ga, 1, none⟩ (.int .i64 x1)).setCell ⟨ga, 2, none⟩ (.int .i64 x2)).setCell ⟨ga, 3, none⟩ (.int .u64 (x3 : Int))).setCell ⟨ga, 4, none⟩ (.slice none 0 0)) := ((((hd0).trans hd1).trans hd2).trans hd3).trans hd4
            clear z0 y0 hb0 hd0 z1 y1 hb1 hd1 z2 y2 hb2 hd2 z3 y3 hb3 hd3 z4 y4 hb4 hd4
            skip
            generalize (((((w4.setCell ⟨ga, 0, none⟩ (.int .i64 x0)).setCell ⟨ga, 1, none⟩ (.int .i64 x1)).setCell ⟨ga, 2, none⟩ (.int .i64 x2)).setCell ⟨ga, 3, none⟩ (.int .u64 (x3 : Int))).setCell ⟨ga, 4, none⟩ (.slice none 0 0)) = ws at hbs hds ⊢
            have hgw := HAL.out.2
            have hEs := HE.out.1.keep hds (LetsE.far HLow.out fun b t h => by have h8 := h.1; have h9 := HSz.out; omega)
            have hcs : Chg (ME E) w ws := HE.out.2.trans_le hds fun b t hb h => by have h8 := h.1; omega
            have ge := hEs.choose_spec.1.each.cell 0
            simp only [List.getElem?_toArray, List.getElem?_cons_zero] at ge
            have HW := Lib.hid (And.intro hbs (And.intro hEs (And.intro hcs hgw)))
            clear hbs hds hEs hcs hgw
            go_wp2_with fail
            refine (each_any E B bs _ _ HW.out.2.1 hn 47 #[ptr ga, ptr E.bl, ptr E.bm] enters811 (MG E w.heap.size ga 50 52) (fun b t h => .inl h) (GrowC w.heap.size ga x0 x1 x2 x3) (caseP bs) ⟨none, 0, HW.out.1, RowR.nil _ _ _ _ _⟩
              (fun w' hc => GrowC.keepE (HLow.out.more HSz.out) HW.out.2.2.2 ⟨none, 0, HW.out.1, RowR.nil _ _ _ _ _⟩ hc)
              (fun l1 w1 st1 hE1 hJ1 hl1 hc1 => cases1_any E B w.heap.size bs (HLow.out.more HSz.out) hn ga HW.out.2.2.2 x0 x1 x2 x3 l1 w1 st1 hE1 hJ1 hl1 (Nat.le_trans HW.out.2.2.1.size hc1.size))).mono fun e w9 hh => ?_
            obtain ⟨rfl, cs, ⟨A5, c5, hb5, hrow5⟩, hv5, hE5, hc5⟩ := hh
            have hga := HW.out.2.2.2
            have hcA : Chg (ME E) w w9 := HW.out.2.2.1.trans_le hc5 fun b t hb h => by
              rcases h with h | h | h
              · exact h
              · have := h.1; omega
              · have := h.1; omega
            obtain ⟨A, c, hbl, xss, how, h2, h3, h4⟩ := HJ.out.keepE HLow.out HGl.out hcA
            obtain ⟨z0, z1, z2, z3, z4⟩ := hb5.cells5
            obtain ⟨f0, f1, f2, f3, f4⟩ := hbl.cells5
            have hD9 : D ≤ w9.heap.size := Nat.le_trans HSz.out hcA.size
            have H5 := Lib.hid (And.intro hrow5 (And.intro hv5 (And.intro hE5 hcA)))
            have H6 := Lib.hid (And.intro hbl (And.intro h2 (And.intro h3 h4)))
            clear hb5 hrow5 hv5 hE5 hc5 hcA hbl h2 h3 h4 f0 f1 f2 f3 hga
            go_wp2_with (at_builtin; go_must (refine wpList_append_new rfl (.tmp 19) (.tmp 21) 32 rfl D 50 i0 _ 5 56 Try.underlying32 hi0 hz0 hs0 hb0 rfl (by omega) A l.length c xss.flatten rfl how 1 1 [.int .i64 x0, .int .i64 x1, .int .i64 x2, .int .u64 (x3 : Int), .slice A5 cs.length c5] rfl (by simp [World.setCell]) rfl (by simp; exact ⟨rfl, rfl, rfl, rfl, rfl⟩) (by simp only [maxLen]; omega) (by omega) hD9 ?_))
            intro A9 c9 w10 hap
            have hch := hap.chg how
            have hbf := hch.blk H6.out.1 (fun h => absurd h.2 (by decide))
            obtain ⟨k0, k1, k2, k3, k4⟩ := hbf.cells5
            have kz := hbf.frozen 4
            have HP := Lib.hid (And.intro hap.own (And.intro hch hbf))
            clear hap hch hbf how k0 k1 k2 k3
            go_wp2_with fail
            go_end0
            obtain ⟨k1, k2, k3⟩ := HP.out
            have hset := chg_set (j := 4) k3 (.slice A9 (l.length + 1) c9)
            have hE6 := H5.out.2.2.1.keep k2 (LetsE.far HLow.out fun b t h => h.1)
            have hE7 := hE6.keep hset (LetsE.far HLow.out fun b t h => by rw [h.1]; exact HGl.out)
            have hcr : RowR D 52 4 CaseR w10 A5 c5 cs := (H5.out.1.rebase HSz.out).keep k2 (fun b hb h => absurd h.2 (by decide)) fun _ _ h => h
            have hrow : RowR D 50 5 (InstrP D) w10 A9 c9 (l ++ [⟨x0, x1, x2, x3, cs⟩]) := RowR.snoc (w := w9) H6.out.2.1 H6.out.2.2.1 H6.out.2.2.2 (fun cs s h => h.keep k2 fun b hb h => absurd h.2 (by decide)) k1 rfl ⟨A5, c5, rfl, HI0.out, HI1.out, HI2.out, HI3.out, hcr⟩
            obtain ⟨r1, r2⟩ := instr_run HT0.out HT1.out HT2.out HT3.out H5.out.2.1
            refine ⟨rfl, ⟨x0, x1, x2, x3, cs⟩, ⟨A9, c9, ?_, ?_⟩, r2, by rw [r1]; exact hE7, ?_⟩
            · have := k3.set_ 4 (.slice A9 (l.length + 1) c9)
              simpa using this
            · exact hrow.keep hset (fun b hb h => absurd h.2 (by decide)) fun _ _ h => h.keep hset fun b hb h => absurd h.2 (by decide)
            · exact ((H5.out.2.2.2.mono fun b t _ h => .inl h).trans (k2.mono fun b t _ h => .inr (.inr h))).trans (hset.mono fun b t _ h => .inr (.inl h))
          exact AllReadyG.nil
        exact AllReadyG.nil
      refine AllReadyG.cons rfl (fun K hK => ?_) ?_
      · skip
        go_simp
        have t0 : (w2.alloc (.cells #[.int .i64 0, .int .i64 0, .int .i64 0, .int .u64 0, .slice none 0 0] 50)).cell? _ = _ := (chg_alloc w2 (.cells #[.int .i64 0, .int .i64 0, .int .i64 0, .int .u64 0, .slice none 0 0] 50)).cell g0 fun _ => id
        have t1 : (w2.alloc (.cells #[.int .i64 0, .int .i64 0, .int .i64 0, .int .u64 0, .slice none 0 0] 50)).cell? _ = _ := (chg_alloc w2 (.cells #[.int .i64 0, .int .i64 0, .int .i64 0, .int .u64 0, .slice none 0 0] 50)).cell g1 fun _ => id
        refine hK.out _ _ ⟨t0, t1⟩ (fun hHeld => ?_)
        clear hK K
        try simp only [Act.put, List.setIfInBounds_toArray, List.set_cons_zero, List.set_cons_succ]
        clear t0 t1
        have hF1 : Chg (fun _ _ => False) w2 (w2.alloc (.cells #[.int .i64 0, .int .i64 0, .int .i64 0, .int .u64 0, .slice none 0 0] 50)) := (by repeat' (first | exact Chg.refl (fun _ _ => False) _ | apply Chg.drew | apply Chg.drewN | apply Chg.alloc))
        have hF2 : Blk (w2.alloc (.cells #[.int .i64 0, .int .i64 0, .int .i64 0, .int .u64 0, .slice none 0 0] 50)) w2.heap.size 50 #[.int .i64 0, .int .i64 0, .int .i64 0, .int .u64 0, .slice none 0 0] := Blk.new w2 50 #[.int .i64 0, .int .i64 0, .int .i64 0, .int .u64 0, .slice none 0 0]
        have HF := Lib.hid (And.intro hF1 hF2)
        clear hF1 hF2
        generalize (w2.alloc (.cells #[.int .i64 0, .int .i64 0, .int .i64 0, .int .u64 0, .slice none 0 0] 50)) = wa at HF hHeld ⊢
        have hga : w.heap.size ≤ w2.heap.size := HE.out.2.size
        generalize w2.heap.size = ga at HF hga hHeld ⊢
        have hH2 := hHeld
        obtain ⟨g0, g1⟩ := hH2
        have HAL := Lib.hid (And.intro HF.out.2 hga)
        have HE := Lib.hid (And.intro (HE.out.1.keep HF.out.1 (LetsE.no E B)) (HE.out.2.trans (HF.out.1.mono fun _ _ _ h => h.elim)))
        clear HF hga
        refine wpAnyG_ready (rs := [5]) (by kernel_rfl) (by simp) ?_
        refine AllReadyG.cons rfl (fun K hK => ?_) ?_
        · skip
          go_simp
          refine (small_any E B bs _ (endS (runS (smallP bs (-1)) (endS (runS (smallP bs 0) st)))) (HE.out.1.keep ((by repeat' (first | exact Chg.refl (fun _ _ => False) _ | apply Chg.drew | apply Chg.drewN | apply Chg.alloc)) : Chg (fun _ _ => False) wa _) (LetsE.no E B)) hn (-1) (.inr rfl)).mono ?_
          rintro e w3 ⟨x2, rfl, hx0, hx1, hxv, hE1, hc1'⟩
          have hxi : I64 x2 := by unfold I64; omega
          clear hx0 hx1
          have hcs : Chg (ME E) wa w3 := (((by repeat' (first | exact Chg.refl (fun _ _ => False) _ | apply Chg.drew | apply Chg.drewN | apply Chg.alloc)) : Chg (fun _ _ => False) wa _).mono fun _ _ _ h => h.elim).trans hc1'
          have hc1 : Chg (ME E) w w3 := HE.out.2.trans hcs
          have HAL := Lib.hid (And.intro (hcs.blk HAL.out.1 fun hm => by have h8 := ME.low HLow.out hm; have h9 := HAL.out.2; have h10 := HSz.out; omega) HAL.out.2)
          have g0 := hE1.choose_spec.1.small.cell 0
          have g1 := hE1.choose_spec.1.num.cell 0
          simp only [List.getElem?_toArray, List.getElem?_cons_zero] at g0 g1
          have HE := Lib.hid (And.intro hE1 hc1)
          have HT2 := Lib.hid hxv
          have HI2 := Lib.hid hxi
          clear hxv hE1 hc1 hc1' hcs hxi
          try simp only []
          refine hK.out _ _ ⟨g0, g1⟩ (fun hHeld => ?_)
          clear hK K
          try simp only [Act.put, List.setIfInBounds_toArray, List.set_cons_zero, List.set_cons_succ]
          refine wpAnyG_ready (rs := [7]) (by kernel_rfl) (by simp) ?_
          refine AllReadyG.cons rfl (fun K hK => ?_) ?_
          · skip
            go_simp
            refine (number_any E B bs _ (endS (runS (smallP bs (-1)) (endS (runS (smallP bs (-1)) (endS (runS (smallP bs 0) st)))))) (HE.out.1.keep ((by repeat' (first | exact Chg.refl (fun _ _ => False) _ | apply Chg.drew | apply Chg.drewN | apply Chg.alloc)) : Chg (fun _ _ => False) w3 _) (LetsE.no E B)) hn).mono ?_
            rintro e w4 ⟨x3, rfl, hxi, hxv, hE1, hc1'⟩
            have hcs : Chg (ME E) w3 w4 := (((by repeat' (first | exact Chg.refl (fun _ _ => False) _ | apply Chg.drew | apply Chg.drewN | apply Chg.alloc)) : Chg (fun _ _ => False) w3 _).mono fun _ _ _ h => h.elim).trans hc1'
            have hc1 : Chg (ME E) w w4 := HE.out.2.trans hcs
            have HAL := Lib.hid (And.intro (hcs.blk HAL.out.1 fun hm => by have h8 := ME.low HLow.out hm; have h9 := HAL.out.2; have h10 := HSz.out; omega) HAL.out.2)
            have g0 := hE1.choose_spec.1.small.cell 0
            have g1 := hE1.choose_spec.1.num.cell 0
            simp only [List.getElem?_toArray, List.getElem?_cons_zero] at g0 g1
            have HE := Lib.hid (And.intro hE1 hc1)
            have HT3 := Lib.hid hxv
            have HI3 := Lib.hid hxi
            clear hxv hE1 hc1 hc1' hcs hxi
            try simp only []
            refine hK.out _ _ ⟨g0, g1⟩ (fun hHeld => ?_)
            clear hK K
            try simp only [Act.put, List.setIfInBounds_toArray, List.set_cons_zero, List.set_cons_succ]
            refine wpAnyG_take (i := 8) (v := ?va7) rfl (by kernel_rfl) (fun _ _ _ h => h) (Or.inl ⟨by rfl, ?hy7⟩) (by assumption) ?ra7
            case hy7 => (intro w hSw; (try dsimp only at hSw); go_simp; all_goals (with_reducible rfl))
            simp only [Act.put, List.setIfInBounds_toArray, List.set_cons_zero, List.set_cons_succ]
            obtain ⟨z0, z1, z2, z3, z4⟩ := HAL.out.1.cells5
            have y0 := HAL.out.1.frozen 0
            have y1 := HAL.out.1.frozen 1
            have y2 := HAL.out.1.frozen 2
            have y3 := HAL.out.1.frozen 3
            have y4 := HAL.out.1.frozen 4
            refine wpAnyG_last rfl (by kernel_rfl) (by kernel_rfl) (fun K hK => ?_)
            go_simp
            refine hK.out _ _ ?_
            clear hK K
            try simp only [Act.put, List.setIfInBounds_toArray, List.set_cons_zero, List.set_cons_succ]
            have hb0 := (HAL.out.1).set_ 0 (.int .i64 x0)
            have hd0 := chg_set (j := 0) (HAL.out.1) (.int .i64 x0)
            have hb1 := (hb0).set_ 1 (.int .i64 x1)
            have hd1 := chg_set (j := 1) (hb0) (.int .i64 x1)
            have hb2 := (hb1).set_ 2 (.int .i64 x2)
            have hd2 := chg_set (j := 2) (hb1) (.int .i64 x2)
            have hb3 := (hb2).set_ 3 (.int .u64 (x3 : Int))
            have hd3 := chg_set (j := 3) (hb2) (.int .u64 (x3 : Int))
            have hb4 := (hb3).set_ 4 (.slice none 0 0)
            have hd4 := chg_set (j := 4) (hb3) (.slice none 0 0)
            have hbs : Blk (((((w4.setCell ⟨ga, 0, none⟩ (.int .i64 x0)).setCell ⟨ga, 1, none⟩ (.int .i64 x1)).setCell ⟨ga, 2, none⟩ (.int .i64 x2)).setCell ⟨ga, 3, none⟩ (.int .u64 (x3 : Int))).setCell ⟨ga, 4, none⟩ (.slice none 0 0)) ga 50 #[.int .i64 x0, .int .i64 x1, .int .i64 x2, .int .u64 (x3 : Int), .slice none 0 0] := by simpa using hb4
            have hds : Chg (fun b t => b = ga ∧ t = 50) w4 (((((w4.setCell ⟨ga, 0, none⟩ (.int .i64 x0)).setCell ⟨ga, 1, none⟩ (.int .i64 x1)).setCell ⟨ga, 2, none⟩ (.int .i64 x2)).setCell ⟨ga, 3, none⟩ (.int .u64 (x3 : Int))).setCell ⟨ga, 4, none⟩ (.slice none 0 0)) := ((((hd0).trans hd1).trans hd2).trans hd3).trans hd4
            clear z0 y0 hb0 hd0 z1 y1 hb1 hd1 z2 y2 hb2 hd2 z3 y3 hb3 hd3 z4 y4 hb4 hd4
            skip
            generalize (((((w4.setCell ⟨ga, 0, none⟩ (.int .i64 x0)).setCell ⟨ga, 1, none⟩ (.int .i64 x1)).setCell ⟨ga, 2, none⟩ (.int .i64 x2)).setCell ⟨ga, 3, none⟩ (.int .u64 (x3 : Int))).setCell ⟨ga, 4, none⟩ (.slice none 0 0)) = ws at hbs hds ⊢
            have hgw := HAL.out.2
            have hEs := HE.out.1.keep hds (LetsE.far HLow.out fun b t h => by have h8 := h.1; have h9 := HSz.out; omega)
            have hcs : Chg (ME E) w ws := HE.out.2.trans_le hds fun b t hb h => by have h8 := h.1; omega
            have ge := hEs.choose_spec.1.each.cell 0
            simp only [List.getElem?_toArray, List.getElem?_cons_zero] at ge
            have HW := Lib.hid (And.intro hbs (And.intro hEs (And.intro hcs hgw)))
            clear hbs hds hEs hcs hgw
            go_wp2_with fail
            refine (each_any E B bs _ _ HW.out.2.1 hn 47 #[ptr ga, ptr E.bl, ptr E.bm] enters811 (MG E w.heap.size ga 50 52) (fun b t h => .inl h) (GrowC w.heap.size ga x0 x1 x2 x3) (caseP bs) ⟨none, 0, HW.out.1, RowR.nil _ _ _ _ _⟩
              (fun w' hc => GrowC.keepE (HLow.out.more HSz.out) HW.out.2.2.2 ⟨none, 0, HW.out.1, RowR.nil _ _ _ _ _⟩ hc)
              (fun l1 w1 st1 hE1 hJ1 hl1 hc1 => cases1_any E B w.heap.size bs (HLow.out.more HSz.out) hn ga HW.out.2.2.2 x0 x1 x2 x3 l1 w1 st1 hE1 hJ1 hl1 (Nat.le_trans HW.out.2.2.1.size hc1.size))).mono fun e w9 hh => ?_
            obtain ⟨rfl, cs, ⟨A5, c5, hb5, hrow5⟩, hv5, hE5, hc5⟩ := hh
            have hga := HW.out.2.2.2
            have hcA : Chg (ME E) w w9 := HW.out.2.2.1.trans_le hc5 fun b t hb h => by
              rcases h with h | h | h
              · exact h
              · have := h.1; omega
              · have := h.1; omega
            obtain ⟨A, c, hbl, xss, how, h2, h3, h4⟩ := HJ.out.keepE HLow.out HGl.out hcA
            obtain ⟨z0, z1, z2, z3, z4⟩ := hb5.cells5
            obtain ⟨f0, f1, f2, f3, f4⟩ := hbl.cells5
            have hD9 : D ≤ w9.heap.size := Nat.le_trans HSz.out hcA.size
            have H5 := Lib.hid (And.intro hrow5 (And.intro hv5 (And.intro hE5 hcA)))
            have H6 := Lib.hid (And.intro hbl (And.intro h2 (And.intro h3 h4)))
            clear hb5 hrow5 hv5 hE5 hc5 hcA hbl h2 h3 h4 f0 f1 f2 f3 hga
            go_wp2_with (at_builtin; go_must (refine wpList_append_new rfl (.tmp 19) (.tmp 21) 32 rfl D 50 i0 _ 5 56 Try.underlying32 hi0 hz0 hs0 hb0 rfl (by omega) A l.length c xss.flatten rfl how 1 1 [.int .i64 x0, .int .i64 x1, .int .i64 x2, .int .u64 (x3 : Int), .slice A5 cs.length c5] rfl (by simp [World.setCell]) rfl (by simp; exact ⟨rfl, rfl, rfl, rfl, rfl⟩) (by simp only [maxLen]; omega) (by omega) hD9 ?_))
            intro A9 c9 w10 hap
            have hch := hap.chg how
            have hbf := hch.blk H6.out.1 (fun h => absurd h.2 (by decide))
            obtain ⟨k0, k1, k2, k3, k4⟩ := hbf.cells5
            have kz := hbf.frozen 4
            have HP := Lib.hid (And.intro hap.own (And.intro hch hbf))
            clear hap hch hbf how k0 k1 k2 k3
            go_wp2_with fail
            go_end0
            obtain ⟨k1, k2, k3⟩ := HP.out
            have hset := chg_set (j := 4) k3 (.slice A9 (l.length + 1) c9)
            have hE6 := H5.out.2.2.1.keep k2 (LetsE.far HLow.out fun b t h => h.1)
            have hE7 := hE6.keep hset (LetsE.far HLow.out fun b t h => by rw [h.1]; exact HGl.out)
            have hcr : RowR D 52 4 CaseR w10 A5 c5 cs := (H5.out.1.rebase HSz.out).keep k2 (fun b hb h => absurd h.2 (by decide)) fun _ _ h => h
            have hrow : RowR D 50 5 (InstrP D) w10 A9 c9 (l ++ [⟨x0, x1, x2, x3, cs⟩]) := RowR.snoc (w := w9) H6.out.2.1 H6.out.2.2.1 H6.out.2.2.2 (fun cs s h => h.keep k2 fun b hb h => absurd h.2 (by decide)) k1 rfl ⟨A5, c5, rfl, HI0.out, HI1.out, HI2.out, HI3.out, hcr⟩
            obtain ⟨r1, r2⟩ := instr_run HT0.out HT1.out HT2.out HT3.out H5.out.2.1
            refine ⟨rfl, ⟨x0, x1, x2, x3, cs⟩, ⟨A9, c9, ?_, ?_⟩, r2, by rw [r1]; exact hE7, ?_⟩
            · have := k3.set_ 4 (.slice A9 (l.length + 1) c9)
              simpa using this
            · exact hrow.keep hset (fun b hb h => absurd h.2 (by decide)) fun _ _ h => h.keep hset fun b hb h => absurd h.2 (by decide)
            · exact ((H5.out.2.2.2.mono fun b t _ h => .inl h).trans (k2.mono fun b t _ h => .inr (.inr h))).trans (hset.mono fun b t _ h => .inr (.inl h))
          exact AllReadyG.nil
        exact AllReadyG.nil
      exact AllReadyG.nil
    refine AllReadyG.cons rfl (fun K hK => ?_) ?_
    · skip
      go_simp
      have t0 : (w1.alloc (.cells #[.int .i64 0, .int .i64 0, .int .i64 0, .int .u64 0, .slice none 0 0] 50)).cell? _ = _ := (chg_alloc w1 (.cells #[.int .i64 0, .int .i64 0, .int .i64 0, .int .u64 0, .slice none 0 0] 50)).cell g0 fun _ => id
      have t1 : (w1.alloc (.cells #[.int .i64 0, .int .i64 0, .int .i64 0, .int .u64 0, .slice none 0 0] 50)).cell? _ = _ := (chg_alloc w1 (.cells #[.int .i64 0, .int .i64 0, .int .i64 0, .int .u64 0, .slice none 0 0] 50)).cell g1 fun _ => id
      refine hK.out _ _ ⟨t0, t1⟩ (fun hHeld => ?_)
      clear hK K
      try simp only [Act.put, List.setIfInBounds_toArray, List.set_cons_zero, List.set_cons_succ]
      clear t0 t1
      have hF1 : Chg (fun _ _ => False) w1 (w1.alloc (.cells #[.int .i64 0, .int .i64 0, .int .i64 0, .int .u64 0, .slice none 0 0] 50)) := (by repeat' (first | exact Chg.refl (fun _ _ => False) _ | apply Chg.drew | apply Chg.drewN | apply Chg.alloc))
      have hF2 : Blk (w1.alloc (.cells #[.int .i64 0, .int .i64 0, .int .i64 0, .int .u64 0, .slice none 0 0] 50)) w1.heap.size 50 #[.int .i64 0, .int .i64 0, .int .i64 0, .int .u64 0, .slice none 0 0] := Blk.new w1 50 #[.int .i64 0, .int .i64 0, .int .i64 0, .int .u64 0, .slice none 0 0]
      have HF := Lib.hid (And.intro hF1 hF2)
      clear hF1 hF2
      generalize (w1.alloc (.cells #[.int .i64 0, .int .i64 0, .int .i64 0, .int .u64 0, .slice none 0 0] 50)) = wa at HF hHeld ⊢
      have hga : w.heap.size ≤ w1.heap.size := HE.out.2.size
      generalize w1.heap.size = ga at HF hga hHeld ⊢
      have hH2 := hHeld
      obtain ⟨g0, g1⟩ := hH2
      have HAL := Lib.hid (And.intro HF.out.2 hga)
      have HE := Lib.hid (And.intro (HE.out.1.keep HF.out.1 (LetsE.no E B)) (HE.out.2.trans (HF.out.1.mono fun _ _ _ h => h.elim)))
      clear HF hga
      refine wpAnyG_ready (rs := [3]) (by kernel_rfl) (by simp) ?_
      refine AllReadyG.cons rfl (fun K hK => ?_) ?_
      · skip
        go_simp
        refine (small_any E B bs _ (endS (runS (smallP bs 0) st)) (HE.out.1.keep ((by repeat' (first | exact Chg.refl (fun _ _ => False) _ | apply Chg.drew | apply Chg.drewN | apply Chg.alloc)) : Chg (fun _ _ => False) wa _) (LetsE.no E B)) hn (-1) (.inr rfl)).mono ?_
        rintro e w2 ⟨x1, rfl, hx0, hx1, hxv, hE1, hc1'⟩
        have hxi : I64 x1 := by unfold I64; omega
        clear hx0 hx1
        have hcs : Chg (ME E) wa w2 := (((by repeat' (first | exact Chg.refl (fun _ _ => False) _ | apply Chg.drew | apply Chg.drewN | apply Chg.alloc)) : Chg (fun _ _ => False) wa _).mono fun _ _ _ h => h.elim).trans hc1'
        have hc1 : Chg (ME E) w w2 := HE.out.2.trans hcs
        have HAL := Lib.hid (And.intro (hcs.blk HAL.out.1 fun hm => by have h8 := ME.low HLow.out hm; have h9 := HAL.out.2; have h10 := HSz.out; omega) HAL.out.2)
        have g0 := hE1.choose_spec.1.small.cell 0
        have g1 := hE1.choose_spec.1.num.cell 0
        simp only [List.getElem?_toArray, List.getElem?_cons_zero] at g0 g1
        have HE := Lib.hid (And.intro hE1 hc1)
        have HT1 := Lib.hid hxv
        have HI1 := Lib.hid hxi
        clear hxv hE1 hc1 hc1' hcs hxi
        try simp only []
        refine hK.out _ _ ⟨g0, g1⟩ (fun hHeld => ?_)
        clear hK K
        try simp only [Act.put, List.setIfInBounds_toArray, List.set_cons_zero, List.set_cons_succ]
        refine wpAnyG_ready (rs := [5]) (by kernel_rfl) (by simp) ?_
        refine AllReadyG.cons rfl (fun K hK => ?_) ?_
        · skip
          go_simp
          refine (small_any E B bs _ (endS (runS (smallP bs (-1)) (endS (runS (smallP bs 0) st)))) (HE.out.1.keep ((by repeat' (first | exact Chg.refl (fun _ _ => False) _ | apply Chg.drew | apply Chg.drewN | apply Chg.alloc)) : Chg (fun _ _ => False) w2 _) (LetsE.no E B)) hn (-1) (.inr rfl)).mono ?_
          rintro e w3 ⟨x2, rfl, hx0, hx1, hxv, hE1, hc1'⟩
          have hxi : I64 x2 := by unfold I64; omega
          clear hx0 hx1
          have hcs : Chg (ME E) w2 w3 := (((by repeat' (first | exact Chg.refl (fun _ _ => False) _ | apply Chg.drew | apply Chg.drewN | apply Chg.alloc)) : Chg (fun _ _ => False) w2 _).mono fun _ _ _ h => h.elim).trans hc1'
          have hc1 : Chg (ME E) w w3 := HE.out.2.trans hcs
          have HAL := Lib.hid (And.intro (hcs.blk HAL.out.1 fun hm => by have h8 := ME.low HLow.out hm; have h9 := HAL.out.2; have h10 := HSz.out; omega) HAL.out.2)
          have g0 := hE1.choose_spec.1.small.cell 0
          have g1 := hE1.choose_spec.1.num.cell 0
          simp only [List.getElem?_toArray, List.getElem?_cons_zero] at g0 g1
          have HE := Lib.hid (And.intro hE1 hc1)
          have HT2 := Lib.hid hxv
          have HI2 := Lib.hid hxi
          clear hxv hE1 hc1 hc1' hcs hxi
          try simp only []
          refine hK.out _ _ ⟨g0, g1⟩ (fun hHeld => ?_)
          clear hK K
          try simp only [Act.put, List.setIfInBounds_toArray, List.set_cons_zero, List.set_cons_succ]
          refine wpAnyG_ready (rs := [7]) (by kernel_rfl) (by simp) ?_
          refine AllReadyG.cons rfl (fun K hK => ?_) ?_
          · skip
            go_simp
            refine (number_any E B bs _ (endS (runS (smallP bs (-1)) (endS (runS (smallP bs (-1)) (endS (runS (smallP bs 0) st)))))) (HE.out.1.keep ((by repeat' (first | exact Chg.refl (fun _ _ => False) _ | apply Chg.drew | apply Chg.drewN | apply Chg.alloc)) : Chg (fun _ _ => False) w3 _) (LetsE.no E B)) hn).mono ?_
            rintro e w4 ⟨x3, rfl, hxi, hxv, hE1, hc1'⟩
            have hcs : Chg (ME E) w3 w4 := (((by repeat' (first | exact Chg.refl (fun _ _ => False) _ | apply Chg.drew | apply Chg.drewN | apply Chg.alloc)) : Chg (fun _ _ => False) w3 _).mono fun _ _ _ h => h.elim).trans hc1'
            have hc1 : Chg (ME E) w w4 := HE.out.2.trans hcs
            have HAL := Lib.hid (And.intro (hcs.blk HAL.out.1 fun hm => by have h8 := ME.low HLow.out hm; have h9 := HAL.out.2; have h10 := HSz.out; omega) HAL.out.2)
            have g0 := hE1.choose_spec.1.small.cell 0
            have g1 := hE1.choose_spec.1.num.cell 0
            simp only [List.getElem?_toArray, List.getElem?_cons_zero] at g0 g1
            have HE := Lib.hid (And.intro hE1 hc1)
            have HT3 := Lib.hid hxv
            have HI3 := Lib.hid hxi
            clear hxv hE1 hc1 hc1' hcs hxi
            try simp only []
            refine hK.out _ _ ⟨g0, g1⟩ (fun hHeld => ?_)
            clear hK K
            try simp only [Act.put, List.setIfInBounds_toArray, List.set_cons_zero, List.set_cons_succ]
            refine wpAnyG_take (i := 8) (v := ?va8) rfl (by kernel_rfl) (fun _ _ _ h => h) (Or.inl ⟨by rfl, ?hy8⟩) (by assumption) ?ra8
            case hy8 => (intro w hSw; (try dsimp only at hSw); go_simp; all_goals (with_reducible rfl))
            simp only [Act.put, List.setIfInBounds_toArray, List.set_cons_zero, List.set_cons_succ]
            obtain ⟨z0, z1, z2, z3, z4⟩ := HAL.out.1.cells5
            have y0 := HAL.out.1.frozen 0
            have y1 := HAL.out.1.frozen 1
            have y2 := HAL.out.1.frozen 2
            have y3 := HAL.out.1.frozen 3
            have y4 := HAL.out.1.frozen 4
            refine wpAnyG_last rfl (by kernel_rfl) (by kernel_rfl) (fun K hK => ?_)
            go_simp
            refine hK.out _ _ ?_
            clear hK K
            try simp only [Act.put, List.setIfInBounds_toArray, List.set_cons_zero, List.set_cons_succ]
            have hb0 := (HAL.out.1).set_ 0 (.int .i64 x0)
            have hd0 := chg_set (j := 0) (HAL.out.1) (.int .i64 x0)
            have hb1 := (hb0).set_ 1 (.int .i64 x1)
            have hd1 := chg_set (j := 1) (hb0) (.int .i64 x1)
            have hb2 := (hb1).set_ 2 (.int .i64 x2)
            have hd2 := chg_set (j := 2) (hb1) (.int .i64 x2)
            have hb3 := (hb2).set_ 3 (.int .u64 (x3 : Int))
            have hd3 := chg_set (j := 3) (hb2) (.int .u64 (x3 : Int))
            have hb4 := (hb3).set_ 4 (.slice none 0 0)
            have hd4 := chg_set (j := 4) (hb3) (.slice none 0 0)
            have hbs : Blk (((((w4.setCell ⟨ga, 0, none⟩ (.int .i64 x0)).setCell ⟨ga, 1, none⟩ (.int .i64 x1)).setCell ⟨ga, 2, none⟩ (.int .i64 x2)).setCell ⟨ga, 3, none⟩ (.int .u64 (x3 : Int))).setCell ⟨ga, 4, none⟩ (.slice none 0 0)) ga 50 #[.int .i64 x0, .int .i64 x1, .int .i64 x2, .int .u64 (x3 : Int), .slice none 0 0] := by simpa using hb4
            have hds : Chg (fun b t => b = ga ∧ t = 50) w4 (((((w4.setCell ⟨ga, 0, none⟩ (.int .i64 x0)).setCell ⟨ga, 1, none⟩ (.int .i64 x1)).setCell ⟨ga, 2, none⟩ (.int .i64 x2)).setCell ⟨ga, 3, none⟩ (.int .u64 (x3 : Int))).setCell ⟨ga, 4, none⟩ (.slice none 0 0)) := ((((hd0).trans hd1).trans hd2).trans hd3).trans hd4
            clear z0 y0 hb0 hd0 z1 y1 hb1 hd1 z2 y2 hb2 hd2 z3 y3 hb3 hd3 z4 y4 hb4 hd4
            skip
            generalize (((((w4.setCell ⟨ga, 0, none⟩ (.int .i64 x0)).setCell ⟨ga, 1, none⟩ (.int .i64 x1)).setCell ⟨ga, 2, none⟩ (.int .i64 x2)).setCell ⟨ga, 3, none⟩ (.int .u64 (x3 : Int))).setCell ⟨ga, 4, none⟩ (.slice none 0 0)) = ws at hbs hds ⊢
            have hgw := HAL.out.2
            have hEs := HE.out.1.keep hds (LetsE.far HLow.out fun b t h => by have h8 := h.1; have h9 := HSz.out; omega)
            have hcs : Chg (ME E) w ws := HE.out.2.trans_le hds fun b t hb h => by have h8 := h.1; omega
            have ge := hEs.choose_spec.1.each.cell 0
            simp only [List.getElem?_toArray, List.getElem?_cons_zero] at ge
            have HW := Lib.hid (And.intro hbs (And.intro hEs (And.intro hcs hgw)))
            clear hbs hds hEs hcs hgw
            go_wp2_with fail
            refine (each_any E B bs _ _ HW.out.2.1 hn 47 #[ptr ga, ptr E.bl, ptr E.bm] enters811 (MG E w.heap.size ga 50 52) (fun b t h => .inl h) (GrowC w.heap.size ga x0 x1 x2 x3) (caseP bs) ⟨none, 0, HW.out.1, RowR.nil _ _ _ _ _⟩
              (fun w' hc => GrowC.keepE (HLow.out.more HSz.out) HW.out.2.2.2 ⟨none, 0, HW.out.1, RowR.nil _ _ _ _ _⟩ hc)
              (fun l1 w1 st1 hE1 hJ1 hl1 hc1 => cases1_any E B w.heap.size bs (HLow.out.more HSz.out) hn ga HW.out.2.2.2 x0 x1 x2 x3 l1 w1 st1 hE1 hJ1 hl1 (Nat.le_trans HW.out.2.2.1.size hc1.size))).mono fun e w9 hh => ?_
            obtain ⟨rfl, cs, ⟨A5, c5, hb5, hrow5⟩, hv5, hE5, hc5⟩ := hh
            have hga := HW.out.2.2.2
            have hcA : Chg (ME E) w w9 := HW.out.2.2.1.trans_le hc5 fun b t hb h => by
              rcases h with h | h | h
              · exact h
              · have := h.1; omega
              · have := h.1; omega
            obtain ⟨A, c, hbl, xss, how, h2, h3, h4⟩ := HJ.out.keepE HLow.out HGl.out hcA
            obtain ⟨z0, z1, z2, z3, z4⟩ := hb5.cells5
            obtain ⟨f0, f1, f2, f3, f4⟩ := hbl.cells5
            have hD9 : D ≤ w9.heap.size := Nat.le_trans HSz.out hcA.size
            have H5 := Lib.hid (And.intro hrow5 (And.intro hv5 (And.intro hE5 hcA)))
            have H6 := Lib.hid (And.intro hbl (And.intro h2 (And.intro h3 h4)))
            clear hb5 hrow5 hv5 hE5 hc5 hcA hbl h2 h3 h4 f0 f1 f2 f3 hga
            go_wp2_with (at_builtin; go_must (refine wpList_append_new rfl (.tmp 19) (.tmp 21) 32 rfl D 50 i0 _ 5 56 Try.underlying32 hi0 hz0 hs0 hb0 rfl (by omega) A l.length c xss.flatten rfl how 1 1 [.int .i64 x0, .int .i64 x1, .int .i64 x2, .int .u64 (x3 : Int), .slice A5 cs.length c5] rfl (by simp [World.setCell]) rfl (by simp; exact ⟨rfl, rfl, rfl, rfl, rfl⟩) (by simp only [maxLen]; omega) (by omega) hD9 ?_))
            intro A9 c9 w10 hap
            have hch := hap.chg how
            have hbf := hch.blk H6.out.1 (fun h => absurd h.2 (by decide))
            obtain ⟨k0, k1, k2, k3, k4⟩ := hbf.cells5
            have kz := hbf.frozen 4
            have HP := Lib.hid (And.intro hap.own (And.intro hch hbf))
            clear hap hch hbf how k0 k1 k2 k3
            go_wp2_with fail
            go_end0
            obtain ⟨k1, k2, k3⟩ := HP.out
            have hset := chg_set (j := 4) k3 (.slice A9 (l.length + 1) c9)
            have hE6 := H5.out.2.2.1.keep k2 (LetsE.far HLow.out fun b t h => h.1)
            have hE7 := hE6.keep hset (LetsE.far HLow.out fun b t h => by rw [h.1]; exact HGl.out)
            have hcr : RowR D 52 4 CaseR w10 A5 c5 cs := (H5.out.1.rebase HSz.out).keep k2 (fun b hb h => absurd h.2 (by decide)) fun _ _ h => h
            have hrow : RowR D 50 5 (InstrP D) w10 A9 c9 (l ++ [⟨x0, x1, x2, x3, cs⟩]) := RowR.snoc (w := w9) H6.out.2.1 H6.out.2.2.1 H6.out.2.2.2 (fun cs s h => h.keep k2 fun b hb h => absurd h.2 (by decide)) k1 rfl ⟨A5, c5, rfl, HI0.out, HI1.out, HI2.out, HI3.out, hcr⟩
            obtain ⟨r1, r2⟩ := instr_run HT0.out HT1.out HT2.out HT3.out H5.out.2.1
            refine ⟨rfl, ⟨x0, x1, x2, x3, cs⟩, ⟨A9, c9, ?_, ?_⟩, r2, by rw [r1]; exact hE7, ?_⟩
            · have := k3.set_ 4 (.slice A9 (l.length + 1) c9)
              simpa using this
            · exact hrow.keep hset (fun b hb h => absurd h.2 (by decide)) fun _ _ h => h.keep hset fun b hb h => absurd h.2 (by decide)
            · exact ((H5.out.2.2.2.mono fun b t _ h => .inl h).trans (k2.mono fun b t _ h => .inr (.inr h))).trans (hset.mono fun b t _ h => .inr (.inl h))
          exact AllReadyG.nil
        exact AllReadyG.nil
      exact AllReadyG.nil
    exact AllReadyG.nil
  refine AllReadyG.cons rfl (fun K hK => ?_) ?_
  · skip
    go_simp
    have t0 : (w.alloc (.cells #[.int .i64 0, .int .i64 0, .int .i64 0, .int .u64 0, .slice none 0 0] 50)).cell? _ = _ := (chg_alloc w (.cells #[.int .i64 0, .int .i64 0, .int .i64 0, .int .u64 0, .slice none 0 0] 50)).cell g0 fun _ => id
    have t1 : (w.alloc (.cells #[.int .i64 0, .int .i64 0, .int .i64 0, .int .u64 0, .slice none 0 0] 50)).cell? _ = _ := (chg_alloc w (.cells #[.int .i64 0, .int .i64 0, .int .i64 0, .int .u64 0, .slice none 0 0] 50)).cell g1 fun _ => id
    refine hK.out _ _ ⟨t0, t1⟩ (fun hHeld => ?_)
    clear hK K
    try simp only [Act.put, List.setIfInBounds_toArray, List.set_cons_zero, List.set_cons_succ]
    clear t0 t1
    have hF1 : Chg (fun _ _ => False) w (w.alloc (.cells #[.int .i64 0, .int .i64 0, .int .i64 0, .int .u64 0, .slice none 0 0] 50)).drew := (by repeat' (first | exact Chg.refl (fun _ _ => False) _ | apply Chg.drew | apply Chg.drewN | apply Chg.alloc))
    have hF2 : Blk (w.alloc (.cells #[.int .i64 0, .int .i64 0, .int .i64 0, .int .u64 0, .slice none 0 0] 50)).drew w.heap.size 50 #[.int .i64 0, .int .i64 0, .int .i64 0, .int .u64 0, .slice none 0 0] := Blk.new w 50 #[.int .i64 0, .int .i64 0, .int .i64 0, .int .u64 0, .slice none 0 0]
    have HF := Lib.hid (And.intro hF1 hF2)
    clear hF1 hF2
    generalize (w.alloc (.cells #[.int .i64 0, .int .i64 0, .int .i64 0, .int .u64 0, .slice none 0 0] 50)).drew = wa at HF hHeld ⊢
    have hga : w.heap.size ≤ w.heap.size := HE.out.2.size
    obtain ⟨ga, hgae⟩ : ∃ g, g = w.heap.size := ⟨_, rfl⟩
    rw [← hgae] at HF
    simp only [← hgae]
    replace hga : w.heap.size ≤ ga := by omega
    clear hgae
    have hH2 := hHeld
    obtain ⟨g0, g1⟩ := hH2
    have HAL := Lib.hid (And.intro HF.out.2 hga)
    have HE := Lib.hid (And.intro (HE.out.1.keep HF.out.1 (LetsE.no E B)) (HE.out.2.trans (HF.out.1.mono fun _ _ _ h => h.elim)))
    clear HF hga
    refine wpAnyG_ready (rs := [1]) (by kernel_rfl) (by simp) ?_
    refine AllReadyG.cons rfl (fun K hK => ?_) ?_
    · skip
      go_simp
      refine (small_any E B bs _ st (HE.out.1.keep ((by repeat' (first | exact Chg.refl (fun _ _ => False) _ | apply Chg.drew | apply Chg.drewN | apply Chg.alloc)) : Chg (fun _ _ => False) wa _) (LetsE.no E B)) hn 0 (.inl rfl)).mono ?_
      rintro e w1 ⟨x0, rfl, hx0, hx1, hxv, hE1, hc1'⟩
      have hxi : I64 x0 := by unfold I64; omega
      clear hx0 hx1
      have hcs : Chg (ME E) wa w1 := (((by repeat' (first | exact Chg.refl (fun _ _ => False) _ | apply Chg.drew | apply Chg.drewN | apply Chg.alloc)) : Chg (fun _ _ => False) wa _).mono fun _ _ _ h => h.elim).trans hc1'
      have hc1 : Chg (ME E) w w1 := HE.out.2.trans hcs
      have HAL := Lib.hid (And.intro (hcs.blk HAL.out.1 fun hm => by have h8 := ME.low HLow.out hm; have h9 := HAL.out.2; have h10 := HSz.out; omega) HAL.out.2)
      have g0 := hE1.choose_spec.1.small.cell 0
      have g1 := hE1.choose_spec.1.num.cell 0
      simp only [List.getElem?_toArray, List.getElem?_cons_zero] at g0 g1
      have HE := Lib.hid (And.intro hE1 hc1)
      have HT0 := Lib.hid hxv
      have HI0 := Lib.hid hxi
      clear hxv hE1 hc1 hc1' hcs hxi
      try simp only []
      refine hK.out _ _ ⟨g0, g1⟩ (fun hHeld => ?_)
      clear hK K
      try simp only [Act.put, List.setIfInBounds_toArray, List.set_cons_zero, List.set_cons_succ]
      refine wpAnyG_ready (rs := [3]) (by kernel_rfl) (by simp) ?_
      refine AllReadyG.cons rfl (fun K hK => ?_) ?_
      · skip
        go_simp
        refine (small_any E B bs _ (endS (runS (smallP bs 0) st)) (HE.out.1.keep ((by repeat' (first | exact Chg.refl (fun _ _ => False) _ | apply Chg.drew | apply Chg.drewN | apply Chg.alloc)) : Chg (fun _ _ => False) w1 _) (LetsE.no E B)) hn (-1) (.inr rfl)).mono ?_
        rintro e w2 ⟨x1, rfl, hx0, hx1, hxv, hE1, hc1'⟩
        have hxi : I64 x1 := by unfold I64; omega
        clear hx0 hx1
        have hcs : Chg (ME E) w1 w2 := (((by repeat' (first | exact Chg.refl (fun _ _ => False) _ | apply Chg.drew | apply Chg.drewN | apply Chg.alloc)) : Chg (fun _ _ => False) w1 _).mono fun _ _ _ h => h.elim).trans hc1'
        have hc1 : Chg (ME E) w w2 := HE.out.2.trans hcs
        have HAL := Lib.hid (And.intro (hcs.blk HAL.out.1 fun hm => by have h8 := ME.low HLow.out hm; have h9 := HAL.out.2; have h10 := HSz.out; omega) HAL.out.2)
        have g0 := hE1.choose_spec.1.small.cell 0
        have g1 := hE1.choose_spec.1.num.cell 0
        simp only [List.getElem?_toArray, List.getElem?_cons_zero] at g0 g1
        have HE := Lib.hid (And.intro hE1 hc1)
        have HT1 := Lib.hid hxv
        have HI1 := Lib.hid hxi
        clear hxv hE1 hc1 hc1' hcs hxi
        try simp only []
        refine hK.out _ _ ⟨g0, g1⟩ (fun hHeld => ?_)
        clear hK K
        try simp only [Act.put, List.setIfInBounds_toArray, List.set_cons_zero, List.set_cons_succ]
        refine wpAnyG_ready (rs := [5]) (by kernel_rfl) (by simp) ?_
        refine AllReadyG.cons rfl (fun K hK => ?_) ?_
        · skip
          go_simp
          refine (small_any E B bs _ (endS (runS (smallP bs (-1)) (endS (runS (smallP bs 0) st)))) (HE.out.1.keep ((by repeat' (first | exact Chg.refl (fun _ _ => False) _ | apply Chg.drew | apply Chg.drewN | apply Chg.alloc)) : Chg (fun _ _ => False) w2 _) (LetsE.no E B)) hn (-1) (.inr rfl)).mono ?_
          rintro e w3 ⟨x2, rfl, hx0, hx1, hxv, hE1, hc1'⟩
          have hxi : I64 x2 := by unfold I64; omega
          clear hx0 hx1
          have hcs : Chg (ME E) w2 w3 := (((by repeat' (first | exact Chg.refl (fun _ _ => False) _ | apply Chg.drew | apply Chg.drewN | apply Chg.alloc)) : Chg (fun _ _ => False) w2 _).mono fun _ _ _ h => h.elim).trans hc1'
          have hc1 : Chg (ME E) w w3 := HE.out.2.trans hcs
          have HAL := Lib.hid (And.intro (hcs.blk HAL.out.1 fun hm => by have h8 := ME.low HLow.out hm; have h9 := HAL.out.2; have h10 := HSz.out; omega) HAL.out.2)
          have g0 := hE1.choose_spec.1.small.cell 0
          have g1 := hE1.choose_spec.1.num.cell 0
          simp only [List.getElem?_toArray, List.getElem?_cons_zero] at g0 g1
          have HE := Lib.hid (And.intro hE1 hc1)
          have HT2 := Lib.hid hxv
          have HI2 := Lib.hid hxi
          clear hxv hE1 hc1 hc1' hcs hxi
          try simp only []
          refine hK.out _ _ ⟨g0, g1⟩ (fun hHeld => ?_)
          clear hK K
          try simp only [Act.put, List.setIfInBounds_toArray, List.set_cons_zero, List.set_cons_succ]
          refine wpAnyG_ready (rs := [7]) (by kernel_rfl) (by simp) ?_
          refine AllReadyG.cons rfl (fun K hK => ?_) ?_
          · skip
            go_simp
            refine (number_any E B bs _ (endS (runS (smallP bs (-1)) (endS (runS (smallP bs (-1)) (endS (runS (smallP bs 0) st)))))) (HE.out.1.keep ((by repeat' (first | exact Chg.refl (fun _ _ => False) _ | apply Chg.drew | apply Chg.drewN | apply Chg.alloc)) : Chg (fun _ _ => False) w3 _) (LetsE.no E B)) hn).mono ?_
            rintro e w4 ⟨x3, rfl, hxi, hxv, hE1, hc1'⟩
            have hcs : Chg (ME E) w3 w4 := (((by repeat' (first | exact Chg.refl (fun _ _ => False) _ | apply Chg.drew | apply Chg.drewN | apply Chg.alloc)) : Chg (fun _ _ => False) w3 _).mono fun _ _ _ h => h.elim).trans hc1'
            have hc1 : Chg (ME E) w w4 := HE.out.2.trans hcs
            have HAL := Lib.hid (And.intro (hcs.blk HAL.out.1 fun hm => by have h8 := ME.low HLow.out hm; have h9 := HAL.out.2; have h10 := HSz.out; omega) HAL.out.2)
            have g0 := hE1.choose_spec.1.small.cell 0
            have g1 := hE1.choose_spec.1.num.cell 0
            simp only [List.getElem?_toArray, List.getElem?_cons_zero] at g0 g1
            have HE := Lib.hid (And.intro hE1 hc1)
            have HT3 := Lib.hid hxv
            have HI3 := Lib.hid hxi
            clear hxv hE1 hc1 hc1' hcs hxi
            try simp only []
            refine hK.out _ _ ⟨g0, g1⟩ (fun hHeld => ?_)
            clear hK K
            try simp only [Act.put, List.setIfInBounds_toArray, List.set_cons_zero, List.set_cons_succ]
            refine wpAnyG_take (i := 8) (v := ?va9) rfl (by kernel_rfl) (fun _ _ _ h => h) (Or.inl ⟨by rfl, ?hy9⟩) (by assumption) ?ra9
            case hy9 => (intro w hSw; (try dsimp only at hSw); go_simp; all_goals (with_reducible rfl))
            simp only [Act.put, List.setIfInBounds_toArray, List.set_cons_zero, List.set_cons_succ]
            obtain ⟨z0, z1, z2, z3, z4⟩ := HAL.out.1.cells5
            have y0 := HAL.out.1.frozen 0
            have y1 := HAL.out.1.frozen 1
            have y2 := HAL.out.1.frozen 2
            have y3 := HAL.out.1.frozen 3
            have y4 := HAL.out.1.frozen 4
            refine wpAnyG_last rfl (by kernel_rfl) (by kernel_rfl) (fun K hK => ?_)
            go_simp
            refine hK.out _ _ ?_
            clear hK K
            try simp only [Act.put, List.setIfInBounds_toArray, List.set_cons_zero, List.set_cons_succ]
            have hb0 := (HAL.out.1).set_ 0 (.int .i64 x0)
            have hd0 := chg_set (j := 0) (HAL.out.1) (.int .i64 x0)
            have hb1 := (hb0).set_ 1 (.int .i64 x1)
            have hd1 := chg_set (j := 1) (hb0) (.int .i64 x1)
            have hb2 := (hb1).set_ 2 (.int .i64 x2)
            have hd2 := chg_set (j := 2) (hb1) (.int .i64 x2)
            have hb3 := (hb2).set_ 3 (.int .u64 (x3 : Int))
            have hd3 := chg_set (j := 3) (hb2) (.int .u64 (x3 : Int))
            have hb4 := (hb3).set_ 4 (.slice none 0 0)
            have hd4 := chg_set (j := 4) (hb3) (.slice none 0 0)
            have hbs : Blk (((((w4.setCell ⟨ga, 0, none⟩ (.int .i64 x0)).setCell ⟨ga, 1, none⟩ (.int .i64 x1)).setCell ⟨ga, 2, none⟩ (.int .i64 x2)).setCell ⟨ga, 3, none⟩ (.int .u64 (x3 : Int))).setCell ⟨ga, 4, none⟩ (.slice none 0 0)) ga 50 #[.int .i64 x0, .int .i64 x1, .int .i64 x2, .int .u64 (x3 : Int), .slice none 0 0] := by simpa using hb4
            have hds : Chg (fun b t => b = ga ∧ t = 50) w4 (((((w4.setCell ⟨ga, 0, none⟩ (.int .i64 x0)).setCell ⟨ga, 1, none⟩ (.int .i64 x1)).setCell ⟨ga, 2, none⟩ (.int .i64 x2)).setCell ⟨ga, 3, none⟩ (.int .u64 (x3 : Int))).setCell ⟨ga, 4, none⟩ (.slice none 0 0)) := ((((hd0).trans hd1).trans hd2).trans hd3).trans hd4
            clear z0 y0 hb0 hd0 z1 y1 hb1 hd1 z2 y2 hb2 hd2 z3 y3 hb3 hd3 z4 y4 hb4 hd4
            skip
            generalize (((((w4.setCell ⟨ga, 0, none⟩ (.int .i64 x0)).setCell ⟨ga, 1, none⟩ (.int .i64 x1)).setCell ⟨ga, 2, none⟩ (.int .i64 x2)).setCell ⟨ga, 3, none⟩ (.int .u64 (x3 : Int))).setCell ⟨ga, 4, none⟩ (.slice none 0 0)) = ws at hbs hds ⊢
            have hgw := HAL.out.2
            have hEs := HE.out.1.keep hds (LetsE.far HLow.out fun b t h => by have h8 := h.1; have h9 := HSz.out; omega)
            have hcs : Chg (ME E) w ws := HE.out.2.trans_le hds fun b t hb h => by have h8 := h.1; omega
            have ge := hEs.choose_spec.1.each.cell 0
            simp only [List.getElem?_toArray, List.getElem?_cons_zero] at ge
            have HW := Lib.hid (And.intro hbs (And.intro hEs (And.intro hcs hgw)))
            clear hbs hds hEs hcs hgw
            go_wp2_with fail
            refine (each_any E B bs _ _ HW.out.2.1 hn 47 #[ptr ga, ptr E.bl, ptr E.bm] enters811 (MG E w.heap.size ga 50 52) (fun b t h => .inl h) (GrowC w.heap.size ga x0 x1 x2 x3) (caseP bs) ⟨none, 0, HW.out.1, RowR.nil _ _ _ _ _⟩
              (fun w' hc => GrowC.keepE (HLow.out.more HSz.out) HW.out.2.2.2 ⟨none, 0, HW.out.1, RowR.nil _ _ _ _ _⟩ hc)
              (fun l1 w1 st1 hE1 hJ1 hl1 hc1 => cases1_any E B w.heap.size bs (HLow.out.more HSz.out) hn ga HW.out.2.2.2 x0 x1 x2 x3 l1 w1 st1 hE1 hJ1 hl1 (Nat.le_trans HW.out.2.2.1.size hc1.size))).mono fun e w9 hh => ?_
            obtain ⟨rfl, cs, ⟨A5, c5, hb5, hrow5⟩, hv5, hE5, hc5⟩ := hh
            have hga := HW.out.2.2.2
            have hcA : Chg (ME E) w w9 := HW.out.2.2.1.trans_le hc5 fun b t hb h => by
              rcases h with h | h | h
              · exact h
              · have := h.1; omega
              · have := h.1; omega
            obtain ⟨A, c, hbl, xss, how, h2, h3, h4⟩ := HJ.out.keepE HLow.out HGl.out hcA
            obtain ⟨z0, z1, z2, z3, z4⟩ := hb5.cells5
            obtain ⟨f0, f1, f2, f3, f4⟩ := hbl.cells5
            have hD9 : D ≤ w9.heap.size := Nat.le_trans HSz.out hcA.size
            have H5 := Lib.hid (And.intro hrow5 (And.intro hv5 (And.intro hE5 hcA)))
            have H6 := Lib.hid (And.intro hbl (And.intro h2 (And.intro h3 h4)))
            clear hb5 hrow5 hv5 hE5 hc5 hcA hbl h2 h3 h4 f0 f1 f2 f3 hga
            go_wp2_with (at_builtin; go_must (refine wpList_append_new rfl (.tmp 19) (.tmp 21) 32 rfl D 50 i0 _ 5 56 Try.underlying32 hi0 hz0 hs0 hb0 rfl (by omega) A l.length c xss.flatten rfl how 1 1 [.int .i64 x0, .int .i64 x1, .int .i64 x2, .int .u64 (x3 : Int), .slice A5 cs.length c5] rfl (by simp [World.setCell]) rfl (by simp; exact ⟨rfl, rfl, rfl, rfl, rfl⟩) (by simp only [maxLen]; omega) (by omega) hD9 ?_))
            intro A9 c9 w10 hap
            have hch := hap.chg how
            have hbf := hch.blk H6.out.1 (fun h => absurd h.2 (by decide))
            obtain ⟨k0, k1, k2, k3, k4⟩ := hbf.cells5
            have kz := hbf.frozen 4
            have HP := Lib.hid (And.intro hap.own (And.intro hch hbf))
            clear hap hch hbf how k0 k1 k2 k3
            go_wp2_with fail
            go_end0
            obtain ⟨k1, k2, k3⟩ := HP.out
            have hset := chg_set (j := 4) k3 (.slice A9 (l.length + 1) c9)
            have hE6 := H5.out.2.2.1.keep k2 (LetsE.far HLow.out fun b t h => h.1)
            have hE7 := hE6.keep hset (LetsE.far HLow.out fun b t h => by rw [h.1]; exact HGl.out)
            have hcr : RowR D 52 4 CaseR w10 A5 c5 cs := (H5.out.1.rebase HSz.out).keep k2 (fun b hb h => absurd h.2 (by decide)) fun _ _ h => h
            have hrow : RowR D 50 5 (InstrP D) w10 A9 c9 (l ++ [⟨x0, x1, x2, x3, cs⟩]) := RowR.snoc (w := w9) H6.out.2.1 H6.out.2.2.1 H6.out.2.2.2 (fun cs s h => h.keep k2 fun b hb h => absurd h.2 (by decide)) k1 rfl ⟨A5, c5, rfl, HI0.out, HI1.out, HI2.out, HI3.out, hcr⟩
            obtain ⟨r1, r2⟩ := instr_run HT0.out HT1.out HT2.out HT3.out H5.out.2.1
            refine ⟨rfl, ⟨x0, x1, x2, x3, cs⟩, ⟨A9, c9, ?_, ?_⟩, r2, by rw [r1]; exact hE7, ?_⟩
            · have := k3.set_ 4 (.slice A9 (l.length + 1) c9)
              simpa using this
            · exact hrow.keep hset (fun b hb h => absurd h.2 (by decide)) fun _ _ h => h.keep hset fun b hb h => absurd h.2 (by decide)
            · exact ((H5.out.2.2.2.mono fun b t _ h => .inl h).trans (k2.mono fun b t _ h => .inr (.inr h))).trans (hset.mono fun b t _ h => .inr (.inl h))
          exact AllReadyG.nil
        exact AllReadyG.nil
      exact AllReadyG.nil
    exact AllReadyG.nil
  exact AllReadyG.nil
end Go.Proofs.Ytdegfnejhamejaa
