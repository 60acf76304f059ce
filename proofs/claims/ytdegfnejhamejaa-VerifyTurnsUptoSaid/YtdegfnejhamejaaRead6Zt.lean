/-
  Reading in the program: the shapes (Decode$7).
-/
import Derived.Test.YtdegfnejhamejaaRead5Zt
namespace Go.Proofs.Ytdegfnejhamejaa
open Go.RowKit
set_option linter.unusedVariables false
set_option linter.unusedSimpArgs false

theorem bind_tells {α β : Type} {p : Pr α} {f : α → Pr β} {st : Except Nat Nat} {x : α} (h : ∀ v a', runS p st = .ok (v, a') → x = v) : endS (runS (p.bind_ f) st) = endS (runS (f x) (endS (runS p st))) ∧ ∀ y a', runS (p.bind_ f) st = .ok (y, a') → runS (f x) (endS (runS p st)) = .ok (y, a') := by
  rw [runS_bind]
  cases hp : runS p st with
  | error e => exact ⟨rfl, fun y a' h => by cases h⟩
  | ok q =>
    obtain ⟨v, a1⟩ := q
    obtain rfl := h v a1 hp
    exact ⟨rfl, fun y a' h => h⟩
theorem pure_tells {α : Type} (y : α) (st : Except Nat Nat) : endS (runS (Pr.pure_ y) st) = st ∧ ∀ z a', runS (Pr.pure_ y) st = .ok (z, a') → y = z := by
  cases st with
  | error e => exact ⟨rfl, fun z a' h => by cases h⟩
  | ok a => exact ⟨rfl, fun z a' h => by injection h with h; injection h with h1 h2⟩

theorem shape_run {bs : List Nat} {st : Except Nat Nat} {x0 : Int} {x1 : List Int} {x2 : Int} (h0 : ∀ v a', runS (smallP bs 0) st = .ok (v, a') → x0 = v) (h1 : ∀ v a', runS (listP bs (smallP bs 0)) (endS (runS (smallP bs 0) st)) = .ok (v, a') → x1 = v) (h2 : ∀ v a', runS (smallP bs 0) (endS (runS (listP bs (smallP bs 0)) (endS (runS (smallP bs 0) st)))) = .ok (v, a') → x2 = v) :
    endS (runS (shapeP bs) st) = (endS (runS (smallP bs 0) (endS (runS (listP bs (smallP bs 0)) (endS (runS (smallP bs 0) st)))))) ∧ ∀ v a', runS (shapeP bs) st = .ok (v, a') → (⟨x0, x1, x2⟩ : ShapeD) = v := by
  unfold shapeP
  refine ⟨by rw [(bind_tells h0).1, (bind_tells h1).1, (bind_tells h2).1, (pure_tells _ _).1], fun v a' h => ?_⟩
  exact (pure_tells _ _).2 v a' ((bind_tells h2).2 v a' ((bind_tells h1).2 v a' ((bind_tells h0).2 v a' h)))

def ShapeP (D : Nat) (w : World) (cs : List Value) (s : ShapeD) : Prop := ∃ A c, cs = [.int .i64 s.kind, .slice A s.list.length c, .int .i64 s.res] ∧ I64 s.kind ∧ I64 s.res ∧ RowR D 3 1 intP w A c s.list
theorem ShapeP.keep {D : Nat} {w w' : World} {cs : List Value} {s : ShapeD} {M : Nat → Nat → Prop} (h : ShapeP D w cs s) (hc : Chg M w w') (hm : ∀ b, D ≤ b → ¬ M b 3) : ShapeP D w' cs s := by
  obtain ⟨A, c, h1, h2, h3, h4⟩ := h
  exact ⟨A, c, h1, h2, h3, h4.keep hc hm fun _ _ h => h⟩
/-- The module while its shapes are read. -/
def GrowT (D gl : Nat) (l : List ShapeD) (w : World) : Prop := ∃ A c, Blk w gl 25 #[.slice A l.length c, .slice none 0 0] ∧ RowR D 37 3 (ShapeP D) w A c l
theorem GrowT.keepE {E : EnvB} {B D gl : Nat} {l : List ShapeD} {w w' : World} (hl : Low E B D) (hg : D ≤ gl) (h : GrowT D gl l w) (hc : Chg (ME E) w w') : GrowT D gl l w' := by
  obtain ⟨A, c, h1, h2⟩ := h
  exact ⟨A, c, hc.blk h1 fun hm => by have := ME.low hl hm; omega, h2.keep hc (fun b hb hm => by have := ME.low hl hm; omega) fun _ _ h => h.keep hc fun b hb hm => by have := ME.low hl hm; omega⟩
theorem enters7 : EntersC 44 := by
  intro xs w'; show (callFunc _ _).run _ _ = _
  simp [callFunc, Try.func44, go_sem]
  rw [if_neg (by decide +kernel), if_neg (fun h => by cases h)]
set_option maxRecDepth 100000 in
set_option maxHeartbeats 8000000 in
theorem shapes1_any (E : EnvB) (B D : Nat) (bs : List Nat) (hl : Low E B D) (hn : bs.length ≤ 1048576) (gl : Nat) (hgl : D ≤ gl) (l : List ShapeD) (w : World) (st : Except Nat Nat) (h : Env E B bs w st) (hJ : GrowT D gl l w) (hln : l.length ≤ 2147483647) (hD : D ≤ w.heap.size) :
    Calls Try.prog 44 #[ptr gl, ptr E.bm, ptr E.bi] w (OneRes E B bs (MD E D) (GrowT D gl) (shapeP bs) l st w) := by
  obtain ⟨i0, hi0, hz0, hs0, hb0⟩ := info_parts infoShape
  have HE := Lib.hid h
  obtain ⟨a, hb, _⟩ := h
  have g1 := hb.small.cell 0
  have g2 := hb.ints.cell 0
  obtain ⟨A, c, hbl, xss, how, h2, h3, h4⟩ := hJ
  have g0 := hbl.cell 0
  simp only [List.getElem?_toArray, List.getElem?_cons_zero] at g0 g1 g2
  have HBlk := Lib.hid hbl
  have HRow := Lib.hid (And.intro how (And.intro h2 (And.intro h3 h4)))
  have HLow := Lib.hid hl
  have HGl := Lib.hid hgl
  have HSz := Lib.hid hD
  clear hb hbl how h2 h3 h4 hl hgl hD
  have e3 : ∀ (xs : Array Value) (w' : World), (callFunc 39 xs).run Try.prog w' = .ok (.enter 39 xs) w' := enters3
  have e5 : ∀ (xs : Array Value) (w' : World), (callFunc 41 xs).run Try.prog w' = .ok (.enter 41 xs) w' := enters5
  go_enter Try.func44, Try.ntmps44
  go_wp2_with fail
  have hS0 : w.drew.cell? ⟨gl, 0, none⟩ = some (.slice A l.length c) ∧ w.drew.cell? ⟨E.bm, 0, none⟩ = some (.func (.func 39) #[] #[ptr E.ba, ptr E.bn, ptr E.bf]) ∧ w.drew.cell? ⟨E.bi, 0, none⟩ = some (.func (.func 41) #[] #[ptr E.be, ptr E.bm]) := ⟨g0, g1, g2⟩
  refine wp_region_G (S := fun w' => w'.cell? ⟨gl, 0, none⟩ = some (.slice A l.length c) ∧ w'.cell? ⟨E.bm, 0, none⟩ = some (.func (.func 39) #[] #[ptr E.ba, ptr E.bn, ptr E.bf]) ∧ w'.cell? ⟨E.bi, 0, none⟩ = some (.func (.func 41) #[] #[ptr E.be, ptr E.bm])) 12 (by kernel_rfl) hS0 (fun hHeld => ?_)
  refine wpAnyG_take (i := 0) (v := ?va1) rfl (by kernel_rfl) (fun _ _ _ h => h) (Or.inl ⟨by rfl, ?hy1⟩) (by assumption) ?ra1
  case hy1 => (intro w hSw; (try dsimp only at hSw); go_simp; all_goals (with_reducible rfl))
  simp only [Act.put, List.setIfInBounds_toArray, List.set_cons_zero, List.set_cons_succ]
  refine wpAnyG_take (i := 1) (v := ?va2) rfl (by kernel_rfl) (fun _ _ _ h => h) (Or.inl ⟨by rfl, ?hy2⟩) (by assumption) ?ra2
  case hy2 => (intro w hSw; (try dsimp only at hSw); go_simp; all_goals (with_reducible rfl))
  simp only [Act.put, List.setIfInBounds_toArray, List.set_cons_zero, List.set_cons_succ]
  refine wpAnyG_take (i := 2) (v := ?va3) rfl (by kernel_rfl) (fun _ _ _ h => h) (Or.inl ⟨by rfl, ?hy3⟩) (by assumption) ?ra3
  case hy3 => (intro w hSw; (try dsimp only at hSw); go_simp; all_goals (with_reducible rfl))
  simp only [Act.put, List.setIfInBounds_toArray, List.set_cons_zero, List.set_cons_succ]
  refine wpAnyG_take (i := 4) (v := ?va4) rfl (by kernel_rfl) (fun _ _ _ h => h) (Or.inl ⟨by rfl, ?hy4⟩) (by assumption) ?ra4
  case hy4 => (intro w hSw; (try dsimp only at hSw); go_simp; all_goals (with_reducible rfl))
  simp only [Act.put, List.setIfInBounds_toArray, List.set_cons_zero, List.set_cons_succ]
  refine wpAnyG_take (i := 6) (v := ?va5) rfl (by kernel_rfl) (fun _ _ _ h => h) (Or.inl ⟨by rfl, ?hy5⟩) (by assumption) ?ra5
  case hy5 => (intro w hSw; (try dsimp only at hSw); go_simp; all_goals (with_reducible rfl))
  simp only [Act.put, List.setIfInBounds_toArray, List.set_cons_zero, List.set_cons_succ]
  refine wpAnyG_ready (rs := [3]) (by kernel_rfl) (by simp) ?_
  refine AllReadyG.cons rfl (fun K hK => ?_) ?_
  · skip
    go_simp
    refine (small_any E B bs _ st (HE.out.keep ((by repeat' (first | exact Chg.refl (fun _ _ => False) _ | apply Chg.drew | apply Chg.drewN | apply Chg.alloc)) : Chg (fun _ _ => False) w _) (LetsE.no E B)) hn 0 (.inl rfl)).mono ?_
    rintro e w1 ⟨x0, rfl, hx0, hx1, hxv, hE1, hc1'⟩
    have hxi : I64 x0 := by unfold I64; omega
    clear hx0 hx1
    have hcs : Chg (ME E) w w1 := (((by repeat' (first | exact Chg.refl (fun _ _ => False) _ | apply Chg.drew | apply Chg.drewN | apply Chg.alloc)) : Chg (fun _ _ => False) w _).mono fun _ _ _ h => h.elim).trans hc1'
    have hc1 : Chg (ME E) w w1 := hcs
    have g0 := (hc1.blk HBlk.out fun hm => by have h8 := ME.low HLow.out hm; have h9 := HGl.out; omega).cell 0
    have g1 := hE1.choose_spec.1.small.cell 0
    have g2 := hE1.choose_spec.1.ints.cell 0
    simp only [List.getElem?_toArray, List.getElem?_cons_zero, List.getElem?_cons_succ] at g0 g1 g2
    have H1 := Lib.hid (And.intro hxv (And.intro hE1 hc1))
    have HI0 := Lib.hid hxi
    have HS0 := Lib.hid hcs
    clear hxv hE1 hc1 hc1' hcs hxi
    try simp only []
    refine hK.out _ _ ⟨g0, g1, g2⟩ (fun hHeld => ?_)
    clear hK K
    try simp only [Act.put, List.setIfInBounds_toArray, List.set_cons_zero, List.set_cons_succ]
    refine wpAnyG_ready (rs := [5]) (by kernel_rfl) (by simp) ?_
    refine AllReadyG.cons rfl (fun K hK => ?_) ?_
    · skip
      go_simp
      refine (dints_any E B D bs HLow.out hn _ (endS (runS (smallP bs 0) st)) (H1.out.2.1.keep ((by repeat' (first | exact Chg.refl (fun _ _ => False) _ | apply Chg.drew | apply Chg.drewN | apply Chg.alloc)) : Chg (fun _ _ => False) w1 _) (LetsE.no E B)) (Nat.le_trans (Nat.le_trans HSz.out H1.out.2.2.size) ((by repeat' (first | exact Chg.refl (fun _ _ => False) _ | apply Chg.drew | apply Chg.drewN | apply Chg.alloc)) : Chg (fun _ _ => False) w1 _).size)).mono ?_
      rintro e w2 ⟨_, x1, rfl, ⟨A1, c1, rfl, hxi⟩, hxv, hE1, hc1'⟩
      have hcs : Chg (ME E) w1 w2 := (((by repeat' (first | exact Chg.refl (fun _ _ => False) _ | apply Chg.drew | apply Chg.drewN | apply Chg.alloc)) : Chg (fun _ _ => False) w1 _).mono fun _ _ _ h => h.elim).trans hc1'
      have hc1 : Chg (ME E) w w2 := H1.out.2.2.trans hcs
      have g0 := (hc1.blk HBlk.out fun hm => by have h8 := ME.low HLow.out hm; have h9 := HGl.out; omega).cell 0
      have g1 := hE1.choose_spec.1.small.cell 0
      have g2 := hE1.choose_spec.1.ints.cell 0
      simp only [List.getElem?_toArray, List.getElem?_cons_zero, List.getElem?_cons_succ] at g0 g1 g2
      have H2 := Lib.hid (And.intro hxv (And.intro hE1 hc1))
      have HI1 := Lib.hid hxi
      have HS1 := Lib.hid hcs
      clear hxv hE1 hc1 hc1' hcs hxi
      try simp only []
      refine hK.out _ _ ⟨g0, g1, g2⟩ (fun hHeld => ?_)
      clear hK K
      try simp only [Act.put, List.setIfInBounds_toArray, List.set_cons_zero, List.set_cons_succ]
      refine wpAnyG_ready (rs := [7]) (by kernel_rfl) (by simp) ?_
      refine AllReadyG.cons rfl (fun K hK => ?_) ?_
      · skip
        go_simp
        refine (small_any E B bs _ (endS (runS (listP bs (smallP bs 0)) (endS (runS (smallP bs 0) st)))) (H2.out.2.1.keep ((by repeat' (first | exact Chg.refl (fun _ _ => False) _ | apply Chg.drew | apply Chg.drewN | apply Chg.alloc)) : Chg (fun _ _ => False) w2 _) (LetsE.no E B)) hn 0 (.inl rfl)).mono ?_
        rintro e w3 ⟨x2, rfl, hx0, hx1, hxv, hE1, hc1'⟩
        have hxi : I64 x2 := by unfold I64; omega
        clear hx0 hx1
        have hcs : Chg (ME E) w2 w3 := (((by repeat' (first | exact Chg.refl (fun _ _ => False) _ | apply Chg.drew | apply Chg.drewN | apply Chg.alloc)) : Chg (fun _ _ => False) w2 _).mono fun _ _ _ h => h.elim).trans hc1'
        have hc1 : Chg (ME E) w w3 := H2.out.2.2.trans hcs
        have g0 := (hc1.blk HBlk.out fun hm => by have h8 := ME.low HLow.out hm; have h9 := HGl.out; omega).cell 0
        have g1 := hE1.choose_spec.1.small.cell 0
        have g2 := hE1.choose_spec.1.ints.cell 0
        simp only [List.getElem?_toArray, List.getElem?_cons_zero, List.getElem?_cons_succ] at g0 g1 g2
        have H3 := Lib.hid (And.intro hxv (And.intro hE1 hc1))
        have HI2 := Lib.hid hxi
        have HS2 := Lib.hid hcs
        clear hxv hE1 hc1 hc1' hcs hxi
        try simp only []
        refine hK.out _ _ ⟨g0, g1, g2⟩ (fun hHeld => ?_)
        clear hK K
        try simp only [Act.put, List.setIfInBounds_toArray, List.set_cons_zero, List.set_cons_succ]
        refine wpAnyG_take (i := 8) (v := ?va6) rfl (by kernel_rfl) (fun _ _ _ h => h) (Or.inl ⟨by rfl, ?hy6⟩) (by assumption) ?ra6
        case hy6 => (intro w hSw; (try dsimp only at hSw); go_simp; all_goals (with_reducible rfl))
        simp only [Act.put, List.setIfInBounds_toArray, List.set_cons_zero, List.set_cons_succ]
        refine wpAnyG_ready (rs := [9]) (by kernel_rfl) (by simp) ?_
        refine AllReadyG.cons rfl (fun K hK => ?_) ?_
        · skip
          go_simp
          have t0 := (chg_alloc w3 (.cells [.int .i64 x0, .slice A1 x1.length c1, .int .i64 x2].toArray 37)).cell g0 fun _ => id
          have t1 := (chg_alloc w3 (.cells [.int .i64 x0, .slice A1 x1.length c1, .int .i64 x2].toArray 37)).cell g1 fun _ => id
          have t2 := (chg_alloc w3 (.cells [.int .i64 x0, .slice A1 x1.length c1, .int .i64 x2].toArray 37)).cell g2 fun _ => id
          refine hK.out _ _ ⟨t0, t1, t2⟩ (fun hHeld => ?_)
          clear hK K
          try simp only [Act.put, List.setIfInBounds_toArray, List.set_cons_zero, List.set_cons_succ]
          clear t0 t1 t2
          refine wpAnyG_ready (rs := [10]) (by kernel_rfl) (by simp) ?_
          refine AllReadyG.cons rfl (fun K hK => ?_) ?_
          · skip
            refine step_append_blkR _ rfl (.tmp 4) (.tmp 12) 22 rfl D 37 i0 _ 3 40 Try.underlying22 hi0 hz0 hs0 hb0 rfl (by omega) A l.length c xss.flatten (by first | rfl | simp [Act.eval, Act.put]) (((H3.out.2.2.own HRow.out.1 fun g hg hm => by have h8 := ME.low HLow.out hm; have h9 := (own_blk HRow.out.1 hg).1; omega)).alloc _) 1 1 [.int .i64 x0, .slice A1 x1.length c1, .int .i64 x2] _ (by first | rfl | simp [Act.eval, Act.put]) (Blk.new _ _ _) rfl (by intro u hu; simp at hu; rcases hu with rfl | rfl | rfl <;> rfl) (by unfold maxLen; omega) (by omega) (Nat.le_trans HSz.out (Nat.le_trans H3.out.2.2.size (by simp))) ?_
            intro A6 c6 w6 hown6 hg6
            have hcg := own_chg (((H3.out.2.2.own HRow.out.1 fun g hg hm => by have h8 := ME.low HLow.out hm; have h9 := (own_blk HRow.out.1 hg).1; omega)).alloc (.cells [.int .i64 x0, .slice A1 x1.length c1, .int .i64 x2].toArray 37)) hg6
            have hc16 : Chg (fun b t => D ≤ b ∧ t = 37) w3 w6 := ((chg_alloc w3 _).mono fun _ _ _ h => h.elim).trans hcg
            have f0 := hc16.blk (H3.out.2.2.blk HBlk.out fun hm => by have h8 := ME.low HLow.out hm; have h9 := HGl.out; omega) (fun h => absurd h.2 (by decide))
            have s0 := f0.cell 0
            have sz := f0.frozen 0
            have s1 := (H3.out.2.1.keep hc16 (LetsE.far HLow.out fun b t h => h.1)).choose_spec.1.small.cell 0
            have s2 := (H3.out.2.1.keep hc16 (LetsE.far HLow.out fun b t h => h.1)).choose_spec.1.ints.cell 0
            simp only [List.getElem?_toArray, List.getElem?_cons_zero, List.getElem?_cons_succ] at s0 s1 s2
            have HP := Lib.hid (And.intro hown6 (And.intro hc16 f0))
            clear hown6 hg6 hcg hc16 f0
            refine hK.out _ _ ⟨s0, s1, s2⟩ (fun hHeld => ?_)
            clear hK K
            try simp only [Act.put, List.setIfInBounds_toArray, List.set_cons_zero, List.set_cons_succ]
            refine wpAnyG_take (i := 11) (v := ?va7) rfl (by kernel_rfl) (fun _ _ _ h => h) (Or.inl ⟨by rfl, ?hy7⟩) (by assumption) ?ra7
            case hy7 => (intro w hSw; (try dsimp only at hSw); go_simp; all_goals (with_reducible rfl))
            simp only [Act.put, List.setIfInBounds_toArray, List.set_cons_zero, List.set_cons_succ]
            refine wpAnyG_last rfl (by kernel_rfl) (by kernel_rfl) (fun K hK => ?_)
            go_simp
            refine hK.out _ _ ?_
            clear hK K
            try simp only [Act.put, List.setIfInBounds_toArray, List.set_cons_zero, List.set_cons_succ]
            go_wp2_with fail
            go_end0
            obtain ⟨k1, k2, k3⟩ := HP.out
            have hset := chg_set (j := 0) k3 (.slice A6 (l.length + 1) c6)
            have hE6 := H3.out.2.1.keep k2 (LetsE.far HLow.out fun b t h => h.1)
            have hE7 := hE6.keep hset (LetsE.far HLow.out fun b t h => by rw [h.1]; exact HGl.out)
            have hlo : ∀ b, D ≤ b → ¬ ME E b 3 := fun b hb hm => by have := ME.low HLow.out hm; omega
            have hI1 : RowR D 3 1 intP w6 A1 c1 x1 := (HI1.out.keep HS2.out hlo fun _ _ h => h).keep k2 (fun b hb h => absurd h.2 (by decide)) fun _ _ h => h
            have hrow : RowR D 37 3 (ShapeP D) w6 A6 c6 (l ++ [⟨x0, x1, x2⟩]) := RowR.snoc (w := w) HRow.out.2.1 HRow.out.2.2.1 HRow.out.2.2.2 (fun cs s h => (h.keep H3.out.2.2 hlo).keep k2 fun b hb h => absurd h.2 (by decide)) k1 rfl ⟨A1, c1, rfl, HI0.out, HI2.out, hI1⟩
            obtain ⟨r1, r2⟩ := shape_run H1.out.1 H2.out.1 H3.out.1
            refine ⟨rfl, ⟨x0, x1, x2⟩, ⟨A6, c6, ?_, ?_⟩, r2, by rw [r1]; exact hE7, ?_⟩
            · have := k3.set_ 0 (.slice A6 (l.length + 1) c6)
              simpa using this
            · exact hrow.keep hset (fun b hb h => absurd h.2 (by decide)) fun _ _ h => h.keep hset fun b hb h => absurd h.2 (by decide)
            · exact ((H3.out.2.2.mono fun b t _ h => .inl h).trans (k2.mono fun b t _ h => .inr h.1)).trans (hset.mono fun b t _ h => .inr (by rw [h.1]; exact HGl.out))
          exact AllReadyG.nil
        exact AllReadyG.nil
      exact AllReadyG.nil
    exact AllReadyG.nil
  exact AllReadyG.nil
end Go.Proofs.Ytdegfnejhamejaa
