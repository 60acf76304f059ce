/-
  The checker's instruction 32, a choice: each of its cases.
-/
import Derived.Test.YtdegfnejhamejaaCkMZk
import Derived.Test.YtdegfnejhamejaaHeldGZk
namespace Go.Proofs.Ytdegfnejhamejaa
open Go.RowKit
set_option linter.unusedVariables false
set_option linter.unusedSimpArgs false

def caseB (m : ModD) (f : FuncD) (k : CaseD) : Bool := inB k.chan f.locals.length && ((kindN m.types (locV f k.chan) == 10) && (inB k.to f.code.length && (!(k.send || k.val != -1) || (inB k.val f.locals.length && (locV f k.val == headN m.types (locV f k.chan))))))
theorem caseN_eq (m : ModD) (f : FuncD) (s : VSt) (k : CaseD) : caseN m f s k = needN (caseB m f k) s := by
  unfold caseN caseB localN isKN placeN
  cases inB k.chan f.locals.length
  · rfl
  · cases (kindN m.types (locV f k.chan) == 10)
    · rfl
    · cases inB k.to f.code.length
      · rfl
      · cases (k.send || k.val != -1)
        · rfl
        · cases inB k.val f.locals.length
          · rfl
          · rfl
theorem casesN_eq (m : ModD) (f : FuncD) (s : VSt) : ∀ l : List CaseD, casesN m f l s = needN (l.all (caseB m f)) s
  | [] => rfl
  | k :: l => by
    rw [casesN, caseN_eq, List.all_cons]
    cases caseB m f k
    · rfl
    · exact casesN_eq m f s l
theorem call_at {l : List CaseD} {q : CaseD → Bool} {k : Nat} {x : CaseD} (h : l[k]? = some x) (hq : q x = false) : l.all q = false := by
  rw [List.all_eq_false]; exact ⟨x, List.mem_of_getElem? h, by simp [hq]⟩
theorem call_snoc {l : List CaseD} {q : CaseD → Bool} {k : Nat} {x : CaseD} (h : l[k]? = some x) (hq : q x = true) (ht : (l.take k).all q = true) : (l.take (k + 1)).all q = true := by
  rw [List.take_add_one, h, List.all_append, ht]; simp [hq]
section
variable {m : ModD} {f : FuncD} {x : InstrD} {s s0 s1 s2 : VSt}
theorem op32_at (h0 : fieldsN x false true false s = some s0) (h1 : needN (decide ((x.cases.length : Int) ≤ 16) && decide (0 ≤ x.b) && decide (x.b ≤ (f.code.length : Int))) s0 = some s1) : op32 m f x s = needN (x.cases.all (caseB m f)) s1 := by
  simp only [op32, h0, h1, Option.bind_some, casesN_eq]
theorem op32_bad (h0 : fieldsN x false true false s = some s0) (h1 : needN (decide ((x.cases.length : Int) ≤ 16) && decide (0 ≤ x.b) && decide (x.b ≤ (f.code.length : Int))) s0 = some s1) (hb : x.cases.all (caseB m f) = false) : ((op32 m f x s).bind endN).map (true, ·) = none := by
  rw [op32_at h0 h1, hb]; rfl
theorem op32_end (h0 : fieldsN x false true false s = some s0) (h1 : needN (decide ((x.cases.length : Int) ≤ 16) && decide (0 ≤ x.b) && decide (x.b ≤ (f.code.length : Int))) s0 = some s1) (hb : x.cases.all (caseB m f) = true) (h2 : needN ((s1.stack.length : Int) == 0) s1 = none) : ((op32 m f x s).bind endN).map (true, ·) = none := by
  rw [op32_at h0 h1, hb, needN_ok rfl, Option.bind_some, endN, h2]; rfl
theorem op32_good (h0 : fieldsN x false true false s = some s0) (h1 : needN (decide ((x.cases.length : Int) ≤ 16) && decide (0 ≤ x.b) && decide (x.b ≤ (f.code.length : Int))) s0 = some s1) (hb : x.cases.all (caseB m f) = true) (h2 : needN ((s1.stack.length : Int) == 0) s1 = some s2) : ((op32 m f x s).bind endN).map (true, ·) = some (true, s2) := by
  rw [op32_at h0 h1, hb, needN_ok rfl, Option.bind_some, endN, h2]; rfl
end
def ck32Rel (h : Hd) (w : World) (x : InstrD) (A : Option Addr) (c k : Nat) (s : VSt) (v : World) (i : Value) (wr : World) : Prop :=
  ∃ j : Nat, j ≤ x.cases.length ∧ i = .int .i64 j ∧ (x.cases.take j).all (caseB h.m h.f) = true ∧ Mid h w x A c k wr s ∧ Chg (fun _ _ => False) v wr
set_option maxRecDepth 100000 in
set_option maxHeartbeats 8000000 in
theorem flow_32 (h : Hd) (k : Nat) (w : World) (s : VSt) (xa xb : Int) (xn : Nat) (cs : List CaseD) (A : Option Addr) (c : Nat) (H : CkI h (k + 1100) w s) (HV : StV h.m s.stack) (hcs : CasesR h.B w (.slice A cs.length c) cs) :
    Calls Try.prog 56 #[.pointer (some ⟨h.p, 0, none⟩), instrV ⟨32, xa, xb, xn, cs⟩ A c] w (OutO h k w (((op32 h.m h.f ⟨32, xa, xb, xn, cs⟩ s).bind endN).map (true, ·))) := by
  have hm := Mid.start ⟨32, xa, xb, xn, cs⟩ A c (H.less (show k ≤ k + 1100 by omega)) HV
  obtain ⟨z0, z1, z2, z3, z4⟩ := hm.cells
  have M := Lib.hid hm
  have HCS := Lib.hid (And.intro hcs H.base_le)
  clear hm H HV hcs
  unfold instrV
  go_enter Try.func56, Try.ntmps56
  go_wp2_with fail
  refine (mid_fields (k := k + 0) false true false M.out).mono fun e v0 hh => ?_
  rcases hq : fieldsN ⟨32, xa, xb, xn, cs⟩ false true false s with _ | s0
  · obtain ⟨rfl, hc⟩ := hh.none_ hq
    have EB := Lib.hid hq
    have CB := Lib.hid hc
    clear hh hq hc
    go_wp2_with fail
    exact ⟨rfl, OutO.bad CB.out (by simp only [op32, endN, Option.bind_some, Option.bind_none, Option.map_some, Option.map_none, Bool.true_and, Bool.false_and, Bool.and_true, Bool.and_false, Bool.false_or, Bool.true_or, Bool.or_false, Bool.or_true, if_false, if_true, EB.out])⟩
  · obtain ⟨rfl, hm⟩ := hh.some_ hq
    clear z0 z1 z2 z3 z4
    obtain ⟨z0, z1, z2, z3, z4⟩ := hm.cells
    have E0 := Lib.hid hq
    have M0 := Lib.hid hm
    clear hh hq hm
    have d6 := M0.out.fix.d6
    cases hb : decide ((cs.length : Int) ≤ 16)
    · have G1 := Lib.hid hb
      go_wp2_with fail
      refine wp_region_still_tail 21 (by kernel_rfl) (by kernel_rfl) ?_
      simp only [List.take_succ_cons, List.take_zero, List.drop_succ_cons, List.drop_zero]
      repeat (with_reducible refine wpStill_step (fun K hK => ?_); go_simp; with_reducible refine hK _ ?_; clear hK K)
      try with_reducible refine wpStill_nil ?_
      have hdr := (Chg.refl (fun _ _ => False) (v0)).drew
      have hm := M0.out.same hdr
      clear z0 z1 z2 z3 z4
      obtain ⟨z0, z1, z2, z3, z4⟩ := hm.cells
      have M0d := Lib.hid hm
      have HDR := Lib.hid hdr
      clear hm hdr d6
      change wpList _ _ _ _ _ (World.drew (v0))
      generalize World.drew (v0) = v0d at z0 z1 z2 z3 z4 M0d HDR ⊢
      go_wp2_with fail
      refine (mid_need false M0d.out).mono fun e vv hh => ?_
      obtain ⟨rfl, hc⟩ := hh.none_ rfl
      have CB := Lib.hid hc
      clear hh hc
      go_wp2_with fail
      exact ⟨rfl, OutO.bad CB.out (by simp only [op32, E0.out, G1.out, Bool.false_and, Bool.true_and, needN_false, Option.bind_some, Option.bind_none, Option.map_none])⟩
    · have G1 := Lib.hid hb
      cases hb2 : decide (0 ≤ xb)
      · have G2 := Lib.hid hb2
        go_wp2_with fail
        refine wp_region_still_tail 21 (by kernel_rfl) (by kernel_rfl) ?_
        simp only [List.take_succ_cons, List.take_zero, List.drop_succ_cons, List.drop_zero]
        repeat (with_reducible refine wpStill_step (fun K hK => ?_); go_simp; with_reducible refine hK _ ?_; clear hK K)
        try with_reducible refine wpStill_nil ?_
        have hdr := (Chg.refl (fun _ _ => False) (v0)).drew
        have hm := M0.out.same hdr
        clear z0 z1 z2 z3 z4
        obtain ⟨z0, z1, z2, z3, z4⟩ := hm.cells
        have M0d := Lib.hid hm
        have HDR := Lib.hid hdr
        clear hm hdr d6
        change wpList _ _ _ _ _ (World.drew (v0))
        generalize World.drew (v0) = v0d at z0 z1 z2 z3 z4 M0d HDR ⊢
        go_wp2_with fail
        refine (mid_need false M0d.out).mono fun e vv hh => ?_
        obtain ⟨rfl, hc⟩ := hh.none_ rfl
        have CB := Lib.hid hc
        clear hh hc
        go_wp2_with fail
        exact ⟨rfl, OutO.bad CB.out (by simp only [op32, E0.out, G1.out, G2.out, Bool.false_and, Bool.true_and, needN_false, Option.bind_some, Option.bind_none, Option.map_none])⟩
      · have G2 := Lib.hid hb2
        cases hb3 : decide (xb ≤ (h.f.code.length : Int))
        · have G3 := Lib.hid hb3
          go_wp2_with fail
          refine wp_region_still_tail 21 (by kernel_rfl) (by kernel_rfl) ?_
          simp only [List.take_succ_cons, List.take_zero, List.drop_succ_cons, List.drop_zero]
          repeat (with_reducible refine wpStill_step (fun K hK => ?_); go_simp; with_reducible refine hK _ ?_; clear hK K)
          try with_reducible refine wpStill_nil ?_
          have hdr := (Chg.refl (fun _ _ => False) (v0)).drew
          have hm := M0.out.same hdr
          clear z0 z1 z2 z3 z4
          obtain ⟨z0, z1, z2, z3, z4⟩ := hm.cells
          have M0d := Lib.hid hm
          have HDR := Lib.hid hdr
          clear hm hdr d6
          change wpList _ _ _ _ _ (World.drew (v0))
          generalize World.drew (v0) = v0d at z0 z1 z2 z3 z4 M0d HDR ⊢
          go_wp2_with fail
          refine (mid_need false M0d.out).mono fun e vv hh => ?_
          obtain ⟨rfl, hc⟩ := hh.none_ rfl
          have CB := Lib.hid hc
          clear hh hc
          go_wp2_with fail
          exact ⟨rfl, OutO.bad CB.out (by simp only [op32, E0.out, G1.out, G2.out, G3.out, Bool.false_and, Bool.true_and, needN_false, Option.bind_some, Option.bind_none, Option.map_none])⟩
        · have G3 := Lib.hid hb3
          go_wp2_with fail
          refine wp_region_still_tail 21 (by kernel_rfl) (by kernel_rfl) ?_
          simp only [List.take_succ_cons, List.take_zero, List.drop_succ_cons, List.drop_zero]
          repeat (with_reducible refine wpStill_step (fun K hK => ?_); go_simp; with_reducible refine hK _ ?_; clear hK K)
          try with_reducible refine wpStill_nil ?_
          have hdr := (Chg.refl (fun _ _ => False) (v0)).drew
          have hm := M0.out.same hdr
          clear z0 z1 z2 z3 z4
          obtain ⟨z0, z1, z2, z3, z4⟩ := hm.cells
          have M0d := Lib.hid hm
          have HDR := Lib.hid hdr
          clear hm hdr d6
          change wpList _ _ _ _ _ (World.drew (v0))
          generalize World.drew (v0) = v0d at z0 z1 z2 z3 z4 M0d HDR ⊢
          go_wp2_with fail
          refine (mid_need true M0d.out).mono fun e vn hh => ?_
          obtain ⟨rfl, hm⟩ := hh.some_ rfl
          clear z0 z1 z2 z3 z4
          obtain ⟨z0, z1, z2, z3, z4⟩ := hm.cells
          have EN := Lib.hid (show needN (decide ((cs.length : Int) ≤ 16) && decide (0 ≤ xb) && decide (xb ≤ (h.f.code.length : Int))) s0 = some s0 by rw [G1.out, G2.out, G3.out]; rfl)
          have MN := Lib.hid hm
          clear hh hm
          have hn16 : cs.length ≤ 16 := by have := of_decide_eq_true G1.out; omega
          go_wp2_with fail
          clear z0 z1 z2 z3 z4
          go_loopw [90] (fun i wr => ck32Rel h w ⟨32, xa, xb, xn, cs⟩ A c k s0 vn i wr) (fun i _ => cs.length - (intOf i).toNat)
          case atStart => exact ⟨0, Nat.zero_le _, rfl, rfl, MN.out, Chg.refl _ _⟩
          case round =>
            obtain ⟨j, hj, rfl, hall, hM, hch⟩ := hrel
            have hj : j ≤ cs.length := hj
            have q3 : IntKind.i64.wrap ((j : Int) + 1) = (j : Int) + 1 := IntWalk.i64_in _ ⟨by omega, by omega⟩
            by_cases hlt : j < cs.length
            · have q1 : decide (j < cs.length) = true := decide_eq_true hlt
              have q2 : (j : Int) < (cs.length : Int) := by omega
              obtain ⟨b, o, x, rfl, hx, _, _, _, y0, y1, y2, y3⟩ := (CasesR.keep HCS.out.1 hM.chg (letsC HCS.out.2.1)).at_ (k := j) hlt
              have HX := Lib.hid (And.intro hx (And.intro hall hch))
              have hca := chg_alloc wr (.cells #[.bool x.send, .int .i64 x.chan, .int .i64 x.val, .int .i64 x.to] 52)
              have hbc := Blk.new wr 52 #[.bool x.send, .int .i64 x.chan, .int .i64 x.val, .int .i64 x.to]
              have hm2 := hM.same hca
              have HM := Lib.hid hm2
              have HN := Lib.hid hca
              have w0 : (wr.alloc (.cells #[.bool x.send, .int .i64 x.chan, .int .i64 x.val, .int .i64 x.to] 52)).cell? ⟨wr.heap.size, 0, none⟩ = some (.bool x.send) := by simp
              have w1 : (wr.alloc (.cells #[.bool x.send, .int .i64 x.chan, .int .i64 x.val, .int .i64 x.to] 52)).cell? ⟨wr.heap.size, 1, none⟩ = some (.int .i64 x.chan) := by simp
              have w2 : (wr.alloc (.cells #[.bool x.send, .int .i64 x.chan, .int .i64 x.val, .int .i64 x.to] 52)).cell? ⟨wr.heap.size, 2, none⟩ = some (.int .i64 x.val) := by simp
              have w3 : (wr.alloc (.cells #[.bool x.send, .int .i64 x.chan, .int .i64 x.val, .int .i64 x.to] 52)).cell? ⟨wr.heap.size, 3, none⟩ = some (.int .i64 x.to) := by simp
              clear hx hall hch hM hca hbc hm2
              go_wp2_with fail
              generalize wr.alloc (.cells #[.bool x.send, .int .i64 x.chan, .int .i64 x.val, .int .i64 x.to] 52) = W at HM HN w0 w1 w2 w3 ⊢
              clear y0 y1 y2 y3
              have y2 := w2
              cases hl1 : inB x.chan h.f.locals.length
              · refine (local_any h _ x.chan HM.out.fix).mono fun e w4 hp => ?_
                obtain ⟨rfl, rfl⟩ := hp.bad hl1
                go_wp2_with fail
                exact ⟨rfl, OutO.bad HM.out.chg (op32_bad E0.out EN.out (call_at HX.out.1 (by simp [caseB, hl1])))⟩
              · refine (local_any h _ x.chan HM.out.fix).mono fun e w4 hp => ?_
                obtain ⟨rfl, rfl⟩ := hp.ok hl1
                clear hp
                obtain ⟨L, hL⟩ : ∃ L, locV h.f x.chan = L := ⟨_, rfl⟩
                rw [hL]
                have HL := Lib.hid hL
                clear hL
                go_wp2_with fail
                cases hk1 : (kindN h.m.types L == 10)
                · refine (is_any h _ L 10 HM.out.fix).mono fun e w5 hp => ?_
                  obtain ⟨rfl, rfl⟩ := hp.bad hk1
                  go_wp2_with fail
                  exact ⟨rfl, OutO.bad HM.out.chg (op32_bad E0.out EN.out (call_at HX.out.1 (by simp [caseB, hl1, hk1, HL.out])))⟩
                · refine (is_any h _ L 10 HM.out.fix).mono fun e w5 hp => ?_
                  obtain ⟨rfl, rfl⟩ := hp.ok hk1
                  clear hp
                  go_wp2_with fail
                  cases hp1 : inB x.to h.f.code.length
                  · refine (place_any h _ x.to HM.out.fix).mono fun e w6 hp => ?_
                    obtain ⟨rfl, rfl⟩ := hp.bad hp1
                    go_wp2_with fail
                    exact ⟨rfl, OutO.bad HM.out.chg (op32_bad E0.out EN.out (call_at HX.out.1 (by simp [caseB, hl1, hk1, HL.out, hp1])))⟩
                  · have hvs := kind_in hk1 (by decide)
                    have HK1 := Lib.hid hk1
                    obtain ⟨m, rfl⟩ : ∃ m : Nat, L = (m : Int) := ⟨L.toNat, by have := hvs.1; omega⟩
                    have hF := HM.out.fix
                    obtain ⟨tb, to, TA, tc, hA, hl, _, _, hcell⟩ := hF.mod.shape hvs
                    obtain ⟨e0, e1, e2⟩ := hcell _ _ (Chg.refl (fun _ _ => False) _) (fun _ _ _ h => h)
                    have d0 := hF.d0
                    rw [hA] at d0
                    have q5 : (m : Int) < (h.m.types.length : Int) := hvs.2
                    have q6 : m < h.m.types.length := by omega
                    rw [Int.toNat_natCast] at e0 e1 e2
                    obtain ⟨hb_, ho_, rfl, hlen, hc0, hvh⟩ := head_at hF hl hvs (show kindN h.m.types (m : Int) = 10 by simpa using hk1) (by decide)
                    rw [hlen] at e1
                    clear hF hA hl hcell hvs hvh hlen e0 e2
                    refine (place_any h _ x.to HM.out.fix).mono fun e w6 hp => ?_
                    obtain ⟨rfl, rfl⟩ := hp.ok hp1
                    clear hp
                    cases hs : x.send
                    · rw [hs] at w0
                      cases hv : (x.val != -1)
                      · go_wp2_with fail
                        go_roundw
                        case rel => exact ⟨j + 1, hlt, by simp, call_snoc HX.out.1 (by simp [caseB, hl1, HK1.out, HL.out, hp1, hs, hv]) HX.out.2.1, HM.out, HX.out.2.2.trans HN.out⟩
                        case measure => simp [intOf]; omega
                      · go_wp2_with fail
                        cases hl2 : inB x.val h.f.locals.length
                        · go_wp2_with fail
                          have hmd := HM.out.same (Chg.refl (fun _ _ => False) w6).drew
                          have HMd := Lib.hid hmd
                          clear hmd
                          refine wp_region_G (S := (fun w' => Chg (fun _ _ => False) w6 w')) 17 (by kernel_rfl) (Chg.refl _ _).drew (fun hHeld => ?_)
                          refine wpAnyG_take (i := 0) (v := ?va1) rfl (by kernel_rfl) (fun _ _ _ h => h) (Or.inl ⟨by rfl, ?hy1⟩) (by assumption) ?ra1
                          case hy1 => (intro w hSw; (try dsimp only at hSw); have y2 := hSw.cell y2 (fun _ => id); have d0 := hSw.cell d0 (fun _ => id); have e1 := hSw.cell e1 (fun _ => id); have hc0 := hSw.cell hc0 (fun _ => id); clear hSw; go_simp; all_goals (with_reducible rfl))
                          simp only [Act.put, List.setIfInBounds_toArray, List.set_cons_zero, List.set_cons_succ]
                          refine wpAnyG_take (i := 1) (v := ?va2) rfl (by kernel_rfl) (fun _ _ _ h => h) (Or.inl ⟨by rfl, ?hy2⟩) (by assumption) ?ra2
                          case hy2 => (intro w hSw; (try dsimp only at hSw); have y2 := hSw.cell y2 (fun _ => id); have d0 := hSw.cell d0 (fun _ => id); have e1 := hSw.cell e1 (fun _ => id); have hc0 := hSw.cell hc0 (fun _ => id); clear hSw; go_simp; all_goals (with_reducible rfl))
                          simp only [Act.put, List.setIfInBounds_toArray, List.set_cons_zero, List.set_cons_succ]
                          refine wpAnyG_take (i := 2) (v := ?va3) rfl (by kernel_rfl) (fun _ _ _ h => h) (Or.inl ⟨by rfl, ?hy3⟩) (by assumption) ?ra3
                          case hy3 => (intro w hSw; (try dsimp only at hSw); have y2 := hSw.cell y2 (fun _ => id); have d0 := hSw.cell d0 (fun _ => id); have e1 := hSw.cell e1 (fun _ => id); have hc0 := hSw.cell hc0 (fun _ => id); clear hSw; go_simp; all_goals (with_reducible rfl))
                          simp only [Act.put, List.setIfInBounds_toArray, List.set_cons_zero, List.set_cons_succ]
                          refine wpAnyG_take (i := 3) (v := ?va4) rfl (by kernel_rfl) (fun _ _ _ h => h) (Or.inl ⟨by rfl, ?hy4⟩) (by assumption) ?ra4
                          case hy4 => (intro w hSw; (try dsimp only at hSw); have y2 := hSw.cell y2 (fun _ => id); have d0 := hSw.cell d0 (fun _ => id); have e1 := hSw.cell e1 (fun _ => id); have hc0 := hSw.cell hc0 (fun _ => id); clear hSw; go_simp; all_goals (with_reducible rfl))
                          simp only [Act.put, List.setIfInBounds_toArray, List.set_cons_zero, List.set_cons_succ]
                          refine wpAnyG_take (i := 5) (v := ?va5) rfl (by kernel_rfl) (fun _ _ _ h => h) (Or.inl ⟨by rfl, ?hy5⟩) (by assumption) ?ra5
                          case hy5 => (intro w hSw; (try dsimp only at hSw); have y2 := hSw.cell y2 (fun _ => id); have d0 := hSw.cell d0 (fun _ => id); have e1 := hSw.cell e1 (fun _ => id); have hc0 := hSw.cell hc0 (fun _ => id); clear hSw; go_simp; all_goals (with_reducible rfl))
                          simp only [Act.put, List.setIfInBounds_toArray, List.set_cons_zero, List.set_cons_succ]
                          refine wpAnyG_take (i := 6) (v := ?va6) rfl (by kernel_rfl) (fun _ _ _ h => h) (Or.inl ⟨by rfl, ?hy6⟩) (by assumption) ?ra6
                          case hy6 => (intro w hSw; (try dsimp only at hSw); have y2 := hSw.cell y2 (fun _ => id); have d0 := hSw.cell d0 (fun _ => id); have e1 := hSw.cell e1 (fun _ => id); have hc0 := hSw.cell hc0 (fun _ => id); clear hSw; go_simp; all_goals (with_reducible rfl))
                          simp only [Act.put, List.setIfInBounds_toArray, List.set_cons_zero, List.set_cons_succ]
                          refine wpAnyG_take (i := 7) (v := ?va7) rfl (by kernel_rfl) (fun _ _ _ h => h) (Or.inl ⟨by rfl, ?hy7⟩) (by assumption) ?ra7
                          case hy7 => (intro w hSw; (try dsimp only at hSw); have y2 := hSw.cell y2 (fun _ => id); have d0 := hSw.cell d0 (fun _ => id); have e1 := hSw.cell e1 (fun _ => id); have hc0 := hSw.cell hc0 (fun _ => id); clear hSw; go_simp; all_goals (with_reducible rfl))
                          simp only [Act.put, List.setIfInBounds_toArray, List.set_cons_zero, List.set_cons_succ]
                          refine wpAnyG_take (i := 8) (v := ?va8) rfl (by kernel_rfl) (fun _ _ _ h => h) (Or.inl ⟨by rfl, ?hy8⟩) (by assumption) ?ra8
                          case hy8 => (intro w hSw; (try dsimp only at hSw); have y2 := hSw.cell y2 (fun _ => id); have d0 := hSw.cell d0 (fun _ => id); have e1 := hSw.cell e1 (fun _ => id); have hc0 := hSw.cell hc0 (fun _ => id); clear hSw; go_simp; all_goals (with_reducible rfl))
                          simp only [Act.put, List.setIfInBounds_toArray, List.set_cons_zero, List.set_cons_succ]
                          refine wpAnyG_take (i := 9) (v := ?va9) rfl (by kernel_rfl) (fun _ _ _ h => h) (Or.inl ⟨by rfl, ?hy9⟩) (by assumption) ?ra9
                          case hy9 => (intro w hSw; (try dsimp only at hSw); have y2 := hSw.cell y2 (fun _ => id); have d0 := hSw.cell d0 (fun _ => id); have e1 := hSw.cell e1 (fun _ => id); have hc0 := hSw.cell hc0 (fun _ => id); clear hSw; go_simp; all_goals (with_reducible rfl))
                          simp only [Act.put, List.setIfInBounds_toArray, List.set_cons_zero, List.set_cons_succ]
                          refine wpAnyG_take (i := 10) (v := ?va10) rfl (by kernel_rfl) (fun _ _ _ h => h) (Or.inl ⟨by rfl, ?hy10⟩) (by assumption) ?ra10
                          case hy10 => (intro w hSw; (try dsimp only at hSw); have y2 := hSw.cell y2 (fun _ => id); have d0 := hSw.cell d0 (fun _ => id); have e1 := hSw.cell e1 (fun _ => id); have hc0 := hSw.cell hc0 (fun _ => id); clear hSw; go_simp; all_goals (with_reducible rfl))
                          simp only [Act.put, List.setIfInBounds_toArray, List.set_cons_zero, List.set_cons_succ]
                          refine wpAnyG_take (i := 11) (v := ?va11) rfl (by kernel_rfl) (fun _ _ _ h => h) (Or.inl ⟨by rfl, ?hy11⟩) (by assumption) ?ra11
                          case hy11 => (intro w hSw; (try dsimp only at hSw); have y2 := hSw.cell y2 (fun _ => id); have d0 := hSw.cell d0 (fun _ => id); have e1 := hSw.cell e1 (fun _ => id); have hc0 := hSw.cell hc0 (fun _ => id); clear hSw; go_simp; all_goals (with_reducible rfl))
                          simp only [Act.put, List.setIfInBounds_toArray, List.set_cons_zero, List.set_cons_succ]
                          refine wpAnyG_take (i := 12) (v := ?va12) rfl (by kernel_rfl) (fun _ _ _ h => h) (Or.inl ⟨by rfl, ?hy12⟩) (by assumption) ?ra12
                          case hy12 => (intro w hSw; (try dsimp only at hSw); have y2 := hSw.cell y2 (fun _ => id); have d0 := hSw.cell d0 (fun _ => id); have e1 := hSw.cell e1 (fun _ => id); have hc0 := hSw.cell hc0 (fun _ => id); clear hSw; go_simp; all_goals (with_reducible rfl))
                          simp only [Act.put, List.setIfInBounds_toArray, List.set_cons_zero, List.set_cons_succ]
                          refine wpAnyG_take (i := 13) (v := ?va13) rfl (by kernel_rfl) (fun _ _ _ h => h) (Or.inl ⟨by rfl, ?hy13⟩) (by assumption) ?ra13
                          case hy13 => (intro w hSw; (try dsimp only at hSw); have y2 := hSw.cell y2 (fun _ => id); have d0 := hSw.cell d0 (fun _ => id); have e1 := hSw.cell e1 (fun _ => id); have hc0 := hSw.cell hc0 (fun _ => id); clear hSw; go_simp; all_goals (with_reducible rfl))
                          simp only [Act.put, List.setIfInBounds_toArray, List.set_cons_zero, List.set_cons_succ]
                          refine wpAnyG_take (i := 14) (v := ?va14) rfl (by kernel_rfl) (fun _ _ _ h => h) (Or.inl ⟨by rfl, ?hy14⟩) (by assumption) ?ra14
                          case hy14 => (intro w hSw; (try dsimp only at hSw); have y2 := hSw.cell y2 (fun _ => id); have d0 := hSw.cell d0 (fun _ => id); have e1 := hSw.cell e1 (fun _ => id); have hc0 := hSw.cell hc0 (fun _ => id); clear hSw; go_simp; all_goals (with_reducible rfl))
                          simp only [Act.put, List.setIfInBounds_toArray, List.set_cons_zero, List.set_cons_succ]
                          refine wpAnyG_take (i := 15) (v := ?va15) rfl (by kernel_rfl) (fun _ _ _ h => h) (Or.inl ⟨by rfl, ?hy15⟩) (by assumption) ?ra15
                          case hy15 => (intro w hSw; (try dsimp only at hSw); have y2 := hSw.cell y2 (fun _ => id); have d0 := hSw.cell d0 (fun _ => id); have e1 := hSw.cell e1 (fun _ => id); have hc0 := hSw.cell hc0 (fun _ => id); clear hSw; go_simp; all_goals (with_reducible rfl))
                          simp only [Act.put, List.setIfInBounds_toArray, List.set_cons_zero, List.set_cons_succ]
                          refine wpAnyG_ready (rs := [4]) (by kernel_rfl) (by simp) ?_
                          refine AllReadyG.cons rfl (fun K hK => ?_) AllReadyG.nil
                          go_simp
                          go_at_call 69
                          refine (local_any h _ x.val HMd.out.fix).mono ?_
                          rintro e w2 hp
                          obtain ⟨rfl, rfl⟩ := hp.bad hl2
                          exact ⟨rfl, OutO.bad HMd.out.chg (op32_bad E0.out EN.out (call_at HX.out.1 (by simp [caseB, hl1, HK1.out, HL.out, hp1, hs, hv, hl2])))⟩
                        · cases he : (locV h.f x.val == headN h.m.types (m : Int))
                          · have HE := Lib.hid he
                            go_wp2_with fail
                            have hmd := HM.out.same (Chg.refl (fun _ _ => False) w6).drew
                            have HMd := Lib.hid hmd
                            clear hmd
                            refine wp_region_G (S := (fun w' => Chg (fun _ _ => False) w6 w')) 17 (by kernel_rfl) (Chg.refl _ _).drew (fun hHeld => ?_)
                            refine wpAnyG_take (i := 0) (v := ?va16) rfl (by kernel_rfl) (fun _ _ _ h => h) (Or.inl ⟨by rfl, ?hy16⟩) (by assumption) ?ra16
                            case hy16 => (intro w hSw; (try dsimp only at hSw); have y2 := hSw.cell y2 (fun _ => id); have d0 := hSw.cell d0 (fun _ => id); have e1 := hSw.cell e1 (fun _ => id); have hc0 := hSw.cell hc0 (fun _ => id); clear hSw; go_simp; all_goals (with_reducible rfl))
                            simp only [Act.put, List.setIfInBounds_toArray, List.set_cons_zero, List.set_cons_succ]
                            refine wpAnyG_take (i := 1) (v := ?va17) rfl (by kernel_rfl) (fun _ _ _ h => h) (Or.inl ⟨by rfl, ?hy17⟩) (by assumption) ?ra17
                            case hy17 => (intro w hSw; (try dsimp only at hSw); have y2 := hSw.cell y2 (fun _ => id); have d0 := hSw.cell d0 (fun _ => id); have e1 := hSw.cell e1 (fun _ => id); have hc0 := hSw.cell hc0 (fun _ => id); clear hSw; go_simp; all_goals (with_reducible rfl))
                            simp only [Act.put, List.setIfInBounds_toArray, List.set_cons_zero, List.set_cons_succ]
                            refine wpAnyG_take (i := 2) (v := ?va18) rfl (by kernel_rfl) (fun _ _ _ h => h) (Or.inl ⟨by rfl, ?hy18⟩) (by assumption) ?ra18
                            case hy18 => (intro w hSw; (try dsimp only at hSw); have y2 := hSw.cell y2 (fun _ => id); have d0 := hSw.cell d0 (fun _ => id); have e1 := hSw.cell e1 (fun _ => id); have hc0 := hSw.cell hc0 (fun _ => id); clear hSw; go_simp; all_goals (with_reducible rfl))
                            simp only [Act.put, List.setIfInBounds_toArray, List.set_cons_zero, List.set_cons_succ]
                            refine wpAnyG_take (i := 3) (v := ?va19) rfl (by kernel_rfl) (fun _ _ _ h => h) (Or.inl ⟨by rfl, ?hy19⟩) (by assumption) ?ra19
                            case hy19 => (intro w hSw; (try dsimp only at hSw); have y2 := hSw.cell y2 (fun _ => id); have d0 := hSw.cell d0 (fun _ => id); have e1 := hSw.cell e1 (fun _ => id); have hc0 := hSw.cell hc0 (fun _ => id); clear hSw; go_simp; all_goals (with_reducible rfl))
                            simp only [Act.put, List.setIfInBounds_toArray, List.set_cons_zero, List.set_cons_succ]
                            refine wpAnyG_take (i := 5) (v := ?va20) rfl (by kernel_rfl) (fun _ _ _ h => h) (Or.inl ⟨by rfl, ?hy20⟩) (by assumption) ?ra20
                            case hy20 => (intro w hSw; (try dsimp only at hSw); have y2 := hSw.cell y2 (fun _ => id); have d0 := hSw.cell d0 (fun _ => id); have e1 := hSw.cell e1 (fun _ => id); have hc0 := hSw.cell hc0 (fun _ => id); clear hSw; go_simp; all_goals (with_reducible rfl))
                            simp only [Act.put, List.setIfInBounds_toArray, List.set_cons_zero, List.set_cons_succ]
                            refine wpAnyG_take (i := 6) (v := ?va21) rfl (by kernel_rfl) (fun _ _ _ h => h) (Or.inl ⟨by rfl, ?hy21⟩) (by assumption) ?ra21
                            case hy21 => (intro w hSw; (try dsimp only at hSw); have y2 := hSw.cell y2 (fun _ => id); have d0 := hSw.cell d0 (fun _ => id); have e1 := hSw.cell e1 (fun _ => id); have hc0 := hSw.cell hc0 (fun _ => id); clear hSw; go_simp; all_goals (with_reducible rfl))
                            simp only [Act.put, List.setIfInBounds_toArray, List.set_cons_zero, List.set_cons_succ]
                            refine wpAnyG_take (i := 7) (v := ?va22) rfl (by kernel_rfl) (fun _ _ _ h => h) (Or.inl ⟨by rfl, ?hy22⟩) (by assumption) ?ra22
                            case hy22 => (intro w hSw; (try dsimp only at hSw); have y2 := hSw.cell y2 (fun _ => id); have d0 := hSw.cell d0 (fun _ => id); have e1 := hSw.cell e1 (fun _ => id); have hc0 := hSw.cell hc0 (fun _ => id); clear hSw; go_simp; all_goals (with_reducible rfl))
                            simp only [Act.put, List.setIfInBounds_toArray, List.set_cons_zero, List.set_cons_succ]
                            refine wpAnyG_take (i := 8) (v := ?va23) rfl (by kernel_rfl) (fun _ _ _ h => h) (Or.inl ⟨by rfl, ?hy23⟩) (by assumption) ?ra23
                            case hy23 => (intro w hSw; (try dsimp only at hSw); have y2 := hSw.cell y2 (fun _ => id); have d0 := hSw.cell d0 (fun _ => id); have e1 := hSw.cell e1 (fun _ => id); have hc0 := hSw.cell hc0 (fun _ => id); clear hSw; go_simp; all_goals (with_reducible rfl))
                            simp only [Act.put, List.setIfInBounds_toArray, List.set_cons_zero, List.set_cons_succ]
                            refine wpAnyG_take (i := 9) (v := ?va24) rfl (by kernel_rfl) (fun _ _ _ h => h) (Or.inl ⟨by rfl, ?hy24⟩) (by assumption) ?ra24
                            case hy24 => (intro w hSw; (try dsimp only at hSw); have y2 := hSw.cell y2 (fun _ => id); have d0 := hSw.cell d0 (fun _ => id); have e1 := hSw.cell e1 (fun _ => id); have hc0 := hSw.cell hc0 (fun _ => id); clear hSw; go_simp; all_goals (with_reducible rfl))
                            simp only [Act.put, List.setIfInBounds_toArray, List.set_cons_zero, List.set_cons_succ]
                            refine wpAnyG_take (i := 10) (v := ?va25) rfl (by kernel_rfl) (fun _ _ _ h => h) (Or.inl ⟨by rfl, ?hy25⟩) (by assumption) ?ra25
                            case hy25 => (intro w hSw; (try dsimp only at hSw); have y2 := hSw.cell y2 (fun _ => id); have d0 := hSw.cell d0 (fun _ => id); have e1 := hSw.cell e1 (fun _ => id); have hc0 := hSw.cell hc0 (fun _ => id); clear hSw; go_simp; all_goals (with_reducible rfl))
                            simp only [Act.put, List.setIfInBounds_toArray, List.set_cons_zero, List.set_cons_succ]
                            refine wpAnyG_take (i := 11) (v := ?va26) rfl (by kernel_rfl) (fun _ _ _ h => h) (Or.inl ⟨by rfl, ?hy26⟩) (by assumption) ?ra26
                            case hy26 => (intro w hSw; (try dsimp only at hSw); have y2 := hSw.cell y2 (fun _ => id); have d0 := hSw.cell d0 (fun _ => id); have e1 := hSw.cell e1 (fun _ => id); have hc0 := hSw.cell hc0 (fun _ => id); clear hSw; go_simp; all_goals (with_reducible rfl))
                            simp only [Act.put, List.setIfInBounds_toArray, List.set_cons_zero, List.set_cons_succ]
                            refine wpAnyG_take (i := 12) (v := ?va27) rfl (by kernel_rfl) (fun _ _ _ h => h) (Or.inl ⟨by rfl, ?hy27⟩) (by assumption) ?ra27
                            case hy27 => (intro w hSw; (try dsimp only at hSw); have y2 := hSw.cell y2 (fun _ => id); have d0 := hSw.cell d0 (fun _ => id); have e1 := hSw.cell e1 (fun _ => id); have hc0 := hSw.cell hc0 (fun _ => id); clear hSw; go_simp; all_goals (with_reducible rfl))
                            simp only [Act.put, List.setIfInBounds_toArray, List.set_cons_zero, List.set_cons_succ]
                            refine wpAnyG_take (i := 13) (v := ?va28) rfl (by kernel_rfl) (fun _ _ _ h => h) (Or.inl ⟨by rfl, ?hy28⟩) (by assumption) ?ra28
                            case hy28 => (intro w hSw; (try dsimp only at hSw); have y2 := hSw.cell y2 (fun _ => id); have d0 := hSw.cell d0 (fun _ => id); have e1 := hSw.cell e1 (fun _ => id); have hc0 := hSw.cell hc0 (fun _ => id); clear hSw; go_simp; all_goals (with_reducible rfl))
                            simp only [Act.put, List.setIfInBounds_toArray, List.set_cons_zero, List.set_cons_succ]
                            refine wpAnyG_take (i := 14) (v := ?va29) rfl (by kernel_rfl) (fun _ _ _ h => h) (Or.inl ⟨by rfl, ?hy29⟩) (by assumption) ?ra29
                            case hy29 => (intro w hSw; (try dsimp only at hSw); have y2 := hSw.cell y2 (fun _ => id); have d0 := hSw.cell d0 (fun _ => id); have e1 := hSw.cell e1 (fun _ => id); have hc0 := hSw.cell hc0 (fun _ => id); clear hSw; go_simp; all_goals (with_reducible rfl))
                            simp only [Act.put, List.setIfInBounds_toArray, List.set_cons_zero, List.set_cons_succ]
                            refine wpAnyG_take (i := 15) (v := ?va30) rfl (by kernel_rfl) (fun _ _ _ h => h) (Or.inl ⟨by rfl, ?hy30⟩) (by assumption) ?ra30
                            case hy30 => (intro w hSw; (try dsimp only at hSw); have y2 := hSw.cell y2 (fun _ => id); have d0 := hSw.cell d0 (fun _ => id); have e1 := hSw.cell e1 (fun _ => id); have hc0 := hSw.cell hc0 (fun _ => id); clear hSw; go_simp; all_goals (with_reducible rfl))
                            simp only [Act.put, List.setIfInBounds_toArray, List.set_cons_zero, List.set_cons_succ]
                            refine wpAnyG_ready (rs := [4]) (by kernel_rfl) (by simp) ?_
                            refine AllReadyG.cons rfl (fun K hK => ?_) AllReadyG.nil
                            go_simp
                            go_at_call 69
                            refine (local_any h _ x.val HMd.out.fix).mono ?_
                            rintro e w2 hp
                            obtain ⟨rfl, rfl⟩ := hp.ok hl2
                            refine hK.out _ _ (Chg.refl _ _).drew (fun hHeld => ?_)
                            clear hK K
                            try simp only [Act.put, List.setIfInBounds_toArray, List.set_cons_zero, List.set_cons_succ]
                            refine wpAnyG_take (i := 16) (v := ?va31) rfl (by kernel_rfl) (fun _ _ _ h => h) (Or.inl ⟨by rfl, ?hy31⟩) (by assumption) ?ra31
                            case hy31 => (intro w hSw; (try dsimp only at hSw); have y2 := hSw.cell y2 (fun _ => id); have d0 := hSw.cell d0 (fun _ => id); have e1 := hSw.cell e1 (fun _ => id); have hc0 := hSw.cell hc0 (fun _ => id); clear hSw; go_simp; all_goals (with_reducible rfl))
                            simp only [Act.put, List.setIfInBounds_toArray, List.set_cons_zero, List.set_cons_succ]
                            refine wpAnyG_last rfl (by kernel_rfl) (by kernel_rfl) (fun K hK => ?_)
                            go_simp
                            go_at_call 52
                            refine (need_any h _ false HMd.out.fix.d7).mono ?_
                            rintro e w3 hp
                            obtain ⟨rfl, rfl⟩ := hp.bad rfl
                            exact ⟨rfl, OutO.bad HMd.out.chg (op32_bad E0.out EN.out (call_at HX.out.1 (by simp [caseB, hl1, HK1.out, HL.out, hp1, hs, hv, hl2, he, HL.out])))⟩
                          · have HE := Lib.hid he
                            go_wp2_with fail
                            have hmd := HM.out.same (Chg.refl (fun _ _ => False) w6).drew
                            have HMd := Lib.hid hmd
                            clear hmd
                            refine wp_region_G (S := (fun w' => Chg (fun _ _ => False) w6 w')) 17 (by kernel_rfl) (Chg.refl _ _).drew (fun hHeld => ?_)
                            refine wpAnyG_take (i := 0) (v := ?va32) rfl (by kernel_rfl) (fun _ _ _ h => h) (Or.inl ⟨by rfl, ?hy32⟩) (by assumption) ?ra32
                            case hy32 => (intro w hSw; (try dsimp only at hSw); have y2 := hSw.cell y2 (fun _ => id); have d0 := hSw.cell d0 (fun _ => id); have e1 := hSw.cell e1 (fun _ => id); have hc0 := hSw.cell hc0 (fun _ => id); clear hSw; go_simp; all_goals (with_reducible rfl))
                            simp only [Act.put, List.setIfInBounds_toArray, List.set_cons_zero, List.set_cons_succ]
                            refine wpAnyG_take (i := 1) (v := ?va33) rfl (by kernel_rfl) (fun _ _ _ h => h) (Or.inl ⟨by rfl, ?hy33⟩) (by assumption) ?ra33
                            case hy33 => (intro w hSw; (try dsimp only at hSw); have y2 := hSw.cell y2 (fun _ => id); have d0 := hSw.cell d0 (fun _ => id); have e1 := hSw.cell e1 (fun _ => id); have hc0 := hSw.cell hc0 (fun _ => id); clear hSw; go_simp; all_goals (with_reducible rfl))
                            simp only [Act.put, List.setIfInBounds_toArray, List.set_cons_zero, List.set_cons_succ]
                            refine wpAnyG_take (i := 2) (v := ?va34) rfl (by kernel_rfl) (fun _ _ _ h => h) (Or.inl ⟨by rfl, ?hy34⟩) (by assumption) ?ra34
                            case hy34 => (intro w hSw; (try dsimp only at hSw); have y2 := hSw.cell y2 (fun _ => id); have d0 := hSw.cell d0 (fun _ => id); have e1 := hSw.cell e1 (fun _ => id); have hc0 := hSw.cell hc0 (fun _ => id); clear hSw; go_simp; all_goals (with_reducible rfl))
                            simp only [Act.put, List.setIfInBounds_toArray, List.set_cons_zero, List.set_cons_succ]
                            refine wpAnyG_take (i := 3) (v := ?va35) rfl (by kernel_rfl) (fun _ _ _ h => h) (Or.inl ⟨by rfl, ?hy35⟩) (by assumption) ?ra35
                            case hy35 => (intro w hSw; (try dsimp only at hSw); have y2 := hSw.cell y2 (fun _ => id); have d0 := hSw.cell d0 (fun _ => id); have e1 := hSw.cell e1 (fun _ => id); have hc0 := hSw.cell hc0 (fun _ => id); clear hSw; go_simp; all_goals (with_reducible rfl))
                            simp only [Act.put, List.setIfInBounds_toArray, List.set_cons_zero, List.set_cons_succ]
                            refine wpAnyG_take (i := 5) (v := ?va36) rfl (by kernel_rfl) (fun _ _ _ h => h) (Or.inl ⟨by rfl, ?hy36⟩) (by assumption) ?ra36
                            case hy36 => (intro w hSw; (try dsimp only at hSw); have y2 := hSw.cell y2 (fun _ => id); have d0 := hSw.cell d0 (fun _ => id); have e1 := hSw.cell e1 (fun _ => id); have hc0 := hSw.cell hc0 (fun _ => id); clear hSw; go_simp; all_goals (with_reducible rfl))
                            simp only [Act.put, List.setIfInBounds_toArray, List.set_cons_zero, List.set_cons_succ]
                            refine wpAnyG_take (i := 6) (v := ?va37) rfl (by kernel_rfl) (fun _ _ _ h => h) (Or.inl ⟨by rfl, ?hy37⟩) (by assumption) ?ra37
                            case hy37 => (intro w hSw; (try dsimp only at hSw); have y2 := hSw.cell y2 (fun _ => id); have d0 := hSw.cell d0 (fun _ => id); have e1 := hSw.cell e1 (fun _ => id); have hc0 := hSw.cell hc0 (fun _ => id); clear hSw; go_simp; all_goals (with_reducible rfl))
                            simp only [Act.put, List.setIfInBounds_toArray, List.set_cons_zero, List.set_cons_succ]
                            refine wpAnyG_take (i := 7) (v := ?va38) rfl (by kernel_rfl) (fun _ _ _ h => h) (Or.inl ⟨by rfl, ?hy38⟩) (by assumption) ?ra38
                            case hy38 => (intro w hSw; (try dsimp only at hSw); have y2 := hSw.cell y2 (fun _ => id); have d0 := hSw.cell d0 (fun _ => id); have e1 := hSw.cell e1 (fun _ => id); have hc0 := hSw.cell hc0 (fun _ => id); clear hSw; go_simp; all_goals (with_reducible rfl))
                            simp only [Act.put, List.setIfInBounds_toArray, List.set_cons_zero, List.set_cons_succ]
                            refine wpAnyG_take (i := 8) (v := ?va39) rfl (by kernel_rfl) (fun _ _ _ h => h) (Or.inl ⟨by rfl, ?hy39⟩) (by assumption) ?ra39
                            case hy39 => (intro w hSw; (try dsimp only at hSw); have y2 := hSw.cell y2 (fun _ => id); have d0 := hSw.cell d0 (fun _ => id); have e1 := hSw.cell e1 (fun _ => id); have hc0 := hSw.cell hc0 (fun _ => id); clear hSw; go_simp; all_goals (with_reducible rfl))
                            simp only [Act.put, List.setIfInBounds_toArray, List.set_cons_zero, List.set_cons_succ]
                            refine wpAnyG_take (i := 9) (v := ?va40) rfl (by kernel_rfl) (fun _ _ _ h => h) (Or.inl ⟨by rfl, ?hy40⟩) (by assumption) ?ra40
                            case hy40 => (intro w hSw; (try dsimp only at hSw); have y2 := hSw.cell y2 (fun _ => id); have d0 := hSw.cell d0 (fun _ => id); have e1 := hSw.cell e1 (fun _ => id); have hc0 := hSw.cell hc0 (fun _ => id); clear hSw; go_simp; all_goals (with_reducible rfl))
                            simp only [Act.put, List.setIfInBounds_toArray, List.set_cons_zero, List.set_cons_succ]
                            refine wpAnyG_take (i := 10) (v := ?va41) rfl (by kernel_rfl) (fun _ _ _ h => h) (Or.inl ⟨by rfl, ?hy41⟩) (by assumption) ?ra41
                            case hy41 => (intro w hSw; (try dsimp only at hSw); have y2 := hSw.cell y2 (fun _ => id); have d0 := hSw.cell d0 (fun _ => id); have e1 := hSw.cell e1 (fun _ => id); have hc0 := hSw.cell hc0 (fun _ => id); clear hSw; go_simp; all_goals (with_reducible rfl))
                            simp only [Act.put, List.setIfInBounds_toArray, List.set_cons_zero, List.set_cons_succ]
                            refine wpAnyG_take (i := 11) (v := ?va42) rfl (by kernel_rfl) (fun _ _ _ h => h) (Or.inl ⟨by rfl, ?hy42⟩) (by assumption) ?ra42
                            case hy42 => (intro w hSw; (try dsimp only at hSw); have y2 := hSw.cell y2 (fun _ => id); have d0 := hSw.cell d0 (fun _ => id); have e1 := hSw.cell e1 (fun _ => id); have hc0 := hSw.cell hc0 (fun _ => id); clear hSw; go_simp; all_goals (with_reducible rfl))
                            simp only [Act.put, List.setIfInBounds_toArray, List.set_cons_zero, List.set_cons_succ]
                            refine wpAnyG_take (i := 12) (v := ?va43) rfl (by kernel_rfl) (fun _ _ _ h => h) (Or.inl ⟨by rfl, ?hy43⟩) (by assumption) ?ra43
                            case hy43 => (intro w hSw; (try dsimp only at hSw); have y2 := hSw.cell y2 (fun _ => id); have d0 := hSw.cell d0 (fun _ => id); have e1 := hSw.cell e1 (fun _ => id); have hc0 := hSw.cell hc0 (fun _ => id); clear hSw; go_simp; all_goals (with_reducible rfl))
                            simp only [Act.put, List.setIfInBounds_toArray, List.set_cons_zero, List.set_cons_succ]
                            refine wpAnyG_take (i := 13) (v := ?va44) rfl (by kernel_rfl) (fun _ _ _ h => h) (Or.inl ⟨by rfl, ?hy44⟩) (by assumption) ?ra44
                            case hy44 => (intro w hSw; (try dsimp only at hSw); have y2 := hSw.cell y2 (fun _ => id); have d0 := hSw.cell d0 (fun _ => id); have e1 := hSw.cell e1 (fun _ => id); have hc0 := hSw.cell hc0 (fun _ => id); clear hSw; go_simp; all_goals (with_reducible rfl))
                            simp only [Act.put, List.setIfInBounds_toArray, List.set_cons_zero, List.set_cons_succ]
                            refine wpAnyG_take (i := 14) (v := ?va45) rfl (by kernel_rfl) (fun _ _ _ h => h) (Or.inl ⟨by rfl, ?hy45⟩) (by assumption) ?ra45
                            case hy45 => (intro w hSw; (try dsimp only at hSw); have y2 := hSw.cell y2 (fun _ => id); have d0 := hSw.cell d0 (fun _ => id); have e1 := hSw.cell e1 (fun _ => id); have hc0 := hSw.cell hc0 (fun _ => id); clear hSw; go_simp; all_goals (with_reducible rfl))
                            simp only [Act.put, List.setIfInBounds_toArray, List.set_cons_zero, List.set_cons_succ]
                            refine wpAnyG_take (i := 15) (v := ?va46) rfl (by kernel_rfl) (fun _ _ _ h => h) (Or.inl ⟨by rfl, ?hy46⟩) (by assumption) ?ra46
                            case hy46 => (intro w hSw; (try dsimp only at hSw); have y2 := hSw.cell y2 (fun _ => id); have d0 := hSw.cell d0 (fun _ => id); have e1 := hSw.cell e1 (fun _ => id); have hc0 := hSw.cell hc0 (fun _ => id); clear hSw; go_simp; all_goals (with_reducible rfl))
                            simp only [Act.put, List.setIfInBounds_toArray, List.set_cons_zero, List.set_cons_succ]
                            refine wpAnyG_ready (rs := [4]) (by kernel_rfl) (by simp) ?_
                            refine AllReadyG.cons rfl (fun K hK => ?_) AllReadyG.nil
                            go_simp
                            go_at_call 69
                            refine (local_any h _ x.val HMd.out.fix).mono ?_
                            rintro e w2 hp
                            obtain ⟨rfl, rfl⟩ := hp.ok hl2
                            refine hK.out _ _ (Chg.refl _ _).drew (fun hHeld => ?_)
                            clear hK K
                            try simp only [Act.put, List.setIfInBounds_toArray, List.set_cons_zero, List.set_cons_succ]
                            refine wpAnyG_take (i := 16) (v := ?va47) rfl (by kernel_rfl) (fun _ _ _ h => h) (Or.inl ⟨by rfl, ?hy47⟩) (by assumption) ?ra47
                            case hy47 => (intro w hSw; (try dsimp only at hSw); have y2 := hSw.cell y2 (fun _ => id); have d0 := hSw.cell d0 (fun _ => id); have e1 := hSw.cell e1 (fun _ => id); have hc0 := hSw.cell hc0 (fun _ => id); clear hSw; go_simp; all_goals (with_reducible rfl))
                            simp only [Act.put, List.setIfInBounds_toArray, List.set_cons_zero, List.set_cons_succ]
                            refine wpAnyG_last rfl (by kernel_rfl) (by kernel_rfl) (fun K hK => ?_)
                            go_simp
                            go_at_call 52
                            refine (need_any h _ true HMd.out.fix.d7).mono ?_
                            rintro e w3 hp
                            obtain ⟨rfl, rfl⟩ := hp.ok rfl
                            refine hK.out _ _ ?_
                            clear hK K
                            try simp only [Act.put, List.setIfInBounds_toArray, List.set_cons_zero, List.set_cons_succ]
                            go_wp2_with fail
                            go_roundw
                            case rel => exact ⟨j + 1, hlt, by simp, call_snoc HX.out.1 (by simp [caseB, hl1, HK1.out, HL.out, hp1, hs, hv, hl2, he, HL.out]) HX.out.2.1, HMd.out, HX.out.2.2.trans HN.out.drew⟩
                            case measure => simp [intOf]; omega
                    · rw [hs] at w0
                      go_wp2_with fail
                      cases hl2 : inB x.val h.f.locals.length
                      · go_wp2_with fail
                        have hmd := HM.out.same (Chg.refl (fun _ _ => False) w6).drew
                        have HMd := Lib.hid hmd
                        clear hmd
                        refine wp_region_G (S := (fun w' => Chg (fun _ _ => False) w6 w')) 17 (by kernel_rfl) (Chg.refl _ _).drew (fun hHeld => ?_)
                        refine wpAnyG_take (i := 0) (v := ?va48) rfl (by kernel_rfl) (fun _ _ _ h => h) (Or.inl ⟨by rfl, ?hy48⟩) (by assumption) ?ra48
                        case hy48 => (intro w hSw; (try dsimp only at hSw); have y2 := hSw.cell y2 (fun _ => id); have d0 := hSw.cell d0 (fun _ => id); have e1 := hSw.cell e1 (fun _ => id); have hc0 := hSw.cell hc0 (fun _ => id); clear hSw; go_simp; all_goals (with_reducible rfl))
                        simp only [Act.put, List.setIfInBounds_toArray, List.set_cons_zero, List.set_cons_succ]
                        refine wpAnyG_take (i := 1) (v := ?va49) rfl (by kernel_rfl) (fun _ _ _ h => h) (Or.inl ⟨by rfl, ?hy49⟩) (by assumption) ?ra49
                        case hy49 => (intro w hSw; (try dsimp only at hSw); have y2 := hSw.cell y2 (fun _ => id); have d0 := hSw.cell d0 (fun _ => id); have e1 := hSw.cell e1 (fun _ => id); have hc0 := hSw.cell hc0 (fun _ => id); clear hSw; go_simp; all_goals (with_reducible rfl))
                        simp only [Act.put, List.setIfInBounds_toArray, List.set_cons_zero, List.set_cons_succ]
                        refine wpAnyG_take (i := 2) (v := ?va50) rfl (by kernel_rfl) (fun _ _ _ h => h) (Or.inl ⟨by rfl, ?hy50⟩) (by assumption) ?ra50
                        case hy50 => (intro w hSw; (try dsimp only at hSw); have y2 := hSw.cell y2 (fun _ => id); have d0 := hSw.cell d0 (fun _ => id); have e1 := hSw.cell e1 (fun _ => id); have hc0 := hSw.cell hc0 (fun _ => id); clear hSw; go_simp; all_goals (with_reducible rfl))
                        simp only [Act.put, List.setIfInBounds_toArray, List.set_cons_zero, List.set_cons_succ]
                        refine wpAnyG_take (i := 3) (v := ?va51) rfl (by kernel_rfl) (fun _ _ _ h => h) (Or.inl ⟨by rfl, ?hy51⟩) (by assumption) ?ra51
                        case hy51 => (intro w hSw; (try dsimp only at hSw); have y2 := hSw.cell y2 (fun _ => id); have d0 := hSw.cell d0 (fun _ => id); have e1 := hSw.cell e1 (fun _ => id); have hc0 := hSw.cell hc0 (fun _ => id); clear hSw; go_simp; all_goals (with_reducible rfl))
                        simp only [Act.put, List.setIfInBounds_toArray, List.set_cons_zero, List.set_cons_succ]
                        refine wpAnyG_take (i := 5) (v := ?va52) rfl (by kernel_rfl) (fun _ _ _ h => h) (Or.inl ⟨by rfl, ?hy52⟩) (by assumption) ?ra52
                        case hy52 => (intro w hSw; (try dsimp only at hSw); have y2 := hSw.cell y2 (fun _ => id); have d0 := hSw.cell d0 (fun _ => id); have e1 := hSw.cell e1 (fun _ => id); have hc0 := hSw.cell hc0 (fun _ => id); clear hSw; go_simp; all_goals (with_reducible rfl))
                        simp only [Act.put, List.setIfInBounds_toArray, List.set_cons_zero, List.set_cons_succ]
                        refine wpAnyG_take (i := 6) (v := ?va53) rfl (by kernel_rfl) (fun _ _ _ h => h) (Or.inl ⟨by rfl, ?hy53⟩) (by assumption) ?ra53
                        case hy53 => (intro w hSw; (try dsimp only at hSw); have y2 := hSw.cell y2 (fun _ => id); have d0 := hSw.cell d0 (fun _ => id); have e1 := hSw.cell e1 (fun _ => id); have hc0 := hSw.cell hc0 (fun _ => id); clear hSw; go_simp; all_goals (with_reducible rfl))
                        simp only [Act.put, List.setIfInBounds_toArray, List.set_cons_zero, List.set_cons_succ]
                        refine wpAnyG_take (i := 7) (v := ?va54) rfl (by kernel_rfl) (fun _ _ _ h => h) (Or.inl ⟨by rfl, ?hy54⟩) (by assumption) ?ra54
                        case hy54 => (intro w hSw; (try dsimp only at hSw); have y2 := hSw.cell y2 (fun _ => id); have d0 := hSw.cell d0 (fun _ => id); have e1 := hSw.cell e1 (fun _ => id); have hc0 := hSw.cell hc0 (fun _ => id); clear hSw; go_simp; all_goals (with_reducible rfl))
                        simp only [Act.put, List.setIfInBounds_toArray, List.set_cons_zero, List.set_cons_succ]
                        refine wpAnyG_take (i := 8) (v := ?va55) rfl (by kernel_rfl) (fun _ _ _ h => h) (Or.inl ⟨by rfl, ?hy55⟩) (by assumption) ?ra55
                        case hy55 => (intro w hSw; (try dsimp only at hSw); have y2 := hSw.cell y2 (fun _ => id); have d0 := hSw.cell d0 (fun _ => id); have e1 := hSw.cell e1 (fun _ => id); have hc0 := hSw.cell hc0 (fun _ => id); clear hSw; go_simp; all_goals (with_reducible rfl))
                        simp only [Act.put, List.setIfInBounds_toArray, List.set_cons_zero, List.set_cons_succ]
                        refine wpAnyG_take (i := 9) (v := ?va56) rfl (by kernel_rfl) (fun _ _ _ h => h) (Or.inl ⟨by rfl, ?hy56⟩) (by assumption) ?ra56
                        case hy56 => (intro w hSw; (try dsimp only at hSw); have y2 := hSw.cell y2 (fun _ => id); have d0 := hSw.cell d0 (fun _ => id); have e1 := hSw.cell e1 (fun _ => id); have hc0 := hSw.cell hc0 (fun _ => id); clear hSw; go_simp; all_goals (with_reducible rfl))
                        simp only [Act.put, List.setIfInBounds_toArray, List.set_cons_zero, List.set_cons_succ]
                        refine wpAnyG_take (i := 10) (v := ?va57) rfl (by kernel_rfl) (fun _ _ _ h => h) (Or.inl ⟨by rfl, ?hy57⟩) (by assumption) ?ra57
                        case hy57 => (intro w hSw; (try dsimp only at hSw); have y2 := hSw.cell y2 (fun _ => id); have d0 := hSw.cell d0 (fun _ => id); have e1 := hSw.cell e1 (fun _ => id); have hc0 := hSw.cell hc0 (fun _ => id); clear hSw; go_simp; all_goals (with_reducible rfl))
                        simp only [Act.put, List.setIfInBounds_toArray, List.set_cons_zero, List.set_cons_succ]
                        refine wpAnyG_take (i := 11) (v := ?va58) rfl (by kernel_rfl) (fun _ _ _ h => h) (Or.inl ⟨by rfl, ?hy58⟩) (by assumption) ?ra58
                        case hy58 => (intro w hSw; (try dsimp only at hSw); have y2 := hSw.cell y2 (fun _ => id); have d0 := hSw.cell d0 (fun _ => id); have e1 := hSw.cell e1 (fun _ => id); have hc0 := hSw.cell hc0 (fun _ => id); clear hSw; go_simp; all_goals (with_reducible rfl))
                        simp only [Act.put, List.setIfInBounds_toArray, List.set_cons_zero, List.set_cons_succ]
                        refine wpAnyG_take (i := 12) (v := ?va59) rfl (by kernel_rfl) (fun _ _ _ h => h) (Or.inl ⟨by rfl, ?hy59⟩) (by assumption) ?ra59
                        case hy59 => (intro w hSw; (try dsimp only at hSw); have y2 := hSw.cell y2 (fun _ => id); have d0 := hSw.cell d0 (fun _ => id); have e1 := hSw.cell e1 (fun _ => id); have hc0 := hSw.cell hc0 (fun _ => id); clear hSw; go_simp; all_goals (with_reducible rfl))
                        simp only [Act.put, List.setIfInBounds_toArray, List.set_cons_zero, List.set_cons_succ]
                        refine wpAnyG_take (i := 13) (v := ?va60) rfl (by kernel_rfl) (fun _ _ _ h => h) (Or.inl ⟨by rfl, ?hy60⟩) (by assumption) ?ra60
                        case hy60 => (intro w hSw; (try dsimp only at hSw); have y2 := hSw.cell y2 (fun _ => id); have d0 := hSw.cell d0 (fun _ => id); have e1 := hSw.cell e1 (fun _ => id); have hc0 := hSw.cell hc0 (fun _ => id); clear hSw; go_simp; all_goals (with_reducible rfl))
                        simp only [Act.put, List.setIfInBounds_toArray, List.set_cons_zero, List.set_cons_succ]
                        refine wpAnyG_take (i := 14) (v := ?va61) rfl (by kernel_rfl) (fun _ _ _ h => h) (Or.inl ⟨by rfl, ?hy61⟩) (by assumption) ?ra61
                        case hy61 => (intro w hSw; (try dsimp only at hSw); have y2 := hSw.cell y2 (fun _ => id); have d0 := hSw.cell d0 (fun _ => id); have e1 := hSw.cell e1 (fun _ => id); have hc0 := hSw.cell hc0 (fun _ => id); clear hSw; go_simp; all_goals (with_reducible rfl))
                        simp only [Act.put, List.setIfInBounds_toArray, List.set_cons_zero, List.set_cons_succ]
                        refine wpAnyG_take (i := 15) (v := ?va62) rfl (by kernel_rfl) (fun _ _ _ h => h) (Or.inl ⟨by rfl, ?hy62⟩) (by assumption) ?ra62
                        case hy62 => (intro w hSw; (try dsimp only at hSw); have y2 := hSw.cell y2 (fun _ => id); have d0 := hSw.cell d0 (fun _ => id); have e1 := hSw.cell e1 (fun _ => id); have hc0 := hSw.cell hc0 (fun _ => id); clear hSw; go_simp; all_goals (with_reducible rfl))
                        simp only [Act.put, List.setIfInBounds_toArray, List.set_cons_zero, List.set_cons_succ]
                        refine wpAnyG_ready (rs := [4]) (by kernel_rfl) (by simp) ?_
                        refine AllReadyG.cons rfl (fun K hK => ?_) AllReadyG.nil
                        go_simp
                        go_at_call 69
                        refine (local_any h _ x.val HMd.out.fix).mono ?_
                        rintro e w2 hp
                        obtain ⟨rfl, rfl⟩ := hp.bad hl2
                        exact ⟨rfl, OutO.bad HMd.out.chg (op32_bad E0.out EN.out (call_at HX.out.1 (by simp [caseB, hl1, HK1.out, HL.out, hp1, hs, hl2])))⟩
                      · cases he : (locV h.f x.val == headN h.m.types (m : Int))
                        · have HE := Lib.hid he
                          go_wp2_with fail
                          have hmd := HM.out.same (Chg.refl (fun _ _ => False) w6).drew
                          have HMd := Lib.hid hmd
                          clear hmd
                          refine wp_region_G (S := (fun w' => Chg (fun _ _ => False) w6 w')) 17 (by kernel_rfl) (Chg.refl _ _).drew (fun hHeld => ?_)
                          refine wpAnyG_take (i := 0) (v := ?va63) rfl (by kernel_rfl) (fun _ _ _ h => h) (Or.inl ⟨by rfl, ?hy63⟩) (by assumption) ?ra63
                          case hy63 => (intro w hSw; (try dsimp only at hSw); have y2 := hSw.cell y2 (fun _ => id); have d0 := hSw.cell d0 (fun _ => id); have e1 := hSw.cell e1 (fun _ => id); have hc0 := hSw.cell hc0 (fun _ => id); clear hSw; go_simp; all_goals (with_reducible rfl))
                          simp only [Act.put, List.setIfInBounds_toArray, List.set_cons_zero, List.set_cons_succ]
                          refine wpAnyG_take (i := 1) (v := ?va64) rfl (by kernel_rfl) (fun _ _ _ h => h) (Or.inl ⟨by rfl, ?hy64⟩) (by assumption) ?ra64
                          case hy64 => (intro w hSw; (try dsimp only at hSw); have y2 := hSw.cell y2 (fun _ => id); have d0 := hSw.cell d0 (fun _ => id); have e1 := hSw.cell e1 (fun _ => id); have hc0 := hSw.cell hc0 (fun _ => id); clear hSw; go_simp; all_goals (with_reducible rfl))
                          simp only [Act.put, List.setIfInBounds_toArray, List.set_cons_zero, List.set_cons_succ]
                          refine wpAnyG_take (i := 2) (v := ?va65) rfl (by kernel_rfl) (fun _ _ _ h => h) (Or.inl ⟨by rfl, ?hy65⟩) (by assumption) ?ra65
                          case hy65 => (intro w hSw; (try dsimp only at hSw); have y2 := hSw.cell y2 (fun _ => id); have d0 := hSw.cell d0 (fun _ => id); have e1 := hSw.cell e1 (fun _ => id); have hc0 := hSw.cell hc0 (fun _ => id); clear hSw; go_simp; all_goals (with_reducible rfl))
                          simp only [Act.put, List.setIfInBounds_toArray, List.set_cons_zero, List.set_cons_succ]
                          refine wpAnyG_take (i := 3) (v := ?va66) rfl (by kernel_rfl) (fun _ _ _ h => h) (Or.inl ⟨by rfl, ?hy66⟩) (by assumption) ?ra66
                          case hy66 => (intro w hSw; (try dsimp only at hSw); have y2 := hSw.cell y2 (fun _ => id); have d0 := hSw.cell d0 (fun _ => id); have e1 := hSw.cell e1 (fun _ => id); have hc0 := hSw.cell hc0 (fun _ => id); clear hSw; go_simp; all_goals (with_reducible rfl))
                          simp only [Act.put, List.setIfInBounds_toArray, List.set_cons_zero, List.set_cons_succ]
                          refine wpAnyG_take (i := 5) (v := ?va67) rfl (by kernel_rfl) (fun _ _ _ h => h) (Or.inl ⟨by rfl, ?hy67⟩) (by assumption) ?ra67
                          case hy67 => (intro w hSw; (try dsimp only at hSw); have y2 := hSw.cell y2 (fun _ => id); have d0 := hSw.cell d0 (fun _ => id); have e1 := hSw.cell e1 (fun _ => id); have hc0 := hSw.cell hc0 (fun _ => id); clear hSw; go_simp; all_goals (with_reducible rfl))
                          simp only [Act.put, List.setIfInBounds_toArray, List.set_cons_zero, List.set_cons_succ]
                          refine wpAnyG_take (i := 6) (v := ?va68) rfl (by kernel_rfl) (fun _ _ _ h => h) (Or.inl ⟨by rfl, ?hy68⟩) (by assumption) ?ra68
                          case hy68 => (intro w hSw; (try dsimp only at hSw); have y2 := hSw.cell y2 (fun _ => id); have d0 := hSw.cell d0 (fun _ => id); have e1 := hSw.cell e1 (fun _ => id); have hc0 := hSw.cell hc0 (fun _ => id); clear hSw; go_simp; all_goals (with_reducible rfl))
                          simp only [Act.put, List.setIfInBounds_toArray, List.set_cons_zero, List.set_cons_succ]
                          refine wpAnyG_take (i := 7) (v := ?va69) rfl (by kernel_rfl) (fun _ _ _ h => h) (Or.inl ⟨by rfl, ?hy69⟩) (by assumption) ?ra69
                          case hy69 => (intro w hSw; (try dsimp only at hSw); have y2 := hSw.cell y2 (fun _ => id); have d0 := hSw.cell d0 (fun _ => id); have e1 := hSw.cell e1 (fun _ => id); have hc0 := hSw.cell hc0 (fun _ => id); clear hSw; go_simp; all_goals (with_reducible rfl))
                          simp only [Act.put, List.setIfInBounds_toArray, List.set_cons_zero, List.set_cons_succ]
                          refine wpAnyG_take (i := 8) (v := ?va70) rfl (by kernel_rfl) (fun _ _ _ h => h) (Or.inl ⟨by rfl, ?hy70⟩) (by assumption) ?ra70
                          case hy70 => (intro w hSw; (try dsimp only at hSw); have y2 := hSw.cell y2 (fun _ => id); have d0 := hSw.cell d0 (fun _ => id); have e1 := hSw.cell e1 (fun _ => id); have hc0 := hSw.cell hc0 (fun _ => id); clear hSw; go_simp; all_goals (with_reducible rfl))
                          simp only [Act.put, List.setIfInBounds_toArray, List.set_cons_zero, List.set_cons_succ]
                          refine wpAnyG_take (i := 9) (v := ?va71) rfl (by kernel_rfl) (fun _ _ _ h => h) (Or.inl ⟨by rfl, ?hy71⟩) (by assumption) ?ra71
                          case hy71 => (intro w hSw; (try dsimp only at hSw); have y2 := hSw.cell y2 (fun _ => id); have d0 := hSw.cell d0 (fun _ => id); have e1 := hSw.cell e1 (fun _ => id); have hc0 := hSw.cell hc0 (fun _ => id); clear hSw; go_simp; all_goals (with_reducible rfl))
                          simp only [Act.put, List.setIfInBounds_toArray, List.set_cons_zero, List.set_cons_succ]
                          refine wpAnyG_take (i := 10) (v := ?va72) rfl (by kernel_rfl) (fun _ _ _ h => h) (Or.inl ⟨by rfl, ?hy72⟩) (by assumption) ?ra72
                          case hy72 => (intro w hSw; (try dsimp only at hSw); have y2 := hSw.cell y2 (fun _ => id); have d0 := hSw.cell d0 (fun _ => id); have e1 := hSw.cell e1 (fun _ => id); have hc0 := hSw.cell hc0 (fun _ => id); clear hSw; go_simp; all_goals (with_reducible rfl))
                          simp only [Act.put, List.setIfInBounds_toArray, List.set_cons_zero, List.set_cons_succ]
                          refine wpAnyG_take (i := 11) (v := ?va73) rfl (by kernel_rfl) (fun _ _ _ h => h) (Or.inl ⟨by rfl, ?hy73⟩) (by assumption) ?ra73
                          case hy73 => (intro w hSw; (try dsimp only at hSw); have y2 := hSw.cell y2 (fun _ => id); have d0 := hSw.cell d0 (fun _ => id); have e1 := hSw.cell e1 (fun _ => id); have hc0 := hSw.cell hc0 (fun _ => id); clear hSw; go_simp; all_goals (with_reducible rfl))
                          simp only [Act.put, List.setIfInBounds_toArray, List.set_cons_zero, List.set_cons_succ]
                          refine wpAnyG_take (i := 12) (v := ?va74) rfl (by kernel_rfl) (fun _ _ _ h => h) (Or.inl ⟨by rfl, ?hy74⟩) (by assumption) ?ra74
                          case hy74 => (intro w hSw; (try dsimp only at hSw); have y2 := hSw.cell y2 (fun _ => id); have d0 := hSw.cell d0 (fun _ => id); have e1 := hSw.cell e1 (fun _ => id); have hc0 := hSw.cell hc0 (fun _ => id); clear hSw; go_simp; all_goals (with_reducible rfl))
                          simp only [Act.put, List.setIfInBounds_toArray, List.set_cons_zero, List.set_cons_succ]
                          refine wpAnyG_take (i := 13) (v := ?va75) rfl (by kernel_rfl) (fun _ _ _ h => h) (Or.inl ⟨by rfl, ?hy75⟩) (by assumption) ?ra75
                          case hy75 => (intro w hSw; (try dsimp only at hSw); have y2 := hSw.cell y2 (fun _ => id); have d0 := hSw.cell d0 (fun _ => id); have e1 := hSw.cell e1 (fun _ => id); have hc0 := hSw.cell hc0 (fun _ => id); clear hSw; go_simp; all_goals (with_reducible rfl))
                          simp only [Act.put, List.setIfInBounds_toArray, List.set_cons_zero, List.set_cons_succ]
                          refine wpAnyG_take (i := 14) (v := ?va76) rfl (by kernel_rfl) (fun _ _ _ h => h) (Or.inl ⟨by rfl, ?hy76⟩) (by assumption) ?ra76
                          case hy76 => (intro w hSw; (try dsimp only at hSw); have y2 := hSw.cell y2 (fun _ => id); have d0 := hSw.cell d0 (fun _ => id); have e1 := hSw.cell e1 (fun _ => id); have hc0 := hSw.cell hc0 (fun _ => id); clear hSw; go_simp; all_goals (with_reducible rfl))
                          simp only [Act.put, List.setIfInBounds_toArray, List.set_cons_zero, List.set_cons_succ]
                          refine wpAnyG_take (i := 15) (v := ?va77) rfl (by kernel_rfl) (fun _ _ _ h => h) (Or.inl ⟨by rfl, ?hy77⟩) (by assumption) ?ra77
                          case hy77 => (intro w hSw; (try dsimp only at hSw); have y2 := hSw.cell y2 (fun _ => id); have d0 := hSw.cell d0 (fun _ => id); have e1 := hSw.cell e1 (fun _ => id); have hc0 := hSw.cell hc0 (fun _ => id); clear hSw; go_simp; all_goals (with_reducible rfl))
                          simp only [Act.put, List.setIfInBounds_toArray, List.set_cons_zero, List.set_cons_succ]
                          refine wpAnyG_ready (rs := [4]) (by kernel_rfl) (by simp) ?_
                          refine AllReadyG.cons rfl (fun K hK => ?_) AllReadyG.nil
                          go_simp
                          go_at_call 69
                          refine (local_any h _ x.val HMd.out.fix).mono ?_
                          rintro e w2 hp
                          obtain ⟨rfl, rfl⟩ := hp.ok hl2
                          refine hK.out _ _ (Chg.refl _ _).drew (fun hHeld => ?_)
                          clear hK K
                          try simp only [Act.put, List.setIfInBounds_toArray, List.set_cons_zero, List.set_cons_succ]
                          refine wpAnyG_take (i := 16) (v := ?va78) rfl (by kernel_rfl) (fun _ _ _ h => h) (Or.inl ⟨by rfl, ?hy78⟩) (by assumption) ?ra78
                          case hy78 => (intro w hSw; (try dsimp only at hSw); have y2 := hSw.cell y2 (fun _ => id); have d0 := hSw.cell d0 (fun _ => id); have e1 := hSw.cell e1 (fun _ => id); have hc0 := hSw.cell hc0 (fun _ => id); clear hSw; go_simp; all_goals (with_reducible rfl))
                          simp only [Act.put, List.setIfInBounds_toArray, List.set_cons_zero, List.set_cons_succ]
                          refine wpAnyG_last rfl (by kernel_rfl) (by kernel_rfl) (fun K hK => ?_)
                          go_simp
                          go_at_call 52
                          refine (need_any h _ false HMd.out.fix.d7).mono ?_
                          rintro e w3 hp
                          obtain ⟨rfl, rfl⟩ := hp.bad rfl
                          exact ⟨rfl, OutO.bad HMd.out.chg (op32_bad E0.out EN.out (call_at HX.out.1 (by simp [caseB, hl1, HK1.out, HL.out, hp1, hs, hl2, he, HL.out])))⟩
                        · have HE := Lib.hid he
                          go_wp2_with fail
                          have hmd := HM.out.same (Chg.refl (fun _ _ => False) w6).drew
                          have HMd := Lib.hid hmd
                          clear hmd
                          refine wp_region_G (S := (fun w' => Chg (fun _ _ => False) w6 w')) 17 (by kernel_rfl) (Chg.refl _ _).drew (fun hHeld => ?_)
                          refine wpAnyG_take (i := 0) (v := ?va79) rfl (by kernel_rfl) (fun _ _ _ h => h) (Or.inl ⟨by rfl, ?hy79⟩) (by assumption) ?ra79
                          case hy79 => (intro w hSw; (try dsimp only at hSw); have y2 := hSw.cell y2 (fun _ => id); have d0 := hSw.cell d0 (fun _ => id); have e1 := hSw.cell e1 (fun _ => id); have hc0 := hSw.cell hc0 (fun _ => id); clear hSw; go_simp; all_goals (with_reducible rfl))
                          simp only [Act.put, List.setIfInBounds_toArray, List.set_cons_zero, List.set_cons_succ]
                          refine wpAnyG_take (i := 1) (v := ?va80) rfl (by kernel_rfl) (fun _ _ _ h => h) (Or.inl ⟨by rfl, ?hy80⟩) (by assumption) ?ra80
                          case hy80 => (intro w hSw; (try dsimp only at hSw); have y2 := hSw.cell y2 (fun _ => id); have d0 := hSw.cell d0 (fun _ => id); have e1 := hSw.cell e1 (fun _ => id); have hc0 := hSw.cell hc0 (fun _ => id); clear hSw; go_simp; all_goals (with_reducible rfl))
                          simp only [Act.put, List.setIfInBounds_toArray, List.set_cons_zero, List.set_cons_succ]
                          refine wpAnyG_take (i := 2) (v := ?va81) rfl (by kernel_rfl) (fun _ _ _ h => h) (Or.inl ⟨by rfl, ?hy81⟩) (by assumption) ?ra81
                          case hy81 => (intro w hSw; (try dsimp only at hSw); have y2 := hSw.cell y2 (fun _ => id); have d0 := hSw.cell d0 (fun _ => id); have e1 := hSw.cell e1 (fun _ => id); have hc0 := hSw.cell hc0 (fun _ => id); clear hSw; go_simp; all_goals (with_reducible rfl))
                          simp only [Act.put, List.setIfInBounds_toArray, List.set_cons_zero, List.set_cons_succ]
                          refine wpAnyG_take (i := 3) (v := ?va82) rfl (by kernel_rfl) (fun _ _ _ h => h) (Or.inl ⟨by rfl, ?hy82⟩) (by assumption) ?ra82
                          case hy82 => (intro w hSw; (try dsimp only at hSw); have y2 := hSw.cell y2 (fun _ => id); have d0 := hSw.cell d0 (fun _ => id); have e1 := hSw.cell e1 (fun _ => id); have hc0 := hSw.cell hc0 (fun _ => id); clear hSw; go_simp; all_goals (with_reducible rfl))
                          simp only [Act.put, List.setIfInBounds_toArray, List.set_cons_zero, List.set_cons_succ]
                          refine wpAnyG_take (i := 5) (v := ?va83) rfl (by kernel_rfl) (fun _ _ _ h => h) (Or.inl ⟨by rfl, ?hy83⟩) (by assumption) ?ra83
                          case hy83 => (intro w hSw; (try dsimp only at hSw); have y2 := hSw.cell y2 (fun _ => id); have d0 := hSw.cell d0 (fun _ => id); have e1 := hSw.cell e1 (fun _ => id); have hc0 := hSw.cell hc0 (fun _ => id); clear hSw; go_simp; all_goals (with_reducible rfl))
                          simp only [Act.put, List.setIfInBounds_toArray, List.set_cons_zero, List.set_cons_succ]
                          refine wpAnyG_take (i := 6) (v := ?va84) rfl (by kernel_rfl) (fun _ _ _ h => h) (Or.inl ⟨by rfl, ?hy84⟩) (by assumption) ?ra84
                          case hy84 => (intro w hSw; (try dsimp only at hSw); have y2 := hSw.cell y2 (fun _ => id); have d0 := hSw.cell d0 (fun _ => id); have e1 := hSw.cell e1 (fun _ => id); have hc0 := hSw.cell hc0 (fun _ => id); clear hSw; go_simp; all_goals (with_reducible rfl))
                          simp only [Act.put, List.setIfInBounds_toArray, List.set_cons_zero, List.set_cons_succ]
                          refine wpAnyG_take (i := 7) (v := ?va85) rfl (by kernel_rfl) (fun _ _ _ h => h) (Or.inl ⟨by rfl, ?hy85⟩) (by assumption) ?ra85
                          case hy85 => (intro w hSw; (try dsimp only at hSw); have y2 := hSw.cell y2 (fun _ => id); have d0 := hSw.cell d0 (fun _ => id); have e1 := hSw.cell e1 (fun _ => id); have hc0 := hSw.cell hc0 (fun _ => id); clear hSw; go_simp; all_goals (with_reducible rfl))
                          simp only [Act.put, List.setIfInBounds_toArray, List.set_cons_zero, List.set_cons_succ]
                          refine wpAnyG_take (i := 8) (v := ?va86) rfl (by kernel_rfl) (fun _ _ _ h => h) (Or.inl ⟨by rfl, ?hy86⟩) (by assumption) ?ra86
                          case hy86 => (intro w hSw; (try dsimp only at hSw); have y2 := hSw.cell y2 (fun _ => id); have d0 := hSw.cell d0 (fun _ => id); have e1 := hSw.cell e1 (fun _ => id); have hc0 := hSw.cell hc0 (fun _ => id); clear hSw; go_simp; all_goals (with_reducible rfl))
                          simp only [Act.put, List.setIfInBounds_toArray, List.set_cons_zero, List.set_cons_succ]
                          refine wpAnyG_take (i := 9) (v := ?va87) rfl (by kernel_rfl) (fun _ _ _ h => h) (Or.inl ⟨by rfl, ?hy87⟩) (by assumption) ?ra87
                          case hy87 => (intro w hSw; (try dsimp only at hSw); have y2 := hSw.cell y2 (fun _ => id); have d0 := hSw.cell d0 (fun _ => id); have e1 := hSw.cell e1 (fun _ => id); have hc0 := hSw.cell hc0 (fun _ => id); clear hSw; go_simp; all_goals (with_reducible rfl))
                          simp only [Act.put, List.setIfInBounds_toArray, List.set_cons_zero, List.set_cons_succ]
                          refine wpAnyG_take (i := 10) (v := ?va88) rfl (by kernel_rfl) (fun _ _ _ h => h) (Or.inl ⟨by rfl, ?hy88⟩) (by assumption) ?ra88
                          case hy88 => (intro w hSw; (try dsimp only at hSw); have y2 := hSw.cell y2 (fun _ => id); have d0 := hSw.cell d0 (fun _ => id); have e1 := hSw.cell e1 (fun _ => id); have hc0 := hSw.cell hc0 (fun _ => id); clear hSw; go_simp; all_goals (with_reducible rfl))
                          simp only [Act.put, List.setIfInBounds_toArray, List.set_cons_zero, List.set_cons_succ]
                          refine wpAnyG_take (i := 11) (v := ?va89) rfl (by kernel_rfl) (fun _ _ _ h => h) (Or.inl ⟨by rfl, ?hy89⟩) (by assumption) ?ra89
                          case hy89 => (intro w hSw; (try dsimp only at hSw); have y2 := hSw.cell y2 (fun _ => id); have d0 := hSw.cell d0 (fun _ => id); have e1 := hSw.cell e1 (fun _ => id); have hc0 := hSw.cell hc0 (fun _ => id); clear hSw; go_simp; all_goals (with_reducible rfl))
                          simp only [Act.put, List.setIfInBounds_toArray, List.set_cons_zero, List.set_cons_succ]
                          refine wpAnyG_take (i := 12) (v := ?va90) rfl (by kernel_rfl) (fun _ _ _ h => h) (Or.inl ⟨by rfl, ?hy90⟩) (by assumption) ?ra90
                          case hy90 => (intro w hSw; (try dsimp only at hSw); have y2 := hSw.cell y2 (fun _ => id); have d0 := hSw.cell d0 (fun _ => id); have e1 := hSw.cell e1 (fun _ => id); have hc0 := hSw.cell hc0 (fun _ => id); clear hSw; go_simp; all_goals (with_reducible rfl))
                          simp only [Act.put, List.setIfInBounds_toArray, List.set_cons_zero, List.set_cons_succ]
                          refine wpAnyG_take (i := 13) (v := ?va91) rfl (by kernel_rfl) (fun _ _ _ h => h) (Or.inl ⟨by rfl, ?hy91⟩) (by assumption) ?ra91
                          case hy91 => (intro w hSw; (try dsimp only at hSw); have y2 := hSw.cell y2 (fun _ => id); have d0 := hSw.cell d0 (fun _ => id); have e1 := hSw.cell e1 (fun _ => id); have hc0 := hSw.cell hc0 (fun _ => id); clear hSw; go_simp; all_goals (with_reducible rfl))
                          simp only [Act.put, List.setIfInBounds_toArray, List.set_cons_zero, List.set_cons_succ]
                          refine wpAnyG_take (i := 14) (v := ?va92) rfl (by kernel_rfl) (fun _ _ _ h => h) (Or.inl ⟨by rfl, ?hy92⟩) (by assumption) ?ra92
                          case hy92 => (intro w hSw; (try dsimp only at hSw); have y2 := hSw.cell y2 (fun _ => id); have d0 := hSw.cell d0 (fun _ => id); have e1 := hSw.cell e1 (fun _ => id); have hc0 := hSw.cell hc0 (fun _ => id); clear hSw; go_simp; all_goals (with_reducible rfl))
                          simp only [Act.put, List.setIfInBounds_toArray, List.set_cons_zero, List.set_cons_succ]
                          refine wpAnyG_take (i := 15) (v := ?va93) rfl (by kernel_rfl) (fun _ _ _ h => h) (Or.inl ⟨by rfl, ?hy93⟩) (by assumption) ?ra93
                          case hy93 => (intro w hSw; (try dsimp only at hSw); have y2 := hSw.cell y2 (fun _ => id); have d0 := hSw.cell d0 (fun _ => id); have e1 := hSw.cell e1 (fun _ => id); have hc0 := hSw.cell hc0 (fun _ => id); clear hSw; go_simp; all_goals (with_reducible rfl))
                          simp only [Act.put, List.setIfInBounds_toArray, List.set_cons_zero, List.set_cons_succ]
                          refine wpAnyG_ready (rs := [4]) (by kernel_rfl) (by simp) ?_
                          refine AllReadyG.cons rfl (fun K hK => ?_) AllReadyG.nil
                          go_simp
                          go_at_call 69
                          refine (local_any h _ x.val HMd.out.fix).mono ?_
                          rintro e w2 hp
                          obtain ⟨rfl, rfl⟩ := hp.ok hl2
                          refine hK.out _ _ (Chg.refl _ _).drew (fun hHeld => ?_)
                          clear hK K
                          try simp only [Act.put, List.setIfInBounds_toArray, List.set_cons_zero, List.set_cons_succ]
                          refine wpAnyG_take (i := 16) (v := ?va94) rfl (by kernel_rfl) (fun _ _ _ h => h) (Or.inl ⟨by rfl, ?hy94⟩) (by assumption) ?ra94
                          case hy94 => (intro w hSw; (try dsimp only at hSw); have y2 := hSw.cell y2 (fun _ => id); have d0 := hSw.cell d0 (fun _ => id); have e1 := hSw.cell e1 (fun _ => id); have hc0 := hSw.cell hc0 (fun _ => id); clear hSw; go_simp; all_goals (with_reducible rfl))
                          simp only [Act.put, List.setIfInBounds_toArray, List.set_cons_zero, List.set_cons_succ]
                          refine wpAnyG_last rfl (by kernel_rfl) (by kernel_rfl) (fun K hK => ?_)
                          go_simp
                          go_at_call 52
                          refine (need_any h _ true HMd.out.fix.d7).mono ?_
                          rintro e w3 hp
                          obtain ⟨rfl, rfl⟩ := hp.ok rfl
                          refine hK.out _ _ ?_
                          clear hK K
                          try simp only [Act.put, List.setIfInBounds_toArray, List.set_cons_zero, List.set_cons_succ]
                          go_wp2_with fail
                          go_roundw
                          case rel => exact ⟨j + 1, hlt, by simp, call_snoc HX.out.1 (by simp [caseB, hl1, HK1.out, HL.out, hp1, hs, hl2, he, HL.out]) HX.out.2.1, HMd.out, HX.out.2.2.trans HN.out.drew⟩
                          case measure => simp [intOf]; omega
            · have q1 : decide (j < cs.length) = false := decide_eq_false hlt
              obtain ⟨As8, cs8, d8⟩ := hM.stack8
              obtain rfl : j = cs.length := by omega
              have hall : cs.all (caseB h.m h.f) = true := by have := hall; rw [List.take_of_length_le (Nat.le_refl _)] at this; exact this
              have HA := Lib.hid hall
              have HM := Lib.hid hM
              clear hall hM hch
              go_wp2_with fail
              refine (mid_need (((s0.stack.length : Int) == 0)) HM.out).mono fun e ve hh => ?_
              rcases hq : needN ((s0.stack.length : Int) == 0) s0 with _ | s9
              · obtain ⟨rfl, hc⟩ := hh.none_ hq
                have EB := Lib.hid hq
                have CB := Lib.hid hc
                clear hh hq hc
                go_wp2_with fail
                exact ⟨rfl, OutO.bad CB.out (op32_end E0.out EN.out HA.out EB.out)⟩
              · obtain ⟨rfl, hm⟩ := hh.some_ hq
                have EB := Lib.hid hq
                have ME := Lib.hid hm
                clear hh hq hm
                go_wp2_with fail
                go_ret
                exact OutO.good ME.out (op32_good E0.out EN.out HA.out EB.out)

end Go.Proofs.Ytdegfnejhamejaa
