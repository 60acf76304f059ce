/-
  The reference's Same: whole modules compared.
-/
import Derived.Test.YtdegfnejhamejaaSame3Zk
import Derived.StillTailTactics
namespace Go.Proofs.Ytdegfnejhamejaa
open Go.RowKit
set_option linter.unusedVariables false
set_option linter.unusedSimpArgs false

def rsameRel {α : Type} (f : α → α → Bool) (n : Nat) (w : World) (xs ys : List α) (i : Value) (wr : World) : Prop := ∃ k : Nat, k ≤ n ∧ i = .int .i64 k ∧ sameL f (xs.take k) (ys.take k) = true ∧ Chg (fun _ _ => False) w wr
set_option maxRecDepth 100000 in
set_option maxHeartbeats 1000000 in
theorem rsame_any (w : World) (B : Nat) (va vb : Value) (a b : ModD) (ha : ModR B w va a) (hb : ModR B w vb b) (hn : cMod a ≤ 1099511627776) (hn' : cMod b ≤ 1099511627776) :
    Calls Try.prog 16 #[va, vb] w (BoolRes (sameMod a b) w) := by
  obtain ⟨ta, fa⟩ := a
  obtain ⟨tb, fb⟩ := b
  obtain ⟨A1, c1, A2, c2, rfl, h1, h2⟩ := ha
  obtain ⟨A3, c3, A4, c4, rfl, h3, h4⟩ := hb
  unfold cMod at hn hn'
  simp only at hn hn' h1 h2 h3 h4 ⊢
  have hnt := len_le_sum cShape (fun _ => by unfold cShape cInts; omega) ta
  have hnf := len_le_sum cFunc (fun _ => by unfold cFunc cInts; omega) fa
  have hnt' := len_le_sum cShape (fun _ => by unfold cShape cInts; omega) tb
  have hnf' := len_le_sum cFunc (fun _ => by unfold cFunc cInts; omega) fb
  have hc0 := (chg_alloc w (.cells #[.slice A1 ta.length c1, .slice A2 fa.length c2] 25)).alloc (.cells #[.slice A3 tb.length c3, .slice A4 fb.length c4] 25)
  have hb1 := (Blk.new w 25 #[.slice A1 ta.length c1, .slice A2 fa.length c2]).alloc (.cells #[.slice A3 tb.length c3, .slice A4 fb.length c4] 25)
  have hb2 := Blk.new (w.alloc (.cells #[.slice A1 ta.length c1, .slice A2 fa.length c2] 25)) 25 #[.slice A3 tb.length c3, .slice A4 fb.length c4]
  simp only [World.size_alloc] at hb2
  cases ht : ((ta.length : Int) != (tb.length : Int))
  · cases hf : ((fa.length : Int) != (fb.length : Int))
    · have htt : ta.length = tb.length := by simp at ht; omega
      have hff : fa.length = fb.length := by simp at hf; omega
      have HL := Lib.hid (And.intro htt hff)
      clear htt hff
      go_enter Try.func16, Try.ntmps16
      go_wp2_with fail
      generalize hw0 : (w.alloc (.cells #[.slice A1 ta.length c1, .slice A2 fa.length c2] 25)).alloc (.cells #[.slice A3 tb.length c3, .slice A4 fb.length c4] 25) = w0 at hc0 hb1 hb2 ⊢
      have HW := Lib.hid hc0
      have HB := Lib.hid (And.intro hb1 hb2)
      replace h1 := h1.keep hc0 (fun _ _ _ => id)
      replace h2 := h2.keep hc0 (fun _ _ _ => id)
      replace h3 := h3.keep hc0 (fun _ _ _ => id)
      replace h4 := h4.keep hc0 (fun _ _ _ => id)
      clear hw0 ht hf hc0 hb1 hb2
      go_loopw [5] (fun i wr => rsameRel sameShape ta.length w0 ta tb i wr) (fun i _ => ta.length - (intOf i).toNat)
      case atStart => exact ⟨0, Nat.zero_le _, rfl, rfl, Chg.refl _ _⟩
      case round =>
        obtain ⟨k, hk, rfl, hs, hch⟩ := hrel
        have Hs := Lib.hid hs; clear hs
        obtain ⟨d0, d1⟩ := (hch.blk HB.out.1 id).cells2
        obtain ⟨e0, e1⟩ := (hch.blk HB.out.2 id).cells2
        by_cases hlt : k < ta.length
        · obtain ⟨bb, oo, x, A5, c5, rfl, hkx, _, _, hl1, z0, z1, z2⟩ := (h1.keep hch (fun _ _ _ => id)).at_ hlt
          obtain ⟨bb', oo', y, A6, c6, rfl, hky, _, _, hl2, y0, y1, y2⟩ := (h3.keep hch (fun _ _ _ => id)).at_ (k := k) (by have := HL.out.1; omega)
          have hcx : cShape x ≤ 1099511627776 := sum_le_of cShape hkx (by omega)
          have hcy : cShape y ≤ 1099511627776 := sum_le_of cShape hky (by omega)
          have Hk := Lib.hid (And.intro hkx hky)
          have Hch := Lib.hid hch
          have hlt2 : (k : Int) < (tb.length : Int) := by have := HL.out.1; omega
          clear hkx hky hch h1 h2 h3 h4 hk d1 e1
          cases he : sameShape x y
          all_goals
            have He := Lib.hid he
            clear he
            go_wp2_with fail
            go_still_tail 10, (by kernel_rfl)
            change wpList _ _ _ _ _ wr.drew
            have hdr : Chg (fun _ _ => False) wr wr.drew := (Chg.refl _ wr).drew
            replace hl1 := hl1.keep hdr (fun _ _ _ => id)
            replace hl2 := hl2.keep hdr (fun _ _ _ => id)
            have HD := Lib.hid hdr
            clear hdr d0 e0 z0 z1 z2 y0 y1 y2
            generalize wr.drew = w2 at hl1 hl2 HD ⊢
            go_wp2_with fail
            refine (rsame1_any _ B x y _ _ _ _ hl1 hl2 hcx hcy).mono (fun e w3 hh => ?_)
            replace hh := hh.of He.out
            obtain ⟨rfl, hc3⟩ := hh
            have HC := Lib.hid (Hch.out.trans (HD.out.trans hc3))
            clear hc3 hl1 hl2 hcx hcy
            go_wp2_with fail
          · go_ret
            exact BoolRes.of (b := false) ⟨rfl, HW.out.trans HC.out⟩ (by simp [sameMod, sameL_at Hk.out.1 Hk.out.2 He.out])
          · go_roundw
            case rel => exact ⟨k + 1, hlt, by simp, sameL_snoc Hk.out.1 Hk.out.2 He.out Hs.out, HC.out⟩
            case measure => simp [intOf]; omega
        · have Hst := Lib.hid (sameL_full Hs.out (by omega) (by have := HL.out.1; omega))
          have hkk : (ta.length : Int) ≤ (k : Int) := by omega
          clear Hs h1 h3
          have Hch := Lib.hid hch
          go_wp2_with fail
          clear d0 d1 e0 e1
          go_loopw [6] (fun i wr => rsameRel sameFunc fa.length w0 fa fb i wr) (fun i _ => fa.length - (intOf i).toNat)
          case atStart => exact ⟨0, Nat.zero_le _, rfl, rfl, Hch.out⟩
          case round =>
            clear Hch hch hk hkk hlt
            obtain ⟨k, hk, rfl, hs, hch⟩ := hrel
            have Hs := Lib.hid hs; clear hs
            obtain ⟨d0, d1⟩ := (hch.blk HB.out.1 id).cells2
            obtain ⟨e0, e1⟩ := (hch.blk HB.out.2 id).cells2
            by_cases hlt : k < fa.length
            · obtain ⟨bb, oo, x, A5, c5, A6, c6, A7, c7, rfl, hkx, _, _, hl1, hl2, hl3, z0, z1, z2, z3, z4⟩ := (h2.keep hch (fun _ _ _ => id)).at_ hlt
              obtain ⟨bb', oo', y, A8, c8, A9, c9, A10, c10, rfl, hky, _, _, hl4, hl5, hl6, y0, y1, y2, y3, y4⟩ := (h4.keep hch (fun _ _ _ => id)).at_ (k := k) (by have := HL.out.2; omega)
              have hcx : cFunc x ≤ 1099511627776 := sum_le_of cFunc hkx (by omega)
              have hcy : cFunc y ≤ 1099511627776 := sum_le_of cFunc hky (by omega)
              rw [show cFunc x = 30 + (10 + 10 * x.locals.length) + (10 + 10 * x.caps.length) + (x.code.map cInstr).sum by simp only [cFunc, cInts, sum10]] at hcx
              rw [show cFunc y = 30 + (10 + 10 * y.locals.length) + (10 + 10 * y.caps.length) + (y.code.map cInstr).sum by simp only [cFunc, cInts, sum10]] at hcy
              have hnc := len_le_sum cInstr (fun _ => by unfold cInstr; omega) x.code
              have hnc' := len_le_sum cInstr (fun _ => by unfold cInstr; omega) y.code
              have hblk1 : bb < wr.heap.size := World.block_lt_of_cell? wr _ z0
              have hblk2 : bb' < wr.heap.size := World.block_lt_of_cell? wr _ y0
              have hmb : w.heap.size + 1 < wr.heap.size := World.block_lt_of_cell? wr _ e0
              have hba := Blk.new wr 34 #[.int .i64 x.params, .slice A5 x.locals.length c5, .slice A6 x.caps.length c6, .int .i64 x.res, .slice A7 x.code.length c7]
              have hba2 := hba.alloc (.cells #[.int .i64 y.params, .slice A8 y.locals.length c8, .slice A9 y.caps.length c9, .int .i64 y.res, .slice A10 y.code.length c10] 34)
              have hbb := Blk.new (wr.alloc (.cells #[.int .i64 x.params, .slice A5 x.locals.length c5, .slice A6 x.caps.length c6, .int .i64 x.res, .slice A7 x.code.length c7] 34)) 34 #[.int .i64 y.params, .slice A8 y.locals.length c8, .slice A9 y.caps.length c9, .int .i64 y.res, .slice A10 y.code.length c10]
              simp only [World.size_alloc] at hbb
              have hlt2 : (k : Int) < (fb.length : Int) := by have := HL.out.2; omega
              have Hk := Lib.hid (And.intro hkx hky)
              have Hch := Lib.hid hch
              have HBB := Lib.hid (And.intro hba2 hbb)
              clear hkx hky hch h2 h4 hk d0 e0 hba hba2 hbb
              obtain ⟨wo, rfl⟩ : ∃ wo : World, wo = wr := ⟨_, rfl⟩
              cases p0 : x.params != y.params
              · cases p1 : x.res != y.res
                · cases p2 : sameL sameInt x.locals y.locals
                  · go_wp2_with fail
                    refine (rInts_any _ B _ _ _ _ _ _ x.locals y.locals ?_ ?_ (by omega) (by omega)).mono (fun e w1 hh => ?_)
                    · exact hl1.keep (by repeat (first | exact Chg.refl _ _ | assumption | apply Chg.drewN | apply Chg.alloc | apply Chg.drew)) (fun _ _ _ => id)
                    · exact hl4.keep (by repeat (first | exact Chg.refl _ _ | assumption | apply Chg.drewN | apply Chg.alloc | apply Chg.drew)) (fun _ _ _ => id)
                    replace hh := hh.of p2
                    obtain ⟨rfl, q1, rfl⟩ := hh
                    go_wp2_with fail
                    go_ret
                    exact BoolRes.of (b := false) ⟨rfl, HW.out.trans (Hch.out.trans (by repeat (first | exact Chg.refl _ _ | assumption | apply Chg.drewN | apply Chg.alloc | apply Chg.drew)))⟩ (by
                      have hf : sameFunc x y = false := by simp [sameFunc, p2]
                      simp [sameMod, sameL_at Hk.out.1 Hk.out.2 hf])
                  · cases p3 : sameL sameInt x.caps y.caps
                    · go_wp2_with fail
                      refine (rInts_any _ B _ _ _ _ _ _ x.locals y.locals ?_ ?_ (by omega) (by omega)).mono (fun e w1 hh => ?_)
                      · exact hl1.keep (by repeat (first | exact Chg.refl _ _ | assumption | apply Chg.drewN | apply Chg.alloc | apply Chg.drew)) (fun _ _ _ => id)
                      · exact hl4.keep (by repeat (first | exact Chg.refl _ _ | assumption | apply Chg.drewN | apply Chg.alloc | apply Chg.drew)) (fun _ _ _ => id)
                      replace hh := hh.of p2
                      obtain ⟨rfl, q1, rfl⟩ := hh
                      go_wp2_with fail
                      refine (rInts_any _ B _ _ _ _ _ _ x.caps y.caps ?_ ?_ (by omega) (by omega)).mono (fun e w1 hh => ?_)
                      · exact hl2.keep (by repeat (first | exact Chg.refl _ _ | assumption | apply Chg.drewN | apply Chg.alloc | apply Chg.drew)) (fun _ _ _ => id)
                      · exact hl5.keep (by repeat (first | exact Chg.refl _ _ | assumption | apply Chg.drewN | apply Chg.alloc | apply Chg.drew)) (fun _ _ _ => id)
                      replace hh := hh.of p3
                      obtain ⟨rfl, q2, rfl⟩ := hh
                      go_wp2_with fail
                      go_ret
                      exact BoolRes.of (b := false) ⟨rfl, HW.out.trans (Hch.out.trans (by repeat (first | exact Chg.refl _ _ | assumption | apply Chg.drewN | apply Chg.alloc | apply Chg.drew)))⟩ (by
                        have hf : sameFunc x y = false := by simp [sameFunc, p3]
                        simp [sameMod, sameL_at Hk.out.1 Hk.out.2 hf])
                    · cases p4 : ((x.code.length : Int) != (y.code.length : Int))
                      · go_wp2_with fail
                        refine (rInts_any _ B _ _ _ _ _ _ x.locals y.locals ?_ ?_ (by omega) (by omega)).mono (fun e w1 hh => ?_)
                        · exact hl1.keep (by repeat (first | exact Chg.refl _ _ | assumption | apply Chg.drewN | apply Chg.alloc | apply Chg.drew)) (fun _ _ _ => id)
                        · exact hl4.keep (by repeat (first | exact Chg.refl _ _ | assumption | apply Chg.drewN | apply Chg.alloc | apply Chg.drew)) (fun _ _ _ => id)
                        replace hh := hh.of p2
                        obtain ⟨rfl, q1, rfl⟩ := hh
                        go_wp2_with fail
                        refine (rInts_any _ B _ _ _ _ _ _ x.caps y.caps ?_ ?_ (by omega) (by omega)).mono (fun e w1 hh => ?_)
                        · exact hl2.keep (by repeat (first | exact Chg.refl _ _ | assumption | apply Chg.drewN | apply Chg.alloc | apply Chg.drew)) (fun _ _ _ => id)
                        · exact hl5.keep (by repeat (first | exact Chg.refl _ _ | assumption | apply Chg.drewN | apply Chg.alloc | apply Chg.drew)) (fun _ _ _ => id)
                        replace hh := hh.of p3
                        obtain ⟨rfl, q2, rfl⟩ := hh
                        go_wp2_with fail
                        have hncc : x.code.length = y.code.length := by simp at p4; omega
                        have HP := Lib.hid (And.intro p0 (And.intro p1 (And.intro p2 (And.intro p3 hncc))))
                        clear p0 p1 p2 p3 p4 hncc z0 z1 z2 z3 z4 y0 y1 y2 y3 y4 d1 e1 hl1 hl2 hl4 hl5
                        have hcw : Chg (fun _ _ => False) wo ((((wo.alloc (.cells #[.int .i64 x.params, .slice A5 x.locals.length c5, .slice A6 x.caps.length c6, .int .i64 x.res, .slice A7 x.code.length c7] 34)).alloc (.cells #[.int .i64 y.params, .slice A8 y.locals.length c8, .slice A9 y.caps.length c9, .int .i64 y.res, .slice A10 y.code.length c10] 34)).drewN (q1 + q2))) := (by repeat (first | exact Chg.refl _ _ | assumption | apply Chg.drewN | apply Chg.alloc | apply Chg.drew))
                        have hba3 := (HBB.out.1.drewN (q1 + q2))
                        have hbb3 := (HBB.out.2.drewN (q1 + q2))
                        generalize hwi : ((wo.alloc (.cells #[.int .i64 x.params, .slice A5 x.locals.length c5, .slice A6 x.caps.length c6, .int .i64 x.res, .slice A7 x.code.length c7] 34)).alloc (.cells #[.int .i64 y.params, .slice A8 y.locals.length c8, .slice A9 y.caps.length c9, .int .i64 y.res, .slice A10 y.code.length c10] 34)).drewN (q1 + q2) = wi at hcw hba3 hbb3 ⊢
                        replace hl3 := hl3.keep hcw (fun _ _ _ => id)
                        replace hl6 := hl6.keep hcw (fun _ _ _ => id)
                        have HI := Lib.hid (And.intro hcw (And.intro hba3 hbb3))
                        clear hwi hcw hba3 hbb3
                        go_loopw [9] (fun i wr => rsameRel sameInstr x.code.length wi x.code y.code i wr) (fun i _ => x.code.length - (intOf i).toNat)
                        case atStart => exact ⟨0, Nat.zero_le _, rfl, rfl, Chg.refl _ _⟩
                        case round =>
                          obtain ⟨j, hj, rfl, hs, hch⟩ := hrel
                          have Hsj := Lib.hid hs; clear hs
                          obtain ⟨-, -, -, -, d4⟩ := (hch.blk HI.out.2.1 id).cells5
                          obtain ⟨-, -, -, -, e4⟩ := (hch.blk HI.out.2.2 id).cells5
                          by_cases hltj : j < x.code.length
                          · obtain ⟨b1, o1, u, A11, c11, rfl, hju, _, _, _, _, hu, z0, z1, z2, z3, z4⟩ := (hl3.keep hch (fun _ _ _ => id)).at_ hltj
                            obtain ⟨b2, o2, v, A12, c12, rfl, hjv, _, _, _, _, hv, y0, y1, y2, y3, y4⟩ := (hl6.keep hch (fun _ _ _ => id)).at_ (k := j) (by have := HP.out.2.2.2.2; omega)
                            have hcu : cInstr u ≤ 1099511627776 := sum_le_of cInstr hju (by omega)
                            have hcv : cInstr v ≤ 1099511627776 := sum_le_of cInstr hjv (by omega)
                            have Hj := Lib.hid (And.intro hju hjv)
                            have Hcj := Lib.hid hch
                            have hltj2 : (j : Int) < (y.code.length : Int) := by have := HP.out.2.2.2.2; omega
                            clear hju hjv hch hl3 hl6 hj
                            cases he : sameInstr u v
                            all_goals
                              have He := Lib.hid he
                              clear he
                              go_wp2_with fail
                              go_still_tail 10, (by kernel_rfl)
                              change wpList _ _ _ _ _ wr.drew
                              have hdr : Chg (fun _ _ => False) wr wr.drew := (Chg.refl _ wr).drew
                              replace hu := hu.keep hdr (fun _ _ _ => id)
                              replace hv := hv.keep hdr (fun _ _ _ => id)
                              have HD := Lib.hid hdr
                              clear hdr d4 e4 z0 z1 z2 z3 z4 y0 y1 y2 y3 y4
                              generalize wr.drew = w2 at hu hv HD ⊢
                              go_wp2_with fail
                              refine (rsameI_any _ B u v _ _ _ _ hu hv hcu hcv).mono (fun e w3 hh => ?_)
                              replace hh := hh.of He.out
                              obtain ⟨rfl, hc3⟩ := hh
                              have HC := Lib.hid (Hcj.out.trans (HD.out.trans hc3))
                              clear hc3 hu hv hcu hcv
                              go_wp2_with fail
                            · go_ret
                              exact BoolRes.of (b := false) ⟨rfl, HW.out.trans (Hch.out.trans (HI.out.1.trans HC.out))⟩ (by
                                have hf : sameFunc x y = false := by simp [sameFunc, sameL_at Hj.out.1 Hj.out.2 He.out]
                                simp [sameMod, sameL_at Hk.out.1 Hk.out.2 hf])
                            · go_roundw
                              case rel => exact ⟨j + 1, hltj, by simp, sameL_snoc Hj.out.1 Hj.out.2 He.out Hsj.out, HC.out⟩
                              case measure => simp [intOf]; omega
                          · have HE := Lib.hid (And.intro (sameL_full Hsj.out (by omega) (by have := HP.out.2.2.2.2; omega)) hch)
                            clear hl3 hl6 hj Hsj hch
                            go_wp2_with fail
                            go_roundw
                            case rel =>
                              obtain ⟨p0, p1, p2, p3, _⟩ := HP.out
                              simp at p0 p1
                              exact ⟨k + 1, hlt, by simp, sameL_snoc Hk.out.1 Hk.out.2 (by simp [sameFunc, p0, p1, p2, p3, HE.out.1]) Hs.out, Hch.out.trans (HI.out.1.trans HE.out.2)⟩
                            case measure => simp [intOf]; omega
                      · go_wp2_with fail
                        refine (rInts_any _ B _ _ _ _ _ _ x.locals y.locals ?_ ?_ (by omega) (by omega)).mono (fun e w1 hh => ?_)
                        · exact hl1.keep (by repeat (first | exact Chg.refl _ _ | assumption | apply Chg.drewN | apply Chg.alloc | apply Chg.drew)) (fun _ _ _ => id)
                        · exact hl4.keep (by repeat (first | exact Chg.refl _ _ | assumption | apply Chg.drewN | apply Chg.alloc | apply Chg.drew)) (fun _ _ _ => id)
                        replace hh := hh.of p2
                        obtain ⟨rfl, q1, rfl⟩ := hh
                        go_wp2_with fail
                        refine (rInts_any _ B _ _ _ _ _ _ x.caps y.caps ?_ ?_ (by omega) (by omega)).mono (fun e w1 hh => ?_)
                        · exact hl2.keep (by repeat (first | exact Chg.refl _ _ | assumption | apply Chg.drewN | apply Chg.alloc | apply Chg.drew)) (fun _ _ _ => id)
                        · exact hl5.keep (by repeat (first | exact Chg.refl _ _ | assumption | apply Chg.drewN | apply Chg.alloc | apply Chg.drew)) (fun _ _ _ => id)
                        replace hh := hh.of p3
                        obtain ⟨rfl, q2, rfl⟩ := hh
                        go_wp2_with fail
                        go_ret
                        exact BoolRes.of (b := false) ⟨rfl, HW.out.trans (Hch.out.trans (by repeat (first | exact Chg.refl _ _ | assumption | apply Chg.drewN | apply Chg.alloc | apply Chg.drew)))⟩ (by
                          have hf : sameFunc x y = false := by simp at p4; simp [sameFunc, sameL_ne (f := sameInstr) (l := x.code) (r := y.code) (by omega)]
                          simp [sameMod, sameL_at Hk.out.1 Hk.out.2 hf])
                · go_wp2_with fail
                  go_ret
                  exact BoolRes.of (b := false) ⟨rfl, HW.out.trans (Hch.out.trans (by repeat (first | exact Chg.refl _ _ | assumption | apply Chg.drewN | apply Chg.alloc | apply Chg.drew)))⟩ (by
                    have hf : sameFunc x y = false := by simp at p1; simp [sameFunc, p1]
                    simp [sameMod, sameL_at Hk.out.1 Hk.out.2 hf])
              · go_wp2_with fail
                go_ret
                exact BoolRes.of (b := false) ⟨rfl, HW.out.trans (Hch.out.trans (by repeat (first | exact Chg.refl _ _ | assumption | apply Chg.drewN | apply Chg.alloc | apply Chg.drew)))⟩ (by
                  have hf : sameFunc x y = false := by simp at p0; simp [sameFunc, p0]
                  simp [sameMod, sameL_at Hk.out.1 Hk.out.2 hf])
            · have HE := Lib.hid (And.intro (sameL_full Hs.out (by omega) (by have := HL.out.2; omega)) hch)
              clear h2 h4 hk Hs hch d0 e0
              go_wp2_with fail
              go_ret
              exact BoolRes.of (b := true) ⟨rfl, HW.out.trans HE.out.2⟩ (by simp [sameMod, Hst.out, HE.out.1])
    · have Hf := Lib.hid hf
      go_enter Try.func16, Try.ntmps16
      go_wp2_with fail
      go_ret
      exact BoolRes.of (b := false) ⟨rfl, hc0⟩ (by have h := Hf.out; simp at h; simp [sameMod, sameL_ne (f := sameFunc) (l := fa) (r := fb) (by omega)])
  · have Ht := Lib.hid ht
    go_enter Try.func16, Try.ntmps16
    go_wp2_with fail
    go_ret
    exact BoolRes.of (b := false) ⟨rfl, hc0⟩ (by have h := Ht.out; simp at h; simp [sameMod, sameL_ne (f := sameShape) (l := ta) (r := tb) (by omega)])
end Go.Proofs.Ytdegfnejhamejaa
