/-
  The walk of the statement CodeKeeps: what is answered shares nothing with what was given, nor with what is answered next.
-/
import Derived.Test.YtfmhedpjkpaohaaKeepsN
namespace Go.Proofs.Ytfmhedpjkpaohaa
open Go.RowKit
set_option linter.unusedVariables false
set_option linter.unusedSimpArgs false

set_option maxRecDepth 100000 in
set_option maxHeartbeats 16000000 in
theorem codeKeeps_walk (w : World) (B : Nat) (hBw : B ≤ w.heap.size) (v : Value) (m : ModD) (hm : ModR B w v m) (hcost : cMod m ≤ 1099511627776) (bs : List Nat) (A : Option Addr) (c : Nat) (hv : SlR B 0 1 ByteV w (.slice A bs.length c) bs) (hlen : bs.length ≤ 1048576) :
    Calls Try.prog 9 #[v, .slice A bs.length c] w fun e w' => e = .returned (.bool true) ∧ Below w.heap.size w w' := by
  obtain ⟨i1, hi1, hz1, hs1, hb1⟩ := info_parts infoU8
  obtain ⟨Am, cm, Am', cm', rfl, hT, hF⟩ := hm
  have hm0 : ModR B w (.agg #[.slice Am m.types.length cm, .slice Am' m.funcs.length cm']) m := ⟨Am, cm, Am', cm', rfl, hT, hF⟩
  clear hT hF
  have hb0 := Blk.new w 25 #[.slice Am m.types.length cm, .slice Am' m.funcs.length cm']
  have hc0 := chg_alloc w (.cells #[.slice Am m.types.length cm, .slice Am' m.funcs.length cm'] 25)
  have hm1 := hm0.keep hc0 (fun _ _ _ => id)
  obtain ⟨d0, d1⟩ := hb0.cells2
  have HV := Lib.hid (And.intro hv (And.intro hBw (And.intro hm0 hcost)))
  clear hv hm0
  go_enter Try.func9, Try.ntmps9
  go_wp2_with fail
  refine (D.own_any _ B _ m (by simp; omega) hm1 hcost).mono fun e w1 h => ?_
  obtain ⟨At, ct, Af, cf, rfl, hb1', hN1⟩ := h.modN
  have hbm := ((Chg.of_below hb1' (fun _ _ => False)).blk hb0 id).alloc (.cells #[.slice At m.types.length ct, .slice Af m.funcs.length cf] 25)
  have hbi := Blk.new w1 25 #[.slice At m.types.length ct, .slice Af m.funcs.length cf]
  have hc1 := (hc0.trans (Chg.of_below hb1' (fun _ _ => False))).alloc (.cells #[.slice At m.types.length ct, .slice Af m.funcs.length cf] 25)
  have hmi := (hN1.modR.keep (chg_alloc w1 (.cells #[.slice At m.types.length ct, .slice Af m.funcs.length cf] 25)) (fun _ _ _ => id)).more (B' := (w1.alloc (.cells #[.slice At m.types.length ct, .slice Af m.funcs.length cf] 25)).heap.size) (by simp)
  have hgi : w1.heap.size < (w1.alloc (.cells #[.slice At m.types.length ct, .slice Af m.funcs.length cf] 25)).heap.size := by simp
  have hgm : w.heap.size < w1.heap.size := by have := hb1'.size; simp at this; omega
  obtain ⟨e0, e1⟩ := hbi.cells2
  clear h hb0 hc0 hm1 hb1' hN1 d0 d1 hcost hBw
  go_wp2_with fail
  generalize w1.alloc (.cells #[.slice At m.types.length ct, .slice Af m.funcs.length cf] 25) = W1 at hbm hbi hc1 hmi hgi e0 e1 ⊢
  generalize w1.heap.size = gi at hbi hgi hgm e0 e1 ⊢
  generalize hgw : w.heap.size = gm at hbm hgm
  have hsplit : (encAns m).2.length ≤ 1048576 ∧ ((encAns m).1 = 0 ∨ (encAns m).1 ≠ 0 ∧ (encAns m).2 = []) := by
    rcases encAns_split m with ⟨l, _, hl, h⟩ | ⟨k, hk, h⟩
    · rw [h]; exact ⟨hl, .inl rfl⟩
    · rw [h]; exact ⟨by simp, .inr ⟨by simp; omega, rfl⟩⟩
  have H1 := Lib.hid (And.intro hbm (And.intro hbi (And.intro hc1 (And.intro hmi (And.intro hgi hgm)))))
  clear hbm hbi hc1
  refine (encode_any W1 W1.heap.size _ m (Nat.le_refl _) hmi HV.out.2.2.2).mono fun e w2 h => ?_
  obtain ⟨A2, n2, c2, rfl, hb2, how2, hl2⟩ := h
  have hc2 : Chg (fun _ _ => False) W1 w2 := Chg.of_below hb2 _
  clear hb2 hmi e0 e1 hgi hgm
  obtain ⟨e0, e1⟩ := (hc2.blk H1.out.2.1 id).cells2
  go_wp2_with fail
  refine (encode_any w2 W1.heap.size _ m hc2.size (H1.out.2.2.2.1.keep hc2 (fun _ _ _ => id)) HV.out.2.2.2).mono fun e w3 h => ?_
  obtain ⟨A3, n3, c3, rfl, hb3, how3, hl3⟩ := h
  have hc3 : Chg (fun _ _ => False) w2 w3 := Chg.of_below hb3 _
  clear hb3 e0 e1
  generalize hqe : encAns m = qe at hsplit how2 how3 hl2 hl3 ⊢
  obtain ⟨ke, l⟩ := qe
  simp only at hsplit how2 how3 hl2 hl3 ⊢
  subst hl2
  obtain rfl : l.length = n3 := hl3
  have H3 := Lib.hid (And.intro how2 (And.intro how3 (And.intro hc2 (And.intro hc3 (And.intro hqe hsplit)))))
  have hvb := byteV_keep HV.out.1 ((H1.out.2.2.1.trans hc2).trans hc3)
  clear how2 how3 hc2 hc3 hqe hsplit
  go_wp2_with (at_builtin; go_must (refine wpList_copy_slr rfl (.tmp 36) (.tmp 37) 26 rfl 5 i1 _ 1 Try.underlying26 hi1 hz1 hs1 hb1 rfl (by omega) A bs.length c rfl rfl rfl hvb (fun cs y h => one_byte cs y h) (by omega) (by omega) ?_))
  intro A4 c4 w4 xss k1 k2 k3 k4 hc4
  have hb4 := byteV_copied k1 k2 k3 k4
  have hcost := decAns_cost (byteV_lt hb4)
  have hsp := decAns_split bs
  clear k1 k2 k3 k4 xss hvb
  go_wp2_with fail
  refine (decode_any w4.heap.size bs A4 c4 w4 hb4 (Nat.le_refl _)).mono fun e w5 h => ?_
  obtain ⟨A5, c5, A6, c6, rfl, hc5, hN5, hr5⟩ := h.own
  clear h
  generalize hqd : decAns bs = q at hcost hsp hN5 hr5 ⊢
  obtain ⟨mo, z, y⟩ := q
  simp only at hcost hsp hN5 hr5 ⊢
  have hbx := Blk.new w5 25 #[.slice A5 mo.types.length c5, .slice A6 mo.funcs.length c6]
  have hc5' := hc5.alloc (.cells #[.slice A5 mo.types.length c5, .slice A6 mo.funcs.length c6] 25)
  have hsx : SlR 0 51 5 (FuncX w5 w4.heap.size w5.heap.size) w5 (.slice A6 mo.funcs.length c6) mo.funcs := SlR.imp (hr5.slr (by decide) 0) (fun _ _ h => h) fun _ _ h => h.funcX
  have hb5 := byteV_keep hb4 hc5'
  have hg5 : w5.heap.size < (w5.alloc (.cells #[.slice A5 mo.types.length c5, .slice A6 mo.funcs.length c6] 25)).heap.size := by simp
  have hcx : Chg (fun _ _ => False) w5 (w5.alloc (.cells #[.slice A5 mo.types.length c5, .slice A6 mo.funcs.length c6] 25)) := chg_alloc _ _
  have h45' : w4.heap.size ≤ w5.heap.size := hc5.size
  clear hc5 hN5 hr5
  go_wp2_with fail
  generalize w5.alloc (.cells #[.slice A5 mo.types.length c5, .slice A6 mo.funcs.length c6] 25) = W5 at hbx hc5' hb5 hg5 hcx ⊢
  have H5 := Lib.hid (And.intro hbx (And.intro hc4 (And.intro hc5' (And.intro hsx (And.intro hb4 (And.intro hsp (And.intro hcost hcx)))))))
  have h45 : w4.heap.size ≤ W5.heap.size := hc5'.size
  have h24 : w2.heap.size ≤ w4.heap.size := Nat.le_trans H3.out.2.2.2.1.size hc4.size
  generalize w5.heap.size = gx at *
  clear hbx hc4 hsx hb4 hsp hcost hcx hc5'
  refine (decode_any w4.heap.size bs A4 c4 W5 hb5 h45).mono fun e w6 h => ?_
  obtain ⟨A7, c7, A8, c8, rfl, hc6, hN6, _⟩ := h.own
  clear h hb5
  rw [hqd] at hN6 ⊢
  simp only at hN6 ⊢
  have hby := Blk.new w6 25 #[.slice A7 mo.types.length c7, .slice A8 mo.funcs.length c8]
  have hc6' := hc6.alloc (.cells #[.slice A7 mo.types.length c7, .slice A8 mo.funcs.length c8] 25)
  have hN6' := hN6.keep (chg_alloc w6 (.cells #[.slice A7 mo.types.length c7, .slice A8 mo.funcs.length c8] 25)) (fun _ _ _ => id)
  clear hc6 hN6
  go_wp2_with fail
  generalize w6.alloc (.cells #[.slice A7 mo.types.length c7, .slice A8 mo.funcs.length c8] 25) = W6 at hby hc6' hN6' ⊢
  generalize w6.heap.size = gy at hby ⊢
  refine (answers_any _).mono fun e w7 h => ?_
  obtain ⟨rfl, hb7⟩ := h
  have h67 := Chg.of_below hb7 (fun _ _ => False)
  have h57 := hc6'.trans h67
  have h47 := H5.out.2.2.1.trans h57
  have h37 := H5.out.2.1.trans h47
  have h27 := H3.out.2.2.2.1.trans h37
  have h17 := H3.out.2.2.1.trans h27
  have h07 := H1.out.2.2.1.trans h17
  have hmi7 := (H1.out.2.2.2.1.keep h17 (fun _ _ _ => id)).more h17.size
  have hmm7 := (HV.out.2.2.1.keep h07 (fun _ _ _ => id)).more (Nat.le_trans HV.out.2.1 h07.size)
  obtain ⟨d0, d1⟩ := (h17.blk H1.out.1 id).cells2
  obtain ⟨e0, e1⟩ := (h17.blk H1.out.2.1 id).cells2
  have H7 := Lib.hid (And.intro h67 (And.intro h57 (And.intro h47 (And.intro h37 (And.intro h27 (And.intro h17 (And.intro h07 (And.intro hby (And.intro hN6' (And.intro hmi7 hmm7))))))))))
  clear hb7 h67 h57 h47 h37 h27 h17 h07 hby hN6' hmi7 hmm7 hc6'
  go_wp2_with fail
  refine (rsame_any w7 w7.heap.size _ _ m m H7.out.2.2.2.2.2.2.2.2.2.1 H7.out.2.2.2.2.2.2.2.2.2.2 HV.out.2.2.2 HV.out.2.2.2).mono fun e w8 h => ?_
  obtain ⟨rfl, h78⟩ := h
  rw [sameMod_refl]
  obtain ⟨h67, h57, h47, h37, h27, h17, h07, hby, hN6, _, _⟩ := H7.out
  have s1 := conv_slr (byteV_keep H5.out.2.2.2.2.1 (h47.trans h78))
  have s2 := conv_slr (byteV_keep HV.out.1 (h07.trans h78))
  have s3 := conv_own ((h27.trans h78).own H3.out.1 (fun _ _ => id)) rfl
  have how3 := (h37.trans h78).own H3.out.2.1 (fun _ _ => id)
  have s4 := conv_own how3 rfl
  have hrow2 : HasRow w8 W1.heap.size w2.heap.size 5 1 l.length A2 := (HasRow.of_own H3.out.1).keep (Sz.chg (h27.trans h78))
  have hmi8 := H1.out.2.2.2.1.keep (h17.trans h78) (fun _ _ _ => id)
  have hbi8 := (h17.trans h78).blk H1.out.2.1 id
  have hbx8 := (h57.trans h78).blk H5.out.1 id
  have hby8 := (h67.trans h78).blk hby id
  have hN8 := hN6.keep (h67.trans h78) (fun _ _ _ => id)
  have hx5 := H5.out.2.2.2.2.2.2.2.trans (h57.trans h78)
  have hs8 : SlR 0 51 5 (FuncX w8 w4.heap.size gx) w8 (.slice A6 mo.funcs.length c6) mo.funcs := SlR.imp (SlR.keep H5.out.2.2.2.1 hx5 ⟨fun _ _ _ => id, fun _ _ => id⟩ fun _ _ h => h) (fun _ _ h => h) fun _ _ h => FuncX.keep h (Sz.chg hx5)
  have hw8 := h07.trans h78
  have hl58 : W5.heap.size ≤ w8.heap.size := (h57.trans h78).size
  have hl12 : W1.heap.size ≤ w2.heap.size := H3.out.2.2.1.size
  have hl01 : w.heap.size ≤ W1.heap.size := H1.out.2.2.1.size
  have hl25 : w2.heap.size ≤ W5.heap.size := Nat.le_trans h24 h45
  have HC := Lib.hid (And.intro H5.out.2.2.2.2.2.2.1 (And.intro H5.out.2.2.2.2.2.1 (And.intro H3.out.2.2.2.2.1 H3.out.2.2.2.2.2.2)))
  have hgi : gi < W1.heap.size := H1.out.2.2.2.2.1
  have hll : l.length ≤ 1048576 := H3.out.2.2.2.2.2.1
  have H8 := Lib.hid (And.intro how3 (And.intro hmi8 (And.intro hbi8 (And.intro hbx8 (And.intro hby8 (And.intro hN8 (And.intro hs8 hw8)))))))
  clear H7 H5 H3 H1 h67 h57 h47 h37 h27 h17 h07 h78 hby hN6 d0 d1 e0 e1 how3 hmi8 hbi8 hbx8 hby8 hN8 hx5 hs8 hw8 hqd
  go_wp2_with fail
  clear s1 s2 s3 s4
  go_loopw [17] (fun i wr => wrRel (MA W1.heap.size w2.heap.size) l.length w8 i wr) (fun i _ => l.length - (intOf i).toNat)
  case atStart => exact ⟨0, Nat.zero_le _, rfl, Sz.refl _, Chg.refl _ _⟩
  case round =>
    obtain ⟨k, hk, rfl, hsz, hch⟩ := hrel
    by_cases hlt : k < l.length
    · have q1 : decide ((k : Int) < (l.length : Int)) = true := decide_eq_true (by omega)
      have q2 : (k : Int) < (l.length : Int) := by omega
      have q3 : IntKind.i64.wrap ((k : Int) + 1) = (k : Int) + 1 := IntWalk.i64_in _ ⟨by omega, by omega⟩
      obtain ⟨b, cur, hA2, hlo, hhi, hbk, hcs⟩ := (hrow2.keep hsz) (by omega)
      subst hA2
      have y0 := hbk.cell k
      rw [Array.getElem?_eq_getElem (by omega)] at y0
      have z0 := hbk.frozen k
      have HW := Lib.hid (set_one hsz hch hbk ⟨hlo, hhi, rfl⟩ k (.int .u8 99))
      clear hsz hch hbk hlo hhi
      go_wp2_with fail
      go_roundw
      case rel => exact ⟨k + 1, hlt, by simp, HW.out⟩
      case measure => simp [intOf]; omega
    · have q1 : decide ((k : Int) < (l.length : Int)) = false := decide_eq_false (by omega)
      obtain ⟨wa, rfl⟩ : ∃ wa : World, wa = wr := ⟨_, rfl⟩
      have q1' : decide (k < l.length) = false := decide_eq_false hlt
      clear hrow2 hk
      obtain ⟨how3, hmi8, hbi8, hbx8, hby8, hN8, hs8, hw8⟩ := H8.out
      have hmi9 := hmi8.keep hch (fun b t hb h => by have := h.1; omega)
      have hbi9 := hch.blk hbi8 (fun h => absurd h.2.2 (by decide))
      obtain ⟨d0, d1⟩ := hbi9.cells2
      have hbx9 := hch.blk hbx8 (fun h => absurd h.2.2 (by decide))
      have hby9 := hch.blk hby8 (fun h => absurd h.2.2 (by decide))
      have hN9 := hN8.keep hch (fun b t hb h => by have := h.2.1; omega)
      have hs9 : SlR 0 51 5 (FuncX wa w4.heap.size gx) wa (.slice A6 mo.funcs.length c6) mo.funcs := SlR.imp (SlR.keep hs8 hch ⟨fun _ _ h => absurd h (Nat.not_lt_zero _), fun _ _ h => absurd h.2.2 (by decide)⟩ fun _ _ h => h) (fun _ _ h => h) fun _ _ h => FuncX.keep h hsz
      have how9 := hch.own how3 (fun g hg h => by have := (own_blk how3 hg).1; have := h.2.1; omega)
      have hw9 := hw8.trans_new hch (fun b t hb h => by have := h.1; omega)
      have hl29 : w2.heap.size ≤ wa.heap.size := by have := hbx9.lt; have := hN9; exact Nat.le_trans (Nat.le_trans h24 h45') (Nat.le_of_lt hbx9.lt)
      have hl19 : W1.heap.size ≤ wa.heap.size := Nat.le_trans hl12 hl29
      have hl59 : W5.heap.size ≤ wa.heap.size := Nat.le_trans hl58 hch.size
      have H9 := Lib.hid (And.intro how9 (And.intro hbx9 (And.intro hby9 (And.intro hN9 (And.intro hs9 hw9)))))
      clear H8 how3 hmi8 hbi8 hbx8 hby8 hN8 hs8 hw8 hsz hch how9 hbx9 hby9 hN9 hs9 hw9 hbi9
      go_wp2_with fail
      refine (encode_any wa W1.heap.size _ m hl19 hmi9 HV.out.2.2.2).mono fun e w9 h => ?_
      obtain ⟨A9, n9, c9, rfl, hb9, how, hl9⟩ := h
      rw [HC.out.2.2.1] at how hl9 ⊢
      simp only at how hl9 ⊢
      subst hl9
      have ha9 := Chg.of_below hb9 (fun _ _ => False)
      have hby := ha9.blk H9.out.2.2.1 id
      obtain ⟨e0, e1⟩ := hby.cells2
      have hN := H9.out.2.2.2.1.keep ha9 (fun _ _ _ => id)
      have HD := Lib.hid (And.intro how (And.intro ha9 (And.intro hby hN)))
      clear hb9 hmi9 d0 d1 ha9 hby how
      go_wp2_with fail
      refine (D.own_any w9 w9.heap.size _ mo (Nat.le_refl _) hN.modR_ HC.out.1).mono fun e w10 h => ?_
      obtain ⟨A10, c10, A11, c11, rfl, hb10, hK⟩ := h.modN
      clear h hN e0 e1
      have hbk := Blk.new w10 25 #[.slice A10 mo.types.length c10, .slice A11 mo.funcs.length c11]
      have h10 := (Chg.of_below hb10 (fun _ _ => False)).alloc (.cells #[.slice A10 mo.types.length c10, .slice A11 mo.funcs.length c11] 25)
      have hK' := hK.keep (chg_alloc w10 (.cells #[.slice A10 mo.types.length c10, .slice A11 mo.funcs.length c11] 25)) (fun _ _ _ => id)
      clear hb10 hK
      go_wp2_with fail
      generalize w10.alloc (.cells #[.slice A10 mo.types.length c10, .slice A11 mo.funcs.length c11] 25) = wL at hbk h10 hK' ⊢
      generalize w10.heap.size = gk at hbk ⊢
      clear w10
      obtain ⟨how, ha9, hby9, hN9⟩ := HD.out
      obtain ⟨how3, hbx8, _, _, hs8, hw8⟩ := H9.out
      have haL := ha9.trans h10
      have hdL := h10.own how (fun _ _ => id)
      have hcL := haL.own how3 (fun _ _ => id)
      have hxL := haL.blk hbx8 id
      have hyL := h10.blk hby9 id
      have hNL := hN9.keep h10 (fun _ _ _ => id)
      have hsL : SlR 0 51 5 (FuncX wL w4.heap.size gx) wL (.slice A6 mo.funcs.length c6) mo.funcs := SlR.imp (SlR.keep hs8 haL ⟨fun _ _ _ => id, fun _ _ => id⟩ fun _ _ h => h) (fun _ _ h => h) fun _ _ h => FuncX.keep h (Sz.chg haL)
      have hwL := hw8.trans haL
      have hlw : w.heap.size ≤ w4.heap.size := Nat.le_trans (Nat.le_trans hl01 hl12) h24
      have hl99 : W5.heap.size ≤ w9.heap.size := Nat.le_trans hl59 ha9.size
      have HL := Lib.hid (And.intro hdL (And.intro hcL (And.intro hyL (And.intro hbk (And.intro hNL (And.intro hK' hwL))))))
      have HX := Lib.hid (And.intro hxL hsL)
      have hnf : mo.funcs.length ≤ 1099511627776 := by
        have := HC.out.1
        have := len_le_sum cFunc (fun _ => by unfold cFunc cInts; omega) mo.funcs
        unfold cMod at *
        omega
      clear HD H9 how ha9 hby9 hN9 how3 hbx8 hs8 hw8 haL hdL hcL hxL hyL hNL hsL hwL hbk h10 hK'
      go_loopw [21] (fun i wr => wrRel (MX w4.heap.size gx) mo.funcs.length wL i wr) (fun i _ => mo.funcs.length - (intOf i).toNat)
      case atStart => exact ⟨0, Nat.zero_le _, rfl, Sz.refl _, Chg.refl _ _⟩
      case round =>
        obtain ⟨k, hk, rfl, hsz, hch⟩ := hrel
        obtain ⟨d0, d1⟩ := (hch.blk HX.out.1 (fun h => absurd h.2.2 (by decide))).cells2
        by_cases hlt : k < mo.funcs.length
        · have q2 : decide ((k : Int) < (mo.funcs.length : Int)) = true := decide_eq_true (by omega)
          have q3 : (k : Int) < (mo.funcs.length : Int) := by omega
          have q6 : IntKind.i64.wrap ((k : Int) + 1) = (k : Int) + 1 := IntWalk.i64_in _ ⟨by omega, by omega⟩
          have hsum := sum_at cFunc (List.getElem?_eq_getElem hlt)
          have hfs : (mo.funcs.map cFunc).sum ≤ 1099511627776 := by have := HC.out.1; unfold cMod at this; omega
          obtain ⟨b, o, cp, cs, hv0, hle, hlie, _, _, hR, hcell⟩ := SlR.at_ HX.out.2 hlt
          injection hv0 with hA6 _ hcp
          subst hA6 hcp
          obtain ⟨u0, A12, c12, u2, u3, A13, c13, rfl, hr1, hr2⟩ := hR
          have f1 := hcell 1 _ rfl
          have f4 := hcell 4 _ rfl
          generalize mo.funcs[k] = x at hr1 hr2 f1 f4 hsum
          have hcx : cFunc x ≤ 1099511627776 := by omega
          have hnc : x.code.length ≤ 1099511627776 := by
            have := len_le_sum cInstr (fun _ => by unfold cInstr; omega) x.code
            unfold cFunc at hcx
            omega
          have hnl : x.locals.length ≤ 1099511627776 := by
            have := len_le_sum (fun _ : Int => 10) (fun _ => by omega) x.locals
            unfold cFunc cInts at hcx
            omega
          clear hcx
          have hlets : Lets (MX w4.heap.size gx) 0 51 := ⟨fun _ _ h => absurd h (Nat.not_lt_zero _), fun _ _ h => by rcases h.2.2 with h | h <;> exact absurd h (by decide)⟩
          have HF := Lib.hid (And.intro hlie (And.intro hlets (And.intro f1 f4)))
          clear hcell hlie hlets f1 f4 hsum hfs hle
          go_wp2_with fail
          clear d0 d1
          go_loopw [22] (fun i wq => wrRel (MX w4.heap.size gx) x.code.length wL i wq) (fun i _ => x.code.length - (intOf i).toNat)
          case atStart => exact ⟨0, Nat.zero_le _, rfl, hsz, hch⟩
          case round =>
            clear hsz hch
            obtain ⟨q, hq, rfl, hszq, hchq⟩ := hrel
            obtain ⟨g0, g1⟩ := (hchq.blk HX.out.1 (fun h => absurd h.2.2 (by decide))).cells2
            have f4 := HF.out.1.cell hchq HF.out.2.1 HF.out.2.2.2
            by_cases hlq : q < x.code.length
            · have q7 : decide ((q : Int) < (x.code.length : Int)) = true := decide_eq_true (by omega)
              have q8 : (q : Int) < (x.code.length : Int) := by omega
              have q9 : IntKind.i64.wrap ((q : Int) + 1) = (q : Int) + 1 := IntWalk.i64_in _ ⟨by omega, by omega⟩
              obtain ⟨bc, cur, hA13, hlo, hhi, hbc, hcs⟩ := (hr2.keep hszq) (by omega)
              subst hA13
              have y0 := hbc.cell (q * 5)
              have y1 := hbc.cell (q * 5 + 1)
              have y2 := hbc.cell (q * 5 + 2)
              have y3 := hbc.cell (q * 5 + 3)
              have y4 := hbc.cell (q * 5 + 4)
              rw [Array.getElem?_eq_getElem (by omega)] at y0 y1 y2 y3 y4
              have z0 := hbc.frozen (q * 5)
              have z1 := hbc.frozen (q * 5 + 1)
              have z2 := hbc.frozen (q * 5 + 2)
              have z3 := hbc.frozen (q * 5 + 3)
              have z4 := hbc.frozen (q * 5 + 4)
              have HW := Lib.hid (set_five hszq hchq hbc ⟨hlo, hhi, .inl rfl⟩ (q * 5) (q * 5 + 1) (q * 5 + 2) (q * 5 + 3) (q * 5 + 4) (.int .i64 99) (.int .i64 0) (.int .i64 0) (.int .u64 0) (.slice none 0 0))
              clear hszq hchq hbc hlo hhi
              go_wp2_with fail
              go_roundw
              case rel => exact ⟨q + 1, hlq, by simp, HW.out⟩
              case measure => simp [intOf]; omega
            · have q7 : decide (q < x.code.length) = false := decide_eq_false hlq
              go_wp2_with fail
              clear g0 g1 f4
              go_loopw [23] (fun i wp => wrRel (MX w4.heap.size gx) x.locals.length wL i wp) (fun i _ => x.locals.length - (intOf i).toNat)
              case atStart => exact ⟨0, Nat.zero_le _, rfl, hszq, hchq⟩
              case round =>
                clear hszq hchq hlq q7 hq
                obtain ⟨p, hp, rfl, hszp, hchp⟩ := hrel
                obtain ⟨g0, g1⟩ := (hchp.blk HX.out.1 (fun h => absurd h.2.2 (by decide))).cells2
                have f1 := HF.out.1.cell hchp HF.out.2.1 HF.out.2.2.1
                by_cases hlp : p < x.locals.length
                · have q8 : (p : Int) < (x.locals.length : Int) := by omega
                  have q9 : IntKind.i64.wrap ((p : Int) + 1) = (p : Int) + 1 := IntWalk.i64_in _ ⟨by omega, by omega⟩
                  obtain ⟨bc, cur, hA12, hlo, hhi, hbc, hcs⟩ := (hr1.keep hszp) (by omega)
                  subst hA12
                  have y0 := hbc.cell p
                  rw [Array.getElem?_eq_getElem (by omega)] at y0
                  have z0 := hbc.frozen p
                  have HW := Lib.hid (set_one hszp hchp hbc ⟨hlo, hhi, .inr rfl⟩ p (.int .i64 99))
                  clear hszp hchp hbc hlo hhi
                  go_wp2_with fail
                  go_roundw
                  case rel => exact ⟨p + 1, hlp, by simp, HW.out⟩
                  case measure => simp [intOf]; omega
                · have q8 : decide (p < x.locals.length) = false := decide_eq_false hlp
                  go_wp2_with fail
                  go_roundw
                  case rel => exact ⟨k + 1, hlt, by simp, hszp, hchp⟩
                  case measure => simp [intOf]; omega
        · have q2 : decide (k < mo.funcs.length) = false := decide_eq_false hlt
          obtain ⟨we, rfl⟩ : ∃ we : World, we = wr := ⟨_, rfl⟩
          obtain ⟨hdL, hcL, hyL, hbk, hNL, hK', hwL⟩ := HL.out
          have hno : ∀ b, ¬ MX w4.heap.size gx b 5 := fun b h => by rcases h.2.2 with h | h <;> exact absurd h (by decide)
          have s1 := conv_own (hch.own hdL fun g _ => hno g) rfl
          have s2 := conv_own (hch.own hcL fun g _ => hno g) rfl
          have hye := hch.blk hyL (fun h => absurd h.2.2 (by decide))
          obtain ⟨e0, e1⟩ := hye.cells2
          obtain ⟨g0, g1⟩ := (hch.blk hbk (fun h => absurd h.2.2 (by decide))).cells2
          have hNe := (hNL.keep hch (fun b t hb h => by have := h.2.1; omega)).modR_
          have hKe := (hK'.keep hch (fun b t hb h => by have := h.2.1; omega)).modR
          have hwe := hwL.trans_new hch (fun b t hb h => by have := h.1; omega)
          have HE := Lib.hid (And.intro hNe (And.intro hKe (And.intro hwe hye)))
          clear hdL hcL hyL hbk hNL hK' hwL hno hye hNe hKe hwe hch hsz HL
          go_wp2_with fail
          refine (rsame_any we we.heap.size _ _ mo mo HE.out.1 HE.out.2.1 HC.out.1 HC.out.1).mono fun e wf h => ?_
          obtain ⟨rfl, hcf⟩ := h
          rw [sameMod_refl]
          obtain ⟨e2, e3⟩ := (hcf.blk HE.out.2.2.2 id).cells2
          have HZ := Lib.hid ((HE.out.2.2.1.trans hcf).below (B := w.heap.size) (fun _ _ h => h.elim) (Nat.le_refl _))
          clear hcf s1 s2 e0 e1 g0 g1 d0 d1
          rcases HC.out.2.2.2 with hk0 | ⟨hk1, hk2⟩
          · subst hk0
            rcases HC.out.2.1 with hy0 | ⟨hy1, hy2⟩
            · subst hy0
              go_wp2_with fail
              go_ret
              exact ⟨rfl, HZ.out⟩
            · have r1 : ((y : Int) == 0) = false := by simp [hy1]
              have r2 : ((mo.funcs.length : Int) == 0) = true := by simp [hy2]
              go_wp2_with fail
              go_ret
              exact ⟨rfl, HZ.out⟩
          · have r3 : (ke == 0) = false := by simp [hk1]
            have r4 : ((l.length : Int) == 0) = true := by simp [hk2]
            rcases HC.out.2.1 with hy0 | ⟨hy1, hy2⟩
            · subst hy0
              go_wp2_with fail
              go_ret
              exact ⟨rfl, HZ.out⟩
            · have r1 : ((y : Int) == 0) = false := by simp [hy1]
              have r2 : ((mo.funcs.length : Int) == 0) = true := by simp [hy2]
              go_wp2_with fail
              go_ret
              exact ⟨rfl, HZ.out⟩
end Go.Proofs.Ytfmhedpjkpaohaa
