/-
  The walk of the statement CodeBack: what was written is read, what is read is written again.
-/
import Derived.Test.YtfmhedpjkpaohaaBackN
namespace Go.Proofs.Ytfmhedpjkpaohaa
open Go.RowKit
set_option linter.unusedVariables false
set_option linter.unusedSimpArgs false

set_option maxRecDepth 100000 in
set_option maxHeartbeats 8000000 in
theorem codeBack_walk (w : World) (B : Nat) (hBw : B ≤ w.heap.size) (v : Value) (m : ModD) (hm : ModR B w v m) (hcost : cMod m ≤ 1099511627776) (bs : List Nat) (A : Option Addr) (c : Nat) (hv : SlR B 0 1 ByteV w (.slice A bs.length c) bs) (hlen : bs.length ≤ 1048576) (cut : Nat) (hcut : cut < 65536) :
    Calls Try.prog 8 #[v, .slice A bs.length c, .int .u16 cut] w fun e w' => e = .returned (.bool true) ∧ Below w.heap.size w w' := by
  obtain ⟨i1, hi1, hz1, hs1, hb1⟩ := info_parts infoU8
  have hok := hm.okMod
  obtain ⟨Am, cm, Am', cm', rfl, hT, hF⟩ := hm
  have hm0 : ModR B w (.agg #[.slice Am m.types.length cm, .slice Am' m.funcs.length cm']) m := ⟨Am, cm, Am', cm', rfl, hT, hF⟩
  clear hT hF
  have hb0 := Blk.new w 25 #[.slice Am m.types.length cm, .slice Am' m.funcs.length cm']
  have hc0 := chg_alloc w (.cells #[.slice Am m.types.length cm, .slice Am' m.funcs.length cm'] 25)
  have hm1 := hm0.keep hc0 (fun _ _ _ => id)
  obtain ⟨d0, d1⟩ := hb0.cells2
  have HV := Lib.hid (And.intro hv (And.intro hBw (And.intro hcut (And.intro hok hlen))))
  have HM := Lib.hid (And.intro hm0 hcost)
  clear hv hcut hok hm0 hlen
  go_enter Try.func8, Try.ntmps8
  go_wp2_with fail
  refine (own_any _ B _ m (by simp; omega) hm1 hcost).mono fun e w1 h => ?_
  have hb1 : Below _ _ _ := h.choose_spec.choose_spec.choose_spec.choose_spec.2.1
  obtain ⟨v1, rfl, hv1⟩ := h.modR
  have hc1 : Chg (fun _ _ => False) w w1 := hc0.trans (Chg.of_below hb1 _)
  have hbk1 := (Chg.of_below hb1 (fun _ _ => False)).blk hb0 id
  clear hb0 hc0 hm1 hb1 d0 d1
  go_wp2_with fail
  refine (encode_any _ w1.heap.size _ m (Nat.le_refl _) hv1 hcost).mono fun e w2 h => ?_
  obtain ⟨A2, n2, c2, rfl, hb2, how2, hl2⟩ := h
  have hc2 := hc1.trans (Chg.of_below hb2 _)
  have hbk2 := (Chg.of_below hb2 (fun _ _ => False)).blk hbk1 id
  clear hv1 hc1 hbk1 hb2 hcost hBw
  go_wp2_with fail
  refine (answers_any _).mono fun e w3 h => ?_
  obtain ⟨rfl, hb3⟩ := h
  have hc3 := hc2.trans (Chg.of_below hb3 _)
  have hbk3 := (Chg.of_below hb3 (fun _ _ => False)).blk hbk2 id
  have how3 := (Chg.of_below hb3 (fun _ _ => False)).own how2 fun _ _ => id
  clear hb3 hbk2 hc2 how2
  have HX := Lib.hid (And.intro hc3 hbk3)
  rcases encAns_split m with ⟨l, hl, hll, hans⟩ | ⟨kk, hkk, hans⟩
  · rw [hans] at how3 hl2 ⊢
    simp only at how3 hl2 ⊢
    have hlb := allB_mod m l hl
    have hav := byteV_own how3 hl2 hlb
    subst hl2
    have hsz0 := enc_pos hl
    have HL := Lib.hid (And.intro hl (And.intro hav (And.intro how3 (And.intro hll (And.intro hlb hsz0)))))
    clear how3 hlb hl hsz0 hbk3
    go_wp2_with (at_builtin; go_must (refine wpList_copy_slr rfl (.tmp 34) (.tmp 35) 26 rfl 5 i1 _ 1 Try.underlying26 hi1 hz1 hs1 hb1 rfl (by omega) A2 l.length c2 rfl rfl rfl hav (fun cs y h => one_byte cs y h) (by omega) (by omega) ?_))
    intro A3 c3 w4 xss k1 k2 k3 k4 hc4
    have hb4 := byteV_copied k1 k2 k3 k4
    clear k1 k2 k3 k4 xss
    go_wp2_with fail
    refine (decode_any w4.heap.size l A3 c3 w4 hb4 (Nat.le_refl _)).mono fun e w5 h => ?_
    obtain ⟨A4, c4, A5, c5, rfl, hc5, hm5⟩ := h.ans
    rw [decAns_ok hll (read_whole HV.out.2.2.2.1 HL.out.1)] at hm5 ⊢
    simp only at hm5 ⊢
    clear h hb4
    have hc6 : Chg (fun _ _ => False) w3 (w5.alloc (.cells #[.slice A4 m.types.length c4, .slice A5 m.funcs.length c5] 25)) := (hc4.trans hc5).alloc _
    have hm6 := (hm5.keep (chg_alloc w5 (.cells #[.slice A4 m.types.length c4, .slice A5 m.funcs.length c5] 25)) (fun _ _ _ => id)).more (B' := (w5.alloc (.cells #[.slice A4 m.types.length c4, .slice A5 m.funcs.length c5] 25)).heap.size) (by simp)
    have hm7 := (HM.out.1.keep (HX.out.1.trans hc6) (fun _ _ _ => id)).more (B' := (w5.alloc (.cells #[.slice A4 m.types.length c4, .slice A5 m.funcs.length c5] 25)).heap.size) (Nat.le_trans HV.out.2.1 (HX.out.1.trans hc6).size)
    obtain ⟨d0, d1⟩ := (Blk.new w5 25 #[.slice A4 m.types.length c4, .slice A5 m.funcs.length c5]).cells2
    obtain ⟨e0, e1⟩ := (hc6.blk HX.out.2 id).cells2
    have H6 := Lib.hid (And.intro hc6 (And.intro hm6 hm7))
    clear hc4 hc5 hc6 hm5 hm6 hm7
    have q2 : decide (l.length = 0) = false := decide_eq_false (by have := HL.out.2.2.2.2.2; omega)
    have q5 : l ≠ [] := fun h => by have := HL.out.2.2.2.2.2; rw [h] at this; simp at this
    have q6 : ((l.length : Int) == 0) = false := by simp [q5]
    have q7 : (l.length : Int) ≠ 0 := by have := HL.out.2.2.2.2.2; omega
    go_wp2_with fail
    refine (rsame_any _ _ _ _ m m H6.out.2.1 H6.out.2.2 HM.out.2 HM.out.2).mono fun e w6 h => ?_
    obtain ⟨rfl, hc7⟩ := h
    rw [sameMod_refl]
    have hc8 := H6.out.1.trans hc7
    clear H6 hc7 d0 d1 e0 e1
    have hav6 := byteV_keep hav hc8
    have hcl : l.length ≤ c2 := hav.len.2
    obtain ⟨lt, hlt, t4, hltl⟩ : ∃ lt : List Nat, lt = l.take lt.length ∧ (wrap64 (cut : Int)).tmod (l.length : Int) = (lt.length : Int) ∧ lt.length < l.length := by
      have hp : 0 < l.length := HL.out.2.2.2.2.2
      have hcut := HV.out.2.2.1
      have hm := Nat.mod_lt cut hp
      have hlen : (l.take (cut % l.length)).length = cut % l.length := by rw [List.length_take]; omega
      refine ⟨l.take (cut % l.length), by rw [hlen], ?_, by rw [hlen]; exact hm⟩
      rw [hlen, show wrap64 (cut : Int) = cut by clear hm hlen; unfold wrap64; omega, Int.tmod_eq_emod_of_nonneg (by omega)]
      simp
    have t5 : (lt.length : Int) ≤ (c2 : Int) := by omega
    have hlts : SlR w3.heap.size 0 1 ByteV w6 (.slice A2 lt.length c2) lt := by have := byteV_take hav6 (Nat.le_of_lt hltl); rw [← hlt] at this; exact byteV_keep this (Chg.refl _ _)
    obtain ⟨f, hf⟩ := read_cut HV.out.2.2.2.1 HL.out.1 hltl
    rw [← hlt] at hf
    have hlt1 : lt.length ≤ 1048576 := by omega
    have HC := Lib.hid (And.intro hlt (And.intro hltl (And.intro hf hc8)))
    clear hlt hltl hf hc8 hav hcl
    go_wp2_with (at_builtin; go_must (refine wpList_copy_slr rfl (.tmp 59) (.tmp 66) 26 rfl 5 i1 _ 1 Try.underlying26 hi1 hz1 hs1 hb1 rfl (by omega) A2 lt.length c2 rfl rfl rfl hlts (fun cs y h => one_byte cs y h) (by omega) (by omega) ?_))
    intro A6 c6 w7 xss k1 k2 k3 k4 hc9
    have hb7 := byteV_copied k1 k2 k3 k4
    clear k1 k2 k3 k4 xss
    go_wp2_with fail
    refine (decode_any w7.heap.size lt A6 c6 w7 hb7 (Nat.le_refl _)).mono fun e w8 h => ?_
    obtain ⟨A7, c7, A8, c8, rfl, hc10, hm8⟩ := h.ans
    rw [decAns_error hlt1 HC.out.2.2.1] at hm8 ⊢
    simp only at hm8 ⊢
    clear h hb7 hm8
    have hc11 := (hc9.trans hc10).alloc (.cells #[.slice A7 noMod.types.length c7, .slice A8 noMod.funcs.length c8] 25)
    have hav8 := byteV_keep hav6 hc11
    have HD := Lib.hid (HC.out.2.2.2.trans hc11)
    clear hc9 hc10 hc11 hav6 hlts
    go_wp2_with (at_builtin; go_must (refine wpList_copy_slr rfl (.tmp 73) (.tmp 74) 26 rfl 5 i1 _ 1 Try.underlying26 hi1 hz1 hs1 hb1 rfl (by omega) A2 l.length c2 rfl (by simp) rfl hav8 (fun cs y h => one_byte cs y h) (by omega) (by omega) ?_))
    intro A9 c9 w9 xss k1 k2 k3 k4 hc12
    have HK := Lib.hid (And.intro k2 (And.intro k3 k4))
    clear k2 k3 k4
    have hszb : w8.heap.size + 1 ≤ w9.heap.size := by have := hc12.size; simpa using this
    go_wp2_with (at_builtin; go_must (refine wpList_append_new rfl (.tmp 75) (.tmp 76) 26 rfl _ 5 i1 _ 1 1 Try.underlying26 hi1 hz1 hs1 hb1 rfl (by omega) A9 l.length c9 xss.flatten rfl k1 1 1 [.int .u8 0] rfl (by first | rfl | simp) rfl (by intro u hu; simp at hu; subst hu; rfl) (by simp only [maxLen]; omega) (by omega) hszb ?_))
    intro A10 c10 w10 hap
    have hc13 := hc12.trans_new (hap.chg k1) fun b t hb h => by have := h.1; simp at hb; omega
    have hb10 := byteV_snoc hap.own HK.out.1 HK.out.2.1 HK.out.2.2
    have hl10 : (l ++ [0]).length = l.length + 1 := by simp
    have hd := decode_any w10.heap.size (l ++ [0]) A10 c10 w10 hb10 (Nat.le_refl _)
    rw [hl10] at hd
    clear hap k1 HK hszb hc12 hb10 hav8 xss
    go_wp2_with fail
    refine hd.mono fun e w11 h => ?_
    obtain ⟨A11, c11, A12, c12, rfl, hc14, _⟩ := h.ans
    clear hd h
    have hlen : bs.length ≤ 1048576 := HV.out.2.2.2.2
    by_cases hmax : l.length < 1048576
    · rw [decAns_error (by omega) (read_more HV.out.2.2.2.1 HL.out.1)]
      simp only
      have hcz := HX.out.1.trans (HD.out.trans (hc13.trans (hc14.alloc (.cells #[.slice A11 noMod.types.length c11, .slice A12 noMod.funcs.length c12] 25))))
      have hvz := byteV_keep HV.out.1 hcz
      have q8 : decide ((l.length : Int) < 1048576) = true := decide_eq_true (by omega)
      clear hl10 hc13 hc14 HD HX HL HM
      go_wp2_with (at_builtin; go_must (refine wpList_copy_slr rfl (.tmp 104) (.tmp 105) 26 rfl 5 i1 _ 1 Try.underlying26 hi1 hz1 hs1 hb1 rfl (by omega) A bs.length c rfl (by first | rfl | simp) rfl hvz (fun cs y h => one_byte cs y h) (by omega) (by omega) ?_))
      intro Az cz wa xss k1 k2 k3 k4 hca
      have hba := byteV_copied k1 k2 k3 k4
      have hbl := byteV_lt hba
      clear k1 k2 k3 k4 xss
      go_wp2_with fail
      refine (decode_any wa.heap.size bs Az cz wa hba (Nat.le_refl _)).mono fun e wb h => ?_
      obtain ⟨A21, c21, A22, c22, rfl, hcb, hmb⟩ := h.ans
      clear h hba
      have hvb := byteV_keep hvz (hca.trans hcb)
      have hcw := hcz.trans (hca.trans hcb)
      clear hca hcb hcz hvz
      cases hrd : readP bs with
      | error f =>
        rw [decAns_error hlen hrd] at hmb ⊢
        simp only at hmb ⊢
        have hmn := hmb.keep (chg_alloc wb (.cells #[.slice A21 noMod.types.length c21, .slice A22 noMod.funcs.length c22] 25)) (fun _ _ _ => id)
        obtain ⟨d0, d1⟩ := (Blk.new wb 25 #[.slice A21 noMod.types.length c21, .slice A22 noMod.funcs.length c22]).cells2
        have HE := Lib.hid (And.intro hmn hcw)
        clear hmn hcw hmb hvb hrd
        go_wp2_with fail
        refine (rsame_any _ _ _ _ noMod noMod HE.out.1 (noMod_R _ _) (by decide) (by decide)).mono fun e wc h => ?_
        obtain ⟨rfl, hcc⟩ := h
        rw [sameMod_refl]
        have HF := Lib.hid (((HE.out.2.alloc _).trans hcc).below (B := w.heap.size) (fun _ _ h => h.elim) (Nat.le_refl _))
        clear hcc HE d0 d1
        go_wp2_with fail
        go_ret
        exact ⟨rfl, HF.out⟩
      | ok mo =>
        rw [decAns_ok hlen hrd] at hmb ⊢
        simp only at hmb ⊢
        have henc := read_enc hbl hrd
        have hao : encAns mo = (0, bs) := by unfold encAns; rw [henc]; simp only [if_neg (show ¬ 1048576 < bs.length by omega)]
        have hmc : cMod mo ≤ 1099511627776 := by have := mod_cost henc; omega
        have hmn := hmb.keep (chg_alloc wb (.cells #[.slice A21 mo.types.length c21, .slice A22 mo.funcs.length c22] 25)) (fun _ _ _ => id)
        have hvc := byteV_keep hvb (chg_alloc wb (.cells #[.slice A21 mo.types.length c21, .slice A22 mo.funcs.length c22] 25))
        obtain ⟨d0, d1⟩ := (Blk.new wb 25 #[.slice A21 mo.types.length c21, .slice A22 mo.funcs.length c22]).cells2
        have HE := Lib.hid (And.intro hmn (And.intro hcw (And.intro hvc (And.intro hao hmc))))
        clear hmn hcw hmb hvb hvc hao hmc henc hrd
        go_wp2_with fail
        refine (encode_any _ _ _ mo (by simp) HE.out.1 HE.out.2.2.2.2).mono fun e wc h => ?_
        obtain ⟨A23, n23, c23, rfl, hbe, howe, hle⟩ := h
        rw [HE.out.2.2.2.1] at howe hle ⊢
        simp only at howe hle ⊢
        have hs1 := conv_own howe hle
        have hs2 := conv_slr (byteV_keep HE.out.2.2.1 (Chg.of_below hbe (fun _ _ => False)))
        have HF := Lib.hid (((HE.out.2.1.alloc _).trans (Chg.of_below hbe (fun _ _ => False))).below (B := w.heap.size) (fun _ _ h => h.elim) (Nat.le_refl _))
        clear howe hle hbe HE d0 d1
        go_wp2_with fail
        go_ret
        exact ⟨rfl, HF.out⟩
    · rw [decAns_large (by omega)]
      simp only
      have hcz := HX.out.1.trans (HD.out.trans (hc13.trans (hc14.alloc (.cells #[.slice A11 noMod.types.length c11, .slice A12 noMod.funcs.length c12] 25))))
      have hvz := byteV_keep HV.out.1 hcz
      have q8 : decide ((l.length : Int) < 1048576) = false := decide_eq_false (by omega)
      clear hl10 hc13 hc14 HD HX HL HM
      go_wp2_with (at_builtin; go_must (refine wpList_copy_slr rfl (.tmp 104) (.tmp 105) 26 rfl 5 i1 _ 1 Try.underlying26 hi1 hz1 hs1 hb1 rfl (by omega) A bs.length c rfl (by first | rfl | simp) rfl hvz (fun cs y h => one_byte cs y h) (by omega) (by omega) ?_))
      intro Az cz wa xss k1 k2 k3 k4 hca
      have hba := byteV_copied k1 k2 k3 k4
      have hbl := byteV_lt hba
      clear k1 k2 k3 k4 xss
      go_wp2_with fail
      refine (decode_any wa.heap.size bs Az cz wa hba (Nat.le_refl _)).mono fun e wb h => ?_
      obtain ⟨A21, c21, A22, c22, rfl, hcb, hmb⟩ := h.ans
      clear h hba
      have hvb := byteV_keep hvz (hca.trans hcb)
      have hcw := hcz.trans (hca.trans hcb)
      clear hca hcb hcz hvz
      cases hrd : readP bs with
      | error f =>
        rw [decAns_error hlen hrd] at hmb ⊢
        simp only at hmb ⊢
        have hmn := hmb.keep (chg_alloc wb (.cells #[.slice A21 noMod.types.length c21, .slice A22 noMod.funcs.length c22] 25)) (fun _ _ _ => id)
        obtain ⟨d0, d1⟩ := (Blk.new wb 25 #[.slice A21 noMod.types.length c21, .slice A22 noMod.funcs.length c22]).cells2
        have HE := Lib.hid (And.intro hmn hcw)
        clear hmn hcw hmb hvb hrd
        go_wp2_with fail
        refine (rsame_any _ _ _ _ noMod noMod HE.out.1 (noMod_R _ _) (by decide) (by decide)).mono fun e wc h => ?_
        obtain ⟨rfl, hcc⟩ := h
        rw [sameMod_refl]
        have HF := Lib.hid (((HE.out.2.alloc _).trans hcc).below (B := w.heap.size) (fun _ _ h => h.elim) (Nat.le_refl _))
        clear hcc HE d0 d1
        go_wp2_with fail
        go_ret
        exact ⟨rfl, HF.out⟩
      | ok mo =>
        rw [decAns_ok hlen hrd] at hmb ⊢
        simp only at hmb ⊢
        have henc := read_enc hbl hrd
        have hao : encAns mo = (0, bs) := by unfold encAns; rw [henc]; simp only [if_neg (show ¬ 1048576 < bs.length by omega)]
        have hmc : cMod mo ≤ 1099511627776 := by have := mod_cost henc; omega
        have hmn := hmb.keep (chg_alloc wb (.cells #[.slice A21 mo.types.length c21, .slice A22 mo.funcs.length c22] 25)) (fun _ _ _ => id)
        have hvc := byteV_keep hvb (chg_alloc wb (.cells #[.slice A21 mo.types.length c21, .slice A22 mo.funcs.length c22] 25))
        obtain ⟨d0, d1⟩ := (Blk.new wb 25 #[.slice A21 mo.types.length c21, .slice A22 mo.funcs.length c22]).cells2
        have HE := Lib.hid (And.intro hmn (And.intro hcw (And.intro hvc (And.intro hao hmc))))
        clear hmn hcw hmb hvb hvc hao hmc henc hrd
        go_wp2_with fail
        refine (encode_any _ _ _ mo (by simp) HE.out.1 HE.out.2.2.2.2).mono fun e wc h => ?_
        obtain ⟨A23, n23, c23, rfl, hbe, howe, hle⟩ := h
        rw [HE.out.2.2.2.1] at howe hle ⊢
        simp only at howe hle ⊢
        have hs1 := conv_own howe hle
        have hs2 := conv_slr (byteV_keep HE.out.2.2.1 (Chg.of_below hbe (fun _ _ => False)))
        have HF := Lib.hid (((HE.out.2.1.alloc _).trans (Chg.of_below hbe (fun _ _ => False))).below (B := w.heap.size) (fun _ _ h => h.elim) (Nat.le_refl _))
        clear howe hle hbe HE d0 d1
        go_wp2_with fail
        go_ret
        exact ⟨rfl, HF.out⟩
  · rw [hans] at how3 hl2 ⊢
    simp only at how3 hl2 ⊢
    have q1 : decide ((kk : Int) = 0) = false := decide_eq_false (by omega)
    have hcz := HX.out.1
    clear how3 hbk3
    have hvz := byteV_keep HV.out.1 hcz
    have hlen : bs.length ≤ 1048576 := HV.out.2.2.2.2
    generalize w3 = wz at hcz hvz ⊢
    clear HX
    go_wp2_with (at_builtin; go_must (refine wpList_copy_slr rfl (.tmp 104) (.tmp 105) 26 rfl 5 i1 _ 1 Try.underlying26 hi1 hz1 hs1 hb1 rfl (by omega) A bs.length c rfl (by first | rfl | simp) rfl hvz (fun cs y h => one_byte cs y h) (by omega) (by omega) ?_))
    intro Az cz wa xss k1 k2 k3 k4 hca
    have hba := byteV_copied k1 k2 k3 k4
    have hbl := byteV_lt hba
    clear k1 k2 k3 k4 xss
    go_wp2_with fail
    refine (decode_any wa.heap.size bs Az cz wa hba (Nat.le_refl _)).mono fun e wb h => ?_
    obtain ⟨A21, c21, A22, c22, rfl, hcb, hmb⟩ := h.ans
    clear h hba
    have hvb := byteV_keep hvz (hca.trans hcb)
    have hcw := hcz.trans (hca.trans hcb)
    clear hca hcb hcz hvz
    cases hrd : readP bs with
    | error f =>
      rw [decAns_error hlen hrd] at hmb ⊢
      simp only at hmb ⊢
      have hmn := hmb.keep (chg_alloc wb (.cells #[.slice A21 noMod.types.length c21, .slice A22 noMod.funcs.length c22] 25)) (fun _ _ _ => id)
      obtain ⟨d0, d1⟩ := (Blk.new wb 25 #[.slice A21 noMod.types.length c21, .slice A22 noMod.funcs.length c22]).cells2
      have HE := Lib.hid (And.intro hmn hcw)
      clear hmn hcw hmb hvb hrd
      go_wp2_with fail
      refine (rsame_any _ _ _ _ noMod noMod HE.out.1 (noMod_R _ _) (by decide) (by decide)).mono fun e wc h => ?_
      obtain ⟨rfl, hcc⟩ := h
      rw [sameMod_refl]
      have HF := Lib.hid (((HE.out.2.alloc _).trans hcc).below (B := w.heap.size) (fun _ _ h => h.elim) (Nat.le_refl _))
      clear hcc HE d0 d1
      go_wp2_with fail
      go_ret
      exact ⟨rfl, HF.out⟩
    | ok mo =>
      rw [decAns_ok hlen hrd] at hmb ⊢
      simp only at hmb ⊢
      have henc := read_enc hbl hrd
      have hao : encAns mo = (0, bs) := by unfold encAns; rw [henc]; simp only [if_neg (show ¬ 1048576 < bs.length by omega)]
      have hmc : cMod mo ≤ 1099511627776 := by have := mod_cost henc; omega
      have hmn := hmb.keep (chg_alloc wb (.cells #[.slice A21 mo.types.length c21, .slice A22 mo.funcs.length c22] 25)) (fun _ _ _ => id)
      have hvc := byteV_keep hvb (chg_alloc wb (.cells #[.slice A21 mo.types.length c21, .slice A22 mo.funcs.length c22] 25))
      obtain ⟨d0, d1⟩ := (Blk.new wb 25 #[.slice A21 mo.types.length c21, .slice A22 mo.funcs.length c22]).cells2
      have HE := Lib.hid (And.intro hmn (And.intro hcw (And.intro hvc (And.intro hao hmc))))
      clear hmn hcw hmb hvb hvc hao hmc henc hrd
      go_wp2_with fail
      refine (encode_any _ _ _ mo (by simp) HE.out.1 HE.out.2.2.2.2).mono fun e wc h => ?_
      obtain ⟨A23, n23, c23, rfl, hbe, howe, hle⟩ := h
      rw [HE.out.2.2.2.1] at howe hle ⊢
      simp only at howe hle ⊢
      have hs1 := conv_own howe hle
      have hs2 := conv_slr (byteV_keep HE.out.2.2.1 (Chg.of_below hbe (fun _ _ => False)))
      have HF := Lib.hid (((HE.out.2.1.alloc _).trans (Chg.of_below hbe (fun _ _ => False))).below (B := w.heap.size) (fun _ _ h => h.elim) (Nat.le_refl _))
      clear howe hle hbe HE d0 d1
      go_wp2_with fail
      go_ret
      exact ⟨rfl, HF.out⟩
end Go.Proofs.Ytfmhedpjkpaohaa
