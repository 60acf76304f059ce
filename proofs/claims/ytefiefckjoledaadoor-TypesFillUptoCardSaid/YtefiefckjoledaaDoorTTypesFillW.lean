/-
  The walk of TypesFill.
-/
import Derived.Test.YtefiefckjoledaaDoorTSubst4
import Derived.Test.YtefiefckjoledaaDoorTTypesCopiesW
namespace Go.Proofs.YtefiefckjoledaaDoor
open Go.RowKit
set_option linter.unusedVariables false
set_option linter.unusedSimpArgs false

def flRel (t : Ty) (args : List Ty) (W : World) (s i : Value) (wr : World) : Prop := ∃ k : Nat, k ≤ args.length ∧ i = .int .i64 k ∧ s = .bool (soundT t && (args.take k).all soundT) ∧ Chg (fun _ _ => False) W wr
set_option maxRecDepth 100000 in
set_option maxHeartbeats 8000000 in
theorem typesFill_form1 (n B : Nat) (w : World) (t : Ty) (names : List ByteArray) (args : List Ty) (Af : Option Addr) (cf : Nat) (Al : Option Addr) (cl : Nat) (Ar : Option Addr) (cr : Nat) (An : Option Addr) (cn : Nat) (Aa : Option Addr) (ca : Nat) (hB : B ≤ w.heap.size) (hTab : Tabs w)
    (hT : TyR n B w (tyCells t.kind t.name t.con Af t.fields.length cf Al t.list.length cl Ar t.res.length cr) t) (hN : StrsR B w (.slice An names.length cn) names) (hnl : names.length ≤ 1048576) (hA : TysR n B w (.slice Aa args.length ca) args) (hal : args.length ≤ 1048576) (hs : soundT t = false) :
    Calls Tryd.prog 13 #[.agg #[.int .i64 t.kind, .string t.name, .int .i64 t.con, .slice Af t.fields.length cf, .slice Al t.list.length cl, .slice Ar t.res.length cr], .slice An names.length cn, .slice Aa args.length ca] w fun e w' => e = .returned (.bool true) ∧ Chg (fun _ _ => False) w w' := by
  have HGOOD := Lib.hid (show (soundT t && args.all soundT) = false by rw [hs]; rfl)
  have hb1 := Blk.new w 39 #[.int .i64 t.kind, .string t.name, .int .i64 t.con, .slice Af t.fields.length cf, .slice Al t.list.length cl, .slice Ar t.res.length cr]
  have hc1 := chg_alloc w (.cells #[.int .i64 t.kind, .string t.name, .int .i64 t.con, .slice Af t.fields.length cf, .slice Al t.list.length cl, .slice Ar t.res.length cr] 39)
  have hown := own2_any n B _ t Af cf Al cl Ar cr (Nat.le_trans hB hc1.size) (TyR.keep0 hc1 hT)
  have H := Lib.hid (And.intro hB (And.intro hTab (And.intro hT (And.intro hN hA))))
  have HH := Lib.hid (And.intro hb1 hc1)
  have HS := Lib.hid hs
  clear hB hTab hT hN hA hb1 hc1 hs
  go_enter Tryd.func13, Tryd.ntmps13
  go_wp2_with fail
  generalize w.alloc (.cells #[.int .i64 t.kind, .string t.name, .int .i64 t.con, .slice Af t.fields.length cf, .slice Al t.list.length cl, .slice Ar t.res.length cr] 39) = W at hown HH ⊢
  generalize w.heap.size = g1 at HH ⊢
  refine hown.mono fun e w2 h => ?_
  obtain ⟨Bf, bf, Bl, bl, Br, br, rfl, hNo, hc2⟩ := h
  clear hown
  have hcw := HH.out.2.trans hc2
  have htx := texts2_any B w2 names An cn (Nat.le_trans H.out.1 hcw.size) (SlR.keep H.out.2.2.2.1 hcw (no_lets _ _) fun _ _ h => h) hnl
  have HI := Lib.hid (And.intro (TyN.tyR hNo) (And.intro hc2 hcw))
  clear hNo hc2 hcw
  go_wp2_with fail
  refine htx.mono fun e w3 h => ?_
  obtain ⟨Dn, dn, rfl, hS3, hc3⟩ := h
  clear htx
  have hcw := HI.out.2.2.trans hc3
  have how := owns2_any n B w3 args Aa ca (Nat.le_trans H.out.1 hcw.size) hal (TysR.keep0 hcw H.out.2.2.2.2)
  have HJ := Lib.hid (And.intro hS3 (And.intro hc3 hcw))
  clear hS3 hc3 hcw
  go_wp2_with fail
  refine how.mono fun e w4 h => ?_
  obtain ⟨Da, da, rfl, hR4, hc4⟩ := h
  clear how
  have hcw := HJ.out.2.2.trans hc4
  have hsub := subst_form1 n n w4.heap.size w4 t names args Bf bf Bl bl Br br Dn dn Da da (Nat.le_refl _) (H.out.2.1.keep0 hcw) (TyR.more (HJ.out.2.1.trans hc4).size (TyR.keep0 (HJ.out.2.1.trans hc4) HI.out.1)) (SlR.imp (SlR.keep HJ.out.1 hc4 (no_lets _ _) fun _ _ h => h) (fun b _ hl => hl.imp (fun h => Nat.lt_of_lt_of_le h hc4.size) id) fun _ _ h => h) hnl (hR4.1.settleT (by decide) fun _ _ h => TyN.tyR h) hal HS.out
  have HK := Lib.hid (And.intro ((HI.out.2.1.trans HJ.out.2.1).trans hc4) hcw)
  clear hR4 hc4 hcw
  go_wp2_with fail
  refine hsub.mono fun e w5 h => ?_
  obtain ⟨rfl, hc5⟩ := h
  clear hsub
  have hc6 := (HK.out.1.trans hc5).alloc (.cells #[.int .i64 0, .string ⟨#[]⟩, .int .i64 0, .slice none 0 0, .slice none 0 0, .slice none 0 0] 39)
  have hb1 := hc6.blk HH.out.1 id
  have hb7 := Blk.new w5 39 #[.int .i64 0, .string ⟨#[]⟩, .int .i64 0, .slice none 0 0, .slice none 0 0, .slice none 0 0]
  have hcw := HH.out.2.trans hc6
  have hans := answers2_any _ (H.out.2.1.keep0 hcw)
  have HL := Lib.hid (And.intro hb1 (And.intro hb7 (And.intro hcw trivial)))
  clear hb1 hb7 hcw hc6 hc5
  go_wp2_with fail
  generalize w5.alloc (.cells #[.int .i64 0, .string ⟨#[]⟩, .int .i64 0, .slice none 0 0, .slice none 0 0, .slice none 0 0] 39) = W5 at hans HL ⊢
  generalize w5.heap.size = g7 at HL ⊢
  refine hans.mono fun e w6 h => ?_
  obtain ⟨rfl, hc6⟩ := h
  clear hans
  obtain ⟨y0, y1, y2, y3, y4, y5⟩ := (hc6.blk HL.out.1 id).cells6
  have hcw := HL.out.2.2.1.trans hc6
  have hso := rsound_any n B w6 t Af cf Al cl Ar cr (Nat.le_trans H.out.1 hcw.size) (TyR.keep0 hcw H.out.2.2.1)
  have H6 := Lib.hid (And.intro hc6 hcw)
  clear hc6 hcw
  go_wp2_with fail
  refine hso.mono fun e w7 h => ?_
  obtain ⟨rfl, hc7⟩ := h
  clear hso y0 y1 y2 y3 y4 y5
  have H7 := Lib.hid (And.intro (H6.out.1.trans hc7) (H6.out.2.trans hc7))
  clear hc7
  go_wp2_with fail
  go_loopw [9, 10] (fun s i wr => flRel t args w7 s i wr) (fun _ i _ => args.length - (intOf i).toNat)
  case atStart => exact ⟨0, Nat.zero_le _, rfl, by simp, Chg.refl _ _⟩
  case round =>
    obtain ⟨k, hk, rfl, rfl, hch⟩ := hrel
    have q3 : IntKind.i64.wrap ((k : Int) + 1) = (k : Int) + 1 := IntWalk.i64_in _ ⟨by omega, by omega⟩
    by_cases hlt : k < args.length
    · have q1 : decide (k < args.length) = true := decide_eq_true hlt
      have q2 : (k : Int) < (args.length : Int) := by omega
      have hcw := H7.out.2.trans hch
      obtain ⟨ba, oa, x, Xf, xf, Xl, xl, Xr, xr, rfl, hkx, hRx, z0, z1, z2, z3, z4, z5⟩ := TysR.at_ (TysR.keep0 hcw H.out.2.2.2.2) hlt
      have hcall := rsound_any n B wr x Xf xf Xl xl Xr xr (Nat.le_trans H.out.1 hcw.size) hRx
      have hst : (args.take (k + 1)).all soundT = ((args.take k).all soundT && soundT x) := by
        obtain ⟨h1, h2⟩ := List.getElem?_eq_some_iff.1 hkx
        rw [List.take_succ_eq_append_getElem h1, h2, List.all_append]
        simp
      have HX := Lib.hid (And.intro hst hch)
      clear hcw hkx hRx hst hch
      cases hgd : (soundT t && (args.take k).all soundT) with
      | true =>
        have HGD := Lib.hid hgd
        clear hgd
        go_wp2_with fail
        refine hcall.mono fun e w8 h => ?_
        obtain ⟨rfl, hc8⟩ := h
        clear hcall
        go_wp2_with fail
        go_roundw
        case rel => exact ⟨k + 1, hlt, by simp, by rw [HX.out.1, ← Bool.and_assoc, HGD.out, Bool.true_and], HX.out.2.trans hc8⟩
        case measure => simp [intOf]; omega
      | false =>
        have HGD := Lib.hid hgd
        clear hgd hcall
        go_wp2_with fail
        go_roundw
        case rel => exact ⟨k + 1, hlt, by simp, by rw [HX.out.1, ← Bool.and_assoc, HGD.out, Bool.false_and], HX.out.2⟩
        case measure => simp [intOf]; omega
    · have q1 : decide (k < args.length) = false := decide_eq_false hlt
      obtain rfl : k = args.length := by omega
      rw [List.take_length, HGOOD.out]
      have hc7r := H7.out.1.trans hch
      have hcw := H7.out.2.trans hch
      obtain ⟨y0, y1, y2, y3, y4, y5⟩ := (hc7r.blk HL.out.2.1 id).cells6
      have hz := zero_same wr
      have HC := Lib.hid (And.intro hc7r hcw)
      clear hc7r hcw hch
      go_wp2_with fail
      refine hz.mono fun e w9 h => ?_
      obtain ⟨rfl, hc9⟩ := h
      clear hz y0 y1 y2 y3 y4 y5
      go_wp2_with fail
      go_ret
      exact ⟨rfl, HC.out.2.trans hc9⟩
set_option maxRecDepth 100000 in
set_option maxHeartbeats 8000000 in
theorem typesFill_form2 (n B : Nat) (w : World) (t : Ty) (names : List ByteArray) (args : List Ty) (Af : Option Addr) (cf : Nat) (Al : Option Addr) (cl : Nat) (Ar : Option Addr) (cr : Nat) (An : Option Addr) (cn : Nat) (Aa : Option Addr) (ca : Nat) (hB : B ≤ w.heap.size) (hTab : Tabs w)
    (hT : TyR n B w (tyCells t.kind t.name t.con Af t.fields.length cf Al t.list.length cl Ar t.res.length cr) t) (hN : StrsR B w (.slice An names.length cn) names) (hnl : names.length ≤ 1048576) (hA : TysR n B w (.slice Aa args.length ca) args) (hal : args.length ≤ 1048576) (hs : soundT t = true) (hs2 : args.all soundT = false) :
    Calls Tryd.prog 13 #[.agg #[.int .i64 t.kind, .string t.name, .int .i64 t.con, .slice Af t.fields.length cf, .slice Al t.list.length cl, .slice Ar t.res.length cr], .slice An names.length cn, .slice Aa args.length ca] w fun e w' => e = .returned (.bool true) ∧ Chg (fun _ _ => False) w w' := by
  have HGOOD := Lib.hid (show (soundT t && args.all soundT) = false by rw [hs2, Bool.and_false])
  have hb1 := Blk.new w 39 #[.int .i64 t.kind, .string t.name, .int .i64 t.con, .slice Af t.fields.length cf, .slice Al t.list.length cl, .slice Ar t.res.length cr]
  have hc1 := chg_alloc w (.cells #[.int .i64 t.kind, .string t.name, .int .i64 t.con, .slice Af t.fields.length cf, .slice Al t.list.length cl, .slice Ar t.res.length cr] 39)
  have hown := own2_any n B _ t Af cf Al cl Ar cr (Nat.le_trans hB hc1.size) (TyR.keep0 hc1 hT)
  have H := Lib.hid (And.intro hB (And.intro hTab (And.intro hT (And.intro hN hA))))
  have HH := Lib.hid (And.intro hb1 hc1)
  have HS := Lib.hid (And.intro hs hs2)
  clear hB hTab hT hN hA hb1 hc1 hs hs2
  go_enter Tryd.func13, Tryd.ntmps13
  go_wp2_with fail
  generalize w.alloc (.cells #[.int .i64 t.kind, .string t.name, .int .i64 t.con, .slice Af t.fields.length cf, .slice Al t.list.length cl, .slice Ar t.res.length cr] 39) = W at hown HH ⊢
  generalize w.heap.size = g1 at HH ⊢
  refine hown.mono fun e w2 h => ?_
  obtain ⟨Bf, bf, Bl, bl, Br, br, rfl, hNo, hc2⟩ := h
  clear hown
  have hcw := HH.out.2.trans hc2
  have htx := texts2_any B w2 names An cn (Nat.le_trans H.out.1 hcw.size) (SlR.keep H.out.2.2.2.1 hcw (no_lets _ _) fun _ _ h => h) hnl
  have HI := Lib.hid (And.intro (TyN.tyR hNo) (And.intro hc2 hcw))
  clear hNo hc2 hcw
  go_wp2_with fail
  refine htx.mono fun e w3 h => ?_
  obtain ⟨Dn, dn, rfl, hS3, hc3⟩ := h
  clear htx
  have hcw := HI.out.2.2.trans hc3
  have how := owns2_any n B w3 args Aa ca (Nat.le_trans H.out.1 hcw.size) hal (TysR.keep0 hcw H.out.2.2.2.2)
  have HJ := Lib.hid (And.intro hS3 (And.intro hc3 hcw))
  clear hS3 hc3 hcw
  go_wp2_with fail
  refine how.mono fun e w4 h => ?_
  obtain ⟨Da, da, rfl, hR4, hc4⟩ := h
  clear how
  have hcw := HJ.out.2.2.trans hc4
  have hsub := subst_form2 n n w4.heap.size w4 t names args Bf bf Bl bl Br br Dn dn Da da (Nat.le_refl _) (H.out.2.1.keep0 hcw) (TyR.more (HJ.out.2.1.trans hc4).size (TyR.keep0 (HJ.out.2.1.trans hc4) HI.out.1)) (SlR.imp (SlR.keep HJ.out.1 hc4 (no_lets _ _) fun _ _ h => h) (fun b _ hl => hl.imp (fun h => Nat.lt_of_lt_of_le h hc4.size) id) fun _ _ h => h) hnl (hR4.1.settleT (by decide) fun _ _ h => TyN.tyR h) hal HS.out.1 HS.out.2
  have HK := Lib.hid (And.intro ((HI.out.2.1.trans HJ.out.2.1).trans hc4) hcw)
  clear hR4 hc4 hcw
  go_wp2_with fail
  refine hsub.mono fun e w5 h => ?_
  obtain ⟨rfl, hc5⟩ := h
  clear hsub
  have hc6 := (HK.out.1.trans hc5).alloc (.cells #[.int .i64 0, .string ⟨#[]⟩, .int .i64 0, .slice none 0 0, .slice none 0 0, .slice none 0 0] 39)
  have hb1 := hc6.blk HH.out.1 id
  have hb7 := Blk.new w5 39 #[.int .i64 0, .string ⟨#[]⟩, .int .i64 0, .slice none 0 0, .slice none 0 0, .slice none 0 0]
  have hcw := HH.out.2.trans hc6
  have hans := answers2_any _ (H.out.2.1.keep0 hcw)
  have HL := Lib.hid (And.intro hb1 (And.intro hb7 (And.intro hcw trivial)))
  clear hb1 hb7 hcw hc6 hc5
  go_wp2_with fail
  generalize w5.alloc (.cells #[.int .i64 0, .string ⟨#[]⟩, .int .i64 0, .slice none 0 0, .slice none 0 0, .slice none 0 0] 39) = W5 at hans HL ⊢
  generalize w5.heap.size = g7 at HL ⊢
  refine hans.mono fun e w6 h => ?_
  obtain ⟨rfl, hc6⟩ := h
  clear hans
  obtain ⟨y0, y1, y2, y3, y4, y5⟩ := (hc6.blk HL.out.1 id).cells6
  have hcw := HL.out.2.2.1.trans hc6
  have hso := rsound_any n B w6 t Af cf Al cl Ar cr (Nat.le_trans H.out.1 hcw.size) (TyR.keep0 hcw H.out.2.2.1)
  have H6 := Lib.hid (And.intro hc6 hcw)
  clear hc6 hcw
  go_wp2_with fail
  refine hso.mono fun e w7 h => ?_
  obtain ⟨rfl, hc7⟩ := h
  clear hso y0 y1 y2 y3 y4 y5
  have H7 := Lib.hid (And.intro (H6.out.1.trans hc7) (H6.out.2.trans hc7))
  clear hc7
  go_wp2_with fail
  go_loopw [9, 10] (fun s i wr => flRel t args w7 s i wr) (fun _ i _ => args.length - (intOf i).toNat)
  case atStart => exact ⟨0, Nat.zero_le _, rfl, by simp, Chg.refl _ _⟩
  case round =>
    obtain ⟨k, hk, rfl, rfl, hch⟩ := hrel
    have q3 : IntKind.i64.wrap ((k : Int) + 1) = (k : Int) + 1 := IntWalk.i64_in _ ⟨by omega, by omega⟩
    by_cases hlt : k < args.length
    · have q1 : decide (k < args.length) = true := decide_eq_true hlt
      have q2 : (k : Int) < (args.length : Int) := by omega
      have hcw := H7.out.2.trans hch
      obtain ⟨ba, oa, x, Xf, xf, Xl, xl, Xr, xr, rfl, hkx, hRx, z0, z1, z2, z3, z4, z5⟩ := TysR.at_ (TysR.keep0 hcw H.out.2.2.2.2) hlt
      have hcall := rsound_any n B wr x Xf xf Xl xl Xr xr (Nat.le_trans H.out.1 hcw.size) hRx
      have hst : (args.take (k + 1)).all soundT = ((args.take k).all soundT && soundT x) := by
        obtain ⟨h1, h2⟩ := List.getElem?_eq_some_iff.1 hkx
        rw [List.take_succ_eq_append_getElem h1, h2, List.all_append]
        simp
      have HX := Lib.hid (And.intro hst hch)
      clear hcw hkx hRx hst hch
      cases hgd : (soundT t && (args.take k).all soundT) with
      | true =>
        have HGD := Lib.hid hgd
        clear hgd
        go_wp2_with fail
        refine hcall.mono fun e w8 h => ?_
        obtain ⟨rfl, hc8⟩ := h
        clear hcall
        go_wp2_with fail
        go_roundw
        case rel => exact ⟨k + 1, hlt, by simp, by rw [HX.out.1, ← Bool.and_assoc, HGD.out, Bool.true_and], HX.out.2.trans hc8⟩
        case measure => simp [intOf]; omega
      | false =>
        have HGD := Lib.hid hgd
        clear hgd hcall
        go_wp2_with fail
        go_roundw
        case rel => exact ⟨k + 1, hlt, by simp, by rw [HX.out.1, ← Bool.and_assoc, HGD.out, Bool.false_and], HX.out.2⟩
        case measure => simp [intOf]; omega
    · have q1 : decide (k < args.length) = false := decide_eq_false hlt
      obtain rfl : k = args.length := by omega
      rw [List.take_length, HGOOD.out]
      have hc7r := H7.out.1.trans hch
      have hcw := H7.out.2.trans hch
      obtain ⟨y0, y1, y2, y3, y4, y5⟩ := (hc7r.blk HL.out.2.1 id).cells6
      have hz := zero_same wr
      have HC := Lib.hid (And.intro hc7r hcw)
      clear hc7r hcw hch
      go_wp2_with fail
      refine hz.mono fun e w9 h => ?_
      obtain ⟨rfl, hc9⟩ := h
      clear hz y0 y1 y2 y3 y4 y5
      go_wp2_with fail
      go_ret
      exact ⟨rfl, HC.out.2.trans hc9⟩
set_option maxRecDepth 100000 in
set_option maxHeartbeats 8000000 in
theorem typesFill_arg (n B : Nat) (w : World) (t : Ty) (names : List ByteArray) (args : List Ty) (Af : Option Addr) (cf : Nat) (Al : Option Addr) (cl : Nat) (Ar : Option Addr) (cr : Nat) (An : Option Addr) (cn : Nat) (Aa : Option Addr) (ca : Nat) (hB : B ≤ w.heap.size) (hTab : Tabs w)
    (hT : TyR n B w (tyCells t.kind t.name t.con Af t.fields.length cf Al t.list.length cl Ar t.res.length cr) t) (hN : StrsR B w (.slice An names.length cn) names) (hnl : names.length ≤ 1048576) (hA : TysR n B w (.slice Aa args.length ca) args) (hal : args.length ≤ 1048576) (hs : soundT t = true) (hs2 : args.all soundT = true) (hbad : ¬ (names.length = args.length ∧ names.Nodup)) :
    Calls Tryd.prog 13 #[.agg #[.int .i64 t.kind, .string t.name, .int .i64 t.con, .slice Af t.fields.length cf, .slice Al t.list.length cl, .slice Ar t.res.length cr], .slice An names.length cn, .slice Aa args.length ca] w fun e w' => e = .returned (.bool true) ∧ Chg (fun _ _ => False) w w' := by
  have HGOOD := Lib.hid (show (soundT t && args.all soundT) = true by rw [hs, hs2]; rfl)
  have hb1 := Blk.new w 39 #[.int .i64 t.kind, .string t.name, .int .i64 t.con, .slice Af t.fields.length cf, .slice Al t.list.length cl, .slice Ar t.res.length cr]
  have hc1 := chg_alloc w (.cells #[.int .i64 t.kind, .string t.name, .int .i64 t.con, .slice Af t.fields.length cf, .slice Al t.list.length cl, .slice Ar t.res.length cr] 39)
  have hown := own2_any n B _ t Af cf Al cl Ar cr (Nat.le_trans hB hc1.size) (TyR.keep0 hc1 hT)
  have H := Lib.hid (And.intro hB (And.intro hTab (And.intro hT (And.intro hN hA))))
  have HH := Lib.hid (And.intro hb1 hc1)
  have HS := Lib.hid (And.intro hs (And.intro hs2 hbad))
  clear hB hTab hT hN hA hb1 hc1 hs hs2 hbad
  go_enter Tryd.func13, Tryd.ntmps13
  go_wp2_with fail
  generalize w.alloc (.cells #[.int .i64 t.kind, .string t.name, .int .i64 t.con, .slice Af t.fields.length cf, .slice Al t.list.length cl, .slice Ar t.res.length cr] 39) = W at hown HH ⊢
  generalize w.heap.size = g1 at HH ⊢
  refine hown.mono fun e w2 h => ?_
  obtain ⟨Bf, bf, Bl, bl, Br, br, rfl, hNo, hc2⟩ := h
  clear hown
  have hcw := HH.out.2.trans hc2
  have htx := texts2_any B w2 names An cn (Nat.le_trans H.out.1 hcw.size) (SlR.keep H.out.2.2.2.1 hcw (no_lets _ _) fun _ _ h => h) hnl
  have HI := Lib.hid (And.intro (TyN.tyR hNo) (And.intro hc2 hcw))
  clear hNo hc2 hcw
  go_wp2_with fail
  refine htx.mono fun e w3 h => ?_
  obtain ⟨Dn, dn, rfl, hS3, hc3⟩ := h
  clear htx
  have hcw := HI.out.2.2.trans hc3
  have how := owns2_any n B w3 args Aa ca (Nat.le_trans H.out.1 hcw.size) hal (TysR.keep0 hcw H.out.2.2.2.2)
  have HJ := Lib.hid (And.intro hS3 (And.intro hc3 hcw))
  clear hS3 hc3 hcw
  go_wp2_with fail
  refine how.mono fun e w4 h => ?_
  obtain ⟨Da, da, rfl, hR4, hc4⟩ := h
  clear how
  have hcw := HJ.out.2.2.trans hc4
  have hsub := subst_arg n n w4.heap.size w4 t names args Bf bf Bl bl Br br Dn dn Da da (Nat.le_refl _) (H.out.2.1.keep0 hcw) (TyR.more (HJ.out.2.1.trans hc4).size (TyR.keep0 (HJ.out.2.1.trans hc4) HI.out.1)) (SlR.imp (SlR.keep HJ.out.1 hc4 (no_lets _ _) fun _ _ h => h) (fun b _ hl => hl.imp (fun h => Nat.lt_of_lt_of_le h hc4.size) id) fun _ _ h => h) hnl (hR4.1.settleT (by decide) fun _ _ h => TyN.tyR h) hal HS.out.1 HS.out.2.1 HS.out.2.2
  have HK := Lib.hid (And.intro ((HI.out.2.1.trans HJ.out.2.1).trans hc4) hcw)
  clear hR4 hc4 hcw
  go_wp2_with fail
  refine hsub.mono fun e w5 h => ?_
  obtain ⟨rfl, hc5⟩ := h
  clear hsub
  have hc6 := (HK.out.1.trans hc5).alloc (.cells #[.int .i64 0, .string ⟨#[]⟩, .int .i64 0, .slice none 0 0, .slice none 0 0, .slice none 0 0] 39)
  have hb1 := hc6.blk HH.out.1 id
  have hb7 := Blk.new w5 39 #[.int .i64 0, .string ⟨#[]⟩, .int .i64 0, .slice none 0 0, .slice none 0 0, .slice none 0 0]
  have hcw := HH.out.2.trans hc6
  have hans := answers2_any _ (H.out.2.1.keep0 hcw)
  have HL := Lib.hid (And.intro hb1 (And.intro hb7 (And.intro hcw trivial)))
  clear hb1 hb7 hcw hc6 hc5
  go_wp2_with fail
  generalize w5.alloc (.cells #[.int .i64 0, .string ⟨#[]⟩, .int .i64 0, .slice none 0 0, .slice none 0 0, .slice none 0 0] 39) = W5 at hans HL ⊢
  generalize w5.heap.size = g7 at HL ⊢
  refine hans.mono fun e w6 h => ?_
  obtain ⟨rfl, hc6⟩ := h
  clear hans
  obtain ⟨y0, y1, y2, y3, y4, y5⟩ := (hc6.blk HL.out.1 id).cells6
  have hcw := HL.out.2.2.1.trans hc6
  have hso := rsound_any n B w6 t Af cf Al cl Ar cr (Nat.le_trans H.out.1 hcw.size) (TyR.keep0 hcw H.out.2.2.1)
  have H6 := Lib.hid (And.intro hc6 hcw)
  clear hc6 hcw
  go_wp2_with fail
  refine hso.mono fun e w7 h => ?_
  obtain ⟨rfl, hc7⟩ := h
  clear hso y0 y1 y2 y3 y4 y5
  have H7 := Lib.hid (And.intro (H6.out.1.trans hc7) (H6.out.2.trans hc7))
  clear hc7
  go_wp2_with fail
  go_loopw [9, 10] (fun s i wr => flRel t args w7 s i wr) (fun _ i _ => args.length - (intOf i).toNat)
  case atStart => exact ⟨0, Nat.zero_le _, rfl, by simp, Chg.refl _ _⟩
  case round =>
    obtain ⟨k, hk, rfl, rfl, hch⟩ := hrel
    have q3 : IntKind.i64.wrap ((k : Int) + 1) = (k : Int) + 1 := IntWalk.i64_in _ ⟨by omega, by omega⟩
    by_cases hlt : k < args.length
    · have q1 : decide (k < args.length) = true := decide_eq_true hlt
      have q2 : (k : Int) < (args.length : Int) := by omega
      have hcw := H7.out.2.trans hch
      obtain ⟨ba, oa, x, Xf, xf, Xl, xl, Xr, xr, rfl, hkx, hRx, z0, z1, z2, z3, z4, z5⟩ := TysR.at_ (TysR.keep0 hcw H.out.2.2.2.2) hlt
      have hcall := rsound_any n B wr x Xf xf Xl xl Xr xr (Nat.le_trans H.out.1 hcw.size) hRx
      have hst : (args.take (k + 1)).all soundT = ((args.take k).all soundT && soundT x) := by
        obtain ⟨h1, h2⟩ := List.getElem?_eq_some_iff.1 hkx
        rw [List.take_succ_eq_append_getElem h1, h2, List.all_append]
        simp
      have HX := Lib.hid (And.intro hst hch)
      clear hcw hkx hRx hst hch
      cases hgd : (soundT t && (args.take k).all soundT) with
      | true =>
        have HGD := Lib.hid hgd
        clear hgd
        go_wp2_with fail
        refine hcall.mono fun e w8 h => ?_
        obtain ⟨rfl, hc8⟩ := h
        clear hcall
        go_wp2_with fail
        go_roundw
        case rel => exact ⟨k + 1, hlt, by simp, by rw [HX.out.1, ← Bool.and_assoc, HGD.out, Bool.true_and], HX.out.2.trans hc8⟩
        case measure => simp [intOf]; omega
      | false =>
        have HGD := Lib.hid hgd
        clear hgd hcall
        go_wp2_with fail
        go_roundw
        case rel => exact ⟨k + 1, hlt, by simp, by rw [HX.out.1, ← Bool.and_assoc, HGD.out, Bool.false_and], HX.out.2⟩
        case measure => simp [intOf]; omega
    · have q1 : decide (k < args.length) = false := decide_eq_false hlt
      obtain rfl : k = args.length := by omega
      rw [List.take_length, HGOOD.out]
      have hc7r := H7.out.1.trans hch
      have hcw := H7.out.2.trans hch
      obtain ⟨y0, y1, y2, y3, y4, y5⟩ := (hc7r.blk HL.out.2.1 id).cells6
      have hz := zero_same wr
      have HC := Lib.hid (And.intro hc7r hcw)
      clear hc7r hcw hch
      go_wp2_with fail
      refine hz.mono fun e w9 h => ?_
      obtain ⟨rfl, hc9⟩ := h
      clear hz y0 y1 y2 y3 y4 y5
      by_cases hle : names.length = args.length
      · have q7 : (((names.length : Nat) : Int) != ((args.length : Nat) : Int)) = false := by simp [hle]
        have HLE := Lib.hid hle
        clear hle
        have hc79 := HC.out.2.trans hc9
        have htw := twice_any B w9 names An cn (SlR.keep H.out.2.2.2.1 hc79 (no_lets _ _) fun _ _ h => h) hnl
        have HC9 := Lib.hid hc79
        clear hc9 hc79
        go_wp2_with fail
        refine htw.mono fun e w10 h => ?_
        obtain ⟨bb, rfl, hbb, hc10⟩ := h
        obtain rfl : bb = true := hbb.2 fun h => HS.out.2.2 ⟨HLE.out, h⟩
        clear htw hbb
        go_wp2_with fail
        go_ret
        exact ⟨rfl, HC9.out.trans hc10⟩
      · have q7 : (((names.length : Nat) : Int) != ((args.length : Nat) : Int)) = true := by simp; omega
        have HLE := Lib.hid hle
        clear hle
        go_wp2_with fail
        go_ret
        exact ⟨rfl, HC.out.2.trans hc9⟩
set_option maxRecDepth 100000 in
set_option maxHeartbeats 8000000 in
theorem typesFill_large (n B : Nat) (w : World) (t : Ty) (names : List ByteArray) (args : List Ty) (Af : Option Addr) (cf : Nat) (Al : Option Addr) (cl : Nat) (Ar : Option Addr) (cr : Nat) (An : Option Addr) (cn : Nat) (Aa : Option Addr) (ca : Nat) (hB : B ≤ w.heap.size) (hTab : Tabs w)
    (hT : TyR n B w (tyCells t.kind t.name t.con Af t.fields.length cf Al t.list.length cl Ar t.res.length cr) t) (hN : StrsR B w (.slice An names.length cn) names) (hnl : names.length ≤ 1048576) (hA : TysR n B w (.slice Aa args.length ca) args) (hal : args.length ≤ 1048576) (hs : soundT t = true) (hs2 : args.all soundT = true) (hok : names.length = args.length ∧ names.Nodup) (hso2 : soundT (t.fill (assoc names args)) = false) :
    Calls Tryd.prog 13 #[.agg #[.int .i64 t.kind, .string t.name, .int .i64 t.con, .slice Af t.fields.length cf, .slice Al t.list.length cl, .slice Ar t.res.length cr], .slice An names.length cn, .slice Aa args.length ca] w fun e w' => e = .returned (.bool true) ∧ Chg (fun _ _ => False) w w' := by
  have HGOOD := Lib.hid (show (soundT t && args.all soundT) = true by rw [hs, hs2]; rfl)
  have hb1 := Blk.new w 39 #[.int .i64 t.kind, .string t.name, .int .i64 t.con, .slice Af t.fields.length cf, .slice Al t.list.length cl, .slice Ar t.res.length cr]
  have hc1 := chg_alloc w (.cells #[.int .i64 t.kind, .string t.name, .int .i64 t.con, .slice Af t.fields.length cf, .slice Al t.list.length cl, .slice Ar t.res.length cr] 39)
  have hown := own2_any n B _ t Af cf Al cl Ar cr (Nat.le_trans hB hc1.size) (TyR.keep0 hc1 hT)
  have H := Lib.hid (And.intro hB (And.intro hTab (And.intro hT (And.intro hN hA))))
  have HH := Lib.hid (And.intro hb1 hc1)
  have HS := Lib.hid (And.intro hs (And.intro hs2 (And.intro hok hso2)))
  clear hB hTab hT hN hA hb1 hc1 hs hs2 hok hso2
  go_enter Tryd.func13, Tryd.ntmps13
  go_wp2_with fail
  generalize w.alloc (.cells #[.int .i64 t.kind, .string t.name, .int .i64 t.con, .slice Af t.fields.length cf, .slice Al t.list.length cl, .slice Ar t.res.length cr] 39) = W at hown HH ⊢
  generalize w.heap.size = g1 at HH ⊢
  refine hown.mono fun e w2 h => ?_
  obtain ⟨Bf, bf, Bl, bl, Br, br, rfl, hNo, hc2⟩ := h
  clear hown
  have hcw := HH.out.2.trans hc2
  have htx := texts2_any B w2 names An cn (Nat.le_trans H.out.1 hcw.size) (SlR.keep H.out.2.2.2.1 hcw (no_lets _ _) fun _ _ h => h) hnl
  have HI := Lib.hid (And.intro (TyN.tyR hNo) (And.intro hc2 hcw))
  clear hNo hc2 hcw
  go_wp2_with fail
  refine htx.mono fun e w3 h => ?_
  obtain ⟨Dn, dn, rfl, hS3, hc3⟩ := h
  clear htx
  have hcw := HI.out.2.2.trans hc3
  have how := owns2_any n B w3 args Aa ca (Nat.le_trans H.out.1 hcw.size) hal (TysR.keep0 hcw H.out.2.2.2.2)
  have HJ := Lib.hid (And.intro hS3 (And.intro hc3 hcw))
  clear hS3 hc3 hcw
  go_wp2_with fail
  refine how.mono fun e w4 h => ?_
  obtain ⟨Da, da, rfl, hR4, hc4⟩ := h
  clear how
  have hcw := HJ.out.2.2.trans hc4
  have hsub := subst_large n n w4.heap.size w4 t names args Bf bf Bl bl Br br Dn dn Da da (Nat.le_refl _) (H.out.2.1.keep0 hcw) (TyR.more (HJ.out.2.1.trans hc4).size (TyR.keep0 (HJ.out.2.1.trans hc4) HI.out.1)) (SlR.imp (SlR.keep HJ.out.1 hc4 (no_lets _ _) fun _ _ h => h) (fun b _ hl => hl.imp (fun h => Nat.lt_of_lt_of_le h hc4.size) id) fun _ _ h => h) hnl (hR4.1.settleT (by decide) fun _ _ h => TyN.tyR h) hal HS.out.1 HS.out.2.1 HS.out.2.2.1 HS.out.2.2.2
  have HK := Lib.hid (And.intro ((HI.out.2.1.trans HJ.out.2.1).trans hc4) hcw)
  clear hR4 hc4 hcw
  go_wp2_with fail
  refine hsub.mono fun e w5 h => ?_
  obtain ⟨rfl, hc5⟩ := h
  clear hsub
  have hc6 := (HK.out.1.trans hc5).alloc (.cells #[.int .i64 0, .string ⟨#[]⟩, .int .i64 0, .slice none 0 0, .slice none 0 0, .slice none 0 0] 39)
  have hb1 := hc6.blk HH.out.1 id
  have hb7 := Blk.new w5 39 #[.int .i64 0, .string ⟨#[]⟩, .int .i64 0, .slice none 0 0, .slice none 0 0, .slice none 0 0]
  have hcw := HH.out.2.trans hc6
  have hans := answers2_any _ (H.out.2.1.keep0 hcw)
  have HL := Lib.hid (And.intro hb1 (And.intro hb7 (And.intro hcw trivial)))
  clear hb1 hb7 hcw hc6 hc5
  go_wp2_with fail
  generalize w5.alloc (.cells #[.int .i64 0, .string ⟨#[]⟩, .int .i64 0, .slice none 0 0, .slice none 0 0, .slice none 0 0] 39) = W5 at hans HL ⊢
  generalize w5.heap.size = g7 at HL ⊢
  refine hans.mono fun e w6 h => ?_
  obtain ⟨rfl, hc6⟩ := h
  clear hans
  obtain ⟨y0, y1, y2, y3, y4, y5⟩ := (hc6.blk HL.out.1 id).cells6
  have hcw := HL.out.2.2.1.trans hc6
  have hso := rsound_any n B w6 t Af cf Al cl Ar cr (Nat.le_trans H.out.1 hcw.size) (TyR.keep0 hcw H.out.2.2.1)
  have H6 := Lib.hid (And.intro hc6 hcw)
  clear hc6 hcw
  go_wp2_with fail
  refine hso.mono fun e w7 h => ?_
  obtain ⟨rfl, hc7⟩ := h
  clear hso y0 y1 y2 y3 y4 y5
  have H7 := Lib.hid (And.intro (H6.out.1.trans hc7) (H6.out.2.trans hc7))
  clear hc7
  go_wp2_with fail
  go_loopw [9, 10] (fun s i wr => flRel t args w7 s i wr) (fun _ i _ => args.length - (intOf i).toNat)
  case atStart => exact ⟨0, Nat.zero_le _, rfl, by simp, Chg.refl _ _⟩
  case round =>
    obtain ⟨k, hk, rfl, rfl, hch⟩ := hrel
    have q3 : IntKind.i64.wrap ((k : Int) + 1) = (k : Int) + 1 := IntWalk.i64_in _ ⟨by omega, by omega⟩
    by_cases hlt : k < args.length
    · have q1 : decide (k < args.length) = true := decide_eq_true hlt
      have q2 : (k : Int) < (args.length : Int) := by omega
      have hcw := H7.out.2.trans hch
      obtain ⟨ba, oa, x, Xf, xf, Xl, xl, Xr, xr, rfl, hkx, hRx, z0, z1, z2, z3, z4, z5⟩ := TysR.at_ (TysR.keep0 hcw H.out.2.2.2.2) hlt
      have hcall := rsound_any n B wr x Xf xf Xl xl Xr xr (Nat.le_trans H.out.1 hcw.size) hRx
      have hst : (args.take (k + 1)).all soundT = ((args.take k).all soundT && soundT x) := by
        obtain ⟨h1, h2⟩ := List.getElem?_eq_some_iff.1 hkx
        rw [List.take_succ_eq_append_getElem h1, h2, List.all_append]
        simp
      have HX := Lib.hid (And.intro hst hch)
      clear hcw hkx hRx hst hch
      cases hgd : (soundT t && (args.take k).all soundT) with
      | true =>
        have HGD := Lib.hid hgd
        clear hgd
        go_wp2_with fail
        refine hcall.mono fun e w8 h => ?_
        obtain ⟨rfl, hc8⟩ := h
        clear hcall
        go_wp2_with fail
        go_roundw
        case rel => exact ⟨k + 1, hlt, by simp, by rw [HX.out.1, ← Bool.and_assoc, HGD.out, Bool.true_and], HX.out.2.trans hc8⟩
        case measure => simp [intOf]; omega
      | false =>
        have HGD := Lib.hid hgd
        clear hgd hcall
        go_wp2_with fail
        go_roundw
        case rel => exact ⟨k + 1, hlt, by simp, by rw [HX.out.1, ← Bool.and_assoc, HGD.out, Bool.false_and], HX.out.2⟩
        case measure => simp [intOf]; omega
    · have q1 : decide (k < args.length) = false := decide_eq_false hlt
      obtain rfl : k = args.length := by omega
      rw [List.take_length, HGOOD.out]
      have hc7r := H7.out.1.trans hch
      have hcw := H7.out.2.trans hch
      obtain ⟨y0, y1, y2, y3, y4, y5⟩ := (hc7r.blk HL.out.2.1 id).cells6
      have hz := zero_same wr
      have HC := Lib.hid (And.intro hc7r hcw)
      clear hc7r hcw hch
      go_wp2_with fail
      refine hz.mono fun e w9 h => ?_
      obtain ⟨rfl, hc9⟩ := h
      clear hz y0 y1 y2 y3 y4 y5
      have q7 : (((names.length : Nat) : Int) != ((args.length : Nat) : Int)) = false := by simp [HS.out.2.2.1.1]
      have hc79 := HC.out.2.trans hc9
      have htw := twice_any B w9 names An cn (SlR.keep H.out.2.2.2.1 hc79 (no_lets _ _) fun _ _ h => h) hnl
      have HC9 := Lib.hid hc79
      clear hc79
      go_wp2_with fail
      refine htw.mono fun e w10 h => ?_
      obtain ⟨bb, rfl, hbb, hc10⟩ := h
      obtain rfl : bb = false := by
        cases bb with
        | false => rfl
        | true => exact absurd HS.out.2.2.1.2 (hbb.1 rfl)
      clear htw hbb
      obtain ⟨y0, y1, y2, y3, y4, y5⟩ := (((HC.out.1.trans hc9).trans hc10).blk HL.out.1 id).cells6
      have hcw := HC9.out.trans hc10
      have hfi := fill_names B n names args An cn Aa ca (Nat.le_of_eq HS.out.2.2.1.1) hal n w10 t Af cf Al cl Ar cr (Nat.le_trans H.out.1 hcw.size) ⟨SlR.keep H.out.2.2.2.1 hcw (no_lets _ _) fun _ _ h => h, TysR.keep0 hcw H.out.2.2.2.2⟩ (TyR.keep0 hcw H.out.2.2.1)
      have HC10 := Lib.hid hcw
      clear hcw
      go_wp2_with fail
      refine hfi.mono fun e w11 h => ?_
      obtain ⟨Gf, gf, Gl, gl, Gr, gr, rfl, hN11, hc11⟩ := h
      clear hfi y0 y1 y2 y3 y4 y5
      generalize hu : (t.fill (assoc names args)) = u at hN11 ⊢
      have hN12 := TyN.keep (chg_alloc w11 (.cells #[.int .i64 u.kind, .string u.name, .int .i64 u.con, .slice Gf u.fields.length gf, .slice Gl u.list.length gl, .slice Gr u.res.length gr] 39)) (fun _ _ _ _ => id) hN11
      have hb12 := Blk.new w11 39 #[.int .i64 u.kind, .string u.name, .int .i64 u.con, .slice Gf u.fields.length gf, .slice Gl u.list.length gl, .slice Gr u.res.length gr]
      have hcw := (HC10.out.trans hc11).alloc (.cells #[.int .i64 u.kind, .string u.name, .int .i64 u.con, .slice Gf u.fields.length gf, .slice Gl u.list.length gl, .slice Gr u.res.length gr] 39)
      have hso := rsound_any (n + n) _ _ u Gf gf Gl gl Gr gr (Nat.le_refl _) (TyN.tyR hN12)
      rw [show soundT u = false by rw [← hu]; exact HS.out.2.2.2] at hso
      have HC12 := Lib.hid hcw
      clear hcw hc11 hN11 hN12 hb12 hu
      go_wp2_with fail
      refine hso.mono fun e w13 h => ?_
      obtain ⟨rfl, hc13⟩ := h
      clear hso
      go_wp2_with fail
      go_ret
      exact ⟨rfl, HC12.out.trans hc13⟩
set_option maxRecDepth 100000 in
set_option maxHeartbeats 8000000 in
theorem typesFill_ok (n B : Nat) (w : World) (t : Ty) (names : List ByteArray) (args : List Ty) (Af : Option Addr) (cf : Nat) (Al : Option Addr) (cl : Nat) (Ar : Option Addr) (cr : Nat) (An : Option Addr) (cn : Nat) (Aa : Option Addr) (ca : Nat) (hB : B ≤ w.heap.size) (hTab : Tabs w)
    (hT : TyR n B w (tyCells t.kind t.name t.con Af t.fields.length cf Al t.list.length cl Ar t.res.length cr) t) (hN : StrsR B w (.slice An names.length cn) names) (hnl : names.length ≤ 1048576) (hA : TysR n B w (.slice Aa args.length ca) args) (hal : args.length ≤ 1048576) (hs : soundT t = true) (hs2 : args.all soundT = true) (hok : names.length = args.length ∧ names.Nodup) (hso2 : soundT (t.fill (assoc names args)) = true) :
    Calls Tryd.prog 13 #[.agg #[.int .i64 t.kind, .string t.name, .int .i64 t.con, .slice Af t.fields.length cf, .slice Al t.list.length cl, .slice Ar t.res.length cr], .slice An names.length cn, .slice Aa args.length ca] w fun e w' => e = .returned (.bool true) ∧ Chg (fun _ _ => False) w w' := by
  have HGOOD := Lib.hid (show (soundT t && args.all soundT) = true by rw [hs, hs2]; rfl)
  have hb1 := Blk.new w 39 #[.int .i64 t.kind, .string t.name, .int .i64 t.con, .slice Af t.fields.length cf, .slice Al t.list.length cl, .slice Ar t.res.length cr]
  have hc1 := chg_alloc w (.cells #[.int .i64 t.kind, .string t.name, .int .i64 t.con, .slice Af t.fields.length cf, .slice Al t.list.length cl, .slice Ar t.res.length cr] 39)
  have hown := own2_any n B _ t Af cf Al cl Ar cr (Nat.le_trans hB hc1.size) (TyR.keep0 hc1 hT)
  have H := Lib.hid (And.intro hB (And.intro hTab (And.intro hT (And.intro hN hA))))
  have HH := Lib.hid (And.intro hb1 hc1)
  have HS := Lib.hid (And.intro hs (And.intro hs2 (And.intro hok hso2)))
  clear hB hTab hT hN hA hb1 hc1 hs hs2 hok hso2
  go_enter Tryd.func13, Tryd.ntmps13
  go_wp2_with fail
  generalize w.alloc (.cells #[.int .i64 t.kind, .string t.name, .int .i64 t.con, .slice Af t.fields.length cf, .slice Al t.list.length cl, .slice Ar t.res.length cr] 39) = W at hown HH ⊢
  generalize w.heap.size = g1 at HH ⊢
  refine hown.mono fun e w2 h => ?_
  obtain ⟨Bf, bf, Bl, bl, Br, br, rfl, hNo, hc2⟩ := h
  clear hown
  have hcw := HH.out.2.trans hc2
  have htx := texts2_any B w2 names An cn (Nat.le_trans H.out.1 hcw.size) (SlR.keep H.out.2.2.2.1 hcw (no_lets _ _) fun _ _ h => h) hnl
  have HI := Lib.hid (And.intro (TyN.tyR hNo) (And.intro hc2 hcw))
  clear hNo hc2 hcw
  go_wp2_with fail
  refine htx.mono fun e w3 h => ?_
  obtain ⟨Dn, dn, rfl, hS3, hc3⟩ := h
  clear htx
  have hcw := HI.out.2.2.trans hc3
  have how := owns2_any n B w3 args Aa ca (Nat.le_trans H.out.1 hcw.size) hal (TysR.keep0 hcw H.out.2.2.2.2)
  have HJ := Lib.hid (And.intro hS3 (And.intro hc3 hcw))
  clear hS3 hc3 hcw
  go_wp2_with fail
  refine how.mono fun e w4 h => ?_
  obtain ⟨Da, da, rfl, hR4, hc4⟩ := h
  clear how
  have hcw := HJ.out.2.2.trans hc4
  have hsub := subst_ok n n w4.heap.size w4 t names args Bf bf Bl bl Br br Dn dn Da da (Nat.le_refl _) (H.out.2.1.keep0 hcw) (TyR.more (HJ.out.2.1.trans hc4).size (TyR.keep0 (HJ.out.2.1.trans hc4) HI.out.1)) (SlR.imp (SlR.keep HJ.out.1 hc4 (no_lets _ _) fun _ _ h => h) (fun b _ hl => hl.imp (fun h => Nat.lt_of_lt_of_le h hc4.size) id) fun _ _ h => h) hnl (hR4.1.settleT (by decide) fun _ _ h => TyN.tyR h) hal HS.out.1 HS.out.2.1 HS.out.2.2.1 HS.out.2.2.2
  have HK := Lib.hid (And.intro ((HI.out.2.1.trans HJ.out.2.1).trans hc4) hcw)
  clear hR4 hc4 hcw
  go_wp2_with fail
  refine hsub.mono fun e w5 h => ?_
  obtain ⟨Ff, ff, Fl, fl, Fr, fr, rfl, hNF, hc5⟩ := h
  clear hsub
  generalize hv : (t.fill (assoc names args)) = v at hNF ⊢
  have HV := Lib.hid hv
  clear hv
  have hc6 := (HK.out.1.trans hc5).alloc (.cells #[.int .i64 v.kind, .string v.name, .int .i64 v.con, .slice Ff v.fields.length ff, .slice Fl v.list.length fl, .slice Fr v.res.length fr] 39)
  have hb1 := hc6.blk HH.out.1 id
  have hb7 := Blk.new w5 39 #[.int .i64 v.kind, .string v.name, .int .i64 v.con, .slice Ff v.fields.length ff, .slice Fl v.list.length fl, .slice Fr v.res.length fr]
  have hcw := HH.out.2.trans hc6
  have hans := answers2_any _ (H.out.2.1.keep0 hcw)
  have hNF6 := TyN.keep (chg_alloc w5 (.cells #[.int .i64 v.kind, .string v.name, .int .i64 v.con, .slice Ff v.fields.length ff, .slice Fl v.list.length fl, .slice Fr v.res.length fr] 39)) (fun _ _ _ _ => id) hNF
  have HL := Lib.hid (And.intro hb1 (And.intro hb7 (And.intro hcw hNF6)))
  clear hb1 hb7 hcw hc6 hc5 hNF hNF6
  go_wp2_with fail
  generalize w5.alloc (.cells #[.int .i64 v.kind, .string v.name, .int .i64 v.con, .slice Ff v.fields.length ff, .slice Fl v.list.length fl, .slice Fr v.res.length fr] 39) = W5 at hans HL ⊢
  generalize w5.heap.size = g7 at HL ⊢
  refine hans.mono fun e w6 h => ?_
  obtain ⟨rfl, hc6⟩ := h
  clear hans
  obtain ⟨y0, y1, y2, y3, y4, y5⟩ := (hc6.blk HL.out.1 id).cells6
  have hcw := HL.out.2.2.1.trans hc6
  have hso := rsound_any n B w6 t Af cf Al cl Ar cr (Nat.le_trans H.out.1 hcw.size) (TyR.keep0 hcw H.out.2.2.1)
  have H6 := Lib.hid (And.intro hc6 hcw)
  clear hc6 hcw
  go_wp2_with fail
  refine hso.mono fun e w7 h => ?_
  obtain ⟨rfl, hc7⟩ := h
  clear hso y0 y1 y2 y3 y4 y5
  have H7 := Lib.hid (And.intro (H6.out.1.trans hc7) (H6.out.2.trans hc7))
  clear hc7
  go_wp2_with fail
  go_loopw [9, 10] (fun s i wr => flRel t args w7 s i wr) (fun _ i _ => args.length - (intOf i).toNat)
  case atStart => exact ⟨0, Nat.zero_le _, rfl, by simp, Chg.refl _ _⟩
  case round =>
    obtain ⟨k, hk, rfl, rfl, hch⟩ := hrel
    have q3 : IntKind.i64.wrap ((k : Int) + 1) = (k : Int) + 1 := IntWalk.i64_in _ ⟨by omega, by omega⟩
    by_cases hlt : k < args.length
    · have q1 : decide (k < args.length) = true := decide_eq_true hlt
      have q2 : (k : Int) < (args.length : Int) := by omega
      have hcw := H7.out.2.trans hch
      obtain ⟨ba, oa, x, Xf, xf, Xl, xl, Xr, xr, rfl, hkx, hRx, z0, z1, z2, z3, z4, z5⟩ := TysR.at_ (TysR.keep0 hcw H.out.2.2.2.2) hlt
      have hcall := rsound_any n B wr x Xf xf Xl xl Xr xr (Nat.le_trans H.out.1 hcw.size) hRx
      have hst : (args.take (k + 1)).all soundT = ((args.take k).all soundT && soundT x) := by
        obtain ⟨h1, h2⟩ := List.getElem?_eq_some_iff.1 hkx
        rw [List.take_succ_eq_append_getElem h1, h2, List.all_append]
        simp
      have HX := Lib.hid (And.intro hst hch)
      clear hcw hkx hRx hst hch
      cases hgd : (soundT t && (args.take k).all soundT) with
      | true =>
        have HGD := Lib.hid hgd
        clear hgd
        go_wp2_with fail
        refine hcall.mono fun e w8 h => ?_
        obtain ⟨rfl, hc8⟩ := h
        clear hcall
        go_wp2_with fail
        go_roundw
        case rel => exact ⟨k + 1, hlt, by simp, by rw [HX.out.1, ← Bool.and_assoc, HGD.out, Bool.true_and], HX.out.2.trans hc8⟩
        case measure => simp [intOf]; omega
      | false =>
        have HGD := Lib.hid hgd
        clear hgd hcall
        go_wp2_with fail
        go_roundw
        case rel => exact ⟨k + 1, hlt, by simp, by rw [HX.out.1, ← Bool.and_assoc, HGD.out, Bool.false_and], HX.out.2⟩
        case measure => simp [intOf]; omega
    · have q1 : decide (k < args.length) = false := decide_eq_false hlt
      obtain rfl : k = args.length := by omega
      rw [List.take_length, HGOOD.out]
      have hc7r := H7.out.1.trans hch
      have hcw := H7.out.2.trans hch
      have HC := Lib.hid (And.intro hc7r hcw)
      clear hc7r hcw hch
      have q7 : (((names.length : Nat) : Int) != ((args.length : Nat) : Int)) = false := by simp [HS.out.2.2.1.1]
      have hc79 := HC.out.2
      have htw := twice_any B wr names An cn (SlR.keep H.out.2.2.2.1 hc79 (no_lets _ _) fun _ _ h => h) hnl
      have HC9 := Lib.hid hc79
      clear hc79
      go_wp2_with fail
      refine htw.mono fun e w10 h => ?_
      obtain ⟨bb, rfl, hbb, hc10⟩ := h
      obtain rfl : bb = false := by
        cases bb with
        | false => rfl
        | true => exact absurd HS.out.2.2.1.2 (hbb.1 rfl)
      clear htw hbb
      have hc1011 := HC.out.1.trans hc10
      obtain ⟨y0, y1, y2, y3, y4, y5⟩ := ((HC.out.1.trans hc10).blk HL.out.1 id).cells6
      have hcw := HC9.out.trans hc10
      have hfi := fill_names B n names args An cn Aa ca (Nat.le_of_eq HS.out.2.2.1.1) hal n w10 t Af cf Al cl Ar cr (Nat.le_trans H.out.1 hcw.size) ⟨SlR.keep H.out.2.2.2.1 hcw (no_lets _ _) fun _ _ h => h, TysR.keep0 hcw H.out.2.2.2.2⟩ (TyR.keep0 hcw H.out.2.2.1)
      have HC10 := Lib.hid hcw
      clear hcw
      go_wp2_with fail
      refine hfi.mono fun e w11 h => ?_
      obtain ⟨Gf, gf, Gl, gl, Gr, gr, rfl, hN11, hc11⟩ := h
      clear hfi y0 y1 y2 y3 y4 y5
      generalize hu : (t.fill (assoc names args)) = u at hN11 ⊢
      have hN12 := TyN.keep (chg_alloc w11 (.cells #[.int .i64 u.kind, .string u.name, .int .i64 u.con, .slice Gf u.fields.length gf, .slice Gl u.list.length gl, .slice Gr u.res.length gr] 39)) (fun _ _ _ _ => id) hN11
      have hb12 := Blk.new w11 39 #[.int .i64 u.kind, .string u.name, .int .i64 u.con, .slice Gf u.fields.length gf, .slice Gl u.list.length gl, .slice Gr u.res.length gr]
      have hcw := (HC10.out.trans hc11).alloc (.cells #[.int .i64 u.kind, .string u.name, .int .i64 u.con, .slice Gf u.fields.length gf, .slice Gl u.list.length gl, .slice Gr u.res.length gr] 39)
      have hso := rsound_any (n + n) _ _ u Gf gf Gl gl Gr gr (Nat.le_refl _) (TyN.tyR hN12)
      rw [show soundT u = true by rw [← hu]; exact HS.out.2.2.2] at hso
      have hc712 := (hc1011.trans hc11).alloc (.cells #[.int .i64 u.kind, .string u.name, .int .i64 u.con, .slice Gf u.fields.length gf, .slice Gl u.list.length gl, .slice Gr u.res.length gr] 39)
      have HC12 := Lib.hid (And.intro hc712 (And.intro hb12 (And.intro hN12 hcw)))
      have HU := Lib.hid hu
      clear hcw hc11 hN11 hN12 hb12 hc712 hc1011 hu
      go_wp2_with fail
      generalize w11.alloc (.cells #[.int .i64 u.kind, .string u.name, .int .i64 u.con, .slice Gf u.fields.length gf, .slice Gl u.list.length gl, .slice Gr u.res.length gr] 39) = W12 at hso HC12 ⊢
      generalize w11.heap.size = g12 at HC12 ⊢
      refine hso.mono fun e w13 h => ?_
      obtain ⟨rfl, hc13⟩ := h
      clear hso
      obtain ⟨y0, y1, y2, y3, y4, y5⟩ := ((HC12.out.1.trans hc13).blk HL.out.2.1 id).cells6
      obtain ⟨x0, x1, x2, x3, x4, x5⟩ := (hc13.blk HC12.out.2.1 id).cells6
      have hsm := rsame_any (n + n) w13.heap.size w13 v u Ff ff Fl fl Fr fr Gf gf Gl gl Gr gr (Nat.le_refl _) (TyN.tyR (TyN.keep (HC12.out.1.trans hc13) (fun _ _ _ _ => id) HL.out.2.2.2)) (TyN.tyR (TyN.keep hc13 (fun _ _ _ _ => id) HC12.out.2.2.1))
      rw [show eqB v u = true from eqB_true.2 (HV.out.symm.trans HU.out)] at hsm
      have HC13 := Lib.hid (HC12.out.2.2.2.trans hc13)
      clear hc13
      go_wp2_with fail
      refine hsm.mono fun e w14 h => ?_
      obtain ⟨rfl, hc14⟩ := h
      clear hsm
      go_wp2_with fail
      go_ret
      exact ⟨rfl, HC13.out.trans hc14⟩
theorem typesFill_walk (n B : Nat) (w : World) (t : Ty) (names : List ByteArray) (args : List Ty) (Af : Option Addr) (cf : Nat) (Al : Option Addr) (cl : Nat) (Ar : Option Addr) (cr : Nat) (An : Option Addr) (cn : Nat) (Aa : Option Addr) (ca : Nat) (hB : B ≤ w.heap.size) (hTab : Tabs w)
    (hT : TyR n B w (tyCells t.kind t.name t.con Af t.fields.length cf Al t.list.length cl Ar t.res.length cr) t) (hN : StrsR B w (.slice An names.length cn) names) (hnl : names.length ≤ 1048576) (hA : TysR n B w (.slice Aa args.length ca) args) (hal : args.length ≤ 1048576) :
    Calls Tryd.prog 13 #[.agg #[.int .i64 t.kind, .string t.name, .int .i64 t.con, .slice Af t.fields.length cf, .slice Al t.list.length cl, .slice Ar t.res.length cr], .slice An names.length cn, .slice Aa args.length ca] w fun e w' => e = .returned (.bool true) ∧ Chg (fun _ _ => False) w w' := by
  cases hs : soundT t with
  | false => exact typesFill_form1 n B w t names args Af cf Al cl Ar cr An cn Aa ca hB hTab hT hN hnl hA hal hs
  | true =>
    cases hs2 : args.all soundT with
    | false => exact typesFill_form2 n B w t names args Af cf Al cl Ar cr An cn Aa ca hB hTab hT hN hnl hA hal hs hs2
    | true =>
      by_cases hok : names.length = args.length ∧ names.Nodup
      · cases hso : soundT (t.fill (assoc names args)) with
        | false => exact typesFill_large n B w t names args Af cf Al cl Ar cr An cn Aa ca hB hTab hT hN hnl hA hal hs hs2 hok hso
        | true => exact typesFill_ok n B w t names args Af cf Al cl Ar cr An cn Aa ca hB hTab hT hN hnl hA hal hs hs2 hok hso
      · exact typesFill_arg n B w t names args Af cf Al cl Ar cr An cn Aa ca hB hTab hT hN hnl hA hal hs hs2 hok
end Go.Proofs.YtefiefckjoledaaDoor
