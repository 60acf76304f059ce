/-
  The reference's Bytes: the bytes of a module, or why there are none.
-/
import Derived.Test.YtfmhedpjkpaohaaRef2
namespace Go.Proofs.Ytfmhedpjkpaohaa
open Go.RowKit
set_option linter.unusedVariables false
set_option linter.unusedSimpArgs false

set_option maxRecDepth 100000 in
set_option maxHeartbeats 1000000 in
theorem bytes_any (w : World) (B : Nat) (v : Value) (m : ModD) (hBw : B ≤ w.heap.size) (hm : ModR B w v m) (hlen : cMod m ≤ 1099511627776) :
   Calls Try.prog 12 #[v] w (EncRes m w) := by
  obtain ⟨types, funcs⟩ := m
  obtain ⟨A, c, A', c', rfl, hT, hF⟩ := hm
  simp only at hT hF ⊢
  unfold cMod at hlen
  simp only at hlen
  have hnT := len_le_sum cShape (fun _ => by unfold cShape cInts; omega) types
  have hnF := len_le_sum cFunc (fun _ => by unfold cFunc cInts; omega) funcs
  have hw00 := chg_alloc w (.cells #[.slice A types.length c, .slice A' funcs.length c'] 25)
  have hw0 := hw00.alloc (.cells #[.slice none 0 0, .bool false] 65)
  have hbel : Below w.heap.size w ((w.alloc (.cells #[.slice A types.length c, .slice A' funcs.length c'] 25)).alloc (.cells #[.slice none 0 0, .bool false] 65)) := hw0.below (fun _ _ h => h.elim) (Nat.le_refl _)
  have hb := (Blk.new w 25 #[.slice A types.length c, .slice A' funcs.length c']).alloc (.cells #[.slice none 0 0, .bool false] 65)
  obtain ⟨bs0, hbs, hbl⟩ : ∃ l : List Nat, l = [] ∧ l.length ≤ 0 := ⟨[], rfl, by simp⟩
  have hwr : Wr 65 ((w.alloc (.cells #[.slice A types.length c, .slice A' funcs.length c'] 25)).alloc (.cells #[.slice none 0 0, .bool false] 65)) (w.heap.size + 1) w.heap.size false bs0 := by
    rw [hbs]
    have h := Blk.new (w.alloc (.cells #[.slice A types.length c, .slice A' funcs.length c'] 25)) 65 #[.slice none 0 0, .bool false]
    exact ⟨by omega, none, 0, by simpa using h, World.ownsRow_nil _ _ _ _⟩
  replace hT := hT.keep hw0 (fun _ _ _ => id)
  replace hF := hF.keep hw0 (fun _ _ _ => id)
  have hx0 := EmitX.refl hwr
  have Hbs := Lib.hid hbs
  clear hbs
  have Hm := Lib.hid (letsM_MW (T := 65) hBw)
  have hB := hBw
  go_enter Try.func12, Try.ntmps12
  go_wp2_with fail
  clear hw00 hw0 hwr
  generalize hw0e : (w.alloc (.cells #[.slice A types.length c, .slice A' funcs.length c'] 25)).alloc (.cells #[.slice none 0 0, .bool false] 65) = w0 at hb hT hF hx0 hbel ⊢
  generalize hg : w.heap.size + 1 = g at hx0 ⊢
  generalize hbase : w.heap.size = base at hb hx0 Hm hB hbel ⊢
  obtain ⟨c0, c1⟩ := hb.cells2
  have Hbel := Lib.hid hbel
  have HB0 := Lib.hid hb
  have HW := Lib.hid hbase
  clear hbel hbase hg hw0e
  refine (osmall_any g base _ _ _ _ 0 (by omega) (by unfold I64; omega) hx0.wr (by have := hx0.length; omega)).mono fun e w1 h => ?_
  obtain ⟨rfl, h⟩ := h
  obtain ⟨f1, y1, hx1⟩ := hx0.then h
  obtain ⟨_, _, hch⟩ := h
  replace hch := hch.chg
  have hb1 := hch.blk hb (by rintro ⟨_, h | h⟩ <;> exact absurd h (by decide))
  clear c0 c1 hch hx0
  obtain ⟨c0, c1⟩ := hb1.cells2
  clear hb1
  have Hx1 := Lib.hid hx1
  clear hx1
  go_wp2_with fail
  go_loopw [5] (fun i wr => EmitRel 65 g base false w0 bs0 (0 + 10) cShape (seqO (some []) (encI 0 types.length)) encShape types i wr) (fun i _ => types.length - (intOf i).toNat)
  case atStart => exact EmitRel.start ⟨_, _, Hx1.out⟩
  case round =>
    clear Hx1 c0 c1
    obtain ⟨k, hk, rfl, f0, y0, hx⟩ := hrel
    have hxl := hx.length
    replace hb := hx.chg.blk hb (by rintro ⟨_, h | h⟩ <;> exact absurd h (by decide))
    obtain ⟨c0, c1⟩ := hb.cells2
    by_cases hlt : k < types.length
    · obtain ⟨bb, o, x, A2, c2, rfl, hkx, hj1, hj2, hl2, hcells⟩ := (hT.keep hx.chg Hm.out).at3 hlt
      have hsum := sum_at cShape hkx
      rw [show cShape x = 20 + (10 + (x.list.map fun _ => 10).sum) from rfl] at hsum
      have hnl : x.list.length ≤ 1099511627776 := by have := len_le_sum (fun _ : Int => 10) (fun _ => by omega) x.list; omega
      have Hkx := Lib.hid hkx
      have Hx := Lib.hid hx
      have Hc := Lib.hid hcells
      have hx0 := EmitX.refl hx.wr
      obtain ⟨d0, d1, d2⟩ := hcells _ _ (Chg.refl _ _) Hm.out
      clear hkx hk hx hT hF hcells
      obtain ⟨wo, rfl⟩ : ∃ wo : World, wo = wr := ⟨_, rfl⟩
      go_wp2_with fail
      refine (osmall_any g base _ _ _ x.kind 0 (by omega) hj1 hx0.wr (by have := hx0.length; omega)).mono fun e w1 h => ?_
      obtain ⟨rfl, h⟩ := h
      obtain ⟨f1, y1, hx1⟩ := hx0.then h
      obtain ⟨_, _, hch⟩ := h
      replace hch := hch.chg
      replace hb := hch.blk hb (by rintro ⟨_, h | h⟩ <;> exact absurd h (by decide))
      clear c0 c1
      obtain ⟨c0, c1⟩ := hb.cells2
      clear d0 d1 d2
      obtain ⟨d0, d1, d2⟩ := Hc.out _ _ hx1.chg Hm.out
      replace hl2 := hl2.keep hch Hm.out
      clear hch hx0
      go_wp2_with fail
      refine (oints_any g base B _ _ _ _ _ _ _ hB hl2 hx1.wr (by have := hx1.length; omega) (by omega)).mono fun e w2 h => ?_
      obtain ⟨rfl, h⟩ := h
      obtain ⟨f2, y2, hx2⟩ := hx1.then h
      obtain ⟨_, _, hch⟩ := h
      replace hch := hch.chg
      replace hb := hch.blk hb (by rintro ⟨_, h | h⟩ <;> exact absurd h (by decide))
      clear c0 c1
      obtain ⟨c0, c1⟩ := hb.cells2
      clear d0 d1 d2
      obtain ⟨d0, d1, d2⟩ := Hc.out _ _ hx2.chg Hm.out
      clear hch hx1
      go_wp2_with fail
      refine (osmall_any g base _ _ _ x.res 0 (by omega) hj2 hx2.wr (by have := hx2.length; omega)).mono fun e w3 h => ?_
      obtain ⟨rfl, h⟩ := h
      obtain ⟨f3, y3, hx3⟩ := hx2.then h
      obtain ⟨_, _, hch⟩ := h
      replace hch := hch.chg
      replace hb := hch.blk hb (by rintro ⟨_, h | h⟩ <;> exact absurd h (by decide))
      clear c0 c1
      obtain ⟨c0, c1⟩ := hb.cells2
      clear d0 d1 d2
      obtain ⟨d0, d1, d2⟩ := Hc.out _ _ hx3.chg Hm.out
      clear hch hx2
      clear d0 d1 d2 hl2 c0 c1 hb
      have Hx3 := Lib.hid hx3
      clear hx3
      go_wp2_with fail
      go_roundw
      case rel => exact Hx.out.step Hkx.out (Emit.mono ⟨_, _, Hx3.out⟩ (by unfold cShape cInts; omega) (by simp [encShape, seqO_assoc, seqO_nil_l]))
      case measure => simp [intOf]; omega
    · have h3 : types.take k = types := List.take_of_length_le (by omega)
      rw [h3] at hx hxl
      clear hT
      obtain ⟨hx1, hq⟩ : (EmitX 65 g base false bs0 f0 y0 (0 + 10 + (types.map cShape).sum) (seqO (seqO (some []) (encI 0 types.length)) (allO encShape types)) w0 wr) ∧ True := ⟨hx, trivial⟩
      clear hx hq hk h3
      go_wp2_with fail
      refine (osmall_any g base _ _ _ _ 0 (by omega) (by unfold I64; omega) hx1.wr (by have := hx1.length; omega)).mono fun e w2 h => ?_
      obtain ⟨rfl, h⟩ := h
      obtain ⟨f2, y2, hx2⟩ := hx1.then h
      obtain ⟨_, _, hch⟩ := h
      replace hch := hch.chg
      replace hb := hch.blk hb (by rintro ⟨_, h | h⟩ <;> exact absurd h (by decide))
      clear c0 c1
      obtain ⟨c0, c1⟩ := hb.cells2
      clear hch hx1
      have hx2c := hx2.chg
      have Hx2 := Lib.hid hx2
      clear hx2
      have HB2 := Lib.hid hb
      clear hb
      go_wp2_with fail
      go_loopw [6] (fun i wr => EmitRel 65 g base false w0 bs0 (0 + 10 + (types.map cShape).sum + 10) cFunc (seqO (seqO (seqO (some []) (encI 0 types.length)) (allO encShape types)) (encI 0 funcs.length)) encFunc funcs i wr) (fun i _ => funcs.length - (intOf i).toNat)
      case atStart => exact EmitRel.start ⟨_, _, Hx2.out⟩
      case round =>
        clear Hx2 c0 c1 hx2c HB2
        obtain ⟨k, hk, rfl, f0, y0, hx⟩ := hrel
        have hxl := hx.length
        have hb := hx.chg.blk HB0.out (by rintro ⟨_, h | h⟩ <;> exact absurd h (by decide))
        obtain ⟨c0, c1⟩ := hb.cells2
        by_cases hlt : k < funcs.length
        · obtain ⟨bb, o, x, A1, c1', A2, c2, A3, c3, rfl, hkx, hj1, hj2, hl1, hl2, hl3, d0, d1, d2, d3, d4⟩ := (hF.keep hx.chg Hm.out).at_ hlt
          have hsum := sum_at cFunc hkx
          have hcx : cFunc x = 30 + (10 + (x.locals.map fun _ => 10).sum) + (10 + (x.caps.map fun _ => 10).sum) + (x.code.map cInstr).sum := rfl
          rw [hcx] at hsum
          have hn1 : x.locals.length ≤ 1099511627776 := by have := len_le_sum (fun _ : Int => 10) (fun _ => by omega) x.locals; omega
          have hn2 : x.caps.length ≤ 1099511627776 := by have := len_le_sum (fun _ : Int => 10) (fun _ => by omega) x.caps; omega
          have hn3 : x.code.length ≤ 1099511627776 := by have := len_le_sum cInstr (fun _ => by unfold cInstr; omega) x.code; omega
          have Hkx := Lib.hid hkx
          have Hx := Lib.hid hx
          have Hcx := Lib.hid hcx
          have hbx := Blk.new wr 51 #[.int .i64 x.params, .slice A1 x.locals.length c1', .slice A2 x.caps.length c2, .int .i64 x.res, .slice A3 x.code.length c3]
          have hc0 := chg_alloc wr (.cells #[.int .i64 x.params, .slice A1 x.locals.length c1', .slice A2 x.caps.length c2, .int .i64 x.res, .slice A3 x.code.length c3] 51)
          have hx0 := (EmitX.refl hx.wr).old hc0
          replace hl1 := hl1.keep hc0 (fun _ _ _ => id)
          replace hl2 := hl2.keep hc0 (fun _ _ _ => id)
          replace hl3 := hl3.keep hc0 (fun _ _ _ => id)
          clear hkx hk hx hc0 hF hcx hb
          obtain ⟨wo, rfl⟩ : ∃ wo : World, wo = wr := ⟨_, rfl⟩
          go_wp2_with fail
          refine (osmall_any g base _ _ _ x.params 0 (by omega) hj1 hx0.wr (by have := hx0.length; omega)).mono fun e w1 h => ?_
          obtain ⟨rfl, h⟩ := h
          obtain ⟨f1, y1, hx1⟩ := hx0.then h
          obtain ⟨_, _, hch⟩ := h
          replace hch := hch.chg
          replace hbx := hch.blk hbx (by rintro ⟨_, h | h⟩ <;> exact absurd h (by decide))
          obtain ⟨e0, e1, e2, e3, e4⟩ := hbx.cells5
          replace hl1 := hl1.keep hch Hm.out
          replace hl2 := hl2.keep hch Hm.out
          replace hl3 := hl3.keep hch Hm.out
          clear c0 c1
          clear hch hx0
          go_wp2_with fail
          refine (oints_any g base B _ _ _ _ _ _ _ hB hl1 hx1.wr (by have := hx1.length; omega) (by omega)).mono fun e w2 h => ?_
          obtain ⟨rfl, h⟩ := h
          obtain ⟨f2, y2, hx2⟩ := hx1.then h
          obtain ⟨_, _, hch⟩ := h
          replace hch := hch.chg
          clear e0 e1 e2 e3 e4
          replace hbx := hch.blk hbx (by rintro ⟨_, h | h⟩ <;> exact absurd h (by decide))
          obtain ⟨e0, e1, e2, e3, e4⟩ := hbx.cells5
          replace hl1 := hl1.keep hch Hm.out
          replace hl2 := hl2.keep hch Hm.out
          replace hl3 := hl3.keep hch Hm.out
          clear hch hx1
          go_wp2_with fail
          refine (oints_any g base B _ _ _ _ _ _ _ hB hl2 hx2.wr (by have := hx2.length; omega) (by omega)).mono fun e w3 h => ?_
          obtain ⟨rfl, h⟩ := h
          obtain ⟨f3, y3, hx3⟩ := hx2.then h
          obtain ⟨_, _, hch⟩ := h
          replace hch := hch.chg
          clear e0 e1 e2 e3 e4
          replace hbx := hch.blk hbx (by rintro ⟨_, h | h⟩ <;> exact absurd h (by decide))
          obtain ⟨e0, e1, e2, e3, e4⟩ := hbx.cells5
          replace hl1 := hl1.keep hch Hm.out
          replace hl2 := hl2.keep hch Hm.out
          replace hl3 := hl3.keep hch Hm.out
          clear hch hx2
          go_wp2_with fail
          refine (osmall_any g base _ _ _ x.res 0 (by omega) hj2 hx3.wr (by have := hx3.length; omega)).mono fun e w4 h => ?_
          obtain ⟨rfl, h⟩ := h
          obtain ⟨f4, y4, hx4⟩ := hx3.then h
          obtain ⟨_, _, hch⟩ := h
          replace hch := hch.chg
          clear e0 e1 e2 e3 e4
          replace hbx := hch.blk hbx (by rintro ⟨_, h | h⟩ <;> exact absurd h (by decide))
          obtain ⟨e0, e1, e2, e3, e4⟩ := hbx.cells5
          replace hl1 := hl1.keep hch Hm.out
          replace hl2 := hl2.keep hch Hm.out
          replace hl3 := hl3.keep hch Hm.out
          clear hch hx3
          go_wp2_with fail
          refine (ocode_any g base B _ _ _ _ _ _ _ hB hl3 hx4.wr (by have := hx4.length; omega) (by omega)).mono fun e w5 h => ?_
          obtain ⟨rfl, h⟩ := h
          obtain ⟨f5, y5, hx5⟩ := hx4.then h
          obtain ⟨_, _, hch⟩ := h
          replace hch := hch.chg
          clear e0 e1 e2 e3 e4
          clear hch hx4
          clear hbx hl1 hl2 hl3 hj1 hj2
          have Hx5 := Lib.hid hx5
          clear hx5
          go_wp2_with fail
          go_roundw
          case rel => exact Hx.out.step Hkx.out (Emit.mono ⟨_, _, Hx5.out⟩ (by rw [Hcx.out]; omega) (by simp [encFunc, encL, seqO_assoc, seqO_nil_l]))
          case measure => simp [intOf]; omega
        · have h3 : funcs.take k = funcs := List.take_of_length_le (by omega)
          rw [h3] at hx hxl
          have hx := hx.mono (Nat.le_refl _) (show _ = encMod ⟨types, funcs⟩ by simp [encMod, encL, seqO_assoc, seqO_nil_l])
          rw [Hbs.out] at hx
          obtain ⟨hbg, A5, c5, h5, _⟩ := hx.wr
          simp only [List.nil_append] at h5
          have hyl : y0.length ≤ 1099511627776 := by have := hx.len; omega
          obtain ⟨e0, e1⟩ := h5.cells2
          have Hfin := Lib.hid (fun e => enc_end (e := e) (g := g) (bs := []) (by rw [HW.out]; exact Hbel.out) (by rw [HW.out]; exact hx))
          clear hF h3 hk hx h5 hb
          cases f0
          · by_cases hbig : 1048576 < y0.length
            · go_wp2_with fail
              go_ret2
              exact Hfin.out _ ⟨(fun h => by cases h), fun _ _ => rfl, fun _ h => absurd hbig h⟩
            · go_wp2_with fail
              go_ret2
              refine Hfin.out _ ⟨(fun h => by cases h), fun _ h => absurd h hbig, fun _ _ A6 c6 h6 => ?_⟩
              have h7 := e0.symm.trans h6
              injection h7 with h7
              injection h7 with h7 _ h8
              subst h7 h8
              rfl
          · go_wp2_with fail
            go_ret2
            exact Hfin.out _ ⟨fun _ => rfl, (fun h => by cases h), (fun h => by cases h)⟩
end Go.Proofs.Ytfmhedpjkpaohaa
