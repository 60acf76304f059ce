/-
  The reference's writer, onwards: lists of numbers, instructions, a module.
-/
import Derived.Test.YtfmhedpjkpaohaaRef1
namespace Go.Proofs.Ytfmhedpjkpaohaa
open Go.RowKit
set_option linter.unusedVariables false
set_option linter.unusedSimpArgs false

set_option maxRecDepth 100000 in
theorem oints_any (g base B : Nat) (w : World) (bs : List Nat) (form : Bool) (A : Option Addr) (n c : Nat) (l : List Int) (hB : B ≤ base) (hl : IntsR B w (.slice A n c) l) (hwr : Wr 65 w g base form bs) (hlen : bs.length + (10 + (l.map fun _ => 10).sum) ≤ 1099511627776) (hn : n ≤ 1099511627776) :
   Calls Try.prog 26 #[.pointer (some ⟨g, 0, none⟩), .slice A n c] w (EmitE 65 g base form bs (10 + (l.map fun _ => 10).sum) (encL (encI 0) l) w) := by
  have hlenl := hl.len.1
  have Hn := Lib.hid hlenl
  clear hlenl
  go_enter Try.func26, Try.ntmps26
  go_wp2_with fail
  refine (osmall_any g base _ bs form _ _ (by omega) (by unfold I64; omega) hwr (by omega)).mono fun e w1 h1 => ?_
  obtain ⟨rfl, h1⟩ := h1
  rw [Hn.out] at h1
  have H1 := Lib.hid h1
  clear h1
  go_wp2_with fail
  go_loopw [4] (fun i wr => EmitRel 65 g base form w bs 10 (fun _ => 10) (encI 0 l.length) (encI 0) l i wr) (fun i _ => n - (intOf i).toNat)
  case atStart => exact EmitRel.start H1.out
  case round =>
    clear H1
    obtain ⟨k, hk, rfl, form', ys, hx⟩ := hrel
    have Hx := Lib.hid hx
    by_cases hlt : k < n
    · obtain ⟨b, o, x, rfl, hkx, hi, hcell⟩ := (hl.keep hx.chg (letsM_MW hB)).at_ (k := k) (by have := Hn.out; omega)
      have hsum := sum_take (fun _ : Int => 10) l k
      have hll := hx.length
      have Hkx := Lib.hid hkx
      clear hx hkx hk
      go_wp2_with fail
      refine (osmall_any g base _ (bs ++ ys) form' x 0 (by omega) hi Hx.out.wr (by omega)).mono fun e w2 h2 => ?_
      obtain ⟨rfl, h2⟩ := h2
      have H2 := Lib.hid h2
      clear h2
      go_wp2_with fail
      go_roundw
      case rel => exact Hx.out.step Hkx.out H2.out
      case measure => simp [intOf]; omega
    · clear hx
      go_wp2_with fail
      go_end0
      have h3 : l.take k = l := List.take_of_length_le (by have := Hn.out; omega)
      have h4 := Hx.out
      rw [h3] at h4
      exact ⟨rfl, form', ys, h4⟩


set_option maxRecDepth 100000 in
set_option maxHeartbeats 1000000 in
theorem ocode_any (g base B : Nat) (w : World) (bs : List Nat) (form : Bool) (A : Option Addr) (n c : Nat) (l : List InstrD) (hB : B ≤ base) (hl : InstrsR B w (.slice A n c) l) (hwr : Wr 65 w g base form bs) (hlen : bs.length + (10 + (l.map cInstr).sum) ≤ 1099511627776) (hn : n ≤ 1099511627776) :
   Calls Try.prog 27 #[.pointer (some ⟨g, 0, none⟩), .slice A n c] w (EmitE 65 g base form bs (10 + (l.map cInstr).sum) (encL encInstr l) w) := by
  have hlenl := hl.len.1
  have Hn := Lib.hid hlenl
  clear hlenl
  have Hm := Lib.hid (letsM_MW (T := 65) hB)
  go_enter Try.func27, Try.ntmps27
  go_wp2_with fail
  refine (osmall_any g base _ bs form _ _ (by omega) (by unfold I64; omega) hwr (by omega)).mono fun e w1 h1 => ?_
  obtain ⟨rfl, h1⟩ := h1
  rw [Hn.out] at h1
  have H1 := Lib.hid h1
  clear h1
  go_wp2_with fail
  go_loopw [4] (fun i wr => EmitRel 65 g base form w bs 10 cInstr (encI 0 l.length) encInstr l i wr) (fun i _ => n - (intOf i).toNat)
  case atStart => exact EmitRel.start H1.out
  case round =>
    clear H1
    obtain ⟨k, hk, rfl, f0, y0, hx⟩ := hrel
    have hxl := hx.length
    by_cases hlt : k < n
    · obtain ⟨bb, o, x, A', c', rfl, hkx, hi1, hi2, hi3, hi4, hlc, hcells⟩ := (hl.keep hx.chg Hm.out).at3 (k := k) (by have := Hn.out; omega)
      have hsum := sum_at cInstr hkx
      have hcx : cInstr x = 50 + (x.cases.map cCase).sum := rfl
      have hcl := len_le_sum cCase (fun _ => by unfold cCase; omega) x.cases
      rw [hcx] at hsum
      have Hcx := Lib.hid hcx
      have Hkx := Lib.hid hkx
      have Hc := Lib.hid hcells
      have hx0 := EmitX.refl hx.wr
      have Hx := Lib.hid hx
      obtain ⟨d0, d1, d2, d3, d4⟩ := hcells _ _ (Chg.refl _ _) Hm.out
      clear hcx hkx hcells hx hk hl
      obtain ⟨wo, rfl⟩ : ∃ wo : World, wo = wr := ⟨_, rfl⟩
      go_wp2_with fail
      refine (osmall_any g base _ _ _ x.op 0 (by omega) hi1 hx0.wr (by have := hx0.length; omega)).mono fun e w1 h => ?_
      obtain ⟨rfl, h⟩ := h
      obtain ⟨f1, y1, hx1⟩ := hx0.then h
      obtain ⟨_, _, hch⟩ := h
      replace hch := hch.chg
      clear d0 d1 d2 d3 d4
      obtain ⟨d0, d1, d2, d3, d4⟩ := Hc.out _ _ hx1.chg Hm.out
      clear hch hx0
      go_wp2_with fail
      refine (osmall_any g base _ _ _ x.a (-1) (by omega) hi2 hx1.wr (by have := hx1.length; omega)).mono fun e w2 h => ?_
      obtain ⟨rfl, h⟩ := h
      obtain ⟨f2, y2, hx2⟩ := hx1.then h
      obtain ⟨_, _, hch⟩ := h
      replace hch := hch.chg
      clear d0 d1 d2 d3 d4
      obtain ⟨d0, d1, d2, d3, d4⟩ := Hc.out _ _ hx2.chg Hm.out
      clear hch hx1
      go_wp2_with fail
      refine (osmall_any g base _ _ _ x.b (-1) (by omega) hi3 hx2.wr (by have := hx2.length; omega)).mono fun e w3 h => ?_
      obtain ⟨rfl, h⟩ := h
      obtain ⟨f3, y3, hx3⟩ := hx2.then h
      obtain ⟨_, _, hch⟩ := h
      replace hch := hch.chg
      clear d0 d1 d2 d3 d4
      obtain ⟨d0, d1, d2, d3, d4⟩ := Hc.out _ _ hx3.chg Hm.out
      clear hch hx2
      go_wp2_with fail
      refine (onum_any g base _ _ _ x.n hi4 hx3.wr (by have := hx3.length; omega)).mono fun e w4 h => ?_
      replace h := h.emit (most := 10) (encN_u64 hi4)
      obtain ⟨rfl, h⟩ := h
      obtain ⟨f4, y4, hx4⟩ := hx3.then h
      obtain ⟨_, _, hch⟩ := h
      replace hch := hch.chg
      clear d0 d1 d2 d3 d4
      obtain ⟨d0, d1, d2, d3, d4⟩ := Hc.out _ _ hx4.chg Hm.out
      clear hch hx3
      go_wp2_with fail
      refine (osmall_any g base _ _ _ _ 0 (by omega) (by unfold I64; omega) hx4.wr (by have := hx4.length; omega)).mono fun e w5 h => ?_
      obtain ⟨rfl, h⟩ := h
      obtain ⟨f5, y5, hx5⟩ := hx4.then h
      obtain ⟨_, _, hch⟩ := h
      replace hch := hch.chg
      clear d0 d1 d2 d3 d4
      obtain ⟨d0, d1, d2, d3, d4⟩ := Hc.out _ _ hx5.chg Hm.out
      clear hch hx4
      have Hx5 := Lib.hid hx5
      clear hx5 d0 d1 d2 d3 d4 hi1 hi2 hi3 hi4
      go_wp2_with fail
      go_loopw [5] (fun i wr => EmitRel 65 g base f0 wo (bs ++ y0) (0 + 10 + 10 + 10 + 10 + 10) cCase (seqO (seqO (seqO (seqO (seqO (some []) (encI 0 x.op)) (encI (-1) x.a)) (encI (-1) x.b)) (some (encN x.n))) (encI 0 x.cases.length)) encCase x.cases i wr) (fun i _ => x.cases.length - (intOf i).toNat)
      case atStart => exact EmitRel.start ⟨_, _, Hx5.out⟩
      case round =>
        clear Hx5
        obtain ⟨q, hq, rfl, f6, y6, hx6⟩ := hrel
        have hxl6 := hx6.length
        obtain ⟨d0, d1, d2, d3, d4⟩ := Hc.out _ _ hx6.chg Hm.out
        clear d0 d1 d2 d3
        by_cases hltq : q < x.cases.length
        · obtain ⟨bz, oz, z, rfl, hqz, hz1, hz2, hz3, z0, z1, z2, z3⟩ := (hlc.keep hx6.chg Hm.out).at_ hltq
          have hsumz := sum_at cCase hqz
          rw [show cCase z = 40 from rfl] at hsumz
          have hb := Blk.new wr 79 #[.bool z.send, .int .i64 z.chan, .int .i64 z.val, .int .i64 z.to]
          have hc0 := chg_alloc wr (.cells #[.bool z.send, .int .i64 z.chan, .int .i64 z.val, .int .i64 z.to] 79)
          have hx0 := (EmitX.refl hx6.wr).old hc0
          have Hqz := Lib.hid hqz
          have Hx6 := Lib.hid hx6
          clear hqz hx6 hq hc0
          obtain ⟨z, zc, zv, zt⟩ := z
          simp only at *
          cases z
          all_goals
            go_wp2_with fail
            refine (onum_z g base _ _ _ _ (by omega) (by unfold U64; omega) hx0.wr (by have := hx0.length; omega)).mono fun e w1 h => ?_
            replace h := h.emit (most := 10) (encN_u64 (by unfold U64; omega))
            obtain ⟨rfl, h⟩ := h
            obtain ⟨f1, y1, hx1⟩ := hx0.then h
            obtain ⟨_, _, hch⟩ := h
            replace hch := hch.chg
            replace hb := hch.blk hb (by rintro ⟨_, h | h⟩ <;> exact absurd h (by decide))
            obtain ⟨e0, e1, e2, e3⟩ := hb.cells4
            clear hch hx0
            go_wp2_with fail
            refine (osmall_any g base _ _ _ zc 0 (by omega) hz1 hx1.wr (by have := hx1.length; omega)).mono fun e w2 h => ?_
            obtain ⟨rfl, h⟩ := h
            obtain ⟨f2, y2, hx2⟩ := hx1.then h
            obtain ⟨_, _, hch⟩ := h
            replace hch := hch.chg
            clear e0 e1 e2 e3
            replace hb := hch.blk hb (by rintro ⟨_, h | h⟩ <;> exact absurd h (by decide))
            obtain ⟨e0, e1, e2, e3⟩ := hb.cells4
            clear hch hx1
            go_wp2_with fail
            refine (osmall_any g base _ _ _ zv (-1) (by omega) hz2 hx2.wr (by have := hx2.length; omega)).mono fun e w3 h => ?_
            obtain ⟨rfl, h⟩ := h
            obtain ⟨f3, y3, hx3⟩ := hx2.then h
            obtain ⟨_, _, hch⟩ := h
            replace hch := hch.chg
            clear e0 e1 e2 e3
            replace hb := hch.blk hb (by rintro ⟨_, h | h⟩ <;> exact absurd h (by decide))
            obtain ⟨e0, e1, e2, e3⟩ := hb.cells4
            clear hch hx2
            go_wp2_with fail
            refine (osmall_any g base _ _ _ zt 0 (by omega) hz3 hx3.wr (by have := hx3.length; omega)).mono fun e w4 h => ?_
            obtain ⟨rfl, h⟩ := h
            obtain ⟨f4, y4, hx4⟩ := hx3.then h
            obtain ⟨_, _, hch⟩ := h
            replace hch := hch.chg
            clear e0 e1 e2 e3
            replace hb := hch.blk hb (by rintro ⟨_, h | h⟩ <;> exact absurd h (by decide))
            obtain ⟨e0, e1, e2, e3⟩ := hb.cells4
            clear hch hx3
            clear e0 e1 e2 e3 hb d4
            have Hx4 := Lib.hid hx4
            clear hx4
            go_wp2_with fail
            go_roundw
            case rel => exact Hx6.out.step Hqz.out (Emit.mono ⟨_, _, Hx4.out⟩ (by unfold cCase; omega) (by simp [encCase, encFlag, seqO_assoc, seqO_nil_l, encN_lt]))
            case measure => simp [intOf]; omega
        · have h3 : x.cases.take q = x.cases := List.take_of_length_le (by omega)
          rw [h3] at hx6
          have Hx6 := Lib.hid hx6
          clear hx6 hq h3 hlc
          go_wp2_with fail
          go_roundw
          case rel => exact Hx.out.step Hkx.out (Emit.mono ⟨_, _, Hx6.out⟩ (by rw [Hcx.out]; omega) (by simp [encInstr, encL, seqO_assoc, seqO_nil_l]))
          case measure => simp [intOf]; omega
    · have h3 : l.take k = l := List.take_of_length_le (by have := Hn.out; omega)
      rw [h3] at hx
      have Hx := Lib.hid hx
      clear hx hk h3 hl
      go_wp2_with fail
      go_end0
      exact ⟨rfl, f0, y0, Hx.out⟩
end Go.Proofs.Ytfmhedpjkpaohaa
