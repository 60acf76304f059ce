/-
  The reference's shapes and Formed.
-/
import Derived.Test.YtfmhedpjkpaohaaRWid
import Derived.Test.YtfmhedpjkpaohaaCheck
namespace Go.Proofs.Ytfmhedpjkpaohaa
open Go.RowKit
set_option linter.unusedVariables false
set_option linter.unusedSimpArgs false

def shpRel (nt : Nat) (w : World) (l : List Int) (i : Value) (wr : World) : Prop := ∃ k : Nat, k ≤ l.length ∧ i = .int .i64 k ∧ partsIn nt (l.take k) = true ∧ wr = w
set_option maxRecDepth 100000 in
theorem rshapes_any (w : World) (B nt : Nat) (A1 : Option Addr) (c1 : Nat) (l : List Int) (hl : IntsR B w (.slice A1 l.length c1) l) (hn : l.length ≤ 1099511627776) :
    Calls Try.prog 32 #[.slice A1 l.length c1, .int .i64 nt] w (BoolRes (idsOk nt l) w) := by
  have HL := Lib.hid hl
  clear hl
  go_enter Try.func32, Try.ntmps32
  go_wp2_with fail
  go_loopw [5] (fun i wr => shpRel nt w l i wr) (fun i _ => l.length - (intOf i).toNat)
  case atStart => exact ⟨0, Nat.zero_le _, rfl, rfl, rfl⟩
  case round =>
    obtain ⟨k, hk, rfl, hp, rfl⟩ := hrel
    have Hp := Lib.hid hp
    clear hp
    by_cases hlt : k < l.length
    · obtain ⟨b, o, x, rfl, hkx, _, d0⟩ := HL.out.at_ (k := k) hlt
      have Hk := Lib.hid hkx
      clear hkx
      by_cases q1 : x < 0
      · go_wp2_with fail
        go_ret
        exact BoolRes.of (b := false) ⟨rfl, Chg.refl _ _⟩ (by unfold idsOk; rw [partsIn_bad Hk.out (by omega)]; simp)
      · by_cases q2 : (nt : Int) ≤ x
        · go_wp2_with fail
          go_ret
          exact BoolRes.of (b := false) ⟨rfl, Chg.refl _ _⟩ (by unfold idsOk; rw [partsIn_bad Hk.out (by omega)]; simp)
        · have HR := Lib.hid (partsIn_take Hk.out Hp.out (by omega) (by omega))
          go_wp2_with fail
          go_roundw
          case rel => exact ⟨k + 1, hlt, by simp, HR.out, rfl⟩
          case measure => simp [intOf]; omega
    · obtain rfl : k = l.length := by omega
      rw [List.take_length] at Hp
      by_cases h1 : (l.length : Int) ≤ 1024
      · have H1 := Lib.hid h1
        go_wp2_with fail
        go_ret
        exact BoolRes.of (b := true) ⟨by simp [h1], Chg.refl _ _⟩ (by have := H1.out; unfold idsOk; rw [Hp.out, decide_eq_true (show l.length ≤ 1024 by omega)]; rfl)
      · have H1 := Lib.hid h1
        go_wp2_with fail
        go_ret
        exact BoolRes.of (b := false) ⟨by simp [h1], Chg.refl _ _⟩ (by have := H1.out; unfold idsOk; rw [decide_eq_false (show ¬ l.length ≤ 1024 by omega)]; rfl)
set_option maxRecDepth 100000 in
set_option maxHeartbeats 1000000 in
theorem rformed_any (w : World) (B : Nat) (v : Value) (m : ModD) (hBw : B ≤ w.heap.size) (hm : ModR B w v m) (hn : cMod m ≤ 1099511627776) :
    Calls Try.prog 16 #[v] w (BoolRes (formedMod m) w) := by
  obtain ⟨A, c, A', c', rfl, hT, hF⟩ := hm
  have hm0 : ModR B w (.agg #[.slice A m.types.length c, .slice A' m.funcs.length c']) m := ⟨A, c, A', c', rfl, hT, hF⟩
  have hb0 := Blk.new w 25 #[.slice A m.types.length c, .slice A' m.funcs.length c']
  have hc0 := chg_alloc w (.cells #[.slice A m.types.length c, .slice A' m.funcs.length c'] 25)
  have hm1 := hm0.keep hc0 (fun _ _ _ => id)
  go_enter Try.func16, Try.ntmps16
  go_wp2_with fail
  refine (rwid_any _ B _ _ m.types (by simp; omega) (hT.keep hc0 (fun _ _ _ => id)) (by unfold cMod at hn; omega)).mono fun e w2 hh => ?_
  obtain ⟨hbel, hh⟩ := hh
  have hc2 := Chg.of_below hbel (fun _ _ => False)
  obtain ⟨ok0, V, rfl, hok⟩ : ∃ (ok0 : Bool) (V : Value), e = .returned (.tuple #[V, .bool ok0]) ∧ ok0 = ((widths m.types).isSome && decide (m.types.length ≤ 256)) := by
    cases hwd : widths m.types with
    | none => rw [hwd] at hh; exact ⟨_, _, hh, rfl⟩
    | some l =>
      rw [hwd] at hh
      obtain ⟨A5, c5, h, _⟩ := hh
      exact ⟨_, _, h, by simp; omega⟩
  have hb2 := hc2.blk hb0 id
  obtain ⟨e0, e1⟩ := hb2.cells2
  have HW := Lib.hid (And.intro hok (And.intro (hc0.trans hc2) hb2))
  have HF := Lib.hid (hF.keep (hc0.trans hc2) (fun _ _ _ => id))
  clear hbel hh hc2 hok hb0 hc0 hm1 hm0 hT hF hb2
  go_wp2_with fail
  have hsum := codeAll_le m.funcs
  have hcm : (m.funcs.map cFunc).sum ≤ 1099511627776 := by unfold cMod at hn; omega
  have hnf : m.funcs.length ≤ 1099511627776 := by have := len_le_sum cFunc (fun _ => by unfold cFunc cInts; omega) m.funcs; omega
  go_loopw [4, 5, 7] (fun v z i wr => checkRel w2 m ok0 v z i wr) (fun _ _ i _ => m.funcs.length - (intOf i).toNat)
  case atStart => exact ⟨0, Nat.zero_le _, rfl, by simp, rfl, Chg.refl _ _⟩
  case round =>
    obtain ⟨k, hk, rfl, rfl, rfl, hch⟩ := hrel
    obtain ⟨sm, hsm⟩ : ∃ sm, codeAll (m.funcs.take k) = sm := ⟨_, rfl⟩
    obtain ⟨ov, hov⟩ : ∃ ov, (ok0 && (m.funcs.take k).all (funcOk m.types.length)) = ov := ⟨_, rfl⟩
    have hsml := codeAll_take_le m.funcs k
    rw [hsm] at hsml ⊢
    rw [hov]
    have hbw := hch.blk HW.out.2.2 id
    obtain ⟨e0, e1⟩ := hbw.cells2
    obtain ⟨wo, rfl⟩ : ∃ wo : World, wo = wr := ⟨_, rfl⟩
    by_cases hlt : k < m.funcs.length
    · obtain ⟨bb, o, x, A5, c5, A6, c6, A7, c7, rfl, hkx, _, _, hl1, hl2, hl3, z0, z1, z2, z3, z4⟩ := (HF.out.keep hch (fun _ _ _ => id)).at_ hlt
      have hcx : cFunc x ≤ 1099511627776 := sum_le_of' hkx hcm
      have hll : x.locals.length ≤ 1099511627776 ∧ x.caps.length ≤ 1099511627776 ∧ x.code.length ≤ 1099511627776 := func_lens hcx
      have hbx := Blk.new wo 51 #[.int .i64 x.params, .slice A5 x.locals.length c5, .slice A6 x.caps.length c6, .int .i64 x.res, .slice A7 x.code.length c7]
      have hcb := chg_alloc wo (.cells #[.int .i64 x.params, .slice A5 x.locals.length c5, .slice A6 x.caps.length c6, .int .i64 x.res, .slice A7 x.code.length c7] 51)
      have hzz : wrap64 ((sm : Int) + (x.code.length : Int)) = ((codeAll (m.funcs.take (k + 1)) : Nat) : Int) := by
        rw [codeAll_take hkx, hsm, wrap64_id] <;> omega
      have HZ := Lib.hid hzz
      have HZ2 := Lib.hid (show ((sm : Int) + (x.code.length : Int)) = ((codeAll (m.funcs.take (k + 1)) : Nat) : Int) by rw [codeAll_take hkx, hsm]; omega)
      have Hk := Lib.hid (And.intro hkx (And.intro hov (And.intro hch (And.intro hcb hsml))))
      have HI := Lib.hid (And.intro (hl1.keep hcb (fun _ _ _ => id)) (And.intro (hl2.keep hcb (fun _ _ _ => id)) (And.intro (hbw.alloc (.cells #[.int .i64 x.params, .slice A5 x.locals.length c5, .slice A6 x.caps.length c6, .int .i64 x.res, .slice A7 x.code.length c7] 51)) hbx)))
      have HLL := Lib.hid hll
      clear hkx hov hch hcb hl1 hl2 hl3 hbw hzz hbx hsm hll hsml hcx
      cases ov
      · go_wp2_with fail
        go_roundw
        case rel => exact ⟨k + 1, hlt, by simp, congrArg Value.bool (by rw [all_take Hk.out.1, ← Bool.and_assoc, Hk.out.2.1]; rfl), by first | exact congrArg (Value.int .i64) HZ.out | exact congrArg (Value.int .i64) HZ2.out, Hk.out.2.2.1.trans Hk.out.2.2.2.1⟩
        case measure => simp [intOf]; omega
      · go_wp2_with fail
        refine (rshapes_any _ B m.types.length A5 c5 x.locals HI.out.1 HLL.out.1).mono fun e w3 hh => ?_
        obtain ⟨rfl, hc3⟩ := hh
        obtain ⟨f0, f1, f2, f3, f4⟩ := (hc3.blk HI.out.2.2.2 id).cells5
        have hm3 := hc3.blk HI.out.2.2.1 id
        have hca := HI.out.2.1.keep hc3 (fun _ _ _ => id)
        obtain ⟨g0, g1⟩ := hm3.cells2
        have H3 := Lib.hid (And.intro hc3 (And.intro hm3 (And.intro hca (hc3.blk HI.out.2.2.2 id))))
        clear hc3 hm3 hca z0 z1 z2 z3 z4 e0 e1
        obtain ⟨p1, hp1⟩ : ∃ p1, idsOk m.types.length x.locals = p1 := ⟨_, rfl⟩
        rw [hp1]
        have HP1 := Lib.hid hp1
        clear hp1
        cases p1
        · go_wp2_with fail
          go_roundw
          case rel => exact ⟨k + 1, hlt, by simp, congrArg Value.bool (by rw [all_take Hk.out.1, ← Bool.and_assoc, Hk.out.2.1]; unfold funcOk; rw [HP1.out]; rfl), by first | exact congrArg (Value.int .i64) HZ.out | exact congrArg (Value.int .i64) HZ2.out, Hk.out.2.2.1.trans (Hk.out.2.2.2.1.trans H3.out.1)⟩
          case measure => simp [intOf]; omega
        · go_wp2_with fail
          refine (rshapes_any _ B m.types.length A6 c6 x.caps H3.out.2.2.1 HLL.out.2.1).mono fun e w4 hh => ?_
          obtain ⟨rfl, hc4⟩ := hh
          obtain ⟨f0, f1, f2, f3, f4⟩ := (hc4.blk H3.out.2.2.2 id).cells5
          obtain ⟨g0, g1⟩ := (hc4.blk H3.out.2.1 id).cells2
          have H4 := Lib.hid hc4
          clear hc4
          obtain ⟨p2, hp2⟩ : ∃ p2, idsOk m.types.length x.caps = p2 := ⟨_, rfl⟩
          rw [hp2]
          have HP2 := Lib.hid hp2
          clear hp2
          cases p2
          · go_wp2_with fail
            go_roundw
            case rel => exact ⟨k + 1, hlt, by simp, congrArg Value.bool (by rw [all_take Hk.out.1, ← Bool.and_assoc, Hk.out.2.1]; unfold funcOk; rw [HP1.out, HP2.out]; rfl), by first | exact congrArg (Value.int .i64) HZ.out | exact congrArg (Value.int .i64) HZ2.out, Hk.out.2.2.1.trans (Hk.out.2.2.2.1.trans (H3.out.1.trans H4.out))⟩
            case measure => simp [intOf]; omega
          · by_cases h3 : 0 ≤ x.params
            · by_cases h4 : x.params ≤ (x.locals.length : Int)
              · by_cases h5 : 0 ≤ x.res
                · have HQ := Lib.hid (And.intro h3 (And.intro h4 h5))
                  go_wp2_with fail
                  go_roundw
                  case rel => exact ⟨k + 1, hlt, by simp, congrArg Value.bool (by rw [all_take Hk.out.1, ← Bool.and_assoc, Hk.out.2.1]; have a := HQ.out; unfold funcOk; rw [HP1.out, HP2.out]; rw [decide_eq_true a.1, decide_eq_true a.2.1, decide_eq_true a.2.2]; rfl), by first | exact congrArg (Value.int .i64) HZ.out | exact congrArg (Value.int .i64) HZ2.out, Hk.out.2.2.1.trans (Hk.out.2.2.2.1.trans (H3.out.1.trans H4.out))⟩
                  case measure => simp [intOf]; omega
                · have HQ := Lib.hid h5
                  go_wp2_with fail
                  go_roundw
                  case rel => exact ⟨k + 1, hlt, by simp, congrArg Value.bool (by rw [all_take Hk.out.1, ← Bool.and_assoc, Hk.out.2.1]; have a := HQ.out; unfold funcOk; rw [HP1.out, HP2.out]; rw [decide_eq_false (p := 0 ≤ x.res) (by omega)]; simp), by first | exact congrArg (Value.int .i64) HZ.out | exact congrArg (Value.int .i64) HZ2.out, Hk.out.2.2.1.trans (Hk.out.2.2.2.1.trans (H3.out.1.trans H4.out))⟩
                  case measure => simp [intOf]; omega
              · have HQ := Lib.hid h4
                go_wp2_with fail
                go_roundw
                case rel => exact ⟨k + 1, hlt, by simp, congrArg Value.bool (by rw [all_take Hk.out.1, ← Bool.and_assoc, Hk.out.2.1]; have a := HQ.out; unfold funcOk; rw [HP1.out, HP2.out]; rw [decide_eq_false (p := x.params ≤ (x.locals.length : Int)) (by omega)]; simp), by first | exact congrArg (Value.int .i64) HZ.out | exact congrArg (Value.int .i64) HZ2.out, Hk.out.2.2.1.trans (Hk.out.2.2.2.1.trans (H3.out.1.trans H4.out))⟩
                case measure => simp [intOf]; omega
            · have HQ := Lib.hid h3
              go_wp2_with fail
              go_roundw
              case rel => exact ⟨k + 1, hlt, by simp, congrArg Value.bool (by rw [all_take Hk.out.1, ← Bool.and_assoc, Hk.out.2.1]; have a := HQ.out; unfold funcOk; rw [HP1.out, HP2.out]; rw [decide_eq_false (p := 0 ≤ x.params) (by omega)]; simp), by first | exact congrArg (Value.int .i64) HZ.out | exact congrArg (Value.int .i64) HZ2.out, Hk.out.2.2.1.trans (Hk.out.2.2.2.1.trans (H3.out.1.trans H4.out))⟩
              case measure => simp [intOf]; omega
    · obtain rfl : k = m.funcs.length := by omega
      rw [List.take_length] at hsm hov
      have HH := Lib.hid (And.intro hov (And.intro hsm hch))
      have HK := Lib.hid hk
      clear hov hsm hch hbw hk hlt hsml
      cases ov
      · go_wp2_with fail
        go_ret
        exact BoolRes.of (b := false) ⟨by first | rfl | simp [*], HW.out.2.1.trans HH.out.2.2⟩ (by have a := HH.out; exact (formed_bad HW.out.1 a.1).symm)
      · by_cases h1 : 1 ≤ (m.funcs.length : Int)
        · by_cases h2 : (m.funcs.length : Int) ≤ 256
          · by_cases h3 : (sm : Int) ≤ 65536
            · have H1 := Lib.hid (And.intro h1 (And.intro h2 h3))
              go_wp2_with fail
              go_ret
              exact BoolRes.of (b := true) ⟨by first | rfl | simp [*], HW.out.2.1.trans HH.out.2.2⟩ (by have a := HH.out; exact (formed_good HW.out.1 a.1 (by have := H1.out; omega) (by have := H1.out; omega) (by have := H1.out; omega)).symm)
            · have H1 := Lib.hid h3
              go_wp2_with fail
              go_ret
              exact BoolRes.of (b := false) ⟨by first | rfl | simp [*], HW.out.2.1.trans HH.out.2.2⟩ (by have a := HH.out; exact (formed_long (by have := H1.out; omega)).symm)
          · have H1 := Lib.hid h2
            go_wp2_with fail
            go_ret
            exact BoolRes.of (b := false) ⟨by first | rfl | simp [*], HW.out.2.1.trans HH.out.2.2⟩ (by have a := HH.out; exact (formed_many (by have := H1.out; omega)).symm)
        · have H1 := Lib.hid h1
          go_wp2_with fail
          go_ret
          exact BoolRes.of (b := false) ⟨by first | rfl | simp [*], HW.out.2.1.trans HH.out.2.2⟩ (by have a := HH.out; exact (formed_few (by have := H1.out; omega)).symm)
end Go.Proofs.Ytfmhedpjkpaohaa
