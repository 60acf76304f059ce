/-
  The walks that compare modules, on both sides.
-/
import Derived.Test.YtfmhedpjkpaohaaSame2
namespace Go.Proofs.Ytfmhedpjkpaohaa
open Go.RowKit
set_option linter.unusedVariables false
set_option linter.unusedSimpArgs false


set_option maxRecDepth 100000 in
theorem csame_any (w : World) (B : Nat) (va vb : Value) (a b : ModD) (ha : ModR B w va a) (hb : ModR B w vb b) (hn : cMod a ≤ 1099511627776) (hn' : cMod b ≤ 1099511627776) :
    Calls Try.prog 18 #[va, vb] w (BoolRes (sameMod a b) w) := by
  obtain ⟨ta, fa⟩ := a
  obtain ⟨tb, fb⟩ := b
  obtain ⟨A1, c1, A2, c2, rfl, h1, h2⟩ := ha
  obtain ⟨A3, c3, A4, c4, rfl, h3, h4⟩ := hb
  unfold cMod at hn hn'
  simp only at hn hn' h1 h2 h3 h4 ⊢
  have hc0 := (chg_alloc w (.cells #[.slice A1 ta.length c1, .slice A2 fa.length c2] 25)).alloc (.cells #[.slice A3 tb.length c3, .slice A4 fb.length c4] 25)
  have hb1 := (Blk.new w 25 #[.slice A1 ta.length c1, .slice A2 fa.length c2]).alloc (.cells #[.slice A3 tb.length c3, .slice A4 fb.length c4] 25)
  have hb2 := Blk.new (w.alloc (.cells #[.slice A1 ta.length c1, .slice A2 fa.length c2] 25)) 25 #[.slice A3 tb.length c3, .slice A4 fb.length c4]
  simp only [World.size_alloc] at hb2
  cases he : sameL sameShape ta tb
  · go_enter Try.func18, Try.ntmps18
    go_wp2_with fail
    refine (eqfShape_any _ B _ _ _ _ _ _ ta tb (h1.keep hc0 (fun _ _ _ => id)) (h3.keep hc0 (fun _ _ _ => id)) (by omega) (by omega)).mono (fun e w1 hh => ?_)
    replace hh := hh.of he
    obtain ⟨rfl, hc1⟩ := hh
    have HC := Lib.hid (hc0.trans hc1)
    have He := Lib.hid he
    clear he h1 h2 h3 h4 hc1 hc0 hb1 hb2
    go_wp2_with fail
    go_ret
    exact BoolRes.of (b := false) ⟨rfl, HC.out⟩ (by simp [sameMod, He.out])
  · go_enter Try.func18, Try.ntmps18
    go_wp2_with fail
    refine (eqfShape_any _ B _ _ _ _ _ _ ta tb (h1.keep hc0 (fun _ _ _ => id)) (h3.keep hc0 (fun _ _ _ => id)) (by omega) (by omega)).mono (fun e w1 hh => ?_)
    replace hh := hh.of he
    obtain ⟨rfl, hc1⟩ := hh
    have hcc := hc0.trans hc1
    obtain ⟨d0, d1⟩ := (hc1.blk hb1 id).cells2
    obtain ⟨e0, e1⟩ := (hc1.blk hb2 id).cells2
    have He := Lib.hid he
    clear he h1 h3 hc1 hc0 hb1 hb2
    replace h2 := h2.keep hcc (fun _ _ _ => id)
    replace h4 := h4.keep hcc (fun _ _ _ => id)
    go_wp2_with fail
    refine (eqfFunc_any _ B _ _ _ _ _ _ fa fb h2 h4 (by omega) (by omega)).mono (fun e w2 hh => ?_)
    obtain ⟨rfl, hc2⟩ := hh
    have HC := Lib.hid (hcc.trans hc2)
    clear hc2 hcc d0 d1 e0 e1
    go_wp2_with fail
    go_ret
    exact BoolRes.of (b := sameL sameFunc fa fb) ⟨rfl, HC.out⟩ (by simp [sameMod, He.out])

set_option maxRecDepth 100000 in
theorem rsame1_any (w : World) (B : Nat) (x y : ShapeD) (A1 : Option Addr) (c1 : Nat) (A2 : Option Addr) (c2 : Nat) (hx1 : IntsR B w (.slice A1 x.list.length c1) x.list) (hy1 : IntsR B w (.slice A2 y.list.length c2) y.list) (hn : cShape x ≤ 1099511627776) (hn' : cShape y ≤ 1099511627776) :
    Calls Try.prog 33 #[.agg #[.int .i64 x.kind, .slice A1 x.list.length c1, .int .i64 x.res], .agg #[.int .i64 y.kind, .slice A2 y.list.length c2, .int .i64 y.res]] w (BoolRes (sameShape x y) w) := by
  have hcx : cShape x = 20 + (10 + 10 * x.list.length) := by simp only [cShape, cInts, sum10]
  have hcy : cShape y = 20 + (10 + 10 * y.list.length) := by simp only [cShape, cInts, sum10]
  rw [hcx] at hn
  rw [hcy] at hn'
  clear hcx hcy
  cases h0 : x.kind == y.kind
  · go_enter Try.func33, Try.ntmps33
    go_wp2_with fail
    go_ret
    exact BoolRes.of (b := false) ⟨rfl, (by repeat (first | exact Chg.refl _ _ | assumption | apply Chg.drewN | apply Chg.alloc | apply Chg.drew))⟩ (by simp [sameShape, h0])
  · cases h1 : x.res == y.res
    · go_enter Try.func33, Try.ntmps33
      go_wp2_with fail
      go_ret
      exact BoolRes.of (b := false) ⟨rfl, (by repeat (first | exact Chg.refl _ _ | assumption | apply Chg.drewN | apply Chg.alloc | apply Chg.drew))⟩ (by simp [sameShape, h0, h1])
    · cases h2 : sameL sameInt x.list y.list
      · go_enter Try.func33, Try.ntmps33
        go_wp2_with fail
        refine (rInts_any _ B _ _ _ _ _ _ x.list y.list ?_ ?_ (by omega) (by omega)).mono (fun e w3 hh => ?_)
        · exact hx1.keep (by repeat (first | exact Chg.refl _ _ | assumption | apply Chg.drewN | apply Chg.alloc | apply Chg.drew)) (fun _ _ _ => id)
        · exact hy1.keep (by repeat (first | exact Chg.refl _ _ | assumption | apply Chg.drewN | apply Chg.alloc | apply Chg.drew)) (fun _ _ _ => id)
        replace hh := hh.of h2
        obtain ⟨rfl, q3, rfl⟩ := hh
        go_wp2_with fail
        go_ret
        exact BoolRes.of (b := false) ⟨rfl, (by repeat (first | exact Chg.refl _ _ | assumption | apply Chg.drewN | apply Chg.alloc | apply Chg.drew))⟩ (by simp [sameShape, h0, h1, h2])
      · go_enter Try.func33, Try.ntmps33
        go_wp2_with fail
        refine (rInts_any _ B _ _ _ _ _ _ x.list y.list ?_ ?_ (by omega) (by omega)).mono (fun e w3 hh => ?_)
        · exact hx1.keep (by repeat (first | exact Chg.refl _ _ | assumption | apply Chg.drewN | apply Chg.alloc | apply Chg.drew)) (fun _ _ _ => id)
        · exact hy1.keep (by repeat (first | exact Chg.refl _ _ | assumption | apply Chg.drewN | apply Chg.alloc | apply Chg.drew)) (fun _ _ _ => id)
        replace hh := hh.of h2
        obtain ⟨rfl, q3, rfl⟩ := hh
        go_wp2_with fail
        go_ret
        exact BoolRes.of (b := true) ⟨rfl, (by repeat (first | exact Chg.refl _ _ | assumption | apply Chg.drewN | apply Chg.alloc | apply Chg.drew))⟩ (by simp [sameShape, h0, h1, h2])

set_option maxRecDepth 100000 in
theorem neqCase (x y : CaseD) (W : World) : (binOp .neq 79 (.agg #[.bool x.send, .int .i64 x.chan, .int .i64 x.val, .int .i64 x.to]) (.agg #[.bool y.send, .int .i64 y.chan, .int .i64 y.val, .int .i64 y.to])).run Try.prog W = .ok (.bool (!sameCase x y)) W := by
  have hS : Try.prog.underlying 79 = some (.struct (Try.prog.fieldsOf 79)) := by kernel_rfl
  have hP : Try.prog.stoodInHeld 79 = false := by kernel_rfl
  rw [run_neq_struct, run_equalIn_struct W 9999 79 _ _ hS hP]
  simp only [Program.fieldsOf, Try.underlying79]
  simp [Op.eqFields, part, go_sem]
  by_cases h1 : x.send = y.send <;> by_cases h2 : x.chan = y.chan <;> by_cases h3 : x.val = y.val <;> by_cases h4 : x.to = y.to <;> simp [sameCase, h1, h2, h3, h4]
def rinstrRel (n : Nat) (w : World) (xs ys : List CaseD) (i : Value) (wr : World) : Prop := ∃ k : Nat, k ≤ n ∧ i = .int .i64 k ∧ sameL sameCase (xs.take k) (ys.take k) = true ∧ Chg (fun _ _ => False) w wr
set_option maxRecDepth 100000 in
theorem rsameI_any (w : World) (B : Nat) (x y : InstrD) (A1 : Option Addr) (c1 : Nat) (A2 : Option Addr) (c2 : Nat) (hx : CasesR B w (.slice A1 x.cases.length c1) x.cases) (hy : CasesR B w (.slice A2 y.cases.length c2) y.cases) (hn : cInstr x ≤ 1099511627776) (hn' : cInstr y ≤ 1099511627776) :
    Calls Try.prog 44 #[.agg #[.int .i64 x.op, .int .i64 x.a, .int .i64 x.b, .int .u64 x.n, .slice A1 x.cases.length c1], .agg #[.int .i64 y.op, .int .i64 y.a, .int .i64 y.b, .int .u64 y.n, .slice A2 y.cases.length c2]] w (BoolRes (sameInstr x y) w) := by
  have hn1 := len_le_sum cCase (fun _ => by unfold cCase; omega) x.cases
  have hn2 := len_le_sum cCase (fun _ => by unfold cCase; omega) y.cases
  unfold cInstr at hn hn'
  cases h0 : x.op != y.op
  · cases h1 : x.a != y.a
    · cases h2 : x.b != y.b
      · cases h3 : ((x.n : Int) != (y.n : Int))
        · cases h4 : ((x.cases.length : Int) != (y.cases.length : Int))
          · have hnn : x.cases.length = y.cases.length := by simp at h4; omega
            have Hnn := Lib.hid hnn
            clear hnn
            have hc0 := (chg_alloc w (.cells #[.int .i64 x.op, .int .i64 x.a, .int .i64 x.b, .int .u64 x.n, .slice A1 x.cases.length c1] 55)).alloc (.cells #[.int .i64 y.op, .int .i64 y.a, .int .i64 y.b, .int .u64 y.n, .slice A2 y.cases.length c2] 55)
            have hb1 := (Blk.new w 55 #[.int .i64 x.op, .int .i64 x.a, .int .i64 x.b, .int .u64 x.n, .slice A1 x.cases.length c1]).alloc (.cells #[.int .i64 y.op, .int .i64 y.a, .int .i64 y.b, .int .u64 y.n, .slice A2 y.cases.length c2] 55)
            have hb2 := Blk.new (w.alloc (.cells #[.int .i64 x.op, .int .i64 x.a, .int .i64 x.b, .int .u64 x.n, .slice A1 x.cases.length c1] 55)) 55 #[.int .i64 y.op, .int .i64 y.a, .int .i64 y.b, .int .u64 y.n, .slice A2 y.cases.length c2]
            simp only [World.size_alloc] at hb2
            go_enter Try.func44, Try.ntmps44
            go_wp2_with fail
            generalize hw0 : (w.alloc (.cells #[.int .i64 x.op, .int .i64 x.a, .int .i64 x.b, .int .u64 x.n, .slice A1 x.cases.length c1] 55)).alloc (.cells #[.int .i64 y.op, .int .i64 y.a, .int .i64 y.b, .int .u64 y.n, .slice A2 y.cases.length c2] 55) = w0 at hc0 hb1 hb2 ⊢
            clear hw0
            have HH := Lib.hid (And.intro h0 (And.intro h1 (And.intro h2 (And.intro h3 h4))))
            clear h0 h1 h2 h3 h4
            go_loopw [5] (fun i wr => rinstrRel x.cases.length w0 x.cases y.cases i wr) (fun i _ => x.cases.length - (intOf i).toNat)
            case atStart => exact ⟨0, Nat.zero_le _, rfl, rfl, Chg.refl _ _⟩
            case round =>
              obtain ⟨k, hk, rfl, ht, hch⟩ := hrel
              have Ht := Lib.hid ht; clear ht
              obtain ⟨-, -, -, -, d4⟩ := (hch.blk hb1 id).cells5
              obtain ⟨-, -, -, -, e4⟩ := (hch.blk hb2 id).cells5
              by_cases hlt : k < x.cases.length
              · obtain ⟨b, o, z, rfl, hkx, _, _, _, z0, z1, z2, z3⟩ := (hx.keep (hc0.trans hch) (fun _ _ _ => id)).at_ hlt
                obtain ⟨b', o', z', rfl, hky, _, _, _, y0, y1, y2, y3⟩ := (hy.keep (hc0.trans hch) (fun _ _ _ => id)).at_ (k := k) (by have := Hnn.out; omega)
                have Hk := Lib.hid (And.intro hkx hky)
                have Hch := Lib.hid (And.intro hc0 hch)
                have hneq := neqCase z z'
                have hlt2 : (k : Int) < (y.cases.length : Int) := by have := Hnn.out; omega
                clear hkx hky hx hy hch hc0 hb1 hb2
                cases he : sameCase z z'
                all_goals
                  rw [he] at hneq
                  have He := Lib.hid he
                  clear he
                  go_wp2_with fail
                  go_quiet (fail)
                  go_wp2
                · go_ret
                  exact BoolRes.of (b := false) ⟨rfl, (Hch.out.1.trans Hch.out.2).drewN _⟩ (by simp [sameInstr, sameL_at Hk.out.1 Hk.out.2 He.out])
                · go_roundw
                  case rel => exact ⟨k + 1, hlt, by simp, sameL_snoc Hk.out.1 Hk.out.2 He.out Ht.out, Hch.out.2.drewN _⟩
                  case measure => simp [intOf]; omega
              · have Hch := Lib.hid (hc0.trans hch)
                clear hx hy hch hc0 hb1 hb2
                go_wp2_with fail
                go_ret
                obtain ⟨h0, h1, h2, h3, h4⟩ := HH.out
                exact BoolRes.of (b := true) ⟨rfl, Hch.out⟩ (by simp [sameInstr, sameL_full Ht.out (by omega) (by have := Hnn.out; omega)]; simp at h0 h1 h2 h3; exact ⟨⟨⟨h0, h1⟩, h2⟩, h3⟩)
          · go_enter Try.func44, Try.ntmps44
            go_wp2_with fail
            go_ret
            exact BoolRes.of (b := false) ⟨rfl, (by repeat (first | exact Chg.refl _ _ | assumption | apply Chg.drewN | apply Chg.alloc | apply Chg.drew))⟩ (by simp at h4; simp [sameInstr, sameL_ne (f := sameCase) (l := x.cases) (r := y.cases) (by omega)])
        · go_enter Try.func44, Try.ntmps44
          go_wp2_with fail
          go_ret
          exact BoolRes.of (b := false) ⟨rfl, (by repeat (first | exact Chg.refl _ _ | assumption | apply Chg.drewN | apply Chg.alloc | apply Chg.drew))⟩ (by simp at h3; simp [sameInstr, h3])
      · go_enter Try.func44, Try.ntmps44
        go_wp2_with fail
        go_ret
        exact BoolRes.of (b := false) ⟨rfl, (by repeat (first | exact Chg.refl _ _ | assumption | apply Chg.drewN | apply Chg.alloc | apply Chg.drew))⟩ (by simp at h2; simp [sameInstr, h2])
    · go_enter Try.func44, Try.ntmps44
      go_wp2_with fail
      go_ret
      exact BoolRes.of (b := false) ⟨rfl, (by repeat (first | exact Chg.refl _ _ | assumption | apply Chg.drewN | apply Chg.alloc | apply Chg.drew))⟩ (by simp at h1; simp [sameInstr, h1])
  · go_enter Try.func44, Try.ntmps44
    go_wp2_with fail
    go_ret
    exact BoolRes.of (b := false) ⟨rfl, (by repeat (first | exact Chg.refl _ _ | assumption | apply Chg.drewN | apply Chg.alloc | apply Chg.drew))⟩ (by simp at h0; simp [sameInstr, h0])
end Go.Proofs.Ytfmhedpjkpaohaa
