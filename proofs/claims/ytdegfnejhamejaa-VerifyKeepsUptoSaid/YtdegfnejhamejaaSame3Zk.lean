/-
  The walks that compare modules, on both sides.
-/
import Derived.Test.YtdegfnejhamejaaSame2Zk
namespace Go.Proofs.Ytdegfnejhamejaa
open Go.RowKit
set_option linter.unusedVariables false
set_option linter.unusedSimpArgs false

set_option maxRecDepth 100000 in
theorem rsame1_any (w : World) (B : Nat) (x y : ShapeD) (A1 : Option Addr) (c1 : Nat) (A2 : Option Addr) (c2 : Nat) (hx1 : IntsR B w (.slice A1 x.list.length c1) x.list) (hy1 : IntsR B w (.slice A2 y.list.length c2) y.list) (hn : cShape x ≤ 1099511627776) (hn' : cShape y ≤ 1099511627776) :
    Calls Try.prog 32 #[.agg #[.int .i64 x.kind, .slice A1 x.list.length c1, .int .i64 x.res], .agg #[.int .i64 y.kind, .slice A2 y.list.length c2, .int .i64 y.res]] w (BoolRes (sameShape x y) w) := by
  have hcx : cShape x = 20 + (10 + 10 * x.list.length) := by simp only [cShape, cInts, sum10]
  have hcy : cShape y = 20 + (10 + 10 * y.list.length) := by simp only [cShape, cInts, sum10]
  rw [hcx] at hn
  rw [hcy] at hn'
  clear hcx hcy
  cases h0 : x.kind == y.kind
  · go_enter Try.func32, Try.ntmps32
    go_wp2_with fail
    go_ret
    exact BoolRes.of (b := false) ⟨rfl, (by repeat (first | exact Chg.refl _ _ | assumption | apply Chg.drewN | apply Chg.alloc | apply Chg.drew))⟩ (by simp [sameShape, h0])
  · cases h1 : x.res == y.res
    · go_enter Try.func32, Try.ntmps32
      go_wp2_with fail
      go_ret
      exact BoolRes.of (b := false) ⟨rfl, (by repeat (first | exact Chg.refl _ _ | assumption | apply Chg.drewN | apply Chg.alloc | apply Chg.drew))⟩ (by simp [sameShape, h0, h1])
    · cases h2 : sameL sameInt x.list y.list
      · go_enter Try.func32, Try.ntmps32
        go_wp2_with fail
        refine (rInts_any _ B _ _ _ _ _ _ x.list y.list ?_ ?_ (by omega) (by omega)).mono (fun e w3 hh => ?_)
        · exact hx1.keep (by repeat (first | exact Chg.refl _ _ | assumption | apply Chg.drewN | apply Chg.alloc | apply Chg.drew)) (fun _ _ _ => id)
        · exact hy1.keep (by repeat (first | exact Chg.refl _ _ | assumption | apply Chg.drewN | apply Chg.alloc | apply Chg.drew)) (fun _ _ _ => id)
        replace hh := hh.of h2
        obtain ⟨rfl, q3, rfl⟩ := hh
        go_wp2_with fail
        go_ret
        exact BoolRes.of (b := false) ⟨rfl, (by repeat (first | exact Chg.refl _ _ | assumption | apply Chg.drewN | apply Chg.alloc | apply Chg.drew))⟩ (by simp [sameShape, h0, h1, h2])
      · go_enter Try.func32, Try.ntmps32
        go_wp2_with fail
        refine (rInts_any _ B _ _ _ _ _ _ x.list y.list ?_ ?_ (by omega) (by omega)).mono (fun e w3 hh => ?_)
        · exact hx1.keep (by repeat (first | exact Chg.refl _ _ | assumption | apply Chg.drewN | apply Chg.alloc | apply Chg.drew)) (fun _ _ _ => id)
        · exact hy1.keep (by repeat (first | exact Chg.refl _ _ | assumption | apply Chg.drewN | apply Chg.alloc | apply Chg.drew)) (fun _ _ _ => id)
        replace hh := hh.of h2
        obtain ⟨rfl, q3, rfl⟩ := hh
        go_wp2_with fail
        go_ret
        exact BoolRes.of (b := true) ⟨rfl, (by repeat (first | exact Chg.refl _ _ | assumption | apply Chg.drewN | apply Chg.alloc | apply Chg.drew))⟩ (by simp [sameShape, h0, h1, h2])

set_option maxRecDepth 100000 in
theorem neqCase (x y : CaseD) (W : World) : (binOp .neq 52 (.agg #[.bool x.send, .int .i64 x.chan, .int .i64 x.val, .int .i64 x.to]) (.agg #[.bool y.send, .int .i64 y.chan, .int .i64 y.val, .int .i64 y.to])).run Try.prog W = .ok (.bool (!sameCase x y)) W := by
  have hS : Try.prog.underlying 52 = some (.struct (Try.prog.fieldsOf 52)) := by kernel_rfl
  have hP : Try.prog.stoodInHeld 52 = false := by kernel_rfl
  rw [run_neq_struct, run_equalIn_struct W 9999 52 _ _ hS hP]
  simp only [Program.fieldsOf, Try.underlying52]
  simp [Op.eqFields, part, go_sem]
  by_cases h1 : x.send = y.send <;> by_cases h2 : x.chan = y.chan <;> by_cases h3 : x.val = y.val <;> by_cases h4 : x.to = y.to <;> simp [sameCase, h1, h2, h3, h4]
def rinstrRel (n : Nat) (w : World) (xs ys : List CaseD) (i : Value) (wr : World) : Prop := ∃ k : Nat, k ≤ n ∧ i = .int .i64 k ∧ sameL sameCase (xs.take k) (ys.take k) = true ∧ Chg (fun _ _ => False) w wr
set_option maxRecDepth 100000 in
theorem rsameI_any (w : World) (B : Nat) (x y : InstrD) (A1 : Option Addr) (c1 : Nat) (A2 : Option Addr) (c2 : Nat) (hx : CasesR B w (.slice A1 x.cases.length c1) x.cases) (hy : CasesR B w (.slice A2 y.cases.length c2) y.cases) (hn : cInstr x ≤ 1099511627776) (hn' : cInstr y ≤ 1099511627776) :
    Calls Try.prog 33 #[.agg #[.int .i64 x.op, .int .i64 x.a, .int .i64 x.b, .int .u64 x.n, .slice A1 x.cases.length c1], .agg #[.int .i64 y.op, .int .i64 y.a, .int .i64 y.b, .int .u64 y.n, .slice A2 y.cases.length c2]] w (BoolRes (sameInstr x y) w) := by
  have hn1 := len_le_sum cCase (fun _ => by unfold cCase; omega) x.cases
  have hn2 := len_le_sum cCase (fun _ => by unfold cCase; omega) y.cases
  unfold cInstr at hn hn'
  cases h0 : x.op != y.op
  · cases h1 : x.a != y.a
    · cases h2 : x.b != y.b
      · cases h3 : ((x.n : Int) != (y.n : Int))
        · cases h4 : ((x.cases.length : Int) != (y.cases.length : Int))
          · have hnn : x.cases.length = y.cases.length := by simp at h4; omega
            have Hnn := Lib.hid hnn
            clear hnn
            have hc0 := (chg_alloc w (.cells #[.int .i64 x.op, .int .i64 x.a, .int .i64 x.b, .int .u64 x.n, .slice A1 x.cases.length c1] 50)).alloc (.cells #[.int .i64 y.op, .int .i64 y.a, .int .i64 y.b, .int .u64 y.n, .slice A2 y.cases.length c2] 50)
            have hb1 := (Blk.new w 50 #[.int .i64 x.op, .int .i64 x.a, .int .i64 x.b, .int .u64 x.n, .slice A1 x.cases.length c1]).alloc (.cells #[.int .i64 y.op, .int .i64 y.a, .int .i64 y.b, .int .u64 y.n, .slice A2 y.cases.length c2] 50)
            have hb2 := Blk.new (w.alloc (.cells #[.int .i64 x.op, .int .i64 x.a, .int .i64 x.b, .int .u64 x.n, .slice A1 x.cases.length c1] 50)) 50 #[.int .i64 y.op, .int .i64 y.a, .int .i64 y.b, .int .u64 y.n, .slice A2 y.cases.length c2]
            simp only [World.size_alloc] at hb2
            go_enter Try.func33, Try.ntmps33
            go_wp2_with fail
            generalize hw0 : (w.alloc (.cells #[.int .i64 x.op, .int .i64 x.a, .int .i64 x.b, .int .u64 x.n, .slice A1 x.cases.length c1] 50)).alloc (.cells #[.int .i64 y.op, .int .i64 y.a, .int .i64 y.b, .int .u64 y.n, .slice A2 y.cases.length c2] 50) = w0 at hc0 hb1 hb2 ⊢
            clear hw0
            have HH := Lib.hid (And.intro h0 (And.intro h1 (And.intro h2 (And.intro h3 h4))))
            clear h0 h1 h2 h3 h4
            go_loopw [5] (fun i wr => rinstrRel x.cases.length w0 x.cases y.cases i wr) (fun i _ => x.cases.length - (intOf i).toNat)
            case atStart => exact ⟨0, Nat.zero_le _, rfl, rfl, Chg.refl _ _⟩
            case round =>
              obtain ⟨k, hk, rfl, ht, hch⟩ := hrel
              have Ht := Lib.hid ht; clear ht
              obtain ⟨-, -, -, -, d4⟩ := (hch.blk hb1 id).cells5
              obtain ⟨-, -, -, -, e4⟩ := (hch.blk hb2 id).cells5
              by_cases hlt : k < x.cases.length
              · obtain ⟨b, o, z, rfl, hkx, _, _, _, z0, z1, z2, z3⟩ := (hx.keep (hc0.trans hch) (fun _ _ _ => id)).at_ hlt
                obtain ⟨b', o', z', rfl, hky, _, _, _, y0, y1, y2, y3⟩ := (hy.keep (hc0.trans hch) (fun _ _ _ => id)).at_ (k := k) (by have := Hnn.out; omega)
                have Hk := Lib.hid (And.intro hkx hky)
                have Hch := Lib.hid (And.intro hc0 hch)
                have hneq := neqCase z z'
                have hlt2 : (k : Int) < (y.cases.length : Int) := by have := Hnn.out; omega
                clear hkx hky hx hy hch hc0 hb1 hb2
                cases he : sameCase z z'
                all_goals
                  rw [he] at hneq
                  have He := Lib.hid he
                  clear he
                  go_wp2_with fail
                  go_quiet (fail)
                  go_wp2
                · go_ret
                  exact BoolRes.of (b := false) ⟨rfl, (Hch.out.1.trans Hch.out.2).drewN _⟩ (by simp [sameInstr, sameL_at Hk.out.1 Hk.out.2 He.out])
                · go_roundw
                  case rel => exact ⟨k + 1, hlt, by simp, sameL_snoc Hk.out.1 Hk.out.2 He.out Ht.out, Hch.out.2.drewN _⟩
                  case measure => simp [intOf]; omega
              · have Hch := Lib.hid (hc0.trans hch)
                clear hx hy hch hc0 hb1 hb2
                go_wp2_with fail
                go_ret
                obtain ⟨h0, h1, h2, h3, h4⟩ := HH.out
                exact BoolRes.of (b := true) ⟨rfl, Hch.out⟩ (by simp [sameInstr, sameL_full Ht.out (by omega) (by have := Hnn.out; omega)]; simp at h0 h1 h2 h3; exact ⟨⟨⟨h0, h1⟩, h2⟩, h3⟩)
          · go_enter Try.func33, Try.ntmps33
            go_wp2_with fail
            go_ret
            exact BoolRes.of (b := false) ⟨rfl, (by repeat (first | exact Chg.refl _ _ | assumption | apply Chg.drewN | apply Chg.alloc | apply Chg.drew))⟩ (by simp at h4; simp [sameInstr, sameL_ne (f := sameCase) (l := x.cases) (r := y.cases) (by omega)])
        · go_enter Try.func33, Try.ntmps33
          go_wp2_with fail
          go_ret
          exact BoolRes.of (b := false) ⟨rfl, (by repeat (first | exact Chg.refl _ _ | assumption | apply Chg.drewN | apply Chg.alloc | apply Chg.drew))⟩ (by simp at h3; simp [sameInstr, h3])
      · go_enter Try.func33, Try.ntmps33
        go_wp2_with fail
        go_ret
        exact BoolRes.of (b := false) ⟨rfl, (by repeat (first | exact Chg.refl _ _ | assumption | apply Chg.drewN | apply Chg.alloc | apply Chg.drew))⟩ (by simp at h2; simp [sameInstr, h2])
    · go_enter Try.func33, Try.ntmps33
      go_wp2_with fail
      go_ret
      exact BoolRes.of (b := false) ⟨rfl, (by repeat (first | exact Chg.refl _ _ | assumption | apply Chg.drewN | apply Chg.alloc | apply Chg.drew))⟩ (by simp at h1; simp [sameInstr, h1])
  · go_enter Try.func33, Try.ntmps33
    go_wp2_with fail
    go_ret
    exact BoolRes.of (b := false) ⟨rfl, (by repeat (first | exact Chg.refl _ _ | assumption | apply Chg.drewN | apply Chg.alloc | apply Chg.drew))⟩ (by simp at h0; simp [sameInstr, h0])
end Go.Proofs.Ytdegfnejhamejaa
