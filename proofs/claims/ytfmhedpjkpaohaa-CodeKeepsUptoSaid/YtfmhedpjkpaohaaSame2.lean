/-
  The walks that compare parts of modules, on both sides.
-/
import Derived.Test.YtfmhedpjkpaohaaSame1
namespace Go.Proofs.Ytfmhedpjkpaohaa
open Go.RowKit
set_option linter.unusedVariables false
set_option linter.unusedSimpArgs false

theorem sum10 : ∀ l : List Int, (l.map fun _ => 10).sum = 10 * l.length
  | [] => rfl
  | x :: l => by have := sum10 l; simp only [List.map_cons, List.sum_cons, List.length_cons]; omega
theorem sum_le_of {α : Type} (c : α → Nat) {l : List α} {k : Nat} {x : α} {N : Nat} (h : l[k]? = some x) (hl : (l.map c).sum ≤ N) : c x ≤ N := by have := sum_at c h; omega
set_option maxRecDepth 100000 in
theorem eqlCase (x y : CaseD) (W : World) : (binOp .eql 79 (.agg #[.bool x.send, .int .i64 x.chan, .int .i64 x.val, .int .i64 x.to]) (.agg #[.bool y.send, .int .i64 y.chan, .int .i64 y.val, .int .i64 y.to])).run Try.prog W = .ok (.bool (sameCase x y)) W := by
  have hS : Try.prog.underlying 79 = some (.struct (Try.prog.fieldsOf 79)) := by kernel_rfl
  have hP : Try.prog.stoodInHeld 79 = false := by kernel_rfl
  rw [run_eql_struct, run_equalIn_struct W 9999 79 _ _ hS hP]
  simp only [Program.fieldsOf, Try.underlying79]
  simp [Op.eqFields, part, go_sem]
  by_cases h1 : x.send = y.send <;> by_cases h2 : x.chan = y.chan <;> by_cases h3 : x.val = y.val <;> by_cases h4 : x.to = y.to <;> simp [sameCase, h1, h2, h3, h4]
set_option maxRecDepth 100000 in
theorem same211_any (w : World) (x y : CaseD) : Calls Try.prog 42 #[.agg #[.bool x.send, .int .i64 x.chan, .int .i64 x.val, .int .i64 x.to], .agg #[.bool y.send, .int .i64 y.chan, .int .i64 y.val, .int .i64 y.to]] w (BoolRes (sameCase x y) w) := by
  have he := eqlCase x y
  go_enter Try.func42, Try.ntmps42
  go_wp2_with fail
  go_ret
  exact ⟨rfl, ((Chg.refl _ w).alloc _).alloc _⟩

def eqfCaseRel (n : Nat) (w : World) (xs ys : List CaseD) (i : Value) (wr : World) : Prop := ∃ k : Nat, k ≤ n ∧ i = .int .i64 k ∧ sameL sameCase (xs.take k) (ys.take k) = true ∧ Chg (fun _ _ => False) w wr
set_option maxRecDepth 100000 in
theorem eqfCase_any (w : World) (B : Nat) (A A' : Option Addr) (n c n' c' : Nat) (xs ys : List CaseD) (hx : CasesR B w (.slice A n c) xs) (hy : CasesR B w (.slice A' n' c') ys) (hn : xs.length ≤ 1099511627776) (hn' : ys.length ≤ 1099511627776) :
    Calls Try.prog 41 #[.slice A n c, .slice A' n' c', .func (.func 42) #[] #[]] w (BoolRes (sameL sameCase xs ys) w) := by
  have Lx := Lib.hid hx.len.1
  have Ly := Lib.hid hy.len.1
  have hnx : n ≤ 1099511627776 := by have := Lx.out; omega
  have hny : n' ≤ 1099511627776 := by have := Ly.out; omega
  by_cases hnn : n = n'
  · subst hnn
    have hne : ((n : Int) != (n : Int)) = false := by simp
    go_enter Try.func41, Try.ntmps41
    go_wp2_with fail
    go_loopw [17] (fun i wr => eqfCaseRel n w xs ys i wr) (fun i _ => n - (intOf i).toNat)
    case atStart => exact ⟨0, Nat.zero_le _, rfl, rfl, Chg.refl _ _⟩
    case round =>
      obtain ⟨k, hk, rfl, ht, hch⟩ := hrel
      have Ht := Lib.hid ht; clear ht
      by_cases hlt : k < n
      · obtain ⟨b, o, x, rfl, hkx1, _, _, _, d10, d11, d12, d13⟩ := (hx.keep hch (fun _ _ _ => id)).at_ (k := k) (by have := Lx.out; omega)
        obtain ⟨b', o', y, rfl, hkx2, _, _, _, d20, d21, d22, d23⟩ := (hy.keep hch (fun _ _ _ => id)).at_ (k := k) (by have := Ly.out; omega)
        have Hk := Lib.hid (And.intro hkx1 hkx2)
        have hbl1 : b < wr.heap.size := World.block_lt_of_cell? wr _ d10
        have hbl2 : b' < wr.heap.size := World.block_lt_of_cell? wr _ d20
        have Hch := Lib.hid hch
        clear hkx1 hkx2 hx hy hch
        cases he : sameCase x y
        · go_wp2_with fail
          refine (same211_any _ x y).mono (fun e w1 hh => ?_)
          replace hh := hh.of he
          obtain ⟨rfl, hc1⟩ := hh
          have He := Lib.hid he; clear he
          go_wp2_with fail
          go_ret
          exact BoolRes.of (b := false) ⟨rfl, Hch.out.trans (Chg.trans (by repeat (first | exact Chg.refl _ _ | assumption | apply Chg.drewN | apply Chg.alloc | apply Chg.drew)) hc1)⟩ (sameL_at Hk.out.1 Hk.out.2 He.out).symm
        · go_wp2_with fail
          refine (same211_any _ x y).mono (fun e w1 hh => ?_)
          replace hh := hh.of he
          obtain ⟨rfl, hc1⟩ := hh
          have He := Lib.hid he; clear he
          have HC1 := Lib.hid (Hch.out.trans (Chg.trans (((Chg.refl _ wr).alloc _).alloc _) hc1))
          clear hc1
          go_wp2_with fail
          go_roundw
          case rel => exact ⟨k + 1, hlt, by simp, sameL_snoc Hk.out.1 Hk.out.2 He.out Ht.out, HC1.out⟩
          case measure => simp [intOf]; omega
      · have Hch := Lib.hid hch
        clear hx hy hch
        go_wp2_with fail
        go_ret
        exact BoolRes.of (b := true) ⟨rfl, Hch.out⟩ (sameL_full Ht.out (by have := Lx.out; omega) (by have := Ly.out; omega)).symm
  · have hne : ((n : Int) != (n' : Int)) = true := by simp; omega
    have Hnn := Lib.hid hnn; clear hnn
    go_enter Try.func41, Try.ntmps41
    go_wp2_with fail
    go_ret
    exact BoolRes.of (b := false) ⟨rfl, Chg.refl _ _⟩ (sameL_ne (by have := Lx.out; have := Ly.out; have := Hnn.out; omega)).symm

set_option maxRecDepth 100000 in
theorem same21_any (w : World) (B : Nat) (x y : InstrD) (A1 : Option Addr) (c1 : Nat) (A2 : Option Addr) (c2 : Nat) (hx : CasesR B w (.slice A1 x.cases.length c1) x.cases) (hy : CasesR B w (.slice A2 y.cases.length c2) y.cases) (hn : cInstr x ≤ 1099511627776) (hn' : cInstr y ≤ 1099511627776) :
    Calls Try.prog 40 #[.agg #[.int .i64 x.op, .int .i64 x.a, .int .i64 x.b, .int .u64 x.n, .slice A1 x.cases.length c1], .agg #[.int .i64 y.op, .int .i64 y.a, .int .i64 y.b, .int .u64 y.n, .slice A2 y.cases.length c2]] w (BoolRes (sameInstr x y) w) := by
  have hn1 := len_le_sum cCase (fun _ => by unfold cCase; omega) x.cases
  have hn2 := len_le_sum cCase (fun _ => by unfold cCase; omega) y.cases
  unfold cInstr at hn hn'
  cases h0 : x.op == y.op
  · go_enter Try.func40, Try.ntmps40
    go_wp2_with fail
    go_ret
    exact BoolRes.of (b := false) ⟨rfl, (by repeat (first | exact Chg.refl _ _ | assumption | apply Chg.drewN | apply Chg.alloc | apply Chg.drew))⟩ (by simp [sameInstr, h0])
  · cases h1 : x.a == y.a
    · go_enter Try.func40, Try.ntmps40
      go_wp2_with fail
      go_ret
      exact BoolRes.of (b := false) ⟨rfl, (by repeat (first | exact Chg.refl _ _ | assumption | apply Chg.drewN | apply Chg.alloc | apply Chg.drew))⟩ (by simp [sameInstr, h0, h1])
    · cases h2 : x.b == y.b
      · go_enter Try.func40, Try.ntmps40
        go_wp2_with fail
        go_ret
        exact BoolRes.of (b := false) ⟨rfl, (by repeat (first | exact Chg.refl _ _ | assumption | apply Chg.drewN | apply Chg.alloc | apply Chg.drew))⟩ (by simp [sameInstr, h0, h1, h2])
      · cases h3 : ((x.n : Int) == (y.n : Int))
        · go_enter Try.func40, Try.ntmps40
          go_wp2_with fail
          go_ret
          exact BoolRes.of (b := false) ⟨rfl, (by repeat (first | exact Chg.refl _ _ | assumption | apply Chg.drewN | apply Chg.alloc | apply Chg.drew))⟩ (by simp [sameInstr, h0, h1, h2, h3])
        · cases h4 : sameL sameCase x.cases y.cases
          · go_enter Try.func40, Try.ntmps40
            go_wp2_with fail
            refine (eqfCase_any _ B _ _ _ _ _ _ x.cases y.cases ?_ ?_ (by omega) (by omega)).mono (fun e w5 hh => ?_)
            · exact hx.keep (by repeat (first | exact Chg.refl _ _ | assumption | apply Chg.drewN | apply Chg.alloc | apply Chg.drew)) (fun _ _ _ => id)
            · exact hy.keep (by repeat (first | exact Chg.refl _ _ | assumption | apply Chg.drewN | apply Chg.alloc | apply Chg.drew)) (fun _ _ _ => id)
            replace hh := hh.of h4
            obtain ⟨rfl, hc5⟩ := hh
            go_wp2_with fail
            go_ret
            exact BoolRes.of (b := false) ⟨rfl, (Chg.trans (by repeat (first | exact Chg.refl _ _ | assumption | apply Chg.drewN | apply Chg.alloc | apply Chg.drew)) hc5)⟩ (by simp [sameInstr, h0, h1, h2, h3, h4])
          · go_enter Try.func40, Try.ntmps40
            go_wp2_with fail
            refine (eqfCase_any _ B _ _ _ _ _ _ x.cases y.cases ?_ ?_ (by omega) (by omega)).mono (fun e w5 hh => ?_)
            · exact hx.keep (by repeat (first | exact Chg.refl _ _ | assumption | apply Chg.drewN | apply Chg.alloc | apply Chg.drew)) (fun _ _ _ => id)
            · exact hy.keep (by repeat (first | exact Chg.refl _ _ | assumption | apply Chg.drewN | apply Chg.alloc | apply Chg.drew)) (fun _ _ _ => id)
            replace hh := hh.of h4
            obtain ⟨rfl, hc5⟩ := hh
            go_wp2_with fail
            go_ret
            exact BoolRes.of (b := true) ⟨rfl, (Chg.trans (by repeat (first | exact Chg.refl _ _ | assumption | apply Chg.drewN | apply Chg.alloc | apply Chg.drew)) hc5)⟩ (by simp [sameInstr, h0, h1, h2, h3, h4])

def eqfInstrRel (n : Nat) (w : World) (xs ys : List InstrD) (i : Value) (wr : World) : Prop := ∃ k : Nat, k ≤ n ∧ i = .int .i64 k ∧ sameL sameInstr (xs.take k) (ys.take k) = true ∧ Chg (fun _ _ => False) w wr
set_option maxRecDepth 100000 in
theorem eqfInstr_any (w : World) (B : Nat) (A A' : Option Addr) (n c n' c' : Nat) (xs ys : List InstrD) (hx : InstrsR B w (.slice A n c) xs) (hy : InstrsR B w (.slice A' n' c') ys) (hn : (xs.map cInstr).sum ≤ 1099511627776) (hn' : (ys.map cInstr).sum ≤ 1099511627776) :
    Calls Try.prog 39 #[.slice A n c, .slice A' n' c', .func (.func 40) #[] #[]] w (BoolRes (sameL sameInstr xs ys) w) := by
  have Lx := Lib.hid hx.len.1
  have Ly := Lib.hid hy.len.1
  have hnx : n ≤ 1099511627776 := by have := Lx.out; have := len_le_sum cInstr (fun _ => by unfold cInstr; omega) xs; omega
  have hny : n' ≤ 1099511627776 := by have := Ly.out; have := len_le_sum cInstr (fun _ => by unfold cInstr; omega) ys; omega
  by_cases hnn : n = n'
  · subst hnn
    have hne : ((n : Int) != (n : Int)) = false := by simp
    go_enter Try.func39, Try.ntmps39
    go_wp2_with fail
    go_loopw [17] (fun i wr => eqfInstrRel n w xs ys i wr) (fun i _ => n - (intOf i).toNat)
    case atStart => exact ⟨0, Nat.zero_le _, rfl, rfl, Chg.refl _ _⟩
    case round =>
      obtain ⟨k, hk, rfl, ht, hch⟩ := hrel
      have Ht := Lib.hid ht; clear ht
      by_cases hlt : k < n
      · obtain ⟨b, o, x, A1, c1, rfl, hkx1, _, _, _, _, hl1, d10, d11, d12, d13, d14⟩ := (hx.keep hch (fun _ _ _ => id)).at_ (k := k) (by have := Lx.out; omega)
        obtain ⟨b', o', y, A2, c2, rfl, hkx2, _, _, _, _, hl2, d20, d21, d22, d23, d24⟩ := (hy.keep hch (fun _ _ _ => id)).at_ (k := k) (by have := Ly.out; omega)
        have Hk := Lib.hid (And.intro hkx1 hkx2)
        have hbl1 : b < wr.heap.size := World.block_lt_of_cell? wr _ d10
        have hbl2 : b' < wr.heap.size := World.block_lt_of_cell? wr _ d20
        have Hch := Lib.hid hch
        clear hkx1 hkx2 hx hy hch
        cases he : sameInstr x y
        · go_wp2_with fail
          refine (same21_any _ B x y _ _ _ _ ?_ ?_ (by have := sum_le_of cInstr Hk.out.1 hn; omega) (by have := sum_le_of cInstr Hk.out.2 hn'; omega)).mono (fun e w1 hh => ?_)
          · exact hl1.keep (by repeat (first | exact Chg.refl _ _ | assumption | apply Chg.drewN | apply Chg.alloc | apply Chg.drew)) (fun _ _ _ => id)
          · exact hl2.keep (by repeat (first | exact Chg.refl _ _ | assumption | apply Chg.drewN | apply Chg.alloc | apply Chg.drew)) (fun _ _ _ => id)
          replace hh := hh.of he
          obtain ⟨rfl, hc1⟩ := hh
          have He := Lib.hid he; clear he
          go_wp2_with fail
          go_ret
          exact BoolRes.of (b := false) ⟨rfl, Hch.out.trans (Chg.trans (by repeat (first | exact Chg.refl _ _ | assumption | apply Chg.drewN | apply Chg.alloc | apply Chg.drew)) hc1)⟩ (sameL_at Hk.out.1 Hk.out.2 He.out).symm
        · go_wp2_with fail
          refine (same21_any _ B x y _ _ _ _ ?_ ?_ (by have := sum_le_of cInstr Hk.out.1 hn; omega) (by have := sum_le_of cInstr Hk.out.2 hn'; omega)).mono (fun e w1 hh => ?_)
          · exact hl1.keep (by repeat (first | exact Chg.refl _ _ | assumption | apply Chg.drewN | apply Chg.alloc | apply Chg.drew)) (fun _ _ _ => id)
          · exact hl2.keep (by repeat (first | exact Chg.refl _ _ | assumption | apply Chg.drewN | apply Chg.alloc | apply Chg.drew)) (fun _ _ _ => id)
          replace hh := hh.of he
          obtain ⟨rfl, hc1⟩ := hh
          have He := Lib.hid he; clear he
          have HC1 := Lib.hid (Hch.out.trans (Chg.trans (((Chg.refl _ wr).alloc _).alloc _) hc1))
          clear hc1
          go_wp2_with fail
          go_roundw
          case rel => exact ⟨k + 1, hlt, by simp, sameL_snoc Hk.out.1 Hk.out.2 He.out Ht.out, HC1.out⟩
          case measure => simp [intOf]; omega
      · have Hch := Lib.hid hch
        clear hx hy hch
        go_wp2_with fail
        go_ret
        exact BoolRes.of (b := true) ⟨rfl, Hch.out⟩ (sameL_full Ht.out (by have := Lx.out; omega) (by have := Ly.out; omega)).symm
  · have hne : ((n : Int) != (n' : Int)) = true := by simp; omega
    have Hnn := Lib.hid hnn; clear hnn
    go_enter Try.func39, Try.ntmps39
    go_wp2_with fail
    go_ret
    exact BoolRes.of (b := false) ⟨rfl, Chg.refl _ _⟩ (sameL_ne (by have := Lx.out; have := Ly.out; have := Hnn.out; omega)).symm

set_option maxRecDepth 100000 in
theorem same2_any (w : World) (B : Nat) (x y : FuncD) (A1 : Option Addr) (c1 : Nat) (A2 : Option Addr) (c2 : Nat) (A3 : Option Addr) (c3 : Nat) (A4 : Option Addr) (c4 : Nat) (A5 : Option Addr) (c5 : Nat) (A6 : Option Addr) (c6 : Nat) (hx1 : IntsR B w (.slice A1 x.locals.length c1) x.locals) (hx2 : IntsR B w (.slice A2 x.caps.length c2) x.caps) (hx3 : InstrsR B w (.slice A3 x.code.length c3) x.code) (hy1 : IntsR B w (.slice A4 y.locals.length c4) y.locals) (hy2 : IntsR B w (.slice A5 y.caps.length c5) y.caps) (hy3 : InstrsR B w (.slice A6 y.code.length c6) y.code) (hn : cFunc x ≤ 1099511627776) (hn' : cFunc y ≤ 1099511627776) :
    Calls Try.prog 38 #[.agg #[.int .i64 x.params, .slice A1 x.locals.length c1, .slice A2 x.caps.length c2, .int .i64 x.res, .slice A3 x.code.length c3], .agg #[.int .i64 y.params, .slice A4 y.locals.length c4, .slice A5 y.caps.length c5, .int .i64 y.res, .slice A6 y.code.length c6]] w (BoolRes (sameFunc x y) w) := by
  have hcx : cFunc x = 30 + (10 + 10 * x.locals.length) + (10 + 10 * x.caps.length) + (x.code.map cInstr).sum := by simp only [cFunc, cInts, sum10]
  have hcy : cFunc y = 30 + (10 + 10 * y.locals.length) + (10 + 10 * y.caps.length) + (y.code.map cInstr).sum := by simp only [cFunc, cInts, sum10]
  rw [hcx] at hn
  rw [hcy] at hn'
  clear hcx hcy
  cases h0 : x.params == y.params
  · go_enter Try.func38, Try.ntmps38
    go_wp2_with fail
    go_ret
    exact BoolRes.of (b := false) ⟨rfl, (by repeat (first | exact Chg.refl _ _ | assumption | apply Chg.drewN | apply Chg.alloc | apply Chg.drew))⟩ (by simp [sameFunc, h0])
  · cases h1 : sameL sameInt x.locals y.locals
    · go_enter Try.func38, Try.ntmps38
      go_wp2_with fail
      refine (eqInts_any _ B _ _ _ _ _ _ x.locals y.locals ?_ ?_ (by omega) (by omega)).mono (fun e w2 hh => ?_)
      · exact hx1.keep (by repeat (first | exact Chg.refl _ _ | assumption | apply Chg.drewN | apply Chg.alloc | apply Chg.drew)) (fun _ _ _ => id)
      · exact hy1.keep (by repeat (first | exact Chg.refl _ _ | assumption | apply Chg.drewN | apply Chg.alloc | apply Chg.drew)) (fun _ _ _ => id)
      replace hh := hh.of h1
      obtain ⟨rfl, q2, rfl⟩ := hh
      go_wp2_with fail
      go_ret
      exact BoolRes.of (b := false) ⟨rfl, (by repeat (first | exact Chg.refl _ _ | assumption | apply Chg.drewN | apply Chg.alloc | apply Chg.drew))⟩ (by simp [sameFunc, h0, h1])
    · cases h2 : sameL sameInt x.caps y.caps
      · go_enter Try.func38, Try.ntmps38
        go_wp2_with fail
        refine (eqInts_any _ B _ _ _ _ _ _ x.locals y.locals ?_ ?_ (by omega) (by omega)).mono (fun e w2 hh => ?_)
        · exact hx1.keep (by repeat (first | exact Chg.refl _ _ | assumption | apply Chg.drewN | apply Chg.alloc | apply Chg.drew)) (fun _ _ _ => id)
        · exact hy1.keep (by repeat (first | exact Chg.refl _ _ | assumption | apply Chg.drewN | apply Chg.alloc | apply Chg.drew)) (fun _ _ _ => id)
        replace hh := hh.of h1
        obtain ⟨rfl, q2, rfl⟩ := hh
        go_wp2_with fail
        refine (eqInts_any _ B _ _ _ _ _ _ x.caps y.caps ?_ ?_ (by omega) (by omega)).mono (fun e w3 hh => ?_)
        · exact hx2.keep (by repeat (first | exact Chg.refl _ _ | assumption | apply Chg.drewN | apply Chg.alloc | apply Chg.drew)) (fun _ _ _ => id)
        · exact hy2.keep (by repeat (first | exact Chg.refl _ _ | assumption | apply Chg.drewN | apply Chg.alloc | apply Chg.drew)) (fun _ _ _ => id)
        replace hh := hh.of h2
        obtain ⟨rfl, q3, rfl⟩ := hh
        go_wp2_with fail
        go_ret
        exact BoolRes.of (b := false) ⟨rfl, (by repeat (first | exact Chg.refl _ _ | assumption | apply Chg.drewN | apply Chg.alloc | apply Chg.drew))⟩ (by simp [sameFunc, h0, h1, h2])
      · cases h3 : x.res == y.res
        · go_enter Try.func38, Try.ntmps38
          go_wp2_with fail
          refine (eqInts_any _ B _ _ _ _ _ _ x.locals y.locals ?_ ?_ (by omega) (by omega)).mono (fun e w2 hh => ?_)
          · exact hx1.keep (by repeat (first | exact Chg.refl _ _ | assumption | apply Chg.drewN | apply Chg.alloc | apply Chg.drew)) (fun _ _ _ => id)
          · exact hy1.keep (by repeat (first | exact Chg.refl _ _ | assumption | apply Chg.drewN | apply Chg.alloc | apply Chg.drew)) (fun _ _ _ => id)
          replace hh := hh.of h1
          obtain ⟨rfl, q2, rfl⟩ := hh
          go_wp2_with fail
          refine (eqInts_any _ B _ _ _ _ _ _ x.caps y.caps ?_ ?_ (by omega) (by omega)).mono (fun e w3 hh => ?_)
          · exact hx2.keep (by repeat (first | exact Chg.refl _ _ | assumption | apply Chg.drewN | apply Chg.alloc | apply Chg.drew)) (fun _ _ _ => id)
          · exact hy2.keep (by repeat (first | exact Chg.refl _ _ | assumption | apply Chg.drewN | apply Chg.alloc | apply Chg.drew)) (fun _ _ _ => id)
          replace hh := hh.of h2
          obtain ⟨rfl, q3, rfl⟩ := hh
          go_wp2_with fail
          go_ret
          exact BoolRes.of (b := false) ⟨rfl, (by repeat (first | exact Chg.refl _ _ | assumption | apply Chg.drewN | apply Chg.alloc | apply Chg.drew))⟩ (by simp [sameFunc, h0, h1, h2, h3])
        · cases h4 : sameL sameInstr x.code y.code
          · go_enter Try.func38, Try.ntmps38
            go_wp2_with fail
            refine (eqInts_any _ B _ _ _ _ _ _ x.locals y.locals ?_ ?_ (by omega) (by omega)).mono (fun e w2 hh => ?_)
            · exact hx1.keep (by repeat (first | exact Chg.refl _ _ | assumption | apply Chg.drewN | apply Chg.alloc | apply Chg.drew)) (fun _ _ _ => id)
            · exact hy1.keep (by repeat (first | exact Chg.refl _ _ | assumption | apply Chg.drewN | apply Chg.alloc | apply Chg.drew)) (fun _ _ _ => id)
            replace hh := hh.of h1
            obtain ⟨rfl, q2, rfl⟩ := hh
            go_wp2_with fail
            refine (eqInts_any _ B _ _ _ _ _ _ x.caps y.caps ?_ ?_ (by omega) (by omega)).mono (fun e w3 hh => ?_)
            · exact hx2.keep (by repeat (first | exact Chg.refl _ _ | assumption | apply Chg.drewN | apply Chg.alloc | apply Chg.drew)) (fun _ _ _ => id)
            · exact hy2.keep (by repeat (first | exact Chg.refl _ _ | assumption | apply Chg.drewN | apply Chg.alloc | apply Chg.drew)) (fun _ _ _ => id)
            replace hh := hh.of h2
            obtain ⟨rfl, q3, rfl⟩ := hh
            go_wp2_with fail
            refine (eqfInstr_any _ B _ _ _ _ _ _ x.code y.code ?_ ?_ (by omega) (by omega)).mono (fun e w5 hh => ?_)
            · exact hx3.keep (by repeat (first | exact Chg.refl _ _ | assumption | apply Chg.drewN | apply Chg.alloc | apply Chg.drew)) (fun _ _ _ => id)
            · exact hy3.keep (by repeat (first | exact Chg.refl _ _ | assumption | apply Chg.drewN | apply Chg.alloc | apply Chg.drew)) (fun _ _ _ => id)
            replace hh := hh.of h4
            obtain ⟨rfl, hc5⟩ := hh
            go_wp2_with fail
            go_ret
            exact BoolRes.of (b := false) ⟨rfl, (Chg.trans (by repeat (first | exact Chg.refl _ _ | assumption | apply Chg.drewN | apply Chg.alloc | apply Chg.drew)) hc5)⟩ (by simp [sameFunc, h0, h1, h2, h3, h4])
          · go_enter Try.func38, Try.ntmps38
            go_wp2_with fail
            refine (eqInts_any _ B _ _ _ _ _ _ x.locals y.locals ?_ ?_ (by omega) (by omega)).mono (fun e w2 hh => ?_)
            · exact hx1.keep (by repeat (first | exact Chg.refl _ _ | assumption | apply Chg.drewN | apply Chg.alloc | apply Chg.drew)) (fun _ _ _ => id)
            · exact hy1.keep (by repeat (first | exact Chg.refl _ _ | assumption | apply Chg.drewN | apply Chg.alloc | apply Chg.drew)) (fun _ _ _ => id)
            replace hh := hh.of h1
            obtain ⟨rfl, q2, rfl⟩ := hh
            go_wp2_with fail
            refine (eqInts_any _ B _ _ _ _ _ _ x.caps y.caps ?_ ?_ (by omega) (by omega)).mono (fun e w3 hh => ?_)
            · exact hx2.keep (by repeat (first | exact Chg.refl _ _ | assumption | apply Chg.drewN | apply Chg.alloc | apply Chg.drew)) (fun _ _ _ => id)
            · exact hy2.keep (by repeat (first | exact Chg.refl _ _ | assumption | apply Chg.drewN | apply Chg.alloc | apply Chg.drew)) (fun _ _ _ => id)
            replace hh := hh.of h2
            obtain ⟨rfl, q3, rfl⟩ := hh
            go_wp2_with fail
            refine (eqfInstr_any _ B _ _ _ _ _ _ x.code y.code ?_ ?_ (by omega) (by omega)).mono (fun e w5 hh => ?_)
            · exact hx3.keep (by repeat (first | exact Chg.refl _ _ | assumption | apply Chg.drewN | apply Chg.alloc | apply Chg.drew)) (fun _ _ _ => id)
            · exact hy3.keep (by repeat (first | exact Chg.refl _ _ | assumption | apply Chg.drewN | apply Chg.alloc | apply Chg.drew)) (fun _ _ _ => id)
            replace hh := hh.of h4
            obtain ⟨rfl, hc5⟩ := hh
            go_wp2_with fail
            go_ret
            exact BoolRes.of (b := true) ⟨rfl, (Chg.trans (by repeat (first | exact Chg.refl _ _ | assumption | apply Chg.drewN | apply Chg.alloc | apply Chg.drew)) hc5)⟩ (by simp [sameFunc, h0, h1, h2, h3, h4])

def eqfFuncRel (n : Nat) (w : World) (xs ys : List FuncD) (i : Value) (wr : World) : Prop := ∃ k : Nat, k ≤ n ∧ i = .int .i64 k ∧ sameL sameFunc (xs.take k) (ys.take k) = true ∧ Chg (fun _ _ => False) w wr
set_option maxRecDepth 100000 in
theorem eqfFunc_any (w : World) (B : Nat) (A A' : Option Addr) (n c n' c' : Nat) (xs ys : List FuncD) (hx : FuncsR B w (.slice A n c) xs) (hy : FuncsR B w (.slice A' n' c') ys) (hn : (xs.map cFunc).sum ≤ 1099511627776) (hn' : (ys.map cFunc).sum ≤ 1099511627776) :
    Calls Try.prog 37 #[.slice A n c, .slice A' n' c', .func (.func 38) #[] #[]] w (BoolRes (sameL sameFunc xs ys) w) := by
  have Lx := Lib.hid hx.len.1
  have Ly := Lib.hid hy.len.1
  have hnx : n ≤ 1099511627776 := by have := Lx.out; have := len_le_sum cFunc (fun _ => by unfold cFunc cInts; omega) xs; omega
  have hny : n' ≤ 1099511627776 := by have := Ly.out; have := len_le_sum cFunc (fun _ => by unfold cFunc cInts; omega) ys; omega
  by_cases hnn : n = n'
  · subst hnn
    have hne : ((n : Int) != (n : Int)) = false := by simp
    go_enter Try.func37, Try.ntmps37
    go_wp2_with fail
    go_loopw [17] (fun i wr => eqfFuncRel n w xs ys i wr) (fun i _ => n - (intOf i).toNat)
    case atStart => exact ⟨0, Nat.zero_le _, rfl, rfl, Chg.refl _ _⟩
    case round =>
      obtain ⟨k, hk, rfl, ht, hch⟩ := hrel
      have Ht := Lib.hid ht; clear ht
      by_cases hlt : k < n
      · obtain ⟨b, o, x, A1, c1, A2, c2, A3, c3, rfl, hkx1, _, _, hl1, hl2, hl3, d10, d11, d12, d13, d14⟩ := (hx.keep hch (fun _ _ _ => id)).at_ (k := k) (by have := Lx.out; omega)
        obtain ⟨b', o', y, A4, c4, A5, c5, A6, c6, rfl, hkx2, _, _, hl4, hl5, hl6, d20, d21, d22, d23, d24⟩ := (hy.keep hch (fun _ _ _ => id)).at_ (k := k) (by have := Ly.out; omega)
        have Hk := Lib.hid (And.intro hkx1 hkx2)
        have hbl1 : b < wr.heap.size := World.block_lt_of_cell? wr _ d10
        have hbl2 : b' < wr.heap.size := World.block_lt_of_cell? wr _ d20
        have Hch := Lib.hid hch
        clear hkx1 hkx2 hx hy hch
        cases he : sameFunc x y
        · go_wp2_with fail
          refine (same2_any _ B x y _ _ _ _ _ _ _ _ _ _ _ _ ?_ ?_ ?_ ?_ ?_ ?_ (by have := sum_le_of cFunc Hk.out.1 hn; omega) (by have := sum_le_of cFunc Hk.out.2 hn'; omega)).mono (fun e w1 hh => ?_)
          · exact hl1.keep (by repeat (first | exact Chg.refl _ _ | assumption | apply Chg.drewN | apply Chg.alloc | apply Chg.drew)) (fun _ _ _ => id)
          · exact hl2.keep (by repeat (first | exact Chg.refl _ _ | assumption | apply Chg.drewN | apply Chg.alloc | apply Chg.drew)) (fun _ _ _ => id)
          · exact hl3.keep (by repeat (first | exact Chg.refl _ _ | assumption | apply Chg.drewN | apply Chg.alloc | apply Chg.drew)) (fun _ _ _ => id)
          · exact hl4.keep (by repeat (first | exact Chg.refl _ _ | assumption | apply Chg.drewN | apply Chg.alloc | apply Chg.drew)) (fun _ _ _ => id)
          · exact hl5.keep (by repeat (first | exact Chg.refl _ _ | assumption | apply Chg.drewN | apply Chg.alloc | apply Chg.drew)) (fun _ _ _ => id)
          · exact hl6.keep (by repeat (first | exact Chg.refl _ _ | assumption | apply Chg.drewN | apply Chg.alloc | apply Chg.drew)) (fun _ _ _ => id)
          replace hh := hh.of he
          obtain ⟨rfl, hc1⟩ := hh
          have He := Lib.hid he; clear he
          go_wp2_with fail
          go_ret
          exact BoolRes.of (b := false) ⟨rfl, Hch.out.trans (Chg.trans (by repeat (first | exact Chg.refl _ _ | assumption | apply Chg.drewN | apply Chg.alloc | apply Chg.drew)) hc1)⟩ (sameL_at Hk.out.1 Hk.out.2 He.out).symm
        · go_wp2_with fail
          refine (same2_any _ B x y _ _ _ _ _ _ _ _ _ _ _ _ ?_ ?_ ?_ ?_ ?_ ?_ (by have := sum_le_of cFunc Hk.out.1 hn; omega) (by have := sum_le_of cFunc Hk.out.2 hn'; omega)).mono (fun e w1 hh => ?_)
          · exact hl1.keep (by repeat (first | exact Chg.refl _ _ | assumption | apply Chg.drewN | apply Chg.alloc | apply Chg.drew)) (fun _ _ _ => id)
          · exact hl2.keep (by repeat (first | exact Chg.refl _ _ | assumption | apply Chg.drewN | apply Chg.alloc | apply Chg.drew)) (fun _ _ _ => id)
          · exact hl3.keep (by repeat (first | exact Chg.refl _ _ | assumption | apply Chg.drewN | apply Chg.alloc | apply Chg.drew)) (fun _ _ _ => id)
          · exact hl4.keep (by repeat (first | exact Chg.refl _ _ | assumption | apply Chg.drewN | apply Chg.alloc | apply Chg.drew)) (fun _ _ _ => id)
          · exact hl5.keep (by repeat (first | exact Chg.refl _ _ | assumption | apply Chg.drewN | apply Chg.alloc | apply Chg.drew)) (fun _ _ _ => id)
          · exact hl6.keep (by repeat (first | exact Chg.refl _ _ | assumption | apply Chg.drewN | apply Chg.alloc | apply Chg.drew)) (fun _ _ _ => id)
          replace hh := hh.of he
          obtain ⟨rfl, hc1⟩ := hh
          have He := Lib.hid he; clear he
          have HC1 := Lib.hid (Hch.out.trans (Chg.trans (((Chg.refl _ wr).alloc _).alloc _) hc1))
          clear hc1
          go_wp2_with fail
          go_roundw
          case rel => exact ⟨k + 1, hlt, by simp, sameL_snoc Hk.out.1 Hk.out.2 He.out Ht.out, HC1.out⟩
          case measure => simp [intOf]; omega
      · have Hch := Lib.hid hch
        clear hx hy hch
        go_wp2_with fail
        go_ret
        exact BoolRes.of (b := true) ⟨rfl, Hch.out⟩ (sameL_full Ht.out (by have := Lx.out; omega) (by have := Ly.out; omega)).symm
  · have hne : ((n : Int) != (n' : Int)) = true := by simp; omega
    have Hnn := Lib.hid hnn; clear hnn
    go_enter Try.func37, Try.ntmps37
    go_wp2_with fail
    go_ret
    exact BoolRes.of (b := false) ⟨rfl, Chg.refl _ _⟩ (sameL_ne (by have := Lx.out; have := Ly.out; have := Hnn.out; omega)).symm

set_option maxRecDepth 100000 in
theorem same1_any (w : World) (B : Nat) (x y : ShapeD) (A1 : Option Addr) (c1 : Nat) (A2 : Option Addr) (c2 : Nat) (hx1 : IntsR B w (.slice A1 x.list.length c1) x.list) (hy1 : IntsR B w (.slice A2 y.list.length c2) y.list) (hn : cShape x ≤ 1099511627776) (hn' : cShape y ≤ 1099511627776) :
    Calls Try.prog 35 #[.agg #[.int .i64 x.kind, .slice A1 x.list.length c1, .int .i64 x.res], .agg #[.int .i64 y.kind, .slice A2 y.list.length c2, .int .i64 y.res]] w (BoolRes (sameShape x y) w) := by
  have hcx : cShape x = 20 + (10 + 10 * x.list.length) := by simp only [cShape, cInts, sum10]
  have hcy : cShape y = 20 + (10 + 10 * y.list.length) := by simp only [cShape, cInts, sum10]
  rw [hcx] at hn
  rw [hcy] at hn'
  clear hcx hcy
  cases h0 : x.kind == y.kind
  · go_enter Try.func35, Try.ntmps35
    go_wp2_with fail
    go_ret
    exact BoolRes.of (b := false) ⟨rfl, (by repeat (first | exact Chg.refl _ _ | assumption | apply Chg.drewN | apply Chg.alloc | apply Chg.drew))⟩ (by simp [sameShape, h0])
  · cases h1 : sameL sameInt x.list y.list
    · go_enter Try.func35, Try.ntmps35
      go_wp2_with fail
      refine (eqInts_any _ B _ _ _ _ _ _ x.list y.list ?_ ?_ (by omega) (by omega)).mono (fun e w2 hh => ?_)
      · exact hx1.keep (by repeat (first | exact Chg.refl _ _ | assumption | apply Chg.drewN | apply Chg.alloc | apply Chg.drew)) (fun _ _ _ => id)
      · exact hy1.keep (by repeat (first | exact Chg.refl _ _ | assumption | apply Chg.drewN | apply Chg.alloc | apply Chg.drew)) (fun _ _ _ => id)
      replace hh := hh.of h1
      obtain ⟨rfl, q2, rfl⟩ := hh
      go_wp2_with fail
      go_ret
      exact BoolRes.of (b := false) ⟨rfl, (by repeat (first | exact Chg.refl _ _ | assumption | apply Chg.drewN | apply Chg.alloc | apply Chg.drew))⟩ (by simp [sameShape, h0, h1])
    · cases h2 : x.res == y.res
      · go_enter Try.func35, Try.ntmps35
        go_wp2_with fail
        refine (eqInts_any _ B _ _ _ _ _ _ x.list y.list ?_ ?_ (by omega) (by omega)).mono (fun e w2 hh => ?_)
        · exact hx1.keep (by repeat (first | exact Chg.refl _ _ | assumption | apply Chg.drewN | apply Chg.alloc | apply Chg.drew)) (fun _ _ _ => id)
        · exact hy1.keep (by repeat (first | exact Chg.refl _ _ | assumption | apply Chg.drewN | apply Chg.alloc | apply Chg.drew)) (fun _ _ _ => id)
        replace hh := hh.of h1
        obtain ⟨rfl, q2, rfl⟩ := hh
        go_wp2_with fail
        go_ret
        exact BoolRes.of (b := false) ⟨rfl, (by repeat (first | exact Chg.refl _ _ | assumption | apply Chg.drewN | apply Chg.alloc | apply Chg.drew))⟩ (by simp [sameShape, h0, h1, h2])
      · go_enter Try.func35, Try.ntmps35
        go_wp2_with fail
        refine (eqInts_any _ B _ _ _ _ _ _ x.list y.list ?_ ?_ (by omega) (by omega)).mono (fun e w2 hh => ?_)
        · exact hx1.keep (by repeat (first | exact Chg.refl _ _ | assumption | apply Chg.drewN | apply Chg.alloc | apply Chg.drew)) (fun _ _ _ => id)
        · exact hy1.keep (by repeat (first | exact Chg.refl _ _ | assumption | apply Chg.drewN | apply Chg.alloc | apply Chg.drew)) (fun _ _ _ => id)
        replace hh := hh.of h1
        obtain ⟨rfl, q2, rfl⟩ := hh
        go_wp2_with fail
        go_ret
        exact BoolRes.of (b := true) ⟨rfl, (by repeat (first | exact Chg.refl _ _ | assumption | apply Chg.drewN | apply Chg.alloc | apply Chg.drew))⟩ (by simp [sameShape, h0, h1, h2])

def eqfShapeRel (n : Nat) (w : World) (xs ys : List ShapeD) (i : Value) (wr : World) : Prop := ∃ k : Nat, k ≤ n ∧ i = .int .i64 k ∧ sameL sameShape (xs.take k) (ys.take k) = true ∧ Chg (fun _ _ => False) w wr
set_option maxRecDepth 100000 in
theorem eqfShape_any (w : World) (B : Nat) (A A' : Option Addr) (n c n' c' : Nat) (xs ys : List ShapeD) (hx : ShapesR B w (.slice A n c) xs) (hy : ShapesR B w (.slice A' n' c') ys) (hn : (xs.map cShape).sum ≤ 1099511627776) (hn' : (ys.map cShape).sum ≤ 1099511627776) :
    Calls Try.prog 34 #[.slice A n c, .slice A' n' c', .func (.func 35) #[] #[]] w (BoolRes (sameL sameShape xs ys) w) := by
  have Lx := Lib.hid hx.len.1
  have Ly := Lib.hid hy.len.1
  have hnx : n ≤ 1099511627776 := by have := Lx.out; have := len_le_sum cShape (fun _ => by unfold cShape cInts; omega) xs; omega
  have hny : n' ≤ 1099511627776 := by have := Ly.out; have := len_le_sum cShape (fun _ => by unfold cShape cInts; omega) ys; omega
  by_cases hnn : n = n'
  · subst hnn
    have hne : ((n : Int) != (n : Int)) = false := by simp
    go_enter Try.func34, Try.ntmps34
    go_wp2_with fail
    go_loopw [17] (fun i wr => eqfShapeRel n w xs ys i wr) (fun i _ => n - (intOf i).toNat)
    case atStart => exact ⟨0, Nat.zero_le _, rfl, rfl, Chg.refl _ _⟩
    case round =>
      obtain ⟨k, hk, rfl, ht, hch⟩ := hrel
      have Ht := Lib.hid ht; clear ht
      by_cases hlt : k < n
      · obtain ⟨b, o, x, A1, c1, rfl, hkx1, _, _, hl1, d10, d11, d12⟩ := (hx.keep hch (fun _ _ _ => id)).at_ (k := k) (by have := Lx.out; omega)
        obtain ⟨b', o', y, A2, c2, rfl, hkx2, _, _, hl2, d20, d21, d22⟩ := (hy.keep hch (fun _ _ _ => id)).at_ (k := k) (by have := Ly.out; omega)
        have Hk := Lib.hid (And.intro hkx1 hkx2)
        have hbl1 : b < wr.heap.size := World.block_lt_of_cell? wr _ d10
        have hbl2 : b' < wr.heap.size := World.block_lt_of_cell? wr _ d20
        have Hch := Lib.hid hch
        clear hkx1 hkx2 hx hy hch
        cases he : sameShape x y
        · go_wp2_with fail
          refine (same1_any _ B x y _ _ _ _ ?_ ?_ (by have := sum_le_of cShape Hk.out.1 hn; omega) (by have := sum_le_of cShape Hk.out.2 hn'; omega)).mono (fun e w1 hh => ?_)
          · exact hl1.keep (by repeat (first | exact Chg.refl _ _ | assumption | apply Chg.drewN | apply Chg.alloc | apply Chg.drew)) (fun _ _ _ => id)
          · exact hl2.keep (by repeat (first | exact Chg.refl _ _ | assumption | apply Chg.drewN | apply Chg.alloc | apply Chg.drew)) (fun _ _ _ => id)
          replace hh := hh.of he
          obtain ⟨rfl, hc1⟩ := hh
          have He := Lib.hid he; clear he
          go_wp2_with fail
          go_ret
          exact BoolRes.of (b := false) ⟨rfl, Hch.out.trans (Chg.trans (by repeat (first | exact Chg.refl _ _ | assumption | apply Chg.drewN | apply Chg.alloc | apply Chg.drew)) hc1)⟩ (sameL_at Hk.out.1 Hk.out.2 He.out).symm
        · go_wp2_with fail
          refine (same1_any _ B x y _ _ _ _ ?_ ?_ (by have := sum_le_of cShape Hk.out.1 hn; omega) (by have := sum_le_of cShape Hk.out.2 hn'; omega)).mono (fun e w1 hh => ?_)
          · exact hl1.keep (by repeat (first | exact Chg.refl _ _ | assumption | apply Chg.drewN | apply Chg.alloc | apply Chg.drew)) (fun _ _ _ => id)
          · exact hl2.keep (by repeat (first | exact Chg.refl _ _ | assumption | apply Chg.drewN | apply Chg.alloc | apply Chg.drew)) (fun _ _ _ => id)
          replace hh := hh.of he
          obtain ⟨rfl, hc1⟩ := hh
          have He := Lib.hid he; clear he
          have HC1 := Lib.hid (Hch.out.trans (Chg.trans (((Chg.refl _ wr).alloc _).alloc _) hc1))
          clear hc1
          go_wp2_with fail
          go_roundw
          case rel => exact ⟨k + 1, hlt, by simp, sameL_snoc Hk.out.1 Hk.out.2 He.out Ht.out, HC1.out⟩
          case measure => simp [intOf]; omega
      · have Hch := Lib.hid hch
        clear hx hy hch
        go_wp2_with fail
        go_ret
        exact BoolRes.of (b := true) ⟨rfl, Hch.out⟩ (sameL_full Ht.out (by have := Lx.out; omega) (by have := Ly.out; omega)).symm
  · have hne : ((n : Int) != (n' : Int)) = true := by simp; omega
    have Hnn := Lib.hid hnn; clear hnn
    go_enter Try.func34, Try.ntmps34
    go_wp2_with fail
    go_ret
    exact BoolRes.of (b := false) ⟨rfl, Chg.refl _ _⟩ (sameL_ne (by have := Lx.out; have := Ly.out; have := Hnn.out; omega)).symm
end Go.Proofs.Ytfmhedpjkpaohaa
