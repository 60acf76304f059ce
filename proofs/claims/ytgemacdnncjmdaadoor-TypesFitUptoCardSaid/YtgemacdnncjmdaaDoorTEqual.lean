/-
  types.Equal: the same types.
-/
import Derived.Test.YtgemacdnncjmdaaDoorTSame
namespace Go.Proofs.YtgemacdnncjmdaaDoor
open Go.RowKit
set_option linter.unusedVariables false
set_option linter.unusedSimpArgs false

/-- The contract of Equal at types no deeper than n. -/
def EqC (n : Nat) : Prop := ∀ (B : Nat) (w : World) (a b : Ty) (Af : Option Addr) (cf : Nat) (Al : Option Addr) (cl : Nat) (Ar : Option Addr) (cr : Nat) (Bf : Option Addr) (df : Nat) (Bl : Option Addr) (dl : Nat) (Br : Option Addr) (dr : Nat), B ≤ w.heap.size → TyR n B w (tyCells a.kind a.name a.con Af a.fields.length cf Al a.list.length cl Ar a.res.length cr) a → TyR n B w (tyCells b.kind b.name b.con Bf b.fields.length df Bl b.list.length dl Br b.res.length dr) b →
    Calls Tryd.prog 40 #[.agg #[.int .i64 a.kind, .string a.name, .int .i64 a.con, .slice Af a.fields.length cf, .slice Al a.list.length cl, .slice Ar a.res.length cr], .agg #[.int .i64 b.kind, .string b.name, .int .i64 b.con, .slice Bf b.fields.length df, .slice Bl b.list.length dl, .slice Br b.res.length dr]] w fun e w' => e = .returned (.bool (eqB a b)) ∧ Chg (fun _ _ => False) w w'
theorem eqB_pair (x y : ByteArray) (a b : Ty) : eqB (x, a) (y, b) = (eqB x y && eqB a b) := by
  by_cases h1 : x = y
  · by_cases h2 : a = b
    · rw [h1, h2, eqB_self, eqB_self, eqB_self]; rfl
    · rw [eqB_false.2 h2, Bool.and_false]
      exact eqB_false.2 fun h => h2 (Prod.mk.inj h).2
  · rw [eqB_false.2 h1, Bool.false_and]
    exact eqB_false.2 fun h => h1 (Prod.mk.inj h).1
set_option maxRecDepth 100000 in
set_option maxHeartbeats 2000000 in
theorem equal1_of (n : Nat) (IH : EqC n) (B : Nat) (w : World) (x y : ByteArray) (a b : Ty) (Af : Option Addr) (cf : Nat) (Al : Option Addr) (cl : Nat) (Ar : Option Addr) (cr : Nat) (Bf : Option Addr) (df : Nat) (Bl : Option Addr) (dl : Nat) (Br : Option Addr) (dr : Nat) (hB : B ≤ w.heap.size) (hA : TyR n B w (tyCells a.kind a.name a.con Af a.fields.length cf Al a.list.length cl Ar a.res.length cr) a) (hC : TyR n B w (tyCells b.kind b.name b.con Bf b.fields.length df Bl b.list.length dl Br b.res.length dr) b) :
    Calls Tryd.prog 57 #[.agg #[.string x, .int .i64 a.kind, .string a.name, .int .i64 a.con, .slice Af a.fields.length cf, .slice Al a.list.length cl, .slice Ar a.res.length cr], .agg #[.string y, .int .i64 b.kind, .string b.name, .int .i64 b.con, .slice Bf b.fields.length df, .slice Bl b.list.length dl, .slice Br b.res.length dr]] w fun e w' => e = .returned (.bool (eqB (x, a) (y, b))) ∧ Chg (fun _ _ => False) w w' := by
  have hc1 := (chg_alloc w (.cells #[.string x, .int .i64 a.kind, .string a.name, .int .i64 a.con, .slice Af a.fields.length cf, .slice Al a.list.length cl, .slice Ar a.res.length cr] 35)).alloc (.cells #[.string y, .int .i64 b.kind, .string b.name, .int .i64 b.con, .slice Bf b.fields.length df, .slice Bl b.list.length dl, .slice Br b.res.length dr] 35)
  have hcall := IH B _ a b Af cf Al cl Ar cr Bf df Bl dl Br dr (Nat.le_trans hB hc1.size) (TyR.keep0 hc1 hA) (TyR.keep0 hc1 hC)
  rw [eqB_pair]
  clear hA hC
  by_cases he : x = y
  · have q5 := str_eq he
    rw [eqB_true.2 he, Bool.true_and]
    replace he := Lib.hid he
    go_enter Tryd.func57, Tryd.ntmps57
    go_wp2_with fail
    refine hcall.mono fun e w2 h => ?_
    obtain ⟨rfl, hc2⟩ := h
    have HC := Lib.hid (hc1.trans hc2)
    clear hcall hc1 hc2
    go_wp2_with fail
    go_ret
    exact ⟨rfl, HC.out⟩
  · have q5 := str_ne he
    rw [eqB_false.2 he, Bool.false_and]
    replace he := Lib.hid he
    go_enter Tryd.func57, Tryd.ntmps57
    go_wp2_with fail
    go_ret
    exact ⟨rfl, hc1⟩
set_option maxRecDepth 100000 in
set_option maxHeartbeats 2000000 in
theorem eqfField_of (n : Nat) (IH : EqC n) (B : Nat) (w : World) (l m : List (ByteArray × Ty)) (A : Option Addr) (c : Nat) (A' : Option Addr) (c' : Nat) (hB : B ≤ w.heap.size) (hl : SlR B 0 7 (FdR (TyR n B)) w (.slice A l.length c) l) (hm : SlR B 0 7 (FdR (TyR n B)) w (.slice A' m.length c') m) (hl20 : l.length ≤ 1048576) (hm20 : m.length ≤ 1048576) :
    Calls Tryd.prog 56 #[.slice A l.length c, .slice A' m.length c', .func (.func 57) #[] #[]] w fun e w' => e = .returned (.bool (eqB l m)) ∧ Chg (fun _ _ => False) w w' := by
  by_cases hlm : l.length = m.length
  · have q4 : ((l.length : Int) != (m.length : Int)) = false := by simp [hlm]
    have p4 : (l.length != m.length) = false := by simp [hlm]
    have H0 := Lib.hid (And.intro hB (And.intro hl (And.intro hm hlm)))
    clear hB hl hm hlm
    go_enter Tryd.func56, Tryd.ntmps56
    go_wp2_with fail
    go_loopw [17] (fun i wr => sameRel l m w i wr) (fun i _ => l.length - (intOf i).toNat)
    case atStart => exact ⟨0, Nat.zero_le _, rfl, rfl, Chg.refl _ _⟩
    case round =>
      obtain ⟨k, hk, rfl, hs, hch⟩ := hrel
      have q3 : IntKind.i64.wrap ((k : Int) + 1) = (k : Int) + 1 := IntWalk.i64_in _ ⟨by omega, by omega⟩
      by_cases hlt : k < l.length
      · have q1 : decide (k < l.length) = true := decide_eq_true hlt
        have q2 : (k : Int) < (l.length : Int) := by omega
        have q2m : (k : Int) < (m.length : Int) := by have := H0.out.2.2.2; omega
        obtain ⟨bb, oo, nx, x, Xf, xf, Xl, xl, Xr, xr, rfl, hbB, hkx, hnms, hRx, z0, z1, z2, z3, z4, z5, z6⟩ := fld_at (SlR.keep H0.out.2.1 hch (no_lets _ _) fun _ _ h => h.imp fun _ _ h => TyR.keep0 hch h) hlt
        obtain ⟨bb', oo', ny, y, Yf, yf, Yl, yl, Yr, yr, rfl, hbB', hky, hnms', hRy, v0, v1, v2, v3, v4, v5, v6⟩ := fld_at (SlR.keep H0.out.2.2.1 hch (no_lets _ _) fun _ _ h => h.imp fun _ _ h => TyR.keep0 hch h) (k := k) (by have := H0.out.2.2.2; omega)
        have u0 := (chg_alloc wr (.cells #[.string nx, .int .i64 x.kind, .string x.name, .int .i64 x.con, .slice Xf x.fields.length xf, .slice Xl x.list.length xl, .slice Xr x.res.length xr] 35)).cell v0 fun _ => id
        have u1 := (chg_alloc wr (.cells #[.string nx, .int .i64 x.kind, .string x.name, .int .i64 x.con, .slice Xf x.fields.length xf, .slice Xl x.list.length xl, .slice Xr x.res.length xr] 35)).cell v1 fun _ => id
        have u2 := (chg_alloc wr (.cells #[.string nx, .int .i64 x.kind, .string x.name, .int .i64 x.con, .slice Xf x.fields.length xf, .slice Xl x.list.length xl, .slice Xr x.res.length xr] 35)).cell v2 fun _ => id
        have u3 := (chg_alloc wr (.cells #[.string nx, .int .i64 x.kind, .string x.name, .int .i64 x.con, .slice Xf x.fields.length xf, .slice Xl x.list.length xl, .slice Xr x.res.length xr] 35)).cell v3 fun _ => id
        have u4 := (chg_alloc wr (.cells #[.string nx, .int .i64 x.kind, .string x.name, .int .i64 x.con, .slice Xf x.fields.length xf, .slice Xl x.list.length xl, .slice Xr x.res.length xr] 35)).cell v4 fun _ => id
        have u5 := (chg_alloc wr (.cells #[.string nx, .int .i64 x.kind, .string x.name, .int .i64 x.con, .slice Xf x.fields.length xf, .slice Xl x.list.length xl, .slice Xr x.res.length xr] 35)).cell v5 fun _ => id
        have u6 := (chg_alloc wr (.cells #[.string nx, .int .i64 x.kind, .string x.name, .int .i64 x.con, .slice Xf x.fields.length xf, .slice Xl x.list.length xl, .slice Xr x.res.length xr] 35)).cell v6 fun _ => id
        have hca2 := (chg_alloc wr (.cells #[.string nx, .int .i64 x.kind, .string x.name, .int .i64 x.con, .slice Xf x.fields.length xf, .slice Xl x.list.length xl, .slice Xr x.res.length xr] 35)).alloc (.cells #[.string ny, .int .i64 y.kind, .string y.name, .int .i64 y.con, .slice Yf y.fields.length yf, .slice Yl y.list.length yl, .slice Yr y.res.length yr] 35)
        have hca := hch.trans hca2
        have hcall := equal1_of n IH B _ nx ny x y Xf xf Xl xl Xr xr Yf yf Yl yl Yr yr (Nat.le_trans H0.out.1 hca.size) (TyR.keep0 hca2 hRx) (TyR.keep0 hca2 hRy)
        have HK := Lib.hid (And.intro hs (And.intro hca (And.intro hkx hky)))
        clear hs hch hkx hky hca hca2 hbB hbB' hnms hnms' hRx hRy
        go_wp2_with fail
        generalize (wr.alloc (.cells #[.string nx, .int .i64 x.kind, .string x.name, .int .i64 x.con, .slice Xf x.fields.length xf, .slice Xl x.list.length xl, .slice Xr x.res.length xr] 35)).alloc (.cells #[.string ny, .int .i64 y.kind, .string y.name, .int .i64 y.con, .slice Yf y.fields.length yf, .slice Yl y.list.length yl, .slice Yr y.res.length yr] 35) = w4 at hcall HK ⊢
        cases he : eqB (nx, x) (ny, y) with
        | true =>
          rw [he] at hcall
          have HEq := Lib.hid (eqB_true.1 he)
          clear he
          refine hcall.mono fun e w5 h => ?_
          obtain ⟨rfl, hc5⟩ := h
          clear hcall
          go_wp2_with fail
          go_roundw
          case rel => exact ⟨k + 1, hlt, by simp, take_same HK.out.1 HK.out.2.2.1 HK.out.2.2.2 HEq.out, HK.out.2.1.trans hc5⟩
          case measure => simp [intOf]; omega
        | false =>
          rw [he] at hcall
          have HEq := Lib.hid (eqB_false.1 he)
          clear he
          refine hcall.mono fun e w5 h => ?_
          obtain ⟨rfl, hc5⟩ := h
          clear hcall
          go_wp2_with fail
          go_ret
          refine ⟨?_, HK.out.2.1.trans hc5⟩
          have hne : eqB l m = false := eqB_false.2 (not_same_at HK.out.2.2.1 HK.out.2.2.2 HEq.out)
          rw [hne]
          first
            | rfl
            | simp
      · have q1 : decide (k < l.length) = false := decide_eq_false hlt
        obtain rfl : k = l.length := by omega
        have HC := Lib.hid hch
        have HS := Lib.hid (show eqB l m = true from eqB_true.2 (by
          have h1 : l.take l.length = l := List.take_of_length_le (Nat.le_refl _)
          have h2 : m.take l.length = m := List.take_of_length_le (by have := H0.out.2.2.2; omega)
          rw [← h1, ← h2]
          exact hs))
        clear hs hch
        go_wp2_with fail
        go_ret
        refine ⟨?_, HC.out⟩
        rw [HS.out]
        first
          | rfl
          | simp
  · have q4 : ((l.length : Int) != (m.length : Int)) = true := by simp only [bne_iff_ne, ne_eq]; omega
    have p4 : (l.length != m.length) = true := by simp only [bne_iff_ne, ne_eq]; omega
    have HS := Lib.hid (show eqB l m = false from eqB_false.2 fun he => hlm (by rw [he]))
    clear hl hm hlm
    go_enter Tryd.func56, Tryd.ntmps56
    go_wp2_with fail
    go_ret
    refine ⟨?_, Chg.refl _ _⟩
    rw [HS.out]
    first
      | rfl
      | simp
set_option maxRecDepth 100000 in
set_option maxHeartbeats 2000000 in
theorem eqfType_of (n : Nat) (IH : EqC n) (B : Nat) (w : World) (l m : List (Ty)) (A : Option Addr) (c : Nat) (A' : Option Addr) (c' : Nat) (hB : B ≤ w.heap.size) (hl : SlR B 0 6 (TyR n B) w (.slice A l.length c) l) (hm : SlR B 0 6 (TyR n B) w (.slice A' m.length c') m) (hl20 : l.length ≤ 1048576) (hm20 : m.length ≤ 1048576) :
    Calls Tryd.prog 58 #[.slice A l.length c, .slice A' m.length c', .func (.func 40) #[] #[]] w fun e w' => e = .returned (.bool (eqB l m)) ∧ Chg (fun _ _ => False) w w' := by
  by_cases hlm : l.length = m.length
  · have q4 : ((l.length : Int) != (m.length : Int)) = false := by simp [hlm]
    have p4 : (l.length != m.length) = false := by simp [hlm]
    have H0 := Lib.hid (And.intro hB (And.intro hl (And.intro hm hlm)))
    clear hB hl hm hlm
    go_enter Tryd.func58, Tryd.ntmps58
    go_wp2_with fail
    go_loopw [17] (fun i wr => sameRel l m w i wr) (fun i _ => l.length - (intOf i).toNat)
    case atStart => exact ⟨0, Nat.zero_le _, rfl, rfl, Chg.refl _ _⟩
    case round =>
      obtain ⟨k, hk, rfl, hs, hch⟩ := hrel
      have q3 : IntKind.i64.wrap ((k : Int) + 1) = (k : Int) + 1 := IntWalk.i64_in _ ⟨by omega, by omega⟩
      by_cases hlt : k < l.length
      · have q1 : decide (k < l.length) = true := decide_eq_true hlt
        have q2 : (k : Int) < (l.length : Int) := by omega
        have q2m : (k : Int) < (m.length : Int) := by have := H0.out.2.2.2; omega
        obtain ⟨bb, oo, x, Xf, xf, Xl, xl, Xr, xr, rfl, hkx, hRx, z0, z1, z2, z3, z4, z5⟩ := TysR.at_ (TysR.keep0 hch H0.out.2.1) hlt
        obtain ⟨bb', oo', y, Yf, yf, Yl, yl, Yr, yr, rfl, hky, hRy, v0, v1, v2, v3, v4, v5⟩ := TysR.at_ (TysR.keep0 hch H0.out.2.2.1) (k := k) (by have := H0.out.2.2.2; omega)
        have u0 := (chg_alloc wr (.cells #[.int .i64 x.kind, .string x.name, .int .i64 x.con, .slice Xf x.fields.length xf, .slice Xl x.list.length xl, .slice Xr x.res.length xr] 33)).cell v0 fun _ => id
        have u1 := (chg_alloc wr (.cells #[.int .i64 x.kind, .string x.name, .int .i64 x.con, .slice Xf x.fields.length xf, .slice Xl x.list.length xl, .slice Xr x.res.length xr] 33)).cell v1 fun _ => id
        have u2 := (chg_alloc wr (.cells #[.int .i64 x.kind, .string x.name, .int .i64 x.con, .slice Xf x.fields.length xf, .slice Xl x.list.length xl, .slice Xr x.res.length xr] 33)).cell v2 fun _ => id
        have u3 := (chg_alloc wr (.cells #[.int .i64 x.kind, .string x.name, .int .i64 x.con, .slice Xf x.fields.length xf, .slice Xl x.list.length xl, .slice Xr x.res.length xr] 33)).cell v3 fun _ => id
        have u4 := (chg_alloc wr (.cells #[.int .i64 x.kind, .string x.name, .int .i64 x.con, .slice Xf x.fields.length xf, .slice Xl x.list.length xl, .slice Xr x.res.length xr] 33)).cell v4 fun _ => id
        have u5 := (chg_alloc wr (.cells #[.int .i64 x.kind, .string x.name, .int .i64 x.con, .slice Xf x.fields.length xf, .slice Xl x.list.length xl, .slice Xr x.res.length xr] 33)).cell v5 fun _ => id
        have hca2 := (chg_alloc wr (.cells #[.int .i64 x.kind, .string x.name, .int .i64 x.con, .slice Xf x.fields.length xf, .slice Xl x.list.length xl, .slice Xr x.res.length xr] 33)).alloc (.cells #[.int .i64 y.kind, .string y.name, .int .i64 y.con, .slice Yf y.fields.length yf, .slice Yl y.list.length yl, .slice Yr y.res.length yr] 33)
        have hca := hch.trans hca2
        have hcall := IH B _ x y Xf xf Xl xl Xr xr Yf yf Yl yl Yr yr (Nat.le_trans H0.out.1 hca.size) (TyR.keep0 hca2 hRx) (TyR.keep0 hca2 hRy)
        have HK := Lib.hid (And.intro hs (And.intro hca (And.intro hkx hky)))
        clear hs hch hkx hky hca hca2 hRx hRy
        go_wp2_with fail
        generalize (wr.alloc (.cells #[.int .i64 x.kind, .string x.name, .int .i64 x.con, .slice Xf x.fields.length xf, .slice Xl x.list.length xl, .slice Xr x.res.length xr] 33)).alloc (.cells #[.int .i64 y.kind, .string y.name, .int .i64 y.con, .slice Yf y.fields.length yf, .slice Yl y.list.length yl, .slice Yr y.res.length yr] 33) = w4 at hcall HK ⊢
        cases he : eqB x y with
        | true =>
          rw [he] at hcall
          have HEq := Lib.hid (eqB_true.1 he)
          clear he
          refine hcall.mono fun e w5 h => ?_
          obtain ⟨rfl, hc5⟩ := h
          clear hcall
          go_wp2_with fail
          go_roundw
          case rel => exact ⟨k + 1, hlt, by simp, take_same HK.out.1 HK.out.2.2.1 HK.out.2.2.2 HEq.out, HK.out.2.1.trans hc5⟩
          case measure => simp [intOf]; omega
        | false =>
          rw [he] at hcall
          have HEq := Lib.hid (eqB_false.1 he)
          clear he
          refine hcall.mono fun e w5 h => ?_
          obtain ⟨rfl, hc5⟩ := h
          clear hcall
          go_wp2_with fail
          go_ret
          refine ⟨?_, HK.out.2.1.trans hc5⟩
          have hne : eqB l m = false := eqB_false.2 (not_same_at HK.out.2.2.1 HK.out.2.2.2 HEq.out)
          rw [hne]
          first
            | rfl
            | simp
      · have q1 : decide (k < l.length) = false := decide_eq_false hlt
        obtain rfl : k = l.length := by omega
        have HC := Lib.hid hch
        have HS := Lib.hid (show eqB l m = true from eqB_true.2 (by
          have h1 : l.take l.length = l := List.take_of_length_le (Nat.le_refl _)
          have h2 : m.take l.length = m := List.take_of_length_le (by have := H0.out.2.2.2; omega)
          rw [← h1, ← h2]
          exact hs))
        clear hs hch
        go_wp2_with fail
        go_ret
        refine ⟨?_, HC.out⟩
        rw [HS.out]
        first
          | rfl
          | simp
  · have q4 : ((l.length : Int) != (m.length : Int)) = true := by simp only [bne_iff_ne, ne_eq]; omega
    have p4 : (l.length != m.length) = true := by simp only [bne_iff_ne, ne_eq]; omega
    have HS := Lib.hid (show eqB l m = false from eqB_false.2 fun he => hlm (by rw [he]))
    clear hl hm hlm
    go_enter Tryd.func58, Tryd.ntmps58
    go_wp2_with fail
    go_ret
    refine ⟨?_, Chg.refl _ _⟩
    rw [HS.out]
    first
      | rfl
      | simp
set_option maxRecDepth 100000 in
set_option maxHeartbeats 4000000 in
theorem equal_step (n : Nat) (IH : EqC n) : EqC (n + 1) := by
  intro B w a b Af cf Al cl Ar cr Bf df Bl dl Br dr hB hA hC
  obtain ⟨hsa, hFa, hLa, hRa⟩ := TyR.open_ hA
  obtain ⟨hsb, hFb, hLb, hRb⟩ := TyR.open_ hC
  obtain ⟨_, _, _, s4a, s5a, s6a⟩ := hsa
  obtain ⟨_, _, _, s4b, s5b, s6b⟩ := hsb
  have hb1 := (Blk.new w 33 #[.int .i64 a.kind, .string a.name, .int .i64 a.con, .slice Af a.fields.length cf, .slice Al a.list.length cl, .slice Ar a.res.length cr]).alloc (.cells #[.int .i64 b.kind, .string b.name, .int .i64 b.con, .slice Bf b.fields.length df, .slice Bl b.list.length dl, .slice Br b.res.length dr] 33)
  have hb2 := Blk.new (w.alloc (.cells #[.int .i64 a.kind, .string a.name, .int .i64 a.con, .slice Af a.fields.length cf, .slice Al a.list.length cl, .slice Ar a.res.length cr] 33)) 33 #[.int .i64 b.kind, .string b.name, .int .i64 b.con, .slice Bf b.fields.length df, .slice Bl b.list.length dl, .slice Br b.res.length dr]
  have hc1 := (chg_alloc w (.cells #[.int .i64 a.kind, .string a.name, .int .i64 a.con, .slice Af a.fields.length cf, .slice Al a.list.length cl, .slice Ar a.res.length cr] 33)).alloc (.cells #[.int .i64 b.kind, .string b.name, .int .i64 b.con, .slice Bf b.fields.length df, .slice Bl b.list.length dl, .slice Br b.res.length dr] 33)
  simp only [World.size_alloc] at hb2
  have HT := Lib.hid (And.intro hB (And.intro hFa (And.intro hFb (And.intro hLa (And.intro hLb (And.intro hRa (And.intro hRb trivial)))))))
  have IH := Lib.hid IH
  have H0 := Lib.hid (And.intro hb1 (And.intro hb2 hc1))
  clear hB hA hC hFa hFb hLa hLb hRa hRb hb1 hb2 hc1
  by_cases h1 : a.kind = b.kind
  · have q1 : (a.kind == b.kind) = true := by simp [h1]
    replace h1 := Lib.hid h1
    by_cases h2 : a.name = b.name
    · have q2 := str_eq h2
      replace h2 := Lib.hid h2
      by_cases h3 : a.con = b.con
      · have q3 : (a.con == b.con) = true := by simp [h3]
        replace h3 := Lib.hid h3
        go_enter Tryd.func40, Tryd.ntmps40
        go_wp2_with fail
        generalize (w.alloc (.cells #[.int .i64 a.kind, .string a.name, .int .i64 a.con, .slice Af a.fields.length cf, .slice Al a.list.length cl, .slice Ar a.res.length cr] 33)).alloc (.cells #[.int .i64 b.kind, .string b.name, .int .i64 b.con, .slice Bf b.fields.length df, .slice Bl b.list.length dl, .slice Br b.res.length dr] 33) = W at H0 ⊢
        generalize w.heap.size + 1 = g2 at H0 ⊢
        generalize w.heap.size = g1 at H0 ⊢
        have hq0 := eqfField_of n IH.out B W a.fields b.fields Af cf Bf df (Nat.le_trans HT.out.1 H0.out.2.2.size) (SlR.keep HT.out.2.1 H0.out.2.2 (no_lets _ _) fun _ _ h => h.imp fun _ _ h => TyR.keep0 H0.out.2.2 h) (SlR.keep HT.out.2.2.1 H0.out.2.2 (no_lets _ _) fun _ _ h => h.imp fun _ _ h => TyR.keep0 H0.out.2.2 h) s4a s4b
        cases e0 : eqB a.fields b.fields with
        | true =>
          rw [e0] at hq0
          replace e0 := Lib.hid (eqB_true.1 e0)
          refine hq0.mono fun e w1 h => ?_
          obtain ⟨rfl, hc1⟩ := h
          clear hq0
          have hA1 := hc1.blk H0.out.1 id
          have hB1 := hc1.blk H0.out.2.1 id
          obtain ⟨y0, y1, y2, y3, y4, y5⟩ := hA1.cells6
          obtain ⟨x0, x1, x2, x3, x4, x5⟩ := hB1.cells6
          go_wp2_with fail
          clear y0 y1 y2 y3 y4 y5 x0 x1 x2 x3 x4 x5
          have hq1 := eqfType_of n IH.out B w1 a.list b.list Al cl Bl dl (Nat.le_trans HT.out.1 (H0.out.2.2.trans hc1).size) (TysR.keep0 (H0.out.2.2.trans hc1) HT.out.2.2.2.1) (TysR.keep0 (H0.out.2.2.trans hc1) HT.out.2.2.2.2.1) s5a s5b
          cases e1 : eqB a.list b.list with
          | true =>
            rw [e1] at hq1
            replace e1 := Lib.hid (eqB_true.1 e1)
            refine hq1.mono fun e w2 h => ?_
            obtain ⟨rfl, hc2⟩ := h
            clear hq1
            have hA2 := hc2.blk hA1 id
            have hB2 := hc2.blk hB1 id
            obtain ⟨y0, y1, y2, y3, y4, y5⟩ := hA2.cells6
            obtain ⟨x0, x1, x2, x3, x4, x5⟩ := hB2.cells6
            go_wp2_with fail
            clear y0 y1 y2 y3 y4 y5 x0 x1 x2 x3 x4 x5
            have hq2 := eqfType_of n IH.out B w2 a.res b.res Ar cr Br dr (Nat.le_trans HT.out.1 ((H0.out.2.2.trans hc1).trans hc2).size) (TysR.keep0 ((H0.out.2.2.trans hc1).trans hc2) HT.out.2.2.2.2.2.1) (TysR.keep0 ((H0.out.2.2.trans hc1).trans hc2) HT.out.2.2.2.2.2.2.1) s6a s6b
            cases e2 : eqB a.res b.res with
            | true =>
              rw [e2] at hq2
              replace e2 := Lib.hid (eqB_true.1 e2)
              refine hq2.mono fun e w3 h => ?_
              obtain ⟨rfl, hc3⟩ := h
              clear hq2
              go_wp2_with fail
              go_ret
              refine ⟨?_, ((H0.out.2.2.trans hc1).trans hc2).trans hc3⟩
              rw [eqB_true.2 (ty_ext h1.out h2.out h3.out e0.out e1.out e2.out)]
              first
                | rfl
                | simp
            | false =>
              rw [e2] at hq2
              replace e2 := Lib.hid (eqB_false.1 e2)
              refine hq2.mono fun e w3 h => ?_
              obtain ⟨rfl, hc3⟩ := h
              clear hq2
              go_wp2_with fail
              go_ret
              refine ⟨?_, ((H0.out.2.2.trans hc1).trans hc2).trans hc3⟩
              rw [eqB_false.2 fun h : a = b => e2.out (by rw [h])]
              first
                | rfl
                | simp
          | false =>
            rw [e1] at hq1
            replace e1 := Lib.hid (eqB_false.1 e1)
            refine hq1.mono fun e w2 h => ?_
            obtain ⟨rfl, hc2⟩ := h
            clear hq1
            go_wp2_with fail
            go_ret
            refine ⟨?_, (H0.out.2.2.trans hc1).trans hc2⟩
            rw [eqB_false.2 fun h : a = b => e1.out (by rw [h])]
            first
              | rfl
              | simp
        | false =>
          rw [e0] at hq0
          replace e0 := Lib.hid (eqB_false.1 e0)
          refine hq0.mono fun e w1 h => ?_
          obtain ⟨rfl, hc1⟩ := h
          clear hq0
          go_wp2_with fail
          go_ret
          refine ⟨?_, H0.out.2.2.trans hc1⟩
          rw [eqB_false.2 fun h : a = b => e0.out (by rw [h])]
          first
            | rfl
            | simp
      · have q3 : (a.con == b.con) = false := by simp [h3]
        have HS := Lib.hid (show eqB a b = false from eqB_false.2 fun he => h3 (by rw [he]))
        clear h3
        go_enter Tryd.func40, Tryd.ntmps40
        go_wp2_with fail
        go_ret
        refine ⟨?_, H0.out.2.2⟩
        rw [HS.out]
        first
          | rfl
          | simp
    · have q2 := str_ne h2
      have HS := Lib.hid (show eqB a b = false from eqB_false.2 fun he => h2 (by rw [he]))
      clear h2
      go_enter Tryd.func40, Tryd.ntmps40
      go_wp2_with fail
      go_ret
      refine ⟨?_, H0.out.2.2⟩
      rw [HS.out]
      first
        | rfl
        | simp
  · have q1 : (a.kind == b.kind) = false := by simp [h1]
    have HS := Lib.hid (show eqB a b = false from eqB_false.2 fun he => h1 (by rw [he]))
    clear h1
    go_enter Tryd.func40, Tryd.ntmps40
    go_wp2_with fail
    go_ret
    refine ⟨?_, H0.out.2.2⟩
    rw [HS.out]
    first
      | rfl
      | simp
theorem equal_any : ∀ n, EqC n
  | 0 => fun B w a b Af cf Al cl Ar cr Bf df Bl dl Br dr hB hA hC => hA.elim
  | n + 1 => equal_step n (equal_any n)
end Go.Proofs.YtgemacdnncjmdaaDoor
