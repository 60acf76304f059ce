/-
  ref02.Same, SameAll: the same types.
-/
import Derived.Test.YtgemacdnncjmdaaDoorTMeas
import Derived.StillTailTactics
namespace Go.Proofs.YtgemacdnncjmdaaDoor
open Go.RowKit
set_option linter.unusedVariables false
set_option linter.unusedSimpArgs false

theorem ty_ext {a b : Ty} (h1 : a.kind = b.kind) (h2 : a.name = b.name) (h3 : a.con = b.con) (h4 : a.fields = b.fields) (h5 : a.list = b.list) (h6 : a.res = b.res) : a = b := by
  cases a
  cases b
  simp only [Ty.kind, Ty.name, Ty.con, Ty.fields, Ty.list, Ty.res] at h1 h2 h3 h4 h5 h6
  subst h1 h2 h3 h4 h5 h6
  rfl
theorem ty_same {a b : Ty} (h1 : a.kind = b.kind) (h2 : a.name = b.name) (h3 : a.con = b.con) (h4 : a.fields.length = b.fields.length) (h5 : a.list.length = b.list.length)
    (h7 : a.fields.map (fun p => p.1) = b.fields.map (fun p => p.1)) (h8 : a.inner = b.inner) : a = b := by
  unfold Ty.inner at h8
  rw [List.append_assoc, List.append_assoc] at h8
  obtain ⟨k1, k2⟩ := List.append_inj h8 (by simpa using h4)
  obtain ⟨k3, k4⟩ := List.append_inj k2 h5
  refine ty_ext h1 h2 h3 ?_ k3 k4
  apply List.ext_getElem? 
  intro i
  have e1 := congrArg (fun l => l[i]?) h7
  have e2 := congrArg (fun l => l[i]?) k1
  simp only [List.getElem?_map] at e1 e2
  cases ha : a.fields[i]? with
  | none =>
    cases hb : b.fields[i]? with
    | none => rfl
    | some q => rw [ha, hb] at e1; cases e1
  | some p =>
    cases hb : b.fields[i]? with
    | none => rw [ha, hb] at e1; cases e1
    | some q =>
      rw [ha, hb] at e1 e2
      simp only [Option.map_some, Option.some.injEq] at e1 e2
      rw [Prod.ext e1 e2]
theorem take_same {α : Type} {l m : List α} {k : Nat} {x y : α} (h : l.take k = m.take k) (hx : l[k]? = some x) (hy : m[k]? = some y) (he : x = y) : l.take (k + 1) = m.take (k + 1) := by
  obtain ⟨h1, h2⟩ := List.getElem?_eq_some_iff.1 hx
  obtain ⟨h3, h4⟩ := List.getElem?_eq_some_iff.1 hy
  rw [List.take_succ_eq_append_getElem h1, List.take_succ_eq_append_getElem h3, h, h2, h4, he]
theorem not_same_at {α : Type} {l m : List α} {k : Nat} {x y : α} (hx : l[k]? = some x) (hy : m[k]? = some y) (he : x ≠ y) : l ≠ m := by
  rintro rfl
  rw [hx] at hy
  exact he (Option.some.inj hy)
def sameRel {α : Type} (l m : List α) (W : World) (i : Value) (wr : World) : Prop := ∃ k : Nat, k ≤ l.length ∧ i = .int .i64 k ∧ l.take k = m.take k ∧ Chg (fun _ _ => False) W wr
set_option maxRecDepth 100000 in
set_option maxHeartbeats 4000000 in
theorem rsame_any : ∀ (n B : Nat) (w : World) (a b : Ty) (Af : Option Addr) (cf : Nat) (Al : Option Addr) (cl : Nat) (Ar : Option Addr) (cr : Nat) (Bf : Option Addr) (df : Nat) (Bl : Option Addr) (dl : Nat) (Br : Option Addr) (dr : Nat), B ≤ w.heap.size → TyR n B w (tyCells a.kind a.name a.con Af a.fields.length cf Al a.list.length cl Ar a.res.length cr) a → TyR n B w (tyCells b.kind b.name b.con Bf b.fields.length df Bl b.list.length dl Br b.res.length dr) b →
    Calls Tryd.prog 16 #[.agg #[.int .i64 a.kind, .string a.name, .int .i64 a.con, .slice Af a.fields.length cf, .slice Al a.list.length cl, .slice Ar a.res.length cr], .agg #[.int .i64 b.kind, .string b.name, .int .i64 b.con, .slice Bf b.fields.length df, .slice Bl b.list.length dl, .slice Br b.res.length dr]] w fun e w' => e = .returned (.bool (eqB a b)) ∧ Chg (fun _ _ => False) w w' := by
  intro n
  induction n with
  | zero => intro B w a b Af cf Al cl Ar cr Bf df Bl dl Br dr hB hA hC; exact hA.elim
  | succ n IH =>
    intro B w a b Af cf Al cl Ar cr Bf df Bl dl Br dr hB hA hC
    obtain ⟨hsa, hFa, hLa, hRa⟩ := TyR.open_ hA
    obtain ⟨hsb, hFb, hLb, hRb⟩ := TyR.open_ hC
    have hb1 := (Blk.new w 33 #[.int .i64 a.kind, .string a.name, .int .i64 a.con, .slice Af a.fields.length cf, .slice Al a.list.length cl, .slice Ar a.res.length cr]).alloc (.cells #[.int .i64 b.kind, .string b.name, .int .i64 b.con, .slice Bf b.fields.length df, .slice Bl b.list.length dl, .slice Br b.res.length dr] 33)
    have hb2 := Blk.new (w.alloc (.cells #[.int .i64 a.kind, .string a.name, .int .i64 a.con, .slice Af a.fields.length cf, .slice Al a.list.length cl, .slice Ar a.res.length cr] 33)) 33 #[.int .i64 b.kind, .string b.name, .int .i64 b.con, .slice Bf b.fields.length df, .slice Bl b.list.length dl, .slice Br b.res.length dr]
    have hc1 := (chg_alloc w (.cells #[.int .i64 a.kind, .string a.name, .int .i64 a.con, .slice Af a.fields.length cf, .slice Al a.list.length cl, .slice Ar a.res.length cr] 33)).alloc (.cells #[.int .i64 b.kind, .string b.name, .int .i64 b.con, .slice Bf b.fields.length df, .slice Bl b.list.length dl, .slice Br b.res.length dr] 33)
    simp only [World.size_alloc] at hb2
    have HT := Lib.hid (And.intro hB (And.intro hA (And.intro hC (And.intro hFa (And.intro hFb (And.intro hsa hsb))))))
    have IH := Lib.hid IH
    clear hB hA hC hFa hFb hLa hLb hRa hRb hsa hsb
    by_cases h1 : a.kind = b.kind
    · have q1 : (a.kind != b.kind) = false := by simp [h1]
      replace h1 := Lib.hid h1
      by_cases h2 : a.name = b.name
      · have q2 := str_eq h2
        replace h2 := Lib.hid h2
        by_cases h3 : a.con = b.con
        · have q3 : (a.con != b.con) = false := by simp [h3]
          replace h3 := Lib.hid h3
          by_cases h4 : a.fields.length = b.fields.length
          · have q4 : ((a.fields.length : Int) != (b.fields.length : Int)) = false := by simp [h4]
            have p4 : (a.fields.length != b.fields.length) = false := by simp [h4]
            replace h4 := Lib.hid h4
            by_cases h5 : a.list.length = b.list.length
            · have q5 : ((a.list.length : Int) != (b.list.length : Int)) = false := by simp [h5]
              have p5 : (a.list.length != b.list.length) = false := by simp [h5]
              replace h5 := Lib.hid h5
              by_cases h6 : a.res.length = b.res.length
              · have q6 : ((a.res.length : Int) != (b.res.length : Int)) = false := by simp [h6]
                have p6 : (a.res.length != b.res.length) = false := by simp [h6]
                replace h6 := Lib.hid h6
                have HE := Lib.hid (And.intro h1.out (And.intro h2.out (And.intro h3.out (And.intro h4.out (And.intro h5.out h6.out)))))
                clear h1 h2 h3 h4 h5 h6
                go_enter Tryd.func16, Tryd.ntmps16
                go_wp2_with fail
                generalize (w.alloc (.cells #[.int .i64 a.kind, .string a.name, .int .i64 a.con, .slice Af a.fields.length cf, .slice Al a.list.length cl, .slice Ar a.res.length cr] 33)).alloc (.cells #[.int .i64 b.kind, .string b.name, .int .i64 b.con, .slice Bf b.fields.length df, .slice Bl b.list.length dl, .slice Br b.res.length dr] 33) = W at hb1 hb2 hc1 ⊢
                generalize hg2 : w.heap.size + 1 = g2 at hb2 ⊢
                generalize hg1 : w.heap.size = g1 at hb1 ⊢
                have H0 := Lib.hid (And.intro hb1 (And.intro hb2 hc1))
                clear hb1 hb2 hc1 hg1 hg2
                go_loopw [5] (fun i wr => sameRel (a.fields.map fun p => p.1) (b.fields.map fun p => p.1) W i wr) (fun i _ => a.fields.length - (intOf i).toNat)
                case atStart => exact ⟨0, Nat.zero_le _, rfl, rfl, Chg.refl _ _⟩
                case round =>
                  obtain ⟨k, hk, rfl, hs, hch⟩ := hrel
                  rw [List.length_map] at hk
                  have hf20 := HT.out.2.2.2.2.2.1.2.2.2.1
                  have q3 : IntKind.i64.wrap ((k : Int) + 1) = (k : Int) + 1 := IntWalk.i64_in _ ⟨by omega, by omega⟩
                  obtain ⟨y0, y1, y2, y3, y4, y5⟩ := (hch.blk H0.out.1 id).cells6
                  obtain ⟨x0, x1, x2, x3, x4, x5⟩ := (hch.blk H0.out.2.1 id).cells6
                  have hcw := H0.out.2.2.trans hch
                  by_cases hlt : k < a.fields.length
                  · have q1 : decide (k < a.fields.length) = true := decide_eq_true hlt
                    have q2 : (k : Int) < (a.fields.length : Int) := by omega
                    have hltb : k < b.fields.length := by have := HE.out.2.2.2.1; omega
                    have q2b : (k : Int) < (b.fields.length : Int) := by omega
                    obtain ⟨bb, oo, nm, x, Xf, xf, Xl, xl, Xr, xr, rfl, hbB, hkx, hnms, hRx, z0, z1, z2, z3, z4, z5, z6⟩ := fld_at (SlR.keep HT.out.2.2.2.1 hcw (no_lets _ _) fun _ _ h => h.imp fun _ _ h => TyR.keep0 hcw h) hlt
                    obtain ⟨bb', oo', nm', x', Yf, yf, Yl, yl, Yr, yr, rfl, hbB', hkx', hnms', hRx', v0, v1, v2, v3, v4, v5, v6⟩ := fld_at (SlR.keep HT.out.2.2.2.2.1 hcw (no_lets _ _) fun _ _ h => h.imp fun _ _ h => TyR.keep0 hcw h) hltb
                    have HR := Lib.hid (And.intro hs (And.intro hch (And.intro hcw (And.intro hkx hkx'))))
                    clear hs hch hcw hkx hkx' hbB hbB' hnms hnms' hRx hRx' z1 z2 z3 z4 z5 z6 v1 v2 v3 v4 v5 v6 y0 y1 y2 y4 y5 x0 x1 x2 x4 x5
                    by_cases he : nm = nm'
                    · have q5 := str_eq he
                      replace he := Lib.hid he
                      go_wp2_with fail
                      go_quiet (fail)
                      go_wp2_with fail
                      go_roundw
                      case rel => exact ⟨k + 1, by rw [List.length_map]; exact hlt, by simp, take_same HR.out.1 (by rw [List.getElem?_map, HR.out.2.2.2.1]; rfl) (by rw [List.getElem?_map, HR.out.2.2.2.2]; rfl) he.out, by repeat' (first | exact HR.out.2.1 | apply Chg.drew | apply Chg.drewN)⟩
                      case measure => simp [intOf]; omega
                    · have q5 := str_ne he
                      replace he := Lib.hid he
                      go_wp2_with fail
                      go_quiet (fail)
                      go_wp2_with fail
                      go_ret
                      refine ⟨?_, by repeat' (first | exact HR.out.2.2.1 | apply Chg.drew | apply Chg.drewN)⟩
                      have hne : eqB a b = false := eqB_false.2 fun hab => not_same_at (l := a.fields.map fun p => p.1) (m := b.fields.map fun p => p.1) (by rw [List.getElem?_map, HR.out.2.2.2.1]; rfl) (by rw [List.getElem?_map, HR.out.2.2.2.2]; rfl) he.out (by rw [hab])
                      rw [hne]
                      first
                        | rfl
                        | simp
                  · have q1 : decide (k < a.fields.length) = false := decide_eq_false hlt
                    obtain rfl : k = a.fields.length := by omega
                    have hnames : a.fields.map (fun p => p.1) = b.fields.map (fun p => p.1) := by
                      have h1 : (a.fields.map fun p => p.1).take a.fields.length = a.fields.map fun p => p.1 := List.take_of_length_le (by simp)
                      have h2 : (b.fields.map fun p => p.1).take a.fields.length = b.fields.map fun p => p.1 := List.take_of_length_le (by have := HE.out.2.2.2.1; simp; omega)
                      rw [← h1, ← h2]
                      exact hs
                    have HR := Lib.hid (And.intro hnames hcw)
                    have hbx := hch.blk H0.out.2.1 id
                    clear hnames hcw hs hch
                    go_wp2_with fail
                    refine (inner_any n B wr a Af cf Al cl Ar cr (Nat.le_trans HT.out.1 HR.out.2.size) (TyR.keep0 HR.out.2 HT.out.2.1)).mono fun e w2 h => ?_
                    obtain ⟨C, c, rfl, hrow, hc2⟩ := h
                    clear y0 y1 y2 y3 y4 y5 x0 x1 x2 x3 x4 x5
                    obtain ⟨x0, x1, x2, x3, x4, x5⟩ := (hc2.blk hbx id).cells6
                    have hrow2 : TysR n w2.heap.size w2 (.slice C a.inner.length c) a.inner := hrow.settleT (by decide) fun _ _ h => TyR.more (Nat.le_trans HT.out.1 (HR.out.2.trans hc2).size) h
                    have HR2 := Lib.hid (And.intro hrow2 (HR.out.2.trans hc2))
                    clear hrow hrow2 hc2 hbx
                    go_wp2_with fail
                    refine (inner_any n B w2 b Bf df Bl dl Br dr (Nat.le_trans HT.out.1 HR2.out.2.size) (TyR.keep0 HR2.out.2 HT.out.2.2.1)).mono fun e w3 h => ?_
                    obtain ⟨D, d, rfl, hrow, hc3⟩ := h
                    have hrowb : TysR n w3.heap.size w3 (.slice D b.inner.length d) b.inner := hrow.settleT (by decide) fun _ _ h => TyR.more (Nat.le_trans HT.out.1 (HR2.out.2.trans hc3).size) h
                    have hrowa : TysR n w3.heap.size w3 (.slice C a.inner.length c) a.inner := (TysR.keep0 hc3 HR2.out.1).imp (fun b _ hl => hl.imp (fun h => Nat.lt_of_lt_of_le h hc3.size) id) fun _ _ h => TyR.more hc3.size h
                    have hlen : b.inner.length = a.inner.length := by
                      obtain ⟨_, _, _, h4, h5, h6⟩ := HE.out
                      simp [Ty.inner, h4, h5, h6]
                    have hlen2 : a.inner.length ≤ 3145728 := by
                      obtain ⟨_, _, _, s4, s5, s6⟩ := HT.out.2.2.2.2.2.1
                      simp only [Ty.inner, List.length_append, List.length_map]
                      omega
                    rw [hlen] at hrowb
                    rw [hlen]
                    have HR3 := Lib.hid (And.intro hrowa (And.intro hrowb (And.intro (HR2.out.2.trans hc3) hlen)))
                    clear hrow hrowa hrowb hc3 x0 x1 x2 x3 x4 x5 hlen
                    go_wp2_with fail
                    go_loopw [8] (fun i wr => sameRel a.inner b.inner w3 i wr) (fun i _ => a.inner.length - (intOf i).toNat)
                    case atStart => exact ⟨0, Nat.zero_le _, rfl, rfl, Chg.refl _ _⟩
                    case round =>
                      clear hk hlt
                      obtain ⟨k, hk, rfl, hs, hch⟩ := hrel
                      have q3 : IntKind.i64.wrap ((k : Int) + 1) = (k : Int) + 1 := IntWalk.i64_in _ ⟨by omega, by omega⟩
                      by_cases hlt : k < a.inner.length
                      · have q1 : decide (k < a.inner.length) = true := decide_eq_true hlt
                        have q2 : (k : Int) < (a.inner.length : Int) := by omega
                        obtain ⟨bb, oo, x, Xf, xf, Xl, xl, Xr, xr, rfl, hkx, hRx, z0, z1, z2, z3, z4, z5⟩ := TysR.at_ (TysR.keep0 hch HR3.out.1) hlt
                        obtain ⟨bb', oo', y, Yf, yf, Yl, yl, Yr, yr, rfl, hky, hRy, v0, v1, v2, v3, v4, v5⟩ := TysR.at_ (TysR.keep0 hch HR3.out.2.1) (k := k) (by have := HR3.out.2.2.2; omega)
                        have HK := Lib.hid (And.intro hs (And.intro hch (And.intro hkx (And.intro hky (And.intro hRx hRy)))))
                        clear hs hch hkx hky hRx hRy
                        go_wp2_with fail
                        go_still_tail 8, (by kernel_rfl)
                        change wpList _ _ _ _ _ wr.drew
                        have hdr : Chg (fun _ _ => False) wr wr.drew := (Chg.refl _ wr).drew
                        have hcall := IH.out w3.heap.size wr.drew x y Xf xf Xl xl Xr xr Yf yf Yl yl Yr yr (HK.out.2.1.trans hdr).size (TyR.keep0 hdr HK.out.2.2.2.2.1) (TyR.keep0 hdr HK.out.2.2.2.2.2)
                        have HD := Lib.hid (HK.out.2.1.trans hdr)
                        clear hdr z0 z1 z2 z3 z4 z5 v0 v1 v2 v3 v4 v5
                        generalize wr.drew = w4 at hcall HD ⊢
                        cases he : eqB x y with
                        | true =>
                          rw [he] at hcall
                          have HEq := Lib.hid (eqB_true.1 he)
                          clear he
                          go_wp2_with fail
                          refine hcall.mono fun e w5 h => ?_
                          obtain ⟨rfl, hc5⟩ := h
                          clear hcall
                          go_wp2_with fail
                          go_roundw
                          case rel => exact ⟨k + 1, hlt, by simp, take_same HK.out.1 HK.out.2.2.1 HK.out.2.2.2.1 HEq.out, HD.out.trans hc5⟩
                          case measure => simp [intOf]; omega
                        | false =>
                          rw [he] at hcall
                          have HEq := Lib.hid (eqB_false.1 he)
                          clear he
                          go_wp2_with fail
                          refine hcall.mono fun e w5 h => ?_
                          obtain ⟨rfl, hc5⟩ := h
                          clear hcall
                          go_wp2_with fail
                          go_ret
                          refine ⟨?_, (HR3.out.2.2.1.trans HD.out).trans hc5⟩
                          have hne : eqB a b = false := eqB_false.2 fun hab => not_same_at (l := a.inner) (m := b.inner) HK.out.2.2.1 HK.out.2.2.2.1 HEq.out (by rw [hab])
                          rw [hne]
                          first
                            | rfl
                            | simp
                      · have q1 : decide (k < a.inner.length) = false := decide_eq_false hlt
                        obtain rfl : k = a.inner.length := by omega
                        have hin : a.inner = b.inner := by
                          have h1 : a.inner.take a.inner.length = a.inner := List.take_of_length_le (Nat.le_refl _)
                          have h2 : b.inner.take a.inner.length = b.inner := List.take_of_length_le (by have := HR3.out.2.2.2; omega)
                          rw [← h1, ← h2]
                          exact hs
                        have heq : eqB a b = true := eqB_true.2 (ty_same HE.out.1 HE.out.2.1 HE.out.2.2.1 HE.out.2.2.2.1 HE.out.2.2.2.2.1 HR.out.1 hin)
                        have HK := Lib.hid (And.intro heq (HR3.out.2.2.1.trans hch))
                        clear hin heq hch hs
                        go_wp2_with fail
                        go_ret
                        refine ⟨?_, HK.out.2⟩
                        rw [HK.out.1]
                        first
                          | rfl
                          | simp
              · have q6 : ((a.res.length : Int) != (b.res.length : Int)) = true := by simp only [bne_iff_ne, ne_eq]; omega
                have p6 : (a.res.length != b.res.length) = true := by simp only [bne_iff_ne, ne_eq]; omega
                have HS := Lib.hid (show eqB a b = false from eqB_false.2 fun he => h6 (by rw [he]))
                clear h6
                go_enter Tryd.func16, Tryd.ntmps16
                go_wp2_with fail
                generalize (w.alloc (.cells #[.int .i64 a.kind, .string a.name, .int .i64 a.con, .slice Af a.fields.length cf, .slice Al a.list.length cl, .slice Ar a.res.length cr] 33)).alloc (.cells #[.int .i64 b.kind, .string b.name, .int .i64 b.con, .slice Bf b.fields.length df, .slice Bl b.list.length dl, .slice Br b.res.length dr] 33) = W at hb1 hb2 hc1 ⊢
                generalize hg2 : w.heap.size + 1 = g2 at hb2 ⊢
                generalize hg1 : w.heap.size = g1 at hb1 ⊢
                go_ret
                refine ⟨?_, hc1⟩
                rw [HS.out]
                first
                  | rfl
                  | simp
            · have q5 : ((a.list.length : Int) != (b.list.length : Int)) = true := by simp only [bne_iff_ne, ne_eq]; omega
              have p5 : (a.list.length != b.list.length) = true := by simp only [bne_iff_ne, ne_eq]; omega
              have HS := Lib.hid (show eqB a b = false from eqB_false.2 fun he => h5 (by rw [he]))
              clear h5
              go_enter Tryd.func16, Tryd.ntmps16
              go_wp2_with fail
              generalize (w.alloc (.cells #[.int .i64 a.kind, .string a.name, .int .i64 a.con, .slice Af a.fields.length cf, .slice Al a.list.length cl, .slice Ar a.res.length cr] 33)).alloc (.cells #[.int .i64 b.kind, .string b.name, .int .i64 b.con, .slice Bf b.fields.length df, .slice Bl b.list.length dl, .slice Br b.res.length dr] 33) = W at hb1 hb2 hc1 ⊢
              generalize hg2 : w.heap.size + 1 = g2 at hb2 ⊢
              generalize hg1 : w.heap.size = g1 at hb1 ⊢
              go_ret
              refine ⟨?_, hc1⟩
              rw [HS.out]
              first
                | rfl
                | simp
          · have q4 : ((a.fields.length : Int) != (b.fields.length : Int)) = true := by simp only [bne_iff_ne, ne_eq]; omega
            have p4 : (a.fields.length != b.fields.length) = true := by simp only [bne_iff_ne, ne_eq]; omega
            have HS := Lib.hid (show eqB a b = false from eqB_false.2 fun he => h4 (by rw [he]))
            clear h4
            go_enter Tryd.func16, Tryd.ntmps16
            go_wp2_with fail
            generalize (w.alloc (.cells #[.int .i64 a.kind, .string a.name, .int .i64 a.con, .slice Af a.fields.length cf, .slice Al a.list.length cl, .slice Ar a.res.length cr] 33)).alloc (.cells #[.int .i64 b.kind, .string b.name, .int .i64 b.con, .slice Bf b.fields.length df, .slice Bl b.list.length dl, .slice Br b.res.length dr] 33) = W at hb1 hb2 hc1 ⊢
            generalize hg2 : w.heap.size + 1 = g2 at hb2 ⊢
            generalize hg1 : w.heap.size = g1 at hb1 ⊢
            go_ret
            refine ⟨?_, hc1⟩
            rw [HS.out]
            first
              | rfl
              | simp
        · have q3 : (a.con != b.con) = true := by simp only [bne_iff_ne, ne_eq]; omega
          have HS := Lib.hid (show eqB a b = false from eqB_false.2 fun he => h3 (by rw [he]))
          clear h3
          go_enter Tryd.func16, Tryd.ntmps16
          go_wp2_with fail
          generalize (w.alloc (.cells #[.int .i64 a.kind, .string a.name, .int .i64 a.con, .slice Af a.fields.length cf, .slice Al a.list.length cl, .slice Ar a.res.length cr] 33)).alloc (.cells #[.int .i64 b.kind, .string b.name, .int .i64 b.con, .slice Bf b.fields.length df, .slice Bl b.list.length dl, .slice Br b.res.length dr] 33) = W at hb1 hb2 hc1 ⊢
          generalize hg2 : w.heap.size + 1 = g2 at hb2 ⊢
          generalize hg1 : w.heap.size = g1 at hb1 ⊢
          go_ret
          refine ⟨?_, hc1⟩
          rw [HS.out]
          first
            | rfl
            | simp
      · have q2 := str_ne h2
        have HS := Lib.hid (show eqB a b = false from eqB_false.2 fun he => h2 (by rw [he]))
        clear h2
        go_enter Tryd.func16, Tryd.ntmps16
        go_wp2_with fail
        generalize (w.alloc (.cells #[.int .i64 a.kind, .string a.name, .int .i64 a.con, .slice Af a.fields.length cf, .slice Al a.list.length cl, .slice Ar a.res.length cr] 33)).alloc (.cells #[.int .i64 b.kind, .string b.name, .int .i64 b.con, .slice Bf b.fields.length df, .slice Bl b.list.length dl, .slice Br b.res.length dr] 33) = W at hb1 hb2 hc1 ⊢
        generalize hg2 : w.heap.size + 1 = g2 at hb2 ⊢
        generalize hg1 : w.heap.size = g1 at hb1 ⊢
        go_ret
        refine ⟨?_, hc1⟩
        rw [HS.out]
        first
          | rfl
          | simp
    · have q1 : (a.kind != b.kind) = true := by simp only [bne_iff_ne, ne_eq]; omega
      have HS := Lib.hid (show eqB a b = false from eqB_false.2 fun he => h1 (by rw [he]))
      clear h1
      go_enter Tryd.func16, Tryd.ntmps16
      go_wp2_with fail
      generalize (w.alloc (.cells #[.int .i64 a.kind, .string a.name, .int .i64 a.con, .slice Af a.fields.length cf, .slice Al a.list.length cl, .slice Ar a.res.length cr] 33)).alloc (.cells #[.int .i64 b.kind, .string b.name, .int .i64 b.con, .slice Bf b.fields.length df, .slice Bl b.list.length dl, .slice Br b.res.length dr] 33) = W at hb1 hb2 hc1 ⊢
      generalize hg2 : w.heap.size + 1 = g2 at hb2 ⊢
      generalize hg1 : w.heap.size = g1 at hb1 ⊢
      go_ret
      refine ⟨?_, hc1⟩
      rw [HS.out]
      first
        | rfl
        | simp
set_option maxRecDepth 100000 in
set_option maxHeartbeats 2000000 in
theorem rsameAll_any (n B : Nat) (w : World) (l m : List Ty) (A : Option Addr) (c : Nat) (A' : Option Addr) (c' : Nat) (hB : B ≤ w.heap.size) (hl : TysR n B w (.slice A l.length c) l) (hm : TysR n B w (.slice A' m.length c') m) (hl20 : l.length ≤ 4000000) (hm20 : m.length ≤ 4000000) :
    Calls Tryd.prog 12 #[.slice A l.length c, .slice A' m.length c'] w fun e w' => e = .returned (.bool (eqB l m)) ∧ Chg (fun _ _ => False) w w' := by
  have H0 := Lib.hid (And.intro hB (And.intro hl hm))
  clear hB hl hm
  go_enter Tryd.func12, Tryd.ntmps12
  go_wp2_with fail
  go_loopw [5] (fun i wr => sameRel l m w i wr) (fun i _ => l.length - (intOf i).toNat)
  case atStart => exact ⟨0, Nat.zero_le _, rfl, rfl, Chg.refl _ _⟩
  case round =>
    obtain ⟨k, hk, rfl, hs, hch⟩ := hrel
    have q3 : IntKind.i64.wrap ((k : Int) + 1) = (k : Int) + 1 := IntWalk.i64_in _ ⟨by omega, by omega⟩
    by_cases hlt : k < l.length
    · by_cases hltm : k < m.length
      · have q1 : decide (k < l.length) = true := decide_eq_true hlt
        have q1m : decide (k < m.length) = true := decide_eq_true hltm
        have q2 : (k : Int) < (l.length : Int) := by omega
        have q2m : (k : Int) < (m.length : Int) := by omega
        obtain ⟨bb, oo, x, Xf, xf, Xl, xl, Xr, xr, rfl, hkx, hRx, z0, z1, z2, z3, z4, z5⟩ := TysR.at_ (TysR.keep0 hch H0.out.2.1) hlt
        obtain ⟨bb', oo', y, Yf, yf, Yl, yl, Yr, yr, rfl, hky, hRy, v0, v1, v2, v3, v4, v5⟩ := TysR.at_ (TysR.keep0 hch H0.out.2.2) hltm
        have HK := Lib.hid (And.intro hs (And.intro hch (And.intro hkx (And.intro hky (And.intro hRx hRy)))))
        clear hs hch hkx hky hRx hRy
        go_wp2_with fail
        go_still_tail 8, (by kernel_rfl)
        change wpList _ _ _ _ _ wr.drew
        have hdr : Chg (fun _ _ => False) wr wr.drew := (Chg.refl _ wr).drew
        have hcall := rsame_any n B wr.drew x y Xf xf Xl xl Xr xr Yf yf Yl yl Yr yr (Nat.le_trans H0.out.1 (HK.out.2.1.trans hdr).size) (TyR.keep0 hdr HK.out.2.2.2.2.1) (TyR.keep0 hdr HK.out.2.2.2.2.2)
        have HD := Lib.hid (HK.out.2.1.trans hdr)
        clear hdr z0 z1 z2 z3 z4 z5 v0 v1 v2 v3 v4 v5
        generalize wr.drew = w4 at hcall HD ⊢
        cases he : eqB x y with
        | true =>
          rw [he] at hcall
          have HEq := Lib.hid (eqB_true.1 he)
          clear he
          go_wp2_with fail
          refine hcall.mono fun e w5 h => ?_
          obtain ⟨rfl, hc5⟩ := h
          clear hcall
          go_wp2_with fail
          go_roundw
          case rel => exact ⟨k + 1, hlt, by simp, take_same HK.out.1 HK.out.2.2.1 HK.out.2.2.2.1 HEq.out, HD.out.trans hc5⟩
          case measure => simp [intOf]; omega
        | false =>
          rw [he] at hcall
          have HEq := Lib.hid (eqB_false.1 he)
          clear he
          go_wp2_with fail
          refine hcall.mono fun e w5 h => ?_
          obtain ⟨rfl, hc5⟩ := h
          clear hcall
          go_wp2_with fail
          go_ret
          refine ⟨?_, HD.out.trans hc5⟩
          have hne : eqB l m = false := eqB_false.2 (not_same_at HK.out.2.2.1 HK.out.2.2.2.1 HEq.out)
          rw [hne]
          first
            | rfl
            | simp
      · have q1 : decide (k < l.length) = true := decide_eq_true hlt
        have q1m : decide (k < m.length) = false := decide_eq_false hltm
        have q4 : ((l.length : Int) == (m.length : Int)) = false := by simp only [beq_eq_false_iff_ne]; omega
        have p4 : (l.length == m.length) = false := by simp only [beq_eq_false_iff_ne]; omega
        have HS := Lib.hid (show eqB l m = false from eqB_false.2 fun he => by rw [he] at hlt; omega)
        have HC := Lib.hid hch
        clear hs hch
        go_wp2_with fail
        go_ret
        refine ⟨?_, HC.out⟩
        rw [HS.out]
        first
          | rfl
          | (simp; done)
          | simp [q4, p4]
    · have q1 : decide (k < l.length) = false := decide_eq_false hlt
      obtain rfl : k = l.length := by omega
      have HC := Lib.hid hch
      by_cases hlm : l.length = m.length
      · have q4 : ((l.length : Int) == (m.length : Int)) = true := by simp [hlm]
        have p4 : (l.length == m.length) = true := by simp [hlm]
        have HS := Lib.hid (show eqB l m = true from eqB_true.2 (by
          have h1 : l.take l.length = l := List.take_of_length_le (Nat.le_refl _)
          have h2 : m.take l.length = m := List.take_of_length_le (by omega)
          rw [← h1, ← h2]
          exact hs))
        clear hs hch hlm
        go_wp2_with fail
        go_ret
        refine ⟨?_, HC.out⟩
        rw [HS.out]
        first
          | rfl
          | (simp; done)
          | simp [q4, p4]
          | simp_all
      · have q4 : ((l.length : Int) == (m.length : Int)) = false := by simp only [beq_eq_false_iff_ne]; omega
        have p4 : (l.length == m.length) = false := by simp only [beq_eq_false_iff_ne]; omega
        have HS := Lib.hid (show eqB l m = false from eqB_false.2 fun he => hlm (by rw [he]))
        clear hs hch hlm
        go_wp2_with fail
        go_ret
        refine ⟨?_, HC.out⟩
        rw [HS.out]
        first
          | rfl
          | (simp; done)
          | simp [q4, p4]
          | simp_all
end Go.Proofs.YtgemacdnncjmdaaDoor
