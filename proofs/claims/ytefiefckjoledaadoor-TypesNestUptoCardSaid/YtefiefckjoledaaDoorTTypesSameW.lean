/-
  The walk of TypesSame.
-/
import Derived.Test.YtefiefckjoledaaDoorTFill4
import Derived.Deep.RegionHeld3
namespace Go.Proofs.YtefiefckjoledaaDoor
open Go.RowKit
set_option linter.unusedVariables false
set_option linter.unusedSimpArgs false

theorem held12_next {w0 w1 w2 : World} {g1 g2 : Nat} {x0 x1 x2 x3 x4 x5 x6 x7 x8 x9 x10 x11 : Value} (k : w1.cell? ⟨g1, 0, none⟩ = some x0 ∧ w1.cell? ⟨g1, 1, none⟩ = some x1 ∧ w1.cell? ⟨g1, 2, none⟩ = some x2 ∧ w1.cell? ⟨g1, 3, none⟩ = some x3 ∧ w1.cell? ⟨g1, 4, none⟩ = some x4 ∧ w1.cell? ⟨g1, 5, none⟩ = some x5 ∧ w1.cell? ⟨g2, 0, none⟩ = some x6 ∧ w1.cell? ⟨g2, 1, none⟩ = some x7 ∧ w1.cell? ⟨g2, 2, none⟩ = some x8 ∧ w1.cell? ⟨g2, 3, none⟩ = some x9 ∧ w1.cell? ⟨g2, 4, none⟩ = some x10 ∧ w1.cell? ⟨g2, 5, none⟩ = some x11 ∧ Chg (fun _ _ => False) w0 w1) (hc : Chg (fun _ _ => False) w1 w2) : w2.cell? ⟨g1, 0, none⟩ = some x0 ∧ w2.cell? ⟨g1, 1, none⟩ = some x1 ∧ w2.cell? ⟨g1, 2, none⟩ = some x2 ∧ w2.cell? ⟨g1, 3, none⟩ = some x3 ∧ w2.cell? ⟨g1, 4, none⟩ = some x4 ∧ w2.cell? ⟨g1, 5, none⟩ = some x5 ∧ w2.cell? ⟨g2, 0, none⟩ = some x6 ∧ w2.cell? ⟨g2, 1, none⟩ = some x7 ∧ w2.cell? ⟨g2, 2, none⟩ = some x8 ∧ w2.cell? ⟨g2, 3, none⟩ = some x9 ∧ w2.cell? ⟨g2, 4, none⟩ = some x10 ∧ w2.cell? ⟨g2, 5, none⟩ = some x11 ∧ Chg (fun _ _ => False) w0 w2 :=
  ⟨hc.cell k.1 fun _ h => h, hc.cell k.2.1 fun _ h => h, hc.cell k.2.2.1 fun _ h => h, hc.cell k.2.2.2.1 fun _ h => h, hc.cell k.2.2.2.2.1 fun _ h => h, hc.cell k.2.2.2.2.2.1 fun _ h => h, hc.cell k.2.2.2.2.2.2.1 fun _ h => h, hc.cell k.2.2.2.2.2.2.2.1 fun _ h => h, hc.cell k.2.2.2.2.2.2.2.2.1 fun _ h => h, hc.cell k.2.2.2.2.2.2.2.2.2.1 fun _ h => h, hc.cell k.2.2.2.2.2.2.2.2.2.2.1 fun _ h => h, hc.cell k.2.2.2.2.2.2.2.2.2.2.2.1 fun _ h => h, k.2.2.2.2.2.2.2.2.2.2.2.2.trans hc⟩
theorem held12_chg {w0 w1 : World} {g1 g2 : Nat} {x0 x1 x2 x3 x4 x5 x6 x7 x8 x9 x10 x11 : Value} (k : w1.cell? ⟨g1, 0, none⟩ = some x0 ∧ w1.cell? ⟨g1, 1, none⟩ = some x1 ∧ w1.cell? ⟨g1, 2, none⟩ = some x2 ∧ w1.cell? ⟨g1, 3, none⟩ = some x3 ∧ w1.cell? ⟨g1, 4, none⟩ = some x4 ∧ w1.cell? ⟨g1, 5, none⟩ = some x5 ∧ w1.cell? ⟨g2, 0, none⟩ = some x6 ∧ w1.cell? ⟨g2, 1, none⟩ = some x7 ∧ w1.cell? ⟨g2, 2, none⟩ = some x8 ∧ w1.cell? ⟨g2, 3, none⟩ = some x9 ∧ w1.cell? ⟨g2, 4, none⟩ = some x10 ∧ w1.cell? ⟨g2, 5, none⟩ = some x11 ∧ Chg (fun _ _ => False) w0 w1) : Chg (fun _ _ => False) w0 w1 := k.2.2.2.2.2.2.2.2.2.2.2.2
theorem held12_id {w0 w1 : World} {g1 g2 : Nat} {x0 x1 x2 x3 x4 x5 x6 x7 x8 x9 x10 x11 : Value} (k : w1.cell? ⟨g1, 0, none⟩ = some x0 ∧ w1.cell? ⟨g1, 1, none⟩ = some x1 ∧ w1.cell? ⟨g1, 2, none⟩ = some x2 ∧ w1.cell? ⟨g1, 3, none⟩ = some x3 ∧ w1.cell? ⟨g1, 4, none⟩ = some x4 ∧ w1.cell? ⟨g1, 5, none⟩ = some x5 ∧ w1.cell? ⟨g2, 0, none⟩ = some x6 ∧ w1.cell? ⟨g2, 1, none⟩ = some x7 ∧ w1.cell? ⟨g2, 2, none⟩ = some x8 ∧ w1.cell? ⟨g2, 3, none⟩ = some x9 ∧ w1.cell? ⟨g2, 4, none⟩ = some x10 ∧ w1.cell? ⟨g2, 5, none⟩ = some x11 ∧ Chg (fun _ _ => False) w0 w1) : w1.cell? ⟨g1, 0, none⟩ = some x0 ∧ w1.cell? ⟨g1, 1, none⟩ = some x1 ∧ w1.cell? ⟨g1, 2, none⟩ = some x2 ∧ w1.cell? ⟨g1, 3, none⟩ = some x3 ∧ w1.cell? ⟨g1, 4, none⟩ = some x4 ∧ w1.cell? ⟨g1, 5, none⟩ = some x5 ∧ w1.cell? ⟨g2, 0, none⟩ = some x6 ∧ w1.cell? ⟨g2, 1, none⟩ = some x7 ∧ w1.cell? ⟨g2, 2, none⟩ = some x8 ∧ w1.cell? ⟨g2, 3, none⟩ = some x9 ∧ w1.cell? ⟨g2, 4, none⟩ = some x10 ∧ w1.cell? ⟨g2, 5, none⟩ = some x11 ∧ Chg (fun _ _ => False) w0 w1 := k
theorem ty_next {n : Nat} {w1 w2 : World} {cs : List Value} {t : Ty} (h : TyR n w1.heap.size w1 cs t) (hc : Chg (fun _ _ => False) w1 w2) : TyR n w2.heap.size w2 cs t := TyR.more hc.size (TyR.keep0 hc h)
set_option maxRecDepth 100000 in
set_option maxHeartbeats 8000000 in
theorem typesSame_walk (n B : Nat) (w : World) (a b : Ty) (Af : Option Addr) (cf : Nat) (Al : Option Addr) (cl : Nat) (Ar : Option Addr) (cr : Nat) (Bf : Option Addr) (df : Nat) (Bl : Option Addr) (dl : Nat) (Br : Option Addr) (dr : Nat) (hB : B ≤ w.heap.size) (hTab : Tabs w) (hA : TyR n B w (tyCells a.kind a.name a.con Af a.fields.length cf Al a.list.length cl Ar a.res.length cr) a) (hC : TyR n B w (tyCells b.kind b.name b.con Bf b.fields.length df Bl b.list.length dl Br b.res.length dr) b) :
    Calls Tryd.prog 7 #[.agg #[.int .i64 a.kind, .string a.name, .int .i64 a.con, .slice Af a.fields.length cf, .slice Al a.list.length cl, .slice Ar a.res.length cr], .agg #[.int .i64 b.kind, .string b.name, .int .i64 b.con, .slice Bf b.fields.length df, .slice Bl b.list.length dl, .slice Br b.res.length dr]] w fun e w' => e = .returned (.bool true) ∧ Chg (fun _ _ => False) w w' := by
  have hb1 := (Blk.new w 39 #[.int .i64 a.kind, .string a.name, .int .i64 a.con, .slice Af a.fields.length cf, .slice Al a.list.length cl, .slice Ar a.res.length cr]).alloc (.cells #[.int .i64 b.kind, .string b.name, .int .i64 b.con, .slice Bf b.fields.length df, .slice Bl b.list.length dl, .slice Br b.res.length dr] 39)
  have hb2 := Blk.new (w.alloc (.cells #[.int .i64 a.kind, .string a.name, .int .i64 a.con, .slice Af a.fields.length cf, .slice Al a.list.length cl, .slice Ar a.res.length cr] 39)) 39 #[.int .i64 b.kind, .string b.name, .int .i64 b.con, .slice Bf b.fields.length df, .slice Bl b.list.length dl, .slice Br b.res.length dr]
  have hc1 := (chg_alloc w (.cells #[.int .i64 a.kind, .string a.name, .int .i64 a.con, .slice Af a.fields.length cf, .slice Al a.list.length cl, .slice Ar a.res.length cr] 39)).alloc (.cells #[.int .i64 b.kind, .string b.name, .int .i64 b.con, .slice Bf b.fields.length df, .slice Bl b.list.length dl, .slice Br b.res.length dr] 39)
  simp only [World.size_alloc] at hb2
  have H := Lib.hid (And.intro hB (And.intro hTab (And.intro hA hC)))
  have HH := Lib.hid (And.intro hb1 (And.intro hb2 hc1))
  have hts := fun (D : Nat) (w1 : World) Xf xf Xl xl Xr xr Yf yf Yl yl Yr yr => tsame_any n D w1 a b Xf xf Xl xl Xr xr Yf yf Yl yl Yr yr
  have hsa := fun (w1 : World) (hc : Chg (fun _ _ => False) w w1) => rsound_any n B w1 a Af cf Al cl Ar cr (Nat.le_trans hB hc.size) (TyR.keep0 hc hA)
  have hsb := fun (w1 : World) (hc : Chg (fun _ _ => False) w w1) => rsound_any n B w1 b Bf df Bl dl Br dr (Nat.le_trans hB hc.size) (TyR.keep0 hc hC)
  have heq := fun (w1 : World) (hc : Chg (fun _ _ => False) w w1) => rsame_any n B w1 a b Af cf Al cl Ar cr Bf df Bl dl Br dr (Nat.le_trans hB hc.size) (TyR.keep0 hc hA) (TyR.keep0 hc hC)
  clear hB hTab hA hC hb1 hb2 hc1
  cases sa : soundT a with
  | false =>
    simp only [sa, Bool.false_and, show errOf false = 1 from rfl] at hts hsa
    clear sa
    go_enter Tryd.func7, Tryd.ntmps7
    go_wp2_with fail
    generalize (w.alloc (.cells #[.int .i64 a.kind, .string a.name, .int .i64 a.con, .slice Af a.fields.length cf, .slice Al a.list.length cl, .slice Ar a.res.length cr] 39)).alloc (.cells #[.int .i64 b.kind, .string b.name, .int .i64 b.con, .slice Bf b.fields.length df, .slice Bl b.list.length dl, .slice Br b.res.length dr] 39) = W at HH ⊢
    generalize w.heap.size + 1 = g2 at HH ⊢
    generalize w.heap.size = g1 at HH ⊢
    obtain ⟨y0, y1, y2, y3, y4, y5⟩ := HH.out.1.cells6
    obtain ⟨x0, x1, x2, x3, x4, x5⟩ := HH.out.2.1.cells6
    have hK : W.cell? ⟨g1, 0, none⟩ = some (.int .i64 a.kind) ∧ W.cell? ⟨g1, 1, none⟩ = some (.string a.name) ∧ W.cell? ⟨g1, 2, none⟩ = some (.int .i64 a.con) ∧ W.cell? ⟨g1, 3, none⟩ = some (.slice Af a.fields.length cf) ∧ W.cell? ⟨g1, 4, none⟩ = some (.slice Al a.list.length cl) ∧ W.cell? ⟨g1, 5, none⟩ = some (.slice Ar a.res.length cr) ∧ W.cell? ⟨g2, 0, none⟩ = some (.int .i64 b.kind) ∧ W.cell? ⟨g2, 1, none⟩ = some (.string b.name) ∧ W.cell? ⟨g2, 2, none⟩ = some (.int .i64 b.con) ∧ W.cell? ⟨g2, 3, none⟩ = some (.slice Bf b.fields.length df) ∧ W.cell? ⟨g2, 4, none⟩ = some (.slice Bl b.list.length dl) ∧ W.cell? ⟨g2, 5, none⟩ = some (.slice Br b.res.length dr) ∧ Chg (fun _ _ => False) w W := ⟨y0, y1, y2, y3, y4, y5, x0, x1, x2, x3, x4, x5, HH.out.2.2⟩
    have hKd := held12_next hK ((Chg.refl (fun _ _ => False) W).drew)
    clear y0 y1 y2 y3 y4 y5 x0 x1 x2 x3 x4 x5 hK HH
    go_region_held3 (fun w' => w'.cell? ⟨g1, 0, none⟩ = some (.int .i64 a.kind) ∧ w'.cell? ⟨g1, 1, none⟩ = some (.string a.name) ∧ w'.cell? ⟨g1, 2, none⟩ = some (.int .i64 a.con) ∧ w'.cell? ⟨g1, 3, none⟩ = some (.slice Af a.fields.length cf) ∧ w'.cell? ⟨g1, 4, none⟩ = some (.slice Al a.list.length cl) ∧ w'.cell? ⟨g1, 5, none⟩ = some (.slice Ar a.res.length cr) ∧ w'.cell? ⟨g2, 0, none⟩ = some (.int .i64 b.kind) ∧ w'.cell? ⟨g2, 1, none⟩ = some (.string b.name) ∧ w'.cell? ⟨g2, 2, none⟩ = some (.int .i64 b.con) ∧ w'.cell? ⟨g2, 3, none⟩ = some (.slice Bf b.fields.length df) ∧ w'.cell? ⟨g2, 4, none⟩ = some (.slice Bl b.list.length dl) ∧ w'.cell? ⟨g2, 5, none⟩ = some (.slice Br b.res.length dr) ∧ Chg (fun _ _ => False) w w')
      (assumption)
      (first
        | (go_at_call 23
           refine (hts _ _ _ _ _ _ _ _ _ _ _ _ _ _ (Nat.le_refl _) (H.out.2.1.keep0 (held12_chg (by assumption))) (by assumption) (by assumption)).mono ?_
           rintro e w' ⟨rfl, hc⟩
           have hS := held12_next (by assumption) hc
           clear hc)
        | (go_at_call_of 24 (Value.agg #[.int .i64 a.kind, .string a.name, .int .i64 a.con, .slice Af a.fields.length cf, .slice Al a.list.length cl, .slice Ar a.res.length cr])
           refine (own2_any n B _ a Af cf Al cl Ar cr (Nat.le_trans H.out.1 (held12_chg (by assumption)).size) (TyR.keep0 (held12_chg (by assumption)) H.out.2.2.1)).mono ?_
           rintro e w' ⟨Xf, xf, Xl, xl, Xr, xr, rfl, hN, hc⟩
           have hS := held12_next (by assumption) hc
           have hX := TyN.tyR hN
           try have hk := ty_next (by assumption) hc
           clear hN hc)
        | (go_at_call_of 24 (Value.agg #[.int .i64 b.kind, .string b.name, .int .i64 b.con, .slice Bf b.fields.length df, .slice Bl b.list.length dl, .slice Br b.res.length dr])
           refine (own2_any n B _ b Bf df Bl dl Br dr (Nat.le_trans H.out.1 (held12_chg (by assumption)).size) (TyR.keep0 (held12_chg (by assumption)) H.out.2.2.2)).mono ?_
           rintro e w' ⟨Xf, xf, Xl, xl, Xr, xr, rfl, hN, hc⟩
           have hS := held12_next (by assumption) hc
           have hX := TyN.tyR hN
           try have hk := ty_next (by assumption) hc
           clear hN hc))
    obtain ⟨y0, y1, y2, y3, y4, y5, x0, x1, x2, x3, x4, x5, hcw⟩ := held12_id (by assumption)
    go_wp2_with fail
    refine (answers2_any _ (H.out.2.1.keep0 hcw)).mono fun e w2 h => ?_
    obtain ⟨rfl, hc2⟩ := h
    have hS2 := held12_next (by assumption) hc2
    clear y0 y1 y2 y3 y4 y5 x0 x1 x2 x3 x4 x5 hcw hc2
    obtain ⟨y0, y1, y2, y3, y4, y5, x0, x1, x2, x3, x4, x5, hcw⟩ := hS2
    go_wp2_with fail
    refine (hsa _ hcw).mono fun e w3 h => ?_
    obtain ⟨rfl, hc3⟩ := h
    have hS3 := held12_next ⟨y0, y1, y2, y3, y4, y5, x0, x1, x2, x3, x4, x5, hcw⟩ hc3
    clear y0 y1 y2 y3 y4 y5 x0 x1 x2 x3 x4 x5 hcw hc3
    obtain ⟨y0, y1, y2, y3, y4, y5, x0, x1, x2, x3, x4, x5, hcw⟩ := hS3
    go_wp2_with fail
    go_ret
    exact ⟨rfl, hcw⟩
  | true =>
    cases sb : soundT b with
    | false =>
      simp only [sa, sb, Bool.and_false, Bool.false_and, show errOf false = 1 from rfl] at hts hsa hsb
      clear sa sb
      go_enter Tryd.func7, Tryd.ntmps7
      go_wp2_with fail
      generalize (w.alloc (.cells #[.int .i64 a.kind, .string a.name, .int .i64 a.con, .slice Af a.fields.length cf, .slice Al a.list.length cl, .slice Ar a.res.length cr] 39)).alloc (.cells #[.int .i64 b.kind, .string b.name, .int .i64 b.con, .slice Bf b.fields.length df, .slice Bl b.list.length dl, .slice Br b.res.length dr] 39) = W at HH ⊢
      generalize w.heap.size + 1 = g2 at HH ⊢
      generalize w.heap.size = g1 at HH ⊢
      obtain ⟨y0, y1, y2, y3, y4, y5⟩ := HH.out.1.cells6
      obtain ⟨x0, x1, x2, x3, x4, x5⟩ := HH.out.2.1.cells6
      have hK : W.cell? ⟨g1, 0, none⟩ = some (.int .i64 a.kind) ∧ W.cell? ⟨g1, 1, none⟩ = some (.string a.name) ∧ W.cell? ⟨g1, 2, none⟩ = some (.int .i64 a.con) ∧ W.cell? ⟨g1, 3, none⟩ = some (.slice Af a.fields.length cf) ∧ W.cell? ⟨g1, 4, none⟩ = some (.slice Al a.list.length cl) ∧ W.cell? ⟨g1, 5, none⟩ = some (.slice Ar a.res.length cr) ∧ W.cell? ⟨g2, 0, none⟩ = some (.int .i64 b.kind) ∧ W.cell? ⟨g2, 1, none⟩ = some (.string b.name) ∧ W.cell? ⟨g2, 2, none⟩ = some (.int .i64 b.con) ∧ W.cell? ⟨g2, 3, none⟩ = some (.slice Bf b.fields.length df) ∧ W.cell? ⟨g2, 4, none⟩ = some (.slice Bl b.list.length dl) ∧ W.cell? ⟨g2, 5, none⟩ = some (.slice Br b.res.length dr) ∧ Chg (fun _ _ => False) w W := ⟨y0, y1, y2, y3, y4, y5, x0, x1, x2, x3, x4, x5, HH.out.2.2⟩
      have hKd := held12_next hK ((Chg.refl (fun _ _ => False) W).drew)
      clear y0 y1 y2 y3 y4 y5 x0 x1 x2 x3 x4 x5 hK HH
      go_region_held3 (fun w' => w'.cell? ⟨g1, 0, none⟩ = some (.int .i64 a.kind) ∧ w'.cell? ⟨g1, 1, none⟩ = some (.string a.name) ∧ w'.cell? ⟨g1, 2, none⟩ = some (.int .i64 a.con) ∧ w'.cell? ⟨g1, 3, none⟩ = some (.slice Af a.fields.length cf) ∧ w'.cell? ⟨g1, 4, none⟩ = some (.slice Al a.list.length cl) ∧ w'.cell? ⟨g1, 5, none⟩ = some (.slice Ar a.res.length cr) ∧ w'.cell? ⟨g2, 0, none⟩ = some (.int .i64 b.kind) ∧ w'.cell? ⟨g2, 1, none⟩ = some (.string b.name) ∧ w'.cell? ⟨g2, 2, none⟩ = some (.int .i64 b.con) ∧ w'.cell? ⟨g2, 3, none⟩ = some (.slice Bf b.fields.length df) ∧ w'.cell? ⟨g2, 4, none⟩ = some (.slice Bl b.list.length dl) ∧ w'.cell? ⟨g2, 5, none⟩ = some (.slice Br b.res.length dr) ∧ Chg (fun _ _ => False) w w')
        (assumption)
        (first
          | (go_at_call 23
             refine (hts _ _ _ _ _ _ _ _ _ _ _ _ _ _ (Nat.le_refl _) (H.out.2.1.keep0 (held12_chg (by assumption))) (by assumption) (by assumption)).mono ?_
             rintro e w' ⟨rfl, hc⟩
             have hS := held12_next (by assumption) hc
             clear hc)
          | (go_at_call_of 24 (Value.agg #[.int .i64 a.kind, .string a.name, .int .i64 a.con, .slice Af a.fields.length cf, .slice Al a.list.length cl, .slice Ar a.res.length cr])
             refine (own2_any n B _ a Af cf Al cl Ar cr (Nat.le_trans H.out.1 (held12_chg (by assumption)).size) (TyR.keep0 (held12_chg (by assumption)) H.out.2.2.1)).mono ?_
             rintro e w' ⟨Xf, xf, Xl, xl, Xr, xr, rfl, hN, hc⟩
             have hS := held12_next (by assumption) hc
             have hX := TyN.tyR hN
             try have hk := ty_next (by assumption) hc
             clear hN hc)
          | (go_at_call_of 24 (Value.agg #[.int .i64 b.kind, .string b.name, .int .i64 b.con, .slice Bf b.fields.length df, .slice Bl b.list.length dl, .slice Br b.res.length dr])
             refine (own2_any n B _ b Bf df Bl dl Br dr (Nat.le_trans H.out.1 (held12_chg (by assumption)).size) (TyR.keep0 (held12_chg (by assumption)) H.out.2.2.2)).mono ?_
             rintro e w' ⟨Xf, xf, Xl, xl, Xr, xr, rfl, hN, hc⟩
             have hS := held12_next (by assumption) hc
             have hX := TyN.tyR hN
             try have hk := ty_next (by assumption) hc
             clear hN hc))
      obtain ⟨y0, y1, y2, y3, y4, y5, x0, x1, x2, x3, x4, x5, hcw⟩ := held12_id (by assumption)
      go_wp2_with fail
      refine (answers2_any _ (H.out.2.1.keep0 hcw)).mono fun e w2 h => ?_
      obtain ⟨rfl, hc2⟩ := h
      have hS2 := held12_next (by assumption) hc2
      clear y0 y1 y2 y3 y4 y5 x0 x1 x2 x3 x4 x5 hcw hc2
      obtain ⟨y0, y1, y2, y3, y4, y5, x0, x1, x2, x3, x4, x5, hcw⟩ := hS2
      go_wp2_with fail
      refine (hsa _ hcw).mono fun e w3 h => ?_
      obtain ⟨rfl, hc3⟩ := h
      have hS3 := held12_next ⟨y0, y1, y2, y3, y4, y5, x0, x1, x2, x3, x4, x5, hcw⟩ hc3
      clear y0 y1 y2 y3 y4 y5 x0 x1 x2 x3 x4 x5 hcw hc3
      obtain ⟨y0, y1, y2, y3, y4, y5, x0, x1, x2, x3, x4, x5, hcw⟩ := hS3
      go_wp2_with fail
      refine (hsb _ hcw).mono fun e w4 h => ?_
      obtain ⟨rfl, hc4⟩ := h
      have hS4 := held12_next ⟨y0, y1, y2, y3, y4, y5, x0, x1, x2, x3, x4, x5, hcw⟩ hc4
      clear y0 y1 y2 y3 y4 y5 x0 x1 x2 x3 x4 x5 hcw hc4
      obtain ⟨y0, y1, y2, y3, y4, y5, x0, x1, x2, x3, x4, x5, hcw⟩ := hS4
      go_wp2_with fail
      go_ret
      exact ⟨rfl, hcw⟩
    | true =>
      simp only [sa, sb, Bool.and_true, Bool.true_and, show errOf true = 0 from rfl] at hts hsa hsb
      clear sa sb
      go_enter Tryd.func7, Tryd.ntmps7
      go_wp2_with fail
      generalize (w.alloc (.cells #[.int .i64 a.kind, .string a.name, .int .i64 a.con, .slice Af a.fields.length cf, .slice Al a.list.length cl, .slice Ar a.res.length cr] 39)).alloc (.cells #[.int .i64 b.kind, .string b.name, .int .i64 b.con, .slice Bf b.fields.length df, .slice Bl b.list.length dl, .slice Br b.res.length dr] 39) = W at HH ⊢
      generalize w.heap.size + 1 = g2 at HH ⊢
      generalize w.heap.size = g1 at HH ⊢
      obtain ⟨y0, y1, y2, y3, y4, y5⟩ := HH.out.1.cells6
      obtain ⟨x0, x1, x2, x3, x4, x5⟩ := HH.out.2.1.cells6
      have hK : W.cell? ⟨g1, 0, none⟩ = some (.int .i64 a.kind) ∧ W.cell? ⟨g1, 1, none⟩ = some (.string a.name) ∧ W.cell? ⟨g1, 2, none⟩ = some (.int .i64 a.con) ∧ W.cell? ⟨g1, 3, none⟩ = some (.slice Af a.fields.length cf) ∧ W.cell? ⟨g1, 4, none⟩ = some (.slice Al a.list.length cl) ∧ W.cell? ⟨g1, 5, none⟩ = some (.slice Ar a.res.length cr) ∧ W.cell? ⟨g2, 0, none⟩ = some (.int .i64 b.kind) ∧ W.cell? ⟨g2, 1, none⟩ = some (.string b.name) ∧ W.cell? ⟨g2, 2, none⟩ = some (.int .i64 b.con) ∧ W.cell? ⟨g2, 3, none⟩ = some (.slice Bf b.fields.length df) ∧ W.cell? ⟨g2, 4, none⟩ = some (.slice Bl b.list.length dl) ∧ W.cell? ⟨g2, 5, none⟩ = some (.slice Br b.res.length dr) ∧ Chg (fun _ _ => False) w W := ⟨y0, y1, y2, y3, y4, y5, x0, x1, x2, x3, x4, x5, HH.out.2.2⟩
      have hKd := held12_next hK ((Chg.refl (fun _ _ => False) W).drew)
      clear y0 y1 y2 y3 y4 y5 x0 x1 x2 x3 x4 x5 hK HH
      go_region_held3 (fun w' => w'.cell? ⟨g1, 0, none⟩ = some (.int .i64 a.kind) ∧ w'.cell? ⟨g1, 1, none⟩ = some (.string a.name) ∧ w'.cell? ⟨g1, 2, none⟩ = some (.int .i64 a.con) ∧ w'.cell? ⟨g1, 3, none⟩ = some (.slice Af a.fields.length cf) ∧ w'.cell? ⟨g1, 4, none⟩ = some (.slice Al a.list.length cl) ∧ w'.cell? ⟨g1, 5, none⟩ = some (.slice Ar a.res.length cr) ∧ w'.cell? ⟨g2, 0, none⟩ = some (.int .i64 b.kind) ∧ w'.cell? ⟨g2, 1, none⟩ = some (.string b.name) ∧ w'.cell? ⟨g2, 2, none⟩ = some (.int .i64 b.con) ∧ w'.cell? ⟨g2, 3, none⟩ = some (.slice Bf b.fields.length df) ∧ w'.cell? ⟨g2, 4, none⟩ = some (.slice Bl b.list.length dl) ∧ w'.cell? ⟨g2, 5, none⟩ = some (.slice Br b.res.length dr) ∧ Chg (fun _ _ => False) w w')
        (assumption)
        (first
          | (go_at_call 23
             refine (hts _ _ _ _ _ _ _ _ _ _ _ _ _ _ (Nat.le_refl _) (H.out.2.1.keep0 (held12_chg (by assumption))) (by assumption) (by assumption)).mono ?_
             rintro e w' ⟨rfl, hc⟩
             have hS := held12_next (by assumption) hc
             clear hc)
          | (go_at_call_of 24 (Value.agg #[.int .i64 a.kind, .string a.name, .int .i64 a.con, .slice Af a.fields.length cf, .slice Al a.list.length cl, .slice Ar a.res.length cr])
             refine (own2_any n B _ a Af cf Al cl Ar cr (Nat.le_trans H.out.1 (held12_chg (by assumption)).size) (TyR.keep0 (held12_chg (by assumption)) H.out.2.2.1)).mono ?_
             rintro e w' ⟨Xf, xf, Xl, xl, Xr, xr, rfl, hN, hc⟩
             have hS := held12_next (by assumption) hc
             have hX := TyN.tyR hN
             try have hk := ty_next (by assumption) hc
             clear hN hc)
          | (go_at_call_of 24 (Value.agg #[.int .i64 b.kind, .string b.name, .int .i64 b.con, .slice Bf b.fields.length df, .slice Bl b.list.length dl, .slice Br b.res.length dr])
             refine (own2_any n B _ b Bf df Bl dl Br dr (Nat.le_trans H.out.1 (held12_chg (by assumption)).size) (TyR.keep0 (held12_chg (by assumption)) H.out.2.2.2)).mono ?_
             rintro e w' ⟨Xf, xf, Xl, xl, Xr, xr, rfl, hN, hc⟩
             have hS := held12_next (by assumption) hc
             have hX := TyN.tyR hN
             try have hk := ty_next (by assumption) hc
             clear hN hc))
      obtain ⟨y0, y1, y2, y3, y4, y5, x0, x1, x2, x3, x4, x5, hcw⟩ := held12_id (by assumption)
      go_wp2_with fail
      refine (answers2_any _ (H.out.2.1.keep0 hcw)).mono fun e w2 h => ?_
      obtain ⟨rfl, hc2⟩ := h
      have hS2 := held12_next (by assumption) hc2
      clear y0 y1 y2 y3 y4 y5 x0 x1 x2 x3 x4 x5 hcw hc2
      obtain ⟨y0, y1, y2, y3, y4, y5, x0, x1, x2, x3, x4, x5, hcw⟩ := hS2
      go_wp2_with fail
      refine (hsa _ hcw).mono fun e w3 h => ?_
      obtain ⟨rfl, hc3⟩ := h
      have hS3 := held12_next ⟨y0, y1, y2, y3, y4, y5, x0, x1, x2, x3, x4, x5, hcw⟩ hc3
      clear y0 y1 y2 y3 y4 y5 x0 x1 x2 x3 x4 x5 hcw hc3
      obtain ⟨y0, y1, y2, y3, y4, y5, x0, x1, x2, x3, x4, x5, hcw⟩ := hS3
      go_wp2_with fail
      refine (hsb _ hcw).mono fun e w4 h => ?_
      obtain ⟨rfl, hc4⟩ := h
      have hS4 := held12_next ⟨y0, y1, y2, y3, y4, y5, x0, x1, x2, x3, x4, x5, hcw⟩ hc4
      clear y0 y1 y2 y3 y4 y5 x0 x1 x2 x3 x4 x5 hcw hc4
      obtain ⟨y0, y1, y2, y3, y4, y5, x0, x1, x2, x3, x4, x5, hcw⟩ := hS4
      go_wp2_with fail
      refine (heq _ hcw).mono fun e w5 h => ?_
      obtain ⟨rfl, hc5⟩ := h
      have HC := Lib.hid (hcw.trans hc5)
      go_wp2_with fail
      go_ret
      refine ⟨?_, HC.out⟩
      simp
end Go.Proofs.YtefiefckjoledaaDoor
