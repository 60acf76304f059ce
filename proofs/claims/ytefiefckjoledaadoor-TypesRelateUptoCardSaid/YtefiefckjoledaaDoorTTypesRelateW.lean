/-
  The walk of TypesRelate.
-/
import Derived.Test.YtefiefckjoledaaDoorTTypesSameW
import Derived.Test.YtefiefckjoledaaDoorTCells
namespace Go.Proofs.YtefiefckjoledaaDoor
open Go.RowKit
set_option linter.unusedVariables false
set_option linter.unusedSimpArgs false

theorem held18_next {w0 w1 w2 : World} {g1 g2 g3 : Nat} {x0 x1 x2 x3 x4 x5 x6 x7 x8 x9 x10 x11 x12 x13 x14 x15 x16 x17 : Value} (k : w1.cell? ⟨g1, 0, none⟩ = some x0 ∧ w1.cell? ⟨g1, 1, none⟩ = some x1 ∧ w1.cell? ⟨g1, 2, none⟩ = some x2 ∧ w1.cell? ⟨g1, 3, none⟩ = some x3 ∧ w1.cell? ⟨g1, 4, none⟩ = some x4 ∧ w1.cell? ⟨g1, 5, none⟩ = some x5 ∧ w1.cell? ⟨g2, 0, none⟩ = some x6 ∧ w1.cell? ⟨g2, 1, none⟩ = some x7 ∧ w1.cell? ⟨g2, 2, none⟩ = some x8 ∧ w1.cell? ⟨g2, 3, none⟩ = some x9 ∧ w1.cell? ⟨g2, 4, none⟩ = some x10 ∧ w1.cell? ⟨g2, 5, none⟩ = some x11 ∧ w1.cell? ⟨g3, 0, none⟩ = some x12 ∧ w1.cell? ⟨g3, 1, none⟩ = some x13 ∧ w1.cell? ⟨g3, 2, none⟩ = some x14 ∧ w1.cell? ⟨g3, 3, none⟩ = some x15 ∧ w1.cell? ⟨g3, 4, none⟩ = some x16 ∧ w1.cell? ⟨g3, 5, none⟩ = some x17 ∧ Chg (fun _ _ => False) w0 w1) (hc : Chg (fun _ _ => False) w1 w2) : w2.cell? ⟨g1, 0, none⟩ = some x0 ∧ w2.cell? ⟨g1, 1, none⟩ = some x1 ∧ w2.cell? ⟨g1, 2, none⟩ = some x2 ∧ w2.cell? ⟨g1, 3, none⟩ = some x3 ∧ w2.cell? ⟨g1, 4, none⟩ = some x4 ∧ w2.cell? ⟨g1, 5, none⟩ = some x5 ∧ w2.cell? ⟨g2, 0, none⟩ = some x6 ∧ w2.cell? ⟨g2, 1, none⟩ = some x7 ∧ w2.cell? ⟨g2, 2, none⟩ = some x8 ∧ w2.cell? ⟨g2, 3, none⟩ = some x9 ∧ w2.cell? ⟨g2, 4, none⟩ = some x10 ∧ w2.cell? ⟨g2, 5, none⟩ = some x11 ∧ w2.cell? ⟨g3, 0, none⟩ = some x12 ∧ w2.cell? ⟨g3, 1, none⟩ = some x13 ∧ w2.cell? ⟨g3, 2, none⟩ = some x14 ∧ w2.cell? ⟨g3, 3, none⟩ = some x15 ∧ w2.cell? ⟨g3, 4, none⟩ = some x16 ∧ w2.cell? ⟨g3, 5, none⟩ = some x17 ∧ Chg (fun _ _ => False) w0 w2 :=
  ⟨hc.cell k.1 fun _ h => h, hc.cell k.2.1 fun _ h => h, hc.cell k.2.2.1 fun _ h => h, hc.cell k.2.2.2.1 fun _ h => h, hc.cell k.2.2.2.2.1 fun _ h => h, hc.cell k.2.2.2.2.2.1 fun _ h => h, hc.cell k.2.2.2.2.2.2.1 fun _ h => h, hc.cell k.2.2.2.2.2.2.2.1 fun _ h => h, hc.cell k.2.2.2.2.2.2.2.2.1 fun _ h => h, hc.cell k.2.2.2.2.2.2.2.2.2.1 fun _ h => h, hc.cell k.2.2.2.2.2.2.2.2.2.2.1 fun _ h => h, hc.cell k.2.2.2.2.2.2.2.2.2.2.2.1 fun _ h => h, hc.cell k.2.2.2.2.2.2.2.2.2.2.2.2.1 fun _ h => h, hc.cell k.2.2.2.2.2.2.2.2.2.2.2.2.2.1 fun _ h => h, hc.cell k.2.2.2.2.2.2.2.2.2.2.2.2.2.2.1 fun _ h => h, hc.cell k.2.2.2.2.2.2.2.2.2.2.2.2.2.2.2.1 fun _ h => h, hc.cell k.2.2.2.2.2.2.2.2.2.2.2.2.2.2.2.2.1 fun _ h => h, hc.cell k.2.2.2.2.2.2.2.2.2.2.2.2.2.2.2.2.2.1 fun _ h => h, k.2.2.2.2.2.2.2.2.2.2.2.2.2.2.2.2.2.2.trans hc⟩
theorem held18_chg {w0 w1 : World} {g1 g2 g3 : Nat} {x0 x1 x2 x3 x4 x5 x6 x7 x8 x9 x10 x11 x12 x13 x14 x15 x16 x17 : Value} (k : w1.cell? ⟨g1, 0, none⟩ = some x0 ∧ w1.cell? ⟨g1, 1, none⟩ = some x1 ∧ w1.cell? ⟨g1, 2, none⟩ = some x2 ∧ w1.cell? ⟨g1, 3, none⟩ = some x3 ∧ w1.cell? ⟨g1, 4, none⟩ = some x4 ∧ w1.cell? ⟨g1, 5, none⟩ = some x5 ∧ w1.cell? ⟨g2, 0, none⟩ = some x6 ∧ w1.cell? ⟨g2, 1, none⟩ = some x7 ∧ w1.cell? ⟨g2, 2, none⟩ = some x8 ∧ w1.cell? ⟨g2, 3, none⟩ = some x9 ∧ w1.cell? ⟨g2, 4, none⟩ = some x10 ∧ w1.cell? ⟨g2, 5, none⟩ = some x11 ∧ w1.cell? ⟨g3, 0, none⟩ = some x12 ∧ w1.cell? ⟨g3, 1, none⟩ = some x13 ∧ w1.cell? ⟨g3, 2, none⟩ = some x14 ∧ w1.cell? ⟨g3, 3, none⟩ = some x15 ∧ w1.cell? ⟨g3, 4, none⟩ = some x16 ∧ w1.cell? ⟨g3, 5, none⟩ = some x17 ∧ Chg (fun _ _ => False) w0 w1) : Chg (fun _ _ => False) w0 w1 := k.2.2.2.2.2.2.2.2.2.2.2.2.2.2.2.2.2.2
theorem eqB_comm {α : Type} (a b : α) : eqB a b = eqB b a := by
  by_cases h : a = b
  · subst h; rfl
  · rw [eqB_false.2 h, eqB_false.2 fun h' => h h'.symm]
set_option maxRecDepth 100000 in
set_option maxHeartbeats 16000000 in
theorem typesRelate_walk (n B : Nat) (w : World) (a b c : Ty) (Af : Option Addr) (pf : Nat) (Al : Option Addr) (pl : Nat) (Ar : Option Addr) (pr : Nat) (Bf : Option Addr) (qf : Nat) (Bl : Option Addr) (ql : Nat) (Br : Option Addr) (qr : Nat) (Cf : Option Addr) (rf : Nat) (Cl : Option Addr) (rl : Nat) (Cr : Option Addr) (rr : Nat) (hB : B ≤ w.heap.size) (hTab : Tabs w) (hTa : TyR n B w (tyCells a.kind a.name a.con Af a.fields.length pf Al a.list.length pl Ar a.res.length pr) a) (hTb : TyR n B w (tyCells b.kind b.name b.con Bf b.fields.length qf Bl b.list.length ql Br b.res.length qr) b) (hTc : TyR n B w (tyCells c.kind c.name c.con Cf c.fields.length rf Cl c.list.length rl Cr c.res.length rr) c) :
    Calls Tryd.prog 10 #[.agg #[.int .i64 a.kind, .string a.name, .int .i64 a.con, .slice Af a.fields.length pf, .slice Al a.list.length pl, .slice Ar a.res.length pr], .agg #[.int .i64 b.kind, .string b.name, .int .i64 b.con, .slice Bf b.fields.length qf, .slice Bl b.list.length ql, .slice Br b.res.length qr], .agg #[.int .i64 c.kind, .string c.name, .int .i64 c.con, .slice Cf c.fields.length rf, .slice Cl c.list.length rl, .slice Cr c.res.length rr]] w fun e w' => e = .returned (.bool true) ∧ Chg (fun _ _ => False) w w' := by
  have hb1 := ((Blk.new w 39 #[.int .i64 a.kind, .string a.name, .int .i64 a.con, .slice Af a.fields.length pf, .slice Al a.list.length pl, .slice Ar a.res.length pr]).alloc (.cells #[.int .i64 b.kind, .string b.name, .int .i64 b.con, .slice Bf b.fields.length qf, .slice Bl b.list.length ql, .slice Br b.res.length qr] 39)).alloc (.cells #[.int .i64 c.kind, .string c.name, .int .i64 c.con, .slice Cf c.fields.length rf, .slice Cl c.list.length rl, .slice Cr c.res.length rr] 39)
  have hb2 := (Blk.new (w.alloc (.cells #[.int .i64 a.kind, .string a.name, .int .i64 a.con, .slice Af a.fields.length pf, .slice Al a.list.length pl, .slice Ar a.res.length pr] 39)) 39 #[.int .i64 b.kind, .string b.name, .int .i64 b.con, .slice Bf b.fields.length qf, .slice Bl b.list.length ql, .slice Br b.res.length qr]).alloc (.cells #[.int .i64 c.kind, .string c.name, .int .i64 c.con, .slice Cf c.fields.length rf, .slice Cl c.list.length rl, .slice Cr c.res.length rr] 39)
  have hb3 := Blk.new ((w.alloc (.cells #[.int .i64 a.kind, .string a.name, .int .i64 a.con, .slice Af a.fields.length pf, .slice Al a.list.length pl, .slice Ar a.res.length pr] 39)).alloc (.cells #[.int .i64 b.kind, .string b.name, .int .i64 b.con, .slice Bf b.fields.length qf, .slice Bl b.list.length ql, .slice Br b.res.length qr] 39)) 39 #[.int .i64 c.kind, .string c.name, .int .i64 c.con, .slice Cf c.fields.length rf, .slice Cl c.list.length rl, .slice Cr c.res.length rr]
  have hc1 := ((chg_alloc w (.cells #[.int .i64 a.kind, .string a.name, .int .i64 a.con, .slice Af a.fields.length pf, .slice Al a.list.length pl, .slice Ar a.res.length pr] 39)).alloc (.cells #[.int .i64 b.kind, .string b.name, .int .i64 b.con, .slice Bf b.fields.length qf, .slice Bl b.list.length ql, .slice Br b.res.length qr] 39)).alloc (.cells #[.int .i64 c.kind, .string c.name, .int .i64 c.con, .slice Cf c.fields.length rf, .slice Cl c.list.length rl, .slice Cr c.res.length rr] 39)
  simp only [World.size_alloc] at hb2 hb3
  have H := Lib.hid (And.intro hB (And.intro hTab (And.intro hTa (And.intro hTb hTc))))
  have HH := Lib.hid (And.intro hb1 (And.intro hb2 (And.intro hb3 hc1)))
  have ts1 := fun (D : Nat) (w1 : World) Xf xf Xl xl Xr xr Yf yf Yl yl Yr yr => tsame_any n D w1 a b Xf xf Xl xl Xr xr Yf yf Yl yl Yr yr
  have ts2 := fun (D : Nat) (w1 : World) Xf xf Xl xl Xr xr Yf yf Yl yl Yr yr => tsame_any n D w1 b a Xf xf Xl xl Xr xr Yf yf Yl yl Yr yr
  have ts3 := fun (D : Nat) (w1 : World) Xf xf Xl xl Xr xr Yf yf Yl yl Yr yr => tsame_any n D w1 b c Xf xf Xl xl Xr xr Yf yf Yl yl Yr yr
  have ts4 := fun (D : Nat) (w1 : World) Xf xf Xl xl Xr xr Yf yf Yl yl Yr yr => tsame_any n D w1 a c Xf xf Xl xl Xr xr Yf yf Yl yl Yr yr
  have tx1 := fun (D : Nat) (w1 : World) Xf xf Xl xl Xr xr => text_any n D w1 a Xf xf Xl xl Xr xr
  have tx2 := fun (D : Nat) (w1 : World) Xf xf Xl xl Xr xr => text_any n D w1 b Xf xf Xl xl Xr xr
  have tc1 := fun (D : Nat) (w1 : World) Xf xf Xl xl Xr xr => cells_any n D w1 a Xf xf Xl xl Xr xr
  have tc2 := fun (D : Nat) (w1 : World) Xf xf Xl xl Xr xr => cells_any n D w1 b Xf xf Xl xl Xr xr
  simp only [Bool.and_comm (soundT b) (soundT a), eqB_comm b a] at ts2
  clear hB hTab hTa hTb hTc hb1 hb2 hb3 hc1
  generalize hX1 : ((soundT a && soundT b) && eqB a b) = X1 at ts1 ts2
  generalize hE1 : errOf (soundT a && soundT b) = E1 at ts1 ts2
  by_cases p2 : (soundT b && soundT c) = true
  · by_cases p3 : (soundT a && soundT c) = true
    · have sa : soundT a = true := by cases h : soundT a <;> simp_all
      have sb : soundT b = true := by cases h : soundT b <;> simp_all
      have sc : soundT c = true := by cases h : soundT c <;> simp_all
      simp only [sa, sb, sc, Bool.and_true, Bool.true_and, if_true, show errOf true = 0 from rfl] at ts3 ts4 tx1 tx2 tc1 tc2 hX1 hE1
      subst hE1
      subst hX1
      clear sa sb sc p2 p3
      cases e1 : eqB a b with
      | false =>
        simp only [e1] at ts1 ts2
        clear e1
        go_enter Tryd.func10, Tryd.ntmps10
        go_wp2_with fail
        generalize ((w.alloc (.cells #[.int .i64 a.kind, .string a.name, .int .i64 a.con, .slice Af a.fields.length pf, .slice Al a.list.length pl, .slice Ar a.res.length pr] 39)).alloc (.cells #[.int .i64 b.kind, .string b.name, .int .i64 b.con, .slice Bf b.fields.length qf, .slice Bl b.list.length ql, .slice Br b.res.length qr] 39)).alloc (.cells #[.int .i64 c.kind, .string c.name, .int .i64 c.con, .slice Cf c.fields.length rf, .slice Cl c.list.length rl, .slice Cr c.res.length rr] 39) = W at HH ⊢
        generalize w.heap.size + 1 + 1 = g3 at HH ⊢
        generalize w.heap.size + 1 = g2 at HH ⊢
        generalize w.heap.size = g1 at HH ⊢
        obtain ⟨y0, y1, y2, y3, y4, y5⟩ := HH.out.1.cells6
        obtain ⟨y6, y7, y8, y9, y10, y11⟩ := HH.out.2.1.cells6
        obtain ⟨y12, y13, y14, y15, y16, y17⟩ := HH.out.2.2.1.cells6
        have hcw := HH.out.2.2.2
        clear HH
        have hS := And.intro y0 (And.intro y1 (And.intro y2 (And.intro y3 (And.intro y4 (And.intro y5 (And.intro y6 (And.intro y7 (And.intro y8 (And.intro y9 (And.intro y10 (And.intro y11 (And.intro y12 (And.intro y13 (And.intro y14 (And.intro y15 (And.intro y16 (And.intro y17 hcw)))))))))))))))))
        clear y0 y1 y2 y3 y4 y5 y6 y7 y8 y9 y10 y11 y12 y13 y14 y15 y16 y17 hcw
        have hKd := held18_next hS ((Chg.refl (fun _ _ => False) _).drew)
        go_region_held3 (fun w' => w'.cell? ⟨g1, 0, none⟩ = some (.int .i64 a.kind) ∧ w'.cell? ⟨g1, 1, none⟩ = some (.string a.name) ∧ w'.cell? ⟨g1, 2, none⟩ = some (.int .i64 a.con) ∧ w'.cell? ⟨g1, 3, none⟩ = some (.slice Af a.fields.length pf) ∧ w'.cell? ⟨g1, 4, none⟩ = some (.slice Al a.list.length pl) ∧ w'.cell? ⟨g1, 5, none⟩ = some (.slice Ar a.res.length pr) ∧ w'.cell? ⟨g2, 0, none⟩ = some (.int .i64 b.kind) ∧ w'.cell? ⟨g2, 1, none⟩ = some (.string b.name) ∧ w'.cell? ⟨g2, 2, none⟩ = some (.int .i64 b.con) ∧ w'.cell? ⟨g2, 3, none⟩ = some (.slice Bf b.fields.length qf) ∧ w'.cell? ⟨g2, 4, none⟩ = some (.slice Bl b.list.length ql) ∧ w'.cell? ⟨g2, 5, none⟩ = some (.slice Br b.res.length qr) ∧ w'.cell? ⟨g3, 0, none⟩ = some (.int .i64 c.kind) ∧ w'.cell? ⟨g3, 1, none⟩ = some (.string c.name) ∧ w'.cell? ⟨g3, 2, none⟩ = some (.int .i64 c.con) ∧ w'.cell? ⟨g3, 3, none⟩ = some (.slice Cf c.fields.length rf) ∧ w'.cell? ⟨g3, 4, none⟩ = some (.slice Cl c.list.length rl) ∧ w'.cell? ⟨g3, 5, none⟩ = some (.slice Cr c.res.length rr) ∧ Chg (fun _ _ => False) w w')
          (assumption)
          (first
            | (go_at_call 23
               refine (ts1 _ _ _ _ _ _ _ _ _ _ _ _ _ _ (Nat.le_refl _) (H.out.2.1.keep0 (held18_chg (by assumption))) (by assumption) (by assumption)).mono ?_
               rintro e ws ⟨rfl, hc⟩
               have hSs := held18_next (by assumption) hc
               clear hc)
            | (go_at_call_of 24 (Value.agg #[.int .i64 a.kind, .string a.name, .int .i64 a.con, .slice Af a.fields.length pf, .slice Al a.list.length pl, .slice Ar a.res.length pr])
               refine (own2_any n B _ a Af pf Al pl Ar pr (Nat.le_trans H.out.1 (held18_chg (by assumption)).size) (TyR.keep0 (held18_chg (by assumption)) H.out.2.2.1)).mono ?_
               rintro e wa ⟨Xf, xf, Xl, xl, Xr, xr, rfl, hN, hc⟩
               have hSa := held18_next (by assumption) hc
               have hXa := TyN.tyR hN
               skip
               clear hN hc)
            | (go_at_call_of 24 (Value.agg #[.int .i64 b.kind, .string b.name, .int .i64 b.con, .slice Bf b.fields.length qf, .slice Bl b.list.length ql, .slice Br b.res.length qr])
               refine (own2_any n B _ b Bf qf Bl ql Br qr (Nat.le_trans H.out.1 (held18_chg (by assumption)).size) (TyR.keep0 (held18_chg (by assumption)) H.out.2.2.2.1)).mono ?_
               rintro e wb ⟨Xf, xf, Xl, xl, Xr, xr, rfl, hN, hc⟩
               have hSb := held18_next (by assumption) hc
               have hXb := TyN.tyR hN
               have hk := ty_next hXa hc
               clear hN hc))
        clear hKd hSa hXa hSb hXb hk hS
        have hS := hSs
        clear hSs
        obtain ⟨y0, y1, y2, y3, y4, y5, y6, y7, y8, y9, y10, y11, y12, y13, y14, y15, y16, y17, hcw⟩ := hS
        go_wp2_with fail
        have hS := And.intro y0 (And.intro y1 (And.intro y2 (And.intro y3 (And.intro y4 (And.intro y5 (And.intro y6 (And.intro y7 (And.intro y8 (And.intro y9 (And.intro y10 (And.intro y11 (And.intro y12 (And.intro y13 (And.intro y14 (And.intro y15 (And.intro y16 (And.intro y17 hcw)))))))))))))))))
        clear y0 y1 y2 y3 y4 y5 y6 y7 y8 y9 y10 y11 y12 y13 y14 y15 y16 y17 hcw
        have hKd := held18_next hS ((Chg.refl (fun _ _ => False) _).drew)
        go_region_held3 (fun w' => w'.cell? ⟨g1, 0, none⟩ = some (.int .i64 a.kind) ∧ w'.cell? ⟨g1, 1, none⟩ = some (.string a.name) ∧ w'.cell? ⟨g1, 2, none⟩ = some (.int .i64 a.con) ∧ w'.cell? ⟨g1, 3, none⟩ = some (.slice Af a.fields.length pf) ∧ w'.cell? ⟨g1, 4, none⟩ = some (.slice Al a.list.length pl) ∧ w'.cell? ⟨g1, 5, none⟩ = some (.slice Ar a.res.length pr) ∧ w'.cell? ⟨g2, 0, none⟩ = some (.int .i64 b.kind) ∧ w'.cell? ⟨g2, 1, none⟩ = some (.string b.name) ∧ w'.cell? ⟨g2, 2, none⟩ = some (.int .i64 b.con) ∧ w'.cell? ⟨g2, 3, none⟩ = some (.slice Bf b.fields.length qf) ∧ w'.cell? ⟨g2, 4, none⟩ = some (.slice Bl b.list.length ql) ∧ w'.cell? ⟨g2, 5, none⟩ = some (.slice Br b.res.length qr) ∧ w'.cell? ⟨g3, 0, none⟩ = some (.int .i64 c.kind) ∧ w'.cell? ⟨g3, 1, none⟩ = some (.string c.name) ∧ w'.cell? ⟨g3, 2, none⟩ = some (.int .i64 c.con) ∧ w'.cell? ⟨g3, 3, none⟩ = some (.slice Cf c.fields.length rf) ∧ w'.cell? ⟨g3, 4, none⟩ = some (.slice Cl c.list.length rl) ∧ w'.cell? ⟨g3, 5, none⟩ = some (.slice Cr c.res.length rr) ∧ Chg (fun _ _ => False) w w')
          (assumption)
          (first
            | (go_at_call 23
               refine (ts2 _ _ _ _ _ _ _ _ _ _ _ _ _ _ (Nat.le_refl _) (H.out.2.1.keep0 (held18_chg (by assumption))) (by assumption) (by assumption)).mono ?_
               rintro e ws ⟨rfl, hc⟩
               have hSs := held18_next (by assumption) hc
               clear hc)
            | (go_at_call_of 24 (Value.agg #[.int .i64 b.kind, .string b.name, .int .i64 b.con, .slice Bf b.fields.length qf, .slice Bl b.list.length ql, .slice Br b.res.length qr])
               refine (own2_any n B _ b Bf qf Bl ql Br qr (Nat.le_trans H.out.1 (held18_chg (by assumption)).size) (TyR.keep0 (held18_chg (by assumption)) H.out.2.2.2.1)).mono ?_
               rintro e wb ⟨Xf, xf, Xl, xl, Xr, xr, rfl, hN, hc⟩
               have hSb := held18_next (by assumption) hc
               have hXb := TyN.tyR hN
               skip
               clear hN hc)
            | (go_at_call_of 24 (Value.agg #[.int .i64 a.kind, .string a.name, .int .i64 a.con, .slice Af a.fields.length pf, .slice Al a.list.length pl, .slice Ar a.res.length pr])
               refine (own2_any n B _ a Af pf Al pl Ar pr (Nat.le_trans H.out.1 (held18_chg (by assumption)).size) (TyR.keep0 (held18_chg (by assumption)) H.out.2.2.1)).mono ?_
               rintro e wa ⟨Xf, xf, Xl, xl, Xr, xr, rfl, hN, hc⟩
               have hSa := held18_next (by assumption) hc
               have hXa := TyN.tyR hN
               have hk := ty_next hXb hc
               clear hN hc))
        clear hKd hSb hXb hSa hXa hk hS
        have hS := hSs
        clear hSs
        obtain ⟨y0, y1, y2, y3, y4, y5, y6, y7, y8, y9, y10, y11, y12, y13, y14, y15, y16, y17, hcw⟩ := hS
        go_wp2_with fail
        have hS := And.intro y0 (And.intro y1 (And.intro y2 (And.intro y3 (And.intro y4 (And.intro y5 (And.intro y6 (And.intro y7 (And.intro y8 (And.intro y9 (And.intro y10 (And.intro y11 (And.intro y12 (And.intro y13 (And.intro y14 (And.intro y15 (And.intro y16 (And.intro y17 hcw)))))))))))))))))
        clear y0 y1 y2 y3 y4 y5 y6 y7 y8 y9 y10 y11 y12 y13 y14 y15 y16 y17 hcw
        have hKd := held18_next hS ((Chg.refl (fun _ _ => False) _).drew)
        go_region_held3 (fun w' => w'.cell? ⟨g1, 0, none⟩ = some (.int .i64 a.kind) ∧ w'.cell? ⟨g1, 1, none⟩ = some (.string a.name) ∧ w'.cell? ⟨g1, 2, none⟩ = some (.int .i64 a.con) ∧ w'.cell? ⟨g1, 3, none⟩ = some (.slice Af a.fields.length pf) ∧ w'.cell? ⟨g1, 4, none⟩ = some (.slice Al a.list.length pl) ∧ w'.cell? ⟨g1, 5, none⟩ = some (.slice Ar a.res.length pr) ∧ w'.cell? ⟨g2, 0, none⟩ = some (.int .i64 b.kind) ∧ w'.cell? ⟨g2, 1, none⟩ = some (.string b.name) ∧ w'.cell? ⟨g2, 2, none⟩ = some (.int .i64 b.con) ∧ w'.cell? ⟨g2, 3, none⟩ = some (.slice Bf b.fields.length qf) ∧ w'.cell? ⟨g2, 4, none⟩ = some (.slice Bl b.list.length ql) ∧ w'.cell? ⟨g2, 5, none⟩ = some (.slice Br b.res.length qr) ∧ w'.cell? ⟨g3, 0, none⟩ = some (.int .i64 c.kind) ∧ w'.cell? ⟨g3, 1, none⟩ = some (.string c.name) ∧ w'.cell? ⟨g3, 2, none⟩ = some (.int .i64 c.con) ∧ w'.cell? ⟨g3, 3, none⟩ = some (.slice Cf c.fields.length rf) ∧ w'.cell? ⟨g3, 4, none⟩ = some (.slice Cl c.list.length rl) ∧ w'.cell? ⟨g3, 5, none⟩ = some (.slice Cr c.res.length rr) ∧ Chg (fun _ _ => False) w w')
          (assumption)
          (first
            | (go_at_call 23
               refine (ts3 _ _ _ _ _ _ _ _ _ _ _ _ _ _ (Nat.le_refl _) (H.out.2.1.keep0 (held18_chg (by assumption))) (by assumption) (by assumption)).mono ?_
               rintro e ws ⟨rfl, hc⟩
               have hSs := held18_next (by assumption) hc
               clear hc)
            | (go_at_call_of 24 (Value.agg #[.int .i64 b.kind, .string b.name, .int .i64 b.con, .slice Bf b.fields.length qf, .slice Bl b.list.length ql, .slice Br b.res.length qr])
               refine (own2_any n B _ b Bf qf Bl ql Br qr (Nat.le_trans H.out.1 (held18_chg (by assumption)).size) (TyR.keep0 (held18_chg (by assumption)) H.out.2.2.2.1)).mono ?_
               rintro e wb ⟨Xf, xf, Xl, xl, Xr, xr, rfl, hN, hc⟩
               have hSb := held18_next (by assumption) hc
               have hXb := TyN.tyR hN
               skip
               clear hN hc)
            | (go_at_call_of 24 (Value.agg #[.int .i64 c.kind, .string c.name, .int .i64 c.con, .slice Cf c.fields.length rf, .slice Cl c.list.length rl, .slice Cr c.res.length rr])
               refine (own2_any n B _ c Cf rf Cl rl Cr rr (Nat.le_trans H.out.1 (held18_chg (by assumption)).size) (TyR.keep0 (held18_chg (by assumption)) H.out.2.2.2.2)).mono ?_
               rintro e wc ⟨Xf, xf, Xl, xl, Xr, xr, rfl, hN, hc⟩
               have hSc := held18_next (by assumption) hc
               have hXc := TyN.tyR hN
               have hk := ty_next hXb hc
               clear hN hc))
        clear hKd hSb hXb hSc hXc hk hS
        have hS := hSs
        clear hSs
        obtain ⟨y0, y1, y2, y3, y4, y5, y6, y7, y8, y9, y10, y11, y12, y13, y14, y15, y16, y17, hcw⟩ := hS
        go_wp2_with fail
        have hS := And.intro y0 (And.intro y1 (And.intro y2 (And.intro y3 (And.intro y4 (And.intro y5 (And.intro y6 (And.intro y7 (And.intro y8 (And.intro y9 (And.intro y10 (And.intro y11 (And.intro y12 (And.intro y13 (And.intro y14 (And.intro y15 (And.intro y16 (And.intro y17 hcw)))))))))))))))))
        clear y0 y1 y2 y3 y4 y5 y6 y7 y8 y9 y10 y11 y12 y13 y14 y15 y16 y17 hcw
        have hKd := held18_next hS ((Chg.refl (fun _ _ => False) _).drew)
        go_region_held3 (fun w' => w'.cell? ⟨g1, 0, none⟩ = some (.int .i64 a.kind) ∧ w'.cell? ⟨g1, 1, none⟩ = some (.string a.name) ∧ w'.cell? ⟨g1, 2, none⟩ = some (.int .i64 a.con) ∧ w'.cell? ⟨g1, 3, none⟩ = some (.slice Af a.fields.length pf) ∧ w'.cell? ⟨g1, 4, none⟩ = some (.slice Al a.list.length pl) ∧ w'.cell? ⟨g1, 5, none⟩ = some (.slice Ar a.res.length pr) ∧ w'.cell? ⟨g2, 0, none⟩ = some (.int .i64 b.kind) ∧ w'.cell? ⟨g2, 1, none⟩ = some (.string b.name) ∧ w'.cell? ⟨g2, 2, none⟩ = some (.int .i64 b.con) ∧ w'.cell? ⟨g2, 3, none⟩ = some (.slice Bf b.fields.length qf) ∧ w'.cell? ⟨g2, 4, none⟩ = some (.slice Bl b.list.length ql) ∧ w'.cell? ⟨g2, 5, none⟩ = some (.slice Br b.res.length qr) ∧ w'.cell? ⟨g3, 0, none⟩ = some (.int .i64 c.kind) ∧ w'.cell? ⟨g3, 1, none⟩ = some (.string c.name) ∧ w'.cell? ⟨g3, 2, none⟩ = some (.int .i64 c.con) ∧ w'.cell? ⟨g3, 3, none⟩ = some (.slice Cf c.fields.length rf) ∧ w'.cell? ⟨g3, 4, none⟩ = some (.slice Cl c.list.length rl) ∧ w'.cell? ⟨g3, 5, none⟩ = some (.slice Cr c.res.length rr) ∧ Chg (fun _ _ => False) w w')
          (assumption)
          (first
            | (go_at_call 23
               refine (ts4 _ _ _ _ _ _ _ _ _ _ _ _ _ _ (Nat.le_refl _) (H.out.2.1.keep0 (held18_chg (by assumption))) (by assumption) (by assumption)).mono ?_
               rintro e ws ⟨rfl, hc⟩
               have hSs := held18_next (by assumption) hc
               clear hc)
            | (go_at_call_of 24 (Value.agg #[.int .i64 a.kind, .string a.name, .int .i64 a.con, .slice Af a.fields.length pf, .slice Al a.list.length pl, .slice Ar a.res.length pr])
               refine (own2_any n B _ a Af pf Al pl Ar pr (Nat.le_trans H.out.1 (held18_chg (by assumption)).size) (TyR.keep0 (held18_chg (by assumption)) H.out.2.2.1)).mono ?_
               rintro e wa ⟨Xf, xf, Xl, xl, Xr, xr, rfl, hN, hc⟩
               have hSa := held18_next (by assumption) hc
               have hXa := TyN.tyR hN
               skip
               clear hN hc)
            | (go_at_call_of 24 (Value.agg #[.int .i64 c.kind, .string c.name, .int .i64 c.con, .slice Cf c.fields.length rf, .slice Cl c.list.length rl, .slice Cr c.res.length rr])
               refine (own2_any n B _ c Cf rf Cl rl Cr rr (Nat.le_trans H.out.1 (held18_chg (by assumption)).size) (TyR.keep0 (held18_chg (by assumption)) H.out.2.2.2.2)).mono ?_
               rintro e wc ⟨Xf, xf, Xl, xl, Xr, xr, rfl, hN, hc⟩
               have hSc := held18_next (by assumption) hc
               have hXc := TyN.tyR hN
               have hk := ty_next hXa hc
               clear hN hc))
        clear hKd hSa hXa hSc hXc hk hS
        have hS := hSs
        clear hSs
        obtain ⟨y0, y1, y2, y3, y4, y5, y6, y7, y8, y9, y10, y11, y12, y13, y14, y15, y16, y17, hcw⟩ := hS
        go_wp2_with fail
        refine (answers2_any _ (H.out.2.1.keep0 hcw)).mono fun e w2 h => ?_
        obtain ⟨rfl, hc2⟩ := h
        have hS := held18_next ⟨y0, y1, y2, y3, y4, y5, y6, y7, y8, y9, y10, y11, y12, y13, y14, y15, y16, y17, hcw⟩ hc2
        clear y0 y1 y2 y3 y4 y5 y6 y7 y8 y9 y10 y11 y12 y13 y14 y15 y16 y17 hcw
        clear hc2
        obtain ⟨y0, y1, y2, y3, y4, y5, y6, y7, y8, y9, y10, y11, y12, y13, y14, y15, y16, y17, hcw⟩ := hS
        go_wp2_with fail
        refine (own2_any n B _ a Af pf Al pl Ar pr (Nat.le_trans H.out.1 hcw.size) (TyR.keep0 hcw H.out.2.2.1)).mono fun e w10 h => ?_
        obtain ⟨Xf, xf, Xl, xl, Xr, xr, rfl, hN, hc⟩ := h
        have hS := held18_next ⟨y0, y1, y2, y3, y4, y5, y6, y7, y8, y9, y10, y11, y12, y13, y14, y15, y16, y17, hcw⟩ hc
        clear y0 y1 y2 y3 y4 y5 y6 y7 y8 y9 y10 y11 y12 y13 y14 y15 y16 y17 hcw
        obtain ⟨y0, y1, y2, y3, y4, y5, y6, y7, y8, y9, y10, y11, y12, y13, y14, y15, y16, y17, hcw⟩ := hS
        have hX := TyN.tyR hN
        clear hN hc
        go_wp2_with fail
        refine (tx1 _ _ _ _ _ _ _ _ (Nat.le_refl _) (H.out.2.1.keep0 hcw) hX).mono fun e w11 h => ?_
        obtain ⟨rfl, hc⟩ := h
        have hS := held18_next ⟨y0, y1, y2, y3, y4, y5, y6, y7, y8, y9, y10, y11, y12, y13, y14, y15, y16, y17, hcw⟩ hc
        clear y0 y1 y2 y3 y4 y5 y6 y7 y8 y9 y10 y11 y12 y13 y14 y15 y16 y17 hcw
        obtain ⟨y0, y1, y2, y3, y4, y5, y6, y7, y8, y9, y10, y11, y12, y13, y14, y15, y16, y17, hcw⟩ := hS
        clear hc hX
        go_wp2_with fail
        refine (own2_any n B _ b Bf qf Bl ql Br qr (Nat.le_trans H.out.1 hcw.size) (TyR.keep0 hcw H.out.2.2.2.1)).mono fun e w12 h => ?_
        obtain ⟨Xf, xf, Xl, xl, Xr, xr, rfl, hN, hc⟩ := h
        have hS := held18_next ⟨y0, y1, y2, y3, y4, y5, y6, y7, y8, y9, y10, y11, y12, y13, y14, y15, y16, y17, hcw⟩ hc
        clear y0 y1 y2 y3 y4 y5 y6 y7 y8 y9 y10 y11 y12 y13 y14 y15 y16 y17 hcw
        obtain ⟨y0, y1, y2, y3, y4, y5, y6, y7, y8, y9, y10, y11, y12, y13, y14, y15, y16, y17, hcw⟩ := hS
        have hX := TyN.tyR hN
        clear hN hc
        go_wp2_with fail
        refine (tx2 _ _ _ _ _ _ _ _ (Nat.le_refl _) (H.out.2.1.keep0 hcw) hX).mono fun e w13 h => ?_
        obtain ⟨rfl, hc⟩ := h
        have hS := held18_next ⟨y0, y1, y2, y3, y4, y5, y6, y7, y8, y9, y10, y11, y12, y13, y14, y15, y16, y17, hcw⟩ hc
        clear y0 y1 y2 y3 y4 y5 y6 y7 y8 y9 y10 y11 y12 y13 y14 y15 y16 y17 hcw
        obtain ⟨y0, y1, y2, y3, y4, y5, y6, y7, y8, y9, y10, y11, y12, y13, y14, y15, y16, y17, hcw⟩ := hS
        clear hc hX
        go_wp2_with fail
        refine (own2_any n B _ a Af pf Al pl Ar pr (Nat.le_trans H.out.1 hcw.size) (TyR.keep0 hcw H.out.2.2.1)).mono fun e w14 h => ?_
        obtain ⟨Xf, xf, Xl, xl, Xr, xr, rfl, hN, hc⟩ := h
        have hS := held18_next ⟨y0, y1, y2, y3, y4, y5, y6, y7, y8, y9, y10, y11, y12, y13, y14, y15, y16, y17, hcw⟩ hc
        clear y0 y1 y2 y3 y4 y5 y6 y7 y8 y9 y10 y11 y12 y13 y14 y15 y16 y17 hcw
        obtain ⟨y0, y1, y2, y3, y4, y5, y6, y7, y8, y9, y10, y11, y12, y13, y14, y15, y16, y17, hcw⟩ := hS
        have hX := TyN.tyR hN
        clear hN hc
        go_wp2_with fail
        refine (tc1 _ _ _ _ _ _ _ _ (Nat.le_refl _) (H.out.2.1.keep0 hcw) hX).mono fun e w15 h => ?_
        obtain ⟨rfl, hc⟩ := h
        have hS := held18_next ⟨y0, y1, y2, y3, y4, y5, y6, y7, y8, y9, y10, y11, y12, y13, y14, y15, y16, y17, hcw⟩ hc
        clear y0 y1 y2 y3 y4 y5 y6 y7 y8 y9 y10 y11 y12 y13 y14 y15 y16 y17 hcw
        obtain ⟨y0, y1, y2, y3, y4, y5, y6, y7, y8, y9, y10, y11, y12, y13, y14, y15, y16, y17, hcw⟩ := hS
        clear hc hX
        go_wp2_with fail
        refine (own2_any n B _ b Bf qf Bl ql Br qr (Nat.le_trans H.out.1 hcw.size) (TyR.keep0 hcw H.out.2.2.2.1)).mono fun e w16 h => ?_
        obtain ⟨Xf, xf, Xl, xl, Xr, xr, rfl, hN, hc⟩ := h
        have hS := held18_next ⟨y0, y1, y2, y3, y4, y5, y6, y7, y8, y9, y10, y11, y12, y13, y14, y15, y16, y17, hcw⟩ hc
        clear y0 y1 y2 y3 y4 y5 y6 y7 y8 y9 y10 y11 y12 y13 y14 y15 y16 y17 hcw
        obtain ⟨y0, y1, y2, y3, y4, y5, y6, y7, y8, y9, y10, y11, y12, y13, y14, y15, y16, y17, hcw⟩ := hS
        have hX := TyN.tyR hN
        clear hN hc
        go_wp2_with fail
        refine (tc2 _ _ _ _ _ _ _ _ (Nat.le_refl _) (H.out.2.1.keep0 hcw) hX).mono fun e w17 h => ?_
        obtain ⟨rfl, hc⟩ := h
        have hS := held18_next ⟨y0, y1, y2, y3, y4, y5, y6, y7, y8, y9, y10, y11, y12, y13, y14, y15, y16, y17, hcw⟩ hc
        clear y0 y1 y2 y3 y4 y5 y6 y7 y8 y9 y10 y11 y12 y13 y14 y15 y16 y17 hcw
        obtain ⟨y0, y1, y2, y3, y4, y5, y6, y7, y8, y9, y10, y11, y12, y13, y14, y15, y16, y17, hcw⟩ := hS
        clear hc hX
        go_wp2_with fail
        go_ret
        refine ⟨?_, hcw⟩
        first
          | rfl
          | (simp; done)
          | simp_all
      | true =>
        have hab := eqB_true.1 e1
        simp only [e1] at ts1 ts2
        have ht : toldF 9 b = toldF 9 a := by rw [hab]
        have hc : cellsT b = cellsT a := by rw [hab]
        have h23 : eqB b c = eqB a c := by rw [hab]
        simp only [ht] at tx2
        simp only [hc] at tc2
        simp only [h23] at ts3
        clear ht hc h23 hab e1
        cases e2 : eqB a c with
        | false =>
          simp only [e2] at ts3 ts4
          clear e2
          go_enter Tryd.func10, Tryd.ntmps10
          go_wp2_with fail
          generalize ((w.alloc (.cells #[.int .i64 a.kind, .string a.name, .int .i64 a.con, .slice Af a.fields.length pf, .slice Al a.list.length pl, .slice Ar a.res.length pr] 39)).alloc (.cells #[.int .i64 b.kind, .string b.name, .int .i64 b.con, .slice Bf b.fields.length qf, .slice Bl b.list.length ql, .slice Br b.res.length qr] 39)).alloc (.cells #[.int .i64 c.kind, .string c.name, .int .i64 c.con, .slice Cf c.fields.length rf, .slice Cl c.list.length rl, .slice Cr c.res.length rr] 39) = W at HH ⊢
          generalize w.heap.size + 1 + 1 = g3 at HH ⊢
          generalize w.heap.size + 1 = g2 at HH ⊢
          generalize w.heap.size = g1 at HH ⊢
          obtain ⟨y0, y1, y2, y3, y4, y5⟩ := HH.out.1.cells6
          obtain ⟨y6, y7, y8, y9, y10, y11⟩ := HH.out.2.1.cells6
          obtain ⟨y12, y13, y14, y15, y16, y17⟩ := HH.out.2.2.1.cells6
          have hcw := HH.out.2.2.2
          clear HH
          have hS := And.intro y0 (And.intro y1 (And.intro y2 (And.intro y3 (And.intro y4 (And.intro y5 (And.intro y6 (And.intro y7 (And.intro y8 (And.intro y9 (And.intro y10 (And.intro y11 (And.intro y12 (And.intro y13 (And.intro y14 (And.intro y15 (And.intro y16 (And.intro y17 hcw)))))))))))))))))
          clear y0 y1 y2 y3 y4 y5 y6 y7 y8 y9 y10 y11 y12 y13 y14 y15 y16 y17 hcw
          have hKd := held18_next hS ((Chg.refl (fun _ _ => False) _).drew)
          go_region_held3 (fun w' => w'.cell? ⟨g1, 0, none⟩ = some (.int .i64 a.kind) ∧ w'.cell? ⟨g1, 1, none⟩ = some (.string a.name) ∧ w'.cell? ⟨g1, 2, none⟩ = some (.int .i64 a.con) ∧ w'.cell? ⟨g1, 3, none⟩ = some (.slice Af a.fields.length pf) ∧ w'.cell? ⟨g1, 4, none⟩ = some (.slice Al a.list.length pl) ∧ w'.cell? ⟨g1, 5, none⟩ = some (.slice Ar a.res.length pr) ∧ w'.cell? ⟨g2, 0, none⟩ = some (.int .i64 b.kind) ∧ w'.cell? ⟨g2, 1, none⟩ = some (.string b.name) ∧ w'.cell? ⟨g2, 2, none⟩ = some (.int .i64 b.con) ∧ w'.cell? ⟨g2, 3, none⟩ = some (.slice Bf b.fields.length qf) ∧ w'.cell? ⟨g2, 4, none⟩ = some (.slice Bl b.list.length ql) ∧ w'.cell? ⟨g2, 5, none⟩ = some (.slice Br b.res.length qr) ∧ w'.cell? ⟨g3, 0, none⟩ = some (.int .i64 c.kind) ∧ w'.cell? ⟨g3, 1, none⟩ = some (.string c.name) ∧ w'.cell? ⟨g3, 2, none⟩ = some (.int .i64 c.con) ∧ w'.cell? ⟨g3, 3, none⟩ = some (.slice Cf c.fields.length rf) ∧ w'.cell? ⟨g3, 4, none⟩ = some (.slice Cl c.list.length rl) ∧ w'.cell? ⟨g3, 5, none⟩ = some (.slice Cr c.res.length rr) ∧ Chg (fun _ _ => False) w w')
            (assumption)
            (first
              | (go_at_call 23
                 refine (ts1 _ _ _ _ _ _ _ _ _ _ _ _ _ _ (Nat.le_refl _) (H.out.2.1.keep0 (held18_chg (by assumption))) (by assumption) (by assumption)).mono ?_
                 rintro e ws ⟨rfl, hc⟩
                 have hSs := held18_next (by assumption) hc
                 clear hc)
              | (go_at_call_of 24 (Value.agg #[.int .i64 a.kind, .string a.name, .int .i64 a.con, .slice Af a.fields.length pf, .slice Al a.list.length pl, .slice Ar a.res.length pr])
                 refine (own2_any n B _ a Af pf Al pl Ar pr (Nat.le_trans H.out.1 (held18_chg (by assumption)).size) (TyR.keep0 (held18_chg (by assumption)) H.out.2.2.1)).mono ?_
                 rintro e wa ⟨Xf, xf, Xl, xl, Xr, xr, rfl, hN, hc⟩
                 have hSa := held18_next (by assumption) hc
                 have hXa := TyN.tyR hN
                 skip
                 clear hN hc)
              | (go_at_call_of 24 (Value.agg #[.int .i64 b.kind, .string b.name, .int .i64 b.con, .slice Bf b.fields.length qf, .slice Bl b.list.length ql, .slice Br b.res.length qr])
                 refine (own2_any n B _ b Bf qf Bl ql Br qr (Nat.le_trans H.out.1 (held18_chg (by assumption)).size) (TyR.keep0 (held18_chg (by assumption)) H.out.2.2.2.1)).mono ?_
                 rintro e wb ⟨Xf, xf, Xl, xl, Xr, xr, rfl, hN, hc⟩
                 have hSb := held18_next (by assumption) hc
                 have hXb := TyN.tyR hN
                 have hk := ty_next hXa hc
                 clear hN hc))
          clear hKd hSa hXa hSb hXb hk hS
          have hS := hSs
          clear hSs
          obtain ⟨y0, y1, y2, y3, y4, y5, y6, y7, y8, y9, y10, y11, y12, y13, y14, y15, y16, y17, hcw⟩ := hS
          go_wp2_with fail
          have hS := And.intro y0 (And.intro y1 (And.intro y2 (And.intro y3 (And.intro y4 (And.intro y5 (And.intro y6 (And.intro y7 (And.intro y8 (And.intro y9 (And.intro y10 (And.intro y11 (And.intro y12 (And.intro y13 (And.intro y14 (And.intro y15 (And.intro y16 (And.intro y17 hcw)))))))))))))))))
          clear y0 y1 y2 y3 y4 y5 y6 y7 y8 y9 y10 y11 y12 y13 y14 y15 y16 y17 hcw
          have hKd := held18_next hS ((Chg.refl (fun _ _ => False) _).drew)
          go_region_held3 (fun w' => w'.cell? ⟨g1, 0, none⟩ = some (.int .i64 a.kind) ∧ w'.cell? ⟨g1, 1, none⟩ = some (.string a.name) ∧ w'.cell? ⟨g1, 2, none⟩ = some (.int .i64 a.con) ∧ w'.cell? ⟨g1, 3, none⟩ = some (.slice Af a.fields.length pf) ∧ w'.cell? ⟨g1, 4, none⟩ = some (.slice Al a.list.length pl) ∧ w'.cell? ⟨g1, 5, none⟩ = some (.slice Ar a.res.length pr) ∧ w'.cell? ⟨g2, 0, none⟩ = some (.int .i64 b.kind) ∧ w'.cell? ⟨g2, 1, none⟩ = some (.string b.name) ∧ w'.cell? ⟨g2, 2, none⟩ = some (.int .i64 b.con) ∧ w'.cell? ⟨g2, 3, none⟩ = some (.slice Bf b.fields.length qf) ∧ w'.cell? ⟨g2, 4, none⟩ = some (.slice Bl b.list.length ql) ∧ w'.cell? ⟨g2, 5, none⟩ = some (.slice Br b.res.length qr) ∧ w'.cell? ⟨g3, 0, none⟩ = some (.int .i64 c.kind) ∧ w'.cell? ⟨g3, 1, none⟩ = some (.string c.name) ∧ w'.cell? ⟨g3, 2, none⟩ = some (.int .i64 c.con) ∧ w'.cell? ⟨g3, 3, none⟩ = some (.slice Cf c.fields.length rf) ∧ w'.cell? ⟨g3, 4, none⟩ = some (.slice Cl c.list.length rl) ∧ w'.cell? ⟨g3, 5, none⟩ = some (.slice Cr c.res.length rr) ∧ Chg (fun _ _ => False) w w')
            (assumption)
            (first
              | (go_at_call 23
                 refine (ts2 _ _ _ _ _ _ _ _ _ _ _ _ _ _ (Nat.le_refl _) (H.out.2.1.keep0 (held18_chg (by assumption))) (by assumption) (by assumption)).mono ?_
                 rintro e ws ⟨rfl, hc⟩
                 have hSs := held18_next (by assumption) hc
                 clear hc)
              | (go_at_call_of 24 (Value.agg #[.int .i64 b.kind, .string b.name, .int .i64 b.con, .slice Bf b.fields.length qf, .slice Bl b.list.length ql, .slice Br b.res.length qr])
                 refine (own2_any n B _ b Bf qf Bl ql Br qr (Nat.le_trans H.out.1 (held18_chg (by assumption)).size) (TyR.keep0 (held18_chg (by assumption)) H.out.2.2.2.1)).mono ?_
                 rintro e wb ⟨Xf, xf, Xl, xl, Xr, xr, rfl, hN, hc⟩
                 have hSb := held18_next (by assumption) hc
                 have hXb := TyN.tyR hN
                 skip
                 clear hN hc)
              | (go_at_call_of 24 (Value.agg #[.int .i64 a.kind, .string a.name, .int .i64 a.con, .slice Af a.fields.length pf, .slice Al a.list.length pl, .slice Ar a.res.length pr])
                 refine (own2_any n B _ a Af pf Al pl Ar pr (Nat.le_trans H.out.1 (held18_chg (by assumption)).size) (TyR.keep0 (held18_chg (by assumption)) H.out.2.2.1)).mono ?_
                 rintro e wa ⟨Xf, xf, Xl, xl, Xr, xr, rfl, hN, hc⟩
                 have hSa := held18_next (by assumption) hc
                 have hXa := TyN.tyR hN
                 have hk := ty_next hXb hc
                 clear hN hc))
          clear hKd hSb hXb hSa hXa hk hS
          have hS := hSs
          clear hSs
          obtain ⟨y0, y1, y2, y3, y4, y5, y6, y7, y8, y9, y10, y11, y12, y13, y14, y15, y16, y17, hcw⟩ := hS
          go_wp2_with fail
          have hS := And.intro y0 (And.intro y1 (And.intro y2 (And.intro y3 (And.intro y4 (And.intro y5 (And.intro y6 (And.intro y7 (And.intro y8 (And.intro y9 (And.intro y10 (And.intro y11 (And.intro y12 (And.intro y13 (And.intro y14 (And.intro y15 (And.intro y16 (And.intro y17 hcw)))))))))))))))))
          clear y0 y1 y2 y3 y4 y5 y6 y7 y8 y9 y10 y11 y12 y13 y14 y15 y16 y17 hcw
          have hKd := held18_next hS ((Chg.refl (fun _ _ => False) _).drew)
          go_region_held3 (fun w' => w'.cell? ⟨g1, 0, none⟩ = some (.int .i64 a.kind) ∧ w'.cell? ⟨g1, 1, none⟩ = some (.string a.name) ∧ w'.cell? ⟨g1, 2, none⟩ = some (.int .i64 a.con) ∧ w'.cell? ⟨g1, 3, none⟩ = some (.slice Af a.fields.length pf) ∧ w'.cell? ⟨g1, 4, none⟩ = some (.slice Al a.list.length pl) ∧ w'.cell? ⟨g1, 5, none⟩ = some (.slice Ar a.res.length pr) ∧ w'.cell? ⟨g2, 0, none⟩ = some (.int .i64 b.kind) ∧ w'.cell? ⟨g2, 1, none⟩ = some (.string b.name) ∧ w'.cell? ⟨g2, 2, none⟩ = some (.int .i64 b.con) ∧ w'.cell? ⟨g2, 3, none⟩ = some (.slice Bf b.fields.length qf) ∧ w'.cell? ⟨g2, 4, none⟩ = some (.slice Bl b.list.length ql) ∧ w'.cell? ⟨g2, 5, none⟩ = some (.slice Br b.res.length qr) ∧ w'.cell? ⟨g3, 0, none⟩ = some (.int .i64 c.kind) ∧ w'.cell? ⟨g3, 1, none⟩ = some (.string c.name) ∧ w'.cell? ⟨g3, 2, none⟩ = some (.int .i64 c.con) ∧ w'.cell? ⟨g3, 3, none⟩ = some (.slice Cf c.fields.length rf) ∧ w'.cell? ⟨g3, 4, none⟩ = some (.slice Cl c.list.length rl) ∧ w'.cell? ⟨g3, 5, none⟩ = some (.slice Cr c.res.length rr) ∧ Chg (fun _ _ => False) w w')
            (assumption)
            (first
              | (go_at_call 23
                 refine (ts3 _ _ _ _ _ _ _ _ _ _ _ _ _ _ (Nat.le_refl _) (H.out.2.1.keep0 (held18_chg (by assumption))) (by assumption) (by assumption)).mono ?_
                 rintro e ws ⟨rfl, hc⟩
                 have hSs := held18_next (by assumption) hc
                 clear hc)
              | (go_at_call_of 24 (Value.agg #[.int .i64 b.kind, .string b.name, .int .i64 b.con, .slice Bf b.fields.length qf, .slice Bl b.list.length ql, .slice Br b.res.length qr])
                 refine (own2_any n B _ b Bf qf Bl ql Br qr (Nat.le_trans H.out.1 (held18_chg (by assumption)).size) (TyR.keep0 (held18_chg (by assumption)) H.out.2.2.2.1)).mono ?_
                 rintro e wb ⟨Xf, xf, Xl, xl, Xr, xr, rfl, hN, hc⟩
                 have hSb := held18_next (by assumption) hc
                 have hXb := TyN.tyR hN
                 skip
                 clear hN hc)
              | (go_at_call_of 24 (Value.agg #[.int .i64 c.kind, .string c.name, .int .i64 c.con, .slice Cf c.fields.length rf, .slice Cl c.list.length rl, .slice Cr c.res.length rr])
                 refine (own2_any n B _ c Cf rf Cl rl Cr rr (Nat.le_trans H.out.1 (held18_chg (by assumption)).size) (TyR.keep0 (held18_chg (by assumption)) H.out.2.2.2.2)).mono ?_
                 rintro e wc ⟨Xf, xf, Xl, xl, Xr, xr, rfl, hN, hc⟩
                 have hSc := held18_next (by assumption) hc
                 have hXc := TyN.tyR hN
                 have hk := ty_next hXb hc
                 clear hN hc))
          clear hKd hSb hXb hSc hXc hk hS
          have hS := hSs
          clear hSs
          obtain ⟨y0, y1, y2, y3, y4, y5, y6, y7, y8, y9, y10, y11, y12, y13, y14, y15, y16, y17, hcw⟩ := hS
          go_wp2_with fail
          have hS := And.intro y0 (And.intro y1 (And.intro y2 (And.intro y3 (And.intro y4 (And.intro y5 (And.intro y6 (And.intro y7 (And.intro y8 (And.intro y9 (And.intro y10 (And.intro y11 (And.intro y12 (And.intro y13 (And.intro y14 (And.intro y15 (And.intro y16 (And.intro y17 hcw)))))))))))))))))
          clear y0 y1 y2 y3 y4 y5 y6 y7 y8 y9 y10 y11 y12 y13 y14 y15 y16 y17 hcw
          have hKd := held18_next hS ((Chg.refl (fun _ _ => False) _).drew)
          go_region_held3 (fun w' => w'.cell? ⟨g1, 0, none⟩ = some (.int .i64 a.kind) ∧ w'.cell? ⟨g1, 1, none⟩ = some (.string a.name) ∧ w'.cell? ⟨g1, 2, none⟩ = some (.int .i64 a.con) ∧ w'.cell? ⟨g1, 3, none⟩ = some (.slice Af a.fields.length pf) ∧ w'.cell? ⟨g1, 4, none⟩ = some (.slice Al a.list.length pl) ∧ w'.cell? ⟨g1, 5, none⟩ = some (.slice Ar a.res.length pr) ∧ w'.cell? ⟨g2, 0, none⟩ = some (.int .i64 b.kind) ∧ w'.cell? ⟨g2, 1, none⟩ = some (.string b.name) ∧ w'.cell? ⟨g2, 2, none⟩ = some (.int .i64 b.con) ∧ w'.cell? ⟨g2, 3, none⟩ = some (.slice Bf b.fields.length qf) ∧ w'.cell? ⟨g2, 4, none⟩ = some (.slice Bl b.list.length ql) ∧ w'.cell? ⟨g2, 5, none⟩ = some (.slice Br b.res.length qr) ∧ w'.cell? ⟨g3, 0, none⟩ = some (.int .i64 c.kind) ∧ w'.cell? ⟨g3, 1, none⟩ = some (.string c.name) ∧ w'.cell? ⟨g3, 2, none⟩ = some (.int .i64 c.con) ∧ w'.cell? ⟨g3, 3, none⟩ = some (.slice Cf c.fields.length rf) ∧ w'.cell? ⟨g3, 4, none⟩ = some (.slice Cl c.list.length rl) ∧ w'.cell? ⟨g3, 5, none⟩ = some (.slice Cr c.res.length rr) ∧ Chg (fun _ _ => False) w w')
            (assumption)
            (first
              | (go_at_call 23
                 refine (ts4 _ _ _ _ _ _ _ _ _ _ _ _ _ _ (Nat.le_refl _) (H.out.2.1.keep0 (held18_chg (by assumption))) (by assumption) (by assumption)).mono ?_
                 rintro e ws ⟨rfl, hc⟩
                 have hSs := held18_next (by assumption) hc
                 clear hc)
              | (go_at_call_of 24 (Value.agg #[.int .i64 a.kind, .string a.name, .int .i64 a.con, .slice Af a.fields.length pf, .slice Al a.list.length pl, .slice Ar a.res.length pr])
                 refine (own2_any n B _ a Af pf Al pl Ar pr (Nat.le_trans H.out.1 (held18_chg (by assumption)).size) (TyR.keep0 (held18_chg (by assumption)) H.out.2.2.1)).mono ?_
                 rintro e wa ⟨Xf, xf, Xl, xl, Xr, xr, rfl, hN, hc⟩
                 have hSa := held18_next (by assumption) hc
                 have hXa := TyN.tyR hN
                 skip
                 clear hN hc)
              | (go_at_call_of 24 (Value.agg #[.int .i64 c.kind, .string c.name, .int .i64 c.con, .slice Cf c.fields.length rf, .slice Cl c.list.length rl, .slice Cr c.res.length rr])
                 refine (own2_any n B _ c Cf rf Cl rl Cr rr (Nat.le_trans H.out.1 (held18_chg (by assumption)).size) (TyR.keep0 (held18_chg (by assumption)) H.out.2.2.2.2)).mono ?_
                 rintro e wc ⟨Xf, xf, Xl, xl, Xr, xr, rfl, hN, hc⟩
                 have hSc := held18_next (by assumption) hc
                 have hXc := TyN.tyR hN
                 have hk := ty_next hXa hc
                 clear hN hc))
          clear hKd hSa hXa hSc hXc hk hS
          have hS := hSs
          clear hSs
          obtain ⟨y0, y1, y2, y3, y4, y5, y6, y7, y8, y9, y10, y11, y12, y13, y14, y15, y16, y17, hcw⟩ := hS
          go_wp2_with fail
          refine (answers2_any _ (H.out.2.1.keep0 hcw)).mono fun e w2 h => ?_
          obtain ⟨rfl, hc2⟩ := h
          have hS := held18_next ⟨y0, y1, y2, y3, y4, y5, y6, y7, y8, y9, y10, y11, y12, y13, y14, y15, y16, y17, hcw⟩ hc2
          clear y0 y1 y2 y3 y4 y5 y6 y7 y8 y9 y10 y11 y12 y13 y14 y15 y16 y17 hcw
          clear hc2
          obtain ⟨y0, y1, y2, y3, y4, y5, y6, y7, y8, y9, y10, y11, y12, y13, y14, y15, y16, y17, hcw⟩ := hS
          go_wp2_with fail
          refine (own2_any n B _ a Af pf Al pl Ar pr (Nat.le_trans H.out.1 hcw.size) (TyR.keep0 hcw H.out.2.2.1)).mono fun e w10 h => ?_
          obtain ⟨Xf, xf, Xl, xl, Xr, xr, rfl, hN, hc⟩ := h
          have hS := held18_next ⟨y0, y1, y2, y3, y4, y5, y6, y7, y8, y9, y10, y11, y12, y13, y14, y15, y16, y17, hcw⟩ hc
          clear y0 y1 y2 y3 y4 y5 y6 y7 y8 y9 y10 y11 y12 y13 y14 y15 y16 y17 hcw
          obtain ⟨y0, y1, y2, y3, y4, y5, y6, y7, y8, y9, y10, y11, y12, y13, y14, y15, y16, y17, hcw⟩ := hS
          have hX := TyN.tyR hN
          clear hN hc
          go_wp2_with fail
          refine (tx1 _ _ _ _ _ _ _ _ (Nat.le_refl _) (H.out.2.1.keep0 hcw) hX).mono fun e w11 h => ?_
          obtain ⟨rfl, hc⟩ := h
          have hS := held18_next ⟨y0, y1, y2, y3, y4, y5, y6, y7, y8, y9, y10, y11, y12, y13, y14, y15, y16, y17, hcw⟩ hc
          clear y0 y1 y2 y3 y4 y5 y6 y7 y8 y9 y10 y11 y12 y13 y14 y15 y16 y17 hcw
          obtain ⟨y0, y1, y2, y3, y4, y5, y6, y7, y8, y9, y10, y11, y12, y13, y14, y15, y16, y17, hcw⟩ := hS
          clear hc hX
          go_wp2_with fail
          refine (own2_any n B _ b Bf qf Bl ql Br qr (Nat.le_trans H.out.1 hcw.size) (TyR.keep0 hcw H.out.2.2.2.1)).mono fun e w12 h => ?_
          obtain ⟨Xf, xf, Xl, xl, Xr, xr, rfl, hN, hc⟩ := h
          have hS := held18_next ⟨y0, y1, y2, y3, y4, y5, y6, y7, y8, y9, y10, y11, y12, y13, y14, y15, y16, y17, hcw⟩ hc
          clear y0 y1 y2 y3 y4 y5 y6 y7 y8 y9 y10 y11 y12 y13 y14 y15 y16 y17 hcw
          obtain ⟨y0, y1, y2, y3, y4, y5, y6, y7, y8, y9, y10, y11, y12, y13, y14, y15, y16, y17, hcw⟩ := hS
          have hX := TyN.tyR hN
          clear hN hc
          go_wp2_with fail
          refine (tx2 _ _ _ _ _ _ _ _ (Nat.le_refl _) (H.out.2.1.keep0 hcw) hX).mono fun e w13 h => ?_
          obtain ⟨rfl, hc⟩ := h
          have hS := held18_next ⟨y0, y1, y2, y3, y4, y5, y6, y7, y8, y9, y10, y11, y12, y13, y14, y15, y16, y17, hcw⟩ hc
          clear y0 y1 y2 y3 y4 y5 y6 y7 y8 y9 y10 y11 y12 y13 y14 y15 y16 y17 hcw
          obtain ⟨y0, y1, y2, y3, y4, y5, y6, y7, y8, y9, y10, y11, y12, y13, y14, y15, y16, y17, hcw⟩ := hS
          clear hc hX
          go_wp2_with fail
          refine (own2_any n B _ a Af pf Al pl Ar pr (Nat.le_trans H.out.1 hcw.size) (TyR.keep0 hcw H.out.2.2.1)).mono fun e w14 h => ?_
          obtain ⟨Xf, xf, Xl, xl, Xr, xr, rfl, hN, hc⟩ := h
          have hS := held18_next ⟨y0, y1, y2, y3, y4, y5, y6, y7, y8, y9, y10, y11, y12, y13, y14, y15, y16, y17, hcw⟩ hc
          clear y0 y1 y2 y3 y4 y5 y6 y7 y8 y9 y10 y11 y12 y13 y14 y15 y16 y17 hcw
          obtain ⟨y0, y1, y2, y3, y4, y5, y6, y7, y8, y9, y10, y11, y12, y13, y14, y15, y16, y17, hcw⟩ := hS
          have hX := TyN.tyR hN
          clear hN hc
          go_wp2_with fail
          refine (tc1 _ _ _ _ _ _ _ _ (Nat.le_refl _) (H.out.2.1.keep0 hcw) hX).mono fun e w15 h => ?_
          obtain ⟨rfl, hc⟩ := h
          have hS := held18_next ⟨y0, y1, y2, y3, y4, y5, y6, y7, y8, y9, y10, y11, y12, y13, y14, y15, y16, y17, hcw⟩ hc
          clear y0 y1 y2 y3 y4 y5 y6 y7 y8 y9 y10 y11 y12 y13 y14 y15 y16 y17 hcw
          obtain ⟨y0, y1, y2, y3, y4, y5, y6, y7, y8, y9, y10, y11, y12, y13, y14, y15, y16, y17, hcw⟩ := hS
          clear hc hX
          go_wp2_with fail
          refine (own2_any n B _ b Bf qf Bl ql Br qr (Nat.le_trans H.out.1 hcw.size) (TyR.keep0 hcw H.out.2.2.2.1)).mono fun e w16 h => ?_
          obtain ⟨Xf, xf, Xl, xl, Xr, xr, rfl, hN, hc⟩ := h
          have hS := held18_next ⟨y0, y1, y2, y3, y4, y5, y6, y7, y8, y9, y10, y11, y12, y13, y14, y15, y16, y17, hcw⟩ hc
          clear y0 y1 y2 y3 y4 y5 y6 y7 y8 y9 y10 y11 y12 y13 y14 y15 y16 y17 hcw
          obtain ⟨y0, y1, y2, y3, y4, y5, y6, y7, y8, y9, y10, y11, y12, y13, y14, y15, y16, y17, hcw⟩ := hS
          have hX := TyN.tyR hN
          clear hN hc
          go_wp2_with fail
          refine (tc2 _ _ _ _ _ _ _ _ (Nat.le_refl _) (H.out.2.1.keep0 hcw) hX).mono fun e w17 h => ?_
          obtain ⟨rfl, hc⟩ := h
          have hS := held18_next ⟨y0, y1, y2, y3, y4, y5, y6, y7, y8, y9, y10, y11, y12, y13, y14, y15, y16, y17, hcw⟩ hc
          clear y0 y1 y2 y3 y4 y5 y6 y7 y8 y9 y10 y11 y12 y13 y14 y15 y16 y17 hcw
          obtain ⟨y0, y1, y2, y3, y4, y5, y6, y7, y8, y9, y10, y11, y12, y13, y14, y15, y16, y17, hcw⟩ := hS
          clear hc hX
          go_wp2_with fail
          go_ret
          refine ⟨?_, hcw⟩
          first
            | rfl
            | (simp; done)
            | simp_all
        | true =>
          simp only [e2] at ts3 ts4
          clear e2
          go_enter Tryd.func10, Tryd.ntmps10
          go_wp2_with fail
          generalize ((w.alloc (.cells #[.int .i64 a.kind, .string a.name, .int .i64 a.con, .slice Af a.fields.length pf, .slice Al a.list.length pl, .slice Ar a.res.length pr] 39)).alloc (.cells #[.int .i64 b.kind, .string b.name, .int .i64 b.con, .slice Bf b.fields.length qf, .slice Bl b.list.length ql, .slice Br b.res.length qr] 39)).alloc (.cells #[.int .i64 c.kind, .string c.name, .int .i64 c.con, .slice Cf c.fields.length rf, .slice Cl c.list.length rl, .slice Cr c.res.length rr] 39) = W at HH ⊢
          generalize w.heap.size + 1 + 1 = g3 at HH ⊢
          generalize w.heap.size + 1 = g2 at HH ⊢
          generalize w.heap.size = g1 at HH ⊢
          obtain ⟨y0, y1, y2, y3, y4, y5⟩ := HH.out.1.cells6
          obtain ⟨y6, y7, y8, y9, y10, y11⟩ := HH.out.2.1.cells6
          obtain ⟨y12, y13, y14, y15, y16, y17⟩ := HH.out.2.2.1.cells6
          have hcw := HH.out.2.2.2
          clear HH
          have hS := And.intro y0 (And.intro y1 (And.intro y2 (And.intro y3 (And.intro y4 (And.intro y5 (And.intro y6 (And.intro y7 (And.intro y8 (And.intro y9 (And.intro y10 (And.intro y11 (And.intro y12 (And.intro y13 (And.intro y14 (And.intro y15 (And.intro y16 (And.intro y17 hcw)))))))))))))))))
          clear y0 y1 y2 y3 y4 y5 y6 y7 y8 y9 y10 y11 y12 y13 y14 y15 y16 y17 hcw
          have hKd := held18_next hS ((Chg.refl (fun _ _ => False) _).drew)
          go_region_held3 (fun w' => w'.cell? ⟨g1, 0, none⟩ = some (.int .i64 a.kind) ∧ w'.cell? ⟨g1, 1, none⟩ = some (.string a.name) ∧ w'.cell? ⟨g1, 2, none⟩ = some (.int .i64 a.con) ∧ w'.cell? ⟨g1, 3, none⟩ = some (.slice Af a.fields.length pf) ∧ w'.cell? ⟨g1, 4, none⟩ = some (.slice Al a.list.length pl) ∧ w'.cell? ⟨g1, 5, none⟩ = some (.slice Ar a.res.length pr) ∧ w'.cell? ⟨g2, 0, none⟩ = some (.int .i64 b.kind) ∧ w'.cell? ⟨g2, 1, none⟩ = some (.string b.name) ∧ w'.cell? ⟨g2, 2, none⟩ = some (.int .i64 b.con) ∧ w'.cell? ⟨g2, 3, none⟩ = some (.slice Bf b.fields.length qf) ∧ w'.cell? ⟨g2, 4, none⟩ = some (.slice Bl b.list.length ql) ∧ w'.cell? ⟨g2, 5, none⟩ = some (.slice Br b.res.length qr) ∧ w'.cell? ⟨g3, 0, none⟩ = some (.int .i64 c.kind) ∧ w'.cell? ⟨g3, 1, none⟩ = some (.string c.name) ∧ w'.cell? ⟨g3, 2, none⟩ = some (.int .i64 c.con) ∧ w'.cell? ⟨g3, 3, none⟩ = some (.slice Cf c.fields.length rf) ∧ w'.cell? ⟨g3, 4, none⟩ = some (.slice Cl c.list.length rl) ∧ w'.cell? ⟨g3, 5, none⟩ = some (.slice Cr c.res.length rr) ∧ Chg (fun _ _ => False) w w')
            (assumption)
            (first
              | (go_at_call 23
                 refine (ts1 _ _ _ _ _ _ _ _ _ _ _ _ _ _ (Nat.le_refl _) (H.out.2.1.keep0 (held18_chg (by assumption))) (by assumption) (by assumption)).mono ?_
                 rintro e ws ⟨rfl, hc⟩
                 have hSs := held18_next (by assumption) hc
                 clear hc)
              | (go_at_call_of 24 (Value.agg #[.int .i64 a.kind, .string a.name, .int .i64 a.con, .slice Af a.fields.length pf, .slice Al a.list.length pl, .slice Ar a.res.length pr])
                 refine (own2_any n B _ a Af pf Al pl Ar pr (Nat.le_trans H.out.1 (held18_chg (by assumption)).size) (TyR.keep0 (held18_chg (by assumption)) H.out.2.2.1)).mono ?_
                 rintro e wa ⟨Xf, xf, Xl, xl, Xr, xr, rfl, hN, hc⟩
                 have hSa := held18_next (by assumption) hc
                 have hXa := TyN.tyR hN
                 skip
                 clear hN hc)
              | (go_at_call_of 24 (Value.agg #[.int .i64 b.kind, .string b.name, .int .i64 b.con, .slice Bf b.fields.length qf, .slice Bl b.list.length ql, .slice Br b.res.length qr])
                 refine (own2_any n B _ b Bf qf Bl ql Br qr (Nat.le_trans H.out.1 (held18_chg (by assumption)).size) (TyR.keep0 (held18_chg (by assumption)) H.out.2.2.2.1)).mono ?_
                 rintro e wb ⟨Xf, xf, Xl, xl, Xr, xr, rfl, hN, hc⟩
                 have hSb := held18_next (by assumption) hc
                 have hXb := TyN.tyR hN
                 have hk := ty_next hXa hc
                 clear hN hc))
          clear hKd hSa hXa hSb hXb hk hS
          have hS := hSs
          clear hSs
          obtain ⟨y0, y1, y2, y3, y4, y5, y6, y7, y8, y9, y10, y11, y12, y13, y14, y15, y16, y17, hcw⟩ := hS
          go_wp2_with fail
          have hS := And.intro y0 (And.intro y1 (And.intro y2 (And.intro y3 (And.intro y4 (And.intro y5 (And.intro y6 (And.intro y7 (And.intro y8 (And.intro y9 (And.intro y10 (And.intro y11 (And.intro y12 (And.intro y13 (And.intro y14 (And.intro y15 (And.intro y16 (And.intro y17 hcw)))))))))))))))))
          clear y0 y1 y2 y3 y4 y5 y6 y7 y8 y9 y10 y11 y12 y13 y14 y15 y16 y17 hcw
          have hKd := held18_next hS ((Chg.refl (fun _ _ => False) _).drew)
          go_region_held3 (fun w' => w'.cell? ⟨g1, 0, none⟩ = some (.int .i64 a.kind) ∧ w'.cell? ⟨g1, 1, none⟩ = some (.string a.name) ∧ w'.cell? ⟨g1, 2, none⟩ = some (.int .i64 a.con) ∧ w'.cell? ⟨g1, 3, none⟩ = some (.slice Af a.fields.length pf) ∧ w'.cell? ⟨g1, 4, none⟩ = some (.slice Al a.list.length pl) ∧ w'.cell? ⟨g1, 5, none⟩ = some (.slice Ar a.res.length pr) ∧ w'.cell? ⟨g2, 0, none⟩ = some (.int .i64 b.kind) ∧ w'.cell? ⟨g2, 1, none⟩ = some (.string b.name) ∧ w'.cell? ⟨g2, 2, none⟩ = some (.int .i64 b.con) ∧ w'.cell? ⟨g2, 3, none⟩ = some (.slice Bf b.fields.length qf) ∧ w'.cell? ⟨g2, 4, none⟩ = some (.slice Bl b.list.length ql) ∧ w'.cell? ⟨g2, 5, none⟩ = some (.slice Br b.res.length qr) ∧ w'.cell? ⟨g3, 0, none⟩ = some (.int .i64 c.kind) ∧ w'.cell? ⟨g3, 1, none⟩ = some (.string c.name) ∧ w'.cell? ⟨g3, 2, none⟩ = some (.int .i64 c.con) ∧ w'.cell? ⟨g3, 3, none⟩ = some (.slice Cf c.fields.length rf) ∧ w'.cell? ⟨g3, 4, none⟩ = some (.slice Cl c.list.length rl) ∧ w'.cell? ⟨g3, 5, none⟩ = some (.slice Cr c.res.length rr) ∧ Chg (fun _ _ => False) w w')
            (assumption)
            (first
              | (go_at_call 23
                 refine (ts2 _ _ _ _ _ _ _ _ _ _ _ _ _ _ (Nat.le_refl _) (H.out.2.1.keep0 (held18_chg (by assumption))) (by assumption) (by assumption)).mono ?_
                 rintro e ws ⟨rfl, hc⟩
                 have hSs := held18_next (by assumption) hc
                 clear hc)
              | (go_at_call_of 24 (Value.agg #[.int .i64 b.kind, .string b.name, .int .i64 b.con, .slice Bf b.fields.length qf, .slice Bl b.list.length ql, .slice Br b.res.length qr])
                 refine (own2_any n B _ b Bf qf Bl ql Br qr (Nat.le_trans H.out.1 (held18_chg (by assumption)).size) (TyR.keep0 (held18_chg (by assumption)) H.out.2.2.2.1)).mono ?_
                 rintro e wb ⟨Xf, xf, Xl, xl, Xr, xr, rfl, hN, hc⟩
                 have hSb := held18_next (by assumption) hc
                 have hXb := TyN.tyR hN
                 skip
                 clear hN hc)
              | (go_at_call_of 24 (Value.agg #[.int .i64 a.kind, .string a.name, .int .i64 a.con, .slice Af a.fields.length pf, .slice Al a.list.length pl, .slice Ar a.res.length pr])
                 refine (own2_any n B _ a Af pf Al pl Ar pr (Nat.le_trans H.out.1 (held18_chg (by assumption)).size) (TyR.keep0 (held18_chg (by assumption)) H.out.2.2.1)).mono ?_
                 rintro e wa ⟨Xf, xf, Xl, xl, Xr, xr, rfl, hN, hc⟩
                 have hSa := held18_next (by assumption) hc
                 have hXa := TyN.tyR hN
                 have hk := ty_next hXb hc
                 clear hN hc))
          clear hKd hSb hXb hSa hXa hk hS
          have hS := hSs
          clear hSs
          obtain ⟨y0, y1, y2, y3, y4, y5, y6, y7, y8, y9, y10, y11, y12, y13, y14, y15, y16, y17, hcw⟩ := hS
          go_wp2_with fail
          have hS := And.intro y0 (And.intro y1 (And.intro y2 (And.intro y3 (And.intro y4 (And.intro y5 (And.intro y6 (And.intro y7 (And.intro y8 (And.intro y9 (And.intro y10 (And.intro y11 (And.intro y12 (And.intro y13 (And.intro y14 (And.intro y15 (And.intro y16 (And.intro y17 hcw)))))))))))))))))
          clear y0 y1 y2 y3 y4 y5 y6 y7 y8 y9 y10 y11 y12 y13 y14 y15 y16 y17 hcw
          have hKd := held18_next hS ((Chg.refl (fun _ _ => False) _).drew)
          go_region_held3 (fun w' => w'.cell? ⟨g1, 0, none⟩ = some (.int .i64 a.kind) ∧ w'.cell? ⟨g1, 1, none⟩ = some (.string a.name) ∧ w'.cell? ⟨g1, 2, none⟩ = some (.int .i64 a.con) ∧ w'.cell? ⟨g1, 3, none⟩ = some (.slice Af a.fields.length pf) ∧ w'.cell? ⟨g1, 4, none⟩ = some (.slice Al a.list.length pl) ∧ w'.cell? ⟨g1, 5, none⟩ = some (.slice Ar a.res.length pr) ∧ w'.cell? ⟨g2, 0, none⟩ = some (.int .i64 b.kind) ∧ w'.cell? ⟨g2, 1, none⟩ = some (.string b.name) ∧ w'.cell? ⟨g2, 2, none⟩ = some (.int .i64 b.con) ∧ w'.cell? ⟨g2, 3, none⟩ = some (.slice Bf b.fields.length qf) ∧ w'.cell? ⟨g2, 4, none⟩ = some (.slice Bl b.list.length ql) ∧ w'.cell? ⟨g2, 5, none⟩ = some (.slice Br b.res.length qr) ∧ w'.cell? ⟨g3, 0, none⟩ = some (.int .i64 c.kind) ∧ w'.cell? ⟨g3, 1, none⟩ = some (.string c.name) ∧ w'.cell? ⟨g3, 2, none⟩ = some (.int .i64 c.con) ∧ w'.cell? ⟨g3, 3, none⟩ = some (.slice Cf c.fields.length rf) ∧ w'.cell? ⟨g3, 4, none⟩ = some (.slice Cl c.list.length rl) ∧ w'.cell? ⟨g3, 5, none⟩ = some (.slice Cr c.res.length rr) ∧ Chg (fun _ _ => False) w w')
            (assumption)
            (first
              | (go_at_call 23
                 refine (ts3 _ _ _ _ _ _ _ _ _ _ _ _ _ _ (Nat.le_refl _) (H.out.2.1.keep0 (held18_chg (by assumption))) (by assumption) (by assumption)).mono ?_
                 rintro e ws ⟨rfl, hc⟩
                 have hSs := held18_next (by assumption) hc
                 clear hc)
              | (go_at_call_of 24 (Value.agg #[.int .i64 b.kind, .string b.name, .int .i64 b.con, .slice Bf b.fields.length qf, .slice Bl b.list.length ql, .slice Br b.res.length qr])
                 refine (own2_any n B _ b Bf qf Bl ql Br qr (Nat.le_trans H.out.1 (held18_chg (by assumption)).size) (TyR.keep0 (held18_chg (by assumption)) H.out.2.2.2.1)).mono ?_
                 rintro e wb ⟨Xf, xf, Xl, xl, Xr, xr, rfl, hN, hc⟩
                 have hSb := held18_next (by assumption) hc
                 have hXb := TyN.tyR hN
                 skip
                 clear hN hc)
              | (go_at_call_of 24 (Value.agg #[.int .i64 c.kind, .string c.name, .int .i64 c.con, .slice Cf c.fields.length rf, .slice Cl c.list.length rl, .slice Cr c.res.length rr])
                 refine (own2_any n B _ c Cf rf Cl rl Cr rr (Nat.le_trans H.out.1 (held18_chg (by assumption)).size) (TyR.keep0 (held18_chg (by assumption)) H.out.2.2.2.2)).mono ?_
                 rintro e wc ⟨Xf, xf, Xl, xl, Xr, xr, rfl, hN, hc⟩
                 have hSc := held18_next (by assumption) hc
                 have hXc := TyN.tyR hN
                 have hk := ty_next hXb hc
                 clear hN hc))
          clear hKd hSb hXb hSc hXc hk hS
          have hS := hSs
          clear hSs
          obtain ⟨y0, y1, y2, y3, y4, y5, y6, y7, y8, y9, y10, y11, y12, y13, y14, y15, y16, y17, hcw⟩ := hS
          go_wp2_with fail
          have hS := And.intro y0 (And.intro y1 (And.intro y2 (And.intro y3 (And.intro y4 (And.intro y5 (And.intro y6 (And.intro y7 (And.intro y8 (And.intro y9 (And.intro y10 (And.intro y11 (And.intro y12 (And.intro y13 (And.intro y14 (And.intro y15 (And.intro y16 (And.intro y17 hcw)))))))))))))))))
          clear y0 y1 y2 y3 y4 y5 y6 y7 y8 y9 y10 y11 y12 y13 y14 y15 y16 y17 hcw
          have hKd := held18_next hS ((Chg.refl (fun _ _ => False) _).drew)
          go_region_held3 (fun w' => w'.cell? ⟨g1, 0, none⟩ = some (.int .i64 a.kind) ∧ w'.cell? ⟨g1, 1, none⟩ = some (.string a.name) ∧ w'.cell? ⟨g1, 2, none⟩ = some (.int .i64 a.con) ∧ w'.cell? ⟨g1, 3, none⟩ = some (.slice Af a.fields.length pf) ∧ w'.cell? ⟨g1, 4, none⟩ = some (.slice Al a.list.length pl) ∧ w'.cell? ⟨g1, 5, none⟩ = some (.slice Ar a.res.length pr) ∧ w'.cell? ⟨g2, 0, none⟩ = some (.int .i64 b.kind) ∧ w'.cell? ⟨g2, 1, none⟩ = some (.string b.name) ∧ w'.cell? ⟨g2, 2, none⟩ = some (.int .i64 b.con) ∧ w'.cell? ⟨g2, 3, none⟩ = some (.slice Bf b.fields.length qf) ∧ w'.cell? ⟨g2, 4, none⟩ = some (.slice Bl b.list.length ql) ∧ w'.cell? ⟨g2, 5, none⟩ = some (.slice Br b.res.length qr) ∧ w'.cell? ⟨g3, 0, none⟩ = some (.int .i64 c.kind) ∧ w'.cell? ⟨g3, 1, none⟩ = some (.string c.name) ∧ w'.cell? ⟨g3, 2, none⟩ = some (.int .i64 c.con) ∧ w'.cell? ⟨g3, 3, none⟩ = some (.slice Cf c.fields.length rf) ∧ w'.cell? ⟨g3, 4, none⟩ = some (.slice Cl c.list.length rl) ∧ w'.cell? ⟨g3, 5, none⟩ = some (.slice Cr c.res.length rr) ∧ Chg (fun _ _ => False) w w')
            (assumption)
            (first
              | (go_at_call 23
                 refine (ts4 _ _ _ _ _ _ _ _ _ _ _ _ _ _ (Nat.le_refl _) (H.out.2.1.keep0 (held18_chg (by assumption))) (by assumption) (by assumption)).mono ?_
                 rintro e ws ⟨rfl, hc⟩
                 have hSs := held18_next (by assumption) hc
                 clear hc)
              | (go_at_call_of 24 (Value.agg #[.int .i64 a.kind, .string a.name, .int .i64 a.con, .slice Af a.fields.length pf, .slice Al a.list.length pl, .slice Ar a.res.length pr])
                 refine (own2_any n B _ a Af pf Al pl Ar pr (Nat.le_trans H.out.1 (held18_chg (by assumption)).size) (TyR.keep0 (held18_chg (by assumption)) H.out.2.2.1)).mono ?_
                 rintro e wa ⟨Xf, xf, Xl, xl, Xr, xr, rfl, hN, hc⟩
                 have hSa := held18_next (by assumption) hc
                 have hXa := TyN.tyR hN
                 skip
                 clear hN hc)
              | (go_at_call_of 24 (Value.agg #[.int .i64 c.kind, .string c.name, .int .i64 c.con, .slice Cf c.fields.length rf, .slice Cl c.list.length rl, .slice Cr c.res.length rr])
                 refine (own2_any n B _ c Cf rf Cl rl Cr rr (Nat.le_trans H.out.1 (held18_chg (by assumption)).size) (TyR.keep0 (held18_chg (by assumption)) H.out.2.2.2.2)).mono ?_
                 rintro e wc ⟨Xf, xf, Xl, xl, Xr, xr, rfl, hN, hc⟩
                 have hSc := held18_next (by assumption) hc
                 have hXc := TyN.tyR hN
                 have hk := ty_next hXa hc
                 clear hN hc))
          clear hKd hSa hXa hSc hXc hk hS
          have hS := hSs
          clear hSs
          obtain ⟨y0, y1, y2, y3, y4, y5, y6, y7, y8, y9, y10, y11, y12, y13, y14, y15, y16, y17, hcw⟩ := hS
          go_wp2_with fail
          refine (answers2_any _ (H.out.2.1.keep0 hcw)).mono fun e w2 h => ?_
          obtain ⟨rfl, hc2⟩ := h
          have hS := held18_next ⟨y0, y1, y2, y3, y4, y5, y6, y7, y8, y9, y10, y11, y12, y13, y14, y15, y16, y17, hcw⟩ hc2
          clear y0 y1 y2 y3 y4 y5 y6 y7 y8 y9 y10 y11 y12 y13 y14 y15 y16 y17 hcw
          clear hc2
          obtain ⟨y0, y1, y2, y3, y4, y5, y6, y7, y8, y9, y10, y11, y12, y13, y14, y15, y16, y17, hcw⟩ := hS
          go_wp2_with fail
          refine (own2_any n B _ a Af pf Al pl Ar pr (Nat.le_trans H.out.1 hcw.size) (TyR.keep0 hcw H.out.2.2.1)).mono fun e w10 h => ?_
          obtain ⟨Xf, xf, Xl, xl, Xr, xr, rfl, hN, hc⟩ := h
          have hS := held18_next ⟨y0, y1, y2, y3, y4, y5, y6, y7, y8, y9, y10, y11, y12, y13, y14, y15, y16, y17, hcw⟩ hc
          clear y0 y1 y2 y3 y4 y5 y6 y7 y8 y9 y10 y11 y12 y13 y14 y15 y16 y17 hcw
          obtain ⟨y0, y1, y2, y3, y4, y5, y6, y7, y8, y9, y10, y11, y12, y13, y14, y15, y16, y17, hcw⟩ := hS
          have hX := TyN.tyR hN
          clear hN hc
          go_wp2_with fail
          refine (tx1 _ _ _ _ _ _ _ _ (Nat.le_refl _) (H.out.2.1.keep0 hcw) hX).mono fun e w11 h => ?_
          obtain ⟨rfl, hc⟩ := h
          have hS := held18_next ⟨y0, y1, y2, y3, y4, y5, y6, y7, y8, y9, y10, y11, y12, y13, y14, y15, y16, y17, hcw⟩ hc
          clear y0 y1 y2 y3 y4 y5 y6 y7 y8 y9 y10 y11 y12 y13 y14 y15 y16 y17 hcw
          obtain ⟨y0, y1, y2, y3, y4, y5, y6, y7, y8, y9, y10, y11, y12, y13, y14, y15, y16, y17, hcw⟩ := hS
          clear hc hX
          go_wp2_with fail
          refine (own2_any n B _ b Bf qf Bl ql Br qr (Nat.le_trans H.out.1 hcw.size) (TyR.keep0 hcw H.out.2.2.2.1)).mono fun e w12 h => ?_
          obtain ⟨Xf, xf, Xl, xl, Xr, xr, rfl, hN, hc⟩ := h
          have hS := held18_next ⟨y0, y1, y2, y3, y4, y5, y6, y7, y8, y9, y10, y11, y12, y13, y14, y15, y16, y17, hcw⟩ hc
          clear y0 y1 y2 y3 y4 y5 y6 y7 y8 y9 y10 y11 y12 y13 y14 y15 y16 y17 hcw
          obtain ⟨y0, y1, y2, y3, y4, y5, y6, y7, y8, y9, y10, y11, y12, y13, y14, y15, y16, y17, hcw⟩ := hS
          have hX := TyN.tyR hN
          clear hN hc
          go_wp2_with fail
          refine (tx2 _ _ _ _ _ _ _ _ (Nat.le_refl _) (H.out.2.1.keep0 hcw) hX).mono fun e w13 h => ?_
          obtain ⟨rfl, hc⟩ := h
          have hS := held18_next ⟨y0, y1, y2, y3, y4, y5, y6, y7, y8, y9, y10, y11, y12, y13, y14, y15, y16, y17, hcw⟩ hc
          clear y0 y1 y2 y3 y4 y5 y6 y7 y8 y9 y10 y11 y12 y13 y14 y15 y16 y17 hcw
          obtain ⟨y0, y1, y2, y3, y4, y5, y6, y7, y8, y9, y10, y11, y12, y13, y14, y15, y16, y17, hcw⟩ := hS
          clear hc hX
          go_wp2_with fail
          refine (own2_any n B _ a Af pf Al pl Ar pr (Nat.le_trans H.out.1 hcw.size) (TyR.keep0 hcw H.out.2.2.1)).mono fun e w14 h => ?_
          obtain ⟨Xf, xf, Xl, xl, Xr, xr, rfl, hN, hc⟩ := h
          have hS := held18_next ⟨y0, y1, y2, y3, y4, y5, y6, y7, y8, y9, y10, y11, y12, y13, y14, y15, y16, y17, hcw⟩ hc
          clear y0 y1 y2 y3 y4 y5 y6 y7 y8 y9 y10 y11 y12 y13 y14 y15 y16 y17 hcw
          obtain ⟨y0, y1, y2, y3, y4, y5, y6, y7, y8, y9, y10, y11, y12, y13, y14, y15, y16, y17, hcw⟩ := hS
          have hX := TyN.tyR hN
          clear hN hc
          go_wp2_with fail
          refine (tc1 _ _ _ _ _ _ _ _ (Nat.le_refl _) (H.out.2.1.keep0 hcw) hX).mono fun e w15 h => ?_
          obtain ⟨rfl, hc⟩ := h
          have hS := held18_next ⟨y0, y1, y2, y3, y4, y5, y6, y7, y8, y9, y10, y11, y12, y13, y14, y15, y16, y17, hcw⟩ hc
          clear y0 y1 y2 y3 y4 y5 y6 y7 y8 y9 y10 y11 y12 y13 y14 y15 y16 y17 hcw
          obtain ⟨y0, y1, y2, y3, y4, y5, y6, y7, y8, y9, y10, y11, y12, y13, y14, y15, y16, y17, hcw⟩ := hS
          clear hc hX
          go_wp2_with fail
          refine (own2_any n B _ b Bf qf Bl ql Br qr (Nat.le_trans H.out.1 hcw.size) (TyR.keep0 hcw H.out.2.2.2.1)).mono fun e w16 h => ?_
          obtain ⟨Xf, xf, Xl, xl, Xr, xr, rfl, hN, hc⟩ := h
          have hS := held18_next ⟨y0, y1, y2, y3, y4, y5, y6, y7, y8, y9, y10, y11, y12, y13, y14, y15, y16, y17, hcw⟩ hc
          clear y0 y1 y2 y3 y4 y5 y6 y7 y8 y9 y10 y11 y12 y13 y14 y15 y16 y17 hcw
          obtain ⟨y0, y1, y2, y3, y4, y5, y6, y7, y8, y9, y10, y11, y12, y13, y14, y15, y16, y17, hcw⟩ := hS
          have hX := TyN.tyR hN
          clear hN hc
          go_wp2_with fail
          refine (tc2 _ _ _ _ _ _ _ _ (Nat.le_refl _) (H.out.2.1.keep0 hcw) hX).mono fun e w17 h => ?_
          obtain ⟨rfl, hc⟩ := h
          have hS := held18_next ⟨y0, y1, y2, y3, y4, y5, y6, y7, y8, y9, y10, y11, y12, y13, y14, y15, y16, y17, hcw⟩ hc
          clear y0 y1 y2 y3 y4 y5 y6 y7 y8 y9 y10 y11 y12 y13 y14 y15 y16 y17 hcw
          obtain ⟨y0, y1, y2, y3, y4, y5, y6, y7, y8, y9, y10, y11, y12, y13, y14, y15, y16, y17, hcw⟩ := hS
          clear hc hX
          go_wp2_with fail
          go_ret
          refine ⟨?_, hcw⟩
          first
            | rfl
            | (simp; done)
            | simp_all
    · have p3' : (soundT a && soundT c) = false := by simpa using p3
      simp only [p2, p3', Bool.true_and, Bool.false_and, show errOf true = 0 from rfl, show errOf false = 1 from rfl] at ts3 ts4
      clear p2 p3 p3' hX1 hE1 tx1 tx2 tc1 tc2
      go_enter Tryd.func10, Tryd.ntmps10
      go_wp2_with fail
      generalize ((w.alloc (.cells #[.int .i64 a.kind, .string a.name, .int .i64 a.con, .slice Af a.fields.length pf, .slice Al a.list.length pl, .slice Ar a.res.length pr] 39)).alloc (.cells #[.int .i64 b.kind, .string b.name, .int .i64 b.con, .slice Bf b.fields.length qf, .slice Bl b.list.length ql, .slice Br b.res.length qr] 39)).alloc (.cells #[.int .i64 c.kind, .string c.name, .int .i64 c.con, .slice Cf c.fields.length rf, .slice Cl c.list.length rl, .slice Cr c.res.length rr] 39) = W at HH ⊢
      generalize w.heap.size + 1 + 1 = g3 at HH ⊢
      generalize w.heap.size + 1 = g2 at HH ⊢
      generalize w.heap.size = g1 at HH ⊢
      obtain ⟨y0, y1, y2, y3, y4, y5⟩ := HH.out.1.cells6
      obtain ⟨y6, y7, y8, y9, y10, y11⟩ := HH.out.2.1.cells6
      obtain ⟨y12, y13, y14, y15, y16, y17⟩ := HH.out.2.2.1.cells6
      have hcw := HH.out.2.2.2
      clear HH
      have hS := And.intro y0 (And.intro y1 (And.intro y2 (And.intro y3 (And.intro y4 (And.intro y5 (And.intro y6 (And.intro y7 (And.intro y8 (And.intro y9 (And.intro y10 (And.intro y11 (And.intro y12 (And.intro y13 (And.intro y14 (And.intro y15 (And.intro y16 (And.intro y17 hcw)))))))))))))))))
      clear y0 y1 y2 y3 y4 y5 y6 y7 y8 y9 y10 y11 y12 y13 y14 y15 y16 y17 hcw
      have hKd := held18_next hS ((Chg.refl (fun _ _ => False) _).drew)
      go_region_held3 (fun w' => w'.cell? ⟨g1, 0, none⟩ = some (.int .i64 a.kind) ∧ w'.cell? ⟨g1, 1, none⟩ = some (.string a.name) ∧ w'.cell? ⟨g1, 2, none⟩ = some (.int .i64 a.con) ∧ w'.cell? ⟨g1, 3, none⟩ = some (.slice Af a.fields.length pf) ∧ w'.cell? ⟨g1, 4, none⟩ = some (.slice Al a.list.length pl) ∧ w'.cell? ⟨g1, 5, none⟩ = some (.slice Ar a.res.length pr) ∧ w'.cell? ⟨g2, 0, none⟩ = some (.int .i64 b.kind) ∧ w'.cell? ⟨g2, 1, none⟩ = some (.string b.name) ∧ w'.cell? ⟨g2, 2, none⟩ = some (.int .i64 b.con) ∧ w'.cell? ⟨g2, 3, none⟩ = some (.slice Bf b.fields.length qf) ∧ w'.cell? ⟨g2, 4, none⟩ = some (.slice Bl b.list.length ql) ∧ w'.cell? ⟨g2, 5, none⟩ = some (.slice Br b.res.length qr) ∧ w'.cell? ⟨g3, 0, none⟩ = some (.int .i64 c.kind) ∧ w'.cell? ⟨g3, 1, none⟩ = some (.string c.name) ∧ w'.cell? ⟨g3, 2, none⟩ = some (.int .i64 c.con) ∧ w'.cell? ⟨g3, 3, none⟩ = some (.slice Cf c.fields.length rf) ∧ w'.cell? ⟨g3, 4, none⟩ = some (.slice Cl c.list.length rl) ∧ w'.cell? ⟨g3, 5, none⟩ = some (.slice Cr c.res.length rr) ∧ Chg (fun _ _ => False) w w')
        (assumption)
        (first
          | (go_at_call 23
             refine (ts1 _ _ _ _ _ _ _ _ _ _ _ _ _ _ (Nat.le_refl _) (H.out.2.1.keep0 (held18_chg (by assumption))) (by assumption) (by assumption)).mono ?_
             rintro e ws ⟨rfl, hc⟩
             have hSs := held18_next (by assumption) hc
             clear hc)
          | (go_at_call_of 24 (Value.agg #[.int .i64 a.kind, .string a.name, .int .i64 a.con, .slice Af a.fields.length pf, .slice Al a.list.length pl, .slice Ar a.res.length pr])
             refine (own2_any n B _ a Af pf Al pl Ar pr (Nat.le_trans H.out.1 (held18_chg (by assumption)).size) (TyR.keep0 (held18_chg (by assumption)) H.out.2.2.1)).mono ?_
             rintro e wa ⟨Xf, xf, Xl, xl, Xr, xr, rfl, hN, hc⟩
             have hSa := held18_next (by assumption) hc
             have hXa := TyN.tyR hN
             skip
             clear hN hc)
          | (go_at_call_of 24 (Value.agg #[.int .i64 b.kind, .string b.name, .int .i64 b.con, .slice Bf b.fields.length qf, .slice Bl b.list.length ql, .slice Br b.res.length qr])
             refine (own2_any n B _ b Bf qf Bl ql Br qr (Nat.le_trans H.out.1 (held18_chg (by assumption)).size) (TyR.keep0 (held18_chg (by assumption)) H.out.2.2.2.1)).mono ?_
             rintro e wb ⟨Xf, xf, Xl, xl, Xr, xr, rfl, hN, hc⟩
             have hSb := held18_next (by assumption) hc
             have hXb := TyN.tyR hN
             have hk := ty_next hXa hc
             clear hN hc))
      clear hKd hSa hXa hSb hXb hk hS
      have hS := hSs
      clear hSs
      obtain ⟨y0, y1, y2, y3, y4, y5, y6, y7, y8, y9, y10, y11, y12, y13, y14, y15, y16, y17, hcw⟩ := hS
      go_wp2_with fail
      have hS := And.intro y0 (And.intro y1 (And.intro y2 (And.intro y3 (And.intro y4 (And.intro y5 (And.intro y6 (And.intro y7 (And.intro y8 (And.intro y9 (And.intro y10 (And.intro y11 (And.intro y12 (And.intro y13 (And.intro y14 (And.intro y15 (And.intro y16 (And.intro y17 hcw)))))))))))))))))
      clear y0 y1 y2 y3 y4 y5 y6 y7 y8 y9 y10 y11 y12 y13 y14 y15 y16 y17 hcw
      have hKd := held18_next hS ((Chg.refl (fun _ _ => False) _).drew)
      go_region_held3 (fun w' => w'.cell? ⟨g1, 0, none⟩ = some (.int .i64 a.kind) ∧ w'.cell? ⟨g1, 1, none⟩ = some (.string a.name) ∧ w'.cell? ⟨g1, 2, none⟩ = some (.int .i64 a.con) ∧ w'.cell? ⟨g1, 3, none⟩ = some (.slice Af a.fields.length pf) ∧ w'.cell? ⟨g1, 4, none⟩ = some (.slice Al a.list.length pl) ∧ w'.cell? ⟨g1, 5, none⟩ = some (.slice Ar a.res.length pr) ∧ w'.cell? ⟨g2, 0, none⟩ = some (.int .i64 b.kind) ∧ w'.cell? ⟨g2, 1, none⟩ = some (.string b.name) ∧ w'.cell? ⟨g2, 2, none⟩ = some (.int .i64 b.con) ∧ w'.cell? ⟨g2, 3, none⟩ = some (.slice Bf b.fields.length qf) ∧ w'.cell? ⟨g2, 4, none⟩ = some (.slice Bl b.list.length ql) ∧ w'.cell? ⟨g2, 5, none⟩ = some (.slice Br b.res.length qr) ∧ w'.cell? ⟨g3, 0, none⟩ = some (.int .i64 c.kind) ∧ w'.cell? ⟨g3, 1, none⟩ = some (.string c.name) ∧ w'.cell? ⟨g3, 2, none⟩ = some (.int .i64 c.con) ∧ w'.cell? ⟨g3, 3, none⟩ = some (.slice Cf c.fields.length rf) ∧ w'.cell? ⟨g3, 4, none⟩ = some (.slice Cl c.list.length rl) ∧ w'.cell? ⟨g3, 5, none⟩ = some (.slice Cr c.res.length rr) ∧ Chg (fun _ _ => False) w w')
        (assumption)
        (first
          | (go_at_call 23
             refine (ts2 _ _ _ _ _ _ _ _ _ _ _ _ _ _ (Nat.le_refl _) (H.out.2.1.keep0 (held18_chg (by assumption))) (by assumption) (by assumption)).mono ?_
             rintro e ws ⟨rfl, hc⟩
             have hSs := held18_next (by assumption) hc
             clear hc)
          | (go_at_call_of 24 (Value.agg #[.int .i64 b.kind, .string b.name, .int .i64 b.con, .slice Bf b.fields.length qf, .slice Bl b.list.length ql, .slice Br b.res.length qr])
             refine (own2_any n B _ b Bf qf Bl ql Br qr (Nat.le_trans H.out.1 (held18_chg (by assumption)).size) (TyR.keep0 (held18_chg (by assumption)) H.out.2.2.2.1)).mono ?_
             rintro e wb ⟨Xf, xf, Xl, xl, Xr, xr, rfl, hN, hc⟩
             have hSb := held18_next (by assumption) hc
             have hXb := TyN.tyR hN
             skip
             clear hN hc)
          | (go_at_call_of 24 (Value.agg #[.int .i64 a.kind, .string a.name, .int .i64 a.con, .slice Af a.fields.length pf, .slice Al a.list.length pl, .slice Ar a.res.length pr])
             refine (own2_any n B _ a Af pf Al pl Ar pr (Nat.le_trans H.out.1 (held18_chg (by assumption)).size) (TyR.keep0 (held18_chg (by assumption)) H.out.2.2.1)).mono ?_
             rintro e wa ⟨Xf, xf, Xl, xl, Xr, xr, rfl, hN, hc⟩
             have hSa := held18_next (by assumption) hc
             have hXa := TyN.tyR hN
             have hk := ty_next hXb hc
             clear hN hc))
      clear hKd hSb hXb hSa hXa hk hS
      have hS := hSs
      clear hSs
      obtain ⟨y0, y1, y2, y3, y4, y5, y6, y7, y8, y9, y10, y11, y12, y13, y14, y15, y16, y17, hcw⟩ := hS
      go_wp2_with fail
      have hS := And.intro y0 (And.intro y1 (And.intro y2 (And.intro y3 (And.intro y4 (And.intro y5 (And.intro y6 (And.intro y7 (And.intro y8 (And.intro y9 (And.intro y10 (And.intro y11 (And.intro y12 (And.intro y13 (And.intro y14 (And.intro y15 (And.intro y16 (And.intro y17 hcw)))))))))))))))))
      clear y0 y1 y2 y3 y4 y5 y6 y7 y8 y9 y10 y11 y12 y13 y14 y15 y16 y17 hcw
      have hKd := held18_next hS ((Chg.refl (fun _ _ => False) _).drew)
      go_region_held3 (fun w' => w'.cell? ⟨g1, 0, none⟩ = some (.int .i64 a.kind) ∧ w'.cell? ⟨g1, 1, none⟩ = some (.string a.name) ∧ w'.cell? ⟨g1, 2, none⟩ = some (.int .i64 a.con) ∧ w'.cell? ⟨g1, 3, none⟩ = some (.slice Af a.fields.length pf) ∧ w'.cell? ⟨g1, 4, none⟩ = some (.slice Al a.list.length pl) ∧ w'.cell? ⟨g1, 5, none⟩ = some (.slice Ar a.res.length pr) ∧ w'.cell? ⟨g2, 0, none⟩ = some (.int .i64 b.kind) ∧ w'.cell? ⟨g2, 1, none⟩ = some (.string b.name) ∧ w'.cell? ⟨g2, 2, none⟩ = some (.int .i64 b.con) ∧ w'.cell? ⟨g2, 3, none⟩ = some (.slice Bf b.fields.length qf) ∧ w'.cell? ⟨g2, 4, none⟩ = some (.slice Bl b.list.length ql) ∧ w'.cell? ⟨g2, 5, none⟩ = some (.slice Br b.res.length qr) ∧ w'.cell? ⟨g3, 0, none⟩ = some (.int .i64 c.kind) ∧ w'.cell? ⟨g3, 1, none⟩ = some (.string c.name) ∧ w'.cell? ⟨g3, 2, none⟩ = some (.int .i64 c.con) ∧ w'.cell? ⟨g3, 3, none⟩ = some (.slice Cf c.fields.length rf) ∧ w'.cell? ⟨g3, 4, none⟩ = some (.slice Cl c.list.length rl) ∧ w'.cell? ⟨g3, 5, none⟩ = some (.slice Cr c.res.length rr) ∧ Chg (fun _ _ => False) w w')
        (assumption)
        (first
          | (go_at_call 23
             refine (ts3 _ _ _ _ _ _ _ _ _ _ _ _ _ _ (Nat.le_refl _) (H.out.2.1.keep0 (held18_chg (by assumption))) (by assumption) (by assumption)).mono ?_
             rintro e ws ⟨rfl, hc⟩
             have hSs := held18_next (by assumption) hc
             clear hc)
          | (go_at_call_of 24 (Value.agg #[.int .i64 b.kind, .string b.name, .int .i64 b.con, .slice Bf b.fields.length qf, .slice Bl b.list.length ql, .slice Br b.res.length qr])
             refine (own2_any n B _ b Bf qf Bl ql Br qr (Nat.le_trans H.out.1 (held18_chg (by assumption)).size) (TyR.keep0 (held18_chg (by assumption)) H.out.2.2.2.1)).mono ?_
             rintro e wb ⟨Xf, xf, Xl, xl, Xr, xr, rfl, hN, hc⟩
             have hSb := held18_next (by assumption) hc
             have hXb := TyN.tyR hN
             skip
             clear hN hc)
          | (go_at_call_of 24 (Value.agg #[.int .i64 c.kind, .string c.name, .int .i64 c.con, .slice Cf c.fields.length rf, .slice Cl c.list.length rl, .slice Cr c.res.length rr])
             refine (own2_any n B _ c Cf rf Cl rl Cr rr (Nat.le_trans H.out.1 (held18_chg (by assumption)).size) (TyR.keep0 (held18_chg (by assumption)) H.out.2.2.2.2)).mono ?_
             rintro e wc ⟨Xf, xf, Xl, xl, Xr, xr, rfl, hN, hc⟩
             have hSc := held18_next (by assumption) hc
             have hXc := TyN.tyR hN
             have hk := ty_next hXb hc
             clear hN hc))
      clear hKd hSb hXb hSc hXc hk hS
      have hS := hSs
      clear hSs
      obtain ⟨y0, y1, y2, y3, y4, y5, y6, y7, y8, y9, y10, y11, y12, y13, y14, y15, y16, y17, hcw⟩ := hS
      go_wp2_with fail
      have hS := And.intro y0 (And.intro y1 (And.intro y2 (And.intro y3 (And.intro y4 (And.intro y5 (And.intro y6 (And.intro y7 (And.intro y8 (And.intro y9 (And.intro y10 (And.intro y11 (And.intro y12 (And.intro y13 (And.intro y14 (And.intro y15 (And.intro y16 (And.intro y17 hcw)))))))))))))))))
      clear y0 y1 y2 y3 y4 y5 y6 y7 y8 y9 y10 y11 y12 y13 y14 y15 y16 y17 hcw
      have hKd := held18_next hS ((Chg.refl (fun _ _ => False) _).drew)
      go_region_held3 (fun w' => w'.cell? ⟨g1, 0, none⟩ = some (.int .i64 a.kind) ∧ w'.cell? ⟨g1, 1, none⟩ = some (.string a.name) ∧ w'.cell? ⟨g1, 2, none⟩ = some (.int .i64 a.con) ∧ w'.cell? ⟨g1, 3, none⟩ = some (.slice Af a.fields.length pf) ∧ w'.cell? ⟨g1, 4, none⟩ = some (.slice Al a.list.length pl) ∧ w'.cell? ⟨g1, 5, none⟩ = some (.slice Ar a.res.length pr) ∧ w'.cell? ⟨g2, 0, none⟩ = some (.int .i64 b.kind) ∧ w'.cell? ⟨g2, 1, none⟩ = some (.string b.name) ∧ w'.cell? ⟨g2, 2, none⟩ = some (.int .i64 b.con) ∧ w'.cell? ⟨g2, 3, none⟩ = some (.slice Bf b.fields.length qf) ∧ w'.cell? ⟨g2, 4, none⟩ = some (.slice Bl b.list.length ql) ∧ w'.cell? ⟨g2, 5, none⟩ = some (.slice Br b.res.length qr) ∧ w'.cell? ⟨g3, 0, none⟩ = some (.int .i64 c.kind) ∧ w'.cell? ⟨g3, 1, none⟩ = some (.string c.name) ∧ w'.cell? ⟨g3, 2, none⟩ = some (.int .i64 c.con) ∧ w'.cell? ⟨g3, 3, none⟩ = some (.slice Cf c.fields.length rf) ∧ w'.cell? ⟨g3, 4, none⟩ = some (.slice Cl c.list.length rl) ∧ w'.cell? ⟨g3, 5, none⟩ = some (.slice Cr c.res.length rr) ∧ Chg (fun _ _ => False) w w')
        (assumption)
        (first
          | (go_at_call 23
             refine (ts4 _ _ _ _ _ _ _ _ _ _ _ _ _ _ (Nat.le_refl _) (H.out.2.1.keep0 (held18_chg (by assumption))) (by assumption) (by assumption)).mono ?_
             rintro e ws ⟨rfl, hc⟩
             have hSs := held18_next (by assumption) hc
             clear hc)
          | (go_at_call_of 24 (Value.agg #[.int .i64 a.kind, .string a.name, .int .i64 a.con, .slice Af a.fields.length pf, .slice Al a.list.length pl, .slice Ar a.res.length pr])
             refine (own2_any n B _ a Af pf Al pl Ar pr (Nat.le_trans H.out.1 (held18_chg (by assumption)).size) (TyR.keep0 (held18_chg (by assumption)) H.out.2.2.1)).mono ?_
             rintro e wa ⟨Xf, xf, Xl, xl, Xr, xr, rfl, hN, hc⟩
             have hSa := held18_next (by assumption) hc
             have hXa := TyN.tyR hN
             skip
             clear hN hc)
          | (go_at_call_of 24 (Value.agg #[.int .i64 c.kind, .string c.name, .int .i64 c.con, .slice Cf c.fields.length rf, .slice Cl c.list.length rl, .slice Cr c.res.length rr])
             refine (own2_any n B _ c Cf rf Cl rl Cr rr (Nat.le_trans H.out.1 (held18_chg (by assumption)).size) (TyR.keep0 (held18_chg (by assumption)) H.out.2.2.2.2)).mono ?_
             rintro e wc ⟨Xf, xf, Xl, xl, Xr, xr, rfl, hN, hc⟩
             have hSc := held18_next (by assumption) hc
             have hXc := TyN.tyR hN
             have hk := ty_next hXa hc
             clear hN hc))
      clear hKd hSa hXa hSc hXc hk hS
      have hS := hSs
      clear hSs
      obtain ⟨y0, y1, y2, y3, y4, y5, y6, y7, y8, y9, y10, y11, y12, y13, y14, y15, y16, y17, hcw⟩ := hS
      go_wp2_with fail
      refine (answers2_any _ (H.out.2.1.keep0 hcw)).mono fun e w2 h => ?_
      obtain ⟨rfl, hc2⟩ := h
      have hS := held18_next ⟨y0, y1, y2, y3, y4, y5, y6, y7, y8, y9, y10, y11, y12, y13, y14, y15, y16, y17, hcw⟩ hc2
      clear y0 y1 y2 y3 y4 y5 y6 y7 y8 y9 y10 y11 y12 y13 y14 y15 y16 y17 hcw
      clear hc2
      obtain ⟨y0, y1, y2, y3, y4, y5, y6, y7, y8, y9, y10, y11, y12, y13, y14, y15, y16, y17, hcw⟩ := hS
      go_wp2_with fail
      go_ret
      exact ⟨rfl, hcw⟩
  · have p2' : (soundT b && soundT c) = false := by simpa using p2
    simp only [p2', Bool.false_and, show errOf false = 1 from rfl] at ts3
    clear p2 p2' hX1 hE1 tx1 tx2 tc1 tc2
    go_enter Tryd.func10, Tryd.ntmps10
    go_wp2_with fail
    generalize ((w.alloc (.cells #[.int .i64 a.kind, .string a.name, .int .i64 a.con, .slice Af a.fields.length pf, .slice Al a.list.length pl, .slice Ar a.res.length pr] 39)).alloc (.cells #[.int .i64 b.kind, .string b.name, .int .i64 b.con, .slice Bf b.fields.length qf, .slice Bl b.list.length ql, .slice Br b.res.length qr] 39)).alloc (.cells #[.int .i64 c.kind, .string c.name, .int .i64 c.con, .slice Cf c.fields.length rf, .slice Cl c.list.length rl, .slice Cr c.res.length rr] 39) = W at HH ⊢
    generalize w.heap.size + 1 + 1 = g3 at HH ⊢
    generalize w.heap.size + 1 = g2 at HH ⊢
    generalize w.heap.size = g1 at HH ⊢
    obtain ⟨y0, y1, y2, y3, y4, y5⟩ := HH.out.1.cells6
    obtain ⟨y6, y7, y8, y9, y10, y11⟩ := HH.out.2.1.cells6
    obtain ⟨y12, y13, y14, y15, y16, y17⟩ := HH.out.2.2.1.cells6
    have hcw := HH.out.2.2.2
    clear HH
    have hS := And.intro y0 (And.intro y1 (And.intro y2 (And.intro y3 (And.intro y4 (And.intro y5 (And.intro y6 (And.intro y7 (And.intro y8 (And.intro y9 (And.intro y10 (And.intro y11 (And.intro y12 (And.intro y13 (And.intro y14 (And.intro y15 (And.intro y16 (And.intro y17 hcw)))))))))))))))))
    clear y0 y1 y2 y3 y4 y5 y6 y7 y8 y9 y10 y11 y12 y13 y14 y15 y16 y17 hcw
    have hKd := held18_next hS ((Chg.refl (fun _ _ => False) _).drew)
    go_region_held3 (fun w' => w'.cell? ⟨g1, 0, none⟩ = some (.int .i64 a.kind) ∧ w'.cell? ⟨g1, 1, none⟩ = some (.string a.name) ∧ w'.cell? ⟨g1, 2, none⟩ = some (.int .i64 a.con) ∧ w'.cell? ⟨g1, 3, none⟩ = some (.slice Af a.fields.length pf) ∧ w'.cell? ⟨g1, 4, none⟩ = some (.slice Al a.list.length pl) ∧ w'.cell? ⟨g1, 5, none⟩ = some (.slice Ar a.res.length pr) ∧ w'.cell? ⟨g2, 0, none⟩ = some (.int .i64 b.kind) ∧ w'.cell? ⟨g2, 1, none⟩ = some (.string b.name) ∧ w'.cell? ⟨g2, 2, none⟩ = some (.int .i64 b.con) ∧ w'.cell? ⟨g2, 3, none⟩ = some (.slice Bf b.fields.length qf) ∧ w'.cell? ⟨g2, 4, none⟩ = some (.slice Bl b.list.length ql) ∧ w'.cell? ⟨g2, 5, none⟩ = some (.slice Br b.res.length qr) ∧ w'.cell? ⟨g3, 0, none⟩ = some (.int .i64 c.kind) ∧ w'.cell? ⟨g3, 1, none⟩ = some (.string c.name) ∧ w'.cell? ⟨g3, 2, none⟩ = some (.int .i64 c.con) ∧ w'.cell? ⟨g3, 3, none⟩ = some (.slice Cf c.fields.length rf) ∧ w'.cell? ⟨g3, 4, none⟩ = some (.slice Cl c.list.length rl) ∧ w'.cell? ⟨g3, 5, none⟩ = some (.slice Cr c.res.length rr) ∧ Chg (fun _ _ => False) w w')
      (assumption)
      (first
        | (go_at_call 23
           refine (ts1 _ _ _ _ _ _ _ _ _ _ _ _ _ _ (Nat.le_refl _) (H.out.2.1.keep0 (held18_chg (by assumption))) (by assumption) (by assumption)).mono ?_
           rintro e ws ⟨rfl, hc⟩
           have hSs := held18_next (by assumption) hc
           clear hc)
        | (go_at_call_of 24 (Value.agg #[.int .i64 a.kind, .string a.name, .int .i64 a.con, .slice Af a.fields.length pf, .slice Al a.list.length pl, .slice Ar a.res.length pr])
           refine (own2_any n B _ a Af pf Al pl Ar pr (Nat.le_trans H.out.1 (held18_chg (by assumption)).size) (TyR.keep0 (held18_chg (by assumption)) H.out.2.2.1)).mono ?_
           rintro e wa ⟨Xf, xf, Xl, xl, Xr, xr, rfl, hN, hc⟩
           have hSa := held18_next (by assumption) hc
           have hXa := TyN.tyR hN
           skip
           clear hN hc)
        | (go_at_call_of 24 (Value.agg #[.int .i64 b.kind, .string b.name, .int .i64 b.con, .slice Bf b.fields.length qf, .slice Bl b.list.length ql, .slice Br b.res.length qr])
           refine (own2_any n B _ b Bf qf Bl ql Br qr (Nat.le_trans H.out.1 (held18_chg (by assumption)).size) (TyR.keep0 (held18_chg (by assumption)) H.out.2.2.2.1)).mono ?_
           rintro e wb ⟨Xf, xf, Xl, xl, Xr, xr, rfl, hN, hc⟩
           have hSb := held18_next (by assumption) hc
           have hXb := TyN.tyR hN
           have hk := ty_next hXa hc
           clear hN hc))
    clear hKd hSa hXa hSb hXb hk hS
    have hS := hSs
    clear hSs
    obtain ⟨y0, y1, y2, y3, y4, y5, y6, y7, y8, y9, y10, y11, y12, y13, y14, y15, y16, y17, hcw⟩ := hS
    go_wp2_with fail
    have hS := And.intro y0 (And.intro y1 (And.intro y2 (And.intro y3 (And.intro y4 (And.intro y5 (And.intro y6 (And.intro y7 (And.intro y8 (And.intro y9 (And.intro y10 (And.intro y11 (And.intro y12 (And.intro y13 (And.intro y14 (And.intro y15 (And.intro y16 (And.intro y17 hcw)))))))))))))))))
    clear y0 y1 y2 y3 y4 y5 y6 y7 y8 y9 y10 y11 y12 y13 y14 y15 y16 y17 hcw
    have hKd := held18_next hS ((Chg.refl (fun _ _ => False) _).drew)
    go_region_held3 (fun w' => w'.cell? ⟨g1, 0, none⟩ = some (.int .i64 a.kind) ∧ w'.cell? ⟨g1, 1, none⟩ = some (.string a.name) ∧ w'.cell? ⟨g1, 2, none⟩ = some (.int .i64 a.con) ∧ w'.cell? ⟨g1, 3, none⟩ = some (.slice Af a.fields.length pf) ∧ w'.cell? ⟨g1, 4, none⟩ = some (.slice Al a.list.length pl) ∧ w'.cell? ⟨g1, 5, none⟩ = some (.slice Ar a.res.length pr) ∧ w'.cell? ⟨g2, 0, none⟩ = some (.int .i64 b.kind) ∧ w'.cell? ⟨g2, 1, none⟩ = some (.string b.name) ∧ w'.cell? ⟨g2, 2, none⟩ = some (.int .i64 b.con) ∧ w'.cell? ⟨g2, 3, none⟩ = some (.slice Bf b.fields.length qf) ∧ w'.cell? ⟨g2, 4, none⟩ = some (.slice Bl b.list.length ql) ∧ w'.cell? ⟨g2, 5, none⟩ = some (.slice Br b.res.length qr) ∧ w'.cell? ⟨g3, 0, none⟩ = some (.int .i64 c.kind) ∧ w'.cell? ⟨g3, 1, none⟩ = some (.string c.name) ∧ w'.cell? ⟨g3, 2, none⟩ = some (.int .i64 c.con) ∧ w'.cell? ⟨g3, 3, none⟩ = some (.slice Cf c.fields.length rf) ∧ w'.cell? ⟨g3, 4, none⟩ = some (.slice Cl c.list.length rl) ∧ w'.cell? ⟨g3, 5, none⟩ = some (.slice Cr c.res.length rr) ∧ Chg (fun _ _ => False) w w')
      (assumption)
      (first
        | (go_at_call 23
           refine (ts2 _ _ _ _ _ _ _ _ _ _ _ _ _ _ (Nat.le_refl _) (H.out.2.1.keep0 (held18_chg (by assumption))) (by assumption) (by assumption)).mono ?_
           rintro e ws ⟨rfl, hc⟩
           have hSs := held18_next (by assumption) hc
           clear hc)
        | (go_at_call_of 24 (Value.agg #[.int .i64 b.kind, .string b.name, .int .i64 b.con, .slice Bf b.fields.length qf, .slice Bl b.list.length ql, .slice Br b.res.length qr])
           refine (own2_any n B _ b Bf qf Bl ql Br qr (Nat.le_trans H.out.1 (held18_chg (by assumption)).size) (TyR.keep0 (held18_chg (by assumption)) H.out.2.2.2.1)).mono ?_
           rintro e wb ⟨Xf, xf, Xl, xl, Xr, xr, rfl, hN, hc⟩
           have hSb := held18_next (by assumption) hc
           have hXb := TyN.tyR hN
           skip
           clear hN hc)
        | (go_at_call_of 24 (Value.agg #[.int .i64 a.kind, .string a.name, .int .i64 a.con, .slice Af a.fields.length pf, .slice Al a.list.length pl, .slice Ar a.res.length pr])
           refine (own2_any n B _ a Af pf Al pl Ar pr (Nat.le_trans H.out.1 (held18_chg (by assumption)).size) (TyR.keep0 (held18_chg (by assumption)) H.out.2.2.1)).mono ?_
           rintro e wa ⟨Xf, xf, Xl, xl, Xr, xr, rfl, hN, hc⟩
           have hSa := held18_next (by assumption) hc
           have hXa := TyN.tyR hN
           have hk := ty_next hXb hc
           clear hN hc))
    clear hKd hSb hXb hSa hXa hk hS
    have hS := hSs
    clear hSs
    obtain ⟨y0, y1, y2, y3, y4, y5, y6, y7, y8, y9, y10, y11, y12, y13, y14, y15, y16, y17, hcw⟩ := hS
    go_wp2_with fail
    have hS := And.intro y0 (And.intro y1 (And.intro y2 (And.intro y3 (And.intro y4 (And.intro y5 (And.intro y6 (And.intro y7 (And.intro y8 (And.intro y9 (And.intro y10 (And.intro y11 (And.intro y12 (And.intro y13 (And.intro y14 (And.intro y15 (And.intro y16 (And.intro y17 hcw)))))))))))))))))
    clear y0 y1 y2 y3 y4 y5 y6 y7 y8 y9 y10 y11 y12 y13 y14 y15 y16 y17 hcw
    have hKd := held18_next hS ((Chg.refl (fun _ _ => False) _).drew)
    go_region_held3 (fun w' => w'.cell? ⟨g1, 0, none⟩ = some (.int .i64 a.kind) ∧ w'.cell? ⟨g1, 1, none⟩ = some (.string a.name) ∧ w'.cell? ⟨g1, 2, none⟩ = some (.int .i64 a.con) ∧ w'.cell? ⟨g1, 3, none⟩ = some (.slice Af a.fields.length pf) ∧ w'.cell? ⟨g1, 4, none⟩ = some (.slice Al a.list.length pl) ∧ w'.cell? ⟨g1, 5, none⟩ = some (.slice Ar a.res.length pr) ∧ w'.cell? ⟨g2, 0, none⟩ = some (.int .i64 b.kind) ∧ w'.cell? ⟨g2, 1, none⟩ = some (.string b.name) ∧ w'.cell? ⟨g2, 2, none⟩ = some (.int .i64 b.con) ∧ w'.cell? ⟨g2, 3, none⟩ = some (.slice Bf b.fields.length qf) ∧ w'.cell? ⟨g2, 4, none⟩ = some (.slice Bl b.list.length ql) ∧ w'.cell? ⟨g2, 5, none⟩ = some (.slice Br b.res.length qr) ∧ w'.cell? ⟨g3, 0, none⟩ = some (.int .i64 c.kind) ∧ w'.cell? ⟨g3, 1, none⟩ = some (.string c.name) ∧ w'.cell? ⟨g3, 2, none⟩ = some (.int .i64 c.con) ∧ w'.cell? ⟨g3, 3, none⟩ = some (.slice Cf c.fields.length rf) ∧ w'.cell? ⟨g3, 4, none⟩ = some (.slice Cl c.list.length rl) ∧ w'.cell? ⟨g3, 5, none⟩ = some (.slice Cr c.res.length rr) ∧ Chg (fun _ _ => False) w w')
      (assumption)
      (first
        | (go_at_call 23
           refine (ts3 _ _ _ _ _ _ _ _ _ _ _ _ _ _ (Nat.le_refl _) (H.out.2.1.keep0 (held18_chg (by assumption))) (by assumption) (by assumption)).mono ?_
           rintro e ws ⟨rfl, hc⟩
           have hSs := held18_next (by assumption) hc
           clear hc)
        | (go_at_call_of 24 (Value.agg #[.int .i64 b.kind, .string b.name, .int .i64 b.con, .slice Bf b.fields.length qf, .slice Bl b.list.length ql, .slice Br b.res.length qr])
           refine (own2_any n B _ b Bf qf Bl ql Br qr (Nat.le_trans H.out.1 (held18_chg (by assumption)).size) (TyR.keep0 (held18_chg (by assumption)) H.out.2.2.2.1)).mono ?_
           rintro e wb ⟨Xf, xf, Xl, xl, Xr, xr, rfl, hN, hc⟩
           have hSb := held18_next (by assumption) hc
           have hXb := TyN.tyR hN
           skip
           clear hN hc)
        | (go_at_call_of 24 (Value.agg #[.int .i64 c.kind, .string c.name, .int .i64 c.con, .slice Cf c.fields.length rf, .slice Cl c.list.length rl, .slice Cr c.res.length rr])
           refine (own2_any n B _ c Cf rf Cl rl Cr rr (Nat.le_trans H.out.1 (held18_chg (by assumption)).size) (TyR.keep0 (held18_chg (by assumption)) H.out.2.2.2.2)).mono ?_
           rintro e wc ⟨Xf, xf, Xl, xl, Xr, xr, rfl, hN, hc⟩
           have hSc := held18_next (by assumption) hc
           have hXc := TyN.tyR hN
           have hk := ty_next hXb hc
           clear hN hc))
    clear hKd hSb hXb hSc hXc hk hS
    have hS := hSs
    clear hSs
    obtain ⟨y0, y1, y2, y3, y4, y5, y6, y7, y8, y9, y10, y11, y12, y13, y14, y15, y16, y17, hcw⟩ := hS
    go_wp2_with fail
    have hS := And.intro y0 (And.intro y1 (And.intro y2 (And.intro y3 (And.intro y4 (And.intro y5 (And.intro y6 (And.intro y7 (And.intro y8 (And.intro y9 (And.intro y10 (And.intro y11 (And.intro y12 (And.intro y13 (And.intro y14 (And.intro y15 (And.intro y16 (And.intro y17 hcw)))))))))))))))))
    clear y0 y1 y2 y3 y4 y5 y6 y7 y8 y9 y10 y11 y12 y13 y14 y15 y16 y17 hcw
    have hKd := held18_next hS ((Chg.refl (fun _ _ => False) _).drew)
    go_region_held3 (fun w' => w'.cell? ⟨g1, 0, none⟩ = some (.int .i64 a.kind) ∧ w'.cell? ⟨g1, 1, none⟩ = some (.string a.name) ∧ w'.cell? ⟨g1, 2, none⟩ = some (.int .i64 a.con) ∧ w'.cell? ⟨g1, 3, none⟩ = some (.slice Af a.fields.length pf) ∧ w'.cell? ⟨g1, 4, none⟩ = some (.slice Al a.list.length pl) ∧ w'.cell? ⟨g1, 5, none⟩ = some (.slice Ar a.res.length pr) ∧ w'.cell? ⟨g2, 0, none⟩ = some (.int .i64 b.kind) ∧ w'.cell? ⟨g2, 1, none⟩ = some (.string b.name) ∧ w'.cell? ⟨g2, 2, none⟩ = some (.int .i64 b.con) ∧ w'.cell? ⟨g2, 3, none⟩ = some (.slice Bf b.fields.length qf) ∧ w'.cell? ⟨g2, 4, none⟩ = some (.slice Bl b.list.length ql) ∧ w'.cell? ⟨g2, 5, none⟩ = some (.slice Br b.res.length qr) ∧ w'.cell? ⟨g3, 0, none⟩ = some (.int .i64 c.kind) ∧ w'.cell? ⟨g3, 1, none⟩ = some (.string c.name) ∧ w'.cell? ⟨g3, 2, none⟩ = some (.int .i64 c.con) ∧ w'.cell? ⟨g3, 3, none⟩ = some (.slice Cf c.fields.length rf) ∧ w'.cell? ⟨g3, 4, none⟩ = some (.slice Cl c.list.length rl) ∧ w'.cell? ⟨g3, 5, none⟩ = some (.slice Cr c.res.length rr) ∧ Chg (fun _ _ => False) w w')
      (assumption)
      (first
        | (go_at_call 23
           refine (ts4 _ _ _ _ _ _ _ _ _ _ _ _ _ _ (Nat.le_refl _) (H.out.2.1.keep0 (held18_chg (by assumption))) (by assumption) (by assumption)).mono ?_
           rintro e ws ⟨rfl, hc⟩
           have hSs := held18_next (by assumption) hc
           clear hc)
        | (go_at_call_of 24 (Value.agg #[.int .i64 a.kind, .string a.name, .int .i64 a.con, .slice Af a.fields.length pf, .slice Al a.list.length pl, .slice Ar a.res.length pr])
           refine (own2_any n B _ a Af pf Al pl Ar pr (Nat.le_trans H.out.1 (held18_chg (by assumption)).size) (TyR.keep0 (held18_chg (by assumption)) H.out.2.2.1)).mono ?_
           rintro e wa ⟨Xf, xf, Xl, xl, Xr, xr, rfl, hN, hc⟩
           have hSa := held18_next (by assumption) hc
           have hXa := TyN.tyR hN
           skip
           clear hN hc)
        | (go_at_call_of 24 (Value.agg #[.int .i64 c.kind, .string c.name, .int .i64 c.con, .slice Cf c.fields.length rf, .slice Cl c.list.length rl, .slice Cr c.res.length rr])
           refine (own2_any n B _ c Cf rf Cl rl Cr rr (Nat.le_trans H.out.1 (held18_chg (by assumption)).size) (TyR.keep0 (held18_chg (by assumption)) H.out.2.2.2.2)).mono ?_
           rintro e wc ⟨Xf, xf, Xl, xl, Xr, xr, rfl, hN, hc⟩
           have hSc := held18_next (by assumption) hc
           have hXc := TyN.tyR hN
           have hk := ty_next hXa hc
           clear hN hc))
    clear hKd hSa hXa hSc hXc hk hS
    have hS := hSs
    clear hSs
    obtain ⟨y0, y1, y2, y3, y4, y5, y6, y7, y8, y9, y10, y11, y12, y13, y14, y15, y16, y17, hcw⟩ := hS
    go_wp2_with fail
    refine (answers2_any _ (H.out.2.1.keep0 hcw)).mono fun e w2 h => ?_
    obtain ⟨rfl, hc2⟩ := h
    have hS := held18_next ⟨y0, y1, y2, y3, y4, y5, y6, y7, y8, y9, y10, y11, y12, y13, y14, y15, y16, y17, hcw⟩ hc2
    clear y0 y1 y2 y3 y4 y5 y6 y7 y8 y9 y10 y11 y12 y13 y14 y15 y16 y17 hcw
    clear hc2
    obtain ⟨y0, y1, y2, y3, y4, y5, y6, y7, y8, y9, y10, y11, y12, y13, y14, y15, y16, y17, hcw⟩ := hS
    go_wp2_with fail
    go_ret
    exact ⟨rfl, hcw⟩
end Go.Proofs.YtefiefckjoledaaDoor
