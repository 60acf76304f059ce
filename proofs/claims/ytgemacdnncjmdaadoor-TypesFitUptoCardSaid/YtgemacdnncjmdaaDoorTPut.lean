/-
  types.Put: a type with what names stand for, in new memory.
-/
import Derived.Test.YtgemacdnncjmdaaDoorTFill4
namespace Go.Proofs.YtgemacdnncjmdaaDoor
open Go.RowKit
set_option linter.unusedVariables false
set_option linter.unusedSimpArgs false

def PutC (n m B : Nat) (f : ByteArray → Option Ty) (vb : Value) (Pre : World → Prop) : Prop :=
  ∀ (w : World) (t : Ty) (Af : Option Addr) (cf : Nat) (Al : Option Addr) (cl : Nat) (Ar : Option Addr) (cr : Nat), B ≤ w.heap.size → Pre w → TyR n B w (tyCells t.kind t.name t.con Af t.fields.length cf Al t.list.length cl Ar t.res.length cr) t → Calls Tryd.prog 37 #[.agg #[.int .i64 t.kind, .string t.name, .int .i64 t.con, .slice Af t.fields.length cf, .slice Al t.list.length cl, .slice Ar t.res.length cr], vb] w (FillRes m (t.fill f) w)
/-- The contract of Clone. -/
def CloneC (n B : Nat) : Prop :=
  ∀ (w : World) (t : Ty) (Af : Option Addr) (cf : Nat) (Al : Option Addr) (cl : Nat) (Ar : Option Addr) (cr : Nat), B ≤ w.heap.size → TyR n B w (tyCells t.kind t.name t.con Af t.fields.length cf Al t.list.length cl Ar t.res.length cr) t → Calls Tryd.prog 33 #[.agg #[.int .i64 t.kind, .string t.name, .int .i64 t.con, .slice Af t.fields.length cf, .slice Al t.list.length cl, .slice Ar t.res.length cr]] w (FillRes n t w)
/-- What the map answers at a name. -/
def ByC (ma B : Nat) (f : ByteArray → Option Ty) (vb : Value) (w : World) : Prop := ∀ s : ByteArray, s.size ≤ 1048576 →
  (f s = none ∧ (Instr.lookup 62 vb (.string s) true).run Tryd.prog w = .ok (.tuple #[.agg #[.int .i64 0, .string ⟨#[]⟩, .int .i64 0, .slice none 0 0, .slice none 0 0, .slice none 0 0], .bool false]) w) ∨
  ∃ u Af cf Al cl Ar cr, f s = some u ∧ (Instr.lookup 62 vb (.string s) true).run Tryd.prog w = .ok (.tuple #[.agg #[.int .i64 u.kind, .string u.name, .int .i64 u.con, .slice Af u.fields.length cf, .slice Al u.list.length cl, .slice Ar u.res.length cr], .bool true]) w ∧
    TyR ma B w (tyCells u.kind u.name u.con Af u.fields.length cf Al u.list.length cl Ar u.res.length cr) u
def putRel1 (D m g : Nat) (f : ByteArray → Option Ty) (t : Ty) (W : World) (i : Value) (wr : World) : Prop := fillRel2 D m g f t W i wr
def putRel2 (D m g : Nat) (f : ByteArray → Option Ty) (t : Ty) (Ag : Option Addr) (cg : Nat) (W : World) (i : Value) (wr : World) : Prop :=
  ∃ (k : Nat) (A : Option Addr) (c : Nat), k ≤ t.list.length ∧ i = .int .i64 k ∧ Blk wr g 33 #[.int .i64 t.kind, .string t.name, .int .i64 t.con, .slice Ag t.fields.length cg, .slice A k c, .slice none 0 0] ∧ GrowR D 33 6 (TyN m) wr A c ((t.list.take k).map (Ty.fill f)) ∧
    Chg (fun b t => b = g ∧ t = 33) W wr
def putRel3 (D m g : Nat) (f : ByteArray → Option Ty) (t : Ty) (Ag : Option Addr) (cg : Nat) (Ah : Option Addr) (ch : Nat) (W : World) (i : Value) (wr : World) : Prop :=
  ∃ (k : Nat) (A : Option Addr) (c : Nat), k ≤ t.res.length ∧ i = .int .i64 k ∧ Blk wr g 33 #[.int .i64 t.kind, .string t.name, .int .i64 t.con, .slice Ag t.fields.length cg, .slice Ah t.list.length ch, .slice A k c] ∧ GrowR D 33 6 (TyN m) wr A c ((t.res.take k).map (Ty.fill f)) ∧
    Chg (fun b t => b = g ∧ t = 33) W wr
set_option maxRecDepth 100000 in
set_option maxHeartbeats 16000000 in
theorem put_step (n m ma B : Nat) (f : ByteArray → Option Ty) (vb : Value) (Pre : World → Prop) (hS : Stays Pre) (hma : ma ≤ m + 1) (hby : ∀ w, Pre w → ByC ma B f vb w) (hCl : (∀ s, f s = none) ∨ CloneC ma B) (IH : PutC n m B f vb Pre) : PutC (n + 1) (m + 1) B f vb Pre := by
  intro w t Af cf Al cl Ar cr hB hPre hT
  obtain ⟨i44, hi44, hz44, hs44, hb44⟩ := info_parts infoField
  obtain ⟨i39, hi39, hz39, hs39, hb39⟩ := info_parts infoType
  obtain ⟨hsm, hFl, hLl, hRl⟩ := TyR.open_ hT
  have hb3 := (Blk.new w 33 #[.int .i64 t.kind, .string t.name, .int .i64 t.con, .slice Af t.fields.length cf, .slice Al t.list.length cl, .slice Ar t.res.length cr]).alloc (.cells #[.int .i64 0, .string ⟨#[]⟩, .int .i64 0, .slice none 0 0, .slice none 0 0, .slice none 0 0] 33)
  have hb6 := Blk.new (w.alloc (.cells #[.int .i64 t.kind, .string t.name, .int .i64 t.con, .slice Af t.fields.length cf, .slice Al t.list.length cl, .slice Ar t.res.length cr] 33)) 33 #[.int .i64 0, .string ⟨#[]⟩, .int .i64 0, .slice none 0 0, .slice none 0 0, .slice none 0 0]
  have hc0 := (chg_alloc w (.cells #[.int .i64 t.kind, .string t.name, .int .i64 t.con, .slice Af t.fields.length cf, .slice Al t.list.length cl, .slice Ar t.res.length cr] 33)).alloc (.cells #[.int .i64 0, .string ⟨#[]⟩, .int .i64 0, .slice none 0 0, .slice none 0 0, .slice none 0 0] 33)
  simp only [World.size_alloc] at hb6
  have HP := Lib.hid (And.intro hB (And.intro hPre (And.intro hS (And.intro hby (And.intro hCl IH)))))
  have HT := Lib.hid (And.intro hFl (And.intro hLl (And.intro hRl hsm)))
  have HH := Lib.hid (And.intro hb3 (And.intro hb6 hc0))
  clear hB hPre hS hby hCl IH hFl hLl hRl hT hb3 hb6 hc0
  by_cases hkd : t.kind = 12
  · have q4 : (t.kind == 12) = true := by simp [hkd]
    have HKD := Lib.hid hkd
    clear hkd
    rcases HP.out.2.2.2.1 ((w.alloc (.cells #[.int .i64 t.kind, .string t.name, .int .i64 t.con, .slice Af t.fields.length cf, .slice Al t.list.length cl, .slice Ar t.res.length cr] 33)).alloc (.cells #[.int .i64 0, .string ⟨#[]⟩, .int .i64 0, .slice none 0 0, .slice none 0 0, .slice none 0 0] 33)) (HP.out.2.2.1 _ _ HH.out.2.2 HP.out.2.1) t.name HT.out.2.2.2.2.2.1 with ⟨hfn, hl⟩ | ⟨u, Ef, ef, El, el, Er, er, hfu, hl, hRu⟩
    · go_enter Tryd.func37, Tryd.ntmps37
      go_wp2_with fail
      have HW := Lib.hid (show ((w.alloc (.cells #[.int .i64 t.kind, .string t.name, .int .i64 t.con, .slice Af t.fields.length cf, .slice Al t.list.length cl, .slice Ar t.res.length cr] 33)).alloc (.cells #[.int .i64 0, .string ⟨#[]⟩, .int .i64 0, .slice none 0 0, .slice none 0 0, .slice none 0 0] 33)).heap.size = w.heap.size + 1 + 1 by simp)
      generalize (w.alloc (.cells #[.int .i64 t.kind, .string t.name, .int .i64 t.con, .slice Af t.fields.length cf, .slice Al t.list.length cl, .slice Ar t.res.length cr] 33)).alloc (.cells #[.int .i64 0, .string ⟨#[]⟩, .int .i64 0, .slice none 0 0, .slice none 0 0, .slice none 0 0] 33) = W0 at HH HW hl ⊢
      generalize hg6 : w.heap.size + 1 = g6 at HH HW ⊢
      generalize hg3 : w.heap.size = g3 at HH ⊢
      have HG := Lib.hid (show g3 = w.heap.size ∧ g6 = g3 + 1 from ⟨hg3.symm, by omega⟩)
      clear hg6 hg3
      obtain ⟨c0, c1, c2, c3, c4, c5⟩ := HH.out.1.cells6
      have HFL := Lib.hid (fill_miss (t := t) (f := f) (by rw [if_pos HKD.out]; exact hfn))
      have hcX : Chg (fun _ _ => False) w (W0.alloc (.cells #[.int .i64 0, .string ⟨#[]⟩, .int .i64 0, .slice none 0 0, .slice none 0 0, .slice none 0 0] 33)) := HH.out.2.2.alloc (.cells #[.int .i64 0, .string ⟨#[]⟩, .int .i64 0, .slice none 0 0, .slice none 0 0, .slice none 0 0] 33)
      have hbX : Blk (W0.alloc (.cells #[.int .i64 0, .string ⟨#[]⟩, .int .i64 0, .slice none 0 0, .slice none 0 0, .slice none 0 0] 33)) g3 33 #[.int .i64 t.kind, .string t.name, .int .i64 t.con, .slice Af t.fields.length cf, .slice Al t.list.length cl, .slice Ar t.res.length cr] := HH.out.1.alloc (.cells #[.int .i64 0, .string ⟨#[]⟩, .int .i64 0, .slice none 0 0, .slice none 0 0, .slice none 0 0] 33)
      have hb6X : Blk (W0.alloc (.cells #[.int .i64 0, .string ⟨#[]⟩, .int .i64 0, .slice none 0 0, .slice none 0 0, .slice none 0 0] 33)) g6 33 #[.int .i64 0, .string ⟨#[]⟩, .int .i64 0, .slice none 0 0, .slice none 0 0, .slice none 0 0] := HH.out.2.1.alloc (.cells #[.int .i64 0, .string ⟨#[]⟩, .int .i64 0, .slice none 0 0, .slice none 0 0, .slice none 0 0] 33)
      have hb3 := hbX.alloc (.cells #[.int .i64 t.kind, .string t.name, .int .i64 t.con, .slice none 0 0, .slice none 0 0, .slice none 0 0] 33)
      have hb6 := hb6X.alloc (.cells #[.int .i64 t.kind, .string t.name, .int .i64 t.con, .slice none 0 0, .slice none 0 0, .slice none 0 0] 33)
      have hb8 := Blk.new (W0.alloc (.cells #[.int .i64 0, .string ⟨#[]⟩, .int .i64 0, .slice none 0 0, .slice none 0 0, .slice none 0 0] 33)) 33 #[.int .i64 t.kind, .string t.name, .int .i64 t.con, .slice none 0 0, .slice none 0 0, .slice none 0 0]
      have hcw := hcX.alloc (.cells #[.int .i64 t.kind, .string t.name, .int .i64 t.con, .slice none 0 0, .slice none 0 0, .slice none 0 0] 33)
      have hs6 := hb6X.lt
      have hsx : (W0.alloc (.cells #[.int .i64 0, .string ⟨#[]⟩, .int .i64 0, .slice none 0 0, .slice none 0 0, .slice none 0 0] 33)).heap.size < ((W0.alloc (.cells #[.int .i64 0, .string ⟨#[]⟩, .int .i64 0, .slice none 0 0, .slice none 0 0, .slice none 0 0] 33)).alloc (.cells #[.int .i64 t.kind, .string t.name, .int .i64 t.con, .slice none 0 0, .slice none 0 0, .slice none 0 0] 33)).heap.size := by simp
      have HX := Lib.hid (And.intro hb3 (And.intro hb6 (And.intro hb8 (And.intro hcw (And.intro hs6 (And.intro hsx (show g3 < g6 ∧ w.heap.size ≤ g6 by have := HG.out; omega)))))))
      clear hcX hbX hb6X hb3 hb6 hb8 hcw hs6 hsx hl hfn
      clear c0 c1 c2 c3 c4 c5 q4
      have HX0 := HX.out
      have hs0 := HW.out
      have hs1 : (W0.alloc (.cells #[.int .i64 0, .string ⟨#[]⟩, .int .i64 0, .slice none 0 0, .slice none 0 0, .slice none 0 0] 33)).heap.size = g6 + 1 + 1 := by rw [World.size_alloc, hs0]
      rw [hs1] at HX0
      clear HX hs0 hs1
      generalize hgW : ((W0.alloc (.cells #[.int .i64 0, .string ⟨#[]⟩, .int .i64 0, .slice none 0 0, .slice none 0 0, .slice none 0 0] 33))).alloc (.cells #[.int .i64 t.kind, .string t.name, .int .i64 t.con, .slice none 0 0, .slice none 0 0, .slice none 0 0] 33) = W1 at HX0 ⊢
      generalize hg8 : g6 + 1 + 1 = g8 at HX0 ⊢
      obtain ⟨hb3, hb6, hb8, hcw, hs6, hsx, hg36⟩ := HX0
      obtain ⟨D1, hD1⟩ : ∃ D, D = W1.heap.size := ⟨_, rfl⟩
      have hl8 := hb8.lt
      have HB := Lib.hid (And.intro hb3 (And.intro hb6 (show g3 < g8 ∧ g6 < g8 from ⟨by omega, by omega⟩)))
      have HD := Lib.hid (show D1 = W1.heap.size ∧ g8 < D1 ∧ w.heap.size ≤ D1 ∧ w.heap.size ≤ g8 ∧ w.heap.size ≤ g6 ∧ g6 < g8 from ⟨hD1, by omega, by omega, by omega, by omega, by omega⟩)
      have HC := Lib.hid hcw
      clear hb3 hb6 hcw hs6 hsx hg36 hD1 hl8 hgW hg8
      go_loopw [34] (fun i wr => putRel1 D1 m g8 f t W1 i wr) (fun i _ => t.fields.length - (intOf i).toNat)
      case atStart => exact ⟨0, none, 0, Nat.zero_le _, rfl, hb8, GrowR.nil _ _ _ _ _, Chg.refl _ _⟩
      case round =>
        clear hb8
        obtain ⟨k, Ag, cg, hk, rfl, hb8, hgr, hch⟩ := hrel
        have hdd := HD.out
        have hcw : Chg (fun _ _ => False) w wr := HC.out.trans_new hch fun b t hb h => by have := h.1; omega
        have hf20 := HT.out.2.2.2.2.2.2.1
        have q3 : IntKind.i64.wrap ((k : Int) + 1) = (k : Int) + 1 := IntWalk.i64_in _ ⟨by omega, by omega⟩
        by_cases hlt : k < t.fields.length
        · have q1 : decide (k < t.fields.length) = true := decide_eq_true hlt
          have q2 : (k : Int) < (t.fields.length : Int) := by omega
          obtain ⟨b, o, nm, x, Xf, xf, Xl, xl, Xr, xr, rfl, hbB, hkx, hnms, hRx, z0, z1, z2, z3, z4, z5, z6⟩ := fld_at (SlR.keep HT.out.1 hcw (no_lets _ _) fun _ _ h => h.imp fun _ _ h => TyR.keep0 hcw h) hlt
          have htl : ((t.fields.take k).map (fillP f)).length = k := by rw [List.length_map, List.length_take]; omega
          have hlt2 : ∀ g, (Value.slice Ag ((t.fields.take k).map (fillP f)).length cg).ownBlock = some g → g < wr.heap.size := fun g h => (hgr.1.lt h).1
          have hDw : D1 ≤ wr.heap.size := by have := hch.size; omega
          have hwg8 := hb8.lt
          have hk20 : k ≤ 1048576 := by omega
          have hca := chg_alloc wr (.cells #[.string nm, .int .i64 x.kind, .string x.name, .int .i64 x.con, .slice Xf x.fields.length xf, .slice Xl x.list.length xl, .slice Xr x.res.length xr] 35)
          have hb9 := Blk.new wr 35 #[.string nm, .int .i64 x.kind, .string x.name, .int .i64 x.con, .slice Xf x.fields.length xf, .slice Xl x.list.length xl, .slice Xr x.res.length xr]
          have hgr := hgr.keep hca (fun _ _ h => h) fun G hG cs p h => fdR_keepR m G _ _ _ hca (fun _ _ _ _ h => h) cs p h
          have hlt4 : ∀ g, (Value.slice Ag ((t.fields.take k).map (fillP f)).length cg).ownBlock = some g → g < (wr.alloc (.cells #[.string nm, .int .i64 x.kind, .string x.name, .int .i64 x.con, .slice Xf x.fields.length xf, .slice Xl x.list.length xl, .slice Xr x.res.length xr] 35)).heap.size := fun g h => (hgr.1.lt h).1
          obtain ⟨⟨xss, how0, x2, x3, x4⟩, hgD⟩ := hgr
          rw [htl] at how0 hlt2 hgD hlt4
          have HR0 := Lib.hid (And.intro how0 (And.intro x2 (And.intro x3 (And.intro x4 (And.intro hgD (And.intro hlt4 hlt2))))))
          have HX0 := Lib.hid (And.intro (hch.trans_le hca fun _ _ _ h => h.elim) (And.intro (hcw.trans hca) (And.intro hkx (And.intro (TyR.keep0 hca hRx) (And.intro (hca.blk hb8 id) (And.intro htl (And.intro (Nat.le_trans hDw hca.size) hnms)))))))
          clear how0 x2 x3 x4 hgD hlt2 hlt4 hch hcw hkx hRx hb8 htl hDw hdd hbB hnms
          go_wp2_with fail
          generalize wr.alloc (.cells #[.string nm, .int .i64 x.kind, .string x.name, .int .i64 x.con, .slice Xf x.fields.length xf, .slice Xl x.list.length xl, .slice Xr x.res.length xr] 35) = W2 at hca hb9 HR0 HX0 ⊢
          generalize wr.heap.size = g9 at hb9 HR0 hwg8 ⊢
          have HR := HR0
          have HX := HX0
          clear HR0 HX0 hca z0 z1 z2 z3 z4 z5 z6
          have s0 : W2.cell? ⟨g8, 3, none⟩ = some (.slice Ag k cg) := by simpa using HX.out.2.2.2.2.1.cell 3
          have s1 : W2.cell? ⟨g9, 0, none⟩ = some (.string nm) := by simpa using hb9.cell 0
          have s2 : W2.cell? ⟨g9, 1, none⟩ = some (.int .i64 x.kind) := by simpa using hb9.cell 1
          have s3 : W2.cell? ⟨g9, 2, none⟩ = some (.string x.name) := by simpa using hb9.cell 2
          have s4 : W2.cell? ⟨g9, 3, none⟩ = some (.int .i64 x.con) := by simpa using hb9.cell 3
          have s5 : W2.cell? ⟨g9, 4, none⟩ = some (.slice Xf x.fields.length xf) := by simpa using hb9.cell 4
          have s6 : W2.cell? ⟨g9, 5, none⟩ = some (.slice Xl x.list.length xl) := by simpa using hb9.cell 5
          have s7 : W2.cell? ⟨g9, 6, none⟩ = some (.slice Xr x.res.length xr) := by simpa using hb9.cell 6
          clear hb9
          have hS0 : W2.drew.cell? ⟨g8, 3, none⟩ = some (.slice Ag k cg) ∧ W2.drew.cell? ⟨g9, 0, none⟩ = some (.string nm) ∧ W2.drew.cell? ⟨g9, 1, none⟩ = some (.int .i64 x.kind) ∧ W2.drew.cell? ⟨g9, 2, none⟩ = some (.string x.name) ∧ W2.drew.cell? ⟨g9, 3, none⟩ = some (.int .i64 x.con) ∧ W2.drew.cell? ⟨g9, 4, none⟩ = some (.slice Xf x.fields.length xf) ∧ W2.drew.cell? ⟨g9, 5, none⟩ = some (.slice Xl x.list.length xl) ∧ W2.drew.cell? ⟨g9, 6, none⟩ = some (.slice Xr x.res.length xr) := ⟨s0, s1, s2, s3, s4, s5, s6, s7⟩
          refine wp_region_G (S := fun w' => w'.cell? ⟨g8, 3, none⟩ = some (.slice Ag k cg) ∧ w'.cell? ⟨g9, 0, none⟩ = some (.string nm) ∧ w'.cell? ⟨g9, 1, none⟩ = some (.int .i64 x.kind) ∧ w'.cell? ⟨g9, 2, none⟩ = some (.string x.name) ∧ w'.cell? ⟨g9, 3, none⟩ = some (.int .i64 x.con) ∧ w'.cell? ⟨g9, 4, none⟩ = some (.slice Xf x.fields.length xf) ∧ w'.cell? ⟨g9, 5, none⟩ = some (.slice Xl x.list.length xl) ∧ w'.cell? ⟨g9, 6, none⟩ = some (.slice Xr x.res.length xr)) 12 (by kernel_rfl) hS0 (fun hHeld => ?_)
          refine wpAnyG_take (i := 0) (v := ?vah11) rfl (by kernel_rfl) (fun _ _ _ h => h) (Or.inl ⟨by rfl, ?hyh11⟩) (by assumption) ?rah11
          case hyh11 => (intro w hSw; (try dsimp only at hSw); go_simp; all_goals (with_reducible rfl))
          simp only [Act.put, List.setIfInBounds_toArray, List.set_cons_zero, List.set_cons_succ]
          refine wpAnyG_take (i := 1) (v := ?vah12) rfl (by kernel_rfl) (fun _ _ _ h => h) (Or.inl ⟨by rfl, ?hyh12⟩) (by assumption) ?rah12
          case hyh12 => (intro w hSw; (try dsimp only at hSw); go_simp; all_goals (with_reducible rfl))
          simp only [Act.put, List.setIfInBounds_toArray, List.set_cons_zero, List.set_cons_succ]
          refine wpAnyG_take (i := 2) (v := ?vah13) rfl (by kernel_rfl) (fun _ _ _ h => h) (Or.inl ⟨by rfl, ?hyh13⟩) (by assumption) ?rah13
          case hyh13 => (intro w hSw; (try dsimp only at hSw); go_simp; all_goals (with_reducible rfl))
          simp only [Act.put, List.setIfInBounds_toArray, List.set_cons_zero, List.set_cons_succ]
          refine wpAnyG_take (i := 3) (v := ?vah14) rfl (by kernel_rfl) (fun _ _ _ h => h) (Or.inl ⟨by rfl, ?hyh14⟩) (by assumption) ?rah14
          case hyh14 => (intro w hSw; (try dsimp only at hSw); go_simp; all_goals (with_reducible rfl))
          simp only [Act.put, List.setIfInBounds_toArray, List.set_cons_zero, List.set_cons_succ]
          refine wpAnyG_take (i := 4) (v := ?vah15) rfl (by kernel_rfl) (fun _ _ _ h => h) (Or.inl ⟨by rfl, ?hyh15⟩) (by assumption) ?rah15
          case hyh15 => (intro w hSw; (try dsimp only at hSw); go_simp; all_goals (with_reducible rfl))
          simp only [Act.put, List.setIfInBounds_toArray, List.set_cons_zero, List.set_cons_succ]
          refine wpAnyG_take (i := 5) (v := ?vah16) rfl (by kernel_rfl) (fun _ _ _ h => h) (Or.inl ⟨by rfl, ?hyh16⟩) (by assumption) ?rah16
          case hyh16 => (intro w hSw; (try dsimp only at hSw); go_simp; all_goals (with_reducible rfl))
          simp only [Act.put, List.setIfInBounds_toArray, List.set_cons_zero, List.set_cons_succ]
          refine wpAnyG_take (i := 6) (v := ?vah17) rfl (by kernel_rfl) (fun _ _ _ h => h) (Or.inl ⟨by rfl, ?hyh17⟩) (by assumption) ?rah17
          case hyh17 => (intro w hSw; (try dsimp only at hSw); go_simp; all_goals (with_reducible rfl))
          simp only [Act.put, List.setIfInBounds_toArray, List.set_cons_zero, List.set_cons_succ]
          refine wpAnyG_ready (rs := [7]) (by kernel_rfl) (by simp) ?_
          refine AllReadyG.cons rfl (fun K hK => ?_) AllReadyG.nil
          go_simp
          go_at_call 37
          refine (HP.out.2.2.2.2.2 W2.drew x Xf xf Xl xl Xr xr (Nat.le_trans HP.out.1 HX.out.2.1.drew.size) (HP.out.2.2.1 _ _ HX.out.2.1.drew HP.out.2.1) (TyR.keep0 ((Chg.refl (fun _ _ => False) W2).drew) HX.out.2.2.2.1)).mono ?_
          rintro e w7 ⟨Bf, bf, Bl, bl, Br, br, rfl, hN, hc7⟩
          generalize hu : x.fill f = u at hN ⊢
          have hc7' : Chg (fun _ _ => False) W2 w7 := hc7.drewl
          have v0 := hc7'.cell s0 fun _ => id
          have v1 := hc7'.cell s1 fun _ => id
          have v2 := hc7'.cell s2 fun _ => id
          have v3 := hc7'.cell s3 fun _ => id
          have v4 := hc7'.cell s4 fun _ => id
          have v5 := hc7'.cell s5 fun _ => id
          have v6 := hc7'.cell s6 fun _ => id
          have v7 := hc7'.cell s7 fun _ => id
          have r0 := fun ob => (chg_alloc w7 ob).cell v0 fun _ => id
          have r1 := fun ob => (chg_alloc w7 ob).cell v1 fun _ => id
          have r2 := fun ob => (chg_alloc w7 ob).cell v2 fun _ => id
          have r3 := fun ob => (chg_alloc w7 ob).cell v3 fun _ => id
          have r4 := fun ob => (chg_alloc w7 ob).cell v4 fun _ => id
          have r5 := fun ob => (chg_alloc w7 ob).cell v5 fun _ => id
          have r6 := fun ob => (chg_alloc w7 ob).cell v6 fun _ => id
          have r7 := fun ob => (chg_alloc w7 ob).cell v7 fun _ => id
          have HN := Lib.hid (And.intro hN (And.intro hc7' hu))
          clear hN hc7 hc7' hu
          refine hK.out _ _ ⟨v0, v1, v2, v3, v4, v5, v6, v7⟩ (fun hHeld => ?_)
          clear hK K
          try simp only [Act.put, List.setIfInBounds_toArray, List.set_cons_zero, List.set_cons_succ]
          refine wpAnyG_take (i := 8) (v := ?vah18) rfl (by kernel_rfl) (fun _ _ _ h => h) (Or.inl ⟨by rfl, ?hyh18⟩) (by assumption) ?rah18
          case hyh18 => (intro w hSw; (try dsimp only at hSw); go_simp; all_goals (with_reducible rfl))
          simp only [Act.put, List.setIfInBounds_toArray, List.set_cons_zero, List.set_cons_succ]
          refine wpAnyG_ready (rs := [9]) (by kernel_rfl) (by simp) ?_
          refine AllReadyG.cons rfl (fun K hK => ?_) AllReadyG.nil
          go_simp
          refine hK.out _ _ ⟨r0 _, r1 _, r2 _, r3 _, r4 _, r5 _, r6 _, r7 _⟩ (fun hHeld => ?_)
          clear hK K
          try simp only [Act.put, List.setIfInBounds_toArray, List.set_cons_zero, List.set_cons_succ]
          refine wpAnyG_ready (rs := [10]) (by kernel_rfl) (by simp) ?_
          refine AllReadyG.cons rfl (fun K hK => ?_) AllReadyG.nil
          refine step_append_blk _ rfl (.tmp 39) (.tmp 47) 31 rfl 0 35 i44 _ 7 120 Tryd.underlying31 hi44 hz44 hs44 hb44 rfl (by omega) Ag k cg xss.flatten (by first | rfl | simp [Act.eval, Act.put]) (Chg.own (M := fun _ _ => False) (HN.out.2.1.trans (by repeat' (first | exact Chg.refl (fun _ _ => False) _ | apply Chg.drew | apply Chg.drewN | apply Chg.alloc))) HR.out.1 fun _ _ => id) 1 1 [.string nm, .int .i64 u.kind, .string u.name, .int .i64 u.con, .slice Bf u.fields.length bf, .slice Bl u.list.length bl, .slice Br u.res.length br] w7.heap.size (by first | rfl | simp [Act.eval, Act.put]) (by first | exact Blk.new _ _ _ | exact (Blk.new _ _ _).drew) rfl (one_fld _ _ _ _ _ _ _ _ _ _ _ _ _) (by simp only [maxLen]; omega) (by omega) (Nat.zero_le _) ?_
          intro A6 c6 w8 hown6 hg6 hp6
          obtain ⟨hN, hc7, hu⟩ := HN.out
          obtain ⟨how0, x2, x3, x4, hgD, hlt2, hlt3⟩ := HR.out
          obtain ⟨hch, hcw, hkx, hRx, hb8, htl, hDw, hnms⟩ := HX.out
          have hpush := GrowR.push (x := (nm, u)) (cs := ([.string nm] ++ tyCells u.kind u.name u.con Bf u.fields.length bf Bl u.list.length bl Br u.res.length br)) (fdR_keepR m) (fdR_subR m) x2 x3 x4 (by rw [htl]; exact hgD) hDw hc7 (by rw [htl]; exact hc7.own how0 fun _ _ => id) (by rw [htl]; exact hlt2) ⟨_, rfl, hnms, hN⟩ rfl (by rw [htl]; exact ⟨hown6, hg6, hp6⟩)
          have hch8 := hpush.2
          rw [htl] at hch8
          have hdd := HD.out
          have hno8 : ∀ t, ¬ ((Value.slice Ag k cg).ownBlock = some g8 ∧ t = 35) := fun t h => by have := hgD g8 h.1; omega
          have hno9 : ∀ t, ¬ ((Value.slice Ag k cg).ownBlock = some g9 ∧ t = 35) := fun t h => by have := hlt3 g9 h.1; omega
          clear hdd
          have f0 := hch8.cell v0 hno8
          have f1 := hch8.cell v1 hno9
          have f2 := hch8.cell v2 hno9
          have f3 := hch8.cell v3 hno9
          have f4 := hch8.cell v4 hno9
          have f5 := hch8.cell v5 hno9
          have f6 := hch8.cell v6 hno9
          have f7 := hch8.cell v7 hno9
          have hb88 := hch8.blk (hc7.blk hb8 id) (hno8 _)
          have fz := hb88.frozen 3
          have HZ := Lib.hid (And.intro hpush.1 (And.intro hch8 (And.intro hb88 hu)))
          clear hN hc7 hu how0 x2 x3 x4 hgD hlt2 hlt3 hch hcw hkx hRx hb8 htl hDw hpush hch8 hno8 hno9 hb88 hown6 hg6 hp6
          refine hK.out _ _ ⟨f0, f1, f2, f3, f4, f5, f6, f7⟩ (fun hHeld => ?_)
          clear hK K
          try simp only [Act.put, List.setIfInBounds_toArray, List.set_cons_zero, List.set_cons_succ]
          refine wpAnyG_take (i := 11) (v := ?vah19) rfl (by kernel_rfl) (fun _ _ _ h => h) (Or.inl ⟨by rfl, ?hyh19⟩) (by assumption) ?rah19
          case hyh19 => (intro w hSw; (try dsimp only at hSw); go_simp; all_goals (with_reducible rfl))
          simp only [Act.put, List.setIfInBounds_toArray, List.set_cons_zero, List.set_cons_succ]
          refine wpAnyG_last rfl (by kernel_rfl) (by kernel_rfl) (fun K hK => ?_)
          go_simp
          refine hK.out _ _ ?_
          clear hK K
          try simp only [Act.put, List.setIfInBounds_toArray, List.set_cons_zero, List.set_cons_succ]
          clear hHeld hS0 fz s0 s1 s2 s3 s4 s5 s6 s7 v0 v1 v2 v3 v4 v5 v6 v7 r0 r1 r2 r3 r4 r5 r6 r7 f0 f1 f2 f3 f4 f5 f6 f7
          go_wp2_with fail
          go_roundw
          case rel =>
            obtain ⟨hg, hch8, hb88, hu⟩ := HZ.out
            obtain ⟨hch, hcw, hkx, hRx, hb8, htl, hDw, hnms⟩ := HX.out
            obtain ⟨_, hc7, _⟩ := HN.out
            have hgD := HR.out.2.2.2.2.1
            have hdd := HD.out
            have hset := chg_set (j := 3) hb88 (.slice A6 (k + 1) c6)
            have htk : (t.fields.take (k + 1)).map (fillP f) = (t.fields.take k).map (fillP f) ++ [(nm, u)] := by
              obtain ⟨h1, h2⟩ := List.getElem?_eq_some_iff.1 hkx
              rw [List.take_succ_eq_append_getElem h1, h2]
              simp [fillP, hu]
            refine ⟨k + 1, A6, c6, hlt, by simp, by simpa using hb88.set_ 3 (.slice A6 (k + 1) c6), ?_, ?_⟩
            · rw [htk]
              exact hg.keep hset (fun b hbD h => by have := h.1; omega) fun G hG cs p h => fdR_keepR m G _ _ _ hset (fun b t hb _ h => by have := hG b hb; have := h.1; omega) cs p h
            · exact ((hch.trans_le hc7 fun _ _ _ h => h.elim).trans_le hch8 fun b t hb h => by have := hgD b h.1; omega).trans_le hset fun b t _ h => h
          case measure => simp [intOf]; omega
        · have q1 : decide (k < t.fields.length) = false := decide_eq_false hlt
          obtain rfl : k = t.fields.length := by omega
          have hgn := hgr.rowG fun G G' hG cs x h => fdR_subR m G G' wr hG cs x h
          rw [List.take_length] at hgn
          have hb3b := hch.blk HB.out.1 (fun h => by have := h.1; have := HB.out.2.2; omega)
          have hb6b := hch.blk HB.out.2.1 (fun h => by have := h.1; have := HB.out.2.2; omega)
          have hlt8 := hb8.lt
          have hsz := hch.size
          have HG1 := Lib.hid hgn
          rename World => W2a
          obtain ⟨D2, hDn⟩ : ∃ D, D = W2a.heap.size := ⟨_, rfl⟩
          have HBn := Lib.hid (And.intro hb3b (And.intro hb6b HB.out.2.2))
          have HDn := Lib.hid (show D2 = W2a.heap.size ∧ g8 < D2 ∧ w.heap.size ≤ D2 ∧ w.heap.size ≤ g8 ∧ w.heap.size ≤ g6 ∧ g6 < g8 from ⟨hDn, by omega, by omega, hdd.2.2.2.1, hdd.2.2.2.2.1, hdd.2.2.2.2.2⟩)
          have HD1 := HD
          clear HB HC HD
          have HB := HBn
          have HD := HDn
          have HC := Lib.hid hcw
          obtain ⟨c0, c1, c2, c3, c4, c5⟩ := hb3b.cells6
          clear hgr hgn hch hcw hb3b hb6b hsz hDn hdd hf20 HBn HDn hlt8
          go_wp2_with fail
          clear c0 c1 c2 c3 c4 c5 q1 q3 hlt hk
          go_loopw [54] (fun i wr => putRel2 D2 m g8 f t Ag cg W2a i wr) (fun i _ => t.list.length - (intOf i).toNat)
          case atStart => exact ⟨0, none, 0, Nat.zero_le _, rfl, hb8, GrowR.nil _ _ _ _ _, Chg.refl _ _⟩
          case round =>
            clear hb8
            obtain ⟨k, Ai, ci, hk, rfl, hb8, hgr, hch⟩ := hrel
            have hdd := HD.out
            have hcw : Chg (fun _ _ => False) w wr := HC.out.trans_new hch fun b t hb h => by have := h.1; omega
            have hf20 := HT.out.2.2.2.2.2.2.2.1
            have q3 : IntKind.i64.wrap ((k : Int) + 1) = (k : Int) + 1 := IntWalk.i64_in _ ⟨by omega, by omega⟩
            by_cases hlt : k < t.list.length
            · have q1 : decide (k < t.list.length) = true := decide_eq_true hlt
              have q2 : (k : Int) < (t.list.length : Int) := by omega
              obtain ⟨b, o, x, Xf, xf, Xl, xl, Xr, xr, rfl, hkx, hRx, z0, z1, z2, z3, z4, z5⟩ := TysR.at_ (TysR.keep0 hcw HT.out.2.1) hlt
              have htl : ((t.list.take k).map (Ty.fill f)).length = k := by rw [List.length_map, List.length_take]; omega
              have hlt2 : ∀ g, (Value.slice Ai ((t.list.take k).map (Ty.fill f)).length ci).ownBlock = some g → g < wr.heap.size := fun g h => (hgr.1.lt h).1
              have hDw : D2 ≤ wr.heap.size := by have := hch.size; omega
              have hwg8 := hb8.lt
              have hk20 : k ≤ 1048576 := by omega
              have hca := chg_alloc wr (.cells #[.int .i64 x.kind, .string x.name, .int .i64 x.con, .slice Xf x.fields.length xf, .slice Xl x.list.length xl, .slice Xr x.res.length xr] 33)
              have hb9 := Blk.new wr 33 #[.int .i64 x.kind, .string x.name, .int .i64 x.con, .slice Xf x.fields.length xf, .slice Xl x.list.length xl, .slice Xr x.res.length xr]
              have hgr := hgr.keep hca (fun _ _ h => h) fun G hG cs p h => tyN_keepR m G _ _ _ hca (fun _ _ _ _ h => h) cs p h
              have hlt4 : ∀ g, (Value.slice Ai ((t.list.take k).map (Ty.fill f)).length ci).ownBlock = some g → g < (wr.alloc (.cells #[.int .i64 x.kind, .string x.name, .int .i64 x.con, .slice Xf x.fields.length xf, .slice Xl x.list.length xl, .slice Xr x.res.length xr] 33)).heap.size := fun g h => (hgr.1.lt h).1
              obtain ⟨⟨xss, how0, x2, x3, x4⟩, hgD⟩ := hgr
              rw [htl] at how0 hlt2 hgD hlt4
              have HR0 := Lib.hid (And.intro how0 (And.intro x2 (And.intro x3 (And.intro x4 (And.intro hgD (And.intro hlt4 hlt2))))))
              have HX0 := Lib.hid (And.intro (hch.trans_le hca fun _ _ _ h => h.elim) (And.intro (hcw.trans hca) (And.intro hkx (And.intro (TyR.keep0 hca hRx) (And.intro (hca.blk hb8 id) (And.intro htl (And.intro (Nat.le_trans hDw hca.size) trivial)))))))
              clear how0 x2 x3 x4 hgD hlt2 hlt4 hch hcw hkx hRx hb8 htl hDw hdd
              go_wp2_with fail
              generalize wr.alloc (.cells #[.int .i64 x.kind, .string x.name, .int .i64 x.con, .slice Xf x.fields.length xf, .slice Xl x.list.length xl, .slice Xr x.res.length xr] 33) = W2 at hca hb9 HR0 HX0 ⊢
              generalize wr.heap.size = g9 at hb9 HR0 hwg8 ⊢
              have HR := HR0
              have HX := HX0
              clear HR0 HX0 hca z0 z1 z2 z3 z4 z5
              have s0 : W2.cell? ⟨g8, 4, none⟩ = some (.slice Ai k ci) := by simpa using HX.out.2.2.2.2.1.cell 4
              have s1 : W2.cell? ⟨g9, 0, none⟩ = some (.int .i64 x.kind) := by simpa using hb9.cell 0
              have s2 : W2.cell? ⟨g9, 1, none⟩ = some (.string x.name) := by simpa using hb9.cell 1
              have s3 : W2.cell? ⟨g9, 2, none⟩ = some (.int .i64 x.con) := by simpa using hb9.cell 2
              have s4 : W2.cell? ⟨g9, 3, none⟩ = some (.slice Xf x.fields.length xf) := by simpa using hb9.cell 3
              have s5 : W2.cell? ⟨g9, 4, none⟩ = some (.slice Xl x.list.length xl) := by simpa using hb9.cell 4
              have s6 : W2.cell? ⟨g9, 5, none⟩ = some (.slice Xr x.res.length xr) := by simpa using hb9.cell 5
              clear hb9
              have hS0 : W2.drew.cell? ⟨g8, 4, none⟩ = some (.slice Ai k ci) ∧ W2.drew.cell? ⟨g9, 0, none⟩ = some (.int .i64 x.kind) ∧ W2.drew.cell? ⟨g9, 1, none⟩ = some (.string x.name) ∧ W2.drew.cell? ⟨g9, 2, none⟩ = some (.int .i64 x.con) ∧ W2.drew.cell? ⟨g9, 3, none⟩ = some (.slice Xf x.fields.length xf) ∧ W2.drew.cell? ⟨g9, 4, none⟩ = some (.slice Xl x.list.length xl) ∧ W2.drew.cell? ⟨g9, 5, none⟩ = some (.slice Xr x.res.length xr) := ⟨s0, s1, s2, s3, s4, s5, s6⟩
              refine wp_region_G (S := fun w' => w'.cell? ⟨g8, 4, none⟩ = some (.slice Ai k ci) ∧ w'.cell? ⟨g9, 0, none⟩ = some (.int .i64 x.kind) ∧ w'.cell? ⟨g9, 1, none⟩ = some (.string x.name) ∧ w'.cell? ⟨g9, 2, none⟩ = some (.int .i64 x.con) ∧ w'.cell? ⟨g9, 3, none⟩ = some (.slice Xf x.fields.length xf) ∧ w'.cell? ⟨g9, 4, none⟩ = some (.slice Xl x.list.length xl) ∧ w'.cell? ⟨g9, 5, none⟩ = some (.slice Xr x.res.length xr)) 8 (by kernel_rfl) hS0 (fun hHeld => ?_)
              refine wpAnyG_take (i := 0) (v := ?vah21) rfl (by kernel_rfl) (fun _ _ _ h => h) (Or.inl ⟨by rfl, ?hyh21⟩) (by assumption) ?rah21
              case hyh21 => (intro w hSw; (try dsimp only at hSw); go_simp; all_goals (with_reducible rfl))
              simp only [Act.put, List.setIfInBounds_toArray, List.set_cons_zero, List.set_cons_succ]
              refine wpAnyG_take (i := 1) (v := ?vah22) rfl (by kernel_rfl) (fun _ _ _ h => h) (Or.inl ⟨by rfl, ?hyh22⟩) (by assumption) ?rah22
              case hyh22 => (intro w hSw; (try dsimp only at hSw); go_simp; all_goals (with_reducible rfl))
              simp only [Act.put, List.setIfInBounds_toArray, List.set_cons_zero, List.set_cons_succ]
              refine wpAnyG_take (i := 2) (v := ?vah23) rfl (by kernel_rfl) (fun _ _ _ h => h) (Or.inl ⟨by rfl, ?hyh23⟩) (by assumption) ?rah23
              case hyh23 => (intro w hSw; (try dsimp only at hSw); go_simp; all_goals (with_reducible rfl))
              simp only [Act.put, List.setIfInBounds_toArray, List.set_cons_zero, List.set_cons_succ]
              refine wpAnyG_take (i := 3) (v := ?vah24) rfl (by kernel_rfl) (fun _ _ _ h => h) (Or.inl ⟨by rfl, ?hyh24⟩) (by assumption) ?rah24
              case hyh24 => (intro w hSw; (try dsimp only at hSw); go_simp; all_goals (with_reducible rfl))
              simp only [Act.put, List.setIfInBounds_toArray, List.set_cons_zero, List.set_cons_succ]
              refine wpAnyG_ready (rs := [4]) (by kernel_rfl) (by simp) ?_
              refine AllReadyG.cons rfl (fun K hK => ?_) AllReadyG.nil
              go_simp
              go_at_call 37
              refine (HP.out.2.2.2.2.2 W2.drew x Xf xf Xl xl Xr xr (Nat.le_trans HP.out.1 HX.out.2.1.drew.size) (HP.out.2.2.1 _ _ HX.out.2.1.drew HP.out.2.1) (TyR.keep0 ((Chg.refl (fun _ _ => False) W2).drew) HX.out.2.2.2.1)).mono ?_
              rintro e w7 ⟨Bf, bf, Bl, bl, Br, br, rfl, hN, hc7⟩
              generalize hu : x.fill f = u at hN ⊢
              have hc7' : Chg (fun _ _ => False) W2 w7 := hc7.drewl
              have v0 := hc7'.cell s0 fun _ => id
              have v1 := hc7'.cell s1 fun _ => id
              have v2 := hc7'.cell s2 fun _ => id
              have v3 := hc7'.cell s3 fun _ => id
              have v4 := hc7'.cell s4 fun _ => id
              have v5 := hc7'.cell s5 fun _ => id
              have v6 := hc7'.cell s6 fun _ => id
              have r0 := fun ob => (chg_alloc w7 ob).cell v0 fun _ => id
              have r1 := fun ob => (chg_alloc w7 ob).cell v1 fun _ => id
              have r2 := fun ob => (chg_alloc w7 ob).cell v2 fun _ => id
              have r3 := fun ob => (chg_alloc w7 ob).cell v3 fun _ => id
              have r4 := fun ob => (chg_alloc w7 ob).cell v4 fun _ => id
              have r5 := fun ob => (chg_alloc w7 ob).cell v5 fun _ => id
              have r6 := fun ob => (chg_alloc w7 ob).cell v6 fun _ => id
              have HN := Lib.hid (And.intro hN (And.intro hc7' hu))
              clear hN hc7 hc7' hu
              refine hK.out _ _ ⟨v0, v1, v2, v3, v4, v5, v6⟩ (fun hHeld => ?_)
              clear hK K
              try simp only [Act.put, List.setIfInBounds_toArray, List.set_cons_zero, List.set_cons_succ]
              refine wpAnyG_ready (rs := [5]) (by kernel_rfl) (by simp) ?_
              refine AllReadyG.cons rfl (fun K hK => ?_) AllReadyG.nil
              go_simp
              refine hK.out _ _ ⟨r0 _, r1 _, r2 _, r3 _, r4 _, r5 _, r6 _⟩ (fun hHeld => ?_)
              clear hK K
              try simp only [Act.put, List.setIfInBounds_toArray, List.set_cons_zero, List.set_cons_succ]
              refine wpAnyG_ready (rs := [6]) (by kernel_rfl) (by simp) ?_
              refine AllReadyG.cons rfl (fun K hK => ?_) AllReadyG.nil
              refine step_append_blk _ rfl (.tmp 59) (.tmp 63) 23 rfl 0 33 i39 _ 6 104 Tryd.underlying23 hi39 hz39 hs39 hb39 rfl (by omega) Ai k ci xss.flatten (by first | rfl | simp [Act.eval, Act.put]) (Chg.own (M := fun _ _ => False) (HN.out.2.1.trans (by repeat' (first | exact Chg.refl (fun _ _ => False) _ | apply Chg.drew | apply Chg.drewN | apply Chg.alloc))) HR.out.1 fun _ _ => id) 1 1 [.int .i64 u.kind, .string u.name, .int .i64 u.con, .slice Bf u.fields.length bf, .slice Bl u.list.length bl, .slice Br u.res.length br] w7.heap.size (by first | rfl | simp [Act.eval, Act.put]) (by first | exact Blk.new _ _ _ | exact (Blk.new _ _ _).drew) rfl (one_ty _ _ _ _ _ _ _ _ _ _ _ _) (by simp only [maxLen]; omega) (by omega) (Nat.zero_le _) ?_
              intro A6 c6 w8 hown6 hg6 hp6
              obtain ⟨hN, hc7, hu⟩ := HN.out
              obtain ⟨how0, x2, x3, x4, hgD, hlt2, hlt3⟩ := HR.out
              obtain ⟨hch, hcw, hkx, hRx, hb8, htl, hDw, hnms⟩ := HX.out
              have hpush := GrowR.push (x := u) (cs := (tyCells u.kind u.name u.con Bf u.fields.length bf Bl u.list.length bl Br u.res.length br)) (tyN_keepR m) (tyN_subR m) x2 x3 x4 (by rw [htl]; exact hgD) hDw hc7 (by rw [htl]; exact hc7.own how0 fun _ _ => id) (by rw [htl]; exact hlt2) hN rfl (by rw [htl]; exact ⟨hown6, hg6, hp6⟩)
              have hch8 := hpush.2
              rw [htl] at hch8
              have hdd := HD.out
              have hno8 : ∀ t, ¬ ((Value.slice Ai k ci).ownBlock = some g8 ∧ t = 33) := fun t h => by have := hgD g8 h.1; omega
              have hno9 : ∀ t, ¬ ((Value.slice Ai k ci).ownBlock = some g9 ∧ t = 33) := fun t h => by have := hlt3 g9 h.1; omega
              clear hdd
              have f0 := hch8.cell v0 hno8
              have f1 := hch8.cell v1 hno9
              have f2 := hch8.cell v2 hno9
              have f3 := hch8.cell v3 hno9
              have f4 := hch8.cell v4 hno9
              have f5 := hch8.cell v5 hno9
              have f6 := hch8.cell v6 hno9
              have hb88 := hch8.blk (hc7.blk hb8 id) (hno8 _)
              have fz := hb88.frozen 4
              have HZ := Lib.hid (And.intro hpush.1 (And.intro hch8 (And.intro hb88 hu)))
              clear hN hc7 hu how0 x2 x3 x4 hgD hlt2 hlt3 hch hcw hkx hRx hb8 htl hDw hpush hch8 hno8 hno9 hb88 hown6 hg6 hp6
              refine hK.out _ _ ⟨f0, f1, f2, f3, f4, f5, f6⟩ (fun hHeld => ?_)
              clear hK K
              try simp only [Act.put, List.setIfInBounds_toArray, List.set_cons_zero, List.set_cons_succ]
              refine wpAnyG_take (i := 7) (v := ?vah25) rfl (by kernel_rfl) (fun _ _ _ h => h) (Or.inl ⟨by rfl, ?hyh25⟩) (by assumption) ?rah25
              case hyh25 => (intro w hSw; (try dsimp only at hSw); go_simp; all_goals (with_reducible rfl))
              simp only [Act.put, List.setIfInBounds_toArray, List.set_cons_zero, List.set_cons_succ]
              refine wpAnyG_last rfl (by kernel_rfl) (by kernel_rfl) (fun K hK => ?_)
              go_simp
              refine hK.out _ _ ?_
              clear hK K
              try simp only [Act.put, List.setIfInBounds_toArray, List.set_cons_zero, List.set_cons_succ]
              clear hHeld hS0 fz s0 s1 s2 s3 s4 s5 s6 v0 v1 v2 v3 v4 v5 v6 r0 r1 r2 r3 r4 r5 r6 f0 f1 f2 f3 f4 f5 f6
              go_wp2_with fail
              go_roundw
              case rel =>
                obtain ⟨hg, hch8, hb88, hu⟩ := HZ.out
                obtain ⟨hch, hcw, hkx, hRx, hb8, htl, hDw, hnms⟩ := HX.out
                obtain ⟨_, hc7, _⟩ := HN.out
                have hgD := HR.out.2.2.2.2.1
                have hdd := HD.out
                have hset := chg_set (j := 4) hb88 (.slice A6 (k + 1) c6)
                have htk : (t.list.take (k + 1)).map (Ty.fill f) = (t.list.take k).map (Ty.fill f) ++ [u] := by
                  obtain ⟨h1, h2⟩ := List.getElem?_eq_some_iff.1 hkx
                  rw [List.take_succ_eq_append_getElem h1, h2]
                  simp [fillP, hu]
                refine ⟨k + 1, A6, c6, hlt, by simp, by simpa using hb88.set_ 4 (.slice A6 (k + 1) c6), ?_, ?_⟩
                · rw [htk]
                  exact hg.keep hset (fun b hbD h => by have := h.1; omega) fun G hG cs p h => tyN_keepR m G _ _ _ hset (fun b t hb _ h => by have := hG b hb; have := h.1; omega) cs p h
                · exact ((hch.trans_le hc7 fun _ _ _ h => h.elim).trans_le hch8 fun b t hb h => by have := hgD b h.1; omega).trans_le hset fun b t _ h => h
              case measure => simp [intOf]; omega
            · have q1 : decide (k < t.list.length) = false := decide_eq_false hlt
              obtain rfl : k = t.list.length := by omega
              have hgn := hgr.rowG fun G G' hG cs x h => tyN_subR m G G' wr hG cs x h
              rw [List.take_length] at hgn
              have hb3b := hch.blk HB.out.1 (fun h => by have := h.1; have := HB.out.2.2; omega)
              have hb6b := hch.blk HB.out.2.1 (fun h => by have := h.1; have := HB.out.2.2; omega)
              have hlt8 := hb8.lt
              have hsz := hch.size
              have HGa := Lib.hid (HG1.out.keep hch (fun b hb h => absurd h.2 (by decide)) fun cs p h => fdR_keepR m _ _ _ _ hch (fun b t hb _ h => by have h1 : D1 ≤ b := hb; have := h.1; have := HD1.out; omega) cs p h)
              clear HG1
              have HG1 := HGa
              clear HGa
              have HG2 := Lib.hid hgn
              rename World => W3a
              obtain ⟨D3, hDn⟩ : ∃ D, D = W3a.heap.size := ⟨_, rfl⟩
              have HBn := Lib.hid (And.intro hb3b (And.intro hb6b HB.out.2.2))
              have HDn := Lib.hid (show D3 = W3a.heap.size ∧ g8 < D3 ∧ w.heap.size ≤ D3 ∧ w.heap.size ≤ g8 ∧ w.heap.size ≤ g6 ∧ g6 < g8 from ⟨hDn, by omega, by omega, hdd.2.2.2.1, hdd.2.2.2.2.1, hdd.2.2.2.2.2⟩)
              have HD2 := HD
              clear HB HC HD
              have HB := HBn
              have HD := HDn
              have HC := Lib.hid hcw
              obtain ⟨c0, c1, c2, c3, c4, c5⟩ := hb3b.cells6
              clear hgr hgn hch hcw hb3b hb6b hsz hDn hdd hf20 HBn HDn hlt8
              go_wp2_with fail
              clear c0 c1 c2 c3 c4 c5 q1 q3 hlt hk
              go_loopw [70] (fun i wr => putRel3 D3 m g8 f t Ag cg Ai ci W3a i wr) (fun i _ => t.res.length - (intOf i).toNat)
              case atStart => exact ⟨0, none, 0, Nat.zero_le _, rfl, hb8, GrowR.nil _ _ _ _ _, Chg.refl _ _⟩
              case round =>
                clear hb8
                obtain ⟨k, Ah, ch, hk, rfl, hb8, hgr, hch⟩ := hrel
                have hdd := HD.out
                have hcw : Chg (fun _ _ => False) w wr := HC.out.trans_new hch fun b t hb h => by have := h.1; omega
                have hf20 := HT.out.2.2.2.2.2.2.2.2
                have q3 : IntKind.i64.wrap ((k : Int) + 1) = (k : Int) + 1 := IntWalk.i64_in _ ⟨by omega, by omega⟩
                by_cases hlt : k < t.res.length
                · have q1 : decide (k < t.res.length) = true := decide_eq_true hlt
                  have q2 : (k : Int) < (t.res.length : Int) := by omega
                  obtain ⟨b, o, x, Xf, xf, Xl, xl, Xr, xr, rfl, hkx, hRx, z0, z1, z2, z3, z4, z5⟩ := TysR.at_ (TysR.keep0 hcw HT.out.2.2.1) hlt
                  have htl : ((t.res.take k).map (Ty.fill f)).length = k := by rw [List.length_map, List.length_take]; omega
                  have hlt2 : ∀ g, (Value.slice Ah ((t.res.take k).map (Ty.fill f)).length ch).ownBlock = some g → g < wr.heap.size := fun g h => (hgr.1.lt h).1
                  have hDw : D3 ≤ wr.heap.size := by have := hch.size; omega
                  have hwg8 := hb8.lt
                  have hk20 : k ≤ 1048576 := by omega
                  have hca := chg_alloc wr (.cells #[.int .i64 x.kind, .string x.name, .int .i64 x.con, .slice Xf x.fields.length xf, .slice Xl x.list.length xl, .slice Xr x.res.length xr] 33)
                  have hb9 := Blk.new wr 33 #[.int .i64 x.kind, .string x.name, .int .i64 x.con, .slice Xf x.fields.length xf, .slice Xl x.list.length xl, .slice Xr x.res.length xr]
                  have hgr := hgr.keep hca (fun _ _ h => h) fun G hG cs p h => tyN_keepR m G _ _ _ hca (fun _ _ _ _ h => h) cs p h
                  have hlt4 : ∀ g, (Value.slice Ah ((t.res.take k).map (Ty.fill f)).length ch).ownBlock = some g → g < (wr.alloc (.cells #[.int .i64 x.kind, .string x.name, .int .i64 x.con, .slice Xf x.fields.length xf, .slice Xl x.list.length xl, .slice Xr x.res.length xr] 33)).heap.size := fun g h => (hgr.1.lt h).1
                  obtain ⟨⟨xss, how0, x2, x3, x4⟩, hgD⟩ := hgr
                  rw [htl] at how0 hlt2 hgD hlt4
                  have HR0 := Lib.hid (And.intro how0 (And.intro x2 (And.intro x3 (And.intro x4 (And.intro hgD (And.intro hlt4 hlt2))))))
                  have HX0 := Lib.hid (And.intro (hch.trans_le hca fun _ _ _ h => h.elim) (And.intro (hcw.trans hca) (And.intro hkx (And.intro (TyR.keep0 hca hRx) (And.intro (hca.blk hb8 id) (And.intro htl (And.intro (Nat.le_trans hDw hca.size) trivial)))))))
                  clear how0 x2 x3 x4 hgD hlt2 hlt4 hch hcw hkx hRx hb8 htl hDw hdd
                  go_wp2_with fail
                  generalize wr.alloc (.cells #[.int .i64 x.kind, .string x.name, .int .i64 x.con, .slice Xf x.fields.length xf, .slice Xl x.list.length xl, .slice Xr x.res.length xr] 33) = W2 at hca hb9 HR0 HX0 ⊢
                  generalize wr.heap.size = g9 at hb9 HR0 hwg8 ⊢
                  have HR := HR0
                  have HX := HX0
                  clear HR0 HX0 hca z0 z1 z2 z3 z4 z5
                  have s0 : W2.cell? ⟨g8, 5, none⟩ = some (.slice Ah k ch) := by simpa using HX.out.2.2.2.2.1.cell 5
                  have s1 : W2.cell? ⟨g9, 0, none⟩ = some (.int .i64 x.kind) := by simpa using hb9.cell 0
                  have s2 : W2.cell? ⟨g9, 1, none⟩ = some (.string x.name) := by simpa using hb9.cell 1
                  have s3 : W2.cell? ⟨g9, 2, none⟩ = some (.int .i64 x.con) := by simpa using hb9.cell 2
                  have s4 : W2.cell? ⟨g9, 3, none⟩ = some (.slice Xf x.fields.length xf) := by simpa using hb9.cell 3
                  have s5 : W2.cell? ⟨g9, 4, none⟩ = some (.slice Xl x.list.length xl) := by simpa using hb9.cell 4
                  have s6 : W2.cell? ⟨g9, 5, none⟩ = some (.slice Xr x.res.length xr) := by simpa using hb9.cell 5
                  clear hb9
                  have hS0 : W2.drew.cell? ⟨g8, 5, none⟩ = some (.slice Ah k ch) ∧ W2.drew.cell? ⟨g9, 0, none⟩ = some (.int .i64 x.kind) ∧ W2.drew.cell? ⟨g9, 1, none⟩ = some (.string x.name) ∧ W2.drew.cell? ⟨g9, 2, none⟩ = some (.int .i64 x.con) ∧ W2.drew.cell? ⟨g9, 3, none⟩ = some (.slice Xf x.fields.length xf) ∧ W2.drew.cell? ⟨g9, 4, none⟩ = some (.slice Xl x.list.length xl) ∧ W2.drew.cell? ⟨g9, 5, none⟩ = some (.slice Xr x.res.length xr) := ⟨s0, s1, s2, s3, s4, s5, s6⟩
                  refine wp_region_G (S := fun w' => w'.cell? ⟨g8, 5, none⟩ = some (.slice Ah k ch) ∧ w'.cell? ⟨g9, 0, none⟩ = some (.int .i64 x.kind) ∧ w'.cell? ⟨g9, 1, none⟩ = some (.string x.name) ∧ w'.cell? ⟨g9, 2, none⟩ = some (.int .i64 x.con) ∧ w'.cell? ⟨g9, 3, none⟩ = some (.slice Xf x.fields.length xf) ∧ w'.cell? ⟨g9, 4, none⟩ = some (.slice Xl x.list.length xl) ∧ w'.cell? ⟨g9, 5, none⟩ = some (.slice Xr x.res.length xr)) 8 (by kernel_rfl) hS0 (fun hHeld => ?_)
                  refine wpAnyG_take (i := 0) (v := ?vah31) rfl (by kernel_rfl) (fun _ _ _ h => h) (Or.inl ⟨by rfl, ?hyh31⟩) (by assumption) ?rah31
                  case hyh31 => (intro w hSw; (try dsimp only at hSw); go_simp; all_goals (with_reducible rfl))
                  simp only [Act.put, List.setIfInBounds_toArray, List.set_cons_zero, List.set_cons_succ]
                  refine wpAnyG_take (i := 1) (v := ?vah32) rfl (by kernel_rfl) (fun _ _ _ h => h) (Or.inl ⟨by rfl, ?hyh32⟩) (by assumption) ?rah32
                  case hyh32 => (intro w hSw; (try dsimp only at hSw); go_simp; all_goals (with_reducible rfl))
                  simp only [Act.put, List.setIfInBounds_toArray, List.set_cons_zero, List.set_cons_succ]
                  refine wpAnyG_take (i := 2) (v := ?vah33) rfl (by kernel_rfl) (fun _ _ _ h => h) (Or.inl ⟨by rfl, ?hyh33⟩) (by assumption) ?rah33
                  case hyh33 => (intro w hSw; (try dsimp only at hSw); go_simp; all_goals (with_reducible rfl))
                  simp only [Act.put, List.setIfInBounds_toArray, List.set_cons_zero, List.set_cons_succ]
                  refine wpAnyG_take (i := 3) (v := ?vah34) rfl (by kernel_rfl) (fun _ _ _ h => h) (Or.inl ⟨by rfl, ?hyh34⟩) (by assumption) ?rah34
                  case hyh34 => (intro w hSw; (try dsimp only at hSw); go_simp; all_goals (with_reducible rfl))
                  simp only [Act.put, List.setIfInBounds_toArray, List.set_cons_zero, List.set_cons_succ]
                  refine wpAnyG_ready (rs := [4]) (by kernel_rfl) (by simp) ?_
                  refine AllReadyG.cons rfl (fun K hK => ?_) AllReadyG.nil
                  go_simp
                  go_at_call 37
                  refine (HP.out.2.2.2.2.2 W2.drew x Xf xf Xl xl Xr xr (Nat.le_trans HP.out.1 HX.out.2.1.drew.size) (HP.out.2.2.1 _ _ HX.out.2.1.drew HP.out.2.1) (TyR.keep0 ((Chg.refl (fun _ _ => False) W2).drew) HX.out.2.2.2.1)).mono ?_
                  rintro e w7 ⟨Bf, bf, Bl, bl, Br, br, rfl, hN, hc7⟩
                  generalize hu : x.fill f = u at hN ⊢
                  have hc7' : Chg (fun _ _ => False) W2 w7 := hc7.drewl
                  have v0 := hc7'.cell s0 fun _ => id
                  have v1 := hc7'.cell s1 fun _ => id
                  have v2 := hc7'.cell s2 fun _ => id
                  have v3 := hc7'.cell s3 fun _ => id
                  have v4 := hc7'.cell s4 fun _ => id
                  have v5 := hc7'.cell s5 fun _ => id
                  have v6 := hc7'.cell s6 fun _ => id
                  have r0 := fun ob => (chg_alloc w7 ob).cell v0 fun _ => id
                  have r1 := fun ob => (chg_alloc w7 ob).cell v1 fun _ => id
                  have r2 := fun ob => (chg_alloc w7 ob).cell v2 fun _ => id
                  have r3 := fun ob => (chg_alloc w7 ob).cell v3 fun _ => id
                  have r4 := fun ob => (chg_alloc w7 ob).cell v4 fun _ => id
                  have r5 := fun ob => (chg_alloc w7 ob).cell v5 fun _ => id
                  have r6 := fun ob => (chg_alloc w7 ob).cell v6 fun _ => id
                  have HN := Lib.hid (And.intro hN (And.intro hc7' hu))
                  clear hN hc7 hc7' hu
                  refine hK.out _ _ ⟨v0, v1, v2, v3, v4, v5, v6⟩ (fun hHeld => ?_)
                  clear hK K
                  try simp only [Act.put, List.setIfInBounds_toArray, List.set_cons_zero, List.set_cons_succ]
                  refine wpAnyG_ready (rs := [5]) (by kernel_rfl) (by simp) ?_
                  refine AllReadyG.cons rfl (fun K hK => ?_) AllReadyG.nil
                  go_simp
                  refine hK.out _ _ ⟨r0 _, r1 _, r2 _, r3 _, r4 _, r5 _, r6 _⟩ (fun hHeld => ?_)
                  clear hK K
                  try simp only [Act.put, List.setIfInBounds_toArray, List.set_cons_zero, List.set_cons_succ]
                  refine wpAnyG_ready (rs := [6]) (by kernel_rfl) (by simp) ?_
                  refine AllReadyG.cons rfl (fun K hK => ?_) AllReadyG.nil
                  refine step_append_blk _ rfl (.tmp 75) (.tmp 79) 23 rfl 0 33 i39 _ 6 104 Tryd.underlying23 hi39 hz39 hs39 hb39 rfl (by omega) Ah k ch xss.flatten (by first | rfl | simp [Act.eval, Act.put]) (Chg.own (M := fun _ _ => False) (HN.out.2.1.trans (by repeat' (first | exact Chg.refl (fun _ _ => False) _ | apply Chg.drew | apply Chg.drewN | apply Chg.alloc))) HR.out.1 fun _ _ => id) 1 1 [.int .i64 u.kind, .string u.name, .int .i64 u.con, .slice Bf u.fields.length bf, .slice Bl u.list.length bl, .slice Br u.res.length br] w7.heap.size (by first | rfl | simp [Act.eval, Act.put]) (by first | exact Blk.new _ _ _ | exact (Blk.new _ _ _).drew) rfl (one_ty _ _ _ _ _ _ _ _ _ _ _ _) (by simp only [maxLen]; omega) (by omega) (Nat.zero_le _) ?_
                  intro A6 c6 w8 hown6 hg6 hp6
                  obtain ⟨hN, hc7, hu⟩ := HN.out
                  obtain ⟨how0, x2, x3, x4, hgD, hlt2, hlt3⟩ := HR.out
                  obtain ⟨hch, hcw, hkx, hRx, hb8, htl, hDw, hnms⟩ := HX.out
                  have hpush := GrowR.push (x := u) (cs := (tyCells u.kind u.name u.con Bf u.fields.length bf Bl u.list.length bl Br u.res.length br)) (tyN_keepR m) (tyN_subR m) x2 x3 x4 (by rw [htl]; exact hgD) hDw hc7 (by rw [htl]; exact hc7.own how0 fun _ _ => id) (by rw [htl]; exact hlt2) hN rfl (by rw [htl]; exact ⟨hown6, hg6, hp6⟩)
                  have hch8 := hpush.2
                  rw [htl] at hch8
                  have hdd := HD.out
                  have hno8 : ∀ t, ¬ ((Value.slice Ah k ch).ownBlock = some g8 ∧ t = 33) := fun t h => by have := hgD g8 h.1; omega
                  have hno9 : ∀ t, ¬ ((Value.slice Ah k ch).ownBlock = some g9 ∧ t = 33) := fun t h => by have := hlt3 g9 h.1; omega
                  clear hdd
                  have f0 := hch8.cell v0 hno8
                  have f1 := hch8.cell v1 hno9
                  have f2 := hch8.cell v2 hno9
                  have f3 := hch8.cell v3 hno9
                  have f4 := hch8.cell v4 hno9
                  have f5 := hch8.cell v5 hno9
                  have f6 := hch8.cell v6 hno9
                  have hb88 := hch8.blk (hc7.blk hb8 id) (hno8 _)
                  have fz := hb88.frozen 5
                  have HZ := Lib.hid (And.intro hpush.1 (And.intro hch8 (And.intro hb88 hu)))
                  clear hN hc7 hu how0 x2 x3 x4 hgD hlt2 hlt3 hch hcw hkx hRx hb8 htl hDw hpush hch8 hno8 hno9 hb88 hown6 hg6 hp6
                  refine hK.out _ _ ⟨f0, f1, f2, f3, f4, f5, f6⟩ (fun hHeld => ?_)
                  clear hK K
                  try simp only [Act.put, List.setIfInBounds_toArray, List.set_cons_zero, List.set_cons_succ]
                  refine wpAnyG_take (i := 7) (v := ?vah35) rfl (by kernel_rfl) (fun _ _ _ h => h) (Or.inl ⟨by rfl, ?hyh35⟩) (by assumption) ?rah35
                  case hyh35 => (intro w hSw; (try dsimp only at hSw); go_simp; all_goals (with_reducible rfl))
                  simp only [Act.put, List.setIfInBounds_toArray, List.set_cons_zero, List.set_cons_succ]
                  refine wpAnyG_last rfl (by kernel_rfl) (by kernel_rfl) (fun K hK => ?_)
                  go_simp
                  refine hK.out _ _ ?_
                  clear hK K
                  try simp only [Act.put, List.setIfInBounds_toArray, List.set_cons_zero, List.set_cons_succ]
                  clear hHeld hS0 fz s0 s1 s2 s3 s4 s5 s6 v0 v1 v2 v3 v4 v5 v6 r0 r1 r2 r3 r4 r5 r6 f0 f1 f2 f3 f4 f5 f6
                  go_wp2_with fail
                  go_roundw
                  case rel =>
                    obtain ⟨hg, hch8, hb88, hu⟩ := HZ.out
                    obtain ⟨hch, hcw, hkx, hRx, hb8, htl, hDw, hnms⟩ := HX.out
                    obtain ⟨_, hc7, _⟩ := HN.out
                    have hgD := HR.out.2.2.2.2.1
                    have hdd := HD.out
                    have hset := chg_set (j := 5) hb88 (.slice A6 (k + 1) c6)
                    have htk : (t.res.take (k + 1)).map (Ty.fill f) = (t.res.take k).map (Ty.fill f) ++ [u] := by
                      obtain ⟨h1, h2⟩ := List.getElem?_eq_some_iff.1 hkx
                      rw [List.take_succ_eq_append_getElem h1, h2]
                      simp [fillP, hu]
                    refine ⟨k + 1, A6, c6, hlt, by simp, by simpa using hb88.set_ 5 (.slice A6 (k + 1) c6), ?_, ?_⟩
                    · rw [htk]
                      exact hg.keep hset (fun b hbD h => by have := h.1; omega) fun G hG cs p h => tyN_keepR m G _ _ _ hset (fun b t hb _ h => by have := hG b hb; have := h.1; omega) cs p h
                    · exact ((hch.trans_le hc7 fun _ _ _ h => h.elim).trans_le hch8 fun b t hb h => by have := hgD b h.1; omega).trans_le hset fun b t _ h => h
                  case measure => simp [intOf]; omega
                · have q1 : decide (k < t.res.length) = false := decide_eq_false hlt
                  obtain rfl : k = t.res.length := by omega
                  have hgn := hgr.rowG fun G G' hG cs x h => tyN_subR m G G' wr hG cs x h
                  rw [List.take_length] at hgn
                  have hb3b := hch.blk HB.out.1 (fun h => by have := h.1; have := HB.out.2.2; omega)
                  have hb6b := hch.blk HB.out.2.1 (fun h => by have := h.1; have := HB.out.2.2; omega)
                  have hlt8 := hb8.lt
                  have hsz := hch.size
                  have HGa := Lib.hid (HG1.out.keep hch (fun b hb h => absurd h.2 (by decide)) fun cs p h => fdR_keepR m _ _ _ _ hch (fun b t hb _ h => by have h1 : D1 ≤ b := hb; have := h.1; have := HD1.out; omega) cs p h)
                  clear HG1
                  have HG1 := HGa
                  clear HGa
                  have HGa := Lib.hid (HG2.out.keep hch (fun b hb h => by have h1 : D2 ≤ b := hb; have := h.1; have := HD2.out; omega) fun cs p h => TyN.keep hch (fun b t hb _ h => by have h1 : D2 ≤ b := hb; have := h.1; have := HD2.out; omega) h)
                  clear HG2
                  have HG2 := HGa
                  clear HGa
                  have HG3 := Lib.hid hgn
                  rename World => W4
                  have HD3 := HD
                  have HC := Lib.hid hcw
                  have HZ6 := Lib.hid hb6b
                  obtain ⟨p0, p1, p2, p3, p4, p5⟩ := hb8.cells6
                  obtain ⟨d0, d1, d2, d3, d4, d5⟩ := hb6b.cells6
                  have e0 := hb6b.frozen 0
                  have e1 := hb6b.frozen 1
                  have e2 := hb6b.frozen 2
                  have e3 := hb6b.frozen 3
                  have e4 := hb6b.frozen 4
                  have e5 := hb6b.frozen 5
                  clear hgr hgn hch hcw hb3b hb6b hb8 hsz hdd hf20
                  go_wp2_with fail
                  clear p0 p1 p2 p3 p4 p5 d0 d1 d2 d3 d4 d5 e0 e1 e2 e3 e4 e5
                  obtain ⟨hbz, hcz⟩ := blk_set6 HZ6.out (.int .i64 t.kind) (.string t.name) (.int .i64 t.con) (.slice Ag t.fields.length cg) (.slice Ai t.list.length ci) (.slice Ah t.res.length ch)
                  obtain ⟨d0, d1, d2, d3, d4, d5⟩ := hbz.cells6
                  refine bodyPost_ret (v := .agg #[.int .i64 t.kind, .string t.name, .int .i64 t.con, .slice Ag t.fields.length cg, .slice Ai t.list.length ci, .slice Ah t.res.length ch]) (by simp [results, Tryd.results37, go_sem, d0, d1, d2, d3, d4, d5]) rfl ?_
                  rw [HFL.out]
                  have hgf := HG1.out
                  have hgl := HG2.out
                  have hgr := HG3.out
                  have hcw3 := HC.out
                  have hD1 := HD1.out
                  have hD2 := HD2.out
                  have hD3 := HD3.out
                  obtain ⟨s1, s2, s3, s4, s5, s6⟩ := HT.out.2.2.2
                  refine ⟨Ag, cg, Ai, ci, Ah, ch, by simp [Ty.kind, Ty.name, Ty.con, Ty.fields, Ty.list, Ty.res], ⟨⟨s1, s2, s3, ?_, ?_, ?_⟩, Ag, cg, Ai, ci, Ah, ch, by simp [Ty.kind, Ty.name, Ty.con, Ty.fields, Ty.list, Ty.res, tyCells], ?_, ?_, ?_⟩, ?_⟩
                  · show (t.fields.map (fillP f)).length ≤ 1048576; rw [List.length_map]; exact s4
                  · show (t.list.map (Ty.fill f)).length ≤ 1048576; rw [List.length_map]; exact s5
                  · show (t.res.map (Ty.fill f)).length ≤ 1048576; rw [List.length_map]; exact s6
                  · exact (hgf.keep hcz (fun b hb h => absurd h.2 (by decide)) fun cs p h => fdR_keepR m _ _ _ _ hcz (fun b t hb _ h => by have h1 : D1 ≤ b := hb; have := h.1; omega) cs p h).imp (fun b _ h => by have h1 : D1 ≤ b := h; omega) fun cs p h => fdR_subR m _ _ _ (fun b _ h => by have h1 : D1 ≤ b := h; omega) cs p h
                  · exact (hgl.keep hcz (fun b hb h => by have h1 : D2 ≤ b := hb; have := h.1; omega) fun cs p h => TyN.keep hcz (fun b t hb _ h => by have h1 : D2 ≤ b := hb; have := h.1; omega) h).imp (fun b _ h => by have h1 : D2 ≤ b := h; omega) fun cs p h => TyN.sub (fun b _ h => by have h1 : D2 ≤ b := h; omega) h
                  · exact (hgr.keep hcz (fun b hb h => by have h1 : D3 ≤ b := hb; have := h.1; omega) fun cs p h => TyN.keep hcz (fun b t hb _ h => by have h1 : D3 ≤ b := hb; have := h.1; omega) h).imp (fun b _ h => by have h1 : D3 ≤ b := h; omega) fun cs p h => TyN.sub (fun b _ h => by have h1 : D3 ≤ b := h; omega) h
                  · exact hcw3.trans_new hcz fun b t hb h => by have := h.1; omega
    · go_enter Tryd.func37, Tryd.ntmps37
      go_wp2_with fail
      have HW := Lib.hid (show ((w.alloc (.cells #[.int .i64 t.kind, .string t.name, .int .i64 t.con, .slice Af t.fields.length cf, .slice Al t.list.length cl, .slice Ar t.res.length cr] 33)).alloc (.cells #[.int .i64 0, .string ⟨#[]⟩, .int .i64 0, .slice none 0 0, .slice none 0 0, .slice none 0 0] 33)).heap.size = w.heap.size + 1 + 1 by simp)
      generalize (w.alloc (.cells #[.int .i64 t.kind, .string t.name, .int .i64 t.con, .slice Af t.fields.length cf, .slice Al t.list.length cl, .slice Ar t.res.length cr] 33)).alloc (.cells #[.int .i64 0, .string ⟨#[]⟩, .int .i64 0, .slice none 0 0, .slice none 0 0, .slice none 0 0] 33) = W0 at HH HW hl hRu ⊢
      generalize hg6 : w.heap.size + 1 = g6 at HH HW ⊢
      generalize hg3 : w.heap.size = g3 at HH ⊢
      have HG := Lib.hid (show g3 = w.heap.size ∧ g6 = g3 + 1 from ⟨hg3.symm, by omega⟩)
      clear hg6 hg3
      obtain ⟨c0, c1, c2, c3, c4, c5⟩ := HH.out.1.cells6
      have hw0 := HH.out.2.2
      clear hl
      generalize hWa : W0.alloc (.cells #[.int .i64 u.kind, .string u.name, .int .i64 u.con, .slice Ef u.fields.length ef, .slice El u.list.length el, .slice Er u.res.length er] 33) = Wa at ⊢
      have hca : Chg (fun _ _ => False) W0 Wa := hWa ▸ chg_alloc _ _
      have hcl := (HP.out.2.2.2.2.1.resolve_left (fun h => by rw [h] at hfu; cases hfu)) Wa u Ef ef El el Er er (Nat.le_trans HP.out.1 (hw0.trans hca).size) (TyR.keep0 hca hRu)
      refine hcl.mono fun e w1 h => ?_
      obtain ⟨Bf, bf, Bl, bl, Br, br, rfl, hN, hc1⟩ := h
      clear hcl
      have hcW : Chg (fun _ _ => False) W0 w1 := hca.trans hc1
      have hb6 := hcW.blk HH.out.2.1 id
      obtain ⟨d0, d1, d2, d3, d4, d5⟩ := hb6.cells6
      have e0 := hb6.frozen 0
      have e1 := hb6.frozen 1
      have e2 := hb6.frozen 2
      have e3 := hb6.frozen 3
      have e4 := hb6.frozen 4
      have e5 := hb6.frozen 5
      have HN := Lib.hid (And.intro hN (And.intro hcW (And.intro hb6 hca)))
      clear hN hc1 hcW hb6 hca hWa hRu hw0 c0 c1 c2 c3 c4 c5
      go_wp2_with fail
      clear d0 d1 d2 d3 d4 d5 e0 e1 e2 e3 e4 e5
      obtain ⟨hbz, hcz⟩ := blk_set6 HN.out.2.2.1 (.int .i64 u.kind) (.string u.name) (.int .i64 u.con) (.slice Bf u.fields.length bf) (.slice Bl u.list.length bl) (.slice Br u.res.length br)
      obtain ⟨d0, d1, d2, d3, d4, d5⟩ := hbz.cells6
      refine bodyPost_ret (v := .agg #[.int .i64 u.kind, .string u.name, .int .i64 u.con, .slice Bf u.fields.length bf, .slice Bl u.list.length bl, .slice Br u.res.length br]) (by simp [results, Tryd.results37, go_sem, d0, d1, d2, d3, d4, d5]) rfl ?_
      rw [fill_hit HKD.out hfu]
      have hw6 : w.heap.size ≤ Wa.heap.size := (HH.out.2.2.trans HN.out.2.2.2).size
      have hg6 : g6 < Wa.heap.size := (HN.out.2.2.2.blk HH.out.2.1 id).lt
      have hgw : w.heap.size ≤ g6 := by have := HG.out; omega
      refine ⟨Bf, bf, Bl, bl, Br, br, rfl, ?_, (HH.out.2.2.trans HN.out.2.1).trans_new hcz fun b t hb h => by have := h.1; omega⟩
      exact TyN.deep (TyN.sub (fun b _ h => Nat.le_trans hw6 h) (TyN.keep hcz (fun b t hb _ h => by have h1 : Wa.heap.size ≤ b := hb; have := h.1; omega) HN.out.1)) hma
  · have q4 : (t.kind == 12) = false := by simp [hkd]
    go_enter Tryd.func37, Tryd.ntmps37
    go_wp2_with fail
    have HW := Lib.hid (show ((w.alloc (.cells #[.int .i64 t.kind, .string t.name, .int .i64 t.con, .slice Af t.fields.length cf, .slice Al t.list.length cl, .slice Ar t.res.length cr] 33)).alloc (.cells #[.int .i64 0, .string ⟨#[]⟩, .int .i64 0, .slice none 0 0, .slice none 0 0, .slice none 0 0] 33)).heap.size = w.heap.size + 1 + 1 by simp)
    generalize (w.alloc (.cells #[.int .i64 t.kind, .string t.name, .int .i64 t.con, .slice Af t.fields.length cf, .slice Al t.list.length cl, .slice Ar t.res.length cr] 33)).alloc (.cells #[.int .i64 0, .string ⟨#[]⟩, .int .i64 0, .slice none 0 0, .slice none 0 0, .slice none 0 0] 33) = W0 at HH HW ⊢
    generalize hg6 : w.heap.size + 1 = g6 at HH HW ⊢
    generalize hg3 : w.heap.size = g3 at HH ⊢
    have HG := Lib.hid (show g3 = w.heap.size ∧ g6 = g3 + 1 from ⟨hg3.symm, by omega⟩)
    clear hg6 hg3
    obtain ⟨c0, c1, c2, c3, c4, c5⟩ := HH.out.1.cells6
    have HFL := Lib.hid (fill_miss (t := t) (f := f) (by rw [if_neg hkd]))
    have hcX : Chg (fun _ _ => False) w W0 := HH.out.2.2
    have hbX : Blk W0 g3 33 #[.int .i64 t.kind, .string t.name, .int .i64 t.con, .slice Af t.fields.length cf, .slice Al t.list.length cl, .slice Ar t.res.length cr] := HH.out.1
    have hb6X : Blk W0 g6 33 #[.int .i64 0, .string ⟨#[]⟩, .int .i64 0, .slice none 0 0, .slice none 0 0, .slice none 0 0] := HH.out.2.1
    have hb3 := hbX.alloc (.cells #[.int .i64 t.kind, .string t.name, .int .i64 t.con, .slice none 0 0, .slice none 0 0, .slice none 0 0] 33)
    have hb6 := hb6X.alloc (.cells #[.int .i64 t.kind, .string t.name, .int .i64 t.con, .slice none 0 0, .slice none 0 0, .slice none 0 0] 33)
    have hb8 := Blk.new W0 33 #[.int .i64 t.kind, .string t.name, .int .i64 t.con, .slice none 0 0, .slice none 0 0, .slice none 0 0]
    have hcw := hcX.alloc (.cells #[.int .i64 t.kind, .string t.name, .int .i64 t.con, .slice none 0 0, .slice none 0 0, .slice none 0 0] 33)
    have hs6 := hb6X.lt
    have hsx : W0.heap.size < (W0.alloc (.cells #[.int .i64 t.kind, .string t.name, .int .i64 t.con, .slice none 0 0, .slice none 0 0, .slice none 0 0] 33)).heap.size := by simp
    have HX := Lib.hid (And.intro hb3 (And.intro hb6 (And.intro hb8 (And.intro hcw (And.intro hs6 (And.intro hsx (show g3 < g6 ∧ w.heap.size ≤ g6 by have := HG.out; omega)))))))
    clear hcX hbX hb6X hb3 hb6 hb8 hcw hs6 hsx hkd
    clear c0 c1 c2 c3 c4 c5 q4
    have HX0 := HX.out
    have hs0 := HW.out
    have hs1 := hs0
    rw [hs1] at HX0
    clear HX hs0 hs1
    generalize hgW : (W0).alloc (.cells #[.int .i64 t.kind, .string t.name, .int .i64 t.con, .slice none 0 0, .slice none 0 0, .slice none 0 0] 33) = W1 at HX0 ⊢
    generalize hg8 : g6 + 1 = g8 at HX0 ⊢
    obtain ⟨hb3, hb6, hb8, hcw, hs6, hsx, hg36⟩ := HX0
    obtain ⟨D1, hD1⟩ : ∃ D, D = W1.heap.size := ⟨_, rfl⟩
    have hl8 := hb8.lt
    have HB := Lib.hid (And.intro hb3 (And.intro hb6 (show g3 < g8 ∧ g6 < g8 from ⟨by omega, by omega⟩)))
    have HD := Lib.hid (show D1 = W1.heap.size ∧ g8 < D1 ∧ w.heap.size ≤ D1 ∧ w.heap.size ≤ g8 ∧ w.heap.size ≤ g6 ∧ g6 < g8 from ⟨hD1, by omega, by omega, by omega, by omega, by omega⟩)
    have HC := Lib.hid hcw
    clear hb3 hb6 hcw hs6 hsx hg36 hD1 hl8 hgW hg8
    go_loopw [34] (fun i wr => putRel1 D1 m g8 f t W1 i wr) (fun i _ => t.fields.length - (intOf i).toNat)
    case atStart => exact ⟨0, none, 0, Nat.zero_le _, rfl, hb8, GrowR.nil _ _ _ _ _, Chg.refl _ _⟩
    case round =>
      clear hb8
      obtain ⟨k, Ag, cg, hk, rfl, hb8, hgr, hch⟩ := hrel
      have hdd := HD.out
      have hcw : Chg (fun _ _ => False) w wr := HC.out.trans_new hch fun b t hb h => by have := h.1; omega
      have hf20 := HT.out.2.2.2.2.2.2.1
      have q3 : IntKind.i64.wrap ((k : Int) + 1) = (k : Int) + 1 := IntWalk.i64_in _ ⟨by omega, by omega⟩
      by_cases hlt : k < t.fields.length
      · have q1 : decide (k < t.fields.length) = true := decide_eq_true hlt
        have q2 : (k : Int) < (t.fields.length : Int) := by omega
        obtain ⟨b, o, nm, x, Xf, xf, Xl, xl, Xr, xr, rfl, hbB, hkx, hnms, hRx, z0, z1, z2, z3, z4, z5, z6⟩ := fld_at (SlR.keep HT.out.1 hcw (no_lets _ _) fun _ _ h => h.imp fun _ _ h => TyR.keep0 hcw h) hlt
        have htl : ((t.fields.take k).map (fillP f)).length = k := by rw [List.length_map, List.length_take]; omega
        have hlt2 : ∀ g, (Value.slice Ag ((t.fields.take k).map (fillP f)).length cg).ownBlock = some g → g < wr.heap.size := fun g h => (hgr.1.lt h).1
        have hDw : D1 ≤ wr.heap.size := by have := hch.size; omega
        have hwg8 := hb8.lt
        have hk20 : k ≤ 1048576 := by omega
        have hca := chg_alloc wr (.cells #[.string nm, .int .i64 x.kind, .string x.name, .int .i64 x.con, .slice Xf x.fields.length xf, .slice Xl x.list.length xl, .slice Xr x.res.length xr] 35)
        have hb9 := Blk.new wr 35 #[.string nm, .int .i64 x.kind, .string x.name, .int .i64 x.con, .slice Xf x.fields.length xf, .slice Xl x.list.length xl, .slice Xr x.res.length xr]
        have hgr := hgr.keep hca (fun _ _ h => h) fun G hG cs p h => fdR_keepR m G _ _ _ hca (fun _ _ _ _ h => h) cs p h
        have hlt4 : ∀ g, (Value.slice Ag ((t.fields.take k).map (fillP f)).length cg).ownBlock = some g → g < (wr.alloc (.cells #[.string nm, .int .i64 x.kind, .string x.name, .int .i64 x.con, .slice Xf x.fields.length xf, .slice Xl x.list.length xl, .slice Xr x.res.length xr] 35)).heap.size := fun g h => (hgr.1.lt h).1
        obtain ⟨⟨xss, how0, x2, x3, x4⟩, hgD⟩ := hgr
        rw [htl] at how0 hlt2 hgD hlt4
        have HR0 := Lib.hid (And.intro how0 (And.intro x2 (And.intro x3 (And.intro x4 (And.intro hgD (And.intro hlt4 hlt2))))))
        have HX0 := Lib.hid (And.intro (hch.trans_le hca fun _ _ _ h => h.elim) (And.intro (hcw.trans hca) (And.intro hkx (And.intro (TyR.keep0 hca hRx) (And.intro (hca.blk hb8 id) (And.intro htl (And.intro (Nat.le_trans hDw hca.size) hnms)))))))
        clear how0 x2 x3 x4 hgD hlt2 hlt4 hch hcw hkx hRx hb8 htl hDw hdd hbB hnms
        go_wp2_with fail
        generalize wr.alloc (.cells #[.string nm, .int .i64 x.kind, .string x.name, .int .i64 x.con, .slice Xf x.fields.length xf, .slice Xl x.list.length xl, .slice Xr x.res.length xr] 35) = W2 at hca hb9 HR0 HX0 ⊢
        generalize wr.heap.size = g9 at hb9 HR0 hwg8 ⊢
        have HR := HR0
        have HX := HX0
        clear HR0 HX0 hca z0 z1 z2 z3 z4 z5 z6
        have s0 : W2.cell? ⟨g8, 3, none⟩ = some (.slice Ag k cg) := by simpa using HX.out.2.2.2.2.1.cell 3
        have s1 : W2.cell? ⟨g9, 0, none⟩ = some (.string nm) := by simpa using hb9.cell 0
        have s2 : W2.cell? ⟨g9, 1, none⟩ = some (.int .i64 x.kind) := by simpa using hb9.cell 1
        have s3 : W2.cell? ⟨g9, 2, none⟩ = some (.string x.name) := by simpa using hb9.cell 2
        have s4 : W2.cell? ⟨g9, 3, none⟩ = some (.int .i64 x.con) := by simpa using hb9.cell 3
        have s5 : W2.cell? ⟨g9, 4, none⟩ = some (.slice Xf x.fields.length xf) := by simpa using hb9.cell 4
        have s6 : W2.cell? ⟨g9, 5, none⟩ = some (.slice Xl x.list.length xl) := by simpa using hb9.cell 5
        have s7 : W2.cell? ⟨g9, 6, none⟩ = some (.slice Xr x.res.length xr) := by simpa using hb9.cell 6
        clear hb9
        have hS0 : W2.drew.cell? ⟨g8, 3, none⟩ = some (.slice Ag k cg) ∧ W2.drew.cell? ⟨g9, 0, none⟩ = some (.string nm) ∧ W2.drew.cell? ⟨g9, 1, none⟩ = some (.int .i64 x.kind) ∧ W2.drew.cell? ⟨g9, 2, none⟩ = some (.string x.name) ∧ W2.drew.cell? ⟨g9, 3, none⟩ = some (.int .i64 x.con) ∧ W2.drew.cell? ⟨g9, 4, none⟩ = some (.slice Xf x.fields.length xf) ∧ W2.drew.cell? ⟨g9, 5, none⟩ = some (.slice Xl x.list.length xl) ∧ W2.drew.cell? ⟨g9, 6, none⟩ = some (.slice Xr x.res.length xr) := ⟨s0, s1, s2, s3, s4, s5, s6, s7⟩
        refine wp_region_G (S := fun w' => w'.cell? ⟨g8, 3, none⟩ = some (.slice Ag k cg) ∧ w'.cell? ⟨g9, 0, none⟩ = some (.string nm) ∧ w'.cell? ⟨g9, 1, none⟩ = some (.int .i64 x.kind) ∧ w'.cell? ⟨g9, 2, none⟩ = some (.string x.name) ∧ w'.cell? ⟨g9, 3, none⟩ = some (.int .i64 x.con) ∧ w'.cell? ⟨g9, 4, none⟩ = some (.slice Xf x.fields.length xf) ∧ w'.cell? ⟨g9, 5, none⟩ = some (.slice Xl x.list.length xl) ∧ w'.cell? ⟨g9, 6, none⟩ = some (.slice Xr x.res.length xr)) 12 (by kernel_rfl) hS0 (fun hHeld => ?_)
        refine wpAnyG_take (i := 0) (v := ?vak11) rfl (by kernel_rfl) (fun _ _ _ h => h) (Or.inl ⟨by rfl, ?hyk11⟩) (by assumption) ?rak11
        case hyk11 => (intro w hSw; (try dsimp only at hSw); go_simp; all_goals (with_reducible rfl))
        simp only [Act.put, List.setIfInBounds_toArray, List.set_cons_zero, List.set_cons_succ]
        refine wpAnyG_take (i := 1) (v := ?vak12) rfl (by kernel_rfl) (fun _ _ _ h => h) (Or.inl ⟨by rfl, ?hyk12⟩) (by assumption) ?rak12
        case hyk12 => (intro w hSw; (try dsimp only at hSw); go_simp; all_goals (with_reducible rfl))
        simp only [Act.put, List.setIfInBounds_toArray, List.set_cons_zero, List.set_cons_succ]
        refine wpAnyG_take (i := 2) (v := ?vak13) rfl (by kernel_rfl) (fun _ _ _ h => h) (Or.inl ⟨by rfl, ?hyk13⟩) (by assumption) ?rak13
        case hyk13 => (intro w hSw; (try dsimp only at hSw); go_simp; all_goals (with_reducible rfl))
        simp only [Act.put, List.setIfInBounds_toArray, List.set_cons_zero, List.set_cons_succ]
        refine wpAnyG_take (i := 3) (v := ?vak14) rfl (by kernel_rfl) (fun _ _ _ h => h) (Or.inl ⟨by rfl, ?hyk14⟩) (by assumption) ?rak14
        case hyk14 => (intro w hSw; (try dsimp only at hSw); go_simp; all_goals (with_reducible rfl))
        simp only [Act.put, List.setIfInBounds_toArray, List.set_cons_zero, List.set_cons_succ]
        refine wpAnyG_take (i := 4) (v := ?vak15) rfl (by kernel_rfl) (fun _ _ _ h => h) (Or.inl ⟨by rfl, ?hyk15⟩) (by assumption) ?rak15
        case hyk15 => (intro w hSw; (try dsimp only at hSw); go_simp; all_goals (with_reducible rfl))
        simp only [Act.put, List.setIfInBounds_toArray, List.set_cons_zero, List.set_cons_succ]
        refine wpAnyG_take (i := 5) (v := ?vak16) rfl (by kernel_rfl) (fun _ _ _ h => h) (Or.inl ⟨by rfl, ?hyk16⟩) (by assumption) ?rak16
        case hyk16 => (intro w hSw; (try dsimp only at hSw); go_simp; all_goals (with_reducible rfl))
        simp only [Act.put, List.setIfInBounds_toArray, List.set_cons_zero, List.set_cons_succ]
        refine wpAnyG_take (i := 6) (v := ?vak17) rfl (by kernel_rfl) (fun _ _ _ h => h) (Or.inl ⟨by rfl, ?hyk17⟩) (by assumption) ?rak17
        case hyk17 => (intro w hSw; (try dsimp only at hSw); go_simp; all_goals (with_reducible rfl))
        simp only [Act.put, List.setIfInBounds_toArray, List.set_cons_zero, List.set_cons_succ]
        refine wpAnyG_ready (rs := [7]) (by kernel_rfl) (by simp) ?_
        refine AllReadyG.cons rfl (fun K hK => ?_) AllReadyG.nil
        go_simp
        go_at_call 37
        refine (HP.out.2.2.2.2.2 W2.drew x Xf xf Xl xl Xr xr (Nat.le_trans HP.out.1 HX.out.2.1.drew.size) (HP.out.2.2.1 _ _ HX.out.2.1.drew HP.out.2.1) (TyR.keep0 ((Chg.refl (fun _ _ => False) W2).drew) HX.out.2.2.2.1)).mono ?_
        rintro e w7 ⟨Bf, bf, Bl, bl, Br, br, rfl, hN, hc7⟩
        generalize hu : x.fill f = u at hN ⊢
        have hc7' : Chg (fun _ _ => False) W2 w7 := hc7.drewl
        have v0 := hc7'.cell s0 fun _ => id
        have v1 := hc7'.cell s1 fun _ => id
        have v2 := hc7'.cell s2 fun _ => id
        have v3 := hc7'.cell s3 fun _ => id
        have v4 := hc7'.cell s4 fun _ => id
        have v5 := hc7'.cell s5 fun _ => id
        have v6 := hc7'.cell s6 fun _ => id
        have v7 := hc7'.cell s7 fun _ => id
        have r0 := fun ob => (chg_alloc w7 ob).cell v0 fun _ => id
        have r1 := fun ob => (chg_alloc w7 ob).cell v1 fun _ => id
        have r2 := fun ob => (chg_alloc w7 ob).cell v2 fun _ => id
        have r3 := fun ob => (chg_alloc w7 ob).cell v3 fun _ => id
        have r4 := fun ob => (chg_alloc w7 ob).cell v4 fun _ => id
        have r5 := fun ob => (chg_alloc w7 ob).cell v5 fun _ => id
        have r6 := fun ob => (chg_alloc w7 ob).cell v6 fun _ => id
        have r7 := fun ob => (chg_alloc w7 ob).cell v7 fun _ => id
        have HN := Lib.hid (And.intro hN (And.intro hc7' hu))
        clear hN hc7 hc7' hu
        refine hK.out _ _ ⟨v0, v1, v2, v3, v4, v5, v6, v7⟩ (fun hHeld => ?_)
        clear hK K
        try simp only [Act.put, List.setIfInBounds_toArray, List.set_cons_zero, List.set_cons_succ]
        refine wpAnyG_take (i := 8) (v := ?vak18) rfl (by kernel_rfl) (fun _ _ _ h => h) (Or.inl ⟨by rfl, ?hyk18⟩) (by assumption) ?rak18
        case hyk18 => (intro w hSw; (try dsimp only at hSw); go_simp; all_goals (with_reducible rfl))
        simp only [Act.put, List.setIfInBounds_toArray, List.set_cons_zero, List.set_cons_succ]
        refine wpAnyG_ready (rs := [9]) (by kernel_rfl) (by simp) ?_
        refine AllReadyG.cons rfl (fun K hK => ?_) AllReadyG.nil
        go_simp
        refine hK.out _ _ ⟨r0 _, r1 _, r2 _, r3 _, r4 _, r5 _, r6 _, r7 _⟩ (fun hHeld => ?_)
        clear hK K
        try simp only [Act.put, List.setIfInBounds_toArray, List.set_cons_zero, List.set_cons_succ]
        refine wpAnyG_ready (rs := [10]) (by kernel_rfl) (by simp) ?_
        refine AllReadyG.cons rfl (fun K hK => ?_) AllReadyG.nil
        refine step_append_blk _ rfl (.tmp 39) (.tmp 47) 31 rfl 0 35 i44 _ 7 120 Tryd.underlying31 hi44 hz44 hs44 hb44 rfl (by omega) Ag k cg xss.flatten (by first | rfl | simp [Act.eval, Act.put]) (Chg.own (M := fun _ _ => False) (HN.out.2.1.trans (by repeat' (first | exact Chg.refl (fun _ _ => False) _ | apply Chg.drew | apply Chg.drewN | apply Chg.alloc))) HR.out.1 fun _ _ => id) 1 1 [.string nm, .int .i64 u.kind, .string u.name, .int .i64 u.con, .slice Bf u.fields.length bf, .slice Bl u.list.length bl, .slice Br u.res.length br] w7.heap.size (by first | rfl | simp [Act.eval, Act.put]) (by first | exact Blk.new _ _ _ | exact (Blk.new _ _ _).drew) rfl (one_fld _ _ _ _ _ _ _ _ _ _ _ _ _) (by simp only [maxLen]; omega) (by omega) (Nat.zero_le _) ?_
        intro A6 c6 w8 hown6 hg6 hp6
        obtain ⟨hN, hc7, hu⟩ := HN.out
        obtain ⟨how0, x2, x3, x4, hgD, hlt2, hlt3⟩ := HR.out
        obtain ⟨hch, hcw, hkx, hRx, hb8, htl, hDw, hnms⟩ := HX.out
        have hpush := GrowR.push (x := (nm, u)) (cs := ([.string nm] ++ tyCells u.kind u.name u.con Bf u.fields.length bf Bl u.list.length bl Br u.res.length br)) (fdR_keepR m) (fdR_subR m) x2 x3 x4 (by rw [htl]; exact hgD) hDw hc7 (by rw [htl]; exact hc7.own how0 fun _ _ => id) (by rw [htl]; exact hlt2) ⟨_, rfl, hnms, hN⟩ rfl (by rw [htl]; exact ⟨hown6, hg6, hp6⟩)
        have hch8 := hpush.2
        rw [htl] at hch8
        have hdd := HD.out
        have hno8 : ∀ t, ¬ ((Value.slice Ag k cg).ownBlock = some g8 ∧ t = 35) := fun t h => by have := hgD g8 h.1; omega
        have hno9 : ∀ t, ¬ ((Value.slice Ag k cg).ownBlock = some g9 ∧ t = 35) := fun t h => by have := hlt3 g9 h.1; omega
        clear hdd
        have f0 := hch8.cell v0 hno8
        have f1 := hch8.cell v1 hno9
        have f2 := hch8.cell v2 hno9
        have f3 := hch8.cell v3 hno9
        have f4 := hch8.cell v4 hno9
        have f5 := hch8.cell v5 hno9
        have f6 := hch8.cell v6 hno9
        have f7 := hch8.cell v7 hno9
        have hb88 := hch8.blk (hc7.blk hb8 id) (hno8 _)
        have fz := hb88.frozen 3
        have HZ := Lib.hid (And.intro hpush.1 (And.intro hch8 (And.intro hb88 hu)))
        clear hN hc7 hu how0 x2 x3 x4 hgD hlt2 hlt3 hch hcw hkx hRx hb8 htl hDw hpush hch8 hno8 hno9 hb88 hown6 hg6 hp6
        refine hK.out _ _ ⟨f0, f1, f2, f3, f4, f5, f6, f7⟩ (fun hHeld => ?_)
        clear hK K
        try simp only [Act.put, List.setIfInBounds_toArray, List.set_cons_zero, List.set_cons_succ]
        refine wpAnyG_take (i := 11) (v := ?vak19) rfl (by kernel_rfl) (fun _ _ _ h => h) (Or.inl ⟨by rfl, ?hyk19⟩) (by assumption) ?rak19
        case hyk19 => (intro w hSw; (try dsimp only at hSw); go_simp; all_goals (with_reducible rfl))
        simp only [Act.put, List.setIfInBounds_toArray, List.set_cons_zero, List.set_cons_succ]
        refine wpAnyG_last rfl (by kernel_rfl) (by kernel_rfl) (fun K hK => ?_)
        go_simp
        refine hK.out _ _ ?_
        clear hK K
        try simp only [Act.put, List.setIfInBounds_toArray, List.set_cons_zero, List.set_cons_succ]
        clear hHeld hS0 fz s0 s1 s2 s3 s4 s5 s6 s7 v0 v1 v2 v3 v4 v5 v6 v7 r0 r1 r2 r3 r4 r5 r6 r7 f0 f1 f2 f3 f4 f5 f6 f7
        go_wp2_with fail
        go_roundw
        case rel =>
          obtain ⟨hg, hch8, hb88, hu⟩ := HZ.out
          obtain ⟨hch, hcw, hkx, hRx, hb8, htl, hDw, hnms⟩ := HX.out
          obtain ⟨_, hc7, _⟩ := HN.out
          have hgD := HR.out.2.2.2.2.1
          have hdd := HD.out
          have hset := chg_set (j := 3) hb88 (.slice A6 (k + 1) c6)
          have htk : (t.fields.take (k + 1)).map (fillP f) = (t.fields.take k).map (fillP f) ++ [(nm, u)] := by
            obtain ⟨h1, h2⟩ := List.getElem?_eq_some_iff.1 hkx
            rw [List.take_succ_eq_append_getElem h1, h2]
            simp [fillP, hu]
          refine ⟨k + 1, A6, c6, hlt, by simp, by simpa using hb88.set_ 3 (.slice A6 (k + 1) c6), ?_, ?_⟩
          · rw [htk]
            exact hg.keep hset (fun b hbD h => by have := h.1; omega) fun G hG cs p h => fdR_keepR m G _ _ _ hset (fun b t hb _ h => by have := hG b hb; have := h.1; omega) cs p h
          · exact ((hch.trans_le hc7 fun _ _ _ h => h.elim).trans_le hch8 fun b t hb h => by have := hgD b h.1; omega).trans_le hset fun b t _ h => h
        case measure => simp [intOf]; omega
      · have q1 : decide (k < t.fields.length) = false := decide_eq_false hlt
        obtain rfl : k = t.fields.length := by omega
        have hgn := hgr.rowG fun G G' hG cs x h => fdR_subR m G G' wr hG cs x h
        rw [List.take_length] at hgn
        have hb3b := hch.blk HB.out.1 (fun h => by have := h.1; have := HB.out.2.2; omega)
        have hb6b := hch.blk HB.out.2.1 (fun h => by have := h.1; have := HB.out.2.2; omega)
        have hlt8 := hb8.lt
        have hsz := hch.size
        have HG1 := Lib.hid hgn
        rename World => W2a
        obtain ⟨D2, hDn⟩ : ∃ D, D = W2a.heap.size := ⟨_, rfl⟩
        have HBn := Lib.hid (And.intro hb3b (And.intro hb6b HB.out.2.2))
        have HDn := Lib.hid (show D2 = W2a.heap.size ∧ g8 < D2 ∧ w.heap.size ≤ D2 ∧ w.heap.size ≤ g8 ∧ w.heap.size ≤ g6 ∧ g6 < g8 from ⟨hDn, by omega, by omega, hdd.2.2.2.1, hdd.2.2.2.2.1, hdd.2.2.2.2.2⟩)
        have HD1 := HD
        clear HB HC HD
        have HB := HBn
        have HD := HDn
        have HC := Lib.hid hcw
        obtain ⟨c0, c1, c2, c3, c4, c5⟩ := hb3b.cells6
        clear hgr hgn hch hcw hb3b hb6b hsz hDn hdd hf20 HBn HDn hlt8
        go_wp2_with fail
        clear c0 c1 c2 c3 c4 c5 q1 q3 hlt hk
        go_loopw [54] (fun i wr => putRel2 D2 m g8 f t Ag cg W2a i wr) (fun i _ => t.list.length - (intOf i).toNat)
        case atStart => exact ⟨0, none, 0, Nat.zero_le _, rfl, hb8, GrowR.nil _ _ _ _ _, Chg.refl _ _⟩
        case round =>
          clear hb8
          obtain ⟨k, Ai, ci, hk, rfl, hb8, hgr, hch⟩ := hrel
          have hdd := HD.out
          have hcw : Chg (fun _ _ => False) w wr := HC.out.trans_new hch fun b t hb h => by have := h.1; omega
          have hf20 := HT.out.2.2.2.2.2.2.2.1
          have q3 : IntKind.i64.wrap ((k : Int) + 1) = (k : Int) + 1 := IntWalk.i64_in _ ⟨by omega, by omega⟩
          by_cases hlt : k < t.list.length
          · have q1 : decide (k < t.list.length) = true := decide_eq_true hlt
            have q2 : (k : Int) < (t.list.length : Int) := by omega
            obtain ⟨b, o, x, Xf, xf, Xl, xl, Xr, xr, rfl, hkx, hRx, z0, z1, z2, z3, z4, z5⟩ := TysR.at_ (TysR.keep0 hcw HT.out.2.1) hlt
            have htl : ((t.list.take k).map (Ty.fill f)).length = k := by rw [List.length_map, List.length_take]; omega
            have hlt2 : ∀ g, (Value.slice Ai ((t.list.take k).map (Ty.fill f)).length ci).ownBlock = some g → g < wr.heap.size := fun g h => (hgr.1.lt h).1
            have hDw : D2 ≤ wr.heap.size := by have := hch.size; omega
            have hwg8 := hb8.lt
            have hk20 : k ≤ 1048576 := by omega
            have hca := chg_alloc wr (.cells #[.int .i64 x.kind, .string x.name, .int .i64 x.con, .slice Xf x.fields.length xf, .slice Xl x.list.length xl, .slice Xr x.res.length xr] 33)
            have hb9 := Blk.new wr 33 #[.int .i64 x.kind, .string x.name, .int .i64 x.con, .slice Xf x.fields.length xf, .slice Xl x.list.length xl, .slice Xr x.res.length xr]
            have hgr := hgr.keep hca (fun _ _ h => h) fun G hG cs p h => tyN_keepR m G _ _ _ hca (fun _ _ _ _ h => h) cs p h
            have hlt4 : ∀ g, (Value.slice Ai ((t.list.take k).map (Ty.fill f)).length ci).ownBlock = some g → g < (wr.alloc (.cells #[.int .i64 x.kind, .string x.name, .int .i64 x.con, .slice Xf x.fields.length xf, .slice Xl x.list.length xl, .slice Xr x.res.length xr] 33)).heap.size := fun g h => (hgr.1.lt h).1
            obtain ⟨⟨xss, how0, x2, x3, x4⟩, hgD⟩ := hgr
            rw [htl] at how0 hlt2 hgD hlt4
            have HR0 := Lib.hid (And.intro how0 (And.intro x2 (And.intro x3 (And.intro x4 (And.intro hgD (And.intro hlt4 hlt2))))))
            have HX0 := Lib.hid (And.intro (hch.trans_le hca fun _ _ _ h => h.elim) (And.intro (hcw.trans hca) (And.intro hkx (And.intro (TyR.keep0 hca hRx) (And.intro (hca.blk hb8 id) (And.intro htl (And.intro (Nat.le_trans hDw hca.size) trivial)))))))
            clear how0 x2 x3 x4 hgD hlt2 hlt4 hch hcw hkx hRx hb8 htl hDw hdd
            go_wp2_with fail
            generalize wr.alloc (.cells #[.int .i64 x.kind, .string x.name, .int .i64 x.con, .slice Xf x.fields.length xf, .slice Xl x.list.length xl, .slice Xr x.res.length xr] 33) = W2 at hca hb9 HR0 HX0 ⊢
            generalize wr.heap.size = g9 at hb9 HR0 hwg8 ⊢
            have HR := HR0
            have HX := HX0
            clear HR0 HX0 hca z0 z1 z2 z3 z4 z5
            have s0 : W2.cell? ⟨g8, 4, none⟩ = some (.slice Ai k ci) := by simpa using HX.out.2.2.2.2.1.cell 4
            have s1 : W2.cell? ⟨g9, 0, none⟩ = some (.int .i64 x.kind) := by simpa using hb9.cell 0
            have s2 : W2.cell? ⟨g9, 1, none⟩ = some (.string x.name) := by simpa using hb9.cell 1
            have s3 : W2.cell? ⟨g9, 2, none⟩ = some (.int .i64 x.con) := by simpa using hb9.cell 2
            have s4 : W2.cell? ⟨g9, 3, none⟩ = some (.slice Xf x.fields.length xf) := by simpa using hb9.cell 3
            have s5 : W2.cell? ⟨g9, 4, none⟩ = some (.slice Xl x.list.length xl) := by simpa using hb9.cell 4
            have s6 : W2.cell? ⟨g9, 5, none⟩ = some (.slice Xr x.res.length xr) := by simpa using hb9.cell 5
            clear hb9
            have hS0 : W2.drew.cell? ⟨g8, 4, none⟩ = some (.slice Ai k ci) ∧ W2.drew.cell? ⟨g9, 0, none⟩ = some (.int .i64 x.kind) ∧ W2.drew.cell? ⟨g9, 1, none⟩ = some (.string x.name) ∧ W2.drew.cell? ⟨g9, 2, none⟩ = some (.int .i64 x.con) ∧ W2.drew.cell? ⟨g9, 3, none⟩ = some (.slice Xf x.fields.length xf) ∧ W2.drew.cell? ⟨g9, 4, none⟩ = some (.slice Xl x.list.length xl) ∧ W2.drew.cell? ⟨g9, 5, none⟩ = some (.slice Xr x.res.length xr) := ⟨s0, s1, s2, s3, s4, s5, s6⟩
            refine wp_region_G (S := fun w' => w'.cell? ⟨g8, 4, none⟩ = some (.slice Ai k ci) ∧ w'.cell? ⟨g9, 0, none⟩ = some (.int .i64 x.kind) ∧ w'.cell? ⟨g9, 1, none⟩ = some (.string x.name) ∧ w'.cell? ⟨g9, 2, none⟩ = some (.int .i64 x.con) ∧ w'.cell? ⟨g9, 3, none⟩ = some (.slice Xf x.fields.length xf) ∧ w'.cell? ⟨g9, 4, none⟩ = some (.slice Xl x.list.length xl) ∧ w'.cell? ⟨g9, 5, none⟩ = some (.slice Xr x.res.length xr)) 8 (by kernel_rfl) hS0 (fun hHeld => ?_)
            refine wpAnyG_take (i := 0) (v := ?vak21) rfl (by kernel_rfl) (fun _ _ _ h => h) (Or.inl ⟨by rfl, ?hyk21⟩) (by assumption) ?rak21
            case hyk21 => (intro w hSw; (try dsimp only at hSw); go_simp; all_goals (with_reducible rfl))
            simp only [Act.put, List.setIfInBounds_toArray, List.set_cons_zero, List.set_cons_succ]
            refine wpAnyG_take (i := 1) (v := ?vak22) rfl (by kernel_rfl) (fun _ _ _ h => h) (Or.inl ⟨by rfl, ?hyk22⟩) (by assumption) ?rak22
            case hyk22 => (intro w hSw; (try dsimp only at hSw); go_simp; all_goals (with_reducible rfl))
            simp only [Act.put, List.setIfInBounds_toArray, List.set_cons_zero, List.set_cons_succ]
            refine wpAnyG_take (i := 2) (v := ?vak23) rfl (by kernel_rfl) (fun _ _ _ h => h) (Or.inl ⟨by rfl, ?hyk23⟩) (by assumption) ?rak23
            case hyk23 => (intro w hSw; (try dsimp only at hSw); go_simp; all_goals (with_reducible rfl))
            simp only [Act.put, List.setIfInBounds_toArray, List.set_cons_zero, List.set_cons_succ]
            refine wpAnyG_take (i := 3) (v := ?vak24) rfl (by kernel_rfl) (fun _ _ _ h => h) (Or.inl ⟨by rfl, ?hyk24⟩) (by assumption) ?rak24
            case hyk24 => (intro w hSw; (try dsimp only at hSw); go_simp; all_goals (with_reducible rfl))
            simp only [Act.put, List.setIfInBounds_toArray, List.set_cons_zero, List.set_cons_succ]
            refine wpAnyG_ready (rs := [4]) (by kernel_rfl) (by simp) ?_
            refine AllReadyG.cons rfl (fun K hK => ?_) AllReadyG.nil
            go_simp
            go_at_call 37
            refine (HP.out.2.2.2.2.2 W2.drew x Xf xf Xl xl Xr xr (Nat.le_trans HP.out.1 HX.out.2.1.drew.size) (HP.out.2.2.1 _ _ HX.out.2.1.drew HP.out.2.1) (TyR.keep0 ((Chg.refl (fun _ _ => False) W2).drew) HX.out.2.2.2.1)).mono ?_
            rintro e w7 ⟨Bf, bf, Bl, bl, Br, br, rfl, hN, hc7⟩
            generalize hu : x.fill f = u at hN ⊢
            have hc7' : Chg (fun _ _ => False) W2 w7 := hc7.drewl
            have v0 := hc7'.cell s0 fun _ => id
            have v1 := hc7'.cell s1 fun _ => id
            have v2 := hc7'.cell s2 fun _ => id
            have v3 := hc7'.cell s3 fun _ => id
            have v4 := hc7'.cell s4 fun _ => id
            have v5 := hc7'.cell s5 fun _ => id
            have v6 := hc7'.cell s6 fun _ => id
            have r0 := fun ob => (chg_alloc w7 ob).cell v0 fun _ => id
            have r1 := fun ob => (chg_alloc w7 ob).cell v1 fun _ => id
            have r2 := fun ob => (chg_alloc w7 ob).cell v2 fun _ => id
            have r3 := fun ob => (chg_alloc w7 ob).cell v3 fun _ => id
            have r4 := fun ob => (chg_alloc w7 ob).cell v4 fun _ => id
            have r5 := fun ob => (chg_alloc w7 ob).cell v5 fun _ => id
            have r6 := fun ob => (chg_alloc w7 ob).cell v6 fun _ => id
            have HN := Lib.hid (And.intro hN (And.intro hc7' hu))
            clear hN hc7 hc7' hu
            refine hK.out _ _ ⟨v0, v1, v2, v3, v4, v5, v6⟩ (fun hHeld => ?_)
            clear hK K
            try simp only [Act.put, List.setIfInBounds_toArray, List.set_cons_zero, List.set_cons_succ]
            refine wpAnyG_ready (rs := [5]) (by kernel_rfl) (by simp) ?_
            refine AllReadyG.cons rfl (fun K hK => ?_) AllReadyG.nil
            go_simp
            refine hK.out _ _ ⟨r0 _, r1 _, r2 _, r3 _, r4 _, r5 _, r6 _⟩ (fun hHeld => ?_)
            clear hK K
            try simp only [Act.put, List.setIfInBounds_toArray, List.set_cons_zero, List.set_cons_succ]
            refine wpAnyG_ready (rs := [6]) (by kernel_rfl) (by simp) ?_
            refine AllReadyG.cons rfl (fun K hK => ?_) AllReadyG.nil
            refine step_append_blk _ rfl (.tmp 59) (.tmp 63) 23 rfl 0 33 i39 _ 6 104 Tryd.underlying23 hi39 hz39 hs39 hb39 rfl (by omega) Ai k ci xss.flatten (by first | rfl | simp [Act.eval, Act.put]) (Chg.own (M := fun _ _ => False) (HN.out.2.1.trans (by repeat' (first | exact Chg.refl (fun _ _ => False) _ | apply Chg.drew | apply Chg.drewN | apply Chg.alloc))) HR.out.1 fun _ _ => id) 1 1 [.int .i64 u.kind, .string u.name, .int .i64 u.con, .slice Bf u.fields.length bf, .slice Bl u.list.length bl, .slice Br u.res.length br] w7.heap.size (by first | rfl | simp [Act.eval, Act.put]) (by first | exact Blk.new _ _ _ | exact (Blk.new _ _ _).drew) rfl (one_ty _ _ _ _ _ _ _ _ _ _ _ _) (by simp only [maxLen]; omega) (by omega) (Nat.zero_le _) ?_
            intro A6 c6 w8 hown6 hg6 hp6
            obtain ⟨hN, hc7, hu⟩ := HN.out
            obtain ⟨how0, x2, x3, x4, hgD, hlt2, hlt3⟩ := HR.out
            obtain ⟨hch, hcw, hkx, hRx, hb8, htl, hDw, hnms⟩ := HX.out
            have hpush := GrowR.push (x := u) (cs := (tyCells u.kind u.name u.con Bf u.fields.length bf Bl u.list.length bl Br u.res.length br)) (tyN_keepR m) (tyN_subR m) x2 x3 x4 (by rw [htl]; exact hgD) hDw hc7 (by rw [htl]; exact hc7.own how0 fun _ _ => id) (by rw [htl]; exact hlt2) hN rfl (by rw [htl]; exact ⟨hown6, hg6, hp6⟩)
            have hch8 := hpush.2
            rw [htl] at hch8
            have hdd := HD.out
            have hno8 : ∀ t, ¬ ((Value.slice Ai k ci).ownBlock = some g8 ∧ t = 33) := fun t h => by have := hgD g8 h.1; omega
            have hno9 : ∀ t, ¬ ((Value.slice Ai k ci).ownBlock = some g9 ∧ t = 33) := fun t h => by have := hlt3 g9 h.1; omega
            clear hdd
            have f0 := hch8.cell v0 hno8
            have f1 := hch8.cell v1 hno9
            have f2 := hch8.cell v2 hno9
            have f3 := hch8.cell v3 hno9
            have f4 := hch8.cell v4 hno9
            have f5 := hch8.cell v5 hno9
            have f6 := hch8.cell v6 hno9
            have hb88 := hch8.blk (hc7.blk hb8 id) (hno8 _)
            have fz := hb88.frozen 4
            have HZ := Lib.hid (And.intro hpush.1 (And.intro hch8 (And.intro hb88 hu)))
            clear hN hc7 hu how0 x2 x3 x4 hgD hlt2 hlt3 hch hcw hkx hRx hb8 htl hDw hpush hch8 hno8 hno9 hb88 hown6 hg6 hp6
            refine hK.out _ _ ⟨f0, f1, f2, f3, f4, f5, f6⟩ (fun hHeld => ?_)
            clear hK K
            try simp only [Act.put, List.setIfInBounds_toArray, List.set_cons_zero, List.set_cons_succ]
            refine wpAnyG_take (i := 7) (v := ?vak25) rfl (by kernel_rfl) (fun _ _ _ h => h) (Or.inl ⟨by rfl, ?hyk25⟩) (by assumption) ?rak25
            case hyk25 => (intro w hSw; (try dsimp only at hSw); go_simp; all_goals (with_reducible rfl))
            simp only [Act.put, List.setIfInBounds_toArray, List.set_cons_zero, List.set_cons_succ]
            refine wpAnyG_last rfl (by kernel_rfl) (by kernel_rfl) (fun K hK => ?_)
            go_simp
            refine hK.out _ _ ?_
            clear hK K
            try simp only [Act.put, List.setIfInBounds_toArray, List.set_cons_zero, List.set_cons_succ]
            clear hHeld hS0 fz s0 s1 s2 s3 s4 s5 s6 v0 v1 v2 v3 v4 v5 v6 r0 r1 r2 r3 r4 r5 r6 f0 f1 f2 f3 f4 f5 f6
            go_wp2_with fail
            go_roundw
            case rel =>
              obtain ⟨hg, hch8, hb88, hu⟩ := HZ.out
              obtain ⟨hch, hcw, hkx, hRx, hb8, htl, hDw, hnms⟩ := HX.out
              obtain ⟨_, hc7, _⟩ := HN.out
              have hgD := HR.out.2.2.2.2.1
              have hdd := HD.out
              have hset := chg_set (j := 4) hb88 (.slice A6 (k + 1) c6)
              have htk : (t.list.take (k + 1)).map (Ty.fill f) = (t.list.take k).map (Ty.fill f) ++ [u] := by
                obtain ⟨h1, h2⟩ := List.getElem?_eq_some_iff.1 hkx
                rw [List.take_succ_eq_append_getElem h1, h2]
                simp [fillP, hu]
              refine ⟨k + 1, A6, c6, hlt, by simp, by simpa using hb88.set_ 4 (.slice A6 (k + 1) c6), ?_, ?_⟩
              · rw [htk]
                exact hg.keep hset (fun b hbD h => by have := h.1; omega) fun G hG cs p h => tyN_keepR m G _ _ _ hset (fun b t hb _ h => by have := hG b hb; have := h.1; omega) cs p h
              · exact ((hch.trans_le hc7 fun _ _ _ h => h.elim).trans_le hch8 fun b t hb h => by have := hgD b h.1; omega).trans_le hset fun b t _ h => h
            case measure => simp [intOf]; omega
          · have q1 : decide (k < t.list.length) = false := decide_eq_false hlt
            obtain rfl : k = t.list.length := by omega
            have hgn := hgr.rowG fun G G' hG cs x h => tyN_subR m G G' wr hG cs x h
            rw [List.take_length] at hgn
            have hb3b := hch.blk HB.out.1 (fun h => by have := h.1; have := HB.out.2.2; omega)
            have hb6b := hch.blk HB.out.2.1 (fun h => by have := h.1; have := HB.out.2.2; omega)
            have hlt8 := hb8.lt
            have hsz := hch.size
            have HGa := Lib.hid (HG1.out.keep hch (fun b hb h => absurd h.2 (by decide)) fun cs p h => fdR_keepR m _ _ _ _ hch (fun b t hb _ h => by have h1 : D1 ≤ b := hb; have := h.1; have := HD1.out; omega) cs p h)
            clear HG1
            have HG1 := HGa
            clear HGa
            have HG2 := Lib.hid hgn
            rename World => W3a
            obtain ⟨D3, hDn⟩ : ∃ D, D = W3a.heap.size := ⟨_, rfl⟩
            have HBn := Lib.hid (And.intro hb3b (And.intro hb6b HB.out.2.2))
            have HDn := Lib.hid (show D3 = W3a.heap.size ∧ g8 < D3 ∧ w.heap.size ≤ D3 ∧ w.heap.size ≤ g8 ∧ w.heap.size ≤ g6 ∧ g6 < g8 from ⟨hDn, by omega, by omega, hdd.2.2.2.1, hdd.2.2.2.2.1, hdd.2.2.2.2.2⟩)
            have HD2 := HD
            clear HB HC HD
            have HB := HBn
            have HD := HDn
            have HC := Lib.hid hcw
            obtain ⟨c0, c1, c2, c3, c4, c5⟩ := hb3b.cells6
            clear hgr hgn hch hcw hb3b hb6b hsz hDn hdd hf20 HBn HDn hlt8
            go_wp2_with fail
            clear c0 c1 c2 c3 c4 c5 q1 q3 hlt hk
            go_loopw [70] (fun i wr => putRel3 D3 m g8 f t Ag cg Ai ci W3a i wr) (fun i _ => t.res.length - (intOf i).toNat)
            case atStart => exact ⟨0, none, 0, Nat.zero_le _, rfl, hb8, GrowR.nil _ _ _ _ _, Chg.refl _ _⟩
            case round =>
              clear hb8
              obtain ⟨k, Ah, ch, hk, rfl, hb8, hgr, hch⟩ := hrel
              have hdd := HD.out
              have hcw : Chg (fun _ _ => False) w wr := HC.out.trans_new hch fun b t hb h => by have := h.1; omega
              have hf20 := HT.out.2.2.2.2.2.2.2.2
              have q3 : IntKind.i64.wrap ((k : Int) + 1) = (k : Int) + 1 := IntWalk.i64_in _ ⟨by omega, by omega⟩
              by_cases hlt : k < t.res.length
              · have q1 : decide (k < t.res.length) = true := decide_eq_true hlt
                have q2 : (k : Int) < (t.res.length : Int) := by omega
                obtain ⟨b, o, x, Xf, xf, Xl, xl, Xr, xr, rfl, hkx, hRx, z0, z1, z2, z3, z4, z5⟩ := TysR.at_ (TysR.keep0 hcw HT.out.2.2.1) hlt
                have htl : ((t.res.take k).map (Ty.fill f)).length = k := by rw [List.length_map, List.length_take]; omega
                have hlt2 : ∀ g, (Value.slice Ah ((t.res.take k).map (Ty.fill f)).length ch).ownBlock = some g → g < wr.heap.size := fun g h => (hgr.1.lt h).1
                have hDw : D3 ≤ wr.heap.size := by have := hch.size; omega
                have hwg8 := hb8.lt
                have hk20 : k ≤ 1048576 := by omega
                have hca := chg_alloc wr (.cells #[.int .i64 x.kind, .string x.name, .int .i64 x.con, .slice Xf x.fields.length xf, .slice Xl x.list.length xl, .slice Xr x.res.length xr] 33)
                have hb9 := Blk.new wr 33 #[.int .i64 x.kind, .string x.name, .int .i64 x.con, .slice Xf x.fields.length xf, .slice Xl x.list.length xl, .slice Xr x.res.length xr]
                have hgr := hgr.keep hca (fun _ _ h => h) fun G hG cs p h => tyN_keepR m G _ _ _ hca (fun _ _ _ _ h => h) cs p h
                have hlt4 : ∀ g, (Value.slice Ah ((t.res.take k).map (Ty.fill f)).length ch).ownBlock = some g → g < (wr.alloc (.cells #[.int .i64 x.kind, .string x.name, .int .i64 x.con, .slice Xf x.fields.length xf, .slice Xl x.list.length xl, .slice Xr x.res.length xr] 33)).heap.size := fun g h => (hgr.1.lt h).1
                obtain ⟨⟨xss, how0, x2, x3, x4⟩, hgD⟩ := hgr
                rw [htl] at how0 hlt2 hgD hlt4
                have HR0 := Lib.hid (And.intro how0 (And.intro x2 (And.intro x3 (And.intro x4 (And.intro hgD (And.intro hlt4 hlt2))))))
                have HX0 := Lib.hid (And.intro (hch.trans_le hca fun _ _ _ h => h.elim) (And.intro (hcw.trans hca) (And.intro hkx (And.intro (TyR.keep0 hca hRx) (And.intro (hca.blk hb8 id) (And.intro htl (And.intro (Nat.le_trans hDw hca.size) trivial)))))))
                clear how0 x2 x3 x4 hgD hlt2 hlt4 hch hcw hkx hRx hb8 htl hDw hdd
                go_wp2_with fail
                generalize wr.alloc (.cells #[.int .i64 x.kind, .string x.name, .int .i64 x.con, .slice Xf x.fields.length xf, .slice Xl x.list.length xl, .slice Xr x.res.length xr] 33) = W2 at hca hb9 HR0 HX0 ⊢
                generalize wr.heap.size = g9 at hb9 HR0 hwg8 ⊢
                have HR := HR0
                have HX := HX0
                clear HR0 HX0 hca z0 z1 z2 z3 z4 z5
                have s0 : W2.cell? ⟨g8, 5, none⟩ = some (.slice Ah k ch) := by simpa using HX.out.2.2.2.2.1.cell 5
                have s1 : W2.cell? ⟨g9, 0, none⟩ = some (.int .i64 x.kind) := by simpa using hb9.cell 0
                have s2 : W2.cell? ⟨g9, 1, none⟩ = some (.string x.name) := by simpa using hb9.cell 1
                have s3 : W2.cell? ⟨g9, 2, none⟩ = some (.int .i64 x.con) := by simpa using hb9.cell 2
                have s4 : W2.cell? ⟨g9, 3, none⟩ = some (.slice Xf x.fields.length xf) := by simpa using hb9.cell 3
                have s5 : W2.cell? ⟨g9, 4, none⟩ = some (.slice Xl x.list.length xl) := by simpa using hb9.cell 4
                have s6 : W2.cell? ⟨g9, 5, none⟩ = some (.slice Xr x.res.length xr) := by simpa using hb9.cell 5
                clear hb9
                have hS0 : W2.drew.cell? ⟨g8, 5, none⟩ = some (.slice Ah k ch) ∧ W2.drew.cell? ⟨g9, 0, none⟩ = some (.int .i64 x.kind) ∧ W2.drew.cell? ⟨g9, 1, none⟩ = some (.string x.name) ∧ W2.drew.cell? ⟨g9, 2, none⟩ = some (.int .i64 x.con) ∧ W2.drew.cell? ⟨g9, 3, none⟩ = some (.slice Xf x.fields.length xf) ∧ W2.drew.cell? ⟨g9, 4, none⟩ = some (.slice Xl x.list.length xl) ∧ W2.drew.cell? ⟨g9, 5, none⟩ = some (.slice Xr x.res.length xr) := ⟨s0, s1, s2, s3, s4, s5, s6⟩
                refine wp_region_G (S := fun w' => w'.cell? ⟨g8, 5, none⟩ = some (.slice Ah k ch) ∧ w'.cell? ⟨g9, 0, none⟩ = some (.int .i64 x.kind) ∧ w'.cell? ⟨g9, 1, none⟩ = some (.string x.name) ∧ w'.cell? ⟨g9, 2, none⟩ = some (.int .i64 x.con) ∧ w'.cell? ⟨g9, 3, none⟩ = some (.slice Xf x.fields.length xf) ∧ w'.cell? ⟨g9, 4, none⟩ = some (.slice Xl x.list.length xl) ∧ w'.cell? ⟨g9, 5, none⟩ = some (.slice Xr x.res.length xr)) 8 (by kernel_rfl) hS0 (fun hHeld => ?_)
                refine wpAnyG_take (i := 0) (v := ?vak31) rfl (by kernel_rfl) (fun _ _ _ h => h) (Or.inl ⟨by rfl, ?hyk31⟩) (by assumption) ?rak31
                case hyk31 => (intro w hSw; (try dsimp only at hSw); go_simp; all_goals (with_reducible rfl))
                simp only [Act.put, List.setIfInBounds_toArray, List.set_cons_zero, List.set_cons_succ]
                refine wpAnyG_take (i := 1) (v := ?vak32) rfl (by kernel_rfl) (fun _ _ _ h => h) (Or.inl ⟨by rfl, ?hyk32⟩) (by assumption) ?rak32
                case hyk32 => (intro w hSw; (try dsimp only at hSw); go_simp; all_goals (with_reducible rfl))
                simp only [Act.put, List.setIfInBounds_toArray, List.set_cons_zero, List.set_cons_succ]
                refine wpAnyG_take (i := 2) (v := ?vak33) rfl (by kernel_rfl) (fun _ _ _ h => h) (Or.inl ⟨by rfl, ?hyk33⟩) (by assumption) ?rak33
                case hyk33 => (intro w hSw; (try dsimp only at hSw); go_simp; all_goals (with_reducible rfl))
                simp only [Act.put, List.setIfInBounds_toArray, List.set_cons_zero, List.set_cons_succ]
                refine wpAnyG_take (i := 3) (v := ?vak34) rfl (by kernel_rfl) (fun _ _ _ h => h) (Or.inl ⟨by rfl, ?hyk34⟩) (by assumption) ?rak34
                case hyk34 => (intro w hSw; (try dsimp only at hSw); go_simp; all_goals (with_reducible rfl))
                simp only [Act.put, List.setIfInBounds_toArray, List.set_cons_zero, List.set_cons_succ]
                refine wpAnyG_ready (rs := [4]) (by kernel_rfl) (by simp) ?_
                refine AllReadyG.cons rfl (fun K hK => ?_) AllReadyG.nil
                go_simp
                go_at_call 37
                refine (HP.out.2.2.2.2.2 W2.drew x Xf xf Xl xl Xr xr (Nat.le_trans HP.out.1 HX.out.2.1.drew.size) (HP.out.2.2.1 _ _ HX.out.2.1.drew HP.out.2.1) (TyR.keep0 ((Chg.refl (fun _ _ => False) W2).drew) HX.out.2.2.2.1)).mono ?_
                rintro e w7 ⟨Bf, bf, Bl, bl, Br, br, rfl, hN, hc7⟩
                generalize hu : x.fill f = u at hN ⊢
                have hc7' : Chg (fun _ _ => False) W2 w7 := hc7.drewl
                have v0 := hc7'.cell s0 fun _ => id
                have v1 := hc7'.cell s1 fun _ => id
                have v2 := hc7'.cell s2 fun _ => id
                have v3 := hc7'.cell s3 fun _ => id
                have v4 := hc7'.cell s4 fun _ => id
                have v5 := hc7'.cell s5 fun _ => id
                have v6 := hc7'.cell s6 fun _ => id
                have r0 := fun ob => (chg_alloc w7 ob).cell v0 fun _ => id
                have r1 := fun ob => (chg_alloc w7 ob).cell v1 fun _ => id
                have r2 := fun ob => (chg_alloc w7 ob).cell v2 fun _ => id
                have r3 := fun ob => (chg_alloc w7 ob).cell v3 fun _ => id
                have r4 := fun ob => (chg_alloc w7 ob).cell v4 fun _ => id
                have r5 := fun ob => (chg_alloc w7 ob).cell v5 fun _ => id
                have r6 := fun ob => (chg_alloc w7 ob).cell v6 fun _ => id
                have HN := Lib.hid (And.intro hN (And.intro hc7' hu))
                clear hN hc7 hc7' hu
                refine hK.out _ _ ⟨v0, v1, v2, v3, v4, v5, v6⟩ (fun hHeld => ?_)
                clear hK K
                try simp only [Act.put, List.setIfInBounds_toArray, List.set_cons_zero, List.set_cons_succ]
                refine wpAnyG_ready (rs := [5]) (by kernel_rfl) (by simp) ?_
                refine AllReadyG.cons rfl (fun K hK => ?_) AllReadyG.nil
                go_simp
                refine hK.out _ _ ⟨r0 _, r1 _, r2 _, r3 _, r4 _, r5 _, r6 _⟩ (fun hHeld => ?_)
                clear hK K
                try simp only [Act.put, List.setIfInBounds_toArray, List.set_cons_zero, List.set_cons_succ]
                refine wpAnyG_ready (rs := [6]) (by kernel_rfl) (by simp) ?_
                refine AllReadyG.cons rfl (fun K hK => ?_) AllReadyG.nil
                refine step_append_blk _ rfl (.tmp 75) (.tmp 79) 23 rfl 0 33 i39 _ 6 104 Tryd.underlying23 hi39 hz39 hs39 hb39 rfl (by omega) Ah k ch xss.flatten (by first | rfl | simp [Act.eval, Act.put]) (Chg.own (M := fun _ _ => False) (HN.out.2.1.trans (by repeat' (first | exact Chg.refl (fun _ _ => False) _ | apply Chg.drew | apply Chg.drewN | apply Chg.alloc))) HR.out.1 fun _ _ => id) 1 1 [.int .i64 u.kind, .string u.name, .int .i64 u.con, .slice Bf u.fields.length bf, .slice Bl u.list.length bl, .slice Br u.res.length br] w7.heap.size (by first | rfl | simp [Act.eval, Act.put]) (by first | exact Blk.new _ _ _ | exact (Blk.new _ _ _).drew) rfl (one_ty _ _ _ _ _ _ _ _ _ _ _ _) (by simp only [maxLen]; omega) (by omega) (Nat.zero_le _) ?_
                intro A6 c6 w8 hown6 hg6 hp6
                obtain ⟨hN, hc7, hu⟩ := HN.out
                obtain ⟨how0, x2, x3, x4, hgD, hlt2, hlt3⟩ := HR.out
                obtain ⟨hch, hcw, hkx, hRx, hb8, htl, hDw, hnms⟩ := HX.out
                have hpush := GrowR.push (x := u) (cs := (tyCells u.kind u.name u.con Bf u.fields.length bf Bl u.list.length bl Br u.res.length br)) (tyN_keepR m) (tyN_subR m) x2 x3 x4 (by rw [htl]; exact hgD) hDw hc7 (by rw [htl]; exact hc7.own how0 fun _ _ => id) (by rw [htl]; exact hlt2) hN rfl (by rw [htl]; exact ⟨hown6, hg6, hp6⟩)
                have hch8 := hpush.2
                rw [htl] at hch8
                have hdd := HD.out
                have hno8 : ∀ t, ¬ ((Value.slice Ah k ch).ownBlock = some g8 ∧ t = 33) := fun t h => by have := hgD g8 h.1; omega
                have hno9 : ∀ t, ¬ ((Value.slice Ah k ch).ownBlock = some g9 ∧ t = 33) := fun t h => by have := hlt3 g9 h.1; omega
                clear hdd
                have f0 := hch8.cell v0 hno8
                have f1 := hch8.cell v1 hno9
                have f2 := hch8.cell v2 hno9
                have f3 := hch8.cell v3 hno9
                have f4 := hch8.cell v4 hno9
                have f5 := hch8.cell v5 hno9
                have f6 := hch8.cell v6 hno9
                have hb88 := hch8.blk (hc7.blk hb8 id) (hno8 _)
                have fz := hb88.frozen 5
                have HZ := Lib.hid (And.intro hpush.1 (And.intro hch8 (And.intro hb88 hu)))
                clear hN hc7 hu how0 x2 x3 x4 hgD hlt2 hlt3 hch hcw hkx hRx hb8 htl hDw hpush hch8 hno8 hno9 hb88 hown6 hg6 hp6
                refine hK.out _ _ ⟨f0, f1, f2, f3, f4, f5, f6⟩ (fun hHeld => ?_)
                clear hK K
                try simp only [Act.put, List.setIfInBounds_toArray, List.set_cons_zero, List.set_cons_succ]
                refine wpAnyG_take (i := 7) (v := ?vak35) rfl (by kernel_rfl) (fun _ _ _ h => h) (Or.inl ⟨by rfl, ?hyk35⟩) (by assumption) ?rak35
                case hyk35 => (intro w hSw; (try dsimp only at hSw); go_simp; all_goals (with_reducible rfl))
                simp only [Act.put, List.setIfInBounds_toArray, List.set_cons_zero, List.set_cons_succ]
                refine wpAnyG_last rfl (by kernel_rfl) (by kernel_rfl) (fun K hK => ?_)
                go_simp
                refine hK.out _ _ ?_
                clear hK K
                try simp only [Act.put, List.setIfInBounds_toArray, List.set_cons_zero, List.set_cons_succ]
                clear hHeld hS0 fz s0 s1 s2 s3 s4 s5 s6 v0 v1 v2 v3 v4 v5 v6 r0 r1 r2 r3 r4 r5 r6 f0 f1 f2 f3 f4 f5 f6
                go_wp2_with fail
                go_roundw
                case rel =>
                  obtain ⟨hg, hch8, hb88, hu⟩ := HZ.out
                  obtain ⟨hch, hcw, hkx, hRx, hb8, htl, hDw, hnms⟩ := HX.out
                  obtain ⟨_, hc7, _⟩ := HN.out
                  have hgD := HR.out.2.2.2.2.1
                  have hdd := HD.out
                  have hset := chg_set (j := 5) hb88 (.slice A6 (k + 1) c6)
                  have htk : (t.res.take (k + 1)).map (Ty.fill f) = (t.res.take k).map (Ty.fill f) ++ [u] := by
                    obtain ⟨h1, h2⟩ := List.getElem?_eq_some_iff.1 hkx
                    rw [List.take_succ_eq_append_getElem h1, h2]
                    simp [fillP, hu]
                  refine ⟨k + 1, A6, c6, hlt, by simp, by simpa using hb88.set_ 5 (.slice A6 (k + 1) c6), ?_, ?_⟩
                  · rw [htk]
                    exact hg.keep hset (fun b hbD h => by have := h.1; omega) fun G hG cs p h => tyN_keepR m G _ _ _ hset (fun b t hb _ h => by have := hG b hb; have := h.1; omega) cs p h
                  · exact ((hch.trans_le hc7 fun _ _ _ h => h.elim).trans_le hch8 fun b t hb h => by have := hgD b h.1; omega).trans_le hset fun b t _ h => h
                case measure => simp [intOf]; omega
              · have q1 : decide (k < t.res.length) = false := decide_eq_false hlt
                obtain rfl : k = t.res.length := by omega
                have hgn := hgr.rowG fun G G' hG cs x h => tyN_subR m G G' wr hG cs x h
                rw [List.take_length] at hgn
                have hb3b := hch.blk HB.out.1 (fun h => by have := h.1; have := HB.out.2.2; omega)
                have hb6b := hch.blk HB.out.2.1 (fun h => by have := h.1; have := HB.out.2.2; omega)
                have hlt8 := hb8.lt
                have hsz := hch.size
                have HGa := Lib.hid (HG1.out.keep hch (fun b hb h => absurd h.2 (by decide)) fun cs p h => fdR_keepR m _ _ _ _ hch (fun b t hb _ h => by have h1 : D1 ≤ b := hb; have := h.1; have := HD1.out; omega) cs p h)
                clear HG1
                have HG1 := HGa
                clear HGa
                have HGa := Lib.hid (HG2.out.keep hch (fun b hb h => by have h1 : D2 ≤ b := hb; have := h.1; have := HD2.out; omega) fun cs p h => TyN.keep hch (fun b t hb _ h => by have h1 : D2 ≤ b := hb; have := h.1; have := HD2.out; omega) h)
                clear HG2
                have HG2 := HGa
                clear HGa
                have HG3 := Lib.hid hgn
                rename World => W4
                have HD3 := HD
                have HC := Lib.hid hcw
                have HZ6 := Lib.hid hb6b
                obtain ⟨p0, p1, p2, p3, p4, p5⟩ := hb8.cells6
                obtain ⟨d0, d1, d2, d3, d4, d5⟩ := hb6b.cells6
                have e0 := hb6b.frozen 0
                have e1 := hb6b.frozen 1
                have e2 := hb6b.frozen 2
                have e3 := hb6b.frozen 3
                have e4 := hb6b.frozen 4
                have e5 := hb6b.frozen 5
                clear hgr hgn hch hcw hb3b hb6b hb8 hsz hdd hf20
                go_wp2_with fail
                clear p0 p1 p2 p3 p4 p5 d0 d1 d2 d3 d4 d5 e0 e1 e2 e3 e4 e5
                obtain ⟨hbz, hcz⟩ := blk_set6 HZ6.out (.int .i64 t.kind) (.string t.name) (.int .i64 t.con) (.slice Ag t.fields.length cg) (.slice Ai t.list.length ci) (.slice Ah t.res.length ch)
                obtain ⟨d0, d1, d2, d3, d4, d5⟩ := hbz.cells6
                refine bodyPost_ret (v := .agg #[.int .i64 t.kind, .string t.name, .int .i64 t.con, .slice Ag t.fields.length cg, .slice Ai t.list.length ci, .slice Ah t.res.length ch]) (by simp [results, Tryd.results37, go_sem, d0, d1, d2, d3, d4, d5]) rfl ?_
                rw [HFL.out]
                have hgf := HG1.out
                have hgl := HG2.out
                have hgr := HG3.out
                have hcw3 := HC.out
                have hD1 := HD1.out
                have hD2 := HD2.out
                have hD3 := HD3.out
                obtain ⟨s1, s2, s3, s4, s5, s6⟩ := HT.out.2.2.2
                refine ⟨Ag, cg, Ai, ci, Ah, ch, by simp [Ty.kind, Ty.name, Ty.con, Ty.fields, Ty.list, Ty.res], ⟨⟨s1, s2, s3, ?_, ?_, ?_⟩, Ag, cg, Ai, ci, Ah, ch, by simp [Ty.kind, Ty.name, Ty.con, Ty.fields, Ty.list, Ty.res, tyCells], ?_, ?_, ?_⟩, ?_⟩
                · show (t.fields.map (fillP f)).length ≤ 1048576; rw [List.length_map]; exact s4
                · show (t.list.map (Ty.fill f)).length ≤ 1048576; rw [List.length_map]; exact s5
                · show (t.res.map (Ty.fill f)).length ≤ 1048576; rw [List.length_map]; exact s6
                · exact (hgf.keep hcz (fun b hb h => absurd h.2 (by decide)) fun cs p h => fdR_keepR m _ _ _ _ hcz (fun b t hb _ h => by have h1 : D1 ≤ b := hb; have := h.1; omega) cs p h).imp (fun b _ h => by have h1 : D1 ≤ b := h; omega) fun cs p h => fdR_subR m _ _ _ (fun b _ h => by have h1 : D1 ≤ b := h; omega) cs p h
                · exact (hgl.keep hcz (fun b hb h => by have h1 : D2 ≤ b := hb; have := h.1; omega) fun cs p h => TyN.keep hcz (fun b t hb _ h => by have h1 : D2 ≤ b := hb; have := h.1; omega) h).imp (fun b _ h => by have h1 : D2 ≤ b := h; omega) fun cs p h => TyN.sub (fun b _ h => by have h1 : D2 ≤ b := h; omega) h
                · exact (hgr.keep hcz (fun b hb h => by have h1 : D3 ≤ b := hb; have := h.1; omega) fun cs p h => TyN.keep hcz (fun b t hb _ h => by have h1 : D3 ≤ b := hb; have := h.1; omega) h).imp (fun b _ h => by have h1 : D3 ≤ b := h; omega) fun cs p h => TyN.sub (fun b _ h => by have h1 : D3 ≤ b := h; omega) h
                · exact hcw3.trans_new hcz fun b t hb h => by have := h.1; omega
end Go.Proofs.YtgemacdnncjmdaaDoor
