/-
  A slice of a type; the walk of TypesNest.
-/
import Derived.Test.YtefiefckjoledaaDoorTCmp
import Derived.Test.YtefiefckjoledaaDoorTTypesSameW
namespace Go.Proofs.YtefiefckjoledaaDoor
open Go.RowKit
set_option linter.unusedVariables false
set_option linter.unusedSimpArgs false

def slT (k : Int) (t : Ty) : Ty := .mk k ⟨#[]⟩ 0 [] [t] []
theorem lookL_up {g g' : Ty → Option (Nat × Nat)} (hg : ∀ x q, g x = some q → g' x = some q) : ∀ {l : List Ty} {p : Nat × Nat}, lookL g l = some p → lookL g' l = some p
  | [], p, h => h
  | t :: l, p, h => by
    simp only [lookL] at h ⊢
    cases h1 : g t with
    | none => rw [h1] at h; cases h
    | some q =>
      cases h2 : lookL g l with
      | none => rw [h1, h2] at h; cases h
      | some q' =>
        rw [h1, h2] at h
        rw [hg t q h1, lookL_up hg h2]
        exact h
theorem lookL_down {f : Nat} {g g' : Ty → Option (Nat × Nat)} (hg : ∀ x (q : Nat × Nat), g x = some q → q.1 < f → g' x = some q) : ∀ {l : List Ty} {p : Nat × Nat}, lookL g l = some p → p.1 ≤ f → lookL g' l = some p
  | [], p, h, _ => h
  | t :: l, p, h, hp => by
    simp only [lookL] at h ⊢
    cases h1 : g t with
    | none => rw [h1] at h; cases h
    | some q =>
      cases h2 : lookL g l with
      | none => rw [h1, h2] at h; cases h
      | some q' =>
        rw [h1, h2] at h
        have h3 := Option.some.inj h
        have k1 : q.1 < f := by rw [← h3] at hp; simp only at hp; omega
        have k2 : q'.1 ≤ f := by rw [← h3] at hp; simp only at hp; omega
        rw [hg t q h1 k1, lookL_down hg h2 k2]
        exact h
theorem lookT_eq (f : Nat) (t : Ty) : lookT (f + 1) t = if shapeT t then match lookL (lookT f) t.inner with
      | none => none
      | some (d, c) => if (if t.kind = 8 then c else 1) ≤ 64 then some (d, if t.kind = 8 then c else 1) else none
    else none := rfl
theorem lookT_inv {f : Nat} {t : Ty} {p : Nat × Nat} (h : lookT (f + 1) t = some p) : shapeT t = true ∧ ∃ c, lookL (lookT f) t.inner = some (p.1, c) ∧ (if t.kind = 8 then c else 1) ≤ 64 ∧ p.2 = (if t.kind = 8 then c else 1) := by
  rw [lookT_eq] at h
  cases hs : shapeT t with
  | false => rw [hs] at h; cases h
  | true =>
    rw [hs, if_pos rfl] at h
    refine ⟨rfl, ?_⟩
    cases hl : lookL (lookT f) t.inner with
    | none => rw [hl] at h; cases h
    | some q =>
      rw [hl] at h
      obtain ⟨d, c⟩ := q
      simp only at h
      by_cases hc : (if t.kind = 8 then c else 1) ≤ 64
      · rw [if_pos hc] at h
        have h := Option.some.inj h
        subst h
        exact ⟨c, rfl, hc, rfl⟩
      · rw [if_neg hc] at h
        cases h
theorem lookT_mk {f : Nat} {t : Ty} {d c : Nat} (hs : shapeT t = true) (hl : lookL (lookT f) t.inner = some (d, c)) (hc : (if t.kind = 8 then c else 1) ≤ 64) : lookT (f + 1) t = some (d, if t.kind = 8 then c else 1) := by
  rw [lookT_eq, hs, if_pos rfl, hl]
  simp only
  rw [if_pos hc]
theorem lookT_up : ∀ {f : Nat} {t : Ty} {p : Nat × Nat}, lookT f t = some p → lookT (f + 1) t = some p
  | 0, t, p, h => by cases h
  | f + 1, t, p, h => by
    obtain ⟨hs, c, hl, hc, hp⟩ := lookT_inv h
    rw [lookT_mk hs (lookL_up (fun x q => lookT_up) hl) hc, ← hp]
theorem lookT_down : ∀ {f : Nat} {t : Ty} {p : Nat × Nat}, lookT (f + 1) t = some p → p.1 < f → lookT f t = some p
  | 0, t, p, h, hp => absurd hp (Nat.not_lt_zero _)
  | f + 1, t, p, h, hp => by
    obtain ⟨hs, c, hl, hc, hp2⟩ := lookT_inv h
    rw [lookT_mk hs (lookL_down (fun x q => lookT_down) hl (by omega)) hc, ← hp2]
theorem toldF_succ (f : Nat) (t : Ty) : toldF (f + 1) t = if t.kind = 8 ∨ t.kind = 12 then t.name
    else if t.kind = 9 then ⟨#[91, 93]⟩ ++ joinB (t.list.map (toldF f))
    else if t.kind = 10 then ⟨#[99, 104, 97, 110, 32]⟩ ++ joinB (t.list.map (toldF f))
    else if t.kind = 11 then (if t.res.length = 0 then ⟨#[102, 117, 110, 99, 40]⟩ ++ joinB (t.list.map (toldF f)) ++ ⟨#[41]⟩ else (⟨#[102, 117, 110, 99, 40]⟩ ++ joinB (t.list.map (toldF f)) ++ ⟨#[41]⟩) ++ (⟨#[32]⟩ ++ joinB (t.res.map (toldF f))))
    else basicB t.kind := rfl
theorem toldF_up : ∀ {f : Nat} {t : Ty}, (lookT f t).isSome = true → toldF (f + 1) t = toldF f t
  | 0, t, h => by cases h
  | f + 1, t, h => by
    obtain ⟨_, hin⟩ := lookT_open h
    have h1 : t.list.map (toldF (f + 1)) = t.list.map (toldF f) := List.map_congr_left fun x hx => toldF_up (hin x (mem_list hx))
    have h2 : t.res.map (toldF (f + 1)) = t.res.map (toldF f) := List.map_congr_left fun x hx => toldF_up (hin x (mem_res hx))
    rw [toldF_succ (f + 1), toldF_succ f, h1, h2]
theorem joinB_one (x : ByteArray) : joinB [x] = x := by
  unfold joinB
  rw [List.map_cons, List.map_nil, Lib.join_one]
theorem shape_sl {k : Int} (hk : k = 9 ∨ k = 10) (t : Ty) : shapeT (slT k t) = true := by
  rw [shape9 (t := slT k t) hk, bare_iff]
  simp [slT, Ty.name, Ty.con, Ty.fields, Ty.list, Ty.res, empty_toList]
theorem look_sl {k : Int} (hk : k = 9 ∨ k = 10) (t : Ty) : lookT 9 (slT k t) = match lookT 8 t with | some (d, c) => some (d + 1, 1) | none => none := by
  have h8 : ¬ (slT k t).kind = 8 := by show ¬ k = 8; omega
  have hin : (slT k t).inner = [t] := rfl
  cases h : lookT 8 t with
  | none => exact lookT_bad (by rw [hin]; simp only [lookL, h])
  | some p => exact lookT_other (shape_sl hk t) (d := p.1 + 1) (c := p.2) (by rw [hin]; simp only [lookL, h]; simp) h8
theorem nest_good {k : Int} (hk : k = 9 ∨ k = 10) {t : Ty} (hs : soundT t = true) (hd : ¬ depthT t = 8) : (lookT 8 t).isSome = true ∧ soundT (slT k t) = true ∧ depthT (slT k t) = depthT t + 1 ∧ cellsT (slT k t) = 1 ∧ 0 ≤ depthT t ∧ depthT t ≤ 8 := by
  unfold soundT at hs
  cases h9 : lookT 9 t with
  | none => rw [h9] at hs; cases hs
  | some p =>
    have hp := lookT_le h9
    have hd2 : depthT t = p.1 := by unfold depthT; rw [h9]
    have h8 : lookT 8 t = some p := lookT_down h9 (by omega)
    have hl := look_sl hk t
    rw [h8] at hl
    refine ⟨by rw [h8]; rfl, by unfold soundT; rw [hl]; rfl, ?_, by unfold cellsT; rw [hl]; rfl, by omega, by omega⟩
    unfold depthT
    rw [hl, h9]
    simp
theorem nest_bad {k : Int} (hk : k = 9 ∨ k = 10) {t : Ty} (h : soundT t = false ∨ depthT t = 8) : soundT (slT k t) = false ∧ depthT (slT k t) = 0 := by
  have h8 : lookT 8 t = none := by
    cases h8 : lookT 8 t with
    | none => rfl
    | some p =>
      have h9 := lookT_up h8
      have hp := lookT_le h8
      rcases h with h | h
      · unfold soundT at h; rw [h9] at h; cases h
      · unfold depthT at h; rw [h9] at h; simp only at h; omega
  have hl := look_sl hk t
  rw [h8] at hl
  exact ⟨by unfold soundT; rw [hl]; rfl, by unfold depthT; rw [hl]⟩
theorem told_sl {t : Ty} (h : (lookT 8 t).isSome = true) : toldF 9 (slT 9 t) = ⟨#[91, 93]⟩ ++ toldF 9 t := by
  rw [toldF_succ, if_neg (c := (slT 9 t).kind = 8 ∨ (slT 9 t).kind = 12) (show ¬ ((9 : Int) = 8 ∨ (9 : Int) = 12) by decide), if_pos (c := (slT 9 t).kind = 9) (show (9 : Int) = 9 from rfl)]
  show _ ++ joinB [toldF 8 t] = _
  rw [joinB_one, toldF_up h]
/-- A slice of a type that has just been laid. -/
theorem sl_tyR {n : Nat} {w : World} {t : Ty} (k : Int) (hk : k = 9 ∨ k = 10) {Xf Xl Xr : Option Addr} {xf xl xr : Nat} (h : TyR n w.heap.size w (tyCells t.kind t.name t.con Xf t.fields.length xf Xl t.list.length xl Xr t.res.length xr) t) :
    TyR (n + 1) ((w.alloc (.cells #[.int .i64 t.kind, .string t.name, .int .i64 t.con, .slice Xf t.fields.length xf, .slice Xl t.list.length xl, .slice Xr t.res.length xr] 39)).alloc (.cells #[.int .i64 k, .string ⟨#[]⟩, .int .i64 0, .slice none 0 0, .slice (some ⟨w.heap.size, 0, none⟩) 1 1, .slice none 0 0] 39)).heap.size ((w.alloc (.cells #[.int .i64 t.kind, .string t.name, .int .i64 t.con, .slice Xf t.fields.length xf, .slice Xl t.list.length xl, .slice Xr t.res.length xr] 39)).alloc (.cells #[.int .i64 k, .string ⟨#[]⟩, .int .i64 0, .slice none 0 0, .slice (some ⟨w.heap.size, 0, none⟩) 1 1, .slice none 0 0] 39))
      (tyCells (slT k t).kind (slT k t).name (slT k t).con none (slT k t).fields.length 0 (some ⟨w.heap.size, 0, none⟩) (slT k t).list.length 1 none (slT k t).res.length 0) (slT k t) := by
  have hb := (Blk.new w 39 #[.int .i64 t.kind, .string t.name, .int .i64 t.con, .slice Xf t.fields.length xf, .slice Xl t.list.length xl, .slice Xr t.res.length xr]).alloc (.cells #[.int .i64 k, .string ⟨#[]⟩, .int .i64 0, .slice none 0 0, .slice (some ⟨w.heap.size, 0, none⟩) 1 1, .slice none 0 0] 39)
  have hc := (chg_alloc w (.cells #[.int .i64 t.kind, .string t.name, .int .i64 t.con, .slice Xf t.fields.length xf, .slice Xl t.list.length xl, .slice Xr t.res.length xr] 39)).alloc (.cells #[.int .i64 k, .string ⟨#[]⟩, .int .i64 0, .slice none 0 0, .slice (some ⟨w.heap.size, 0, none⟩) 1 1, .slice none 0 0] 39)
  have hX := ty_next h hc
  obtain ⟨d0, d1, d2, d3, d4, d5⟩ := hb.cells6
  have hlt := hb.lt
  generalize (w.alloc (.cells #[.int .i64 t.kind, .string t.name, .int .i64 t.con, .slice Xf t.fields.length xf, .slice Xl t.list.length xl, .slice Xr t.res.length xr] 39)).alloc (.cells #[.int .i64 k, .string ⟨#[]⟩, .int .i64 0, .slice none 0 0, .slice (some ⟨w.heap.size, 0, none⟩) 1 1, .slice none 0 0] 39) = W at hX d0 d1 d2 d3 d4 d5 hlt ⊢
  refine ⟨⟨by unfold I64; show _ ≤ k ∧ k ≤ _; omega, by unfold I64; show _ ≤ (0 : Int) ∧ (0 : Int) ≤ _; decide, by show (⟨#[]⟩ : ByteArray).size ≤ _; decide, by show [].length ≤ _; simp, by show [t].length ≤ _; simp, by show [].length ≤ _; simp⟩, none, 0, _, 1, none, 0, rfl, SlR.nil _ _ _ _ _ _ _, ⟨_, _, rfl, by show 1 ≤ 1; omega, fun _ => ⟨_, _, rfl, .inl hlt, hlt, fun j x hx => ?_⟩⟩, SlR.nil _ _ _ _ _ _ _⟩
  match j, hx with
  | 0, hx =>
    injection hx with hx
    subst hx
    refine ⟨_, rfl, hX, fun i u hu => ?_⟩
    match i, hu with
    | 0, hu => injection hu with hu; subst hu; exact d0
    | 1, hu => injection hu with hu; subst hu; exact d1
    | 2, hu => injection hu with hu; subst hu; exact d2
    | 3, hu => injection hu with hu; subst hu; exact d3
    | 4, hu => injection hu with hu; subst hu; exact d4
    | 5, hu => injection hu with hu; subst hu; exact d5
    | i + 6, hu => cases hu
  | j + 1, hx => exact absurd hx (by simp [slT, Ty.list])
set_option maxRecDepth 100000 in
set_option maxHeartbeats 16000000 in
theorem typesNest_walk (n B : Nat) (w : World) (t : Ty) (Af : Option Addr) (cf : Nat) (Al : Option Addr) (cl : Nat) (Ar : Option Addr) (cr : Nat) (hB : B ≤ w.heap.size) (hTab : Tabs w) (hT : TyR n B w (tyCells t.kind t.name t.con Af t.fields.length cf Al t.list.length cl Ar t.res.length cr) t) :
    Calls Tryd.prog 11 #[.agg #[.int .i64 t.kind, .string t.name, .int .i64 t.con, .slice Af t.fields.length cf, .slice Al t.list.length cl, .slice Ar t.res.length cr]] w fun e w' => e = .returned (.bool true) ∧ Chg (fun _ _ => False) w w' := by
  have hb1 := Blk.new w 39 #[.int .i64 t.kind, .string t.name, .int .i64 t.con, .slice Af t.fields.length cf, .slice Al t.list.length cl, .slice Ar t.res.length cr]
  have hc1 := chg_alloc w (.cells #[.int .i64 t.kind, .string t.name, .int .i64 t.con, .slice Af t.fields.length cf, .slice Al t.list.length cl, .slice Ar t.res.length cr] 39)
  have H := Lib.hid (And.intro hB (And.intro hTab hT))
  have HH := Lib.hid (And.intro hb1 hc1)
  have td := fun (D : Nat) (w1 : World) Xf xf Xl xl Xr xr => depth_any n D w1 t Xf xf Xl xl Xr xr
  have tx := fun (D : Nat) (w1 : World) Xf xf Xl xl Xr xr => text_any n D w1 t Xf xf Xl xl Xr xr
  have sd := fun (D : Nat) (w1 : World) Xf xf Xl xl Xr xr => depth_any (n + 1) D w1 (slT 9 t) Xf xf Xl xl Xr xr
  have sc := fun (D : Nat) (w1 : World) Xf xf Xl xl Xr xr => cells_any (n + 1) D w1 (slT 9 t) Xf xf Xl xl Xr xr
  have sx := fun (D : Nat) (w1 : World) Xf xf Xl xl Xr xr => text_any (n + 1) D w1 (slT 9 t) Xf xf Xl xl Xr xr
  have sp := fun (D : Nat) (w1 : World) Xf xf Xl xl Xr xr => comparable_any (n + 1) D w1 (slT 9 t) Xf xf Xl xl Xr xr
  have cp := fun (D : Nat) (w1 : World) Xf xf Xl xl Xr xr => comparable_any (n + 1) D w1 (slT 10 t) Xf xf Xl xl Xr xr
  clear hB hTab hT hb1 hc1
  cases hs : soundT t with
  | true =>
    by_cases hd : depthT t = 8
    · obtain ⟨b1, b2⟩ := nest_bad (k := 9) (.inl rfl) (.inr hd)
      simp only [hs, hd, if_true, show errOf true = 0 from rfl] at td tx
      simp only [b1, b2, show errOf false = 1 from rfl] at sd
      clear hs hd b1 b2 sc sx sp cp
      go_enter Tryd.func11, Tryd.ntmps11
      go_wp2_with fail
      generalize w.alloc (.cells #[.int .i64 t.kind, .string t.name, .int .i64 t.con, .slice Af t.fields.length cf, .slice Al t.list.length cl, .slice Ar t.res.length cr] 39) = W at HH ⊢
      generalize w.heap.size = g1 at HH ⊢
      obtain ⟨y0, y1, y2, y3, y4, y5⟩ := HH.out.1.cells6
      have hcw := HH.out.2
      clear HH
      refine (own2_any n B _ t Af cf Al cl Ar cr (Nat.le_trans H.out.1 hcw.size) (TyR.keep0 hcw H.out.2.2)).mono fun e w1 h => ?_
      obtain ⟨Xf, xf, Xl, xl, Xr, xr, rfl, hN, hc⟩ := h
      replace y0 := hc.cell y0 fun _ => id
      replace y1 := hc.cell y1 fun _ => id
      replace y2 := hc.cell y2 fun _ => id
      replace y3 := hc.cell y3 fun _ => id
      replace y4 := hc.cell y4 fun _ => id
      replace y5 := hc.cell y5 fun _ => id
      replace hcw := hcw.trans hc
      have hX := TyN.tyR hN

      clear hN
      clear hc
      go_wp2_with fail
      refine (td _ _ _ _ _ _ _ _ (Nat.le_refl _) (H.out.2.1.keep0 hcw) hX).mono fun e w2 h => ?_
      obtain ⟨rfl, hc⟩ := h
      replace y0 := hc.cell y0 fun _ => id
      replace y1 := hc.cell y1 fun _ => id
      replace y2 := hc.cell y2 fun _ => id
      replace y3 := hc.cell y3 fun _ => id
      replace y4 := hc.cell y4 fun _ => id
      replace y5 := hc.cell y5 fun _ => id
      replace hcw := hcw.trans hc
      clear hX
      clear hc
      go_wp2_with fail
      refine (own2_any n B _ t Af cf Al cl Ar cr (Nat.le_trans H.out.1 hcw.size) (TyR.keep0 hcw H.out.2.2)).mono fun e w3 h => ?_
      obtain ⟨Xf, xf, Xl, xl, Xr, xr, rfl, hN, hc⟩ := h
      replace y0 := hc.cell y0 fun _ => id
      replace y1 := hc.cell y1 fun _ => id
      replace y2 := hc.cell y2 fun _ => id
      replace y3 := hc.cell y3 fun _ => id
      replace y4 := hc.cell y4 fun _ => id
      replace y5 := hc.cell y5 fun _ => id
      replace hcw := hcw.trans hc
      have hX := TyN.tyR hN

      clear hN
      clear hc
      go_wp2_with fail
      refine (tx _ _ _ _ _ _ _ _ (Nat.le_refl _) (H.out.2.1.keep0 hcw) hX).mono fun e w4 h => ?_
      obtain ⟨rfl, hc⟩ := h
      replace y0 := hc.cell y0 fun _ => id
      replace y1 := hc.cell y1 fun _ => id
      replace y2 := hc.cell y2 fun _ => id
      replace y3 := hc.cell y3 fun _ => id
      replace y4 := hc.cell y4 fun _ => id
      replace y5 := hc.cell y5 fun _ => id
      replace hcw := hcw.trans hc
      clear hX
      clear hc
      go_wp2_with fail
      refine (own2_any n B _ t Af cf Al cl Ar cr (Nat.le_trans H.out.1 hcw.size) (TyR.keep0 hcw H.out.2.2)).mono fun e w5 h => ?_
      obtain ⟨Xf, xf, Xl, xl, Xr, xr, rfl, hN, hc⟩ := h
      replace y0 := hc.cell y0 fun _ => id
      replace y1 := hc.cell y1 fun _ => id
      replace y2 := hc.cell y2 fun _ => id
      replace y3 := hc.cell y3 fun _ => id
      replace y4 := hc.cell y4 fun _ => id
      replace y5 := hc.cell y5 fun _ => id
      replace hcw := hcw.trans hc
      have hX := TyN.tyR hN

      clear hN
      clear hc
      have hca := (chg_alloc w5 (.cells #[.int .i64 t.kind, .string t.name, .int .i64 t.con, .slice Xf t.fields.length xf, .slice Xl t.list.length xl, .slice Xr t.res.length xr] 39)).alloc (.cells #[.int .i64 9, .string ⟨#[]⟩, .int .i64 0, .slice none 0 0, .slice (some ⟨w5.heap.size, 0, none⟩) 1 1, .slice none 0 0] 39)
      have hS := sl_tyR 9 (.inl rfl) hX
      have hbn := Blk.new (w5.alloc (.cells #[.int .i64 t.kind, .string t.name, .int .i64 t.con, .slice Xf t.fields.length xf, .slice Xl t.list.length xl, .slice Xr t.res.length xr] 39)) 39 #[.int .i64 9, .string ⟨#[]⟩, .int .i64 0, .slice none 0 0, .slice (some ⟨w5.heap.size, 0, none⟩) 1 1, .slice none 0 0]
      simp only [World.size_alloc] at hbn
      replace y0 := hca.cell y0 fun _ => id
      replace y1 := hca.cell y1 fun _ => id
      replace y2 := hca.cell y2 fun _ => id
      replace y3 := hca.cell y3 fun _ => id
      replace y4 := hca.cell y4 fun _ => id
      replace y5 := hca.cell y5 fun _ => id
      replace hcw := hcw.trans hca

      go_wp2_with fail
      generalize (w5.alloc (.cells #[.int .i64 t.kind, .string t.name, .int .i64 t.con, .slice Xf t.fields.length xf, .slice Xl t.list.length xl, .slice Xr t.res.length xr] 39)).alloc (.cells #[.int .i64 9, .string ⟨#[]⟩, .int .i64 0, .slice none 0 0, .slice (some ⟨w5.heap.size, 0, none⟩) 1 1, .slice none 0 0] 39) = W5 at y0 y1 y2 y3 y4 y5 hcw hS hbn  ⊢
      generalize w5.heap.size + 1 = gv5 at hbn y0 y1 y2 y3 y4 y5 ⊢
      generalize w5.heap.size = gw5 at hS hbn ⊢
      obtain ⟨z0, z1, z2, z3, z4, z5⟩ := hbn.cells6
      clear hbn hca hX
      refine (own2_any n B _ t Af cf Al cl Ar cr (Nat.le_trans H.out.1 hcw.size) (TyR.keep0 hcw H.out.2.2)).mono fun e w6 h => ?_
      obtain ⟨Xf, xf, Xl, xl, Xr, xr, rfl, hN, hc⟩ := h
      replace y0 := hc.cell y0 fun _ => id
      replace y1 := hc.cell y1 fun _ => id
      replace y2 := hc.cell y2 fun _ => id
      replace y3 := hc.cell y3 fun _ => id
      replace y4 := hc.cell y4 fun _ => id
      replace y5 := hc.cell y5 fun _ => id
      replace z0 := hc.cell z0 fun _ => id
      replace z1 := hc.cell z1 fun _ => id
      replace z2 := hc.cell z2 fun _ => id
      replace z3 := hc.cell z3 fun _ => id
      replace z4 := hc.cell z4 fun _ => id
      replace z5 := hc.cell z5 fun _ => id
      replace hcw := hcw.trans hc
      have hX := TyN.tyR hN
      replace hS := ty_next hS hc
      clear hN
      clear hc
      have hca := (chg_alloc w6 (.cells #[.int .i64 t.kind, .string t.name, .int .i64 t.con, .slice Xf t.fields.length xf, .slice Xl t.list.length xl, .slice Xr t.res.length xr] 39)).alloc (.cells #[.int .i64 10, .string ⟨#[]⟩, .int .i64 0, .slice none 0 0, .slice (some ⟨w6.heap.size, 0, none⟩) 1 1, .slice none 0 0] 39)
      have hC := sl_tyR 10 (.inr rfl) hX
      have hbn := Blk.new (w6.alloc (.cells #[.int .i64 t.kind, .string t.name, .int .i64 t.con, .slice Xf t.fields.length xf, .slice Xl t.list.length xl, .slice Xr t.res.length xr] 39)) 39 #[.int .i64 10, .string ⟨#[]⟩, .int .i64 0, .slice none 0 0, .slice (some ⟨w6.heap.size, 0, none⟩) 1 1, .slice none 0 0]
      simp only [World.size_alloc] at hbn
      replace y0 := hca.cell y0 fun _ => id
      replace y1 := hca.cell y1 fun _ => id
      replace y2 := hca.cell y2 fun _ => id
      replace y3 := hca.cell y3 fun _ => id
      replace y4 := hca.cell y4 fun _ => id
      replace y5 := hca.cell y5 fun _ => id
      replace z0 := hca.cell z0 fun _ => id
      replace z1 := hca.cell z1 fun _ => id
      replace z2 := hca.cell z2 fun _ => id
      replace z3 := hca.cell z3 fun _ => id
      replace z4 := hca.cell z4 fun _ => id
      replace z5 := hca.cell z5 fun _ => id
      replace hcw := hcw.trans hca
      replace hS := ty_next hS hca
      go_wp2_with fail
      generalize (w6.alloc (.cells #[.int .i64 t.kind, .string t.name, .int .i64 t.con, .slice Xf t.fields.length xf, .slice Xl t.list.length xl, .slice Xr t.res.length xr] 39)).alloc (.cells #[.int .i64 10, .string ⟨#[]⟩, .int .i64 0, .slice none 0 0, .slice (some ⟨w6.heap.size, 0, none⟩) 1 1, .slice none 0 0] 39) = W6 at y0 y1 y2 y3 y4 y5 z0 z1 z2 z3 z4 z5 hcw hC hbn hS ⊢
      generalize w6.heap.size + 1 = gv6 at hbn y0 y1 y2 y3 y4 y5 z0 z1 z2 z3 z4 z5 ⊢
      generalize w6.heap.size = gw6 at hC hbn ⊢
      obtain ⟨u0, u1, u2, u3, u4, u5⟩ := hbn.cells6
      clear hbn hca hX
      refine (sd _ _ _ _ _ _ _ _ (Nat.le_refl _) (H.out.2.1.keep0 hcw) hS).mono fun e w7 h => ?_
      obtain ⟨rfl, hc⟩ := h
      replace y0 := hc.cell y0 fun _ => id
      replace y1 := hc.cell y1 fun _ => id
      replace y2 := hc.cell y2 fun _ => id
      replace y3 := hc.cell y3 fun _ => id
      replace y4 := hc.cell y4 fun _ => id
      replace y5 := hc.cell y5 fun _ => id
      replace z0 := hc.cell z0 fun _ => id
      replace z1 := hc.cell z1 fun _ => id
      replace z2 := hc.cell z2 fun _ => id
      replace z3 := hc.cell z3 fun _ => id
      replace z4 := hc.cell z4 fun _ => id
      replace z5 := hc.cell z5 fun _ => id
      replace u0 := hc.cell u0 fun _ => id
      replace u1 := hc.cell u1 fun _ => id
      replace u2 := hc.cell u2 fun _ => id
      replace u3 := hc.cell u3 fun _ => id
      replace u4 := hc.cell u4 fun _ => id
      replace u5 := hc.cell u5 fun _ => id
      replace hcw := hcw.trans hc
      replace hS := ty_next hS hc
      replace hC := ty_next hC hc
      clear hc
      go_wp2_with fail
      refine (answers2_any _ (H.out.2.1.keep0 hcw)).mono fun e w8 h => ?_
      obtain ⟨rfl, hc⟩ := h
      replace y0 := hc.cell y0 fun _ => id
      replace y1 := hc.cell y1 fun _ => id
      replace y2 := hc.cell y2 fun _ => id
      replace y3 := hc.cell y3 fun _ => id
      replace y4 := hc.cell y4 fun _ => id
      replace y5 := hc.cell y5 fun _ => id
      replace z0 := hc.cell z0 fun _ => id
      replace z1 := hc.cell z1 fun _ => id
      replace z2 := hc.cell z2 fun _ => id
      replace z3 := hc.cell z3 fun _ => id
      replace z4 := hc.cell z4 fun _ => id
      replace z5 := hc.cell z5 fun _ => id
      replace u0 := hc.cell u0 fun _ => id
      replace u1 := hc.cell u1 fun _ => id
      replace u2 := hc.cell u2 fun _ => id
      replace u3 := hc.cell u3 fun _ => id
      replace u4 := hc.cell u4 fun _ => id
      replace u5 := hc.cell u5 fun _ => id
      replace hcw := hcw.trans hc
      replace hS := ty_next hS hc
      replace hC := ty_next hC hc
      clear hc
      go_wp2_with fail
      go_ret
      exact ⟨rfl, hcw⟩
    · obtain ⟨b0, b1, b2, b3, b4, b5⟩ := nest_good (k := 9) (.inl rfl) hs hd
      obtain ⟨_, c1, _, _, _, _⟩ := nest_good (k := 10) (.inr rfl) hs hd
      have htl := told_sl b0
      have hsz := toldF_size (f := 9) (t := t) hs
      have hsz9 := szT_9 (show 9 ≤ 9 by omega)
      have hq : (depthT t == 8) = false := by simp [hd]
      have hp : decide (depthT t = 8) = false := decide_eq_false hd
      have hw : IntKind.i64.wrap (depthT t + 1) = depthT t + 1 := IntWalk.i64_in _ ⟨by omega, by omega⟩
      simp only [hs, if_true, show errOf true = 0 from rfl] at td tx
      simp only [b1, b2, b3, htl, c1, if_true, show errOf true = 0 from rfl, show cmpF 9 (slT 9 t) = false from rfl, show cmpF 9 (slT 10 t) = true from rfl, Bool.true_and] at sd sc sx sp cp
      clear hs b0 b1 b2 b3 htl c1
      generalize depthT t = dt at td sd sc hd b4 b5 hq hp hw
      generalize toldF 9 t = tt at tx sx hsz
      replace hd := Lib.hid hd
      go_enter Tryd.func11, Tryd.ntmps11
      go_wp2_with fail
      generalize w.alloc (.cells #[.int .i64 t.kind, .string t.name, .int .i64 t.con, .slice Af t.fields.length cf, .slice Al t.list.length cl, .slice Ar t.res.length cr] 39) = W at HH ⊢
      generalize w.heap.size = g1 at HH ⊢
      obtain ⟨y0, y1, y2, y3, y4, y5⟩ := HH.out.1.cells6
      have hcw := HH.out.2
      clear HH
      refine (own2_any n B _ t Af cf Al cl Ar cr (Nat.le_trans H.out.1 hcw.size) (TyR.keep0 hcw H.out.2.2)).mono fun e w1 h => ?_
      obtain ⟨Xf, xf, Xl, xl, Xr, xr, rfl, hN, hc⟩ := h
      replace y0 := hc.cell y0 fun _ => id
      replace y1 := hc.cell y1 fun _ => id
      replace y2 := hc.cell y2 fun _ => id
      replace y3 := hc.cell y3 fun _ => id
      replace y4 := hc.cell y4 fun _ => id
      replace y5 := hc.cell y5 fun _ => id
      replace hcw := hcw.trans hc
      have hX := TyN.tyR hN

      clear hN
      clear hc
      go_wp2_with fail
      refine (td _ _ _ _ _ _ _ _ (Nat.le_refl _) (H.out.2.1.keep0 hcw) hX).mono fun e w2 h => ?_
      obtain ⟨rfl, hc⟩ := h
      replace y0 := hc.cell y0 fun _ => id
      replace y1 := hc.cell y1 fun _ => id
      replace y2 := hc.cell y2 fun _ => id
      replace y3 := hc.cell y3 fun _ => id
      replace y4 := hc.cell y4 fun _ => id
      replace y5 := hc.cell y5 fun _ => id
      replace hcw := hcw.trans hc
      clear hX
      clear hc
      go_wp2_with fail
      refine (own2_any n B _ t Af cf Al cl Ar cr (Nat.le_trans H.out.1 hcw.size) (TyR.keep0 hcw H.out.2.2)).mono fun e w3 h => ?_
      obtain ⟨Xf, xf, Xl, xl, Xr, xr, rfl, hN, hc⟩ := h
      replace y0 := hc.cell y0 fun _ => id
      replace y1 := hc.cell y1 fun _ => id
      replace y2 := hc.cell y2 fun _ => id
      replace y3 := hc.cell y3 fun _ => id
      replace y4 := hc.cell y4 fun _ => id
      replace y5 := hc.cell y5 fun _ => id
      replace hcw := hcw.trans hc
      have hX := TyN.tyR hN

      clear hN
      clear hc
      go_wp2_with fail
      refine (tx _ _ _ _ _ _ _ _ (Nat.le_refl _) (H.out.2.1.keep0 hcw) hX).mono fun e w4 h => ?_
      obtain ⟨rfl, hc⟩ := h
      replace y0 := hc.cell y0 fun _ => id
      replace y1 := hc.cell y1 fun _ => id
      replace y2 := hc.cell y2 fun _ => id
      replace y3 := hc.cell y3 fun _ => id
      replace y4 := hc.cell y4 fun _ => id
      replace y5 := hc.cell y5 fun _ => id
      replace hcw := hcw.trans hc
      clear hX
      clear hc
      go_wp2_with fail
      refine (own2_any n B _ t Af cf Al cl Ar cr (Nat.le_trans H.out.1 hcw.size) (TyR.keep0 hcw H.out.2.2)).mono fun e w5 h => ?_
      obtain ⟨Xf, xf, Xl, xl, Xr, xr, rfl, hN, hc⟩ := h
      replace y0 := hc.cell y0 fun _ => id
      replace y1 := hc.cell y1 fun _ => id
      replace y2 := hc.cell y2 fun _ => id
      replace y3 := hc.cell y3 fun _ => id
      replace y4 := hc.cell y4 fun _ => id
      replace y5 := hc.cell y5 fun _ => id
      replace hcw := hcw.trans hc
      have hX := TyN.tyR hN

      clear hN
      clear hc
      have hca := (chg_alloc w5 (.cells #[.int .i64 t.kind, .string t.name, .int .i64 t.con, .slice Xf t.fields.length xf, .slice Xl t.list.length xl, .slice Xr t.res.length xr] 39)).alloc (.cells #[.int .i64 9, .string ⟨#[]⟩, .int .i64 0, .slice none 0 0, .slice (some ⟨w5.heap.size, 0, none⟩) 1 1, .slice none 0 0] 39)
      have hS := sl_tyR 9 (.inl rfl) hX
      have hbn := Blk.new (w5.alloc (.cells #[.int .i64 t.kind, .string t.name, .int .i64 t.con, .slice Xf t.fields.length xf, .slice Xl t.list.length xl, .slice Xr t.res.length xr] 39)) 39 #[.int .i64 9, .string ⟨#[]⟩, .int .i64 0, .slice none 0 0, .slice (some ⟨w5.heap.size, 0, none⟩) 1 1, .slice none 0 0]
      simp only [World.size_alloc] at hbn
      replace y0 := hca.cell y0 fun _ => id
      replace y1 := hca.cell y1 fun _ => id
      replace y2 := hca.cell y2 fun _ => id
      replace y3 := hca.cell y3 fun _ => id
      replace y4 := hca.cell y4 fun _ => id
      replace y5 := hca.cell y5 fun _ => id
      replace hcw := hcw.trans hca

      go_wp2_with fail
      generalize (w5.alloc (.cells #[.int .i64 t.kind, .string t.name, .int .i64 t.con, .slice Xf t.fields.length xf, .slice Xl t.list.length xl, .slice Xr t.res.length xr] 39)).alloc (.cells #[.int .i64 9, .string ⟨#[]⟩, .int .i64 0, .slice none 0 0, .slice (some ⟨w5.heap.size, 0, none⟩) 1 1, .slice none 0 0] 39) = W5 at y0 y1 y2 y3 y4 y5 hcw hS hbn  ⊢
      generalize w5.heap.size + 1 = gv5 at hbn y0 y1 y2 y3 y4 y5 ⊢
      generalize w5.heap.size = gw5 at hS hbn ⊢
      obtain ⟨z0, z1, z2, z3, z4, z5⟩ := hbn.cells6
      clear hbn hca hX
      refine (own2_any n B _ t Af cf Al cl Ar cr (Nat.le_trans H.out.1 hcw.size) (TyR.keep0 hcw H.out.2.2)).mono fun e w6 h => ?_
      obtain ⟨Xf, xf, Xl, xl, Xr, xr, rfl, hN, hc⟩ := h
      replace y0 := hc.cell y0 fun _ => id
      replace y1 := hc.cell y1 fun _ => id
      replace y2 := hc.cell y2 fun _ => id
      replace y3 := hc.cell y3 fun _ => id
      replace y4 := hc.cell y4 fun _ => id
      replace y5 := hc.cell y5 fun _ => id
      replace z0 := hc.cell z0 fun _ => id
      replace z1 := hc.cell z1 fun _ => id
      replace z2 := hc.cell z2 fun _ => id
      replace z3 := hc.cell z3 fun _ => id
      replace z4 := hc.cell z4 fun _ => id
      replace z5 := hc.cell z5 fun _ => id
      replace hcw := hcw.trans hc
      have hX := TyN.tyR hN
      replace hS := ty_next hS hc
      clear hN
      clear hc
      have hca := (chg_alloc w6 (.cells #[.int .i64 t.kind, .string t.name, .int .i64 t.con, .slice Xf t.fields.length xf, .slice Xl t.list.length xl, .slice Xr t.res.length xr] 39)).alloc (.cells #[.int .i64 10, .string ⟨#[]⟩, .int .i64 0, .slice none 0 0, .slice (some ⟨w6.heap.size, 0, none⟩) 1 1, .slice none 0 0] 39)
      have hC := sl_tyR 10 (.inr rfl) hX
      have hbn := Blk.new (w6.alloc (.cells #[.int .i64 t.kind, .string t.name, .int .i64 t.con, .slice Xf t.fields.length xf, .slice Xl t.list.length xl, .slice Xr t.res.length xr] 39)) 39 #[.int .i64 10, .string ⟨#[]⟩, .int .i64 0, .slice none 0 0, .slice (some ⟨w6.heap.size, 0, none⟩) 1 1, .slice none 0 0]
      simp only [World.size_alloc] at hbn
      replace y0 := hca.cell y0 fun _ => id
      replace y1 := hca.cell y1 fun _ => id
      replace y2 := hca.cell y2 fun _ => id
      replace y3 := hca.cell y3 fun _ => id
      replace y4 := hca.cell y4 fun _ => id
      replace y5 := hca.cell y5 fun _ => id
      replace z0 := hca.cell z0 fun _ => id
      replace z1 := hca.cell z1 fun _ => id
      replace z2 := hca.cell z2 fun _ => id
      replace z3 := hca.cell z3 fun _ => id
      replace z4 := hca.cell z4 fun _ => id
      replace z5 := hca.cell z5 fun _ => id
      replace hcw := hcw.trans hca
      replace hS := ty_next hS hca
      go_wp2_with fail
      generalize (w6.alloc (.cells #[.int .i64 t.kind, .string t.name, .int .i64 t.con, .slice Xf t.fields.length xf, .slice Xl t.list.length xl, .slice Xr t.res.length xr] 39)).alloc (.cells #[.int .i64 10, .string ⟨#[]⟩, .int .i64 0, .slice none 0 0, .slice (some ⟨w6.heap.size, 0, none⟩) 1 1, .slice none 0 0] 39) = W6 at y0 y1 y2 y3 y4 y5 z0 z1 z2 z3 z4 z5 hcw hC hbn hS ⊢
      generalize w6.heap.size + 1 = gv6 at hbn y0 y1 y2 y3 y4 y5 z0 z1 z2 z3 z4 z5 ⊢
      generalize w6.heap.size = gw6 at hC hbn ⊢
      obtain ⟨u0, u1, u2, u3, u4, u5⟩ := hbn.cells6
      clear hbn hca hX
      refine (sd _ _ _ _ _ _ _ _ (Nat.le_refl _) (H.out.2.1.keep0 hcw) hS).mono fun e w7 h => ?_
      obtain ⟨rfl, hc⟩ := h
      replace y0 := hc.cell y0 fun _ => id
      replace y1 := hc.cell y1 fun _ => id
      replace y2 := hc.cell y2 fun _ => id
      replace y3 := hc.cell y3 fun _ => id
      replace y4 := hc.cell y4 fun _ => id
      replace y5 := hc.cell y5 fun _ => id
      replace z0 := hc.cell z0 fun _ => id
      replace z1 := hc.cell z1 fun _ => id
      replace z2 := hc.cell z2 fun _ => id
      replace z3 := hc.cell z3 fun _ => id
      replace z4 := hc.cell z4 fun _ => id
      replace z5 := hc.cell z5 fun _ => id
      replace u0 := hc.cell u0 fun _ => id
      replace u1 := hc.cell u1 fun _ => id
      replace u2 := hc.cell u2 fun _ => id
      replace u3 := hc.cell u3 fun _ => id
      replace u4 := hc.cell u4 fun _ => id
      replace u5 := hc.cell u5 fun _ => id
      replace hcw := hcw.trans hc
      replace hS := ty_next hS hc
      replace hC := ty_next hC hc
      clear hc
      go_wp2_with fail
      refine (answers2_any _ (H.out.2.1.keep0 hcw)).mono fun e w8 h => ?_
      obtain ⟨rfl, hc⟩ := h
      replace y0 := hc.cell y0 fun _ => id
      replace y1 := hc.cell y1 fun _ => id
      replace y2 := hc.cell y2 fun _ => id
      replace y3 := hc.cell y3 fun _ => id
      replace y4 := hc.cell y4 fun _ => id
      replace y5 := hc.cell y5 fun _ => id
      replace z0 := hc.cell z0 fun _ => id
      replace z1 := hc.cell z1 fun _ => id
      replace z2 := hc.cell z2 fun _ => id
      replace z3 := hc.cell z3 fun _ => id
      replace z4 := hc.cell z4 fun _ => id
      replace z5 := hc.cell z5 fun _ => id
      replace u0 := hc.cell u0 fun _ => id
      replace u1 := hc.cell u1 fun _ => id
      replace u2 := hc.cell u2 fun _ => id
      replace u3 := hc.cell u3 fun _ => id
      replace u4 := hc.cell u4 fun _ => id
      replace u5 := hc.cell u5 fun _ => id
      replace hcw := hcw.trans hc
      replace hS := ty_next hS hc
      replace hC := ty_next hC hc
      clear hc
      go_wp2_with fail
      refine (sc _ _ _ _ _ _ _ _ (Nat.le_refl _) (H.out.2.1.keep0 hcw) hS).mono fun e w9 h => ?_
      obtain ⟨rfl, hc⟩ := h
      replace y0 := hc.cell y0 fun _ => id
      replace y1 := hc.cell y1 fun _ => id
      replace y2 := hc.cell y2 fun _ => id
      replace y3 := hc.cell y3 fun _ => id
      replace y4 := hc.cell y4 fun _ => id
      replace y5 := hc.cell y5 fun _ => id
      replace z0 := hc.cell z0 fun _ => id
      replace z1 := hc.cell z1 fun _ => id
      replace z2 := hc.cell z2 fun _ => id
      replace z3 := hc.cell z3 fun _ => id
      replace z4 := hc.cell z4 fun _ => id
      replace z5 := hc.cell z5 fun _ => id
      replace u0 := hc.cell u0 fun _ => id
      replace u1 := hc.cell u1 fun _ => id
      replace u2 := hc.cell u2 fun _ => id
      replace u3 := hc.cell u3 fun _ => id
      replace u4 := hc.cell u4 fun _ => id
      replace u5 := hc.cell u5 fun _ => id
      replace hcw := hcw.trans hc
      replace hS := ty_next hS hc
      replace hC := ty_next hC hc
      clear hc
      go_wp2_with fail
      refine (sx _ _ _ _ _ _ _ _ (Nat.le_refl _) (H.out.2.1.keep0 hcw) hS).mono fun e w10 h => ?_
      obtain ⟨rfl, hc⟩ := h
      replace y0 := hc.cell y0 fun _ => id
      replace y1 := hc.cell y1 fun _ => id
      replace y2 := hc.cell y2 fun _ => id
      replace y3 := hc.cell y3 fun _ => id
      replace y4 := hc.cell y4 fun _ => id
      replace y5 := hc.cell y5 fun _ => id
      replace z0 := hc.cell z0 fun _ => id
      replace z1 := hc.cell z1 fun _ => id
      replace z2 := hc.cell z2 fun _ => id
      replace z3 := hc.cell z3 fun _ => id
      replace z4 := hc.cell z4 fun _ => id
      replace z5 := hc.cell z5 fun _ => id
      replace u0 := hc.cell u0 fun _ => id
      replace u1 := hc.cell u1 fun _ => id
      replace u2 := hc.cell u2 fun _ => id
      replace u3 := hc.cell u3 fun _ => id
      replace u4 := hc.cell u4 fun _ => id
      replace u5 := hc.cell u5 fun _ => id
      replace hcw := hcw.trans hc
      replace hS := ty_next hS hc
      replace hC := ty_next hC hc
      clear hc
      go_wp2_with fail
      refine (sp _ _ _ _ _ _ _ _ (Nat.le_refl _) (H.out.2.1.keep0 hcw) hS).mono fun e w11 h => ?_
      obtain ⟨rfl, hc⟩ := h
      replace y0 := hc.cell y0 fun _ => id
      replace y1 := hc.cell y1 fun _ => id
      replace y2 := hc.cell y2 fun _ => id
      replace y3 := hc.cell y3 fun _ => id
      replace y4 := hc.cell y4 fun _ => id
      replace y5 := hc.cell y5 fun _ => id
      replace z0 := hc.cell z0 fun _ => id
      replace z1 := hc.cell z1 fun _ => id
      replace z2 := hc.cell z2 fun _ => id
      replace z3 := hc.cell z3 fun _ => id
      replace z4 := hc.cell z4 fun _ => id
      replace z5 := hc.cell z5 fun _ => id
      replace u0 := hc.cell u0 fun _ => id
      replace u1 := hc.cell u1 fun _ => id
      replace u2 := hc.cell u2 fun _ => id
      replace u3 := hc.cell u3 fun _ => id
      replace u4 := hc.cell u4 fun _ => id
      replace u5 := hc.cell u5 fun _ => id
      replace hcw := hcw.trans hc
      replace hS := ty_next hS hc
      replace hC := ty_next hC hc
      clear hc
      go_wp2_with fail
      refine (cp _ _ _ _ _ _ _ _ (Nat.le_refl _) (H.out.2.1.keep0 hcw) hC).mono fun e w12 h => ?_
      obtain ⟨rfl, hc⟩ := h
      replace y0 := hc.cell y0 fun _ => id
      replace y1 := hc.cell y1 fun _ => id
      replace y2 := hc.cell y2 fun _ => id
      replace y3 := hc.cell y3 fun _ => id
      replace y4 := hc.cell y4 fun _ => id
      replace y5 := hc.cell y5 fun _ => id
      replace z0 := hc.cell z0 fun _ => id
      replace z1 := hc.cell z1 fun _ => id
      replace z2 := hc.cell z2 fun _ => id
      replace z3 := hc.cell z3 fun _ => id
      replace z4 := hc.cell z4 fun _ => id
      replace z5 := hc.cell z5 fun _ => id
      replace u0 := hc.cell u0 fun _ => id
      replace u1 := hc.cell u1 fun _ => id
      replace u2 := hc.cell u2 fun _ => id
      replace u3 := hc.cell u3 fun _ => id
      replace u4 := hc.cell u4 fun _ => id
      replace u5 := hc.cell u5 fun _ => id
      replace hcw := hcw.trans hc
      replace hS := ty_next hS hc
      replace hC := ty_next hC hc
      clear hc
      go_wp2_with fail
      go_ret
      refine ⟨?_, hcw⟩
      first
        | rfl
        | (simp; done)
        | simp_all
  | false =>
    obtain ⟨b1, b2⟩ := nest_bad (k := 9) (.inl rfl) (.inl hs)
    simp only [hs, if_false, Bool.false_eq_true, show errOf false = 1 from rfl] at td tx
    simp only [b1, b2, show errOf false = 1 from rfl] at sd
    clear hs b1 b2 sc sx sp cp
    go_enter Tryd.func11, Tryd.ntmps11
    go_wp2_with fail
    generalize w.alloc (.cells #[.int .i64 t.kind, .string t.name, .int .i64 t.con, .slice Af t.fields.length cf, .slice Al t.list.length cl, .slice Ar t.res.length cr] 39) = W at HH ⊢
    generalize w.heap.size = g1 at HH ⊢
    obtain ⟨y0, y1, y2, y3, y4, y5⟩ := HH.out.1.cells6
    have hcw := HH.out.2
    clear HH
    refine (own2_any n B _ t Af cf Al cl Ar cr (Nat.le_trans H.out.1 hcw.size) (TyR.keep0 hcw H.out.2.2)).mono fun e w1 h => ?_
    obtain ⟨Xf, xf, Xl, xl, Xr, xr, rfl, hN, hc⟩ := h
    replace y0 := hc.cell y0 fun _ => id
    replace y1 := hc.cell y1 fun _ => id
    replace y2 := hc.cell y2 fun _ => id
    replace y3 := hc.cell y3 fun _ => id
    replace y4 := hc.cell y4 fun _ => id
    replace y5 := hc.cell y5 fun _ => id
    replace hcw := hcw.trans hc
    have hX := TyN.tyR hN

    clear hN
    clear hc
    go_wp2_with fail
    refine (td _ _ _ _ _ _ _ _ (Nat.le_refl _) (H.out.2.1.keep0 hcw) hX).mono fun e w2 h => ?_
    obtain ⟨rfl, hc⟩ := h
    replace y0 := hc.cell y0 fun _ => id
    replace y1 := hc.cell y1 fun _ => id
    replace y2 := hc.cell y2 fun _ => id
    replace y3 := hc.cell y3 fun _ => id
    replace y4 := hc.cell y4 fun _ => id
    replace y5 := hc.cell y5 fun _ => id
    replace hcw := hcw.trans hc
    clear hX
    clear hc
    go_wp2_with fail
    refine (own2_any n B _ t Af cf Al cl Ar cr (Nat.le_trans H.out.1 hcw.size) (TyR.keep0 hcw H.out.2.2)).mono fun e w3 h => ?_
    obtain ⟨Xf, xf, Xl, xl, Xr, xr, rfl, hN, hc⟩ := h
    replace y0 := hc.cell y0 fun _ => id
    replace y1 := hc.cell y1 fun _ => id
    replace y2 := hc.cell y2 fun _ => id
    replace y3 := hc.cell y3 fun _ => id
    replace y4 := hc.cell y4 fun _ => id
    replace y5 := hc.cell y5 fun _ => id
    replace hcw := hcw.trans hc
    have hX := TyN.tyR hN

    clear hN
    clear hc
    go_wp2_with fail
    refine (tx _ _ _ _ _ _ _ _ (Nat.le_refl _) (H.out.2.1.keep0 hcw) hX).mono fun e w4 h => ?_
    obtain ⟨rfl, hc⟩ := h
    replace y0 := hc.cell y0 fun _ => id
    replace y1 := hc.cell y1 fun _ => id
    replace y2 := hc.cell y2 fun _ => id
    replace y3 := hc.cell y3 fun _ => id
    replace y4 := hc.cell y4 fun _ => id
    replace y5 := hc.cell y5 fun _ => id
    replace hcw := hcw.trans hc
    clear hX
    clear hc
    go_wp2_with fail
    refine (own2_any n B _ t Af cf Al cl Ar cr (Nat.le_trans H.out.1 hcw.size) (TyR.keep0 hcw H.out.2.2)).mono fun e w5 h => ?_
    obtain ⟨Xf, xf, Xl, xl, Xr, xr, rfl, hN, hc⟩ := h
    replace y0 := hc.cell y0 fun _ => id
    replace y1 := hc.cell y1 fun _ => id
    replace y2 := hc.cell y2 fun _ => id
    replace y3 := hc.cell y3 fun _ => id
    replace y4 := hc.cell y4 fun _ => id
    replace y5 := hc.cell y5 fun _ => id
    replace hcw := hcw.trans hc
    have hX := TyN.tyR hN

    clear hN
    clear hc
    have hca := (chg_alloc w5 (.cells #[.int .i64 t.kind, .string t.name, .int .i64 t.con, .slice Xf t.fields.length xf, .slice Xl t.list.length xl, .slice Xr t.res.length xr] 39)).alloc (.cells #[.int .i64 9, .string ⟨#[]⟩, .int .i64 0, .slice none 0 0, .slice (some ⟨w5.heap.size, 0, none⟩) 1 1, .slice none 0 0] 39)
    have hS := sl_tyR 9 (.inl rfl) hX
    have hbn := Blk.new (w5.alloc (.cells #[.int .i64 t.kind, .string t.name, .int .i64 t.con, .slice Xf t.fields.length xf, .slice Xl t.list.length xl, .slice Xr t.res.length xr] 39)) 39 #[.int .i64 9, .string ⟨#[]⟩, .int .i64 0, .slice none 0 0, .slice (some ⟨w5.heap.size, 0, none⟩) 1 1, .slice none 0 0]
    simp only [World.size_alloc] at hbn
    replace y0 := hca.cell y0 fun _ => id
    replace y1 := hca.cell y1 fun _ => id
    replace y2 := hca.cell y2 fun _ => id
    replace y3 := hca.cell y3 fun _ => id
    replace y4 := hca.cell y4 fun _ => id
    replace y5 := hca.cell y5 fun _ => id
    replace hcw := hcw.trans hca

    go_wp2_with fail
    generalize (w5.alloc (.cells #[.int .i64 t.kind, .string t.name, .int .i64 t.con, .slice Xf t.fields.length xf, .slice Xl t.list.length xl, .slice Xr t.res.length xr] 39)).alloc (.cells #[.int .i64 9, .string ⟨#[]⟩, .int .i64 0, .slice none 0 0, .slice (some ⟨w5.heap.size, 0, none⟩) 1 1, .slice none 0 0] 39) = W5 at y0 y1 y2 y3 y4 y5 hcw hS hbn  ⊢
    generalize w5.heap.size + 1 = gv5 at hbn y0 y1 y2 y3 y4 y5 ⊢
    generalize w5.heap.size = gw5 at hS hbn ⊢
    obtain ⟨z0, z1, z2, z3, z4, z5⟩ := hbn.cells6
    clear hbn hca hX
    refine (own2_any n B _ t Af cf Al cl Ar cr (Nat.le_trans H.out.1 hcw.size) (TyR.keep0 hcw H.out.2.2)).mono fun e w6 h => ?_
    obtain ⟨Xf, xf, Xl, xl, Xr, xr, rfl, hN, hc⟩ := h
    replace y0 := hc.cell y0 fun _ => id
    replace y1 := hc.cell y1 fun _ => id
    replace y2 := hc.cell y2 fun _ => id
    replace y3 := hc.cell y3 fun _ => id
    replace y4 := hc.cell y4 fun _ => id
    replace y5 := hc.cell y5 fun _ => id
    replace z0 := hc.cell z0 fun _ => id
    replace z1 := hc.cell z1 fun _ => id
    replace z2 := hc.cell z2 fun _ => id
    replace z3 := hc.cell z3 fun _ => id
    replace z4 := hc.cell z4 fun _ => id
    replace z5 := hc.cell z5 fun _ => id
    replace hcw := hcw.trans hc
    have hX := TyN.tyR hN
    replace hS := ty_next hS hc
    clear hN
    clear hc
    have hca := (chg_alloc w6 (.cells #[.int .i64 t.kind, .string t.name, .int .i64 t.con, .slice Xf t.fields.length xf, .slice Xl t.list.length xl, .slice Xr t.res.length xr] 39)).alloc (.cells #[.int .i64 10, .string ⟨#[]⟩, .int .i64 0, .slice none 0 0, .slice (some ⟨w6.heap.size, 0, none⟩) 1 1, .slice none 0 0] 39)
    have hC := sl_tyR 10 (.inr rfl) hX
    have hbn := Blk.new (w6.alloc (.cells #[.int .i64 t.kind, .string t.name, .int .i64 t.con, .slice Xf t.fields.length xf, .slice Xl t.list.length xl, .slice Xr t.res.length xr] 39)) 39 #[.int .i64 10, .string ⟨#[]⟩, .int .i64 0, .slice none 0 0, .slice (some ⟨w6.heap.size, 0, none⟩) 1 1, .slice none 0 0]
    simp only [World.size_alloc] at hbn
    replace y0 := hca.cell y0 fun _ => id
    replace y1 := hca.cell y1 fun _ => id
    replace y2 := hca.cell y2 fun _ => id
    replace y3 := hca.cell y3 fun _ => id
    replace y4 := hca.cell y4 fun _ => id
    replace y5 := hca.cell y5 fun _ => id
    replace z0 := hca.cell z0 fun _ => id
    replace z1 := hca.cell z1 fun _ => id
    replace z2 := hca.cell z2 fun _ => id
    replace z3 := hca.cell z3 fun _ => id
    replace z4 := hca.cell z4 fun _ => id
    replace z5 := hca.cell z5 fun _ => id
    replace hcw := hcw.trans hca
    replace hS := ty_next hS hca
    go_wp2_with fail
    generalize (w6.alloc (.cells #[.int .i64 t.kind, .string t.name, .int .i64 t.con, .slice Xf t.fields.length xf, .slice Xl t.list.length xl, .slice Xr t.res.length xr] 39)).alloc (.cells #[.int .i64 10, .string ⟨#[]⟩, .int .i64 0, .slice none 0 0, .slice (some ⟨w6.heap.size, 0, none⟩) 1 1, .slice none 0 0] 39) = W6 at y0 y1 y2 y3 y4 y5 z0 z1 z2 z3 z4 z5 hcw hC hbn hS ⊢
    generalize w6.heap.size + 1 = gv6 at hbn y0 y1 y2 y3 y4 y5 z0 z1 z2 z3 z4 z5 ⊢
    generalize w6.heap.size = gw6 at hC hbn ⊢
    obtain ⟨u0, u1, u2, u3, u4, u5⟩ := hbn.cells6
    clear hbn hca hX
    refine (sd _ _ _ _ _ _ _ _ (Nat.le_refl _) (H.out.2.1.keep0 hcw) hS).mono fun e w7 h => ?_
    obtain ⟨rfl, hc⟩ := h
    replace y0 := hc.cell y0 fun _ => id
    replace y1 := hc.cell y1 fun _ => id
    replace y2 := hc.cell y2 fun _ => id
    replace y3 := hc.cell y3 fun _ => id
    replace y4 := hc.cell y4 fun _ => id
    replace y5 := hc.cell y5 fun _ => id
    replace z0 := hc.cell z0 fun _ => id
    replace z1 := hc.cell z1 fun _ => id
    replace z2 := hc.cell z2 fun _ => id
    replace z3 := hc.cell z3 fun _ => id
    replace z4 := hc.cell z4 fun _ => id
    replace z5 := hc.cell z5 fun _ => id
    replace u0 := hc.cell u0 fun _ => id
    replace u1 := hc.cell u1 fun _ => id
    replace u2 := hc.cell u2 fun _ => id
    replace u3 := hc.cell u3 fun _ => id
    replace u4 := hc.cell u4 fun _ => id
    replace u5 := hc.cell u5 fun _ => id
    replace hcw := hcw.trans hc
    replace hS := ty_next hS hc
    replace hC := ty_next hC hc
    clear hc
    go_wp2_with fail
    refine (answers2_any _ (H.out.2.1.keep0 hcw)).mono fun e w8 h => ?_
    obtain ⟨rfl, hc⟩ := h
    replace y0 := hc.cell y0 fun _ => id
    replace y1 := hc.cell y1 fun _ => id
    replace y2 := hc.cell y2 fun _ => id
    replace y3 := hc.cell y3 fun _ => id
    replace y4 := hc.cell y4 fun _ => id
    replace y5 := hc.cell y5 fun _ => id
    replace z0 := hc.cell z0 fun _ => id
    replace z1 := hc.cell z1 fun _ => id
    replace z2 := hc.cell z2 fun _ => id
    replace z3 := hc.cell z3 fun _ => id
    replace z4 := hc.cell z4 fun _ => id
    replace z5 := hc.cell z5 fun _ => id
    replace u0 := hc.cell u0 fun _ => id
    replace u1 := hc.cell u1 fun _ => id
    replace u2 := hc.cell u2 fun _ => id
    replace u3 := hc.cell u3 fun _ => id
    replace u4 := hc.cell u4 fun _ => id
    replace u5 := hc.cell u5 fun _ => id
    replace hcw := hcw.trans hc
    replace hS := ty_next hS hc
    replace hC := ty_next hC hc
    clear hc
    go_wp2_with fail
    go_ret
    exact ⟨rfl, hcw⟩
end Go.Proofs.YtefiefckjoledaaDoor
