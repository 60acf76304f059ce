/-
  ref02.Look, Sound: how deep a type is, how many cells it has, whether it is sound.
-/
import Derived.Test.YtgemacdnncjmdaaDoorTShape
namespace Go.Proofs.YtgemacdnncjmdaaDoor
open Go.RowKit
set_option linter.unusedVariables false
set_option linter.unusedSimpArgs false

theorem lookL_le {f : Nat} {g : Ty → Option (Nat × Nat)} (hg : ∀ t p, g t = some p → p.1 < f ∧ p.2 ≤ 64) : ∀ {l : List Ty} {d c : Nat}, lookL g l = some (d, c) → d ≤ f ∧ c ≤ 64 * l.length
  | [], d, c, h => by
    simp only [lookL, Option.some.injEq, Prod.mk.injEq] at h
    omega
  | t :: l, d, c, h => by
    simp only [lookL] at h
    cases h1 : g t with
    | none => rw [h1] at h; cases h
    | some p =>
      cases h2 : lookL g l with
      | none => rw [h1, h2] at h; cases h
      | some q =>
        rw [h1, h2] at h
        have k1 := hg t p h1
        have k2 := lookL_le hg (d := q.1) (c := q.2) (l := l) h2
        simp only [Option.some.injEq, Prod.mk.injEq] at h
        simp only [List.length_cons]
        omega
theorem lookT_le : ∀ {f : Nat} {t : Ty} {p : Nat × Nat}, lookT f t = some p → p.1 < f ∧ p.2 ≤ 64
  | 0, t, p, h => by cases h
  | f + 1, t, p, h => by
    unfold lookT at h
    split at h
    · split at h
      · cases h
      · rename_i d c hl
        have := (lookL_le (fun t p h => lookT_le h) hl).1
        by_cases h8 : (if t.kind = 8 then c else 1) ≤ 64
        · rw [if_pos h8] at h
          injection h with h
          subst h
          exact ⟨Nat.lt_succ_of_le this, h8⟩
        · rw [if_neg h8] at h
          cases h
    · cases h
theorem lookT_shape {f : Nat} {t : Ty} (h : shapeT t = false) : lookT (f + 1) t = none := by
  unfold lookT; rw [h]; rfl
theorem lookT_bad {f : Nat} {t : Ty} (h : lookL (lookT f) t.inner = none) : lookT (f + 1) t = none := by
  unfold lookT; rw [h]; split <;> rfl
theorem lookT_struct {f : Nat} {t : Ty} {d c : Nat} (hs : shapeT t = true) (h : lookL (lookT f) t.inner = some (d, c)) (h8 : t.kind = 8) : lookT (f + 1) t = if c ≤ 64 then some (d, c) else none := by
  unfold lookT; rw [hs, h]; simp only [h8, if_true]
theorem lookT_other {f : Nat} {t : Ty} {d c : Nat} (hs : shapeT t = true) (h : lookL (lookT f) t.inner = some (d, c)) (h8 : ¬ t.kind = 8) : lookT (f + 1) t = some (d, 1) := by
  unfold lookT; rw [hs, h]; simp only [h8, if_false, if_true]; rfl
/-- What Look answers. -/
def LookRes (f : Nat) (t : Ty) (w : World) (e : Ending) (w' : World) : Prop :=
  ∃ d c : Int, e = .returned (.tuple #[.int .i64 d, .int .i64 c, .bool (lookT f t).isSome]) ∧ (∀ p, lookT f t = some p → d = p.1 ∧ c = p.2) ∧ Chg (fun _ _ => False) w w'
theorem LookRes.bad {f : Nat} {t : Ty} {w w' : World} {d c : Int} (h : lookT f t = none) (hc : Chg (fun _ _ => False) w w') : LookRes f t w (.returned (.tuple #[.int .i64 d, .int .i64 c, .bool false])) w' :=
  ⟨d, c, by rw [h]; rfl, (by rw [h]; intro p hp; cases hp), hc⟩
def lookRel (f : Nat) (l : List Ty) (W : World) (d c i : Value) (wr : World) : Prop :=
  ∃ k dd cc : Nat, k ≤ l.length ∧ i = .int .i64 k ∧ d = .int .i64 dd ∧ c = .int .i64 cc ∧ lookL (lookT f) (l.take k) = some (dd, cc) ∧ Chg (fun _ _ => False) W wr
set_option maxRecDepth 100000 in
set_option maxHeartbeats 4000000 in
theorem look_any : ∀ (f : Nat), f ≤ 1000 → ∀ (n B : Nat) (w : World) (t : Ty) (Af : Option Addr) (cf : Nat) (Al : Option Addr) (cl : Nat) (Ar : Option Addr) (cr : Nat), B ≤ w.heap.size →
    TyR n B w (tyCells t.kind t.name t.con Af t.fields.length cf Al t.list.length cl Ar t.res.length cr) t → ∀ L : Int, L = (f : Int) - 1 →
    Calls Tryd.prog 50 #[.agg #[.int .i64 t.kind, .string t.name, .int .i64 t.con, .slice Af t.fields.length cf, .slice Al t.list.length cl, .slice Ar t.res.length cr], .int .i64 L] w (LookRes f t w) := by
  intro f
  induction f with
  | zero =>
    intro hf n B w t Af cf Al cl Ar cr hB hT L hL
    clear hT
    have hL2 : L < 0 := by omega
    subst hL
    go_enter Tryd.func50, Tryd.ntmps50
    go_wp2_with fail
    go_ret3
    exact LookRes.bad rfl (chg_alloc _ _)
  | succ f IH =>
    intro hf n B w t Af cf Al cl Ar cr hB hT L hL
    obtain rfl : L = (f : Int) := by omega
    clear hL
    cases n with
    | zero => exact hT.elim
    | succ n =>
      have IH := Lib.hid (IH (by omega))
      have hsm := hT.small
      have hsh := shape_any n B
      have HT := Lib.hid (And.intro hT (And.intro hB hsm))
      clear hT hB hsm
      go_enter Tryd.func50, Tryd.ntmps50
      go_wp2_with fail
      have hb1 := Blk.new w 33 #[.int .i64 t.kind, .string t.name, .int .i64 t.con, .slice Af t.fields.length cf, .slice Al t.list.length cl, .slice Ar t.res.length cr]
      have hc1 := chg_alloc w (.cells #[.int .i64 t.kind, .string t.name, .int .i64 t.con, .slice Af t.fields.length cf, .slice Al t.list.length cl, .slice Ar t.res.length cr] 33)
      generalize w.alloc (.cells #[.int .i64 t.kind, .string t.name, .int .i64 t.con, .slice Af t.fields.length cf, .slice Al t.list.length cl, .slice Ar t.res.length cr] 33) = W at hb1 hc1 ⊢
      generalize hg : w.heap.size = g at hb1 ⊢
      refine (hsh W t Af cf Al cl Ar cr (Nat.le_trans HT.out.2.1 hc1.size) (TyR.keep0 hc1 HT.out.1)).mono fun e w1 h => ?_
      obtain ⟨rfl, hc2⟩ := h
      have hcw := hc1.trans hc2
      have hb2 := hc2.blk hb1 id
      obtain ⟨y0, y1, y2, y3, y4, y5⟩ := hb2.cells6
      have H1 := Lib.hid (And.intro hcw hb2)
      clear hb1 hc1 hc2 hb2 hcw
      cases hs : shapeT t with
      | false =>
        have HS := Lib.hid hs
        clear hs
        go_wp2_with fail
        go_ret3
        exact LookRes.bad (lookT_shape HS.out) H1.out.1
      | true =>
        have HS := Lib.hid hs
        clear hs
        go_wp2_with fail
        refine (inner_any n B w1 t Af cf Al cl Ar cr (Nat.le_trans HT.out.2.1 H1.out.1.size) (TyR.keep0 H1.out.1 HT.out.1)).mono fun e w2 h => ?_
        obtain ⟨A, c, rfl, hrow, hc3⟩ := h
        have hrow2 : TysR n w2.heap.size w2 (.slice A t.inner.length c) t.inner := hrow.settleT (by decide) fun _ _ h => TyR.more (Nat.le_trans HT.out.2.1 (H1.out.1.trans hc3).size) h
        have hlen : t.inner.length ≤ 3145728 := by
          obtain ⟨_, _, _, s4, s5, s6⟩ := HT.out.2.2
          simp only [Ty.inner, List.length_append, List.length_map]
          omega
        have H2 := Lib.hid (And.intro hrow2 (And.intro (H1.out.1.trans hc3) (hc3.blk H1.out.2 id)))
        clear hrow hrow2 hc3 y0 y1 y2 y3 y4 y5
        go_wp2_with fail
        go_loopw [8, 9, 10, 11, 12, 13] (fun d c i _ _ _ wr => lookRel f t.inner w2 d c i wr) (fun _ _ i _ _ _ _ => t.inner.length - (intOf i).toNat)
        case atStart => exact ⟨0, 0, 0, Nat.zero_le _, rfl, rfl, rfl, rfl, Chg.refl _ _⟩
        case round =>
          obtain ⟨k, dd, cc, hk, rfl, rfl, rfl, hL, hch⟩ := hrel
          have q3 : IntKind.i64.wrap ((k : Int) + 1) = (k : Int) + 1 := IntWalk.i64_in _ ⟨by omega, by omega⟩
          have q4 : IntKind.i64.wrap ((f : Int) - 1) = (f : Int) - 1 := IntWalk.i64_in _ ⟨by omega, by omega⟩
          obtain ⟨hdd, hcc⟩ := lookL_le (f := f) (fun t p h => lookT_le h) hL
          have hcc2 : cc ≤ 64 * 3145728 := by
            have : (t.inner.take k).length ≤ t.inner.length := by rw [List.length_take]; omega
            omega
          clear hcc
          by_cases hlt : k < t.inner.length
          · have q1 : decide (k < t.inner.length) = true := decide_eq_true hlt
            have q2 : (k : Int) < (t.inner.length : Int) := by omega
            obtain ⟨b, o, x, Xf, xf, Xl, xl, Xr, xr, rfl, hkx, hRx, z0, z1, z2, z3, z4, z5⟩ := TysR.at_ (TysR.keep0 hch H2.out.1) hlt
            have HR := Lib.hid (And.intro hL (And.intro hch (And.intro hkx hRx)))
            clear hL hch hkx hRx
            go_wp2_with fail
            refine (IH.out n w2.heap.size wr x Xf xf Xl xl Xr xr HR.out.2.1.size HR.out.2.2.2 ((f : Int) - 1) rfl).mono fun e w3 h => ?_
            obtain ⟨d1, c1, rfl, hdc, hc4⟩ := h
            have hch4 := HR.out.2.1.trans hc4
            cases hx : lookT f x with
            | none =>
              have HX := Lib.hid (And.intro hx hch4)
              clear hdc hx hc4 hch4
              go_wp2_with fail
              go_ret3
              exact LookRes.bad (lookT_bad (lookL_bad HR.out.2.2.1 HX.out.1)) (H2.out.2.1.trans HX.out.2)
            | some p =>
              obtain ⟨hd1, hc1⟩ := hdc p hx
              obtain ⟨hp1, hp2⟩ := lookT_le hx
              obtain ⟨pd, pc⟩ := p
              dsimp only at hd1 hc1 hp1 hp2
              subst hd1
              subst hc1
              have hsn : lookL (lookT f) (t.inner.take (k + 1)) = some (max dd (pd + 1), cc + pc) := by
                obtain ⟨h1, h2⟩ := List.getElem?_eq_some_iff.1 HR.out.2.2.1
                rw [List.take_succ_eq_append_getElem h1, h2, lookL_snoc, HR.out.1, hx]
              have HX := Lib.hid (And.intro hsn hch4)
              clear hdc hx hc4 hch4 hsn
              have r1 : IntKind.i64.wrap ((pd : Int) + 1) = (pd : Int) + 1 := IntWalk.i64_in _ ⟨by omega, by omega⟩
              have r2 : IntKind.i64.wrap ((cc : Int) + (pc : Int)) = (cc : Int) + (pc : Int) := IntWalk.i64_in _ ⟨by omega, by omega⟩
              by_cases hm : (dd : Int) < (pd : Int) + 1
              · go_wp2_with fail
                go_roundw
                case rel => exact ⟨k + 1, pd + 1, cc + pc, hlt, by simp, by simp, by simp, by rw [HX.out.1, Nat.max_eq_right (by omega)], HX.out.2⟩
                case measure => simp [intOf]; omega
              · go_wp2_with fail
                go_roundw
                case rel => exact ⟨k + 1, dd, cc + pc, hlt, by simp, by simp, by simp, by rw [HX.out.1, Nat.max_eq_left (by omega)], HX.out.2⟩
                case measure => simp [intOf]; omega
          · have q1 : decide (k < t.inner.length) = false := decide_eq_false hlt
            obtain rfl : k = t.inner.length := by omega
            rw [List.take_length] at hL
            obtain ⟨y0, y1, y2, y3, y4, y5⟩ := (hch.blk H2.out.2.2 id).cells6
            have hcw := H2.out.2.1.trans hch
            by_cases h8 : t.kind = 8
            · have q8 : (t.kind == 8) = true := by simp [h8]
              have HE := Lib.hid (And.intro (lookT_struct HS.out hL h8) hcw)
              clear hL hch hcw h8
              go_wp2_with fail
              go_ret3
              refine ⟨dd, cc, ?_, ?_, HE.out.2⟩
              · rw [HE.out.1]
                by_cases h64 : cc ≤ 64
                · rw [if_pos h64, decide_eq_true (by omega)]; rfl
                · rw [if_neg h64, decide_eq_false (by omega)]; rfl
              · rw [HE.out.1]
                intro p hp
                by_cases h64 : cc ≤ 64
                · rw [if_pos h64] at hp; injection hp with hp; subst hp; exact ⟨rfl, rfl⟩
                · rw [if_neg h64] at hp; cases hp
            · have q8 : (t.kind == 8) = false := by simp [h8]
              have HE := Lib.hid (And.intro (lookT_other HS.out hL h8) hcw)
              clear hL hch hcw
              go_wp2_with fail
              go_ret3
              refine ⟨dd, 1, ?_, ?_, HE.out.2⟩
              · rw [HE.out.1]; rfl
              · rw [HE.out.1]
                intro p hp
                injection hp with hp
                subst hp
                exact ⟨rfl, rfl⟩
end Go.Proofs.YtgemacdnncjmdaaDoor
