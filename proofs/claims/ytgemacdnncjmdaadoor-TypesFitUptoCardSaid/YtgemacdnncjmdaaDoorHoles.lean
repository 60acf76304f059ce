/-
  ref02.Holes: the names of parameters in a type, behind others.
-/
import Derived.Test.YtgemacdnncjmdaaDoorTUniN
import Derived.Test.YtgemacdnncjmdaaDoorTSubst4
import Derived.Test.YtgemacdnncjmdaaDoorTInner
namespace Go.Proofs.YtgemacdnncjmdaaDoor
open Go.RowKit
set_option linter.unusedVariables false
set_option linter.unusedSimpArgs false

def nodesB : Nat → Nat
  | 0 => 0
  | f + 1 => 1 + 17 * nodesB f
theorem nodesB_mono : ∀ {f : Nat}, f ≤ 9 → nodesB f ≤ 7411742281
  | 0, _ => by decide
  | 1, _ => by decide
  | 2, _ => by decide
  | 3, _ => by decide
  | 4, _ => by decide
  | 5, _ => by decide
  | 6, _ => by decide
  | 7, _ => by decide
  | 8, _ => by decide
  | 9, _ => by decide
  | f + 10, h => by omega
theorem addT_len (l : List ByteArray) (s : ByteArray) : (addT l s).length ≤ l.length + 1 := by
  by_cases h : s ∈ l
  · rw [addT_in h]; omega
  · rw [addT_out h]; simp
theorem shape_inner {t : Ty} (h : shapeT t = true) : t.inner.length ≤ 17 := by
  have hi : t.inner.length = t.fields.length + t.list.length + t.res.length := by simp [Ty.inner, Nat.add_assoc]
  unfold shapeT at h
  by_cases h8 : t.kind = 8
  · rw [if_pos h8] at h
    simp only [bare, Bool.and_eq_true, Bool.or_eq_true, decide_eq_true_eq, Bool.true_or, Bool.false_or] at h
    have h1 : t.fields.length ≤ 16 := h.1.1.2
    have h2 : t.list.length = 0 := by simpa using h.1.1.1.1.1.2
    have h3 : t.res.length = 0 := by simpa using h.1.1.1.1.2
    omega
  · rw [if_neg h8] at h
    by_cases h9 : t.kind = 9 ∨ t.kind = 10
    · rw [if_pos h9] at h
      simp only [bare, Bool.and_eq_true, Bool.or_eq_true, decide_eq_true_eq, Bool.true_or, Bool.false_or] at h
      have h1 : t.fields.length = 0 := by simpa using h.1.1.1.2
      have h2 : t.list.length = 1 := h.2
      have h3 : t.res.length = 0 := by simpa using h.1.2
      omega
    · rw [if_neg h9] at h
      by_cases h11 : t.kind = 11
      · rw [if_pos h11] at h
        simp only [bare, Bool.and_eq_true, Bool.or_eq_true, decide_eq_true_eq, Bool.true_or, Bool.false_or] at h
        have h1 : t.fields.length = 0 := by simpa using h.1.1.1.1.2
        have h2 : t.list.length ≤ 16 := h.1.2
        have h3 : t.res.length ≤ 1 := h.2
        omega
      · rw [if_neg h11] at h
        by_cases h12 : t.kind = 12
        · rw [if_pos h12] at h
          simp only [bare, Bool.and_eq_true, Bool.or_eq_true, decide_eq_true_eq, Bool.true_or, Bool.false_or] at h
          have h1 : t.fields.length = 0 := by simpa using h.1.1.1.1.2
          have h2 : t.list.length = 0 := by simpa using h.1.1.1.2
          have h3 : t.res.length = 0 := by simpa using h.1.1.2
          omega
        · rw [if_neg h12] at h
          simp only [bare, Bool.and_eq_true, Bool.or_eq_true, decide_eq_true_eq, Bool.true_or, Bool.false_or] at h
          have h1 : t.fields.length = 0 := by simpa using h.2.1.1.2
          have h2 : t.list.length = 0 := by simpa using h.2.1.2
          have h3 : t.res.length = 0 := by simpa using h.2.2
          omega
theorem holes_len : ∀ (n f : Nat) (t : Ty) (l : List ByteArray), (lookT f t).isSome = true → (holesT n t l).length ≤ l.length + nodesB f
  | 0, f, t, l, _ => by rw [holesT]; omega
  | n + 1, 0, t, l, h => by rw [lookT] at h; cases h
  | n + 1, f + 1, t, l, h => by
    obtain ⟨h1, h2⟩ := look_shape h
    have key : ∀ (ts : List Ty) (l : List ByteArray), (∀ x ∈ ts, (lookT f x).isSome = true) → (ts.foldl (fun l x => holesT n x l) l).length ≤ l.length + ts.length * nodesB f := by
      intro ts
      induction ts with
      | nil => intro l _; simp
      | cons x ts ih =>
        intro l hx
        rw [List.foldl_cons]
        have e1 := ih (holesT n x l) fun y hy => hx y (by simp [hy])
        have e2 := holes_len n f x l (hx x (by simp))
        rw [List.length_cons, Nat.succ_mul]
        omega
    have h3 := key t.inner (if t.kind = 12 then addT l t.name else l) h2
    have h4 : (if t.kind = 12 then addT l t.name else l).length ≤ l.length + 1 := by
      split
      · exact addT_len _ _
      · omega
    have h5 : t.inner.length * nodesB f ≤ 17 * nodesB f := Nat.mul_le_mul_right _ (shape_inner h1)
    rw [holesT, nodesB]
    omega
theorem fold_len {n f : Nat} {ts : List Ty} (h : ∀ x ∈ ts, (lookT f x).isSome = true) {k : Nat} (l : List ByteArray) : ((ts.take k).foldl (fun l x => holesT n x l) l).length ≤ l.length + min k ts.length * nodesB f := by
  have key : ∀ (ts : List Ty) (l : List ByteArray), (∀ x ∈ ts, (lookT f x).isSome = true) → (ts.foldl (fun l x => holesT n x l) l).length ≤ l.length + ts.length * nodesB f := by
    intro ts
    induction ts with
    | nil => intro l _; simp
    | cons x ts ih =>
      intro l hx
      rw [List.foldl_cons]
      have e1 := ih (holesT n x l) fun y hy => hx y (by simp [hy])
      have e2 := holes_len n f x l (hx x (by simp))
      rw [List.length_cons, Nat.succ_mul]
      omega
  have := key (ts.take k) l fun x hx => h x (List.mem_of_mem_take hx)
  rw [List.length_take] at this
  exact this
theorem row_at {n B B' k len c : Nat} {w : World} {A : Option Addr} {l : List Ty} (h : SlR B' 0 6 (TyR n B) w (.slice A len c) l) (hk : k < l.length) :
    ∃ b o t Af cf Al cl Ar cr, A = some ⟨b, o, none⟩ ∧ l[k]? = some t ∧ TyR n B w (tyCells t.kind t.name t.con Af t.fields.length cf Al t.list.length cl Ar t.res.length cr) t ∧
      w.cell? ⟨b, o + k * 6, none⟩ = some (.int .i64 t.kind) ∧ w.cell? ⟨b, o + k * 6 + 1, none⟩ = some (.string t.name) ∧ w.cell? ⟨b, o + k * 6 + 2, none⟩ = some (.int .i64 t.con) ∧
      w.cell? ⟨b, o + k * 6 + 3, none⟩ = some (.slice Af t.fields.length cf) ∧ w.cell? ⟨b, o + k * 6 + 4, none⟩ = some (.slice Al t.list.length cl) ∧ w.cell? ⟨b, o + k * 6 + 5, none⟩ = some (.slice Ar t.res.length cr) := by
  obtain ⟨b, o, t, cs, hA, ht, hl, hR, hc⟩ := SlR.at2 h hk
  cases n with
  | zero => exact hR.elim
  | succ n =>
    have hR' := hR
    obtain ⟨hs, Af, cf, Al, cl, Ar, cr, rfl, _⟩ := hR
    exact ⟨b, o, t, Af, cf, Al, cl, Ar, cr, hA, ht, hR', by simpa using hc 0 _ rfl, hc 1 _ rfl, hc 2 _ rfl, hc 3 _ rfl, hc 4 _ rfl, hc 5 _ rfl⟩
/-- The contract of Holes at types no deeper than n: l lies in a row of the call's own. -/
def HolesC (n : Nat) : Prop := ∀ (f : Nat) (B D : Nat) (w : World) (t : Ty) (Af : Option Addr) (cf : Nat) (Al : Option Addr) (cl : Nat) (Ar : Option Addr) (cr : Nat) (l : List ByteArray) (A : Option Addr) (c : Nat), (lookT f t).isSome = true → l.length + nodesB f ≤ 549755813888 → B ≤ D → D ≤ w.heap.size → TyR n B w (tyCells t.kind t.name t.con Af t.fields.length cf Al t.list.length cl Ar t.res.length cr) t → RowR D 9 1 StrV w A c l →
    Calls Tryd.prog 15 #[.agg #[.int .i64 t.kind, .string t.name, .int .i64 t.con, .slice Af t.fields.length cf, .slice Al t.list.length cl, .slice Ar t.res.length cr], .slice A l.length c] w fun e w' => ∃ A' c', e = .returned (.slice A' (holesT n t l).length c') ∧ RowR D 9 1 StrV w' A' c' (holesT n t l) ∧ Chg (fun b t => D ≤ b ∧ t = 9) w w'
def holRel (n B D : Nat) (ts : List Ty) (l : List ByteArray) (W : World) (v i : Value) (wr : World) : Prop :=
  ∃ (k : Nat) (A : Option Addr) (c : Nat), k ≤ ts.length ∧ i = .int .i64 k ∧ v = .slice A ((ts.take k).foldl (fun l x => holesT n x l) l).length c ∧ RowR D 9 1 StrV wr A c ((ts.take k).foldl (fun l x => holesT n x l) l) ∧ Chg (fun b t => D ≤ b ∧ t = 9) W wr
theorem hol_lets {B D : Nat} (h : B ≤ D) : LetsM (fun b t => D ≤ b ∧ t = 9) B := fun b t hb h' => by have := h'.1; omega
set_option maxRecDepth 100000 in
set_option maxHeartbeats 8000000 in
theorem holes_step (n : Nat) (IH : HolesC n) : HolesC (n + 1) := by
  intro f B D w t Af cf Al cl Ar cr l A c hlk hln hBD hD hT hr
  obtain ⟨i9, hi9, hz9, hs9, hb9⟩ := info_parts infoStr
  cases f with
  | zero => rw [lookT] at hlk; cases hlk
  | succ f =>
  obtain ⟨hsh, hin⟩ := look_shape hlk
  have hil := shape_inner hsh
  have hnm := hT.small.2.2.1
  have hb1 := Blk.new w 33 #[.int .i64 t.kind, .string t.name, .int .i64 t.con, .slice Af t.fields.length cf, .slice Al t.list.length cl, .slice Ar t.res.length cr]
  have hc1 := chg_alloc w (.cells #[.int .i64 t.kind, .string t.name, .int .i64 t.con, .slice Af t.fields.length cf, .slice Al t.list.length cl, .slice Ar t.res.length cr] 33)
  have hr1 := hr.keep hc1 (fun _ _ h => h) fun _ _ h => h
  have hT1 := TyR.keep0 hc1 hT
  rw [nodesB] at hln
  have HP := Lib.hid (And.intro hBD (And.intro hD (And.intro IH hin)))
  have HT := Lib.hid (And.intro hT1 (And.intro hc1 hr1))
  have hlen : l.length ≤ 549755813887 := by omega
  clear hsh hin hlk hBD hD IH hT hr hr1 hT1
  have hD1 : D ≤ (w.alloc (.cells #[.int .i64 t.kind, .string t.name, .int .i64 t.con, .slice Af t.fields.length cf, .slice Al t.list.length cl, .slice Ar t.res.length cr] 33)).heap.size := Nat.le_trans HP.out.2.1 hc1.size
  by_cases hk : t.kind = 12
  · have q12 : (t.kind == 12) = true := by simp [hk]
    have HK := Lib.hid hk
    clear hk
    have hhas := has_any (w.alloc (.cells #[.int .i64 t.kind, .string t.name, .int .i64 t.con, .slice Af t.fields.length cf, .slice Al t.list.length cl, .slice Ar t.res.length cr] 33)).heap.size _ l t.name A c (HT.out.2.2.settleT (by decide) fun _ _ h => h) (by omega)
    go_enter Tryd.func15, Tryd.ntmps15
    go_wp2_with fail
    generalize w.alloc (.cells #[.int .i64 t.kind, .string t.name, .int .i64 t.con, .slice Af t.fields.length cf, .slice Al t.list.length cl, .slice Ar t.res.length cr] 33) = W at hhas HT hb1 hD1 ⊢
    generalize w.heap.size = g2 at hb1 ⊢
    refine hhas.mono fun e Wk h => ?_
    obtain ⟨b, rfl, hb, hck0⟩ := h
    clear hhas q12 hc1
    have hck : Chg (fun b t => D ≤ b ∧ t = 9) W Wk := hck0.mono fun _ _ _ h => h.elim
    have hr := HT.out.2.2.keep hck0 (fun _ _ h => h) fun _ _ h => h
    cases b with
    | true =>
      have hmem := hb.1 rfl
      clear hb hck0
      have hckw := (HT.out.2.1.mono fun _ _ _ h => h.elim : Chg (fun b t => D ≤ b ∧ t = 9) w W).trans hck
      have hbk := hck.blk hb1 fun h => absurd h.2 (by decide)
      obtain ⟨y0, y1, y2, y3, y4, y5⟩ := hbk.cells6
      have hTk := TyR.keep hck (hol_lets HP.out.1) HT.out.1
      have hDk : D ≤ Wk.heap.size := Nat.le_trans hD1 hck.size
      have hinn := inner_any n B Wk t Af cf Al cl Ar cr (Nat.le_trans HP.out.1 hDk) hTk
      have HL := Lib.hid (show l = (if t.kind = 12 then addT l t.name else l) by rw [if_pos HK.out]; exact (addT_in hmem).symm)
      have HW := Lib.hid (And.intro hckw (And.intro hr hDk))
      clear hckw hbk hTk hck hr hDk
      go_wp2_with fail
      refine hinn.mono fun e w2 h => ?_
      obtain ⟨A2, c2, rfl, hr2, hc2⟩ := h
      clear hinn y0 y1 y2 y3 y4 y5
      have hrow := HW.out.2.1.keep hc2 (fun _ _ h => h) fun _ _ h => h
      have H2 := Lib.hid (And.intro hr2 (And.intro hrow (And.intro (HW.out.1.trans (hc2.mono fun _ _ _ h => h.elim)) (Nat.le_trans HW.out.2.2 hc2.size))))
      clear hrow hr2 hc2
      go_wp2_with fail
      go_loopw [1, 6] (fun v i wr => holRel n B D t.inner l w2 v i wr) (fun _ i _ => t.inner.length - (intOf i).toNat)
      case atStart => exact ⟨0, A, c, Nat.zero_le _, rfl, by simp, by simpa using H2.out.2.1, Chg.refl _ _⟩
      case round =>
        obtain ⟨k, A3, c3, hk, rfl, rfl, hr3, hch⟩ := hrel
        have q3 : IntKind.i64.wrap ((k : Int) + 1) = (k : Int) + 1 := IntWalk.i64_in _ ⟨by omega, by omega⟩
        by_cases hlt : k < t.inner.length
        · have q1 : decide (k < t.inner.length) = true := decide_eq_true hlt
          have q2 : (k : Int) < (t.inner.length : Int) := by omega
          obtain ⟨b, o, x, Xf, xf, Xl, xl, Xr, xr, rfl, hkx, hRx, z0, z1, z2, z3, z4, z5⟩ := row_at ((H2.out.1.keep hch (fun b _ h => absurd h.2 (by decide)) fun cs x h => TyR.keep hch (hol_lets HP.out.1) h).settleT (by decide) fun _ _ h => h) hlt
          have hlx := HP.out.2.2.2 x (List.mem_of_getElem? hkx)
          have hfl := fold_len (n := n) HP.out.2.2.2 (k := k) l
          have hl0 : l.length ≤ l.length + 1 := by first | omega | (simp; done) | (simp; omega)
          have hmul : (min k t.inner.length + 1) * nodesB f ≤ 17 * nodesB f := Nat.mul_le_mul_right _ (by omega)
          rw [Nat.add_mul, Nat.one_mul] at hmul
          have hcall := HP.out.2.2.1 f B D wr x Xf xf Xl xl Xr xr _ A3 c3 hlx (by omega) HP.out.1 (Nat.le_trans H2.out.2.2.2 hch.size) hRx hr3
          have HK := Lib.hid (And.intro hch hkx)
          clear hch hkx hRx hlx hfl hl0 hr3 hmul
          go_wp2_with fail
          refine hcall.mono fun e w5 h => ?_
          obtain ⟨A5, c5, rfl, hr5, hc5⟩ := h
          have htk : (t.inner.take (k + 1)).foldl (fun l x => holesT n x l) l = holesT n x ((t.inner.take k).foldl (fun l x => holesT n x l) l) := by
            obtain ⟨h1, h2⟩ := List.getElem?_eq_some_iff.1 HK.out.2
            rw [List.take_succ_eq_append_getElem h1, h2, List.foldl_append]
            rfl
          have HQ := Lib.hid (show holRel n B D t.inner l w2 (.slice A5 (holesT n x ((t.inner.take k).foldl (fun l x => holesT n x l) l)).length c5) (.int .i64 ((k : Int) + 1)) w5 from ⟨k + 1, A5, c5, hlt, by simp, by rw [htk], by rw [htk]; exact hr5, HK.out.1.trans hc5⟩)
          clear hcall hr5 hc5 htk
          go_wp2_with fail
          go_roundw
          case rel => exact HQ.out
          case measure => simp [intOf]; omega
        · have q1 : decide (k < t.inner.length) = false := decide_eq_false hlt
          obtain rfl : k = t.inner.length := by omega
          rw [List.take_length] at hr3 ⊢
          have hfin : holesT (n + 1) t l = t.inner.foldl (fun l x => holesT n x l) l := by rw [holesT, ← HL.out]
          have HQ := Lib.hid (And.intro hr3 (H2.out.2.2.1.trans hch))
          have HFN := Lib.hid hfin
          clear hr3 hch hfin
          go_wp2_with fail
          go_ret
          rw [HFN.out]
          exact ⟨A3, c3, rfl, HQ.out.1, HQ.out.2⟩
    | false =>
      have hmem : t.name ∉ l := fun h => absurd (hb.2 h) (by decide)
      clear hb
      have hbk0 := hck0.blk hb1 id
      obtain ⟨y0, y1, y2, y3, y4, y5⟩ := hbk0.cells6
      have hDk0 : D ≤ Wk.heap.size := Nat.le_trans hD1 hck0.size
      have HRR := Lib.hid (And.intro hr hck)
      clear hr hck hck0 hbk0
      go_wp2_with (at_builtin; go_must (refine wpList_push rfl (.tmp 17) (.tmp 20) 22 rfl D 9 i9 _ 1 16 Tryd.underlying22 hi9 hz9 hs9 hb9 rfl (by omega) StrV A c l rfl (by first | rfl | simp) HRR.out.1 1 [.string t.name] t.name (by first | rfl | simp) (by first | rfl | simp) rfl (by intro u hu; simp at hu; subst hu; rfl) ⟨rfl, hnm⟩ (by omega) (by omega) hDk0 (fun _ _ _ _ h => h) ?_))
      intro A1 c1 W4 hr hc4
      have hck := HRR.out.2.trans hc4
      clear y0 y1 y2 y3 y4 y5 hc4 HRR hDk0
      have hckw := (HT.out.2.1.mono fun _ _ _ h => h.elim : Chg (fun b t => D ≤ b ∧ t = 9) w W).trans hck
      have hbk := hck.blk hb1 fun h => absurd h.2 (by decide)
      obtain ⟨y0, y1, y2, y3, y4, y5⟩ := hbk.cells6
      have hTk := TyR.keep hck (hol_lets HP.out.1) HT.out.1
      have hDk : D ≤ W4.heap.size := Nat.le_trans hD1 hck.size
      have hinn := inner_any n B W4 t Af cf Al cl Ar cr (Nat.le_trans HP.out.1 hDk) hTk
      have HL := Lib.hid (show (l ++ [t.name]) = (if t.kind = 12 then addT l t.name else l) by rw [if_pos HK.out]; exact (addT_out hmem).symm)
      have HW := Lib.hid (And.intro hckw (And.intro hr hDk))
      clear hckw hbk hTk hck hr hDk
      go_wp2_with fail
      refine hinn.mono fun e w2 h => ?_
      obtain ⟨A2, c2, rfl, hr2, hc2⟩ := h
      clear hinn y0 y1 y2 y3 y4 y5
      have hrow := HW.out.2.1.keep hc2 (fun _ _ h => h) fun _ _ h => h
      have H2 := Lib.hid (And.intro hr2 (And.intro hrow (And.intro (HW.out.1.trans (hc2.mono fun _ _ _ h => h.elim)) (Nat.le_trans HW.out.2.2 hc2.size))))
      clear hrow hr2 hc2
      go_wp2_with fail
      go_loopw [1, 6] (fun v i wr => holRel n B D t.inner (l ++ [t.name]) w2 v i wr) (fun _ i _ => t.inner.length - (intOf i).toNat)
      case atStart => exact ⟨0, A1, c1, Nat.zero_le _, rfl, by simp, by simpa using H2.out.2.1, Chg.refl _ _⟩
      case round =>
        obtain ⟨k, A3, c3, hk, rfl, rfl, hr3, hch⟩ := hrel
        have q3 : IntKind.i64.wrap ((k : Int) + 1) = (k : Int) + 1 := IntWalk.i64_in _ ⟨by omega, by omega⟩
        by_cases hlt : k < t.inner.length
        · have q1 : decide (k < t.inner.length) = true := decide_eq_true hlt
          have q2 : (k : Int) < (t.inner.length : Int) := by omega
          obtain ⟨b, o, x, Xf, xf, Xl, xl, Xr, xr, rfl, hkx, hRx, z0, z1, z2, z3, z4, z5⟩ := row_at ((H2.out.1.keep hch (fun b _ h => absurd h.2 (by decide)) fun cs x h => TyR.keep hch (hol_lets HP.out.1) h).settleT (by decide) fun _ _ h => h) hlt
          have hlx := HP.out.2.2.2 x (List.mem_of_getElem? hkx)
          have hfl := fold_len (n := n) HP.out.2.2.2 (k := k) (l ++ [t.name])
          have hl0 : (l ++ [t.name]).length ≤ l.length + 1 := by first | omega | (simp; done) | (simp; omega)
          have hmul : (min k t.inner.length + 1) * nodesB f ≤ 17 * nodesB f := Nat.mul_le_mul_right _ (by omega)
          rw [Nat.add_mul, Nat.one_mul] at hmul
          have hcall := HP.out.2.2.1 f B D wr x Xf xf Xl xl Xr xr _ A3 c3 hlx (by omega) HP.out.1 (Nat.le_trans H2.out.2.2.2 hch.size) hRx hr3
          have HK := Lib.hid (And.intro hch hkx)
          clear hch hkx hRx hlx hfl hl0 hr3 hmul
          go_wp2_with fail
          refine hcall.mono fun e w5 h => ?_
          obtain ⟨A5, c5, rfl, hr5, hc5⟩ := h
          have htk : (t.inner.take (k + 1)).foldl (fun l x => holesT n x l) (l ++ [t.name]) = holesT n x ((t.inner.take k).foldl (fun l x => holesT n x l) (l ++ [t.name])) := by
            obtain ⟨h1, h2⟩ := List.getElem?_eq_some_iff.1 HK.out.2
            rw [List.take_succ_eq_append_getElem h1, h2, List.foldl_append]
            rfl
          have HQ := Lib.hid (show holRel n B D t.inner (l ++ [t.name]) w2 (.slice A5 (holesT n x ((t.inner.take k).foldl (fun l x => holesT n x l) (l ++ [t.name]))).length c5) (.int .i64 ((k : Int) + 1)) w5 from ⟨k + 1, A5, c5, hlt, by simp, by rw [htk], by rw [htk]; exact hr5, HK.out.1.trans hc5⟩)
          clear hcall hr5 hc5 htk
          go_wp2_with fail
          go_roundw
          case rel => exact HQ.out
          case measure => simp [intOf]; omega
        · have q1 : decide (k < t.inner.length) = false := decide_eq_false hlt
          obtain rfl : k = t.inner.length := by omega
          rw [List.take_length] at hr3 ⊢
          have hfin : holesT (n + 1) t l = t.inner.foldl (fun l x => holesT n x l) (l ++ [t.name]) := by rw [holesT, ← HL.out]
          have HQ := Lib.hid (And.intro hr3 (H2.out.2.2.1.trans hch))
          have HFN := Lib.hid hfin
          clear hr3 hch hfin
          go_wp2_with fail
          go_ret
          rw [HFN.out]
          exact ⟨A3, c3, rfl, HQ.out.1, HQ.out.2⟩
  · have q12 : (t.kind == 12) = false := by simp [hk]
    have HK := Lib.hid hk
    clear hk
    go_enter Tryd.func15, Tryd.ntmps15
    have hck : Chg (fun b t => D ≤ b ∧ t = 9) (w.alloc (.cells #[.int .i64 t.kind, .string t.name, .int .i64 t.con, .slice Af t.fields.length cf, .slice Al t.list.length cl, .slice Ar t.res.length cr] 33)) (w.alloc (.cells #[.int .i64 t.kind, .string t.name, .int .i64 t.con, .slice Af t.fields.length cf, .slice Al t.list.length cl, .slice Ar t.res.length cr] 33)) := Chg.refl _ _
    have hr := HT.out.2.2
    clear hc1 q12
    have q12 : (t.kind == 12) = false := by simp [HK.out]
    have hckw := (HT.out.2.1.mono fun _ _ _ h => h.elim : Chg (fun b t => D ≤ b ∧ t = 9) w (w.alloc (.cells #[.int .i64 t.kind, .string t.name, .int .i64 t.con, .slice Af t.fields.length cf, .slice Al t.list.length cl, .slice Ar t.res.length cr] 33))).trans hck
    have hbk := hck.blk hb1 fun h => absurd h.2 (by decide)
    obtain ⟨y0, y1, y2, y3, y4, y5⟩ := hbk.cells6
    have hTk := TyR.keep hck (hol_lets HP.out.1) HT.out.1
    have hDk : D ≤ (w.alloc (.cells #[.int .i64 t.kind, .string t.name, .int .i64 t.con, .slice Af t.fields.length cf, .slice Al t.list.length cl, .slice Ar t.res.length cr] 33)).heap.size := Nat.le_trans hD1 hck.size
    have hinn := inner_any n B (w.alloc (.cells #[.int .i64 t.kind, .string t.name, .int .i64 t.con, .slice Af t.fields.length cf, .slice Al t.list.length cl, .slice Ar t.res.length cr] 33)) t Af cf Al cl Ar cr (Nat.le_trans HP.out.1 hDk) hTk
    have HL := Lib.hid (show l = (if t.kind = 12 then addT l t.name else l) by rw [if_neg HK.out])
    have HW := Lib.hid (And.intro hckw (And.intro hr hDk))
    clear hckw hbk hTk hck hr hDk
    go_wp2_with fail
    refine hinn.mono fun e w2 h => ?_
    obtain ⟨A2, c2, rfl, hr2, hc2⟩ := h
    clear hinn y0 y1 y2 y3 y4 y5
    have hrow := HW.out.2.1.keep hc2 (fun _ _ h => h) fun _ _ h => h
    have H2 := Lib.hid (And.intro hr2 (And.intro hrow (And.intro (HW.out.1.trans (hc2.mono fun _ _ _ h => h.elim)) (Nat.le_trans HW.out.2.2 hc2.size))))
    clear hrow hr2 hc2
    go_wp2_with fail
    go_loopw [1, 6] (fun v i wr => holRel n B D t.inner l w2 v i wr) (fun _ i _ => t.inner.length - (intOf i).toNat)
    case atStart => exact ⟨0, A, c, Nat.zero_le _, rfl, by simp, by simpa using H2.out.2.1, Chg.refl _ _⟩
    case round =>
      obtain ⟨k, A3, c3, hk, rfl, rfl, hr3, hch⟩ := hrel
      have q3 : IntKind.i64.wrap ((k : Int) + 1) = (k : Int) + 1 := IntWalk.i64_in _ ⟨by omega, by omega⟩
      by_cases hlt : k < t.inner.length
      · have q1 : decide (k < t.inner.length) = true := decide_eq_true hlt
        have q2 : (k : Int) < (t.inner.length : Int) := by omega
        obtain ⟨b, o, x, Xf, xf, Xl, xl, Xr, xr, rfl, hkx, hRx, z0, z1, z2, z3, z4, z5⟩ := row_at ((H2.out.1.keep hch (fun b _ h => absurd h.2 (by decide)) fun cs x h => TyR.keep hch (hol_lets HP.out.1) h).settleT (by decide) fun _ _ h => h) hlt
        have hlx := HP.out.2.2.2 x (List.mem_of_getElem? hkx)
        have hfl := fold_len (n := n) HP.out.2.2.2 (k := k) l
        have hl0 : l.length ≤ l.length + 1 := by first | omega | (simp; done) | (simp; omega)
        have hmul : (min k t.inner.length + 1) * nodesB f ≤ 17 * nodesB f := Nat.mul_le_mul_right _ (by omega)
        rw [Nat.add_mul, Nat.one_mul] at hmul
        have hcall := HP.out.2.2.1 f B D wr x Xf xf Xl xl Xr xr _ A3 c3 hlx (by omega) HP.out.1 (Nat.le_trans H2.out.2.2.2 hch.size) hRx hr3
        have HK := Lib.hid (And.intro hch hkx)
        clear hch hkx hRx hlx hfl hl0 hr3 hmul
        go_wp2_with fail
        refine hcall.mono fun e w5 h => ?_
        obtain ⟨A5, c5, rfl, hr5, hc5⟩ := h
        have htk : (t.inner.take (k + 1)).foldl (fun l x => holesT n x l) l = holesT n x ((t.inner.take k).foldl (fun l x => holesT n x l) l) := by
          obtain ⟨h1, h2⟩ := List.getElem?_eq_some_iff.1 HK.out.2
          rw [List.take_succ_eq_append_getElem h1, h2, List.foldl_append]
          rfl
        have HQ := Lib.hid (show holRel n B D t.inner l w2 (.slice A5 (holesT n x ((t.inner.take k).foldl (fun l x => holesT n x l) l)).length c5) (.int .i64 ((k : Int) + 1)) w5 from ⟨k + 1, A5, c5, hlt, by simp, by rw [htk], by rw [htk]; exact hr5, HK.out.1.trans hc5⟩)
        clear hcall hr5 hc5 htk
        go_wp2_with fail
        go_roundw
        case rel => exact HQ.out
        case measure => simp [intOf]; omega
      · have q1 : decide (k < t.inner.length) = false := decide_eq_false hlt
        obtain rfl : k = t.inner.length := by omega
        rw [List.take_length] at hr3 ⊢
        have hfin : holesT (n + 1) t l = t.inner.foldl (fun l x => holesT n x l) l := by rw [holesT, ← HL.out]
        have HQ := Lib.hid (And.intro hr3 (H2.out.2.2.1.trans hch))
        have HFN := Lib.hid hfin
        clear hr3 hch hfin
        go_wp2_with fail
        go_ret
        rw [HFN.out]
        exact ⟨A3, c3, rfl, HQ.out.1, HQ.out.2⟩
theorem holes_any : ∀ n, HolesC n
  | 0 => fun f B D w t Af cf Al cl Ar cr l A c hlk hln hBD hD hT hr => hT.elim
  | n + 1 => holes_step n (holes_any n)
end Go.Proofs.YtgemacdnncjmdaaDoor
