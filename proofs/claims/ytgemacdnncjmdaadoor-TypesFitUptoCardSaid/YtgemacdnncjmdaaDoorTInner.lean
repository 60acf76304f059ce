/-
  ref02.Inner: the types in a type, in a row of their own.
-/
import Derived.Test.YtgemacdnncjmdaaDoorTFill3
import Derived.Test.YtgemacdnncjmdaaDoorRowK
namespace Go.Proofs.YtgemacdnncjmdaaDoor
open Go.RowKit
set_option linter.unusedVariables false
set_option linter.unusedSimpArgs false

/-- What Inner answers: the types in it, in a new row. -/
def InnerRes (n B : Nat) (t : Ty) (w : World) (e : Ending) (w' : World) : Prop :=
  ∃ A c, e = .returned (.slice A t.inner.length c) ∧ RowR w.heap.size 33 6 (TyR n B) w' A c t.inner ∧ Chg (fun _ _ => False) w w'
def innerRel (D n B : Nat) (t : Ty) (W : World) (v i : Value) (wr : World) : Prop :=
  ∃ (k : Nat) (A : Option Addr) (c : Nat), k ≤ t.fields.length ∧ i = .int .i64 k ∧ v = .slice A k c ∧ RowR D 33 6 (TyR n B) wr A c ((t.fields.take k).map (fun p => p.2)) ∧ Chg (fun _ _ => False) W wr
theorem TyR.keepD {n B D e : Nat} {w w' : World} (hB : B ≤ D) (hc : Chg (fun b t => D ≤ b ∧ t = e) w w') (cs : List Value) (t : Ty) (h : TyR n B w cs t) : TyR n B w' cs t :=
  TyR.keep hc (fun b t hb h => by have := h.1; omega) h
theorem TyR.oneCell {n B : Nat} {w : World} (cs : List Value) (t : Ty) (h : TyR n B w cs t) : ∀ u ∈ cs, u.oneCell' = true := by
  cases n with
  | zero => exact h.elim
  | succ n =>
    obtain ⟨_, _, _, _, _, _, _, rfl, _⟩ := h
    exact one_ty _ _ _ _ _ _ _ _ _ _ _ _
/-- A type's parts, opened. -/
theorem TyR.open_ {n B : Nat} {w : World} {t : Ty} {Af Al Ar : Option Addr} {cf cl cr : Nat} (hT : TyR (n + 1) B w (tyCells t.kind t.name t.con Af t.fields.length cf Al t.list.length cl Ar t.res.length cr) t) :
    Small t ∧ SlR B 0 7 (FdR (TyR n B)) w (.slice Af t.fields.length cf) t.fields ∧ TysR n B w (.slice Al t.list.length cl) t.list ∧ TysR n B w (.slice Ar t.res.length cr) t.res := by
  obtain ⟨hs, _, _, _, _, _, _, hcs, hFl, hLl, hRl⟩ := hT
  unfold tyCells at hcs
  injection hcs with _ hcs; injection hcs with _ hcs; injection hcs with _ hcs; injection hcs with h1 hcs; injection hcs with h2 hcs; injection hcs with h3 _
  injection h1 with h1 _ h1'; injection h2 with h2 _ h2'; injection h3 with h3 _ h3'
  subst h1 h1' h2 h2' h3 h3'
  exact ⟨hs, hFl, hLl, hRl⟩
set_option maxRecDepth 100000 in
set_option maxHeartbeats 4000000 in
theorem inner_any (n B : Nat) (w : World) (t : Ty) (Af : Option Addr) (cf : Nat) (Al : Option Addr) (cl : Nat) (Ar : Option Addr) (cr : Nat) (hB : B ≤ w.heap.size)
    (hT : TyR (n + 1) B w (tyCells t.kind t.name t.con Af t.fields.length cf Al t.list.length cl Ar t.res.length cr) t) :
    Calls Tryd.prog 39 #[.agg #[.int .i64 t.kind, .string t.name, .int .i64 t.con, .slice Af t.fields.length cf, .slice Al t.list.length cl, .slice Ar t.res.length cr]] w (InnerRes n B t w) := by
  obtain ⟨i39, hi39, hz39, hs39, hb39⟩ := info_parts infoType
  obtain ⟨hsm, hFl, hLl, hRl⟩ := TyR.open_ hT
  have hb1 := Blk.new w 33 #[.int .i64 t.kind, .string t.name, .int .i64 t.con, .slice Af t.fields.length cf, .slice Al t.list.length cl, .slice Ar t.res.length cr]
  have hc1 := chg_alloc w (.cells #[.int .i64 t.kind, .string t.name, .int .i64 t.con, .slice Af t.fields.length cf, .slice Al t.list.length cl, .slice Ar t.res.length cr] 33)
  have HT := Lib.hid (And.intro hFl (And.intro hLl (And.intro hRl hsm)))
  have HB := Lib.hid hB
  clear hB hFl hLl hRl hsm hT
  go_enter Tryd.func39, Tryd.ntmps39
  go_wp2_with fail
  obtain ⟨D, hD⟩ : ∃ D, D = w.heap.size + 1 := ⟨_, rfl⟩
  have hDs : D = (w.alloc (.cells #[.int .i64 t.kind, .string t.name, .int .i64 t.con, .slice Af t.fields.length cf, .slice Al t.list.length cl, .slice Ar t.res.length cr] 33)).heap.size := by simp [hD]
  generalize w.alloc (.cells #[.int .i64 t.kind, .string t.name, .int .i64 t.con, .slice Af t.fields.length cf, .slice Al t.list.length cl, .slice Ar t.res.length cr] 33) = W at hb1 hc1 hDs ⊢
  generalize hg : w.heap.size = g at hb1 hD ⊢
  have H0 := Lib.hid (And.intro hb1 (And.intro hc1 (And.intro hDs (And.intro hD hg))))
  clear hb1 hc1 hDs hD hg
  go_loopw [3, 4] (fun v i wr => innerRel D n B t W v i wr) (fun _ i _ => t.fields.length - (intOf i).toNat)
  case atStart => exact ⟨0, none, 0, Nat.zero_le _, rfl, rfl, RowR.nil _ _ _ _ _, Chg.refl _ _⟩
  case round =>
    obtain ⟨k, A1, c1, hk, rfl, rfl, hr, hch⟩ := hrel
    obtain ⟨y0, y1, y2, y3, y4, y5⟩ := (hch.blk H0.out.1 id).cells6
    by_cases hlt : k < t.fields.length
    · have q1 : decide (k < t.fields.length) = true := decide_eq_true hlt
      have q2 : (k : Int) < (t.fields.length : Int) := by omega
      have hf20 := HT.out.2.2.2.2.2.2.1
      have q3 : IntKind.i64.wrap ((k : Int) + 1) = (k : Int) + 1 := IntWalk.i64_in _ ⟨by omega, by omega⟩
      have hcw := H0.out.2.1.trans hch
      obtain ⟨b, o, nm, x, Xf, xf, Xl, xl, Xr, xr, rfl, hbB, hkx, hnms, hRx, z0, z1, z2, z3, z4, z5, z6⟩ := fld_at (SlR.keep HT.out.1 hcw (no_lets _ _) fun _ _ h => h.imp fun _ _ h => TyR.keep0 hcw h) hlt
      have hBD : B ≤ D := by have := HB.out; have := H0.out.2.2.2; omega
      have hDw : D ≤ wr.heap.size := by have := H0.out.2.2.1; have := hch.size; omega
      have hone := TyR.oneCell _ _ hRx
      have htl : k = ((t.fields.take k).map (fun p => p.2)).length := by rw [List.length_map, List.length_take]; omega
      have hk20 : k ≤ 549755813888 := by omega
      have HR := Lib.hid (And.intro hr (And.intro hch (And.intro hkx (And.intro hRx (And.intro htl hf20)))))
      clear hr hch hkx hRx htl hcw hbB hnms hf20 y0 y1 y2 y4 y5
      go_wp2_with (at_builtin; go_must (refine wpList_push rfl (.tmp 12) (.tmp 19) 23 rfl D 33 i39 _ 6 104 Tryd.underlying23 hi39 hz39 hs39 hb39 rfl (by omega) (TyR n B) A1 c1 _ HR.out.2.2.2.2.1 (by first | rfl | simp) HR.out.1 1 (tyCells x.kind x.name x.con Xf x.fields.length xf Xl x.list.length xl Xr x.res.length xr) x (by first | rfl | simp) rfl rfl hone HR.out.2.2.2.1 hk20 (by omega) hDw (fun _ hc => TyR.keepD hBD hc) ?_))
      intro A2 c2 w2 hr2 hc2
      have htk : (t.fields.take (k + 1)).map (fun p => p.2) = (t.fields.take k).map (fun p => p.2) ++ [x] := by
        obtain ⟨h1, h2⟩ := List.getElem?_eq_some_iff.1 HR.out.2.2.1
        rw [List.take_succ_eq_append_getElem h1, h2]
        simp
      have HP := Lib.hid (show innerRel D n B t W (.slice A2 (k + 1) c2) (.int .i64 ((k : Int) + 1)) w2 from ⟨k + 1, A2, c2, hlt, by simp, rfl, by rw [htk, List.map_take]; exact hr2, HR.out.2.1.trans_new hc2 fun b t hb h => by have := H0.out.2.2.1; have := h.1; omega⟩)
      clear hr2 hc2 htk hone z0 z1 z2 z3 z4 z5 z6 y3
      go_wp2_with fail
      go_roundw
      case rel => exact HP.out
      case measure => simp [intOf]; omega
    · have q1 : decide (k < t.fields.length) = false := decide_eq_false hlt
      obtain rfl : k = t.fields.length := by omega
      rw [List.take_length] at hr
      have hcw := H0.out.2.1.trans hch
      have hBD : B ≤ D := by have := HB.out; have := H0.out.2.2.2; omega
      have hDw : D ≤ wr.heap.size := by have := H0.out.2.2.1; have := hch.size; omega
      have s4 := HT.out.2.2.2.2.2.2.1
      have s5 := HT.out.2.2.2.2.2.2.2.1
      have s6 := HT.out.2.2.2.2.2.2.2.2
      have htl : t.fields.length = (t.fields.map (fun p => p.2)).length := by simp
      have hLl : TysR n B wr (.slice Al t.list.length cl) t.list := TysR.keep0 hcw HT.out.2.1
      have hbw := hch.blk H0.out.1 id
      have HR := Lib.hid (And.intro hr (And.intro hch (And.intro htl (And.intro hLl (And.intro hcw hbw)))))
      clear hr hch htl hLl hcw hbw
      go_wp2_with (at_builtin; go_must (refine wpList_pushS rfl (.tmp 21) (.tmp 23) 23 rfl D 33 i39 _ 6 104 Tryd.underlying23 hi39 hz39 hs39 hb39 rfl (by omega) (TyR n B) A1 c1 _ HR.out.2.2.1 (by first | rfl | simp) HR.out.1 B 0 Al cl t.list rfl (by first | rfl | simp) HR.out.2.2.2.1 TyR.oneCell (by omega) (by omega) (by omega) hDw (fun _ hc => TyR.keepD hBD hc) ?_))
      intro A2 c2 w2 hr2 hc2
      clear y0 y1 y2 y3 y4 y5
      have hgD : g < D := by have := H0.out.2.2.2.1; omega
      have hb2 := hc2.blk HR.out.2.2.2.2.2 (fun h => by have := h.1; omega)
      obtain ⟨y0, y1, y2, y3, y4, y5⟩ := hb2.cells6
      have hcw2 := HR.out.2.2.2.2.1.trans_new hc2 (fun b t hb h => by have := H0.out.2.2.2; have := h.1; omega)
      have hRl : TysR n B w2 (.slice Ar t.res.length cr) t.res := TysR.keep0 hcw2 HT.out.2.2.1
      have hlen2 : t.fields.length + t.list.length = (t.fields.map (fun p => p.2) ++ t.list).length := by simp
      have hDw2 : D ≤ w2.heap.size := Nat.le_trans hDw hc2.size
      have HR2 := Lib.hid (And.intro hr2 (And.intro hcw2 (And.intro hRl hlen2)))
      clear hr2 hc2 hb2 hcw2 hRl hlen2
      go_wp2_with (at_builtin; go_must (refine wpList_pushS rfl (.tmp 25) (.tmp 27) 23 rfl D 33 i39 _ 6 104 Tryd.underlying23 hi39 hz39 hs39 hb39 rfl (by omega) (TyR n B) A2 c2 _ HR2.out.2.2.2 (by first | rfl | simp) HR2.out.1 B 0 Ar cr t.res rfl (by first | rfl | simp) HR2.out.2.2.1 TyR.oneCell (by omega) (by omega) (by omega) hDw2 (fun _ hc => TyR.keepD hBD hc) ?_))
      intro A3 c3 w3 hr3 hc3
      have hcw3 := HR2.out.2.1.trans_new hc3 (fun b t hb h => by have := H0.out.2.2.2; have := h.1; omega)
      have HR3 := Lib.hid (And.intro hr3 hcw3)
      clear hr3 hc3 hcw3 y0 y1 y2 y3 y4 y5
      go_wp2_with fail
      go_ret
      have hg := H0.out.2.2.2.2
      have hin : t.inner = t.fields.map (fun p => p.2) ++ (t.list ++ t.res) := by simp [Ty.inner]
      have hr3 := HR3.out.1.rebase (base' := w.heap.size) (by have := H0.out.2.2.2; omega)
      exact ⟨A3, c3, by simp [Ty.inner, Nat.add_assoc], by rw [hin]; simpa using hr3, HR3.out.2⟩
end Go.Proofs.YtgemacdnncjmdaaDoor
