/-
  types.parts: the types in a type.
-/
import Derived.Test.YtgemacdnncjmdaaDoorTGrow
namespace Go.Proofs.YtgemacdnncjmdaaDoor
open Go.RowKit
set_option linter.unusedVariables false
set_option linter.unusedSimpArgs false

def PartsRes (n : Nat) (t : Ty) (w : World) (e : Ending) (w' : World) : Prop :=
  ∃ A c, e = .returned (.slice A t.inner.length c) ∧ TysR n w'.heap.size w' (.slice A t.inner.length c) t.inner ∧ Chg (fun _ _ => False) w w'
set_option maxRecDepth 100000 in
set_option maxHeartbeats 4000000 in
theorem parts_any (n B : Nat) (w : World) (t : Ty) (Af : Option Addr) (cf : Nat) (Al : Option Addr) (cl : Nat) (Ar : Option Addr) (cr : Nat) (hB : B ≤ w.heap.size)
    (hT : TyR (n + 1) B w (tyCells t.kind t.name t.con Af t.fields.length cf Al t.list.length cl Ar t.res.length cr) t) :
    Calls Tryd.prog 49 #[.agg #[.int .i64 t.kind, .string t.name, .int .i64 t.con, .slice Af t.fields.length cf, .slice Al t.list.length cl, .slice Ar t.res.length cr]] w (PartsRes n t w) := by
  obtain ⟨i39, hi39, hz39, hs39, hb39⟩ := info_parts infoType
  obtain ⟨hsm, hFl, hLl, hRl⟩ := TyR.open_ hT
  have hb1 := Blk.new w 33 #[.int .i64 t.kind, .string t.name, .int .i64 t.con, .slice Af t.fields.length cf, .slice Al t.list.length cl, .slice Ar t.res.length cr]
  have hc1 := chg_alloc w (.cells #[.int .i64 t.kind, .string t.name, .int .i64 t.con, .slice Af t.fields.length cf, .slice Al t.list.length cl, .slice Ar t.res.length cr] 33)
  have HT := Lib.hid (And.intro hFl (And.intro hLl (And.intro hRl hsm)))
  have HB := Lib.hid hB
  clear hB hFl hLl hRl hsm hT
  go_enter Tryd.func49, Tryd.ntmps49
  go_wp2_with fail
  obtain ⟨D, hD⟩ : ∃ D, D = w.heap.size + 1 := ⟨_, rfl⟩
  have hDs : D = (w.alloc (.cells #[.int .i64 t.kind, .string t.name, .int .i64 t.con, .slice Af t.fields.length cf, .slice Al t.list.length cl, .slice Ar t.res.length cr] 33)).heap.size := by simp [hD]
  generalize w.alloc (.cells #[.int .i64 t.kind, .string t.name, .int .i64 t.con, .slice Af t.fields.length cf, .slice Al t.list.length cl, .slice Ar t.res.length cr] 33) = W at hb1 hc1 hDs ⊢
  generalize hg : w.heap.size = g at hb1 hD ⊢
  have H0 := Lib.hid (And.intro hb1 (And.intro hc1 (And.intro hDs (And.intro hD hg))))
  clear hb1 hc1 hDs hD hg
  go_loopw [3, 9] (fun v i wr => innerRel D n B t W v i wr) (fun _ i _ => t.fields.length - (intOf i).toNat)
  case atStart => exact ⟨0, none, 0, Nat.zero_le _, rfl, rfl, RowR.nil _ _ _ _ _, Chg.refl _ _⟩
  case round =>
    obtain ⟨k, A1, c1, hk, rfl, rfl, hr, hch⟩ := hrel
    have hf20 := HT.out.2.2.2.2.2.2.1
    have q3 : IntKind.i64.wrap ((k : Int) + 1) = (k : Int) + 1 := IntWalk.i64_in _ ⟨by omega, by omega⟩
    by_cases hlt : k < t.fields.length
    · have q1 : decide (k < t.fields.length) = true := decide_eq_true hlt
      have q2 : (k : Int) < (t.fields.length : Int) := by omega
      have hcw := H0.out.2.1.trans hch
      obtain ⟨b, o, nm, x, Xf, xf, Xl, xl, Xr, xr, rfl, hbB, hkx, hnms, hRx, z0, z1, z2, z3, z4, z5, z6⟩ := fld_at (SlR.keep HT.out.1 hcw (no_lets _ _) fun _ _ h => h.imp fun _ _ h => TyR.keep0 hcw h) hlt
      have hBD : B ≤ D := by have := HB.out; have := H0.out.2.2.2; omega
      have hDw : D ≤ wr.heap.size := by have := H0.out.2.2.1; have := hch.size; omega
      have hone := TyR.oneCell _ _ hRx
      have htl : k = ((t.fields.take k).map (fun p => p.2)).length := by rw [List.length_map, List.length_take]; omega
      have hk20 : k ≤ 549755813888 := by omega
      have hca := chg_alloc wr (.cells #[.string nm, .int .i64 x.kind, .string x.name, .int .i64 x.con, .slice Xf x.fields.length xf, .slice Xl x.list.length xl, .slice Xr x.res.length xr] 35)
      have hra := hr.keep hca (fun b _ h => h) (fun _ _ h => TyR.keep0 hca h)
      have HR := Lib.hid (And.intro hra (And.intro (hch.trans hca) (And.intro hkx (And.intro (TyR.keep0 hca hRx) (And.intro htl hf20)))))
      have hDw2 : D ≤ (wr.alloc (.cells #[.string nm, .int .i64 x.kind, .string x.name, .int .i64 x.con, .slice Xf x.fields.length xf, .slice Xl x.list.length xl, .slice Xr x.res.length xr] 35)).heap.size := by simp; omega
      clear hr hch hkx hRx htl hcw hbB hnms hf20 hra hca hDw
      go_wp2_with (at_builtin; go_must (refine wpList_push rfl (.tmp 13) (.tmp 16) 23 rfl D 33 i39 _ 6 104 Tryd.underlying23 hi39 hz39 hs39 hb39 rfl (by omega) (TyR n B) A1 c1 _ HR.out.2.2.2.2.1 (by first | rfl | simp) HR.out.1 1 (tyCells x.kind x.name x.con Xf x.fields.length xf Xl x.list.length xl Xr x.res.length xr) x (by first | rfl | simp) (by first | rfl | simp) rfl hone HR.out.2.2.2.1 hk20 (by omega) hDw2 (fun _ hc => TyR.keepD hBD hc) ?_))
      intro A2 c2 w2 hr2 hc2
      have htk : (t.fields.take (k + 1)).map (fun p => p.2) = (t.fields.take k).map (fun p => p.2) ++ [x] := by
        obtain ⟨h1, h2⟩ := List.getElem?_eq_some_iff.1 HR.out.2.2.1
        rw [List.take_succ_eq_append_getElem h1, h2]
        simp
      have HP := Lib.hid (show innerRel D n B t W (.slice A2 (k + 1) c2) (.int .i64 ((k : Int) + 1)) w2 from ⟨k + 1, A2, c2, hlt, by simp, rfl, by rw [htk, List.map_take]; exact hr2, HR.out.2.1.trans_new hc2 fun b t hb h => by have := H0.out.2.2.1; have := h.1; omega⟩)
      clear hr2 hc2 htk hone z0 z1 z2 z3 z4 z5 z6
      go_wp2_with fail
      go_roundw
      case rel => exact HP.out
      case measure => simp [intOf]; omega
    · have q1 : decide (k < t.fields.length) = false := decide_eq_false hlt
      obtain rfl : k = t.fields.length := by omega
      rw [List.take_length] at hr
      have hcw := H0.out.2.1.trans hch
      obtain ⟨y0, y1, y2, y3, y4, y5⟩ := (hch.blk H0.out.1 id).cells6
      have hrl := RowR.settleT (R' := TyR n wr.heap.size) (by decide) hr fun _ _ h => TyR.more (Nat.le_trans HB.out hcw.size) h
      have hl2 : TysR n wr.heap.size wr (.slice Al t.list.length cl) t.list := (TysR.keep0 hcw HT.out.2.1).imp (fun b _ hl => hl.imp (fun h => Nat.lt_of_lt_of_le h (Nat.le_trans HB.out hcw.size)) id) fun _ _ h => TyR.more (Nat.le_trans HB.out hcw.size) h
      have hl3 : TysR n wr.heap.size wr (.slice Ar t.res.length cr) t.res := (TysR.keep0 hcw HT.out.2.2.1).imp (fun b _ hl => hl.imp (fun h => Nat.lt_of_lt_of_le h (Nat.le_trans HB.out hcw.size)) id) fun _ _ h => TyR.more (Nat.le_trans HB.out hcw.size) h
      rw [List.length_map] at hrl
      have s5 := HT.out.2.2.2.2.2.2.2.1
      have s6 := HT.out.2.2.2.2.2.2.2.2
      have HR := Lib.hid (And.intro hrl (And.intro hl2 (And.intro hl3 hcw)))
      clear hr hch hcw hrl hl2 hl3
      go_wp2_with fail
      have hca := chg_alloc wr (.cells #[.slice A1 t.fields.length c1, .slice Al t.list.length cl, .slice Ar t.res.length cr] 23)
      have hbc := Blk.new wr 23 #[.slice A1 t.fields.length c1, .slice Al t.list.length cl, .slice Ar t.res.length cr]
      generalize wr.alloc (.cells #[.slice A1 t.fields.length c1, .slice Al t.list.length cl, .slice Ar t.res.length cr] 23) = W3 at hca hbc ⊢
      have hsum : sumL [(.slice A1 t.fields.length c1, t.fields.map fun p => p.2), (.slice Al t.list.length cl, t.list), (.slice Ar t.res.length cr, t.res)] = t.inner.length := by
        simp [sumL, Ty.inner, Nat.add_assoc]
      have hflat : flatL [(.slice A1 t.fields.length c1, t.fields.map fun p => p.2), (.slice Al t.list.length cl, t.list), (.slice Ar t.res.length cr, t.res)] = t.inner := by
        simp [flatL, Ty.inner]
      refine (concat_any n wr.heap.size W3 wr.heap.size 3 3 [(.slice A1 t.fields.length c1, t.fields.map fun p => p.2), (.slice Al t.list.length cl, t.list), (.slice Ar t.res.length cr, t.res)] rfl (by omega) hca.size ?_ ?_ ?_).mono fun e w4 h => ?_
      · intro k p hp
        obtain ⟨h0, h1, h2⟩ := hbc.cells3
        match k, hp with
        | 0, hp => simp at hp; subst hp; exact h0
        | 1, hp => simp at hp; subst hp; exact h1
        | 2, hp => simp at hp; subst hp; exact h2
        | k + 3, hp => simp at hp
      · intro k p hp
        match k, hp with
        | 0, hp => simp at hp; subst hp; exact TysR.keep0 hca HR.out.1
        | 1, hp => simp at hp; subst hp; exact TysR.keep0 hca HR.out.2.1
        | 2, hp => simp at hp; subst hp; exact TysR.keep0 hca HR.out.2.2.1
        | k + 3, hp => simp at hp
      · rw [hsum]
        simp [Ty.inner]
        omega
      · obtain ⟨A, c, rfl, hr4, hc4⟩ := h
        rw [hsum]
        rw [hflat] at hr4
        have H4 := Lib.hid (And.intro hr4 ((HR.out.2.2.2.trans hca).trans hc4))
        have hsz : wr.heap.size ≤ w4.heap.size := Nat.le_trans hca.size hc4.size
        clear hr4 hc4 hca hbc hsum hflat y0 y1 y2 y3 y4 y5
        go_wp2_with fail
        go_ret
        exact ⟨A, c, rfl, H4.out.1.settleT (by decide) fun _ _ h => TyR.more hsz h, H4.out.2⟩
end Go.Proofs.YtgemacdnncjmdaaDoor
