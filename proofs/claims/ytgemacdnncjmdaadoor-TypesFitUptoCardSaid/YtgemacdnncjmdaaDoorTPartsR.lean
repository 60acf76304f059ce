/-
  types.parts: the types in a type, those in it as they lie.
-/
import Derived.Test.YtgemacdnncjmdaaDoorTParts
namespace Go.Proofs.YtgemacdnncjmdaaDoor
open Go.RowKit
set_option linter.unusedVariables false
set_option linter.unusedSimpArgs false

theorem keepS0 {Br n B : Nat} {v : Value} {l : List Ty} {w w' : World} (hc : Chg (fun _ _ => False) w w') (h : SlR Br 0 6 (TyR n B) w v l) : SlR Br 0 6 (TyR n B) w' v l :=
  SlR.keep h hc (no_lets _ _) fun _ _ h => TyR.keep0 hc h
set_option maxRecDepth 100000 in
set_option maxHeartbeats 4000000 in
theorem concatR_any (n B Br : Nat) (w : World) (g m cap : Nat) (rows : List (Value × List Ty)) (hm : m = rows.length) (hm3 : m ≤ 1000) (hB : B ≤ w.heap.size)
    (hcells : ∀ k p, rows[k]? = some p → w.cell? ⟨g, k, none⟩ = some p.1) (hread : ∀ (k : Nat) (p : Value × List Ty), rows[k]? = some p → SlR Br 0 6 (TyR n B) w p.1 p.2) (hsum : sumL rows ≤ 4000000) :
    Calls Tryd.prog 53 #[.slice (some ⟨g, 0, none⟩) m cap] w fun e w' => ∃ A c, e = .returned (.slice A (sumL rows) c) ∧ RowR w.heap.size 33 6 (TyR n B) w' A c (flatL rows) ∧ Chg (fun _ _ => False) w w' := by
  obtain ⟨i39, hi39, hz39, hs39, hb39⟩ := info_parts infoType
  subst hm
  have H := Lib.hid (And.intro hB (And.intro hcells (And.intro hread hsum)))
  clear hB hcells hread hsum
  go_enter Tryd.func53, Tryd.ntmps53
  go_wp2_with fail
  go_loopw [3, 5, 11] (fun s _ i wr => catRel1 rows w s i wr) (fun _ _ i _ => rows.length - (intOf i).toNat)
  case atStart => exact ⟨0, Nat.zero_le _, rfl, rfl, rfl⟩
  case round =>
    obtain ⟨k, hk, rfl, rfl, rfl⟩ := hrel
    rename World => w0
    have q3 : IntKind.i64.wrap ((k : Int) + 1) = (k : Int) + 1 := IntWalk.i64_in _ ⟨by omega, by omega⟩
    have hsm := sumL_take rows k
    have hsum := H.out.2.2.2
    by_cases hlt : k < rows.length
    · have q1 : decide (k < rows.length) = true := decide_eq_true hlt
      have q2 : (k : Int) < (rows.length : Int) := by omega
      obtain ⟨p, hp⟩ : ∃ p, rows[k]? = some p := ⟨_, List.getElem?_eq_getElem hlt⟩
      obtain ⟨A, c, hv, _⟩ := H.out.2.2.1 k p hp
      have hcell := H.out.2.1 k p hp
      rw [hv] at hcell
      have hs1 := sumL_succ hp
      have hs2 := sumL_take rows (k + 1)
      generalize sumL (rows.take k) = s0 at hsm hs1 ⊢
      generalize hl : p.2.length = l0 at hcell hs1
      have q4 : IntKind.i64.wrap ((s0 : Int) + (l0 : Int)) = (s0 : Int) + (l0 : Int) := IntWalk.i64_in _ ⟨by omega, by omega⟩
      have q5 : ¬ ((s0 : Int) + (l0 : Int) < 0) := by omega
      have HS := Lib.hid hs1
      clear hs1 hs2 hsm hv hp hsum
      go_wp2_with fail
      go_roundw
      case rel => exact ⟨k + 1, hlt, by simp, by rw [HS.out]; simp, rfl⟩
      case measure => simp [intOf]; omega
    · have q1 : decide (k < rows.length) = false := decide_eq_false hlt
      obtain rfl : k = rows.length := by omega
      rw [List.take_length]
      clear hsm
      go_wp2_with fail
      refine (grow_any (sumL rows) hsum (TyR n B) w0).mono fun e w1 h => ?_
      obtain ⟨A, c, rfl, hr, hc⟩ := h
      have H1 := Lib.hid (And.intro hr hc)
      clear hr hc
      go_wp2_with fail
      go_loopw [6, 8, 27] (fun s _ i wr => catRel2 n B w0.heap.size rows w0 s i wr) (fun _ _ i _ => rows.length - (intOf i).toNat)
      case atStart => exact ⟨0, A, c, Nat.zero_le _, rfl, rfl, H1.out.1, H1.out.2⟩
      case round =>
        obtain ⟨k, A2, c2, hk, rfl, rfl, hr, hch⟩ := hrel
        have q3 : IntKind.i64.wrap ((k : Int) + 1) = (k : Int) + 1 := IntWalk.i64_in _ ⟨by omega, by omega⟩
        have hsm := sumL_take rows k
        by_cases hlt : k < rows.length
        · have q1 : decide (k < rows.length) = true := decide_eq_true hlt
          have q2 : (k : Int) < (rows.length : Int) := by omega
          obtain ⟨p, hp⟩ : ∃ p, rows[k]? = some p := ⟨_, List.getElem?_eq_getElem hlt⟩
          have hrd := H.out.2.2.1 k p hp
          obtain ⟨A3, c3, hv, _⟩ := hrd
          have hcell := hch.cell (H.out.2.1 k p hp) fun _ => id
          have hrd : SlR Br 0 6 (TyR n B) wr p.1 p.2 := SlR.keep (H.out.2.2.1 k p hp) hch (no_lets _ _) fun _ _ h => TyR.keep0 hch h
          rw [hv] at hcell hrd
          have hs1 := sumL_succ hp
          have hs2 := sumL_take rows (k + 1)
          have hfl := flatL_succ hp
          have hlen : sumL (rows.take k) = (flatL (rows.take k)).length := (flatL_len _).symm
          have hDw : w0.heap.size ≤ wr.heap.size := hch.size
          generalize sumL (rows.take k) = s0 at hsm hs1 hlen ⊢
          generalize hl : p.2.length = l0 at hcell hs1 hrd
          have HR := Lib.hid (And.intro hr (And.intro hch (And.intro hrd (And.intro hlen (And.intro hs1 (And.intro hfl hl.symm))))))
          have hl20 : l0 ≤ 4000000 := by omega
          clear hr hch hrd hlen hs1 hfl hl hv hp hs2
          go_wp2_with (at_builtin; go_must (refine wpList_pushS rfl (.tmp 31) (.tmp 32) 23 rfl w0.heap.size 33 i39 _ 6 104 Tryd.underlying23 hi39 hz39 hs39 hb39 rfl (by omega) (TyR n B) A2 c2 _ HR.out.2.2.2.1 (by first | rfl | simp) HR.out.1 Br 0 A3 c3 p.2 HR.out.2.2.2.2.2.2 (by first | rfl | simp) HR.out.2.2.1 TyR.oneCell (by omega) (by omega) (by omega) hDw (fun _ hc => TyR.keepD H.out.1 hc) ?_))
          intro A4 c4 w4 hr4 hc4
          have HP := Lib.hid (show catRel2 n B w0.heap.size rows w0 (.slice A4 (s0 + l0) c4) (.int .i64 ((k : Int) + 1)) w4 from ⟨k + 1, A4, c4, hlt, by simp, by rw [HR.out.2.2.2.2.1], by rw [HR.out.2.2.2.2.2.1]; exact hr4, HR.out.2.1.trans_new hc4 fun b t hb h => by have := h.1; omega⟩)
          clear hr4 hc4 hcell
          go_wp2_with fail
          go_roundw
          case rel => exact HP.out
          case measure => simp [intOf]; omega
        · have q1 : decide (k < rows.length) = false := decide_eq_false hlt
          obtain rfl : k = rows.length := by omega
          rw [List.take_length] at hr ⊢
          have HR := Lib.hid (And.intro hr hch)
          clear hr hch hsm
          go_wp2_with fail
          go_ret
          exact ⟨A2, c2, rfl, HR.out.1, HR.out.2⟩
def PartsResR (n B : Nat) (t : Ty) (w : World) (e : Ending) (w' : World) : Prop :=
  ∃ A c, e = .returned (.slice A t.inner.length c) ∧ RowR w.heap.size 33 6 (TyR n B) w' A c t.inner ∧ Chg (fun _ _ => False) w w'
set_option maxRecDepth 100000 in
set_option maxHeartbeats 4000000 in
theorem partsR_any (n B : Nat) (w : World) (t : Ty) (Af : Option Addr) (cf : Nat) (Al : Option Addr) (cl : Nat) (Ar : Option Addr) (cr : Nat) (hB : B ≤ w.heap.size)
    (hT : TyR (n + 1) B w (tyCells t.kind t.name t.con Af t.fields.length cf Al t.list.length cl Ar t.res.length cr) t) :
    Calls Tryd.prog 49 #[.agg #[.int .i64 t.kind, .string t.name, .int .i64 t.con, .slice Af t.fields.length cf, .slice Al t.list.length cl, .slice Ar t.res.length cr]] w (PartsResR n B t w) := by
  obtain ⟨i39, hi39, hz39, hs39, hb39⟩ := info_parts infoType
  obtain ⟨hsm, hFl, hLl, hRl⟩ := TyR.open_ hT
  have hb1 := Blk.new w 33 #[.int .i64 t.kind, .string t.name, .int .i64 t.con, .slice Af t.fields.length cf, .slice Al t.list.length cl, .slice Ar t.res.length cr]
  have hc1 := chg_alloc w (.cells #[.int .i64 t.kind, .string t.name, .int .i64 t.con, .slice Af t.fields.length cf, .slice Al t.list.length cl, .slice Ar t.res.length cr] 33)
  have HT := Lib.hid (And.intro hFl (And.intro hLl (And.intro hRl hsm)))
  have HB := Lib.hid hB
  clear hB hFl hLl hRl hsm hT
  go_enter Tryd.func49, Tryd.ntmps49
  go_wp2_with fail
  obtain ⟨D, hD⟩ : ∃ D, D = w.heap.size + 1 := ⟨_, rfl⟩
  have hDs : D = (w.alloc (.cells #[.int .i64 t.kind, .string t.name, .int .i64 t.con, .slice Af t.fields.length cf, .slice Al t.list.length cl, .slice Ar t.res.length cr] 33)).heap.size := by simp [hD]
  generalize w.alloc (.cells #[.int .i64 t.kind, .string t.name, .int .i64 t.con, .slice Af t.fields.length cf, .slice Al t.list.length cl, .slice Ar t.res.length cr] 33) = W at hb1 hc1 hDs ⊢
  generalize hg : w.heap.size = g at hb1 hD ⊢
  have H0 := Lib.hid (And.intro hb1 (And.intro hc1 (And.intro hDs (And.intro hD hg))))
  clear hb1 hc1 hDs hD hg
  go_loopw [3, 9] (fun v i wr => innerRel D n B t W v i wr) (fun _ i _ => t.fields.length - (intOf i).toNat)
  case atStart => exact ⟨0, none, 0, Nat.zero_le _, rfl, rfl, RowR.nil _ _ _ _ _, Chg.refl _ _⟩
  case round =>
    obtain ⟨k, A1, c1, hk, rfl, rfl, hr, hch⟩ := hrel
    have hf20 := HT.out.2.2.2.2.2.2.1
    have q3 : IntKind.i64.wrap ((k : Int) + 1) = (k : Int) + 1 := IntWalk.i64_in _ ⟨by omega, by omega⟩
    by_cases hlt : k < t.fields.length
    · have q1 : decide (k < t.fields.length) = true := decide_eq_true hlt
      have q2 : (k : Int) < (t.fields.length : Int) := by omega
      have hcw := H0.out.2.1.trans hch
      obtain ⟨b, o, nm, x, Xf, xf, Xl, xl, Xr, xr, rfl, hbB, hkx, hnms, hRx, z0, z1, z2, z3, z4, z5, z6⟩ := fld_at (SlR.keep HT.out.1 hcw (no_lets _ _) fun _ _ h => h.imp fun _ _ h => TyR.keep0 hcw h) hlt
      have hBD : B ≤ D := by have := HB.out; have := H0.out.2.2.2; omega
      have hDw : D ≤ wr.heap.size := by have := H0.out.2.2.1; have := hch.size; omega
      have hone := TyR.oneCell _ _ hRx
      have htl : k = ((t.fields.take k).map (fun p => p.2)).length := by rw [List.length_map, List.length_take]; omega
      have hk20 : k ≤ 549755813888 := by omega
      have hca := chg_alloc wr (.cells #[.string nm, .int .i64 x.kind, .string x.name, .int .i64 x.con, .slice Xf x.fields.length xf, .slice Xl x.list.length xl, .slice Xr x.res.length xr] 35)
      have hra := hr.keep hca (fun b _ h => h) (fun _ _ h => TyR.keep0 hca h)
      have HR := Lib.hid (And.intro hra (And.intro (hch.trans hca) (And.intro hkx (And.intro (TyR.keep0 hca hRx) (And.intro htl hf20)))))
      have hDw2 : D ≤ (wr.alloc (.cells #[.string nm, .int .i64 x.kind, .string x.name, .int .i64 x.con, .slice Xf x.fields.length xf, .slice Xl x.list.length xl, .slice Xr x.res.length xr] 35)).heap.size := by simp; omega
      clear hr hch hkx hRx htl hcw hbB hnms hf20 hra hca hDw
      go_wp2_with (at_builtin; go_must (refine wpList_push rfl (.tmp 13) (.tmp 16) 23 rfl D 33 i39 _ 6 104 Tryd.underlying23 hi39 hz39 hs39 hb39 rfl (by omega) (TyR n B) A1 c1 _ HR.out.2.2.2.2.1 (by first | rfl | simp) HR.out.1 1 (tyCells x.kind x.name x.con Xf x.fields.length xf Xl x.list.length xl Xr x.res.length xr) x (by first | rfl | simp) (by first | rfl | simp) rfl hone HR.out.2.2.2.1 hk20 (by omega) hDw2 (fun _ hc => TyR.keepD hBD hc) ?_))
      intro A2 c2 w2 hr2 hc2
      have htk : (t.fields.take (k + 1)).map (fun p => p.2) = (t.fields.take k).map (fun p => p.2) ++ [x] := by
        obtain ⟨h1, h2⟩ := List.getElem?_eq_some_iff.1 HR.out.2.2.1
        rw [List.take_succ_eq_append_getElem h1, h2]
        simp
      have HP := Lib.hid (show innerRel D n B t W (.slice A2 (k + 1) c2) (.int .i64 ((k : Int) + 1)) w2 from ⟨k + 1, A2, c2, hlt, by simp, rfl, by rw [htk, List.map_take]; exact hr2, HR.out.2.1.trans_new hc2 fun b t hb h => by have := H0.out.2.2.1; have := h.1; omega⟩)
      clear hr2 hc2 htk hone z0 z1 z2 z3 z4 z5 z6
      go_wp2_with fail
      go_roundw
      case rel => exact HP.out
      case measure => simp [intOf]; omega
    · have q1 : decide (k < t.fields.length) = false := decide_eq_false hlt
      obtain rfl : k = t.fields.length := by omega
      rw [List.take_length] at hr
      have hcw := H0.out.2.1.trans hch
      obtain ⟨y0, y1, y2, y3, y4, y5⟩ := (hch.blk H0.out.1 id).cells6
      have hrl := RowR.settleT (R' := TyR n B) (by decide) hr fun _ _ h => h
      have hl2 : SlR wr.heap.size 0 6 (TyR n B) wr (.slice Al t.list.length cl) t.list := (TysR.keep0 hcw HT.out.2.1).imp (fun b _ hl => hl.imp (fun h => Nat.lt_of_lt_of_le h (Nat.le_trans HB.out hcw.size)) id) fun _ _ h => h
      have hl3 : SlR wr.heap.size 0 6 (TyR n B) wr (.slice Ar t.res.length cr) t.res := (TysR.keep0 hcw HT.out.2.2.1).imp (fun b _ hl => hl.imp (fun h => Nat.lt_of_lt_of_le h (Nat.le_trans HB.out hcw.size)) id) fun _ _ h => h
      rw [List.length_map] at hrl
      have s5 := HT.out.2.2.2.2.2.2.2.1
      have s6 := HT.out.2.2.2.2.2.2.2.2
      have HR := Lib.hid (And.intro hrl (And.intro hl2 (And.intro hl3 hcw)))
      clear hr hch hcw hrl hl2 hl3
      go_wp2_with fail
      have hca := chg_alloc wr (.cells #[.slice A1 t.fields.length c1, .slice Al t.list.length cl, .slice Ar t.res.length cr] 23)
      have hbc := Blk.new wr 23 #[.slice A1 t.fields.length c1, .slice Al t.list.length cl, .slice Ar t.res.length cr]
      generalize wr.alloc (.cells #[.slice A1 t.fields.length c1, .slice Al t.list.length cl, .slice Ar t.res.length cr] 23) = W3 at hca hbc ⊢
      have hsum : sumL [(.slice A1 t.fields.length c1, t.fields.map fun p => p.2), (.slice Al t.list.length cl, t.list), (.slice Ar t.res.length cr, t.res)] = t.inner.length := by
        simp [sumL, Ty.inner, Nat.add_assoc]
      have hflat : flatL [(.slice A1 t.fields.length c1, t.fields.map fun p => p.2), (.slice Al t.list.length cl, t.list), (.slice Ar t.res.length cr, t.res)] = t.inner := by
        simp [flatL, Ty.inner]
      refine (concatR_any n B wr.heap.size W3 wr.heap.size 3 3 [(.slice A1 t.fields.length c1, t.fields.map fun p => p.2), (.slice Al t.list.length cl, t.list), (.slice Ar t.res.length cr, t.res)] rfl (by omega) (Nat.le_trans HB.out (Nat.le_trans HR.out.2.2.2.size hca.size)) ?_ ?_ ?_).mono fun e w4 h => ?_
      · intro k p hp
        obtain ⟨h0, h1, h2⟩ := hbc.cells3
        match k, hp with
        | 0, hp => simp at hp; subst hp; exact h0
        | 1, hp => simp at hp; subst hp; exact h1
        | 2, hp => simp at hp; subst hp; exact h2
        | k + 3, hp => simp at hp
      · intro k p hp
        match k, hp with
        | 0, hp => simp at hp; subst hp; exact keepS0 hca HR.out.1
        | 1, hp => simp at hp; subst hp; exact keepS0 hca HR.out.2.1
        | 2, hp => simp at hp; subst hp; exact keepS0 hca HR.out.2.2.1
        | k + 3, hp => simp at hp
      · rw [hsum]
        simp [Ty.inner]
        omega
      · obtain ⟨A, c, rfl, hr4, hc4⟩ := h
        rw [hsum]
        rw [hflat] at hr4
        have H4 := Lib.hid (And.intro hr4 ((HR.out.2.2.2.trans hca).trans hc4))
        have hbz := Nat.le_trans HR.out.2.2.2.size hca.size
        clear hr4 hc4 hca hbc hsum hflat y0 y1 y2 y3 y4 y5
        go_wp2_with fail
        go_ret
        exact ⟨A, c, rfl, H4.out.1.rebase hbz, H4.out.2⟩
end Go.Proofs.YtgemacdnncjmdaaDoor
