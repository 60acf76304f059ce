/-
  The walk of UnifyFits.
-/
import Derived.Test.YtefiefckjoledaaDoorUniU
namespace Go.Proofs.YtefiefckjoledaaDoor
open Go.RowKit
set_option linter.unusedVariables false
set_option linter.unusedSimpArgs false

def foundL (names : List ByteArray) (g : ByteArray → Option Ty) : List ByteArray := names.filter (isAt g)
theorem foundL_succ {names : List ByteArray} {g : ByteArray → Option Ty} {k : Nat} {s : ByteArray} (h : names[k]? = some s) : foundL (names.take (k + 1)) g = if isAt g s = true then foundL (names.take k) g ++ [s] else foundL (names.take k) g := by
  obtain ⟨h1, h2⟩ := List.getElem?_eq_some_iff.1 h
  unfold foundL
  rw [List.take_succ_eq_append_getElem h1, h2, List.filter_append, List.filter_cons, List.filter_nil]
  split <;> simp
theorem foundL_len (names : List ByteArray) (g : ByteArray → Option Ty) : (foundL names g).length ≤ names.length := List.length_filter_le _ _
theorem assoc_found {g : ByteArray → Option Ty} : ∀ (l : List ByteArray) (s : ByteArray), s ∈ l → (∀ x ∈ l, isAt g x = true) → assoc l (l.map (tyAt g)) s = g s
  | [], s, h, _ => by cases h
  | x :: l, s, h, hk => by
    rw [List.map_cons, assoc]
    by_cases he : s = x
    · subst he
      rw [if_pos (eqB_self _)]
      have := hk s (by simp)
      unfold isAt at this
      unfold tyAt
      cases hg : g s with
      | none => rw [hg] at this; cases this
      | some u => rfl
    · rw [if_neg (by rw [eqB_false.2 he]; decide)]
      exact assoc_found l s ((List.mem_cons.1 h).resolve_left he) fun y hy => hk y (by simp [hy])
/-- With what is found in their places, what was wanted is what was had. -/
theorem fits_law {n : Nat} {names : List ByteArray} {want have_ : List Ty} {g : ByteArray → Option Ty} (h : matchL (matchT names n) (noNm want) (noNm have_) (fun _ => none) = some g) : want.map (Ty.fill (assoc (foundL names g) ((foundL names g).map (tyAt g)))) = have_ := by
  have hle : LeQ names (fun _ => none) g := matchL_le (LeQ.refl names) (fun _ _ _ => LeQ.trans) (fun p _ b g g' h => match_le h) h
  have hh : ∀ s u, g s = some u → assoc (foundL names g) ((foundL names g).map (tyAt g)) s = some u := fun s u hs => by
    have hin : s ∈ names := (hle.2 s u hs).resolve_left fun h => by cases h
    rw [assoc_found (foundL names g) s (List.mem_filter.2 ⟨hin, by unfold isAt; rw [hs]; rfl⟩) fun x hx => (List.mem_filter.1 hx).2, hs]
  have hn : ∀ s, s ∉ names → assoc (foundL names g) ((foundL names g).map (tyAt g)) s = none := fun s hs => assoc_none fun y hy hxy => hs (hxy ▸ (List.mem_filter.1 hy).1)
  have := matchL_fill (fun a b g g' h => match_le h) (fun a b g g' h1 h2 => match_fill hn h1 h2) h hh
  rw [noNm_map] at this
  exact noNm_inj this
def fitRel (D m : Nat) (names : List ByteArray) (g : ByteArray → Option Ty) (W : World) (v v' i : Value) (wr : World) : Prop :=
  ∃ (k : Nat) (A : Option Addr) (c : Nat) (A' : Option Addr) (c' : Nat), k ≤ names.length ∧ i = .int .i64 k ∧ v = .slice A (foundL (names.take k) g).length c ∧ v' = .slice A' (foundL (names.take k) g).length c' ∧ RowR D 9 1 StrV wr A c (foundL (names.take k) g) ∧ RowR D 39 6 (TyR m D) wr A' c' ((foundL (names.take k) g).map (tyAt g)) ∧ Chg (fun _ _ => False) W wr
set_option maxRecDepth 100000 in
set_option maxHeartbeats 8000000 in
theorem unifyFits_walk (n B : Nat) (w : World) (names : List ByteArray) (want have_ : List Ty) (An : Option Addr) (cn : Nat) (Aw : Option Addr) (cw : Nat) (Ah : Option Addr) (ch : Nat) (hB : B ≤ w.heap.size) (hTab : Tabs w)
    (hN : StrsR B w (.slice An names.length cn) names) (hnl : names.length ≤ 1048576) (hW : TysR n B w (.slice Aw want.length cw) want) (hwl : want.length ≤ 1048576) (hH : TysR n B w (.slice Ah have_.length ch) have_) (hhl : have_.length ≤ 1048576) :
    Calls Tryd.prog 4 #[.slice An names.length cn, .slice Aw want.length cw, .slice Ah have_.length ch] w fun e w' => e = .returned (.bool true) ∧ Chg (fun _ _ => False) w w' := by
  obtain ⟨i9, hi9, hz9, hs9, hb9⟩ := info_parts infoStr
  obtain ⟨i39, hi39, hz39, hs39, hb39⟩ := info_parts infoType
  have hb := Blk.new w 9 #[]
  have hc := chg_alloc w (.cells #[] 9)
  have hr : RowR w.heap.size 9 1 StrV (w.alloc (.cells #[] 9)) (some ⟨w.heap.size, 0, none⟩) 0 ([] : List ByteArray) :=
    ⟨[], ⟨by simp, .inr ⟨w.heap.size, 0, #[], rfl, Nat.le_refl _, hb, Nat.le_refl _, by simp [maxLen], by simp, by simp⟩⟩, rfl, by simp, by simp⟩
  have hl1 : StrsR B _ (.slice An names.length cn) names := SlR.keep hN hc (no_lets _ _) fun _ _ h => h
  have HR := Lib.hid (And.intro hr (And.intro hl1 hc))
  have HP := Lib.hid (And.intro hB (And.intro hTab (And.intro hN (And.intro hW hH))))
  clear hB hTab hN hW hH hb hr hl1 hc
  go_enter Tryd.func4, Tryd.ntmps4
  go_wp2_with (at_builtin; go_must (refine wpList_pushS rfl (.tmp 14) (.tmp 15) 22 rfl w.heap.size 9 i9 _ 1 16 Tryd.underlying22 hi9 hz9 hs9 hb9 rfl (by omega) StrV (some ⟨w.heap.size, 0, none⟩) 0 [] rfl (by first | rfl | simp) HR.out.1 B 0 An cn names rfl (by first | rfl | simp) HR.out.2.1 (StrV.one _) (by simp) (by omega) (by omega) (by simp) (fun _ _ _ _ h => h) ?_))
  intro A2 c2 w1 hr1 hc1
  have hcw := HR.out.2.2.trans_new hc1 fun b t hb h => by have := h.1; omega
  have hs1 : StrsU w1 (.slice A2 names.length c2) names := ⟨w1.heap.size, A2, c2, Nat.le_refl _, rfl, by have := hr1.settleT (R' := StrV) (by decide) fun _ _ h => h; simpa using this⟩
  have how := owns8U (TysU.of (Nat.le_trans HP.out.1 hcw.size) (TysR.keep0 hcw HP.out.2.2.2.1)) hwl
  try simp only [Nat.zero_add]
  have H1 := Lib.hid (And.intro hs1 hcw)
  clear hr1 hc1 hs1 hcw HR
  go_wp2_with fail
  refine how.mono fun e w2 h => ?_
  obtain ⟨v2, rfl, hv2, hc2⟩ := h
  clear how
  have hcw := H1.out.2.trans hc2
  have how := owns8U (TysU.of (Nat.le_trans HP.out.1 hcw.size) (TysR.keep0 hcw HP.out.2.2.2.2)) hhl
  have H2 := Lib.hid (And.intro (H1.out.1.keep hc2) (And.intro hv2 hcw))
  clear hv2 hc2 hcw H1
  go_wp2_with fail
  refine how.mono fun e w3 h => ?_
  obtain ⟨v3, rfl, hv3, hc3⟩ := h
  clear how
  have hcw := H2.out.2.2.trans hc3
  have hun := unifyU (n := n) (m := n) (names := names) (want := want) (have_ := have_) (HP.out.2.1.keep0 hcw) (H2.out.1.keep hc3) (H2.out.2.1.keep hc3) hv3 hnl hwl hhl
  have H3 := Lib.hid hcw
  clear hv3 hc3 hcw H2
  go_wp2_with fail
  refine hun.mono fun e w4 h => ?_
  obtain ⟨v, rfl, ⟨v1, v2', rfl, hbad, hok⟩, hc4⟩ := h
  clear hun
  have hcw := H3.out.trans hc4
  have hans := answers8_any w4 (HP.out.2.1.keep0 hcw)
  by_cases hE : uniE n names want have_ = 0
  · obtain ⟨g, hg, hnd, hlen, hsound, hT, hBo⟩ := hok hE
    rw [hE]
    have H4 := Lib.hid (And.intro hg (And.intro hT (And.intro hBo hcw)))
    clear hE hbad hok hg hnd hlen hsound hT hBo hcw hc4
    go_wp2_with fail
    refine hans.mono fun e w5 h => ?_
    obtain ⟨rfl, hc5⟩ := h
    clear hans
    obtain ⟨D1, A1, c1, hD1, rfl, hT⟩ := H4.out.2.1.keep hc5
    obtain ⟨A3, c3, rfl, hBo⟩ := H4.out.2.2.1.keep hc5
    have hBs := hBo.slr (by decide) 0
    have hTs : TysR (n + 1) w5.heap.size w5 (.slice A1 (names.map (tyAt g)).length c1) (names.map (tyAt g)) := SlR.imp hT (fun b _ hl => hl.imp (fun h => Nat.lt_of_lt_of_le h hD1) id) fun _ _ h => TyR.more hD1 h
    have hcw := H4.out.2.2.2.trans hc5
    rw [List.length_map] at hBs hTs ⊢
    rw [List.length_map]
    have H5 := Lib.hid (And.intro hBs (And.intro hTs (And.intro hcw H4.out.1)))
    clear hT hBo hBs hTs hcw hc5 hD1 H4
    go_wp2_with fail
    go_loopw [10, 11, 12] (fun v v' i wr => fitRel w5.heap.size (n + 1) names g w5 v v' i wr) (fun _ _ i _ => names.length - (intOf i).toNat)
    case atStart => exact ⟨0, none, 0, none, 0, Nat.zero_le _, rfl, by simp [foundL], by simp [foundL], by simpa [foundL] using RowR.nil _ _ _ _ _, by simpa [foundL] using RowR.nil _ _ _ _ _, Chg.refl _ _⟩
    case round =>
      obtain ⟨k, A4, c4, A5, c5, hk, rfl, rfl, rfl, hr4, hr5, hch⟩ := hrel
      have q3 : IntKind.i64.wrap ((k : Int) + 1) = (k : Int) + 1 := IntWalk.i64_in _ ⟨by omega, by omega⟩
      have hfl := foundL_len (names.take k) g
      have htl := List.length_take_le k names
      by_cases hlt : k < names.length
      · have q1 : decide (k < names.length) = true := decide_eq_true hlt
        have q2 : (k : Int) < (names.length : Int) := by omega
        obtain ⟨b6, o6, y, cs6, rfl, hky, hcl6, hy6, hcell6⟩ := SlR.at2 (SlR.keep H5.out.1 hch ⟨fun _ _ _ => id, fun _ _ => id⟩ fun _ _ h => h) (k := k) (by rw [List.length_map]; exact hlt)
        obtain rfl : cs6 = [.bool y] := hy6
        have y0 : wr.cell? ⟨b6, o6 + k, none⟩ = some (.bool y) := by simpa using hcell6 0 _ rfl
        obtain ⟨bs, os, s, css, rfl, hks, _, ⟨rfl, hss⟩, hcell⟩ := SlR.at2 (SlR.keep HP.out.2.2.1 (H5.out.2.2.1.trans hch) (no_lets _ _) fun _ _ h => h) hlt
        have z0 : wr.cell? ⟨bs, os + k, none⟩ = some (.string s) := by simpa using hcell 0 _ rfl
        have hys : y = isAt g s := by
          rw [List.getElem?_map, hks] at hky
          exact (Option.some.inj hky).symm
        have hfs := foundL_succ (g := g) hks
        cases y with
        | false =>
          have HK := Lib.hid (And.intro hys (And.intro hfs (And.intro hr4 (And.intro hr5 hch))))
          clear hys hfs hr4 hr5 hch hky hks hcell hcell6 hcl6
          go_wp2_with fail
          go_roundw
          case rel =>
            obtain ⟨hys, hfs, hr4, hr5, hch⟩ := HK.out
            rw [if_neg (by rw [← hys]; decide)] at hfs
            exact ⟨k + 1, A4, c4, A5, c5, hlt, by simp, by rw [hfs], by rw [hfs], by rw [hfs]; exact hr4, by rw [hfs]; exact hr5, hch⟩
          case measure => simp [intOf]; omega
        | true =>
          rw [if_pos hys.symm] at hfs
          have hDw := hch.size
          have hfl20 : (foundL (names.take k) g).length ≤ 549755813888 := by omega
          generalize hFk : foundL (names.take k) g = Fk at hr4 hr5 hfs hfl hfl20 ⊢
          have HK := Lib.hid (And.intro hfs (And.intro hr4 (And.intro hr5 (And.intro hch hks))))
          clear hfs hr4 hr5 hch hky hks hcell hcell6 hcl6 hys hFk hfl htl
          go_wp2_with (at_builtin; go_must (refine wpList_push rfl (.tmp 48) (.tmp 53) 22 rfl w5.heap.size 9 i9 _ 1 16 Tryd.underlying22 hi9 hz9 hs9 hb9 rfl (by omega) StrV A4 c4 Fk rfl (by first | rfl | simp) HK.out.2.1 1 [.string s] s (by first | rfl | simp) (by first | rfl | simp) rfl (by intro u hu; simp at hu; subst hu; rfl) ⟨rfl, hss⟩ hfl20 (by omega) hDw (fun _ _ _ _ h => h) ?_))
          intro A7 c7 w7 hr7 hc7
          have hm7 : LetsM (fun b t => w5.heap.size ≤ b ∧ t = 9) w5.heap.size := fun b t hb h => by have := h.1; omega
          have hT7 : TysR (n + 1) w5.heap.size w7 (.slice A1 names.length c1) (names.map (tyAt g)) := SlR.keep (TysR.keep0 HK.out.2.2.2.1 H5.out.2.1) hc7 hm7.lets fun _ _ h => TyR.keep hc7 hm7 h
          obtain ⟨bt, ot, x, Xf, xf, Xl, xl, Xr, xr, rfl, hkx, hRx, x0, x1, x2, x3, x4, x5⟩ := TysR.at_ hT7 (k := k) (by rw [List.length_map]; exact hlt)
          have hxs : x = tyAt g s := by
            rw [List.getElem?_map, HK.out.2.2.2.2] at hkx
            exact (Option.some.inj hkx).symm
          have hone := TyR.oneCell _ _ hRx
          have hr5 := HK.out.2.2.1.keep hc7 (fun b _ h => absurd h.2 (by decide)) fun cs x h => TyR.keep hc7 hm7 h
          have hDw7 := Nat.le_trans hDw hc7.size
          have hfl21 := Lib.hid (show Fk.length = (Fk.map (tyAt g)).length by simp)
          have H7 := Lib.hid (And.intro hr7 (And.intro (HK.out.2.2.2.1.trans_new hc7 fun b t hb h => by have := h.1; omega) (And.intro hxs (And.intro hr5 hRx))))
          clear hr7 hc7 hm7 hT7 hkx hRx hxs hr5
          go_wp2_with (at_builtin; go_must (refine wpList_push rfl (.tmp 55) (.tmp 60) 23 rfl w5.heap.size 39 i39 _ 6 104 Tryd.underlying23 hi39 hz39 hs39 hb39 rfl (by omega) (TyR (n + 1) w5.heap.size) A5 c5 (Fk.map (tyAt g)) hfl21.out (by first | rfl | simp) H7.out.2.2.2.1 1 (tyCells x.kind x.name x.con Xf x.fields.length xf Xl x.list.length xl Xr x.res.length xr) x (by first | rfl | simp) (by first | rfl | simp) rfl hone H7.out.2.2.2.2 hfl20 (by omega) hDw7 (fun w' hc _ _ h => TyR.keep hc (fun b t hb h => by have := h.1; omega) h) ?_))
          intro A8 c8 w8 hr8 hc8
          obtain ⟨hr7, hch7, hxs, _, _⟩ := H7.out
          have hfs := HK.out.1
          have hr7' := hr7.keep hc8 (fun b _ h => absurd h.2 (by decide)) fun cs x h => h
          have hfl3 : (Fk ++ [s]).length = Fk.length + 1 := by simp
          have hmap : (Fk ++ [s]).map (tyAt g) = Fk.map (tyAt g) ++ [x] := by simp [hxs]
          have HQ := Lib.hid (show fitRel w5.heap.size (n + 1) names g w5 (.slice A7 (Fk.length + 1) c7) (.slice A8 (Fk.length + 1) c8) (.int .i64 ((k : Int) + 1)) w8 from ⟨k + 1, A7, c7, A8, c8, hlt, by simp, by rw [hfs, hfl3], by rw [hfs, hfl3], by rw [hfs]; exact hr7', by rw [hfs, hmap]; exact hr8, hch7.trans_new hc8 fun b t hb h => by have := h.1; omega⟩)
          clear hr8 hc8 hr7 hch7 hxs hfs hr7' hfl3 hmap x0 x1 x2 x3 x4 x5 hone
          go_wp2_with fail
          go_roundw
          case rel => exact HQ.out
          case measure => simp [intOf]; omega
      · have q1 : decide (k < names.length) = false := decide_eq_false hlt
        obtain rfl : k = names.length := by omega
        rw [List.take_length] at hr4 hr5 hfl ⊢
        have hcw := H5.out.2.2.1.trans hch
        have hNs : StrsR wr.heap.size wr (.slice A4 (foundL names g).length c4) (foundL names g) := hr4.settleT (by decide) fun _ _ h => h
        have hTs := hr5.settleT (R' := TyR (n + 1) wr.heap.size) (by decide) fun _ _ h => TyR.more hch.size h
        have hW : TysR n wr.heap.size wr (.slice Aw want.length cw) want := SlR.imp (TysR.keep0 hcw HP.out.2.2.2.1) (fun b _ hl => hl.imp (fun h => Nat.lt_of_lt_of_le h (Nat.le_trans HP.out.1 hcw.size)) id) fun _ _ h => TyR.more (Nat.le_trans HP.out.1 hcw.size) h
        have hF := fill_names wr.heap.size (n + 1) (foundL names g) ((foundL names g).map (tyAt g)) A4 c4 A5 c5 (by simp) (by simp; omega) n
        have hcall := fillAll_of n _ wr.heap.size _ _ _ _ (stays_pre (n + 1) wr.heap.size (foundL names g) ((foundL names g).map (tyAt g)) A4 c4 A5 c5) hF wr want Aw cw (Nat.le_refl _) ⟨hNs, hTs⟩ hwl hW
        rw [fits_law H5.out.2.2.2, List.length_map] at hcall
        have HZ := Lib.hid hcw
        clear hr4 hr5 hch hcw hNs hTs hW hF hfl htl
        go_wp2_with fail
        refine hcall.mono fun e w9 h => ?_
        obtain ⟨A9, c9, rfl, hN9, hc9⟩ := h
        clear hcall
        have hcw := HZ.out.trans hc9
        have hsm := rsameAll_any (n + (n + 1)) w9.heap.size w9 have_ have_ A9 c9 Ah ch (Nat.le_refl _) (hN9.1.settleT (by decide) fun _ _ h => TyN.tyR h) (SlR.imp (TysR.keep0 hcw HP.out.2.2.2.2) (fun b _ hl => hl.imp (fun h => Nat.lt_of_lt_of_le h (Nat.le_trans HP.out.1 hcw.size)) id) fun _ _ h => TyR.more (Nat.le_trans HP.out.1 hcw.size) (TyR.deep h (by omega))) (by omega) (by omega)
        rw [eqB_self] at hsm
        have HY := Lib.hid hcw
        clear hN9 hc9 hcw
        go_wp2_with fail
        refine hsm.mono fun e w10 h => ?_
        obtain ⟨rfl, hc10⟩ := h
        go_wp2_with fail
        go_ret
        exact ⟨rfl, HY.out.trans hc10⟩
  · have q9 : (uniE n names want have_ != 0) = true := by simp [hE]
    have HX := Lib.hid hcw
    obtain ⟨rfl, rfl⟩ := hbad hE
    clear hbad hok hcw hc4 hE
    generalize uniE n names want have_ = E at q9 ⊢
    go_wp2_with fail
    refine hans.mono fun e w5 h => ?_
    obtain ⟨rfl, hc5⟩ := h
    clear hans
    have hans := answers8_any w5 (HP.out.2.1.keep0 (HX.out.trans hc5))
    have HY := Lib.hid (HX.out.trans hc5)
    clear hc5
    go_wp2_with fail
    refine hans.mono fun e w6 h => ?_
    obtain ⟨rfl, hc6⟩ := h
    go_wp2_with fail
    go_ret
    exact ⟨rfl, HY.out.trans hc6⟩
end Go.Proofs.YtefiefckjoledaaDoor
