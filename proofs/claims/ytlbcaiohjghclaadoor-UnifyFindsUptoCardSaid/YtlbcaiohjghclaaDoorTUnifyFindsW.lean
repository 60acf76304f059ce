/-
  The walk of UnifyFinds.
-/
import Derived.Test.YtlbcaiohjghclaaDoorRFind
namespace Go.Proofs.YtlbcaiohjghclaaDoor
open Go.RowKit
set_option linter.unusedVariables false
set_option linter.unusedSimpArgs false

theorem rfind_of {n m : Nat} {names : List ByteArray} {want have_ : List Ty} {An : Option Addr} {cn : Nat} {w w' : World} {e : Ending} (h : RFindRes n m names want have_ An cn w e w') : ∃ (v : Value) (i : Int), e = .returned (.tuple #[v, .int .i64 i, .int .i64 (uniE n names want have_)]) ∧
    (uniE n names want have_ = 0 → ∃ (gB qT qK : Nat) (g : ByteArray → Option Ty), v = .pointer (some ⟨gB, 0, none⟩) ∧ matchL (matchT names n) (noNm want) (noNm have_) (fun _ => none) = some g ∧ BndR m w.heap.size gB qT qK names An cn names.length names.length g w') ∧ Chg (fun _ _ => False) w w' := by
  obtain ⟨hc, ⟨h1, rfl⟩ | ⟨h1, h2, rfl⟩ | ⟨h1, h2, ⟨k, g, x, y, k1, k2, k3, k4, rfl⟩ | ⟨gB, qT, qK, g, h3, rfl, h4⟩⟩⟩ := h
  · have hE : uniE n names want have_ = 1 := by unfold uniE; rw [if_neg (by rw [h1]; decide)]
    exact ⟨_, _, by rw [hE], fun h => absurd (hE.symm.trans h) (by decide), hc⟩
  · have hE : uniE n names want have_ = 2 := by unfold uniE; rw [if_pos h1, if_neg h2]
    exact ⟨_, _, by rw [hE], fun h => absurd (hE.symm.trans h) (by decide), hc⟩
  · have hn : matchL (matchT names n) (noNm want) (noNm have_) (fun _ => none) = none := matchL_bad (k := k + 1) (by rw [noNm_len]; exact (List.getElem?_eq_some_iff.1 k1).1) (by rw [noNm_len, noNm_len]; exact h2.2) (((matchL_take k3 (noNm_get k1) (noNm_get k2)).trans (stepM_bare _ _ _ _ _)).trans k4)
    have hE : uniE n names want have_ = 9 := by unfold uniE; rw [if_pos h1, if_pos h2, if_neg (by rw [hn]; decide)]
    exact ⟨_, _, by rw [hE], fun h => absurd (hE.symm.trans h) (by decide), hc⟩
  · have hE : uniE n names want have_ = 0 := by unfold uniE; rw [if_pos h1, if_pos h2, if_pos (by rw [h3]; rfl)]
    exact ⟨_, _, by rw [hE], fun _ => ⟨gB, qT, qK, g, rfl, h3, h4⟩, hc⟩
def idRel (names : List ByteArray) (W : World) (i : Value) (wr : World) : Prop := ∃ k : Nat, k ≤ names.length ∧ i = .int .i64 k ∧ Chg (fun _ _ => False) W wr
set_option maxRecDepth 100000 in
set_option maxHeartbeats 4000000 in
theorem unifyFinds_walk (n B : Nat) (w : World) (names : List ByteArray) (want have_ : List Ty) (An : Option Addr) (cn : Nat) (Aw : Option Addr) (cw : Nat) (Ah : Option Addr) (ch : Nat) (hB : B ≤ w.heap.size) (hTab : Tabs w)
    (hN : StrsR B w (.slice An names.length cn) names) (hnl : names.length ≤ 1048576) (hW : TysR n B w (.slice Aw want.length cw) want) (hwl : want.length ≤ 1048576) (hH : TysR n B w (.slice Ah have_.length ch) have_) (hhl : have_.length ≤ 1048576) :
    Calls Tryd.prog 3 #[.slice An names.length cn, .slice Aw want.length cw, .slice Ah have_.length ch] w fun e w' => e = .returned (.bool true) ∧ Chg (fun _ _ => False) w w' := by
  obtain ⟨i9, hi9, hz9, hs9, hb9⟩ := info_parts infoStr
  have hb := Blk.new w 9 #[]
  have hc := chg_alloc w (.cells #[] 9)
  have hr : RowR w.heap.size 9 1 StrV (w.alloc (.cells #[] 9)) (some ⟨w.heap.size, 0, none⟩) 0 ([] : List ByteArray) :=
    ⟨[], ⟨by simp, .inr ⟨w.heap.size, 0, #[], rfl, Nat.le_refl _, hb, Nat.le_refl _, by simp [maxLen], by simp, by simp⟩⟩, rfl, by simp, by simp⟩
  have hl1 : StrsR B _ (.slice An names.length cn) names := SlR.keep hN hc (no_lets _ _) fun _ _ h => h
  have HR := Lib.hid (And.intro hr (And.intro hl1 hc))
  have HP := Lib.hid (And.intro hB (And.intro hTab (And.intro hN (And.intro hW hH))))
  clear hB hTab hN hW hH hb hr hl1 hc
  go_enter Tryd.func3, Tryd.ntmps3
  go_wp2_with (at_builtin; go_must (refine wpList_pushS rfl (.tmp 15) (.tmp 16) 22 rfl w.heap.size 9 i9 _ 1 16 Tryd.underlying22 hi9 hz9 hs9 hb9 rfl (by omega) StrV (some ⟨w.heap.size, 0, none⟩) 0 [] rfl (by first | rfl | simp) HR.out.1 B 0 An cn names rfl (by first | rfl | simp) HR.out.2.1 (StrV.one _) (by simp) (by omega) (by omega) (by simp) (fun _ _ _ _ h => h) ?_))
  intro A2 c2 w1 hr1 hc1
  have hcw := HR.out.2.2.trans_new hc1 fun b t hb h => by have := h.1; omega
  have hs1 : StrsU w1 (.slice A2 names.length c2) names := ⟨w1.heap.size, A2, c2, Nat.le_refl _, rfl, by have := hr1.settleT (R' := StrV) (by decide) fun _ _ h => h; simpa using this⟩
  have how := owns8U (TysU.of (Nat.le_trans HP.out.1 hcw.size) (TysR.keep0 hcw HP.out.2.2.2.1)) hwl
  try simp only [Nat.zero_add]
  have H1 := Lib.hid (And.intro hs1 hcw)
  clear hr1 hc1 hs1 hcw HR
  go_wp2_with fail
  refine how.mono fun e w2 h => ?_
  obtain ⟨v2, rfl, hv2, hc2⟩ := h
  clear how
  have hcw := H1.out.2.trans hc2
  have how := owns8U (TysU.of (Nat.le_trans HP.out.1 hcw.size) (TysR.keep0 hcw HP.out.2.2.2.2)) hhl
  have H2 := Lib.hid (And.intro (H1.out.1.keep hc2) (And.intro hv2 hcw))
  clear hv2 hc2 hcw H1
  go_wp2_with fail
  refine how.mono fun e w3 h => ?_
  obtain ⟨v3, rfl, hv3, hc3⟩ := h
  clear how
  have hcw := H2.out.2.2.trans hc3
  have hun := unifyU (n := n) (m := n) (names := names) (want := want) (have_ := have_) (HP.out.2.1.keep0 hcw) (H2.out.1.keep hc3) (H2.out.2.1.keep hc3) hv3 hnl hwl hhl
  have H3 := Lib.hid hcw
  clear hv3 hc3 hcw H2
  go_wp2_with fail
  refine hun.mono fun e w4 h => ?_
  obtain ⟨v, rfl, ⟨v1, v2', rfl, hbad, hok⟩, hc4⟩ := h
  clear hun
  have hcw := H3.out.trans hc4
  have hfi := rfind_any n n B w4 names want have_ An cn Aw cw Ah ch (Nat.le_trans HP.out.1 hcw.size) (SlR.keep HP.out.2.2.1 hcw (no_lets _ _) fun _ _ h => h) hnl (TysR.keep0 hcw HP.out.2.2.2.1) hwl (TysR.keep0 hcw HP.out.2.2.2.2) hhl
  by_cases hE : uniE n names want have_ = 0
  · obtain ⟨g, hg, hnd, hlen, hsound, hT, hBo⟩ := hok hE
    rw [hE]
    have H4 := Lib.hid (And.intro hg (And.intro hT (And.intro hBo (And.intro hcw hE))))
    clear hE hbad hok hg hnd hlen hsound hT hBo hcw hc4
    go_wp2_with fail
    refine hfi.mono fun e w5 h => ?_
    obtain ⟨vb, ib, rfl, hfok, hc5⟩ := rfind_of h
    obtain ⟨gB, qT, qK, g', rfl, hg', hBd⟩ := hfok H4.out.2.2.2.2
    obtain rfl : g' = g := Option.some.inj (hg'.symm.trans H4.out.1)
    have hcw := H4.out.2.2.2.1.trans hc5
    have hans := answers8_any w5 (HP.out.2.1.keep0 hcw)
    have H5 := Lib.hid (And.intro hBd (And.intro hcw (And.intro (H4.out.2.1.keep hc5) (H4.out.2.2.1.keep hc5))))
    have HLE := Lib.hid hc5.size
    rw [H4.out.2.2.2.2]
    clear hfi hfok hg' hBd hcw hc5
    go_wp2_with fail
    refine hans.mono fun e w7 h => ?_
    obtain ⟨rfl, hc7⟩ := h
    clear hans
    obtain ⟨D1, A1, c1, hD1, rfl, hT⟩ := H5.out.2.2.1.keep hc7
    obtain ⟨A3, c3, rfl, hBo⟩ := H5.out.2.2.2.keep hc7
    have hBs := hBo.slr (by decide) 0
    have hTs : TysR (n + 1) w7.heap.size w7 (.slice A1 (names.map (tyAt g')).length c1) (names.map (tyAt g')) := SlR.imp hT (fun b _ hl => hl.imp (fun h => Nat.lt_of_lt_of_le h hD1) id) fun _ _ h => TyR.more hD1 h
    have hcw := H5.out.2.1.trans hc7
    have hBd := H5.out.1.keep hc7
    have hsm := rsameAll_any (n + 1) w7.heap.size w7 (names.map (tyAt g')) (names.map (tyAt g')) A1 c1 (some ⟨qT, 0, none⟩) names.length (Nat.le_refl _) hTs (hBd.tys (Nat.le_trans HLE.out hc7.size)) (by rw [List.length_map]; omega) (by rw [List.length_map]; omega)
    rw [eqB_self] at hsm
    simp only [List.length_map] at hBs hsm ⊢
    obtain ⟨e0, e1, e2⟩ := hBd.own
    have q4 : ((names.length : Int) != (names.length : Int)) = false := by simp
    have q5 : (names.length != names.length) = false := by simp
    have H7 := Lib.hid (And.intro hBs (And.intro hcw hBd))
    clear hT hBo hBs hTs hcw hc7 hD1 hBd
    go_wp2_with fail
    refine hsm.mono fun e w8 h => ?_
    obtain ⟨rfl, hc8⟩ := h
    clear hsm e0 e1 e2
    have H8 := Lib.hid (And.intro (SlR.keep H7.out.1 hc8 ⟨fun _ _ _ => id, fun _ _ => id⟩ fun _ _ h => h) (And.intro (H7.out.2.1.trans hc8) (H7.out.2.2.keep hc8)))
    clear hc8
    go_wp2_with fail
    go_loopw [13] (fun i wr => idRel names w8 i wr) (fun i _ => names.length - (intOf i).toNat)
    case atStart => exact ⟨0, Nat.zero_le _, rfl, Chg.refl _ _⟩
    case round =>
      obtain ⟨k, hk, rfl, hch⟩ := hrel
      have q3 : IntKind.i64.wrap ((k : Int) + 1) = (k : Int) + 1 := IntWalk.i64_in _ ⟨by omega, by omega⟩
      by_cases hlt : k < names.length
      · have q1 : decide (k < names.length) = true := decide_eq_true hlt
        have q2 : (k : Int) < (names.length : Int) := by omega
        obtain ⟨s, hks⟩ : ∃ s, names[k]? = some s := ⟨_, List.getElem?_eq_getElem hlt⟩
        obtain ⟨b6, o6, y, cs6, rfl, hky, hcl6, hy6, hcell6⟩ := SlR.at2 (SlR.keep H8.out.1 hch ⟨fun _ _ _ => id, fun _ _ => id⟩ fun _ _ h => h) (k := k) (by rw [List.length_map]; exact hlt)
        obtain rfl : cs6 = [.bool y] := hy6
        have y0 : wr.cell? ⟨b6, o6 + k, none⟩ = some (.bool y) := by simpa using hcell6 0 _ rfl
        have hys : y = isAt g' s := by
          rw [List.getElem?_map, hks] at hky
          exact (Option.some.inj hky).symm
        have hBdr := H8.out.2.2.keep hch
        obtain ⟨e0, e1, e2⟩ := hBdr.own
        have i0 := hBdr.isIt hks
        rw [← hys] at i0
        have HC := Lib.hid hch
        clear hch hky hks hcl6 hcell6 hys hBdr
        cases y <;> (
          go_wp2_with fail
          go_quiet (fail)
          go_wp2_with fail
          go_roundw
          case rel => exact ⟨k + 1, hlt, by simp, by repeat' (first | exact HC.out | apply Chg.drew | apply Chg.drewN)⟩
          case measure => simp [intOf]; omega)
      · have q1 : decide (k < names.length) = false := decide_eq_false hlt
        obtain rfl : k = names.length := by omega
        have HC := Lib.hid (H8.out.2.1.trans hch)
        clear hch
        go_wp2_with fail
        go_ret
        exact ⟨rfl, HC.out⟩
  · obtain ⟨rfl, rfl⟩ := hbad hE
    have H4 := Lib.hid hcw
    have q9 : (uniE n names want have_ != 0) = true := by simp [hE]
    have q8 : (uniE n names want have_ != uniE n names want have_) = false := by simp
    clear hE hbad hok hcw hc4
    go_wp2_with fail
    refine hfi.mono fun e w5 h => ?_
    obtain ⟨vb, ib, rfl, hfok, hc5⟩ := rfind_of h
    have hcw := H4.out.trans hc5
    have hans := answers8_any w5 (HP.out.2.1.keep0 hcw)
    have H5 := Lib.hid hcw
    clear hfi hfok hcw hc5 h
    generalize uniE n names want have_ = E at q8 q9 ⊢
    go_wp2_with fail
    refine hans.mono fun e w7 h => ?_
    obtain ⟨rfl, hc7⟩ := h
    clear hans
    go_wp2_with fail
    go_ret
    exact ⟨rfl, H5.out.trans hc7⟩
end Go.Proofs.YtlbcaiohjghclaaDoor
