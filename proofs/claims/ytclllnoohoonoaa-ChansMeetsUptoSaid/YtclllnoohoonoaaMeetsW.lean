/-
  The walk of the statement ChansMeets.
-/
import Derived.Test.YtclllnoohoonoaaMeetsN
import Derived.Test.YtclllnoohoonoaaGrown
namespace Go.Proofs.Ytclllnoohoonoaa
open Go.RowKit
set_option linter.unusedVariables false
set_option linter.unusedSimpArgs false

def mwRel (ws : List Int) (w : World) (a b : Value) (wr : World) : Prop := ∃ j : Nat, a = .int .i64 (2 * (j : Int) + 1) ∧ b = .int .i64 (2 * (j : Int) + 2) ∧ j + cntI ws (2 * (j : Int) + 1) ≤ ws.length ∧ Chg (fun _ _ => False) w wr
theorem Two.find {base p q : Nat} {w : World} {H1 H2 : HubD} (h : Two base w p q H1 H2) : ∃ F, HubFR F w q H2 := h.ref
theorem DoRes.of {d : DoneD} {G : Nat → Prop} {p : Nat} {H' : HubD} {w : World} {e : Ending} {w' : World} (h : DoRes d G p H' w e w') {H'' : HubD} {d' : DoneD} (h1 : H' = H'') (h2 : d = d') : DoRes d' G p H'' w e w' := by subst h1 h2; exact h
set_option maxRecDepth 100000 in
set_option maxHeartbeats 16000000 in
theorem chansMeets_walk (w : World) (A : Option Addr) (c : Nat) (l : List ActD) (hl : ActsA w.heap.size w (.slice A l.length c) l) (hn : l.length ≤ 1048576) (hm : ∀ a ∈ l, a.cases.length ≤ 1048576) (val : Nat) (hv : U64 val) (first : Bool) :
    Calls Try.prog 5 #[.slice A l.length c, .int .u64 val, .bool first] w fun e w' => e = .returned (.bool true) ∧ Below w.heap.size w w' := by
  have hgo := grownC_good hm l.length (Nat.le_refl _)
  rw [List.take_length] at hgo
  have HH := Lib.hid (And.intro hl (And.intro (fun a ha => Nat.le_trans (hm a ha) (by decide : 1048576 ≤ 1099511627776)) (And.intro hgo hv)))
  clear hl hm hgo hv
  go_enter Try.func5, Try.ntmps5
  go_wp2_with fail
  refine (grown_any w w.heap.size (Nat.le_refl _) A c l HH.out.1 (by omega) HH.out.2.1).mono fun e w1 hh => ?_
  obtain ⟨p, q, rfl, h2, hc1⟩ := hh
  have hgo := HH.out.2.2.1
  generalize grownC l = H at h2 hgo
  have hgn := hgo.make 0
  rw [make_new H (by omega) (by omega)] at hgn
  have H1 := Lib.hid (And.intro h2 (And.intro hc1 (And.intro hgo hgn)))
  clear h2 hc1 hgo hgn
  go_wp2_with fail
  refine (hanswers_any w1).mono fun e w2 hh => ?_
  obtain ⟨rfl, hc2⟩ := hh
  have H2 := Lib.hid (And.intro (H1.out.1.same hc2) (H1.out.2.1.trans hc2.no))
  clear hc2
  go_wp2_with fail
  obtain ⟨G, hG, hGk⟩ := H2.out.1.left H2.out.2.size
  refine (make_any _ G p H hG (H1.out.2.2.1.small (by omega) (by decide)) 0).mono fun e w3 hh => ?_
  rw [make_new H (by omega) (by omega)] at hh
  obtain ⟨rfl, hP⟩ := hh
  obtain ⟨h23, hc3⟩ := hGk _ _ hP
  have H3 := Lib.hid (And.intro h23 (H2.out.2.trans hc3))
  clear hGk hP h23 hc3 hG
  simp only
  obtain ⟨ws, hws⟩ : ∃ ws, (H.wait.map fun x => x.who) = ws := ⟨_, rfl⟩
  have hwl : ws.length ≤ 1048576 := by rw [← hws, List.length_map]; exact Nat.le_trans H1.out.2.2.1.wait hn
  have HW := Lib.hid hws
  clear hws
  go_wp2_with fail
  go_loopw [11, 12] (fun a b wr => mwRel ws w3 a b wr) (fun a _ _ => cntI ws (intOf a))
  case atStart => exact ⟨0, rfl, rfl, by have := cntI_le ws (2 * ((0 : Nat) : Int) + 1); omega, Chg.refl _ _⟩
  case round =>
    obtain ⟨j, rfl, rfl, hj, hch⟩ := hrel
    obtain ⟨wo, rfl⟩ : ∃ wo : World, wo = wr := ⟨_, rfl⟩
    have h2 := H3.out.1.same hch
    obtain ⟨F, hF⟩ := h2.ref
    have hjl : (j : Int) ≤ 1048576 := by omega
    have hj0 : (0 : Int) ≤ (j : Int) := by omega
    have HR := Lib.hid (And.intro h2 (And.intro hF (And.intro hch hj)))
    clear h2 hF hch hj
    go_wp2_with fail
    refine (rwaiting_any _ F q H HR.out.2.1 (H1.out.2.2.1.small (by omega) (by decide))).mono fun e w4 hh => ?_
    rw [HW.out] at hh
    obtain ⟨A2, c2, rfl, hrow, hc4⟩ := hh
    have H4 := Lib.hid (And.intro hrow.read hc4)
    clear hrow hc4
    go_wp2_with fail
    refine (has_any w4 A2 ws.length c2 ws H4.out.1 (by omega) (2 * (j : Int) + 1)).mono fun e w5 hh => ?_
    obtain ⟨rfl, rfl⟩ := hh
    cases ha : hasI ws (2 * (j : Int) + 1)
    case true =>
      have hlt := cntI_lt (m := 2 * ((j + 1 : Nat) : Int) + 1) ha (by omega)
      have HL := Lib.hid hlt
      clear ha hlt
      go_wp2_with fail
      go_roundw
      case rel => exact ⟨j + 1, congrArg (Value.int .i64) (by omega), congrArg (Value.int .i64) (by omega), by have := HL.out; have := HR.out.2.2.2; omega, HR.out.2.2.1.trans H4.out.2⟩
      case measure => have h := HL.out; rw [show 2 * ((j + 1 : Nat) : Int) + 1 = 2 * (j : Int) + 1 + 2 by omega] at h; simpa [intOf] using h
    case false =>
      obtain ⟨F2, hF2⟩ := (HR.out.1.same H4.out.2).ref
      have HA := Lib.hid (And.intro ha hF2)
      clear ha hF2
      go_wp2_with fail
      refine (rwaiting_any _ F2 q H HA.out.2 (H1.out.2.2.1.small (by omega) (by decide))).mono fun e w5 hh => ?_
      rw [HW.out] at hh
      obtain ⟨A3, c3, rfl, hrow, hc5⟩ := hh
      have H5 := Lib.hid (And.intro hrow.read (H4.out.2.trans hc5))
      clear hrow hc5
      go_wp2_with fail
      refine (has_any w5 A3 ws.length c3 ws H5.out.1 (by omega) (2 * (j : Int) + 2)).mono fun e w6 hh => ?_
      obtain ⟨rfl, rfl⟩ := hh
      cases hb : hasI ws (2 * (j : Int) + 2)
      case true =>
        have hlt := cntI_lt (m := 2 * ((j + 1 : Nat) : Int) + 1) hb (by omega)
        have hle := cntI_mono (l := ws) (n := 2 * (j : Int) + 1) (m := 2 * (j : Int) + 2) (by omega)
        have HL := Lib.hid (Nat.lt_of_lt_of_le hlt hle)
        clear hb hlt hle
        go_wp2_with fail
        go_roundw
        case rel => exact ⟨j + 1, congrArg (Value.int .i64) (by omega), congrArg (Value.int .i64) (by omega), by have := HL.out; have := HR.out.2.2.2; omega, HR.out.2.2.1.trans H5.out.2⟩
        case measure => have h := HL.out; rw [show 2 * ((j + 1 : Nat) : Int) + 1 = 2 * (j : Int) + 1 + 2 by omega] at h; simpa [intOf] using h
      case false =>
        have HB := Lib.hid (And.intro (show (whos H).any (eqI (2 * (j : Int) + 1)) = false by rw [show whos H = ws from HW.out]; exact HA.out.1) (show (whos H).any (eqI (2 * (j : Int) + 2)) = false by rw [show whos H = ws from HW.out]; exact hb))
        have HC := Lib.hid (HR.out.2.2.1.trans H5.out.2)
        clear hb
        have hci : I64 (nextC H) := by unfold I64 nextC; have := H1.out.2.2.1.list; omega
        have hia : I64 (2 * (j : Int) + 1) := by unfold I64; omega
        have hib : I64 (2 * (j : Int) + 2) := by unfold I64; omega
        have hx1 := chg_alloc w6 (.cells #[.bool true, .int .i64 (nextC H), .int .u64 val] 52)
        have hx2 := chg_alloc (w6.alloc (.cells #[.bool true, .int .i64 (nextC H), .int .u64 val] 52)) (.cells #[.bool false, .int .i64 (nextC H), .int .u64 0] 52)
        have hb1 := hx2.blk (Blk.new w6 52 #[.bool true, .int .i64 (nextC H), .int .u64 val]) id
        have hb2 := Blk.new (w6.alloc (.cells #[.bool true, .int .i64 (nextC H), .int .u64 val] 52)) 52 #[.bool false, .int .i64 (nextC H), .int .u64 0]
        rw [show (w6.alloc (.cells #[.bool true, .int .i64 (nextC H), .int .u64 val] 52)).heap.size = w6.heap.size + 1 by simp] at hb2
        have HX := Lib.hid (And.intro (H3.out.1.same (HC.out.trans (hx1.trans hx2))) (And.intro (H3.out.2.trans (HC.out.trans (hx1.trans hx2)).no) (And.intro hb1 (And.intro hb2 (And.intro hci (And.intro hia hib))))))
        clear hx1 hx2 hb1 hb2 hci hia hib
        have hne : (2 * (j : Int) + 1) ≠ 2 * (j : Int) + 2 := by omega
        have HN := Lib.hid hne
        clear hne
        cases first
        · go_wp2_with fail
          obtain ⟨G, hG, hGk⟩ := HX.out.1.left HX.out.2.1.size
          have hgh := H1.out.2.2.2.do_ (2 * (j : Int) + 2) (cases := [⟨false, nextC H, 0⟩]) (by simp) 0 true
          rw [meets_wait H1.out.2.2.1 HB.out.2] at hgh
          refine (do_any _ G p (newH H 0 [] false) hG (H1.out.2.2.2.small (by omega) (by decide)) H1.out.2.2.2.ok (2 * (j : Int) + 2) HX.out.2.2.2.2.2.2 [⟨false, nextC H, 0⟩] _ 1 (CasesC.one (s := ⟨false, nextC H, 0⟩) HX.out.2.2.2.2.1 (by simp [U64]) HX.out.2.2.2.1) (by simp) 0 (by unfold I64; omega) true).mono fun e w7 hh => ?_
          rw [meets_wait H1.out.2.2.1 HB.out.2] at hh
          obtain ⟨v7, rfl, hsv7, hP⟩ := hh
          obtain ⟨A7, c7, rfl, _⟩ := hsv7.form
          obtain ⟨h27, hc7⟩ := hGk _ _ hP
          obtain ⟨G2, hG2, hGk2⟩ := h27.left (Nat.le_trans HX.out.2.1.size hc7.size)
          have H7 := Lib.hid (And.intro (HX.out.2.1.trans hc7) (And.intro hG2 (And.intro hGk2 (And.intro (hc7.blk HX.out.2.2.1 (ML_no (by decide))) hgh))))
          clear hG hGk hgh hP h27 hc7 hG2 hGk2 hsv7
          simp only [bad]
          go_wp2_with fail
          refine (do_any w7 G2 p (heldH H (2 * (j : Int) + 2) ⟨false, nextC H, 0⟩) H7.out.2.1 (H7.out.2.2.2.2.small (by omega) (by decide)) H7.out.2.2.2.2.ok (2 * (j : Int) + 1) HX.out.2.2.2.2.2.1 [⟨true, nextC H, val⟩] _ 1 (CasesC.one (s := ⟨true, nextC H, val⟩) HX.out.2.2.2.2.1 HH.out.2.2.2 H7.out.2.2.2.1) (by simp) 0 (by unfold I64; omega) true).mono fun e w8 hh => ?_
          rw [meets_give H1.out.2.2.1 HN.out HB.out.1] at hh
          obtain ⟨v8, rfl, hsv, hP⟩ := hh
          obtain ⟨A8, c8, rfl, _⟩ := hsv.form
          obtain ⟨b8, o8, x8, rfl, hx8, y0, y1, y2, y3⟩ := hsv.at_ (k := 0) (by simp)
          obtain rfl : (⟨2 * (j : Int) + 2, 0, val, true⟩ : SrvD) = x8 := by simpa using hx8
          simp only [Nat.zero_mul, Nat.add_zero] at y0 y1 y2 y3
          have H8 := Lib.hid (H7.out.1.trans (H7.out.2.2.1 _ _ hP).2)
          clear hsv hP hx8
          simp only [List.length_singleton]
          go_wp2_with fail
          go_ret
          exact ⟨by simp, H8.out.below (fun b t h => h.1) (Nat.le_refl _)⟩
        · go_wp2_with fail
          obtain ⟨G, hG, hGk⟩ := HX.out.1.left HX.out.2.1.size
          have hgh := H1.out.2.2.2.do_ (2 * (j : Int) + 1) (cases := [⟨true, nextC H, val⟩]) (by simp) 0 true
          rw [meets_wait H1.out.2.2.1 HB.out.1] at hgh
          refine (do_any _ G p (newH H 0 [] false) hG (H1.out.2.2.2.small (by omega) (by decide)) H1.out.2.2.2.ok (2 * (j : Int) + 1) HX.out.2.2.2.2.2.1 [⟨true, nextC H, val⟩] _ 1 (CasesC.one (s := ⟨true, nextC H, val⟩) HX.out.2.2.2.2.1 HH.out.2.2.2 HX.out.2.2.1) (by simp) 0 (by unfold I64; omega) true).mono fun e w7 hh => ?_
          rw [meets_wait H1.out.2.2.1 HB.out.1] at hh
          obtain ⟨v7, rfl, hsv7, hP⟩ := hh
          obtain ⟨A7, c7, rfl, _⟩ := hsv7.form
          obtain ⟨h27, hc7⟩ := hGk _ _ hP
          obtain ⟨G2, hG2, hGk2⟩ := h27.left (Nat.le_trans HX.out.2.1.size hc7.size)
          have H7 := Lib.hid (And.intro (HX.out.2.1.trans hc7) (And.intro hG2 (And.intro hGk2 (And.intro (hc7.blk HX.out.2.2.2.1 (ML_no (by decide))) hgh))))
          clear hG hGk hgh hP h27 hc7 hG2 hGk2 hsv7
          simp only [bad]
          go_wp2_with fail
          refine (do_any w7 G2 p (heldH H (2 * (j : Int) + 1) ⟨true, nextC H, val⟩) H7.out.2.1 (H7.out.2.2.2.2.small (by omega) (by decide)) H7.out.2.2.2.2.ok (2 * (j : Int) + 2) HX.out.2.2.2.2.2.2 [⟨false, nextC H, 0⟩] _ 1 (CasesC.one (s := ⟨false, nextC H, 0⟩) HX.out.2.2.2.2.1 (by simp [U64]) H7.out.2.2.2.1) (by simp) 0 (by unfold I64; omega) true).mono fun e w8 hh => ?_
          rw [meets_get H1.out.2.2.1 HN.out.symm HB.out.2] at hh
          obtain ⟨v8, rfl, hsv, hP⟩ := hh
          obtain ⟨A8, c8, rfl, _⟩ := hsv.form
          obtain ⟨b8, o8, x8, rfl, hx8, y0, y1, y2, y3⟩ := hsv.at_ (k := 0) (by simp)
          obtain rfl : (⟨2 * (j : Int) + 1, 0, 0, true⟩ : SrvD) = x8 := by simpa using hx8
          simp only [Nat.zero_mul, Nat.add_zero] at y0 y1 y2 y3
          have H8 := Lib.hid (H7.out.1.trans (H7.out.2.2.1 _ _ hP).2)
          clear hsv hP hx8
          simp only [List.length_singleton]
          go_wp2_with fail
          go_ret
          exact ⟨by simp, H8.out.below (fun b t h => h.1) (Nat.le_refl _)⟩
end Go.Proofs.Ytclllnoohoonoaa
