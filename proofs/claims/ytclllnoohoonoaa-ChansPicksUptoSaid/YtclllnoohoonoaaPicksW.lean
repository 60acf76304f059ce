/-
  The walk of the statement ChansPicks.
-/
import Derived.Test.YtclllnoohoonoaaOrderN
import Derived.Test.YtclllnoohoonoaaActsW
namespace Go.Proofs.Ytclllnoohoonoaa
open Go.RowKit
set_option linter.unusedVariables false
set_option linter.unusedSimpArgs false

/-- New memory is written: both hubs are as they were. -/
theorem Two.beyond {M : Nat → Nat → Prop} {base p q : Nat} {w w' : World} {H1 H2 : HubD} (h : Two base w p q H1 H2) (hc : Chg M w w') (hn : ∀ b t, M b t → w.heap.size ≤ b) (h1 : ∀ b, ¬ M b 52) (h2 : ∀ b, ¬ M b 43) : Two base w' p q H1 H2 := by
  obtain ⟨G, F, k1, k2, k3⟩ := h
  exact ⟨G, F, k1.keep hc (fun b t hg hm => by have := k1.lt hg; have := hn b t hm; omega) h1, k2.keep hc (fun b t hf hm => by have := k2.lt hf; have := hn b t hm; omega) h2, k3⟩
def pwRel (ws : List Int) (w : World) (a : Value) (wr : World) : Prop := ∃ j : Nat, a = .int .i64 ((j : Int) + 1) ∧ j + cntI ws ((j : Int) + 1) ≤ ws.length ∧ Chg (fun _ _ => False) w wr
set_option maxRecDepth 100000 in
set_option maxHeartbeats 16000000 in
theorem chansPicks_walk (w : World) (A : Option Addr) (c : Nat) (l : List ActD) (hl : ActsA w.heap.size w (.slice A l.length c) l) (hn : l.length ≤ 1048576) (hm : ∀ a ∈ l, a.cases.length ≤ 1048576)
    (A1 : Option Addr) (c1 : Nat) (list : List CaseC) (hv : CasesA w.heap.size w (.slice A1 list.length c1) list) (hvn : list.length ≤ 1048576) (pn : Nat) (hpn : pn < 256) :
    Calls Try.prog 7 #[.slice A l.length c, .slice A1 list.length c1, .int .u8 pn] w fun e w' => e = .returned (.bool true) ∧ Below w.heap.size w w' := by
  have hgo := grownC_good hm l.length (Nat.le_refl _)
  rw [List.take_length] at hgo
  have HH := Lib.hid (And.intro hl (And.intro (fun a ha => Nat.le_trans (hm a ha) (by decide : 1048576 ≤ 1099511627776)) (And.intro hgo hv)))
  clear hl hm hgo hv
  go_enter Try.func7, Try.ntmps7
  go_wp2_with fail
  refine (grown_any w w.heap.size (Nat.le_refl _) A c l HH.out.1 (by omega) HH.out.2.1).mono fun e w1 hh => ?_
  obtain ⟨p, q, rfl, h2, hc1⟩ := hh
  have hgo := HH.out.2.2.1
  generalize grownC l = H at h2 hgo
  have hsm := hgo.small (by omega : l.length ≤ 1099511627776) (by decide)
  have H1 := Lib.hid (And.intro h2 (And.intro hc1 (And.intro hgo hsm)))
  clear h2 hc1 hgo hsm
  go_wp2_with fail
  refine (hanswers_any w1).mono fun e w2 hh => ?_
  obtain ⟨rfl, hc2⟩ := hh
  have h2 := H1.out.1.same hc2
  have hcw := H1.out.2.1.trans hc2.no
  obtain ⟨F, hF⟩ := h2.ref
  have H2 := Lib.hid (And.intro h2 (And.intro hcw (And.intro hF (HH.out.2.2.2.keep hcw))))
  clear hc2 h2 hcw hF
  go_wp2_with fail
  refine (rready_any _ F q w.heap.size H H2.out.2.2.1 H1.out.2.2.2 A1 c1 list H2.out.2.2.2.x (by omega)).mono fun e w3 hh => ?_
  obtain ⟨A2, c2, rfl, hr, hc3⟩ := hh
  obtain ⟨ws, hws⟩ : ∃ ws, (H.wait.map fun x => x.who) = ws := ⟨_, rfl⟩
  have hwl : ws.length ≤ 1048576 := by rw [← hws, List.length_map]; exact Nat.le_trans H1.out.2.2.1.wait hn
  have HW := Lib.hid hws
  clear hws
  have H3 := Lib.hid (And.intro (H2.out.1.same hc3) (And.intro (H2.out.2.1.trans hc3.no) hr.read))
  clear hr hc3
  obtain ⟨e0, he0⟩ : ∃ e0, readyE H list = e0 := ⟨_, rfl⟩
  obtain ⟨rl, hrl⟩ : ∃ rl, readyA H list = rl := ⟨_, rfl⟩
  rw [he0, hrl]
  rw [hrl] at H3
  have HE := Lib.hid (And.intro he0 hrl)
  clear he0 hrl
  go_wp2_with fail
  go_loopw [11] (fun a wr => pwRel ws w3 a wr) (fun a _ => cntI ws (intOf a))
  case atStart => exact ⟨0, rfl, by have := cntI_le ws (((0 : Nat) : Int) + 1); omega, Chg.refl _ _⟩
  case round =>
    obtain ⟨j, rfl, hj, hch⟩ := hrel
    obtain ⟨wo, rfl⟩ : ∃ wo : World, wo = wr := ⟨_, rfl⟩
    have h2 := H3.out.1.same hch
    obtain ⟨F, hF⟩ := h2.ref
    have hjl : (j : Int) ≤ 1048576 := by omega
    have hj0 : (0 : Int) ≤ (j : Int) := by omega
    have HR := Lib.hid (And.intro h2 (And.intro hF (And.intro hch hj)))
    clear h2 hF hch hj
    go_wp2_with fail
    refine (rwaiting_any _ F q H HR.out.2.1 H1.out.2.2.2).mono fun e w4 hh => ?_
    rw [HW.out] at hh
    obtain ⟨A3, c3, rfl, hrow, hc4⟩ := hh
    have H4 := Lib.hid (And.intro hrow.read hc4)
    clear hrow hc4
    go_wp2_with fail
    refine (has_any w4 A3 ws.length c3 ws H4.out.1 (by omega) ((j : Int) + 1)).mono fun e w5 hh => ?_
    obtain ⟨rfl, rfl⟩ := hh
    cases ha : hasI ws ((j : Int) + 1)
    case true =>
      have hlt := cntI_lt (m := (((j + 1 : Nat) : Int)) + 1) ha (by omega)
      have HL := Lib.hid hlt
      clear ha hlt
      go_wp2_with fail
      go_roundw
      case rel => exact ⟨j + 1, congrArg (Value.int .i64) (by omega), by have := HL.out; have := HR.out.2.2.2; omega, HR.out.2.2.1.trans H4.out.2⟩
      case measure => have h := HL.out; rw [show ((j + 1 : Nat) : Int) + 1 = (j : Int) + 1 + 1 by omega] at h; simpa [intOf] using h
    case false =>
      have h25 := H3.out.1.same (HR.out.2.2.1.trans H4.out.2)
      have hc05 := H3.out.2.1.trans (HR.out.2.2.1.trans H4.out.2).no
      have hwho : I64 ((j : Int) + 1) := by unfold I64; omega
      have hpi : I64 (pn : Int) := by unfold I64; omega
      have htw : (whos H).any (eqI ((j : Int) + 1)) = false := by rw [show whos H = ws from HW.out]; exact ha
      obtain ⟨G, hG⟩ := h25.hub
      have H5 := Lib.hid (And.intro h25 (And.intro hc05 (And.intro hwho (And.intro hpi (And.intro htw (And.intro hG (H3.out.2.2.keep (HR.out.2.2.1.trans H4.out.2) fun _ => id)))))))
      clear h25 hc05 hwho hpi htw hG ha
      go_wp2_with fail
      refine (copy_any w5 G p H H5.out.2.2.2.2.2.1 H1.out.2.2.2 H1.out.2.2.1.ok).mono fun e w6 hh => ?_
      obtain ⟨p', G', rfl, hR', hG', hc6⟩ := hh
      have H6 := Lib.hid (And.intro hR' (And.intro hG' hc6))
      clear hR' hG' hc6
      go_wp2_with fail
      refine (cases_any w6 w.heap.size A1 c1 list ((HH.out.2.2.2.keep H5.out.2.1).keep H6.out.2.2.no).x (by omega)).mono fun e w7 hh => ?_
      obtain ⟨A5, c5, rfl, hcl, hc7⟩ := hh
      have H7 := Lib.hid (And.intro hcl (And.intro (H6.out.2.2.trans hc7) (H6.out.1.keep hc7 (fun _ _ _ => id) fun _ => id)))
      clear hcl hc7
      go_wp2_with fail
      obtain ⟨dd, hdd⟩ : ∃ dd, doC H ((j : Int) + 1) list (pn : Int) false = dd := ⟨_, rfl⟩
      have HD := Lib.hid hdd
      clear hdd
      refine (do_any w7 G' p' H H7.out.2.2 H1.out.2.2.2 H1.out.2.2.1.ok ((j : Int) + 1) H5.out.2.2.1 list A5 c5 H7.out.1 (by omega) (pn : Int) H5.out.2.2.2.1 false).mono fun e w8 hh => ?_
      rw [HD.out] at hh
      obtain ⟨H', at_, val, ok, served, e⟩ := dd
      obtain ⟨v8, rfl, hsv, hP⟩ := hh
      obtain ⟨A8, c8, rfl, _⟩ := hsv.form
      simp only
      have hc8 := H7.out.2.1.no.trans hP.chg
      have h28 := H5.out.1.beyond hc8 (fun b t hM => H6.out.2.1 b hM.1) (fun b hM => absurd hM.2 (by decide)) fun b hM => absurd hM.2 (by decide)
      have hc08 : Chg (ML w.heap.size) w w8 := H5.out.2.1.trans_le hc8 fun b t hb hM => by have := H6.out.2.1 b hM.1; have := H5.out.2.1.size; omega
      have hi8 := H5.out.2.2.2.2.2.2.keep hc8 fun b hM => absurd hM.2 (by decide)
      have H8 := Lib.hid (And.intro h28 (And.intro hc08 hi8))
      clear hsv hP hc8 h28 hc08 hi8
      cases hk : knownC H.list.length list
      case false =>
        obtain rfl : e0 = 15 := by rw [← HE.out.1]; simp [readyE, hk]
        obtain rfl : e = 15 := by have := HD.out; rw [doC_none (by omega) H5.out.2.2.2.2.1 hk] at this; injection this with _ h; injection h with _ _ _ _ h; exact h.symm
        clear hk
        go_wp2_with fail
        go_ret
        exact ⟨by simp, H8.out.2.1.below (fun b t h => h.1) (Nat.le_refl _)⟩
      obtain rfl : e0 = 0 := by rw [← HE.out.1]; simp [readyE, hk]
      cases hrc : readyC H list with
      | nil =>
        obtain rfl : rl = [] := by rw [← HE.out.2]; simp [readyA, hk, hrc]
        have hdo := doC_wait (wait := false) (by omega : (0 : Int) ≤ (pn : Int)) H5.out.2.2.2.2.1 hk hrc
        obtain rfl : e = 22 := by have := HD.out; rw [hdo] at this; injection this with _ h; injection h with _ _ _ _ h; exact h.symm
        have HX := Lib.hid hdo
        clear hk hrc hdo
        simp only [List.length_nil]
        go_wp2_with fail
        refine (cases_any w8 w.heap.size A1 c1 list (HH.out.2.2.2.keep H8.out.2.1).x (by omega)).mono fun e w9 hh => ?_
        obtain ⟨A6, c6, rfl, hcl, hc9⟩ := hh
        obtain ⟨G2, hG2, hGk⟩ := (H8.out.1.same hc9).left (Nat.le_trans H8.out.2.1.size hc9.size)
        have H9 := Lib.hid (And.intro hcl (And.intro hc9 (And.intro hG2 hGk)))
        clear hcl hc9 hG2 hGk
        go_wp2_with fail
        refine (do_any w9 G2 p H H9.out.2.2.1 H1.out.2.2.2 H1.out.2.2.1.ok ((j : Int) + 1) H5.out.2.2.1 list A6 c6 H9.out.1 (by omega) (pn : Int) H5.out.2.2.2.1 false).mono fun e w10 hh => ?_
        rw [HX.out] at hh
        obtain ⟨v10, rfl, hsv, hP⟩ := hh
        obtain ⟨A10, c10, rfl, _⟩ := hsv.form
        obtain ⟨h210, hc10⟩ := H9.out.2.2.2 _ _ hP
        have H10 := Lib.hid (And.intro h210 ((H8.out.2.1.trans H9.out.2.1.no).trans hc10))
        clear hsv hP h210 hc10
        simp only [bad]
        go_wp2_with fail
        refine (alike_any w10 w.heap.size p q H H10.out.1 H1.out.2.2.2 H1.out.2.2.1.ok).mono fun e w11 hh => ?_
        obtain ⟨rfl, hc11⟩ := hh
        have H11 := Lib.hid hc11
        clear hc11
        go_wp2_with fail
        go_ret
        exact ⟨by simp, (H10.out.2.trans H11.out.no).below (fun b t h => h.1) (Nat.le_refl _)⟩
      | cons a r =>
        obtain rfl : rl = a :: r := by rw [← HE.out.2]; simp [readyA, hk, hrc]
        obtain ⟨d, hd1, hd2, hd3⟩ := pick_at (pn := pn) H5.out.2.2.2.2.1 hk hrc
        rw [HD.out] at hd1
        subst hd1
        simp only at hd2 hd3
        have hrl : r.length + 1 ≤ list.length := by have := ready_len H list 0; rw [show readyFrom H 0 list = a :: r from hrc] at this; simpa using this
        obtain ⟨m, hm⟩ : ∃ m, pn % (r.length + 1) = m := ⟨_, rfl⟩
        have hml : m < (a :: r).length := by rw [← hm]; exact Nat.mod_lt _ (by simp)
        obtain ⟨b3, o3, am, rfl, ham, y0⟩ := H8.out.2.2.at_ hml
        rw [hm, List.getD_eq_getElem?_getD, ham] at hd2
        have hmi : ((pn : Int)).tmod ((r.length : Int) + 1) = (m : Int) := by
          rw [← hm, Int.natCast_emod]
          rw [Int.tmod_eq_emod_of_nonneg (by omega)]
          rfl
        have hmj : ((pn : Int)) % ((r.length : Int) + 1) = (m : Int) := by rw [← hm, Int.natCast_emod]; rfl
        have hmL : m < r.length + 1 := by simpa using hml
        obtain rfl : at_ = am := by simpa using hd2
        clear hk hrc hd2 ham hm hml
        have HT := Lib.hid hd3
        clear hd3
        simp only [List.length_cons] at *
        rcases HT.out with rfl | rfl
        all_goals
          clear HT
          go_wp2_with fail
          refine (alike_any w8 w.heap.size p q H H8.out.1 H1.out.2.2.2 H1.out.2.2.1.ok).mono fun e w9 hh => ?_
          obtain ⟨rfl, hc9⟩ := hh
          have H9 := Lib.hid hc9
          clear hc9
          go_wp2_with fail
          go_ret
          exact ⟨by simp, (H8.out.2.1.trans H9.out.no).below (fun b t h => h.1) (Nat.le_refl _)⟩
end Go.Proofs.Ytclllnoohoonoaa
