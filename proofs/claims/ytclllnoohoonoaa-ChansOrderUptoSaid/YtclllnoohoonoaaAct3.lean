/-
  An act on both hubs (act): Buffer.
-/
import Derived.Test.YtclllnoohoonoaaTwo
import Derived.Deep.RegionHeld3
namespace Go.Proofs.Ytclllnoohoonoaa
open Go.RowKit
set_option linter.unusedVariables false
set_option linter.unusedSimpArgs false

set_option maxRecDepth 100000 in
set_option maxHeartbeats 8000000 in
theorem act_buf (w : World) (base p q : Nat) (H : HubD) (hb : base ≤ w.heap.size) (h2 : Two base w p q H H) (hs : SmallH H) (hok : okH H) (a : ActD) (A : Option Addr) (c : Nat) (hk : a.kind = 5) :
    Calls Try.prog 21 #[.pointer (some ⟨p, 0, none⟩), .pointer (some ⟨q, 0, none⟩), .agg (actV a A c)] w (StepRes base (.bool true) p q H w) := by
  obtain ⟨kind, who, chan, pick, cases, wait⟩ := a
  simp only at hk
  subst hk
  unfold actV
  have hca := chg_alloc w (.cells #[.int .i64 5, .int .i64 who, .int .i64 chan, .int .i64 pick, .slice A cases.length c, .bool wait] 63)
  have hbx := Blk.new w 63 #[.int .i64 5, .int .i64 who, .int .i64 chan, .int .i64 pick, .slice A cases.length c, .bool wait]
  have HB := Lib.hid (And.intro hca hbx)
  have HH := Lib.hid (And.intro (h2.same hca) (And.intro hs hok))
  obtain ⟨G, hG⟩ := (h2.same hca).hub
  have HG := Lib.hid hG
  clear h2 hs hok hb hca hbx hG
  simp only
  by_cases hr : chan < 1 ∨ (H.list.length : Int) < chan
  · have hbc : bufC H chan = ([], 15) := by unfold bufC; rw [if_pos hr]
    have HE := Lib.hid hbc
    cases q1 : decide (chan < 1)
    case true =>
      clear hr hbc
      go_enter Try.func21, Try.ntmps21
      go_wp2_with fail
      refine (buffer_any _ G p H HG.out HH.out.2.1 HH.out.2.2 chan).mono fun e w1 hh => ?_
      rw [HE.out] at hh
      obtain ⟨A5, c5, rfl, _, _, hc1⟩ := hh
      obtain ⟨x0, x1, x2, x3, x4, x5⟩ := (hc1.blk HB.out.2 id).cells6
      have H1 := Lib.hid hc1
      clear hc1
      simp only [List.length_nil]
      go_wp2_with fail
      go_quiet (fail)
      rename_i nq
      go_wp2_with fail
      go_ret
      exact ⟨by simp, HH.out.1.same (H1.out.drewN _), (HB.out.1.trans (H1.out.drewN _)).no⟩
    case false =>
      have q2 : decide ((H.list.length : Int) < chan) = true := decide_eq_true (hr.resolve_left (of_decide_eq_false q1))
      clear hr hbc
      go_enter Try.func21, Try.ntmps21
      go_wp2_with fail
      refine (buffer_any _ G p H HG.out HH.out.2.1 HH.out.2.2 chan).mono fun e w1 hh => ?_
      rw [HE.out] at hh
      obtain ⟨A5, c5, rfl, _, _, hc1⟩ := hh
      obtain ⟨x0, x1, x2, x3, x4, x5⟩ := (hc1.blk HB.out.2 id).cells6
      obtain ⟨F, B1, b1, B2, b2, B3, b3, B4, b4, hI⟩ := (HH.out.1.same hc1).ref
      obtain ⟨d0, d1, d2, d3⟩ := hI.blk.cells4
      have H1 := Lib.hid hc1
      clear hc1 hI
      simp only [List.length_nil]
      go_wp2_with fail
      go_quiet (fail)
      rename_i nq
      go_wp2_with fail
      go_ret
      exact ⟨by simp, HH.out.1.same (H1.out.drewN _), (HB.out.1.trans (H1.out.drewN _)).no⟩
  · obtain ⟨k, rfl⟩ : ∃ k : Nat, chan = (k : Int) + 1 := ⟨(chan - 1).toNat, by omega⟩
    have hkl : k < H.list.length := by omega
    have hkx := List.getElem?_eq_getElem hkl
    have hbc : bufC H ((k : Int) + 1) = (H.list[k].buf, 0) := by
      unfold bufC
      rw [if_neg hr, show ((k : Int) + 1 - 1).toNat = k by omega, hkx]
    have hbl : H.list[k].buf.length ≤ 1099511627776 := by have := HH.out.2.2 k _ hkx; omega
    have q1 : decide ((k : Int) + 1 < 1) = false := decide_eq_false (by omega)
    have q2 : decide ((H.list.length : Int) < (k : Int) + 1) = false := decide_eq_false (by omega)
    have hkb : (k : Int) ≤ 1099511627776 := by have := HH.out.2.1.list; omega
    have hk0 : (0 : Int) ≤ (k : Int) := by omega
    have hk1 : (k : Int) < (H.list.length : Int) := by omega
    have hw1 : IntKind.i64.wrap ((k : Int) + 1 - 1) = (k : Int) := by rw [show ((k : Int) + 1 - 1) = (k : Int) by omega]; exact IntWalk.i64_in _ (by omega)
    have hw2 : IntKind.i64.wrap (k : Int) = (k : Int) := IntWalk.i64_in _ (by omega)
    have HE := Lib.hid (And.intro hbc (And.intro hkx hbl))
    clear hr hbc hkx hbl
    generalize H.list[k] = ch at HE
    go_enter Try.func21, Try.ntmps21
    go_wp2_with fail
    refine (buffer_any _ G p H HG.out HH.out.2.1 HH.out.2.2 ((k : Int) + 1)).mono fun e w1 hh => ?_
    rw [HE.out.1] at hh
    obtain ⟨A5, c5, rfl, hq5, _, hc1⟩ := hh
    obtain ⟨x0, x1, x2, x3, x4, x5⟩ := (hc1.blk HB.out.2 id).cells6
    obtain ⟨F, B1, b1, B2, b2, B3, b3, B4, b4, hI⟩ := (HH.out.1.same hc1).ref
    obtain ⟨d0, d1, d2, d3⟩ := hI.blk.cells4
    obtain ⟨gb, ch', v, rfl, hcc, hkx', e1, hq, hu, hF, hfz⟩ := BufsR.at_ hI.bufs hkl
    obtain rfl : ch' = ch := by rw [HE.out.2.1] at hkx'; injection hkx' with h; exact h.symm
    have H1 := Lib.hid (And.intro hc1 (And.intro hq5 hq))
    clear hc1 hI hq5 hq hkx' hu hF hfz d2 d3
    simp only
    go_wp2_with fail
    go_quiet (fail)
    rename_i nq
    go_wp2_with fail
    go_quiet ((go_at_call 40; exact quiet_add (same_any _ _ _ _ (H1.out.2.1.keep ((Chg.refl (fun _ _ => False) w1).drewN _) fun _ _ => id) (H1.out.2.2.keep ((Chg.refl (fun _ _ => False) w1).drewN _) fun _ _ => id) HE.out.2.2)))
    go_wp2_with fail
    go_ret
    exact ⟨by simp, HH.out.1.same ((H1.out.1.drewN _).drewN _), (HB.out.1.trans ((H1.out.1.drewN _).drewN _)).no⟩
end Go.Proofs.Ytclllnoohoonoaa
