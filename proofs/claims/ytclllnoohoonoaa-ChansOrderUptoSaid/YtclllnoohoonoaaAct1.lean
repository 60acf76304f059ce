/-
  An act on both hubs (act): Make, Shut.
-/
import Derived.Test.YtclllnoohoonoaaTwo
namespace Go.Proofs.Ytclllnoohoonoaa
open Go.RowKit
set_option linter.unusedVariables false
set_option linter.unusedSimpArgs false

set_option maxRecDepth 100000 in
set_option maxHeartbeats 4000000 in
theorem act_make (w : World) (base p q : Nat) (H : HubD) (hb : base ≤ w.heap.size) (h2 : Two base w p q H H) (hs : SmallH H) (a : ActD) (A : Option Addr) (c : Nat) (hk : a.kind = 1) :
    Calls Try.prog 21 #[.pointer (some ⟨p, 0, none⟩), .pointer (some ⟨q, 0, none⟩), .agg (actV a A c)] w (StepRes base (.bool true) p q (makeC H a.who).1 w) := by
  obtain ⟨kind, who, chan, pick, cases, wait⟩ := a
  simp only at hk
  subst hk
  unfold actV
  have HH := Lib.hid (And.intro h2 (And.intro hs hb))
  have hca := chg_alloc w (.cells #[.int .i64 1, .int .i64 who, .int .i64 chan, .int .i64 pick, .slice A cases.length c, .bool wait] 63)
  have hbx := Blk.new w 63 #[.int .i64 1, .int .i64 who, .int .i64 chan, .int .i64 pick, .slice A cases.length c, .bool wait]
  have HB := Lib.hid (And.intro hca hbx)
  clear h2 hs hb hca hbx
  simp only
  go_enter Try.func21, Try.ntmps21
  go_wp2_with fail
  obtain ⟨G, hG, hGk⟩ := (HH.out.1.same HB.out.1).left (Nat.le_trans HH.out.2.2 HB.out.1.size)
  refine (make_any _ G p H hG HH.out.2.1 who).mono fun e w1 hh => ?_
  obtain ⟨rfl, hP⟩ := hh
  obtain ⟨h21, hc1⟩ := hGk _ _ hP
  have hbx1 := hc1.blk HB.out.2 (ML_no (by decide))
  obtain ⟨x0, x1, x2, x3, x4, x5⟩ := hbx1.cells6
  have H1 := Lib.hid (And.intro h21 hc1)
  clear hGk hP h21 hc1 hbx1 hG
  go_wp2_with fail
  obtain ⟨F, hF, _, hFk⟩ := H1.out.1.right (Nat.le_trans (Nat.le_trans HH.out.2.2 HB.out.1.size) H1.out.2.size)
  refine (rnew_any _ F q H hF HH.out.2.1 who).mono fun e w2 hh => ?_
  obtain ⟨rfl, hP⟩ := hh
  obtain ⟨h22, hc2⟩ := hFk _ _ hP
  have H2 := Lib.hid (And.intro h22 hc2)
  clear hFk hP h22 hc2 hF
  go_wp2_with fail
  go_ret
  exact ⟨by simp, H2.out.1, (HB.out.1.no.trans H1.out.2).trans H2.out.2⟩
set_option maxRecDepth 100000 in
set_option maxHeartbeats 4000000 in
theorem act_shut (w : World) (base p q : Nat) (H : HubD) (hb : base ≤ w.heap.size) (h2 : Two base w p q H H) (hs : SmallH H) (a : ActD) (A : Option Addr) (c : Nat) (hk : a.kind = 2) :
    Calls Try.prog 21 #[.pointer (some ⟨p, 0, none⟩), .pointer (some ⟨q, 0, none⟩), .agg (actV a A c)] w (StepRes base (.bool true) p q (shutC H a.chan).1 w) := by
  obtain ⟨kind, who, chan, pick, cases, wait⟩ := a
  simp only at hk
  subst hk
  unfold actV
  have hsl : (shutC H chan).2.1.length ≤ 1099511627776 := by
    have hw := hs.wait
    have h0 : (told chan H.wait).length ≤ H.wait.length := List.length_filterMap_le _ _
    unfold shutC
    split
    · simp
    split
    · simp
    split
    · simp
    · split
      · simp
      · simp only; omega
  have HH := Lib.hid (And.intro h2 (And.intro hs (And.intro hb hsl)))
  have hca := chg_alloc w (.cells #[.int .i64 2, .int .i64 who, .int .i64 chan, .int .i64 pick, .slice A cases.length c, .bool wait] 63)
  have hbx := Blk.new w 63 #[.int .i64 2, .int .i64 who, .int .i64 chan, .int .i64 pick, .slice A cases.length c, .bool wait]
  have HB := Lib.hid (And.intro hca hbx)
  clear h2 hs hb hca hbx hsl
  simp only
  go_enter Try.func21, Try.ntmps21
  go_wp2_with fail
  obtain ⟨G, hG, hGk⟩ := (HH.out.1.same HB.out.1).left (Nat.le_trans HH.out.2.2.1 HB.out.1.size)
  refine (shut_any _ G p H hG HH.out.2.1 chan).mono fun e w1 hh => ?_
  obtain ⟨v1, rfl, hv1, hP⟩ := hh
  obtain ⟨h21, hc1⟩ := hGk _ _ hP
  have hbx1 := hc1.blk HB.out.2 (ML_no (by decide))
  obtain ⟨x0, x1, x2, x3, x4, x5⟩ := hbx1.cells6
  have H1 := Lib.hid (And.intro h21 (And.intro hc1 hv1))
  clear hGk hP h21 hc1 hbx1 hG hv1
  go_wp2_with fail
  obtain ⟨F, hF, _, hFk⟩ := H1.out.1.right (Nat.le_trans (Nat.le_trans HH.out.2.2.1 HB.out.1.size) H1.out.2.1.size)
  refine (close_any _ F q H hF HH.out.2.1 chan).mono fun e w2 hh => ?_
  obtain ⟨v2, rfl, hv2, hP⟩ := hh
  obtain ⟨h22, hc2⟩ := hFk _ _ hP
  have H2 := Lib.hid (And.intro h22 (And.intro hc2 (And.intro hv2 (H1.out.2.2.keep hc2 fun b => ML_no (by decide)))))
  clear hFk hP h22 hc2 hF hv2
  go_wp2_with fail
  refine (served_any _ v1 v2 _ H2.out.2.2.2 H2.out.2.2.1 HH.out.2.2.2).mono fun e w3 hh => ?_
  obtain ⟨rfl, n, rfl⟩ := hh
  go_wp2_with fail
  go_ret
  exact ⟨by simp, H2.out.1.same ((Chg.refl _ _).drewN n), ((HB.out.1.no.trans H1.out.2.1).trans H2.out.2.1).drewN n⟩
end Go.Proofs.Ytclllnoohoonoaa
