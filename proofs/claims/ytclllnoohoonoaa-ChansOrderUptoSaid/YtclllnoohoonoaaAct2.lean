/-
  An act on both hubs (act): Drop, Ready, a copy goes on.
-/
import Derived.Test.YtclllnoohoonoaaTwo
import Derived.Deep.RegionHeld3
namespace Go.Proofs.Ytclllnoohoonoaa
open Go.RowKit
set_option linter.unusedVariables false
set_option linter.unusedSimpArgs false

set_option maxRecDepth 100000 in
set_option maxHeartbeats 8000000 in
theorem act_six (w : World) (base p q : Nat) (H : HubD) (hb : base ≤ w.heap.size) (h2 : Two base w p q H H) (hs : SmallH H) (a : ActD) (A : Option Addr) (c : Nat) (hk : a.kind = 6) :
    Calls Try.prog 21 #[.pointer (some ⟨p, 0, none⟩), .pointer (some ⟨q, 0, none⟩), .agg (actV a A c)] w (StepRes base (.bool true) p q H w) := by
  obtain ⟨kind, who, chan, pick, cases, wait⟩ := a
  simp only at hk
  subst hk
  unfold actV
  have hca := chg_alloc w (.cells #[.int .i64 6, .int .i64 who, .int .i64 chan, .int .i64 pick, .slice A cases.length c, .bool wait] 63)
  have hbx := Blk.new w 63 #[.int .i64 6, .int .i64 who, .int .i64 chan, .int .i64 pick, .slice A cases.length c, .bool wait]
  have HB := Lib.hid (And.intro hca hbx)
  have HH := Lib.hid h2
  clear h2 hs hb hca hbx
  go_enter Try.func21, Try.ntmps21
  go_wp2_with fail
  go_ret
  exact ⟨rfl, HH.out.same HB.out.1, HB.out.1.no⟩
set_option maxRecDepth 100000 in
set_option maxHeartbeats 8000000 in
theorem act_drop (w : World) (base p q : Nat) (H : HubD) (hb : base ≤ w.heap.size) (h2 : Two base w p q H H) (hs : SmallH H) (a : ActD) (A : Option Addr) (c : Nat) (hk : a.kind = 3) :
    Calls Try.prog 21 #[.pointer (some ⟨p, 0, none⟩), .pointer (some ⟨q, 0, none⟩), .agg (actV a A c)] w (StepRes base (.bool true) p q (dropC H a.who).1 w) := by
  obtain ⟨kind, who, chan, pick, cases, wait⟩ := a
  simp only at hk
  subst hk
  unfold actV
  have hca := chg_alloc w (.cells #[.int .i64 3, .int .i64 who, .int .i64 chan, .int .i64 pick, .slice A cases.length c, .bool wait] 63)
  have hbx := Blk.new w 63 #[.int .i64 3, .int .i64 who, .int .i64 chan, .int .i64 pick, .slice A cases.length c, .bool wait]
  have HB := Lib.hid (And.intro hca hbx)
  have hst := Nat.le_trans hb hca.size
  have h2d := (h2.same hca).same (Chg.drew (Chg.refl (fun _ _ => False) (w.alloc (.cells #[.int .i64 3, .int .i64 who, .int .i64 chan, .int .i64 pick, .slice A cases.length c, .bool wait] 63))))
  have HH := Lib.hid (And.intro h2d (And.intro hs hst))
  have s0 := hbx.cells6.2.1
  clear h2 hs hb hca hbx h2d hst
  obtain ⟨G, hG, hGk⟩ := HH.out.1.left HH.out.2.2
  have HG := Lib.hid (And.intro hG hGk)
  clear hG hGk
  simp only
  go_enter Try.func21, Try.ntmps21
  go_wp2_with fail
  go_region_held3 (fun w' => w'.cell? ⟨w.heap.size, 1, none⟩ = some (.int .i64 who)) (first | exact s0 | exact s1 | exact s2) (
    first
      | (go_at_call 26
         refine (drop_any _ G p H HG.out.1 HH.out.2.1 who).mono ?_
         rintro e w1 ⟨rfl, hP⟩
         obtain ⟨h21, hc1⟩ := HG.out.2 _ _ hP
         have hbx1 := hc1.blk HB.out.2.drew (ML_no (by decide))
         have s1 := hbx1.cells6.2.1
         obtain ⟨F, hF, _, hFk⟩ := h21.right (Nat.le_trans HH.out.2.2 hc1.size)
         have HF := Lib.hid (And.intro hF (And.intro hFk (And.intro hbx1 hc1)))
         clear hP h21 hc1 hbx1 hF hFk)
      | (go_at_call 38
         refine (rdrop_any _ F q H HF.out.1 HH.out.2.1 who).mono ?_
         rintro e w2 ⟨rfl, hQ⟩
         obtain ⟨h22, hc2⟩ := HF.out.2.1 _ _ hQ
         have hbx2 := hc2.blk HF.out.2.2.1 (ML_no (by decide))
         have s2 := hbx2.cells6.2.1
         have HR := Lib.hid (And.intro h22 ((HB.out.1.drew.no.trans HF.out.2.2.2).trans hc2))
         clear hQ h22 hc2 hbx2))
  all_goals
    go_wp2_with fail
    go_ret
    exact ⟨by simp, HR.out.1, HR.out.2⟩
set_option maxRecDepth 100000 in
set_option maxHeartbeats 8000000 in
theorem act_ready (w : World) (base p q : Nat) (H : HubD) (hb : base ≤ w.heap.size) (h2 : Two base w p q H H) (hs : SmallH H) (a : ActD) (A : Option Addr) (c : Nat) (ha : ActOk base w a A c) (hk : a.kind = 4) :
    Calls Try.prog 21 #[.pointer (some ⟨p, 0, none⟩), .pointer (some ⟨q, 0, none⟩), .agg (actV a A c)] w (StepRes base (.bool true) p q H w) := by
  obtain ⟨kind, who, chan, pick, cases, wait⟩ := a
  simp only at hk
  subst hk
  unfold actV
  have hca := chg_alloc w (.cells #[.int .i64 4, .int .i64 who, .int .i64 chan, .int .i64 pick, .slice A cases.length c, .bool wait] 63)
  have hbx := Blk.new w 63 #[.int .i64 4, .int .i64 who, .int .i64 chan, .int .i64 pick, .slice A cases.length c, .bool wait]
  have HB := Lib.hid (And.intro hca hbx)
  have hrl : (readyA H cases).length ≤ 1099511627776 := by
    have h1 := ready_len H cases 0
    have h3 := ha.small
    simp only at h3
    unfold readyA
    split
    · exact Nat.le_trans h1 h3
    · simp
  have HH := Lib.hid (And.intro (h2.same hca) (And.intro hs (And.intro (ha.cases.keep hca.no) (And.intro ha.small hrl))))
  obtain ⟨x0, x1, x2, x3, x4, x5⟩ := hbx.cells6
  clear h2 hs hb hca hbx ha hrl
  go_enter Try.func21, Try.ntmps21
  go_wp2_with fail
  refine (cases_any _ base A c cases HH.out.2.2.1.x HH.out.2.2.2.1).mono fun e w1 hh => ?_
  obtain ⟨A5, c5, rfl, hcl, hc1⟩ := hh
  obtain ⟨G, hG⟩ := (HH.out.1.same hc1).hub
  have H1 := Lib.hid (And.intro hc1 (And.intro hcl hG))
  clear hcl hG hc1 x0 x1 x2 x3 x4 x5
  go_wp2_with fail
  refine (ready_any _ G p H H1.out.2.2 HH.out.2.1 A5 c5 cases H1.out.2.1 HH.out.2.2.2.1).mono fun e w2 hh => ?_
  obtain ⟨A6, c6, rfl, hr6, hc2⟩ := hh
  have hc12 := H1.out.1.trans hc2
  obtain ⟨F, hF⟩ := (HH.out.1.same hc12).ref
  obtain ⟨x0, x1, x2, x3, x4, x5⟩ := (hc12.blk HB.out.2 id).cells6
  have H2 := Lib.hid (And.intro hc12 (And.intro hr6.read hF))
  clear hc12 hr6 hF hc2
  go_wp2_with fail
  refine (rready_any _ F q base H H2.out.2.2 HH.out.2.1 A c cases (HH.out.2.2.1.keep H2.out.1.no).x HH.out.2.2.2.1).mono fun e w3 hh => ?_
  obtain ⟨A7, c7, rfl, hr7, hc3⟩ := hh
  have H3 := Lib.hid (And.intro (H2.out.1.trans hc3) (And.intro (H2.out.2.1.keep hc3 fun _ => id) hr7.read))
  clear hr7 hc3
  go_wp2_with fail
  refine (sameI_any _ _ _ _ _ _ _ _ H3.out.2.1 H3.out.2.2 HH.out.2.2.2.2).mono fun e w4 hh => ?_
  obtain ⟨rfl, n, rfl⟩ := hh
  go_wp2_with fail
  go_ret
  exact ⟨by simp, HH.out.1.same (H3.out.1.drewN n), (HB.out.1.trans (H3.out.1.drewN n)).no⟩
end Go.Proofs.Ytclllnoohoonoaa
