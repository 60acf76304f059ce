/-
  An act on both hubs (act): Do; and all acts together.
-/
import Derived.Test.YtclllnoohoonoaaAct1
import Derived.Test.YtclllnoohoonoaaAct2
import Derived.Test.YtclllnoohoonoaaAct3
namespace Go.Proofs.Ytclllnoohoonoaa
open Go.RowKit
set_option linter.unusedVariables false
set_option linter.unusedSimpArgs false

theorem do_served {H : HubD} {who pick : Int} {cases : List CaseC} {wait : Bool} : (doC H who cases pick wait).2.served.length ≤ 1 := by
  have hr : ∀ c, (recvC H c).2.2.2.length ≤ 1 := by
    intro c
    unfold recvC
    split
    · simp
    · split <;> simp
  have hsn : ∀ x, (sendC H x).2.length ≤ 1 := by
    intro x
    unfold sendC
    split
    · simp
    · split <;> simp
  unfold doC
  split
  · simp [bad]
  split
  · simp [bad]
  split
  · simp [bad]
  split
  · simp [bad]
  · simp only
    split
    · simp [bad]
    · split
      · exact hr _
      split
      · simp
      · exact hsn _
set_option maxRecDepth 100000 in
set_option maxHeartbeats 16000000 in
theorem act_do (w : World) (base p q : Nat) (H : HubD) (hb : base ≤ w.heap.size) (h2 : Two base w p q H H) (hs : SmallH H) (hok : okH H) (a : ActD) (A : Option Addr) (c : Nat) (ha : ActOk base w a A c)
    (k1 : a.kind ≠ 1) (k2 : a.kind ≠ 2) (k3 : a.kind ≠ 3) (k4 : a.kind ≠ 4) (k5 : a.kind ≠ 5) (k6 : a.kind ≠ 6) :
    Calls Try.prog 21 #[.pointer (some ⟨p, 0, none⟩), .pointer (some ⟨q, 0, none⟩), .agg (actV a A c)] w (StepRes base (.bool true) p q (doC H a.who a.cases a.pick a.wait).1 w) := by
  obtain ⟨kind, who, chan, pick, cases, wait⟩ := a
  unfold actV
  simp only at k1 k2 k3 k4 k5 k6
  have hca := chg_alloc w (.cells #[.int .i64 kind, .int .i64 who, .int .i64 chan, .int .i64 pick, .slice A cases.length c, .bool wait] 63)
  have hbx := Blk.new w 63 #[.int .i64 kind, .int .i64 who, .int .i64 chan, .int .i64 pick, .slice A cases.length c, .bool wait]
  have HB := Lib.hid (And.intro hca hbx)
  have hst := Nat.le_trans hb hca.size
  have HH := Lib.hid (And.intro (h2.same hca) (And.intro hs (And.intro hok (And.intro hst (And.intro (ha.cases.keep hca.no) (And.intro ha.small (And.intro ha.who ha.pick)))))))
  obtain ⟨s0, s1, s2, s3, s4, s5⟩ := hbx.cells6
  have e1 : (kind == 1) = false := by simpa using k1
  have e2 : (kind == 2) = false := by simpa using k2
  have e3 : (kind == 3) = false := by simpa using k3
  have e4 : (kind == 4) = false := by simpa using k4
  have e5 : (kind == 5) = false := by simpa using k5
  have e6 : (kind == 6) = false := by simpa using k6
  obtain ⟨d, hd⟩ : ∃ d, doC H who cases pick wait = d := ⟨_, rfl⟩
  have hdl : d.2.served.length ≤ 1 := by rw [← hd]; exact do_served
  have HD := Lib.hid (And.intro hd hdl)
  simp only
  rw [hd]
  obtain ⟨H', at_, val, ok, served, e⟩ := d
  simp only
  clear h2 hs hok hb hca hbx hst ha k1 k2 k3 k4 k5 k6 hd hdl
  go_enter Try.func21, Try.ntmps21
  go_wp2_with fail
  go_region_held3 (fun w' => w'.cell? ⟨w.heap.size, 1, none⟩ = some (.int .i64 who) ∧ w'.cell? ⟨w.heap.size, 4, none⟩ = some (.slice A cases.length c) ∧ w'.cell? ⟨w.heap.size, 3, none⟩ = some (.int .i64 pick) ∧ w'.cell? ⟨w.heap.size, 5, none⟩ = some (.bool wait)) (first | exact ⟨s1, s4, s3, s5⟩ | exact ⟨t1, t4, t3, t5⟩ | exact ⟨u1, u4, u3, u5⟩) (
    first
      | (go_at_call 24
         refine (cases_any _ base A c cases (HH.out.2.2.2.2.1.keep (Chg.drew (Chg.refl (ML base) _))).x HH.out.2.2.2.2.2.1).mono ?_
         rintro e w1 ⟨A5, c5, rfl, hcl, hc1⟩
         have hbx1 := hc1.blk HB.out.2.drew id
         obtain ⟨_, t1, _, t3, t4, t5⟩ := hbx1.cells6
         have hc01 := (Chg.drew (Chg.refl (fun _ _ => False) (w.alloc (.cells #[.int .i64 kind, .int .i64 who, .int .i64 chan, .int .i64 pick, .slice A cases.length c, .bool wait] 63)))).trans hc1
         obtain ⟨G, hG, hGk⟩ := (HH.out.1.same hc01).left (Nat.le_trans HH.out.2.2.2.1 hc01.size)
         have H1 := Lib.hid (And.intro hc01 (And.intro hcl (And.intro hG (And.intro hGk hbx1))))
         clear hc1 hbx1 hc01 hG hGk hcl)
      | (go_at_call 15
         refine (do_any _ G p H H1.out.2.2.1 HH.out.2.1 HH.out.2.2.1 who HH.out.2.2.2.2.2.2.1 cases A5 c5 H1.out.2.1 HH.out.2.2.2.2.2.1 pick HH.out.2.2.2.2.2.2.2 wait).mono ?_
         rintro e w2 ⟨v2, rfl, hsv, hP⟩
         rw [HD.out.1] at hsv hP ⊢
         simp only at hsv hP ⊢
         obtain ⟨h22, hc2⟩ := H1.out.2.2.2.1 _ _ hP
         have hbx2 := hc2.blk H1.out.2.2.2.2 (ML_no (by decide))
         obtain ⟨_, u1, _, u3, u4, u5⟩ := hbx2.cells6
         obtain ⟨F, hF, hFb, hFk⟩ := h22.right (Nat.le_trans (Nat.le_trans HH.out.2.2.2.1 H1.out.1.size) hc2.size)
         have H2 := Lib.hid (And.intro (H1.out.1.no.trans hc2) (And.intro hsv (And.intro hF (And.intro hFb hFk))))
         clear hsv hP h22 hc2 hbx2 hF hFb hFk))
  all_goals
    go_wp2_with fail
    refine (rdo_any _ F q base H H2.out.2.2.1 HH.out.2.1 HH.out.2.2.1 who HH.out.2.2.2.2.2.2.1 cases A c (HH.out.2.2.2.2.1.keep H2.out.1).x HH.out.2.2.2.2.2.1 H2.out.2.2.2.1 pick HH.out.2.2.2.2.2.2.2 wait).mono fun e w3 hh => ?_
    obtain ⟨v3, rfl, hsv3, hQ⟩ := hh
    rw [HD.out.1] at hsv3 hQ ⊢
    simp only at hsv3 hQ ⊢
    obtain ⟨A9, c9, rfl, _⟩ := hsv3.form
    obtain ⟨h23, hc3⟩ := H2.out.2.2.2.2 _ _ hQ
    have H3 := Lib.hid (And.intro (H2.out.1.trans hc3) (And.intro (H2.out.2.1.keep hc3 fun b => ML_no (by decide)) (And.intro hsv3 h23)))
    clear hsv3 hQ h23 hc3
    go_wp2_with fail
    refine (served_any _ v2 _ served (H3.out.2.1.keep (chg_alloc w3 _) fun _ => id) (H3.out.2.2.1.keep (chg_alloc w3 _) fun _ => id) (Nat.le_trans HD.out.2 (by decide))).mono fun e w4 hh => ?_
    obtain ⟨rfl, n, rfl⟩ := hh
    go_wp2_with fail
    go_ret
    exact ⟨by simp, H3.out.2.2.2.same ((chg_alloc w3 _).drewN n), (HB.out.1.no.trans H3.out.1).trans ((chg_alloc w3 _).drewN n).no⟩
theorem act_any (w : World) (base p q : Nat) (H : HubD) (hb : base ≤ w.heap.size) (h2 : Two base w p q H H) (hs : SmallH H) (hok : okH H) (a : ActD) (A : Option Addr) (c : Nat) (ha : ActOk base w a A c) :
    Calls Try.prog 21 #[.pointer (some ⟨p, 0, none⟩), .pointer (some ⟨q, 0, none⟩), .agg (actV a A c)] w (StepRes base (.bool true) p q (actC H a) w) := by
  unfold actC
  by_cases k1 : a.kind = 1
  · rw [if_pos k1]; exact act_make w base p q H hb h2 hs a A c k1
  rw [if_neg k1]
  by_cases k2 : a.kind = 2
  · rw [if_pos k2]; exact act_shut w base p q H hb h2 hs a A c k2
  rw [if_neg k2]
  by_cases k3 : a.kind = 3
  · rw [if_pos k3]; exact act_drop w base p q H hb h2 hs a A c k3
  rw [if_neg k3]
  by_cases k4 : a.kind = 4
  · rw [if_pos (.inl k4)]; exact act_ready w base p q H hb h2 hs a A c ha k4
  by_cases k5 : a.kind = 5
  · rw [if_pos (.inr (.inl k5))]; exact act_buf w base p q H hb h2 hs hok a A c k5
  by_cases k6 : a.kind = 6
  · rw [if_pos (.inr (.inr k6))]; exact act_six w base p q H hb h2 hs a A c k6
  rw [if_neg (by omega)]
  exact act_do w base p q H hb h2 hs hok a A c ha k1 k2 k3 k4 k5 k6
end Go.Proofs.Ytclllnoohoonoaa
