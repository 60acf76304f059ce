/-
  Reading in the reference: all bytes (Module).
-/
import Derived.Test.YtfmhedpjkpaohaaIn4
namespace Go.Proofs.Ytfmhedpjkpaohaa
open Go.RowKit
set_option linter.unusedVariables false
set_option linter.unusedSimpArgs false

/-- A loop that reads as many as were told: what is read so far. -/
def inRel {α : Type} (R : InB) (B : Nat) (bs : List Nat) (p : Pr α) (st : Except Nat Nat) (wl : World) (M : Nat → Nat → Prop) (x : Int) (J : List α → World → Prop) (i : Value) (wr : World) : Prop :=
  ∃ (l : List α) (s : Except Nat Nat), i = .int .i64 (l.length : Int) ∧ (l.length : Int) ≤ 2147483647 ∧ J l wr ∧ RepT p (runS (listP bs p) st) l (x.toNat - l.length) s ∧ InS R B bs wr s ∧ (∀ a, s = .ok a → x ≤ 2147483647) ∧ Chg M wl wr
theorem small_bound {bs : List Nat} {st : Except Nat Nat} {x : Int} (hxv : ∀ v a', runS (smallP bs 0) st = .ok (v, a') → x = v ∧ 0 ≤ x ∧ x ≤ 2147483647) (a : Nat) (h : endS (runS (smallP bs 0) st) = .ok a) : x ≤ 2147483647 := by
  cases hr : runS (smallP bs 0) st with
  | error f => rw [hr] at h; cases h
  | ok q => exact (hxv q.1 q.2 hr).2.2
set_option maxRecDepth 100000 in
set_option maxHeartbeats 16000000 in
theorem inmodule_any (B : Nat) (bs : List Nat) (A : Option Addr) (c : Nat) (w : World) (hv : SlR B 0 1 ByteV w (.slice A bs.length c) bs) (hB : B ≤ w.heap.size) :
    Calls Try.prog 21 #[.slice A bs.length c] w (DecRes bs w) := by
  obtain ⟨i41, hi41, hz41, hs41, hb41⟩ := info_parts infoShape
  obtain ⟨i51, hi51, hz51, hs51, hb51⟩ := info_parts infoFunc
  obtain ⟨i55, hi55, hz55, hs55, hb55⟩ := info_parts infoInstr
  have HV := Lib.hid (And.intro hv hB)
  clear hv hB
  by_cases hbig : 1048576 < bs.length
  · have hlt : decide ((1048576 : Int) < (bs.length : Int)) = true := decide_eq_true (by omega)
    go_enter Try.func21, Try.ntmps21
    go_wp2_with fail
    refine bodyPost_ret (v := .tuple #[zeroM, .int .i64 0, .int .i64 6]) (by simp [results, Try.results21, go_sem]) rfl ?_
    exact ⟨zeroM, 0, 6, rfl, by repeat' (first | exact Chg.refl _ _ | apply Chg.alloc), .inl ⟨hbig, rfl, rfl, rfl⟩⟩
  · have hlt : decide ((1048576 : Int) < (bs.length : Int)) = false := decide_eq_false (by omega)
    go_enter Try.func21, Try.ntmps21
    go_wp2_with fail
    have q0 : Blk (((w.alloc (.cells #[.slice none 0 0, .slice none 0 0] 25)).alloc (.cells #[.slice A bs.length c, .int .i64 0, .int .i64 (-1)] 90)).alloc (.cells #[.slice none 0 0, .slice none 0 0] 25)) w.heap.size 25 #[.slice none 0 0, .slice none 0 0] := ((Blk.new w 25 _).alloc _).alloc _
    have q1 : Blk (((w.alloc (.cells #[.slice none 0 0, .slice none 0 0] 25)).alloc (.cells #[.slice A bs.length c, .int .i64 0, .int .i64 (-1)] 90)).alloc (.cells #[.slice none 0 0, .slice none 0 0] 25)) (w.heap.size + 1) 90 #[.slice A bs.length c, .int .i64 0, .int .i64 (-1)] := (Blk.newAt (by simp)).alloc _
    have q2 : Blk (((w.alloc (.cells #[.slice none 0 0, .slice none 0 0] 25)).alloc (.cells #[.slice A bs.length c, .int .i64 0, .int .i64 (-1)] 90)).alloc (.cells #[.slice none 0 0, .slice none 0 0] 25)) (w.heap.size + 1 + 1) 25 #[.slice none 0 0, .slice none 0 0] := Blk.newAt (by simp)
    have hch : Chg (fun _ _ => False) w (((w.alloc (.cells #[.slice none 0 0, .slice none 0 0] 25)).alloc (.cells #[.slice A bs.length c, .int .i64 0, .int .i64 (-1)] 90)).alloc (.cells #[.slice none 0 0, .slice none 0 0] 25)) := (((Chg.refl _ w).alloc _).alloc _).alloc _
    have hsz : w.heap.size + 1 + 1 + 1 ≤ (((w.alloc (.cells #[.slice none 0 0, .slice none 0 0] 25)).alloc (.cells #[.slice A bs.length c, .int .i64 0, .int .i64 (-1)] 90)).alloc (.cells #[.slice none 0 0, .slice none 0 0] 25)).heap.size := by simp
    generalize ((w.alloc (.cells #[.slice none 0 0, .slice none 0 0] 25)).alloc (.cells #[.slice A bs.length c, .int .i64 0, .int .i64 (-1)] 90)).alloc (.cells #[.slice none 0 0, .slice none 0 0] 25) = W0 at q0 q1 q2 hch hsz ⊢
    generalize o2 : w.heap.size + 1 + 1 = bm at q0 q1 q2 ⊢
    generalize o1 : w.heap.size + 1 = p at q0 q1 q2 ⊢
    generalize o0 : w.heap.size = b0 at q0 q1 q2 ⊢
    obtain ⟨D, hDD⟩ : ∃ D, D = w.heap.size + 1 + 1 + 1 := ⟨_, rfl⟩
    obtain ⟨R, r0, r1, r2⟩ : ∃ R : InB, R.p = p ∧ R.A = A ∧ R.c = c := ⟨⟨p, A, c⟩, rfl, rfl, rfl⟩
    subst r0 r1 r2
    have hn : bs.length ≤ 1048576 := by omega
    have hS : InS R B bs W0 (.ok 0) := ⟨0, ⟨q1, SlR.keep HV.out.1 hch ⟨fun _ _ _ => id, fun h => absurd rfl h⟩ fun _ _ h => h, ⟨by have := HV.out.2; omega, Nat.le_trans HV.out.2 hch.size⟩⟩, Nat.zero_le _, fun a' h => by injection h with h; exact h.symm, fun f h => by cases h⟩
    have HD := Lib.hid (show D ≤ W0.heap.size ∧ R.p < D ∧ b0 < R.p ∧ R.p < bm ∧ bm < D ∧ B ≤ R.p ∧ w.heap.size = b0 by have := HV.out.2; omega)
    have H0 := Lib.hid (And.intro hS (And.intro q0 (And.intro q2 hch)))
    clear hS q0 q1 q2 hch hsz o0 o1 o2 hDD hlt
    refine (insmall_any R B bs W0 _ H0.out.1 hn 0 (.inl rfl)).mono fun e w1 hh => ?_
    obtain ⟨x, rfl, hxi, hxv, hE1, hc1⟩ := hh
    have HI := Lib.hid hxi
    have H1 := Lib.hid (And.intro (RepT.start (p := shapeP bs) fun v a' h => (hxv v a' h).1) (And.intro hE1 (And.intro (small_bound hxv) (And.intro hc1 (And.intro (hc1.blk H0.out.2.1 fun h => by have := HD.out; have := h.1; omega) (hc1.blk H0.out.2.2.1 fun h => by have := HD.out; have := h.1; omega))))))
    clear hxi hxv hE1 hc1
    go_wp2_with fail
    go_loopw [8] (fun i wr => inRel R B bs (shapeP bs) (.ok 0) w1 (fun b t => MI R b t ∨ (b = bm ∧ t = 25) ∨ (D ≤ b ∧ t = 41)) x (GrowT D bm) i wr) (fun i _ => (x - intOf i).toNat)
    case atStart => exact ⟨[], _, rfl, by decide, ⟨none, 0, H1.out.2.2.2.2.2, RowR.nil _ _ _ _ _⟩, H1.out.1, H1.out.2.1, H1.out.2.2.1, Chg.refl _ _⟩
    case round =>
      obtain ⟨l1, s1, rfl, hl, hJ, hrep, hS, hxb, hch⟩ := hrel
      obtain ⟨wo1, rfl⟩ : ∃ wo : World, wo = wr := ⟨_, rfl⟩
      have HL1 := Lib.hid (And.intro hl (And.intro hJ (And.intro hrep (And.intro hS (And.intro hxb hch)))))
      obtain ⟨pl1, hb, hrr⟩ := hS
      have c2 := hb.fault
      clear hJ hrep hxb hch hb hrr
      by_cases hk1 : (l1.length : Int) < x
      · have q1 : decide ((l1.length : Int) < x) = true := decide_eq_true hk1
        cases s1 with
        | error f =>
          rw [show badI (.error f) = (f : Int) from rfl] at c2
          have q2 : decide ((f : Int) < 0) = false := decide_eq_false (by omega)
          obtain ⟨g1, ⟨At, ct, hbm, hrt⟩, g3, g4, g5, g6⟩ := HL1.out
          obtain ⟨d1, d2⟩ := g3.done (.inr ⟨f, rfl⟩)
          have HW1 := Lib.hid (And.intro d1 (And.intro d2 (And.intro hbm (And.intro hrt (And.intro g4 ((H1.out.2.2.2.1.mono (M' := fun b t => R.p ≤ b) fun b t _ h => Nat.le_of_eq h.1.symm).trans (g6.mono fun b t _ h => by have := HD.out; rcases h with h | h | h <;> (have := h.1; omega))))))))
          clear g1 hbm hrt g3 g4 g5 g6 d1 d2
          go_wp2_with fail
          refine (insmall_any R B bs wo1 _ HW1.out.2.2.2.2.1 hn 0 (.inl rfl)).mono fun e w2 hh => ?_
          obtain ⟨y, rfl, hyi, hyv, hE1, hc1⟩ := hh
          have HIy := Lib.hid hyi
          have hE2 : InS R B bs w2 (.error f) := hE1
          have hcf : Chg (fun b t => R.p ≤ b) W0 w2 := HW1.out.2.2.2.2.2.trans (hc1.mono fun b t _ h => Nat.le_of_eq h.1.symm)
          have hb0 := hcf.blk H0.out.2.1 fun h => by have := HD.out; omega
          have hcw : Chg (fun _ _ => False) w w2 := H0.out.2.2.2.trans_new hcf fun b t hb h => by have := HD.out; omega
          have hrd := read_state HW1.out.1 (x1 := []) (s := .error f) (by rw [HW1.out.2.1]; intro v a' h; cases h) (by rw [HW1.out.2.1]; rfl)
          have HR9 := Lib.hid (And.intro hrd (And.intro hE2 (And.intro hb0 (And.intro hcw True.intro))))
          clear hyi hyv hE1 hc1 hE2 hcf hb0 hcw hrd
          go_wp2_with fail
          go_loopw [10] (fun i wr => i = .int .i64 0 ∧ wr = w2) (fun _ _ => 0)
          case atStart => exact ⟨rfl, rfl⟩
          case round =>
            obtain ⟨rfl, rfl⟩ := hrel
            obtain ⟨wo2, rfl⟩ : ∃ wo : World, wo = wr := ⟨_, rfl⟩
            have H9 := HR9
            obtain ⟨pl2, hb, hrr⟩ := HR9.out.2.1
            have c2 := hb.fault
            rw [show badI (.error f) = (f : Int) from rfl] at c2
            have q2 : decide ((f : Int) < 0) = false := decide_eq_false (by omega)
            clear hb hrr HR9
            by_cases hk2 : 0 < y
            · have q1 : decide (0 < y) = true := decide_eq_true hk2
              clear hk2
              have hb0 := H9.out.2.2.1
              obtain ⟨y0, y1⟩ := hb0.cells2
              have yz0 := hb0.frozen 0
              have yz1 := hb0.frozen 1
              obtain ⟨ae, hbe, hae, hae1, hae2⟩ := H9.out.2.1
              obtain ⟨d0, d1, d2⟩ := hbe.blk.cells3
              have z2 := hbe.blk.frozen 2
              have hne : b0 ≠ R.p := by have := HD.out; omega
              have hne2 : b0 ≠ bm := by have := HD.out; omega
              have hne3 : bm ≠ b0 := fun h => hne2 h.symm
              have HT := Lib.hid (And.intro hbe (And.intro hae (And.intro hae1 hae2)))
              clear hb0 hbe hae hae1 hae2
              rw [show badI (.error f) = (f : Int) from rfl] at d2
              have t1 : decide ((f : Int) < 0) = false := decide_eq_false (by omega)
              go_wp2_with fail
              go_region
              go_wp2
              refine bodyPost_ret (v := .tuple #[zeroM, .int .i64 (f : Int), .int .i64 5]) (by simp [results, Try.results21, go_sem, y0, y1]) rfl ?_
              exact ⟨zeroM, f, 5, rfl, (by repeat' (first | exact H9.out.2.2.2.1 | apply Chg.drew | apply Chg.drewN | refine Chg.setNew ?_ _ _ (by have := HD.out; omega))), .inr ⟨hn, .inl ⟨f, H9.out.1, rfl, rfl, rfl⟩⟩⟩
            · have q1 : decide (0 < y) = false := decide_eq_false hk2
              clear hk2
              have hb0 := H9.out.2.2.1
              obtain ⟨y0, y1⟩ := hb0.cells2
              have yz0 := hb0.frozen 0
              have yz1 := hb0.frozen 1
              obtain ⟨ae, hbe, hae, hae1, hae2⟩ := H9.out.2.1
              obtain ⟨d0, d1, d2⟩ := hbe.blk.cells3
              have z2 := hbe.blk.frozen 2
              have hne : b0 ≠ R.p := by have := HD.out; omega
              have hne2 : b0 ≠ bm := by have := HD.out; omega
              have hne3 : bm ≠ b0 := fun h => hne2 h.symm
              have HT := Lib.hid (And.intro hbe (And.intro hae (And.intro hae1 hae2)))
              clear hb0 hbe hae hae1 hae2
              rw [show badI (.error f) = (f : Int) from rfl] at d2
              have t1 : decide ((f : Int) < 0) = false := decide_eq_false (by omega)
              go_wp2_with fail
              go_region
              go_wp2
              refine bodyPost_ret (v := .tuple #[zeroM, .int .i64 (f : Int), .int .i64 5]) (by simp [results, Try.results21, go_sem, y0, y1]) rfl ?_
              exact ⟨zeroM, f, 5, rfl, (by repeat' (first | exact H9.out.2.2.2.1 | apply Chg.drew | apply Chg.drewN | refine Chg.setNew ?_ _ _ (by have := HD.out; omega))), .inr ⟨hn, .inl ⟨f, H9.out.1, rfl, rfl, rfl⟩⟩⟩
        | ok u1 =>
          rw [show badI (.ok u1) = -1 from rfl] at c2
          have hx7 := HL1.out.2.2.2.2.1 u1 rfl
          have hl0 : (0 : Int) ≤ (l1.length : Int) := by omega
          go_wp2_with fail
          have hA2 := chg_alloc wo1 (.cells #[.int .i64 0, .slice none 0 0, .int .i64 0] 41)
          have hN := Blk.new wo1 41 #[.int .i64 0, .slice none 0 0, .int .i64 0]
          have hS := HL1.out.2.2.2.1.keep hA2 (fun _ _ _ => id) id
          have hsz : D ≤ wo1.heap.size := Nat.le_trans HD.out.1 (Nat.le_trans H1.out.2.2.2.1.size HL1.out.2.2.2.2.2.size)
          generalize wo1.alloc (.cells #[.int .i64 0, .slice none 0 0, .int .i64 0] 41) = V0 at hA2 hN hS ⊢
          obtain ⟨b2, hb2⟩ : ∃ b2, wo1.heap.size = b2 := ⟨_, rfl⟩
          rw [hb2] at hN
          simp only [hb2]
          have HQ := Lib.hid (show R.p < b2 ∧ wo1.heap.size ≤ b2 by have := HD.out; omega)
          have HZ := Lib.hid (show W0.heap.size ≤ wo1.heap.size from Nat.le_trans H1.out.2.2.2.1.size HL1.out.2.2.2.2.2.size)
          have hne : bm < b2 := by have := HD.out; omega
          have HC := Lib.hid (And.intro hS (And.intro hN (hA2.mono (M' := MI R) fun _ _ _ h => h.elim)))
          clear hA2 hN hS hb2 c2
          refine (insmall_any R B bs V0 _ HC.out.1 hn 0 (.inl rfl)).mono fun e v2 hh => ?_
          obtain ⟨x2, rfl, hxi, hxv, hE1, hc1⟩ := hh
          have HX2 := Lib.hid (And.intro hxi (fun v a' h => (hxv v a' h).1))
          obtain ⟨hb1, hst⟩ := box_step (j := 0) HC.out hE1 hc1 HQ.out (.int .i64 x2) (cells' := #[(.int .i64 x2), .slice none 0 0, .int .i64 0]) rfl
          have hfr : Chg (fun b t => MI R b t ∨ (b = b2 ∧ t = 41)) V0 (v2.setCell ⟨b2, 0, none⟩ (.int .i64 x2)) := (hc1.mono fun b t _ h => .inl h).trans ((chg_set hb1 _).mono fun b t _ h => .inr h)
          obtain ⟨f0, f1, f2⟩ := hb1.cells3
          have fz := hb1.frozen 0
          have HC := Lib.hid hst
          clear hxi hxv hE1 hc1 hb1 hst hfr
          go_wp2_with fail
          generalize v2.setCell ⟨b2, 0, none⟩ (.int .i64 x2) = V1 at HC  ⊢
          clear f0 f1 f2 fz
          refine (inints_any R B D bs V1 _ HC.out.1 hn (Nat.le_trans HD.out.1 (Nat.le_trans HZ.out HC.out.2.2.size)) HD.out.2.1).mono fun e v3 hh => ?_
          obtain ⟨A3, c3, x3, rfl, hxi, hxv, hE1, hc1⟩ := hh
          have HX3 := Lib.hid hxv
          obtain ⟨hb1, hst⟩ := box_step (j := 1) HC.out hE1 hc1 HQ.out (.slice A3 x3.length c3) (cells' := #[(.int .i64 x2), (.slice A3 x3.length c3), .int .i64 0]) rfl
          have hfr : Chg (fun b t => MI R b t ∨ (b = b2 ∧ t = 41)) V1 (v3.setCell ⟨b2, 1, none⟩ (.slice A3 x3.length c3)) := (hc1.mono fun b t _ h => .inl h).trans ((chg_set hb1 _).mono fun b t _ h => .inr h)
          have HR3 := Lib.hid (RowR.keep hxi (chg_set (j := 1) hb1 (.slice A3 x3.length c3)) (fun b _ h => absurd h.2 (by decide)) fun _ _ h => h)
          obtain ⟨f0, f1, f2⟩ := hb1.cells3
          have fz := hb1.frozen 1
          have HC := Lib.hid hst
          clear hxi hxv hE1 hc1 hb1 hst hfr
          go_wp2_with fail
          generalize v3.setCell ⟨b2, 1, none⟩ (.slice A3 x3.length c3) = V2 at HC HR3 ⊢
          clear f0 f1 f2 fz
          refine (insmall_any R B bs V2 _ HC.out.1 hn 0 (.inl rfl)).mono fun e v4 hh => ?_
          obtain ⟨x4, rfl, hxi, hxv, hE1, hc1⟩ := hh
          have HX4 := Lib.hid (And.intro hxi (fun v a' h => (hxv v a' h).1))
          obtain ⟨hb1, hst⟩ := box_step (j := 2) HC.out hE1 hc1 HQ.out (.int .i64 x4) (cells' := #[(.int .i64 x2), (.slice A3 x3.length c3), (.int .i64 x4)]) rfl
          have hfr : Chg (fun b t => MI R b t ∨ (b = b2 ∧ t = 41)) V2 (v4.setCell ⟨b2, 2, none⟩ (.int .i64 x4)) := (hc1.mono fun b t _ h => .inl h).trans ((chg_set hb1 _).mono fun b t _ h => .inr h)
          have HR3 := Lib.hid (HR3.out.keep hfr (fun b _ h => by rcases h with h | h <;> exact absurd h.2 (by decide)) fun _ _ h => h)
          obtain ⟨f0, f1, f2⟩ := hb1.cells3
          have fz := hb1.frozen 2
          have HC := Lib.hid hst
          clear hxi hxv hE1 hc1 hb1 hst hfr
          have hst := HC.out.2.2
          obtain ⟨Ag, cg, hbx, xss, how, h2, h3, h4⟩ := HL1.out.2.1
          replace hbx := hst.blk hbx fun h => absurd h.2 (by decide)
          have how8 := hst.own how fun g hg h => absurd h.2 (by decide)
          have hsz8 : D ≤ (v4.setCell ⟨b2, 2, none⟩ (.int .i64 x4)).heap.size := Nat.le_trans hsz hst.size
          have hE := HC.out.1
          have d0a := hbx.cell 0
          have y0a := hbx.frozen 0
          simp only [List.getElem?_toArray, List.getElem?_cons_zero, List.getElem?_cons_succ] at d0a
          have d0 : v4.cell? ⟨bm, 0, none⟩ = some (.slice Ag l1.length cg) := (World.cell?_setCell_far v4 ⟨b2, 2, none⟩ ⟨bm, 0, none⟩ (.int .i64 x4) (by show b2 ≠ bm; omega)).symm.trans d0a
          have y0 : v4.frozen? ⟨bm, 0, none⟩ = false := by have := y0a; simpa using this
          have HV4 := Lib.hid (And.intro hbx (And.intro hst (And.intro how8 (And.intro hE (And.intro h2 (And.intro h3 h4))))))
          clear hst hbx hE d0a y0a h2 h3 h4 how
          go_wp2_with (at_builtin; go_must (refine wpList_append_new rfl (.tmp 48) (.tmp 50) 22 rfl D 41 i41 _ 3 40 Try.underlying22 hi41 hz41 hs41 hb41 rfl (by omega) Ag l1.length cg xss.flatten rfl how8 1 1 [.int .i64 x2, .slice A3 x3.length c3, .int .i64 x4] rfl (by first | rfl | simp) rfl (by intro u hu; simp at hu; rcases hu with rfl | rfl | rfl <;> rfl) (by simp only [maxLen]; omega) (by omega) hsz8 ?_))
          intro A6 c6 w9 hap
          have hp := own_push (T := 25) (e := 41) (base := D) (j := 0) (R := ShapeP D) (by decide) HV4.out.1 HV4.out.2.2.1 HV4.out.2.2.2.2.1 HV4.out.2.2.2.2.2.1 (fun k x cs hx hcs => (HV4.out.2.2.2.2.2.2 k x cs hx hcs).keep HV4.out.2.1 fun b _ h => absurd h.2 (by decide)) (fun _ _ hc _ _ h => h.keep hc fun b _ h => by rcases h with h | h <;> exact absurd h.2 (by decide)) (Chg.refl _ _) (x := ⟨x2, x3, x4⟩) ⟨A3, c3, rfl, HX2.out.1, HX4.out.1, HR3.out⟩ rfl hap (.slice A6 (l1.length + 1) c6)
          have g0 := hp.2.2.2.cell 0
          have gz := hp.2.2.2.frozen 0
          simp only [List.getElem?_toArray, List.getElem?_cons_zero, List.getElem?_cons_succ] at g0
          have HPU := Lib.hid hp
          clear hap hp how8 hsz8 d0 y0
          go_wp2_with fail
          go_roundw
          case rel =>
            obtain ⟨p1, p2, p3, p4⟩ := HPU.out
            obtain ⟨g1, g2, g3, g4, g5, g6⟩ := HL1.out
            obtain ⟨k1, k2, k3, k4, _⟩ := HV4.out
            obtain ⟨e1, e2⟩ := shape_run HX2.out.2 HX3.out HX4.out.2
            have hq := HD.out
            rw [show x.toNat - l1.length = (x.toNat - (l1.length + 1)) + 1 by omega] at g3
            have hst := g3.step e2
            rw [e1] at hst
            refine ⟨l1 ++ [⟨x2, x3, x4⟩], _, by simp, by simp; omega, ⟨A6, c6, by simpa using p1, by simpa using p2⟩, by simpa using hst, k4.keep p3 (fun b t hb h => by rcases h with h | h <;> (have := h.1; omega)) (fun h => by rcases h with h | h <;> exact absurd h.2 (by decide)), fun _ _ => hx7, ?_⟩
            exact (g6.trans (k2.mono fun b t _ h => .inl h)).trans (p3.mono fun b t _ h => .inr h)
          case measure => simp [intOf]; omega
      · have q1 : decide ((l1.length : Int) < x) = false := decide_eq_false hk1
        clear c2
        obtain ⟨g1, ⟨At, ct, hbm, hrt⟩, g3, g4, g5, g6⟩ := HL1.out
        obtain ⟨d1, d2⟩ := g3.done (.inl (by omega))
        have HW1 := Lib.hid (And.intro d1 (And.intro d2 (And.intro hbm (And.intro hrt (And.intro g4 ((H1.out.2.2.2.1.mono (M' := fun b t => R.p ≤ b) fun b t _ h => Nat.le_of_eq h.1.symm).trans (g6.mono fun b t _ h => by have := HD.out; rcases h with h | h | h <;> (have := h.1; omega))))))))
        clear g1 hbm hrt g3 g4 g5 g6 d1 d2
        go_wp2_with fail
        refine (insmall_any R B bs wo1 _ HW1.out.2.2.2.2.1 hn 0 (.inl rfl)).mono fun e w2 hh => ?_
        obtain ⟨y, rfl, hyi, hyv, hE1, hc1⟩ := hh
        have HIy := Lib.hid hyi
        have hrt2 := HW1.out.2.2.2.1.keep hc1 (fun b _ h => absurd h.2 (by decide)) fun _ _ h => h.keep hc1 fun b _ h => absurd h.2 (by decide)
        have hbm2 := hc1.blk HW1.out.2.2.1 fun h => absurd h.2 (by decide)
        have H2 := Lib.hid (And.intro (RepT.start (p := funcP bs) fun v a' h => (hyv v a' h).1) (And.intro hE1 (And.intro (small_bound hyv) hbm2)))
        have HT1 := Lib.hid (And.intro HW1.out.1 (And.intro HW1.out.2.1 (And.intro (HW1.out.2.2.2.2.2.trans (hc1.mono fun b t _ h => Nat.le_of_eq h.1.symm)) hrt2)))
        clear hyi hyv hE1 hc1 hrt2 hbm2
        go_wp2_with fail
        go_loopw [10] (fun i wr => inRel R B bs (funcP bs) s1 w2 (fun b t => MI R b t ∨ (b = bm ∧ t = 25) ∨ (D ≤ b ∧ t = 51)) y (GrowF D bm (.slice At l1.length ct)) i wr) (fun i _ => (y - intOf i).toNat)
        case atStart => exact ⟨[], _, rfl, by decide, ⟨none, 0, H2.out.2.2.2, RowR.nil _ _ _ _ _⟩, H2.out.1, H2.out.2.1, H2.out.2.2.1, Chg.refl _ _⟩
        case round =>
          obtain ⟨l2, s2, rfl, hl, hJ, hrep, hS, hxb, hch⟩ := hrel
          obtain ⟨wo2, rfl⟩ : ∃ wo : World, wo = wr := ⟨_, rfl⟩
          have HL2 := Lib.hid (And.intro hl (And.intro hJ (And.intro hrep (And.intro hS (And.intro hxb hch)))))
          obtain ⟨pl2, hb, hrr⟩ := hS
          have c2 := hb.fault
          clear hJ hrep hxb hch hb hrr
          by_cases hk2 : (l2.length : Int) < y
          · have q1 : decide ((l2.length : Int) < y) = true := decide_eq_true hk2
            cases s2 with
            | error f =>
              rw [show badI (.error f) = (f : Int) from rfl] at c2
              have q2 : decide ((f : Int) < 0) = false := decide_eq_false (by omega)
              obtain ⟨g1, ⟨A9, c9, hbm, hrf⟩, g3, g4, g5, g6⟩ := HL2.out
              obtain ⟨d1, d2⟩ := g3.done (.inr ⟨f, rfl⟩)
              have hM2 : ∀ t b, D ≤ b → t ≠ 90 → t ≠ 25 → t ≠ 51 → ¬ (MI R b t ∨ (b = bm ∧ t = 25) ∨ (D ≤ b ∧ t = 51)) := fun t b _ h1 h2 h3 h => by
                rcases h with h | h | h
                · exact h1 h.2
                · exact h2 h.2
                · exact h3 h.2
              have hrt := HT1.out.2.2.2.keep g6 (fun b hb => hM2 _ b hb (by decide) (by decide) (by decide)) fun _ _ h => h.keep g6 fun b hb => hM2 _ b hb (by decide) (by decide) (by decide)
              have hcf : Chg (fun b t => R.p ≤ b) W0 wo2 := HT1.out.2.2.1.trans (g6.mono fun b t _ h => by
                have := HD.out
                rcases h with h | h | h <;> (have := h.1; omega))
              have hb0 := hcf.blk H0.out.2.1 fun h => by have := HD.out; omega
              have hcw : Chg (fun _ _ => False) w wo2 := H0.out.2.2.2.trans_new hcf fun b t hb h => by have := HD.out; omega
              have H9 := Lib.hid (And.intro (read_state HT1.out.1 (x1 := l2) (s := .error f) (by rw [HT1.out.2.1]; exact d1) (by rw [HT1.out.2.1]; exact d2.symm)) (And.intro g4 (And.intro hb0 (And.intro hcw (show ∃ A8 c8 A9 c9, Blk wo2 bm 25 #[.slice A8 l1.length c8, .slice A9 l2.length c9] ∧ RowR D 41 3 (ShapeP D) wo2 A8 c8 l1 ∧ RowR D 51 5 (FuncP D) wo2 A9 c9 l2 from ⟨At, ct, A9, c9, hbm, hrt, hrf⟩)))))
              clear g1 hbm hrf g3 g4 g5 g6 d1 d2 hM2 hrt hcf hb0 hcw
              have hb0 := H9.out.2.2.1
              obtain ⟨y0, y1⟩ := hb0.cells2
              have yz0 := hb0.frozen 0
              have yz1 := hb0.frozen 1
              obtain ⟨ae, hbe, hae, hae1, hae2⟩ := H9.out.2.1
              obtain ⟨d0, d1, d2⟩ := hbe.blk.cells3
              have z2 := hbe.blk.frozen 2
              have hne : b0 ≠ R.p := by have := HD.out; omega
              have hne2 : b0 ≠ bm := by have := HD.out; omega
              have hne3 : bm ≠ b0 := fun h => hne2 h.symm
              have HT := Lib.hid (And.intro hbe (And.intro hae (And.intro hae1 hae2)))
              clear hb0 hbe hae hae1 hae2
              rw [show badI (.error f) = (f : Int) from rfl] at d2
              have t1 : decide ((f : Int) < 0) = false := decide_eq_false (by omega)
              go_wp2_with fail
              go_region
              go_wp2
              refine bodyPost_ret (v := .tuple #[zeroM, .int .i64 (f : Int), .int .i64 5]) (by simp [results, Try.results21, go_sem, y0, y1]) rfl ?_
              exact ⟨zeroM, f, 5, rfl, (by repeat' (first | exact H9.out.2.2.2.1 | apply Chg.drew | apply Chg.drewN | refine Chg.setNew ?_ _ _ (by have := HD.out; omega))), .inr ⟨hn, .inl ⟨f, H9.out.1, rfl, rfl, rfl⟩⟩⟩
            | ok u2 =>
              rw [show badI (.ok u2) = -1 from rfl] at c2
              have hx7 := HL2.out.2.2.2.2.1 u2 rfl
              have hl0 : (0 : Int) ≤ (l2.length : Int) := by omega
              go_wp2_with fail
              have hA2 := chg_alloc wo2 (.cells #[.int .i64 0, .slice none 0 0, .slice none 0 0, .int .i64 0, .slice none 0 0] 51)
              have hN := Blk.new wo2 51 #[.int .i64 0, .slice none 0 0, .slice none 0 0, .int .i64 0, .slice none 0 0]
              have hS := HL2.out.2.2.2.1.keep hA2 (fun _ _ _ => id) id
              have hs20 : W0.heap.size ≤ wo2.heap.size := Nat.le_trans HT1.out.2.2.1.size HL2.out.2.2.2.2.2.size
              have hsz : D ≤ wo2.heap.size := Nat.le_trans HD.out.1 hs20
              generalize wo2.alloc (.cells #[.int .i64 0, .slice none 0 0, .slice none 0 0, .int .i64 0, .slice none 0 0] 51) = V0 at hA2 hN hS ⊢
              obtain ⟨b3, hb2⟩ : ∃ b3, wo2.heap.size = b3 := ⟨_, rfl⟩
              rw [hb2] at hN
              simp only [hb2]
              have HQ := Lib.hid (show R.p < b3 ∧ wo2.heap.size ≤ b3 ∧ wo2.heap.size = b3 by have := HD.out; omega)
              have HZ := Lib.hid hs20
              have hne : bm < b3 := by have := HD.out; omega
              have HC := Lib.hid (And.intro hS (And.intro hN (hA2.mono (M' := MI R) fun _ _ _ h => h.elim)))
              clear hA2 hN hS hb2 c2 hs20
              refine (insmall_any R B bs V0 _ HC.out.1 hn 0 (.inl rfl)).mono fun e v3 hh => ?_
              obtain ⟨x3, rfl, hxi, hxv, hE1, hc1⟩ := hh
              have HX3 := Lib.hid (And.intro hxi (fun v a' h => (hxv v a' h).1))
              obtain ⟨hb1, hst⟩ := box_step (j := 0) HC.out hE1 hc1 ⟨HQ.out.1, HQ.out.2.1⟩ (.int .i64 x3) (cells' := #[(.int .i64 x3), .slice none 0 0, .slice none 0 0, .int .i64 0, .slice none 0 0]) rfl
              have hfr : Chg (fun b t => MI R b t ∨ (b = b3 ∧ t = 51)) V0 (v3.setCell ⟨b3, 0, none⟩ (.int .i64 x3)) := (hc1.mono fun b t _ h => .inl h).trans ((chg_set hb1 _).mono fun b t _ h => .inr h)
              obtain ⟨f0, f1, f2, f3, f4⟩ := hb1.cells5
              have fz := hb1.frozen 0
              have HC := Lib.hid hst
              clear hxi hxv hE1 hc1 hb1 hst hfr
              go_wp2_with fail
              generalize v3.setCell ⟨b3, 0, none⟩ (.int .i64 x3) = V1 at HC  ⊢
              clear f0 f1 f2 f3 f4 fz
              refine (inints_any R B D bs V1 _ HC.out.1 hn (Nat.le_trans HD.out.1 (Nat.le_trans HZ.out HC.out.2.2.size)) HD.out.2.1).mono fun e v4 hh => ?_
              obtain ⟨A4, c4, x4, rfl, hxi, hxv, hE1, hc1⟩ := hh
              have HX4 := Lib.hid hxv
              obtain ⟨hb1, hst⟩ := box_step (j := 1) HC.out hE1 hc1 ⟨HQ.out.1, HQ.out.2.1⟩ (.slice A4 x4.length c4) (cells' := #[(.int .i64 x3), (.slice A4 x4.length c4), .slice none 0 0, .int .i64 0, .slice none 0 0]) rfl
              have hfr : Chg (fun b t => MI R b t ∨ (b = b3 ∧ t = 51)) V1 (v4.setCell ⟨b3, 1, none⟩ (.slice A4 x4.length c4)) := (hc1.mono fun b t _ h => .inl h).trans ((chg_set hb1 _).mono fun b t _ h => .inr h)
              have HR4 := Lib.hid (RowR.keep hxi (chg_set (j := 1) hb1 (.slice A4 x4.length c4)) (fun b _ h => absurd h.2 (by decide)) fun _ _ h => h)
              obtain ⟨f0, f1, f2, f3, f4⟩ := hb1.cells5
              have fz := hb1.frozen 1
              have HC := Lib.hid hst
              clear hxi hxv hE1 hc1 hb1 hst hfr
              go_wp2_with fail
              generalize v4.setCell ⟨b3, 1, none⟩ (.slice A4 x4.length c4) = V2 at HC HR4 ⊢
              clear f0 f1 f2 f3 f4 fz
              refine (inints_any R B D bs V2 _ HC.out.1 hn (Nat.le_trans HD.out.1 (Nat.le_trans HZ.out HC.out.2.2.size)) HD.out.2.1).mono fun e v5 hh => ?_
              obtain ⟨A5, c5, x5, rfl, hxi, hxv, hE1, hc1⟩ := hh
              have HX5 := Lib.hid hxv
              obtain ⟨hb1, hst⟩ := box_step (j := 2) HC.out hE1 hc1 ⟨HQ.out.1, HQ.out.2.1⟩ (.slice A5 x5.length c5) (cells' := #[(.int .i64 x3), (.slice A4 x4.length c4), (.slice A5 x5.length c5), .int .i64 0, .slice none 0 0]) rfl
              have hfr : Chg (fun b t => MI R b t ∨ (b = b3 ∧ t = 51)) V2 (v5.setCell ⟨b3, 2, none⟩ (.slice A5 x5.length c5)) := (hc1.mono fun b t _ h => .inl h).trans ((chg_set hb1 _).mono fun b t _ h => .inr h)
              have HR4 := Lib.hid (HR4.out.keep hfr (fun b _ h => by rcases h with h | h <;> exact absurd h.2 (by decide)) fun _ _ h => h)
              have HR5 := Lib.hid (RowR.keep hxi (chg_set (j := 2) hb1 (.slice A5 x5.length c5)) (fun b _ h => absurd h.2 (by decide)) fun _ _ h => h)
              obtain ⟨f0, f1, f2, f3, f4⟩ := hb1.cells5
              have fz := hb1.frozen 2
              have HC := Lib.hid hst
              clear hxi hxv hE1 hc1 hb1 hst hfr
              go_wp2_with fail
              generalize v5.setCell ⟨b3, 2, none⟩ (.slice A5 x5.length c5) = V3 at HC HR4 HR5 ⊢
              clear f0 f1 f2 f3 f4 fz
              refine (insmall_any R B bs V3 _ HC.out.1 hn 0 (.inl rfl)).mono fun e v6 hh => ?_
              obtain ⟨x6, rfl, hxi, hxv, hE1, hc1⟩ := hh
              have HX6 := Lib.hid (And.intro hxi (fun v a' h => (hxv v a' h).1))
              obtain ⟨hb1, hst⟩ := box_step (j := 3) HC.out hE1 hc1 ⟨HQ.out.1, HQ.out.2.1⟩ (.int .i64 x6) (cells' := #[(.int .i64 x3), (.slice A4 x4.length c4), (.slice A5 x5.length c5), (.int .i64 x6), .slice none 0 0]) rfl
              have hfr : Chg (fun b t => MI R b t ∨ (b = b3 ∧ t = 51)) V3 (v6.setCell ⟨b3, 3, none⟩ (.int .i64 x6)) := (hc1.mono fun b t _ h => .inl h).trans ((chg_set hb1 _).mono fun b t _ h => .inr h)
              have HR4 := Lib.hid (HR4.out.keep hfr (fun b _ h => by rcases h with h | h <;> exact absurd h.2 (by decide)) fun _ _ h => h)
              have HR5 := Lib.hid (HR5.out.keep hfr (fun b _ h => by rcases h with h | h <;> exact absurd h.2 (by decide)) fun _ _ h => h)
              obtain ⟨f0, f1, f2, f3, f4⟩ := hb1.cells5
              have fz := hb1.frozen 3
              have HC := Lib.hid hst
              clear hxi hxv hE1 hc1 hb1 hst hfr
              go_wp2_with fail
              generalize v6.setCell ⟨b3, 3, none⟩ (.int .i64 x6) = V4 at HC HR4 HR5 ⊢
              clear f0 f1 f2 f3 f4 fz
              refine (insmall_any R B bs V4 _ HC.out.1 hn 0 (.inl rfl)).mono fun e w3 hh => ?_
              obtain ⟨z, rfl, hzi, hzv, hE1, hc1⟩ := hh
              obtain ⟨D3, hD3⟩ : ∃ D3, D3 = w3.heap.size := ⟨_, rfl⟩
              have hb3 := hc1.blk HC.out.2.1 fun h => absurd h.2 (by decide)
              have H3 := Lib.hid (And.intro (RepT.start (p := instrP bs) fun v a' h => (hzv v a' h).1) (And.intro hE1 (And.intro (small_bound hzv) hb3)))
              have HW3 := Lib.hid (And.intro True.intro (And.intro hD3 (And.intro (HC.out.2.2.trans hc1) (And.intro hc1 True.intro))))
              have HIz := Lib.hid hzi
              clear hzi hzv hE1 hc1 hb3 hD3
              go_wp2_with fail
              go_loopw [13] (fun i wr => inRel R B bs (instrP bs) (endS (runS (smallP bs 0) (endS (runS (listP bs (smallP bs 0)) (endS (runS (listP bs (smallP bs 0)) (endS (runS (smallP bs 0) (.ok u2))))))))) w3 (fun b t => MI R b t ∨ (b = b3 ∧ t = 51) ∨ (D3 ≤ b ∧ t = 55)) z (GrowI D3 b3 (.int .i64 x3) (.slice A4 x4.length c4) (.slice A5 x5.length c5) (.int .i64 x6)) i wr) (fun i _ => (z - intOf i).toNat)
              case atStart => exact ⟨[], _, rfl, by decide, ⟨none, 0, H3.out.2.2.2, RowR.nil _ _ _ _ _⟩, H3.out.1, H3.out.2.1, H3.out.2.2.1, Chg.refl _ _⟩
              case round =>
                obtain ⟨l3, s3, rfl, hl, hJ, hrep, hS, hxb, hch⟩ := hrel
                obtain ⟨wo3, rfl⟩ : ∃ wo : World, wo = wr := ⟨_, rfl⟩
                have HL3 := Lib.hid (And.intro hl (And.intro hJ (And.intro hrep (And.intro hS (And.intro hxb hch)))))
                obtain ⟨pl3, hb, hrr⟩ := hS
                have c2 := hb.fault
                clear hJ hrep hxb hch hb hrr
                by_cases hk3 : (l3.length : Int) < z
                · have q1 : decide ((l3.length : Int) < z) = true := decide_eq_true hk3
                  cases s3 with
                  | error f =>
                    rw [show badI (.error f) = (f : Int) from rfl] at c2
                    have q2 : decide ((f : Int) < 0) = false := decide_eq_false (by omega)
                    obtain ⟨g1, ⟨A9, c9, hb3, hri⟩, g3, g4, g5, g6⟩ := HL3.out
                    obtain ⟨d1, d2⟩ := g3.done (.inr ⟨f, rfl⟩)
                    have hcw : Chg (MI R) wo2 wo3 := HW3.out.2.2.1.trans_le g6 fun b t hb h => by
                      have := HQ.out
                      have := HW3.out.2.2.1.size
                      have := HW3.out.2.1
                      rcases h with h | h | h
                      · exact h
                      · have := h.1; omega
                      · have := h.1; omega
                    obtain ⟨Ag, cg, hbx, xss, how, h2, h3, h4⟩ := HL2.out.2.1
                    replace hbx := hcw.blk hbx fun h => absurd h.2 (by decide)
                    have how8 := hcw.own how fun g hg h => absurd h.2 (by decide)
                    have hsz8 : D ≤ wo3.heap.size := Nat.le_trans hsz hcw.size
                    obtain ⟨p0, p1, p2, p3, p4⟩ := hb3.cells5
                    have m1 := hbx.cell 1
                    have mz := hbx.frozen 1
                    simp only [List.getElem?_toArray, List.getElem?_cons_zero, List.getElem?_cons_succ] at m1
                    have hl1' := HR4.out.keep HW3.out.2.2.2.1 (fun b _ h => absurd h.2 (by decide)) fun _ _ h => h
                    have hl2' := HR5.out.keep HW3.out.2.2.2.1 (fun b _ h => absurd h.2 (by decide)) fun _ _ h => h
                    have hno : ∀ b, D ≤ b → ¬ (MI R b 3 ∨ (b = b3 ∧ 3 = 51) ∨ (D3 ≤ b ∧ 3 = 55)) := fun b _ h => by rcases h with h | h | h <;> exact absurd h.2 (by decide)
                    have hl1 := hl1'.keep g6 hno fun _ _ h => h
                    have hl2 := hl2'.keep g6 hno fun _ _ h => h
                    have hD3 : D ≤ D3 := by have := HW3.out.2.1; have := HW3.out.2.2.1.size; omega
                    have hf : FuncP D wo3 [.int .i64 x3, .slice A4 x4.length c4, .slice A5 x5.length c5, .int .i64 x6, .slice A9 l3.length c9] ⟨x3, x4, x5, x6, l3⟩ := ⟨A4, c4, A5, c5, A9, c9, rfl, HX3.out.1, HX6.out.1, hl1, hl2, (hri.imp fun _ _ h => h.rebase hD3).rebase hD3⟩
                    obtain ⟨e1, e2⟩ := func_run HX3.out.2 HX4.out HX5.out HX6.out.2 d1
                    rw [d2] at e1
                    have HV4 := Lib.hid (And.intro hbx (And.intro how8 (And.intro h2 (And.intro h3 (And.intro (fun (k : Nat) x cs hx hcs => FuncP.keep (h4 k x cs hx hcs) hcw (fun b _ h => absurd h.2 (by decide)) (fun b _ h => absurd h.2 (by decide)) (fun b _ h => absurd h.2 (by decide))) (And.intro hf (And.intro hcw (And.intro g4 (And.intro e1 e2)))))))))
                    have hne2 : bm < b3 := hne
                    clear g1 hb3 hri g3 g4 g5 g6 d1 d2 hcw hbx how h2 h3 h4 hl1' hl2' hno hl1 hl2 hD3 hf e1 e2
                    go_wp2_with (at_builtin; go_must (refine wpList_append_new rfl (.tmp 103) (.tmp 105) 23 rfl D 51 i51 _ 5 88 Try.underlying23 hi51 hz51 hs51 hb51 rfl (by omega) Ag l2.length cg xss.flatten rfl how8 1 1 [.int .i64 x3, .slice A4 x4.length c4, .slice A5 x5.length c5, .int .i64 x6, .slice A9 l3.length c9] rfl (by first | rfl | simp) rfl (by intro u hu; simp at hu; rcases hu with rfl | rfl | rfl | rfl | rfl <;> rfl) (by simp only [maxLen]; omega) (by omega) hsz8 ?_))
                    intro A6 c6 w9 hap
                    have hp := own_push (T := 25) (e := 51) (base := D) (j := 1) (R := FuncP D) (by decide) HV4.out.1 HV4.out.2.1 HV4.out.2.2.1 HV4.out.2.2.2.1 HV4.out.2.2.2.2.1 (fun _ _ hc _ _ h => h.keep hc (fun b _ h => by rcases h with h | h <;> exact absurd h.2 (by decide)) (fun b _ h => by rcases h with h | h <;> exact absurd h.2 (by decide)) (fun b _ h => by rcases h with h | h <;> exact absurd h.2 (by decide))) (Chg.refl _ _) (x := ⟨x3, x4, x5, x6, l3⟩) HV4.out.2.2.2.2.2.1 rfl hap (.slice A6 (l2.length + 1) c6)
                    have g0 := hp.2.2.2.cell 1
                    have gz := hp.2.2.2.frozen 1
                    simp only [List.getElem?_toArray, List.getElem?_cons_zero, List.getElem?_cons_succ] at g0
                    have HPU := Lib.hid hp
                    clear hap hp how8 hsz8 p0 p1 p2 p3 p4 m1 mz
                    go_wp2_with fail
                    go_roundw
                    case rel =>
                      obtain ⟨p1, p2, p3, p4⟩ := HPU.out
                      obtain ⟨g1, g2, g3, g4, g5, g6⟩ := HL2.out
                      obtain ⟨k1, k2, k3, k4, k5, k6, k7, k8, k9, k10⟩ := HV4.out
                      have hq := HD.out
                      rw [show y.toNat - l2.length = (y.toNat - (l2.length + 1)) + 1 by omega] at g3
                      have hst := g3.step k10
                      rw [k9] at hst
                      refine ⟨l2 ++ [⟨x3, x4, x5, x6, l3⟩], _, by simp, by simp; omega, ⟨A6, c6, by simpa using p1, by simpa using p2⟩, by simpa using hst, k8.keep p3 (fun b t hb h => by rcases h with h | h <;> (have := h.1; omega)) (fun h => by rcases h with h | h <;> exact absurd h.2 (by decide)), fun _ _ => hx7, ?_⟩
                      exact (g6.trans (k7.mono fun b t _ h => .inl h)).trans (p3.mono fun b t _ h => .inr h)
                    case measure => simp [intOf]; omega
                  | ok u3 =>
                    rw [show badI (.ok u3) = -1 from rfl] at c2
                    have hx7 := HL3.out.2.2.2.2.1 u3 rfl
                    have hl0 : (0 : Int) ≤ (l3.length : Int) := by omega
                    have hs3 : D3 ≤ wo3.heap.size := Nat.le_trans (Nat.le_of_eq HW3.out.2.1) HL3.out.2.2.2.2.2.size
                    have hD3 : R.p < D3 := by have := HD.out; have := HW3.out.2.1; have := HW3.out.2.2.1.size; omega
                    go_wp2_with fail
                    refine (ininstr_any R B D3 bs wo3 _ HL3.out.2.2.2.1 hn hs3 hD3).mono fun e v9 hh => ?_
                    obtain ⟨vs, ins, rfl, ⟨A7, c7, rfl, j1, j2, j3, j4, j5⟩, hxv, hE1, hc1⟩ := hh
                    obtain ⟨Ai, ci, hb3, xss3, how3, h2, h3, h4⟩ := HL3.out.2.1
                    replace hb3 := hc1.blk hb3 fun h => absurd h.2 (by decide)
                    have how9 := hc1.own how3 fun g hg h => absurd h.2 (by decide)
                    obtain ⟨p0, p1, p2, p3, p4⟩ := hb3.cells5
                    have pz := hb3.frozen 4
                    have hsz9 : D3 ≤ (v9.alloc (.cells #[.int .i64 ins.op, .int .i64 ins.a, .int .i64 ins.b, .int .u64 (ins.n : Int), .slice A7 ins.cases.length c7] 55)).heap.size := Nat.le_trans hs3 (Nat.le_trans hc1.size (by simp))
                    have HI9 := Lib.hid (And.intro (show InstrP D3 v9 _ ins from ⟨A7, c7, rfl, j1, j2, j3, j4, j5⟩) (And.intro hxv (And.intro hE1 (And.intro hc1 (And.intro hb3 (And.intro how9 (And.intro h2 (And.intro h3 (fun (k : Nat) x cs hx hcs => InstrP.keep (h4 k x cs hx hcs) hc1 fun b _ h => absurd h.2 (by decide))))))))))
                    have hown := how9.alloc (.cells #[.int .i64 ins.op, .int .i64 ins.a, .int .i64 ins.b, .int .u64 (ins.n : Int), .slice A7 ins.cases.length c7] 55)
                    have hcA := chg_alloc v9 (.cells #[.int .i64 ins.op, .int .i64 ins.a, .int .i64 ins.b, .int .u64 (ins.n : Int), .slice A7 ins.cases.length c7] 55)
                    have pA := (hcA.blk hb3 id).cell 4
                    simp only [List.getElem?_toArray, List.getElem?_cons_zero, List.getElem?_cons_succ] at pA
                    have HcA := Lib.hid hcA
                    clear j1 j2 j3 j4 j5 hxv hE1 hc1 hb3 how9 how3 h2 h3 h4 hcA
                    go_wp2_with (at_builtin; go_must (refine wpList_append_new rfl (.tmp 97) (.tmp 99) 49 rfl D3 55 i55 _ 5 56 Try.underlying49 hi55 hz55 hs55 hb55 rfl (by omega) Ai l3.length ci xss3.flatten rfl hown 1 1 [.int .i64 ins.op, .int .i64 ins.a, .int .i64 ins.b, .int .u64 (ins.n : Int), .slice A7 ins.cases.length c7] rfl (by first | rfl | simp) rfl (by intro u hu; simp at hu; rcases hu with rfl | rfl | rfl | rfl | rfl <;> rfl) (by simp only [maxLen]; omega) (by omega) hsz9 ?_))
                    intro A6 c6 w9 hap
                    have hcA := HcA.out
                    have hp := own_push (T := 51) (e := 55) (base := D3) (j := 4) (R := InstrP D3) (by decide) (hcA.blk HI9.out.2.2.2.2.1 id) hown HI9.out.2.2.2.2.2.2.1 HI9.out.2.2.2.2.2.2.2.1 (fun k x cs hx hcs => (HI9.out.2.2.2.2.2.2.2.2 k x cs hx hcs).keep hcA fun _ _ => id) (fun _ _ hc _ _ h => h.keep hc fun b _ h => by rcases h with h | h <;> exact absurd h.2 (by decide)) (Chg.refl _ _) (x := ins) (HI9.out.1.keep hcA fun _ _ => id) rfl hap (.slice A6 (l3.length + 1) c6)
                    have g4 := hp.2.2.2.cell 4
                    have gz := hp.2.2.2.frozen 4
                    simp only [List.getElem?_toArray, List.getElem?_cons_zero, List.getElem?_cons_succ] at g4
                    have HPU := Lib.hid (And.intro hcA hp)
                    clear hap hp hown hsz9 p0 p1 p2 p3 p4 pz hcA pA
                    go_wp2_with fail
                    go_roundw
                    case rel =>
                      obtain ⟨p0, p1, p2, p3, p4⟩ := HPU.out
                      obtain ⟨g1, g2, g3, g4, g5, g6⟩ := HL3.out
                      obtain ⟨k1, k2, k3, k4, _⟩ := HI9.out
                      have hq := HD.out
                      rw [show z.toNat - l3.length = (z.toNat - (l3.length + 1)) + 1 by omega] at g3
                      have hst := g3.step k2
                      have hlow := k3.choose_spec.1.low.1
                      refine ⟨l3 ++ [ins], _, by simp, by simp; omega, ⟨A6, c6, by simpa using p1, by simpa using p2⟩, by simpa using hst, (k3.keep p0 (fun _ _ _ => id) id).keep p3 (fun b t hb h => by have := HQ.out; rcases h with h | h <;> (have := h.1; omega)) (fun h => by rcases h with h | h <;> exact absurd h.2 (by decide)), fun _ _ => hx7, ?_⟩
                      exact (g6.trans ((k4.mono fun b t _ h => .inl h).trans (p0.mono fun _ _ _ h => h.elim))).trans (p3.mono fun b t _ h => .inr h)
                    case measure => simp [intOf]; omega
                · have q1 : decide ((l3.length : Int) < z) = false := decide_eq_false hk3
                  clear c2
                  obtain ⟨g1, ⟨A9, c9, hb3, hri⟩, g3, g4, g5, g6⟩ := HL3.out
                  obtain ⟨d1, d2⟩ := g3.done (.inl (by omega))
                  have hcw : Chg (MI R) wo2 wo3 := HW3.out.2.2.1.trans_le g6 fun b t hb h => by
                    have := HQ.out
                    have := HW3.out.2.2.1.size
                    have := HW3.out.2.1
                    rcases h with h | h | h
                    · exact h
                    · have := h.1; omega
                    · have := h.1; omega
                  obtain ⟨Ag, cg, hbx, xss, how, h2, h3, h4⟩ := HL2.out.2.1
                  replace hbx := hcw.blk hbx fun h => absurd h.2 (by decide)
                  have how8 := hcw.own how fun g hg h => absurd h.2 (by decide)
                  have hsz8 : D ≤ wo3.heap.size := Nat.le_trans hsz hcw.size
                  obtain ⟨p0, p1, p2, p3, p4⟩ := hb3.cells5
                  have m1 := hbx.cell 1
                  have mz := hbx.frozen 1
                  simp only [List.getElem?_toArray, List.getElem?_cons_zero, List.getElem?_cons_succ] at m1
                  have hl1' := HR4.out.keep HW3.out.2.2.2.1 (fun b _ h => absurd h.2 (by decide)) fun _ _ h => h
                  have hl2' := HR5.out.keep HW3.out.2.2.2.1 (fun b _ h => absurd h.2 (by decide)) fun _ _ h => h
                  have hno : ∀ b, D ≤ b → ¬ (MI R b 3 ∨ (b = b3 ∧ 3 = 51) ∨ (D3 ≤ b ∧ 3 = 55)) := fun b _ h => by rcases h with h | h | h <;> exact absurd h.2 (by decide)
                  have hl1 := hl1'.keep g6 hno fun _ _ h => h
                  have hl2 := hl2'.keep g6 hno fun _ _ h => h
                  have hD3 : D ≤ D3 := by have := HW3.out.2.1; have := HW3.out.2.2.1.size; omega
                  have hf : FuncP D wo3 [.int .i64 x3, .slice A4 x4.length c4, .slice A5 x5.length c5, .int .i64 x6, .slice A9 l3.length c9] ⟨x3, x4, x5, x6, l3⟩ := ⟨A4, c4, A5, c5, A9, c9, rfl, HX3.out.1, HX6.out.1, hl1, hl2, (hri.imp fun _ _ h => h.rebase hD3).rebase hD3⟩
                  obtain ⟨e1, e2⟩ := func_run HX3.out.2 HX4.out HX5.out HX6.out.2 d1
                  rw [d2] at e1
                  have HV4 := Lib.hid (And.intro hbx (And.intro how8 (And.intro h2 (And.intro h3 (And.intro (fun (k : Nat) x cs hx hcs => FuncP.keep (h4 k x cs hx hcs) hcw (fun b _ h => absurd h.2 (by decide)) (fun b _ h => absurd h.2 (by decide)) (fun b _ h => absurd h.2 (by decide))) (And.intro hf (And.intro hcw (And.intro g4 (And.intro e1 e2)))))))))
                  have hne2 : bm < b3 := hne
                  clear g1 hb3 hri g3 g4 g5 g6 d1 d2 hcw hbx how h2 h3 h4 hl1' hl2' hno hl1 hl2 hD3 hf e1 e2
                  go_wp2_with (at_builtin; go_must (refine wpList_append_new rfl (.tmp 103) (.tmp 105) 23 rfl D 51 i51 _ 5 88 Try.underlying23 hi51 hz51 hs51 hb51 rfl (by omega) Ag l2.length cg xss.flatten rfl how8 1 1 [.int .i64 x3, .slice A4 x4.length c4, .slice A5 x5.length c5, .int .i64 x6, .slice A9 l3.length c9] rfl (by first | rfl | simp) rfl (by intro u hu; simp at hu; rcases hu with rfl | rfl | rfl | rfl | rfl <;> rfl) (by simp only [maxLen]; omega) (by omega) hsz8 ?_))
                  intro A6 c6 w9 hap
                  have hp := own_push (T := 25) (e := 51) (base := D) (j := 1) (R := FuncP D) (by decide) HV4.out.1 HV4.out.2.1 HV4.out.2.2.1 HV4.out.2.2.2.1 HV4.out.2.2.2.2.1 (fun _ _ hc _ _ h => h.keep hc (fun b _ h => by rcases h with h | h <;> exact absurd h.2 (by decide)) (fun b _ h => by rcases h with h | h <;> exact absurd h.2 (by decide)) (fun b _ h => by rcases h with h | h <;> exact absurd h.2 (by decide))) (Chg.refl _ _) (x := ⟨x3, x4, x5, x6, l3⟩) HV4.out.2.2.2.2.2.1 rfl hap (.slice A6 (l2.length + 1) c6)
                  have g0 := hp.2.2.2.cell 1
                  have gz := hp.2.2.2.frozen 1
                  simp only [List.getElem?_toArray, List.getElem?_cons_zero, List.getElem?_cons_succ] at g0
                  have HPU := Lib.hid hp
                  clear hap hp how8 hsz8 p0 p1 p2 p3 p4 m1 mz
                  go_wp2_with fail
                  go_roundw
                  case rel =>
                    obtain ⟨p1, p2, p3, p4⟩ := HPU.out
                    obtain ⟨g1, g2, g3, g4, g5, g6⟩ := HL2.out
                    obtain ⟨k1, k2, k3, k4, k5, k6, k7, k8, k9, k10⟩ := HV4.out
                    have hq := HD.out
                    rw [show y.toNat - l2.length = (y.toNat - (l2.length + 1)) + 1 by omega] at g3
                    have hst := g3.step k10
                    rw [k9] at hst
                    refine ⟨l2 ++ [⟨x3, x4, x5, x6, l3⟩], _, by simp, by simp; omega, ⟨A6, c6, by simpa using p1, by simpa using p2⟩, by simpa using hst, k8.keep p3 (fun b t hb h => by rcases h with h | h <;> (have := h.1; omega)) (fun h => by rcases h with h | h <;> exact absurd h.2 (by decide)), fun _ _ => hx7, ?_⟩
                    exact (g6.trans (k7.mono fun b t _ h => .inl h)).trans (p3.mono fun b t _ h => .inr h)
                  case measure => simp [intOf]; omega
          · have q1 : decide ((l2.length : Int) < y) = false := decide_eq_false hk2
            clear c2
            obtain ⟨g1, ⟨A9, c9, hbm, hrf⟩, g3, g4, g5, g6⟩ := HL2.out
            obtain ⟨d1, d2⟩ := g3.done (.inl (by omega))
            have hM2 : ∀ t b, D ≤ b → t ≠ 90 → t ≠ 25 → t ≠ 51 → ¬ (MI R b t ∨ (b = bm ∧ t = 25) ∨ (D ≤ b ∧ t = 51)) := fun t b _ h1 h2 h3 h => by
              rcases h with h | h | h
              · exact h1 h.2
              · exact h2 h.2
              · exact h3 h.2
            have hrt := HT1.out.2.2.2.keep g6 (fun b hb => hM2 _ b hb (by decide) (by decide) (by decide)) fun _ _ h => h.keep g6 fun b hb => hM2 _ b hb (by decide) (by decide) (by decide)
            have hcf : Chg (fun b t => R.p ≤ b) W0 wo2 := HT1.out.2.2.1.trans (g6.mono fun b t _ h => by
              have := HD.out
              rcases h with h | h | h <;> (have := h.1; omega))
            have hb0 := hcf.blk H0.out.2.1 fun h => by have := HD.out; omega
            have hcw : Chg (fun _ _ => False) w wo2 := H0.out.2.2.2.trans_new hcf fun b t hb h => by have := HD.out; omega
            have H9 := Lib.hid (And.intro (read_state HT1.out.1 (x1 := l2) (s := s2) (by rw [HT1.out.2.1]; exact d1) (by rw [HT1.out.2.1]; exact d2.symm)) (And.intro g4 (And.intro hb0 (And.intro hcw (show ∃ A8 c8 A9 c9, Blk wo2 bm 25 #[.slice A8 l1.length c8, .slice A9 l2.length c9] ∧ RowR D 41 3 (ShapeP D) wo2 A8 c8 l1 ∧ RowR D 51 5 (FuncP D) wo2 A9 c9 l2 from ⟨At, ct, A9, c9, hbm, hrt, hrf⟩)))))
            clear g1 hbm hrf g3 g4 g5 g6 d1 d2 hM2 hrt hcf hb0 hcw
            have hb0 := H9.out.2.2.1
            obtain ⟨y0, y1⟩ := hb0.cells2
            have yz0 := hb0.frozen 0
            have yz1 := hb0.frozen 1
            obtain ⟨ae, hbe, hae, hae1, hae2⟩ := H9.out.2.1
            obtain ⟨d0, d1, d2⟩ := hbe.blk.cells3
            have z2 := hbe.blk.frozen 2
            have hne : b0 ≠ R.p := by have := HD.out; omega
            have hne2 : b0 ≠ bm := by have := HD.out; omega
            have hne3 : bm ≠ b0 := fun h => hne2 h.symm
            have HT := Lib.hid (And.intro hbe (And.intro hae (And.intro hae1 hae2)))
            clear hb0 hbe hae hae1 hae2
            cases s2 with
            | error f2 =>
              rw [show badI (.error f2) = (f2 : Int) from rfl] at d2
              have t1 : decide ((f2 : Int) < 0) = false := decide_eq_false (by omega)
              go_wp2_with fail
              go_region
              go_wp2
              refine bodyPost_ret (v := .tuple #[zeroM, .int .i64 (f2 : Int), .int .i64 5]) (by simp [results, Try.results21, go_sem, y0, y1]) rfl ?_
              exact ⟨zeroM, f2, 5, rfl, (by repeat' (first | exact H9.out.2.2.2.1 | apply Chg.drew | apply Chg.drewN | refine Chg.setNew ?_ _ _ (by have := HD.out; omega))), .inr ⟨hn, .inl ⟨f2, H9.out.1, rfl, rfl, rfl⟩⟩⟩
            | ok a2 =>
              rw [show badI (.ok a2) = -1 from rfl] at d2
              obtain rfl := HT.out.2.2.1 a2 rfl
              by_cases hat : a2 < bs.length
              · have t1 : decide ((a2 : Int) < (bs.length : Int)) = true := decide_eq_true (by omega)
                have t1' : decide (a2 < bs.length) = true := decide_eq_true hat
                have hrd : readP bs = .error a2 := by rw [H9.out.1]; simp [endM, hat]
                have HRD := Lib.hid hrd
                clear hrd hat
                go_wp2_with fail
                go_region
                go_wp2
                refine bodyPost_ret (v := .tuple #[zeroM, .int .i64 (a2 : Int), .int .i64 5]) (by simp [results, Try.results21, go_sem, y0, y1]) rfl ?_
                exact ⟨zeroM, a2, 5, rfl, (by repeat' (first | exact H9.out.2.2.2.1 | apply Chg.drew | apply Chg.drewN | refine Chg.setNew ?_ _ _ (by have := HD.out; omega))), .inr ⟨hn, .inl ⟨a2, HRD.out, rfl, rfl, rfl⟩⟩⟩
              · have t1 : decide ((a2 : Int) < (bs.length : Int)) = false := decide_eq_false (by omega)
                have t1' : decide (a2 < bs.length) = false := decide_eq_false hat
                have hrd : readP bs = .ok ⟨l1, l2⟩ := by rw [H9.out.1]; simp [endM, hat]
                have HRD := Lib.hid hrd
                clear hrd hat
                obtain ⟨A8, c8, A9, c9, hbm, hr1, hr2⟩ := H9.out.2.2.2.2
                obtain ⟨x0, x1⟩ := hbm.cells2
                have HRR := Lib.hid (And.intro hr1 hr2)
                clear hbm hr1 hr2
                go_wp2_with fail
                refine bodyPost_ret (v := .tuple #[.agg #[.slice A8 l1.length c8, .slice A9 l2.length c9], .int .i64 0, .int .i64 0]) (by simp [results, Try.results21, go_sem, y0, y1]) rfl ?_
                have hs : Chg (fun b t => b = b0 ∧ t = 25) wo2 ((wo2.setCell ⟨b0, 0, none⟩ (.slice A8 l1.length c8)).setCell ⟨b0, 1, none⟩ (.slice A9 l2.length c9)) := (chg_set H9.out.2.2.1 _).trans (chg_set (H9.out.2.2.1.set_ 0 _) _)
                have hw0 : w.heap.size ≤ D := by have := HD.out; omega
                refine ⟨_, 0, 0, rfl, (H9.out.2.2.2.1.setNew 0 _ (by have := HD.out; omega)).setNew 1 _ (by have := HD.out; omega), .inr ⟨hn, .inr ⟨⟨l1, l2⟩, HRD.out, rfl, rfl, A8, c8, A9, c9, rfl, ?_, ?_⟩⟩⟩
                · exact ((HRR.out.1.keep hs (fun b _ h => absurd h.2 (by decide)) fun _ _ h => h.keep hs fun b _ h => absurd h.2 (by decide)).imp fun _ _ h => h.rebase hw0).rebase hw0
                · exact ((HRR.out.2.keep hs (fun b _ h => absurd h.2 (by decide)) fun _ _ h => h.keep hs (fun b _ h => absurd h.2 (by decide)) (fun b _ h => absurd h.2 (by decide)) (fun b _ h => absurd h.2 (by decide))).imp fun _ _ h => h.rebase hw0).rebase hw0
end Go.Proofs.Ytfmhedpjkpaohaa
