/-
  Reading in the reference: an instruction (In.instr).
-/
import Derived.Test.YtfmhedpjkpaohaaIn3
namespace Go.Proofs.Ytfmhedpjkpaohaa
open Go.RowKit
set_option linter.unusedVariables false
set_option linter.unusedSimpArgs false

/-- A call of the reader, and what it tells stored in a struct of the caller's own. -/
theorem box_step {R : InB} {B : Nat} {bs : List Nat} {w W w1 : World} {s0 s : Except Nat Nat} {b T j : Nat} {cells cells' : Array Value} (H : InS R B bs W s0 ∧ Blk W b T cells ∧ Chg (MI R) w W) (hE : InS R B bs w1 s) (hc : Chg (MI R) W w1) (hb : R.p < b ∧ w.heap.size ≤ b) (u : Value) (hcells : cells.setIfInBounds j u = cells') :
    Blk w1 b T cells ∧ InS R B bs (w1.setCell ⟨b, j, none⟩ u) s ∧ Blk (w1.setCell ⟨b, j, none⟩ u) b T cells' ∧ Chg (MI R) w (w1.setCell ⟨b, j, none⟩ u) := by
  have h1 := hc.blk H.2.1 fun h => by have := h.1; omega
  have h2 := chg_set (j := j) h1 u
  refine ⟨h1, hE.keep h2 (fun b' t hb' h => by have := h.1; have := hE.choose_spec.1.low.1; omega) (fun h => by have := h.1; omega), by rw [← hcells]; exact h1.set_ j u, (H.2.2.trans hc).setNew j u hb.2⟩
theorem flag_end {bs : List Nat} {st : Except Nat Nat} : endS (runS (flagP bs) st) = endS (runS (uptoP bs 1) st) := by
  cases st with
  | error e => rfl
  | ok a =>
    show endS (flagP bs a) = endS (uptoP bs 1 a)
    unfold flagP
    cases uptoP bs 1 a with
    | error e => rfl
    | ok q => rfl
theorem flag_value {bs : List Nat} {st : Except Nat Nat} {n : Nat} (h : ∀ v a', runS (uptoP bs 1) st = .ok (v, a') → n = v) : ∀ v a', runS (flagP bs) st = .ok (v, a') → ((n : Int) == 1) = v := by
  cases st with
  | error e => intro v a' h; cases h
  | ok a =>
    intro v a' hr
    replace hr : flagP bs a = .ok (v, a') := hr
    unfold flagP at hr
    cases hu : uptoP bs 1 a with
    | error e => rw [hu] at hr; cases hr
    | ok q =>
      rw [hu] at hr
      injection hr with hr
      injection hr with h1 h2
      obtain rfl := h q.1 q.2 hu
      rw [← h1, Bool.eq_iff_iff]
      simp
      omega
/-- The cases read so far. -/
def inCasesRel (R : InB) (B b0 b1 : Nat) (bs : List Nat) (st : Except Nat Nat) (wl : World) (x : Int) (u0 u1 u2 u3 : Value) (z : Array Value) (i : Value) (wr : World) : Prop :=
  ∃ (A : Option Addr) (c : Nat) (l : List CaseD) (s : Except Nat Nat), i = .int .i64 (l.length : Int) ∧ (l.length : Int) ≤ 2147483647 ∧ Blk wr b1 55 #[u0, u1, u2, u3, .slice A l.length c] ∧ Blk wr b0 55 z ∧ RowR b0 79 4 CaseR wr A c l ∧ RepT (caseP bs) (runS (listP bs (caseP bs)) st) l (x.toNat - l.length) s ∧ InS R B bs wr s ∧ (∀ a, s = .ok a → x ≤ 2147483647) ∧ Chg (fun b t => MI R b t ∨ b0 ≤ b) wl wr
def InInstr (R : InB) (B D : Nat) (bs : List Nat) (st : Except Nat Nat) (w : World) (e : Ending) (w' : World) : Prop :=
  ∃ v x, e = .returned (.agg (List.toArray v)) ∧ InstrP D w' v x ∧ (∀ y a', runS (instrP bs) st = .ok (y, a') → x = y) ∧ InS R B bs w' (endS (runS (instrP bs) st)) ∧ Chg (MI R) w w'
theorem set5T_blk {w : World} {r T : Nat} {x0 x1 x2 x3 x4 : Value} (hb : Blk w r T #[x0, x1, x2, x3, x4]) (a b c d e : Value) : Blk (((((w.setCell ⟨r, 0, none⟩ a).setCell ⟨r, 1, none⟩ b).setCell ⟨r, 2, none⟩ c).setCell ⟨r, 3, none⟩ d).setCell ⟨r, 4, none⟩ e) r T #[a, b, c, d, e] := by
  have := ((((hb.set_ 0 a).set_ 1 b).set_ 2 c).set_ 3 d).set_ 4 e
  simpa using this
theorem chg_set5 {w : World} {r T : Nat} {x0 x1 x2 x3 x4 : Value} (hb : Blk w r T #[x0, x1, x2, x3, x4]) (a b c d e : Value) : Chg (fun b' t => b' = r ∧ t = T) w (((((w.setCell ⟨r, 0, none⟩ a).setCell ⟨r, 1, none⟩ b).setCell ⟨r, 2, none⟩ c).setCell ⟨r, 3, none⟩ d).setCell ⟨r, 4, none⟩ e) :=
  ((((chg_set hb a).trans (chg_set (hb.set_ 0 a) b)).trans (chg_set ((hb.set_ 0 a).set_ 1 b) c)).trans (chg_set (((hb.set_ 0 a).set_ 1 b).set_ 2 c) d)).trans (chg_set ((((hb.set_ 0 a).set_ 1 b).set_ 2 c).set_ 3 d) e)
theorem instr_results {w : World} {r : Nat} {a b c d e : Value} {tmps : Array Value} (h : tmps.getD 2 undef = .pointer (some ⟨r, 0, none⟩)) (hb : Blk w r 55 #[a, b, c, d, e]) : (results Try.f58 tmps).run Try.prog w = .ok (.agg #[a, b, c, d, e]) w := by
  obtain ⟨q0, q1, q2, q3, q4⟩ := hb.cells5
  have h' : tmps[2]?.getD undef = .pointer (some ⟨r, 0, none⟩) := by simpa using h
  simp [results, Try.results58, go_sem, h, h', q0, q1, q2, q3, q4]
set_option maxRecDepth 100000 in
set_option maxHeartbeats 8000000 in
theorem ininstr_any (R : InB) (B D : Nat) (bs : List Nat) (w : World) (st : Except Nat Nat) (h : InS R B bs w st) (hn : bs.length ≤ 1048576) (hD : D ≤ w.heap.size) (hp : R.p < D) :
    Calls Try.prog 58 #[ptr R.p] w (InInstr R B D bs st w) := by
  obtain ⟨i79, hi79, hz79, hs79, hb79⟩ := info_parts infoCase
  have HE := Lib.hid h
  have HP := Lib.hid (And.intro hD hp)
  clear h
  go_enter Try.func58, Try.ntmps58
  go_wp2_with fail

  have hA := chg_alloc w (.cells #[.int .i64 0, .int .i64 0, .int .i64 0, .int .u64 0, .slice none 0 0] 55)
  have hO := Blk.new w 55 #[.int .i64 0, .int .i64 0, .int .i64 0, .int .u64 0, .slice none 0 0]
  have hsz : (w.alloc (.cells #[.int .i64 0, .int .i64 0, .int .i64 0, .int .u64 0, .slice none 0 0] 55)).heap.size = w.heap.size + 1 := by simp
  generalize w.alloc (.cells #[.int .i64 0, .int .i64 0, .int .i64 0, .int .u64 0, .slice none 0 0] 55) = wb at hA hO hsz ⊢
  have hA2 := chg_alloc wb (.cells #[.int .i64 0, .int .i64 0, .int .i64 0, .int .u64 0, .slice none 0 0] 55)
  have hN := Blk.newAt (T := 55) (cs := #[.int .i64 0, .int .i64 0, .int .i64 0, .int .u64 0, .slice none 0 0]) hsz.symm
  have hS := (HE.out.keep hA (fun _ _ _ => id) id).keep hA2 (fun _ _ _ => id) id
  have hO2 := hA2.blk hO id
  generalize wb.alloc (.cells #[.int .i64 0, .int .i64 0, .int .i64 0, .int .u64 0, .slice none 0 0] 55) = W0 at hA2 hN hS hO2 ⊢
  obtain ⟨b0, hb0⟩ : ∃ b0, w.heap.size = b0 := ⟨_, rfl⟩
  obtain ⟨b1, hb1⟩ : ∃ b1, w.heap.size + 1 = b1 := ⟨_, rfl⟩
  rw [hb1] at hN hsz ⊢
  simp only [hb0] at hO hO2 ⊢
  have hq : D ≤ b0 ∧ b0 < b1 ∧ R.p < D ∧ wb.heap.size = b1 ∧ w.heap.size = b0 := by omega
  have HB0 := Lib.hid (And.intro hO (And.intro hA hq))
  have HB := Lib.hid (And.intro hS (And.intro hN (hA2.mono (M' := MI R) fun _ _ _ h => h.elim)))
  clear hA hO hsz hA2 hN hS hO2 hb0 hb1 hq hD hp
  refine (insmall_any R B bs W0 _ HB.out.1 hn 0 (.inl rfl)).mono fun e v0 hh => ?_
  obtain ⟨x0, rfl, hxi, hxv, hE1, hc1⟩ := hh
  have HX0 := Lib.hid (And.intro hxi (fun v a' h => (hxv v a' h).1))
  obtain ⟨hb1, hst⟩ := box_step (j := 0) HB.out hE1 hc1 (by have := HB0.out; omega) (.int .i64 x0) (cells' := #[(.int .i64 x0), .int .i64 0, .int .i64 0, .int .u64 0, .slice none 0 0]) rfl
  obtain ⟨f0, f1, f2, f3, f4⟩ := hb1.cells5
  have fz := hb1.frozen 0
  have HB := Lib.hid hst
  clear hxi hxv hE1 hc1 hb1 hst
  go_wp2_with fail
  generalize v0.setCell ⟨b1, 0, none⟩ (.int .i64 x0) = W1 at HB ⊢
  clear f0 f1 f2 f3 f4 fz
  refine (insmall_any R B bs W1 _ HB.out.1 hn (-1) (.inr rfl)).mono fun e v1 hh => ?_
  obtain ⟨x1, rfl, hxi, hxv, hE1, hc1⟩ := hh
  have HX1 := Lib.hid (And.intro hxi (fun v a' h => (hxv v a' h).1))
  obtain ⟨hb1, hst⟩ := box_step (j := 1) HB.out hE1 hc1 (by have := HB0.out; omega) (.int .i64 x1) (cells' := #[(.int .i64 x0), (.int .i64 x1), .int .i64 0, .int .u64 0, .slice none 0 0]) rfl
  obtain ⟨f0, f1, f2, f3, f4⟩ := hb1.cells5
  have fz := hb1.frozen 1
  have HB := Lib.hid hst
  clear hxi hxv hE1 hc1 hb1 hst
  go_wp2_with fail
  generalize v1.setCell ⟨b1, 1, none⟩ (.int .i64 x1) = W2 at HB ⊢
  clear f0 f1 f2 f3 f4 fz
  refine (insmall_any R B bs W2 _ HB.out.1 hn (-1) (.inr rfl)).mono fun e v2 hh => ?_
  obtain ⟨x2, rfl, hxi, hxv, hE1, hc1⟩ := hh
  have HX2 := Lib.hid (And.intro hxi (fun v a' h => (hxv v a' h).1))
  obtain ⟨hb1, hst⟩ := box_step (j := 2) HB.out hE1 hc1 (by have := HB0.out; omega) (.int .i64 x2) (cells' := #[(.int .i64 x0), (.int .i64 x1), (.int .i64 x2), .int .u64 0, .slice none 0 0]) rfl
  obtain ⟨f0, f1, f2, f3, f4⟩ := hb1.cells5
  have fz := hb1.frozen 2
  have HB := Lib.hid hst
  clear hxi hxv hE1 hc1 hb1 hst
  go_wp2_with fail
  generalize v2.setCell ⟨b1, 2, none⟩ (.int .i64 x2) = W3 at HB ⊢
  clear f0 f1 f2 f3 f4 fz
  refine (innum_any R B bs W3 _ HB.out.1 hn).mono fun e v3 hh => ?_
  obtain ⟨x3, rfl, hxi, hxv, hE1, hc1⟩ := hh
  have HX3 := Lib.hid (And.intro hxi hxv)
  obtain ⟨hb1, hst⟩ := box_step (j := 3) HB.out hE1 hc1 (by have := HB0.out; omega) (.int .u64 (x3 : Int)) (cells' := #[(.int .i64 x0), (.int .i64 x1), (.int .i64 x2), (.int .u64 (x3 : Int)), .slice none 0 0]) rfl
  obtain ⟨f0, f1, f2, f3, f4⟩ := hb1.cells5
  have fz := hb1.frozen 3
  have HB := Lib.hid hst
  clear hxi hxv hE1 hc1 hb1 hst
  go_wp2_with fail
  generalize v3.setCell ⟨b1, 3, none⟩ (.int .u64 (x3 : Int)) = W4 at HB ⊢
  clear f0 f1 f2 f3 f4 fz
  refine (insmall_any R B bs W4 _ HB.out.1 hn 0 (.inl rfl)).mono fun e w1 hh => ?_
  obtain ⟨x, rfl, hxi, hxv, hE1, hc1⟩ := hh
  have H1 := Lib.hid (And.intro (RepT.start (p := caseP bs) fun v a' h => (hxv v a' h).1) (And.intro hE1 (fun a (h : endS (runS (smallP bs 0) (endS (runS (numP bs) (endS (runS (smallP bs (-1)) (endS (runS (smallP bs (-1)) (endS (runS (smallP bs 0) st))))))))) = .ok a) => (show x ≤ 2147483647 from by
    cases hr : runS (smallP bs 0) (endS (runS (numP bs) (endS (runS (smallP bs (-1)) (endS (runS (smallP bs (-1)) (endS (runS (smallP bs 0) st)))))))) with
    | error f => rw [hr] at h; cases h
    | ok q => exact (hxv q.1 q.2 hr).2.2))))
  have hbx := hc1.blk HB.out.2.1 fun h => by have := HB0.out; have := h.1; omega
  have hcw := HB.out.2.2.trans hc1
  have hbo := hcw.blk HB0.out.1 fun h => by have := HB0.out; have := h.1; omega
  have HW := Lib.hid (And.intro hbx (And.intro hbo hcw))
  have HI := Lib.hid hxi
  clear hxv hE1 hc1 hxi hbx hcw hbo HB
  go_wp2_with fail
  go_loopw [5] (fun i wr => inCasesRel R B b0 b1 bs (endS (runS (numP bs) (endS (runS (smallP bs (-1)) (endS (runS (smallP bs (-1)) (endS (runS (smallP bs 0) st)))))))) w1 x (.int .i64 x0) (.int .i64 x1) (.int .i64 x2) (.int .u64 (x3 : Int)) #[.int .i64 0, .int .i64 0, .int .i64 0, .int .u64 0, .slice none 0 0] i wr) (fun i _ => (x - intOf i).toNat)
  case atStart => exact ⟨none, 0, [], _, rfl, by decide, HW.out.1, HW.out.2.1, RowR.nil _ _ _ _ _, H1.out.1, H1.out.2.1, H1.out.2.2, Chg.refl _ _⟩
  case round =>
    obtain ⟨A, c, l, s, rfl, hl, hbx, hbo, ⟨xss, how, h2, h3, h4⟩, hrep, hS, hxb, hch⟩ := hrel
    obtain ⟨wo, rfl⟩ : ∃ wo : World, wo = wr := ⟨_, rfl⟩
    have HR := Lib.hid (And.intro hl (And.intro hbx (And.intro hbo (And.intro how (And.intro h2 (And.intro h3 (And.intro h4 (And.intro hrep (And.intro hS hch)))))))))
    have HXB := Lib.hid hxb
    obtain ⟨a, hb, _⟩ := hS
    have c2 := hb.fault
    clear how h2 h3 h4 hrep hxb hch hb hbx hbo
    by_cases hk : (l.length : Int) < x
    · have q1 : decide ((l.length : Int) < x) = true := decide_eq_true hk
      cases s with
      | error f =>
        rw [show badI (.error f) = (f : Int) from rfl] at c2
        have q2 : decide ((f : Int) < 0) = false := decide_eq_false (by omega)
        obtain ⟨g1, g2, g3, g4, g5, g6, g7, g8, g9, g10⟩ := HR.out
        obtain ⟨d1, d2⟩ := g8.done (.inr ⟨f, rfl⟩)
        obtain ⟨e1, e2⟩ := instr_run HX0.out.2 HX1.out.2 HX2.out.2 HX3.out.2 d1
        obtain ⟨f0, f1, f2, f3, f4⟩ := g2.cells5
        obtain ⟨t0, t1, t2, t3, t4⟩ := g3.cells5
        have z0 := g3.frozen 0
        have z1 := g3.frozen 1
        have z2 := g3.frozen 2
        have z3 := g3.frozen 3
        have z4 := g3.frozen 4
        have hbR := set5T_blk g3 (.int .i64 x0) (.int .i64 x1) (.int .i64 x2) (.int .u64 (x3 : Int)) (.slice A l.length c)
        have hcR := chg_set5 g3 (.int .i64 x0) (.int .i64 x1) (.int .i64 x2) (.int .u64 (x3 : Int)) (.slice A l.length c)
        have HF := Lib.hid (And.intro hbR (And.intro hcR (And.intro e1 (And.intro e2 (And.intro d2 (And.intro g10 (And.intro g9 (show RowR b0 79 4 CaseR wo A c l from ⟨xss, g4, g5, g6, g7⟩))))))))
        clear g1 g2 g3 g4 g5 g6 g7 g8 g9 g10 d1 d2 e1 e2 hbR hcR
        go_wp2_with fail
        refine bodyPost_ret (instr_results rfl HF.out.1) rfl ?_
        obtain ⟨k1, k2, k3, k4, k5, k6, k7, k8⟩ := HF.out
        refine ⟨_, ⟨x0, x1, x2, x3, l⟩, rfl, ⟨A, c, rfl, HX0.out.1, HX1.out.1, HX2.out.1, HX3.out.1, (RowR.keep k8 k2 (fun b hb h => absurd h.2 (by decide)) fun _ _ h => h).rebase HB0.out.2.2.1⟩, k4, ?_, ?_⟩
        · rw [k3, k5]
          exact k7.keep k2 (fun b t hb h => by have := HB0.out; have := k7.choose_spec.1.low.1; have := h.1; omega) (fun h => absurd h.2 (by decide))
        · exact ((HB0.out.2.1.mono fun _ _ _ h => h.elim).trans HW.out.2.2).trans_le (k6.trans (k2.mono fun b t _ h => .inr (by rw [h.1]; exact Nat.le_refl _))) fun b t hb h => h.resolve_right (by have := HB0.out.2.2; omega)
      | ok a1 =>
        rw [show badI (.ok a1) = -1 from rfl] at c2
        have hx7 := HXB.out a1 rfl
        have hl0 : (0 : Int) ≤ (l.length : Int) := by omega
        go_wp2_with fail
        have hA2 := chg_alloc wo (.cells #[.bool false, .int .i64 0, .int .i64 0, .int .i64 0] 79)
        have hN := Blk.new wo 79 #[.bool false, .int .i64 0, .int .i64 0, .int .i64 0]
        have hS := HR.out.2.2.2.2.2.2.2.2.1.keep hA2 (fun _ _ _ => id) id
        generalize wo.alloc (.cells #[.bool false, .int .i64 0, .int .i64 0, .int .i64 0] 79) = V0 at hA2 hN hS ⊢
        have hsz : wb.heap.size ≤ wo.heap.size := Nat.le_trans HW.out.2.2.size HR.out.2.2.2.2.2.2.2.2.2.size
        obtain ⟨b2, hb2⟩ : ∃ b2, wo.heap.size = b2 := ⟨_, rfl⟩
        rw [hb2] at hN hsz
        simp only [hb2]
        have HQ := Lib.hid (show R.p < b2 ∧ wo.heap.size ≤ b2 by have := HP.out.2; have := HB0.out.2.2; omega)
        have hne : b1 < b2 := by have := HB0.out.2.2; have := HR.out.2.1.lt; omega
        have HC := Lib.hid (And.intro hS (And.intro hN (hA2.mono (M' := MI R) fun _ _ _ h => h.elim)))
        clear hA2 hN hS hb2 c2
        refine (inupto_any R B bs 1 V0 _ HC.out.1 hn).mono fun e v5 hh => ?_
        obtain ⟨x5, rfl, hxi, hxv, hE1, hc1⟩ := hh
        rw [← flag_end] at hE1
        have HX5 := Lib.hid (flag_value fun v a' h => (hxv v a' h).1)
        obtain ⟨hb1, hst⟩ := box_step (j := 0) HC.out hE1 hc1 HQ.out (.bool ((x5 : Int) == 1)) (cells' := #[(.bool ((x5 : Int) == 1)), .int .i64 0, .int .i64 0, .int .i64 0]) rfl
        obtain ⟨f0, f1, f2, f3⟩ := hb1.cells4
        have fz := hb1.frozen 0
        have HC := Lib.hid hst
        clear hxi hxv hE1 hc1 hb1 hst
        go_wp2_with fail
        generalize v5.setCell ⟨b2, 0, none⟩ (.bool ((x5 : Int) == 1)) = V1 at HC ⊢
        clear f0 f1 f2 f3 fz
        refine (insmall_any R B bs V1 _ HC.out.1 hn 0 (.inl rfl)).mono fun e v6 hh => ?_
        obtain ⟨x6, rfl, hxi, hxv, hE1, hc1⟩ := hh
        have HX6 := Lib.hid (And.intro hxi (fun v a' h => (hxv v a' h).1))
        obtain ⟨hb1, hst⟩ := box_step (j := 1) HC.out hE1 hc1 HQ.out (.int .i64 x6) (cells' := #[(.bool ((x5 : Int) == 1)), (.int .i64 x6), .int .i64 0, .int .i64 0]) rfl
        obtain ⟨f0, f1, f2, f3⟩ := hb1.cells4
        have fz := hb1.frozen 1
        have HC := Lib.hid hst
        clear hxi hxv hE1 hc1 hb1 hst
        go_wp2_with fail
        generalize v6.setCell ⟨b2, 1, none⟩ (.int .i64 x6) = V2 at HC ⊢
        clear f0 f1 f2 f3 fz
        refine (insmall_any R B bs V2 _ HC.out.1 hn (-1) (.inr rfl)).mono fun e v7 hh => ?_
        obtain ⟨x7, rfl, hxi, hxv, hE1, hc1⟩ := hh
        have HX7 := Lib.hid (And.intro hxi (fun v a' h => (hxv v a' h).1))
        obtain ⟨hb1, hst⟩ := box_step (j := 2) HC.out hE1 hc1 HQ.out (.int .i64 x7) (cells' := #[(.bool ((x5 : Int) == 1)), (.int .i64 x6), (.int .i64 x7), .int .i64 0]) rfl
        obtain ⟨f0, f1, f2, f3⟩ := hb1.cells4
        have fz := hb1.frozen 2
        have HC := Lib.hid hst
        clear hxi hxv hE1 hc1 hb1 hst
        go_wp2_with fail
        generalize v7.setCell ⟨b2, 2, none⟩ (.int .i64 x7) = V3 at HC ⊢
        clear f0 f1 f2 f3 fz
        refine (insmall_any R B bs V3 _ HC.out.1 hn 0 (.inl rfl)).mono fun e v8 hh => ?_
        obtain ⟨x8, rfl, hxi, hxv, hE1, hc1⟩ := hh
        have HX8 := Lib.hid (And.intro hxi (fun v a' h => (hxv v a' h).1))
        obtain ⟨hb1, hst⟩ := box_step (j := 3) HC.out hE1 hc1 HQ.out (.int .i64 x8) (cells' := #[(.bool ((x5 : Int) == 1)), (.int .i64 x6), (.int .i64 x7), (.int .i64 x8)]) rfl
        obtain ⟨f0, f1, f2, f3⟩ := hb1.cells4
        have fz := hb1.frozen 3
        have HC := Lib.hid hst
        clear hxi hxv hE1 hc1 hb1 hst
        have hst := HC.out.2.2
        have hbx := (hst.mono (M' := fun b t => MI R b t ∨ b = b2) fun b t _ h => .inl h).blk HR.out.2.1 fun h => by have := HB0.out; rcases h with h | h; (have := h.1; omega); omega
        have how8 := hst.own HR.out.2.2.2.1 fun g hg h => absurd h.2 (by decide)
        have hsz8 : b0 ≤ (v8.setCell ⟨b2, 3, none⟩ (.int .i64 x8)).heap.size := by have := hst.size; have := hbx.lt; have := HB0.out.2.2; omega
        have hE := HC.out.1
        have d4a := hbx.cell 4
        have y4a := hbx.frozen 4
        simp only [List.getElem?_toArray, List.getElem?_cons_zero, List.getElem?_cons_succ] at d4a
        have HV := Lib.hid (And.intro hbx (And.intro hst (And.intro how8 hE)))
        clear hst hbx hE
        have d4 : v8.cell? ⟨b1, 4, none⟩ = some (.slice A l.length c) := (World.cell?_setCell_far v8 ⟨b2, 3, none⟩ ⟨b1, 4, none⟩ (.int .i64 x8) (by show b2 ≠ b1; omega)).symm.trans d4a
        have y4 : v8.frozen? ⟨b1, 4, none⟩ = false := by have := y4a; simpa using this
        clear d4a y4a
        go_wp2_with (at_builtin;  go_must (refine wpList_append_new rfl (.tmp 49) (.tmp 51) 53 rfl b0 79 i79 _ 4 32 Try.underlying53 hi79 hz79 hs79 hb79 rfl (by omega) A l.length c xss.flatten rfl how8 1 1 [.bool ((x5 : Int) == 1), .int .i64 x6, .int .i64 x7, .int .i64 x8] rfl (by first | rfl | simp) rfl (by intro u hu; simp at hu; rcases hu with rfl | rfl | rfl | rfl <;> rfl) (by simp only [maxLen]; omega) (by omega) hsz8 ?_))
        intro A6 c6 w9 hap
        have hp := own_push (T := 55) (e := 79) (base := b0) (j := 4) (R := CaseR) (by decide) HV.out.1 HV.out.2.2.1 HR.out.2.2.2.2.1 HR.out.2.2.2.2.2.1 HR.out.2.2.2.2.2.2.1 (fun _ _ _ _ _ h => h) (Chg.refl _ _) (x := ⟨(x5 : Int) == 1, x6, x7, x8⟩) ⟨rfl, HX6.out.1, HX7.out.1, HX8.out.1⟩ rfl hap (.slice A6 (l.length + 1) c6)
        have g4 := hp.2.2.2.cell 4
        have gz := hp.2.2.2.frozen 4
        simp only [List.getElem?_toArray, List.getElem?_cons_zero, List.getElem?_cons_succ] at g4
        have HPU := Lib.hid hp
        clear hap hp how8 hsz8 d4 y4
        go_wp2_with fail
        go_roundw
        case rel =>
          obtain ⟨p1, p2, p3, p4⟩ := HPU.out
          obtain ⟨g1, g2, g3, g4, g5, g6, g7, g8, g9, g10⟩ := HR.out
          obtain ⟨k1, k2, k3, k4⟩ := HV.out
          obtain ⟨e1, e2⟩ := case_run HX5.out HX6.out.2 HX7.out.2 HX8.out.2
          have hq := HB0.out.2.2
          have hp2 := HP.out
          rw [show x.toNat - l.length = (x.toNat - (l.length + 1)) + 1 by omega] at g8
          have hst := g8.step e2
          rw [e1] at hst
          have hbo := p3.blk (k2.blk g3 fun h => by have := h.1; omega) (by rintro (h | h); exact absurd h.1 (by omega); exact absurd h.2 (by decide))
          refine ⟨A6, c6, l ++ [⟨(x5 : Int) == 1, x6, x7, x8⟩], _, by simp, by simp; omega, by simpa using p1, hbo, p2, by simpa using hst, k4.keep p3 (fun b t hb h => by have := k4.choose_spec.1.low.1; rcases h with h | h <;> (have := h.1; omega)) (fun h => by rcases h with h | h <;> (have := h.1; omega)), fun _ _ => HXB.out a1 rfl, ?_⟩
          exact (g10.trans (k2.mono fun b t _ h => .inl h)).trans (p3.mono fun b t _ h => .inr (by rcases h with h | h <;> (have := h.1; omega)))
        case measure => simp [intOf]; omega
    · have q1 : decide ((l.length : Int) < x) = false := decide_eq_false hk
      clear c2
      obtain ⟨g1, g2, g3, g4, g5, g6, g7, g8, g9, g10⟩ := HR.out
      obtain ⟨d1, d2⟩ := g8.done (.inl (by omega))
      obtain ⟨e1, e2⟩ := instr_run HX0.out.2 HX1.out.2 HX2.out.2 HX3.out.2 d1
      obtain ⟨f0, f1, f2, f3, f4⟩ := g2.cells5
      obtain ⟨t0, t1, t2, t3, t4⟩ := g3.cells5
      have z0 := g3.frozen 0
      have z1 := g3.frozen 1
      have z2 := g3.frozen 2
      have z3 := g3.frozen 3
      have z4 := g3.frozen 4
      have hbR := set5T_blk g3 (.int .i64 x0) (.int .i64 x1) (.int .i64 x2) (.int .u64 (x3 : Int)) (.slice A l.length c)
      have hcR := chg_set5 g3 (.int .i64 x0) (.int .i64 x1) (.int .i64 x2) (.int .u64 (x3 : Int)) (.slice A l.length c)
      have HF := Lib.hid (And.intro hbR (And.intro hcR (And.intro e1 (And.intro e2 (And.intro d2 (And.intro g10 (And.intro g9 (show RowR b0 79 4 CaseR wo A c l from ⟨xss, g4, g5, g6, g7⟩))))))))
      clear g1 g2 g3 g4 g5 g6 g7 g8 g9 g10 d1 d2 e1 e2 hbR hcR
      go_wp2_with fail
      refine bodyPost_ret (instr_results rfl HF.out.1) rfl ?_
      obtain ⟨k1, k2, k3, k4, k5, k6, k7, k8⟩ := HF.out
      refine ⟨_, ⟨x0, x1, x2, x3, l⟩, rfl, ⟨A, c, rfl, HX0.out.1, HX1.out.1, HX2.out.1, HX3.out.1, (RowR.keep k8 k2 (fun b hb h => absurd h.2 (by decide)) fun _ _ h => h).rebase HB0.out.2.2.1⟩, k4, ?_, ?_⟩
      · rw [k3, k5]
        exact k7.keep k2 (fun b t hb h => by have := HB0.out; have := k7.choose_spec.1.low.1; have := h.1; omega) (fun h => absurd h.2 (by decide))
      · exact ((HB0.out.2.1.mono fun _ _ _ h => h.elim).trans HW.out.2.2).trans_le (k6.trans (k2.mono fun b t _ h => .inr (by rw [h.1]; exact Nat.le_refl _))) fun b t hb h => h.resolve_right (by have := HB0.out.2.2; omega)
end Go.Proofs.Ytfmhedpjkpaohaa
