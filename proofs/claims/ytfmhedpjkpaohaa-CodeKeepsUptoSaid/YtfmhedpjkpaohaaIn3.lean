/-
  Reading in the reference: how often (plain law), a list of numbers (In.ints).
-/
import Derived.Test.YtfmhedpjkpaohaaIn2
namespace Go.Proofs.Ytfmhedpjkpaohaa
open Go.RowKit
set_option linter.unusedVariables false
set_option linter.unusedSimpArgs false

/-- What is still to be read of a list: m more from state s on, behind l. -/
def RepT {α : Type} (p : Pr α) (W : Except Nat (List α × Nat)) (l : List α) (m : Nat) (s : Except Nat Nat) : Prop :=
  endS W = endS (runS (repP p m) s) ∧ ∀ l' a', W = .ok (l', a') → ∃ r, l' = l ++ r ∧ runS (repP p m) s = .ok (r, a')
theorem RepT.start {α : Type} {bs : List Nat} {p : Pr α} {st : Except Nat Nat} {x : Int} (hx : ∀ v a', runS (smallP bs 0) st = .ok (v, a') → x = v) : RepT p (runS (listP bs p) st) [] x.toNat (endS (runS (smallP bs 0) st)) := by
  rw [list_run hx]
  exact ⟨rfl, fun l' a' h => ⟨l', rfl, h⟩⟩
theorem RepT.step {α : Type} {p : Pr α} {W : Except Nat (List α × Nat)} {l : List α} {m : Nat} {s : Except Nat Nat} {x : α} (h : RepT p W l (m + 1) s) (hx : ∀ a a', runS p s = .ok (a, a') → x = a) : RepT p W (l ++ [x]) m (endS (runS p s)) := by
  obtain ⟨h1, h2⟩ := h
  obtain ⟨r1, r2⟩ := rep_step (n := m) hx
  refine ⟨h1.trans r1, fun l' a' hl => ?_⟩
  obtain ⟨r, h7, h8⟩ := h2 l' a' hl
  obtain ⟨r', h9, h10⟩ := r2 r a' h8
  exact ⟨r', by rw [h7, h9]; simp, h10⟩
theorem RepT.done {α : Type} {p : Pr α} {W : Except Nat (List α × Nat)} {l : List α} {m : Nat} {s : Except Nat Nat} (h : RepT p W l m s) (hm : m = 0 ∨ ∃ f, s = .error f) : (∀ l' a', W = .ok (l', a') → l = l') ∧ endS W = s := by
  obtain ⟨h1, h2⟩ := h
  rcases hm with rfl | ⟨f, rfl⟩
  · obtain ⟨r1, r2⟩ := rep_zero (p := p) s
    refine ⟨fun l' a' hl => ?_, h1.trans r1⟩
    obtain ⟨r, h7, h8⟩ := h2 l' a' hl
    rw [h7, r2 r a' h8, List.append_nil]
  · refine ⟨fun l' a' hl => ?_, h1⟩
    obtain ⟨r, h7, h8⟩ := h2 l' a' hl
    cases h8
theorem InAt.fault {R : InB} {B : Nat} {bs : List Nat} {w : World} {a : Nat} {bad : Int} (h : InAt R B bs w a bad) : w.cell? ⟨R.p, 2, none⟩ = some (.int .i64 bad) := by
  have := h.blk.cell 2
  simpa using this
/-- The numbers read so far. -/
def inIntsRel (R : InB) (B D : Nat) (bs : List Nat) (st : Except Nat Nat) (w : World) (x : Int) (v i : Value) (wr : World) : Prop :=
  ∃ (A : Option Addr) (c : Nat) (l : List Int) (s : Except Nat Nat), v = .slice A l.length c ∧ i = .int .i64 (l.length : Int) ∧ (l.length : Int) ≤ 2147483647 ∧ RowR D 3 1 intP wr A c l ∧ RepT (smallP bs 0) (runS (listP bs (smallP bs 0)) st) l (x.toNat - l.length) s ∧ InS R B bs wr s ∧ (∀ a, s = .ok a → x ≤ 2147483647) ∧ Chg (MI R) w wr
def InInts (R : InB) (B D : Nat) (bs : List Nat) (st : Except Nat Nat) (w : World) (e : Ending) (w' : World) : Prop :=
  ∃ A c l, e = .returned (.slice A l.length c) ∧ RowR D 3 1 intP w' A c l ∧ (∀ l' a', runS (listP bs (smallP bs 0)) st = .ok (l', a') → l = l') ∧ InS R B bs w' (endS (runS (listP bs (smallP bs 0)) st)) ∧ Chg (MI R) w w'
set_option maxRecDepth 100000 in
set_option maxHeartbeats 4000000 in
theorem inints_any (R : InB) (B D : Nat) (bs : List Nat) (w : World) (st : Except Nat Nat) (h : InS R B bs w st) (hn : bs.length ≤ 1048576) (hD : D ≤ w.heap.size) (hp : R.p < D) :
    Calls Try.prog 57 #[ptr R.p] w (InInts R B D bs st w) := by
  obtain ⟨i3, hi3, hz3, hs3, hb3⟩ := info_parts infoInt
  have HE := Lib.hid (And.intro h (And.intro hD hp))
  clear h hD hp
  go_enter Try.func57, Try.ntmps57
  go_wp2_with fail
  refine (insmall_any R B bs w st HE.out.1 hn 0 (.inl rfl)).mono fun e w1 hh => ?_
  obtain ⟨x, rfl, hxi, hxv, hE1, hc1⟩ := hh
  have H1 := Lib.hid (And.intro (RepT.start (p := smallP bs 0) fun v a' h => (hxv v a' h).1) (And.intro hE1 (And.intro hc1 (fun a (h : endS (runS (smallP bs 0) st) = .ok a) => (show x ≤ 2147483647 from by
    cases hr : runS (smallP bs 0) st with
    | error f => rw [hr] at h; cases h
    | ok q => exact (hxv q.1 q.2 hr).2.2)))))
  have HI := Lib.hid hxi
  clear hxv hE1 hc1 hxi
  go_wp2_with fail
  go_loopw [3, 5] (fun v i wr => inIntsRel R B w.heap.size bs st w x v i wr) (fun _ i _ => (x - intOf i).toNat)
  case atStart => exact ⟨none, 0, [], _, rfl, rfl, by decide, RowR.nil _ _ _ _ _, H1.out.1, H1.out.2.1, H1.out.2.2.2, H1.out.2.2.1⟩
  case round =>
    obtain ⟨A, c, l, s, rfl, rfl, hl, ⟨xss, how, h2, h3, h4⟩, hrep, hS, hxb, hch⟩ := hrel
    obtain ⟨wo, rfl⟩ : ∃ wo : World, wo = wr := ⟨_, rfl⟩
    have HR := Lib.hid (And.intro how (And.intro h2 (And.intro h3 (And.intro h4 (And.intro hrep (And.intro hS (And.intro hxb hch)))))))
    obtain ⟨a, hb, _⟩ := hS
    have c2 := hb.fault
    clear how h2 h3 h4 hrep hxb hch hb
    by_cases hk : (l.length : Int) < x
    · have q1 : decide ((l.length : Int) < x) = true := decide_eq_true hk
      cases s with
      | error f =>
        rw [show badI (.error f) = (f : Int) from rfl] at c2
        have q2 : decide ((f : Int) < 0) = false := decide_eq_false (by omega)
        have q2' : decide ((f : Int) ≥ 0) = true := decide_eq_true (by omega)
        clear hk
        go_wp2_with fail
        go_ret
        obtain ⟨h1, h2, h3, h4, h5, h6, h7, h8⟩ := HR.out
        obtain ⟨d1, d2⟩ := h5.done (.inr ⟨f, rfl⟩)
        exact ⟨A, c, l, rfl, RowR.rebase ⟨xss, h1, h2, h3, h4⟩ HE.out.2.1, d1, by rw [d2]; exact h6, h8⟩
      | ok a1 =>
        rw [show badI (.ok a1) = -1 from rfl] at c2
        have hx7 := HR.out.2.2.2.2.2.2.1 a1 rfl
        have hl0 : (0 : Int) ≤ (l.length : Int) := by omega
        go_wp2_with fail
        refine (insmall_any R B bs wo _ HR.out.2.2.2.2.2.1 hn 0 (.inl rfl)).mono fun e w2 hh => ?_
        obtain ⟨y, rfl, hyi, hyv, hE2, hc2⟩ := hh
        have hDi : ∀ b, w.heap.size ≤ b → ¬ MI R b 3 := fun b hb h => by have := h.1; have := HE.out.2; omega
        have how2 := hc2.own HR.out.1 fun g hg => hDi g ((own_blk HR.out.1 hg).1)
        have hsz2 : w.heap.size ≤ w2.heap.size := (Nat.le_trans HR.out.2.2.2.2.2.2.2.size hc2.size)
        have H2 := Lib.hid (And.intro hyi (And.intro hyv (And.intro hE2 hc2)))
        clear hyi hyv hE2 hc2
        go_wp2_with (at_builtin; go_must (refine wpList_append_new rfl (.tmp 23) (.tmp 25) 36 rfl w.heap.size 3 i3 (.int .i64 0) 1 8 Try.underlying36 hi3 hz3 hs3 hb3 rfl (by omega) A l.length c xss.flatten rfl how2 1 1 [.int .i64 y] rfl (by first | rfl | simp) rfl (by intro u hu; simp at hu; subst hu; rfl) (by simp only [maxLen]; omega) (by omega) hsz2 ?_))
        intro A6 c6 w3 hap
        have HAP := Lib.hid hap
        clear hap
        go_wp2_with fail
        go_roundw
        case rel =>
          obtain ⟨h1, h2, h3, h4, h5, h6, h7, h8⟩ := HR.out
          obtain ⟨k1, k2, k3, k4⟩ := H2.out
          have hcg := HAP.out.chg how2
          have hm : x.toNat - l.length = (x.toNat - (l.length + 1)) + 1 := by omega
          rw [hm] at h5
          have hst := h5.step fun a a' h => (k2 a a' h).1
          have hE3 : InS R B bs w3 (endS (runS (smallP bs 0) (.ok a1))) := k3.keep hcg (fun b t hb h => by have := k3.choose_spec.1.low.1; have := HE.out.2; have := h.1; omega) (fun h => by have := HE.out.2; have := h.1; omega)
          refine ⟨A6, c6, l ++ [y], _, by simp, by simp, by simp; omega, RowR.snoc (w := wo) h2 h3 h4 (fun _ _ h => h) HAP.out.own rfl ⟨rfl, k1⟩, by simpa using hst, hE3, fun _ _ => h7 a1 rfl, ?_⟩
          exact (h8.trans k4).trans_le hcg fun b t hb h => by have := h.1; omega
        case measure => simp [intOf]; omega
    · have q1 : decide ((l.length : Int) < x) = false := decide_eq_false hk
      clear c2
      go_wp2_with fail
      go_ret
      obtain ⟨h1, h2, h3, h4, h5, h6, h7, h8⟩ := HR.out
      obtain ⟨d1, d2⟩ := h5.done (.inl (by omega))
      exact ⟨A, c, l, rfl, RowR.rebase ⟨xss, h1, h2, h3, h4⟩ HE.out.2.1, d1, by rw [d2]; exact h6, h8⟩
end Go.Proofs.Ytfmhedpjkpaohaa
