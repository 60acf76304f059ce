/-
  Reading in the program: as often as a number tells (Decode$4), over any closure.
-/
import Derived.Test.YtdegfnejhamejaaRead3Zt
namespace Go.Proofs.Ytdegfnejhamejaa
open Go.RowKit
set_option linter.unusedVariables false
set_option linter.unusedSimpArgs false

theorem list_run {α : Type} {bs : List Nat} {p : Pr α} {st : Except Nat Nat} {x : Int} (hx : ∀ v a', runS (smallP bs 0) st = .ok (v, a') → x = v) : runS (listP bs p) st = runS (repP p x.toNat) (endS (runS (smallP bs 0) st)) := by
  unfold listP
  rw [runS_bind]
  cases h : runS (smallP bs 0) st with
  | error e => rfl
  | ok q =>
    obtain ⟨v, a'⟩ := q
    rw [hx v a' h]
    rfl
theorem rep_zero {α : Type} {p : Pr α} (st : Except Nat Nat) : endS (runS (repP p 0) st) = st ∧ ∀ l a', runS (repP p 0) st = .ok (l, a') → l = [] := by
  cases st with
  | error e => exact ⟨rfl, fun l a' h => by cases h⟩
  | ok a => exact ⟨rfl, fun l a' h => by injection h with h; injection h with h1; exact h1.symm⟩
theorem repP_succ {α : Type} (p : Pr α) (n : Nat) : repP p (n + 1) = p.bind_ fun a => (repP p n).bind_ fun l => Pr.pure_ (a :: l) := rfl
/-- One more element. -/
theorem rep_step {α : Type} {p : Pr α} {n : Nat} {st : Except Nat Nat} {x : α} (hx : ∀ a a', runS p st = .ok (a, a') → x = a) :
    endS (runS (repP p (n + 1)) st) = endS (runS (repP p n) (endS (runS p st))) ∧ ∀ l a', runS (repP p (n + 1)) st = .ok (l, a') → ∃ r, l = x :: r ∧ runS (repP p n) (endS (runS p st)) = .ok (r, a') := by
  rw [repP_succ, runS_bind]
  cases h : runS p st with
  | error e => exact ⟨rfl, fun l a' h => by cases h⟩
  | ok q =>
    obtain ⟨v, a1⟩ := q
    obtain rfl := hx v a1 h
    simp only [endS, Pr.bind_, runS]
    cases h2 : repP p n a1 with
    | error e => exact ⟨rfl, fun l a' h => by cases h⟩
    | ok q2 =>
      obtain ⟨r, a2⟩ := q2
      refine ⟨rfl, fun l a' h => ?_⟩
      simp only [Pr.pure_] at h
      injection h with h; injection h with h3 h4
      exact ⟨r, h3.symm, by rw [h4]⟩
/-- What a closure does that reads one more element. -/
def OneRes {α : Type} (E : EnvB) (B : Nat) (bs : List Nat) (M : Nat → Nat → Prop) (J : List α → World → Prop) (p : Pr α) (l : List α) (st : Except Nat Nat) (w : World) (e : Ending) (w' : World) : Prop :=
  e = .returned (.tuple #[]) ∧ ∃ x : α, J (l ++ [x]) w' ∧ (∀ a a', runS p st = .ok (a, a') → x = a) ∧ Env E B bs w' (endS (runS p st)) ∧ Chg M w w'
def EachRes {α : Type} (E : EnvB) (B : Nat) (bs : List Nat) (M : Nat → Nat → Prop) (J : List α → World → Prop) (p : Pr α) (st : Except Nat Nat) (w : World) (e : Ending) (w' : World) : Prop :=
  e = .returned (.tuple #[]) ∧ ∃ l : List α, J l w' ∧ (∀ l' a', runS (listP bs p) st = .ok (l', a') → l = l') ∧ Env E B bs w' (endS (runS (listP bs p) st)) ∧ Chg M w w'
def eachRel {α : Type} (E : EnvB) (B : Nat) (bs : List Nat) (M : Nat → Nat → Prop) (J : List α → World → Prop) (p : Pr α) (n0 : Nat) (st0 : Except Nat Nat) (w : World) (v : Value) (wr : World) : Prop :=
  ∃ (z : Int) (n : Nat) (l : List α) (st1 : Except Nat Nat), v = .int .i64 z ∧ z.toNat = n ∧ n + l.length = n0 ∧ J l wr ∧ Env E B bs wr st1 ∧ Chg M w wr ∧ endS (runS (repP p n0) st0) = endS (runS (repP p n) st1) ∧ ∀ l' a', runS (repP p n0) st0 = .ok (l', a') → ∃ r, l' = l ++ r ∧ runS (repP p n) st1 = .ok (r, a')
set_option maxRecDepth 100000 in
set_option maxHeartbeats 4000000 in
theorem each_any {α : Type} (E : EnvB) (B : Nat) (bs : List Nat) (w : World) (st : Except Nat Nat) (h : Env E B bs w st) (hn : bs.length ≤ 1048576) (fid : Nat) (caps : Array Value) (hcf : EntersC fid) (M : Nat → Nat → Prop) (hM : ∀ b t, ME E b t → M b t) (J : List α → World → Prop) (p : Pr α) (hJ : J [] w)
    (hJk : ∀ w', Chg (ME E) w w' → J [] w')
    (hstep : ∀ (l : List α) (w1 : World) (st1 : Except Nat Nat), Env E B bs w1 st1 → J l w1 → l.length ≤ 2147483647 → Chg M w w1 → Calls Try.prog fid caps w1 (OneRes E B bs M J p l st1 w1)) :
    Calls Try.prog 40 #[.func (.func fid) #[] caps, ptr E.bm, ptr E.bb] w (EachRes E B bs M J p st w) := by
  have HE := Lib.hid (And.intro h (And.intro hJk hM))
  have HS := Lib.hid hstep
  obtain ⟨a, hb, ha, h1, h2⟩ := h
  have c3 := hb.small.cell 0
  clear hb ha h1 h2 hJ hJk hM hstep
  simp only [List.getElem?_toArray, List.getElem?_cons_zero] at c3
  have e3 : ∀ (xs : Array Value) (w' : World), (callFunc 39 xs).run Try.prog w' = .ok (.enter 39 xs) w' := enters3
  have ef : ∀ (xs : Array Value) (w' : World), (callFunc fid xs).run Try.prog w' = .ok (.enter fid xs) w' := hcf
  go_enter Try.func40, Try.ntmps40
  go_wp2_with fail
  refine (small_any E B bs w st HE.out.1 hn 0 (.inl rfl)).mono fun e w1 hh => ?_
  obtain ⟨x, rfl, hx0, hx1, hxv, hE1, hc1⟩ := hh
  have H1 := Lib.hid (And.intro (HE.out.2.1 w1 hc1) (And.intro hE1 (And.intro (hc1.mono fun b t _ h => HE.out.2.2 b t h) (list_run (p := p) hxv))))
  clear hxv hE1 hc1 c3
  go_wp2_with fail
  obtain ⟨n0, hn0⟩ : ∃ n0 : Nat, x.toNat = n0 := ⟨_, rfl⟩
  rw [hn0] at H1
  have hnb : n0 ≤ 2147483647 := by omega
  have HX := Lib.hid (And.intro hn0 hx1)
  clear hn0 hx0 hx1
  go_loopw [4] (fun v wr => eachRel E B bs M J p n0 (endS (runS (smallP bs 0) st)) w v wr) (fun v _ => (intOf v).toNat)
  case atStart => exact ⟨x, n0, [], _, rfl, HX.out.1, by simp, H1.out.1, H1.out.2.1, H1.out.2.2.1, rfl, fun l' a' h => ⟨l', rfl, h⟩⟩
  case round =>
    obtain ⟨z, n, l, st1, rfl, hz, hnl, hJ, hE, hch, he1, he2⟩ := hrel
    obtain ⟨wo, rfl⟩ : ∃ wo : World, wo = wr := ⟨_, rfl⟩
    have HR := Lib.hid (And.intro hJ (And.intro hE (And.intro hch (And.intro he1 (And.intro he2 H1.out.2.2.2)))))
    obtain ⟨a, hb, _⟩ := hE
    have c0 := hb.bad.cell 0
    simp only [List.getElem?_toArray, List.getElem?_cons_zero] at c0
    clear hJ hch he1 he2 hb
    cases n with
    | zero =>
      have q1 : decide (0 < z) = false := decide_eq_false (by omega)
      have hr := rep_zero (p := p) st1
      have HZ := Lib.hid hr
      clear hr
      go_wp2_with fail
      go_end0
      obtain ⟨h1, h2, h3, h4, h5, h6⟩ := HR.out
      refine ⟨rfl, l, h1, fun l' a' hl => ?_, ?_, h3⟩
      · rw [h6] at hl
        obtain ⟨r, h7, h8⟩ := h5 l' a' hl
        rw [h7, HZ.out.2 r a' h8, List.append_nil]
      · rw [h6, h4, HZ.out.1]; exact h2
    | succ n =>
      have q1 : decide (0 < z) = true := decide_eq_true (by omega)
      cases st1 with
      | error f =>
        rw [show badI (.error f) = (f : Int) from rfl] at c0
        have q2 : decide ((f : Int) < 0) = false := decide_eq_false (by omega)
        go_wp2_with fail
        go_end0
        obtain ⟨h1, h2, h3, h4, h5, h6⟩ := HR.out
        refine ⟨rfl, l, h1, fun l' a' hl => ?_, ?_, h3⟩
        · rw [h6] at hl
          obtain ⟨r, h7, h8⟩ := h5 l' a' hl
          cases h8
        · rw [h6, h4]; exact h2
      | ok a1 =>
        rw [show badI (.ok a1) = -1 from rfl] at c0
        have hz1 : z ≤ 2147483648 := by omega
        have hz0 : 1 ≤ z := by omega
        go_wp2_with fail
        refine (HS.out l wo _ HR.out.2.1 HR.out.1 (by omega) HR.out.2.2.1).mono fun e w2 hh => ?_
        obtain ⟨rfl, x1, hJ2, hx2, hE2, hc2⟩ := hh
        have H2 := Lib.hid (And.intro hJ2 (And.intro hx2 (And.intro hE2 hc2)))
        clear hJ2 hx2 hE2 hc2
        go_wp2_with fail
        go_roundw
        case rel =>
          obtain ⟨h1, h2, h3, h4, h5, h6⟩ := HR.out
          obtain ⟨k1, k2, k3, k4⟩ := H2.out
          obtain ⟨r1, r2⟩ := rep_step (n := n) k2
          refine ⟨z - 1, n, l ++ [x1], _, rfl, by omega, by simp; omega, k1, k3, h3.trans k4, by rw [h4, r1], fun l' a' hl => ?_⟩
          obtain ⟨r, h7, h8⟩ := h5 l' a' hl
          obtain ⟨r', h9, h10⟩ := r2 r a' h8
          exact ⟨r', by rw [h7, h9]; simp, h10⟩
        case measure => simp [intOf]; omega
end Go.Proofs.Ytdegfnejhamejaa
