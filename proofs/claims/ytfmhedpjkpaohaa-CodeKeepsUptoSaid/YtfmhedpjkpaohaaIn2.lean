/-
  Reading in the reference: a number up to so much (In.upto), a number from least on (In.small).
-/
import Derived.Test.YtfmhedpjkpaohaaIn1
namespace Go.Proofs.Ytfmhedpjkpaohaa
open Go.RowKit
set_option linter.unusedVariables false
set_option linter.unusedSimpArgs false

def InUpto (R : InB) (B : Nat) (bs : List Nat) (most : Nat) (st : Except Nat Nat) (w : World) (e : Ending) (w' : World) : Prop :=
  ∃ n : Nat, e = .returned (.int .u64 (n : Int)) ∧ U64 n ∧ (∀ v a', runS (uptoP bs most) st = .ok (v, a') → n = v ∧ ¬ most < n) ∧ InS R B bs w' (endS (runS (uptoP bs most) st)) ∧ Chg (MI R) w w'
set_option maxRecDepth 100000 in
set_option maxHeartbeats 4000000 in
theorem inupto_any (R : InB) (B : Nat) (bs : List Nat) (most : Nat) (w : World) (st : Except Nat Nat) (h : InS R B bs w st) (hn : bs.length ≤ 1048576) :
    Calls Try.prog 64 #[ptr R.p, .int .u64 (most : Int)] w (InUpto R B bs most st w) := by
  have HE := Lib.hid h
  obtain ⟨a, hb, ha, h1, h2⟩ := h
  obtain ⟨c0, c1, c2⟩ := hb.blk.cells3
  have HA := Lib.hid (And.intro ha h1)
  clear hb ha h1 h2
  go_enter Try.func64, Try.ntmps64
  go_wp2_with fail
  refine (innum_any R B bs w st HE.out hn).mono fun e w1 hh => ?_
  obtain ⟨n, rfl, hnu, hnv, hE1, hc1⟩ := hh
  obtain ⟨hu1, hu2⟩ := upto_state (most := most) hnv HA.out.2
  have H1 := Lib.hid (And.intro hE1 (And.intro hc1 (And.intro hu1 (And.intro hu2 hnu))))
  obtain ⟨a1, hb1, ha1, h11, h12⟩ := hE1
  obtain ⟨d0, d1, d2⟩ := hb1.blk.cells3
  have z2 := hb1.blk.frozen 2
  have HB1 := Lib.hid (And.intro hb1 (And.intro ha1 h11))
  clear c0 c1 c2 hnv hc1 hu1 hu2 hnu hb1 ha1 h11 h12
  by_cases hgt : most < n
  · have hgt' : decide ((most : Int) < (n : Int)) = true := decide_eq_true (by omega)
    have hgt'' : decide (most < n) = true := decide_eq_true (by omega)
    generalize endS (runS (numP bs) st) = s1 at H1 HB1 d2
    cases s1 with
    | error f =>
      rw [show badI (.error f) = (f : Int) from rfl] at d2
      have hf : decide ((f : Int) < 0) = false := decide_eq_false (by omega)
      have HG := Lib.hid hgt
      clear hgt
      go_wp2_with fail
      go_ret
      obtain ⟨k1, k2, k3, k4, k5⟩ := H1.out
      rw [if_pos HG.out] at k3
      exact ⟨n, rfl, k5, k4, by rw [k3]; exact k1, k2⟩
    | ok a' =>
      rw [show badI (.ok a') = -1 from rfl] at d2
      have HG := Lib.hid hgt
      clear hgt
      go_wp2_with fail
      go_ret
      obtain ⟨k1, k2, k3, k4, k5⟩ := H1.out
      rw [if_pos HG.out] at k3
      obtain ⟨h3, h4⟩ := HB1.out.1.setBad (a : Int)
      exact ⟨n, rfl, k5, k4, by rw [k3]; exact ⟨a1, h3, HB1.out.2.1, (fun a' h => by cases h), fun f h => by injection h with h; have := HA.out.1; omega⟩, k2.trans h4⟩
  · have hgt' : decide ((most : Int) < (n : Int)) = false := decide_eq_false (by omega)
    have hgt'' : decide (most < n) = false := decide_eq_false (by omega)
    have HG := Lib.hid hgt
    clear hgt
    go_wp2_with fail
    go_ret
    obtain ⟨k1, k2, k3, k4, k5⟩ := H1.out
    rw [if_neg HG.out] at k3
    exact ⟨n, rfl, k5, k4, by rw [k3]; exact k1, k2⟩
def InSmall (R : InB) (B : Nat) (bs : List Nat) (least : Int) (st : Except Nat Nat) (w : World) (e : Ending) (w' : World) : Prop :=
  ∃ x : Int, e = .returned (.int .i64 x) ∧ I64 x ∧ (∀ v a', runS (smallP bs least) st = .ok (v, a') → x = v ∧ least ≤ x ∧ x ≤ 2147483647) ∧ InS R B bs w' (endS (runS (smallP bs least) st)) ∧ Chg (MI R) w w'
theorem w64_in {x : Int} (h : -9223372036854775808 ≤ x ∧ x ≤ 9223372036854775807) : wrap64 x = x := by
  unfold wrap64; omega
theorem i64_wrap (x : Int) : I64 (wrap64 x) := by
  unfold I64 wrap64; omega
theorem small_end {bs : List Nat} {least : Int} {st : Except Nat Nat} : endS (runS (smallP bs least) st) = endS (runS (uptoP bs (2147483647 - least).toNat) st) := by
  rw [small_run]
  cases runS (uptoP bs (2147483647 - least).toNat) st with
  | error e => rfl
  | ok q => rfl
set_option maxRecDepth 100000 in
set_option maxHeartbeats 4000000 in
theorem insmall_any (R : InB) (B : Nat) (bs : List Nat) (w : World) (st : Except Nat Nat) (h : InS R B bs w st) (hn : bs.length ≤ 1048576) (least : Int) (hl : least = 0 ∨ least = -1) :
    Calls Try.prog 56 #[ptr R.p, .int .i64 least] w (InSmall R B bs least st w) := by
  have HE := Lib.hid h
  clear h
  rcases hl with rfl | rfl
  · go_enter Try.func56, Try.ntmps56
    go_wp2_with fail
    refine (inupto_any R B bs 2147483647 w st HE.out hn).mono fun e w1 hh => ?_
    obtain ⟨n, rfl, hnu, hnv, hE1, hc1⟩ := hh
    have H1 := Lib.hid (And.intro hnv (And.intro hE1 hc1))
    clear hnv hE1 hc1
    go_wp2_with fail
    go_ret
    refine ⟨_, rfl, i64_wrap _, fun v a' h => ?_, by rw [small_end]; exact H1.out.2.1, H1.out.2.2⟩
    rw [small_run, show (2147483647 - (0 : Int)).toNat = 2147483647 from by decide] at h
    cases hu : runS (uptoP bs 2147483647) st with
    | error f => rw [hu] at h; cases h
    | ok q =>
      obtain ⟨v0, a0⟩ := q
      rw [hu] at h
      obtain ⟨rfl, hle⟩ := H1.out.1 v0 a0 hu
      injection h with h
      injection h with h3 h4
      rw [w64_in (x := (n : Int)) (by omega), w64_in (by omega)]
      omega
  · go_enter Try.func56, Try.ntmps56
    go_wp2_with fail
    refine (inupto_any R B bs 2147483648 w st HE.out hn).mono fun e w1 hh => ?_
    obtain ⟨n, rfl, hnu, hnv, hE1, hc1⟩ := hh
    have H1 := Lib.hid (And.intro hnv (And.intro hE1 hc1))
    clear hnv hE1 hc1
    go_wp2_with fail
    go_ret
    refine ⟨_, rfl, i64_wrap _, fun v a' h => ?_, by rw [small_end]; exact H1.out.2.1, H1.out.2.2⟩
    rw [small_run, show (2147483647 - ((-1) : Int)).toNat = 2147483648 from by decide] at h
    cases hu : runS (uptoP bs 2147483648) st with
    | error f => rw [hu] at h; cases h
    | ok q =>
      obtain ⟨v0, a0⟩ := q
      rw [hu] at h
      obtain ⟨rfl, hle⟩ := H1.out.1 v0 a0 hu
      injection h with h
      injection h with h3 h4
      rw [w64_in (x := (n : Int)) (by omega), w64_in (by omega)]
      omega
end Go.Proofs.Ytfmhedpjkpaohaa
