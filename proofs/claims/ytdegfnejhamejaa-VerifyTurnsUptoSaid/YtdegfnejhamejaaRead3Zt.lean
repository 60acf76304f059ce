/-
  Reading in the program: a number from least on (Decode$3), a flag (Decode$6), as often as a number tells (Decode$4).
-/
import Derived.Test.YtdegfnejhamejaaRead2Zt
namespace Go.Proofs.Ytdegfnejhamejaa
open Go.RowKit
set_option linter.unusedVariables false
set_option linter.unusedSimpArgs false

theorem upto_state {bs : List Nat} {most n a : Nat} {st : Except Nat Nat} (hn : ∀ v a', runS (numP bs) st = .ok (v, a') → n = v) (ha : ∀ a', st = .ok a' → a' = a) :
    endS (runS (uptoP bs most) st) = (if most < n then failS (endS (runS (numP bs) st)) a else endS (runS (numP bs) st)) ∧ ∀ v a', runS (uptoP bs most) st = .ok (v, a') → n = v ∧ ¬ most < n := by
  cases st with
  | error f => exact ⟨by simp [runS, endS, failS], fun v a' h => by cases h⟩
  | ok a' =>
    obtain rfl := ha a' rfl
    show endS (uptoP bs most a') = _ ∧ _
    have hn' : ∀ v a2, numP bs a' = .ok (v, a2) → n = v := hn
    unfold runS
    simp only
    unfold uptoP
    cases hp : numP bs a' with
    | error e => exact ⟨by simp [endS, failS], fun v a2 h => by simp at h⟩
    | ok q =>
      obtain ⟨v, a2⟩ := q
      obtain rfl := hn' v a2 hp
      simp only
      by_cases h : most < n
      · simp only [if_pos h, endS, failS]
        exact ⟨trivial, fun v a' h => by cases h⟩
      · simp only [if_neg h, endS]
        exact ⟨trivial, fun v a' h' => by injection h' with h'; injection h' with h1 h2; exact ⟨h1, h⟩⟩
theorem small_run (bs : List Nat) (least : Int) (st : Except Nat Nat) : runS (smallP bs least) st = match runS (uptoP bs (2147483647 - least).toNat) st with
    | .error e => .error e
    | .ok (n, a') => .ok ((n : Int) + least, a') := by cases st <;> rfl
theorem flag_run (bs : List Nat) (st : Except Nat Nat) : runS (flagP bs) st = match runS (uptoP bs 1) st with
    | .error e => .error e
    | .ok (n, a') => .ok (decide (n = 1), a') := by cases st <;> rfl
theorem small_state {bs : List Nat} {least x : Int} {n a : Nat} {st : Except Nat Nat} (hn : ∀ v a', runS (numP bs) st = .ok (v, a') → n = v) (ha : ∀ a', st = .ok a' → a' = a)
    (hx : ¬ (2147483647 - least).toNat < n → x = (n : Int) + least) :
    endS (runS (smallP bs least) st) = (if (2147483647 - least).toNat < n then failS (endS (runS (numP bs) st)) a else endS (runS (numP bs) st)) ∧ ∀ v a', runS (smallP bs least) st = .ok (v, a') → x = v := by
  obtain ⟨h1, h2⟩ := upto_state (most := (2147483647 - least).toNat) hn ha
  rw [small_run]
  cases hu : runS (uptoP bs (2147483647 - least).toNat) st with
  | error e => rw [hu] at h1; exact ⟨h1, fun v a' h => by cases h⟩
  | ok q =>
    obtain ⟨v, a2⟩ := q
    rw [hu] at h1
    obtain ⟨h3, h4⟩ := h2 v a2 hu
    refine ⟨h1, fun v' a' h => ?_⟩
    injection h with h; injection h with h5 h6
    rw [hx h4, ← h5, h3]
theorem flag_state {bs : List Nat} {n a : Nat} {st : Except Nat Nat} (hn : ∀ v a', runS (numP bs) st = .ok (v, a') → n = v) (ha : ∀ a', st = .ok a' → a' = a) :
    endS (runS (flagP bs) st) = (if 1 < n then failS (endS (runS (numP bs) st)) a else endS (runS (numP bs) st)) ∧ ∀ v a', runS (flagP bs) st = .ok (v, a') → decide (n = 1) = v := by
  obtain ⟨h1, h2⟩ := upto_state (most := 1) hn ha
  rw [flag_run]
  cases hu : runS (uptoP bs 1) st with
  | error e => rw [hu] at h1; exact ⟨h1, fun v a' h => by cases h⟩
  | ok q =>
    obtain ⟨v, a2⟩ := q
    rw [hu] at h1
    obtain ⟨h3, h4⟩ := h2 v a2 hu
    refine ⟨h1, fun v' a' h => ?_⟩
    injection h with h; injection h with h5 h6
    rw [← h5, h3]
def SmallRes (E : EnvB) (B : Nat) (bs : List Nat) (least : Int) (st : Except Nat Nat) (w : World) (e : Ending) (w' : World) : Prop :=
  ∃ x : Int, e = .returned (.int .i64 x) ∧ -1 ≤ x ∧ x ≤ 2147483647 ∧ (∀ v a', runS (smallP bs least) st = .ok (v, a') → x = v) ∧ Env E B bs w' (endS (runS (smallP bs least) st)) ∧ Chg (ME E) w w'
set_option maxRecDepth 100000 in
set_option maxHeartbeats 4000000 in
theorem small_any (E : EnvB) (B : Nat) (bs : List Nat) (w : World) (st : Except Nat Nat) (h : Env E B bs w st) (hn : bs.length ≤ 1048576) (least : Int) (hl : least = 0 ∨ least = -1) :
    Calls Try.prog 39 #[.int .i64 least, ptr E.ba, ptr E.bn, ptr E.bf] w (SmallRes E B bs least st w) := by
  have HE := Lib.hid h
  obtain ⟨a, hb, ha, h1, h2⟩ := h
  have c1 := hb.at_.cell 0
  have c3 := hb.num.cell 0
  have HA := Lib.hid (And.intro ha h1)
  clear hb ha h1 h2
  simp only [List.getElem?_toArray, List.getElem?_cons_zero] at c1 c3
  have e2 : ∀ (xs : Array Value) (w' : World), (callFunc 38 xs).run Try.prog w' = .ok (.enter 38 xs) w' := enters2
  have e1 : ∀ (xs : Array Value) (w' : World), (callFunc 37 xs).run Try.prog w' = .ok (.enter 37 xs) w' := entersR1
  go_enter Try.func39, Try.ntmps39
  go_wp2_with fail
  refine (number_any E B bs w st HE.out hn).mono fun e w1 hh => ?_
  obtain ⟨n, rfl, hnu, hnv, hE1, hc1⟩ := hh
  have d3 := hE1.choose_spec.1.fail.cell 0
  simp only [List.getElem?_toArray, List.getElem?_cons_zero] at d3
  have H1 := Lib.hid (And.intro hnv (And.intro hE1 hc1))
  clear hnv hE1 hc1 c1 c3
  unfold U64 at hnu
  rcases hl with rfl | rfl
  · have hm : (2147483647 - (0 : Int)).toNat = 2147483647 := by decide
    by_cases hgt : 2147483647 < n
    · have hgt' : decide ((2147483647 : Int) < (n : Int)) = true := decide_eq_true (by omega)
      have HS := Lib.hid (small_state (least := 0) (x := 0) H1.out.1 HA.out.2 (fun h => by rw [hm] at h; omega))
      have HM := Lib.hid (And.intro hm hgt)
      clear hm hgt
      go_wp2_with fail
      refine (fail_any E B bs w1 _ H1.out.2.1 a HA.out.1).mono fun e w2 hh => ?_
      obtain ⟨rfl, hE2, hc2⟩ := hh
      have H2 := Lib.hid (And.intro hE2 hc2)
      clear hE2 hc2
      go_wp2_with fail
      go_ret
      have h3 := HS.out.1
      rw [HM.out.1, if_pos HM.out.2] at h3
      exact ⟨0, rfl, by omega, by omega, HS.out.2, by rw [h3]; exact H2.out.1, H1.out.2.2.trans H2.out.2⟩
    · have hgt' : decide ((2147483647 : Int) < (n : Int)) = false := decide_eq_false (by omega)
      have HS := Lib.hid (small_state (least := 0) (x := (n : Int)) H1.out.1 HA.out.2 (fun h => by omega))
      have HM := Lib.hid (And.intro hm hgt)
      have hn31 : (n : Int) ≤ 2147483647 := by omega
      clear hm hgt
      go_wp2_with fail
      go_ret
      have h3 := HS.out.1
      rw [HM.out.1, if_neg HM.out.2] at h3
      exact ⟨(n : Int), by simp, by omega, by omega, HS.out.2, by rw [h3]; exact H1.out.2.1, H1.out.2.2⟩
  · have hm : (2147483647 - (-1 : Int)).toNat = 2147483648 := by decide
    by_cases hgt : 2147483648 < n
    · have hgt' : decide ((2147483648 : Int) < (n : Int)) = true := decide_eq_true (by omega)
      have HS := Lib.hid (small_state (least := -1) (x := 0) H1.out.1 HA.out.2 (fun h => by rw [hm] at h; omega))
      have HM := Lib.hid (And.intro hm hgt)
      clear hm hgt
      go_wp2_with fail
      refine (fail_any E B bs w1 _ H1.out.2.1 a HA.out.1).mono fun e w2 hh => ?_
      obtain ⟨rfl, hE2, hc2⟩ := hh
      have H2 := Lib.hid (And.intro hE2 hc2)
      clear hE2 hc2
      go_wp2_with fail
      go_ret
      have h3 := HS.out.1
      rw [HM.out.1, if_pos HM.out.2] at h3
      exact ⟨0, rfl, by omega, by omega, HS.out.2, by rw [h3]; exact H2.out.1, H1.out.2.2.trans H2.out.2⟩
    · have hgt' : decide ((2147483648 : Int) < (n : Int)) = false := decide_eq_false (by omega)
      have HS := Lib.hid (small_state (least := -1) (x := (n : Int) + -1) H1.out.1 HA.out.2 (fun h => rfl))
      have HM := Lib.hid (And.intro hm hgt)
      have hn31 : (n : Int) ≤ 2147483648 := by omega
      clear hm hgt
      go_wp2_with fail
      go_ret
      have h3 := HS.out.1
      rw [HM.out.1, if_neg HM.out.2] at h3
      exact ⟨(n : Int) + -1, by simp; try omega, by omega, by omega, HS.out.2, by rw [h3]; exact H1.out.2.1, H1.out.2.2⟩
def FlagRes (E : EnvB) (B : Nat) (bs : List Nat) (st : Except Nat Nat) (w : World) (e : Ending) (w' : World) : Prop :=
  ∃ x : Bool, e = .returned (.bool x) ∧ (∀ v a', runS (flagP bs) st = .ok (v, a') → x = v) ∧ Env E B bs w' (endS (runS (flagP bs) st)) ∧ Chg (ME E) w w'
set_option maxRecDepth 100000 in
set_option maxHeartbeats 4000000 in
theorem dflag_any (E : EnvB) (B : Nat) (bs : List Nat) (w : World) (st : Except Nat Nat) (h : Env E B bs w st) (hn : bs.length ≤ 1048576) :
    Calls Try.prog 43 #[ptr E.ba, ptr E.bn, ptr E.bf] w (FlagRes E B bs st w) := by
  have HE := Lib.hid h
  obtain ⟨a, hb, ha, h1, h2⟩ := h
  have c1 := hb.at_.cell 0
  have c3 := hb.num.cell 0
  have HA := Lib.hid (And.intro ha h1)
  clear hb ha h1 h2
  simp only [List.getElem?_toArray, List.getElem?_cons_zero] at c1 c3
  have e2 : ∀ (xs : Array Value) (w' : World), (callFunc 38 xs).run Try.prog w' = .ok (.enter 38 xs) w' := enters2
  have e1 : ∀ (xs : Array Value) (w' : World), (callFunc 37 xs).run Try.prog w' = .ok (.enter 37 xs) w' := entersR1
  go_enter Try.func43, Try.ntmps43
  go_wp2_with fail
  refine (number_any E B bs w st HE.out hn).mono fun e w1 hh => ?_
  obtain ⟨n, rfl, hnu, hnv, hE1, hc1⟩ := hh
  have d3 := hE1.choose_spec.1.fail.cell 0
  simp only [List.getElem?_toArray, List.getElem?_cons_zero] at d3
  have HS := Lib.hid (flag_state hnv HA.out.2)
  have H1 := Lib.hid (And.intro hnv (And.intro hE1 hc1))
  clear hnv hE1 hc1 c1 c3
  unfold U64 at hnu
  have hb1 : ((n : Int) == 1) = decide (n = 1) := by
    by_cases h : n = 1
    · simp [h]
    · simp [h]; omega
  have HB1 := Lib.hid hb1
  clear hb1
  by_cases hgt : 1 < n
  · have hgt' : decide ((1 : Int) < (n : Int)) = true := decide_eq_true (by omega)
    have HM := Lib.hid hgt
    clear hgt
    go_wp2_with fail
    refine (fail_any E B bs w1 _ H1.out.2.1 a HA.out.1).mono fun e w2 hh => ?_
    obtain ⟨rfl, hE2, hc2⟩ := hh
    have H2 := Lib.hid (And.intro hE2 hc2)
    clear hE2 hc2
    go_wp2_with fail
    go_ret
    have h3 := HS.out.1
    rw [if_pos HM.out] at h3
    exact ⟨decide (n = 1), by rw [← HB1.out]; simp, HS.out.2, by rw [h3]; exact H2.out.1, H1.out.2.2.trans H2.out.2⟩
  · have hgt' : decide ((1 : Int) < (n : Int)) = false := decide_eq_false (by omega)
    have HM := Lib.hid hgt
    clear hgt
    go_wp2_with fail
    go_ret
    have h3 := HS.out.1
    rw [if_neg HM.out] at h3
    exact ⟨decide (n = 1), by rw [← HB1.out]; simp, HS.out.2, by rw [h3]; exact H1.out.2.1, H1.out.2.2⟩
end Go.Proofs.Ytdegfnejhamejaa
