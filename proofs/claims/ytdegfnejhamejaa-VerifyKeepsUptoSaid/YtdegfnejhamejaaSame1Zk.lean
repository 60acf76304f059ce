/-
  The walks that compare lists of numbers: slices.Equal and the reference's SameInts.
-/
import Derived.Test.YtdegfnejhamejaaAnsZk
import Derived.Test.YtdegfnejhamejaaSameNZk
namespace Go.Proofs.Ytdegfnejhamejaa
open Go.RowKit
set_option linter.unusedVariables false
set_option linter.unusedSimpArgs false

def BoolQ (b : Bool) (w : World) (e : Ending) (w' : World) : Prop := e = .returned (.bool b) ∧ ∃ q, w' = w.drewN q
def BoolRes (b : Bool) (w : World) (e : Ending) (w' : World) : Prop := e = .returned (.bool b) ∧ Chg (fun _ _ => False) w w'
theorem chg_drewN (w : World) (q : Nat) : Chg (fun _ _ => False) w (w.drewN q) := (Chg.refl _ w).drewN q
theorem BoolQ.res {b : Bool} {w w' : World} {e : Ending} (h : BoolQ b w e w') : BoolRes b w e w' := by
  obtain ⟨h1, q, rfl⟩ := h
  exact ⟨h1, chg_drewN w q⟩
theorem BoolQ.of {b c : Bool} {w w' : World} {e : Ending} (h : BoolQ b w e w') (hb : b = c) : BoolQ c w e w' := hb ▸ h
theorem BoolRes.of {b c : Bool} {w w' : World} {e : Ending} (h : BoolRes b w e w') (hb : b = c) : BoolRes c w e w' := hb ▸ h

def eqIntsRel (n : Nat) (w : World) (xs ys : List Int) (i : Value) (wr : World) : Prop := ∃ k : Nat, k ≤ n ∧ i = .int .i64 k ∧ sameL sameInt (xs.take k) (ys.take k) = true ∧ ∃ q, wr = w.drewN q
set_option maxRecDepth 100000 in
theorem eqInts_any (w : World) (B : Nat) (A A' : Option Addr) (n c n' c' : Nat) (xs ys : List Int) (hx : IntsR B w (.slice A n c) xs) (hy : IntsR B w (.slice A' n' c') ys) (hn : n ≤ 1099511627776) (hn' : n' ≤ 1099511627776) :
    Calls Try.prog 72 #[.slice A n c, .slice A' n' c'] w (BoolQ (sameL sameInt xs ys) w) := by
  have Lx := Lib.hid hx.len.1
  have Ly := Lib.hid hy.len.1
  by_cases hnn : n = n'
  · subst hnn
    have hne : ((n : Int) != (n : Int)) = false := by simp
    go_enter Try.func72, Try.ntmps72
    go_wp2
    go_loopw [13] (fun i wr => eqIntsRel n w xs ys i wr) (fun i _ => n - (intOf i).toNat)
    case atStart => exact ⟨0, Nat.zero_le _, rfl, rfl, 0, rfl⟩
    case round =>
      obtain ⟨k, hk, rfl, ht, q, rfl⟩ := hrel
      have Ht := Lib.hid ht; clear ht
      by_cases hlt : k < n
      · obtain ⟨b, o, x, rfl, hkx, _, hcx⟩ := hx.at_ (k := k) (by have := Lx.out; omega)
        obtain ⟨b', o', y, rfl, hky, _, hcy⟩ := hy.at_ (k := k) (by have := Ly.out; omega)
        have Hk := Lib.hid (And.intro hkx hky)
        clear hkx hky hx hy
        by_cases he : x = y
        · have hbe : (x != y) = false := by rw [he]; simp
          have He := Lib.hid he; clear he
          go_wp2_with fail
          go_quiet (fail)
          go_wp2
          go_roundw
          case rel => exact ⟨k + 1, hlt, by simp, sameL_snoc Hk.out.1 Hk.out.2 (by rw [He.out]; exact sameInt_refl _) Ht.out, _, rfl⟩
          case measure => simp [intOf]; omega
        · have hbe : (x != y) = true := by simpa using he
          have He := Lib.hid he; clear he
          go_wp2_with fail
          go_quiet (fail)
          go_wp2
          go_ret
          exact BoolQ.of (b := false) ⟨rfl, _, World.drewN_drewN _ _ _⟩ (sameL_at Hk.out.1 Hk.out.2 (by simpa [sameInt] using He.out)).symm
      · clear hx hy
        go_wp2
        go_ret
        exact BoolQ.of (b := true) ⟨rfl, _, rfl⟩ (sameL_full Ht.out (by have := Lx.out; omega) (by have := Ly.out; omega)).symm
  · have hne : ((n : Int) != (n' : Int)) = true := by simp; omega
    have Hnn := Lib.hid hnn; clear hnn
    go_enter Try.func72, Try.ntmps72
    go_wp2
    go_ret
    exact BoolQ.of (b := false) ⟨rfl, 0, rfl⟩ (sameL_ne (by have := Lx.out; have := Ly.out; have := Hnn.out; omega)).symm

def rIntsRel (n : Nat) (w : World) (xs ys : List Int) (i : Value) (wr : World) : Prop := ∃ k : Nat, k ≤ n ∧ i = .int .i64 k ∧ sameL sameInt (xs.take k) (ys.take k) = true ∧ ∃ q, wr = w.drewN q
set_option maxRecDepth 100000 in
theorem rInts_any (w : World) (B : Nat) (A A' : Option Addr) (n c n' c' : Nat) (xs ys : List Int) (hx : IntsR B w (.slice A n c) xs) (hy : IntsR B w (.slice A' n' c') ys) (hn : n ≤ 1099511627776) (hn' : n' ≤ 1099511627776) :
    Calls Try.prog 15 #[.slice A n c, .slice A' n' c'] w (BoolQ (sameL sameInt xs ys) w) := by
  have Lx := Lib.hid hx.len.1
  have Ly := Lib.hid hy.len.1
  by_cases hnn : n = n'
  · subst hnn
    have hne : ((n : Int) != (n : Int)) = false := by simp
    go_enter Try.func15, Try.ntmps15
    go_wp2
    go_loopw [5] (fun i wr => rIntsRel n w xs ys i wr) (fun i _ => n - (intOf i).toNat)
    case atStart => exact ⟨0, Nat.zero_le _, rfl, rfl, 0, rfl⟩
    case round =>
      obtain ⟨k, hk, rfl, ht, q, rfl⟩ := hrel
      have Ht := Lib.hid ht; clear ht
      by_cases hlt : k < n
      · obtain ⟨b, o, x, rfl, hkx, _, hcx⟩ := hx.at_ (k := k) (by have := Lx.out; omega)
        obtain ⟨b', o', y, rfl, hky, _, hcy⟩ := hy.at_ (k := k) (by have := Ly.out; omega)
        have Hk := Lib.hid (And.intro hkx hky)
        clear hkx hky hx hy
        by_cases he : x = y
        · have hbe : (x != y) = false := by rw [he]; simp
          have He := Lib.hid he; clear he
          go_wp2_with fail
          go_quiet (fail)
          go_wp2
          go_roundw
          case rel => exact ⟨k + 1, hlt, by simp, sameL_snoc Hk.out.1 Hk.out.2 (by rw [He.out]; exact sameInt_refl _) Ht.out, _, rfl⟩
          case measure => simp [intOf]; omega
        · have hbe : (x != y) = true := by simpa using he
          have He := Lib.hid he; clear he
          go_wp2_with fail
          go_quiet (fail)
          go_wp2
          go_ret
          exact BoolQ.of (b := false) ⟨rfl, _, World.drewN_drewN _ _ _⟩ (sameL_at Hk.out.1 Hk.out.2 (by simpa [sameInt] using He.out)).symm
      · clear hx hy
        go_wp2
        go_ret
        exact BoolQ.of (b := true) ⟨rfl, _, rfl⟩ (sameL_full Ht.out (by have := Lx.out; omega) (by have := Ly.out; omega)).symm
  · have hne : ((n : Int) != (n' : Int)) = true := by simp; omega
    have Hnn := Lib.hid hnn; clear hnn
    go_enter Try.func15, Try.ntmps15
    go_wp2
    go_ret
    exact BoolQ.of (b := false) ⟨rfl, 0, rfl⟩ (sameL_ne (by have := Lx.out; have := Ly.out; have := Hnn.out; omega)).symm
end Go.Proofs.Ytdegfnejhamejaa
