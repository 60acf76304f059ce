/-
  Cell of the reference's heap.
-/
import Derived.Test.YteigopmdhhgnfaaHrU
namespace Go.Proofs.Yteigopmdhhgnfaa
open Go.RowKit
set_option linter.unusedVariables false
set_option linter.unusedSimpArgs false

theorem atO_idx {x : Int} {o : ObjD} : ∀ (S : List ObjD) (k : Nat), findO S x = some o → ∃ j, S[j]? = some o ∧ atO S x k = ((k + j : Nat) : Int)
  | [], k, h => by cases h
  | a :: S, k, h => by
    unfold findO at h
    rw [List.find?_cons] at h
    unfold atO
    by_cases he : (a.name : Int) = x
    · rw [decide_eq_true he] at h
      injection h with h
      subst h
      exact ⟨0, rfl, by rw [if_pos he]; simp⟩
    · rw [decide_eq_false he] at h
      obtain ⟨j, h1, h2⟩ := atO_idx S (k + 1) h
      exact ⟨j + 1, by simpa using h1, by rw [if_neg he, h2]; congr 1; omega⟩
set_option maxRecDepth 100000 in
set_option maxHeartbeats 2000000 in
theorem rcell_any (F : Nat → Prop) (w : World) (q : Nat) (A : Option Addr) (c : Nat) (S : List ObjD) (bud : Nat) (o i : Int) (h : RhI F w q A c S bud) :
    Calls Try.prog 41 #[.pointer (some ⟨q, 0, none⟩), .int .i64 o, .int .i64 i] w fun e w' => e = .returned (.tuple #[.int .u64 ((getV S o i).1 : Int), .bool (getV S o i).2.1, .int .i64 (getV S o i).2.2]) ∧ Chg (fun _ _ => False) w w' := by
  have hat := rat_any F w q A c S bud o h
  have HH := Lib.hid h
  clear h
  cases hf : findO S o with
  | none =>
    rw [getV_none hf]
    rw [(atO_find S 0).1 hf] at hat
    clear hf
    go_enter Try.func41, Try.ntmps41
    go_wp2_with fail
    refine hat.mono fun e w1 h => ?_
    obtain ⟨rfl, hc1⟩ := h
    have HC := Lib.hid hc1
    clear hat hc1
    go_wp2_with fail
    go_ret3
    exact ⟨rfl, HC.out⟩
  | some x =>
    obtain ⟨j, hj, hja⟩ := atO_idx S 0 hf
    rw [Nat.zero_add] at hja
    rw [hja] at hat
    have hjl := (List.getElem?_eq_some_iff.1 hj).1
    have p1 : ¬ (j : Int) < 0 := by omega
    have p2 : (j : Int) < (S.length : Int) := by omega
    by_cases hi : 0 ≤ i ∧ i < (x.cells.length : Int)
    · rw [getV_in hf hi]
      obtain ⟨k, rfl⟩ : ∃ k : Nat, i = (k : Int) := ⟨i.toNat, by omega⟩
      have hk : k < x.cells.length := by omega
      have hk2 : k < x.refs.length := by rw [HH.out.good.len x (findO_mem hf).1]; exact hk
      have q1 : (k : Int) < (x.cells.length : Int) := by omega
      have q2 : (k : Int) < (x.refs.length : Int) := by omega
      have q3 : ¬ (x.cells.length : Int) ≤ (k : Int) := by omega
      have q4 : decide (x.cells.length ≤ k) = false := decide_eq_false (by omega)
      have q5 : decide (k ≥ x.cells.length) = false := decide_eq_false (by omega)
      rw [Int.toNat_natCast]
      obtain ⟨v1, hv1⟩ : ∃ v, x.cells.getD k 0 = v := ⟨_, rfl⟩
      obtain ⟨v2, hv2⟩ : ∃ v, x.refs.getD k false = v := ⟨_, rfl⟩
      rw [hv1, hv2]
      have HV := Lib.hid (And.intro hv1 (And.intro hv2 hj))
      clear hf hi hv1 hv2 hj hja
      go_enter Try.func41, Try.ntmps41
      go_wp2_with fail
      refine hat.mono fun e w1 h => ?_
      obtain ⟨rfl, hc1⟩ := h
      have HC := Lib.hid hc1
      clear hat hc1
      have hH := HH.out.keep HC.out fun _ _ _ => id
      have x0 : w1.cell? ⟨q, 0, none⟩ = some (.slice A S.length c) := by simpa using hH.blk.cell 0
      obtain ⟨b, x', A1, c1, A2, c2, rfl, hx', hV, z0, z1, z2⟩ := hH.objs.at_ hjl
      obtain rfl : x' = x := by rw [HV.out.2.2] at hx'; exact (Option.some.inj hx').symm
      obtain ⟨B1, d1, B2, d2, he, hr1, hr2, _⟩ := hV
      obtain ⟨rfl, rfl, rfl, rfl⟩ : A1 = B1 ∧ c1 = d1 ∧ A2 = B2 ∧ c2 = d2 := by simpa [and_assoc] using he
      obtain ⟨g1, o1, rfl, y1⟩ := u64_at hr1 hk
      obtain ⟨g2, o2, rfl, y2⟩ := boo_at hr2 hk2
      rw [HV.out.1] at y1
      rw [HV.out.2.1] at y2
      clear hH hx' he hr1 hr2
      go_wp2_with fail
      go_quiet (fail)
      go_wp2_with fail
      go_ret3
      exact ⟨rfl, by repeat' (first | exact HC.out | apply Chg.drew | apply Chg.drewN)⟩
    · rw [getV_out hf hi]
      have HV := Lib.hid hj
      by_cases h0 : i < 0
      · clear hf hi hj hja
        go_enter Try.func41, Try.ntmps41
        go_wp2_with fail
        refine hat.mono fun e w1 h => ?_
        obtain ⟨rfl, hc1⟩ := h
        have HC := Lib.hid hc1
        clear hat hc1
        have hH := HH.out.keep HC.out fun _ _ _ => id
        have x0 : w1.cell? ⟨q, 0, none⟩ = some (.slice A S.length c) := by simpa using hH.blk.cell 0
        obtain ⟨b, x', A1, c1, A2, c2, rfl, hx', hV, z0, z1, z2⟩ := hH.objs.at_ hjl
        obtain rfl : x' = x := by rw [HV.out] at hx'; exact (Option.some.inj hx').symm
        clear hH hx' hV
        go_wp2_with fail
        go_ret3
        exact ⟨rfl, HC.out⟩
      · have q3 : (x.cells.length : Int) ≤ i := by omega
        clear hf hi hj hja
        go_enter Try.func41, Try.ntmps41
        go_wp2_with fail
        refine hat.mono fun e w1 h => ?_
        obtain ⟨rfl, hc1⟩ := h
        have HC := Lib.hid hc1
        clear hat hc1
        have hH := HH.out.keep HC.out fun _ _ _ => id
        have x0 : w1.cell? ⟨q, 0, none⟩ = some (.slice A S.length c) := by simpa using hH.blk.cell 0
        obtain ⟨b, x', A1, c1, A2, c2, rfl, hx', hV, z0, z1, z2⟩ := hH.objs.at_ hjl
        obtain rfl : x' = x := by rw [HV.out] at hx'; exact (Option.some.inj hx').symm
        clear hH hx' hV
        go_wp2_with fail
        go_ret3
        exact ⟨rfl, HC.out⟩
end Go.Proofs.Yteigopmdhhgnfaa
