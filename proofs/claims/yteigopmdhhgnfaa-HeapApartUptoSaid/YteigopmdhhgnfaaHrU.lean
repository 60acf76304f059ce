/-
  Used and known of the reference's heap.
-/
import Derived.Test.YteigopmdhhgnfaaHrR
namespace Go.Proofs.Yteigopmdhhgnfaa
open Go.RowKit
set_option linter.unusedVariables false
set_option linter.unusedSimpArgs false

theorem used_snoc {S : List ObjD} {k : Nat} {o : ObjD} (h : S[k]? = some o) : usedO (S.take (k + 1)) = usedO (S.take k) + 1 + o.cells.length := by
  obtain ⟨h1, h2⟩ := List.getElem?_eq_some_iff.1 h
  rw [List.take_succ_eq_append_getElem h1, h2, used_append]
  simp only [usedO]
  omega
theorem used_take (S : List ObjD) (k : Nat) : usedO (S.take k) ≤ usedO S := by
  have h2 := used_append (S.take k) (S.drop k)
  rw [List.take_append_drop] at h2
  omega
set_option maxRecDepth 100000 in
set_option maxHeartbeats 1000000 in
theorem rused_any (F : Nat → Prop) (w : World) (q : Nat) (A : Option Addr) (c : Nat) (S : List ObjD) (bud : Nat) (h : RhI F w q A c S bud) :
    Calls Try.prog 21 #[.pointer (some ⟨q, 0, none⟩)] w fun e w' => e = .returned (.int .i64 ((usedO S : Nat) : Int)) ∧ Chg (fun _ _ => False) w w' := by
  have x0 : w.cell? ⟨q, 0, none⟩ = some (.slice A S.length c) := by simpa using h.blk.cell 0
  have hS := Nat.le_trans (len_le_used S) (Nat.le_trans h.room.1 h.room.2)
  obtain ⟨R, hR⟩ : ∃ R, usedO S = R := ⟨_, rfl⟩
  rw [hR]
  have HH := Lib.hid (And.intro h.objs (And.intro hR (Nat.le_trans h.room.1 h.room.2)))
  clear h hR
  go_enter Try.func21, Try.ntmps21
  go_wp2_with fail
  go_loopw [3, 4] (fun vn i wr => ∃ k u : Nat, k ≤ S.length ∧ i = .int .i64 k ∧ vn = .int .i64 (u : Int) ∧ u = usedO (S.take k) ∧ wr = w) (fun _ i _ => S.length - (intOf i).toNat)
  case atStart => exact ⟨0, 0, Nat.zero_le _, rfl, rfl, by simp [usedO], rfl⟩
  case round =>
    obtain ⟨k, u, hk, rfl, rfl, hu, rfl⟩ := hrel
    have hub : u ≤ 65536 := by have h1 := used_take S k; have h2 := HH.out.2.2; omega
    have q3 : IntKind.i64.wrap ((k : Int) + 1) = (k : Int) + 1 := IntWalk.i64_in _ ⟨by omega, by omega⟩
    by_cases hlt : k < S.length
    · have q1 : decide (k < S.length) = true := decide_eq_true hlt
      have q2 : (k : Int) < (S.length : Int) := by omega
      obtain ⟨b, o, A1, c1, A2, c2, rfl, hko, _, _, z1, _⟩ := HH.out.1.at_ hlt
      have hsn := used_snoc hko
      have hle := used_take S (k + 1)
      have hl := HH.out.2.2
      have q4 : IntKind.i64.wrap ((u : Int) + 1) = (u : Int) + 1 := IntWalk.i64_in _ ⟨by omega, by omega⟩
      have q5 : IntKind.i64.wrap ((u : Int) + 1 + (o.cells.length : Int)) = (u : Int) + 1 + (o.cells.length : Int) := IntWalk.i64_in _ ⟨by omega, by omega⟩
      have HN := Lib.hid (show u + 1 + o.cells.length = usedO (S.take (k + 1)) by rw [hsn, ← hu])
      clear hu hub hko hsn hle hl
      go_wp2_with fail
      go_roundw
      case rel => exact ⟨k + 1, u + 1 + o.cells.length, hlt, by simp, by simp, HN.out, by first | rfl | trivial⟩
      case measure => simp [intOf]; omega
    · have q1 : decide (k < S.length) = false := decide_eq_false hlt
      obtain rfl : k = S.length := by omega
      have HF := Lib.hid (show u = R by rw [hu, List.take_length]; exact HH.out.2.1)
      clear hu hub
      go_wp2_with fail
      go_ret
      exact ⟨by rw [← HF.out]; rfl, Chg.refl _ _⟩
theorem atO_find {x : Int} : ∀ (S : List ObjD) (k : Nat), (findO S x = none → atO S x k = -1) ∧ ((findO S x).isSome = true → 0 ≤ atO S x k)
  | [], k => ⟨fun _ => rfl, fun h => by cases h⟩
  | a :: S, k => by
    unfold findO atO
    rw [List.find?_cons]
    by_cases h : (a.name : Int) = x
    · simp [h]
    · rw [decide_eq_false h, if_neg h]
      exact atO_find S (k + 1)
set_option maxRecDepth 100000 in
set_option maxHeartbeats 2000000 in
theorem rknown_any (F : Nat → Prop) (B : Nat) (w : World) (q : Nat) (A : Option Addr) (c : Nat) (S : List ObjD) (bud : Nat) (roots : List Int) (RA : Option Addr) (rc : Nat) (h : RhI F w q A c S bud) (hr : SlR B 0 1 IntZ w (.slice RA roots.length rc) roots) (hl : roots.length ≤ 1048576) :
    Calls Try.prog 31 #[.pointer (some ⟨q, 0, none⟩), .slice RA roots.length rc] w fun e w' => e = .returned (.bool (knownO S roots)) ∧ Chg (fun _ _ => False) w w' := by
  obtain ⟨R, hR⟩ : ∃ R, knownO S roots = R := ⟨_, rfl⟩
  rw [hR]
  have HH := Lib.hid (And.intro h (And.intro hr hR))
  clear h hr hR
  go_enter Try.func31, Try.ntmps31
  go_wp2_with fail
  go_loopw [5] (fun i wr => ∃ k : Nat, k ≤ roots.length ∧ i = .int .i64 k ∧ (∀ j, j < k → roots.getD j 0 = 0 ∨ (findO S (roots.getD j 0)).isSome = true) ∧ Chg (fun _ _ => False) w wr) (fun i _ => roots.length - (intOf i).toNat)
  case atStart => exact ⟨0, Nat.zero_le _, rfl, fun j hj => absurd hj (Nat.not_lt_zero _), Chg.refl _ _⟩
  case round =>
    obtain ⟨k, hk, rfl, hkn, hch⟩ := hrel
    have q3 : IntKind.i64.wrap ((k : Int) + 1) = (k : Int) + 1 := IntWalk.i64_in _ ⟨by omega, by omega⟩
    by_cases hlt : k < roots.length
    · have q1 : decide (k < roots.length) = true := decide_eq_true hlt
      have q2 : (k : Int) < (roots.length : Int) := by omega
      obtain ⟨rb, ro, rfl, z0⟩ := int_at (SlR.keep HH.out.2.1 hch (no_letsH _ _) fun _ _ h => h) hlt
      obtain ⟨y, hy⟩ : ∃ y, roots.getD k 0 = y := ⟨_, rfl⟩
      rw [hy] at z0
      have hym : y ∈ roots := by rw [← hy, List.getD_eq_getElem?_getD, List.getElem?_eq_getElem hlt]; exact List.getElem_mem hlt
      have hfin : (y = 0 ∨ (findO S y).isSome = true) → ∀ j, j < k + 1 → roots.getD j 0 = 0 ∨ (findO S (roots.getD j 0)).isSome = true := fun hh j hj => by
        rcases Nat.lt_or_ge j k with h1 | h1
        · exact hkn j h1
        · rw [show j = k by omega, hy]
          exact hh
      by_cases hy0 : y = 0
      · have q4 : (y != 0) = false := by simp [hy0]
        have HR := Lib.hid (And.intro (hfin (.inl hy0)) hch)
        clear hfin hkn hym hy hy0 hch
        go_wp2_with fail
        go_roundw
        case rel => exact ⟨k + 1, hlt, by simp, HR.out.1, HR.out.2⟩
        case measure => simp [intOf]; omega
      · have q4 : (y != 0) = true := by simp [hy0]
        have hat := rat_any F wr q A c S bud y (HH.out.1.keep hch fun _ _ _ => id)
        have haf := atO_find (x := y) S 0
        obtain ⟨V, hV⟩ : ∃ V, atO S y 0 = V := ⟨_, rfl⟩
        rw [hV] at hat haf
        have HR := Lib.hid (And.intro hfin (And.intro hch (And.intro hym hy0)))
        clear hfin hkn hym hy hy0 hch hV
        cases hq : findO S y with
        | none =>
          have q5 : V < 0 := by rw [haf.1 hq]; decide
          have HQ := Lib.hid hq
          clear hq haf
          go_wp2_with fail
          refine hat.mono fun e w1 h => ?_
          obtain ⟨rfl, hc1⟩ := h
          have HC := Lib.hid hc1
          clear hat hc1
          go_wp2_with fail
          go_ret
          refine ⟨?_, HR.out.2.1.trans HC.out⟩
          have : R = false := by
            rw [← HH.out.2.2]
            cases hkk : knownO S roots with
            | false => rfl
            | true =>
              rcases knownO_iff.1 hkk y HR.out.2.2.1 with h1 | h1
              · exact absurd h1 HR.out.2.2.2
              · rw [HQ.out] at h1; cases h1
          rw [this]
          rfl
        | some o =>
          have q5 : ¬ V < 0 := by have := haf.2 (by rw [hq]; rfl); omega
          have HQ := Lib.hid (HR.out.1 (.inr (by rw [hq]; rfl)))
          clear hq haf
          go_wp2_with fail
          refine hat.mono fun e w1 h => ?_
          obtain ⟨rfl, hc1⟩ := h
          have HC := Lib.hid hc1
          clear hat hc1
          go_wp2_with fail
          go_roundw
          case rel => exact ⟨k + 1, hlt, by simp, HQ.out, HR.out.2.1.trans HC.out⟩
          case measure => simp [intOf]; omega
    · have q1 : decide (k < roots.length) = false := decide_eq_false hlt
      obtain rfl : k = roots.length := by omega
      have hkw : knownO S roots = true := knownO_iff.2 fun r hr => by
        obtain ⟨j, hj, he⟩ := List.mem_iff_getElem.1 hr
        have := hkn j hj
        rw [List.getD_eq_getElem?_getD, List.getElem?_eq_getElem hj, he] at this
        exact this
      have HF := Lib.hid (And.intro (show R = true by rw [← HH.out.2.2]; exact hkw) hch)
      clear hkn hkw hch
      go_wp2_with fail
      go_ret
      exact ⟨by rw [HF.out.1]; rfl, HF.out.2⟩
end Go.Proofs.Yteigopmdhhgnfaa
