/-
  Plain data for Infer: parameters; what is found is sound.
-/
import Derived.Test.YtgemacdnncjmdaaDoorRMeets
import Derived.Test.YtgemacdnncjmdaaDoorRMatch
namespace Go.Proofs.YtgemacdnncjmdaaDoor
set_option linter.unusedVariables false
set_option linter.unusedSimpArgs false

theorem lookL_up {g g' : Ty → Option (Nat × Nat)} (hg : ∀ x q, g x = some q → g' x = some q) : ∀ {l : List Ty} {p : Nat × Nat}, lookL g l = some p → lookL g' l = some p
  | [], p, h => h
  | t :: l, p, h => by
    simp only [lookL] at h ⊢
    cases h1 : g t with
    | none => rw [h1] at h; cases h
    | some q =>
      cases h2 : lookL g l with
      | none => rw [h1, h2] at h; cases h
      | some q' =>
        rw [h1, h2] at h
        rw [hg t q h1, lookL_up hg h2]
        exact h
theorem lookT_eq (f : Nat) (t : Ty) : lookT (f + 1) t = if shapeT t then match lookL (lookT f) t.inner with
      | none => none
      | some (d, c) => if (if t.kind = 8 then c else 1) ≤ 64 then some (d, if t.kind = 8 then c else 1) else none
    else none := rfl
theorem lookT_inv {f : Nat} {t : Ty} {p : Nat × Nat} (h : lookT (f + 1) t = some p) : shapeT t = true ∧ ∃ c, lookL (lookT f) t.inner = some (p.1, c) ∧ (if t.kind = 8 then c else 1) ≤ 64 ∧ p.2 = (if t.kind = 8 then c else 1) := by
  rw [lookT_eq] at h
  cases hs : shapeT t with
  | false => rw [hs] at h; cases h
  | true =>
    rw [hs, if_pos rfl] at h
    refine ⟨rfl, ?_⟩
    cases hl : lookL (lookT f) t.inner with
    | none => rw [hl] at h; cases h
    | some q =>
      rw [hl] at h
      obtain ⟨d, c⟩ := q
      simp only at h
      by_cases hc : (if t.kind = 8 then c else 1) ≤ 64
      · rw [if_pos hc] at h
        have h := Option.some.inj h
        subst h
        exact ⟨c, rfl, hc, rfl⟩
      · rw [if_neg hc] at h
        cases h
theorem lookT_mk {f : Nat} {t : Ty} {d c : Nat} (hs : shapeT t = true) (hl : lookL (lookT f) t.inner = some (d, c)) (hc : (if t.kind = 8 then c else 1) ≤ 64) : lookT (f + 1) t = some (d, if t.kind = 8 then c else 1) := by
  rw [lookT_eq, hs, if_pos rfl, hl]
  simp only
  rw [if_pos hc]
theorem lookT_up : ∀ {f : Nat} {t : Ty} {p : Nat × Nat}, lookT f t = some p → lookT (f + 1) t = some p
  | 0, t, p, h => by cases h
  | f + 1, t, p, h => by
    obtain ⟨hs, c, hl, hc, hp⟩ := lookT_inv h
    rw [lookT_mk hs (lookL_up (fun x q => lookT_up) hl) hc, ← hp]
theorem lookT_lift {t : Ty} : ∀ (d : Nat) {f : Nat}, (lookT f t).isSome = true → (lookT (f + d) t).isSome = true
  | 0, f, h => h
  | d + 1, f, h => by
    have h1 := lookT_lift d h
    obtain ⟨p, hp⟩ := Option.isSome_iff_exists.1 h1
    rw [show f + (d + 1) = f + d + 1 by omega, lookT_up hp]
    rfl
theorem param_con {t : Ty} (hs : soundT t = true) (hk : t.kind = 12) : t.con = 1 ∨ t.con = 2 ∨ t.con = 3 := by
  obtain ⟨h1, _⟩ := lookT_open (f := 8) hs
  unfold shapeT at h1
  rw [if_neg (by omega), if_neg (by omega), if_neg (by omega), if_pos hk] at h1
  simp only [Bool.and_eq_true, decide_eq_true_eq] at h1
  omega
/-- What is found is sound. -/
theorem match_sound {names : List ByteArray} : ∀ (n f : Nat) (a b : Ty) (g g' : ByteArray → Option Ty), f ≤ 9 → (lookT f b).isSome = true → (∀ s u, g s = some u → soundT u = true) → matchT names n a b g = some g' → ∀ s u, g' s = some u → soundT u = true
  | 0, f, a, b, g, g', hf, hb, hg, h => by rw [matchT] at h; cases h
  | n + 1, f, a, b, g, g', hf, hb, hg, h => by
    rw [matchT] at h
    split at h
    · split at h
      · split at h
        · cases h; exact hg
        · cases h
      · cases h
        intro s u hs
        by_cases he : s = a.name
        · subst he
          rw [updT_same] at hs
          cases hs
          have := lookT_lift (9 - f) hb
          rw [show f + (9 - f) = 9 by omega] at this
          exact this
        · rw [updT_other _ _ he] at hs
          exact hg s u hs
    · split at h
      · cases f with
        | zero => rw [lookT] at hb; cases hb
        | succ f =>
          have hin := (lookT_open hb).2
          have hall : ∀ p ∈ b.innerN, (lookT f p.2).isSome = true := fun p hp => hin _ (by rw [← innerN_map]; exact List.mem_map_of_mem (f := fun p : ByteArray × Ty => p.2) hp)
          clear hb hin
          generalize a.innerN = l at h
          generalize b.innerN = m at h hall
          induction l generalizing m g with
          | nil =>
            cases m with
            | nil => rw [matchL] at h; cases h; exact hg
            | cons q m => rw [matchL] at h; cases h
          | cons p l IH =>
            cases m with
            | nil => rw [matchL] at h; cases h
            | cons q m =>
              rw [matchL] at h
              split at h
              · split at h
                · rename_i g1 hg1
                  exact IH g1 (match_sound n f p.2 q.2 g g1 (by omega) (hall q (by simp)) hg hg1) m h fun x hx => hall x (by simp [hx])
                · cases h
              · cases h
      · cases h
end Go.Proofs.YtgemacdnncjmdaaDoor
