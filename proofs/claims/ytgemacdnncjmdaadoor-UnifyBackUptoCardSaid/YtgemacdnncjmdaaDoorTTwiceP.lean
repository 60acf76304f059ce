/-
  Filling twice: the plain law of TypesTwice.
-/
import Derived.Test.YtgemacdnncjmdaaDoorTSubst2
namespace Go.Proofs.YtgemacdnncjmdaaDoor
set_option linter.unusedVariables false
set_option linter.unusedSimpArgs false

theorem fill_fill (f1 f2 f3 : ByteArray → Option Ty) (h1 : ∀ s u, f1 s = some u → f3 s = some (u.fill f2)) (h2 : ∀ s, f1 s = none → f3 s = f2 s) (t : Ty) : (t.fill f1).fill f2 = t.fill f3 := by
  induction t using Ty.ind with
  | h k n c fs l r i1 i2 i3 =>
    rw [Ty.fill_eq f1, Ty.fill_eq f3]
    by_cases hk : k = 12
    · rw [if_pos hk, if_pos hk]
      cases hf : f1 n with
      | some u => rw [h1 n u hf]
      | none =>
        rw [h2 n hf]
        simp only []
        rw [Ty.fill_eq f2, if_pos hk]
        cases hg : f2 n with
        | some u => rfl
        | none =>
          simp only [List.map_map]
          congr 1
          · exact List.map_congr_left fun p hp => by simp only [Function.comp]; rw [i1 p hp]
          · exact List.map_congr_left fun p hp => by simp only [Function.comp]; rw [i2 p hp]
          · exact List.map_congr_left fun p hp => by simp only [Function.comp]; rw [i3 p hp]
    · rw [if_neg hk, if_neg hk]
      simp only []
      rw [Ty.fill_eq f2, if_neg hk]
      simp only [List.map_map]
      congr 1
      · exact List.map_congr_left fun p hp => by simp only [Function.comp]; rw [i1 p hp]
      · exact List.map_congr_left fun p hp => by simp only [Function.comp]; rw [i2 p hp]
      · exact List.map_congr_left fun p hp => by simp only [Function.comp]; rw [i3 p hp]
theorem fill_twice (t a b : Ty) (m n : ByteArray) (hmn : ¬ m = n) : (t.fill (assoc [m] [a])).fill (assoc [n] [b]) = t.fill (assoc [m, n] [a.fill (assoc [n] [b]), b]) := by
  refine fill_fill _ _ _ (fun s u h => ?_) (fun s h => ?_) t
  · unfold assoc at h ⊢
    by_cases hs : s = m
    · rw [if_pos (eqB_true.2 hs)] at h ⊢
      injection h with h
      rw [h]
    · rw [if_neg (by rw [eqB_false.2 hs]; decide)] at h
      cases h
  · unfold assoc at h
    by_cases hs : s = m
    · rw [if_pos (eqB_true.2 hs)] at h
      cases h
    · rw [assoc, if_neg (by rw [eqB_false.2 hs]; decide)]
end Go.Proofs.YtgemacdnncjmdaaDoor
