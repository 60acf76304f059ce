/-
  A collection, object by object, as plain data: what is left behind the first j objects.
-/
import Derived.Test.YteigopmdhhgnfaaHpMk
namespace Go.Proofs.Yteigopmdhhgnfaa
set_option linter.unusedVariables false
set_option linter.unusedSimpArgs false

/-- Behind the first j objects: of these, what is reached; and all others. -/
noncomputable def sweepO (S : List ObjD) (roots : List Int) (j : Nat) : List ObjD := (S.take j).filter (fun o => rchB S roots o.name) ++ S.drop j
theorem sweep_zero (S : List ObjD) (roots : List Int) : sweepO S roots 0 = S := by simp [sweepO]
theorem sweep_all (S : List ObjD) (roots : List Int) : sweepO S roots S.length = liveO S roots := by simp [sweepO, liveO]
theorem sweep_cut {S : List ObjD} {roots : List Int} {j : Nat} {o : ObjD} (h : S[j]? = some o) : sweepO S roots j = (S.take j).filter (fun o => rchB S roots o.name) ++ o :: S.drop (j + 1) := by
  obtain ⟨h1, h2⟩ := List.getElem?_eq_some_iff.1 h
  unfold sweepO
  rw [List.drop_eq_getElem_cons h1, h2]
theorem sweep_succ {S : List ObjD} {roots : List Int} {j : Nat} {o : ObjD} (h : S[j]? = some o) : sweepO S roots (j + 1) = (S.take j).filter (fun o => rchB S roots o.name) ++ ((if rchB S roots o.name then [o] else []) ++ S.drop (j + 1)) := by
  obtain ⟨h1, h2⟩ := List.getElem?_eq_some_iff.1 h
  unfold sweepO
  rw [List.take_succ_eq_append_getElem h1, h2, List.filter_append, List.append_assoc]
  congr 2
  cases hr : rchB S roots o.name <;> simp [hr]
theorem sweep_keep {S : List ObjD} {roots : List Int} {j : Nat} {o : ObjD} (h : S[j]? = some o) (hr : rchB S roots o.name = true) : sweepO S roots (j + 1) = sweepO S roots j := by
  rw [sweep_succ h, sweep_cut h, hr]; simp
theorem sweep_drop {S : List ObjD} {roots : List Int} {j : Nat} {o : ObjD} (h : S[j]? = some o) (hr : rchB S roots o.name = false) : sweepO S roots (j + 1) = (S.take j).filter (fun o => rchB S roots o.name) ++ S.drop (j + 1) := by
  rw [sweep_succ h, hr]; simp
theorem used_append (a b : List ObjD) : usedO (a ++ b) = usedO a + usedO b := by
  induction a with
  | nil => simp [usedO]
  | cons x a ih => simp only [List.cons_append, usedO]; omega
theorem sweep_used {S : List ObjD} {roots : List Int} {j : Nat} {o : ObjD} (h : S[j]? = some o) (hr : rchB S roots o.name = false) : usedO (sweepO S roots (j + 1)) + (1 + o.cells.length) = usedO (sweepO S roots j) := by
  rw [sweep_drop h hr, sweep_cut h, used_append, used_append]
  simp only [usedO]
  omega
theorem sweep_mem {S : List ObjD} {roots : List Int} {j : Nat} {x : ObjD} (h : x ∈ sweepO S roots j) : x ∈ S := by
  unfold sweepO at h
  rcases List.mem_append.1 h with h | h
  · exact List.mem_of_mem_take (List.mem_filter.1 h).1
  · exact List.mem_of_mem_drop h
theorem sweep_sorted {S : List ObjD} (hs : S.Pairwise fun a b => a.name < b.name) (roots : List Int) (j : Nat) : (sweepO S roots j).Pairwise fun a b => a.name < b.name := by
  have : (sweepO S roots j).Sublist S := by
    unfold sweepO
    have h1 : ((S.take j).filter (fun o => rchB S roots o.name)).Sublist (S.take j) := List.filter_sublist
    have h2 := h1.append (List.Sublist.refl (S.drop j))
    rwa [List.take_append_drop] at h2
  exact hs.sublist this
/-- What is found behind one more object taken away. -/
theorem sweep_find {S : List ObjD} (hs : S.Pairwise fun a b => a.name < b.name) {roots : List Int} {j : Nat} {o : ObjD} (h : S[j]? = some o) (hr : rchB S roots o.name = false) (x : Int) : findO (sweepO S roots (j + 1)) x = if x = (o.name : Int) then none else findO (sweepO S roots j) x := by
  have h1 := sweep_sorted hs roots j
  have h2 := sweep_sorted hs roots (j + 1)
  have hm : o ∈ sweepO S roots j := by rw [sweep_cut h]; simp
  have hsub : ∀ y, y ∈ sweepO S roots (j + 1) → y ∈ sweepO S roots j ∧ y.name ≠ o.name := fun y hy => by
    have hy' : y ∈ sweepO S roots j := by
      rw [sweep_drop h hr] at hy
      rw [sweep_cut h]
      rcases List.mem_append.1 hy with hy | hy
      · exact List.mem_append_left _ hy
      · exact List.mem_append_right _ (List.mem_cons_of_mem _ hy)
    refine ⟨hy', fun he => ?_⟩
    have h3 := findO_some h1 hm
    have h4 := findO_some h1 hy'
    rw [he, h3] at h4
    injection h4 with h4
    subst h4
    rw [sweep_drop h hr] at hy
    rw [sweep_cut h] at h1
    rw [List.pairwise_append] at h1
    rcases List.mem_append.1 hy with hy | hy
    · have := h1.2.2 o hy o (by simp); omega
    · have := (List.pairwise_cons.1 h1.2.1).1 o hy; omega
  by_cases hx : x = (o.name : Int)
  · rw [if_pos hx]
    exact findO_none fun y hy he => (hsub y hy).2 (by omega)
  · rw [if_neg hx]
    cases hf : findO (sweepO S roots j) x with
    | none =>
      refine findO_none fun y hy he => ?_
      have := findO_isSome.2 ⟨y, (hsub y hy).1, he⟩
      rw [hf] at this
      cases this
    | some y =>
      obtain ⟨hy, hn⟩ := findO_mem hf
      have hy2 : y ∈ sweepO S roots (j + 1) := by
        rw [sweep_cut h] at hy
        rw [sweep_drop h hr]
        rcases List.mem_append.1 hy with hy | hy
        · exact List.mem_append_left _ hy
        · rcases List.mem_cons.1 hy with rfl | hy
          · exact absurd hn.symm hx
          · exact List.mem_append_right _ hy
      rw [← hn]
      exact findO_some h2 hy2
end Go.Proofs.Yteigopmdhhgnfaa
