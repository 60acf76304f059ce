/-
  A new object, as plain data: the least name that is free, and where the object stands.
-/
import Derived.Test.YteigopmdhhgnfaaHpSw
namespace Go.Proofs.Yteigopmdhhgnfaa
set_option linter.unusedVariables false
set_option linter.unusedSimpArgs false

/-- How many objects stand ahead of the place where the names part: name 1, 2, .. -/
def gapN : List ObjD → Nat → Nat
  | [], k => k
  | o :: S, k => if o.name = k + 1 then gapN S (k + 1) else k
theorem gapN_spec : ∀ (S : List ObjD) (k : Nat), k ≤ gapN S k ∧ gapN S k ≤ k + S.length ∧ (∀ j o, S[j]? = some o → k + j < gapN S k → o.name = k + j + 1) ∧ (∀ o, S[gapN S k - k]? = some o → o.name ≠ gapN S k + 1)
  | [], k => ⟨Nat.le_refl _, by simp [gapN], fun j o h => by simp at h, fun o h => by simp at h⟩
  | o :: S, k => by
    unfold gapN
    split
    · rename_i h
      obtain ⟨h1, h2, h3, h4⟩ := gapN_spec S (k + 1)
      refine ⟨by omega, by simp only [List.length_cons]; omega, fun j x hx hj => ?_, fun x hx => ?_⟩
      · cases j with
        | zero => simp at hx; subst hx; omega
        | succ j =>
          rw [List.getElem?_cons_succ] at hx
          have := h3 j x hx (by omega)
          omega
      · rw [show gapN S (k + 1) - k = (gapN S (k + 1) - (k + 1)) + 1 by omega, List.getElem?_cons_succ] at hx
        exact h4 x hx
    · rename_i h
      refine ⟨Nat.le_refl _, by omega, fun j x hx hj => by omega, fun x hx => ?_⟩
      rw [Nat.sub_self, List.getElem?_cons_zero] at hx
      injection hx with hx
      subst hx
      exact h
def gapS (S : List ObjD) : Nat := gapN S 0
theorem gapS_le (S : List ObjD) : gapS S ≤ S.length := by have := (gapN_spec S 0).2.1; unfold gapS; omega
theorem gapS_at {S : List ObjD} {j : Nat} {o : ObjD} (h : S[j]? = some o) (hj : j < gapS S) : o.name = j + 1 := by
  have := (gapN_spec S 0).2.2.1 j o h (by unfold gapS at hj; omega)
  omega
/-- Behind the place where the names part they are greater. -/
theorem gapS_gt {S : List ObjD} (hs : S.Pairwise fun a b => a.name < b.name) (hp : ∀ o ∈ S, 1 ≤ o.name) {j : Nat} {o : ObjD} (h : S[j]? = some o) (hj : gapS S ≤ j) : gapS S + 1 < o.name := by
  have hg := gapO hs hp
  obtain ⟨h1, h2⟩ := List.getElem?_eq_some_iff.1 h
  have hlt : gapS S < S.length := by omega
  have h3 := hg (gapS S) _ (List.getElem?_eq_getElem hlt)
  have h4 := (gapN_spec S 0).2.2.2 S[gapS S] (by unfold gapS; rw [Nat.sub_zero]; exact List.getElem?_eq_getElem hlt)
  have h5 : S[gapS S].name ≠ gapS S + 1 := h4
  rcases Nat.eq_or_lt_of_le hj with h6 | h6
  · subst h6
    rw [h2] at h3 h5
    omega
  · have := List.pairwise_iff_getElem.1 hs (gapS S) j hlt h1 h6
    rw [h2] at this
    omega
/-- All names below the place are taken, the next is free. -/
theorem gapS_taken {S : List ObjD} {i : Nat} (h1 : 1 ≤ i) (h2 : i ≤ gapS S) : (findO S i).isSome = true := by
  have hlt : i - 1 < S.length := by have := gapS_le S; omega
  have := gapS_at (List.getElem?_eq_getElem hlt) (by omega)
  exact findO_isSome.2 ⟨_, List.getElem_mem hlt, by omega⟩
theorem gapS_free {S : List ObjD} (hs : S.Pairwise fun a b => a.name < b.name) (hp : ∀ o ∈ S, 1 ≤ o.name) : findO S ((gapS S + 1 : Nat) : Int) = none := by
  refine findO_none fun o ho he => ?_
  obtain ⟨j, hj⟩ := List.getElem?_of_mem ho
  by_cases hlt : j < gapS S
  · have := gapS_at hj hlt
    omega
  · have := gapS_gt hs hp hj (by omega)
    omega
def newX (S : List ObjD) (refs : List Bool) : ObjD := ⟨gapS S + 1, List.replicate refs.length 0, refs⟩
def allocO (S : List ObjD) (refs : List Bool) : List ObjD := S.take (gapS S) ++ newX S refs :: S.drop (gapS S)
theorem alloc_used (S : List ObjD) (refs : List Bool) : usedO (allocO S refs) = usedO S + 1 + refs.length := by
  have h := used_append (S.take (gapS S)) (S.drop (gapS S))
  rw [List.take_append_drop] at h
  unfold allocO
  rw [used_append]
  simp only [usedO, newX, List.length_replicate]
  omega
theorem alloc_mem {S : List ObjD} {refs : List Bool} {x : ObjD} : x ∈ allocO S refs ↔ x = newX S refs ∨ x ∈ S := by
  unfold allocO
  have h : x ∈ S ↔ x ∈ S.take (gapS S) ++ S.drop (gapS S) := by rw [List.take_append_drop]
  rw [h]
  simp only [List.mem_append, List.mem_cons]
  constructor
  · rintro (h | h | h)
    · exact .inr (.inl h)
    · exact .inl h
    · exact .inr (.inr h)
  · rintro (h | h | h)
    · exact .inr (.inl h)
    · exact .inl h
    · exact .inr (.inr h)
theorem alloc_sorted {S : List ObjD} (hs : S.Pairwise fun a b => a.name < b.name) (hp : ∀ o ∈ S, 1 ≤ o.name) (refs : List Bool) : (allocO S refs).Pairwise fun a b => a.name < b.name := by
  have hs' := hs
  rw [← List.take_append_drop (gapS S) S, List.pairwise_append] at hs'
  have hlo : ∀ a ∈ S.take (gapS S), a.name ≤ gapS S := fun a ha => by
    obtain ⟨j, hj⟩ := List.getElem?_of_mem ha
    rw [List.getElem?_take] at hj
    split at hj
    · rename_i hlt
      have := gapS_at hj hlt
      omega
    · cases hj
  have hhi : ∀ a ∈ S.drop (gapS S), gapS S + 1 < a.name := fun a ha => by
    obtain ⟨j, hj⟩ := List.getElem?_of_mem ha
    rw [List.getElem?_drop] at hj
    exact gapS_gt hs hp hj (by omega)
  unfold allocO
  rw [List.pairwise_append, List.pairwise_cons]
  refine ⟨hs'.1, ⟨fun b hb => hhi b hb, hs'.2.1⟩, fun a ha b hb => ?_⟩
  rcases List.mem_cons.1 hb with rfl | hb
  · have := hlo a ha
    simp only [newX]
    omega
  · exact hs'.2.2 a ha b hb
theorem alloc_find {S : List ObjD} (hs : S.Pairwise fun a b => a.name < b.name) (hp : ∀ o ∈ S, 1 ≤ o.name) (refs : List Bool) (x : Int) : findO (allocO S refs) x = if x = ((gapS S + 1 : Nat) : Int) then some (newX S refs) else findO S x := by
  have h2 := alloc_sorted hs hp refs
  by_cases hx : x = ((gapS S + 1 : Nat) : Int)
  · rw [if_pos hx, hx]
    exact findO_some h2 (o := newX S refs) (alloc_mem.2 (.inl rfl))
  · rw [if_neg hx]
    cases hf : findO S x with
    | none =>
      refine findO_none fun y hy he => ?_
      rcases alloc_mem.1 hy with rfl | hy
      · exact hx he.symm
      · have := findO_isSome.2 ⟨y, hy, he⟩
        rw [hf] at this
        cases this
    | some y =>
      obtain ⟨hy, hn⟩ := findO_mem hf
      rw [← hn]
      exact findO_some h2 (alloc_mem.2 (.inr hy))
theorem new_outs (S : List ObjD) (refs : List Bool) : ∀ y ∈ outsO (newX S refs), y = 0 := fun y hy => by
  unfold outsO newX at hy
  obtain ⟨⟨c, r⟩, hm, he⟩ := List.mem_filterMap.1 hy
  have := (List.of_mem_zip hm).1
  have hc : c = 0 := List.eq_of_mem_replicate this
  simp only at he
  split at he
  · injection he with he; omega
  · cases he
theorem alloc_good {S : List ObjD} (h : GoodO S) (refs : List Bool) (hlen : S.length < 65536) : GoodO (allocO S refs) := by
  refine ⟨alloc_sorted h.sorted h.pos refs, fun o ho => ?_, fun o ho => ?_, fun o ho y hy => ?_, fun o ho y hy => ?_, fun o ho => ?_⟩
  · rcases alloc_mem.1 ho with rfl | ho
    · simp [newX]
    · exact h.pos o ho
  · rcases alloc_mem.1 ho with rfl | ho
    · simp [newX]
    · exact h.len o ho
  · rcases alloc_mem.1 ho with rfl | ho
    · exact .inl (new_outs S refs y hy)
    · rcases h.closed o ho y hy with h0 | h0
      · exact .inl h0
      · obtain ⟨x, hx, he⟩ := findO_isSome.1 h0
        exact .inr (findO_isSome.2 ⟨x, alloc_mem.2 (.inr hx), he⟩)
  · rcases alloc_mem.1 ho with rfl | ho
    · have : y = 0 := List.eq_of_mem_replicate hy
      omega
    · exact h.small o ho y hy
  · rcases alloc_mem.1 ho with rfl | ho
    · have := gapS_le S
      simp only [newX]
      omega
    · exact h.top o ho
end Go.Proofs.Yteigopmdhhgnfaa
