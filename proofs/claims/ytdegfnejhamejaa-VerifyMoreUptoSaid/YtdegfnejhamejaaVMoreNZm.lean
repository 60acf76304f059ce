/-
  A module with a further shape that nothing names, and a further function that only returns: what was right stays so, in plain words.
-/
import Derived.Test.YtdegfnejhamejaaVAnsZm
namespace Go.Proofs.Ytdegfnejhamejaa
open Go.RowKit
set_option linter.unusedVariables false
set_option linter.unusedSimpArgs false

def newS : ShapeD := ⟨8, [], 0⟩
def idleF : FuncD := ⟨0, [], [], 0, [⟨35, 0, 0, 0, []⟩]⟩
def moreM (m : ModD) : ModD := ⟨m.types ++ [newS], m.funcs ++ [idleF]⟩
section
variable {m : ModD} {f : FuncD} {x : InstrD} {s r : VSt} {t k : Int}
theorem get_more (h : ValS m t) : (moreM m).types[t.toNat]? = m.types[t.toNat]? := by
  have h1 := h.1
  have h2 := h.2
  exact List.getElem?_append_left (by omega)
theorem kind_more (h : ValS m t) : kindN (moreM m).types t = kindN m.types t := by unfold kindN; rw [get_more h]
theorem list_more (h : ValS m t) : listN (moreM m).types t = listN m.types t := by unfold listN; rw [get_more h]
theorem res_more (h : ValS m t) : resN (moreM m).types t = resN m.types t := by unfold resN; rw [get_more h]
theorem head_more (h : ValS m t) : headN (moreM m).types t = headN m.types t := by unfold headN; rw [list_more h]
theorem is_more (h : isKN m.types t k s = some r) (hk : k ≠ 0) : isKN (moreM m).types t k s = some r := by
  unfold isKN at h ⊢
  rw [kind_more (is_valid (m := m) (t := t) (k := k) (s := s) (s' := r) h hk)]
  exact h
theorem whole_more (h : wholeN m.types t s = some r) : wholeN (moreM m).types t s = some r := by
  unfold wholeN
  rw [kind_more (whole_valid h)]
  exact h
theorem pops_val {u : Int × VSt} (h : popsN m.types k s = some u) (hk : k ≠ 0) : ValS m u.1 := by
  unfold popsN at h
  obtain ⟨a, h1, h2⟩ := Option.bind_eq_some_iff.1 h
  obtain ⟨b, h3, rfl⟩ := Option.map_eq_some_iff.1 h2
  exact is_valid h3 hk
theorem pops_more {u : Int × VSt} (h : popsN m.types k s = some u) (hk : k ≠ 0) : popsN (moreM m).types k s = some u := by
  unfold popsN at h ⊢
  obtain ⟨a, h1, h2⟩ := Option.bind_eq_some_iff.1 h
  obtain ⟨b, h3, rfl⟩ := Option.map_eq_some_iff.1 h2
  rw [h1, Option.bind_some, is_more h3 hk]
  rfl
theorem cmpF_more (m : ModD) : ∀ (n : Nat) (t : Int), cmpF (moreM m).types n t = cmpF m.types n t
  | 0, _ => rfl
  | n + 1, t => by
    by_cases hv : ValS m t
    · simp only [cmpF, kind_more hv, list_more hv]
      rw [all_same (f := cmpF (moreM m).types n) (g := cmpF m.types n) _ fun p _ => cmpF_more m n p]
    · have h0 : kindN m.types t = 0 := by
        cases hd : decide (kindN m.types t = 0) with
        | true => exact of_decide_eq_true hd
        | false => exact absurd (nz_valid (of_decide_eq_false hd)) hv
      have h1 : cmpF m.types (n + 1) t = true := by simp [cmpF, h0]
      rw [h1]
      by_cases he : t = (m.types.length : Int)
      · subst he
        have h2 : (moreM m).types[(m.types.length : Int).toNat]? = some newS := by unfold moreM; simp
        have h3 : listN (moreM m).types (m.types.length : Int) = [] := by unfold listN; rw [h2]; rfl
        have h4 : kindN (moreM m).types (m.types.length : Int) = 8 := by unfold kindN; rw [if_pos (by omega), h2]; rfl
        simp [cmpF, h3, h4]
      · have h2 : kindN (moreM m).types t = 0 := by
          rcases Int.lt_or_le t 0 with h | h
          · exact kindN_neg h
          · refine kindN_out ?_
            have : ¬ t < (m.types.length : Int) := fun hl => hv ⟨h, hl⟩
            unfold moreM
            simp
            omega
        simp [cmpF, h2]
theorem cmp_more (m : ModD) (t : Int) : cmpN (moreM m).types t = cmpN m.types t := cmpF_more m _ t
theorem inB_more {i : Int} (h : needN (inB i m.funcs.length) s = some r) : needN (inB i (moreM m).funcs.length) s = some r := by
  have h1 := needN_some h
  obtain ⟨h2, rfl⟩ := h1
  refine needN_ok ?_
  simp only [inB, Bool.and_eq_true, decide_eq_true_eq] at h2 ⊢
  unfold moreM
  simp
  omega
theorem fun_more {i : Int} {g : FuncD} (h : funN m i = some g) : funN (moreM m) i = some g := by
  unfold funN at h ⊢
  have := (List.getElem?_eq_some_iff.1 h).1
  unfold moreM
  rw [List.getElem?_append_left this]
  exact h
theorem ne_more (h : needN (kindN m.types t != 0) s = some r) : needN (kindN (moreM m).types t != 0) s = some r := by
  have h1 := (needN_some h).1
  rw [kind_more (nz_valid (by simpa using h1))]
  exact h
theorem op1_more (h : op1 m x s = some r) : op1 (moreM m) x s = some r := by
  simp only [op1, Option.bind_eq_some_iff] at h ⊢
  obtain ⟨s1, h1, s2, h2, s3, h3, h4⟩ := h
  exact ⟨s1, h1, s2, (whole_more h2), s3, (by rw [kind_more (whole_valid h2)]; exact h3), h4⟩
theorem op2_more (h : op2 m x s = some r) : op2 (moreM m) x s = some r := by
  simp only [op2, Option.bind_eq_some_iff] at h ⊢
  obtain ⟨s1, h1, s2, h2, s3, h3, h4⟩ := h
  exact ⟨s1, h1, s2, (is_more h2 (by decide)), s3, h3, h4⟩
theorem op7_more (h : op7 m x s = some r) : op7 (moreM m) x s = some r := by
  simp only [op7, Option.bind_eq_some_iff] at h ⊢
  obtain ⟨s1, h1, s2, h2, s3, h3, s4, h4, s5, h5, h6⟩ := h
  exact ⟨s1, h1, s2, h2, s3, h3, s4, (whole_more h4), s5, h5, h6⟩
theorem op8_more (h : op8 m x s = some r) : op8 (moreM m) x s = some r := by
  simp only [op8, Option.bind_eq_some_iff] at h ⊢
  obtain ⟨s1, h1, s2, h2, s3, h3, s4, h4, s5, h5, s6, h6, h7⟩ := h
  exact ⟨s1, h1, s2, h2, s3, h3, s4, (whole_more h4), s5, h5, s6, (whole_more h6), h7⟩
theorem op9_more (h : op9 m x s = some r) : op9 (moreM m) x s = some r := by
  simp only [op9, Option.bind_eq_some_iff] at h ⊢
  obtain ⟨s1, h1, s2, h2, s3, h3, s4, h4, s5, h5, h6⟩ := h
  exact ⟨s1, h1, s2, (is_more h2 (by decide)), s3, h3, s4, (whole_more h4), s5, h5, h6⟩
theorem op10_more (h : op10 m x s = some r) : op10 (moreM m) x s = some r := by
  simp only [op10, Option.bind_eq_some_iff] at h ⊢
  obtain ⟨s1, h1, s2, h2, s3, h3, s4, h4, s5, h5, h6⟩ := h
  exact ⟨s1, h1, s2, (is_more h2 (by decide)), s3, h3, s4, (by rw [cmp_more]; exact h4), s5, h5, h6⟩
theorem op11_more (h : op11 m x s = some r) : op11 (moreM m) x s = some r := by
  simp only [op11, Option.bind_eq_some_iff] at h ⊢
  obtain ⟨s1, h1, s2, h2, s3, h3, h4⟩ := h
  exact ⟨s1, h1, s2, h2, s3, (is_more h3 (by decide)), h4⟩
theorem op12_more (h : op12 m x s = some r) : op12 (moreM m) x s = some r := by
  simp only [op12, Option.bind_eq_some_iff] at h ⊢
  obtain ⟨s1, h1, s2, h2, s3, h3, s4, h4, h5⟩ := h
  exact ⟨s1, h1, s2, (whole_more h2), s3, h3, s4, (whole_more h4), h5⟩
theorem op3_more (h : op3 m x s = some r) : op3 (moreM m) x s = some r := by
  simp only [op3, Option.bind_eq_some_iff] at h ⊢
  obtain ⟨s1, h1, s2, h2, h3⟩ := h
  exact ⟨s1, h1, s2, (ne_more h2), h3⟩
theorem op13_more (h : op13 m x s = some r) : op13 (moreM m) x s = some r := by
  simp only [op13, Option.bind_eq_some_iff] at h ⊢
  obtain ⟨s1, h1, s2, h2, s3, h3, h4⟩ := h
  exact ⟨s1, h1, s2, (is_more h2 (by decide)), s3, (by rw [list_more (is_valid h2 (by decide))]; exact h3), h4⟩
theorem op14_more (h : op14 m x s = some r) : op14 (moreM m) x s = some r := by
  simp only [op14, Option.bind_eq_some_iff] at h ⊢
  obtain ⟨s1, h1, s2, h2, s3, h3, h4⟩ := h
  exact ⟨s1, h1, s2, (pops_more h2 (by decide)), s3, (by rw [list_more (pops_val h2 (by decide))]; exact h3), (by rw [list_more (pops_val h2 (by decide))]; exact h4)⟩
theorem op15_more (h : op15 m x s = some r) : op15 (moreM m) x s = some r := by
  simp only [op15, Option.bind_eq_some_iff] at h ⊢
  obtain ⟨s1, h1, s2, h2, s3, h3, s4, h4, s5, h5, h6⟩ := h
  exact ⟨s1, h1, s2, h2, s3, h3, s4, (is_more h4 (by decide)), s5, (by rw [list_more (is_valid h4 (by decide))]; exact h5), h6⟩
theorem op16_more (h : op16 m x s = some r) : op16 (moreM m) x s = some r := by
  simp only [op16, Option.bind_eq_some_iff] at h ⊢
  obtain ⟨s1, h1, s2, h2, s3, h3, s4, h4, h5⟩ := h
  exact ⟨s1, h1, s2, (by rw [kind_more (nz_valid (by have := (needN_some h2).1; simp at this; omega))]; exact h2), s3, (whole_more h3), s4, h4, h5⟩
theorem op17_more (h : op17 m x s = some r) : op17 (moreM m) x s = some r := by
  simp only [op17, Option.bind_eq_some_iff] at h ⊢
  obtain ⟨s1, h1, s2, h2, s3, h3, h4⟩ := h
  exact ⟨s1, h1, s2, (is_more h2 (by decide)), s3, (pops_more h3 (by decide)), h4⟩
theorem op18_more (h : op18 m x s = some r) : op18 (moreM m) x s = some r := by
  simp only [op18, Option.bind_eq_some_iff] at h ⊢
  obtain ⟨s1, h1, s2, h2, s3, h3, s4, h4, h5⟩ := h
  exact ⟨s1, h1, s2, h2, s3, (whole_more h3), s4, (pops_more h4 (by decide)), (by rw [head_more (pops_val h4 (by decide))]; exact h5)⟩
theorem op19_more (h : op19 m x s = some r) : op19 (moreM m) x s = some r := by
  simp only [op19, Option.bind_eq_some_iff] at h ⊢
  obtain ⟨s1, h1, s2, h2, s3, h3, s4, h4, s5, h5, h6⟩ := h
  exact ⟨s1, h1, s2, h2, s3, h3, s4, (whole_more h4), s5, (pops_more h5 (by decide)), (by rw [head_more (pops_val h5 (by decide))]; exact h6)⟩
theorem op21_more (h : op21 m x s = some r) : op21 (moreM m) x s = some r := by
  simp only [op21, Option.bind_eq_some_iff] at h ⊢
  obtain ⟨s1, h1, s2, h2, s3, h3, h4⟩ := h
  exact ⟨s1, h1, s2, (is_more h2 (by decide)), s3, (by rw [head_more (is_valid h2 (by decide))]; exact h3), h4⟩
theorem op22_more (h : op22 m x s = some r) : op22 (moreM m) x s = some r := by
  simp only [op22, Option.bind_eq_some_iff] at h ⊢
  obtain ⟨s1, h1, s2, h2, h3⟩ := h
  exact ⟨s1, h1, s2, (pops_more h2 (by decide)), (by rw [head_more (pops_val h2 (by decide))]; exact h3)⟩
theorem op23_more (h : op23 m x s = some r) : op23 (moreM m) x s = some r := by
  simp only [op23, Option.bind_eq_some_iff] at h ⊢
  obtain ⟨s1, h1, s2, h2, s3, h3, h4⟩ := h
  exact ⟨s1, h1, s2, h2, s3, (pops_more h3 (by decide)), (by rw [head_more (pops_val h3 (by decide))]; exact h4)⟩
theorem op20_more (h : op20 m x s = some r) : op20 (moreM m) x s = some r := by
  simp only [op20, Option.bind_eq_some_iff] at h ⊢
  obtain ⟨s1, h1, s2, h2, s3, h3, s4, h4, s5, h5, s6, h6, h7⟩ := h
  exact ⟨s1, h1, s2, (inB_more h2), s3, (is_more h3 (by decide)), s4, (fun_more h4), s5, (by rw [list_more (is_valid h3 (by decide)), res_more (is_valid h3 (by decide))]; exact h5), s6, h6, h7⟩
theorem op25_more (h : op25 m x s = some r) : op25 (moreM m) x s = some r := by
  simp only [op25, Option.bind_eq_some_iff] at h ⊢
  obtain ⟨s1, h1, s2, h2, s3, h3, s4, h4, s5, h5, h6⟩ := h
  exact ⟨s1, h1, s2, (inB_more h2), s3, (fun_more h3), s4, h4, s5, h5, h6⟩
theorem op26_more (h : op26 m x s = some r) : op26 (moreM m) x s = some r := by
  simp only [op26, Option.bind_eq_some_iff] at h ⊢
  obtain ⟨s1, h1, s2, h2, s3, h3, s4, h4, h5⟩ := h
  exact ⟨s1, h1, s2, (is_more h2 (by decide)), s3, (by rw [list_more (is_valid h2 (by decide))]; exact h3), s4, h4, (by rw [res_more (is_valid h2 (by decide))]; exact h5)⟩
theorem op27_more (h : op27 m x s = some r) : op27 (moreM m) x s = some r := by
  simp only [op27, Option.bind_eq_some_iff] at h ⊢
  obtain ⟨s1, h1, s2, h2, s3, h3, h4⟩ := h
  exact ⟨s1, h1, s2, (is_more h2 (by decide)), s3, (by rw [list_more (is_valid h2 (by decide))]; exact h3), h4⟩
theorem op29_more (h : op29 m x s = some r) : op29 (moreM m) x s = some r := by
  simp only [op29, Option.bind_eq_some_iff] at h ⊢
  obtain ⟨s1, h1, s2, h2, s3, h3, h4⟩ := h
  exact ⟨s1, h1, s2, h2, s3, (pops_more h3 (by decide)), (by rw [head_more (pops_val h3 (by decide))]; exact h4)⟩
theorem op30_more (h : op30 m x s = some r) : op30 (moreM m) x s = some r := by
  simp only [op30, Option.bind_eq_some_iff] at h ⊢
  obtain ⟨s1, h1, s2, h2, h3⟩ := h
  exact ⟨s1, h1, s2, (pops_more h2 (by decide)), (by rw [head_more (pops_val h2 (by decide))]; exact h3)⟩
theorem op31_more (h : op31 m x s = some r) : op31 (moreM m) x s = some r := by
  simp only [op31, Option.bind_eq_some_iff] at h ⊢
  obtain ⟨s1, h1, s2, h2, h3⟩ := h
  exact ⟨s1, h1, s2, (pops_more h2 (by decide)), h3⟩
theorem op37_more (h : op37 m x s = some r) : op37 (moreM m) x s = some r := by
  simp only [op37, Option.bind_eq_some_iff] at h ⊢
  obtain ⟨s1, h1, s2, h2, h3⟩ := h
  exact ⟨s1, h1, s2, (is_more h2 (by decide)), h3⟩
theorem op38_more (h : op38 m x s = some r) : op38 (moreM m) x s = some r := by
  simp only [op38, Option.bind_eq_some_iff] at h ⊢
  obtain ⟨s1, h1, s2, h2, h3⟩ := h
  exact ⟨s1, h1, s2, h2, (by rw [kind_more (nz_valid (by have := (needN_some h3).1; intro h0; rw [h0] at this; exact absurd this (by decide)))]; exact h3)⟩
theorem op34_more (h : op34 m f x s = some r) : op34 (moreM m) f x s = some r := by
  simp only [op34, Option.bind_eq_some_iff] at h ⊢
  obtain ⟨s1, h1, s2, h2, s3, h3, h4⟩ := h
  exact ⟨s1, h1, s2, h2, s3, h3, (is_more h4 (by decide))⟩
theorem op36_more (h : op36 m x s = some r) : op36 (moreM m) x s = some r := by
  simp only [op36, Option.bind_eq_some_iff] at h ⊢
  obtain ⟨s1, h1, s2, h2, h3⟩ := h
  exact ⟨s1, h1, s2, h2, (is_more h3 (by decide))⟩
end
end Go.Proofs.Ytdegfnejhamejaa
