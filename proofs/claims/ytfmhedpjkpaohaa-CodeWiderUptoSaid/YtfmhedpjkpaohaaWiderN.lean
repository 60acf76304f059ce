/-
  What a further shape, a struct of all that were there, does to a module that is sound in form: in plain words.
-/
import Derived.Test.YtfmhedpjkpaohaaFormN
namespace Go.Proofs.Ytfmhedpjkpaohaa
set_option linter.unusedVariables false
set_option linter.unusedSimpArgs false

def rng (n : Nat) : List Int := (List.range n).map Int.ofNat
def wideS (n : Nat) : ShapeD := ⟨8, rng n, 0⟩
def wideM (m : ModD) : ModD := ⟨m.types ++ [wideS m.types.length], m.funcs⟩
theorem rng_len (n : Nat) : (rng n).length = n := by simp [rng]
theorem rng_snoc (n : Nat) : rng (n + 1) = rng n ++ [(n : Int)] := by simp [rng, List.range_succ]
theorem rng_parts (n : Nat) : partsIn n (rng n) = true := by
  unfold partsIn rng
  rw [List.all_eq_true]
  intro x hx
  obtain ⟨k, hk, rfl⟩ := List.mem_map.1 hx
  have := List.mem_range.1 hk
  simp
  omega
theorem rng_sum (l : List Nat) : sumAt l (rng l.length) = l.sum := by
  unfold sumAt rng
  congr 1
  apply List.ext_getElem
  · simp
  · intro i h1 h2
    simp [List.getD_eq_getElem?_getD, h2]
theorem parts_more {n n' : Nat} {l : List Int} (hn : n ≤ n') (h : partsIn n l = true) : partsIn n' l = true := by
  unfold partsIn at *
  rw [List.all_eq_true] at *
  intro x hx
  have := h x hx
  simp at *
  omega
theorem ids_more {n n' : Nat} {l : List Int} (hn : n ≤ n') (h : idsOk n l = true) : idsOk n' l = true := by
  unfold idsOk at *
  simp only [Bool.and_eq_true] at *
  exact ⟨h.1, parts_more hn h.2⟩
theorem func_more {n n' : Nat} {f : FuncD} (hn : n ≤ n') (h : funcOk n f = true) : funcOk n' f = true := by
  unfold funcOk at *
  simp only [Bool.and_eq_true, decide_eq_true_eq] at *
  obtain ⟨⟨⟨⟨⟨h1, h2⟩, h3⟩, h4⟩, h5⟩, h6⟩ := h
  exact ⟨⟨⟨⟨⟨ids_more hn h1, ids_more hn h2⟩, h3⟩, h4⟩, h5⟩, by omega⟩
theorem wide_sound {prev : List ShapeD} {l : List Nat} {n : Nat} (hn : l.length = n) (h16 : n ≤ 16) : soundS prev l (wideS n) = decide (l.sum ≤ 64) := by
  subst hn
  have h1 : headOk l.length (wideS l.length) = true := by simp [headOk, wideS, rng_len]; omega
  unfold soundS
  rw [h1]
  simp only [wideS, rng_parts, rng_sum, kindOk, dupOf]
  simp
theorem wide_widths {t : List ShapeD} {l : List Nat} (hw : widths t = some l) (h16 : t.length ≤ 16) : widths (t ++ [wideS t.length]) = if l.sum ≤ 64 then some (l ++ [l.sum]) else none := by
  have hlen := (widths_len hw).1
  unfold widths at hw ⊢
  obtain ⟨⟨p, c⟩, h1, h2⟩ := Option.map_eq_some_iff.1 hw
  simp at h2
  subst h2
  rw [wid_append, h1]
  simp only [List.foldl_cons, List.foldl_nil, wStep, Option.bind_some, wide_sound hlen h16]
  by_cases h : c.sum ≤ 64
  · have hs := rng_sum c
    rw [hlen] at hs
    simp [h, cellsOfS, wideS, hs]
  · simp [h]
theorem wide_formed {m : ModD} {l : List Nat} (hf : formedMod m = true) (hw : widths m.types = some l) (h16 : m.types.length ≤ 16) : formedMod (wideM m) = decide (l.sum ≤ 64) := by
  unfold formedMod wideM at *
  simp only [Bool.and_eq_true, decide_eq_true_eq] at hf
  obtain ⟨⟨⟨⟨⟨h1, h2⟩, h3⟩, h4⟩, h5⟩, h6⟩ := hf
  have h3' : m.funcs.all (funcOk (m.types ++ [wideS m.types.length]).length) = true := by
    rw [List.all_eq_true] at *
    exact fun x hx => func_more (by simp) (h3 x hx)
  simp only [wide_widths hw h16, h3', decide_eq_true h4, decide_eq_true h5, decide_eq_true h6]
  rw [decide_eq_true (show (m.types ++ [wideS m.types.length]).length ≤ 256 by simp; omega)]
  by_cases h : l.sum ≤ 64 <;> simp [h]
theorem sum_le_64 : ∀ (l : List Nat), (∀ x ∈ l, x ≤ 64) → l.sum ≤ 64 * l.length
  | [], _ => by simp
  | x :: l, h => by
    have := sum_le_64 l fun y hy => h y (by simp [hy])
    have := h x (by simp)
    simp only [List.sum_cons, List.length_cons]
    omega
theorem wide_sum_le {l : List Nat} (h : ∀ x ∈ l, x ≤ 64) (h16 : l.length ≤ 16) (k : Nat) : (l.take k).sum ≤ 1024 := by
  have := sum_le_64 (l.take k) fun x hx => h x (List.mem_of_mem_take hx)
  have h2 : (l.take k).length ≤ l.length := List.length_take_le' _ _
  omega
end Go.Proofs.Ytfmhedpjkpaohaa
