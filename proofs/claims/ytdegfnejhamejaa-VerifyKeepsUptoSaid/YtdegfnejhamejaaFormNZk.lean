/-
  What a module's form is, in plain words: which shapes are sound behind those ahead, how many cells they have, when a module is formed.
-/
import Derived.Test.YtdegfnejhamejaaSameNZk
namespace Go.Proofs.Ytdegfnejhamejaa
set_option linter.unusedVariables false
set_option linter.unusedSimpArgs false

def partsIn (n : Nat) (l : List Int) : Bool := l.all fun p => decide (0 ≤ p) && decide (p < (n : Int))
def sumAt (cells : List Nat) (l : List Int) : Nat := (l.map fun p => cells.getD p.toNat 0).sum
def headOk (n : Nat) (s : ShapeD) : Bool := decide (s.list.length ≤ 16) && decide (0 ≤ s.res) && decide (s.res ≤ (n : Int)) && (decide (s.res ≤ 0) || decide (s.kind = 11))
def kindOk (s : ShapeD) (sum : Nat) : Bool :=
  if s.kind = 8 then decide (sum ≤ 64) else if s.kind = 9 ∨ s.kind = 10 ∨ s.kind = 13 then decide (s.list.length = 1) else if s.kind = 11 then true
  else decide (1 ≤ s.kind) && decide (s.kind ≤ 7) && decide (s.list.length = 0)
def dupOf (prev : List ShapeD) (s : ShapeD) : Bool := !decide (s.kind = 8) && prev.any fun x => sameShape x s
def soundS (prev : List ShapeD) (cells : List Nat) (s : ShapeD) : Bool := headOk cells.length s && partsIn cells.length s.list && kindOk s (sumAt cells s.list) && !dupOf prev s
def cellsOfS (cells : List Nat) (s : ShapeD) : Nat := if s.kind = 8 then sumAt cells s.list else 1
def wStep (acc : Option (List ShapeD × List Nat)) (s : ShapeD) : Option (List ShapeD × List Nat) := acc.bind fun pc => if soundS pc.1 pc.2 s = true then some (pc.1 ++ [s], pc.2 ++ [cellsOfS pc.2 s]) else none
def wid (l : List ShapeD) : Option (List ShapeD × List Nat) := l.foldl wStep (some ([], []))
/-- The cells of all shapes; none: one is not sound. -/
def widths (l : List ShapeD) : Option (List Nat) := (wid l).map (·.2)

theorem wid_append (l r : List ShapeD) : wid (l ++ r) = r.foldl wStep (wid l) := by unfold wid; rw [List.foldl_append]
theorem fold_none : ∀ r : List ShapeD, r.foldl wStep none = none
  | [] => rfl
  | _ :: r => fold_none r
theorem wid_fst : ∀ (l : List ShapeD) (r : List ShapeD) (p p' : List ShapeD) (c c' : List Nat), l.foldl wStep (some (p, c)) = some (p', c') → p' = p ++ l
  | [], _, p, p', c, c', h => by simp at h; simp [h.1]
  | s :: l, r, p, p', c, c', h => by
    simp only [List.foldl_cons, wStep, Option.bind_some] at h
    split at h
    · have := wid_fst l r _ _ _ _ h
      rw [this]; simp
    · rw [fold_none] at h; cases h
theorem wid_eq {l p : List ShapeD} {c : List Nat} (h : wid l = some (p, c)) : p = l := by have := wid_fst l [] [] p [] c h; simpa using this
theorem wid_take {l : List ShapeD} {k : Nat} {s : ShapeD} (hk : l[k]? = some s) : wid (l.take (k + 1)) = wStep (wid (l.take k)) s := by
  rw [List.take_add_one, hk, wid_append]
  rfl
theorem wid_snoc {l : List ShapeD} {k : Nat} {s : ShapeD} {c : List Nat} (h : wid (l.take k) = some (l.take k, c)) (hk : l[k]? = some s) (hs : soundS (l.take k) c s = true) :
    wid (l.take (k + 1)) = some (l.take (k + 1), c ++ [cellsOfS c s]) := by
  rw [wid_take hk, h]
  simp only [wStep, Option.bind_some, hs, if_true]
  rw [List.take_add_one, hk]
  rfl
theorem wid_bad {l : List ShapeD} {k : Nat} {s : ShapeD} {c : List Nat} (h : wid (l.take k) = some (l.take k, c)) (hk : l[k]? = some s) (hs : soundS (l.take k) c s = false) : widths l = none := by
  have h1 : wid (l.take (k + 1)) = none := by rw [wid_take hk, h]; simp [wStep, hs]
  have h2 : wid l = none := by
    rw [← List.take_append_drop (k + 1) l, wid_append, h1]
    exact fold_none _
  simp [widths, h2]
theorem wid_full {l : List ShapeD} {k : Nat} {c : List Nat} (h : wid (l.take k) = some (l.take k, c)) (hk : l.length ≤ k) : widths l = some c := by
  rw [List.take_of_length_le hk] at h
  simp [widths, h]
/-- Each shape has its cells, at most 64. -/
theorem wid_inv : ∀ (l p p' : List ShapeD) (c c' : List Nat), l.foldl wStep (some (p, c)) = some (p', c') → c.length = p.length → (∀ x ∈ c, x ≤ 64) → c'.length = p'.length ∧ ∀ x ∈ c', x ≤ 64
  | [], p, p', c, c', h, h1, h2 => by simp at h; obtain ⟨rfl, rfl⟩ := h; exact ⟨h1, h2⟩
  | s :: l, p, p', c, c', h, h1, h2 => by
    simp only [List.foldl_cons, wStep, Option.bind_some] at h
    split at h
    · rename_i hs
      refine wid_inv l _ _ _ _ h (by simp [h1]) fun x hx => ?_
      rcases List.mem_append.1 hx with hx | hx
      · exact h2 x hx
      · simp at hx
        subst hx
        unfold cellsOfS
        split
        · rename_i hk
          simp [soundS, kindOk, hk] at hs
          exact hs.1.2
        · omega
    · rw [fold_none] at h; cases h
theorem widths_len {l : List ShapeD} {c : List Nat} (h : widths l = some c) : c.length = l.length ∧ ∀ x ∈ c, x ≤ 64 := by
  unfold widths at h
  obtain ⟨⟨p, c'⟩, h1, h2⟩ := Option.map_eq_some_iff.1 h
  simp at h2
  subst h2
  have := wid_inv l [] p [] c' h1 rfl (by simp)
  rw [wid_eq h1] at this
  exact this
theorem wid_len {l p : List ShapeD} {c : List Nat} (h : wid l = some (p, c)) : c.length = l.length ∧ ∀ x ∈ c, x ≤ 64 := widths_len (by simp [widths, h])

/-- Are numbers shapes? -/
def idsOk (n : Nat) (l : List Int) : Bool := decide (l.length ≤ 1024) && partsIn n l
def funcOk (n : Nat) (f : FuncD) : Bool := idsOk n f.locals && idsOk n f.caps && decide (0 ≤ f.params) && decide (f.params ≤ (f.locals.length : Int)) && decide (0 ≤ f.res) && decide (f.res ≤ (n : Int))
def codeAll (l : List FuncD) : Nat := (l.map fun f => f.code.length).sum
def formedMod (m : ModD) : Bool := (widths m.types).isSome && decide (m.types.length ≤ 256) && m.funcs.all (funcOk m.types.length) && decide (1 ≤ m.funcs.length) && decide (m.funcs.length ≤ 256) && decide (codeAll m.funcs ≤ 65536)

/-- A shape as 19 numbers. -/
def keyL (s : ShapeD) : List Int := [s.kind, (s.list.length : Int)] ++ s.list ++ List.replicate (16 - s.list.length) 0 ++ [s.res]
theorem keyL_len {s : ShapeD} (h : s.list.length ≤ 16) : (keyL s).length = 19 := by simp [keyL]; omega
theorem keyL_inj {s t : ShapeD} (hs : s.list.length ≤ 16) (ht : t.list.length ≤ 16) (h : keyL s = keyL t) : s = t := by
  obtain ⟨k, l, r⟩ := s
  obtain ⟨k', l', r'⟩ := t
  simp only [keyL, List.cons_append, List.nil_append, List.append_assoc] at h hs ht
  injection h with h1 h2
  injection h2 with h2 h3
  have hl : l.length = l'.length := by omega
  obtain ⟨h4, h5⟩ := List.append_inj h3 hl
  rw [hl] at h5
  have h6 := List.append_cancel_left h5
  simp at h6
  simp [h1, h4, h6]
theorem sameInts_iff : ∀ l r : List Int, sameL sameInt l r = true ↔ l = r
  | [], [] => by simp [sameL]
  | [], _ :: _ => by simp [sameL]
  | _ :: _, [] => by simp [sameL]
  | x :: l, y :: r => by simp [sameL, sameInt, sameInts_iff l r]
theorem sameShape_iff (x y : ShapeD) : sameShape x y = true ↔ x = y := by
  obtain ⟨k, l, r⟩ := x
  obtain ⟨k', l', r'⟩ := y
  simp only [sameShape, Bool.and_eq_true, sameInts_iff, beq_iff_eq, ShapeD.mk.injEq]
  exact ⟨fun ⟨⟨h1, h2⟩, h3⟩ => ⟨h1, h3, h2⟩, fun ⟨h1, h3, h2⟩ => ⟨⟨h1, h2⟩, h3⟩⟩
/-- The keys that were laid down. -/
def keysOf (l : List ShapeD) : List (List Int) := (l.filter fun s => !decide (s.kind = 8)).map keyL
theorem keysOf_snoc (l : List ShapeD) (s : ShapeD) : keysOf (l ++ [s]) = keysOf l ++ if s.kind = 8 then [] else [keyL s] := by
  unfold keysOf
  rw [List.filter_append, List.map_append]
  by_cases h : s.kind = 8 <;> simp [h]
theorem dup_keys {prev : List ShapeD} {s : ShapeD} (hp : ∀ x ∈ prev, x.list.length ≤ 16) (hs : s.list.length ≤ 16) (hk : s.kind ≠ 8) : dupOf prev s = (keysOf prev).contains (keyL s) := by
  rw [Bool.eq_iff_iff]
  simp only [dupOf, hk, decide_false, Bool.not_false, Bool.true_and, List.any_eq_true, List.contains_iff_mem, keysOf, List.mem_map, List.mem_filter]
  constructor
  · rintro ⟨x, hx, h⟩
    have h := (sameShape_iff _ _).1 h
    subst h
    exact ⟨x, ⟨hx, by simp [hk]⟩, rfl⟩
  · rintro ⟨x, ⟨hx, _⟩, h⟩
    refine ⟨x, hx, ?_⟩
    exact (sameShape_iff _ _).2 (keyL_inj (hp x hx) hs h)
/-- All shapes that were sound have at most 16 parts. -/
theorem wid_16 : ∀ (l p p' : List ShapeD) (c c' : List Nat), l.foldl wStep (some (p, c)) = some (p', c') → (∀ x ∈ p, x.list.length ≤ 16) → ∀ x ∈ p', x.list.length ≤ 16
  | [], p, p', c, c', h, h1 => by simp at h; obtain ⟨rfl, rfl⟩ := h; exact h1
  | s :: l, p, p', c, c', h, h1 => by
    simp only [List.foldl_cons, wStep, Option.bind_some] at h
    split at h
    · rename_i hs
      refine wid_16 l _ _ _ _ h fun x hx => ?_
      rcases List.mem_append.1 hx with hx | hx
      · exact h1 x hx
      · simp at hx
        subst hx
        simp [soundS, headOk] at hs
        exact hs.1.1.1.1.1.1
    · rw [fold_none] at h; cases h
theorem wid_parts {l : List ShapeD} {c : List Nat} (h : wid l = some (l, c)) : ∀ x ∈ l, x.list.length ≤ 16 := wid_16 l [] l [] c h (by simp)
end Go.Proofs.Ytdegfnejhamejaa
