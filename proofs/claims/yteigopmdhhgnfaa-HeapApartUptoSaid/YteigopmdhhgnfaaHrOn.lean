/-
  What the reference's Reached keeps to: which objects are marked so far.
-/
import Derived.Test.YteigopmdhhgnfaaHrPutW
namespace Go.Proofs.Yteigopmdhhgnfaa
open Go.RowKit
set_option linter.unusedVariables false
set_option linter.unusedSimpArgs false

/-- Numbers that an object names. -/
theorem mem_outs {o : ObjD} (hl : o.refs.length = o.cells.length) {y : Nat} : y ∈ outsO o ↔ ∃ c : Nat, o.cells[c]? = some y ∧ o.refs[c]? = some true := by
  unfold outsO
  rw [List.mem_filterMap]
  constructor
  · rintro ⟨⟨a, b⟩, hm, he⟩
    obtain ⟨k, hk⟩ := List.getElem?_of_mem hm
    rw [List.getElem?_zip_eq_some] at hk
    simp only at he hk
    cases b with
    | true =>
      simp at he
      subst he
      exact ⟨k, hk⟩
    | false => simp at he
  · rintro ⟨c, h1, h2⟩
    exact ⟨(y, true), List.mem_of_getElem? (i := c) (List.getElem?_zip_eq_some.2 ⟨h1, h2⟩), by simp⟩
/-- y is marked, if there is such an object. -/
def onL (S : List ObjD) (L : List Bool) (y : Nat) : Prop := ∀ (k : Nat) o, S[k]? = some o → o.name = y → L[k]? = some true
/-- Marked is only what is reached. -/
def sndL (S : List ObjD) (roots : List Int) (L : List Bool) : Prop := L.length = S.length ∧ ∀ (k : Nat) o, S[k]? = some o → L[k]? = some true → Rch S roots o.name
def offN (L : List Bool) : Nat := L.countP (fun b => !b)
theorem off_set : ∀ {L : List Bool} {k : Nat}, L[k]? = some false → offN (L.set k true) + 1 = offN L
  | [], k, h => by simp at h
  | b :: L, 0, h => by
    simp at h
    subst h
    simp [offN]
  | b :: L, k + 1, h => by
    have := off_set (L := L) (k := k) (by simpa using h)
    unfold offN at this ⊢
    rw [List.set_cons_succ, List.countP_cons, List.countP_cons]
    omega
theorem set_of_true : ∀ {L : List Bool} {k : Nat}, L[k]? = some true → L.set k true = L
  | [], k, h => by simp at h
  | b :: L, 0, h => by simp at h; subst h; rfl
  | b :: L, k + 1, h => by rw [List.set_cons_succ, set_of_true (by simpa using h)]
theorem snd_set {S : List ObjD} {roots : List Int} {L : List Bool} {k : Nat} {o : ObjD} (h : sndL S roots L) (hk : S[k]? = some o) (hr : Rch S roots o.name) : sndL S roots (L.set k true) := by
  refine ⟨by rw [List.length_set]; exact h.1, fun j x hx hj => ?_⟩
  by_cases he : k = j
  · subst he
    rw [hk] at hx
    injection hx with hx
    subst hx
    exact hr
  · rw [List.getElem?_set_ne he] at hj
    exact h.2 j x hx hj
theorem set_keeps {L : List Bool} {k j : Nat} (h : L[j]? = some true) : (L.set k true)[j]? = some true := by
  by_cases he : k = j
  · subst he
    rw [List.getElem?_set_self (List.getElem?_eq_some_iff.1 h).1]
  · rw [List.getElem?_set_ne he]
    exact h
theorem on_keeps {S : List ObjD} {L : List Bool} {k y : Nat} (h : onL S L y) : onL S (L.set k true) y := fun j o hj he => set_keeps (h j o hj he)
theorem name_inj {S : List ObjD} (hs : S.Pairwise fun a b => a.name < b.name) {i j : Nat} {a b : ObjD} (hi : S[i]? = some a) (hj : S[j]? = some b) (he : a.name = b.name) : i = j := by
  obtain ⟨p1, p2⟩ := List.getElem?_eq_some_iff.1 hi
  obtain ⟨p3, p4⟩ := List.getElem?_eq_some_iff.1 hj
  rcases Nat.lt_trichotomy i j with hlt | hlt | hlt
  · have := List.pairwise_iff_getElem.1 hs i j p1 p3 hlt; rw [p2, p4] at this; omega
  · exact hlt
  · have := List.pairwise_iff_getElem.1 hs j i p3 p1 hlt; rw [p2, p4] at this; omega
theorem on_set {S : List ObjD} (hs : S.Pairwise fun a b => a.name < b.name) {L : List Bool} {k : Nat} {o : ObjD} (hk : S[k]? = some o) (hl : L.length = S.length) : onL S (L.set k true) o.name := fun j x hj he => by
  have := name_inj hs hj hk he
  subst this
  rw [List.getElem?_set_self (by rw [hl]; exact (List.getElem?_eq_some_iff.1 hk).1)]
theorem on_none {S : List ObjD} {L : List Bool} {y : Nat} (h : findO S y = none) : onL S L y := fun j x hj he => by
  have : (findO S y).isSome = true := findO_isSome.2 ⟨x, List.mem_of_getElem? hj, by omega⟩
  rw [h] at this
  cases this
/-- Ahead of a sweep: the roots are marked. -/
def dirL (S : List ObjD) (roots : List Int) (L : List Bool) : Prop := ∀ x : Nat, (x : Int) ∈ roots → onL S L x
/-- In a sweep, at cell c of object i: of K0 objects that were not marked at its beginning as many are, or something was added. -/
structure SwL (S : List ObjD) (roots : List Int) (K0 i c : Nat) (more : Bool) (L : List Bool) : Prop where
  snd : sndL S roots L
  dir : dirL S roots L
  le : offN L ≤ K0
  lt : more = true → offN L < K0
  done : more = false → ∀ (k : Nat) o (d y : Nat), S[k]? = some o → L[k]? = some true → (k < i ∨ (k = i ∧ d < c)) → o.cells[d]? = some y → o.refs[d]? = some true → onL S L y
section
variable {S : List ObjD} {roots : List Int} {K0 i c : Nat} {more : Bool} {L : List Bool}
theorem SwL.start (h1 : sndL S roots L) (h2 : dirL S roots L) : SwL S roots (offN L) 0 0 false L :=
  ⟨h1, h2, Nat.le_refl _, fun h => (by cases h), fun _ k o d y _ _ h => by omega⟩
theorem SwL.next (h : SwL S roots K0 i c more L) (hx : ∀ o, S[i]? = some o → L[i]? = some true → o.cells.length ≤ c) : SwL S roots K0 (i + 1) 0 more L :=
  ⟨h.snd, h.dir, h.le, h.lt, fun hm k o d y h1 h2 h3 h4 h5 => by
    rcases Nat.lt_or_ge k i with h6 | h6
    · exact h.done hm k o d y h1 h2 (.inl h6) h4 h5
    · have : k = i := by omega
      subst this
      have := hx o h1 h2
      have := (List.getElem?_eq_some_iff.1 h4).1
      exact h.done hm k o d y h1 h2 (.inr ⟨rfl, by omega⟩) h4 h5⟩
theorem SwL.step (h : SwL S roots K0 i c more L) {o : ObjD} (ho : S[i]? = some o) (hx : L[i]? = some true → ∀ y, o.cells[c]? = some y → o.refs[c]? = some true → onL S L y) : SwL S roots K0 i (c + 1) more L :=
  ⟨h.snd, h.dir, h.le, h.lt, fun hm k o' d y h1 h2 h3 h4 h5 => by
    by_cases h6 : k < i ∨ (k = i ∧ d < c)
    · exact h.done hm k o' d y h1 h2 h6 h4 h5
    · obtain ⟨rfl, rfl⟩ : k = i ∧ d = c := by omega
      rw [ho] at h1
      injection h1 with h1
      subst h1
      exact hx h2 y h4 h5⟩
theorem SwL.mark (h : SwL S roots K0 i c more L) {k : Nat} {o : ObjD} (hk : S[k]? = some o) (hr : Rch S roots o.name) (hf : L[k]? = some false) : SwL S roots K0 i (c + 1) true (L.set k true) := by
  have := off_set hf
  have := h.le
  exact ⟨snd_set h.snd hk hr, fun x hx => on_keeps (h.dir x hx), by omega, fun _ => by omega, fun hm => by cases hm⟩
/-- Nothing was added in a whole sweep: what is marked is what is reached. -/
theorem SwL.all (h : SwL S roots K0 S.length 0 false L) (hg : GoodO S) : L = S.map fun o => rchB S roots o.name := by
  refine List.ext_getElem? fun k => ?_
  rcases Nat.lt_or_ge k S.length with hk | hk
  · rw [List.getElem?_map, List.getElem?_eq_getElem hk]
    have hkl : k < L.length := by rw [h.snd.1]; exact hk
    rw [List.getElem?_eq_getElem hkl]
    simp only [Option.map_some]
    congr 1
    have h1 : L[k] = true → rchB S roots S[k].name = true := fun hh => rchB_iff.2 (h.snd.2 k S[k] (List.getElem?_eq_getElem hk) (by rw [List.getElem?_eq_getElem hkl, hh]))
    have h2 : rchB S roots S[k].name = true → L[k] = true := fun hh => by
      have hon := (rchB_iff.1 hh).least (K := fun x => onL S L x) (fun x hx hs => h.dir x hx) fun x y o hx ho hy hs => by
        obtain ⟨hoS, hon⟩ := findO_mem ho
        obtain ⟨j, hj⟩ := List.getElem?_of_mem hoS
        obtain ⟨d, hd1, hd2⟩ := (mem_outs (hg.len o hoS)).1 hy
        exact h.done rfl j o d y hj (hx j o hj (by omega)) (.inl (List.getElem?_eq_some_iff.1 hj).1) hd1 hd2
      have := hon k S[k] (List.getElem?_eq_getElem hk) rfl
      rw [List.getElem?_eq_getElem hkl] at this
      injection this
    cases hb : L[k] with
    | true => rw [h1 hb]
    | false =>
      cases hr : rchB S roots S[k].name with
      | false => rfl
      | true => rw [h2 hr] at hb; cases hb
  · rw [List.getElem?_eq_none (by rw [h.snd.1]; exact hk), List.getElem?_eq_none (by simpa using hk)]
end
/-- A row of marks, as it lies in memory. -/
def bools (L : List Bool) : Array Value := (L.map Value.bool).toArray
theorem bools_size (L : List Bool) : (bools L).size = L.length := by simp [bools]
theorem bools_at (L : List Bool) (k : Nat) : (bools L)[k]? = (L[k]?).map Value.bool := by simp [bools]
theorem bools_set (L : List Bool) (k : Nat) (b : Bool) : (bools L).setIfInBounds k (.bool b) = bools (L.set k b) := by simp [bools]
theorem bools_made (n : Nat) : madeCells #[Value.bool false] (n * 1) = bools (List.replicate n false) := by
  refine Array.ext_getElem? fun i => ?_
  rw [bools_at, List.getElem?_replicate]
  split
  · rename_i hi
    simp [madeCells, hi, Nat.mod_one]
  · rename_i hi
    simp [madeCells, hi]
def offV (v : Value) : Bool := match v with | .bool true => false | _ => true
/-- How many are not marked, told from memory. -/
def offW (w : World) (b : Nat) : Nat := match w.heap[b]? with | some (.cells cs _ _) => cs.toList.countP offV | _ => 0
theorem offW_of {w : World} {b : Nat} {L : List Bool} (h : Blk w b 4 (bools L)) : offW w b = offN L := by
  unfold offW offN
  unfold Blk at h
  rw [h]
  simp only [bools]
  rw [List.countP_map]
  congr 1
  funext x
  cases x <;> rfl
end Go.Proofs.Yteigopmdhhgnfaa
