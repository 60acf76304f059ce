/-
  Marking, as plain data: a list of what is to be looked at, a list of what has been seen.
-/
import Derived.Test.YteigopmdhhgnfaaHpD
namespace Go.Proofs.Yteigopmdhhgnfaa
set_option linter.unusedVariables false
set_option linter.unusedSimpArgs false

def outsF (p : Nat × Bool) : Option Nat := if p.2 then some p.1 else none
def outsI (o : ObjD) (i : Nat) : List Nat := ((o.cells.take i).zip (o.refs.take i)).filterMap outsF
theorem outsI_zero (o : ObjD) : outsI o 0 = [] := rfl
theorem outsI_all {o : ObjD} (h : o.refs.length = o.cells.length) : outsI o o.refs.length = outsO o := by
  unfold outsI outsO
  rw [List.take_length, h, List.take_length]
  rfl
theorem outsI_succ {o : ObjD} {i : Nat} (h : o.refs.length = o.cells.length) (hi : i < o.refs.length) : outsI o (i + 1) = outsI o i ++ if o.refs.getD i false then [o.cells.getD i 0] else [] := by
  have hc : i < o.cells.length := by omega
  unfold outsI
  rw [List.take_succ_eq_append_getElem hi, List.take_succ_eq_append_getElem hc, List.zip_append (by simp; omega), List.filterMap_append, List.getD_eq_getElem?_getD, List.getD_eq_getElem?_getD, List.getElem?_eq_getElem hi, List.getElem?_eq_getElem hc]
  congr 1
  simp only [List.zip_cons_cons, List.zip_nil_right, List.filterMap_cons, List.filterMap_nil, outsF, Option.getD_some]
  cases o.refs[i] <;> rfl
theorem outs_len (o : ObjD) : (outsO o).length ≤ o.cells.length := by
  unfold outsO
  refine Nat.le_trans (List.length_filterMap_le _ _) ?_
  rw [List.length_zip]
  omega
/-- How many names stand in what has not been seen. -/
def restO : List ObjD → List Nat → Nat
  | [], _ => 0
  | o :: S, K => (if o.name ∈ K then 0 else (outsO o).length) + restO S K
theorem rest_le (S : List ObjD) (K : List Nat) : restO S K ≤ usedO S := by
  induction S with
  | nil => exact Nat.le_refl _
  | cons o S ih =>
    unfold restO usedO
    have := outs_len o
    split <;> omega
theorem rest_out {S : List ObjD} {x : Nat} {K : List Nat} (h : ∀ o ∈ S, o.name ≠ x) : restO S (x :: K) = restO S K := by
  induction S with
  | nil => rfl
  | cons o S ih =>
    unfold restO
    rw [ih fun o ho => h o (List.mem_cons_of_mem _ ho)]
    have := h o (by simp)
    simp [this]
theorem rest_add {S : List ObjD} (hs : S.Pairwise fun a b => a.name < b.name) {o : ObjD} (ho : o ∈ S) {K : List Nat} (hk : o.name ∉ K) : restO S (o.name :: K) + (outsO o).length = restO S K := by
  induction S with
  | nil => cases ho
  | cons a S ih =>
    rw [List.pairwise_cons] at hs
    unfold restO
    rcases List.mem_cons.1 ho with rfl | ho
    · rw [rest_out fun b hb => by have := hs.1 b hb; omega]
      simp [hk]
      omega
    · have h1 := ih hs.2 ho
      have h2 := hs.1 o ho
      have h3 : a.name ≠ o.name := by omega
      simp only [List.mem_cons, h3, false_or]
      omega
/-- Between two looks: what has been seen, what is to be looked at. -/
structure MkI (S : List ObjD) (roots : List Int) (K : List Nat) (L : List Int) : Prop where
  seen : ∀ x ∈ K, Rch S roots x
  nodup : K.Nodup
  todo : ∀ y ∈ L, y = 0 ∨ ∃ x : Nat, y = (x : Int) ∧ Rch S roots x
  root : ∀ x : Nat, (x : Int) ∈ roots → x ≠ 0 → x ∈ K ∨ (x : Int) ∈ L
  out : ∀ x ∈ K, ∀ o, findO S x = some o → ∀ y ∈ outsO o, y = 0 ∨ y ∈ K ∨ (y : Int) ∈ L
  cost : L.length + restO S K ≤ roots.length + usedO S
theorem knownO_iff {S : List ObjD} {roots : List Int} : knownO S roots = true ↔ ∀ r ∈ roots, r = 0 ∨ (findO S r).isSome = true := by
  unfold knownO
  rw [List.all_eq_true]
  simp
theorem MkI.start {S : List ObjD} {roots : List Int} (h : knownO S roots = true) : MkI S roots [] roots := by
  refine ⟨fun x hx => (by cases hx), List.nodup_nil, fun y hy => ?_, fun x hx _ => .inr hx, fun x hx => (by cases hx), Nat.add_le_add_left (rest_le S []) _⟩
  rcases knownO_iff.1 h y hy with h0 | h0
  · exact .inl h0
  · obtain ⟨o, ho, he⟩ := findO_isSome.1 h0
    exact .inr ⟨o.name, he.symm, .root _ (by rw [he]; exact hy) (by rw [he]; exact h0)⟩
/-- What has been seen, or is none, is passed over. -/
theorem MkI.skip {S : List ObjD} {roots : List Int} {K : List Nat} {L : List Int} {y : Int} (h : MkI S roots K (L ++ [y])) (hy : y = 0 ∨ ∃ x : Nat, y = (x : Int) ∧ x ∈ K) : MkI S roots K L := by
  have hk : ∀ x : Nat, x ≠ 0 → (x : Int) ∈ L ++ [y] → x ∈ K ∨ (x : Int) ∈ L := fun x hx0 hx => by
    rcases List.mem_append.1 hx with hx | hx
    · exact .inr hx
    · rw [List.mem_singleton] at hx
      rcases hy with rfl | ⟨x', rfl, hx'⟩
      · exact absurd (by omega) hx0
      · exact .inl (by rw [show x = x' by omega]; exact hx')
  refine ⟨h.seen, h.nodup, fun y hy => h.todo y (List.mem_append_left _ hy), fun x hx hx0 => ?_, fun x hx o ho z hz => ?_, ?_⟩
  · rcases h.root x hx hx0 with h1 | h1
    · exact .inl h1
    · exact hk x hx0 h1
  · rcases h.out x hx o ho z hz with h1 | h1 | h1
    · exact .inl h1
    · exact .inr (.inl h1)
    · by_cases hz0 : z = 0
      · exact .inl hz0
      · exact .inr (hk z hz0 h1)
  · have := h.cost
    simp at this
    omega
/-- What is seen first is marked, and what it names is to be looked at. -/
theorem MkI.mark {S : List ObjD} (hg : GoodO S) {roots : List Int} {K : List Nat} {L : List Int} {x : Nat} {o : ObjD} (h : MkI S roots K (L ++ [(x : Int)])) (hx : x ∉ K) (ho : findO S x = some o) (hx0 : x ≠ 0) : MkI S roots (x :: K) (L ++ (outsO o).map fun y : Nat => (y : Int)) := by
  have hr : Rch S roots x := by
    rcases h.todo x (by simp) with h0 | ⟨x', he, h1⟩
    · exact absurd (by omega) hx0
    · rw [show x = x' by omega]; exact h1
  obtain ⟨hoS, hon⟩ := findO_mem ho
  have hon : o.name = x := by omega
  have hk : ∀ z : Nat, (z : Int) ∈ L ++ [(x : Int)] → z ∈ x :: K ∨ (z : Int) ∈ L ++ (outsO o).map fun y : Nat => (y : Int) := fun z hz => by
    rcases List.mem_append.1 hz with hz | hz
    · exact .inr (List.mem_append_left _ hz)
    · rw [List.mem_singleton] at hz
      exact .inl (by rw [show z = x by omega]; simp)
  refine ⟨fun y hy => ?_, List.nodup_cons.2 ⟨hx, h.nodup⟩, fun y hy => ?_, fun z hz hz0 => ?_, fun z hz o' ho' y hy => ?_, ?_⟩
  · rcases List.mem_cons.1 hy with rfl | hy
    · exact hr
    · exact h.seen y hy
  · rcases List.mem_append.1 hy with hy | hy
    · exact h.todo y (List.mem_append_left _ hy)
    · obtain ⟨z, hz, rfl⟩ := List.mem_map.1 hy
      rcases hg.closed o hoS z hz with h0 | h0
      · exact .inl (by omega)
      · exact .inr ⟨z, rfl, .step x z o hr ho hz h0⟩
  · rcases h.root z hz hz0 with h1 | h1
    · exact .inl (List.mem_cons_of_mem _ h1)
    · exact hk z h1
  · rcases List.mem_cons.1 hz with rfl | hz
    · rw [ho] at ho'
      injection ho' with ho'
      subst ho'
      exact .inr (.inr (List.mem_append_right _ (List.mem_map.2 ⟨y, hy, rfl⟩)))
    · rcases h.out z hz o' ho' y hy with h1 | h1 | h1
      · exact .inl h1
      · exact .inr (.inl (List.mem_cons_of_mem _ h1))
      · exact .inr (hk y h1)
  · have h1 := h.cost
    have h2 := rest_add hg.sorted hoS (K := K) (by rw [hon]; exact hx)
    rw [hon] at h2
    simp only [List.length_append, List.length_map, List.length_singleton] at h1 ⊢
    omega
theorem MkI.done {S : List ObjD} {roots : List Int} {K : List Nat} (hp : ∀ o ∈ S, 1 ≤ o.name) (h : MkI S roots K []) (x : Nat) : x ∈ K ↔ Rch S roots x := by
  have hn0 : ∀ y : Nat, (findO S y).isSome = true → y ≠ 0 := fun y hy h0 => by
    obtain ⟨o, ho, he⟩ := findO_isSome.1 hy
    have := hp o ho
    omega
  refine ⟨h.seen x, fun hr => hr.least (K := fun x => x ∈ K) (fun x hx hs => ?_) fun x y o hx ho hy hs => ?_⟩
  · rcases h.root x hx (hn0 x hs) with h1 | h1
    · exact h1
    · cases h1
  · rcases h.out x hx o ho y hy with h1 | h1 | h1
    · exact absurd h1 (hn0 y hs)
    · exact h1
    · cases h1
theorem nodup_le {α : Type} [DecidableEq α] : ∀ {K M : List α}, K.Nodup → (∀ x ∈ K, x ∈ M) → K.length ≤ M.length
  | [], M, _, _ => Nat.zero_le _
  | x :: K, M, hn, hs => by
    rw [List.nodup_cons] at hn
    have hx := hs x (by simp)
    have h1 := nodup_le (K := K) (M := M.erase x) hn.2 fun y hy => (List.mem_erase_of_ne (show y ≠ x from fun h => by subst h; exact hn.1 hy)).2 (hs y (List.mem_cons_of_mem _ hy))
    rw [List.length_erase_of_mem hx] at h1
    have := List.length_pos_of_mem hx
    simp only [List.length_cons]
    omega
theorem seen_le {S : List ObjD} {roots : List Int} {K : List Nat} {L : List Int} (h : MkI S roots K L) : K.length ≤ S.length := by
  have hsub : ∀ x ∈ K, x ∈ S.map fun o => o.name := fun x hx => by
    obtain ⟨o, ho, he⟩ := findO_isSome.1 (h.seen x hx).known
    exact List.mem_map.2 ⟨o, ho, by omega⟩
  have := nodup_le h.nodup hsub
  simpa using this
theorem used_ge {S : List ObjD} {o : ObjD} (h : o ∈ S) : 1 + o.cells.length ≤ usedO S := by
  induction S with
  | nil => cases h
  | cons a S ih =>
    unfold usedO
    rcases List.mem_cons.1 h with rfl | h
    · omega
    · have := ih h; omega
theorem outs_mem {o : ObjD} {j : Nat} (h : o.refs.length = o.cells.length) (hj : j < o.refs.length) (hr : o.refs.getD j false = true) : o.cells.getD j 0 ∈ outsO o := by
  have hc : j < o.cells.length := by omega
  rw [List.getD_eq_getElem?_getD, List.getElem?_eq_getElem hj] at hr
  rw [List.getD_eq_getElem?_getD, List.getElem?_eq_getElem hc]
  refine List.mem_filterMap.2 ⟨(o.cells[j], o.refs[j]), List.mem_of_getElem? (List.getElem?_zip_eq_some.2 ⟨List.getElem?_eq_getElem hc, List.getElem?_eq_getElem hj⟩), ?_⟩
  have hr' : o.refs[j] = true := hr
  simp [hr']
theorem len_le_used (S : List ObjD) : S.length ≤ usedO S := by
  induction S with
  | nil => exact Nat.le_refl _
  | cons o S ih => simp only [List.length_cons, usedO]; omega
end Go.Proofs.Yteigopmdhhgnfaa
