/-
  Heaps as plain data: objects by rising names; what roots reach; which name is the least that is free.
-/
import Derived.Test.YteigopmdhhgnfaaGrow
namespace Go.Proofs.Yteigopmdhhgnfaa
set_option linter.unusedVariables false
set_option linter.unusedSimpArgs false

/-- An object: its name, its cells, which of them name objects. -/
structure ObjD where
  name : Nat
  cells : List Nat
  refs : List Bool
def findO (S : List ObjD) (x : Int) : Option ObjD := S.find? fun o => decide ((o.name : Int) = x)
def usedO : List ObjD → Nat
  | [] => 0
  | o :: S => 1 + o.cells.length + usedO S
/-- What an object's cells name. -/
def outsO (o : ObjD) : List Nat := (o.cells.zip o.refs).filterMap fun p => if p.2 then some p.1 else none
def knownO (S : List ObjD) (roots : List Int) : Bool := roots.all fun r => decide (r = 0) || (findO S r).isSome
/-- Reached: a root that is an object, or named by what is reached. -/
inductive Rch (S : List ObjD) (roots : List Int) : Nat → Prop
  | root (x : Nat) (h : (x : Int) ∈ roots) (hs : (findO S x).isSome = true) : Rch S roots x
  | step (x y : Nat) (o : ObjD) (h : Rch S roots x) (ho : findO S x = some o) (hy : y ∈ outsO o) (hs : (findO S y).isSome = true) : Rch S roots y
/-- A heap that holds together: names rise from 1; as many cells as marks; a cell that names, names an object or none. -/
structure GoodO (S : List ObjD) : Prop where
  sorted : S.Pairwise fun a b => a.name < b.name
  pos : ∀ o ∈ S, 1 ≤ o.name
  len : ∀ o ∈ S, o.refs.length = o.cells.length
  closed : ∀ o ∈ S, ∀ y ∈ outsO o, y = 0 ∨ (findO S y).isSome = true
  small : ∀ o ∈ S, ∀ x ∈ o.cells, x < 18446744073709551616
  top : ∀ o ∈ S, o.name ≤ 65536
theorem findO_mem {S : List ObjD} {x : Int} {o : ObjD} (h : findO S x = some o) : o ∈ S ∧ (o.name : Int) = x := by
  have h1 := List.find?_some h
  exact ⟨List.mem_of_find?_eq_some h, by simpa using h1⟩
theorem findO_some {S : List ObjD} (hs : S.Pairwise fun a b => a.name < b.name) {o : ObjD} (ho : o ∈ S) : findO S o.name = some o := by
  induction S with
  | nil => cases ho
  | cons a S ih =>
    rw [List.pairwise_cons] at hs
    unfold findO
    rw [List.find?_cons]
    rcases List.mem_cons.1 ho with rfl | ho
    · simp
    · have := hs.1 o ho
      rw [show decide ((a.name : Int) = (o.name : Int)) = false from decide_eq_false (by omega)]
      exact ih hs.2 ho
theorem findO_none {S : List ObjD} {x : Int} (h : ∀ o ∈ S, (o.name : Int) ≠ x) : findO S x = none := by
  unfold findO
  rw [List.find?_eq_none]
  intro o ho
  simpa using h o ho
theorem findO_isSome {S : List ObjD} {x : Int} : (findO S x).isSome = true ↔ ∃ o ∈ S, (o.name : Int) = x := by
  constructor
  · intro h
    obtain ⟨o, ho⟩ := Option.isSome_iff_exists.1 h
    exact ⟨o, findO_mem ho⟩
  · rintro ⟨o, ho, hx⟩
    cases h : findO S x with
    | some _ => rfl
    | none =>
      unfold findO at h
      rw [List.find?_eq_none] at h
      exact absurd (by simpa using hx) (h o ho)
/-- Names rise, and none is free below the place where they part. -/
theorem gapO {S : List ObjD} (hs : S.Pairwise fun a b => a.name < b.name) (hp : ∀ o ∈ S, 1 ≤ o.name) : ∀ (k : Nat) o, S[k]? = some o → k + 1 ≤ o.name := by
  intro k
  induction k with
  | zero => intro o ho; exact hp o (List.mem_of_getElem? ho)
  | succ k ih =>
    intro o ho
    obtain ⟨h1, h2⟩ := List.getElem?_eq_some_iff.1 ho
    have h3 := ih S[k] (List.getElem?_eq_getElem (by omega))
    have h4 := List.pairwise_iff_getElem.1 hs k (k + 1) (by omega) h1 (by omega)
    rw [h2] at h4
    omega
/-! ## Reached -/
theorem Rch.known {S : List ObjD} {roots : List Int} {x : Nat} (h : Rch S roots x) : (findO S x).isSome = true := by
  cases h with
  | root _ _ hs => exact hs
  | step _ _ _ _ _ _ hs => exact hs
/-- A set that holds the roots and what it names holds all that is reached. -/
theorem Rch.least {S : List ObjD} {roots : List Int} {K : Nat → Prop} (h1 : ∀ x : Nat, (x : Int) ∈ roots → (findO S x).isSome = true → K x) (h2 : ∀ x y o, K x → findO S x = some o → y ∈ outsO o → (findO S y).isSome = true → K y) {x : Nat} (h : Rch S roots x) : K x := by
  induction h with
  | root x h hs => exact h1 x h hs
  | step x y o _ ho hy hs ih => exact h2 x y o ih ho hy hs
theorem Rch.mono {S : List ObjD} {a b : List Int} (h : ∀ x ∈ a, x ∈ b) {x : Nat} (hr : Rch S a x) : Rch S b x :=
  hr.least (fun x hx hs => .root x (h _ hx) hs) fun x y o hx ho hy hs => .step x y o hx ho hy hs
theorem Rch.append {S : List ObjD} {a b : List Int} {x : Nat} : Rch S (a ++ b) x ↔ Rch S a x ∨ Rch S b x := by
  constructor
  · intro h
    refine h.least (K := fun x => Rch S a x ∨ Rch S b x) (fun x hx hs => ?_) fun x y o hx ho hy hs => hx.imp (fun h => .step x y o h ho hy hs) fun h => .step x y o h ho hy hs
    rcases List.mem_append.1 hx with h | h
    · exact .inl (.root x h hs)
    · exact .inr (.root x h hs)
  · rintro (h | h)
    · exact h.mono fun x hx => List.mem_append_left _ hx
    · exact h.mono fun x hx => List.mem_append_right _ hx
noncomputable def rchB (S : List ObjD) (roots : List Int) (x : Nat) : Bool := @decide (Rch S roots x) (Classical.propDecidable _)
theorem rchB_iff {S : List ObjD} {roots : List Int} {x : Nat} : rchB S roots x = true ↔ Rch S roots x := by unfold rchB; exact @decide_eq_true_iff _ (Classical.propDecidable _)
/-- What is left behind a collection. -/
noncomputable def liveO (S : List ObjD) (roots : List Int) : List ObjD := S.filter fun o => rchB S roots o.name
theorem liveO_mem {S : List ObjD} {roots : List Int} {o : ObjD} : o ∈ liveO S roots ↔ o ∈ S ∧ Rch S roots o.name := by
  unfold liveO
  rw [List.mem_filter, rchB_iff]
theorem liveO_find {S : List ObjD} (hs : S.Pairwise fun a b => a.name < b.name) {roots : List Int} {x : Int} : findO (liveO S roots) x = match findO S x with | some o => if rchB S roots o.name then some o else none | none => none := by
  have hs' : (liveO S roots).Pairwise fun a b => a.name < b.name := hs.filter _
  cases h : findO S x with
  | none =>
    refine findO_none fun o ho he => ?_
    have := findO_isSome.2 ⟨o, (liveO_mem.1 ho).1, he⟩
    rw [h] at this
    cases this
  | some o =>
    obtain ⟨ho, hx⟩ := findO_mem h
    by_cases hr : rchB S roots o.name = true
    · simp only [hr, if_true]
      rw [← hx]
      exact findO_some hs' (liveO_mem.2 ⟨ho, rchB_iff.1 hr⟩)
    · simp only [hr]
      refine findO_none fun o' ho' he => hr ?_
      obtain ⟨h1, h2⟩ := liveO_mem.1 ho'
      have : findO S o'.name = some o' := findO_some hs h1
      rw [he, h] at this
      injection this with this
      subst this
      exact rchB_iff.2 h2
theorem liveO_good {S : List ObjD} (h : GoodO S) (roots : List Int) : GoodO (liveO S roots) := by
  have hm : ∀ {o}, o ∈ liveO S roots → o ∈ S := fun ho => (liveO_mem.1 ho).1
  refine ⟨h.sorted.filter _, fun o ho => h.pos o (hm ho), fun o ho => h.len o (hm ho), fun o ho y hy => ?_, fun o ho => h.small o (hm ho), fun o ho => h.top o (hm ho)⟩
  rcases h.closed o (hm ho) y hy with h0 | h0
  · exact .inl h0
  · refine .inr ?_
    obtain ⟨h1, h2⟩ := liveO_mem.1 ho
    have hr : Rch S roots y := .step _ y o h2 (findO_some h.sorted h1) hy h0
    obtain ⟨o', ho'⟩ := Option.isSome_iff_exists.1 h0
    obtain ⟨h3, h4⟩ := findO_mem ho'
    refine findO_isSome.2 ⟨o', liveO_mem.2 ⟨h3, ?_⟩, h4⟩
    have : o'.name = y := by omega
    rw [this]
    exact hr
/-- A second collection takes nothing; what is reached reaches nothing else. -/
theorem Rch.live {S : List ObjD} (h : GoodO S) {roots : List Int} {x : Nat} : Rch (liveO S roots) roots x ↔ Rch S roots x := by
  have hk : ∀ {x : Nat}, Rch S roots x → (findO (liveO S roots) x).isSome = true := fun {x} hx => by
    obtain ⟨o, ho⟩ := Option.isSome_iff_exists.1 hx.known
    obtain ⟨h1, h2⟩ := findO_mem ho
    have : o.name = x := by omega
    subst this
    exact findO_isSome.2 ⟨o, liveO_mem.2 ⟨h1, hx⟩, rfl⟩
  have hf : ∀ {x : Nat} {o}, findO (liveO S roots) x = some o → findO S x = some o := fun {x o} ho => by
    obtain ⟨h1, h2⟩ := findO_mem ho
    rw [← h2]
    exact findO_some h.sorted (liveO_mem.1 h1).1
  constructor
  · intro hx
    refine hx.least (fun x hr hs => ?_) fun x y o hx ho hy hs => ?_
    · obtain ⟨o, ho⟩ := Option.isSome_iff_exists.1 hs
      exact .root x hr (by rw [hf ho]; rfl)
    · obtain ⟨o', ho'⟩ := Option.isSome_iff_exists.1 hs
      exact .step x y o hx (hf ho) hy (by rw [hf ho']; rfl)
  · intro hx
    have : Rch S roots x ∧ Rch (liveO S roots) roots x := by
      refine hx.least (K := fun x => Rch S roots x ∧ Rch (liveO S roots) roots x) (fun x hr hs => ⟨.root x hr hs, .root x hr (hk (.root x hr hs))⟩) fun x y o hx ho hy hs => ?_
      have hy' : Rch S roots y := .step x y o hx.1 ho hy hs
      refine ⟨hy', .step x y o hx.2 ?_ hy (hk hy')⟩
      obtain ⟨o', ho'⟩ := Option.isSome_iff_exists.1 (hk hx.1)
      rw [ho']
      have := hf ho'
      rw [ho] at this
      injection this with this
      rw [this]
    exact this.2
/-! ## A cell written -/
def putX (o i v : Nat) (x : ObjD) : ObjD := if x.name = o then { x with cells := x.cells.set i v } else x
def putO (S : List ObjD) (o i v : Nat) : List ObjD := S.map (putX o i v)
theorem putX_name (o i v : Nat) (x : ObjD) : (putX o i v x).name = x.name := by unfold putX; split <;> rfl
theorem putX_refs (o i v : Nat) (x : ObjD) : (putX o i v x).refs = x.refs := by unfold putX; split <;> rfl
theorem putX_len (o i v : Nat) (x : ObjD) : (putX o i v x).cells.length = x.cells.length := by unfold putX; split <;> simp
theorem putX_same {o i v : Nat} {x : ObjD} (h : x.name = o) : putX o i v x = { x with cells := x.cells.set i v } := by unfold putX; rw [if_pos h]
theorem putX_other {o i v : Nat} {x : ObjD} (h : x.name ≠ o) : putX o i v x = x := by unfold putX; rw [if_neg h]
theorem findO_put (S : List ObjD) (o i v : Nat) (x : Int) : findO (putO S o i v) x = (findO S x).map (putX o i v) := by
  unfold findO putO
  rw [List.find?_map]
  congr 1
  congr 1
  funext y
  simp [putX_name]
theorem usedO_put (S : List ObjD) (o i v : Nat) : usedO (putO S o i v) = usedO S := by
  induction S with
  | nil => rfl
  | cons a S ih => simp only [putO, List.map_cons, usedO, putX_len] at ih ⊢; rw [ih]
theorem findO_put_isSome (S : List ObjD) (o i v : Nat) (x : Int) : (findO (putO S o i v) x).isSome = (findO S x).isSome := by rw [findO_put]; simp
theorem zip_set {a : List Nat} {b : List Bool} {i v : Nat} {y : Nat} (h : y ∈ ((a.set i v).zip b).filterMap fun p => if p.2 then some p.1 else none) : y ∈ ((a.zip b).filterMap fun p => if p.2 then some p.1 else none) ∨ (y = v ∧ b[i]? = some true) := by
  rw [List.mem_filterMap] at h
  obtain ⟨⟨c, r⟩, hm, hy⟩ := h
  obtain ⟨k, hk⟩ := List.getElem?_of_mem hm
  rw [List.getElem?_zip_eq_some] at hk
  obtain ⟨h1, h2⟩ := hk
  simp only at h1 h2 hy
  split at hy
  · rename_i hr
    injection hy with hy
    subst hy
    rw [List.getElem?_set] at h1
    split at h1
    · rename_i hik
      subst hik
      split at h1
      · injection h1 with h1
        subst h1
        exact .inr ⟨rfl, by rw [h2, hr]⟩
      · cases h1
    · refine .inl (List.mem_filterMap.2 ⟨(c, r), List.mem_of_getElem? (List.getElem?_zip_eq_some.2 ⟨h1, h2⟩), by simp [hr]⟩)
  · cases hy
theorem good_put {S : List ObjD} (h : GoodO S) {o i v : Nat} (hv : v < 18446744073709551616) (hr : ∀ x ∈ S, x.name = o → x.refs[i]? = some true → v = 0 ∨ (findO S v).isSome = true) : GoodO (putO S o i v) := by
  have hm : ∀ {x}, x ∈ putO S o i v → ∃ y ∈ S, putX o i v y = x := fun hx => List.mem_map.1 hx
  refine ⟨?_, fun x hx => ?_, fun x hx => ?_, fun x hx y hy => ?_, fun x hx y hy => ?_, fun x hx => ?_⟩
  · unfold putO
    rw [List.pairwise_map]
    exact h.sorted.imp fun hab => by rw [putX_name, putX_name]; exact hab
  · obtain ⟨z, hz, rfl⟩ := hm hx
    rw [putX_name]
    exact h.pos z hz
  · obtain ⟨z, hz, rfl⟩ := hm hx
    rw [putX_refs, putX_len]
    exact h.len z hz
  · obtain ⟨z, hz, rfl⟩ := hm hx
    rw [findO_put_isSome]
    by_cases hn : z.name = o
    · rw [putX_same hn] at hy
      rcases zip_set hy with hy | ⟨rfl, hb⟩
      · exact h.closed z hz y hy
      · exact hr z hz hn hb
    · rw [putX_other hn] at hy
      exact h.closed z hz y hy
  · obtain ⟨z, hz, rfl⟩ := hm hx
    by_cases hn : z.name = o
    · rw [putX_same hn] at hy
      rcases List.mem_or_eq_of_mem_set hy with hy | rfl
      · exact h.small z hz y hy
      · exact hv
    · rw [putX_other hn] at hy
      exact h.small z hz y hy
  · obtain ⟨z, hz, rfl⟩ := hm hx
    rw [putX_name]
    exact h.top z hz
end Go.Proofs.Yteigopmdhhgnfaa
