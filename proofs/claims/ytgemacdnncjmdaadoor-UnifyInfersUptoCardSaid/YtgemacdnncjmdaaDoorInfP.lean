/-
  Plain data for Infer: what Find and Infer answer, and that there is one answer.
-/
import Derived.Test.YtgemacdnncjmdaaDoorInfN
namespace Go.Proofs.YtgemacdnncjmdaaDoor
set_option linter.unusedVariables false
set_option linter.unusedSimpArgs false

/-- What names stand for, or the first pair that does not match. -/
def FndP (n : Nat) (names : List ByteArray) (want have_ : List Ty) (at_ : Nat) (e : Int) (og : Option (ByteArray → Option Ty)) : Prop :=
  ((want ++ have_).all soundT = false ∧ at_ = 0 ∧ e = 1 ∧ og = none) ∨
  ((want ++ have_).all soundT = true ∧ ¬ (names.Nodup ∧ want.length = have_.length) ∧ at_ = 0 ∧ e = 2 ∧ og = none) ∨
  ((want ++ have_).all soundT = true ∧ (names.Nodup ∧ want.length = have_.length) ∧
    ((∃ (g : ByteArray → Option Ty) (x y : Ty), want[at_]? = some x ∧ have_[at_]? = some y ∧ matchL (matchT names n) ((noNm want).take at_) ((noNm have_).take at_) (fun _ => none) = some g ∧ matchT names n x y g = none ∧ e = 9 ∧ og = none) ∨
     ∃ g : ByteArray → Option Ty, matchL (matchT names n) (noNm want) (noNm have_) (fun _ => none) = some g ∧ at_ = 0 ∧ e = 0 ∧ og = some g))
theorem fnd_step {n : Nat} {names : List ByteArray} {want have_ : List Ty} {k : Nat} {g : ByteArray → Option Ty} {x y : Ty} (hx : want[k]? = some x) (hy : have_[k]? = some y) (hg : matchL (matchT names n) ((noNm want).take k) ((noNm have_).take k) (fun _ => none) = some g) (hm : matchT names n x y g = none) :
    matchL (matchT names n) ((noNm want).take (k + 1)) ((noNm have_).take (k + 1)) (fun _ => none) = none := by
  rw [matchL_take hg (noNm_get hx) (noNm_get hy), stepM_bare, hm]
theorem fnd_bad {n : Nat} {names : List ByteArray} {want have_ : List Ty} {k j : Nat} {g g' : ByteArray → Option Ty} (hl : want.length = have_.length) {x y : Ty} (hx : want[k]? = some x) (hy : have_[k]? = some y) (hg : matchL (matchT names n) ((noNm want).take k) ((noNm have_).take k) (fun _ => none) = some g) (hm : matchT names n x y g = none)
    (hj : k < j) (h : matchL (matchT names n) ((noNm want).take j) ((noNm have_).take j) (fun _ => none) = some g') : False := by
  have h1 := fnd_step hx hy hg hm
  have hk := (List.getElem?_eq_some_iff.1 hx).1
  have h2 : matchL (matchT names n) ((noNm want).take j) ((noNm have_).take j) (fun _ => none) = none := by
    refine matchL_bad (k := k + 1) (by rw [List.length_take, noNm_len]; omega) (by rw [List.length_take, List.length_take, noNm_len, noNm_len, hl]) ?_
    rw [List.take_take, List.take_take, Nat.min_eq_left hj]
    exact h1
  rw [h] at h2
  cases h2
theorem FndP.one {n : Nat} {names : List ByteArray} {want have_ : List Ty} {a a' : Nat} {e e' : Int} {og og' : Option (ByteArray → Option Ty)} (h : FndP n names want have_ a e og) (h' : FndP n names want have_ a' e' og') : a = a' ∧ e = e' ∧ og = og' := by
  rcases h with ⟨h1, rfl, rfl, rfl⟩ | ⟨h1, h2, rfl, rfl, rfl⟩ | ⟨h1, h2, h⟩
  · rcases h' with ⟨k1, rfl, rfl, rfl⟩ | ⟨k1, _⟩ | ⟨k1, _⟩
    · exact ⟨rfl, rfl, rfl⟩
    · rw [h1] at k1; cases k1
    · rw [h1] at k1; cases k1
  · rcases h' with ⟨k1, _⟩ | ⟨k1, k2, rfl, rfl, rfl⟩ | ⟨k1, k2, _⟩
    · rw [h1] at k1; cases k1
    · exact ⟨rfl, rfl, rfl⟩
    · exact absurd k2 h2
  · rcases h' with ⟨k1, _⟩ | ⟨k1, k2, _⟩ | ⟨k1, k2, h'⟩
    · rw [h1] at k1; cases k1
    · exact absurd h2 k2
    · have hfull : ∀ g, matchL (matchT names n) (noNm want) (noNm have_) (fun _ => none) = some g → matchL (matchT names n) ((noNm want).take want.length) ((noNm have_).take want.length) (fun _ => none) = some g := fun g hg => by
        rw [List.take_of_length_le (by rw [noNm_len]; exact Nat.le_refl _), List.take_of_length_le (by rw [noNm_len]; omega)]
        exact hg
      rcases h with ⟨g, x, y, hx, hy, hg, hm, rfl, rfl⟩ | ⟨g, hg, rfl, rfl, rfl⟩
      · rcases h' with ⟨g', x', y', hx', hy', hg', hm', rfl, rfl⟩ | ⟨g', hg', rfl, rfl, rfl⟩
        · rcases Nat.lt_trichotomy a a' with h | h | h
          · exact (fnd_bad h2.2 hx hy hg hm h hg').elim
          · exact ⟨h, rfl, rfl⟩
          · exact (fnd_bad h2.2 hx' hy' hg' hm' h hg).elim
        · exact (fnd_bad h2.2 hx hy hg hm (List.getElem?_eq_some_iff.1 hx).1 (hfull _ hg')).elim
      · rcases h' with ⟨g', x', y', hx', hy', hg', hm', rfl, rfl⟩ | ⟨g', hg', rfl, rfl, rfl⟩
        · exact (fnd_bad h2.2 hx' hy' hg' hm' (List.getElem?_eq_some_iff.1 hx').1 (hfull _ hg)).elim
        · rw [hg] at hg'
          cases hg'
          exact ⟨rfl, rfl, rfl⟩
def okP (p : Ty) : Bool := decide (p.kind = 12) && soundT p
/-- What is found, if it fits. -/
def InfG (names : List ByteArray) (params want : List Ty) (g : ByteArray → Option Ty) (l : List Ty) (at_ : Nat) (e : Int) : Prop :=
  (∃ s, names[at_]? = some s ∧ isAt g s = false ∧ (∀ j < at_, ∀ s', names[j]? = some s' → isAt g s' = true) ∧ l = [] ∧ e = 12) ∨
  ((∀ s ∈ names, isAt g s = true) ∧
    ((∃ i p, params[i]? = some p ∧ meetsT (tyAt g p.name) p.con = false ∧ (∀ j < i, ∀ p', params[j]? = some p' → meetsT (tyAt g p'.name) p'.con = true) ∧ l = [] ∧ at_ = want.length + i ∧ e = 9) ∨
     ((∀ p ∈ params, meetsT (tyAt g p.name) p.con = true) ∧ l = names.map (tyAt g) ∧ at_ = 0 ∧ e = 0)))
theorem first_one {α : Type} {l : List α} {p : α → Bool} {i j : Nat} {x y : α} (hx : l[i]? = some x) (hpx : p x = false) (hi : ∀ k < i, ∀ z, l[k]? = some z → p z = true) (hy : l[j]? = some y) (hpy : p y = false) (hj : ∀ k < j, ∀ z, l[k]? = some z → p z = true) : i = j := by
  rcases Nat.lt_trichotomy i j with h | h | h
  · rw [hj i h x hx] at hpx; cases hpx
  · exact h
  · rw [hi j h y hy] at hpy; cases hpy
theorem InfG.one {names : List ByteArray} {params want : List Ty} {g : ByteArray → Option Ty} {l l' : List Ty} {a a' : Nat} {e e' : Int} (h : InfG names params want g l a e) (h' : InfG names params want g l' a' e') : l = l' ∧ a = a' ∧ e = e' := by
  rcases h with ⟨s, h1, h2, h3, rfl, rfl⟩ | ⟨h1, h⟩
  · rcases h' with ⟨s', k1, k2, k3, rfl, rfl⟩ | ⟨k1, _⟩
    · exact ⟨rfl, first_one h1 h2 h3 k1 k2 k3, rfl⟩
    · rw [k1 s (List.mem_of_getElem? h1)] at h2; cases h2
  · rcases h' with ⟨s', k1, k2, k3, rfl, rfl⟩ | ⟨k1, h'⟩
    · rw [h1 s' (List.mem_of_getElem? k1)] at k2; cases k2
    · rcases h with ⟨i, p, h2, h3, h4, rfl, rfl, rfl⟩ | ⟨h2, rfl, rfl, rfl⟩
      · rcases h' with ⟨i', p', k2, k3, k4, rfl, rfl, rfl⟩ | ⟨k2, rfl, rfl, rfl⟩
        · exact ⟨rfl, by rw [first_one (p := fun p => meetsT (tyAt g p.name) p.con) h2 h3 h4 k2 k3 k4], rfl⟩
        · rw [k2 p (List.mem_of_getElem? h2)] at h3; cases h3
      · rcases h' with ⟨i', p', k2, k3, k4, rfl, rfl, rfl⟩ | ⟨k2, rfl, rfl, rfl⟩
        · rw [h2 p' (List.mem_of_getElem? k2)] at k3; cases k3
        · exact ⟨rfl, rfl, rfl⟩
/-- What Infer answers. -/
def InfP (n : Nat) (params want have_ : List Ty) (l : List Ty) (at_ : Nat) (e : Int) : Prop :=
  (params.all okP = false ∧ l = [] ∧ at_ = 0 ∧ e = 1) ∨
  (params.all okP = true ∧ ∃ a1 e1 og, FndP n (params.map Ty.name) want have_ a1 e1 og ∧ ((og = none ∧ l = [] ∧ at_ = a1 ∧ e = e1) ∨ ∃ g, og = some g ∧ InfG (params.map Ty.name) params want g l at_ e))
theorem InfP.one {n : Nat} {params want have_ : List Ty} {l l' : List Ty} {a a' : Nat} {e e' : Int} (h : InfP n params want have_ l a e) (h' : InfP n params want have_ l' a' e') : l = l' ∧ a = a' ∧ e = e' := by
  rcases h with ⟨h1, rfl, rfl, rfl⟩ | ⟨h1, a1, e1, og, h2, h⟩
  · rcases h' with ⟨k1, rfl, rfl, rfl⟩ | ⟨k1, _⟩
    · exact ⟨rfl, rfl, rfl⟩
    · rw [h1] at k1; cases k1
  · rcases h' with ⟨k1, rfl, rfl, rfl⟩ | ⟨k1, a2, e2, og', k2, h'⟩
    · rw [h1] at k1; cases k1
    · obtain ⟨rfl, rfl, rfl⟩ := h2.one k2
      rcases h with ⟨h3, rfl, rfl, rfl⟩ | ⟨g, h3, h4⟩
      · rcases h' with ⟨k3, rfl, rfl, rfl⟩ | ⟨g', k3, k4⟩
        · exact ⟨rfl, rfl, rfl⟩
        · rw [h3] at k3; cases k3
      · rcases h' with ⟨k3, rfl, rfl, rfl⟩ | ⟨g', k3, k4⟩
        · rw [h3] at k3; cases k3
        · rw [h3] at k3
          cases k3
          exact h4.one k4
/-- Types that are found for names in sound lists are sound. -/
theorem found_sound {n : Nat} {names : List ByteArray} {want have_ : List Ty} {g : ByteArray → Option Ty} (hs : (want ++ have_).all soundT = true) (h : matchL (matchT names n) (noNm want) (noNm have_) (fun _ => none) = some g) : ∀ s u, g s = some u → soundT u = true := by
  have hall : ∀ p ∈ noNm have_, (lookT 9 p.2).isSome = true := fun p hp => by
    obtain ⟨t, ht, rfl⟩ := List.mem_map.1 hp
    exact List.all_eq_true.1 hs t (List.mem_append.2 (.inr ht))
  have h0 : ∀ s u, (fun _ => none : ByteArray → Option Ty) s = some u → soundT u = true := fun _ _ h => by cases h
  generalize (fun _ => none : ByteArray → Option Ty) = g0 at h h0
  generalize noNm want = l at h
  generalize noNm have_ = m at h hall
  induction l generalizing m g0 with
  | nil =>
    cases m with
    | nil => rw [matchL] at h; cases h; exact h0
    | cons q m => rw [matchL] at h; cases h
  | cons p l IH =>
    cases m with
    | nil => rw [matchL] at h; cases h
    | cons q m =>
      rw [matchL] at h
      split at h
      · split at h
        · rename_i g1 hg1
          apply IH g1 (match_sound n 9 p.2 q.2 g0 g1 (Nat.le_refl _) (hall q (by simp)) h0 hg1) m <;> first | exact h | exact fun x hx => hall x (by simp [hx])
        · cases h
      · cases h
theorem infP_len {n : Nat} {params want have_ : List Ty} {l : List Ty} {a : Nat} {e : Int} (h : InfP n params want have_ l a e) (hp : params.length ≤ 1048576) : l.length ≤ 1048576 := by
  rcases h with ⟨_, rfl, _⟩ | ⟨_, a1, e1, og, _, h⟩
  · simp
  · rcases h with ⟨_, rfl, _⟩ | ⟨g, _, h⟩
    · simp
    · rcases h with ⟨s, _, _, _, rfl, _⟩ | ⟨_, h⟩
      · simp
      · rcases h with ⟨i, p, _, _, _, rfl, _⟩ | ⟨_, rfl, _⟩
        · simp
        · simpa using hp
end Go.Proofs.YtgemacdnncjmdaaDoor
