/-
  Types laid on types: what names stand for (plain data).
-/
import Derived.Test.YtgemacdnncjmdaaDoorTyN
namespace Go.Proofs.YtgemacdnncjmdaaDoor
set_option linter.unusedVariables false
set_option linter.unusedSimpArgs false

noncomputable def updT (g : ByteArray → Option Ty) (s : ByteArray) (t : Ty) : ByteArray → Option Ty := fun x => if eqB x s then some t else g x
theorem updT_same (g : ByteArray → Option Ty) (s : ByteArray) (t : Ty) : updT g s t s = some t := by simp [updT, eqB_self]
theorem updT_other (g : ByteArray → Option Ty) {s x : ByteArray} (t : Ty) (h : x ≠ s) : updT g s t x = g x := by simp [updT, eqB_false.2 h]
/-- Rows of types with names, one after the other. -/
noncomputable def matchL (f : Ty → Ty → (ByteArray → Option Ty) → Option (ByteArray → Option Ty)) : List (ByteArray × Ty) → List (ByteArray × Ty) → (ByteArray → Option Ty) → Option (ByteArray → Option Ty)
  | [], [], g => some g
  | p :: l, q :: m, g => if eqB p.1 q.1 = true then (match f p.2 q.2 g with
      | some g' => matchL f l m g'
      | none => none) else none
  | [], _ :: _, _ => none
  | _ :: _, [], _ => none
def noNm (l : List Ty) : List (ByteArray × Ty) := l.map fun t => (ByteArray.empty, t)
def Ty.innerN (t : Ty) : List (ByteArray × Ty) := t.fields ++ noNm t.list ++ noNm t.res
noncomputable def headB (a b : Ty) : Bool := decide (a.kind = b.kind) && eqB a.name b.name && decide (a.con = b.con) && decide (a.fields.length = b.fields.length) && decide (a.list.length = b.list.length) && decide (a.res.length = b.res.length)
theorem headB_true {a b : Ty} : headB a b = true ↔ a.kind = b.kind ∧ a.name = b.name ∧ a.con = b.con ∧ a.fields.length = b.fields.length ∧ a.list.length = b.list.length ∧ a.res.length = b.res.length := by
  unfold headB
  simp only [Bool.and_eq_true, decide_eq_true_eq, eqB_true, and_assoc]
/-- A type that is wanted on one that is had. -/
noncomputable def matchT (names : List ByteArray) : Nat → Ty → Ty → (ByteArray → Option Ty) → Option (ByteArray → Option Ty)
  | 0, _, _, _ => none
  | n + 1, a, b, g => @ite _ (a.kind = 12 ∧ a.name ∈ names) (Classical.propDecidable _) (match g a.name with
      | some x => if eqB x b = true then some g else none
      | none => some (updT g a.name b))
    <| if headB a b = true then matchL (matchT names n) a.innerN b.innerN g else none
/-- No deeper than n. -/
def deepT : Nat → Ty → Prop
  | 0, _ => False
  | n + 1, t => ∀ p ∈ t.innerN, deepT n p.2
theorem innerN_len (t : Ty) : t.innerN.length = t.fields.length + t.list.length + t.res.length := by simp [Ty.innerN, noNm, Nat.add_assoc]
theorem matchL_len {f : Ty → Ty → (ByteArray → Option Ty) → Option (ByteArray → Option Ty)} : ∀ {l m : List (ByteArray × Ty)} {g g' : ByteArray → Option Ty}, matchL f l m g = some g' → l.length = m.length
  | [], [], _, _, _ => rfl
  | p :: l, q :: m, g, g', h => by
    rw [matchL] at h
    split at h
    · split at h
      · simp [matchL_len h]
      · cases h
    · cases h
  | [], _ :: _, _, _, h => by rw [matchL] at h; cases h
  | _ :: _, [], _, _, h => by rw [matchL] at h; cases h
theorem matchL_app {f : Ty → Ty → (ByteArray → Option Ty) → Option (ByteArray → Option Ty)} : ∀ {l m l2 m2 : List (ByteArray × Ty)} {g : ByteArray → Option Ty}, l.length = m.length → matchL f (l ++ l2) (m ++ m2) g = match matchL f l m g with
    | some g' => matchL f l2 m2 g'
    | none => none
  | [], [], l2, m2, g, _ => by simp [matchL]
  | p :: l, q :: m, l2, m2, g, h => by
    simp only [List.cons_append, matchL]
    split
    · cases f p.2 q.2 g with
      | none => rfl
      | some g' => exact matchL_app (by simpa using h)
    · rfl
  | [], _ :: _, _, _, _, h => by simp at h
  | _ :: _, [], _, _, _, h => by simp at h
/-- One more pair behind. -/
theorem matchL_snoc {f : Ty → Ty → (ByteArray → Option Ty) → Option (ByteArray → Option Ty)} {l m : List (ByteArray × Ty)} {p q : ByteArray × Ty} {g : ByteArray → Option Ty} (h : l.length = m.length) : matchL f (l ++ [p]) (m ++ [q]) g = match matchL f l m g with
    | some g' => if eqB p.1 q.1 = true then f p.2 q.2 g' else none
    | none => none := by
  rw [matchL_app h]
  cases matchL f l m g with
  | none => rfl
  | some g' =>
    simp only [matchL]
    split
    · cases f p.2 q.2 g' with
      | none => rfl
      | some g'' => rfl
    · rfl
/-- A beginning that does not match spoils all. -/
theorem matchL_bad {f : Ty → Ty → (ByteArray → Option Ty) → Option (ByteArray → Option Ty)} {l m : List (ByteArray × Ty)} {g : ByteArray → Option Ty} {k : Nat} (hk : k ≤ l.length) (hlm : l.length = m.length) (h : matchL f (l.take k) (m.take k) g = none) : matchL f l m g = none := by
  rw [← List.take_append_drop k l, ← List.take_append_drop k m, matchL_app (by rw [List.length_take, List.length_take, hlm]), h]
theorem matchL_nlen {f : Ty → Ty → (ByteArray → Option Ty) → Option (ByteArray → Option Ty)} {l m : List (ByteArray × Ty)} {g : ByteArray → Option Ty} (h : l.length ≠ m.length) : matchL f l m g = none := by
  cases hm : matchL f l m g with
  | none => rfl
  | some g' => exact absurd (matchL_len hm) h

/-! ## Laws -/
theorem matchL_le {f : Ty → Ty → (ByteArray → Option Ty) → Option (ByteArray → Option Ty)} {Q : (ByteArray → Option Ty) → (ByteArray → Option Ty) → Prop} (hr : ∀ g, Q g g) (ht : ∀ g g' g'', Q g g' → Q g' g'' → Q g g'') :
    ∀ {l m : List (ByteArray × Ty)} {g g' : ByteArray → Option Ty}, (∀ p ∈ l, ∀ b g g', f p.2 b g = some g' → Q g g') → matchL f l m g = some g' → Q g g'
  | [], [], g, g', _, h => by rw [matchL] at h; injection h with h; subst h; exact hr _
  | p :: l, q :: m, g, g', hf, h => by
    rw [matchL] at h
    split at h
    · cases hm : f p.2 q.2 g with
      | none => rw [hm] at h; cases h
      | some g1 =>
        rw [hm] at h
        exact ht _ _ _ (hf p (by simp) _ _ _ hm) (matchL_le hr ht (fun p hp => hf p (by simp [hp])) h)
    · cases h
  | [], _ :: _, _, _, _, h => by rw [matchL] at h; cases h
  | _ :: _, [], _, _, _, h => by rw [matchL] at h; cases h
/-- What was known stays; what is known besides are names. -/
def LeQ (names : List ByteArray) (g g' : ByteArray → Option Ty) : Prop := (∀ s u, g s = some u → g' s = some u) ∧ ∀ s u, g' s = some u → g s = some u ∨ s ∈ names
theorem LeQ.refl (names : List ByteArray) (g : ByteArray → Option Ty) : LeQ names g g := ⟨fun _ _ h => h, fun _ _ h => .inl h⟩
theorem LeQ.trans {names : List ByteArray} {g g' g'' : ByteArray → Option Ty} (h : LeQ names g g') (k : LeQ names g' g'') : LeQ names g g'' :=
  ⟨fun s u hs => k.1 s u (h.1 s u hs), fun s u hs => (k.2 s u hs).elim (fun h' => h.2 s u h') .inr⟩
theorem match_le {names : List ByteArray} : ∀ {n : Nat} {a b : Ty} {g g' : ByteArray → Option Ty}, matchT names n a b g = some g' → LeQ names g g'
  | 0, _, _, _, _, h => by rw [matchT] at h; cases h
  | n + 1, a, b, g, g', h => by
    rw [matchT] at h
    split at h
    · rename_i hk
      cases hg : g a.name with
      | some x =>
        rw [hg] at h
        simp only [] at h
        split at h
        · injection h with h; subst h; exact LeQ.refl _ _
        · cases h
      | none =>
        rw [hg] at h
        injection h with h
        subst h
        refine ⟨fun s u hs => ?_, fun s u hs => ?_⟩
        · rw [updT_other _ _ (fun e => by subst e; rw [hg] at hs; cases hs)]
          exact hs
        · by_cases he : s = a.name
          · subst he; exact .inr hk.2
          · rw [updT_other _ _ he] at hs
            exact .inl hs
    · split at h
      · exact matchL_le (LeQ.refl names) (fun _ _ _ => LeQ.trans) (fun p _ b g g' h => match_le h) h
      · cases h
theorem matchL_fill {f : Ty → Ty → (ByteArray → Option Ty) → Option (ByteArray → Option Ty)} {names : List ByteArray} {h : ByteArray → Option Ty} (hle : ∀ a b g g', f a b g = some g' → LeQ names g g') (hfill : ∀ a b g g', f a b g = some g' → (∀ s u, g' s = some u → h s = some u) → a.fill h = b) :
    ∀ {l m : List (ByteArray × Ty)} {g g' : ByteArray → Option Ty}, matchL f l m g = some g' → (∀ s u, g' s = some u → h s = some u) → l.map (fun p => (p.1, p.2.fill h)) = m
  | [], [], g, g', _, _ => rfl
  | p :: l, q :: m, g, g', hm, hh => by
    rw [matchL] at hm
    split at hm
    · rename_i he
      cases hf : f p.2 q.2 g with
      | none => rw [hf] at hm; cases hm
      | some g1 =>
        rw [hf] at hm
        have h1 := matchL_fill hle hfill hm hh
        have h2 : LeQ names g1 g' := matchL_le (LeQ.refl names) (fun _ _ _ => LeQ.trans) (fun p _ b g g' h => hle _ _ _ _ h) hm
        have h3 := hfill _ _ _ _ hf fun s u hs => hh s u (h2.1 s u hs)
        rw [List.map_cons, h1, h3, eqB_true.1 he]
    · cases hm
  | [], _ :: _, _, _, h, _ => by rw [matchL] at h; cases h
  | _ :: _, [], _, _, h, _ => by rw [matchL] at h; cases h
theorem noNm_map (l : List Ty) (h : Ty → Ty) : (noNm l).map (fun p => (p.1, h p.2)) = noNm (l.map h) := by simp [noNm]
theorem noNm_inj {l m : List Ty} (h : noNm l = noNm m) : l = m := by
  have := congrArg (List.map fun p : ByteArray × Ty => p.2) h
  simpa [noNm, List.map_map, Function.comp_def] using this
/-- With what is found in their places, what was wanted is what was had. -/
theorem match_fill {names : List ByteArray} {h : ByteArray → Option Ty} (hn : ∀ s, s ∉ names → h s = none) : ∀ {n : Nat} {a b : Ty} {g g' : ByteArray → Option Ty}, matchT names n a b g = some g' → (∀ s u, g' s = some u → h s = some u) → a.fill h = b
  | 0, _, _, _, _, hm, _ => by rw [matchT] at hm; cases hm
  | n + 1, .mk k nm c fs l r, b, g, g', hm, hh => by
    rw [matchT] at hm
    split at hm
    · rename_i hk
      have hk1 : k = 12 := hk.1
      rw [Ty.fill_eq, if_pos hk1]
      have hgo : h nm = some b := by
        cases hg : g nm with
        | some x =>
          rw [show (Ty.mk k nm c fs l r).name = nm from rfl, hg] at hm
          simp only [] at hm
          split at hm
          · rename_i he
            injection hm with hm
            subst hm
            rw [← eqB_true.1 he]
            exact hh _ _ hg
          · cases hm
        | none =>
          rw [show (Ty.mk k nm c fs l r).name = nm from rfl, hg] at hm
          injection hm with hm
          subst hm
          exact hh _ _ (updT_same _ _ _)
      rw [hgo]
    · rename_i hk
      split at hm
      · rename_i hhd
        have hmiss : (if k = 12 then h nm else none) = none := by
          by_cases h12 : k = 12
          · rw [if_pos h12]
            exact hn nm fun hx => hk ⟨h12, hx⟩
          · rw [if_neg h12]
        rw [Ty.fill_eq, hmiss]
        obtain ⟨e1, e2, e3, e4, e5, e6⟩ := headB_true.1 hhd
        have hx := matchL_fill (fun a b g g' h => match_le h) (fun a b g g' h1 h2 => match_fill hn h1 h2) hm hh
        obtain ⟨k', nm', c', fs', l', r'⟩ := b
        simp only [Ty.innerN, List.map_append, Ty.fields, Ty.list, Ty.res, Ty.kind, Ty.name, Ty.con] at hx e1 e2 e3 e4 e5 e6
        rw [noNm_map l, noNm_map r] at hx
        obtain ⟨h1, h2⟩ := List.append_inj hx (by simp [noNm, e4, e5])
        obtain ⟨h3, h4⟩ := List.append_inj h1 (by simp [e4])
        subst e1 e2 e3
        rw [h3, noNm_inj h4, noNm_inj h2]
      · cases hm
theorem deepT_mono : ∀ {n m : Nat} {t : Ty}, n ≤ m → deepT n t → deepT m t
  | 0, _, _, _, h => h.elim
  | n + 1, 0, _, h, _ => absurd h (by omega)
  | n + 1, m + 1, t, h, ht => fun p hp => deepT_mono (by omega) (ht p hp)
theorem matchL_self {f : Ty → Ty → (ByteArray → Option Ty) → Option (ByteArray → Option Ty)} {g : ByteArray → Option Ty} : ∀ {l : List (ByteArray × Ty)}, (∀ p ∈ l, f p.2 p.2 g = some g) → matchL f l l g = some g
  | [], _ => by rw [matchL]
  | p :: l, h => by
    rw [matchL, if_pos (eqB_self _), h p (by simp)]
    exact matchL_self fun p hp => h p (by simp [hp])
theorem match_self : ∀ {n : Nat} {a : Ty} {g : ByteArray → Option Ty}, deepT n a → matchT [] n a a g = some g
  | 0, _, _, h => h.elim
  | n + 1, a, g, h => by
    rw [matchT, if_neg (by simp), if_pos (headB_true.2 ⟨rfl, rfl, rfl, rfl, rfl, rfl⟩)]
    exact matchL_self fun p hp => match_self (h p hp)
/-- Without names: the same or not. -/
theorem match_plain {n : Nat} {a b : Ty} (h : deepT n a) : (matchT [] n a b fun _ => none).isSome = eqB a b := by
  by_cases he : a = b
  · subst he
    rw [match_self h, eqB_self]
    rfl
  · rw [eqB_false.2 he]
    cases hm : matchT [] n a b (fun _ => none) with
    | none => rfl
    | some g' =>
      have h1 := match_fill (h := fun _ => none) (fun _ _ => rfl) hm fun s u hs => ((match_le hm).2 s u hs).elim id fun hx => by cases hx
      rw [Ty.fill_none] at h1
      exact absurd h1 he
/-- A parameter of that name stands in it. -/
def inT : Nat → ByteArray → Ty → Prop
  | 0, _, _ => False
  | n + 1, s, t => (t.kind = 12 ∧ s = t.name) ∨ ∃ p ∈ t.innerN, inT n s p.2
/-- Parameters have nothing in them. -/
def goodT : Nat → Ty → Prop
  | 0, _ => False
  | n + 1, t => (t.kind = 12 → t.innerN = []) ∧ ∀ p ∈ t.innerN, goodT n p.2
theorem lookL_mem {g : Ty → Option (Nat × Nat)} {l : List Ty} {q : Nat × Nat} (h : lookL g l = some q) : ∀ t ∈ l, (g t).isSome = true := by
  intro t ht
  cases hg : g t with
  | some _ => rfl
  | none =>
    obtain ⟨k, hk, hk2⟩ := List.mem_iff_getElem.1 ht
    rw [lookL_bad (k := k) (by rw [List.getElem?_eq_getElem hk, hk2]) hg] at h
    cases h
theorem innerN_snd (t : Ty) : t.innerN.map (fun p => p.2) = t.inner := by
  simp [Ty.innerN, Ty.inner, noNm, List.map_map, Function.comp_def]
theorem innerN_mem {t : Ty} {p : ByteArray × Ty} (h : p ∈ t.innerN) : p.2 ∈ t.inner := by
  rw [← innerN_snd]
  exact List.mem_map.2 ⟨p, h, rfl⟩
theorem look_shape {f : Nat} {t : Ty} (h : (lookT (f + 1) t).isSome = true) : shapeT t = true ∧ ∀ x ∈ t.inner, (lookT f x).isSome = true := by
  rw [lookT] at h
  split at h
  · rename_i hs
    refine ⟨hs, fun x hx => ?_⟩
    cases hl : lookL (lookT f) t.inner with
    | none => rw [hl] at h; cases h
    | some q => exact lookL_mem hl x hx
  · cases h
theorem shape_param {t : Ty} (h : shapeT t = true) (hk : t.kind = 12) : t.innerN = [] := by
  unfold shapeT at h
  rw [if_neg (by omega), if_neg (by omega), if_neg (by omega), if_pos hk] at h
  simp only [bare, Bool.and_eq_true, Bool.or_eq_true, decide_eq_true_eq, Bool.true_or, Bool.false_or] at h
  have h1 : t.fields.length = 0 := by simpa using h.1.1.1.1.2
  have h2 : t.list.length = 0 := by simpa using h.1.1.1.2
  have h3 : t.res.length = 0 := by simpa using h.1.1.2
  have := innerN_len t
  exact List.eq_nil_of_length_eq_zero (by omega)
theorem good_of : ∀ {n f : Nat} {t : Ty}, deepT n t → (lookT f t).isSome = true → goodT n t
  | 0, _, _, h, _ => h.elim
  | n + 1, 0, _, _, h => by rw [lookT] at h; cases h
  | n + 1, f + 1, t, h, hl => by
    obtain ⟨h1, h2⟩ := look_shape hl
    exact ⟨shape_param h1, fun p hp => good_of (h p hp) (h2 _ (innerN_mem hp))⟩
/-- What was put in is found again. -/
def BackQ (f g g' : ByteArray → Option Ty) (I : ByteArray → Prop) : Prop := ∀ s, (I s → g' s = f s) ∧ (¬ I s → g' s = g s)
theorem BackQ.le {f g g' : ByteArray → Option Ty} {I : ByteArray → Prop} (h : BackQ f g g' I) (hg : ∀ s u, g s = some u → f s = some u) : ∀ s u, g' s = some u → f s = some u := fun s u hs => by
  by_cases hi : I s
  · rw [← (h s).1 hi]; exact hs
  · exact hg s u (by rw [← (h s).2 hi]; exact hs)
theorem matchL_back {f : ByteArray → Option Ty} {n : Nat} {names : List ByteArray} (hrec : ∀ (t : Ty) (g : ByteArray → Option Ty), goodT n t → (∀ s u, g s = some u → f s = some u) → ∃ g', matchT names n t (t.fill f) g = some g' ∧ BackQ f g g' fun s => inT n s t) :
    ∀ (l : List (ByteArray × Ty)) (g : ByteArray → Option Ty), (∀ p ∈ l, goodT n p.2) → (∀ s u, g s = some u → f s = some u) → ∃ g', matchL (matchT names n) l (l.map fun p => (p.1, p.2.fill f)) g = some g' ∧ BackQ f g g' fun s => ∃ p ∈ l, inT n s p.2
  | [], g, _, _ => ⟨g, by rw [List.map_nil, matchL], fun s => ⟨fun ⟨p, hp, _⟩ => by (cases hp), fun _ => rfl⟩⟩
  | p :: l, g, hl, hg => by
    obtain ⟨g1, h1, h2⟩ := hrec p.2 g (hl p (by simp)) hg
    obtain ⟨g2, h3, h4⟩ := matchL_back hrec l g1 (fun p hp => hl p (by simp [hp])) (h2.le hg)
    refine ⟨g2, ?_, fun s => ⟨fun ⟨q, hq, hi⟩ => ?_, fun hi => ?_⟩⟩
    · rw [List.map_cons, matchL, if_pos (eqB_self _)]
      simp only [h1]
      exact h3
    · by_cases hr : ∃ p ∈ l, inT n s p.2
      · exact (h4 s).1 hr
      · rw [(h4 s).2 hr]
        rcases List.mem_cons.1 hq with rfl | hq
        · exact (h2 s).1 hi
        · exact absurd ⟨q, hq, hi⟩ hr
    · rw [(h4 s).2 fun ⟨q, hq, hr⟩ => hi ⟨q, by simp [hq], hr⟩]
      exact (h2 s).2 fun hr => hi ⟨p, by simp, hr⟩
theorem match_back {f : ByteArray → Option Ty} {names : List ByteArray} (hf : ∀ s, (f s).isSome = true ↔ s ∈ names) : ∀ (n : Nat) (t : Ty) (g : ByteArray → Option Ty), goodT n t → (∀ s u, g s = some u → f s = some u) → ∃ g', matchT names n t (t.fill f) g = some g' ∧ BackQ f g g' fun s => inT n s t
  | 0, _, _, h, _ => h.elim
  | n + 1, .mk k nm c fs l r, g, ht, hg => by
    rw [matchT, Ty.fill_eq]
    by_cases hk : k = 12 ∧ nm ∈ names
    · rw [if_pos (show (Ty.mk k nm c fs l r).kind = 12 ∧ (Ty.mk k nm c fs l r).name ∈ names from hk), if_pos hk.1]
      have hin : ∀ s, inT (n + 1) s (.mk k nm c fs l r) ↔ s = nm := fun s => by
        constructor
        · rintro (⟨_, h⟩ | ⟨p, hp, _⟩)
          · exact h
          · rw [ht.1 hk.1] at hp; cases hp
        · exact fun h => .inl ⟨hk.1, h⟩
      obtain ⟨u, hu⟩ := Option.isSome_iff_exists.1 ((hf nm).2 hk.2)
      rw [show (Ty.mk k nm c fs l r).name = nm from rfl, hu]
      cases hgn : g nm with
      | some x =>
        have : x = u := by have := hg _ _ hgn; rw [hu] at this; injection this with this; exact this.symm
        subst this
        refine ⟨g, by simp [eqB_self], fun s => ⟨fun hi => ?_, fun _ => rfl⟩⟩
        rw [(hin s).1 hi, hgn, hu]
      | none =>
        refine ⟨_, rfl, fun s => ⟨fun hi => ?_, fun hi => ?_⟩⟩
        · rw [(hin s).1 hi, updT_same, hu]
        · exact updT_other _ _ fun e => hi ((hin s).2 e)
    · rw [if_neg (show ¬ ((Ty.mk k nm c fs l r).kind = 12 ∧ (Ty.mk k nm c fs l r).name ∈ names) from hk)]
      have hmiss : (if k = 12 then f nm else none) = none := by
        by_cases h12 : k = 12
        · rw [if_pos h12]
          cases hn : f nm with
          | none => rfl
          | some u => exact absurd ⟨h12, (hf nm).1 (by rw [hn]; rfl)⟩ hk
        · rw [if_neg h12]
      rw [hmiss]
      simp only []
      have hh : headB (.mk k nm c fs l r) (.mk k nm c (fs.map fun p => (p.1, p.2.fill f)) (l.map (Ty.fill f)) (r.map (Ty.fill f))) = true := headB_true.2 ⟨rfl, rfl, rfl, by simp [Ty.fields], by simp [Ty.list], by simp [Ty.res]⟩
      rw [if_pos hh]
      obtain ⟨g', h1, h2⟩ := matchL_back (fun t g => match_back hf n t g) (Ty.mk k nm c fs l r).innerN g ht.2 hg
      refine ⟨g', ?_, fun s => ⟨fun hi => ?_, fun hi => ?_⟩⟩
      · rw [← h1]
        congr 1
        simp [Ty.innerN, Ty.fields, Ty.list, Ty.res, noNm, List.map_map, Function.comp_def]
      · rcases hi with ⟨h12, hs⟩ | hi
        · have h12' : k = 12 := h12
          have hs' : s = nm := hs
          rw [hs']
          have hfn : f nm = none := by rw [if_pos h12'] at hmiss; exact hmiss
          have hx : ∀ s, ¬ ∃ p ∈ (Ty.mk k nm c fs l r).innerN, inT n s p.2 := fun s ⟨p, hp, _⟩ => by rw [ht.1 h12'] at hp; cases hp
          rw [(h2 _).2 (hx _)]
          show g nm = f nm
          rw [hfn]
          cases hgn : g nm with
          | none => rfl
          | some u => have := hg _ _ hgn; rw [hfn] at this; cases this
        · exact (h2 s).1 hi
      · exact (h2 s).2 fun h => hi (.inr h)

/-! ## The names of parameters in a type, in order -/
noncomputable def addT (l : List ByteArray) (s : ByteArray) : List ByteArray := @ite _ (s ∈ l) (Classical.propDecidable _) l (l ++ [s])
theorem addT_in {l : List ByteArray} {s : ByteArray} (h : s ∈ l) : addT l s = l := by unfold addT; rw [if_pos h]
theorem addT_out {l : List ByteArray} {s : ByteArray} (h : s ∉ l) : addT l s = l ++ [s] := by unfold addT; rw [if_neg h]
noncomputable def holesT : Nat → Ty → List ByteArray → List ByteArray
  | 0, _, l => l
  | n + 1, t, l => t.inner.foldl (fun l x => holesT n x l) (if t.kind = 12 then addT l t.name else l)
theorem mem_addT {l : List ByteArray} {s x : ByteArray} : x ∈ addT l s ↔ x ∈ l ∨ x = s := by
  by_cases h : s ∈ l
  · rw [addT_in h]
    exact ⟨.inl, fun h' => h'.elim id fun e => e ▸ h⟩
  · rw [addT_out h]
    simp
theorem foldl_mem {n : Nat} (h : ∀ (t : Ty) (l : List ByteArray) (s : ByteArray), s ∈ holesT n t l ↔ s ∈ l ∨ inT n s t) : ∀ (ts : List Ty) (l : List ByteArray) (s : ByteArray), s ∈ ts.foldl (fun l x => holesT n x l) l ↔ s ∈ l ∨ ∃ t ∈ ts, inT n s t
  | [], l, s => by simp
  | t :: ts, l, s => by
    rw [List.foldl_cons, foldl_mem h ts, h]
    simp [or_assoc]
theorem mem_holes : ∀ (n : Nat) (t : Ty) (l : List ByteArray) (s : ByteArray), s ∈ holesT n t l ↔ s ∈ l ∨ inT n s t
  | 0, t, l, s => by simp [holesT, inT]
  | n + 1, t, l, s => by
    rw [holesT, foldl_mem (mem_holes n), inT]
    have hx : (∃ x ∈ t.inner, inT n s x) ↔ ∃ p ∈ t.innerN, inT n s p.2 := by
      rw [← innerN_snd]
      constructor
      · rintro ⟨x, hx, hi⟩
        obtain ⟨p, hp, rfl⟩ := List.mem_map.1 hx
        exact ⟨p, hp, hi⟩
      · rintro ⟨p, hp, hi⟩
        exact ⟨p.2, List.mem_map.2 ⟨p, hp, rfl⟩, hi⟩
    rw [hx]
    by_cases hk : t.kind = 12
    · rw [if_pos hk, mem_addT]
      simp [hk, or_assoc]
    · rw [if_neg hk]
      simp [hk]
end Go.Proofs.YtgemacdnncjmdaaDoor
