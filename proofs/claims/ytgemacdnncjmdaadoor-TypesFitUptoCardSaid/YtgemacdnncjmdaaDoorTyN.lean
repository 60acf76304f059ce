/-
  Types as plain data: what is in them, when they are sound, what filling them gives.
-/
import Derived.Laws.RangeAny
import Derived.Lib.ValidLaws
namespace Go.Proofs.YtgemacdnncjmdaaDoor
set_option linter.unusedVariables false
set_option linter.unusedSimpArgs false

inductive Ty where
  | mk (kind : Int) (name : ByteArray) (con : Int) (fields : List (ByteArray × Ty)) (list res : List Ty)
namespace Ty
def kind : Ty → Int | .mk k _ _ _ _ _ => k
def name : Ty → ByteArray | .mk _ n _ _ _ _ => n
def con : Ty → Int | .mk _ _ c _ _ _ => c
def fields : Ty → List (ByteArray × Ty) | .mk _ _ _ f _ _ => f
def list : Ty → List Ty | .mk _ _ _ _ l _ => l
def res : Ty → List Ty | .mk _ _ _ _ _ r => r
/-- The types in a type, in order. -/
def inner (t : Ty) : List Ty := t.fields.map (fun p => p.2) ++ t.list ++ t.res
end Ty
theorem Ty.ind {P : Ty → Prop} (h : ∀ k n c fs l r, (∀ p : ByteArray × Ty, p ∈ fs → P p.2) → (∀ t ∈ l, P t) → (∀ t ∈ r, P t) → P (.mk k n c fs l r)) (t : Ty) : P t :=
  Ty.rec (motive_1 := P) (motive_2 := fun fs => ∀ p : ByteArray × Ty, p ∈ fs → P p.2) (motive_3 := fun l => ∀ t ∈ l, P t) (motive_4 := fun p => P p.2)
    (fun k n c fs l r h1 h2 h3 => h k n c fs l r h1 h2 h3) (fun p hp => by cases hp)
    (fun p l h1 h2 q hq => by
      rcases List.mem_cons.1 hq with rfl | hq
      · exact h1
      · exact h2 q hq)
    (fun p hp => by cases hp)
    (fun t l h1 h2 q hq => by
      rcases List.mem_cons.1 hq with rfl | hq
      · exact h1
      · exact h2 q hq) (fun _ _ h => h) t

/-- The same? -/
noncomputable def eqB {α : Type} (a b : α) : Bool := @decide (a = b) (Classical.propDecidable _)
theorem eqB_self {α : Type} (a : α) : eqB a a = true := by unfold eqB; simp
theorem eqB_true {α : Type} {a b : α} : eqB a b = true ↔ a = b := by unfold eqB; simp
theorem eqB_false {α : Type} {a b : α} : eqB a b = false ↔ a ≠ b := by unfold eqB; simp
theorem eqB_of {α : Type} {a b : α} (p : Prop) [Decidable p] (h : a = b ↔ p) : eqB a b = decide p := by
  by_cases hp : p
  · rw [decide_eq_true hp]; exact eqB_true.2 (h.2 hp)
  · rw [decide_eq_false hp]; exact eqB_false.2 fun he => hp (h.1 he)

theorem str_inj {a b : ByteArray} (h : a.toList = b.toList) : a = b := by
  rw [ByteArray.toList_eq, ByteArray.toList_eq] at h
  cases a
  cases b
  congr 1
  exact Array.ext' h
theorem str_eq {a b : ByteArray} (h : a = b) : (a.toList == b.toList) = true := by subst h; simp
theorem str_ne {a b : ByteArray} (h : a ≠ b) : (a.toList == b.toList) = false := by
  simp only [beq_eq_false_iff_ne]
  exact fun h' => h (str_inj h')

/-! ## What names stand for, put in -/
mutual
def Ty.fill (f : ByteArray → Option Ty) : Ty → Ty
  | .mk k n c fs l r => match (if k = 12 then f n else none) with
    | some t => t
    | none => .mk k n c (fillF f fs) (fillL f l) (fillL f r)
def fillL (f : ByteArray → Option Ty) : List Ty → List Ty
  | [] => []
  | t :: l => t.fill f :: fillL f l
def fillF (f : ByteArray → Option Ty) : List (ByteArray × Ty) → List (ByteArray × Ty)
  | [] => []
  | (n, t) :: l => (n, t.fill f) :: fillF f l
end
theorem fillL_map (f : ByteArray → Option Ty) (l : List Ty) : fillL f l = l.map (Ty.fill f) := by
  induction l with
  | nil => simp [fillL]
  | cons t l ih => simp [fillL, ih]
theorem fillF_map (f : ByteArray → Option Ty) (l : List (ByteArray × Ty)) : fillF f l = l.map (fun p => (p.1, p.2.fill f)) := by
  induction l with
  | nil => simp [fillF]
  | cons t l ih => obtain ⟨n, t⟩ := t; simp [fillF, ih]
theorem Ty.fill_eq (f : ByteArray → Option Ty) (k : Int) (n : ByteArray) (c : Int) (fs : List (ByteArray × Ty)) (l r : List Ty) : Ty.fill f (.mk k n c fs l r) = match (if k = 12 then f n else none) with
    | some t => t
    | none => .mk k n c (fs.map (fun p => (p.1, p.2.fill f))) (l.map (Ty.fill f)) (r.map (Ty.fill f)) := by
  rw [Ty.fill, fillF_map, fillL_map, fillL_map]
theorem Ty.fill_none (t : Ty) : t.fill (fun _ => none) = t := by
  induction t using Ty.ind with
  | h k n c fs l r h1 h2 h3 =>
    rw [Ty.fill_eq]
    simp only [ite_self]
    congr 1
    · have : ∀ p ∈ fs, ((p.1, p.2.fill fun _ => none) : ByteArray × Ty) = p := fun p hp => by rw [h1 p hp]
      exact (List.map_congr_left this).trans (List.map_id _)
    · exact (List.map_congr_left (g := id) fun t ht => h2 t ht).trans (List.map_id _)
    · exact (List.map_congr_left (g := id) fun t ht => h3 t ht).trans (List.map_id _)

/-! ## Names -/
def letterB (r : Nat) : Bool := decide ((65 ≤ r ∧ r ≤ 90) ∨ (97 ≤ r ∧ r ≤ 122) ∨ r = 95 ∨ (192 ≤ r ∧ r ≤ 591 ∧ r ≠ 215 ∧ r ≠ 247))
def digitB (r : Nat) : Bool := decide (48 ≤ r ∧ r ≤ 57)
/-- All characters from a place on are such as a name has; so many looks at most. -/
def runesOK (s : ByteArray) : Nat → Nat → Bool
  | 0, _ => true
  | n + 1, pos => if pos < s.size then (letterB (Utf8.decode s pos).1 || (decide (0 < pos) && digitB (Utf8.decode s pos).1)) && runesOK s n (pos + (Utf8.decode s pos).2) else true
def nameOK (s : ByteArray) : Bool := decide (1 ≤ s.size) && decide (s.size ≤ 64) && runesOK s s.size 0

/-! ## Soundness -/
def bare (t : Ty) (name con fields list res : Bool) : Bool :=
  (name || decide (t.name = ByteArray.empty)) && (con || decide (t.con = 0)) && (fields || decide (t.fields.length = 0)) && (list || decide (t.list.length = 0)) && (res || decide (t.res.length = 0))
def shapeT (t : Ty) : Bool :=
  if t.kind = 8 then bare t true false true false false && nameOK t.name && decide (t.fields.length ≤ 16) && t.fields.all (fun p => nameOK p.1) && decide ((t.fields.map fun p => p.1).Nodup)
  else if t.kind = 9 ∨ t.kind = 10 then bare t false false false true false && decide (t.list.length = 1)
  else if t.kind = 11 then bare t false false false true true && decide (t.list.length ≤ 16) && decide (t.res.length ≤ 1)
  else if t.kind = 12 then bare t true true false false false && nameOK t.name && decide (1 ≤ t.con ∧ t.con ≤ 3)
  else decide (1 ≤ t.kind ∧ t.kind ≤ 7) && bare t false false false false false
/-- The depth and the cells of types one below. -/
def lookL (g : Ty → Option (Nat × Nat)) : List Ty → Option (Nat × Nat)
  | [] => some (0, 0)
  | t :: l => match g t, lookL g l with
    | some (d, c), some (d', c') => some (max (d + 1) d', c + c')
    | _, _ => none
def lookT : Nat → Ty → Option (Nat × Nat)
  | 0, _ => none
  | f + 1, t => if shapeT t then match lookL (lookT f) t.inner with
      | none => none
      | some (d, c) => if (if t.kind = 8 then c else 1) ≤ 64 then some (d, if t.kind = 8 then c else 1) else none
    else none
def soundT (t : Ty) : Bool := (lookT 9 t).isSome
theorem lookL_snoc (g : Ty → Option (Nat × Nat)) (l : List Ty) (t : Ty) : lookL g (l ++ [t]) = match lookL g l, g t with
    | some (d', c'), some (d, c) => some (max d' (d + 1), c' + c)
    | _, _ => none := by
  induction l with
  | nil =>
    simp only [List.nil_append, lookL]
    cases g t with
    | none => rfl
    | some q => simp [Nat.max_comm]
  | cons x l ih =>
    simp only [List.cons_append, lookL, ih]
    cases g x with
    | none => rfl
    | some q =>
      cases lookL g l with
      | none => rfl
      | some q' =>
        cases g t with
        | none => rfl
        | some q'' =>
          simp only [Option.some.injEq, Prod.mk.injEq]
          constructor <;> omega
theorem lookL_bad {g : Ty → Option (Nat × Nat)} {l : List Ty} {k : Nat} {t : Ty} (h : l[k]? = some t) (hg : g t = none) : lookL g l = none := by
  induction l generalizing k with
  | nil => simp at h
  | cons x l ih =>
    simp only [lookL]
    cases k with
    | zero => simp at h; subst h; rw [hg]
    | succ k =>
      simp at h
      rw [ih h]
      cases g x <;> rfl
end Go.Proofs.YtgemacdnncjmdaaDoor
