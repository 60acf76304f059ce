/-
  The plain side of comparing modules.
-/
import Derived.Test.YtdegfnejhamejaaEncNZk
namespace Go.Proofs.Ytdegfnejhamejaa

def sameL {α : Type} (f : α → α → Bool) : List α → List α → Bool
  | [], [] => true
  | x :: l, y :: r => f x y && sameL f l r
  | _, _ => false
def sameInt (x y : Int) : Bool := x == y
def sameShape (x y : ShapeD) : Bool := x.kind == y.kind && x.res == y.res && sameL sameInt x.list y.list
def sameCase (x y : CaseD) : Bool := x.send == y.send && x.chan == y.chan && x.val == y.val && x.to == y.to
def sameInstr (x y : InstrD) : Bool := x.op == y.op && x.a == y.a && x.b == y.b && ((x.n : Int) == (y.n : Int)) && sameL sameCase x.cases y.cases
def sameFunc (x y : FuncD) : Bool := x.params == y.params && x.res == y.res && sameL sameInt x.locals y.locals && sameL sameInt x.caps y.caps && sameL sameInstr x.code y.code
def sameMod (x y : ModD) : Bool := sameL sameShape x.types y.types && sameL sameFunc x.funcs y.funcs

theorem sameL_refl {α : Type} {f : α → α → Bool} (h : ∀ x, f x x = true) : ∀ l, sameL f l l = true
  | [] => rfl
  | x :: l => by simp [sameL, h x, sameL_refl h l]
theorem sameInt_refl (x : Int) : sameInt x x = true := by simp [sameInt]
theorem sameShape_refl (x : ShapeD) : sameShape x x = true := by simp [sameShape, sameL_refl sameInt_refl]
theorem sameCase_refl (x : CaseD) : sameCase x x = true := by simp [sameCase]
theorem sameInstr_refl (x : InstrD) : sameInstr x x = true := by simp [sameInstr, sameL_refl sameCase_refl]
theorem sameFunc_refl (x : FuncD) : sameFunc x x = true := by simp [sameFunc, sameL_refl sameInt_refl, sameL_refl sameInstr_refl]
theorem sameMod_refl (x : ModD) : sameMod x x = true := by simp [sameMod, sameL_refl sameShape_refl, sameL_refl sameFunc_refl]

theorem sameL_len {α : Type} {f : α → α → Bool} : ∀ {l r : List α}, sameL f l r = true → l.length = r.length
  | [], [], _ => rfl
  | x :: l, y :: r, h => by simp [sameL] at h; simp [sameL_len h.2]
  | [], _ :: _, h => by simp [sameL] at h
  | _ :: _, [], h => by simp [sameL] at h
theorem sameL_ne {α : Type} {f : α → α → Bool} {l r : List α} (h : l.length ≠ r.length) : sameL f l r = false := by
  cases hs : sameL f l r with
  | false => rfl
  | true => exact absurd (sameL_len hs) h
theorem sameL_at {α : Type} {f : α → α → Bool} : ∀ {l r : List α} {k : Nat} {x y : α}, l[k]? = some x → r[k]? = some y → f x y = false → sameL f l r = false
  | a :: l, b :: r, 0, x, y, hx, hy, h => by simp at hx hy; subst hx hy; simp [sameL, h]
  | a :: l, b :: r, k + 1, x, y, hx, hy, h => by simp at hx hy; simp [sameL, sameL_at hx hy h]
  | [], _, k, _, _, hx, _, _ => by simp at hx
  | _ :: _, [], k, _, _, _, hy, _ => by simp at hy
theorem sameL_snoc {α : Type} {f : α → α → Bool} : ∀ {l r : List α} {k : Nat} {x y : α}, l[k]? = some x → r[k]? = some y → f x y = true → sameL f (l.take k) (r.take k) = true → sameL f (l.take (k + 1)) (r.take (k + 1)) = true
  | a :: l, b :: r, 0, x, y, hx, hy, h, _ => by simp at hx hy; subst hx hy; simp [sameL, h]
  | a :: l, b :: r, k + 1, x, y, hx, hy, h, hs => by
    simp at hx hy
    simp [sameL] at hs ⊢
    exact ⟨hs.1, sameL_snoc hx hy h hs.2⟩
  | [], _, k, _, _, hx, _, _, _ => by simp at hx
  | _ :: _, [], k, _, _, _, hy, _, _ => by simp at hy
theorem sameL_full {α : Type} {f : α → α → Bool} {l r : List α} {k : Nat} (h : sameL f (l.take k) (r.take k) = true) (hl : l.length ≤ k) (hr : r.length ≤ k) : sameL f l r = true := by
  rwa [List.take_of_length_le hl, List.take_of_length_le hr] at h
end Go.Proofs.Ytdegfnejhamejaa
