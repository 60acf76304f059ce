/-
  The plain side of comparing modules.
-/
import Derived.Test.YtdegfnejhamejaaEncNZf
namespace Go.Proofs.Ytdegfnejhamejaa

def sameL {α : Type} (f : α → α → Bool) : List α → List α → Bool
  | [], [] => true
  | x :: l, y :: r => f x y && sameL f l r
  | _, _ => false
def sameInt (x y : Int) : Bool := x == y
def sameShape (x y : ShapeD) : Bool := x.kind == y.kind && x.res == y.res && sameL sameInt x.list y.list

theorem sameInt_refl (x : Int) : sameInt x x = true := by simp [sameInt]

theorem sameL_len {α : Type} {f : α → α → Bool} : ∀ {l r : List α}, sameL f l r = true → l.length = r.length
  | [], [], _ => rfl
  | x :: l, y :: r, h => by simp [sameL] at h; simp [sameL_len h.2]
  | [], _ :: _, h => by simp [sameL] at h
  | _ :: _, [], h => by simp [sameL] at h
theorem sameL_ne {α : Type} {f : α → α → Bool} {l r : List α} (h : l.length ≠ r.length) : sameL f l r = false := by
  cases hs : sameL f l r with
  | false => rfl
  | true => exact absurd (sameL_len hs) h
theorem sameL_at {α : Type} {f : α → α → Bool} : ∀ {l r : List α} {k : Nat} {x y : α}, l[k]? = some x → r[k]? = some y → f x y = false → sameL f l r = false
  | a :: l, b :: r, 0, x, y, hx, hy, h => by simp at hx hy; subst hx hy; simp [sameL, h]
  | a :: l, b :: r, k + 1, x, y, hx, hy, h => by simp at hx hy; simp [sameL, sameL_at hx hy h]
  | [], _, k, _, _, hx, _, _ => by simp at hx
  | _ :: _, [], k, _, _, _, hy, _ => by simp at hy
theorem sameL_snoc {α : Type} {f : α → α → Bool} : ∀ {l r : List α} {k : Nat} {x y : α}, l[k]? = some x → r[k]? = some y → f x y = true → sameL f (l.take k) (r.take k) = true → sameL f (l.take (k + 1)) (r.take (k + 1)) = true
  | a :: l, b :: r, 0, x, y, hx, hy, h, _ => by simp at hx hy; subst hx hy; simp [sameL, h]
  | a :: l, b :: r, k + 1, x, y, hx, hy, h, hs => by
    simp at hx hy
    simp [sameL] at hs ⊢
    exact ⟨hs.1, sameL_snoc hx hy h hs.2⟩
  | [], _, k, _, _, hx, _, _, _ => by simp at hx
  | _ :: _, [], k, _, _, _, hy, _, _ => by simp at hy
theorem sameL_full {α : Type} {f : α → α → Bool} {l r : List α} {k : Nat} (h : sameL f (l.take k) (r.take k) = true) (hl : l.length ≤ k) (hr : r.length ≤ k) : sameL f l r = true := by
  rwa [List.take_of_length_le hl, List.take_of_length_le hr] at h
end Go.Proofs.Ytdegfnejhamejaa
