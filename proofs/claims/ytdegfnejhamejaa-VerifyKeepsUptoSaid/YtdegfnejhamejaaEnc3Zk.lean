/-
  code.Encode: the bytes of a module, or why there are none.
-/
import Derived.Test.YtdegfnejhamejaaBaseZk
import Derived.Test.YtdegfnejhamejaaDataZk
namespace Go.Proofs.Ytdegfnejhamejaa
open Go.RowKit
set_option linter.unusedVariables false
set_option linter.unusedSimpArgs false

theorem sum_take {α : Type} (c : α → Nat) : ∀ (l : List α) (k : Nat), ((l.take k).map c).sum ≤ (l.map c).sum
  | [], k => by simp
  | x :: l, 0 => by simp
  | x :: l, k + 1 => by have := sum_take c l k; simp only [List.take_succ_cons, List.map_cons, List.sum_cons]; omega
theorem sum_at {α : Type} (c : α → Nat) {l : List α} {k : Nat} {x : α} (h : l[k]? = some x) : ((l.take k).map c).sum + c x ≤ (l.map c).sum := by
  obtain ⟨hlt, hxe⟩ := List.getElem?_eq_some_iff.1 h
  have h1 := sum_take c l (k + 1)
  rw [List.take_succ_eq_append_getElem hlt, hxe, List.map_append, List.sum_append] at h1
  simpa using h1

end Go.Proofs.Ytdegfnejhamejaa
namespace Go.Proofs.Ytdegfnejhamejaa
open Go.RowKit
set_option linter.unusedVariables false
set_option linter.unusedSimpArgs false

def cCase (_ : CaseD) : Nat := 40
def cInstr (x : InstrD) : Nat := 50 + (x.cases.map cCase).sum

theorem chg_alloc (w : World) (o : Obj) : Chg (fun _ _ => False) w (w.alloc o) := (Chg.refl _ w).alloc o

theorem Blk.cells5 {w : World} {g t : Nat} {a b c d e : Value} (h : Blk w g t #[a, b, c, d, e]) :
    w.cell? ⟨g, 0, none⟩ = some a ∧ w.cell? ⟨g, 1, none⟩ = some b ∧ w.cell? ⟨g, 2, none⟩ = some c ∧ w.cell? ⟨g, 3, none⟩ = some d ∧ w.cell? ⟨g, 4, none⟩ = some e :=
  ⟨by simpa using h.cell 0, by simpa using h.cell 1, by simpa using h.cell 2, by simpa using h.cell 3, by simpa using h.cell 4⟩
theorem Blk.cells3 {w : World} {g t : Nat} {a b c : Value} (h : Blk w g t #[a, b, c]) : w.cell? ⟨g, 0, none⟩ = some a ∧ w.cell? ⟨g, 1, none⟩ = some b ∧ w.cell? ⟨g, 2, none⟩ = some c :=
  ⟨by simpa using h.cell 0, by simpa using h.cell 1, by simpa using h.cell 2⟩
theorem Blk.cells2 {w : World} {g t : Nat} {a b : Value} (h : Blk w g t #[a, b]) : w.cell? ⟨g, 0, none⟩ = some a ∧ w.cell? ⟨g, 1, none⟩ = some b :=
  ⟨by simpa using h.cell 0, by simpa using h.cell 1⟩

end Go.Proofs.Ytdegfnejhamejaa
namespace Go.Proofs.Ytdegfnejhamejaa
open Go.RowKit
set_option linter.unusedVariables false
set_option linter.unusedSimpArgs false

def cInts (l : List Int) : Nat := 10 + (l.map fun _ => 10).sum
def cShape (s : ShapeD) : Nat := 20 + cInts s.list
def cFunc (f : FuncD) : Nat := 30 + cInts f.locals + cInts f.caps + (f.code.map cInstr).sum
def cMod (m : ModD) : Nat := 20 + (m.types.map cShape).sum + (m.funcs.map cFunc).sum
theorem len_le_sum {α : Type} (c : α → Nat) (h : ∀ x, 1 ≤ c x) : ∀ l : List α, l.length ≤ (l.map c).sum
  | [] => by simp
  | x :: l => by have := len_le_sum c h l; have := h x; simp only [List.length_cons, List.map_cons, List.sum_cons]; omega

end Go.Proofs.Ytdegfnejhamejaa
