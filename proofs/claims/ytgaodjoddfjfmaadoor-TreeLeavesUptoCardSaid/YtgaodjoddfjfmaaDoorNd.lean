/-
  Trees as plain data: size, depth, the same but for places.
-/
import Derived.Laws.RangeAny
import Derived.Lib.ValidLaws
namespace Go.Proofs.YtgaodjoddfjfmaaDoor
set_option linter.unusedVariables false
set_option linter.unusedSimpArgs false

inductive Nd where
  | mk (kind : Int) (text : ByteArray) (n : Nat) (at_ : Int) (list : List Nd)
namespace Nd
def kind : Nd → Int | .mk k _ _ _ _ => k
def text : Nd → ByteArray | .mk _ t _ _ _ => t
def n : Nd → Nat | .mk _ _ n _ _ => n
def at_ : Nd → Int | .mk _ _ _ a _ => a
def list : Nd → List Nd | .mk _ _ _ _ l => l
end Nd
theorem Nd.ind {P : Nd → Prop} (h : ∀ k t n a l, (∀ x ∈ l, P x) → P (.mk k t n a l)) (t : Nd) : P t :=
  Nd.rec (motive_1 := P) (motive_2 := fun l => ∀ x ∈ l, P x) (fun k t n a l h1 => h k t n a l h1) (fun x hx => by cases hx)
    (fun x l h1 h2 y hy => by
      rcases List.mem_cons.1 hy with rfl | hy
      · exact h1
      · exact h2 y hy) t
/-- The same? -/
noncomputable def eqB {α : Type} (a b : α) : Bool := @decide (a = b) (Classical.propDecidable _)
theorem eqB_self {α : Type} (a : α) : eqB a a = true := by unfold eqB; simp
theorem eqB_true {α : Type} {a b : α} : eqB a b = true ↔ a = b := by unfold eqB; simp
theorem eqB_false {α : Type} {a b : α} : eqB a b = false ↔ a ≠ b := by unfold eqB; simp
theorem eqB_comm {α : Type} (a b : α) : eqB a b = eqB b a := by
  by_cases h : a = b
  · subst h; rfl
  · rw [eqB_false.2 h, eqB_false.2 (Ne.symm h)]
theorem str_inj {a b : ByteArray} (h : a.toList = b.toList) : a = b := by
  rw [ByteArray.toList_eq, ByteArray.toList_eq] at h
  cases a
  cases b
  congr 1
  exact Array.ext' h
theorem str_eq {a b : ByteArray} (h : a = b) : (a.toList == b.toList) = true := by subst h; simp
theorem str_ne {a b : ByteArray} (h : a ≠ b) : (a.toList == b.toList) = false := by
  simp only [beq_eq_false_iff_ne]
  exact fun h' => h (str_inj h')
mutual
def Nd.size : Nd → Nat
  | .mk _ _ _ _ l => 1 + sizeL l
def sizeL : List Nd → Nat
  | [] => 0
  | x :: l => x.size + sizeL l
end
mutual
def Nd.depth : Nd → Nat
  | .mk _ _ _ _ l => depthL l
def depthL : List Nd → Nat
  | [] => 0
  | x :: l => max (x.depth + 1) (depthL l)
end
mutual
/-- Without places. -/
def Nd.strip : Nd → Nd
  | .mk k t n _ l => .mk k t n 0 (stripL l)
def stripL : List Nd → List Nd
  | [] => []
  | x :: l => x.strip :: stripL l
end
theorem stripL_map (l : List Nd) : stripL l = l.map Nd.strip := by
  induction l with
  | nil => simp [stripL]
  | cons x l ih => simp [stripL, ih]
theorem size_eq (t : Nd) : t.size = 1 + sizeL t.list := by cases t; simp [Nd.size, Nd.list]
theorem depth_eq (t : Nd) : t.depth = depthL t.list := by cases t; simp [Nd.depth, Nd.list]
theorem strip_eq (t : Nd) : t.strip = .mk t.kind t.text t.n 0 (t.list.map Nd.strip) := by cases t; simp [Nd.strip, Nd.list, Nd.kind, Nd.text, Nd.n, stripL_map]
theorem sizeL_snoc (l : List Nd) (x : Nd) : sizeL (l ++ [x]) = sizeL l + x.size := by
  induction l with
  | nil => simp [sizeL]
  | cons y l ih => simp [sizeL, ih, Nat.add_assoc]
theorem sizeL_take (l : List Nd) (k : Nat) : sizeL (l.take k) ≤ sizeL l := by
  induction l generalizing k with
  | nil => simp
  | cons x l ih =>
    cases k with
    | zero => simp [sizeL]
    | succ k => simp only [List.take_succ_cons, sizeL]; have := ih k; omega
theorem depthL_snoc (l : List Nd) (x : Nd) : depthL (l ++ [x]) = max (depthL l) (x.depth + 1) := by
  induction l with
  | nil => simp [depthL]
  | cons y l ih => simp only [List.cons_append, depthL, ih]; omega
theorem sizeL_mem {l : List Nd} {x : Nd} (h : x ∈ l) : x.size ≤ sizeL l := by
  induction l with
  | nil => cases h
  | cons y l ih =>
    simp only [sizeL]
    rcases List.mem_cons.1 h with rfl | h
    · omega
    · have := ih h; omega
theorem size_pos (t : Nd) : 0 < t.size := by rw [size_eq]; omega
theorem depth_lt (t : Nd) : t.depth < t.size := by
  induction t using Nd.ind with
  | h k t n a l ih =>
    rw [depth_eq, size_eq]
    simp only [Nd.list]
    have key : ∀ l : List Nd, (∀ x ∈ l, x.depth < x.size) → depthL l ≤ sizeL l := by
      intro l
      induction l with
      | nil => intro _; simp [depthL, sizeL]
      | cons x l ihl =>
        intro h
        have h1 := h x (by simp)
        have h2 := ihl fun y hy => h y (by simp [hy])
        simp only [depthL, sizeL]
        omega
    have := key l ih
    omega
theorem nd_ext {a b : Nd} (h1 : a.kind = b.kind) (h2 : a.text = b.text) (h3 : a.n = b.n) (h4 : a.at_ = b.at_) (h5 : a.list = b.list) : a = b := by
  cases a; cases b
  simp only [Nd.kind, Nd.text, Nd.n, Nd.at_, Nd.list] at h1 h2 h3 h4 h5
  subst h1 h2 h3 h4 h5
  rfl
/-- The same, but for places. -/
noncomputable def sameN (a b : Nd) : Bool := eqB a.strip b.strip
theorem sameN_true {a b : Nd} : sameN a b = true ↔ a.kind = b.kind ∧ a.text = b.text ∧ a.n = b.n ∧ a.list.map Nd.strip = b.list.map Nd.strip := by
  unfold sameN
  rw [eqB_true, strip_eq a, strip_eq b, Nd.mk.injEq]
  exact ⟨fun ⟨h1, h2, h3, _, h5⟩ => ⟨h1, h2, h3, h5⟩, fun ⟨h1, h2, h3, h5⟩ => ⟨h1, h2, h3, rfl, h5⟩⟩
end Go.Proofs.YtgaodjoddfjfmaaDoor
