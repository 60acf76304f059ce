/-
  Rows of one's own: one more element; what has turned is that row's block alone.
-/
import Derived.Test.YtdegfnejhamejaaGrowZk
namespace Go.Proofs.Ytdegfnejhamejaa
open Go.RowKit
set_option linter.unusedVariables false
set_option linter.unusedSimpArgs false

/-- The block that a row of one's own lies in, if it has one. -/
def OwnB (A : Option Addr) (n c : Nat) (b : Nat) : Prop := (Value.slice A n c).ownBlock = some b
section
variable {α : Type} {P : Program} {base e size : Nat} {R : World → List Value → α → Prop} {w : World} {A : Option Addr} {c : Nat} {l : List α}
theorem wpList_push1 {ops : Array Oper} {rest : List Oper} {o : Oper} {a : Act} {Q : Exit → Act → World → Prop} (hgd : o.guard = none) (s x : Operand) (t : TypeId)
    (ho : o.op = .call { callee := .builtin .append, args := #[s, x], argTypes := #[t, t] })
    (base e : Nat) (i : TypeInfo) (z : Value) (size bytes : Nat) (ht : P.underlying t = some (.slice e)) (hi : P.info? e = some i) (hz : i.zero = some z)
    (hsize : i.size = size) (hby : i.bytes = bytes) (hzs : z.cells.size = size) (hsz : 0 < size) (R : World → List Value → α → Prop) (A : Option Addr) (c : Nat) (l : List α) {n : Nat} (hn : n = l.length)
    (hs : a.eval s = .slice A n c) (hr : RowR base e size R w A c l) (k : Nat) (cs : List Value) (y : α) {b0 : Nat} (hx : a.eval x = .slice (some ⟨b0, 0, none⟩) 1 k) (hW : w.heap.size = b0) (hcs : cs.length = size) (h1 : ∀ u ∈ cs, u.oneCell' = true)
    (hy : R w cs y) (hlen : n ≤ 549755813888) (hb : bytes ≤ 127) (hbase : base ≤ w.heap.size) (hR : ∀ w', Chg (fun b t => OwnB A n c b ∧ t = e) w w' → ∀ cs x, R w cs x → R w' cs x)
    (h : ∀ A' c' w', RowR base e size R w' A' c' (l ++ [y]) → Chg (fun b t => OwnB A n c b ∧ t = e) w w' → (∀ b, OwnB A' (n + 1) c' b → OwnB A n c b ∨ w.heap.size ≤ b) → wpList P ops Q rest (a.put o.dst (.slice A' (n + 1) c')) w') : wpList P ops Q (o :: rest) a (w.alloc (.cells cs.toArray e)) := by
  obtain ⟨xss, how, x2, x3, x4⟩ := hr
  subst hn
  have hbn : l.length * bytes ≤ 549755813888 * 127 := Nat.mul_le_mul hlen hb
  refine wpList_append_new hgd s x t ho base e i z size bytes ht hi hz hsize hby hzs hsz A l.length c xss.flatten hs how 1 k cs hx hW (by simpa using hcs) h1 (by simp only [maxLen]; omega) (by rw [Nat.add_mul]; omega) hbase ?_
  intro A' c' w' hap
  have hch := hap.chg1 how
  refine h A' c' w' (RowR.snoc x2 x3 x4 (hR w' hch) hap.own hcs (hR w' hch _ _ hy)) hch fun b hb => ?_
  unfold OwnB at hb ⊢
  rcases hap.place with hp | hp
  · rw [hp] at hb; exact .inl hb
  · rw [hp] at hb
    injection hb with hb
    simp at hb
    exact .inr (by omega)
end
end Go.Proofs.Ytdegfnejhamejaa
