/-
  Rows that a call owns and that grow, what a step may turn; numbers. (Put together from the first seats' texts: of any program.)
-/
import Derived.Test.YtdegfnejhamejaaCheckZk
import Derived.Test.YtdegfnejhamejaaSame4Zk
namespace Go.Proofs.Ytdegfnejhamejaa
open Go.RowKit
set_option linter.unusedVariables false
set_option linter.unusedSimpArgs false

/-- An append onto one's own row turns that row's block alone. -/
theorem Apd.chg1 {w w' : World} {o : Obj} {base base' : Nat} {e : TypeId} {size n c n' c' : Nat} {A A' : Option Addr} {xs ys : List Value} (h : Apd (w.alloc o) w' base e size A A' n c n' c' ys) (how : w.ownsRow base' e size (.slice A n c) n xs) :
    Chg (fun b t => (Value.slice A n c).ownBlock = some b ∧ t = e) w w' := by
  refine ((Chg.refl _ w).alloc o).grown h.grown fun g o' hg ho => ?_
  obtain ⟨h1, cs, h2⟩ := own_blk how hg
  rw [h2] at ho
  injection ho with ho
  subst ho
  exact ⟨hg, rfl⟩
section
variable {α : Type} {base e size : Nat} {R : World → List Value → α → Prop} {w w' : World} {A : Option Addr} {c : Nat} {l : List α}
theorem RowR.keep1 {M : Nat → Nat → Prop} (h : RowR base e size R w A c l) (hc : Chg M w w') (hm : ∀ b, (Value.slice A l.length c).ownBlock = some b → ¬ M b e) (hR : ∀ cs x, R w cs x → R w' cs x) : RowR base e size R w' A c l := by
  obtain ⟨xss, h1, h2, h3, h4⟩ := h
  exact ⟨xss, hc.own h1 hm, h2, h3, fun k x cs a b => hR _ _ (h4 k x cs a b)⟩
end
/-- The second step's blocks that are not the first world's do not count. -/
theorem Chg.trans_le {M M' : Nat → Nat → Prop} {w w1 w' : World} (h : Chg M w w1) (k : Chg M' w1 w') (hM : ∀ b t, b < w.heap.size → M' b t → M b t) : Chg M w w' :=
  ⟨k.os.trans h.os, k.tape.trans h.tape, k.output.trans h.output, Nat.le_trans h.size k.size, fun b o hb hm => k.keep b o (h.keep b o hb hm) fun h' => hm (hM b _ (Array.getElem?_eq_some_iff.1 hb).1 h')⟩
theorem Reads.blk {w : World} {b e m size : Nat} {news : List Value} (hb : Blk w b e news.toArray) (hl : news.length = m * size) : Reads w w.heap.size size (some ⟨b, 0, none⟩) m news :=
  ⟨hl, fun _ => ⟨_, rfl, hb.lt, fun j u hu => by rw [add_flat, hb.cell]; simpa using hu⟩⟩
/-- An append of what has just been built, as a step of a region that draws its order. -/
theorem step_append_blk {P : Program} (w : World) {ops : Array Oper} {o : Oper} {a : Act} {K : Act → World → Prop} {Q : Exit → Act → World → Prop} {E : Prop} (hgd : o.guard = none) (s x : Operand) (t : TypeId)
    (ho : o.op = .call { callee := .builtin .append, args := #[s, x], argTypes := #[t, t] })
    (base : Nat) (e : TypeId) (i : TypeInfo) (z : Value) (size bytes : Nat) (ht : P.underlying t = some (.slice e)) (hi : P.info? e = some i) (hz : i.zero = some z)
    (hsize : i.size = size) (hby : i.bytes = bytes) (hzs : z.cells.size = size) (hsz : 0 < size)
    (A : Option Addr) (n c : Nat) (xs : List Value) (hs : a.eval s = .slice A n c) (hown : w.ownsRow base e size (.slice A n c) n xs)
    (m k : Nat) (news : List Value) (b0 : Nat) (hx : a.eval x = .slice (some ⟨b0, 0, none⟩) m k) (hb : Blk w b0 e news.toArray) (hl : news.length = m * size) (h1 : ∀ u ∈ news, u.oneCell' = true)
    (h63 : n + m ≤ maxLen) (hbytes : (n + m) * bytes ≤ 140737488355328) (hbase : base ≤ w.heap.size)
    (h : ∀ A' c' w', w'.ownsRow base e size (.slice A' (n + m) c') (n + m) (xs ++ news) → w.grownBy w' (Value.slice A n c).ownBlock → ((Value.slice A' (n + m) c').ownBlock = (Value.slice A n c).ownBlock ∨ (Value.slice A' (n + m) c').ownBlock = some w.heap.size) → K (a.put o.dst (.slice A' (n + m) c')) w') :
    if Region.wanted o (yielded ops a.tmps) = true then Oper.wp P o a w K Q else E :=
  step_append_any w hgd s x t ho base e i z size bytes ht hi hz hsize hby hzs hsz (.slice A n c) n xs hs hown w.heap.size (some ⟨b0, 0, none⟩) m k news hx (Reads.blk hb hl) h1 h63 hbytes hbase fun v' w' k1 k2 k3 => by
    obtain ⟨A', c', rfl⟩ := own_form k1
    exact h A' c' w' k1 k2 k3
end Go.Proofs.Ytdegfnejhamejaa
