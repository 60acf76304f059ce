/-
  A row of structs that the call owns, in a block of its own: it grows, a cell of it is set, elements are taken out. (The first half is Own's, turned.)
-/
import Derived.Test.YtclllnoohoonoaaQueue
namespace Go.Proofs.Ytclllnoohoonoaa
open Go.RowKit
set_option linter.unusedVariables false
set_option linter.unusedSimpArgs false

theorem chg_alloc (w : World) (o : Obj) : Chg (fun _ _ => False) w (w.alloc o) := (Chg.refl _ w).alloc o

theorem Blk.cells4 {w : World} {g t : Nat} {a b c d : Value} (h : Blk w g t #[a, b, c, d]) : w.cell? ⟨g, 0, none⟩ = some a ∧ w.cell? ⟨g, 1, none⟩ = some b ∧ w.cell? ⟨g, 2, none⟩ = some c ∧ w.cell? ⟨g, 3, none⟩ = some d :=
  ⟨by simpa using h.cell 0, by simpa using h.cell 1, by simpa using h.cell 2, by simpa using h.cell 3⟩
theorem Blk.cells5 {w : World} {g t : Nat} {a b c d e : Value} (h : Blk w g t #[a, b, c, d, e]) :
    w.cell? ⟨g, 0, none⟩ = some a ∧ w.cell? ⟨g, 1, none⟩ = some b ∧ w.cell? ⟨g, 2, none⟩ = some c ∧ w.cell? ⟨g, 3, none⟩ = some d ∧ w.cell? ⟨g, 4, none⟩ = some e :=
  ⟨by simpa using h.cell 0, by simpa using h.cell 1, by simpa using h.cell 2, by simpa using h.cell 3, by simpa using h.cell 4⟩
theorem Blk.cells3 {w : World} {g t : Nat} {a b c : Value} (h : Blk w g t #[a, b, c]) : w.cell? ⟨g, 0, none⟩ = some a ∧ w.cell? ⟨g, 1, none⟩ = some b ∧ w.cell? ⟨g, 2, none⟩ = some c :=
  ⟨by simpa using h.cell 0, by simpa using h.cell 1, by simpa using h.cell 2⟩
theorem Blk.cells2 {w : World} {g t : Nat} {a b : Value} (h : Blk w g t #[a, b]) : w.cell? ⟨g, 0, none⟩ = some a ∧ w.cell? ⟨g, 1, none⟩ = some b :=
  ⟨by simpa using h.cell 0, by simpa using h.cell 1⟩

theorem wrap64_id {x : Int} (h1 : -9223372036854775808 ≤ x) (h2 : x ≤ 9223372036854775807) : wrap64 x = x := by
  unfold wrap64; omega
/-! ## A row that grows, element by element -/
def RowR {α : Type} (base e size : Nat) (R : World → List Value → α → Prop) (w : World) (A : Option Addr) (c : Nat) (l : List α) : Prop :=
  ∃ xss : List (List Value), w.ownsRow base e size (.slice A l.length c) l.length xss.flatten ∧ xss.length = l.length ∧ (∀ cs ∈ xss, cs.length = size) ∧ ∀ (k : Nat) x cs, l[k]? = some x → xss[k]? = some cs → R w cs x
section
variable {α : Type} {base e size : Nat} {R : World → List Value → α → Prop} {w w' : World} {A : Option Addr} {c : Nat} {l : List α}
theorem RowR.nil (base e size : Nat) (R : World → List Value → α → Prop) (w : World) : RowR base e size R w none 0 ([] : List α) := ⟨[], World.ownsRow_nil _ _ _ _, rfl, by simp, by simp⟩
theorem RowR.slr (he : e ≠ 0) (h : RowR base e size R w A c l) (B : Nat) : SlR B e size R w (.slice A l.length c) l := by
  obtain ⟨xss, h1, h2, h3, h4⟩ := h
  exact SlR.of_own he h1 h2 rfl h3 h4
theorem RowR.keep {M : Nat → Nat → Prop} (h : RowR base e size R w A c l) (hc : Chg M w w') (hm : ∀ b, base ≤ b → ¬ M b e) (hR : ∀ cs x, R w cs x → R w' cs x) : RowR base e size R w' A c l := by
  obtain ⟨xss, h1, h2, h3, h4⟩ := h
  exact ⟨xss, hc.own h1 fun g hg => hm g ((own_blk h1 hg).1), h2, h3, fun k x cs a b => hR _ _ (h4 k x cs a b)⟩
theorem RowR.rebase {base' : Nat} (h : RowR base e size R w A c l) (hb : base' ≤ base) : RowR base' e size R w A c l := by
  obtain ⟨xss, ⟨h0, h1⟩, h2, h3, h4⟩ := h
  refine ⟨xss, ⟨h0, ?_⟩, h2, h3, h4⟩
  rcases h1 with h1 | ⟨g, cap, cur, hv, hg, r⟩
  · exact .inl h1
  · exact .inr ⟨g, cap, cur, hv, Nat.le_trans hb hg, r⟩
theorem RowR.snoc {xss : List (List Value)} {cs : List Value} {x : α} {A' : Option Addr} {c' : Nat} (h2 : xss.length = l.length) (h3 : ∀ cs ∈ xss, cs.length = size) (h4 : ∀ (k : Nat) x cs, l[k]? = some x → xss[k]? = some cs → R w cs x)
    (hR : ∀ cs x, R w cs x → R w' cs x) (how : w'.ownsRow base e size (.slice A' (l.length + 1) c') (l.length + 1) (xss.flatten ++ cs)) (hcs : cs.length = size) (hx : R w' cs x) : RowR base e size R w' A' c' (l ++ [x]) := by
  refine ⟨xss ++ [cs], by simpa using how, by simp [h2], ?_, ?_⟩
  · intro cs' h
    rcases List.mem_append.1 h with h | h
    · exact h3 _ h
    · simp at h; subst h; exact hcs
  · intro k y ds hy hds
    by_cases hk : k < l.length
    · rw [List.getElem?_append_left hk] at hy
      rw [List.getElem?_append_left (by omega)] at hds
      exact hR _ _ (h4 k y ds hy hds)
    · rw [List.getElem?_append_right (by omega)] at hy
      rw [List.getElem?_append_right (by omega), h2] at hds
      have h0 : k - l.length = 0 := by
        rcases Nat.eq_zero_or_pos (k - l.length) with h | h
        · exact h
        · rw [List.getElem?_eq_none (by simp; omega)] at hy; cases hy
      rw [h0] at hy hds
      simp at hy hds
      subst hy hds
      exact hx
end

theorem no_old {w : World} {o : Obj} {p : Nat → Prop} (ho : w.heap[w.heap.size]? = some o) : p 0 := by rw [Array.getElem?_eq_none (Nat.le_refl _)] at ho; cases ho
/-- A cell of a block that was not there. -/
theorem Chg.setNew {M : Nat → Nat → Prop} {w w' : World} (h : Chg M w w') (j : Nat) (u : Value) {b : Nat} (hb : w.heap.size ≤ b) : Chg M w (w'.setCell ⟨b, j, none⟩ u) :=
  h.setCell _ _ fun o ho => by rw [Array.getElem?_eq_none hb] at ho; cases ho
/-- A store into a block of type T turns blocks of type T alone. -/
theorem chg_set {w : World} {b T j : Nat} {cs : Array Value} (h : Blk w b T cs) (u : Value) : Chg (fun b' t => b' = b ∧ t = T) w (w.setCell ⟨b, j, none⟩ u) :=
  (Chg.refl _ _).setCell _ _ fun o ho => by
    have : w.heap[b]? = some o := ho
    rw [show w.heap[b]? = _ from h] at this
    injection this with this
    subst this
    exact ⟨rfl, rfl⟩

/-- What turns only what was not there is not seen from before. -/
theorem Chg.trans_new {M : Nat → Nat → Prop} {w w' w'' : World} (h : Chg (fun _ _ => False) w w') (k : Chg M w' w'') (hM : ∀ b t, b < w.heap.size → ¬ M b t) : Chg (fun _ _ => False) w w'' :=
  ((h.mono fun _ _ _ h => h.elim : Chg M w w').trans k).mono fun b t hb h => hM b t hb h


/-- An append onto one's own row turns that row's block alone. -/
theorem Apd.chg1 {w w' : World} {o : Obj} {base base' : Nat} {e : TypeId} {size n c n' c' : Nat} {A A' : Option Addr} {xs ys : List Value} (h : Apd (w.alloc o) w' base e size A A' n c n' c' ys) (how : w.ownsRow base' e size (.slice A n c) n xs) :
    Chg (fun b t => (Value.slice A n c).ownBlock = some b ∧ t = e) w w' := by
  refine ((Chg.refl _ w).alloc o).grown h.grown fun g o' hg ho => ?_
  obtain ⟨h1, cs, h2⟩ := own_blk how hg
  rw [h2] at ho
  injection ho with ho
  subst ho
  exact ⟨hg, rfl⟩
section
variable {α : Type} {base e size : Nat} {R : World → List Value → α → Prop} {w w' : World} {A : Option Addr} {c : Nat} {l : List α}
theorem RowR.keep1 {M : Nat → Nat → Prop} (h : RowR base e size R w A c l) (hc : Chg M w w') (hm : ∀ b, (Value.slice A l.length c).ownBlock = some b → ¬ M b e) (hR : ∀ cs x, R w cs x → R w' cs x) : RowR base e size R w' A c l := by
  obtain ⟨xss, h1, h2, h3, h4⟩ := h
  exact ⟨xss, hc.own h1 hm, h2, h3, fun k x cs a b => hR _ _ (h4 k x cs a b)⟩
theorem RowR.lt (h : RowR base e size R w A c l) {g : Nat} (hg : (Value.slice A l.length c).ownBlock = some g) : g < w.heap.size ∧ ∃ cs, Blk w g e cs := by
  obtain ⟨xss, h1, _⟩ := h
  obtain ⟨_, cs, h2⟩ := own_blk h1 hg
  exact ⟨h2.lt, cs, h2⟩
end
theorem SlR.at3' {α : Type} {B e size n c k : Nat} {R : World → List Value → α → Prop} {w : World} {A : Option Addr} {l : List α} (h : SlR B e size R w (.slice A n c) l) (hk : k < l.length) :
    ∃ b o x cs, A = some ⟨b, o, none⟩ ∧ l[k]? = some x ∧ cs.length = size ∧ R w cs x ∧ ∀ M w', Chg M w w' → Lets M B e → ∀ j u, cs[j]? = some u → w'.cell? ⟨b, o + k * size + j, none⟩ = some u := by
  obtain ⟨b, o, c', cs, hv, _, hL, _, h1, h2, h3⟩ := h.at_ hk
  injection hv with hA
  exact ⟨b, o, l[k], cs, hA, List.getElem?_eq_getElem hk, h1, h2, fun M w' hc hm j u hu => hL.cell hc hm (h3 j u hu)⟩
/-- The second step's blocks that are not the first world's do not count. -/
theorem Chg.trans_le {M M' : Nat → Nat → Prop} {w w1 w' : World} (h : Chg M w w1) (k : Chg M' w1 w') (hM : ∀ b t, b < w.heap.size → M' b t → M b t) : Chg M w w' :=
  ⟨k.os.trans h.os, k.tape.trans h.tape, k.output.trans h.output, Nat.le_trans h.size k.size, fun b o hb hm => k.keep b o (h.keep b o hb hm) fun h' => hm (hM b _ (Array.getElem?_eq_some_iff.1 hb).1 h')⟩
theorem Reads.blk {w : World} {b e m size : Nat} {news : List Value} (hb : Blk w b e news.toArray) (hl : news.length = m * size) : Reads w w.heap.size size (some ⟨b, 0, none⟩) m news :=
  ⟨hl, fun _ => ⟨_, rfl, hb.lt, fun j u hu => by rw [add_flat, hb.cell]; simpa using hu⟩⟩
/-- An append of what has just been built, as a step of a region that draws its order. -/
theorem step_append_blk {P : Program} (w : World) {ops : Array Oper} {o : Oper} {a : Act} {K : Act → World → Prop} {Q : Exit → Act → World → Prop} {E : Prop} (hgd : o.guard = none) (s x : Operand) (t : TypeId)
    (ho : o.op = .call { callee := .builtin .append, args := #[s, x], argTypes := #[t, t] })
    (base : Nat) (e : TypeId) (i : TypeInfo) (z : Value) (size bytes : Nat) (ht : P.underlying t = some (.slice e)) (hi : P.info? e = some i) (hz : i.zero = some z)
    (hsize : i.size = size) (hby : i.bytes = bytes) (hzs : z.cells.size = size) (hsz : 0 < size)
    (A : Option Addr) (n c : Nat) (xs : List Value) (hs : a.eval s = .slice A n c) (hown : w.ownsRow base e size (.slice A n c) n xs)
    (m k : Nat) (news : List Value) (b0 : Nat) (hx : a.eval x = .slice (some ⟨b0, 0, none⟩) m k) (hb : Blk w b0 e news.toArray) (hl : news.length = m * size) (h1 : ∀ u ∈ news, u.oneCell' = true)
    (h63 : n + m ≤ maxLen) (hbytes : (n + m) * bytes ≤ 140737488355328) (hbase : base ≤ w.heap.size)
    (h : ∀ A' c' w', w'.ownsRow base e size (.slice A' (n + m) c') (n + m) (xs ++ news) → w.grownBy w' (Value.slice A n c).ownBlock → ((Value.slice A' (n + m) c').ownBlock = (Value.slice A n c).ownBlock ∨ (Value.slice A' (n + m) c').ownBlock = some w.heap.size) → K (a.put o.dst (.slice A' (n + m) c')) w') :
    if Region.wanted o (yielded ops a.tmps) = true then Oper.wp P o a w K Q else E :=
  step_append_any w hgd s x t ho base e i z size bytes ht hi hz hsize hby hzs hsz (.slice A n c) n xs hs hown w.heap.size (some ⟨b0, 0, none⟩) m k news hx (Reads.blk hb hl) h1 h63 hbytes hbase fun v' w' k1 k2 k3 => by
    obtain ⟨A', c', rfl⟩ := own_form k1
    exact h A' c' w' k1 k2 k3
theorem own_chg {w w' : World} {base e size n c : Nat} {A : Option Addr} {xs : List Value} (how : w.ownsRow base e size (.slice A n c) n xs) (hg : w.grownBy w' (Value.slice A n c).ownBlock) : Chg (fun b t => (Value.slice A n c).ownBlock = some b ∧ t = e) w w' :=
  (Chg.refl _ w).grown hg fun g o hgo ho => by
    obtain ⟨_, cs, h2⟩ := own_blk how hgo
    rw [h2] at ho
    injection ho with ho
    subst ho
    exact ⟨hgo, rfl⟩
theorem set_flat {β : Type} {size : Nat} : ∀ (xss : List (List β)) (_ : ∀ cs ∈ xss, cs.length = size) (k j : Nat) (u : β) (_ : j < size), xss.flatten.set (k * size + j) u = (xss.modify k fun cs => cs.set j u).flatten
  | [], _, k, j, u, _ => by cases k <;> simp
  | x :: xss, h, 0, j, u, hj => by
    have hx := h x (by simp)
    simp only [List.flatten_cons, Nat.zero_mul, Nat.zero_add, List.modify_zero_cons]
    rw [List.set_append_left _ _ (by omega)]
  | x :: xss, h, k + 1, j, u, hj => by
    have hx := h x (by simp)
    have ih := set_flat xss (fun cs hc => h cs (by simp [hc])) k j u hj
    simp only [List.flatten_cons, List.modify_succ_cons]
    rw [List.set_append_right _ _ (by rw [Nat.succ_mul]; omega), ← ih]
    congr 2
    rw [Nat.succ_mul]
    omega
theorem own_at {base : Nat} {e : TypeId} {size n c : Nat} {w : World} {A : Option Addr} {xss : List (List Value)} (h : w.ownsRow base e size (.slice A n c) n xss.flatten) (h2 : xss.length = n) (h3 : ∀ cs ∈ xss, cs.length = size) {k : Nat} (hk : k < n) :
    ∃ g cs, A = some ⟨g, 0, none⟩ ∧ n ≤ c ∧ xss[k]? = some cs ∧ g < w.heap.size ∧ (∃ cur, Blk w g e cur) ∧ (∀ j u, cs[j]? = some u → w.cell? ⟨g, k * size + j, none⟩ = some u) ∧ (∀ i, w.frozen? ⟨g, i, none⟩ = false) := by
  obtain ⟨h1, h4⟩ := h
  rcases h4 with ⟨hv, h0⟩ | ⟨g, cap, cur, hv, hg, hh, hnc, _, _, htake⟩
  · omega
  · injection hv with hA hn hc
    have hb : Blk w g e cur := hh
    have hk' : k < xss.length := by omega
    refine ⟨g, xss[k], hA, by omega, List.getElem?_eq_getElem hk', hb.lt, ⟨cur, hb⟩, fun j u hu => ?_, fun i => hb.frozen i⟩
    have hlen := h3 _ (List.getElem_mem hk')
    have hj : j < size := by have := (List.getElem?_eq_some_iff.1 hu).1; omega
    have hf : xss.flatten[k * size + j]? = some u := by rw [flatten_at xss h3 k j hk' hj]; exact hu
    rw [hb.cell]
    rw [← htake, List.getElem?_take] at hf
    split at hf
    · simpa using hf
    · cases hf
/-- A cell of one's own row is set. -/
theorem own_set {base : Nat} {e : TypeId} {size n c g i : Nat} {w : World} {xs : List Value} (h : w.ownsRow base e size (.slice (some ⟨g, 0, none⟩) n c) n xs) (u : Value) :
    (w.setCell ⟨g, i, none⟩ u).ownsRow base e size (.slice (some ⟨g, 0, none⟩) n c) n (xs.set i u) := by
  obtain ⟨h1, h4⟩ := h
  refine ⟨by simpa using h1, ?_⟩
  rcases h4 with ⟨hv, h0⟩ | ⟨g', cap, cur, hv, hg, hh, hnc, h5, h6, htake⟩
  · injection hv with hA; cases hA
  · injection hv with hA hn hc
    injection hA with hA
    injection hA with hA
    subst hA hc
    refine .inr ⟨g, _, cur.setIfInBounds i u, rfl, hg, Blk.set_ (cs := cur) hh i u, hnc, h5, by simpa using h6, ?_⟩
    rw [Array.toList_setIfInBounds, List.take_set, htake]
end Go.Proofs.Ytclllnoohoonoaa
