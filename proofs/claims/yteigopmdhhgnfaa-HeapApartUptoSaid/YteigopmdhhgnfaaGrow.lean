/-
  Rows that a call owns and that grow, what a step may turn; numbers. (Put together from the first seats' texts: of any program.)
-/
import Derived.Test.YteigopmdhhgnfaaBase
namespace Go.Proofs.Yteigopmdhhgnfaa
open Go.RowKit
set_option linter.unusedVariables false
set_option linter.unusedSimpArgs false

def I64 (x : Int) : Prop := -9223372036854775808 ≤ x ∧ x ≤ 9223372036854775807
theorem SlR.at2 {α : Type} {B e size n c k : Nat} {R : World → List Value → α → Prop} {w : World} {A : Option Addr} {l : List α} (h : SlR B e size R w (.slice A n c) l) (hk : k < l.length) :
    ∃ b o x cs, A = some ⟨b, o, none⟩ ∧ l[k]? = some x ∧ cs.length = size ∧ R w cs x ∧ ∀ j u, cs[j]? = some u → w.cell? ⟨b, o + k * size + j, none⟩ = some u := by
  obtain ⟨b, o, c', cs, hv, _, _, _, h1, h2, h3⟩ := h.at_ hk
  injection hv with hA
  exact ⟨b, o, l[k], cs, hA, List.getElem?_eq_getElem hk, h1, h2, h3⟩
theorem SlR.len {α : Type} {B e size n c : Nat} {R : World → List Value → α → Prop} {w : World} {A : Option Addr} {l : List α} (h : SlR B e size R w (.slice A n c) l) : n = l.length ∧ n ≤ c := by
  obtain ⟨A', c', hv, hl, _⟩ := h
  injection hv with _ h1 h2
  subst h1
  subst h2
  exact ⟨rfl, hl⟩

/-- An element's cells, in every later world. -/
theorem SlR.at3 {α : Type} {B e size n c k : Nat} {R : World → List Value → α → Prop} {w : World} {A : Option Addr} {l : List α} (h : SlR B e size R w (.slice A n c) l) (hk : k < l.length) :
    ∃ b o x cs, A = some ⟨b, o, none⟩ ∧ l[k]? = some x ∧ cs.length = size ∧ R w cs x ∧ ∀ M w', Chg M w w' → Lets M B e → ∀ j u, cs[j]? = some u → w'.cell? ⟨b, o + k * size + j, none⟩ = some u := by
  obtain ⟨b, o, c', cs, hv, _, hL, _, h1, h2, h3⟩ := h.at_ hk
  injection hv with hA
  exact ⟨b, o, l[k], cs, hA, List.getElem?_eq_getElem hk, h1, h2, fun M w' hc hm j u hu => hL.cell hc hm (h3 j u hu)⟩

/-- The frame 'M' lets be what lies below B. -/
def LetsM (M : Nat → Nat → Prop) (B : Nat) : Prop := ∀ b t, b < B → ¬ M b t
theorem LetsM.lets {M : Nat → Nat → Prop} {B : Nat} (h : LetsM M B) : Lets M B 0 := ⟨h, fun h => absurd rfl h⟩
theorem chg_alloc (w : World) (o : Obj) : Chg (fun _ _ => False) w (w.alloc o) := (Chg.refl _ w).alloc o

theorem Blk.cells4 {w : World} {g t : Nat} {a b c d : Value} (h : Blk w g t #[a, b, c, d]) : w.cell? ⟨g, 0, none⟩ = some a ∧ w.cell? ⟨g, 1, none⟩ = some b ∧ w.cell? ⟨g, 2, none⟩ = some c ∧ w.cell? ⟨g, 3, none⟩ = some d :=
  ⟨by simpa using h.cell 0, by simpa using h.cell 1, by simpa using h.cell 2, by simpa using h.cell 3⟩
theorem Blk.cells5 {w : World} {g t : Nat} {a b c d e : Value} (h : Blk w g t #[a, b, c, d, e]) :
    w.cell? ⟨g, 0, none⟩ = some a ∧ w.cell? ⟨g, 1, none⟩ = some b ∧ w.cell? ⟨g, 2, none⟩ = some c ∧ w.cell? ⟨g, 3, none⟩ = some d ∧ w.cell? ⟨g, 4, none⟩ = some e :=
  ⟨by simpa using h.cell 0, by simpa using h.cell 1, by simpa using h.cell 2, by simpa using h.cell 3, by simpa using h.cell 4⟩
theorem Blk.cells3 {w : World} {g t : Nat} {a b c : Value} (h : Blk w g t #[a, b, c]) : w.cell? ⟨g, 0, none⟩ = some a ∧ w.cell? ⟨g, 1, none⟩ = some b ∧ w.cell? ⟨g, 2, none⟩ = some c :=
  ⟨by simpa using h.cell 0, by simpa using h.cell 1, by simpa using h.cell 2⟩
theorem Blk.cells2 {w : World} {g t : Nat} {a b : Value} (h : Blk w g t #[a, b]) : w.cell? ⟨g, 0, none⟩ = some a ∧ w.cell? ⟨g, 1, none⟩ = some b :=
  ⟨by simpa using h.cell 0, by simpa using h.cell 1⟩

theorem Blk.cells6 {w : World} {g t : Nat} {a b c d e f : Value} (h : Blk w g t #[a, b, c, d, e, f]) :
    w.cell? ⟨g, 0, none⟩ = some a ∧ w.cell? ⟨g, 1, none⟩ = some b ∧ w.cell? ⟨g, 2, none⟩ = some c ∧ w.cell? ⟨g, 3, none⟩ = some d ∧ w.cell? ⟨g, 4, none⟩ = some e ∧ w.cell? ⟨g, 5, none⟩ = some f :=
  ⟨by simpa using h.cell 0, by simpa using h.cell 1, by simpa using h.cell 2, by simpa using h.cell 3, by simpa using h.cell 4, by simpa using h.cell 5⟩
theorem wrap64_id {x : Int} (h1 : -9223372036854775808 ≤ x) (h2 : x ≤ 9223372036854775807) : wrap64 x = x := by
  unfold wrap64; omega
/-! ## A row that grows, element by element -/
def RowR {α : Type} (base e size : Nat) (R : World → List Value → α → Prop) (w : World) (A : Option Addr) (c : Nat) (l : List α) : Prop :=
  ∃ xss : List (List Value), w.ownsRow base e size (.slice A l.length c) l.length xss.flatten ∧ xss.length = l.length ∧ (∀ cs ∈ xss, cs.length = size) ∧ ∀ (k : Nat) x cs, l[k]? = some x → xss[k]? = some cs → R w cs x
section
variable {α : Type} {base e size : Nat} {R : World → List Value → α → Prop} {w w' : World} {A : Option Addr} {c : Nat} {l : List α}
theorem RowR.nil (base e size : Nat) (R : World → List Value → α → Prop) (w : World) : RowR base e size R w none 0 ([] : List α) := ⟨[], World.ownsRow_nil _ _ _ _, rfl, by simp, by simp⟩
theorem RowR.slr (he : e ≠ 0) (h : RowR base e size R w A c l) (B : Nat) : SlR B e size R w (.slice A l.length c) l := by
  obtain ⟨xss, h1, h2, h3, h4⟩ := h
  exact SlR.of_own he h1 h2 rfl h3 h4
theorem RowR.keep {M : Nat → Nat → Prop} (h : RowR base e size R w A c l) (hc : Chg M w w') (hm : ∀ b, base ≤ b → ¬ M b e) (hR : ∀ cs x, R w cs x → R w' cs x) : RowR base e size R w' A c l := by
  obtain ⟨xss, h1, h2, h3, h4⟩ := h
  exact ⟨xss, hc.own h1 fun g hg => hm g ((own_blk h1 hg).1), h2, h3, fun k x cs a b => hR _ _ (h4 k x cs a b)⟩
theorem RowR.rebase {base' : Nat} (h : RowR base e size R w A c l) (hb : base' ≤ base) : RowR base' e size R w A c l := by
  obtain ⟨xss, ⟨h0, h1⟩, h2, h3, h4⟩ := h
  refine ⟨xss, ⟨h0, ?_⟩, h2, h3, h4⟩
  rcases h1 with h1 | ⟨g, cap, cur, hv, hg, r⟩
  · exact .inl h1
  · exact .inr ⟨g, cap, cur, hv, Nat.le_trans hb hg, r⟩
theorem RowR.snoc {xss : List (List Value)} {cs : List Value} {x : α} {A' : Option Addr} {c' : Nat} (h2 : xss.length = l.length) (h3 : ∀ cs ∈ xss, cs.length = size) (h4 : ∀ (k : Nat) x cs, l[k]? = some x → xss[k]? = some cs → R w cs x)
    (hR : ∀ cs x, R w cs x → R w' cs x) (how : w'.ownsRow base e size (.slice A' (l.length + 1) c') (l.length + 1) (xss.flatten ++ cs)) (hcs : cs.length = size) (hx : R w' cs x) : RowR base e size R w' A' c' (l ++ [x]) := by
  refine ⟨xss ++ [cs], by simpa using how, by simp [h2], ?_, ?_⟩
  · intro cs' h
    rcases List.mem_append.1 h with h | h
    · exact h3 _ h
    · simp at h; subst h; exact hcs
  · intro k y ds hy hds
    by_cases hk : k < l.length
    · rw [List.getElem?_append_left hk] at hy
      rw [List.getElem?_append_left (by omega)] at hds
      exact hR _ _ (h4 k y ds hy hds)
    · rw [List.getElem?_append_right (by omega)] at hy
      rw [List.getElem?_append_right (by omega), h2] at hds
      have h0 : k - l.length = 0 := by
        rcases Nat.eq_zero_or_pos (k - l.length) with h | h
        · exact h
        · rw [List.getElem?_eq_none (by simp; omega)] at hy; cases hy
      rw [h0] at hy hds
      simp at hy hds
      subst hy hds
      exact hx
end

theorem no_old {w : World} {o : Obj} {p : Nat → Prop} (ho : w.heap[w.heap.size]? = some o) : p 0 := by rw [Array.getElem?_eq_none (Nat.le_refl _)] at ho; cases ho
/-- A cell of a block that was not there. -/
theorem Chg.setNew {M : Nat → Nat → Prop} {w w' : World} (h : Chg M w w') (j : Nat) (u : Value) {b : Nat} (hb : w.heap.size ≤ b) : Chg M w (w'.setCell ⟨b, j, none⟩ u) :=
  h.setCell _ _ fun o ho => by rw [Array.getElem?_eq_none hb] at ho; cases ho
/-- A store into a block of type T turns blocks of type T alone. -/
theorem chg_set {w : World} {b T j : Nat} {cs : Array Value} (h : Blk w b T cs) (u : Value) : Chg (fun b' t => b' = b ∧ t = T) w (w.setCell ⟨b, j, none⟩ u) :=
  (Chg.refl _ _).setCell _ _ fun o ho => by
    have : w.heap[b]? = some o := ho
    rw [show w.heap[b]? = _ from h] at this
    injection this with this
    subst this
    exact ⟨rfl, rfl⟩

/-- What turns only what was not there is not seen from before. -/
theorem Chg.trans_new {M : Nat → Nat → Prop} {w w' w'' : World} (h : Chg (fun _ _ => False) w w') (k : Chg M w' w'') (hM : ∀ b t, b < w.heap.size → ¬ M b t) : Chg (fun _ _ => False) w w'' :=
  ((h.mono fun _ _ _ h => h.elim : Chg M w w').trans k).mono fun b t hb h => hM b t hb h


/-- An append onto one's own row turns that row's block alone. -/
theorem Apd.chg1 {w w' : World} {o : Obj} {base base' : Nat} {e : TypeId} {size n c n' c' : Nat} {A A' : Option Addr} {xs ys : List Value} (h : Apd (w.alloc o) w' base e size A A' n c n' c' ys) (how : w.ownsRow base' e size (.slice A n c) n xs) :
    Chg (fun b t => (Value.slice A n c).ownBlock = some b ∧ t = e) w w' := by
  refine ((Chg.refl _ w).alloc o).grown h.grown fun g o' hg ho => ?_
  obtain ⟨h1, cs, h2⟩ := own_blk how hg
  rw [h2] at ho
  injection ho with ho
  subst ho
  exact ⟨hg, rfl⟩
section
variable {α : Type} {base e size : Nat} {R : World → List Value → α → Prop} {w w' : World} {A : Option Addr} {c : Nat} {l : List α}
theorem RowR.keep1 {M : Nat → Nat → Prop} (h : RowR base e size R w A c l) (hc : Chg M w w') (hm : ∀ b, (Value.slice A l.length c).ownBlock = some b → ¬ M b e) (hR : ∀ cs x, R w cs x → R w' cs x) : RowR base e size R w' A c l := by
  obtain ⟨xss, h1, h2, h3, h4⟩ := h
  exact ⟨xss, hc.own h1 hm, h2, h3, fun k x cs a b => hR _ _ (h4 k x cs a b)⟩
theorem RowR.lt (h : RowR base e size R w A c l) {g : Nat} (hg : (Value.slice A l.length c).ownBlock = some g) : g < w.heap.size ∧ ∃ cs, Blk w g e cs := by
  obtain ⟨xss, h1, _⟩ := h
  obtain ⟨_, cs, h2⟩ := own_blk h1 hg
  exact ⟨h2.lt, cs, h2⟩
end
/-- The second step's blocks that are not the first world's do not count. -/
theorem Chg.trans_le {M M' : Nat → Nat → Prop} {w w1 w' : World} (h : Chg M w w1) (k : Chg M' w1 w') (hM : ∀ b t, b < w.heap.size → M' b t → M b t) : Chg M w w' :=
  ⟨k.os.trans h.os, k.tape.trans h.tape, k.output.trans h.output, Nat.le_trans h.size k.size, fun b o hb hm => k.keep b o (h.keep b o hb hm) fun h' => hm (hM b _ (Array.getElem?_eq_some_iff.1 hb).1 h')⟩
theorem RowR.imp {α : Type} {base e size : Nat} {R R' : World → List Value → α → Prop} {w : World} {A : Option Addr} {c : Nat} {l : List α} (h : RowR base e size R w A c l) (hR : ∀ cs x, R w cs x → R' w cs x) : RowR base e size R' w A c l := by
  obtain ⟨xss, h1, h2, h3, h4⟩ := h
  exact ⟨xss, h1, h2, h3, fun k x cs a b => hR _ _ (h4 k x cs a b)⟩
theorem len_le_sum {α : Type} (c : α → Nat) (h : ∀ x, 1 ≤ c x) : ∀ l : List α, l.length ≤ (l.map c).sum
  | [] => by simp
  | x :: l => by have := len_le_sum c h l; have := h x; simp only [List.length_cons, List.map_cons, List.sum_cons]; omega

theorem sum_take {α : Type} (c : α → Nat) : ∀ (l : List α) (k : Nat), ((l.take k).map c).sum ≤ (l.map c).sum
  | [], k => by simp
  | x :: l, 0 => by simp
  | x :: l, k + 1 => by have := sum_take c l k; simp only [List.take_succ_cons, List.map_cons, List.sum_cons]; omega
theorem sum_at {α : Type} (c : α → Nat) {l : List α} {k : Nat} {x : α} (h : l[k]? = some x) : ((l.take k).map c).sum + c x ≤ (l.map c).sum := by
  obtain ⟨hlt, hxe⟩ := List.getElem?_eq_some_iff.1 h
  have h1 := sum_take c l (k + 1)
  rw [List.take_succ_eq_append_getElem hlt, hxe, List.map_append, List.sum_append] at h1
  simpa using h1
/-- What one push may turn. -/
def MO (T base g e : Nat) : Nat → Nat → Prop := fun b t => b = g ∧ t = T ∨ base ≤ b ∧ t = e
theorem own_push {α : Type} {T base g e size j : Nat} {R : World → List Value → α → Prop} {wr W w3 : World} {o : Obj} {A A2 : Option Addr} {c c2 : Nat} {l : List α} {xss : List (List Value)} {cs : List Value} {x : α} {cells : Array Value} (he : e ≠ T)
    (hb : Blk wr g T cells) (how : wr.ownsRow base e size (.slice A l.length c) l.length xss.flatten) (h2 : xss.length = l.length) (h3 : ∀ cs ∈ xss, cs.length = size) (h4 : ∀ (k : Nat) x cs, l[k]? = some x → xss[k]? = some cs → R wr cs x)
    (hR : ∀ w w', Chg (MO T base g e) w w' → ∀ cs x, R w cs x → R w' cs x) (hc : Chg (fun _ _ => False) wr W) (hx : R W cs x) (hcs : cs.length = size)
    (hap : Apd (W.alloc o) w3 base e size A A2 l.length c (l.length + 1) c2 (xss.flatten ++ cs)) (v : Value) :
    Blk (w3.setCell ⟨g, j, none⟩ v) g T (cells.setIfInBounds j v) ∧ RowR base e size R (w3.setCell ⟨g, j, none⟩ v) A2 c2 (l ++ [x]) ∧ Chg (MO T base g e) wr (w3.setCell ⟨g, j, none⟩ v) ∧ Blk w3 g T cells := by
  have howW := hc.own how fun _ _ => id
  have hchg : Chg (MO T base g e) W w3 := (hap.chg howW).mono fun b t _ h => .inr h
  have hbW : Blk w3 g T cells := (hap.chg howW).blk (hc.blk hb id) fun h => he h.2.symm
  have hset : Chg (fun b t => b = g ∧ t = T) w3 (w3.setCell ⟨g, j, none⟩ v) := (Chg.refl _ _).setCell _ _ fun o ho => by
    have : w3.heap[g]? = some o := ho
    rw [show w3.heap[g]? = _ from hbW] at this
    injection this with this
    subst this
    exact ⟨rfl, rfl⟩
  have hset' : Chg (MO T base g e) w3 (w3.setCell ⟨g, j, none⟩ v) := hset.mono fun b t _ h => .inl h
  have hall : Chg (MO T base g e) wr (w3.setCell ⟨g, j, none⟩ v) := ((hc.mono fun _ _ _ h => h.elim).trans hchg).trans hset'
  refine ⟨hbW.set_ j v, ?_, hall, hbW⟩
  exact RowR.snoc h2 h3 h4 (hR _ _ hall) (hset.own hap.own fun k _ h => he h.2) hcs (hR _ _ (hchg.trans hset') _ _ hx)

/-- As SlR, in a row of type e in a block from D on. -/
def SlD {α : Type} (D e size : Nat) (R : World → List Value → α → Prop) (w : World) (v : Value) (l : List α) : Prop := SlR 0 e size R w v l ∧ ∀ g, v.ownBlock = some g → D ≤ g
section
variable {α : Type} {D e size : Nat} {R R' : World → List Value → α → Prop} {w w' : World} {v : Value} {l : List α}
theorem SlD.keep {M : Nat → Nat → Prop} (h : SlD D e size R w v l) (hc : Chg M w w') (hm : ∀ b, D ≤ b → ¬ M b e) (hR : ∀ cs x, R w cs x → R w' cs x) : SlD D e size R w' v l := by
  obtain ⟨⟨A, c, hv, hl, h⟩, hD⟩ := h
  refine ⟨⟨A, c, hv, hl, fun h0 => ?_⟩, hD⟩
  obtain ⟨b, o, hA, hb, hlt, hk⟩ := h h0
  have hDb : D ≤ b := hD b (by rw [hv, hA]; rfl)
  rcases hb with hb | ⟨he, cs, fr, hh⟩
  · exact absurd hb (Nat.not_lt_zero _)
  · have hh' := hc.keep b _ hh (hm b hDb)
    refine ⟨b, o, hA, .inr ⟨he, cs, fr, hh'⟩, Nat.lt_of_lt_of_le hlt hc.size, fun k x hx => ?_⟩
    obtain ⟨cs', h1, h2, h3⟩ := hk k x hx
    refine ⟨cs', h1, hR _ _ h2, fun j u hu => ?_⟩
    rw [World.cell?_of_block (w := w) (hh'.trans hh.symm)]
    exact h3 j u hu
theorem SlD.less {D' : Nat} (h : SlD D e size R w v l) (hD : D' ≤ D) (hR : ∀ cs x, R w cs x → R' w cs x) : SlD D' e size R' w v l := ⟨SlR.imp h.1 (fun _ _ h => h) hR, fun g hg => Nat.le_trans hD (h.2 g hg)⟩
theorem SlD.of_own {base n : Nat} (he : e ≠ 0) {xss : List (List Value)} {A : Option Addr} {c : Nat} (ho : w.ownsRow base e size (.slice A n c) n xss.flatten) (hD : D ≤ base) (hlen : xss.length = l.length) (hn : n = l.length)
    (hs : ∀ cs ∈ xss, cs.length = size) (hR : ∀ (k : Nat) x cs, l[k]? = some x → xss[k]? = some cs → R w cs x) : SlD D e size R w (.slice A n c) l :=
  ⟨SlR.of_own he ho hlen hn hs hR, fun g hg => Nat.le_trans hD (own_blk ho hg).1⟩
end
theorem RowR.settleT {α : Type} {D e size : Nat} {R R' : World → List Value → α → Prop} {w : World} {A : Option Addr} {c : Nat} {l : List α} (he : e ≠ 0) (h : RowR D e size R w A c l) (hR : ∀ cs x, R w cs x → R' w cs x) : SlR w.heap.size 0 size R' w (.slice A l.length c) l := (h.slr he D).settle hR
theorem Reads.blk {w : World} {b e m size : Nat} {news : List Value} (hb : Blk w b e news.toArray) (hl : news.length = m * size) : Reads w w.heap.size size (some ⟨b, 0, none⟩) m news :=
  ⟨hl, fun _ => ⟨_, rfl, hb.lt, fun j u hu => by rw [add_flat, hb.cell]; simpa using hu⟩⟩
/-- An append of what has just been built, as a step of a region that draws its order. -/
theorem step_append_blk {P : Program} (w : World) {ops : Array Oper} {o : Oper} {a : Act} {K : Act → World → Prop} {Q : Exit → Act → World → Prop} {E : Prop} (hgd : o.guard = none) (s x : Operand) (t : TypeId)
    (ho : o.op = .call { callee := .builtin .append, args := #[s, x], argTypes := #[t, t] })
    (base : Nat) (e : TypeId) (i : TypeInfo) (z : Value) (size bytes : Nat) (ht : P.underlying t = some (.slice e)) (hi : P.info? e = some i) (hz : i.zero = some z)
    (hsize : i.size = size) (hby : i.bytes = bytes) (hzs : z.cells.size = size) (hsz : 0 < size)
    (A : Option Addr) (n c : Nat) (xs : List Value) (hs : a.eval s = .slice A n c) (hown : w.ownsRow base e size (.slice A n c) n xs)
    (m k : Nat) (news : List Value) (b0 : Nat) (hx : a.eval x = .slice (some ⟨b0, 0, none⟩) m k) (hb : Blk w b0 e news.toArray) (hl : news.length = m * size) (h1 : ∀ u ∈ news, u.oneCell' = true)
    (h63 : n + m ≤ maxLen) (hbytes : (n + m) * bytes ≤ 140737488355328) (hbase : base ≤ w.heap.size)
    (h : ∀ A' c' w', w'.ownsRow base e size (.slice A' (n + m) c') (n + m) (xs ++ news) → w.grownBy w' (Value.slice A n c).ownBlock → ((Value.slice A' (n + m) c').ownBlock = (Value.slice A n c).ownBlock ∨ (Value.slice A' (n + m) c').ownBlock = some w.heap.size) → K (a.put o.dst (.slice A' (n + m) c')) w') :
    if Region.wanted o (yielded ops a.tmps) = true then Oper.wp P o a w K Q else E :=
  step_append_any w hgd s x t ho base e i z size bytes ht hi hz hsize hby hzs hsz (.slice A n c) n xs hs hown w.heap.size (some ⟨b0, 0, none⟩) m k news hx (Reads.blk hb hl) h1 h63 hbytes hbase fun v' w' k1 k2 k3 => by
    obtain ⟨A', c', rfl⟩ := own_form k1
    exact h A' c' w' k1 k2 k3
end Go.Proofs.Yteigopmdhhgnfaa
