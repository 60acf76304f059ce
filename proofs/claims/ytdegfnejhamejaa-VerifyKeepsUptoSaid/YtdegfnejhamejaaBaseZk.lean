/-
  General words for this seat's walks. The first half (down to 'only_of_below') is copied from the guide's pages of lemmas to copy; the rest is ours: what may have turned ('Chg'), slices of data that read as lists ('SlR'), rows that grow.
-/
import Derived.Test.YtdegfnejhamejaaRows
import Derived.WalkKit
import Derived.WalkSpells
import Derived.WalkLawsBesides
import Derived.ProofKit
import Derived.BigQuiet
import Derived.Deep.QuietTactic
import Derived.Deep.DeepMust
import Derived.Deep.LoopGhost
import Derived.Lib.Hide
import Derived.Laws.OwnMore
import Derived.Deep.AppendLies
import Derived.Deep.Draws
import Derived.Laws.Rows
import Derived.Maps.AppendAt
import Derived.RegionTactic
import Derived.OwnWalk
import Derived.Deep.OwnRows
namespace Go.Proofs.Ytdegfnejhamejaa
open Go.RowKit
set_option linter.unusedVariables false
theorem block_of_add (a : Addr) (n : Nat) : (a.add n).block = a.block := by unfold Addr.add; split <;> rfl

def Reads (w : World) (B size : Nat) (A : Option Addr) (n : Nat) (xs : List Value) : Prop :=
  xs.length = n * size ∧ (0 < n → ∃ ad, A = some ad ∧ ad.block < B ∧ ∀ j u, xs[j]? = some u → w.cell? (ad.add j) = some u)

section
variable {w w' : World} {B B' size n : Nat} {A : Option Addr} {xs : List Value}
theorem Reads.keep (h : Reads w B size A n xs) (hk : ∀ p : Addr, p.block < B → w'.cell? p = w.cell? p) : Reads w' B size A n xs :=
  ⟨h.1, fun hn => by
    obtain ⟨ad, e, hb, hc⟩ := h.2 hn
    exact ⟨ad, e, hb, fun j u hu => (hk _ (by rw [block_of_add]; exact hb)).trans (hc j u hu)⟩⟩
theorem Reads.alloc (h : Reads w B size A n xs) (hB : B ≤ w.heap.size) (o : Obj) : Reads (w.alloc o) B size A n xs := h.keep fun p hp => World.cell?_alloc_lt w o p (by omega)
end

def Blk (w : World) (g : Nat) (t : TypeId) (cs : Array Value) : Prop := w.heap[g]? = some (.cells cs t (0, 0))

section
variable {w w' : World} {g : Nat} {t : TypeId} {cs : Array Value}
theorem Blk.lt (h : Blk w g t cs) : g < w.heap.size := by
  rcases Nat.lt_or_ge g w.heap.size with hlt | hge
  · exact hlt
  · unfold Blk at h; rw [Array.getElem?_eq_none hge] at h; cases h
theorem Blk.cell (h : Blk w g t cs) (i : Nat) : w.cell? ⟨g, i, none⟩ = cs[i]? := cell_of_row w g i cs t (0, 0) h
theorem Blk.frozen (h : Blk w g t cs) (i : Nat) : w.frozen? ⟨g, i, none⟩ = false := by
  unfold Blk at h
  simp [World.frozen?, h]
theorem Blk.new (w : World) (t : TypeId) (cs : Array Value) : Blk (w.alloc (.cells cs t)) w.heap.size t cs := heap_alloc_new w _
theorem Blk.drew (h : Blk w g t cs) : Blk w.drew g t cs := h
theorem Blk.drewN (h : Blk w g t cs) (n : Nat) : Blk (w.drewN n) g t cs := h
theorem Blk.alloc (h : Blk w g t cs) (o : Obj) : Blk (w.alloc o) g t cs := (Below.heap_alloc w o g h.lt).trans h
theorem Blk.set_ (h : Blk w g t cs) (i : Nat) (u : Value) : Blk (w.setCell ⟨g, i, none⟩ u) g t (cs.setIfInBounds i u) := by
  unfold Blk at h ⊢
  simp [World.setCell, Array.getElem?_modify, h]
theorem Blk.far (h : Blk w g t cs) {p : Addr} (hp : g ≠ p.block) (u : Value) : Blk (w.setCell p u) g t cs := (Below.heap_setCell w p u g hp).trans h
end

section
variable {P : Program} (w : World)

theorem run_append_of_nil (base : Nat) (t ty e : TypeId) (i : TypeInfo) (size : Nat) (ht : P.underlying t = some (.slice e)) (hi : P.info? e = some i)
    (v : Value) (n : Nat) (xs : List Value) (hown : w.ownsRow base e size v n xs) (c : Nat) : (Builtin.append_ #[t, t] ty #[v, .slice none 0 c]).run P w = .ok v w := by
  rcases hown.2 with ⟨rfl, rfl⟩ | ⟨g, cap, cur, rfl, _, _, hnc, _⟩
  · simp [Builtin.append_, run_underlying ht, sizeOf, typeInfo, hi, Builtin.lenOf, Builtin.firstCells]
  · simp [Builtin.append_, run_underlying ht, sizeOf, typeInfo, hi, Builtin.lenOf, Builtin.firstCells, hnc, storeCells]

theorem run_append_any (base : Nat) (t ty e : TypeId) (i : TypeInfo) (z : Value) (size bytes : Nat) (ht : P.underlying t = some (.slice e)) (hi : P.info? e = some i) (hz : i.zero = some z)
    (hsize : i.size = size) (hby : i.bytes = bytes) (hzs : z.cells.size = size) (hsz : 0 < size)
    (v : Value) (n : Nat) (xs : List Value) (hown : w.ownsRow base e size v n xs)
    (B : Nat) (A : Option Addr) (m c : Nat) (news : List Value) (hr : Reads w B size A m news) (h1 : ∀ u ∈ news, u.oneCell' = true)
    (h63 : n + m ≤ maxLen) (hbytes : (n + m) * bytes ≤ 140737488355328) (hbase : base ≤ w.heap.size) :
    ∃ v' w', (Builtin.append_ #[t, t] ty #[v, .slice A m c]).run P w = .ok v' w' ∧ w'.ownsRow base e size v' (n + m) (xs ++ news) ∧ w.grownBy w' v.ownBlock ∧
      (v'.ownBlock = v.ownBlock ∨ v'.ownBlock = some w.heap.size) := by
  rcases A with _ | ad
  · have hm : m = 0 := by
      rcases Nat.eq_zero_or_pos m with h0 | h0
      · exact h0
      · obtain ⟨ad, h, _⟩ := hr.2 h0
        cases h
    subst hm
    have hn : news = [] := List.eq_nil_of_length_eq_zero (by simpa using hr.1)
    subst hn
    exact ⟨v, w, run_append_of_nil w base t ty e i size ht hi v n xs hown c, by simpa using hown, World.grownBy.refl w _, .inl rfl⟩
  · have hcells : ∀ j u, news[j]? = some u → w.cell? (ad.add j) = some u := by
      intro j u hu
      rcases Nat.eq_zero_or_pos m with h0 | h0
      · subst h0
        have hn : news = [] := List.eq_nil_of_length_eq_zero (by simpa using hr.1)
        subst hn
        simp at hu
      · obtain ⟨ad', h, _, hc⟩ := hr.2 h0
        injection h with h
        subst h
        exact hc j u hu
    obtain ⟨v', w', hrun, h2, h3, _, h5⟩ := run_append_own_at (P := P) w base t ty e i z size bytes ht hi hz hsize hby hzs hsz v n xs hown ad m c news hr.1 hcells h1 h63 hbytes hbase
    exact ⟨v', w', hrun, h2, h3, h5⟩

theorem wp_append_any {o : Oper} {a : Act} {K : Act → World → Prop} {Q : Exit → Act → World → Prop} (s x : Operand) (t : TypeId)
    (ho : o.op = .call { callee := .builtin .append, args := #[s, x], argTypes := #[t, t] })
    (base : Nat) (e : TypeId) (i : TypeInfo) (z : Value) (size bytes : Nat) (ht : P.underlying t = some (.slice e)) (hi : P.info? e = some i) (hz : i.zero = some z)
    (hsize : i.size = size) (hby : i.bytes = bytes) (hzs : z.cells.size = size) (hsz : 0 < size)
    (v : Value) (n : Nat) (xs : List Value) (hs : a.eval s = v) (hown : w.ownsRow base e size v n xs)
    (B : Nat) (A : Option Addr) (m c : Nat) (news : List Value) (hx : a.eval x = .slice A m c) (hr : Reads w B size A m news) (h1 : ∀ u ∈ news, u.oneCell' = true)
    (h63 : n + m ≤ maxLen) (hbytes : (n + m) * bytes ≤ 140737488355328) (hbase : base ≤ w.heap.size)
    (h : ∀ v' w', w'.ownsRow base e size v' (n + m) (xs ++ news) → w.grownBy w' v.ownBlock → (v'.ownBlock = v.ownBlock ∨ v'.ownBlock = some w.heap.size) → K (a.put o.dst v') w') : o.wp P a w K Q := by
  obtain ⟨v', w', hrun, h2, h3, h4⟩ := run_append_any (P := P) w base t o.type e i z size bytes ht hi hz hsize hby hzs hsz v n xs hown B A m c news hr h1 h63 hbytes hbase
  unfold Oper.wp execOp
  simp only [ho, resolve, invoke, builtin, Sem.run_bind, Sem.run_pure, Result.andThen_ok, List.map_toArray, List.map_cons, List.map_nil, hs, hx, hrun]
  exact h v' w' h2 h3 h4

theorem wpList_append_any {ops : Array Oper} {rest : List Oper} {o : Oper} {a : Act} {Q : Exit → Act → World → Prop} (hgd : o.guard = none) (s x : Operand) (t : TypeId)
    (ho : o.op = .call { callee := .builtin .append, args := #[s, x], argTypes := #[t, t] })
    (base : Nat) (e : TypeId) (i : TypeInfo) (z : Value) (size bytes : Nat) (ht : P.underlying t = some (.slice e)) (hi : P.info? e = some i) (hz : i.zero = some z)
    (hsize : i.size = size) (hby : i.bytes = bytes) (hzs : z.cells.size = size) (hsz : 0 < size)
    (v : Value) (n : Nat) (xs : List Value) (hs : a.eval s = v) (hown : w.ownsRow base e size v n xs)
    (B : Nat) (A : Option Addr) (m c : Nat) (news : List Value) (hx : a.eval x = .slice A m c) (hr : Reads w B size A m news) (h1 : ∀ u ∈ news, u.oneCell' = true)
    (h63 : n + m ≤ maxLen) (hbytes : (n + m) * bytes ≤ 140737488355328) (hbase : base ≤ w.heap.size)
    (h : ∀ v' w', w'.ownsRow base e size v' (n + m) (xs ++ news) → w.grownBy w' v.ownBlock → (v'.ownBlock = v.ownBlock ∨ v'.ownBlock = some w.heap.size) → wpList P ops Q rest (a.put o.dst v') w') : wpList P ops Q (o :: rest) a w :=
  wpList_plain hgd fun _ hK => wp_append_any w s x t ho base e i z size bytes ht hi hz hsize hby hzs hsz v n xs hs hown B A m c news hx hr h1 h63 hbytes hbase fun v' w' h2 h3 h4 => hK _ _ (h v' w' h2 h3 h4)

theorem step_append_any {ops : Array Oper} {o : Oper} {a : Act} {K : Act → World → Prop} {Q : Exit → Act → World → Prop} {E : Prop} (hgd : o.guard = none) (s x : Operand) (t : TypeId)
    (ho : o.op = .call { callee := .builtin .append, args := #[s, x], argTypes := #[t, t] })
    (base : Nat) (e : TypeId) (i : TypeInfo) (z : Value) (size bytes : Nat) (ht : P.underlying t = some (.slice e)) (hi : P.info? e = some i) (hz : i.zero = some z)
    (hsize : i.size = size) (hby : i.bytes = bytes) (hzs : z.cells.size = size) (hsz : 0 < size)
    (v : Value) (n : Nat) (xs : List Value) (hs : a.eval s = v) (hown : w.ownsRow base e size v n xs)
    (B : Nat) (A : Option Addr) (m c : Nat) (news : List Value) (hx : a.eval x = .slice A m c) (hr : Reads w B size A m news) (h1 : ∀ u ∈ news, u.oneCell' = true)
    (h63 : n + m ≤ maxLen) (hbytes : (n + m) * bytes ≤ 140737488355328) (hbase : base ≤ w.heap.size)
    (h : ∀ v' w', w'.ownsRow base e size v' (n + m) (xs ++ news) → w.grownBy w' v.ownBlock → (v'.ownBlock = v.ownBlock ∨ v'.ownBlock = some w.heap.size) → K (a.put o.dst v') w') :
    if Region.wanted o (yielded ops a.tmps) = true then Oper.wp P o a w K Q else E := by
  have hw : Region.wanted o (yielded ops a.tmps) = true := by simp [Region.wanted, hgd]
  rw [if_pos hw]
  exact wp_append_any w s x t ho base e i z size bytes ht hi hz hsize hby hzs hsz v n xs hs hown B A m c news hx hr h1 h63 hbytes hbase h
end

theorem below_drewN {B : Nat} {a w : World} (h : Below B a w) (n : Nat) : Below B a (w.drewN n) := ⟨h.os, h.tape, h.output, h.size, h.block⟩

/-! ## What may have turned -/

def tyOf : Obj → Nat
  | .cells _ t _ => t
  | _ => 0

/-- Blocks that 'M' does not let turn are as they were; the streams are as they were; no block has gone. -/
structure Chg (M : Nat → Nat → Prop) (w w' : World) : Prop where
  os : w'.os = w.os
  tape : w'.tape = w.tape
  output : w'.output = w.output
  size : w.heap.size ≤ w'.heap.size
  keep : ∀ b o, w.heap[b]? = some o → ¬ M b (tyOf o) → w'.heap[b]? = some o

section
variable {M M' : Nat → Nat → Prop} {w w' w'' : World}
theorem Chg.refl (M : Nat → Nat → Prop) (w : World) : Chg M w w := ⟨rfl, rfl, rfl, Nat.le_refl _, fun _ _ h _ => h⟩
theorem Chg.trans (h : Chg M w w') (k : Chg M w' w'') : Chg M w w'' :=
  ⟨k.os.trans h.os, k.tape.trans h.tape, k.output.trans h.output, Nat.le_trans h.size k.size, fun b o hb hm => k.keep b o (h.keep b o hb hm) hm⟩
theorem Chg.mono (h : Chg M w w') (hM : ∀ b t, b < w.heap.size → M b t → M' b t) : Chg M' w w' :=
  ⟨h.os, h.tape, h.output, h.size, fun b o hb hm => h.keep b o hb fun k => hm (hM b _ (Array.getElem?_eq_some_iff.1 hb).1 k)⟩
theorem Chg.alloc (h : Chg M w w') (o : Obj) : Chg M w (w'.alloc o) :=
  h.trans ⟨rfl, rfl, rfl, by simp, fun b o' hb _ => (Below.heap_alloc _ _ _ (Array.getElem?_eq_some_iff.1 hb).1).trans hb⟩
theorem Chg.drew (h : Chg M w w') : Chg M w w'.drew := ⟨h.os, h.tape, h.output, h.size, h.keep⟩
theorem Chg.drewN (h : Chg M w w') (n : Nat) : Chg M w (w'.drewN n) := ⟨h.os, h.tape, h.output, h.size, h.keep⟩
theorem Chg.setCell (h : Chg M w w') (p : Addr) (u : Value) (hp : ∀ o, w.heap[p.block]? = some o → M p.block (tyOf o)) : Chg M w (w'.setCell p u) := by
  refine ⟨h.os, h.tape, h.output, Nat.le_trans h.size (by simp [World.setCell]), fun b o hb hm => ?_⟩
  have hne : b ≠ p.block := by
    intro e
    subst e
    exact hm (hp o hb)
  exact (Below.heap_setCell _ _ _ _ hne).trans (h.keep b o hb hm)
theorem Chg.grown {row : Option Nat} (h : Chg M w w') (hg : w'.grownBy w'' row) (hr : ∀ g o, row = some g → w.heap[g]? = some o → M g (tyOf o)) : Chg M w w'' := by
  refine ⟨hg.os.trans h.os, hg.tape.trans h.tape, hg.output.trans h.output, Nat.le_trans h.size hg.size, fun b o hb hm => ?_⟩
  have h1 := h.keep b o hb hm
  have hlt : b < w'.heap.size := (Array.getElem?_eq_some_iff.1 h1).1
  rw [hg.block b hlt]
  · exact h1
  · intro e
    exact hm (hr b o e.symm hb)
theorem Chg.below {B : Nat} (h : Chg M w w') (hM : ∀ b t, M b t → B ≤ b) (hB : B ≤ w.heap.size) : Below B w w' := by
  refine ⟨h.os, h.tape, h.output, h.size, fun k hk => ?_⟩
  have hlt : k < w.heap.size := by omega
  rw [Array.getElem?_eq_getElem hlt]
  exact h.keep k _ (Array.getElem?_eq_getElem hlt) fun hm => by have := hM k _ hm; omega
theorem Chg.of_below (h : Below w.heap.size w w') (M : Nat → Nat → Prop) : Chg M w w' :=
  ⟨h.os, h.tape, h.output, h.size, fun b o hb _ => (h.block b (Array.getElem?_eq_some_iff.1 hb).1).trans hb⟩
theorem Chg.blk {g : Nat} {t : TypeId} {cs : Array Value} (h : Chg M w w') (hb : Blk w g t cs) (hm : ¬ M g t) : Blk w' g t cs := h.keep g _ hb hm
theorem Chg.own {base : Nat} {e : TypeId} {size n : Nat} {v : Value} {xs : List Value} (h : Chg M w w') (ho : w.ownsRow base e size v n xs) (hm : ∀ g, v.ownBlock = some g → ¬ M g e) : w'.ownsRow base e size v n xs := by
  obtain ⟨h1, h2⟩ := ho
  refine ⟨h1, ?_⟩
  rcases h2 with h2 | ⟨g, cap, cur, hv, hg, hh, r⟩
  · exact .inl h2
  · refine .inr ⟨g, cap, cur, hv, hg, h.keep g _ hh ?_, r⟩
    exact hm g (by rw [hv]; rfl)
theorem Chg.cell {p : Addr} {u : Value} (h : Chg M w w') (hc : w.cell? p = some u) (hm : ∀ t, ¬ M p.block t) : w'.cell? p = some u := by
  have hlt := World.block_lt_of_cell? w p hc
  have hb := h.keep p.block _ (Array.getElem?_eq_getElem hlt) (hm _)
  rw [World.cell?_of_block (w := w) (hb.trans (Array.getElem?_eq_getElem hlt).symm)]
  exact hc
end

/-! ## Slices of data -/

/-- A block that a reading may lean on: one below B, or (e is not 0) a row of elements of type e. -/
def Lies (w : World) (B e b : Nat) : Prop := b < B ∨ e ≠ 0 ∧ ∃ cs fr, w.heap[b]? = some (.cells cs e fr)

def SlR {α : Type} (B e size : Nat) (R : World → List Value → α → Prop) (w : World) (v : Value) (l : List α) : Prop :=
  ∃ A c, v = .slice A l.length c ∧ l.length ≤ c ∧ (0 < l.length → ∃ b o, A = some ⟨b, o, none⟩ ∧ Lies w B e b ∧ b < w.heap.size ∧
    ∀ k x, l[k]? = some x → ∃ cs, cs.length = size ∧ R w cs x ∧ ∀ j u, cs[j]? = some u → w.cell? ⟨b, o + k * size + j, none⟩ = some u)

/-- The frame 'M' lets be what lies below B and rows of type e. -/
def Lets (M : Nat → Nat → Prop) (B e : Nat) : Prop := (∀ b t, b < B → ¬ M b t) ∧ (e ≠ 0 → ∀ b, ¬ M b e)

theorem Lies.keep {M : Nat → Nat → Prop} {w w' : World} {B e b : Nat} (h : Lies w B e b) (hc : Chg M w w') (hm : Lets M B e) : Lies w' B e b := by
  rcases h with h | ⟨he, cs, fr, h⟩
  · exact .inl h
  · exact .inr ⟨he, cs, fr, hc.keep b _ h (hm.2 he b)⟩
theorem Lies.cell {M : Nat → Nat → Prop} {w w' : World} {B e b o : Nat} {u : Value} (h : Lies w B e b) (hc : Chg M w w') (hm : Lets M B e) (hu : w.cell? ⟨b, o, none⟩ = some u) : w'.cell? ⟨b, o, none⟩ = some u := by
  rcases h with h | ⟨he, cs, fr, h⟩
  · exact hc.cell hu fun t => hm.1 b t h
  · rw [World.cell?_of_block (w := w) ((hc.keep b _ h (hm.2 he b)).trans h.symm)]
    exact hu

section
variable {α : Type} {B e size : Nat} {R : World → List Value → α → Prop} {w w' : World} {v : Value} {l : List α}
theorem SlR.keep {M : Nat → Nat → Prop} (h : SlR B e size R w v l) (hc : Chg M w w') (hm : Lets M B e) (hR : ∀ cs x, R w cs x → R w' cs x) : SlR B e size R w' v l := by
  obtain ⟨A, c, hv, hl, h⟩ := h
  refine ⟨A, c, hv, hl, fun h0 => ?_⟩
  obtain ⟨b, o, hA, hb, hlt, hk⟩ := h h0
  refine ⟨b, o, hA, hb.keep hc hm, Nat.lt_of_lt_of_le hlt hc.size, fun k x hx => ?_⟩
  obtain ⟨cs, h1, h2, h3⟩ := hk k x hx
  exact ⟨cs, h1, hR _ _ h2, fun j u hu => hb.cell hc hm (h3 j u hu)⟩
theorem SlR.imp {B' e' : Nat} {R' : World → List Value → α → Prop} (h : SlR B e size R w v l) (hL : ∀ b, b < w.heap.size → Lies w B e b → Lies w B' e' b) (hR : ∀ cs x, R w cs x → R' w cs x) : SlR B' e' size R' w v l := by
  obtain ⟨A, c, hv, hl, h⟩ := h
  refine ⟨A, c, hv, hl, fun h0 => ?_⟩
  obtain ⟨b, o, hA, hb, hlt, hk⟩ := h h0
  refine ⟨b, o, hA, hL b hlt hb, hlt, fun k x hx => ?_⟩
  obtain ⟨cs, h1, h2, h3⟩ := hk k x hx
  exact ⟨cs, h1, hR _ _ h2, h3⟩
/-- All that is there lies below the heap's end. -/
theorem SlR.settle {R' : World → List Value → α → Prop} (h : SlR B e size R w v l) (hR : ∀ cs x, R w cs x → R' w cs x) : SlR w.heap.size 0 size R' w v l := h.imp (fun b hb _ => .inl hb) hR
theorem SlR.at_ (h : SlR B e size R w v l) {k : Nat} (hk : k < l.length) : ∃ b o c cs, v = .slice (some ⟨b, o, none⟩) l.length c ∧ l.length ≤ c ∧ Lies w B e b ∧ b < w.heap.size ∧ cs.length = size ∧ R w cs l[k] ∧ ∀ j u, cs[j]? = some u → w.cell? ⟨b, o + k * size + j, none⟩ = some u := by
  obtain ⟨A, c, hv, hl, h⟩ := h
  obtain ⟨b, o, hA, hb, hlt, h⟩ := h (by omega)
  obtain ⟨cs, h1, h2, h3⟩ := h k _ (List.getElem?_eq_getElem hk)
  exact ⟨b, o, c, cs, by rw [hv, hA], hl, hb, hlt, h1, h2, h3⟩
theorem SlR.nil (B e size : Nat) (R : World → List Value → α → Prop) (w : World) (A : Option Addr) (c : Nat) : SlR B e size R w (.slice A 0 c) [] := ⟨A, c, rfl, Nat.zero_le _, fun h => absurd h (by simp)⟩
theorem flatten_at {β : Type} {size : Nat} : ∀ (xss : List (List β)) (_ : ∀ cs ∈ xss, cs.length = size) (k j : Nat) (hk : k < xss.length) (_ : j < size), xss.flatten[k * size + j]? = (xss[k])[j]?
  | [], _, k, _, hk, _ => absurd hk (by simp)
  | y :: ys, hs, 0, j, _, hj => by
    have hy := hs y (by simp)
    simp only [List.flatten_cons, Nat.zero_mul, Nat.zero_add, List.getElem_cons_zero]
    rw [List.getElem?_append_left (by omega)]
  | y :: ys, hs, k + 1, j, hk, hj => by
    have hy := hs y (by simp)
    have ih := flatten_at ys (fun cs h => hs cs (by simp [h])) k j (by simpa using hk) hj
    simp only [List.flatten_cons, List.getElem_cons_succ]
    rw [List.getElem?_append_right (by rw [Nat.succ_mul]; omega), show (k + 1) * size + j - y.length = k * size + j by rw [Nat.succ_mul]; omega]
    exact ih
/-- A row of the call's own reads as data. -/
theorem SlR.of_own {base n : Nat} (he : e ≠ 0) {xss : List (List Value)} (ho : w.ownsRow base e size v n xss.flatten) (hlen : xss.length = l.length) (hn : n = l.length)
    (hs : ∀ cs ∈ xss, cs.length = size) (hR : ∀ (k : Nat) x cs, l[k]? = some x → xss[k]? = some cs → R w cs x) : SlR B e size R w v l := by
  subst hn
  obtain ⟨h1, h2⟩ := ho
  rcases h2 with ⟨hv, h0⟩ | ⟨g, cap, cur, hv, hg, hh, hnc, _, _, htake⟩
  · exact ⟨none, 0, by rw [hv, h0], by omega, fun h => absurd h (by omega)⟩
  · refine ⟨_, _, hv, hnc, fun _ => ⟨g, 0, rfl, .inr ⟨he, _, _, hh⟩, (Array.getElem?_eq_some_iff.1 hh).1, fun k x hx => ?_⟩⟩
    have hk : k < l.length := (List.getElem?_eq_some_iff.1 hx).1
    have hk' : k < xss.length := by omega
    refine ⟨xss[k], hs _ (List.getElem_mem hk'), hR k x _ hx (List.getElem?_eq_getElem hk'), fun j u hu => ?_⟩
    have hj : j < size := by
      have := hs _ (List.getElem_mem hk')
      have h3 := (List.getElem?_eq_some_iff.1 hu).1
      omega
    have hf : xss.flatten[k * size + j]? = some u := by rw [flatten_at xss hs k j hk' hj]; exact hu
    rw [Nat.zero_add, cell_of_row w g _ cur e (0, 0) hh]
    rw [← htake, List.getElem?_take] at hf
    split at hf
    · simpa using hf
    · cases hf
end

/-! One more element onto a row of the call's own: the translation has just laid it in a block of its own. -/
section
variable {P : Program} {w : World} {base : Nat} {e : TypeId} {size n : Nat} {v : Value} {xs : List Value}
theorem own_form (h : w.ownsRow base e size v n xs) : ∃ A c, v = .slice A n c := by
  obtain ⟨h1, h2⟩ := h
  rcases h2 with ⟨hv, hx⟩ | ⟨g, cap, cur, hv, _⟩
  · exact ⟨none, 0, by rw [hv, hx]⟩
  · exact ⟨_, _, hv⟩
theorem own_blk {A : Option Addr} {c : Nat} (h : w.ownsRow base e size (.slice A n c) n xs) {g : Nat} (hg : (Value.slice A n c).ownBlock = some g) : base ≤ g ∧ ∃ cs, Blk w g e cs := by
  rcases h.2 with ⟨h1, _⟩ | ⟨g', cap, cur, h1, hb, hh, _⟩
  · rw [h1] at hg; simp [Value.ownBlock] at hg
  · rw [h1] at hg
    have : g' = g := by simpa [Value.ownBlock] using hg
    subst this
    exact ⟨hb, _, hh⟩

/-- What an append onto one's own row leaves: the row, longer; only it, or a new block, has turned. -/
structure Apd (w w' : World) (base : Nat) (e : TypeId) (size : Nat) (A A' : Option Addr) (n c n' c' : Nat) (xs : List Value) : Prop where
  own : w'.ownsRow base e size (.slice A' n' c') n' xs
  grown : w.grownBy w' (Value.slice A n c).ownBlock
  place : (Value.slice A' n' c').ownBlock = (Value.slice A n c).ownBlock ∨ (Value.slice A' n' c').ownBlock = some w.heap.size

theorem Apd.chg {w' : World} {o : Obj} {A A' : Option Addr} {c n' c' : Nat} {base' : Nat} {ys : List Value} (h : Apd (w.alloc o) w' base e size A A' n c n' c' ys) (how : w.ownsRow base' e size (.slice A n c) n xs) :
    Chg (fun b t => base' ≤ b ∧ t = e) w w' := by
  refine ((Chg.refl _ w).alloc o).grown h.grown fun g o' hg ho => ?_
  obtain ⟨h1, cs, h2⟩ := own_blk how hg
  rw [h2] at ho
  injection ho with ho
  subst ho
  exact ⟨h1, rfl⟩

theorem wpList_append_new {ops : Array Oper} {rest : List Oper} {o : Oper} {a : Act} {Q : Exit → Act → World → Prop} (hgd : o.guard = none) (s x : Operand) (t : TypeId)
    (ho : o.op = .call { callee := .builtin .append, args := #[s, x], argTypes := #[t, t] })
    (base : Nat) (e : TypeId) (i : TypeInfo) (z : Value) (size bytes : Nat) (ht : P.underlying t = some (.slice e)) (hi : P.info? e = some i) (hz : i.zero = some z)
    (hsize : i.size = size) (hby : i.bytes = bytes) (hzs : z.cells.size = size) (hsz : 0 < size)
    (A : Option Addr) (n c : Nat) (xs : List Value) (hs : a.eval s = .slice A n c) (hown : w.ownsRow base e size (.slice A n c) n xs)
    (m k : Nat) (news : List Value) {b0 : Nat} (hx : a.eval x = .slice (some ⟨b0, 0, none⟩) m k) (hW : w.heap.size = b0) (hl : news.length = m * size) (h1 : ∀ u ∈ news, u.oneCell' = true)
    (h63 : n + m ≤ maxLen) (hbytes : (n + m) * bytes ≤ 140737488355328) (hbase : base ≤ w.heap.size)
    (h : ∀ A' c' w', Apd (w.alloc (.cells news.toArray e)) w' base e size A A' n c (n + m) c' (xs ++ news) → wpList P ops Q rest (a.put o.dst (.slice A' (n + m) c')) w') : wpList P ops Q (o :: rest) a (w.alloc (.cells news.toArray e)) := by
  subst hW
  refine wpList_append_any _ hgd s x t ho base e i z size bytes ht hi hz hsize hby hzs hsz (.slice A n c) n xs hs (hown.alloc _) (w.alloc (.cells news.toArray e)).heap.size (some ⟨w.heap.size, 0, none⟩) m k news hx ?_ h1 h63 hbytes (by simp; omega) ?_
  · refine ⟨hl, fun _ => ⟨_, rfl, by simp, fun j u hu => ?_⟩⟩
    have hadd : (⟨w.heap.size, 0, none⟩ : Addr).add j = ⟨w.heap.size, j, none⟩ := by unfold Addr.add; split <;> simp_all
    rw [hadd, cell_of_row _ w.heap.size j news.toArray e (0, 0) (heap_alloc_new w _)]
    simpa using hu
  · intro v' w' h1 h2 h3
    obtain ⟨A', c', rfl⟩ := own_form h1
    exact h A' c' w' ⟨h1, h2, h3⟩
end

/-! ## A slice copied onto an empty one -/
theorem add_flat (b o j : Nat) : (⟨b, o, none⟩ : Addr).add j = ⟨b, o + j, none⟩ := by unfold Addr.add; split <;> simp_all
theorem flatten_len {β : Type} {size : Nat} : ∀ (xss : List (List β)) (_ : ∀ cs ∈ xss, cs.length = size), xss.flatten.length = xss.length * size
  | [], _ => by simp
  | y :: ys, h => by
    have h1 := h y (by simp)
    have h2 := flatten_len ys fun cs hc => h cs (by simp [hc])
    rw [List.flatten_cons, List.length_append, h1, h2, List.length_cons, Nat.succ_mul, Nat.add_comm]
section
variable {α : Type} {B e size : Nat} {R : World → List Value → α → Prop} {w w' : World} {l : List α}
/-- A slice of data as one list of cells. -/
theorem SlR.reads {A : Option Addr} {n c : Nat} (h : SlR B e size R w (.slice A n c) l) : ∃ xss : List (List Value), xss.length = l.length ∧ (∀ cs ∈ xss, cs.length = size) ∧ (∀ (k : Nat) x cs, l[k]? = some x → xss[k]? = some cs → R w cs x) ∧ Reads w w.heap.size size A n xss.flatten := by
  obtain ⟨A', c', hv, _, h⟩ := h
  injection hv with hA hn _
  subst hA
  subst hn
  by_cases h0 : 0 < l.length
  · obtain ⟨b, o, hA, _, hlt, hk⟩ := h h0
    have hch : ∀ k : Nat, ∃ cs : List Value, k < l.length → cs.length = size ∧ (∀ x, l[k]? = some x → R w cs x) ∧ ∀ j u, cs[j]? = some u → w.cell? ⟨b, o + k * size + j, none⟩ = some u := by
      intro k
      by_cases hkl : k < l.length
      · obtain ⟨cs, h1, h2, h3⟩ := hk k _ (List.getElem?_eq_getElem hkl)
        exact ⟨cs, fun _ => ⟨h1, fun x hx => by rw [List.getElem?_eq_getElem hkl] at hx; injection hx with hx; subst hx; exact h2, h3⟩⟩
      · exact ⟨[], fun h => absurd h hkl⟩
    let F : Nat → List Value := fun k => Classical.choose (hch k)
    have hF : ∀ k, k < l.length → (F k).length = size ∧ (∀ x, l[k]? = some x → R w (F k) x) ∧ ∀ j u, (F k)[j]? = some u → w.cell? ⟨b, o + k * size + j, none⟩ = some u := fun k => Classical.choose_spec (hch k)
    have hget : ∀ (k : Nat) cs, ((List.range l.length).map F)[k]? = some cs → k < l.length ∧ cs = F k := by
      intro k cs hcs
      rw [List.getElem?_map] at hcs
      obtain ⟨k', h1, h2⟩ := Option.map_eq_some_iff.1 hcs
      have h3 := List.getElem?_eq_some_iff.1 h1
      obtain ⟨h4, h5⟩ := h3
      rw [List.getElem_range] at h5
      subst h5
      exact ⟨by simpa using h4, h2.symm⟩
    have hlen : ∀ cs ∈ (List.range l.length).map F, cs.length = size := by
      intro cs hcs
      obtain ⟨k, hk1, hk2⟩ := List.mem_map.1 hcs
      rw [← hk2]
      exact (hF k (List.mem_range.1 hk1)).1
    have hfl : ((List.range l.length).map F).flatten.length = l.length * size := by rw [flatten_len _ hlen]; simp
    refine ⟨(List.range l.length).map F, by simp, hlen, fun k x cs hx hcs => ?_, hfl, fun _ => ⟨⟨b, o, none⟩, hA, hlt, fun j u hu => ?_⟩⟩
    · obtain ⟨h1, rfl⟩ := hget k cs hcs
      exact (hF k h1).2.1 x hx
    · have hj : j < l.length * size := by rw [← hfl]; exact (List.getElem?_eq_some_iff.1 hu).1
      have hs : 0 < size := by
        rcases Nat.eq_zero_or_pos size with h1 | h1
        · rw [h1] at hj; omega
        · exact h1
      have hq : j / size < l.length := by rw [Nat.div_lt_iff_lt_mul hs]; exact hj
      have hr : j % size < size := Nat.mod_lt _ hs
      have hjd : j = j / size * size + j % size := by rw [Nat.mul_comm]; exact (Nat.div_add_mod j size).symm
      have hat := flatten_at ((List.range l.length).map F) hlen (j / size) (j % size) (by simpa using hq) hr
      rw [← hjd, hu] at hat
      rw [List.getElem_map, List.getElem_range] at hat
      have h3 := (hF (j / size) hq).2.2 (j % size) u hat.symm
      rw [add_flat]
      rw [show o + j = o + j / size * size + j % size by omega]
      exact h3
  · have hl : l.length = 0 := by omega
    refine ⟨[], by simp [hl], by simp, fun k x cs _ h => by simp at h, by simp [hl], fun h => absurd h h0⟩

theorem wpList_copy_slr {P : Program} {W : World} {ops : Array Oper} {rest : List Oper} {o : Oper} {a : Act} {Q : Exit → Act → World → Prop} (hgd : o.guard = none) (s x : Operand) (t : TypeId)
    (ho : o.op = .call { callee := .builtin .append, args := #[s, x], argTypes := #[t, t] })
    (e' : TypeId) (i : TypeInfo) (z : Value) (bytes : Nat) (ht : P.underlying t = some (.slice e')) (hi : P.info? e' = some i) (hz : i.zero = some z)
    (hsize : i.size = size) (hby : i.bytes = bytes) (hzs : z.cells.size = size) (hsz : 0 < size)
    (A : Option Addr) (n c : Nat) {b0 : Nat} (hs : a.eval s = .slice (some ⟨b0, 0, none⟩) 0 0) (hW : W.heap.size = b0) (hx : a.eval x = .slice A n c) (hr : SlR B e size R W (.slice A n c) l) (hone : ∀ cs y, R W cs y → ∀ u ∈ cs, u.oneCell' = true)
    (hn : n ≤ 1099511627776) (hb : bytes ≤ 127)
    (h : ∀ A' c' w' (xss : List (List Value)), w'.ownsRow W.heap.size e' size (.slice A' n c') n xss.flatten → xss.length = l.length → (∀ cs ∈ xss, cs.length = size) → (∀ (k : Nat) x cs, l[k]? = some x → xss[k]? = some cs → R W cs x) →
      Chg (fun _ _ => False) W w' → wpList P ops Q rest (a.put o.dst (.slice A' n c')) w') : wpList P ops Q (o :: rest) a (W.alloc (.cells #[] e')) := by
  subst hW
  obtain ⟨xss, h1, h2, h3, h4⟩ := hr.reads
  have hl : n = l.length := by
    obtain ⟨A', c', hv, _⟩ := hr
    injection hv
  have hown : (W.alloc (.cells #[] e')).ownsRow W.heap.size e' size (.slice (some ⟨W.heap.size, 0, none⟩) 0 0) 0 [] := World.ownsRow_made W #[] 0 (Nat.le_refl _) (by simp [maxLen]) (by simp)
  have honeF : ∀ u ∈ xss.flatten, u.oneCell' = true := by
    intro u hu
    obtain ⟨cs, hcs, hu⟩ := List.mem_flatten.1 hu
    obtain ⟨k, hk, hk2⟩ := List.mem_iff_getElem.1 hcs
    have hkl : k < l.length := by omega
    exact hone cs l[k] (h3 k _ _ (List.getElem?_eq_getElem hkl) (by rw [List.getElem?_eq_getElem hk, hk2])) u hu
  have hbn : n * bytes ≤ 1099511627776 * 127 := Nat.mul_le_mul hn hb
  refine wpList_append_any _ hgd s x t ho W.heap.size e' i z size bytes ht hi hz hsize hby hzs hsz _ 0 [] hs hown W.heap.size A n c xss.flatten hx (h4.alloc (Nat.le_refl _) _) honeF (by simp only [maxLen]; omega) (by rw [Nat.zero_add]; omega) (by simp) ?_
  intro v' w' k1 k2 k3
  rw [Nat.zero_add, List.nil_append] at k1
  obtain ⟨A', c', rfl⟩ := own_form k1
  refine h A' c' w' xss k1 h1 h2 h3 ?_
  exact ((Chg.refl _ W).alloc _).grown k2 fun g o' hg ho' => by
    have : W.heap.size = g := by simpa [Value.ownBlock] using hg
    subst this
    rw [Array.getElem?_eq_none (Nat.le_refl _)] at ho'
    cases ho'
end

end Go.Proofs.Ytdegfnejhamejaa
