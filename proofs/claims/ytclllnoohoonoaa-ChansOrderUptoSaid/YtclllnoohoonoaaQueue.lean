/-
  A row that may begin behind its block's beginning: what a queue is. One more element behind; the first one taken off.
-/
import Derived.Test.YtclllnoohoonoaaBase
import Derived.Deep.AppendSrc
namespace Go.Proofs.Ytclllnoohoonoaa
open Go.RowKit
set_option linter.unusedVariables false
set_option linter.unusedSimpArgs false

def QR (w : World) (e : TypeId) (v : Value) (xs : List Value) : Prop :=
  (v = .slice none 0 0 ∧ xs = []) ∨
  ∃ g o cap cur, v = .slice (some ⟨g, o, none⟩) xs.length cap ∧ Blk w g e cur ∧ xs.length ≤ cap ∧ cap ≤ maxLen ∧ o + cap ≤ cur.size ∧ ∀ i u, xs[i]? = some u → cur[o + i]? = some u
section
variable {w w' : World} {e : TypeId} {v : Value} {xs : List Value}
theorem QR.nil (w : World) (e : TypeId) : QR w e (.slice none 0 0) [] := .inl ⟨rfl, rfl⟩
theorem QR.form (h : QR w e v xs) : ∃ A c, v = .slice A xs.length c ∧ xs.length ≤ c := by
  rcases h with ⟨rfl, rfl⟩ | ⟨g, o, cap, cur, rfl, _, h, _⟩
  · exact ⟨_, _, rfl, Nat.le_refl _⟩
  · exact ⟨_, _, rfl, h⟩
theorem QR.keep {M : Nat → Nat → Prop} (h : QR w e v xs) (hc : Chg M w w') (hm : ∀ g, v.ownBlock = some g → ¬ M g e) : QR w' e v xs := by
  rcases h with h | ⟨g, o, cap, cur, rfl, hb, h⟩
  · exact .inl h
  · exact .inr ⟨g, o, cap, cur, rfl, hc.blk hb (hm g rfl), h⟩
theorem QR.lt (h : QR w e v xs) {g : Nat} (hg : v.ownBlock = some g) : g < w.heap.size ∧ ∃ cur, Blk w g e cur := by
  rcases h with ⟨rfl, _⟩ | ⟨g', o, cap, cur, rfl, hb, _⟩
  · simp [Value.ownBlock] at hg
  · have : g' = g := by simpa [Value.ownBlock] using hg
    subst this
    exact ⟨hb.lt, cur, hb⟩
theorem QR.at_ (h : QR w e v xs) {k : Nat} (hk : k < xs.length) : ∃ g o c, v = .slice (some ⟨g, o, none⟩) xs.length c ∧ g < w.heap.size ∧ w.cell? ⟨g, o + k, none⟩ = some xs[k] := by
  rcases h with ⟨rfl, rfl⟩ | ⟨g, o, cap, cur, rfl, hb, h1, _, h3, h4⟩
  · simp at hk
  · exact ⟨g, o, cap, rfl, hb.lt, by rw [hb.cell]; exact h4 k _ (List.getElem?_eq_getElem hk)⟩
theorem QR.reads (h : QR w e v xs) : ∃ A c, v = .slice A xs.length c ∧ Reads w w.heap.size 1 A xs.length xs := by
  rcases h with ⟨rfl, rfl⟩ | ⟨g, o, cap, cur, rfl, hb, h1, _, h3, h4⟩
  · exact ⟨_, _, rfl, Reads.none_⟩
  · refine ⟨_, _, rfl, by simp, fun h0 => ⟨_, rfl, hb.lt, fun j u hu => ?_⟩⟩
    rw [add_flat, hb.cell]
    exact h4 j u hu
/-- The first one taken off. -/
theorem QR.pop {x : Value} {A : Option Addr} {n c : Nat} (h : QR w e (.slice A n c) (x :: xs)) : ∃ g o cap, A = some ⟨g, o, none⟩ ∧ n = xs.length + 1 ∧ c = cap ∧ xs.length + 1 ≤ cap ∧ cap ≤ maxLen ∧ g < w.heap.size ∧ w.cell? ⟨g, o, none⟩ = some x ∧
    QR w e (.slice (some ⟨g, o + 1, none⟩) xs.length (cap - 1)) xs ∧ (cap = 1 → QR w e (.slice (some ⟨g, o, none⟩) xs.length 0) xs) := by
  rcases h with ⟨_, h⟩ | ⟨g, o, cap, cur, hv, hb, h1, h2, h3, h4⟩
  · cases h
  · injection hv with hA hn hc
    subst hA hn hc
    simp only [List.length_cons] at h1
    refine ⟨g, o, _, rfl, by simp, rfl, h1, h2, hb.lt, by rw [hb.cell]; exact h4 0 x rfl, .inr ⟨g, o + 1, _, cur, rfl, hb, by omega, by omega, by omega, fun i u hu => ?_⟩, fun hc1 => .inr ⟨g, o, _, cur, rfl, hb, by omega, by omega, by omega, fun i u hu => ?_⟩⟩
    · rw [show o + 1 + i = o + (i + 1) by omega]
      exact h4 (i + 1) u (by simpa using hu)
    · have h0 : xs.length = 0 := by omega
      have : xs = [] := List.eq_nil_of_length_eq_zero h0
      subst this
      simp at hu
end
theorem World.heap_alloc_lt_q (w : World) (o : Obj) (i : Nat) (h : i < w.heap.size) : (w.alloc o).heap[i]? = w.heap[i]? := Below.heap_alloc w o i h
section
variable {P : Program} (w : World)
theorem run_append_q (t ty e : TypeId) (i : TypeInfo) (z : Value) (bytes : Nat) (ht : P.underlying t = some (.slice e)) (hi : P.info? e = some i) (hz : i.zero = some z) (hs1 : i.size = 1) (hby : i.bytes = bytes) (hzs : z.cells.size = 1)
    (v : Value) (xs : List Value) (hq : QR w e v xs) (b0 c0 : Nat) (x : Value) (hx : w.cell? ⟨b0, 0, none⟩ = some x) (h1 : x.oneCell' = true) (h63 : xs.length + 1 ≤ maxLen) (hbytes : (xs.length + 1) * bytes ≤ 140737488355328) :
    ∃ v' w', (Builtin.append_ #[t, t] ty #[v, .slice (some ⟨b0, 0, none⟩) 1 c0]).run P w = .ok v' w' ∧ QR w' e v' (xs ++ [x]) ∧ w.grownBy w' v.ownBlock ∧ (v'.ownBlock = v.ownBlock ∨ v'.ownBlock = some w.heap.size) := by
  subst hby
  have hsmall : xs.length + 1 ≤ 9223372036854775807 := by simp only [maxLen] at h63; omega
  have hsrc : Src P i.size t (.slice (some ⟨b0, 0, none⟩) 1 c0) 1 [x] w := Src.ofSlice w ht ⟨b0, 0, none⟩ 1 c0 [x] (by simp [hs1]) (fun j u hu => by
    match j, hu with
    | 0, hu => simp at hu; subst hu; simpa [Addr.add] using hx
    | j + 1, hu => simp at hu) (by intro u hu; simp at hu; subst hu; exact h1)
  have grown : ∀ (base : Option Addr) (old : Nat), old < xs.length + 1 → ∀ row, QR (w.drew.alloc (.cells ((xs ++ [x]).toArray ++ Builtin.zeroCells z.cells (grownCap w (xs.length + 1) old e - (xs.length + 1))) e)) e (.slice (some ⟨w.heap.size, 0, none⟩) (xs.length + 1) (grownCap w (xs.length + 1) old e)) (xs ++ [x]) ∧
      w.grownBy (w.drew.alloc (.cells ((xs ++ [x]).toArray ++ Builtin.zeroCells z.cells (grownCap w (xs.length + 1) old e - (xs.length + 1))) e)) row := by
    intro base old ho row
    have hge := grownCap_ge w (xs.length + 1) old e
    refine ⟨.inr ⟨w.heap.size, 0, _, _, by simp, heap_alloc_new w.drew _, by simpa using hge, grownCap_le_maxLen w _ old e h63, ?_, fun k u hu => ?_⟩, ⟨rfl, rfl, rfl, by simp, fun k hk _ => World.heap_alloc_lt_q w.drew _ k hk⟩⟩
    · simp only [Array.size_append, List.size_toArray, size_zeroCells, hzs, List.length_append, List.length_singleton]
      omega
    · have hk : k < (xs ++ [x]).length := (List.getElem?_eq_some_iff.1 hu).1
      rw [Nat.zero_add, Array.getElem?_append_left (by simpa using hk)]
      simpa using hu
  rcases hq with ⟨rfl, rfl⟩ | ⟨g, o, cap, cur, rfl, hb, hnc, hcm, hoc, hcur⟩
  · have hr := run_append_grow_src (P := P) w t t ty e i z ht hi hz none 0 0 [] (run_firstCells_none w.drew i.size 0 0 0) _ 1 [x] hsrc (by omega) (by omega) (growslice_fits (by omega) (by simpa using hbytes))
    have hg := grown none 0 (by simp) (Value.ownBlock (.slice none 0 0))
    simp only [List.length_nil, Nat.zero_add, List.nil_append] at hg hr ⊢
    exact ⟨_, _, hr, hg.1, hg.2, .inr rfl⟩
  · by_cases hroom : xs.length + 1 ≤ cap
    · have hcell : (w.cell? ⟨g, o + xs.length, none⟩).isSome = true := by
        rw [hb.cell, Array.getElem?_eq_getElem (by omega)]; rfl
      have hr := run_append_room_src (P := P) w t t ty e i ht hi g o xs.length cap _ 1 [x] hsrc hroom (fun j hj => by
        simp at hj; subst hj; simpa [hs1] using hcell) (fun j hj => by simp at hj; subst hj; exact hb.frozen _)
      refine ⟨_, _, hr, ?_, ?_, .inl rfl⟩
      · simp only [hs1, Nat.mul_one, World.setCells]
        refine .inr ⟨g, o, cap, _, by simp, hb.set_ _ _, by simpa using hroom, hcm, by simpa using hoc, fun k u hu => ?_⟩
        have hk := (List.getElem?_eq_some_iff.1 hu).1
        simp at hk
        by_cases hlast : k = xs.length
        · subst hlast
          simp at hu
          subst hu
          rw [Array.getElem?_setIfInBounds_self]
          rw [if_pos (by omega)]
        · rw [List.getElem?_append_left (by omega)] at hu
          rw [Array.getElem?_setIfInBounds_ne (by omega)]
          exact hcur k u hu
      · simp only [hs1, Nat.mul_one, World.setCells]
        exact only_setCell (World.grownBy.refl w _) (.inl rfl) _
    · have hold : (Builtin.firstCells i.size xs.length (.slice (some ⟨g, o, none⟩) xs.length cap)).run P w.drew = .ok xs.toArray w.drew :=
        run_firstCells_some w.drew i.size xs.length ⟨g, o, none⟩ xs.length cap xs (by simp [hs1]) (fun j u hu => by
          rw [add_flat]
          show w.cell? _ = _
          rw [hb.cell]
          exact hcur j u hu)
      have hr := run_append_grow_src (P := P) w t t ty e i z ht hi hz (some ⟨g, o, none⟩) xs.length cap xs hold _ 1 [x] hsrc (by omega) (by omega) (growslice_fits (by omega) hbytes)
      have hg := grown (some ⟨g, o, none⟩) cap (by omega) (Value.ownBlock (.slice (some ⟨g, o, none⟩) xs.length cap))
      exact ⟨_, _, hr, hg.1, hg.2, .inr rfl⟩
theorem wp_append_q {o : Oper} {a : Act} {K : Act → World → Prop} {Q : Exit → Act → World → Prop} (s x : Operand) (t : TypeId)
    (ho : o.op = .call { callee := .builtin .append, args := #[s, x], argTypes := #[t, t] })
    (e : TypeId) (i : TypeInfo) (z : Value) (bytes : Nat) (ht : P.underlying t = some (.slice e)) (hi : P.info? e = some i) (hz : i.zero = some z) (hs1 : i.size = 1) (hby : i.bytes = bytes) (hzs : z.cells.size = 1)
    (v : Value) (xs : List Value) (hs : a.eval s = v) (hq : QR w e v xs) (b0 c0 : Nat) (u : Value) (hx : a.eval x = .slice (some ⟨b0, 0, none⟩) 1 c0) (hu : w.cell? ⟨b0, 0, none⟩ = some u) (h1 : u.oneCell' = true)
    (h63 : xs.length + 1 ≤ maxLen) (hbytes : (xs.length + 1) * bytes ≤ 140737488355328)
    (h : ∀ A' c' w', QR w' e (.slice A' (xs.length + 1) c') (xs ++ [u]) → w.grownBy w' v.ownBlock → ((Value.slice A' (xs.length + 1) c').ownBlock = v.ownBlock ∨ (Value.slice A' (xs.length + 1) c').ownBlock = some w.heap.size) → K (a.put o.dst (.slice A' (xs.length + 1) c')) w') : o.wp P a w K Q := by
  obtain ⟨v', w', hrun, h2, h3, h4⟩ := run_append_q (P := P) w t o.type e i z bytes ht hi hz hs1 hby hzs v xs hq b0 c0 u hu h1 h63 hbytes
  unfold Oper.wp execOp
  simp only [ho, resolve, invoke, builtin, Sem.run_bind, Sem.run_pure, Result.andThen_ok, List.map_toArray, List.map_cons, List.map_nil, hs, hx, hrun]
  obtain ⟨A', c', rfl, _⟩ := h2.form
  simp only [List.length_append, List.length_singleton] at *
  exact h A' c' w' h2 h3 h4
/-- 'append(q, x)': the translation has just laid x in a block of its own. -/
theorem wpList_append_q {ops : Array Oper} {rest : List Oper} {o : Oper} {a : Act} {Q : Exit → Act → World → Prop} (hgd : o.guard = none) (s x : Operand) (t : TypeId)
    (ho : o.op = .call { callee := .builtin .append, args := #[s, x], argTypes := #[t, t] })
    (e : TypeId) (i : TypeInfo) (z : Value) (bytes : Nat) (ht : P.underlying t = some (.slice e)) (hi : P.info? e = some i) (hz : i.zero = some z) (hs1 : i.size = 1) (hby : i.bytes = bytes) (hzs : z.cells.size = 1)
    (v : Value) (xs : List Value) (hs : a.eval s = v) (hq : QR w e v xs) (b0 c0 : Nat) (u : Value) (hx : a.eval x = .slice (some ⟨b0, 0, none⟩) 1 c0) (hu : w.cell? ⟨b0, 0, none⟩ = some u) (h1 : u.oneCell' = true)
    (h63 : xs.length + 1 ≤ maxLen) (hbytes : (xs.length + 1) * bytes ≤ 140737488355328)
    (h : ∀ A' c' w', QR w' e (.slice A' (xs.length + 1) c') (xs ++ [u]) → w.grownBy w' v.ownBlock → ((Value.slice A' (xs.length + 1) c').ownBlock = v.ownBlock ∨ (Value.slice A' (xs.length + 1) c').ownBlock = some w.heap.size) → wpList P ops Q rest (a.put o.dst (.slice A' (xs.length + 1) c')) w') : wpList P ops Q (o :: rest) a w :=
  wpList_plain hgd fun K hK => wp_append_q w s x t ho e i z bytes ht hi hz hs1 hby hzs v xs hs hq b0 c0 u hx hu h1 h63 hbytes fun A' c' w' h2 h3 h4 => hK _ _ (h A' c' w' h2 h3 h4)
/-- The same as a step of a region that draws its order. -/
theorem step_append_q {ops : Array Oper} {o : Oper} {a : Act} {K : Act → World → Prop} {Q : Exit → Act → World → Prop} {E : Prop} (hgd : o.guard = none) (s x : Operand) (t : TypeId)
    (ho : o.op = .call { callee := .builtin .append, args := #[s, x], argTypes := #[t, t] })
    (e : TypeId) (i : TypeInfo) (z : Value) (bytes : Nat) (ht : P.underlying t = some (.slice e)) (hi : P.info? e = some i) (hz : i.zero = some z) (hs1 : i.size = 1) (hby : i.bytes = bytes) (hzs : z.cells.size = 1)
    (v : Value) (xs : List Value) (hs : a.eval s = v) (hq : QR w e v xs) (b0 c0 : Nat) (u : Value) (hx : a.eval x = .slice (some ⟨b0, 0, none⟩) 1 c0) (hu : w.cell? ⟨b0, 0, none⟩ = some u) (h1 : u.oneCell' = true)
    (h63 : xs.length + 1 ≤ maxLen) (hbytes : (xs.length + 1) * bytes ≤ 140737488355328)
    (h : ∀ A' c' w', QR w' e (.slice A' (xs.length + 1) c') (xs ++ [u]) → w.grownBy w' v.ownBlock → ((Value.slice A' (xs.length + 1) c').ownBlock = v.ownBlock ∨ (Value.slice A' (xs.length + 1) c').ownBlock = some w.heap.size) → K (a.put o.dst (.slice A' (xs.length + 1) c')) w') :
    if Region.wanted o (yielded ops a.tmps) = true then Oper.wp P o a w K Q else E := by
  have hw : Region.wanted o (yielded ops a.tmps) = true := by simp [Region.wanted, hgd]
  rw [if_pos hw]
  exact wp_append_q w s x t ho e i z bytes ht hi hz hs1 hby hzs v xs hs hq b0 c0 u hx hu h1 h63 hbytes h
end
end Go.Proofs.Ytclllnoohoonoaa
