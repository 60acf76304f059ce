/-
  slices.Delete of one who waits.
-/
import Derived.Test.YtclllnoohoonoaaReady2
import Derived.Deep.RegionLaw
import Derived.Lib.SliceRun
import Derived.Lib.SlicesDelete
namespace Go.Proofs.Ytclllnoohoonoaa
open Go.RowKit
set_option linter.unusedVariables false
set_option linter.unusedSimpArgs false

theorem Blk.setCells {t : TypeId} {g : Nat} : ∀ (vs : List Value) (o : Nat) (w : World) (cs : Array Value), Blk w g t cs → Blk (w.setCells g o vs) g t (Lib.lay cs o vs)
  | [], o, w, cs, h => h
  | v :: vs, o, w, cs, h => by
    rw [World.setCells, Lib.lay]
    exact Blk.setCells vs (o + 1) _ _ (h.set_ o v)
theorem Chg.setCells {M : Nat → Nat → Prop} {g t : Nat} : ∀ (vs : List Value) (o : Nat) (w w' : World) (cs : Array Value), Chg M w w' → Blk w' g t cs → M g t → (∀ o, w.heap[g]? = some o → M g (tyOf o)) → Chg M w (w'.setCells g o vs)
  | [], o, w, w', cs, h, hb, hM, hM2 => h
  | v :: vs, o, w, w', cs, h, hb, hM, hM2 => by
    rw [World.setCells]
    exact Chg.setCells vs (o + 1) w _ _ (h.setCell ⟨g, o, none⟩ v hM2) (hb.set_ o v) hM hM2
theorem erase_flat {β : Type} {size : Nat} : ∀ (xss : List (List β)) (_ : ∀ cs ∈ xss, cs.length = size) (i : Nat) (_ : i < xss.length), (xss.eraseIdx i).flatten = xss.flatten.take (i * size) ++ xss.flatten.drop ((i + 1) * size)
  | [], _, i, hi => by simp at hi
  | x :: xss, h, 0, hi => by
    have hx := h x (by simp)
    simp only [List.eraseIdx_cons_zero, List.flatten_cons, Nat.zero_mul, List.take_zero, List.nil_append, Nat.zero_add, Nat.one_mul]
    rw [← hx, List.drop_left]
  | x :: xss, h, i + 1, hi => by
    have hx := h x (by simp)
    have ih := erase_flat xss (fun cs hc => h cs (by simp [hc])) i (by simpa using hi)
    simp only [List.eraseIdx_cons_succ, List.flatten_cons, ih]
    have e1 : (i + 1) * size = size + i * size := by rw [Nat.succ_mul, Nat.add_comm]
    have e2 : (i + 1 + 1) * size = size + (i + 1) * size := by rw [Nat.succ_mul (i + 1), Nat.add_comm]
    have t1 : List.take (size + i * size) x = x := List.take_of_length_le (by omega)
    have d1 : List.drop (size + (i + 1) * size) x = [] := List.drop_eq_nil_of_le (by omega)
    rw [e2, List.drop_append, d1, hx, show size + (i + 1) * size - size = (i + 1) * size by omega, e1, List.take_append, t1, hx, show size + i * size - size = i * size by omega]
    simp
/-- The row behind a delete. -/
theorem del_row {size n i : Nat} {cur : Array Value} {xs zs : List Value} (hi : i < n) (hxs : xs.length = n * size) (hc : n * size ≤ cur.size) (ht : cur.toList.take (n * size) = xs) (hz : zs.length = size) :
    (Lib.lay (Lib.lay cur (i * size) (xs.drop ((i + 1) * size))) ((n - 1) * size) zs).toList.take ((n - 1) * size) = xs.take (i * size) ++ xs.drop ((i + 1) * size) := by
  have e1 : (n - 1) * size + size = n * size := by rw [← Nat.succ_mul]; congr 1; omega
  have e2 : (i + 1) * size = i * size + size := Nat.succ_mul _ _
  have e3 : i * size + size ≤ n * size := by rw [← Nat.succ_mul]; exact Nat.mul_le_mul_right _ hi
  have e4 : (xs.drop ((i + 1) * size)).length = n * size - (i + 1) * size := by simp [hxs]
  apply List.ext_getElem?
  intro t
  rw [List.getElem?_take]
  by_cases h1 : t < (n - 1) * size
  · rw [if_pos h1, Array.getElem?_toList, Lib.lay_get? _ _ _ _ (by rw [Lib.lay_size]; omega), if_neg (by omega), Lib.lay_get? _ _ _ _ (by rw [e4]; omega)]
    have hcur : cur[t]? = xs[t]? := by rw [← ht, List.getElem?_take, if_pos (by omega), Array.getElem?_toList]
    by_cases h2 : t < i * size
    · rw [if_neg (by omega), hcur, List.getElem?_append_left (by rw [List.length_take]; omega), List.getElem?_take, if_pos h2]
    · rw [if_pos (by rw [e4]; omega), List.getElem?_append_right (by rw [List.length_take]; omega), List.length_take, Nat.min_eq_left (by omega)]
  · rw [if_neg h1, List.getElem?_eq_none]
    rw [List.length_append, List.length_take, e4]
    omega
def DelRes (g n cap : Nat) (ys : List Value) (w : World) (e : Ending) (w' : World) : Prop :=
  e = .returned (.slice (some ⟨g, 0, none⟩) n cap) ∧ w'.ownsRow 0 80 2 (.slice (some ⟨g, 0, none⟩) n cap) n ys ∧ Chg (fun b t => b = g ∧ t = 80) w w'
theorem zeroWaiter (w : World) : (zeroValue 80).run Try.prog w = .ok (.agg #[.int .i64 0, .slice none 0 0]) w := by
  obtain ⟨i0, hi0, hz0, _, _⟩ := info_parts infoWaiter
  simp [zeroValue, typeInfo, hi0, hz0]
theorem run_clear_waiter (w : World) (ty : TypeId) (b o c : Nat) (hc : ∀ j, j < 2 → (w.cell? ⟨b, o + j, none⟩).isSome = true) (hf : ∀ j, j < 2 → w.frozen? ⟨b, o + j, none⟩ = false) :
    (Builtin.clear_ #[73] ty #[.slice (some ⟨b, o, none⟩) 1 c]).run Try.prog w = .ok (.tuple #[]) (w.setCells b o [.int .i64 0, .slice none 0 0]) := by
  have hst := run_storeCells_cells (P := Try.prog) b o [.int .i64 0, .slice none 0 0] 0 w (by simpa using hc) (by simpa using hf) (by intro v hv; simp at hv; rcases hv with rfl | rfl <;> rfl)
  simp only [Nat.add_zero] at hst
  have hz : (Builtin.zeroCells (Value.cells (.agg #[.int .i64 0, .slice none 0 0])) 1).toList = [.int .i64 0, .slice none 0 0] := by
    rw [show Value.cells (.agg #[.int .i64 0, .slice none 0 0]) = #[.int .i64 0, .slice none 0 0] by rfl]
    simp [Builtin.zeroCells]
    rfl
  simp [Builtin.clear_, run_underlying Try.underlying73, zeroWaiter, hz, hst]
set_option maxRecDepth 100000 in
set_option maxHeartbeats 4000000 in
theorem del_any (w : World) (g cap n i j : Nat) (xss : List (List Value)) (how : w.ownsRow 0 80 2 (.slice (some ⟨g, 0, none⟩) n cap) n xss.flatten) (h2 : xss.length = n) (h3 : ∀ cs ∈ xss, cs.length = 2)
    (h1 : ∀ u ∈ xss.flatten, u.oneCell' = true) (hi : i < n) (hj : j = i + 1) :
    Calls Try.prog 46 #[.slice (some ⟨g, 0, none⟩) n cap, .int .i64 i, .int .i64 j] w (DelRes g (n - 1) cap (xss.eraseIdx i).flatten w) := by
  obtain ⟨hxs, hh⟩ := how
  rcases hh with ⟨hv, h0⟩ | ⟨g', cap', cur, hv, hg, hh, hnc, hcm, hcs, htake⟩
  · omega
  injection hv with hA _ hc
  injection hA with hA
  injection hA with hA
  subst hA hc
  have hb : Blk w g 80 cur := hh
  have hcap : cap ≤ 9223372036854775807 := by unfold maxLen at hcm; omega
  have her := erase_flat xss h3 i (by omega)
  obtain ⟨i0, hi0, hz0, hz1, hz2⟩ := info_parts infoWaiter
  obtain ⟨xs, hxse⟩ : ∃ xs, xss.flatten = xs := ⟨_, rfl⟩
  rw [hxse] at hxs htake her h1
  obtain ⟨news, hnews⟩ : ∃ news, news = xs.drop (j * 2) := ⟨_, rfl⟩
  have hlen : news.length = (n - j) * 2 := by rw [hnews, List.length_drop, hxs]; omega
  have hcur : ∀ (t : Nat) (u : Value), xs[t]? = some u → cur[t]? = some u := by
    intro t u hu
    rw [← htake, List.getElem?_take] at hu
    split at hu
    · simpa using hu
    · cases hu
  obtain ⟨A, hA, hsrc⟩ : ∃ A : Addr, (if cap = j then some (⟨g, 0, none⟩ : Addr) else some ⟨g, j * 2, none⟩) = some A ∧ Hid (∀ (t : Nat) (u : Value), news[t]? = some u → w.drew.cell? (A.add t) = some u) := by
    by_cases h : cap = j
    · refine ⟨⟨g, 0, none⟩, by simp [h], fun t u hu => ?_⟩
      have h0 : news.length = 0 := by rw [hlen]; omega
      rw [List.length_eq_zero_iff.1 h0] at hu
      simp at hu
    · refine ⟨⟨g, j * 2, none⟩, by simp [h], fun t u hu => ?_⟩
      rw [add_flat]
      show w.cell? _ = _
      rw [hb.cell]
      rw [hnews, List.getElem?_drop] at hu
      exact hcur _ u hu
  have s1 : Hid (news.length = (n - j) * 2) := hlen
  have s2 : Hid (∀ u ∈ news, u.oneCell' = true) := by
    intro u hu
    rw [hnews] at hu
    exact h1 u (List.mem_of_mem_drop hu)
  have s3 : Hid (∀ t, t < news.length → (w.drew.cell? ⟨g, 0 + i * 2 + t, none⟩).isSome = true ∧ w.drew.frozen? ⟨g, 0 + i * 2 + t, none⟩ = false) := by
    intro t ht
    rw [hlen] at ht
    refine ⟨?_, hb.frozen _⟩
    show (w.cell? _).isSome = true
    rw [hb.cell, Array.getElem?_eq_getElem (by omega)]
    rfl
  obtain ⟨W1, hW1⟩ : ∃ W1, W1 = w.drew.setCells g (0 + i * 2) news := ⟨_, rfl⟩
  have hb1 : Blk W1 g 80 (Lib.lay cur (i * 2) news) := by rw [hW1, Nat.zero_add]; exact Blk.setCells news _ _ _ hb
  have hc1 : Chg (fun b t => b = g ∧ t = 80) w W1 := by
    rw [hW1]
    exact Chg.setCells news _ w w.drew cur (Chg.refl _ _).drew hb ⟨rfl, rfl⟩ (fun o ho => by rw [show w.heap[g]? = _ from hb] at ho; injection ho with ho; subst ho; exact ⟨rfl, rfl⟩)
  have hcl : ∀ ty, (Builtin.clear_ #[73] ty #[.slice (some ⟨g, (i + (n - j)) * 2, none⟩) (n - (i + (n - j))) (cap - (i + (n - j)))]).run Try.prog W1 = .ok (.tuple #[]) (W1.setCells g ((i + (n - j)) * 2) [.int .i64 0, .slice none 0 0]) := by
    intro ty
    rw [show n - (i + (n - j)) = 1 by omega]
    exact run_clear_waiter W1 ty g _ _ (fun t ht => by rw [hb1.cell, Array.getElem?_eq_getElem (by rw [Lib.lay_size]; omega)]; rfl) (fun t ht => hb1.frozen _)
  have hb2 := Blk.setCells [.int .i64 0, .slice none 0 0] ((i + (n - j)) * 2) _ _ hb1
  have hc2 := hc1.trans (Chg.setCells [.int .i64 0, .slice none 0 0] ((i + (n - j)) * 2) W1 W1 _ (Chg.refl (fun b t => b = g ∧ t = 80) _) hb1 ⟨rfl, rfl⟩ (fun o ho => by rw [show W1.heap[g]? = _ from hb1] at ho; injection ho with ho; subst ho; exact ⟨rfl, rfl⟩))
  have hend : DelRes g (n - 1) cap (xss.eraseIdx i).flatten w (.returned (.slice (some ⟨g, 0, none⟩) (i + (n - j)) cap)) (W1.setCells g ((i + (n - j)) * 2) [.int .i64 0, .slice none 0 0]) := by
    have e : i + (n - j) = n - 1 := by omega
    rw [e] at hb2 hc2 ⊢
    have hrow := del_row (zs := [.int .i64 0, .slice none 0 0]) hi hxs (by omega) htake rfl
    refine ⟨rfl, ⟨?_, .inr ⟨g, cap, _, rfl, Nat.zero_le _, hb2, by omega, hcm, by rw [Lib.lay_size, Lib.lay_size]; exact hcs, ?_⟩⟩, hc2⟩
    · rw [her]
      simp only [List.length_append, List.length_take, List.length_drop, hxs]
      omega
    · rw [her, ← hrow, hnews, hj]
  have HE := Lib.hid hend
  have hW : Hid (W1 = w.drew.setCells g (0 + i * 2) news) := hW1
  have hij : ((i : Int) == (j : Int)) = false := by simp; omega
  have hic : i ≤ cap := by omega
  have hcne : ¬ cap = i + (n - j) := by omega
  have hjc : j ≤ cap := by omega
  have hin : i ≤ n := by omega
  have hjn : j ≤ n := by omega
  have hile : i ≤ j := by omega
  clear hend hb1 hc1 hb2 hc2 hW1 hlen hnews hcur htake hb hh hxs her h1 hxse hj h2 h3 hcs
  go_enter Try.func46, Try.ntmps46
  go_wp2_with fail
  go_region_law (refine step_append_room rfl (.tmp 22) (.tmp 25) 73 rfl 80 i0 2 Try.underlying73 hi0 hz1 g 0 i cap (by simp [Act.eval, Act.put]) A (n - j) (cap - j) news (by simp [Act.eval, Act.put]) s1.out hsrc.out s2.out (by omega) s3.out ?_; rw [← hW.out])
  go_wp2
  go_ret
  exact HE.out
end Go.Proofs.Ytclllnoohoonoaa
