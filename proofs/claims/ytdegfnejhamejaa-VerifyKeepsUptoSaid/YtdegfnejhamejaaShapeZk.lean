/-
  code.shape: is a shape sound behind those ahead of it, and its cells.
-/
import Derived.Test.YtdegfnejhamejaaSeenZk
import Derived.Test.YtdegfnejhamejaaOwnZk
import Derived.Deep.RegionHeld3
import Derived.Deep.MidRow
namespace Go.Proofs.Ytdegfnejhamejaa
open Go.RowKit
set_option linter.unusedVariables false
set_option linter.unusedSimpArgs false

def keyZ : Array Value := #[.int .i64 0, .int .i64 0, .int .i64 0, .int .i64 0, .int .i64 0, .int .i64 0, .int .i64 0, .int .i64 0, .int .i64 0, .int .i64 0, .int .i64 0, .int .i64 0, .int .i64 0, .int .i64 0, .int .i64 0, .int .i64 0, .int .i64 0, .int .i64 0, .int .i64 0]
theorem info_key : (Try.prog.info? 99).map (·.size) = some 19 := by kernel_rfl
def ShapeRes (b n : Nat) (ks : List (List Int)) (cells : List Nat) (s : ShapeD) (w : World) (e : Ending) (w' : World) : Prop :=
  Chg (fun b' _ => b' = b) w w' ∧
  if (headOk cells.length s && partsIn cells.length s.list && kindOk s (sumAt cells s.list) && !(!decide (s.kind = 8) && ks.contains (keyL s))) = true then e = .returned (.int .i64 (cellsOfS cells s + 1)) ∧ Seen w' b (n + 1) (ks ++ if s.kind = 8 then [] else [keyL s])
  else e = .returned (.int .i64 0)

theorem blk_there {w : World} {g : Nat} {t : TypeId} {cs : Array Value} (h : Blk w g t cs) : w.there g 0 cs.size := fun j hj => by
  refine ⟨?_, h.frozen _⟩
  rw [h.cell, Nat.zero_add, Array.getElem?_eq_getElem hj]
  rfl
def setArr (cs : Array Value) : Nat → List Value → Array Value
  | _, [] => cs
  | o, v :: vs => setArr (cs.setIfInBounds o v) (o + 1) vs
theorem Blk.sets {g : Nat} {t : TypeId} : ∀ (vs : List Value) (o : Nat) {w : World} {cs : Array Value}, Blk w g t cs → Blk (w.setCells g o vs) g t (setArr cs o vs)
  | [], _, _, _, h => h
  | v :: vs, o, _, _, h => Blk.sets vs (o + 1) (h.set_ o v)
theorem Chg.setsNew {M : Nat → Nat → Prop} {w : World} {g : Nat} (hg : w.heap.size ≤ g) : ∀ (vs : List Value) (o : Nat) {w' : World}, Chg M w w' → Chg M w (w'.setCells g o vs)
  | [], _, _, h => h
  | v :: vs, o, _, h => Chg.setsNew hg vs (o + 1) (h.setNew o v hg)
/-- The key's cells: a number of them. -/
def keyA (k : List Int) : Array Value := (k.map (Value.int .i64)).toArray
theorem keyA_first (k n : Int) : setArr #[.int .i64 0, .int .i64 0, .int .i64 0, .int .i64 0, .int .i64 0, .int .i64 0, .int .i64 0, .int .i64 0, .int .i64 0, .int .i64 0, .int .i64 0, .int .i64 0, .int .i64 0, .int .i64 0, .int .i64 0, .int .i64 0, .int .i64 0, .int .i64 0, .int .i64 0] 0 [.int .i64 k, .int .i64 n, .int .i64 0, .int .i64 0, .int .i64 0, .int .i64 0, .int .i64 0, .int .i64 0, .int .i64 0, .int .i64 0, .int .i64 0, .int .i64 0, .int .i64 0, .int .i64 0, .int .i64 0, .int .i64 0, .int .i64 0, .int .i64 0, .int .i64 0] = keyA ([k, n] ++ List.replicate 17 0) := by
  simp [setArr, keyA]
theorem keyA_step {a r : List Int} {y : Int} (x : Int) {j : Nat} (hj : j = a.length) : (keyA (a ++ y :: r)).setIfInBounds j (.int .i64 x) = keyA (a ++ x :: r) := by
  subst hj
  unfold keyA
  rw [List.map_append, List.map_append, List.map_cons, List.map_cons]
  have h : (a.map (Value.int .i64)).length = a.length := List.length_map _
  rw [← h]
  simp only [List.setIfInBounds_toArray]
  rw [List.set_append_right _ _ (Nat.le_refl _)]
  simp
theorem keyA_get {a r : List Int} {y : Int} {j : Nat} (hj : j = a.length) : (keyA (a ++ y :: r))[j]? = some (.int .i64 y) := by
  subst hj
  simp [keyA]
theorem wrap64_id {x : Int} (h1 : -9223372036854775808 ≤ x) (h2 : x ≤ 9223372036854775807) : wrap64 x = x := by
  unfold wrap64; omega
section
variable {b n : Nat} {ks : List (List Int)} {cells : List Nat} {s : ShapeD} {w w1 w' : World}
def okS (cells : List Nat) (ks : List (List Int)) (s : ShapeD) : Bool := headOk cells.length s && partsIn cells.length s.list && kindOk s (sumAt cells s.list) && !(!decide (s.kind = 8) && ks.contains (keyL s))
theorem ShapeRes.bad (hc : Chg (fun _ _ => False) w w1) (hc' : Chg (fun _ _ => False) w1 w') (h : okS cells ks s = false) : ShapeRes b n ks cells s w (.returned (.int .i64 0)) w' := by
  refine ⟨(hc.trans hc').mono fun _ _ _ h => h.elim, ?_⟩
  unfold okS at h
  rw [if_neg (by rw [h]; simp)]
theorem okS_head (h : headOk cells.length s = false) : okS cells ks s = false := by simp [okS, h]
theorem okS_part (h : partsIn cells.length s.list = false) : okS cells ks s = false := by simp [okS, h]
theorem okS_kind (h : kindOk s (sumAt cells s.list) = false) : okS cells ks s = false := by simp [okS, h]
theorem okS_dup (hk : s.kind ≠ 8) (h : ks.contains (keyL s) = true) : okS cells ks s = false := by unfold okS; rw [h]; simp [hk]
end
theorem keyL_i64 {s : ShapeD} (hk : I64 s.kind) (hr : I64 s.res) (hl : ∀ x ∈ s.list, I64 x) (hn : s.list.length ≤ 16) : ∀ x ∈ keyL s, I64 x := by
  intro x hx
  simp only [keyL, List.mem_append, List.mem_cons, List.not_mem_nil, or_false, List.mem_replicate] at hx
  rcases hx with (((rfl | rfl) | hx) | ⟨_, rfl⟩) | rfl
  · exact hk
  · unfold I64; omega
  · exact hl x hx
  · unfold I64; omega
  · exact hr
theorem seen_block {b n : Nat} {ks : List (List Int)} {w w' : World} (h : Seen w b n ks) (hc : Chg (fun _ _ => False) w w') : w'.heap[b]? = w.heap[b]? := by
  have hlt := h.lt
  rw [Array.getElem?_eq_getElem hlt]
  exact hc.keep b _ (Array.getElem?_eq_getElem hlt) id
theorem blk_range {w : World} {g : Nat} {t : TypeId} {l : List Value} (h : Blk w g t l.toArray) : w.rangeAt g 0 l := fun j v hv => by
  rw [h.cell, Nat.zero_add]
  simpa using hv
section
variable {s : ShapeD} {m : Nat}
theorem kindOk_low (h : s.kind < 1) : kindOk s m = false := by
  unfold kindOk
  rw [if_neg (by omega), if_neg (by omega), if_neg (by omega), decide_eq_false (by omega)]
  rfl
theorem kindOk_high (h : 7 < s.kind) (h8 : ¬ s.kind = 8) (h9 : ¬ s.kind = 9) (h10 : ¬ s.kind = 10) (h13 : ¬ s.kind = 13) (h11 : ¬ s.kind = 11) : kindOk s m = false := by
  unfold kindOk
  rw [if_neg h8, if_neg (by omega), if_neg h11, decide_eq_false (p := s.kind ≤ 7) (by omega)]
  simp
theorem kindOk_parts (h : (0 : Int) < (s.list.length : Int)) (h8 : ¬ s.kind = 8) (h9 : ¬ s.kind = 9) (h10 : ¬ s.kind = 10) (h13 : ¬ s.kind = 13) (h11 : ¬ s.kind = 11) : kindOk s m = false := by
  unfold kindOk
  rw [if_neg h8, if_neg (by omega), if_neg h11, decide_eq_false (p := s.list.length = 0) (by omega)]
  simp
theorem kindOk_plain (h1 : 1 ≤ s.kind) (h2 : s.kind ≤ 7) (h : s.list.length = 0) (h8 : ¬ s.kind = 8) (h9 : ¬ s.kind = 9) (h10 : ¬ s.kind = 10) (h13 : ¬ s.kind = 13) (h11 : ¬ s.kind = 11) : kindOk s m = true := by
  unfold kindOk
  rw [if_neg h8, if_neg (by omega), if_neg h11, decide_eq_true h1, decide_eq_true h2, decide_eq_true h]
  rfl
end
section
variable {b n : Nat} {ks : List (List Int)} {cells : List Nat} {s : ShapeD} {w w1 w' w'' : World}
theorem ShapeRes.struct {sm : Nat} (hc : Chg (fun _ _ => False) w w1) (hc' : Chg (fun _ _ => False) w1 w') (hs : Seen w' b n ks) (h8 : s.kind = 8) (h1 : headOk cells.length s = true) (h2 : partsIn cells.length s.list = true) (hsm : sumAt cells s.list = sm) (h64 : sm ≤ 64)
    (hw : wrap64 ((sm : Int) + 1) = ((sm + 1 : Nat) : Int)) : ShapeRes b n ks cells s w (.returned (.int .i64 ((sm : Int) + 1))) w' := by
  refine ⟨(hc.trans hc').mono fun _ _ _ h => h.elim, ?_⟩
  rw [if_pos (by rw [h1, h2, hsm]; simp [kindOk, h8, h64])]
  refine ⟨?_, ?_⟩
  · simp [cellsOfS, h8, hsm]
  · simp [h8]; exact hs.mono (Nat.le_succ _)
theorem ShapeRes.put (hc : Chg (fun _ _ => False) w w1) (hc' : Chg (fun _ _ => False) w1 w') (hg : w'.grownBy w'' (some b)) (hb : b < w.heap.size) (hs : Seen w'' b (n + 1) (ks ++ [keyL s])) (h8 : s.kind ≠ 8) (h1 : headOk cells.length s = true) (h2 : partsIn cells.length s.list = true)
    (h3 : kindOk s (sumAt cells s.list) = true) (h4 : ks.contains (keyL s) = false) : ShapeRes b n ks cells s w (.returned (.int .i64 2)) w'' := by
  refine ⟨((hc.trans hc').mono fun _ _ _ h => h.elim : Chg (fun b' _ => b' = b) w w').grown hg fun g o h _ => by injection h with h; exact h.symm, ?_⟩
  rw [if_pos (by rw [h1, h2, h3, h4]; simp)]
  refine ⟨by simp [cellsOfS, h8], by simpa [h8] using hs⟩
end
theorem partsIn_take {n : Nat} {l : List Int} {k : Nat} {p : Int} (hk : l[k]? = some p) (h : partsIn n (l.take k) = true) (h0 : 0 ≤ p) (h1 : p < n) : partsIn n (l.take (k + 1)) = true := by
  rw [List.take_add_one, hk]
  unfold partsIn at *
  rw [List.all_append, h]
  simp [h0, h1]
theorem partsIn_bad {n : Nat} {l : List Int} {k : Nat} {p : Int} (hk : l[k]? = some p) (h : ¬ (0 ≤ p ∧ p < n)) : partsIn n l = false := by
  unfold partsIn
  rw [List.all_eq_false]
  exact ⟨p, List.mem_of_getElem? hk, by simp; omega⟩
theorem sumAt_take {cells : List Nat} {l : List Int} {k : Nat} {p : Int} (hk : l[k]? = some p) : sumAt cells (l.take (k + 1)) = sumAt cells (l.take k) + cells.getD p.toNat 0 := by
  rw [List.take_add_one, hk]
  simp [sumAt]
theorem getD_le {cells : List Nat} (h : ∀ x ∈ cells, x ≤ 64) (i : Nat) : cells.getD i 0 ≤ 64 := by
  rw [List.getD_eq_getElem?_getD]
  cases hi : cells[i]? with
  | none => simp
  | some x => exact h x (List.mem_of_getElem? hi)
theorem sumAt_le {cells : List Nat} (h : ∀ x ∈ cells, x ≤ 64) : ∀ l : List Int, sumAt cells l ≤ 64 * l.length
  | [] => by simp [sumAt]
  | p :: l => by
    have := sumAt_le h l
    have := getD_le h p.toNat
    simp only [sumAt, List.map_cons, List.sum_cons, List.length_cons] at *
    omega
def ShL (s : ShapeD) (cells : List Nat) (w1 : World) (sm i : Value) (wr : World) : Prop :=
  ∃ k : Nat, k ≤ s.list.length ∧ i = .int .i64 k ∧ sm = .int .i64 (sumAt cells (s.list.take k) : Nat) ∧ partsIn cells.length (s.list.take k) = true ∧
    Blk wr w1.heap.size 99 (keyA ([s.kind, (s.list.length : Int)] ++ s.list.take k ++ List.replicate (17 - k) 0)) ∧ Chg (fun _ _ => False) w1 wr
set_option maxRecDepth 100000 in
set_option maxHeartbeats 1000000 in
theorem shape_any (w : World) (s : ShapeD) (A : Option Addr) (c : Nat) (cells : List Nat) (A2 : Option Addr) (c2 b n B : Nat) (ks : List (List Int))
  (hs : IntsR B w (.slice A s.list.length c) s.list) (hk0 : I64 s.kind) (hr : I64 s.res) (hc : IntsR w.heap.size w (.slice A2 cells.length c2) (cells.map Int.ofNat)) (h64 : ∀ x ∈ cells, x ≤ 64)
  (hseen : Seen w b n ks) (hn : n < 1099511627776) (hcl : cells.length ≤ 1099511627776) (hls : s.list.length ≤ 1099511627776) :
    Calls Try.prog 50 #[.agg #[.int .i64 s.kind, .slice A s.list.length c, .int .i64 s.res], .slice A2 cells.length c2, .map (some b)] w (ShapeRes b n ks cells s w) := by
  have hbx := Blk.new w 37 #[.int .i64 s.kind, .slice A s.list.length c, .int .i64 s.res]
  have hch := chg_alloc w (.cells #[.int .i64 s.kind, .slice A s.list.length c, .int .i64 s.res] 37)
  have hne := hseen.lt
  go_enter Try.func50, Try.ntmps50
  go_wp2_with fail
  generalize hw1 : w.alloc (.cells #[.int .i64 s.kind, .slice A s.list.length c, .int .i64 s.res] 37) = w1 at hbx hch ⊢
  obtain ⟨d0, d1, d2⟩ := hbx.cells3
  have e0 := World.new_ne w1 _ d0
  have hT : (w1.alloc (.cells #[.int .i64 0, .int .i64 0, .int .i64 0, .int .i64 0, .int .i64 0, .int .i64 0, .int .i64 0, .int .i64 0, .int .i64 0, .int .i64 0, .int .i64 0, .int .i64 0, .int .i64 0, .int .i64 0, .int .i64 0, .int .i64 0, .int .i64 0, .int .i64 0, .int .i64 0] 99)).drew.there w1.heap.size 0 19 := blk_there (Blk.new w1 99 keyZ)
  have hi := info_key
  have h1c : ∀ v ∈ ([.int .i64 s.kind, .int .i64 s.list.length, .int .i64 0, .int .i64 0, .int .i64 0, .int .i64 0, .int .i64 0, .int .i64 0, .int .i64 0, .int .i64 0, .int .i64 0, .int .i64 0, .int .i64 0, .int .i64 0, .int .i64 0, .int .i64 0, .int .i64 0, .int .i64 0, .int .i64 0] : List Value), v.oneCell' = true := by intro v hv; simp at hv; rcases hv with rfl | rfl | rfl <;> rfl
  have hc2 := Chg.setsNew (M := fun _ _ => False) (w := w1) (g := w1.heap.size) (Nat.le_refl _) [.int .i64 s.kind, .int .i64 s.list.length, .int .i64 0, .int .i64 0, .int .i64 0, .int .i64 0, .int .i64 0, .int .i64 0, .int .i64 0, .int .i64 0, .int .i64 0, .int .i64 0, .int .i64 0, .int .i64 0, .int .i64 0, .int .i64 0, .int .i64 0, .int .i64 0, .int .i64 0] 0 (((Chg.refl _ w1).alloc (.cells #[.int .i64 0, .int .i64 0, .int .i64 0, .int .i64 0, .int .i64 0, .int .i64 0, .int .i64 0, .int .i64 0, .int .i64 0, .int .i64 0, .int .i64 0, .int .i64 0, .int .i64 0, .int .i64 0, .int .i64 0, .int .i64 0, .int .i64 0, .int .i64 0, .int .i64 0] 99)).drew)
  have hb2 := (((Blk.new w1 99 #[.int .i64 0, .int .i64 0, .int .i64 0, .int .i64 0, .int .i64 0, .int .i64 0, .int .i64 0, .int .i64 0, .int .i64 0, .int .i64 0, .int .i64 0, .int .i64 0, .int .i64 0, .int .i64 0, .int .i64 0, .int .i64 0, .int .i64 0, .int .i64 0, .int .i64 0])).drew).sets [.int .i64 s.kind, .int .i64 s.list.length, .int .i64 0, .int .i64 0, .int .i64 0, .int .i64 0, .int .i64 0, .int .i64 0, .int .i64 0, .int .i64 0, .int .i64 0, .int .i64 0, .int .i64 0, .int .i64 0, .int .i64 0, .int .i64 0, .int .i64 0, .int .i64 0, .int .i64 0] 0
  rw [keyA_first] at hb2
  have f0 := hc2.cell d0 (fun _ h => h)
  have f1 := hc2.cell d1 (fun _ h => h)
  have HF := Lib.hid (And.intro f0 f1)
  have HB := Lib.hid (And.intro hb2 hc2)
  clear f0 f1 hb2 hc2
  go_region_held3 (fun w' => w'.cell? ⟨w.heap.size, 0, none⟩ = some (.int .i64 s.kind) ∧ w'.cell? ⟨w.heap.size, 1, none⟩ = some (.slice A s.list.length c)) (first | (go_keep; done) | exact HF.out) (fail)
  rename_i hJunk
  clear hJunk
  obtain ⟨hb2, hc2⟩ := HB.out
  generalize hw2 : ((w1.alloc (.cells #[.int .i64 0, .int .i64 0, .int .i64 0, .int .i64 0, .int .i64 0, .int .i64 0, .int .i64 0, .int .i64 0, .int .i64 0, .int .i64 0, .int .i64 0, .int .i64 0, .int .i64 0, .int .i64 0, .int .i64 0, .int .i64 0, .int .i64 0, .int .i64 0, .int .i64 0] 99)).drew).setCells w1.heap.size 0 [.int .i64 s.kind, .int .i64 s.list.length, .int .i64 0, .int .i64 0, .int .i64 0, .int .i64 0, .int .i64 0, .int .i64 0, .int .i64 0, .int .i64 0, .int .i64 0, .int .i64 0, .int .i64 0, .int .i64 0, .int .i64 0, .int .i64 0, .int .i64 0, .int .i64 0, .int .i64 0] = w2 at hb2 hc2 ⊢
  replace hs := hs.keep hch (fun _ _ _ => id)
  replace hc := hc.keep hch (fun _ _ _ => id)
  have HC := Lib.hid (And.intro hch (And.intro hbx hseen))
  have HA := Lib.hid (And.intro hs hc)
  have HL := Lib.hid (And.intro hn (And.intro hcl (And.intro hls (And.intro h64 hne))))
  clear hw1 hw2 HF HB hch hbx hseen hs hc hn hcl hls h64 hne d0 d1 d2 e0 hT hi h1c
  obtain ⟨d0, d1, d2⟩ := (hc2.blk HC.out.2.1 id).cells3
  by_cases g1 : (16 : Int) < (s.list.length : Int)
  · go_wp2_with fail
    go_ret
    exact ShapeRes.bad HC.out.1 hc2 (okS_head (by simp [headOk]; omega))
  by_cases g2 : s.res < 0
  · go_wp2_with fail
    go_ret
    exact ShapeRes.bad HC.out.1 hc2 (okS_head (by simp [headOk]; omega))
  by_cases g3 : (cells.length : Int) < s.res
  · go_wp2_with fail
    go_ret
    exact ShapeRes.bad HC.out.1 hc2 (okS_head (by simp [headOk]; omega))
  by_cases g45 : 0 < s.res ∧ (s.kind != 11) = true
  · obtain ⟨g4, g5⟩ := g45
    go_wp2_with fail
    go_ret
    exact ShapeRes.bad HC.out.1 hc2 (okS_head (by simp at g5; simp [headOk]; omega))
  have hhead : headOk cells.length s = true := by simp at g45; simp [headOk]; omega
  have H0 := Lib.hid (And.intro hhead (And.intro hb2 hc2))
  clear hhead hb2
  have g4 : (0 < s.res ∧ (s.kind != 11) = false) ∨ ¬ 0 < s.res := by
    by_cases h : 0 < s.res
    · exact .inl ⟨h, by simpa [h] using g45⟩
    · exact .inr h
  clear g45
  rcases g4 with ⟨g4, g5⟩ | g4
  all_goals
    go_wp2_with fail
    clear hc2 d0 d1 d2
    go_loopw [7, 46] (fun sm i wr => ShL s cells w1 sm i wr) (fun _ i _ => s.list.length - (intOf i).toNat)
    case atStart => exact ⟨0, Nat.zero_le _, rfl, rfl, rfl, H0.out.2.1, H0.out.2.2⟩
    case round =>
      obtain ⟨k, hk, rfl, rfl, hp, hb, hch⟩ := hrel
      obtain ⟨d0, d1, d2⟩ := (hch.blk HC.out.2.1 id).cells3
      have Hp := Lib.hid (And.intro hp (And.intro hb hch))
      by_cases hlt : k < s.list.length
      · obtain ⟨bb, oo, x, rfl, hkx, hix, z0⟩ := (HA.out.1.keep hch (fun _ _ _ => id)).at_ hlt
        have Hx := Lib.hid (And.intro hkx hix)
        clear hp hkx hix
        by_cases q1 : x < 0
        · clear hb
          go_wp2_with fail
          go_ret
          exact ShapeRes.bad HC.out.1 hch (okS_part (partsIn_bad Hx.out.1 (by omega)))
        · by_cases q2 : (cells.length : Int) ≤ x
          · clear hb
            go_wp2_with fail
            go_ret
            exact ShapeRes.bad HC.out.1 hch (okS_part (partsIn_bad Hx.out.1 (by omega)))
          · obtain ⟨xn, rfl⟩ : ∃ xn : Nat, x = xn := ⟨x.toNat, by omega⟩
            have hxn : xn < cells.length := by omega
            obtain ⟨b2, o2, y, rfl, hky, hiy, y0⟩ := (HA.out.2.keep (M := fun _ _ => False) hch (fun _ _ _ => id)).at_ (k := xn) (by simpa using hxn)
            have hyy : y = ((cells.getD xn 0 : Nat) : Int) := by
              rw [List.getElem?_map, List.getElem?_eq_getElem hxn] at hky
              simp at hky
              rw [← hky]
              simp [List.getD_eq_getElem?_getD, List.getElem?_eq_getElem hxn]
            have hfz := hb.frozen (k + 2)
            have hrep : List.replicate (17 - k) (0 : Int) = 0 :: List.replicate (16 - k) 0 := by
              rw [show 17 - k = (16 - k) + 1 by omega]; rfl
            have hb3 := hb
            rw [hrep] at hb3
            have hkl : k + 2 = ([s.kind, (s.list.length : Int)] ++ s.list.take k).length := by simp; omega
            have hcl : wr.cell? ⟨w1.heap.size, k + 2, none⟩ = some (.int .i64 0) := (hb3.cell (k + 2)).trans (keyA_get hkl)
            have hb1 := sumAt_le HL.out.2.2.2.1 (s.list.take k)
            have hb2 := getD_le HL.out.2.2.2.1 xn
            rw [List.length_take] at hb1
            have hst := hb3.set_ (k + 2) (.int .i64 (xn : Int))
            rw [keyA_step _ hkl] at hst
            have hs2 := sumAt_take (cells := cells) Hx.out.1
            rw [Int.toNat_natCast] at hs2
            have hp2 := partsIn_take Hx.out.1 Hp.out.1 (by omega) (by omega)
            have htk : s.list.take (k + 1) = s.list.take k ++ [(xn : Int)] := by rw [List.take_add_one, Hx.out.1]; rfl
            have hch2 := hch.setNew (k + 2) (.int .i64 (xn : Int)) (b := w1.heap.size) (Nat.le_refl _)
            obtain ⟨sm, hsm⟩ : ∃ sm, sumAt cells (s.list.take k) = sm := ⟨_, rfl⟩
            obtain ⟨cv, hcv⟩ : ∃ cv, cells.getD xn 0 = cv := ⟨_, rfl⟩
            rw [hcv] at hyy hb2 hs2
            rw [hsm] at hb1 hs2 ⊢
            have hwr : wrap64 ((sm : Int) + (cv : Int)) = ((sm + cv : Nat) : Int) := by
              rw [wrap64_id] <;> omega
            have HR := Lib.hid (And.intro hst (And.intro hs2 (And.intro hp2 (And.intro htk (And.intro hch2 hwr)))))
            subst hyy
            clear hb hb3 hky hiy q1 q2 hrep hkl hb1 hst hs2 hp2 htk hch2 hsm hcv hch
            go_wp2_with fail
            obtain ⟨hst, hs2, hp2, htk, hch2, hwr⟩ := HR.out
            go_roundw
            case rel =>
              refine ⟨k + 1, hlt, by simp, ?_, hp2, ?_, hch2⟩
              · rw [hs2, hwr]
              · rw [htk, show 17 - (k + 1) = 16 - k by omega, ← List.append_assoc, List.append_assoc _ [(xn : Int)]]
                exact hst
            case measure => simp [intOf]; omega
      · obtain rfl : k = s.list.length := by omega
        have Hk := Lib.hid hk
        rw [List.take_length] at *
        have hrep : List.replicate (17 - s.list.length) (0 : Int) = List.replicate (16 - s.list.length) 0 ++ [0] := by
          rw [show 17 - s.list.length = (16 - s.list.length) + 1 by omega, List.replicate_succ']
        have hb3 := hb
        rw [hrep, ← List.append_assoc] at hb3
        have hkl : 18 = ([s.kind, (s.list.length : Int)] ++ s.list ++ List.replicate (16 - s.list.length) 0).length := by simp; omega
        have hcl : wr.cell? ⟨w1.heap.size, 18, none⟩ = some (.int .i64 0) := (hb3.cell 18).trans (keyA_get hkl)
        have hfz := hb.frozen 18
        have hst := hb3.set_ 18 (.int .i64 s.res)
        rw [keyA_step _ hkl] at hst
        have hch2 := hch.setNew 18 (.int .i64 s.res) (b := w1.heap.size) (Nat.le_refl _)
        have hb1 := sumAt_le HL.out.2.2.2.1 s.list
        obtain ⟨wo, hwo⟩ : ∃ wo, wr.setCell ⟨w1.heap.size, 18, none⟩ (.int .i64 s.res) = wo := ⟨_, rfl⟩
        rw [hwo] at hst hch2
        obtain ⟨D0, D1, D2⟩ := (hch2.blk HC.out.2.1 id).cells3
        have hkk : (keyL s).length = 19 := keyL_len (by omega)
        have hkw : ∀ x ∈ keyL s, I64 x := keyL_i64 hk0 hr (fun x hx => by
          obtain ⟨j, hj, rfl⟩ := List.mem_iff_getElem.1 hx
          obtain ⟨_, _, y, _, hy, hyi, _⟩ := HA.out.1.at_ hj
          rw [List.getElem?_eq_getElem hj] at hy
          injection hy with hy
          rw [hy]; exact hyi) (by omega)
        have hsn : Seen wo b n ks := HC.out.2.2.of_block (seen_block HC.out.2.2 (HC.out.1.trans hch2))
        obtain ⟨wp, hput, hsp, hgp⟩ := hsn.put (by have := HL.out.1; unfold maxLen; omega) hkk hkw
        have hlook := hsn.look hkk hkw
        unfold keyV at hlook hput
        have hrange : wo.rangeAt w1.heap.size 0 ((keyL s).map (Value.int .i64)) := blk_range hst
        obtain ⟨cs, hcs⟩ : ∃ cs, (keyL s).map (Value.int .i64) = cs := ⟨_, rfl⟩
        have hinf : (Try.prog.info? 99).map (·.size) = some cs.length := by rw [← hcs, List.length_map, hkk]; exact info_key
        obtain ⟨dp, hdp⟩ : ∃ dp, ks.contains (keyL s) = dp := ⟨_, rfl⟩
        rw [hdp] at hlook
        rw [hcs] at hlook hput hrange
        have HD := Lib.hid hdp
        clear hdp
        obtain ⟨sm, hsm⟩ : ∃ sm, sumAt cells s.list = sm := ⟨_, rfl⟩
        rw [hsm] at hb1 ⊢
        have hwr : wrap64 ((sm : Int) + 1) = ((sm + 1 : Nat) : Int) := by rw [wrap64_id] <;> omega
        have hpf : wp.frozen? ⟨w.heap.size, 0, none⟩ = wp.frozen? ⟨w.heap.size, 0, none⟩ := rfl
        have HS := Lib.hid (And.intro hsn (And.intro hsp (And.intro hgp (And.intro hch2 (And.intro hsm (And.intro hwr Hp.out.1))))))
        clear hb hb3 hrep hkl hst hch2 hch hkk hkw hsn hsp hgp hsm hb1 hp hcs hpf hwr
        by_cases h8 : s.kind = 8
        · by_cases h64 : (64 : Int) < (sm : Int)
          · first
            | (exfalso; simp at g5; omega)
            | (go_wp2_with (refine wpList_load_mid rfl 99 _ rfl w1.heap.size 0 rfl cs _ hrange Try.underlying99 rfl hinf ?_)
               go_ret
               exact ShapeRes.bad HC.out.1 HS.out.2.2.2.1 (okS_kind (by rw [HS.out.2.2.2.2.1]; simp [kindOk, h8] <;> omega)))
          · first
            | (exfalso; simp at g5; omega)
            | (go_wp2_with (refine wpList_load_mid rfl 99 _ rfl w1.heap.size 0 rfl cs _ hrange Try.underlying99 rfl hinf ?_)
               go_ret
               exact ShapeRes.struct HC.out.1 HS.out.2.2.2.1 HS.out.1 h8 H0.out.1 HS.out.2.2.2.2.2.2 HS.out.2.2.2.2.1 (by omega) HS.out.2.2.2.2.2.1)
        · cases dp
          · by_cases h9 : s.kind = 9
            · by_cases hl : s.list.length = 1
              · first
                | (exfalso; simp at g5; omega)
                | (go_wp2_with (refine wpList_load_mid rfl 99 _ rfl w1.heap.size 0 rfl cs _ hrange Try.underlying99 rfl hinf ?_)
                   go_ret
                   exact ShapeRes.put HC.out.1 HS.out.2.2.2.1 HS.out.2.2.1 (by have := HC.out.2.2.lt; omega) HS.out.2.1 h8 H0.out.1 HS.out.2.2.2.2.2.2 (by rw [HS.out.2.2.2.2.1]; simp [kindOk, h9, hl] <;> omega) HD.out)
              · first
                | (exfalso; simp at g5; omega)
                | (go_wp2_with (refine wpList_load_mid rfl 99 _ rfl w1.heap.size 0 rfl cs _ hrange Try.underlying99 rfl hinf ?_)
                   go_ret
                   exact ShapeRes.bad HC.out.1 HS.out.2.2.2.1 (okS_kind (by rw [HS.out.2.2.2.2.1]; simp [kindOk, h9, hl] <;> omega)))
            · by_cases h10 : s.kind = 10
              · by_cases hl : s.list.length = 1
                · first
                  | (exfalso; simp at g5; omega)
                  | (go_wp2_with (refine wpList_load_mid rfl 99 _ rfl w1.heap.size 0 rfl cs _ hrange Try.underlying99 rfl hinf ?_)
                     go_ret
                     exact ShapeRes.put HC.out.1 HS.out.2.2.2.1 HS.out.2.2.1 (by have := HC.out.2.2.lt; omega) HS.out.2.1 h8 H0.out.1 HS.out.2.2.2.2.2.2 (by rw [HS.out.2.2.2.2.1]; simp [kindOk, h10, hl] <;> omega) HD.out)
                · first
                  | (exfalso; simp at g5; omega)
                  | (go_wp2_with (refine wpList_load_mid rfl 99 _ rfl w1.heap.size 0 rfl cs _ hrange Try.underlying99 rfl hinf ?_)
                     go_ret
                     exact ShapeRes.bad HC.out.1 HS.out.2.2.2.1 (okS_kind (by rw [HS.out.2.2.2.2.1]; simp [kindOk, h10, hl] <;> omega)))
              · by_cases h13 : s.kind = 13
                · by_cases hl : s.list.length = 1
                  · first
                    | (exfalso; simp at g5; omega)
                    | (go_wp2_with (refine wpList_load_mid rfl 99 _ rfl w1.heap.size 0 rfl cs _ hrange Try.underlying99 rfl hinf ?_)
                       go_ret
                       exact ShapeRes.put HC.out.1 HS.out.2.2.2.1 HS.out.2.2.1 (by have := HC.out.2.2.lt; omega) HS.out.2.1 h8 H0.out.1 HS.out.2.2.2.2.2.2 (by rw [HS.out.2.2.2.2.1]; simp [kindOk, h13, hl] <;> omega) HD.out)
                  · first
                    | (exfalso; simp at g5; omega)
                    | (go_wp2_with (refine wpList_load_mid rfl 99 _ rfl w1.heap.size 0 rfl cs _ hrange Try.underlying99 rfl hinf ?_)
                       go_ret
                       exact ShapeRes.bad HC.out.1 HS.out.2.2.2.1 (okS_kind (by rw [HS.out.2.2.2.2.1]; simp [kindOk, h13, hl] <;> omega)))
                · by_cases h11 : s.kind = 11
                  · first
                    | (exfalso; simp at g5; omega)
                    | (go_wp2_with (refine wpList_load_mid rfl 99 _ rfl w1.heap.size 0 rfl cs _ hrange Try.underlying99 rfl hinf ?_)
                       go_ret
                       exact ShapeRes.put HC.out.1 HS.out.2.2.2.1 HS.out.2.2.1 (by have := HC.out.2.2.lt; omega) HS.out.2.1 h8 H0.out.1 HS.out.2.2.2.2.2.2 (by rw [HS.out.2.2.2.2.1]; simp [kindOk, h11] <;> omega) HD.out)
                  · by_cases hl1 : s.kind < 1
                    · first
                      | (exfalso; simp at g5; omega)
                      | (go_wp2_with (refine wpList_load_mid rfl 99 _ rfl w1.heap.size 0 rfl cs _ hrange Try.underlying99 rfl hinf ?_)
                         go_ret
                         exact ShapeRes.bad HC.out.1 HS.out.2.2.2.1 (okS_kind (kindOk_low (by omega))))
                    · by_cases hl7 : 7 < s.kind
                      · first
                        | (exfalso; simp at g5; omega)
                        | (go_wp2_with (refine wpList_load_mid rfl 99 _ rfl w1.heap.size 0 rfl cs _ hrange Try.underlying99 rfl hinf ?_)
                           go_ret
                           exact ShapeRes.bad HC.out.1 HS.out.2.2.2.1 (okS_kind (kindOk_high (by omega) h8 h9 h10 h13 h11)))
                      · by_cases hl0 : (0 : Int) < (s.list.length : Int)
                        · first
                          | (exfalso; simp at g5; omega)
                          | (go_wp2_with (refine wpList_load_mid rfl 99 _ rfl w1.heap.size 0 rfl cs _ hrange Try.underlying99 rfl hinf ?_)
                             go_ret
                             exact ShapeRes.bad HC.out.1 HS.out.2.2.2.1 (okS_kind (kindOk_parts (by omega) h8 h9 h10 h13 h11)))
                        · first
                          | (exfalso; simp at g5; omega)
                          | (go_wp2_with (refine wpList_load_mid rfl 99 _ rfl w1.heap.size 0 rfl cs _ hrange Try.underlying99 rfl hinf ?_)
                             go_ret
                             exact ShapeRes.put HC.out.1 HS.out.2.2.2.1 HS.out.2.2.1 (by have := HC.out.2.2.lt; omega) HS.out.2.1 h8 H0.out.1 HS.out.2.2.2.2.2.2 (kindOk_plain (by omega) (by omega) (by omega) h8 h9 h10 h13 h11) HD.out)
          · by_cases h9 : s.kind = 9
            · by_cases hl : s.list.length = 1
              · first
                | (exfalso; simp at g5; omega)
                | (go_wp2_with (refine wpList_load_mid rfl 99 _ rfl w1.heap.size 0 rfl cs _ hrange Try.underlying99 rfl hinf ?_)
                   go_ret
                   exact ShapeRes.bad HC.out.1 HS.out.2.2.2.1 (okS_dup h8 HD.out))
              · first
                | (exfalso; simp at g5; omega)
                | (go_wp2_with (refine wpList_load_mid rfl 99 _ rfl w1.heap.size 0 rfl cs _ hrange Try.underlying99 rfl hinf ?_)
                   go_ret
                   exact ShapeRes.bad HC.out.1 HS.out.2.2.2.1 (okS_kind (by rw [HS.out.2.2.2.2.1]; simp [kindOk, h9, hl] <;> omega)))
            · by_cases h10 : s.kind = 10
              · by_cases hl : s.list.length = 1
                · first
                  | (exfalso; simp at g5; omega)
                  | (go_wp2_with (refine wpList_load_mid rfl 99 _ rfl w1.heap.size 0 rfl cs _ hrange Try.underlying99 rfl hinf ?_)
                     go_ret
                     exact ShapeRes.bad HC.out.1 HS.out.2.2.2.1 (okS_dup h8 HD.out))
                · first
                  | (exfalso; simp at g5; omega)
                  | (go_wp2_with (refine wpList_load_mid rfl 99 _ rfl w1.heap.size 0 rfl cs _ hrange Try.underlying99 rfl hinf ?_)
                     go_ret
                     exact ShapeRes.bad HC.out.1 HS.out.2.2.2.1 (okS_kind (by rw [HS.out.2.2.2.2.1]; simp [kindOk, h10, hl] <;> omega)))
              · by_cases h13 : s.kind = 13
                · by_cases hl : s.list.length = 1
                  · first
                    | (exfalso; simp at g5; omega)
                    | (go_wp2_with (refine wpList_load_mid rfl 99 _ rfl w1.heap.size 0 rfl cs _ hrange Try.underlying99 rfl hinf ?_)
                       go_ret
                       exact ShapeRes.bad HC.out.1 HS.out.2.2.2.1 (okS_dup h8 HD.out))
                  · first
                    | (exfalso; simp at g5; omega)
                    | (go_wp2_with (refine wpList_load_mid rfl 99 _ rfl w1.heap.size 0 rfl cs _ hrange Try.underlying99 rfl hinf ?_)
                       go_ret
                       exact ShapeRes.bad HC.out.1 HS.out.2.2.2.1 (okS_kind (by rw [HS.out.2.2.2.2.1]; simp [kindOk, h13, hl] <;> omega)))
                · by_cases h11 : s.kind = 11
                  · first
                    | (exfalso; simp at g5; omega)
                    | (go_wp2_with (refine wpList_load_mid rfl 99 _ rfl w1.heap.size 0 rfl cs _ hrange Try.underlying99 rfl hinf ?_)
                       go_ret
                       exact ShapeRes.bad HC.out.1 HS.out.2.2.2.1 (okS_dup h8 HD.out))
                  · by_cases hl1 : s.kind < 1
                    · first
                      | (exfalso; simp at g5; omega)
                      | (go_wp2_with (refine wpList_load_mid rfl 99 _ rfl w1.heap.size 0 rfl cs _ hrange Try.underlying99 rfl hinf ?_)
                         go_ret
                         exact ShapeRes.bad HC.out.1 HS.out.2.2.2.1 (okS_kind (kindOk_low (by omega))))
                    · by_cases hl7 : 7 < s.kind
                      · first
                        | (exfalso; simp at g5; omega)
                        | (go_wp2_with (refine wpList_load_mid rfl 99 _ rfl w1.heap.size 0 rfl cs _ hrange Try.underlying99 rfl hinf ?_)
                           go_ret
                           exact ShapeRes.bad HC.out.1 HS.out.2.2.2.1 (okS_kind (kindOk_high (by omega) h8 h9 h10 h13 h11)))
                      · by_cases hl0 : (0 : Int) < (s.list.length : Int)
                        · first
                          | (exfalso; simp at g5; omega)
                          | (go_wp2_with (refine wpList_load_mid rfl 99 _ rfl w1.heap.size 0 rfl cs _ hrange Try.underlying99 rfl hinf ?_)
                             go_ret
                             exact ShapeRes.bad HC.out.1 HS.out.2.2.2.1 (okS_kind (kindOk_parts (by omega) h8 h9 h10 h13 h11)))
                        · first
                          | (exfalso; simp at g5; omega)
                          | (go_wp2_with (refine wpList_load_mid rfl 99 _ rfl w1.heap.size 0 rfl cs _ hrange Try.underlying99 rfl hinf ?_)
                             go_ret
                             exact ShapeRes.bad HC.out.1 HS.out.2.2.2.1 (okS_dup h8 HD.out))
end Go.Proofs.Ytdegfnejhamejaa
