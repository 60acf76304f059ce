/-
  A new object in the program's heap: what Alloc answers, what stands there then; the heap in memory with one object more.
-/
import Derived.Test.YteigopmdhhgnfaaHpColl
import Derived.Test.YteigopmdhhgnfaaHpAl
import Derived.Test.YteigopmdhhgnfaaHpAns
import Derived.Laws.MakeOwn
namespace Go.Proofs.Yteigopmdhhgnfaa
open Go.RowKit
set_option linter.unusedVariables false
set_option linter.unusedSimpArgs false

noncomputable def allocIn (S : List ObjD) (bud : Nat) (refs : List Bool) (roots : List Int) : List ObjD := if bud < usedO S + (1 + refs.length) then liveO S roots else S
noncomputable def allocV (S : List ObjD) (bud : Nat) (refs : List Bool) (roots : List Int) : Int × Int :=
  if 262146 < refs.length then (0, 2) else if knownO S roots = false then (0, 15) else if bud < usedO (allocIn S bud refs roots) + (1 + refs.length) then (0, 20) else (((gapS (allocIn S bud refs roots) + 1 : Nat) : Int), 0)
noncomputable def allocT (S : List ObjD) (bud : Nat) (refs : List Bool) (roots : List Int) : List ObjD :=
  if 262146 < refs.length then S else if knownO S roots = false then S else if bud < usedO (allocIn S bud refs roots) + (1 + refs.length) then allocIn S bud refs roots else allocO (allocIn S bud refs roots) refs
theorem low_gap {S : List ObjD} (h : GoodO S) {least : Nat} (hl : ∀ i : Nat, 1 ≤ i → i < least → (findO S i).isSome = true) : least ≤ gapS S + 1 := by
  rcases Nat.lt_or_ge (gapS S + 1) least with h1 | h1
  · have h2 := hl (gapS S + 1) (by omega) h1
    rw [gapS_free h.sorted h.pos] at h2
    cases h2
  · exact h1
section
variable {M : Nat → Nat → Prop} {G : Nat → Prop} {w w' w1 : World} {p m n cnt N bud least b c : Nat} {S : List ObjD} {bo cc : Nat → Nat} {AA : Nat → Option Addr}
theorem HpI.le (h : HpI G w p m n cnt bo AA cc S bud least) : least ≤ 65537 := by
  have h1 := low_gap h.good h.low.2
  have h2 := gapS_le S
  have h3 := len_le_used S
  have h4 := h.room
  omega
theorem RowR.own_in {α : Type} {base e size : Nat} {R : World → List Value → α → Prop} {A : Option Addr} {c : Nat} {l : List α} (h : RowR base e size R w A c l) {g : Nat} (hg : OwnB A l.length c g) : base ≤ g ∧ g < w.heap.size := by
  obtain ⟨h1, cs, h2⟩ := own_blk h.choose_spec.1 hg
  exact ⟨h1, h2.lt⟩
/-- A row as it is made: one value, all along. -/
theorem made_row {α : Type} {e : Nat} {R : World → List Value → α → Prop} {z : Value} {x : α} (base N : Nat) (hR : ∀ w, R w [z] x) (hb : base ≤ w.heap.size) (hN : N ≤ maxLen) : RowR base e 1 R (w.alloc (.cells (madeCells #[z] (N * 1)) e)) (some ⟨w.heap.size, 0, none⟩) N (List.replicate N x) := by
  have hms : (madeCells #[z] (N * 1)).toList = List.replicate N z := by
    refine List.ext_getElem? fun i => ?_
    rw [List.getElem?_replicate]
    split
    · rename_i hi
      simp [madeCells, hi, Nat.mod_one]
    · rename_i hi
      simp [madeCells, hi]
  refine ⟨List.replicate N [z], ⟨?_, .inr ⟨w.heap.size, N, _, by rw [List.length_replicate], hb, Blk.new w e _, by rw [List.length_replicate]; exact Nat.le_refl _, hN, size_madeCells _ _, ?_⟩⟩, by simp, fun cs hcs => ?_, fun k y cs hy hcs => ?_⟩
  · simp
  · rw [hms, List.length_replicate, Nat.mul_one, List.take_of_length_le (by simp)]
    simp
  · rw [List.eq_of_mem_replicate hcs]
    rfl
  · rw [List.getElem?_replicate] at hy hcs
    split at hy
    · rename_i hk
      rw [if_pos hk] at hcs
      injection hy with hy
      injection hcs with hcs
      subst hy hcs
      exact hR _
    · cases hy
theorem alloc_small {S : List ObjD} {refs : List Bool} : newX S refs ∈ allocO S refs := alloc_mem.2 (.inl rfl)
/-- One object more. -/
theorem HpI.alloc {refs : List Bool} {cnt' B0 bx c1 c2 : Nat} {A1 A2 : Option Addr} (h : HpI G w p m n cnt bo AA cc S bud least) (hc : Chg M w w') (hm : ∀ b t, M b t → t = 75 ∨ t = 0)
    (hblk : Blk w' p 75 #[.map (some m), .int .i64 (bud : Int), .int .i64 (((usedO S + (1 + refs.length) : Nat)) : Int), .int .i64 ((gapS S + 1 : Nat) : Int)])
    (hmap : IMap w' m (n + 1) cnt' (updI (fun x => (findO S x).map fun o => .pointer (some ⟨bo o.name, 0, none⟩)) ((gapS S + 1 : Nat) : Int) (.pointer (some ⟨bx, 0, none⟩))))
    (hbx : Blk w' bx 78 #[.slice A1 refs.length c1, .slice A2 refs.length c2]) (r1 : RowR B0 44 1 U64V w' A1 c1 (List.replicate refs.length 0)) (r2 : RowR B0 4 1 BooV w' A2 c2 refs) (hB0 : w.heap.size ≤ B0) (hbx0 : B0 ≤ bx) (hroom : ¬ bud < usedO S + (1 + refs.length)) :
    HpI (fun b => G b ∨ (w.heap.size ≤ b ∧ b < w'.heap.size)) w' p m (n + 1) cnt' (fun k => if k = gapS S + 1 then bx else bo k) (fun k => if k = gapS S + 1 then A1 else AA k) (fun k => if k = gapS S + 1 then c1 else cc k) (allocO S refs) bud (gapS S + 1) := by
  have hw : w.heap.size ≤ w'.heap.size := hc.size
  have hlen := len_le_used S
  have hbud := h.room.2
  have hnm : ∀ o ∈ S, o.name ≠ gapS S + 1 := fun o ho he => by
    have h1 := gapS_free h.good.sorted h.good.pos
    rw [← he, findO_some h.good.sorted ho] at h1
    cases h1
  have hown1 : ∀ g, OwnB A1 refs.length c1 g → w.heap.size ≤ g ∧ g < w'.heap.size := fun g hg => by
    have := r1.own_in (g := g) (by rw [List.length_replicate]; exact hg)
    exact ⟨Nat.le_trans hB0 this.1, this.2⟩
  have hown2 : ∀ g, OwnB A2 refs.length c2 g → w.heap.size ≤ g ∧ g < w'.heap.size := fun g hg => by
    have := r2.own_in hg
    exact ⟨Nat.le_trans hB0 this.1, this.2⟩
  refine ⟨?_, ?_, ?_, ?_, ⟨.inl h.own.1, .inl h.own.2⟩, ?_, alloc_good h.good refs (by omega), ⟨by omega, fun i h1 h2 => ?_⟩, ⟨by rw [alloc_used]; omega, hbud⟩⟩
  · rw [alloc_used, Nat.add_assoc]
    exact hblk
  · refine hmap.ext fun s hs => ?_
    rw [alloc_find h.good.sorted h.good.pos]
    by_cases he : s = ((gapS S + 1 : Nat) : Int)
    · rw [if_pos he, he, updI_same]
      simp [newX]
    · rw [if_neg he, updI_other _ _ he]
      cases hf : findO S s with
      | none => rfl
      | some y =>
        simp only [Option.map_some]
        rw [if_neg (hnm y (findO_mem hf).1)]
  · intro o ho
    rcases alloc_mem.1 ho with rfl | ho
    · simp only [newX, if_true]
      refine ⟨A2, c2, by simp only [List.length_replicate]; exact hbx, r1.rebase (Nat.zero_le _), r2.rebase (Nat.zero_le _), fun g hg => .inr (hown1 g ?_), fun g hg => .inr (hown2 g hg), .inr ⟨Nat.le_trans hB0 hbx0, hbx.lt⟩⟩
      simp only [List.length_replicate] at hg
      exact hg
    · simp only [if_neg (hnm o ho)]
      obtain ⟨A', c', k1, k2, k3, k4, k5, k6⟩ := (h.obj o ho).keep hc fun b hb => ⟨fun h => by rcases hm _ _ h with h | h <;> exact absurd h (by decide), fun h => by rcases hm _ _ h with h | h <;> exact absurd h (by decide), fun h => by rcases hm _ _ h with h | h <;> exact absurd h (by decide)⟩
      exact ⟨A', c', k1, k2, k3, fun g hg => .inl (k4 g hg), fun g hg => .inl (k5 g hg), .inl k6⟩
  · intro o ho o' ho' g h1 h2
    have hold : ∀ o ∈ S, ∀ g, OwnB (AA o.name) o.cells.length (cc o.name) g → g < w.heap.size := fun o ho g hg => by
      obtain ⟨A', c', _, k2, _⟩ := h.obj o ho
      exact (k2.own_in hg).2
    rcases alloc_mem.1 ho with rfl | ho <;> rcases alloc_mem.1 ho' with rfl | ho'
    · rfl
    · simp only [newX, if_true, List.length_replicate] at h1
      simp only [if_neg (hnm o' ho')] at h2
      have := hold o' ho' g h2
      have := hown1 g h1
      omega
    · simp only [newX, if_true, List.length_replicate] at h2
      simp only [if_neg (hnm o ho)] at h1
      have := hold o ho g h1
      have := hown1 g h2
      omega
    · simp only [if_neg (hnm o ho)] at h1
      simp only [if_neg (hnm o' ho')] at h2
      exact h.dist o ho o' ho' g h1 h2
  · intro b hb
    rcases hb with hb | hb
    · exact Nat.lt_of_lt_of_le (h.lt b hb) hw
    · exact hb.2
  · have := gapS_taken (S := S) h1 (by omega)
    obtain ⟨x, hx, he⟩ := findO_isSome.1 this
    exact findO_isSome.2 ⟨x, alloc_mem.2 (.inr hx), he⟩
end
end Go.Proofs.Yteigopmdhhgnfaa
