/-
  UnifyBack: the operations of its drawn region; the plain law.
-/
import Derived.Test.YtgemacdnncjmdaaDoorUniU
import Derived.Test.YtgemacdnncjmdaaDoorHoles
import Derived.Test.YtgemacdnncjmdaaDoorTTypesTwiceW
namespace Go.Proofs.YtgemacdnncjmdaaDoor
open Go.RowKit
set_option linter.unusedVariables false
set_option linter.unusedSimpArgs false

section
variable {a : Act} {w : World} {dst : Option Nat} {ty : TypeId} {pos : String} {af : Array Edge} {g : Option (Nat × Bool)}
theorem exec_bs0 : (execOp a.eval { dst := dst, op := .buildSlice 22 0 #[], type := ty, pos := pos, after := af, guard := g }).run Tryd.prog w = .ok (.value (.slice (some ⟨w.heap.size, 0, none⟩) 0 0)) (w.alloc (.cells #[] 9)) := by
  obtain ⟨i9, hi9, hz9, hs9, hb9⟩ := info_parts infoStr
  unfold execOp
  simp [Instr.buildSlice, run_underlying Tryd.underlying22, sizeOf, typeInfo, hi9, hs9, go_sem, newRow]
theorem exec_copyS {l : List ByteArray} {b0 : Nat} (x y : Operand) (hx : a.eval x = .slice (some ⟨b0, 0, none⟩) 0 0) (hb : Blk w b0 9 #[]) (hy : StrsU w (a.eval y) l) (hl : l.length ≤ 1048576) :
    ∃ v w', (execOp a.eval { dst := dst, op := .call { callee := .builtin .append, args := #[x, y], argTypes := #[22, 22] }, type := ty, pos := pos, after := af, guard := g }).run Tryd.prog w = .ok (.value v) w' ∧ StrsU w' v l ∧ Chg (fun _ _ => False) w w' := by
  obtain ⟨i9, hi9, hz9, hs9, hb9⟩ := info_parts infoStr
  obtain ⟨D, A, c, hD, hv, hS⟩ := hy
  obtain ⟨xss, h1, h2, h3, h4⟩ := hS.reads
  have how : w.ownsRow b0 9 1 (.slice (some ⟨b0, 0, none⟩) 0 0) 0 [] := ⟨by simp, .inr ⟨b0, 0, #[], rfl, Nat.le_refl _, hb, Nat.le_refl _, by simp [maxLen], by simp, by simp⟩⟩
  have hone : ∀ u ∈ xss.flatten, u.oneCell' = true := by
    intro u hu
    obtain ⟨cs, hcs, hu⟩ := List.mem_flatten.1 hu
    obtain ⟨k, hk, hk2⟩ := List.mem_iff_getElem.1 hcs
    have hkl : k < l.length := by omega
    exact StrV.one w cs l[k] (h3 k _ _ (List.getElem?_eq_getElem hkl) (by rw [List.getElem?_eq_getElem hk, hk2])) u hu
  obtain ⟨v', w', hrun, k2, k3, _⟩ := run_append_any (P := Tryd.prog) w b0 22 ty 9 i9 _ 1 16 Tryd.underlying22 hi9 hz9 hs9 hb9 rfl (by omega) _ 0 [] how w.heap.size A l.length c xss.flatten h4 hone (by simp only [maxLen]; omega) (by omega) (Nat.le_of_lt hb.lt)
  have hc : Chg (fun _ _ => False) w w' := by
    by_cases h0 : l.length = 0
    · have hl0 : l = [] := List.eq_nil_of_length_eq_zero h0
      have hx0 : xss.flatten = [] := by
        have : xss = [] := List.eq_nil_of_length_eq_zero (by omega)
        rw [this]; rfl
      have hrun0 : (Builtin.append_ #[22, 22] ty #[.slice (some ⟨b0, 0, none⟩) 0 0, .slice A 0 c]).run Tryd.prog w = .ok (.slice (some ⟨b0, 0, none⟩) 0 0) w := by
        cases A <;> simp [Builtin.append_, run_underlying Tryd.underlying22, sizeOf, typeInfo, hi9, hs9, Builtin.lenOf, Builtin.firstCells, storeCells, loadCells, loadCellsFrom, go_sem]
      rw [h0] at hrun
      rw [hrun0] at hrun
      injection hrun with _ hw
      subst hw
      exact Chg.refl _ _
    · obtain ⟨ad, hA, hlt, hcell⟩ := h4.2 (by omega)
      subst hA
      have hrun2 := run_append_grow (P := Tryd.prog) (w := w) 22 ty 9 i9 _ Tryd.underlying22 hi9 hz9 ⟨b0, 0, none⟩ 0 0 [] (by simp) (by simp) ad l.length c xss.flatten (by rw [h4.1, hs9]) hcell (by omega) (by omega) (by rw [Nat.zero_add, nextslicecap_zero (by omega), hb9]; omega)
      rw [hrun2] at hrun
      injection hrun with _ hw
      subst hw
      exact ((Chg.refl (fun _ _ => False) w).drew).alloc _
  obtain ⟨A', c', rfl⟩ := own_form k2
  rw [Nat.zero_add, List.nil_append] at k2
  try rw [Nat.zero_add] at hrun
  refine ⟨_, w', ?_, ⟨w'.heap.size, A', c', Nat.le_refl _, rfl, ?_⟩, hc⟩
  · unfold execOp
    simp only [resolve, invoke, builtin, Sem.run_bind, Sem.run_pure, Result.andThen_ok, List.map_toArray, List.map_cons, List.map_nil, hx, hv, hrun]
  · have := SlR.of_own (B := 0) (R := StrV) (l := l) (by decide) k2 h1 rfl h2 fun k x cs hx hcs => h3 k x cs hx hcs
    exact this.settle fun _ _ h => h
end
def bkF (n m : Nat) (names : List ByteArray) (t x : Ty) : Nat → (Nat → Value) → Nat × Nat → World → Prop
  | 0, v, _, w => ∃ b, v 0 = .slice (some ⟨b, 0, none⟩) 0 0 ∧ Blk w b 9 #[]
  | 1, v, _, w => StrsU w (v 1) names
  | 2, v, _, w => StrsU w (v 2) names
  | 3, v, _, w => TyU n w (v 3) t
  | 4, v, _, w => TysU n w (v 4) [t]
  | 5, v, _, w => TysU n w (v 5) [t]
  | 6, v, _, w => TyU m w (v 6) x
  | 7, v, _, w => TysU m w (v 7) [x]
  | 8, v, _, w => UniP n m names [t] [x] w (v 8)
  | 9, v, _, w => UniP n m names [t] [x] w (v 9)
  | 10, v, _, _ => ∃ y z, v 9 = .tuple #[v 10, y, z]
  | 11, v, _, _ => ∃ y z, v 9 = .tuple #[y, v 11, z]
  | 12, v, _, _ => ∃ y z, v 9 = .tuple #[y, z, v 12]
  | 13, v, _, _ => v 13 = v 10
  | 14, v, _, _ => v 14 = v 11
  | 15, v, _, _ => v 15 = v 12
  | _, _, _, _ => True
theorem bkF_dep {n m : Nat} {names : List ByteArray} {t x : Ty} {md : Region.Mode} {ops : Array Oper} (h10 : waitsB md ops 10 9 = true) (h11 : waitsB md ops 11 9 = true) (h12 : waitsB md ops 12 9 = true) (h13 : waitsB md ops 13 10 = true) (h14 : waitsB md ops 14 11 = true) (h15 : waitsB md ops 15 12 = true)
    (j : Nat) (val val' : Nat → Value) (r : Nat × Nat) (w : World) (h : val j = val' j) (hk : ∀ k, waitsB md ops j k = true → val k = val' k) (hF : bkF n m names t x j val r w) : bkF n m names t x j val' r w := by
  unfold bkF at hF ⊢
  split at hF <;> first | (rw [← hk 9 h10, ← h]; exact hF) | (rw [← hk 9 h11, ← h]; exact hF) | (rw [← hk 9 h12, ← h]; exact hF) | (rw [← hk 10 h13, ← h]; exact hF) | (rw [← hk 11 h14, ← h]; exact hF) | (rw [← hk 12 h15, ← h]; exact hF) | (rw [← h]; exact hF) | trivial
theorem bkF_mono {n m : Nat} {names : List ByteArray} {t x : Ty} (j : Nat) (val : Nat → Value) (r : Nat × Nat) (w w' : World) (hc : Chg (fun _ _ => False) w w') (hF : bkF n m names t x j val r w) : bkF n m names t x j val r w' := by
  unfold bkF at hF ⊢
  split at hF <;> first | exact TyU.keep hF hc | exact StrsU.keep hF hc | exact TysU.keep hF hc | exact UniP.keep hF hc | exact hF | skip
  obtain ⟨b, h1, h2⟩ := hF
  exact ⟨b, h1, hc.blk h2 id⟩
theorem assoc_some : ∀ {names : List ByteArray} {args : List Ty} (s : ByteArray), names.length = args.length → ((assoc names args s).isSome = true ↔ s ∈ names)
  | [], [], s, _ => by simp [assoc]
  | n :: names, a :: args, s, h => by
    rw [assoc]
    by_cases he : s = n
    · rw [if_pos (eqB_true.2 he)]; simp [he]
    · rw [if_neg (by rw [eqB_false.2 he]; decide), assoc_some s (by simpa using h)]
      simp [he]
  | [], _ :: _, _, h => by simp at h
  | _ :: _, [], _, h => by simp at h
/-- Types that were put in are found again, each that stands somewhere. -/
theorem back_law {n : Nat} {t : Ty} {names : List ByteArray} {args : List Ty} (hd : deepT n t) (h : subE t names args = 0) :
    uniE n names [t] [subT t names args] = 0 ∧ ∀ g, matchL (matchT names n) (noNm [t]) (noNm [subT t names args]) (fun _ => none) = some g → ∀ s, (inT n s t → g s = assoc names args s) ∧ (¬ inT n s t → g s = none) := by
  obtain ⟨h1, h2, ⟨h3, h4⟩, h5⟩ := subE_zero h
  have hT : subT t names args = t.fill (assoc names args) := subT_zero h
  rw [hT]
  obtain ⟨g, hg, hb⟩ := match_back (f := assoc names args) (names := names) (fun s => assoc_some s h3) n t (fun _ => none) (good_of (f := 9) hd h1) fun s u h => by cases h
  have hm : matchL (matchT names n) (noNm [t]) (noNm [t.fill (assoc names args)]) (fun _ => none) = some g := by
    show (if eqB ByteArray.empty ByteArray.empty = true then _ else _ : Option (ByteArray → Option Ty)) = _
    rw [if_pos (eqB_self _), hg]
    rfl
  refine ⟨?_, fun g' hg' s => ?_⟩
  · unfold uniE
    rw [if_pos (by simp [h1, h5]), if_pos ⟨h4, rfl⟩, hm]
    rfl
  · rw [hm] at hg'
    injection hg' with hg'
    subst hg'
    exact hb s
theorem holes_in {n : Nat} {t : Ty} {s : ByteArray} : s ∈ holesT n t [] ↔ inT n s t := by
  rw [mem_holes]; simp
end Go.Proofs.YtgemacdnncjmdaaDoor
