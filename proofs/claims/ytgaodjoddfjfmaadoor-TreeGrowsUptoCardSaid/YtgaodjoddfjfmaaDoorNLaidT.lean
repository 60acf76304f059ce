/-
  What the rows' list and the world's shape give: the tables of utf8, the number that bytealg keeps, the table of operators.
-/
import Derived.Test.YtgaodjoddfjfmaaDoorNLaid
import Derived.Test.YtgaodjoddfjfmaaDoorNBinds
namespace Go.Proofs.YtgaodjoddfjfmaaDoor
open Go.ChangeShapes Go.WideShapes Go.ChangeAt Go.RowKit
set_option linter.unusedVariables false
set_option linter.unusedSimpArgs false

set_option maxRecDepth 100000 in
theorem accept_eq : (Rows.laid_unicode_utf8_acceptRanges : DataW Unit) = Lib.acceptData := by kernel_rfl
theorem first_eq : Rows.laid_unicode_utf8_first = Lib.firstData := Pinned.utf8First_eq
/-- What the rows' list gives. -/
theorem tabs_of {W : World} (h : laidMetH Tryd.prog laidL W) : Tabs W :=
  utf8Tabs_of_readsT (U8Types.of196 Tryd.lays196) ⟨by kernel_rfl, by kernel_rfl, by kernel_rfl, by kernel_rfl, by kernel_rfl, by kernel_rfl, by kernel_rfl⟩
    (first_eq ▸ Lib.laidMet.reads h (.tail _ (.tail _ (.head _)))) (accept_eq ▸ Lib.laidMet.reads h (.head _))
theorem maxLen_of {W : World} (h : W.ShapedOpen Tryd.prog) : ∃ m, W.cell? ⟨3, 0, none⟩ = some (.int .i64 m) :=
  Go.Proofs.cell_of_shapedOpen_int (zero := #[.int .i64 0]) (t := 3) h (of_decide_eq_true (by kernel_rfl)) (by kernel_rfl) rfl (by kernel_rfl) (by kernel_rfl) Tryd.underlying3
theorem tabW_of {W : World} (h : laidMetH Tryd.prog laidL W) (hs : W.ShapedOpen Tryd.prog) : TabW W := ⟨tabs_of h, maxLen_of hs⟩
/-- A row of texts that reads as these holds them. -/
theorem row_of {W : World} {fuel : Nat} {cs : List Value} {ls : List ByteArray} {p : List MemPlace} (hne : ls ≠ [])
    (h : DataW.trod (fun _ => ()) Tryd.prog W 0 (fun _ => true) false fuel 36 cs = some (.slice (ls.map fun s => .lit (.string s.data.toList)) [], p)) :
    ∃ g o c, cs = [.slice (some ⟨g, o, none⟩) ls.length c] ∧ ∀ j, j < ls.length → W.cell? ⟨g, o + j, none⟩ = some (.string (ls.getD j ByteArray.empty)) := by
  rcases DataW.trod_slice Tryd.underlying36 h with ⟨_, h2⟩ | ⟨a, len, cap, elems, rest, n, hf, h1, hx, _, hl, hm, hlen, hi, _, _⟩
  · cases h2
  · have he : elems.map (·.1) = ls.map fun s => (DataW.lit (.string s.data.toList) : DataW Unit) := by
      have := congrArg Prod.fst hx
      simp at this
      exact this.1.symm
    have hll : len = ls.length := by
      have := congrArg List.length he
      simp at this
      omega
    subst hll
    have hat : ∀ j, j < ls.length → W.cell? (a.add j) = some (.string (ls.getD j ByteArray.empty)) := by
      intro j hj
      have hk := hi j hj
      have hy : elems[j]? = some (elems[j]'(by omega)) := List.getElem?_eq_getElem (by omega)
      rw [hy, Option.bind_eq_some_iff] at hk
      obtain ⟨ds, hc, htr⟩ := hk
      rw [show Tryd.prog.cellsOf 9 = 1 by kernel_rfl, Nat.mul_one] at hc
      obtain ⟨_, hcl, hat⟩ := World.cells?_some hc
      obtain ⟨s, hs1, hs2, _⟩ := DataW.trod_string Tryd.underlying9 htr
      have h0 := hat 0 (by omega)
      rw [hs1] at h0
      have hj2 : (elems.map (·.1))[j]? = some (DataW.lit (.string s.data.toList) : DataW Unit) := by
        rw [List.getElem?_map, hy]
        simp [hs2]
      rw [he, List.getElem?_map, List.getElem?_eq_getElem hj] at hj2
      simp at hj2
      have hse : s = ls[j] := by
        have : s.data = ls[j].data := hj2.symm
        cases s; cases hq : ls[j]; rw [hq] at this; simp at this; rw [this]
      have ha0 : (a.add j).add 0 = a.add j := by cases a; simp [Addr.add]
      rw [ha0] at h0
      rw [h0]
      simp [hse, hj]
    have hpos : 0 < ls.length := List.length_pos_iff.2 hne
    have h00 := hat 0 hpos
    have ha0 : a.add 0 = a := by cases a; simp [Addr.add]
    rw [ha0] at h00
    obtain ⟨b, o, rfl, hlt⟩ := flat_of_cell h00
    refine ⟨b, o, cap, by simpa using h1, fun j hj => ?_⟩
    have := hat j hj
    rw [add_flat] at this
    exact this
set_option maxRecDepth 100000 in
theorem opsR_of {W : World} (h : laidMetH Tryd.prog laidL W) : OpsR W := by
  obtain ⟨g, t, cs, fuel, p, hg, hty, hvar, hd⟩ := Lib.laidMet.reads h (n := "mullion/tree.Ops") (d := Rows.laid_mullion_tree_Ops) (.tail _ (.head _))
  obtain rfl : 0 = g := Option.some.inj ((show Tryd.prog.globalNamed "mullion/tree.Ops" = some 0 by kernel_rfl).symm.trans hg)
  obtain rfl : 68 = t := Option.some.inj ((show (Tryd.prog.globals[0]?).map (·.type) = some 68 by kernel_rfl).symm.trans hty)
  have key : ∀ i, i < 5 → ∃ g o c, W.cell? ⟨0, i, none⟩ = some (.slice (some ⟨g, o, none⟩) (opsL i).length c) ∧ ∀ j, j < (opsL i).length → W.cell? ⟨g, o + j, none⟩ = some (.string ((opsL i).getD j ByteArray.empty)) := by
    intro i hi
    obtain ⟨fuel', d, q, hdi, he⟩ := Lib.array_elem Tryd.underlying68 hd i hi
    have hd' : d = .slice ((opsL i).map fun s => .lit (.string s.data.toList)) [] := by
      match i, hi with
      | 0, _ => simp at hdi; rw [← hdi]; rfl
      | 1, _ => simp at hdi; rw [← hdi]; rfl
      | 2, _ => simp at hdi; rw [← hdi]; rfl
      | 3, _ => simp at hdi; rw [← hdi]; rfl
      | 4, _ => simp at hdi; rw [← hdi]; rfl
    subst hd'
    rw [show Tryd.prog.cellsOf 36 = 1 by kernel_rfl, Nat.mul_one] at he
    obtain ⟨g, o, c, hcs, hrow⟩ := row_of (by match i, hi with | 0, _ => simp [opsL] | 1, _ => simp [opsL] | 2, _ => simp [opsL] | 3, _ => simp [opsL] | 4, _ => simp [opsL]) he
    refine ⟨g, o, c, ?_, hrow⟩
    have e0 := congrArg (·[0]?) hcs
    simp only [List.getElem?_take, List.getElem?_drop] at e0
    rw [World.var?_cell hg hvar i, ← Array.getElem?_toList]
    simpa using e0
  obtain ⟨g0, o0, c0, h0, k0⟩ := key 0 (by omega)
  obtain ⟨g1, o1, c1, h1, k1⟩ := key 1 (by omega)
  obtain ⟨g2, o2, c2, h2, k2⟩ := key 2 (by omega)
  obtain ⟨g3, o3, c3, h3, k3⟩ := key 3 (by omega)
  obtain ⟨g4, o4, c4, h4, k4⟩ := key 4 (by omega)
  exact ⟨g0, o0, c0, g1, o1, c1, g2, o2, c2, g3, o3, c3, g4, o4, c4, h0, h1, h2, h3, h4, k0, k1, k2, k3, k4⟩
end Go.Proofs.YtgaodjoddfjfmaaDoor
