/-
  The walk of the statement CodeForms: Cells and Check answer as the definition of sound form says.
-/
import Derived.Test.YtfmhedpjkpaohaaAns
import Derived.Test.YtfmhedpjkpaohaaCells
import Derived.Test.YtfmhedpjkpaohaaRForm
namespace Go.Proofs.Ytfmhedpjkpaohaa
open Go.RowKit
set_option linter.unusedVariables false
set_option linter.unusedSimpArgs false

set_option maxRecDepth 100000 in
set_option maxHeartbeats 2000000 in
theorem codeForms_walk (w : World) (B : Nat) (v : Value) (m : ModD) (t : Int) (hBw : B ≤ w.heap.size) (hm : ModR B w v m) (hn : cMod m ≤ 1099511627776) :
    Calls Try.prog 4 #[v, .int .i64 t] w fun e w' => e = .returned (.bool true) ∧ Below w.heap.size w w' := by
  obtain ⟨A, c, A', c', rfl, hT, hF⟩ := hm
  have hm0 : ModR B w (.agg #[.slice A m.types.length c, .slice A' m.funcs.length c']) m := ⟨A, c, A', c', rfl, hT, hF⟩
  have hnT : (m.types.map cShape).sum ≤ 1099511627776 := by unfold cMod at hn; omega
  have hb0 := Blk.new w 25 #[.slice A m.types.length c, .slice A' m.funcs.length c']
  have hc0 := chg_alloc w (.cells #[.slice A m.types.length c, .slice A' m.funcs.length c'] 25)
  have hm1 := hm0.keep hc0 (fun _ _ _ => id)
  have H0 := Lib.hid (And.intro hm0 (And.intro hT (And.intro hn hnT)))
  clear hT hF hm0 hnT
  go_enter Try.func4, Try.ntmps4
  go_wp2_with fail
  refine (own_any _ B _ m (by simp; omega) hm1 hn).mono fun e w1 h => ?_
  have hb1 : Below _ _ _ := h.choose_spec.choose_spec.choose_spec.choose_spec.2.1
  obtain ⟨v1, rfl, hv1⟩ := h.modR
  have hc1 : Chg (fun _ _ => False) w w1 := hc0.trans (Chg.of_below hb1 _)
  have hbk1 := (Chg.of_below hb1 (fun _ _ => False)).blk hb0 id
  clear hb0 hc0 hm1 hb1
  go_wp2_with fail
  refine (cells_any _ w1.heap.size _ m t (Nat.le_refl _) hv1 hn).mono fun e w2 h => ?_
  obtain ⟨rfl, hcc2⟩ := h
  have hc2 := hc1.trans hcc2
  have hbk2 := hcc2.blk hbk1 id
  obtain ⟨k0, k1⟩ := hbk2.cells2
  have hm2 := H0.out.1.keep hc2 (fun _ _ _ => id)
  have hsz2 := hc2.size
  clear hv1 hc1 hbk1 hcc2
  obtain ⟨cn, ce, hcells⟩ : ∃ cn ce, cellsAns m t = (cn, ce) := ⟨_, _, rfl⟩
  rw [hcells]
  have HC := Lib.hid hcells
  clear hcells
  go_wp2_with fail
  refine (own_any _ B _ m (by omega) hm2 hn).mono fun e w3 h => ?_
  have hb3 : Below _ _ _ := h.choose_spec.choose_spec.choose_spec.choose_spec.2.1
  obtain ⟨v3, rfl, hv3⟩ := h.modR
  have hc3 : Chg (fun _ _ => False) w w3 := hc2.trans (Chg.of_below hb3 _)
  have hbk3 := (Chg.of_below hb3 (fun _ _ => False)).blk hbk2 id
  clear hbk2 hc2 hm2 hb3 k0 k1
  go_wp2_with fail
  refine (check_any _ w3.heap.size _ m (Nat.le_refl _) hv3 hn).mono fun e w4 h => ?_
  obtain ⟨rfl, hcc4⟩ := h
  have hc4 := hc3.trans hcc4
  have hbk4 := hcc4.blk hbk3 id
  clear hv3 hc3 hbk3 hcc4
  obtain ⟨fe, hfe⟩ : ∃ fe : Int, (if formedMod m = true then 0 else 1) = fe := ⟨_, rfl⟩
  rw [hfe]
  have HE := Lib.hid hfe
  clear hfe
  go_wp2_with fail
  refine (answers_any _).mono fun e w5 h => ?_
  obtain ⟨rfl, hb5⟩ := h
  have hc5 := hc4.trans (Chg.of_below hb5 _)
  have hbk5 := (Chg.of_below hb5 (fun _ _ => False)).blk hbk4 id
  obtain ⟨k0, k1⟩ := hbk5.cells2
  have hm5 := H0.out.1.keep hc5 (fun _ _ _ => id)
  have hsz5 := hc5.size
  clear hc4 hbk4 hb5
  go_wp2_with fail
  refine (rformed_any _ B _ m (by omega) hm5 hn).mono fun e w6 h => ?_
  obtain ⟨rfl, hcc6⟩ := h
  have hc6 := hc5.trans hcc6
  have hbk6 := hcc6.blk hbk5 id
  clear hbk5 hc5 hm5 hcc6 k0 k1
  obtain ⟨k0, k1⟩ := hbk6.cells2
  cases hfm : formedMod m
  · have HF := Lib.hid hfm
    clear hfm
    have hans := HC.out
    rw [cells_bad HF.out] at hans
    obtain ⟨rfl, rfl⟩ := Prod.mk.inj hans
    obtain rfl : (1 : Int) = fe := by have := HE.out; rwa [HF.out, if_neg (by simp)] at this
    have hbel := Lib.hid (hc6.below (B := w.heap.size) (fun _ _ h => h.elim) (Nat.le_refl _))
    clear hc6
    go_wp2
    go_ret
    exact ⟨rfl, hbel.out⟩
  · have HF := Lib.hid hfm
    clear hfm
    obtain rfl : (0 : Int) = fe := by have := HE.out; rwa [HF.out, if_pos rfl] at this
    have hsz6 : B ≤ w6.heap.size := Nat.le_trans hBw hc6.size
    have hT6 := H0.out.2.1.keep hc6 (fun _ _ _ => id)
    go_wp2_with fail
    refine (rwid_any _ B _ _ m.types hsz6 hT6 H0.out.2.2.2).mono fun e w7 h => ?_
    obtain ⟨hb7, hh⟩ := h
    have hbel := Lib.hid ((hc6.trans (Chg.of_below hb7 _)).below (B := w.heap.size) (fun _ _ h => h.elim) (Nat.le_refl _))
    clear hc6 hbk6 hT6 hb7 k0 k1
    cases hwd : widths m.types with
    | none => exact absurd HF.out (by simp [formedMod, hwd])
    | some l =>
      rw [hwd] at hh
      obtain ⟨A5, c5, rfl, hcl⟩ := hh
      have hlen := (widths_len hwd).2
      have HD := Lib.hid (And.intro hwd hlen)
      clear hwd hlen
      obtain ⟨b256, hb256⟩ : ∃ b, decide ((m.types.length : Int) ≤ 256) = b := ⟨_, rfl⟩
      rw [hb256]
      clear hb256
      by_cases h0 : t < 0
      · have hans := HC.out
        rw [cells_out HF.out HD.out.1 (by omega)] at hans
        obtain ⟨rfl, rfl⟩ := Prod.mk.inj hans
        clear hcl
        go_wp2
        go_ret
        exact ⟨rfl, hbel.out⟩
      · by_cases h1 : (l.length : Int) ≤ t
        · have hans := HC.out
          rw [cells_out HF.out HD.out.1 (by omega)] at hans
          obtain ⟨rfl, rfl⟩ := Prod.mk.inj hans
          clear hcl
          go_wp2
          go_ret
          exact ⟨rfl, hbel.out⟩
        · obtain ⟨tn, rfl⟩ : ∃ tn : Nat, t = tn := ⟨t.toNat, by omega⟩
          have htn : tn < l.length := by omega
          obtain ⟨b2, o2, y, rfl, hky, hiy, y0⟩ := (CellsR.ints hcl (fun x hx => by have := HD.out.2 x hx; omega)).at_ (k := tn) (by simpa using htn)
          have hyy : y = ((l.getD tn 0 : Nat) : Int) := by
            rw [List.getElem?_map, List.getElem?_eq_getElem htn] at hky
            simp at hky
            rw [← hky]
            simp [List.getD_eq_getElem?_getD, List.getElem?_eq_getElem htn]
          have hans := HC.out
          rw [cells_in HF.out HD.out.1 htn, ← hyy] at hans
          obtain ⟨rfl, rfl⟩ := Prod.mk.inj hans
          clear hcl hky hiy hyy h0 h1
          go_wp2
          go_ret
          exact ⟨rfl, hbel.out⟩
end Go.Proofs.Ytfmhedpjkpaohaa
