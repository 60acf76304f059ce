/-
  code.Cells: how many cells a shape has.
-/
import Derived.Test.YtfmhedpjkpaohaaCheck
namespace Go.Proofs.Ytfmhedpjkpaohaa
open Go.RowKit
set_option linter.unusedVariables false
set_option linter.unusedSimpArgs false

def cellsAns (m : ModD) (t : Int) : Int × Int :=
  if formedMod m = true then (match widths m.types with
    | some l => if 0 ≤ t ∧ t < (l.length : Int) then (((l.getD t.toNat 0 : Nat) : Int), 0) else (0, 16)
    | none => (0, 1)) else (0, 1)
def CellsRes (m : ModD) (t : Int) (w : World) (e : Ending) (w' : World) : Prop := e = .returned (.tuple #[.int .i64 (cellsAns m t).1, .int .i64 (cellsAns m t).2]) ∧ Chg (fun _ _ => False) w w'
theorem CellsRes.of {m : ModD} {t : Int} {w w' : World} {e : Ending} {a b : Int} (he : e = .returned (.tuple #[.int .i64 a, .int .i64 b])) (hc : Chg (fun _ _ => False) w w') (h : cellsAns m t = (a, b)) : CellsRes m t w e w' := ⟨by rw [h, he], hc⟩
theorem cells_bad {m : ModD} {t : Int} (h : formedMod m = false) : cellsAns m t = (0, 1) := by simp [cellsAns, h]
theorem cells_out {m : ModD} {t : Int} {l : List Nat} (h : formedMod m = true) (hw : widths m.types = some l) (ht : ¬ (0 ≤ t ∧ t < (l.length : Int))) : cellsAns m t = (0, 16) := by simp only [cellsAns, h, hw, if_true, if_neg ht]
theorem cells_in {m : ModD} {t : Nat} {l : List Nat} (h : formedMod m = true) (hw : widths m.types = some l) (ht : t < l.length) : cellsAns m (t : Int) = (((l.getD t 0 : Nat) : Int), 0) := by
  simp only [cellsAns, h, hw, if_true]
  rw [if_pos (by omega), Int.toNat_natCast]
set_option maxRecDepth 100000 in
set_option maxHeartbeats 1000000 in
theorem cells_any (w : World) (B : Nat) (v : Value) (m : ModD) (t : Int) (hBw : B ≤ w.heap.size) (hm : ModR B w v m) (hn : cMod m ≤ 1099511627776) :
    Calls Try.prog 14 #[v, .int .i64 t] w (CellsRes m t w) := by
  obtain ⟨A, c, A', c', rfl, hT, hF⟩ := hm
  have hm0 : ModR B w (.agg #[.slice A m.types.length c, .slice A' m.funcs.length c']) m := ⟨A, c, A', c', rfl, hT, hF⟩
  clear hT hF
  have hb0 := Blk.new w 25 #[.slice A m.types.length c, .slice A' m.funcs.length c']
  have hc0 := chg_alloc w (.cells #[.slice A m.types.length c, .slice A' m.funcs.length c'] 25)
  have hm1 := hm0.keep hc0 (fun _ _ _ => id)
  go_enter Try.func14, Try.ntmps14
  go_wp2_with fail
  refine (measure_any _ B _ m (by simp; omega) hm1 hn).mono fun e w2 hh => ?_
  obtain ⟨hbel, hh⟩ := hh
  have hc2 := Chg.of_below hbel (fun _ _ => False)
  have hb2 := hc2.blk hb0 id
  obtain ⟨e0, e1⟩ := hb2.cells2
  have HM := Lib.hid (And.intro (hm1.keep hc2 (fun _ _ _ => id)) (hc0.trans hc2))
  have hsz : B ≤ w2.heap.size := Nat.le_trans hBw HM.out.2.size
  clear hbel hc2 hb0 hc0 hm1 hm0 hb2
  cases hwd : widths m.types with
  | none =>
    rw [hwd] at hh
    obtain rfl := hh
    have H1 := Lib.hid (show formedMod m = false by simp [formedMod, hwd])
    clear hwd
    go_wp2_with fail
    go_ret2
    exact CellsRes.of rfl HM.out.2 (cells_bad H1.out)
  | some l =>
    rw [hwd] at hh
    obtain ⟨A5, c5, rfl, hcl⟩ := hh
    have hlen := (widths_len hwd).2
    have HC := Lib.hid (And.intro hcl hlen)
    cases h256 : decide ((m.types.length : Int) ≤ 256)
    · have H1 := Lib.hid (show formedMod m = false by
        have := of_decide_eq_false h256
        unfold formedMod; rw [decide_eq_false (p := m.types.length ≤ 256) (by omega)]; simp)
      clear hwd hcl hlen h256
      go_wp2_with fail
      go_ret2
      exact CellsRes.of rfl HM.out.2 (cells_bad H1.out)
    · have HD := Lib.hid hwd
      clear hwd hcl hlen h256
      go_wp2_with fail
      refine (check_any _ B _ m hsz HM.out.1 hn).mono fun e w3 hh => ?_
      obtain ⟨rfl, hc3⟩ := hh
      have H3 := Lib.hid hc3
      have hrow : CellsR (w.heap.size) w3 A5 c5 l := by
        have h1 : CellsR _ w2 A5 c5 l := HC.out.1
        exact CellsR.rebase (hc3.own h1 (fun _ _ => id)) (by simp)
      clear hc3 e0 e1
      cases hf : formedMod m
      · have HF := Lib.hid hf
        clear hf
        rw [if_neg (by simp)]
        clear hrow
        go_wp2_with fail
        go_ret2
        exact CellsRes.of rfl (HM.out.2.trans H3.out) (cells_bad HF.out)
      · have HF := Lib.hid hf
        clear hf
        rw [if_pos rfl]
        by_cases h0 : t < 0
        · clear hrow
          go_wp2_with fail
          go_ret2
          exact CellsRes.of rfl (HM.out.2.trans H3.out) (cells_out HF.out HD.out (by omega))
        · by_cases h1 : (l.length : Int) ≤ t
          · clear hrow
            go_wp2_with fail
            go_ret2
            exact CellsRes.of rfl (HM.out.2.trans H3.out) (cells_out HF.out HD.out (by omega))
          · obtain ⟨tn, rfl⟩ : ∃ tn : Nat, t = tn := ⟨t.toNat, by omega⟩
            have htn : tn < l.length := by omega
            obtain ⟨b2, o2, y, rfl, hky, hiy, y0⟩ := (CellsR.ints hrow (fun x hx => by have := HC.out.2 x hx; omega)).at_ (k := tn) (by simpa using htn)
            have hyy : y = ((l.getD tn 0 : Nat) : Int) := by
              rw [List.getElem?_map, List.getElem?_eq_getElem htn] at hky
              simp at hky
              rw [← hky]
              simp [List.getD_eq_getElem?_getD, List.getElem?_eq_getElem htn]
            have HY := Lib.hid (And.intro hyy htn)
            clear hrow hky hiy hyy h0 h1
            go_wp2_with fail
            go_ret2
            exact CellsRes.of rfl (HM.out.2.trans H3.out) (by rw [HY.out.1]; exact cells_in HF.out HD.out HY.out.2)
end Go.Proofs.Ytfmhedpjkpaohaa
