/-
  The walk of the statement CodeBytes: the program's bytes and the reference's are the same.
-/
import Derived.Test.YtfmhedpjkpaohaaAns
import Derived.Test.YtfmhedpjkpaohaaRef3
namespace Go.Proofs.Ytfmhedpjkpaohaa
open Go.RowKit
set_option linter.unusedVariables false
set_option linter.unusedSimpArgs false

def strN (l : List Nat) : ByteArray := strOfNums (l.map fun (x : Nat) => (x : Int))
theorem conv_own {W : World} {base n c : Nat} {A : Option Addr} {l : List Nat} (h : W.ownsRow base 5 1 (.slice A n c) n (u8s l)) (hl : l.length = n) :
    (convert 26 9 (.slice A n c)).run Try.prog W = .ok (.string (strN l)) W := by
  obtain ⟨h1, h2⟩ := h
  rcases h2 with ⟨hv, h0⟩ | ⟨g, cap, cur, hv, hg, hh, hnc, _, _, htake⟩
  · injection hv with hA _ _
    subst hA
    have : l = [] := List.eq_nil_of_length_eq_zero (by omega)
    subst this
    exact run_convert_bytes_nil W 26 5 Try.underlying26 Try.underlying5 n c 9 Try.underlying9
  · injection hv with hA _ _
    subst hA
    refine run_convert_bytes_arg W 26 5 Try.underlying26 Try.underlying5 g 0 n c _ (by simpa using hl) (fun i hi => ?_) 9 Try.underlying9
    rw [Nat.zero_add, cell_of_row W g i cur _ (0, 0) hh]
    have h3 : (u8s l)[i]? = some (.int .u8 ((l.map fun (x : Nat) => (x : Int)).getD i 0)) := by
      unfold u8s
      rw [List.getElem?_map, List.getElem?_eq_getElem (by omega)]
      simp [List.getD, hl ▸ hi]
    rw [← htake, List.getElem?_take] at h3
    split at h3
    · simpa using h3
    · cases h3

set_option maxRecDepth 100000 in
theorem codeBytes_walk (w : World) (B : Nat) (v : Value) (m : ModD) (hBw : B ≤ w.heap.size) (hm : ModR B w v m) (hlen : cMod m ≤ 1099511627776) :
    Calls Try.prog 3 #[v] w fun e w' => e = .returned (.bool true) ∧ Below w.heap.size w w' := by
  obtain ⟨A, c, A', c', rfl, hT, hF⟩ := hm
  have hm0 : ModR B w (.agg #[.slice A m.types.length c, .slice A' m.funcs.length c']) m := ⟨A, c, A', c', rfl, hT, hF⟩
  clear hT hF
  have hb0 := Blk.new w 25 #[.slice A m.types.length c, .slice A' m.funcs.length c']
  have hc0 := chg_alloc w (.cells #[.slice A m.types.length c, .slice A' m.funcs.length c'] 25)
  have hm1 := hm0.keep hc0 (fun _ _ _ => id)
  go_enter Try.func3, Try.ntmps3
  go_wp2_with fail
  refine (own_any _ B _ m (by simp; omega) hm1 hlen).mono fun e w1 h => ?_
  have hb1 : Below _ _ _ := h.choose_spec.choose_spec.choose_spec.choose_spec.2.1
  obtain ⟨v1, rfl, hv1⟩ := h.modR
  have hc1 : Chg (fun _ _ => False) w w1 := hc0.trans (Chg.of_below hb1 _)
  have hbk1 := (Chg.of_below hb1 (fun _ _ => False)).blk hb0 id
  clear hb0 hc0 hm1 hb1
  go_wp2_with fail
  refine (encode_any _ w1.heap.size _ m (Nat.le_refl _) hv1 hlen).mono fun e w2 h => ?_
  obtain ⟨A2, n2, c2, rfl, hb2, how2, hl2⟩ := h
  have hc2 := hc1.trans (Chg.of_below hb2 _)
  have hbk2 := (Chg.of_below hb2 (fun _ _ => False)).blk hbk1 id
  obtain ⟨k0, k1⟩ := hbk2.cells2
  have hm2 := hm0.keep hc2 (fun _ _ _ => id)
  have hsz2 := hc2.size
  clear hv1 hc1 hbk1 hbk2 hb2 hm0
  go_wp2_with fail
  refine (bytes_any _ B _ m (by omega) hm2 hlen).mono fun e w3 h => ?_
  obtain ⟨A3, n3, c3, rfl, hb3, how3, hl3⟩ := h
  have hc3 := hc2.trans (Chg.of_below hb3 _)
  replace how2 := (Chg.of_below hb3 (fun _ _ => False)).own how2 fun _ _ => id
  clear hm2 hsz2 hc2 hb3 k0 k1
  go_wp2_with fail
  refine (answers_any _).mono fun e w4 h => ?_
  obtain ⟨rfl, hb4⟩ := h
  have hc4 := hc3.trans (Chg.of_below hb4 _)
  replace how2 := (Chg.of_below hb4 (fun _ _ => False)).own how2 fun _ _ => id
  replace how3 := (Chg.of_below hb4 (fun _ _ => False)).own how3 fun _ _ => id
  have hs2 := conv_own how2 hl2
  have hs3 := conv_own how3 hl3
  have hbel := hc4.below (B := w.heap.size) (fun _ _ h => h.elim) (Nat.le_refl _)
  clear how2 how3 hl2 hl3 hb4 hc3 hc4
  go_wp2
  go_ret
  exact ⟨rfl, hbel⟩
end Go.Proofs.Ytfmhedpjkpaohaa
