/-
  The walk of the statement HeapTwice.
-/
import Derived.Test.YteigopmdhhgnfaaHLaw
namespace Go.Proofs.Yteigopmdhhgnfaa
open Go.RowKit
set_option linter.unusedVariables false
set_option linter.unusedSimpArgs false

set_option maxRecDepth 100000 in
set_option maxHeartbeats 8000000 in
theorem heapTwice_walk (w : World) (cells : Int) (A : Option Addr) (c : Nat) (l : List HActD) (hl : HActsA w.heap.size w (.slice A l.length c) l) (hn : l.length ≤ 1048576) (RA : Option Addr) (rc : Nat) (roots : List Int) (hr : SlR w.heap.size 0 1 IntZ w (.slice RA roots.length rc) roots) (hI : ∀ r ∈ roots, I64 r) (hrl : roots.length ≤ 1048576) :
    Calls Try.prog 6 #[.int .i64 cells, .slice A l.length c, .slice RA roots.length rc] w fun e w' => e = .returned (.bool true) ∧ Below w.heap.size w w' := by
  have c1 := hgrown_any w w.heap.size (Nat.le_refl _) cells A c l hl hn
  obtain ⟨bud, hbud⟩ : ∃ bud, capC cells = bud := ⟨_, rfl⟩
  obtain ⟨S, hS⟩ : ∃ S, grownS bud l = S := ⟨_, rfl⟩
  rw [hbud, hS] at c1
  have HH := Lib.hid (And.intro hr hI)
  clear hl hbud hS hr hI
  go_enter Try.func6, Try.ntmps6
  go_wp2_with fail
  refine c1.mono fun e w1 hh => ?_
  obtain ⟨p, q, rfl, h2, hc1⟩ := hh
  have H1 := Lib.hid (And.intro h2 hc1)
  clear c1 h2 hc1
  go_wp2_with fail
  refine (answers12_any w1).mono fun e w2 hh => ?_
  obtain ⟨rfl, hc2⟩ := hh
  have H2 := Lib.hid (And.intro (H1.out.1.same hc2) (And.intro (H1.out.2.trans hc2.no) (Nat.le_trans H1.out.2.size hc2.size)))
  clear hc2 H1
  have hgd := H2.out.1.good
  have hS6 : S.length ≤ 65536 := by have := len_le_used S; omega
  obtain ⟨F, hF, _, _⟩ := H2.out.1.right H2.out.2.2
  have c2 := rreach_P hF (slr_ml2 HH.out.1 H2.out.2.1 fun _ _ h => h) hrl
  clear hF
  cases hk : knownO S roots with
  | false =>
    obtain ⟨k1, k2⟩ := coll_none hk
    rw [hk] at c2
    simp only [Bool.false_eq_true, if_false] at c2
    have HK := Lib.hid (And.intro k1 k2)
    clear hk k1 k2 hgd
    go_wp2_with fail
    refine c2.mono fun e w3 hh => ?_
    obtain ⟨zs, A3, c3, rfl, hrow, rfl, hc3⟩ := hh
    have H3 := Lib.hid (And.intro hrow hc3)
    clear c2 hrow hc3
    have h3 := H2.out.1.same H3.out.2
    have hc03 := H2.out.2.1.trans (H3.out.2).no
    have H3a := Lib.hid (And.intro h3 (And.intro hc03 (Nat.le_trans H2.out.2.2 (H3.out.2).size)))
    clear h3 hc03
    go_wp2_with fail
    refine (ints12_any _ w3 roots RA rc (slr_ml2 HH.out.1 H3a.out.2.1 fun _ _ h => h) hrl).mono fun e w4 hh => ?_
    obtain ⟨IA, ic, rfl, hrow, hc4⟩ := hh
    obtain ⟨G, hG, _, hGk⟩ := (H3a.out.1.same hc4).left (Nat.le_trans H3a.out.2.2 hc4.size)
    have c3c := hcoll_P hG ((hrow.slr (by decide) 0).settle fun _ _ h => h) (Nat.le_refl _) HH.out.2 hrl
    rw [HK.out.2, HK.out.1] at c3c
    have H4 := Lib.hid (And.intro hc4 hGk)
    clear hrow hc4 hG hGk
    go_wp2_with fail
    refine c3c.mono fun e w5 hh => ?_
    obtain ⟨rfl, hP⟩ := hh
    obtain ⟨h5, hc5⟩ := H4.out.2 _ _ _ hP
    have HcA := Lib.hid (H4.out.1.no.trans hc5)
    have H5 := Lib.hid (And.intro h5 (And.intro (H3a.out.2.1.trans (H4.out.1.no.trans hc5)) (Nat.le_trans H3a.out.2.2 (Nat.le_trans H4.out.1.size hc5.size))))
    clear c3c hP h5 hc5
    go_wp2_with fail
    refine (ints12_any _ w5 roots RA rc (slr_ml2 HH.out.1 H5.out.2.1 fun _ _ h => h) hrl).mono fun e w6 hh => ?_
    obtain ⟨IA2, ic2, rfl, hrow, hc6⟩ := hh
    obtain ⟨G, hG, _, hGk⟩ := (H5.out.1.same hc6).left (Nat.le_trans H5.out.2.2 hc6.size)
    have c6c := hcoll_P hG ((hrow.slr (by decide) 0).settle fun _ _ h => h) (Nat.le_refl _) HH.out.2 hrl
    rw [HK.out.2, HK.out.1] at c6c
    have H6 := Lib.hid (And.intro hc6 hGk)
    clear hrow hc6 hG hGk
    go_wp2_with fail
    refine c6c.mono fun e w7 hh => ?_
    obtain ⟨rfl, hP⟩ := hh
    obtain ⟨h7, hc7⟩ := H6.out.2 _ _ _ hP
    have HcB := Lib.hid (H6.out.1.no.trans hc7)
    have H7a := Lib.hid (And.intro h7 (And.intro (H5.out.2.1.trans (H6.out.1.no.trans hc7)) (Nat.le_trans H5.out.2.2 (Nat.le_trans H6.out.1.size hc7.size))))
    obtain ⟨G, hG, _, _⟩ := h7.left (Nat.le_trans H5.out.2.2 (Nat.le_trans H6.out.1.size hc7.size))
    have c7 := names_P hG
    clear c6c hP h7 hc7 hG
    go_wp2_with fail
    refine c7.mono fun e w8 hh => ?_
    obtain ⟨NA, nc, rfl, hnr, hc8⟩ := hh
    have H7 := Lib.hid (H7a.out.2.1.trans hc8.no)
    have H8 := Lib.hid (And.intro hnr hc8)
    clear c7 hnr hc8
    go_wp2_with fail
    go_ret
    exact ⟨by simp, below_ml2 H7.out⟩
  | true =>
    obtain ⟨k1, k2, k3, k4⟩ := coll_two hgd.1 hk
    rw [hk] at c2
    simp only [if_true] at c2
    have HK := Lib.hid (And.intro k1 (And.intro k2 (And.intro k3 k4)))
    have hll := live_len S roots
    have hrl2 := reach_len S roots
    clear hk k1 k2 k3 k4 hgd
    go_wp2_with fail
    refine c2.mono fun e w3 hh => ?_
    obtain ⟨zs, A3, c3, rfl, hrow, hz, hc3⟩ := hh
    have H3 := Lib.hid (And.intro hrow (And.intro hc3 hz))
    have hzl : zs.length = (liveO S roots).length := by rw [hz, hrl2]
    clear c2 hrow hc3 hz hrl2
    have h3 := H2.out.1.same H3.out.2.1
    have hc03 := H2.out.2.1.trans (H3.out.2.1).no
    have H3a := Lib.hid (And.intro h3 (And.intro hc03 (Nat.le_trans H2.out.2.2 (H3.out.2.1).size)))
    clear h3 hc03
    go_wp2_with fail
    refine (ints12_any _ w3 roots RA rc (slr_ml2 HH.out.1 H3a.out.2.1 fun _ _ h => h) hrl).mono fun e w4 hh => ?_
    obtain ⟨IA, ic, rfl, hrow, hc4⟩ := hh
    obtain ⟨G, hG, _, hGk⟩ := (H3a.out.1.same hc4).left (Nat.le_trans H3a.out.2.2 hc4.size)
    have c3c := hcoll_P hG ((hrow.slr (by decide) 0).settle fun _ _ h => h) (Nat.le_refl _) HH.out.2 hrl
    rw [HK.out.2.1, HK.out.1] at c3c
    have H4 := Lib.hid (And.intro hc4 hGk)
    clear hrow hc4 hG hGk
    go_wp2_with fail
    refine c3c.mono fun e w5 hh => ?_
    obtain ⟨rfl, hP⟩ := hh
    obtain ⟨h5, hc5⟩ := H4.out.2 _ _ _ hP
    have HcA := Lib.hid (H4.out.1.no.trans hc5)
    have H5 := Lib.hid (And.intro h5 (And.intro (H3a.out.2.1.trans (H4.out.1.no.trans hc5)) (Nat.le_trans H3a.out.2.2 (Nat.le_trans H4.out.1.size hc5.size))))
    clear c3c hP h5 hc5
    go_wp2_with fail
    refine (ints12_any _ w5 roots RA rc (slr_ml2 HH.out.1 H5.out.2.1 fun _ _ h => h) hrl).mono fun e w6 hh => ?_
    obtain ⟨IA2, ic2, rfl, hrow, hc6⟩ := hh
    obtain ⟨G, hG, _, hGk⟩ := (H5.out.1.same hc6).left (Nat.le_trans H5.out.2.2 hc6.size)
    have c6c := hcoll_P hG ((hrow.slr (by decide) 0).settle fun _ _ h => h) (Nat.le_refl _) HH.out.2 hrl
    rw [HK.out.2.2.2, HK.out.2.2.1] at c6c
    have H6 := Lib.hid (And.intro hc6 hGk)
    clear hrow hc6 hG hGk
    go_wp2_with fail
    refine c6c.mono fun e w7 hh => ?_
    obtain ⟨rfl, hP⟩ := hh
    obtain ⟨h7, hc7⟩ := H6.out.2 _ _ _ hP
    have HcB := Lib.hid (H6.out.1.no.trans hc7)
    have H7a := Lib.hid (And.intro h7 (And.intro (H5.out.2.1.trans (H6.out.1.no.trans hc7)) (Nat.le_trans H5.out.2.2 (Nat.le_trans H6.out.1.size hc7.size))))
    obtain ⟨G, hG, _, _⟩ := h7.left (Nat.le_trans H5.out.2.2 (Nat.le_trans H6.out.1.size hc7.size))
    have c7 := names_P hG
    clear c6c hP h7 hc7 hG
    go_wp2_with fail
    refine c7.mono fun e w8 hh => ?_
    obtain ⟨NA, nc, rfl, hnr, hc8⟩ := hh
    have H7 := Lib.hid (H7a.out.2.1.trans hc8.no)
    have H8 := Lib.hid (And.intro hnr hc8)
    clear c7 hnr hc8
    have h9 := H7a.out.1.same H8.out.2
    obtain ⟨F, ⟨LA, lc, hR⟩, _, _⟩ := h9.right (Nat.le_trans H7a.out.2.2 H8.out.2.size)
    have y0 : w8.cell? ⟨q, 0, none⟩ = some (.slice LA S.length lc) := by simpa using hR.blk.cell 0
    have qd : IntKind.i64.wrap ((S.length : Int) - (zs.length : Int)) = ((S.length - (liveO S roots).length : Nat) : Int) := by
      rw [hzl, show (S.length : Int) - ((liveO S roots).length : Int) = ((S.length - (liveO S roots).length : Nat) : Int) by omega]
      exact IntWalk.i64_in _ ⟨by omega, by omega⟩
    have hz := H3.out.2.2
    have hrow3 : RowR w2.heap.size 3 1 IntZ w8 A3 c3 zs := H3.out.1.keep1 (HcA.out.trans (HcB.out.trans H8.out.2.no)) (fun _ _ => ML2_no (by decide)) fun _ _ h => h
    have hn8 : RowR w7.heap.size 3 1 IntZ w8 NA nc (reachL S roots) := H8.out.1
    rw [hz] at hrow3
    have c9 := sameI12 _ _ w8 NA A3 nc c3 (reachL S roots) ((hn8.slr (by decide) 0).settle fun _ _ h => h) ((hrow3.slr (by decide) 0).settle fun _ _ h => h) (by rw [reach_len]; omega)
    rw [reach_len] at c9
    clear h9 hR hrow3 hn8 hz
    go_wp2_with fail
    refine c9.mono fun e w9 hh => ?_
    obtain ⟨rfl, hc9⟩ := hh
    have H9 := Lib.hid (H7.out.trans hc9.no)
    clear c9 hc9
    go_wp2_with fail
    go_ret
    exact ⟨by simp, below_ml2 H9.out⟩
end Go.Proofs.Yteigopmdhhgnfaa
