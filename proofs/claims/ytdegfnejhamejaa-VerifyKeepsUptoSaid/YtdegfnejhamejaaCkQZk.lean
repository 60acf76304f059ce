/-
  The checker's instructions 1, 20 and 25: their steps draw their order.
-/
import Derived.Test.YtdegfnejhamejaaCkMZk
import Derived.Test.YtdegfnejhamejaaHeldGZk
namespace Go.Proofs.Ytdegfnejhamejaa
open Go.RowKit
set_option linter.unusedVariables false
set_option linter.unusedSimpArgs false

set_option maxRecDepth 100000 in
set_option maxHeartbeats 4000000 in
theorem calls_20 (h : Hd) (k : Nat) (w : World) (s : VSt) (xa xb : Int) (xn : Nat) (cs : List CaseD) (A : Option Addr) (c : Nat) (H : CkI h (k + 1100) w s) (HV : StV h.m s.stack) :
    Calls Try.prog 55 #[.pointer (some ⟨h.p, 0, none⟩), instrV ⟨20, xa, xb, xn, cs⟩ A c] w (OutO h k w ((op20 h.m ⟨20, xa, xb, xn, cs⟩ s).map (true, ·))) := by
  have hm := Mid.start ⟨20, xa, xb, xn, cs⟩ A c (H.less (show k + 1026 ≤ k + 1100 by omega)) HV
  obtain ⟨z0, z1, z2, z3, z4⟩ := hm.cells
  have M := Lib.hid hm
  clear hm H HV
  unfold instrV
  go_enter Try.func55, Try.ntmps55
  go_wp2_with fail
  refine (mid_fields (k := k + 1026) true true false M.out).mono fun e v0 hh => ?_
  rcases hq : fieldsN ⟨20, xa, xb, xn, cs⟩ true true false s with _ | s0
  · obtain ⟨rfl, hc⟩ := hh.none_ hq
    have EB := Lib.hid hq
    have CB := Lib.hid hc
    clear hh hq hc
    go_wp2_with fail
    exact ⟨rfl, OutO.bad CB.out (by simp only [op20, inB, Option.bind_some, Option.bind_none, Option.map_some, Option.map_none, Bool.true_and, Bool.false_and, Bool.and_true, Bool.and_false, Bool.false_or, Bool.true_or, Bool.or_false, Bool.or_true, if_false, if_true, EB.out])⟩
  · obtain ⟨rfl, hm⟩ := hh.some_ hq
    clear z0 z1 z2 z3 z4
    obtain ⟨z0, z1, z2, z3, z4⟩ := hm.cells
    have E0 := Lib.hid hq
    have M0 := Lib.hid hm
    clear hh hq hm
    have d1 := M0.out.fix.d1
    cases hb : decide (0 ≤ xa)
    · have E2 := Lib.hid hb
      go_wp2_with fail
      refine wp_region_still_tail 15 (by kernel_rfl) (by kernel_rfl) ?_
      simp only [List.take_succ_cons, List.take_zero, List.drop_succ_cons, List.drop_zero]
      repeat (with_reducible refine wpStill_step (fun K hK => ?_); go_simp; with_reducible refine hK _ ?_; clear hK K)
      try with_reducible refine wpStill_nil ?_
      have hdr := (Chg.refl (fun _ _ => False) (v0)).drew
      have hm := M0.out.same hdr
      clear z0 z1 z2 z3 z4
      obtain ⟨z0, z1, z2, z3, z4⟩ := hm.cells
      have M0d := Lib.hid hm
      have HDR := Lib.hid hdr
      clear hm hdr d1
      change wpList _ _ _ _ _ (World.drew (v0))
      generalize World.drew (v0) = v0d at z0 z1 z2 z3 z4 M0d HDR ⊢
      go_wp2_with fail
      refine (mid_need false M0d.out).mono fun e v3 hh => ?_
      obtain ⟨rfl, hc⟩ := hh.none_ rfl
      have CB := Lib.hid hc
      clear hh hc
      go_wp2_with fail
      exact ⟨rfl, OutO.bad CB.out (by simp only [op20, inB, Option.bind_some, Option.bind_none, Option.map_some, Option.map_none, Bool.true_and, Bool.false_and, Bool.and_true, Bool.and_false, Bool.false_or, Bool.true_or, Bool.or_false, Bool.or_true, if_false, if_true, E0.out, E2.out, needN_false])⟩
    · have E2 := Lib.hid hb
      go_wp2_with fail
      refine wp_region_still_tail 15 (by kernel_rfl) (by kernel_rfl) ?_
      simp only [List.take_succ_cons, List.take_zero, List.drop_succ_cons, List.drop_zero]
      repeat (with_reducible refine wpStill_step (fun K hK => ?_); go_simp; with_reducible refine hK _ ?_; clear hK K)
      try with_reducible refine wpStill_nil ?_
      have hdr := (Chg.refl (fun _ _ => False) (v0)).drew
      have hm := M0.out.same hdr
      clear z0 z1 z2 z3 z4
      obtain ⟨z0, z1, z2, z3, z4⟩ := hm.cells
      have M0d := Lib.hid hm
      have HDR := Lib.hid hdr
      clear hm hdr d1
      change wpList _ _ _ _ _ (World.drew (v0))
      generalize World.drew (v0) = v0d at z0 z1 z2 z3 z4 M0d HDR ⊢
      go_wp2_with fail
      refine (mid_need (decide (xa < (h.m.funcs.length : Int))) M0d.out).mono fun e v4 hh => ?_
      rcases hq : needN (decide (xa < (h.m.funcs.length : Int))) s0 with _ | s4
      · obtain ⟨rfl, hc⟩ := hh.none_ hq
        have EB := Lib.hid hq
        have CB := Lib.hid hc
        clear hh hq hc
        go_wp2_with fail
        exact ⟨rfl, OutO.bad CB.out (by simp only [op20, inB, Option.bind_some, Option.bind_none, Option.map_some, Option.map_none, Bool.true_and, Bool.false_and, Bool.and_true, Bool.and_false, Bool.false_or, Bool.true_or, Bool.or_false, Bool.or_true, if_false, if_true, E0.out, E2.out, EB.out])⟩
      · obtain ⟨rfl, hm⟩ := hh.some_ hq
        clear z0 z1 z2 z3 z4
        obtain ⟨z0, z1, z2, z3, z4⟩ := hm.cells
        have E4 := Lib.hid hq
        have M4 := Lib.hid hm
        clear hh hq hm
        go_wp2_with fail
        refine (mid_is xb 11 M4.out).mono fun e v5 hh => ?_
        rcases hq : isKN h.m.types xb 11 s4 with _ | s5
        · obtain ⟨rfl, hc⟩ := hh.none_ hq
          have EB := Lib.hid hq
          have CB := Lib.hid hc
          clear hh hq hc
          go_wp2_with fail
          exact ⟨rfl, OutO.bad CB.out (by simp only [op20, inB, Option.bind_some, Option.bind_none, Option.map_some, Option.map_none, Bool.true_and, Bool.false_and, Bool.and_true, Bool.and_false, Bool.false_or, Bool.true_or, Bool.or_false, Bool.or_true, if_false, if_true, E0.out, E2.out, E4.out, EB.out])⟩
        · obtain ⟨rfl, hm⟩ := hh.some_ hq
          clear z0 z1 z2 z3 z4
          obtain ⟨z0, z1, z2, z3, z4⟩ := hm.cells
          have E5 := Lib.hid hq
          have M5 := Lib.hid hm
          clear hh hq hm
          have hx0 := of_decide_eq_true E2.out
          have hx1 := of_decide_eq_true (needN_some E4.out).1
          obtain ⟨n, rfl⟩ : ∃ n : Nat, xa = (n : Int) := ⟨xa.toNat, by omega⟩
          have hF := M5.out.fix
          obtain ⟨fb, fo, G, F1, f1, F2, f2, F3, f3, hA2, hG, hpI, hrI, hlo, hca, hco, g0, g1, g2, g3, g4⟩ := hF.mod.funcs.at_ (k := n) (by omega)
          have d1 := hF.d1
          rw [hA2] at d1
          have hff := formed_func hF.mod.formed (List.mem_of_getElem? hG)
          obtain ⟨pn, hpn⟩ : ∃ pn : Nat, G.params = (pn : Int) := ⟨G.params.toNat, by have := hff.2.2.2.2.1; omega⟩
          rw [hpn] at g0
          have hlc := hlo.len
          have hpl : pn ≤ G.locals.length := by have := hff.2.2.2.2.2.1; omega
          have p1 : (n : Int) < (h.m.funcs.length : Int) := by omega
          have p2 : n < h.m.funcs.length := by omega
          have hGN : funN h.m (n : Int) = some G := by unfold funN; rw [Int.toNat_natCast]; exact hG
          have hPN : parN G = G.locals.take pn := by unfold parN; rw [hpn, Int.toNat_natCast]
          have hvs := is_valid E5.out (by decide)
          obtain ⟨nb, rfl⟩ : ∃ nb : Nat, xb = (nb : Int) := ⟨xb.toNat, by have := hvs.1; omega⟩
          obtain ⟨tb, to, TA, tc, hA, hl, _, _, hcell⟩ := hF.mod.shape hvs
          obtain ⟨e0, e1, e2⟩ := hcell _ _ (Chg.refl (fun _ _ => False) _) (fun _ _ _ h => h)
          have d0 := hF.d0
          rw [hA] at d0
          have q1 : (nb : Int) < (h.m.types.length : Int) := hvs.2
          have q2 : nb < h.m.types.length := by omega
          rw [Int.toNat_natCast] at e0 e1 e2
          have HG := Lib.hid (And.intro hGN (And.intro hPN (And.intro hlo (And.intro hca (And.intro hl (And.intro hvs hff))))))
          clear hGN hPN hlo hca hl hvs hff hpI hrI hco hA hA2 hG hF hcell hx0 hx1 hpn
          go_wp2_with fail
          refine wp_region_G (S := (fun w' => Chg (fun _ _ => False) v5 w')) 21 (by kernel_rfl) (Chg.refl _ _).drew (fun hHeld => ?_)
          refine wpAnyG_take (i := 0) (v := ?va22) rfl (by kernel_rfl) (fun _ _ _ h => h) (Or.inl ⟨by rfl, ?hy22⟩) (by assumption) ?ra22
          case hy22 => (intro w hSw; (try dsimp only at hSw); have d0 := hSw.cell d0 (fun _ => id); have d1 := hSw.cell d1 (fun _ => id); have z1 := hSw.cell z1 (fun _ => id); have z2 := hSw.cell z2 (fun _ => id); have g0 := hSw.cell g0 (fun _ => id); have g1 := hSw.cell g1 (fun _ => id); have g2 := hSw.cell g2 (fun _ => id); have g3 := hSw.cell g3 (fun _ => id); have g4 := hSw.cell g4 (fun _ => id); have e0 := hSw.cell e0 (fun _ => id); have e1 := hSw.cell e1 (fun _ => id); have e2 := hSw.cell e2 (fun _ => id); clear hSw; go_simp; all_goals (with_reducible rfl))
          simp only [Act.put, List.setIfInBounds_toArray, List.set_cons_zero, List.set_cons_succ]
          refine wpAnyG_take (i := 1) (v := ?va23) rfl (by kernel_rfl) (fun _ _ _ h => h) (Or.inl ⟨by rfl, ?hy23⟩) (by assumption) ?ra23
          case hy23 => (intro w hSw; (try dsimp only at hSw); have d0 := hSw.cell d0 (fun _ => id); have d1 := hSw.cell d1 (fun _ => id); have z1 := hSw.cell z1 (fun _ => id); have z2 := hSw.cell z2 (fun _ => id); have g0 := hSw.cell g0 (fun _ => id); have g1 := hSw.cell g1 (fun _ => id); have g2 := hSw.cell g2 (fun _ => id); have g3 := hSw.cell g3 (fun _ => id); have g4 := hSw.cell g4 (fun _ => id); have e0 := hSw.cell e0 (fun _ => id); have e1 := hSw.cell e1 (fun _ => id); have e2 := hSw.cell e2 (fun _ => id); clear hSw; go_simp; all_goals (with_reducible rfl))
          simp only [Act.put, List.setIfInBounds_toArray, List.set_cons_zero, List.set_cons_succ]
          refine wpAnyG_take (i := 2) (v := ?va24) rfl (by kernel_rfl) (fun _ _ _ h => h) (Or.inl ⟨by rfl, ?hy24⟩) (by assumption) ?ra24
          case hy24 => (intro w hSw; (try dsimp only at hSw); have d0 := hSw.cell d0 (fun _ => id); have d1 := hSw.cell d1 (fun _ => id); have z1 := hSw.cell z1 (fun _ => id); have z2 := hSw.cell z2 (fun _ => id); have g0 := hSw.cell g0 (fun _ => id); have g1 := hSw.cell g1 (fun _ => id); have g2 := hSw.cell g2 (fun _ => id); have g3 := hSw.cell g3 (fun _ => id); have g4 := hSw.cell g4 (fun _ => id); have e0 := hSw.cell e0 (fun _ => id); have e1 := hSw.cell e1 (fun _ => id); have e2 := hSw.cell e2 (fun _ => id); clear hSw; go_simp; all_goals (with_reducible rfl))
          simp only [Act.put, List.setIfInBounds_toArray, List.set_cons_zero, List.set_cons_succ]
          refine wpAnyG_take (i := 3) (v := ?va25) rfl (by kernel_rfl) (fun _ _ _ h => h) (Or.inl ⟨by rfl, ?hy25⟩) (by assumption) ?ra25
          case hy25 => (intro w hSw; (try dsimp only at hSw); have d0 := hSw.cell d0 (fun _ => id); have d1 := hSw.cell d1 (fun _ => id); have z1 := hSw.cell z1 (fun _ => id); have z2 := hSw.cell z2 (fun _ => id); have g0 := hSw.cell g0 (fun _ => id); have g1 := hSw.cell g1 (fun _ => id); have g2 := hSw.cell g2 (fun _ => id); have g3 := hSw.cell g3 (fun _ => id); have g4 := hSw.cell g4 (fun _ => id); have e0 := hSw.cell e0 (fun _ => id); have e1 := hSw.cell e1 (fun _ => id); have e2 := hSw.cell e2 (fun _ => id); clear hSw; go_simp; all_goals (with_reducible rfl))
          simp only [Act.put, List.setIfInBounds_toArray, List.set_cons_zero, List.set_cons_succ]
          refine wpAnyG_take (i := 4) (v := ?va26) rfl (by kernel_rfl) (fun _ _ _ h => h) (Or.inl ⟨by rfl, ?hy26⟩) (by assumption) ?ra26
          case hy26 => (intro w hSw; (try dsimp only at hSw); have d0 := hSw.cell d0 (fun _ => id); have d1 := hSw.cell d1 (fun _ => id); have z1 := hSw.cell z1 (fun _ => id); have z2 := hSw.cell z2 (fun _ => id); have g0 := hSw.cell g0 (fun _ => id); have g1 := hSw.cell g1 (fun _ => id); have g2 := hSw.cell g2 (fun _ => id); have g3 := hSw.cell g3 (fun _ => id); have g4 := hSw.cell g4 (fun _ => id); have e0 := hSw.cell e0 (fun _ => id); have e1 := hSw.cell e1 (fun _ => id); have e2 := hSw.cell e2 (fun _ => id); clear hSw; go_simp; all_goals (with_reducible rfl))
          simp only [Act.put, List.setIfInBounds_toArray, List.set_cons_zero, List.set_cons_succ]
          refine wpAnyG_take (i := 5) (v := ?va27) rfl (by kernel_rfl) (fun _ _ _ h => h) (Or.inl ⟨by rfl, ?hy27⟩) (by assumption) ?ra27
          case hy27 => (intro w hSw; (try dsimp only at hSw); have d0 := hSw.cell d0 (fun _ => id); have d1 := hSw.cell d1 (fun _ => id); have z1 := hSw.cell z1 (fun _ => id); have z2 := hSw.cell z2 (fun _ => id); have g0 := hSw.cell g0 (fun _ => id); have g1 := hSw.cell g1 (fun _ => id); have g2 := hSw.cell g2 (fun _ => id); have g3 := hSw.cell g3 (fun _ => id); have g4 := hSw.cell g4 (fun _ => id); have e0 := hSw.cell e0 (fun _ => id); have e1 := hSw.cell e1 (fun _ => id); have e2 := hSw.cell e2 (fun _ => id); clear hSw; go_simp; all_goals (with_reducible rfl))
          simp only [Act.put, List.setIfInBounds_toArray, List.set_cons_zero, List.set_cons_succ]
          refine wpAnyG_take (i := 6) (v := ?va28) rfl (by kernel_rfl) (fun _ _ _ h => h) (Or.inl ⟨by rfl, ?hy28⟩) (by assumption) ?ra28
          case hy28 => (intro w hSw; (try dsimp only at hSw); have d0 := hSw.cell d0 (fun _ => id); have d1 := hSw.cell d1 (fun _ => id); have z1 := hSw.cell z1 (fun _ => id); have z2 := hSw.cell z2 (fun _ => id); have g0 := hSw.cell g0 (fun _ => id); have g1 := hSw.cell g1 (fun _ => id); have g2 := hSw.cell g2 (fun _ => id); have g3 := hSw.cell g3 (fun _ => id); have g4 := hSw.cell g4 (fun _ => id); have e0 := hSw.cell e0 (fun _ => id); have e1 := hSw.cell e1 (fun _ => id); have e2 := hSw.cell e2 (fun _ => id); clear hSw; go_simp; all_goals (with_reducible rfl))
          simp only [Act.put, List.setIfInBounds_toArray, List.set_cons_zero, List.set_cons_succ]
          refine wpAnyG_take (i := 7) (v := ?va29) rfl (by kernel_rfl) (fun _ _ _ h => h) (Or.inl ⟨by rfl, ?hy29⟩) (by assumption) ?ra29
          case hy29 => (intro w hSw; (try dsimp only at hSw); have d0 := hSw.cell d0 (fun _ => id); have d1 := hSw.cell d1 (fun _ => id); have z1 := hSw.cell z1 (fun _ => id); have z2 := hSw.cell z2 (fun _ => id); have g0 := hSw.cell g0 (fun _ => id); have g1 := hSw.cell g1 (fun _ => id); have g2 := hSw.cell g2 (fun _ => id); have g3 := hSw.cell g3 (fun _ => id); have g4 := hSw.cell g4 (fun _ => id); have e0 := hSw.cell e0 (fun _ => id); have e1 := hSw.cell e1 (fun _ => id); have e2 := hSw.cell e2 (fun _ => id); clear hSw; go_simp; all_goals (with_reducible rfl))
          simp only [Act.put, List.setIfInBounds_toArray, List.set_cons_zero, List.set_cons_succ]
          refine wpAnyG_take (i := 8) (v := ?va30) rfl (by kernel_rfl) (fun _ _ _ h => h) (Or.inl ⟨by rfl, ?hy30⟩) (by assumption) ?ra30
          case hy30 => (intro w hSw; (try dsimp only at hSw); have d0 := hSw.cell d0 (fun _ => id); have d1 := hSw.cell d1 (fun _ => id); have z1 := hSw.cell z1 (fun _ => id); have z2 := hSw.cell z2 (fun _ => id); have g0 := hSw.cell g0 (fun _ => id); have g1 := hSw.cell g1 (fun _ => id); have g2 := hSw.cell g2 (fun _ => id); have g3 := hSw.cell g3 (fun _ => id); have g4 := hSw.cell g4 (fun _ => id); have e0 := hSw.cell e0 (fun _ => id); have e1 := hSw.cell e1 (fun _ => id); have e2 := hSw.cell e2 (fun _ => id); clear hSw; go_simp; all_goals (with_reducible rfl))
          simp only [Act.put, List.setIfInBounds_toArray, List.set_cons_zero, List.set_cons_succ]
          refine wpAnyG_take (i := 9) (v := ?va31) rfl (by kernel_rfl) (fun _ _ _ h => h) (Or.inl ⟨by rfl, ?hy31⟩) (by assumption) ?ra31
          case hy31 => (intro w hSw; (try dsimp only at hSw); have d0 := hSw.cell d0 (fun _ => id); have d1 := hSw.cell d1 (fun _ => id); have z1 := hSw.cell z1 (fun _ => id); have z2 := hSw.cell z2 (fun _ => id); have g0 := hSw.cell g0 (fun _ => id); have g1 := hSw.cell g1 (fun _ => id); have g2 := hSw.cell g2 (fun _ => id); have g3 := hSw.cell g3 (fun _ => id); have g4 := hSw.cell g4 (fun _ => id); have e0 := hSw.cell e0 (fun _ => id); have e1 := hSw.cell e1 (fun _ => id); have e2 := hSw.cell e2 (fun _ => id); clear hSw; go_simp; all_goals (with_reducible rfl))
          simp only [Act.put, List.setIfInBounds_toArray, List.set_cons_zero, List.set_cons_succ]
          refine wpAnyG_take (i := 10) (v := ?va32) rfl (by kernel_rfl) (fun _ _ _ h => h) (Or.inl ⟨by rfl, ?hy32⟩) (by assumption) ?ra32
          case hy32 => (intro w hSw; (try dsimp only at hSw); have d0 := hSw.cell d0 (fun _ => id); have d1 := hSw.cell d1 (fun _ => id); have z1 := hSw.cell z1 (fun _ => id); have z2 := hSw.cell z2 (fun _ => id); have g0 := hSw.cell g0 (fun _ => id); have g1 := hSw.cell g1 (fun _ => id); have g2 := hSw.cell g2 (fun _ => id); have g3 := hSw.cell g3 (fun _ => id); have g4 := hSw.cell g4 (fun _ => id); have e0 := hSw.cell e0 (fun _ => id); have e1 := hSw.cell e1 (fun _ => id); have e2 := hSw.cell e2 (fun _ => id); clear hSw; go_simp; all_goals (with_reducible rfl))
          simp only [Act.put, List.setIfInBounds_toArray, List.set_cons_zero, List.set_cons_succ]
          refine wpAnyG_take (i := 11) (v := ?va33) rfl (by kernel_rfl) (fun _ _ _ h => h) (Or.inl ⟨by rfl, ?hy33⟩) (by assumption) ?ra33
          case hy33 => (intro w hSw; (try dsimp only at hSw); have d0 := hSw.cell d0 (fun _ => id); have d1 := hSw.cell d1 (fun _ => id); have z1 := hSw.cell z1 (fun _ => id); have z2 := hSw.cell z2 (fun _ => id); have g0 := hSw.cell g0 (fun _ => id); have g1 := hSw.cell g1 (fun _ => id); have g2 := hSw.cell g2 (fun _ => id); have g3 := hSw.cell g3 (fun _ => id); have g4 := hSw.cell g4 (fun _ => id); have e0 := hSw.cell e0 (fun _ => id); have e1 := hSw.cell e1 (fun _ => id); have e2 := hSw.cell e2 (fun _ => id); clear hSw; go_simp; all_goals (with_reducible rfl))
          simp only [Act.put, List.setIfInBounds_toArray, List.set_cons_zero, List.set_cons_succ]
          refine wpAnyG_take (i := 12) (v := ?va34) rfl (by kernel_rfl) (fun _ _ _ h => h) (Or.inl ⟨by rfl, ?hy34⟩) (by assumption) ?ra34
          case hy34 => (intro w hSw; (try dsimp only at hSw); have d0 := hSw.cell d0 (fun _ => id); have d1 := hSw.cell d1 (fun _ => id); have z1 := hSw.cell z1 (fun _ => id); have z2 := hSw.cell z2 (fun _ => id); have g0 := hSw.cell g0 (fun _ => id); have g1 := hSw.cell g1 (fun _ => id); have g2 := hSw.cell g2 (fun _ => id); have g3 := hSw.cell g3 (fun _ => id); have g4 := hSw.cell g4 (fun _ => id); have e0 := hSw.cell e0 (fun _ => id); have e1 := hSw.cell e1 (fun _ => id); have e2 := hSw.cell e2 (fun _ => id); clear hSw; go_simp; all_goals (with_reducible rfl))
          simp only [Act.put, List.setIfInBounds_toArray, List.set_cons_zero, List.set_cons_succ]
          refine wpAnyG_take (i := 13) (v := ?va35) rfl (by kernel_rfl) (fun _ _ _ h => h) (Or.inl ⟨by rfl, ?hy35⟩) (by assumption) ?ra35
          case hy35 => (intro w hSw; (try dsimp only at hSw); have d0 := hSw.cell d0 (fun _ => id); have d1 := hSw.cell d1 (fun _ => id); have z1 := hSw.cell z1 (fun _ => id); have z2 := hSw.cell z2 (fun _ => id); have g0 := hSw.cell g0 (fun _ => id); have g1 := hSw.cell g1 (fun _ => id); have g2 := hSw.cell g2 (fun _ => id); have g3 := hSw.cell g3 (fun _ => id); have g4 := hSw.cell g4 (fun _ => id); have e0 := hSw.cell e0 (fun _ => id); have e1 := hSw.cell e1 (fun _ => id); have e2 := hSw.cell e2 (fun _ => id); clear hSw; go_simp; all_goals (with_reducible rfl))
          simp only [Act.put, List.setIfInBounds_toArray, List.set_cons_zero, List.set_cons_succ]
          refine wpAnyG_take (i := 14) (v := ?va36) rfl (by kernel_rfl) (fun _ _ _ h => h) (Or.inl ⟨by rfl, ?hy36⟩) (by assumption) ?ra36
          case hy36 => (intro w hSw; (try dsimp only at hSw); have d0 := hSw.cell d0 (fun _ => id); have d1 := hSw.cell d1 (fun _ => id); have z1 := hSw.cell z1 (fun _ => id); have z2 := hSw.cell z2 (fun _ => id); have g0 := hSw.cell g0 (fun _ => id); have g1 := hSw.cell g1 (fun _ => id); have g2 := hSw.cell g2 (fun _ => id); have g3 := hSw.cell g3 (fun _ => id); have g4 := hSw.cell g4 (fun _ => id); have e0 := hSw.cell e0 (fun _ => id); have e1 := hSw.cell e1 (fun _ => id); have e2 := hSw.cell e2 (fun _ => id); clear hSw; go_simp; all_goals (with_reducible rfl))
          simp only [Act.put, List.setIfInBounds_toArray, List.set_cons_zero, List.set_cons_succ]
          refine wpAnyG_take (i := 15) (v := ?va37) rfl (by kernel_rfl) (fun _ _ _ h => h) (Or.inl ⟨by rfl, ?hy37⟩) (by assumption) ?ra37
          case hy37 => (intro w hSw; (try dsimp only at hSw); have d0 := hSw.cell d0 (fun _ => id); have d1 := hSw.cell d1 (fun _ => id); have z1 := hSw.cell z1 (fun _ => id); have z2 := hSw.cell z2 (fun _ => id); have g0 := hSw.cell g0 (fun _ => id); have g1 := hSw.cell g1 (fun _ => id); have g2 := hSw.cell g2 (fun _ => id); have g3 := hSw.cell g3 (fun _ => id); have g4 := hSw.cell g4 (fun _ => id); have e0 := hSw.cell e0 (fun _ => id); have e1 := hSw.cell e1 (fun _ => id); have e2 := hSw.cell e2 (fun _ => id); clear hSw; go_simp; all_goals (with_reducible rfl))
          simp only [Act.put, List.setIfInBounds_toArray, List.set_cons_zero, List.set_cons_succ]
          refine wpAnyG_take (i := 16) (v := ?va38) rfl (by kernel_rfl) (fun _ _ _ h => h) (Or.inl ⟨by rfl, ?hy38⟩) (by assumption) ?ra38
          case hy38 => (intro w hSw; (try dsimp only at hSw); have d0 := hSw.cell d0 (fun _ => id); have d1 := hSw.cell d1 (fun _ => id); have z1 := hSw.cell z1 (fun _ => id); have z2 := hSw.cell z2 (fun _ => id); have g0 := hSw.cell g0 (fun _ => id); have g1 := hSw.cell g1 (fun _ => id); have g2 := hSw.cell g2 (fun _ => id); have g3 := hSw.cell g3 (fun _ => id); have g4 := hSw.cell g4 (fun _ => id); have e0 := hSw.cell e0 (fun _ => id); have e1 := hSw.cell e1 (fun _ => id); have e2 := hSw.cell e2 (fun _ => id); clear hSw; go_simp; all_goals (with_reducible rfl))
          simp only [Act.put, List.setIfInBounds_toArray, List.set_cons_zero, List.set_cons_succ]
          refine wpAnyG_take (i := 17) (v := ?va39) rfl (by kernel_rfl) (fun _ _ _ h => h) (Or.inl ⟨by rfl, ?hy39⟩) (by assumption) ?ra39
          case hy39 => (intro w hSw; (try dsimp only at hSw); have d0 := hSw.cell d0 (fun _ => id); have d1 := hSw.cell d1 (fun _ => id); have z1 := hSw.cell z1 (fun _ => id); have z2 := hSw.cell z2 (fun _ => id); have g0 := hSw.cell g0 (fun _ => id); have g1 := hSw.cell g1 (fun _ => id); have g2 := hSw.cell g2 (fun _ => id); have g3 := hSw.cell g3 (fun _ => id); have g4 := hSw.cell g4 (fun _ => id); have e0 := hSw.cell e0 (fun _ => id); have e1 := hSw.cell e1 (fun _ => id); have e2 := hSw.cell e2 (fun _ => id); clear hSw; go_simp; all_goals (with_reducible rfl))
          simp only [Act.put, List.setIfInBounds_toArray, List.set_cons_zero, List.set_cons_succ]
          refine wpAnyG_ready (rs := [18, 19]) (by kernel_rfl) (by simp) ?_
          refine AllReadyG.cons rfl (fun K hK => ?_) (AllReadyG.cons rfl (fun K hK => ?_) AllReadyG.nil)
          · go_simp
            refine hK.out _ _ (hHeld.alloc _) (fun hHeld => ?_)
            clear hK K
            try simp only [Act.put, List.setIfInBounds_toArray, List.set_cons_zero, List.set_cons_succ]
            refine wpAnyG_ready (rs := [19]) (by kernel_rfl) (by simp) ?_
            refine AllReadyG.cons rfl (fun K hK => ?_) AllReadyG.nil
            go_simp
            refine hK.out _ _ (hHeld.alloc _) (fun hHeld => ?_)
            clear hK K
            try simp only [Act.put, List.setIfInBounds_toArray, List.set_cons_zero, List.set_cons_succ]
            refine wpAnyG_ready (rs := [20]) (by kernel_rfl) (by simp) ?_
            refine AllReadyG.cons rfl (fun K hK => ?_) AllReadyG.nil
            go_simp
            refine hK.out _ _ ((chg_alloc v5 (.cells #[.int .i64 (pn : Int), .slice F1 G.locals.length f1, .slice F2 G.caps.length f2, .int .i64 G.res, .slice F3 G.code.length f3] 34)).alloc _).drew (fun hHeld => ?_)
            clear hK K
            try simp only [Act.put, List.setIfInBounds_toArray, List.set_cons_zero, List.set_cons_succ]
            refine wpAnyG_last rfl (by kernel_rfl) (by kernel_rfl) (fun K hK => ?_)
            go_simp
            refine hK.out _ _ ?_
            clear hK K
            try simp only [Act.put, List.setIfInBounds_toArray, List.set_cons_zero, List.set_cons_succ]
            clear hHeld
            have ha := ((Blk.new v5 34 #[.int .i64 (pn : Int), .slice F1 G.locals.length f1, .slice F2 G.caps.length f2, .int .i64 G.res, .slice F3 G.code.length f3]).alloc (.cells #[.int .i64 (kindN h.m.types (nb : Int)), .slice TA (listN h.m.types (nb : Int)).length tc, .int .i64 (resN h.m.types (nb : Int))] 37)).drew
            have hb := (Blk.new (v5.alloc (.cells #[.int .i64 (pn : Int), .slice F1 G.locals.length f1, .slice F2 G.caps.length f2, .int .i64 G.res, .slice F3 G.code.length f3] 34)) 37 #[.int .i64 (kindN h.m.types (nb : Int)), .slice TA (listN h.m.types (nb : Int)).length tc, .int .i64 (resN h.m.types (nb : Int))]).drew
            rw [World.size_alloc] at hb
            have hch := ((chg_alloc v5 (.cells #[.int .i64 (pn : Int), .slice F1 G.locals.length f1, .slice F2 G.caps.length f2, .int .i64 G.res, .slice F3 G.code.length f3] 34)).alloc (.cells #[.int .i64 (kindN h.m.types (nb : Int)), .slice TA (listN h.m.types (nb : Int)).length tc, .int .i64 (resN h.m.types (nb : Int))] 37)).drew
            have hm := M5.out.same hch
            clear z0 z1 z2 z3 z4
            obtain ⟨z0, z1, z2, z3, z4⟩ := hm.cells
            clear d0 d1 g0 g1 g2 g3 g4 e0 e1 e2
            have HCH := Lib.hid hch
            have MA := Lib.hid hm
            have hb5 := ha
            have hb6 := hb
            clear ha hb hm hch
            generalize ((v5.alloc (.cells #[.int .i64 (pn : Int), .slice F1 G.locals.length f1, .slice F2 G.caps.length f2, .int .i64 G.res, .slice F3 G.code.length f3] 34)).alloc (.cells #[.int .i64 (kindN h.m.types (nb : Int)), .slice TA (listN h.m.types (nb : Int)).length tc, .int .i64 (resN h.m.types (nb : Int))] 37)).drew = w5 at *
            generalize hg6 : (v5.heap.size + 1) = g6 at *
            generalize hg5 : v5.heap.size = g5 at *
            clear hg5 hg6
            have a0 : w5.cell? ⟨g5, 0, none⟩ = some (.int .i64 (pn : Int)) := by simpa using hb5.cell 0
            have a1 : w5.cell? ⟨g5, 1, none⟩ = some (.slice F1 G.locals.length f1) := by simpa using hb5.cell 1
            have a2 : w5.cell? ⟨g5, 2, none⟩ = some (.slice F2 G.caps.length f2) := by simpa using hb5.cell 2
            have a3 : w5.cell? ⟨g5, 3, none⟩ = some (.int .i64 G.res) := by simpa using hb5.cell 3
            have b1 : w5.cell? ⟨g6, 1, none⟩ = some (.slice TA (listN h.m.types (nb : Int)).length tc) := by simpa using hb6.cell 1
            have b2 : w5.cell? ⟨g6, 2, none⟩ = some (.int .i64 (resN h.m.types (nb : Int))) := by simpa using hb6.cell 2
            have hpc : pn ≤ f1 := Nat.le_trans hpl hlc.2
            have hpc2 : (pn : Int) ≤ (f1 : Int) := by omega
            have hL1 := IntsR.keep HG.out.2.2.1 HCH.out (fun _ _ _ h => h)
            have hL2 := IntsR.keep HG.out.2.2.2.1 HCH.out (fun _ _ _ h => h)
            have hL3 := IntsR.keep HG.out.2.2.2.2.1 HCH.out (fun _ _ _ h => h)
            have HL := Lib.hid (And.intro hL1 (And.intro hL2 (And.intro hL3 hpl)))
            clear hb5 hb6 hL1 hL2 hL3 hpl hlc p1 p2 q1 q2
            cases hq : sameL sameInt (G.locals.take pn) (listN h.m.types (nb : Int))
            · have Q1 := Lib.hid hq
              have HGN := Lib.hid HG.out.1
              have HPN := Lib.hid HG.out.2.1
              have c1 := eqInts_any (w5.drew) h.B F1 TA pn f1 (listN h.m.types (nb : Int)).length tc (G.locals.take pn) (listN h.m.types (nb : Int)) (IntsR.keep (SlR.take_ HL.out.1 HL.out.2.2.2) (Chg.refl (fun _ _ => False) w5).drew (fun _ _ _ h => h)) (IntsR.keep HL.out.2.2.1 (Chg.refl (fun _ _ => False) w5).drew (fun _ _ _ h => h)) (by have := HL.out.2.2.2; have := HG.out.2.2.2.2.2.2.2.2.1; omega) (by have := (list_valid MA.out.fix HG.out.2.2.2.2.2.1).2; omega)
              rw [Q1.out] at c1
              go_wp2_with fail
              refine wp_region_G (S := (fun w' => Chg (fun _ _ => False) w5 w')) 16 (by kernel_rfl) (Chg.refl _ _).drew (fun hHeld => ?_)
              refine wpAnyG_take (i := 0) (v := ?va40) rfl (by kernel_rfl) (fun _ _ _ h => h) (Or.inl ⟨by rfl, ?hy40⟩) (by assumption) ?ra40
              case hy40 => (intro w hSw; (try dsimp only at hSw); have a0 := hSw.cell a0 (fun _ => id); have a1 := hSw.cell a1 (fun _ => id); have a2 := hSw.cell a2 (fun _ => id); have a3 := hSw.cell a3 (fun _ => id); have b1 := hSw.cell b1 (fun _ => id); have b2 := hSw.cell b2 (fun _ => id); clear hSw; go_simp; all_goals (with_reducible rfl))
              simp only [Act.put, List.setIfInBounds_toArray, List.set_cons_zero, List.set_cons_succ]
              refine wpAnyG_take (i := 1) (v := ?va41) rfl (by kernel_rfl) (fun _ _ _ h => h) (Or.inl ⟨by rfl, ?hy41⟩) (by assumption) ?ra41
              case hy41 => (intro w hSw; (try dsimp only at hSw); have a0 := hSw.cell a0 (fun _ => id); have a1 := hSw.cell a1 (fun _ => id); have a2 := hSw.cell a2 (fun _ => id); have a3 := hSw.cell a3 (fun _ => id); have b1 := hSw.cell b1 (fun _ => id); have b2 := hSw.cell b2 (fun _ => id); clear hSw; go_simp; all_goals (with_reducible rfl))
              simp only [Act.put, List.setIfInBounds_toArray, List.set_cons_zero, List.set_cons_succ]
              refine wpAnyG_take (i := 2) (v := ?va42) rfl (by kernel_rfl) (fun _ _ _ h => h) (Or.inl ⟨by rfl, ?hy42⟩) (by assumption) ?ra42
              case hy42 => (intro w hSw; (try dsimp only at hSw); have a0 := hSw.cell a0 (fun _ => id); have a1 := hSw.cell a1 (fun _ => id); have a2 := hSw.cell a2 (fun _ => id); have a3 := hSw.cell a3 (fun _ => id); have b1 := hSw.cell b1 (fun _ => id); have b2 := hSw.cell b2 (fun _ => id); clear hSw; go_simp; all_goals (with_reducible rfl))
              simp only [Act.put, List.setIfInBounds_toArray, List.set_cons_zero, List.set_cons_succ]
              refine wpAnyG_take (i := 3) (v := ?va43) rfl (by kernel_rfl) (fun _ _ _ h => h) (Or.inl ⟨by rfl, ?hy43⟩) (by assumption) ?ra43
              case hy43 => (intro w hSw; (try dsimp only at hSw); have a0 := hSw.cell a0 (fun _ => id); have a1 := hSw.cell a1 (fun _ => id); have a2 := hSw.cell a2 (fun _ => id); have a3 := hSw.cell a3 (fun _ => id); have b1 := hSw.cell b1 (fun _ => id); have b2 := hSw.cell b2 (fun _ => id); clear hSw; go_simp; all_goals (with_reducible rfl))
              simp only [Act.put, List.setIfInBounds_toArray, List.set_cons_zero, List.set_cons_succ]
              refine wpAnyG_take (i := 4) (v := ?va44) rfl (by kernel_rfl) (fun _ _ _ h => h) (Or.inl ⟨by rfl, ?hy44⟩) (by assumption) ?ra44
              case hy44 => (intro w hSw; (try dsimp only at hSw); have a0 := hSw.cell a0 (fun _ => id); have a1 := hSw.cell a1 (fun _ => id); have a2 := hSw.cell a2 (fun _ => id); have a3 := hSw.cell a3 (fun _ => id); have b1 := hSw.cell b1 (fun _ => id); have b2 := hSw.cell b2 (fun _ => id); clear hSw; go_simp; all_goals (with_reducible rfl))
              simp only [Act.put, List.setIfInBounds_toArray, List.set_cons_zero, List.set_cons_succ]
              refine wpAnyG_take (i := 5) (v := ?va45) rfl (by kernel_rfl) (fun _ _ _ h => h) (Or.inl ⟨by rfl, ?hy45⟩) (by assumption) ?ra45
              case hy45 => (intro w hSw; (try dsimp only at hSw); have a0 := hSw.cell a0 (fun _ => id); have a1 := hSw.cell a1 (fun _ => id); have a2 := hSw.cell a2 (fun _ => id); have a3 := hSw.cell a3 (fun _ => id); have b1 := hSw.cell b1 (fun _ => id); have b2 := hSw.cell b2 (fun _ => id); clear hSw; go_simp; all_goals (with_reducible rfl))
              simp only [Act.put, List.setIfInBounds_toArray, List.set_cons_zero, List.set_cons_succ]
              refine wpAnyG_take (i := 6) (v := ?va46) rfl (by kernel_rfl) (fun _ _ _ h => h) (Or.inl ⟨by rfl, ?hy46⟩) (by assumption) ?ra46
              case hy46 => (intro w hSw; (try dsimp only at hSw); have a0 := hSw.cell a0 (fun _ => id); have a1 := hSw.cell a1 (fun _ => id); have a2 := hSw.cell a2 (fun _ => id); have a3 := hSw.cell a3 (fun _ => id); have b1 := hSw.cell b1 (fun _ => id); have b2 := hSw.cell b2 (fun _ => id); clear hSw; go_simp; all_goals (with_reducible rfl))
              simp only [Act.put, List.setIfInBounds_toArray, List.set_cons_zero, List.set_cons_succ]
              refine wpAnyG_take (i := 7) (v := ?va47) rfl (by kernel_rfl) (fun _ _ _ h => h) (Or.inl ⟨by rfl, ?hy47⟩) (by assumption) ?ra47
              case hy47 => (intro w hSw; (try dsimp only at hSw); have a0 := hSw.cell a0 (fun _ => id); have a1 := hSw.cell a1 (fun _ => id); have a2 := hSw.cell a2 (fun _ => id); have a3 := hSw.cell a3 (fun _ => id); have b1 := hSw.cell b1 (fun _ => id); have b2 := hSw.cell b2 (fun _ => id); clear hSw; go_simp; all_goals (with_reducible rfl))
              simp only [Act.put, List.setIfInBounds_toArray, List.set_cons_zero, List.set_cons_succ]
              refine wpAnyG_ready (rs := [8]) (by kernel_rfl) (by simp) ?_
              refine AllReadyG.cons rfl (fun K hK => ?_) AllReadyG.nil
              go_simp
              go_at_call 72
              refine c1.mono ?_
              rintro e w6 hh
              obtain ⟨rfl, hq6⟩ := hh.res
              refine hK.out _ _ (hHeld.trans hq6) (fun hHeld => ?_)
              clear hK K
              try simp only [Act.put, List.setIfInBounds_toArray, List.set_cons_zero, List.set_cons_succ]
              refine wpAnyG_take (i := 9) (v := ?va48) rfl (by kernel_rfl) (fun _ _ _ h => h) (Or.inl ⟨by rfl, ?hy48⟩) (by assumption) ?ra48
              case hy48 => (intro w hSw; (try dsimp only at hSw); have a0 := hSw.cell a0 (fun _ => id); have a1 := hSw.cell a1 (fun _ => id); have a2 := hSw.cell a2 (fun _ => id); have a3 := hSw.cell a3 (fun _ => id); have b1 := hSw.cell b1 (fun _ => id); have b2 := hSw.cell b2 (fun _ => id); clear hSw; go_simp; all_goals (with_reducible rfl))
              simp only [Act.put, List.setIfInBounds_toArray, List.set_cons_zero, List.set_cons_succ]
              refine wpAnyG_take (i := 10) (v := undef) rfl (by kernel_rfl) (fun _ _ _ h => h) (Or.inr ⟨by rfl, rfl⟩) (by assumption) ?ra49
              simp only [Act.put, List.setIfInBounds_toArray, List.set_cons_zero, List.set_cons_succ]
              refine wpAnyG_take (i := 11) (v := undef) rfl (by kernel_rfl) (fun _ _ _ h => h) (Or.inr ⟨by rfl, rfl⟩) (by assumption) ?ra50
              simp only [Act.put, List.setIfInBounds_toArray, List.set_cons_zero, List.set_cons_succ]
              refine wpAnyG_take (i := 12) (v := undef) rfl (by kernel_rfl) (fun _ _ _ h => h) (Or.inr ⟨by rfl, rfl⟩) (by assumption) ?ra51
              simp only [Act.put, List.setIfInBounds_toArray, List.set_cons_zero, List.set_cons_succ]
              refine wpAnyG_take (i := 13) (v := undef) rfl (by kernel_rfl) (fun _ _ _ h => h) (Or.inr ⟨by rfl, rfl⟩) (by assumption) ?ra52
              simp only [Act.put, List.setIfInBounds_toArray, List.set_cons_zero, List.set_cons_succ]
              refine wpAnyG_take (i := 14) (v := undef) rfl (by kernel_rfl) (fun _ _ _ h => h) (Or.inr ⟨by rfl, rfl⟩) (by assumption) ?ra53
              simp only [Act.put, List.setIfInBounds_toArray, List.set_cons_zero, List.set_cons_succ]
              refine wpAnyG_take (i := 15) (v := ?va54) rfl (by kernel_rfl) (fun _ _ _ h => h) (Or.inl ⟨by rfl, ?hy54⟩) (by assumption) ?ra54
              case hy54 => (intro w hSw; (try dsimp only at hSw); have a0 := hSw.cell a0 (fun _ => id); have a1 := hSw.cell a1 (fun _ => id); have a2 := hSw.cell a2 (fun _ => id); have a3 := hSw.cell a3 (fun _ => id); have b1 := hSw.cell b1 (fun _ => id); have b2 := hSw.cell b2 (fun _ => id); clear hSw; go_simp; all_goals (with_reducible rfl))
              simp only [Act.put, List.setIfInBounds_toArray, List.set_cons_zero, List.set_cons_succ]
              have hm := MA.out.same hHeld
              have MB := Lib.hid hm
              have HH := Lib.hid hHeld
              clear hm
              refine wpAnyG_last rfl (by kernel_rfl) (by kernel_rfl) (fun K hK => ?_)
              go_simp
              go_at_call 52
              refine (MB.out.pure (b := false)).mono ?_
              rintro e w7 hp
              obtain ⟨rfl, rfl⟩ := hp.bad rfl
              exact ⟨rfl, OutO.bad MB.out.chg (by simp only [op20, inB, Option.bind_some, Option.bind_none, Option.map_some, Option.map_none, Bool.true_and, Bool.false_and, Bool.and_true, Bool.and_false, Bool.false_or, Bool.true_or, Bool.or_false, Bool.or_true, if_false, if_true, E0.out, E2.out, E4.out, E5.out, HGN.out, HPN.out, Q1.out, needN_false])⟩
            · have Q1 := Lib.hid hq
              cases hr : (G.res == resN h.m.types (nb : Int))
              · have Q2 := Lib.hid hr
                have HGN := Lib.hid HG.out.1
                have HPN := Lib.hid HG.out.2.1
                have c1 := eqInts_any (w5.drew) h.B F1 TA pn f1 (listN h.m.types (nb : Int)).length tc (G.locals.take pn) (listN h.m.types (nb : Int)) (IntsR.keep (SlR.take_ HL.out.1 HL.out.2.2.2) (Chg.refl (fun _ _ => False) w5).drew (fun _ _ _ h => h)) (IntsR.keep HL.out.2.2.1 (Chg.refl (fun _ _ => False) w5).drew (fun _ _ _ h => h)) (by have := HL.out.2.2.2; have := HG.out.2.2.2.2.2.2.2.2.1; omega) (by have := (list_valid MA.out.fix HG.out.2.2.2.2.2.1).2; omega)
                rw [Q1.out] at c1
                go_wp2_with fail
                refine wp_region_G (S := (fun w' => Chg (fun _ _ => False) w5 w')) 16 (by kernel_rfl) (Chg.refl _ _).drew (fun hHeld => ?_)
                refine wpAnyG_take (i := 0) (v := ?va55) rfl (by kernel_rfl) (fun _ _ _ h => h) (Or.inl ⟨by rfl, ?hy55⟩) (by assumption) ?ra55
                case hy55 => (intro w hSw; (try dsimp only at hSw); have a0 := hSw.cell a0 (fun _ => id); have a1 := hSw.cell a1 (fun _ => id); have a2 := hSw.cell a2 (fun _ => id); have a3 := hSw.cell a3 (fun _ => id); have b1 := hSw.cell b1 (fun _ => id); have b2 := hSw.cell b2 (fun _ => id); clear hSw; go_simp; all_goals (with_reducible rfl))
                simp only [Act.put, List.setIfInBounds_toArray, List.set_cons_zero, List.set_cons_succ]
                refine wpAnyG_take (i := 1) (v := ?va56) rfl (by kernel_rfl) (fun _ _ _ h => h) (Or.inl ⟨by rfl, ?hy56⟩) (by assumption) ?ra56
                case hy56 => (intro w hSw; (try dsimp only at hSw); have a0 := hSw.cell a0 (fun _ => id); have a1 := hSw.cell a1 (fun _ => id); have a2 := hSw.cell a2 (fun _ => id); have a3 := hSw.cell a3 (fun _ => id); have b1 := hSw.cell b1 (fun _ => id); have b2 := hSw.cell b2 (fun _ => id); clear hSw; go_simp; all_goals (with_reducible rfl))
                simp only [Act.put, List.setIfInBounds_toArray, List.set_cons_zero, List.set_cons_succ]
                refine wpAnyG_take (i := 2) (v := ?va57) rfl (by kernel_rfl) (fun _ _ _ h => h) (Or.inl ⟨by rfl, ?hy57⟩) (by assumption) ?ra57
                case hy57 => (intro w hSw; (try dsimp only at hSw); have a0 := hSw.cell a0 (fun _ => id); have a1 := hSw.cell a1 (fun _ => id); have a2 := hSw.cell a2 (fun _ => id); have a3 := hSw.cell a3 (fun _ => id); have b1 := hSw.cell b1 (fun _ => id); have b2 := hSw.cell b2 (fun _ => id); clear hSw; go_simp; all_goals (with_reducible rfl))
                simp only [Act.put, List.setIfInBounds_toArray, List.set_cons_zero, List.set_cons_succ]
                refine wpAnyG_take (i := 3) (v := ?va58) rfl (by kernel_rfl) (fun _ _ _ h => h) (Or.inl ⟨by rfl, ?hy58⟩) (by assumption) ?ra58
                case hy58 => (intro w hSw; (try dsimp only at hSw); have a0 := hSw.cell a0 (fun _ => id); have a1 := hSw.cell a1 (fun _ => id); have a2 := hSw.cell a2 (fun _ => id); have a3 := hSw.cell a3 (fun _ => id); have b1 := hSw.cell b1 (fun _ => id); have b2 := hSw.cell b2 (fun _ => id); clear hSw; go_simp; all_goals (with_reducible rfl))
                simp only [Act.put, List.setIfInBounds_toArray, List.set_cons_zero, List.set_cons_succ]
                refine wpAnyG_take (i := 4) (v := ?va59) rfl (by kernel_rfl) (fun _ _ _ h => h) (Or.inl ⟨by rfl, ?hy59⟩) (by assumption) ?ra59
                case hy59 => (intro w hSw; (try dsimp only at hSw); have a0 := hSw.cell a0 (fun _ => id); have a1 := hSw.cell a1 (fun _ => id); have a2 := hSw.cell a2 (fun _ => id); have a3 := hSw.cell a3 (fun _ => id); have b1 := hSw.cell b1 (fun _ => id); have b2 := hSw.cell b2 (fun _ => id); clear hSw; go_simp; all_goals (with_reducible rfl))
                simp only [Act.put, List.setIfInBounds_toArray, List.set_cons_zero, List.set_cons_succ]
                refine wpAnyG_take (i := 5) (v := ?va60) rfl (by kernel_rfl) (fun _ _ _ h => h) (Or.inl ⟨by rfl, ?hy60⟩) (by assumption) ?ra60
                case hy60 => (intro w hSw; (try dsimp only at hSw); have a0 := hSw.cell a0 (fun _ => id); have a1 := hSw.cell a1 (fun _ => id); have a2 := hSw.cell a2 (fun _ => id); have a3 := hSw.cell a3 (fun _ => id); have b1 := hSw.cell b1 (fun _ => id); have b2 := hSw.cell b2 (fun _ => id); clear hSw; go_simp; all_goals (with_reducible rfl))
                simp only [Act.put, List.setIfInBounds_toArray, List.set_cons_zero, List.set_cons_succ]
                refine wpAnyG_take (i := 6) (v := ?va61) rfl (by kernel_rfl) (fun _ _ _ h => h) (Or.inl ⟨by rfl, ?hy61⟩) (by assumption) ?ra61
                case hy61 => (intro w hSw; (try dsimp only at hSw); have a0 := hSw.cell a0 (fun _ => id); have a1 := hSw.cell a1 (fun _ => id); have a2 := hSw.cell a2 (fun _ => id); have a3 := hSw.cell a3 (fun _ => id); have b1 := hSw.cell b1 (fun _ => id); have b2 := hSw.cell b2 (fun _ => id); clear hSw; go_simp; all_goals (with_reducible rfl))
                simp only [Act.put, List.setIfInBounds_toArray, List.set_cons_zero, List.set_cons_succ]
                refine wpAnyG_take (i := 7) (v := ?va62) rfl (by kernel_rfl) (fun _ _ _ h => h) (Or.inl ⟨by rfl, ?hy62⟩) (by assumption) ?ra62
                case hy62 => (intro w hSw; (try dsimp only at hSw); have a0 := hSw.cell a0 (fun _ => id); have a1 := hSw.cell a1 (fun _ => id); have a2 := hSw.cell a2 (fun _ => id); have a3 := hSw.cell a3 (fun _ => id); have b1 := hSw.cell b1 (fun _ => id); have b2 := hSw.cell b2 (fun _ => id); clear hSw; go_simp; all_goals (with_reducible rfl))
                simp only [Act.put, List.setIfInBounds_toArray, List.set_cons_zero, List.set_cons_succ]
                refine wpAnyG_ready (rs := [8]) (by kernel_rfl) (by simp) ?_
                refine AllReadyG.cons rfl (fun K hK => ?_) AllReadyG.nil
                go_simp
                go_at_call 72
                refine c1.mono ?_
                rintro e w6 hh
                obtain ⟨rfl, hq6⟩ := hh.res
                refine hK.out _ _ (hHeld.trans hq6) (fun hHeld => ?_)
                clear hK K
                try simp only [Act.put, List.setIfInBounds_toArray, List.set_cons_zero, List.set_cons_succ]
                refine wpAnyG_take (i := 9) (v := ?va63) rfl (by kernel_rfl) (fun _ _ _ h => h) (Or.inl ⟨by rfl, ?hy63⟩) (by assumption) ?ra63
                case hy63 => (intro w hSw; (try dsimp only at hSw); have a0 := hSw.cell a0 (fun _ => id); have a1 := hSw.cell a1 (fun _ => id); have a2 := hSw.cell a2 (fun _ => id); have a3 := hSw.cell a3 (fun _ => id); have b1 := hSw.cell b1 (fun _ => id); have b2 := hSw.cell b2 (fun _ => id); clear hSw; go_simp; all_goals (with_reducible rfl))
                simp only [Act.put, List.setIfInBounds_toArray, List.set_cons_zero, List.set_cons_succ]
                refine wpAnyG_take (i := 10) (v := ?va64) rfl (by kernel_rfl) (fun _ _ _ h => h) (Or.inl ⟨by rfl, ?hy64⟩) (by assumption) ?ra64
                case hy64 => (intro w hSw; (try dsimp only at hSw); have a0 := hSw.cell a0 (fun _ => id); have a1 := hSw.cell a1 (fun _ => id); have a2 := hSw.cell a2 (fun _ => id); have a3 := hSw.cell a3 (fun _ => id); have b1 := hSw.cell b1 (fun _ => id); have b2 := hSw.cell b2 (fun _ => id); clear hSw; go_simp; all_goals (with_reducible rfl))
                simp only [Act.put, List.setIfInBounds_toArray, List.set_cons_zero, List.set_cons_succ]
                refine wpAnyG_take (i := 11) (v := ?va65) rfl (by kernel_rfl) (fun _ _ _ h => h) (Or.inl ⟨by rfl, ?hy65⟩) (by assumption) ?ra65
                case hy65 => (intro w hSw; (try dsimp only at hSw); have a0 := hSw.cell a0 (fun _ => id); have a1 := hSw.cell a1 (fun _ => id); have a2 := hSw.cell a2 (fun _ => id); have a3 := hSw.cell a3 (fun _ => id); have b1 := hSw.cell b1 (fun _ => id); have b2 := hSw.cell b2 (fun _ => id); clear hSw; go_simp; all_goals (with_reducible rfl))
                simp only [Act.put, List.setIfInBounds_toArray, List.set_cons_zero, List.set_cons_succ]
                refine wpAnyG_take (i := 12) (v := ?va66) rfl (by kernel_rfl) (fun _ _ _ h => h) (Or.inl ⟨by rfl, ?hy66⟩) (by assumption) ?ra66
                case hy66 => (intro w hSw; (try dsimp only at hSw); have a0 := hSw.cell a0 (fun _ => id); have a1 := hSw.cell a1 (fun _ => id); have a2 := hSw.cell a2 (fun _ => id); have a3 := hSw.cell a3 (fun _ => id); have b1 := hSw.cell b1 (fun _ => id); have b2 := hSw.cell b2 (fun _ => id); clear hSw; go_simp; all_goals (with_reducible rfl))
                simp only [Act.put, List.setIfInBounds_toArray, List.set_cons_zero, List.set_cons_succ]
                refine wpAnyG_take (i := 13) (v := ?va67) rfl (by kernel_rfl) (fun _ _ _ h => h) (Or.inl ⟨by rfl, ?hy67⟩) (by assumption) ?ra67
                case hy67 => (intro w hSw; (try dsimp only at hSw); have a0 := hSw.cell a0 (fun _ => id); have a1 := hSw.cell a1 (fun _ => id); have a2 := hSw.cell a2 (fun _ => id); have a3 := hSw.cell a3 (fun _ => id); have b1 := hSw.cell b1 (fun _ => id); have b2 := hSw.cell b2 (fun _ => id); clear hSw; go_simp; all_goals (with_reducible rfl))
                simp only [Act.put, List.setIfInBounds_toArray, List.set_cons_zero, List.set_cons_succ]
                refine wpAnyG_take (i := 14) (v := ?va68) rfl (by kernel_rfl) (fun _ _ _ h => h) (Or.inl ⟨by rfl, ?hy68⟩) (by assumption) ?ra68
                case hy68 => (intro w hSw; (try dsimp only at hSw); have a0 := hSw.cell a0 (fun _ => id); have a1 := hSw.cell a1 (fun _ => id); have a2 := hSw.cell a2 (fun _ => id); have a3 := hSw.cell a3 (fun _ => id); have b1 := hSw.cell b1 (fun _ => id); have b2 := hSw.cell b2 (fun _ => id); clear hSw; go_simp; all_goals (with_reducible rfl))
                simp only [Act.put, List.setIfInBounds_toArray, List.set_cons_zero, List.set_cons_succ]
                refine wpAnyG_take (i := 15) (v := ?va69) rfl (by kernel_rfl) (fun _ _ _ h => h) (Or.inl ⟨by rfl, ?hy69⟩) (by assumption) ?ra69
                case hy69 => (intro w hSw; (try dsimp only at hSw); have a0 := hSw.cell a0 (fun _ => id); have a1 := hSw.cell a1 (fun _ => id); have a2 := hSw.cell a2 (fun _ => id); have a3 := hSw.cell a3 (fun _ => id); have b1 := hSw.cell b1 (fun _ => id); have b2 := hSw.cell b2 (fun _ => id); clear hSw; go_simp; all_goals (with_reducible rfl))
                simp only [Act.put, List.setIfInBounds_toArray, List.set_cons_zero, List.set_cons_succ]
                have hm := MA.out.same hHeld
                have MB := Lib.hid hm
                have HH := Lib.hid hHeld
                clear hm
                refine wpAnyG_last rfl (by kernel_rfl) (by kernel_rfl) (fun K hK => ?_)
                go_simp
                go_at_call 52
                refine (MB.out.pure (b := false)).mono ?_
                rintro e w7 hp
                obtain ⟨rfl, rfl⟩ := hp.bad rfl
                exact ⟨rfl, OutO.bad MB.out.chg (by simp only [op20, inB, Option.bind_some, Option.bind_none, Option.map_some, Option.map_none, Bool.true_and, Bool.false_and, Bool.and_true, Bool.and_false, Bool.false_or, Bool.true_or, Bool.or_false, Bool.or_true, if_false, if_true, E0.out, E2.out, E4.out, E5.out, HGN.out, HPN.out, Q1.out, Q2.out, needN_false])⟩
              · have Q2 := Lib.hid hr
                have HGN := Lib.hid HG.out.1
                have HPN := Lib.hid HG.out.2.1
                have c1 := eqInts_any (w5.drew) h.B F1 TA pn f1 (listN h.m.types (nb : Int)).length tc (G.locals.take pn) (listN h.m.types (nb : Int)) (IntsR.keep (SlR.take_ HL.out.1 HL.out.2.2.2) (Chg.refl (fun _ _ => False) w5).drew (fun _ _ _ h => h)) (IntsR.keep HL.out.2.2.1 (Chg.refl (fun _ _ => False) w5).drew (fun _ _ _ h => h)) (by have := HL.out.2.2.2; have := HG.out.2.2.2.2.2.2.2.2.1; omega) (by have := (list_valid MA.out.fix HG.out.2.2.2.2.2.1).2; omega)
                rw [Q1.out] at c1
                go_wp2_with fail
                refine wp_region_G (S := (fun w' => Chg (fun _ _ => False) w5 w')) 16 (by kernel_rfl) (Chg.refl _ _).drew (fun hHeld => ?_)
                refine wpAnyG_take (i := 0) (v := ?va70) rfl (by kernel_rfl) (fun _ _ _ h => h) (Or.inl ⟨by rfl, ?hy70⟩) (by assumption) ?ra70
                case hy70 => (intro w hSw; (try dsimp only at hSw); have a0 := hSw.cell a0 (fun _ => id); have a1 := hSw.cell a1 (fun _ => id); have a2 := hSw.cell a2 (fun _ => id); have a3 := hSw.cell a3 (fun _ => id); have b1 := hSw.cell b1 (fun _ => id); have b2 := hSw.cell b2 (fun _ => id); clear hSw; go_simp; all_goals (with_reducible rfl))
                simp only [Act.put, List.setIfInBounds_toArray, List.set_cons_zero, List.set_cons_succ]
                refine wpAnyG_take (i := 1) (v := ?va71) rfl (by kernel_rfl) (fun _ _ _ h => h) (Or.inl ⟨by rfl, ?hy71⟩) (by assumption) ?ra71
                case hy71 => (intro w hSw; (try dsimp only at hSw); have a0 := hSw.cell a0 (fun _ => id); have a1 := hSw.cell a1 (fun _ => id); have a2 := hSw.cell a2 (fun _ => id); have a3 := hSw.cell a3 (fun _ => id); have b1 := hSw.cell b1 (fun _ => id); have b2 := hSw.cell b2 (fun _ => id); clear hSw; go_simp; all_goals (with_reducible rfl))
                simp only [Act.put, List.setIfInBounds_toArray, List.set_cons_zero, List.set_cons_succ]
                refine wpAnyG_take (i := 2) (v := ?va72) rfl (by kernel_rfl) (fun _ _ _ h => h) (Or.inl ⟨by rfl, ?hy72⟩) (by assumption) ?ra72
                case hy72 => (intro w hSw; (try dsimp only at hSw); have a0 := hSw.cell a0 (fun _ => id); have a1 := hSw.cell a1 (fun _ => id); have a2 := hSw.cell a2 (fun _ => id); have a3 := hSw.cell a3 (fun _ => id); have b1 := hSw.cell b1 (fun _ => id); have b2 := hSw.cell b2 (fun _ => id); clear hSw; go_simp; all_goals (with_reducible rfl))
                simp only [Act.put, List.setIfInBounds_toArray, List.set_cons_zero, List.set_cons_succ]
                refine wpAnyG_take (i := 3) (v := ?va73) rfl (by kernel_rfl) (fun _ _ _ h => h) (Or.inl ⟨by rfl, ?hy73⟩) (by assumption) ?ra73
                case hy73 => (intro w hSw; (try dsimp only at hSw); have a0 := hSw.cell a0 (fun _ => id); have a1 := hSw.cell a1 (fun _ => id); have a2 := hSw.cell a2 (fun _ => id); have a3 := hSw.cell a3 (fun _ => id); have b1 := hSw.cell b1 (fun _ => id); have b2 := hSw.cell b2 (fun _ => id); clear hSw; go_simp; all_goals (with_reducible rfl))
                simp only [Act.put, List.setIfInBounds_toArray, List.set_cons_zero, List.set_cons_succ]
                refine wpAnyG_take (i := 4) (v := ?va74) rfl (by kernel_rfl) (fun _ _ _ h => h) (Or.inl ⟨by rfl, ?hy74⟩) (by assumption) ?ra74
                case hy74 => (intro w hSw; (try dsimp only at hSw); have a0 := hSw.cell a0 (fun _ => id); have a1 := hSw.cell a1 (fun _ => id); have a2 := hSw.cell a2 (fun _ => id); have a3 := hSw.cell a3 (fun _ => id); have b1 := hSw.cell b1 (fun _ => id); have b2 := hSw.cell b2 (fun _ => id); clear hSw; go_simp; all_goals (with_reducible rfl))
                simp only [Act.put, List.setIfInBounds_toArray, List.set_cons_zero, List.set_cons_succ]
                refine wpAnyG_take (i := 5) (v := ?va75) rfl (by kernel_rfl) (fun _ _ _ h => h) (Or.inl ⟨by rfl, ?hy75⟩) (by assumption) ?ra75
                case hy75 => (intro w hSw; (try dsimp only at hSw); have a0 := hSw.cell a0 (fun _ => id); have a1 := hSw.cell a1 (fun _ => id); have a2 := hSw.cell a2 (fun _ => id); have a3 := hSw.cell a3 (fun _ => id); have b1 := hSw.cell b1 (fun _ => id); have b2 := hSw.cell b2 (fun _ => id); clear hSw; go_simp; all_goals (with_reducible rfl))
                simp only [Act.put, List.setIfInBounds_toArray, List.set_cons_zero, List.set_cons_succ]
                refine wpAnyG_take (i := 6) (v := ?va76) rfl (by kernel_rfl) (fun _ _ _ h => h) (Or.inl ⟨by rfl, ?hy76⟩) (by assumption) ?ra76
                case hy76 => (intro w hSw; (try dsimp only at hSw); have a0 := hSw.cell a0 (fun _ => id); have a1 := hSw.cell a1 (fun _ => id); have a2 := hSw.cell a2 (fun _ => id); have a3 := hSw.cell a3 (fun _ => id); have b1 := hSw.cell b1 (fun _ => id); have b2 := hSw.cell b2 (fun _ => id); clear hSw; go_simp; all_goals (with_reducible rfl))
                simp only [Act.put, List.setIfInBounds_toArray, List.set_cons_zero, List.set_cons_succ]
                refine wpAnyG_take (i := 7) (v := ?va77) rfl (by kernel_rfl) (fun _ _ _ h => h) (Or.inl ⟨by rfl, ?hy77⟩) (by assumption) ?ra77
                case hy77 => (intro w hSw; (try dsimp only at hSw); have a0 := hSw.cell a0 (fun _ => id); have a1 := hSw.cell a1 (fun _ => id); have a2 := hSw.cell a2 (fun _ => id); have a3 := hSw.cell a3 (fun _ => id); have b1 := hSw.cell b1 (fun _ => id); have b2 := hSw.cell b2 (fun _ => id); clear hSw; go_simp; all_goals (with_reducible rfl))
                simp only [Act.put, List.setIfInBounds_toArray, List.set_cons_zero, List.set_cons_succ]
                refine wpAnyG_ready (rs := [8]) (by kernel_rfl) (by simp) ?_
                refine AllReadyG.cons rfl (fun K hK => ?_) AllReadyG.nil
                go_simp
                go_at_call 72
                refine c1.mono ?_
                rintro e w6 hh
                obtain ⟨rfl, hq6⟩ := hh.res
                refine hK.out _ _ (hHeld.trans hq6) (fun hHeld => ?_)
                clear hK K
                try simp only [Act.put, List.setIfInBounds_toArray, List.set_cons_zero, List.set_cons_succ]
                refine wpAnyG_take (i := 9) (v := ?va78) rfl (by kernel_rfl) (fun _ _ _ h => h) (Or.inl ⟨by rfl, ?hy78⟩) (by assumption) ?ra78
                case hy78 => (intro w hSw; (try dsimp only at hSw); have a0 := hSw.cell a0 (fun _ => id); have a1 := hSw.cell a1 (fun _ => id); have a2 := hSw.cell a2 (fun _ => id); have a3 := hSw.cell a3 (fun _ => id); have b1 := hSw.cell b1 (fun _ => id); have b2 := hSw.cell b2 (fun _ => id); clear hSw; go_simp; all_goals (with_reducible rfl))
                simp only [Act.put, List.setIfInBounds_toArray, List.set_cons_zero, List.set_cons_succ]
                refine wpAnyG_take (i := 10) (v := ?va79) rfl (by kernel_rfl) (fun _ _ _ h => h) (Or.inl ⟨by rfl, ?hy79⟩) (by assumption) ?ra79
                case hy79 => (intro w hSw; (try dsimp only at hSw); have a0 := hSw.cell a0 (fun _ => id); have a1 := hSw.cell a1 (fun _ => id); have a2 := hSw.cell a2 (fun _ => id); have a3 := hSw.cell a3 (fun _ => id); have b1 := hSw.cell b1 (fun _ => id); have b2 := hSw.cell b2 (fun _ => id); clear hSw; go_simp; all_goals (with_reducible rfl))
                simp only [Act.put, List.setIfInBounds_toArray, List.set_cons_zero, List.set_cons_succ]
                refine wpAnyG_take (i := 11) (v := ?va80) rfl (by kernel_rfl) (fun _ _ _ h => h) (Or.inl ⟨by rfl, ?hy80⟩) (by assumption) ?ra80
                case hy80 => (intro w hSw; (try dsimp only at hSw); have a0 := hSw.cell a0 (fun _ => id); have a1 := hSw.cell a1 (fun _ => id); have a2 := hSw.cell a2 (fun _ => id); have a3 := hSw.cell a3 (fun _ => id); have b1 := hSw.cell b1 (fun _ => id); have b2 := hSw.cell b2 (fun _ => id); clear hSw; go_simp; all_goals (with_reducible rfl))
                simp only [Act.put, List.setIfInBounds_toArray, List.set_cons_zero, List.set_cons_succ]
                refine wpAnyG_take (i := 12) (v := ?va81) rfl (by kernel_rfl) (fun _ _ _ h => h) (Or.inl ⟨by rfl, ?hy81⟩) (by assumption) ?ra81
                case hy81 => (intro w hSw; (try dsimp only at hSw); have a0 := hSw.cell a0 (fun _ => id); have a1 := hSw.cell a1 (fun _ => id); have a2 := hSw.cell a2 (fun _ => id); have a3 := hSw.cell a3 (fun _ => id); have b1 := hSw.cell b1 (fun _ => id); have b2 := hSw.cell b2 (fun _ => id); clear hSw; go_simp; all_goals (with_reducible rfl))
                simp only [Act.put, List.setIfInBounds_toArray, List.set_cons_zero, List.set_cons_succ]
                refine wpAnyG_take (i := 13) (v := ?va82) rfl (by kernel_rfl) (fun _ _ _ h => h) (Or.inl ⟨by rfl, ?hy82⟩) (by assumption) ?ra82
                case hy82 => (intro w hSw; (try dsimp only at hSw); have a0 := hSw.cell a0 (fun _ => id); have a1 := hSw.cell a1 (fun _ => id); have a2 := hSw.cell a2 (fun _ => id); have a3 := hSw.cell a3 (fun _ => id); have b1 := hSw.cell b1 (fun _ => id); have b2 := hSw.cell b2 (fun _ => id); clear hSw; go_simp; all_goals (with_reducible rfl))
                simp only [Act.put, List.setIfInBounds_toArray, List.set_cons_zero, List.set_cons_succ]
                refine wpAnyG_take (i := 14) (v := ?va83) rfl (by kernel_rfl) (fun _ _ _ h => h) (Or.inl ⟨by rfl, ?hy83⟩) (by assumption) ?ra83
                case hy83 => (intro w hSw; (try dsimp only at hSw); have a0 := hSw.cell a0 (fun _ => id); have a1 := hSw.cell a1 (fun _ => id); have a2 := hSw.cell a2 (fun _ => id); have a3 := hSw.cell a3 (fun _ => id); have b1 := hSw.cell b1 (fun _ => id); have b2 := hSw.cell b2 (fun _ => id); clear hSw; go_simp; all_goals (with_reducible rfl))
                simp only [Act.put, List.setIfInBounds_toArray, List.set_cons_zero, List.set_cons_succ]
                refine wpAnyG_take (i := 15) (v := ?va84) rfl (by kernel_rfl) (fun _ _ _ h => h) (Or.inl ⟨by rfl, ?hy84⟩) (by assumption) ?ra84
                case hy84 => (intro w hSw; (try dsimp only at hSw); have a0 := hSw.cell a0 (fun _ => id); have a1 := hSw.cell a1 (fun _ => id); have a2 := hSw.cell a2 (fun _ => id); have a3 := hSw.cell a3 (fun _ => id); have b1 := hSw.cell b1 (fun _ => id); have b2 := hSw.cell b2 (fun _ => id); clear hSw; go_simp; all_goals (with_reducible rfl))
                simp only [Act.put, List.setIfInBounds_toArray, List.set_cons_zero, List.set_cons_succ]
                have hm := MA.out.same hHeld
                have MB := Lib.hid hm
                have HH := Lib.hid hHeld
                clear hm
                refine wpAnyG_last rfl (by kernel_rfl) (by kernel_rfl) (fun K hK => ?_)
                go_simp
                go_at_call 52
                refine (MB.out.pure (b := true)).mono ?_
                rintro e w7 hp
                obtain ⟨rfl, rfl⟩ := hp.ok rfl
                clear hp c1
                refine hK.out _ _ ?_
                clear hK K
                try simp only [Act.put, List.setIfInBounds_toArray, List.set_cons_zero, List.set_cons_succ]
                clear z0 z1 z2 z3 z4
                obtain ⟨z0, z1, z2, z3, z4⟩ := MB.out.cells
                have a2 := HH.out.cell a2 (fun _ => id)
                have EN := Lib.hid (needN_ok (s := s5) (show true = true from rfl))
                have HL2 := Lib.hid (IntsR.keep HL.out.2.1 HH.out (fun _ _ _ h => h))
                clear a0 a1 a3 b1 b2
                go_wp2_with fail
                refine (mid_wants (k := k + 2) G.caps HL2.out HG.out.2.2.2.2.2.2.2.2.2.1 MB.out).mono fun e v7 hh => ?_
                rcases hq : wantsN G.caps s5 with _ | s7
                · obtain ⟨rfl, hc⟩ := hh.none_ hq
                  have EB := Lib.hid hq
                  have CB := Lib.hid hc
                  clear hh hq hc
                  go_wp2_with fail
                  exact ⟨rfl, OutO.bad CB.out (by simp only [op20, inB, Option.bind_some, Option.bind_none, Option.map_some, Option.map_none, Bool.true_and, Bool.false_and, Bool.and_true, Bool.and_false, Bool.false_or, Bool.true_or, Bool.or_false, Bool.or_true, if_false, if_true, E0.out, E2.out, E4.out, E5.out, HGN.out, HPN.out, Q1.out, Q2.out, EN.out, EB.out])⟩
                · obtain ⟨rfl, hm⟩ := hh.some_ hq
                  clear z0 z1 z2 z3 z4
                  obtain ⟨z0, z1, z2, z3, z4⟩ := hm.cells
                  have E7 := Lib.hid hq
                  have M7 := Lib.hid hm
                  clear hh hq hm
                  go_wp2_with fail
                  refine (mid_push (k := k) (nb : Int) HG.out.2.2.2.2.2.1 M7.out).mono fun e v8 hh => ?_
                  rcases hq : pushN (nb : Int) s7 with _ | s8
                  · obtain ⟨rfl, hc⟩ := hh.none_ hq
                    have EB := Lib.hid hq
                    have CB := Lib.hid hc
                    clear hh hq hc
                    go_wp2_with fail
                    exact ⟨rfl, OutO.bad CB.out (by simp only [op20, inB, Option.bind_some, Option.bind_none, Option.map_some, Option.map_none, Bool.true_and, Bool.false_and, Bool.and_true, Bool.and_false, Bool.false_or, Bool.true_or, Bool.or_false, Bool.or_true, if_false, if_true, E0.out, E2.out, E4.out, E5.out, HGN.out, HPN.out, Q1.out, Q2.out, EN.out, E7.out, EB.out])⟩
                  · obtain ⟨rfl, hm⟩ := hh.some_ hq
                    clear z0 z1 z2 z3 z4
                    obtain ⟨z0, z1, z2, z3, z4⟩ := hm.cells
                    have E8 := Lib.hid hq
                    have M8 := Lib.hid hm
                    clear hh hq hm
                    go_wp2_with fail
                    go_ret
                    exact OutO.good (M8.out.less (by omega)) (by simp only [op20, inB, Option.bind_some, Option.bind_none, Option.map_some, Option.map_none, Bool.true_and, Bool.false_and, Bool.and_true, Bool.and_false, Bool.false_or, Bool.true_or, Bool.or_false, Bool.or_true, if_false, if_true, E0.out, E2.out, E4.out, E5.out, HGN.out, HPN.out, Q1.out, Q2.out, EN.out, E7.out, E8.out])
          · go_simp
            refine hK.out _ _ (hHeld.alloc _) (fun hHeld => ?_)
            clear hK K
            try simp only [Act.put, List.setIfInBounds_toArray, List.set_cons_zero, List.set_cons_succ]
            refine wpAnyG_ready (rs := [18]) (by kernel_rfl) (by simp) ?_
            refine AllReadyG.cons rfl (fun K hK => ?_) AllReadyG.nil
            go_simp
            refine hK.out _ _ (hHeld.alloc _) (fun hHeld => ?_)
            clear hK K
            try simp only [Act.put, List.setIfInBounds_toArray, List.set_cons_zero, List.set_cons_succ]
            refine wpAnyG_ready (rs := [20]) (by kernel_rfl) (by simp) ?_
            refine AllReadyG.cons rfl (fun K hK => ?_) AllReadyG.nil
            go_simp
            refine hK.out _ _ ((chg_alloc v5 (.cells #[.int .i64 0, .slice none 0 0, .int .i64 0] 37)).alloc _).drew (fun hHeld => ?_)
            clear hK K
            try simp only [Act.put, List.setIfInBounds_toArray, List.set_cons_zero, List.set_cons_succ]
            refine wpAnyG_last rfl (by kernel_rfl) (by kernel_rfl) (fun K hK => ?_)
            go_simp
            refine hK.out _ _ ?_
            clear hK K
            try simp only [Act.put, List.setIfInBounds_toArray, List.set_cons_zero, List.set_cons_succ]
            clear hHeld
            have ha := ((Blk.new v5 37 #[.int .i64 (kindN h.m.types (nb : Int)), .slice TA (listN h.m.types (nb : Int)).length tc, .int .i64 (resN h.m.types (nb : Int))]).alloc (.cells #[.int .i64 (pn : Int), .slice F1 G.locals.length f1, .slice F2 G.caps.length f2, .int .i64 G.res, .slice F3 G.code.length f3] 34)).drew
            have hb := (Blk.new (v5.alloc (.cells #[.int .i64 (kindN h.m.types (nb : Int)), .slice TA (listN h.m.types (nb : Int)).length tc, .int .i64 (resN h.m.types (nb : Int))] 37)) 34 #[.int .i64 (pn : Int), .slice F1 G.locals.length f1, .slice F2 G.caps.length f2, .int .i64 G.res, .slice F3 G.code.length f3]).drew
            rw [World.size_alloc] at hb
            have hch := ((chg_alloc v5 (.cells #[.int .i64 (kindN h.m.types (nb : Int)), .slice TA (listN h.m.types (nb : Int)).length tc, .int .i64 (resN h.m.types (nb : Int))] 37)).alloc (.cells #[.int .i64 (pn : Int), .slice F1 G.locals.length f1, .slice F2 G.caps.length f2, .int .i64 G.res, .slice F3 G.code.length f3] 34)).drew
            have hm := M5.out.same hch
            clear z0 z1 z2 z3 z4
            obtain ⟨z0, z1, z2, z3, z4⟩ := hm.cells
            clear d0 d1 g0 g1 g2 g3 g4 e0 e1 e2
            have HCH := Lib.hid hch
            have MA := Lib.hid hm
            have hb5 := hb
            have hb6 := ha
            clear ha hb hm hch
            generalize ((v5.alloc (.cells #[.int .i64 (kindN h.m.types (nb : Int)), .slice TA (listN h.m.types (nb : Int)).length tc, .int .i64 (resN h.m.types (nb : Int))] 37)).alloc (.cells #[.int .i64 (pn : Int), .slice F1 G.locals.length f1, .slice F2 G.caps.length f2, .int .i64 G.res, .slice F3 G.code.length f3] 34)).drew = w5 at *
            generalize hg5 : (v5.heap.size + 1) = g5 at *
            generalize hg6 : v5.heap.size = g6 at *
            clear hg5 hg6
            have a0 : w5.cell? ⟨g5, 0, none⟩ = some (.int .i64 (pn : Int)) := by simpa using hb5.cell 0
            have a1 : w5.cell? ⟨g5, 1, none⟩ = some (.slice F1 G.locals.length f1) := by simpa using hb5.cell 1
            have a2 : w5.cell? ⟨g5, 2, none⟩ = some (.slice F2 G.caps.length f2) := by simpa using hb5.cell 2
            have a3 : w5.cell? ⟨g5, 3, none⟩ = some (.int .i64 G.res) := by simpa using hb5.cell 3
            have b1 : w5.cell? ⟨g6, 1, none⟩ = some (.slice TA (listN h.m.types (nb : Int)).length tc) := by simpa using hb6.cell 1
            have b2 : w5.cell? ⟨g6, 2, none⟩ = some (.int .i64 (resN h.m.types (nb : Int))) := by simpa using hb6.cell 2
            have hpc : pn ≤ f1 := Nat.le_trans hpl hlc.2
            have hpc2 : (pn : Int) ≤ (f1 : Int) := by omega
            have hL1 := IntsR.keep HG.out.2.2.1 HCH.out (fun _ _ _ h => h)
            have hL2 := IntsR.keep HG.out.2.2.2.1 HCH.out (fun _ _ _ h => h)
            have hL3 := IntsR.keep HG.out.2.2.2.2.1 HCH.out (fun _ _ _ h => h)
            have HL := Lib.hid (And.intro hL1 (And.intro hL2 (And.intro hL3 hpl)))
            clear hb5 hb6 hL1 hL2 hL3 hpl hlc p1 p2 q1 q2
            cases hq : sameL sameInt (G.locals.take pn) (listN h.m.types (nb : Int))
            · have Q1 := Lib.hid hq
              have HGN := Lib.hid HG.out.1
              have HPN := Lib.hid HG.out.2.1
              have c1 := eqInts_any (w5.drew) h.B F1 TA pn f1 (listN h.m.types (nb : Int)).length tc (G.locals.take pn) (listN h.m.types (nb : Int)) (IntsR.keep (SlR.take_ HL.out.1 HL.out.2.2.2) (Chg.refl (fun _ _ => False) w5).drew (fun _ _ _ h => h)) (IntsR.keep HL.out.2.2.1 (Chg.refl (fun _ _ => False) w5).drew (fun _ _ _ h => h)) (by have := HL.out.2.2.2; have := HG.out.2.2.2.2.2.2.2.2.1; omega) (by have := (list_valid MA.out.fix HG.out.2.2.2.2.2.1).2; omega)
              rw [Q1.out] at c1
              go_wp2_with fail
              refine wp_region_G (S := (fun w' => Chg (fun _ _ => False) w5 w')) 16 (by kernel_rfl) (Chg.refl _ _).drew (fun hHeld => ?_)
              refine wpAnyG_take (i := 0) (v := ?va85) rfl (by kernel_rfl) (fun _ _ _ h => h) (Or.inl ⟨by rfl, ?hy85⟩) (by assumption) ?ra85
              case hy85 => (intro w hSw; (try dsimp only at hSw); have a0 := hSw.cell a0 (fun _ => id); have a1 := hSw.cell a1 (fun _ => id); have a2 := hSw.cell a2 (fun _ => id); have a3 := hSw.cell a3 (fun _ => id); have b1 := hSw.cell b1 (fun _ => id); have b2 := hSw.cell b2 (fun _ => id); clear hSw; go_simp; all_goals (with_reducible rfl))
              simp only [Act.put, List.setIfInBounds_toArray, List.set_cons_zero, List.set_cons_succ]
              refine wpAnyG_take (i := 1) (v := ?va86) rfl (by kernel_rfl) (fun _ _ _ h => h) (Or.inl ⟨by rfl, ?hy86⟩) (by assumption) ?ra86
              case hy86 => (intro w hSw; (try dsimp only at hSw); have a0 := hSw.cell a0 (fun _ => id); have a1 := hSw.cell a1 (fun _ => id); have a2 := hSw.cell a2 (fun _ => id); have a3 := hSw.cell a3 (fun _ => id); have b1 := hSw.cell b1 (fun _ => id); have b2 := hSw.cell b2 (fun _ => id); clear hSw; go_simp; all_goals (with_reducible rfl))
              simp only [Act.put, List.setIfInBounds_toArray, List.set_cons_zero, List.set_cons_succ]
              refine wpAnyG_take (i := 2) (v := ?va87) rfl (by kernel_rfl) (fun _ _ _ h => h) (Or.inl ⟨by rfl, ?hy87⟩) (by assumption) ?ra87
              case hy87 => (intro w hSw; (try dsimp only at hSw); have a0 := hSw.cell a0 (fun _ => id); have a1 := hSw.cell a1 (fun _ => id); have a2 := hSw.cell a2 (fun _ => id); have a3 := hSw.cell a3 (fun _ => id); have b1 := hSw.cell b1 (fun _ => id); have b2 := hSw.cell b2 (fun _ => id); clear hSw; go_simp; all_goals (with_reducible rfl))
              simp only [Act.put, List.setIfInBounds_toArray, List.set_cons_zero, List.set_cons_succ]
              refine wpAnyG_take (i := 3) (v := ?va88) rfl (by kernel_rfl) (fun _ _ _ h => h) (Or.inl ⟨by rfl, ?hy88⟩) (by assumption) ?ra88
              case hy88 => (intro w hSw; (try dsimp only at hSw); have a0 := hSw.cell a0 (fun _ => id); have a1 := hSw.cell a1 (fun _ => id); have a2 := hSw.cell a2 (fun _ => id); have a3 := hSw.cell a3 (fun _ => id); have b1 := hSw.cell b1 (fun _ => id); have b2 := hSw.cell b2 (fun _ => id); clear hSw; go_simp; all_goals (with_reducible rfl))
              simp only [Act.put, List.setIfInBounds_toArray, List.set_cons_zero, List.set_cons_succ]
              refine wpAnyG_take (i := 4) (v := ?va89) rfl (by kernel_rfl) (fun _ _ _ h => h) (Or.inl ⟨by rfl, ?hy89⟩) (by assumption) ?ra89
              case hy89 => (intro w hSw; (try dsimp only at hSw); have a0 := hSw.cell a0 (fun _ => id); have a1 := hSw.cell a1 (fun _ => id); have a2 := hSw.cell a2 (fun _ => id); have a3 := hSw.cell a3 (fun _ => id); have b1 := hSw.cell b1 (fun _ => id); have b2 := hSw.cell b2 (fun _ => id); clear hSw; go_simp; all_goals (with_reducible rfl))
              simp only [Act.put, List.setIfInBounds_toArray, List.set_cons_zero, List.set_cons_succ]
              refine wpAnyG_take (i := 5) (v := ?va90) rfl (by kernel_rfl) (fun _ _ _ h => h) (Or.inl ⟨by rfl, ?hy90⟩) (by assumption) ?ra90
              case hy90 => (intro w hSw; (try dsimp only at hSw); have a0 := hSw.cell a0 (fun _ => id); have a1 := hSw.cell a1 (fun _ => id); have a2 := hSw.cell a2 (fun _ => id); have a3 := hSw.cell a3 (fun _ => id); have b1 := hSw.cell b1 (fun _ => id); have b2 := hSw.cell b2 (fun _ => id); clear hSw; go_simp; all_goals (with_reducible rfl))
              simp only [Act.put, List.setIfInBounds_toArray, List.set_cons_zero, List.set_cons_succ]
              refine wpAnyG_take (i := 6) (v := ?va91) rfl (by kernel_rfl) (fun _ _ _ h => h) (Or.inl ⟨by rfl, ?hy91⟩) (by assumption) ?ra91
              case hy91 => (intro w hSw; (try dsimp only at hSw); have a0 := hSw.cell a0 (fun _ => id); have a1 := hSw.cell a1 (fun _ => id); have a2 := hSw.cell a2 (fun _ => id); have a3 := hSw.cell a3 (fun _ => id); have b1 := hSw.cell b1 (fun _ => id); have b2 := hSw.cell b2 (fun _ => id); clear hSw; go_simp; all_goals (with_reducible rfl))
              simp only [Act.put, List.setIfInBounds_toArray, List.set_cons_zero, List.set_cons_succ]
              refine wpAnyG_take (i := 7) (v := ?va92) rfl (by kernel_rfl) (fun _ _ _ h => h) (Or.inl ⟨by rfl, ?hy92⟩) (by assumption) ?ra92
              case hy92 => (intro w hSw; (try dsimp only at hSw); have a0 := hSw.cell a0 (fun _ => id); have a1 := hSw.cell a1 (fun _ => id); have a2 := hSw.cell a2 (fun _ => id); have a3 := hSw.cell a3 (fun _ => id); have b1 := hSw.cell b1 (fun _ => id); have b2 := hSw.cell b2 (fun _ => id); clear hSw; go_simp; all_goals (with_reducible rfl))
              simp only [Act.put, List.setIfInBounds_toArray, List.set_cons_zero, List.set_cons_succ]
              refine wpAnyG_ready (rs := [8]) (by kernel_rfl) (by simp) ?_
              refine AllReadyG.cons rfl (fun K hK => ?_) AllReadyG.nil
              go_simp
              go_at_call 72
              refine c1.mono ?_
              rintro e w6 hh
              obtain ⟨rfl, hq6⟩ := hh.res
              refine hK.out _ _ (hHeld.trans hq6) (fun hHeld => ?_)
              clear hK K
              try simp only [Act.put, List.setIfInBounds_toArray, List.set_cons_zero, List.set_cons_succ]
              refine wpAnyG_take (i := 9) (v := ?va93) rfl (by kernel_rfl) (fun _ _ _ h => h) (Or.inl ⟨by rfl, ?hy93⟩) (by assumption) ?ra93
              case hy93 => (intro w hSw; (try dsimp only at hSw); have a0 := hSw.cell a0 (fun _ => id); have a1 := hSw.cell a1 (fun _ => id); have a2 := hSw.cell a2 (fun _ => id); have a3 := hSw.cell a3 (fun _ => id); have b1 := hSw.cell b1 (fun _ => id); have b2 := hSw.cell b2 (fun _ => id); clear hSw; go_simp; all_goals (with_reducible rfl))
              simp only [Act.put, List.setIfInBounds_toArray, List.set_cons_zero, List.set_cons_succ]
              refine wpAnyG_take (i := 10) (v := undef) rfl (by kernel_rfl) (fun _ _ _ h => h) (Or.inr ⟨by rfl, rfl⟩) (by assumption) ?ra94
              simp only [Act.put, List.setIfInBounds_toArray, List.set_cons_zero, List.set_cons_succ]
              refine wpAnyG_take (i := 11) (v := undef) rfl (by kernel_rfl) (fun _ _ _ h => h) (Or.inr ⟨by rfl, rfl⟩) (by assumption) ?ra95
              simp only [Act.put, List.setIfInBounds_toArray, List.set_cons_zero, List.set_cons_succ]
              refine wpAnyG_take (i := 12) (v := undef) rfl (by kernel_rfl) (fun _ _ _ h => h) (Or.inr ⟨by rfl, rfl⟩) (by assumption) ?ra96
              simp only [Act.put, List.setIfInBounds_toArray, List.set_cons_zero, List.set_cons_succ]
              refine wpAnyG_take (i := 13) (v := undef) rfl (by kernel_rfl) (fun _ _ _ h => h) (Or.inr ⟨by rfl, rfl⟩) (by assumption) ?ra97
              simp only [Act.put, List.setIfInBounds_toArray, List.set_cons_zero, List.set_cons_succ]
              refine wpAnyG_take (i := 14) (v := undef) rfl (by kernel_rfl) (fun _ _ _ h => h) (Or.inr ⟨by rfl, rfl⟩) (by assumption) ?ra98
              simp only [Act.put, List.setIfInBounds_toArray, List.set_cons_zero, List.set_cons_succ]
              refine wpAnyG_take (i := 15) (v := ?va99) rfl (by kernel_rfl) (fun _ _ _ h => h) (Or.inl ⟨by rfl, ?hy99⟩) (by assumption) ?ra99
              case hy99 => (intro w hSw; (try dsimp only at hSw); have a0 := hSw.cell a0 (fun _ => id); have a1 := hSw.cell a1 (fun _ => id); have a2 := hSw.cell a2 (fun _ => id); have a3 := hSw.cell a3 (fun _ => id); have b1 := hSw.cell b1 (fun _ => id); have b2 := hSw.cell b2 (fun _ => id); clear hSw; go_simp; all_goals (with_reducible rfl))
              simp only [Act.put, List.setIfInBounds_toArray, List.set_cons_zero, List.set_cons_succ]
              have hm := MA.out.same hHeld
              have MB := Lib.hid hm
              have HH := Lib.hid hHeld
              clear hm
              refine wpAnyG_last rfl (by kernel_rfl) (by kernel_rfl) (fun K hK => ?_)
              go_simp
              go_at_call 52
              refine (MB.out.pure (b := false)).mono ?_
              rintro e w7 hp
              obtain ⟨rfl, rfl⟩ := hp.bad rfl
              exact ⟨rfl, OutO.bad MB.out.chg (by simp only [op20, inB, Option.bind_some, Option.bind_none, Option.map_some, Option.map_none, Bool.true_and, Bool.false_and, Bool.and_true, Bool.and_false, Bool.false_or, Bool.true_or, Bool.or_false, Bool.or_true, if_false, if_true, E0.out, E2.out, E4.out, E5.out, HGN.out, HPN.out, Q1.out, needN_false])⟩
            · have Q1 := Lib.hid hq
              cases hr : (G.res == resN h.m.types (nb : Int))
              · have Q2 := Lib.hid hr
                have HGN := Lib.hid HG.out.1
                have HPN := Lib.hid HG.out.2.1
                have c1 := eqInts_any (w5.drew) h.B F1 TA pn f1 (listN h.m.types (nb : Int)).length tc (G.locals.take pn) (listN h.m.types (nb : Int)) (IntsR.keep (SlR.take_ HL.out.1 HL.out.2.2.2) (Chg.refl (fun _ _ => False) w5).drew (fun _ _ _ h => h)) (IntsR.keep HL.out.2.2.1 (Chg.refl (fun _ _ => False) w5).drew (fun _ _ _ h => h)) (by have := HL.out.2.2.2; have := HG.out.2.2.2.2.2.2.2.2.1; omega) (by have := (list_valid MA.out.fix HG.out.2.2.2.2.2.1).2; omega)
                rw [Q1.out] at c1
                go_wp2_with fail
                refine wp_region_G (S := (fun w' => Chg (fun _ _ => False) w5 w')) 16 (by kernel_rfl) (Chg.refl _ _).drew (fun hHeld => ?_)
                refine wpAnyG_take (i := 0) (v := ?va100) rfl (by kernel_rfl) (fun _ _ _ h => h) (Or.inl ⟨by rfl, ?hy100⟩) (by assumption) ?ra100
                case hy100 => (intro w hSw; (try dsimp only at hSw); have a0 := hSw.cell a0 (fun _ => id); have a1 := hSw.cell a1 (fun _ => id); have a2 := hSw.cell a2 (fun _ => id); have a3 := hSw.cell a3 (fun _ => id); have b1 := hSw.cell b1 (fun _ => id); have b2 := hSw.cell b2 (fun _ => id); clear hSw; go_simp; all_goals (with_reducible rfl))
                simp only [Act.put, List.setIfInBounds_toArray, List.set_cons_zero, List.set_cons_succ]
                refine wpAnyG_take (i := 1) (v := ?va101) rfl (by kernel_rfl) (fun _ _ _ h => h) (Or.inl ⟨by rfl, ?hy101⟩) (by assumption) ?ra101
                case hy101 => (intro w hSw; (try dsimp only at hSw); have a0 := hSw.cell a0 (fun _ => id); have a1 := hSw.cell a1 (fun _ => id); have a2 := hSw.cell a2 (fun _ => id); have a3 := hSw.cell a3 (fun _ => id); have b1 := hSw.cell b1 (fun _ => id); have b2 := hSw.cell b2 (fun _ => id); clear hSw; go_simp; all_goals (with_reducible rfl))
                simp only [Act.put, List.setIfInBounds_toArray, List.set_cons_zero, List.set_cons_succ]
                refine wpAnyG_take (i := 2) (v := ?va102) rfl (by kernel_rfl) (fun _ _ _ h => h) (Or.inl ⟨by rfl, ?hy102⟩) (by assumption) ?ra102
                case hy102 => (intro w hSw; (try dsimp only at hSw); have a0 := hSw.cell a0 (fun _ => id); have a1 := hSw.cell a1 (fun _ => id); have a2 := hSw.cell a2 (fun _ => id); have a3 := hSw.cell a3 (fun _ => id); have b1 := hSw.cell b1 (fun _ => id); have b2 := hSw.cell b2 (fun _ => id); clear hSw; go_simp; all_goals (with_reducible rfl))
                simp only [Act.put, List.setIfInBounds_toArray, List.set_cons_zero, List.set_cons_succ]
                refine wpAnyG_take (i := 3) (v := ?va103) rfl (by kernel_rfl) (fun _ _ _ h => h) (Or.inl ⟨by rfl, ?hy103⟩) (by assumption) ?ra103
                case hy103 => (intro w hSw; (try dsimp only at hSw); have a0 := hSw.cell a0 (fun _ => id); have a1 := hSw.cell a1 (fun _ => id); have a2 := hSw.cell a2 (fun _ => id); have a3 := hSw.cell a3 (fun _ => id); have b1 := hSw.cell b1 (fun _ => id); have b2 := hSw.cell b2 (fun _ => id); clear hSw; go_simp; all_goals (with_reducible rfl))
                simp only [Act.put, List.setIfInBounds_toArray, List.set_cons_zero, List.set_cons_succ]
                refine wpAnyG_take (i := 4) (v := ?va104) rfl (by kernel_rfl) (fun _ _ _ h => h) (Or.inl ⟨by rfl, ?hy104⟩) (by assumption) ?ra104
                case hy104 => (intro w hSw; (try dsimp only at hSw); have a0 := hSw.cell a0 (fun _ => id); have a1 := hSw.cell a1 (fun _ => id); have a2 := hSw.cell a2 (fun _ => id); have a3 := hSw.cell a3 (fun _ => id); have b1 := hSw.cell b1 (fun _ => id); have b2 := hSw.cell b2 (fun _ => id); clear hSw; go_simp; all_goals (with_reducible rfl))
                simp only [Act.put, List.setIfInBounds_toArray, List.set_cons_zero, List.set_cons_succ]
                refine wpAnyG_take (i := 5) (v := ?va105) rfl (by kernel_rfl) (fun _ _ _ h => h) (Or.inl ⟨by rfl, ?hy105⟩) (by assumption) ?ra105
                case hy105 => (intro w hSw; (try dsimp only at hSw); have a0 := hSw.cell a0 (fun _ => id); have a1 := hSw.cell a1 (fun _ => id); have a2 := hSw.cell a2 (fun _ => id); have a3 := hSw.cell a3 (fun _ => id); have b1 := hSw.cell b1 (fun _ => id); have b2 := hSw.cell b2 (fun _ => id); clear hSw; go_simp; all_goals (with_reducible rfl))
                simp only [Act.put, List.setIfInBounds_toArray, List.set_cons_zero, List.set_cons_succ]
                refine wpAnyG_take (i := 6) (v := ?va106) rfl (by kernel_rfl) (fun _ _ _ h => h) (Or.inl ⟨by rfl, ?hy106⟩) (by assumption) ?ra106
                case hy106 => (intro w hSw; (try dsimp only at hSw); have a0 := hSw.cell a0 (fun _ => id); have a1 := hSw.cell a1 (fun _ => id); have a2 := hSw.cell a2 (fun _ => id); have a3 := hSw.cell a3 (fun _ => id); have b1 := hSw.cell b1 (fun _ => id); have b2 := hSw.cell b2 (fun _ => id); clear hSw; go_simp; all_goals (with_reducible rfl))
                simp only [Act.put, List.setIfInBounds_toArray, List.set_cons_zero, List.set_cons_succ]
                refine wpAnyG_take (i := 7) (v := ?va107) rfl (by kernel_rfl) (fun _ _ _ h => h) (Or.inl ⟨by rfl, ?hy107⟩) (by assumption) ?ra107
                case hy107 => (intro w hSw; (try dsimp only at hSw); have a0 := hSw.cell a0 (fun _ => id); have a1 := hSw.cell a1 (fun _ => id); have a2 := hSw.cell a2 (fun _ => id); have a3 := hSw.cell a3 (fun _ => id); have b1 := hSw.cell b1 (fun _ => id); have b2 := hSw.cell b2 (fun _ => id); clear hSw; go_simp; all_goals (with_reducible rfl))
                simp only [Act.put, List.setIfInBounds_toArray, List.set_cons_zero, List.set_cons_succ]
                refine wpAnyG_ready (rs := [8]) (by kernel_rfl) (by simp) ?_
                refine AllReadyG.cons rfl (fun K hK => ?_) AllReadyG.nil
                go_simp
                go_at_call 72
                refine c1.mono ?_
                rintro e w6 hh
                obtain ⟨rfl, hq6⟩ := hh.res
                refine hK.out _ _ (hHeld.trans hq6) (fun hHeld => ?_)
                clear hK K
                try simp only [Act.put, List.setIfInBounds_toArray, List.set_cons_zero, List.set_cons_succ]
                refine wpAnyG_take (i := 9) (v := ?va108) rfl (by kernel_rfl) (fun _ _ _ h => h) (Or.inl ⟨by rfl, ?hy108⟩) (by assumption) ?ra108
                case hy108 => (intro w hSw; (try dsimp only at hSw); have a0 := hSw.cell a0 (fun _ => id); have a1 := hSw.cell a1 (fun _ => id); have a2 := hSw.cell a2 (fun _ => id); have a3 := hSw.cell a3 (fun _ => id); have b1 := hSw.cell b1 (fun _ => id); have b2 := hSw.cell b2 (fun _ => id); clear hSw; go_simp; all_goals (with_reducible rfl))
                simp only [Act.put, List.setIfInBounds_toArray, List.set_cons_zero, List.set_cons_succ]
                refine wpAnyG_take (i := 10) (v := ?va109) rfl (by kernel_rfl) (fun _ _ _ h => h) (Or.inl ⟨by rfl, ?hy109⟩) (by assumption) ?ra109
                case hy109 => (intro w hSw; (try dsimp only at hSw); have a0 := hSw.cell a0 (fun _ => id); have a1 := hSw.cell a1 (fun _ => id); have a2 := hSw.cell a2 (fun _ => id); have a3 := hSw.cell a3 (fun _ => id); have b1 := hSw.cell b1 (fun _ => id); have b2 := hSw.cell b2 (fun _ => id); clear hSw; go_simp; all_goals (with_reducible rfl))
                simp only [Act.put, List.setIfInBounds_toArray, List.set_cons_zero, List.set_cons_succ]
                refine wpAnyG_take (i := 11) (v := ?va110) rfl (by kernel_rfl) (fun _ _ _ h => h) (Or.inl ⟨by rfl, ?hy110⟩) (by assumption) ?ra110
                case hy110 => (intro w hSw; (try dsimp only at hSw); have a0 := hSw.cell a0 (fun _ => id); have a1 := hSw.cell a1 (fun _ => id); have a2 := hSw.cell a2 (fun _ => id); have a3 := hSw.cell a3 (fun _ => id); have b1 := hSw.cell b1 (fun _ => id); have b2 := hSw.cell b2 (fun _ => id); clear hSw; go_simp; all_goals (with_reducible rfl))
                simp only [Act.put, List.setIfInBounds_toArray, List.set_cons_zero, List.set_cons_succ]
                refine wpAnyG_take (i := 12) (v := ?va111) rfl (by kernel_rfl) (fun _ _ _ h => h) (Or.inl ⟨by rfl, ?hy111⟩) (by assumption) ?ra111
                case hy111 => (intro w hSw; (try dsimp only at hSw); have a0 := hSw.cell a0 (fun _ => id); have a1 := hSw.cell a1 (fun _ => id); have a2 := hSw.cell a2 (fun _ => id); have a3 := hSw.cell a3 (fun _ => id); have b1 := hSw.cell b1 (fun _ => id); have b2 := hSw.cell b2 (fun _ => id); clear hSw; go_simp; all_goals (with_reducible rfl))
                simp only [Act.put, List.setIfInBounds_toArray, List.set_cons_zero, List.set_cons_succ]
                refine wpAnyG_take (i := 13) (v := ?va112) rfl (by kernel_rfl) (fun _ _ _ h => h) (Or.inl ⟨by rfl, ?hy112⟩) (by assumption) ?ra112
                case hy112 => (intro w hSw; (try dsimp only at hSw); have a0 := hSw.cell a0 (fun _ => id); have a1 := hSw.cell a1 (fun _ => id); have a2 := hSw.cell a2 (fun _ => id); have a3 := hSw.cell a3 (fun _ => id); have b1 := hSw.cell b1 (fun _ => id); have b2 := hSw.cell b2 (fun _ => id); clear hSw; go_simp; all_goals (with_reducible rfl))
                simp only [Act.put, List.setIfInBounds_toArray, List.set_cons_zero, List.set_cons_succ]
                refine wpAnyG_take (i := 14) (v := ?va113) rfl (by kernel_rfl) (fun _ _ _ h => h) (Or.inl ⟨by rfl, ?hy113⟩) (by assumption) ?ra113
                case hy113 => (intro w hSw; (try dsimp only at hSw); have a0 := hSw.cell a0 (fun _ => id); have a1 := hSw.cell a1 (fun _ => id); have a2 := hSw.cell a2 (fun _ => id); have a3 := hSw.cell a3 (fun _ => id); have b1 := hSw.cell b1 (fun _ => id); have b2 := hSw.cell b2 (fun _ => id); clear hSw; go_simp; all_goals (with_reducible rfl))
                simp only [Act.put, List.setIfInBounds_toArray, List.set_cons_zero, List.set_cons_succ]
                refine wpAnyG_take (i := 15) (v := ?va114) rfl (by kernel_rfl) (fun _ _ _ h => h) (Or.inl ⟨by rfl, ?hy114⟩) (by assumption) ?ra114
                case hy114 => (intro w hSw; (try dsimp only at hSw); have a0 := hSw.cell a0 (fun _ => id); have a1 := hSw.cell a1 (fun _ => id); have a2 := hSw.cell a2 (fun _ => id); have a3 := hSw.cell a3 (fun _ => id); have b1 := hSw.cell b1 (fun _ => id); have b2 := hSw.cell b2 (fun _ => id); clear hSw; go_simp; all_goals (with_reducible rfl))
                simp only [Act.put, List.setIfInBounds_toArray, List.set_cons_zero, List.set_cons_succ]
                have hm := MA.out.same hHeld
                have MB := Lib.hid hm
                have HH := Lib.hid hHeld
                clear hm
                refine wpAnyG_last rfl (by kernel_rfl) (by kernel_rfl) (fun K hK => ?_)
                go_simp
                go_at_call 52
                refine (MB.out.pure (b := false)).mono ?_
                rintro e w7 hp
                obtain ⟨rfl, rfl⟩ := hp.bad rfl
                exact ⟨rfl, OutO.bad MB.out.chg (by simp only [op20, inB, Option.bind_some, Option.bind_none, Option.map_some, Option.map_none, Bool.true_and, Bool.false_and, Bool.and_true, Bool.and_false, Bool.false_or, Bool.true_or, Bool.or_false, Bool.or_true, if_false, if_true, E0.out, E2.out, E4.out, E5.out, HGN.out, HPN.out, Q1.out, Q2.out, needN_false])⟩
              · have Q2 := Lib.hid hr
                have HGN := Lib.hid HG.out.1
                have HPN := Lib.hid HG.out.2.1
                have c1 := eqInts_any (w5.drew) h.B F1 TA pn f1 (listN h.m.types (nb : Int)).length tc (G.locals.take pn) (listN h.m.types (nb : Int)) (IntsR.keep (SlR.take_ HL.out.1 HL.out.2.2.2) (Chg.refl (fun _ _ => False) w5).drew (fun _ _ _ h => h)) (IntsR.keep HL.out.2.2.1 (Chg.refl (fun _ _ => False) w5).drew (fun _ _ _ h => h)) (by have := HL.out.2.2.2; have := HG.out.2.2.2.2.2.2.2.2.1; omega) (by have := (list_valid MA.out.fix HG.out.2.2.2.2.2.1).2; omega)
                rw [Q1.out] at c1
                go_wp2_with fail
                refine wp_region_G (S := (fun w' => Chg (fun _ _ => False) w5 w')) 16 (by kernel_rfl) (Chg.refl _ _).drew (fun hHeld => ?_)
                refine wpAnyG_take (i := 0) (v := ?va115) rfl (by kernel_rfl) (fun _ _ _ h => h) (Or.inl ⟨by rfl, ?hy115⟩) (by assumption) ?ra115
                case hy115 => (intro w hSw; (try dsimp only at hSw); have a0 := hSw.cell a0 (fun _ => id); have a1 := hSw.cell a1 (fun _ => id); have a2 := hSw.cell a2 (fun _ => id); have a3 := hSw.cell a3 (fun _ => id); have b1 := hSw.cell b1 (fun _ => id); have b2 := hSw.cell b2 (fun _ => id); clear hSw; go_simp; all_goals (with_reducible rfl))
                simp only [Act.put, List.setIfInBounds_toArray, List.set_cons_zero, List.set_cons_succ]
                refine wpAnyG_take (i := 1) (v := ?va116) rfl (by kernel_rfl) (fun _ _ _ h => h) (Or.inl ⟨by rfl, ?hy116⟩) (by assumption) ?ra116
                case hy116 => (intro w hSw; (try dsimp only at hSw); have a0 := hSw.cell a0 (fun _ => id); have a1 := hSw.cell a1 (fun _ => id); have a2 := hSw.cell a2 (fun _ => id); have a3 := hSw.cell a3 (fun _ => id); have b1 := hSw.cell b1 (fun _ => id); have b2 := hSw.cell b2 (fun _ => id); clear hSw; go_simp; all_goals (with_reducible rfl))
                simp only [Act.put, List.setIfInBounds_toArray, List.set_cons_zero, List.set_cons_succ]
                refine wpAnyG_take (i := 2) (v := ?va117) rfl (by kernel_rfl) (fun _ _ _ h => h) (Or.inl ⟨by rfl, ?hy117⟩) (by assumption) ?ra117
                case hy117 => (intro w hSw; (try dsimp only at hSw); have a0 := hSw.cell a0 (fun _ => id); have a1 := hSw.cell a1 (fun _ => id); have a2 := hSw.cell a2 (fun _ => id); have a3 := hSw.cell a3 (fun _ => id); have b1 := hSw.cell b1 (fun _ => id); have b2 := hSw.cell b2 (fun _ => id); clear hSw; go_simp; all_goals (with_reducible rfl))
                simp only [Act.put, List.setIfInBounds_toArray, List.set_cons_zero, List.set_cons_succ]
                refine wpAnyG_take (i := 3) (v := ?va118) rfl (by kernel_rfl) (fun _ _ _ h => h) (Or.inl ⟨by rfl, ?hy118⟩) (by assumption) ?ra118
                case hy118 => (intro w hSw; (try dsimp only at hSw); have a0 := hSw.cell a0 (fun _ => id); have a1 := hSw.cell a1 (fun _ => id); have a2 := hSw.cell a2 (fun _ => id); have a3 := hSw.cell a3 (fun _ => id); have b1 := hSw.cell b1 (fun _ => id); have b2 := hSw.cell b2 (fun _ => id); clear hSw; go_simp; all_goals (with_reducible rfl))
                simp only [Act.put, List.setIfInBounds_toArray, List.set_cons_zero, List.set_cons_succ]
                refine wpAnyG_take (i := 4) (v := ?va119) rfl (by kernel_rfl) (fun _ _ _ h => h) (Or.inl ⟨by rfl, ?hy119⟩) (by assumption) ?ra119
                case hy119 => (intro w hSw; (try dsimp only at hSw); have a0 := hSw.cell a0 (fun _ => id); have a1 := hSw.cell a1 (fun _ => id); have a2 := hSw.cell a2 (fun _ => id); have a3 := hSw.cell a3 (fun _ => id); have b1 := hSw.cell b1 (fun _ => id); have b2 := hSw.cell b2 (fun _ => id); clear hSw; go_simp; all_goals (with_reducible rfl))
                simp only [Act.put, List.setIfInBounds_toArray, List.set_cons_zero, List.set_cons_succ]
                refine wpAnyG_take (i := 5) (v := ?va120) rfl (by kernel_rfl) (fun _ _ _ h => h) (Or.inl ⟨by rfl, ?hy120⟩) (by assumption) ?ra120
                case hy120 => (intro w hSw; (try dsimp only at hSw); have a0 := hSw.cell a0 (fun _ => id); have a1 := hSw.cell a1 (fun _ => id); have a2 := hSw.cell a2 (fun _ => id); have a3 := hSw.cell a3 (fun _ => id); have b1 := hSw.cell b1 (fun _ => id); have b2 := hSw.cell b2 (fun _ => id); clear hSw; go_simp; all_goals (with_reducible rfl))
                simp only [Act.put, List.setIfInBounds_toArray, List.set_cons_zero, List.set_cons_succ]
                refine wpAnyG_take (i := 6) (v := ?va121) rfl (by kernel_rfl) (fun _ _ _ h => h) (Or.inl ⟨by rfl, ?hy121⟩) (by assumption) ?ra121
                case hy121 => (intro w hSw; (try dsimp only at hSw); have a0 := hSw.cell a0 (fun _ => id); have a1 := hSw.cell a1 (fun _ => id); have a2 := hSw.cell a2 (fun _ => id); have a3 := hSw.cell a3 (fun _ => id); have b1 := hSw.cell b1 (fun _ => id); have b2 := hSw.cell b2 (fun _ => id); clear hSw; go_simp; all_goals (with_reducible rfl))
                simp only [Act.put, List.setIfInBounds_toArray, List.set_cons_zero, List.set_cons_succ]
                refine wpAnyG_take (i := 7) (v := ?va122) rfl (by kernel_rfl) (fun _ _ _ h => h) (Or.inl ⟨by rfl, ?hy122⟩) (by assumption) ?ra122
                case hy122 => (intro w hSw; (try dsimp only at hSw); have a0 := hSw.cell a0 (fun _ => id); have a1 := hSw.cell a1 (fun _ => id); have a2 := hSw.cell a2 (fun _ => id); have a3 := hSw.cell a3 (fun _ => id); have b1 := hSw.cell b1 (fun _ => id); have b2 := hSw.cell b2 (fun _ => id); clear hSw; go_simp; all_goals (with_reducible rfl))
                simp only [Act.put, List.setIfInBounds_toArray, List.set_cons_zero, List.set_cons_succ]
                refine wpAnyG_ready (rs := [8]) (by kernel_rfl) (by simp) ?_
                refine AllReadyG.cons rfl (fun K hK => ?_) AllReadyG.nil
                go_simp
                go_at_call 72
                refine c1.mono ?_
                rintro e w6 hh
                obtain ⟨rfl, hq6⟩ := hh.res
                refine hK.out _ _ (hHeld.trans hq6) (fun hHeld => ?_)
                clear hK K
                try simp only [Act.put, List.setIfInBounds_toArray, List.set_cons_zero, List.set_cons_succ]
                refine wpAnyG_take (i := 9) (v := ?va123) rfl (by kernel_rfl) (fun _ _ _ h => h) (Or.inl ⟨by rfl, ?hy123⟩) (by assumption) ?ra123
                case hy123 => (intro w hSw; (try dsimp only at hSw); have a0 := hSw.cell a0 (fun _ => id); have a1 := hSw.cell a1 (fun _ => id); have a2 := hSw.cell a2 (fun _ => id); have a3 := hSw.cell a3 (fun _ => id); have b1 := hSw.cell b1 (fun _ => id); have b2 := hSw.cell b2 (fun _ => id); clear hSw; go_simp; all_goals (with_reducible rfl))
                simp only [Act.put, List.setIfInBounds_toArray, List.set_cons_zero, List.set_cons_succ]
                refine wpAnyG_take (i := 10) (v := ?va124) rfl (by kernel_rfl) (fun _ _ _ h => h) (Or.inl ⟨by rfl, ?hy124⟩) (by assumption) ?ra124
                case hy124 => (intro w hSw; (try dsimp only at hSw); have a0 := hSw.cell a0 (fun _ => id); have a1 := hSw.cell a1 (fun _ => id); have a2 := hSw.cell a2 (fun _ => id); have a3 := hSw.cell a3 (fun _ => id); have b1 := hSw.cell b1 (fun _ => id); have b2 := hSw.cell b2 (fun _ => id); clear hSw; go_simp; all_goals (with_reducible rfl))
                simp only [Act.put, List.setIfInBounds_toArray, List.set_cons_zero, List.set_cons_succ]
                refine wpAnyG_take (i := 11) (v := ?va125) rfl (by kernel_rfl) (fun _ _ _ h => h) (Or.inl ⟨by rfl, ?hy125⟩) (by assumption) ?ra125
                case hy125 => (intro w hSw; (try dsimp only at hSw); have a0 := hSw.cell a0 (fun _ => id); have a1 := hSw.cell a1 (fun _ => id); have a2 := hSw.cell a2 (fun _ => id); have a3 := hSw.cell a3 (fun _ => id); have b1 := hSw.cell b1 (fun _ => id); have b2 := hSw.cell b2 (fun _ => id); clear hSw; go_simp; all_goals (with_reducible rfl))
                simp only [Act.put, List.setIfInBounds_toArray, List.set_cons_zero, List.set_cons_succ]
                refine wpAnyG_take (i := 12) (v := ?va126) rfl (by kernel_rfl) (fun _ _ _ h => h) (Or.inl ⟨by rfl, ?hy126⟩) (by assumption) ?ra126
                case hy126 => (intro w hSw; (try dsimp only at hSw); have a0 := hSw.cell a0 (fun _ => id); have a1 := hSw.cell a1 (fun _ => id); have a2 := hSw.cell a2 (fun _ => id); have a3 := hSw.cell a3 (fun _ => id); have b1 := hSw.cell b1 (fun _ => id); have b2 := hSw.cell b2 (fun _ => id); clear hSw; go_simp; all_goals (with_reducible rfl))
                simp only [Act.put, List.setIfInBounds_toArray, List.set_cons_zero, List.set_cons_succ]
                refine wpAnyG_take (i := 13) (v := ?va127) rfl (by kernel_rfl) (fun _ _ _ h => h) (Or.inl ⟨by rfl, ?hy127⟩) (by assumption) ?ra127
                case hy127 => (intro w hSw; (try dsimp only at hSw); have a0 := hSw.cell a0 (fun _ => id); have a1 := hSw.cell a1 (fun _ => id); have a2 := hSw.cell a2 (fun _ => id); have a3 := hSw.cell a3 (fun _ => id); have b1 := hSw.cell b1 (fun _ => id); have b2 := hSw.cell b2 (fun _ => id); clear hSw; go_simp; all_goals (with_reducible rfl))
                simp only [Act.put, List.setIfInBounds_toArray, List.set_cons_zero, List.set_cons_succ]
                refine wpAnyG_take (i := 14) (v := ?va128) rfl (by kernel_rfl) (fun _ _ _ h => h) (Or.inl ⟨by rfl, ?hy128⟩) (by assumption) ?ra128
                case hy128 => (intro w hSw; (try dsimp only at hSw); have a0 := hSw.cell a0 (fun _ => id); have a1 := hSw.cell a1 (fun _ => id); have a2 := hSw.cell a2 (fun _ => id); have a3 := hSw.cell a3 (fun _ => id); have b1 := hSw.cell b1 (fun _ => id); have b2 := hSw.cell b2 (fun _ => id); clear hSw; go_simp; all_goals (with_reducible rfl))
                simp only [Act.put, List.setIfInBounds_toArray, List.set_cons_zero, List.set_cons_succ]
                refine wpAnyG_take (i := 15) (v := ?va129) rfl (by kernel_rfl) (fun _ _ _ h => h) (Or.inl ⟨by rfl, ?hy129⟩) (by assumption) ?ra129
                case hy129 => (intro w hSw; (try dsimp only at hSw); have a0 := hSw.cell a0 (fun _ => id); have a1 := hSw.cell a1 (fun _ => id); have a2 := hSw.cell a2 (fun _ => id); have a3 := hSw.cell a3 (fun _ => id); have b1 := hSw.cell b1 (fun _ => id); have b2 := hSw.cell b2 (fun _ => id); clear hSw; go_simp; all_goals (with_reducible rfl))
                simp only [Act.put, List.setIfInBounds_toArray, List.set_cons_zero, List.set_cons_succ]
                have hm := MA.out.same hHeld
                have MB := Lib.hid hm
                have HH := Lib.hid hHeld
                clear hm
                refine wpAnyG_last rfl (by kernel_rfl) (by kernel_rfl) (fun K hK => ?_)
                go_simp
                go_at_call 52
                refine (MB.out.pure (b := true)).mono ?_
                rintro e w7 hp
                obtain ⟨rfl, rfl⟩ := hp.ok rfl
                clear hp c1
                refine hK.out _ _ ?_
                clear hK K
                try simp only [Act.put, List.setIfInBounds_toArray, List.set_cons_zero, List.set_cons_succ]
                clear z0 z1 z2 z3 z4
                obtain ⟨z0, z1, z2, z3, z4⟩ := MB.out.cells
                have a2 := HH.out.cell a2 (fun _ => id)
                have EN := Lib.hid (needN_ok (s := s5) (show true = true from rfl))
                have HL2 := Lib.hid (IntsR.keep HL.out.2.1 HH.out (fun _ _ _ h => h))
                clear a0 a1 a3 b1 b2
                go_wp2_with fail
                refine (mid_wants (k := k + 2) G.caps HL2.out HG.out.2.2.2.2.2.2.2.2.2.1 MB.out).mono fun e v9 hh => ?_
                rcases hq : wantsN G.caps s5 with _ | s9
                · obtain ⟨rfl, hc⟩ := hh.none_ hq
                  have EB := Lib.hid hq
                  have CB := Lib.hid hc
                  clear hh hq hc
                  go_wp2_with fail
                  exact ⟨rfl, OutO.bad CB.out (by simp only [op20, inB, Option.bind_some, Option.bind_none, Option.map_some, Option.map_none, Bool.true_and, Bool.false_and, Bool.and_true, Bool.and_false, Bool.false_or, Bool.true_or, Bool.or_false, Bool.or_true, if_false, if_true, E0.out, E2.out, E4.out, E5.out, HGN.out, HPN.out, Q1.out, Q2.out, EN.out, EB.out])⟩
                · obtain ⟨rfl, hm⟩ := hh.some_ hq
                  clear z0 z1 z2 z3 z4
                  obtain ⟨z0, z1, z2, z3, z4⟩ := hm.cells
                  have E9 := Lib.hid hq
                  have M9 := Lib.hid hm
                  clear hh hq hm
                  go_wp2_with fail
                  refine (mid_push (k := k) (nb : Int) HG.out.2.2.2.2.2.1 M9.out).mono fun e v10 hh => ?_
                  rcases hq : pushN (nb : Int) s9 with _ | s10
                  · obtain ⟨rfl, hc⟩ := hh.none_ hq
                    have EB := Lib.hid hq
                    have CB := Lib.hid hc
                    clear hh hq hc
                    go_wp2_with fail
                    exact ⟨rfl, OutO.bad CB.out (by simp only [op20, inB, Option.bind_some, Option.bind_none, Option.map_some, Option.map_none, Bool.true_and, Bool.false_and, Bool.and_true, Bool.and_false, Bool.false_or, Bool.true_or, Bool.or_false, Bool.or_true, if_false, if_true, E0.out, E2.out, E4.out, E5.out, HGN.out, HPN.out, Q1.out, Q2.out, EN.out, E9.out, EB.out])⟩
                  · obtain ⟨rfl, hm⟩ := hh.some_ hq
                    clear z0 z1 z2 z3 z4
                    obtain ⟨z0, z1, z2, z3, z4⟩ := hm.cells
                    have E10 := Lib.hid hq
                    have M10 := Lib.hid hm
                    clear hh hq hm
                    go_wp2_with fail
                    go_ret
                    exact OutO.good (M10.out.less (by omega)) (by simp only [op20, inB, Option.bind_some, Option.bind_none, Option.map_some, Option.map_none, Bool.true_and, Bool.false_and, Bool.and_true, Bool.and_false, Bool.false_or, Bool.true_or, Bool.or_false, Bool.or_true, if_false, if_true, E0.out, E2.out, E4.out, E5.out, HGN.out, HPN.out, Q1.out, Q2.out, EN.out, E9.out, E10.out])

end Go.Proofs.Ytdegfnejhamejaa
