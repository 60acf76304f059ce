/-
  The checker's four parts as wholes: what they do with any instruction.
-/
import Derived.Test.YtdegfnejhamejaaCkMZk
import Derived.Test.YtdegfnejhamejaaHeldGZk
import Derived.Test.YtdegfnejhamejaaCkQZk
import Derived.Test.YtdegfnejhamejaaCkSZk
namespace Go.Proofs.Ytdegfnejhamejaa
open Go.RowKit
set_option linter.unusedVariables false
set_option linter.unusedSimpArgs false

set_option maxRecDepth 100000 in
set_option maxHeartbeats 4000000 in
theorem nums_2 (h : Hd) (k : Nat) (w : World) (s : VSt) (xa xb : Int) (xn : Nat) (cs : List CaseD) (A : Option Addr) (c : Nat) (H : CkI h (k + 1100) w s) (HV : StV h.m s.stack) :
    Calls Try.prog 53 #[.pointer (some ⟨h.p, 0, none⟩), instrV ⟨2, xa, xb, xn, cs⟩ A c] w (OutO h k w ((op2 h.m ⟨2, xa, xb, xn, cs⟩ s).map (true, ·))) := by
  have hm := Mid.start ⟨2, xa, xb, xn, cs⟩ A c (H.less (show k + 2 ≤ k + 1100 by omega)) HV
  obtain ⟨z0, z1, z2, z3, z4⟩ := hm.cells
  have M := Lib.hid hm
  clear hm H HV
  unfold instrV
  go_enter Try.func53, Try.ntmps53
  go_wp2_with fail
  refine (mid_fields (k := k + 2) true false true M.out).mono fun e w2 hh => ?_
  rcases hq : fieldsN ⟨2, xa, xb, xn, cs⟩ true false true s with _ | s0
  · obtain ⟨rfl, hc⟩ := hh.none_ hq
    have EB := Lib.hid hq
    have CB := Lib.hid hc
    clear hh hq hc
    go_wp2_with fail
    exact ⟨rfl, OutO.bad CB.out (by simp only [op2, Option.bind_some, Option.bind_none, Option.map_some, Option.map_none, Bool.true_and, Bool.false_and, Bool.and_true, Bool.and_false, Bool.false_or, Bool.true_or, Bool.or_false, Bool.or_true, EB.out])⟩
  · obtain ⟨rfl, hm⟩ := hh.some_ hq
    clear z0 z1 z2 z3 z4
    obtain ⟨z0, z1, z2, z3, z4⟩ := hm.cells
    have E0 := Lib.hid hq
    have M0 := Lib.hid hm
    clear hh hq hm
    go_wp2_with fail
    refine (mid_is xa 1 M0.out).mono fun e w2 hh => ?_
    rcases hq : isKN h.m.types xa 1 s0 with _ | s1
    · obtain ⟨rfl, hc⟩ := hh.none_ hq
      have EB := Lib.hid hq
      have CB := Lib.hid hc
      clear hh hq hc
      go_wp2_with fail
      exact ⟨rfl, OutO.bad CB.out (by simp only [op2, Option.bind_some, Option.bind_none, Option.map_some, Option.map_none, Bool.true_and, Bool.false_and, Bool.and_true, Bool.and_false, Bool.false_or, Bool.true_or, Bool.or_false, Bool.or_true, E0.out, EB.out])⟩
    · obtain ⟨rfl, hm⟩ := hh.some_ hq
      clear z0 z1 z2 z3 z4
      obtain ⟨z0, z1, z2, z3, z4⟩ := hm.cells
      have E1 := Lib.hid hq
      have M1 := Lib.hid hm
      clear hh hq hm
      go_wp2_with fail
      refine (mid_need (decide ((xn : Int) ≤ 1)) M1.out).mono fun e w2 hh => ?_
      rcases hq : needN (decide ((xn : Int) ≤ 1)) s1 with _ | s2
      · obtain ⟨rfl, hc⟩ := hh.none_ hq
        have EB := Lib.hid hq
        have CB := Lib.hid hc
        clear hh hq hc
        go_wp2_with fail
        exact ⟨rfl, OutO.bad CB.out (by simp only [op2, Option.bind_some, Option.bind_none, Option.map_some, Option.map_none, Bool.true_and, Bool.false_and, Bool.and_true, Bool.and_false, Bool.false_or, Bool.true_or, Bool.or_false, Bool.or_true, E0.out, E1.out, EB.out])⟩
      · obtain ⟨rfl, hm⟩ := hh.some_ hq
        clear z0 z1 z2 z3 z4
        obtain ⟨z0, z1, z2, z3, z4⟩ := hm.cells
        have E2 := Lib.hid hq
        have M2 := Lib.hid hm
        clear hh hq hm
        go_wp2_with fail
        refine (mid_push (k := k) xa (is_valid E1.out (by decide)) M2.out).mono fun e w2 hh => ?_
        rcases hq : pushN xa s2 with _ | s3
        · obtain ⟨rfl, hc⟩ := hh.none_ hq
          have EB := Lib.hid hq
          have CB := Lib.hid hc
          clear hh hq hc
          go_wp2_with fail
          exact ⟨rfl, OutO.bad CB.out (by simp only [op2, Option.bind_some, Option.bind_none, Option.map_some, Option.map_none, Bool.true_and, Bool.false_and, Bool.and_true, Bool.and_false, Bool.false_or, Bool.true_or, Bool.or_false, Bool.or_true, E0.out, E1.out, E2.out, EB.out])⟩
        · obtain ⟨rfl, hm⟩ := hh.some_ hq
          clear z0 z1 z2 z3 z4
          obtain ⟨z0, z1, z2, z3, z4⟩ := hm.cells
          have E3 := Lib.hid hq
          have M3 := Lib.hid hm
          clear hh hq hm
          go_wp2_with fail
          go_ret
          exact OutO.good M3.out (by simp only [op2, Option.bind_some, Option.bind_none, Option.map_some, Option.map_none, Bool.true_and, Bool.false_and, Bool.and_true, Bool.and_false, Bool.false_or, Bool.true_or, Bool.or_false, Bool.or_true, E0.out, E1.out, E2.out, E3.out])
set_option maxRecDepth 100000 in
set_option maxHeartbeats 4000000 in
theorem nums_7 (h : Hd) (k : Nat) (w : World) (s : VSt) (xa xb : Int) (xn : Nat) (cs : List CaseD) (A : Option Addr) (c : Nat) (H : CkI h (k + 1100) w s) (HV : StV h.m s.stack) :
    Calls Try.prog 53 #[.pointer (some ⟨h.p, 0, none⟩), instrV ⟨7, xa, xb, xn, cs⟩ A c] w (OutO h k w ((op7 h.m ⟨7, xa, xb, xn, cs⟩ s).map (true, ·))) := by
  have hm := Mid.start ⟨7, xa, xb, xn, cs⟩ A c (H.less (show k + 4 ≤ k + 1100 by omega)) HV
  obtain ⟨z0, z1, z2, z3, z4⟩ := hm.cells
  have M := Lib.hid hm
  clear hm H HV
  unfold instrV
  go_enter Try.func53, Try.ntmps53
  go_wp2_with fail
  refine (mid_fields (k := k + 4) true false false M.out).mono fun e w2 hh => ?_
  rcases hq : fieldsN ⟨7, xa, xb, xn, cs⟩ true false false s with _ | s0
  · obtain ⟨rfl, hc⟩ := hh.none_ hq
    have EB := Lib.hid hq
    have CB := Lib.hid hc
    clear hh hq hc
    go_wp2_with fail
    exact ⟨rfl, OutO.bad CB.out (by simp only [op7, Option.bind_some, Option.bind_none, Option.map_some, Option.map_none, Bool.true_and, Bool.false_and, Bool.and_true, Bool.and_false, Bool.false_or, Bool.true_or, Bool.or_false, Bool.or_true, EB.out])⟩
  · obtain ⟨rfl, hm⟩ := hh.some_ hq
    clear z0 z1 z2 z3 z4
    obtain ⟨z0, z1, z2, z3, z4⟩ := hm.cells
    have E0 := Lib.hid hq
    have M0 := Lib.hid hm
    clear hh hq hm
    cases hb : decide (0 ≤ xa)
    · have E1 := Lib.hid hb
      go_wp2_with fail
      refine (mid_need false M0.out).mono fun e w2 hh => ?_
      obtain ⟨rfl, hc⟩ := hh.none_ rfl
      have CB := Lib.hid hc
      clear hh hc
      go_wp2_with fail
      exact ⟨rfl, OutO.bad CB.out (by simp only [op7, Option.bind_some, Option.bind_none, Option.map_some, Option.map_none, Bool.true_and, Bool.false_and, Bool.and_true, Bool.and_false, Bool.false_or, Bool.true_or, Bool.or_false, Bool.or_true, E0.out, E1.out, needN, Bool.false_eq_true, if_false])⟩
    · have E1 := Lib.hid hb
      go_wp2_with fail
      refine (mid_need (decide (xa ≤ 8)) M0.out).mono fun e w2 hh => ?_
      rcases hq : needN (decide (xa ≤ 8)) s0 with _ | s3
      · obtain ⟨rfl, hc⟩ := hh.none_ hq
        have EB := Lib.hid hq
        have CB := Lib.hid hc
        clear hh hq hc
        go_wp2_with fail
        exact ⟨rfl, OutO.bad CB.out (by simp only [op7, Option.bind_some, Option.bind_none, Option.map_some, Option.map_none, Bool.true_and, Bool.false_and, Bool.and_true, Bool.and_false, Bool.false_or, Bool.true_or, Bool.or_false, Bool.or_true, E0.out, E1.out, EB.out])⟩
      · obtain ⟨rfl, hm⟩ := hh.some_ hq
        clear z0 z1 z2 z3 z4
        obtain ⟨z0, z1, z2, z3, z4⟩ := hm.cells
        have E3 := Lib.hid hq
        have M3 := Lib.hid hm
        clear hh hq hm
        go_wp2_with fail
        refine (mid_pop (k := (k + 3)) M3.out).mono fun e w2 hh => ?_
        rcases hq : popN s3 with _ | ⟨r, s4⟩
        · obtain ⟨rfl, hc⟩ := hh.none_ hq
          have EB := Lib.hid hq
          have CB := Lib.hid hc
          clear hh hq hc
          go_wp2_with fail
          exact ⟨rfl, OutO.bad CB.out (by simp only [op7, Option.bind_some, Option.bind_none, Option.map_some, Option.map_none, Bool.true_and, Bool.false_and, Bool.and_true, Bool.and_false, Bool.false_or, Bool.true_or, Bool.or_false, Bool.or_true, E0.out, E1.out, E3.out, EB.out])⟩
        · obtain ⟨rfl, hm, hv⟩ := hh.some_ hq
          have Vr := Lib.hid hv
          clear z0 z1 z2 z3 z4
          obtain ⟨z0, z1, z2, z3, z4⟩ := hm.cells
          have E4 := Lib.hid hq
          have M4 := Lib.hid hm
          clear hh hq hm hv
          go_wp2_with fail
          refine (mid_whole r M4.out).mono fun e w2 hh => ?_
          rcases hq : wholeN h.m.types r s4 with _ | s5
          · obtain ⟨rfl, hc⟩ := hh.none_ hq
            have EB := Lib.hid hq
            have CB := Lib.hid hc
            clear hh hq hc
            go_wp2_with fail
            exact ⟨rfl, OutO.bad CB.out (by simp only [op7, Option.bind_some, Option.bind_none, Option.map_some, Option.map_none, Bool.true_and, Bool.false_and, Bool.and_true, Bool.and_false, Bool.false_or, Bool.true_or, Bool.or_false, Bool.or_true, E0.out, E1.out, E3.out, E4.out, EB.out])⟩
          · obtain ⟨rfl, hm⟩ := hh.some_ hq
            clear z0 z1 z2 z3 z4
            obtain ⟨z0, z1, z2, z3, z4⟩ := hm.cells
            have E5 := Lib.hid hq
            have M5 := Lib.hid hm
            clear hh hq hm
            go_wp2_with fail
            refine (mid_want (k := (k + 2)) r M5.out).mono fun e w2 hh => ?_
            rcases hq : wantN r s5 with _ | s6
            · obtain ⟨rfl, hc⟩ := hh.none_ hq
              have EB := Lib.hid hq
              have CB := Lib.hid hc
              clear hh hq hc
              go_wp2_with fail
              exact ⟨rfl, OutO.bad CB.out (by simp only [op7, Option.bind_some, Option.bind_none, Option.map_some, Option.map_none, Bool.true_and, Bool.false_and, Bool.and_true, Bool.and_false, Bool.false_or, Bool.true_or, Bool.or_false, Bool.or_true, E0.out, E1.out, E3.out, E4.out, E5.out, EB.out])⟩
            · obtain ⟨rfl, hm⟩ := hh.some_ hq
              clear z0 z1 z2 z3 z4
              obtain ⟨z0, z1, z2, z3, z4⟩ := hm.cells
              have E6 := Lib.hid hq
              have M6 := Lib.hid hm
              clear hh hq hm
              go_wp2_with fail
              refine (mid_push (k := k) r Vr.out M6.out).mono fun e w2 hh => ?_
              rcases hq : pushN r s6 with _ | s7
              · obtain ⟨rfl, hc⟩ := hh.none_ hq
                have EB := Lib.hid hq
                have CB := Lib.hid hc
                clear hh hq hc
                go_wp2_with fail
                exact ⟨rfl, OutO.bad CB.out (by simp only [op7, Option.bind_some, Option.bind_none, Option.map_some, Option.map_none, Bool.true_and, Bool.false_and, Bool.and_true, Bool.and_false, Bool.false_or, Bool.true_or, Bool.or_false, Bool.or_true, E0.out, E1.out, E3.out, E4.out, E5.out, E6.out, EB.out])⟩
              · obtain ⟨rfl, hm⟩ := hh.some_ hq
                clear z0 z1 z2 z3 z4
                obtain ⟨z0, z1, z2, z3, z4⟩ := hm.cells
                have E7 := Lib.hid hq
                have M7 := Lib.hid hm
                clear hh hq hm
                go_wp2_with fail
                go_ret
                exact OutO.good M7.out (by simp only [op7, Option.bind_some, Option.bind_none, Option.map_some, Option.map_none, Bool.true_and, Bool.false_and, Bool.and_true, Bool.and_false, Bool.false_or, Bool.true_or, Bool.or_false, Bool.or_true, E0.out, E1.out, E3.out, E4.out, E5.out, E6.out, E7.out])
set_option maxRecDepth 100000 in
set_option maxHeartbeats 4000000 in
theorem nums_8 (h : Hd) (k : Nat) (w : World) (s : VSt) (xa xb : Int) (xn : Nat) (cs : List CaseD) (A : Option Addr) (c : Nat) (H : CkI h (k + 1100) w s) (HV : StV h.m s.stack) :
    Calls Try.prog 53 #[.pointer (some ⟨h.p, 0, none⟩), instrV ⟨8, xa, xb, xn, cs⟩ A c] w (OutO h k w ((op8 h.m ⟨8, xa, xb, xn, cs⟩ s).map (true, ·))) := by
  have hm := Mid.start ⟨8, xa, xb, xn, cs⟩ A c (H.less (show k + 4 ≤ k + 1100 by omega)) HV
  obtain ⟨z0, z1, z2, z3, z4⟩ := hm.cells
  have M := Lib.hid hm
  clear hm H HV
  unfold instrV
  go_enter Try.func53, Try.ntmps53
  go_wp2_with fail
  refine (mid_fields (k := k + 4) true false false M.out).mono fun e w2 hh => ?_
  rcases hq : fieldsN ⟨8, xa, xb, xn, cs⟩ true false false s with _ | s0
  · obtain ⟨rfl, hc⟩ := hh.none_ hq
    have EB := Lib.hid hq
    have CB := Lib.hid hc
    clear hh hq hc
    go_wp2_with fail
    exact ⟨rfl, OutO.bad CB.out (by simp only [op8, Option.bind_some, Option.bind_none, Option.map_some, Option.map_none, Bool.true_and, Bool.false_and, Bool.and_true, Bool.and_false, Bool.false_or, Bool.true_or, Bool.or_false, Bool.or_true, EB.out])⟩
  · obtain ⟨rfl, hm⟩ := hh.some_ hq
    clear z0 z1 z2 z3 z4
    obtain ⟨z0, z1, z2, z3, z4⟩ := hm.cells
    have E0 := Lib.hid hq
    have M0 := Lib.hid hm
    clear hh hq hm
    cases hb : xa == 0
    · have E1 := Lib.hid hb
      go_wp2_with fail
      refine (mid_need (xa == 1) M0.out).mono fun e w2 hh => ?_
      rcases hq : needN (xa == 1) s0 with _ | s2
      · obtain ⟨rfl, hc⟩ := hh.none_ hq
        have EB := Lib.hid hq
        have CB := Lib.hid hc
        clear hh hq hc
        go_wp2_with fail
        exact ⟨rfl, OutO.bad CB.out (by simp only [op8, Option.bind_some, Option.bind_none, Option.map_some, Option.map_none, Bool.true_and, Bool.false_and, Bool.and_true, Bool.and_false, Bool.false_or, Bool.true_or, Bool.or_false, Bool.or_true, E0.out, E1.out, EB.out])⟩
      · obtain ⟨rfl, hm⟩ := hh.some_ hq
        clear z0 z1 z2 z3 z4
        obtain ⟨z0, z1, z2, z3, z4⟩ := hm.cells
        have E2 := Lib.hid hq
        have M2 := Lib.hid hm
        clear hh hq hm
        go_wp2_with fail
        refine (mid_pop (k := (k + 3)) M2.out).mono fun e w2 hh => ?_
        rcases hq : popN s2 with _ | ⟨r, s3⟩
        · obtain ⟨rfl, hc⟩ := hh.none_ hq
          have EB := Lib.hid hq
          have CB := Lib.hid hc
          clear hh hq hc
          go_wp2_with fail
          exact ⟨rfl, OutO.bad CB.out (by simp only [op8, Option.bind_some, Option.bind_none, Option.map_some, Option.map_none, Bool.true_and, Bool.false_and, Bool.and_true, Bool.and_false, Bool.false_or, Bool.true_or, Bool.or_false, Bool.or_true, E0.out, E1.out, E2.out, EB.out])⟩
        · obtain ⟨rfl, hm, hv⟩ := hh.some_ hq
          have Vr := Lib.hid hv
          clear z0 z1 z2 z3 z4
          obtain ⟨z0, z1, z2, z3, z4⟩ := hm.cells
          have E3 := Lib.hid hq
          have M3 := Lib.hid hm
          clear hh hq hm hv
          go_wp2_with fail
          refine (mid_whole r M3.out).mono fun e w2 hh => ?_
          rcases hq : wholeN h.m.types r s3 with _ | s4
          · obtain ⟨rfl, hc⟩ := hh.none_ hq
            have EB := Lib.hid hq
            have CB := Lib.hid hc
            clear hh hq hc
            go_wp2_with fail
            exact ⟨rfl, OutO.bad CB.out (by simp only [op8, Option.bind_some, Option.bind_none, Option.map_some, Option.map_none, Bool.true_and, Bool.false_and, Bool.and_true, Bool.and_false, Bool.false_or, Bool.true_or, Bool.or_false, Bool.or_true, E0.out, E1.out, E2.out, E3.out, EB.out])⟩
          · obtain ⟨rfl, hm⟩ := hh.some_ hq
            clear z0 z1 z2 z3 z4
            obtain ⟨z0, z1, z2, z3, z4⟩ := hm.cells
            have E4 := Lib.hid hq
            have M4 := Lib.hid hm
            clear hh hq hm
            go_wp2_with fail
            refine (mid_pop (k := (k + 2)) M4.out).mono fun e w2 hh => ?_
            rcases hq : popN s4 with _ | ⟨q, s5⟩
            · obtain ⟨rfl, hc⟩ := hh.none_ hq
              have EB := Lib.hid hq
              have CB := Lib.hid hc
              clear hh hq hc
              go_wp2_with fail
              exact ⟨rfl, OutO.bad CB.out (by simp only [op8, Option.bind_some, Option.bind_none, Option.map_some, Option.map_none, Bool.true_and, Bool.false_and, Bool.and_true, Bool.and_false, Bool.false_or, Bool.true_or, Bool.or_false, Bool.or_true, E0.out, E1.out, E2.out, E3.out, E4.out, EB.out])⟩
            · obtain ⟨rfl, hm, hv⟩ := hh.some_ hq
              have Vq := Lib.hid hv
              clear z0 z1 z2 z3 z4
              obtain ⟨z0, z1, z2, z3, z4⟩ := hm.cells
              have E5 := Lib.hid hq
              have M5 := Lib.hid hm
              clear hh hq hm hv
              go_wp2_with fail
              refine (mid_whole q M5.out).mono fun e w2 hh => ?_
              rcases hq : wholeN h.m.types q s5 with _ | s6
              · obtain ⟨rfl, hc⟩ := hh.none_ hq
                have EB := Lib.hid hq
                have CB := Lib.hid hc
                clear hh hq hc
                go_wp2_with fail
                exact ⟨rfl, OutO.bad CB.out (by simp only [op8, Option.bind_some, Option.bind_none, Option.map_some, Option.map_none, Bool.true_and, Bool.false_and, Bool.and_true, Bool.and_false, Bool.false_or, Bool.true_or, Bool.or_false, Bool.or_true, E0.out, E1.out, E2.out, E3.out, E4.out, E5.out, EB.out])⟩
              · obtain ⟨rfl, hm⟩ := hh.some_ hq
                clear z0 z1 z2 z3 z4
                obtain ⟨z0, z1, z2, z3, z4⟩ := hm.cells
                have E6 := Lib.hid hq
                have M6 := Lib.hid hm
                clear hh hq hm
                go_wp2_with fail
                refine (mid_push (k := k) q Vq.out M6.out).mono fun e w2 hh => ?_
                rcases hq : pushN q s6 with _ | s7
                · obtain ⟨rfl, hc⟩ := hh.none_ hq
                  have EB := Lib.hid hq
                  have CB := Lib.hid hc
                  clear hh hq hc
                  go_wp2_with fail
                  exact ⟨rfl, OutO.bad CB.out (by simp only [op8, Option.bind_some, Option.bind_none, Option.map_some, Option.map_none, Bool.true_and, Bool.false_and, Bool.and_true, Bool.and_false, Bool.false_or, Bool.true_or, Bool.or_false, Bool.or_true, E0.out, E1.out, E2.out, E3.out, E4.out, E5.out, E6.out, EB.out])⟩
                · obtain ⟨rfl, hm⟩ := hh.some_ hq
                  clear z0 z1 z2 z3 z4
                  obtain ⟨z0, z1, z2, z3, z4⟩ := hm.cells
                  have E7 := Lib.hid hq
                  have M7 := Lib.hid hm
                  clear hh hq hm
                  go_wp2_with fail
                  go_ret
                  exact OutO.good M7.out (by simp only [op8, Option.bind_some, Option.bind_none, Option.map_some, Option.map_none, Bool.true_and, Bool.false_and, Bool.and_true, Bool.and_false, Bool.false_or, Bool.true_or, Bool.or_false, Bool.or_true, E0.out, E1.out, E2.out, E3.out, E4.out, E5.out, E6.out, E7.out])
    · have E1 := Lib.hid hb
      go_wp2_with fail
      refine (mid_need true M0.out).mono fun e w2 hh => ?_
      obtain ⟨rfl, hm⟩ := hh.some_ rfl
      clear z0 z1 z2 z3 z4
      obtain ⟨z0, z1, z2, z3, z4⟩ := hm.cells
      have E8 := Lib.hid (needN_ok (s := s0) (show true = true from rfl))
      have M8 := Lib.hid hm
      clear hh hm
      go_wp2_with fail
      refine (mid_pop (k := (k + 3)) M8.out).mono fun e w2 hh => ?_
      rcases hq : popN s0 with _ | ⟨r, s9⟩
      · obtain ⟨rfl, hc⟩ := hh.none_ hq
        have EB := Lib.hid hq
        have CB := Lib.hid hc
        clear hh hq hc
        go_wp2_with fail
        exact ⟨rfl, OutO.bad CB.out (by simp only [op8, Option.bind_some, Option.bind_none, Option.map_some, Option.map_none, Bool.true_and, Bool.false_and, Bool.and_true, Bool.and_false, Bool.false_or, Bool.true_or, Bool.or_false, Bool.or_true, E0.out, E1.out, E8.out, EB.out])⟩
      · obtain ⟨rfl, hm, hv⟩ := hh.some_ hq
        have Vr := Lib.hid hv
        clear z0 z1 z2 z3 z4
        obtain ⟨z0, z1, z2, z3, z4⟩ := hm.cells
        have E9 := Lib.hid hq
        have M9 := Lib.hid hm
        clear hh hq hm hv
        go_wp2_with fail
        refine (mid_whole r M9.out).mono fun e w2 hh => ?_
        rcases hq : wholeN h.m.types r s9 with _ | s10
        · obtain ⟨rfl, hc⟩ := hh.none_ hq
          have EB := Lib.hid hq
          have CB := Lib.hid hc
          clear hh hq hc
          go_wp2_with fail
          exact ⟨rfl, OutO.bad CB.out (by simp only [op8, Option.bind_some, Option.bind_none, Option.map_some, Option.map_none, Bool.true_and, Bool.false_and, Bool.and_true, Bool.and_false, Bool.false_or, Bool.true_or, Bool.or_false, Bool.or_true, E0.out, E1.out, E8.out, E9.out, EB.out])⟩
        · obtain ⟨rfl, hm⟩ := hh.some_ hq
          clear z0 z1 z2 z3 z4
          obtain ⟨z0, z1, z2, z3, z4⟩ := hm.cells
          have E10 := Lib.hid hq
          have M10 := Lib.hid hm
          clear hh hq hm
          go_wp2_with fail
          refine (mid_pop (k := (k + 2)) M10.out).mono fun e w2 hh => ?_
          rcases hq : popN s10 with _ | ⟨q, s11⟩
          · obtain ⟨rfl, hc⟩ := hh.none_ hq
            have EB := Lib.hid hq
            have CB := Lib.hid hc
            clear hh hq hc
            go_wp2_with fail
            exact ⟨rfl, OutO.bad CB.out (by simp only [op8, Option.bind_some, Option.bind_none, Option.map_some, Option.map_none, Bool.true_and, Bool.false_and, Bool.and_true, Bool.and_false, Bool.false_or, Bool.true_or, Bool.or_false, Bool.or_true, E0.out, E1.out, E8.out, E9.out, E10.out, EB.out])⟩
          · obtain ⟨rfl, hm, hv⟩ := hh.some_ hq
            have Vq := Lib.hid hv
            clear z0 z1 z2 z3 z4
            obtain ⟨z0, z1, z2, z3, z4⟩ := hm.cells
            have E11 := Lib.hid hq
            have M11 := Lib.hid hm
            clear hh hq hm hv
            go_wp2_with fail
            refine (mid_whole q M11.out).mono fun e w2 hh => ?_
            rcases hq : wholeN h.m.types q s11 with _ | s12
            · obtain ⟨rfl, hc⟩ := hh.none_ hq
              have EB := Lib.hid hq
              have CB := Lib.hid hc
              clear hh hq hc
              go_wp2_with fail
              exact ⟨rfl, OutO.bad CB.out (by simp only [op8, Option.bind_some, Option.bind_none, Option.map_some, Option.map_none, Bool.true_and, Bool.false_and, Bool.and_true, Bool.and_false, Bool.false_or, Bool.true_or, Bool.or_false, Bool.or_true, E0.out, E1.out, E8.out, E9.out, E10.out, E11.out, EB.out])⟩
            · obtain ⟨rfl, hm⟩ := hh.some_ hq
              clear z0 z1 z2 z3 z4
              obtain ⟨z0, z1, z2, z3, z4⟩ := hm.cells
              have E12 := Lib.hid hq
              have M12 := Lib.hid hm
              clear hh hq hm
              go_wp2_with fail
              refine (mid_push (k := k) q Vq.out M12.out).mono fun e w2 hh => ?_
              rcases hq : pushN q s12 with _ | s13
              · obtain ⟨rfl, hc⟩ := hh.none_ hq
                have EB := Lib.hid hq
                have CB := Lib.hid hc
                clear hh hq hc
                go_wp2_with fail
                exact ⟨rfl, OutO.bad CB.out (by simp only [op8, Option.bind_some, Option.bind_none, Option.map_some, Option.map_none, Bool.true_and, Bool.false_and, Bool.and_true, Bool.and_false, Bool.false_or, Bool.true_or, Bool.or_false, Bool.or_true, E0.out, E1.out, E8.out, E9.out, E10.out, E11.out, E12.out, EB.out])⟩
              · obtain ⟨rfl, hm⟩ := hh.some_ hq
                clear z0 z1 z2 z3 z4
                obtain ⟨z0, z1, z2, z3, z4⟩ := hm.cells
                have E13 := Lib.hid hq
                have M13 := Lib.hid hm
                clear hh hq hm
                go_wp2_with fail
                go_ret
                exact OutO.good M13.out (by simp only [op8, Option.bind_some, Option.bind_none, Option.map_some, Option.map_none, Bool.true_and, Bool.false_and, Bool.and_true, Bool.and_false, Bool.false_or, Bool.true_or, Bool.or_false, Bool.or_true, E0.out, E1.out, E8.out, E9.out, E10.out, E11.out, E12.out, E13.out])
set_option maxRecDepth 100000 in
set_option maxHeartbeats 4000000 in
theorem nums_9 (h : Hd) (k : Nat) (w : World) (s : VSt) (xa xb : Int) (xn : Nat) (cs : List CaseD) (A : Option Addr) (c : Nat) (H : CkI h (k + 1100) w s) (HV : StV h.m s.stack) :
    Calls Try.prog 53 #[.pointer (some ⟨h.p, 0, none⟩), instrV ⟨9, xa, xb, xn, cs⟩ A c] w (OutO h k w ((op9 h.m ⟨9, xa, xb, xn, cs⟩ s).map (true, ·))) := by
  have hm := Mid.start ⟨9, xa, xb, xn, cs⟩ A c (H.less (show k + 4 ≤ k + 1100 by omega)) HV
  obtain ⟨z0, z1, z2, z3, z4⟩ := hm.cells
  have M := Lib.hid hm
  clear hm H HV
  unfold instrV
  go_enter Try.func53, Try.ntmps53
  go_wp2_with fail
  refine (mid_fields (k := k + 4) false true false M.out).mono fun e w2 hh => ?_
  rcases hq : fieldsN ⟨9, xa, xb, xn, cs⟩ false true false s with _ | s0
  · obtain ⟨rfl, hc⟩ := hh.none_ hq
    have EB := Lib.hid hq
    have CB := Lib.hid hc
    clear hh hq hc
    go_wp2_with fail
    exact ⟨rfl, OutO.bad CB.out (by simp only [op9, Option.bind_some, Option.bind_none, Option.map_some, Option.map_none, Bool.true_and, Bool.false_and, Bool.and_true, Bool.and_false, Bool.false_or, Bool.true_or, Bool.or_false, Bool.or_true, EB.out])⟩
  · obtain ⟨rfl, hm⟩ := hh.some_ hq
    clear z0 z1 z2 z3 z4
    obtain ⟨z0, z1, z2, z3, z4⟩ := hm.cells
    have E0 := Lib.hid hq
    have M0 := Lib.hid hm
    clear hh hq hm
    go_wp2_with fail
    refine (mid_is xb 1 M0.out).mono fun e w2 hh => ?_
    rcases hq : isKN h.m.types xb 1 s0 with _ | s1
    · obtain ⟨rfl, hc⟩ := hh.none_ hq
      have EB := Lib.hid hq
      have CB := Lib.hid hc
      clear hh hq hc
      go_wp2_with fail
      exact ⟨rfl, OutO.bad CB.out (by simp only [op9, Option.bind_some, Option.bind_none, Option.map_some, Option.map_none, Bool.true_and, Bool.false_and, Bool.and_true, Bool.and_false, Bool.false_or, Bool.true_or, Bool.or_false, Bool.or_true, E0.out, EB.out])⟩
    · obtain ⟨rfl, hm⟩ := hh.some_ hq
      clear z0 z1 z2 z3 z4
      obtain ⟨z0, z1, z2, z3, z4⟩ := hm.cells
      have E1 := Lib.hid hq
      have M1 := Lib.hid hm
      clear hh hq hm
      go_wp2_with fail
      refine (mid_pop (k := (k + 3)) M1.out).mono fun e w2 hh => ?_
      rcases hq : popN s1 with _ | ⟨r, s2⟩
      · obtain ⟨rfl, hc⟩ := hh.none_ hq
        have EB := Lib.hid hq
        have CB := Lib.hid hc
        clear hh hq hc
        go_wp2_with fail
        exact ⟨rfl, OutO.bad CB.out (by simp only [op9, Option.bind_some, Option.bind_none, Option.map_some, Option.map_none, Bool.true_and, Bool.false_and, Bool.and_true, Bool.and_false, Bool.false_or, Bool.true_or, Bool.or_false, Bool.or_true, E0.out, E1.out, EB.out])⟩
      · obtain ⟨rfl, hm, hv⟩ := hh.some_ hq
        have Vr := Lib.hid hv
        clear z0 z1 z2 z3 z4
        obtain ⟨z0, z1, z2, z3, z4⟩ := hm.cells
        have E2 := Lib.hid hq
        have M2 := Lib.hid hm
        clear hh hq hm hv
        go_wp2_with fail
        refine (mid_whole r M2.out).mono fun e w2 hh => ?_
        rcases hq : wholeN h.m.types r s2 with _ | s3
        · obtain ⟨rfl, hc⟩ := hh.none_ hq
          have EB := Lib.hid hq
          have CB := Lib.hid hc
          clear hh hq hc
          go_wp2_with fail
          exact ⟨rfl, OutO.bad CB.out (by simp only [op9, Option.bind_some, Option.bind_none, Option.map_some, Option.map_none, Bool.true_and, Bool.false_and, Bool.and_true, Bool.and_false, Bool.false_or, Bool.true_or, Bool.or_false, Bool.or_true, E0.out, E1.out, E2.out, EB.out])⟩
        · obtain ⟨rfl, hm⟩ := hh.some_ hq
          clear z0 z1 z2 z3 z4
          obtain ⟨z0, z1, z2, z3, z4⟩ := hm.cells
          have E3 := Lib.hid hq
          have M3 := Lib.hid hm
          clear hh hq hm
          go_wp2_with fail
          refine (mid_want (k := (k + 2)) r M3.out).mono fun e w2 hh => ?_
          rcases hq : wantN r s3 with _ | s4
          · obtain ⟨rfl, hc⟩ := hh.none_ hq
            have EB := Lib.hid hq
            have CB := Lib.hid hc
            clear hh hq hc
            go_wp2_with fail
            exact ⟨rfl, OutO.bad CB.out (by simp only [op9, Option.bind_some, Option.bind_none, Option.map_some, Option.map_none, Bool.true_and, Bool.false_and, Bool.and_true, Bool.and_false, Bool.false_or, Bool.true_or, Bool.or_false, Bool.or_true, E0.out, E1.out, E2.out, E3.out, EB.out])⟩
          · obtain ⟨rfl, hm⟩ := hh.some_ hq
            clear z0 z1 z2 z3 z4
            obtain ⟨z0, z1, z2, z3, z4⟩ := hm.cells
            have E4 := Lib.hid hq
            have M4 := Lib.hid hm
            clear hh hq hm
            go_wp2_with fail
            refine (mid_push (k := k) xb (is_valid E1.out (by decide)) M4.out).mono fun e w2 hh => ?_
            rcases hq : pushN xb s4 with _ | s5
            · obtain ⟨rfl, hc⟩ := hh.none_ hq
              have EB := Lib.hid hq
              have CB := Lib.hid hc
              clear hh hq hc
              go_wp2_with fail
              exact ⟨rfl, OutO.bad CB.out (by simp only [op9, Option.bind_some, Option.bind_none, Option.map_some, Option.map_none, Bool.true_and, Bool.false_and, Bool.and_true, Bool.and_false, Bool.false_or, Bool.true_or, Bool.or_false, Bool.or_true, E0.out, E1.out, E2.out, E3.out, E4.out, EB.out])⟩
            · obtain ⟨rfl, hm⟩ := hh.some_ hq
              clear z0 z1 z2 z3 z4
              obtain ⟨z0, z1, z2, z3, z4⟩ := hm.cells
              have E5 := Lib.hid hq
              have M5 := Lib.hid hm
              clear hh hq hm
              go_wp2_with fail
              go_ret
              exact OutO.good M5.out (by simp only [op9, Option.bind_some, Option.bind_none, Option.map_some, Option.map_none, Bool.true_and, Bool.false_and, Bool.and_true, Bool.and_false, Bool.false_or, Bool.true_or, Bool.or_false, Bool.or_true, E0.out, E1.out, E2.out, E3.out, E4.out, E5.out])
set_option maxRecDepth 100000 in
set_option maxHeartbeats 4000000 in
theorem nums_10 (h : Hd) (k : Nat) (w : World) (s : VSt) (xa xb : Int) (xn : Nat) (cs : List CaseD) (A : Option Addr) (c : Nat) (H : CkI h (k + 1100) w s) (HV : StV h.m s.stack) :
    Calls Try.prog 53 #[.pointer (some ⟨h.p, 0, none⟩), instrV ⟨10, xa, xb, xn, cs⟩ A c] w (OutO h k w ((op10 h.m ⟨10, xa, xb, xn, cs⟩ s).map (true, ·))) := by
  have hm := Mid.start ⟨10, xa, xb, xn, cs⟩ A c (H.less (show k + 4 ≤ k + 1100 by omega)) HV
  obtain ⟨z0, z1, z2, z3, z4⟩ := hm.cells
  have M := Lib.hid hm
  clear hm H HV
  unfold instrV
  go_enter Try.func53, Try.ntmps53
  go_wp2_with fail
  refine (mid_fields (k := k + 4) false true false M.out).mono fun e w2 hh => ?_
  rcases hq : fieldsN ⟨10, xa, xb, xn, cs⟩ false true false s with _ | s0
  · obtain ⟨rfl, hc⟩ := hh.none_ hq
    have EB := Lib.hid hq
    have CB := Lib.hid hc
    clear hh hq hc
    go_wp2_with fail
    exact ⟨rfl, OutO.bad CB.out (by simp only [op10, Option.bind_some, Option.bind_none, Option.map_some, Option.map_none, Bool.true_and, Bool.false_and, Bool.and_true, Bool.and_false, Bool.false_or, Bool.true_or, Bool.or_false, Bool.or_true, EB.out])⟩
  · obtain ⟨rfl, hm⟩ := hh.some_ hq
    clear z0 z1 z2 z3 z4
    obtain ⟨z0, z1, z2, z3, z4⟩ := hm.cells
    have E0 := Lib.hid hq
    have M0 := Lib.hid hm
    clear hh hq hm
    go_wp2_with fail
    refine (mid_is xb 1 M0.out).mono fun e w2 hh => ?_
    rcases hq : isKN h.m.types xb 1 s0 with _ | s1
    · obtain ⟨rfl, hc⟩ := hh.none_ hq
      have EB := Lib.hid hq
      have CB := Lib.hid hc
      clear hh hq hc
      go_wp2_with fail
      exact ⟨rfl, OutO.bad CB.out (by simp only [op10, Option.bind_some, Option.bind_none, Option.map_some, Option.map_none, Bool.true_and, Bool.false_and, Bool.and_true, Bool.and_false, Bool.false_or, Bool.true_or, Bool.or_false, Bool.or_true, E0.out, EB.out])⟩
    · obtain ⟨rfl, hm⟩ := hh.some_ hq
      clear z0 z1 z2 z3 z4
      obtain ⟨z0, z1, z2, z3, z4⟩ := hm.cells
      have E1 := Lib.hid hq
      have M1 := Lib.hid hm
      clear hh hq hm
      go_wp2_with fail
      refine (mid_pop (k := (k + 3)) M1.out).mono fun e w2 hh => ?_
      rcases hq : popN s1 with _ | ⟨r, s2⟩
      · obtain ⟨rfl, hc⟩ := hh.none_ hq
        have EB := Lib.hid hq
        have CB := Lib.hid hc
        clear hh hq hc
        go_wp2_with fail
        exact ⟨rfl, OutO.bad CB.out (by simp only [op10, Option.bind_some, Option.bind_none, Option.map_some, Option.map_none, Bool.true_and, Bool.false_and, Bool.and_true, Bool.and_false, Bool.false_or, Bool.true_or, Bool.or_false, Bool.or_true, E0.out, E1.out, EB.out])⟩
      · obtain ⟨rfl, hm, hv⟩ := hh.some_ hq
        have Vr := Lib.hid hv
        clear z0 z1 z2 z3 z4
        obtain ⟨z0, z1, z2, z3, z4⟩ := hm.cells
        have E2 := Lib.hid hq
        have M2 := Lib.hid hm
        clear hh hq hm hv
        go_wp2_with fail
        refine (mid_compares r Vr.out M2.out).mono fun e w2 hh => ?_
        obtain ⟨rfl, hm⟩ := hh
        clear z0 z1 z2 z3 z4
        obtain ⟨z0, z1, z2, z3, z4⟩ := hm.cells
        have M3 := Lib.hid hm
        clear hm
        obtain ⟨cb, hcb⟩ : ∃ cb, cmpN h.m.types r = cb := ⟨_, rfl⟩
        rw [hcb]
        have E3 := Lib.hid hcb
        clear hcb
        go_wp2_with fail
        refine (mid_need cb M3.out).mono fun e w2 hh => ?_
        rcases hq : needN cb s2 with _ | s4
        · obtain ⟨rfl, hc⟩ := hh.none_ hq
          have EB := Lib.hid hq
          have CB := Lib.hid hc
          clear hh hq hc
          go_wp2_with fail
          exact ⟨rfl, OutO.bad CB.out (by simp only [op10, Option.bind_some, Option.bind_none, Option.map_some, Option.map_none, Bool.true_and, Bool.false_and, Bool.and_true, Bool.and_false, Bool.false_or, Bool.true_or, Bool.or_false, Bool.or_true, E0.out, E1.out, E2.out, E3.out, EB.out])⟩
        · obtain ⟨rfl, hm⟩ := hh.some_ hq
          clear z0 z1 z2 z3 z4
          obtain ⟨z0, z1, z2, z3, z4⟩ := hm.cells
          have E4 := Lib.hid hq
          have M4 := Lib.hid hm
          clear hh hq hm
          go_wp2_with fail
          refine (mid_want (k := (k + 2)) r M4.out).mono fun e w2 hh => ?_
          rcases hq : wantN r s4 with _ | s5
          · obtain ⟨rfl, hc⟩ := hh.none_ hq
            have EB := Lib.hid hq
            have CB := Lib.hid hc
            clear hh hq hc
            go_wp2_with fail
            exact ⟨rfl, OutO.bad CB.out (by simp only [op10, Option.bind_some, Option.bind_none, Option.map_some, Option.map_none, Bool.true_and, Bool.false_and, Bool.and_true, Bool.and_false, Bool.false_or, Bool.true_or, Bool.or_false, Bool.or_true, E0.out, E1.out, E2.out, E3.out, E4.out, EB.out])⟩
          · obtain ⟨rfl, hm⟩ := hh.some_ hq
            clear z0 z1 z2 z3 z4
            obtain ⟨z0, z1, z2, z3, z4⟩ := hm.cells
            have E5 := Lib.hid hq
            have M5 := Lib.hid hm
            clear hh hq hm
            go_wp2_with fail
            refine (mid_push (k := k) xb (is_valid E1.out (by decide)) M5.out).mono fun e w2 hh => ?_
            rcases hq : pushN xb s5 with _ | s6
            · obtain ⟨rfl, hc⟩ := hh.none_ hq
              have EB := Lib.hid hq
              have CB := Lib.hid hc
              clear hh hq hc
              go_wp2_with fail
              exact ⟨rfl, OutO.bad CB.out (by simp only [op10, Option.bind_some, Option.bind_none, Option.map_some, Option.map_none, Bool.true_and, Bool.false_and, Bool.and_true, Bool.and_false, Bool.false_or, Bool.true_or, Bool.or_false, Bool.or_true, E0.out, E1.out, E2.out, E3.out, E4.out, E5.out, EB.out])⟩
            · obtain ⟨rfl, hm⟩ := hh.some_ hq
              clear z0 z1 z2 z3 z4
              obtain ⟨z0, z1, z2, z3, z4⟩ := hm.cells
              have E6 := Lib.hid hq
              have M6 := Lib.hid hm
              clear hh hq hm
              go_wp2_with fail
              go_ret
              exact OutO.good M6.out (by simp only [op10, Option.bind_some, Option.bind_none, Option.map_some, Option.map_none, Bool.true_and, Bool.false_and, Bool.and_true, Bool.and_false, Bool.false_or, Bool.true_or, Bool.or_false, Bool.or_true, E0.out, E1.out, E2.out, E3.out, E4.out, E5.out, E6.out])
set_option maxRecDepth 100000 in
set_option maxHeartbeats 4000000 in
theorem nums_11 (h : Hd) (k : Nat) (w : World) (s : VSt) (xa xb : Int) (xn : Nat) (cs : List CaseD) (A : Option Addr) (c : Nat) (H : CkI h (k + 1100) w s) (HV : StV h.m s.stack) :
    Calls Try.prog 53 #[.pointer (some ⟨h.p, 0, none⟩), instrV ⟨11, xa, xb, xn, cs⟩ A c] w (OutO h k w ((op11 h.m ⟨11, xa, xb, xn, cs⟩ s).map (true, ·))) := by
  have hm := Mid.start ⟨11, xa, xb, xn, cs⟩ A c (H.less (show k + 3 ≤ k + 1100 by omega)) HV
  obtain ⟨z0, z1, z2, z3, z4⟩ := hm.cells
  have M := Lib.hid hm
  clear hm H HV
  unfold instrV
  go_enter Try.func53, Try.ntmps53
  go_wp2_with fail
  refine (mid_fields (k := k + 3) false false false M.out).mono fun e w2 hh => ?_
  rcases hq : fieldsN ⟨11, xa, xb, xn, cs⟩ false false false s with _ | s0
  · obtain ⟨rfl, hc⟩ := hh.none_ hq
    have EB := Lib.hid hq
    have CB := Lib.hid hc
    clear hh hq hc
    go_wp2_with fail
    exact ⟨rfl, OutO.bad CB.out (by simp only [op11, Option.bind_some, Option.bind_none, Option.map_some, Option.map_none, Bool.true_and, Bool.false_and, Bool.and_true, Bool.and_false, Bool.false_or, Bool.true_or, Bool.or_false, Bool.or_true, EB.out])⟩
  · obtain ⟨rfl, hm⟩ := hh.some_ hq
    clear z0 z1 z2 z3 z4
    obtain ⟨z0, z1, z2, z3, z4⟩ := hm.cells
    have E0 := Lib.hid hq
    have M0 := Lib.hid hm
    clear hh hq hm
    go_wp2_with fail
    refine (mid_pop (k := (k + 2)) M0.out).mono fun e w2 hh => ?_
    rcases hq : popN s0 with _ | ⟨r, s1⟩
    · obtain ⟨rfl, hc⟩ := hh.none_ hq
      have EB := Lib.hid hq
      have CB := Lib.hid hc
      clear hh hq hc
      go_wp2_with fail
      exact ⟨rfl, OutO.bad CB.out (by simp only [op11, Option.bind_some, Option.bind_none, Option.map_some, Option.map_none, Bool.true_and, Bool.false_and, Bool.and_true, Bool.and_false, Bool.false_or, Bool.true_or, Bool.or_false, Bool.or_true, E0.out, EB.out])⟩
    · obtain ⟨rfl, hm, hv⟩ := hh.some_ hq
      have Vr := Lib.hid hv
      clear z0 z1 z2 z3 z4
      obtain ⟨z0, z1, z2, z3, z4⟩ := hm.cells
      have E1 := Lib.hid hq
      have M1 := Lib.hid hm
      clear hh hq hm hv
      go_wp2_with fail
      refine (mid_is r 1 M1.out).mono fun e w2 hh => ?_
      rcases hq : isKN h.m.types r 1 s1 with _ | s2
      · obtain ⟨rfl, hc⟩ := hh.none_ hq
        have EB := Lib.hid hq
        have CB := Lib.hid hc
        clear hh hq hc
        go_wp2_with fail
        exact ⟨rfl, OutO.bad CB.out (by simp only [op11, Option.bind_some, Option.bind_none, Option.map_some, Option.map_none, Bool.true_and, Bool.false_and, Bool.and_true, Bool.and_false, Bool.false_or, Bool.true_or, Bool.or_false, Bool.or_true, E0.out, E1.out, EB.out])⟩
      · obtain ⟨rfl, hm⟩ := hh.some_ hq
        clear z0 z1 z2 z3 z4
        obtain ⟨z0, z1, z2, z3, z4⟩ := hm.cells
        have E2 := Lib.hid hq
        have M2 := Lib.hid hm
        clear hh hq hm
        go_wp2_with fail
        refine (mid_push (k := k) r Vr.out M2.out).mono fun e w2 hh => ?_
        rcases hq : pushN r s2 with _ | s3
        · obtain ⟨rfl, hc⟩ := hh.none_ hq
          have EB := Lib.hid hq
          have CB := Lib.hid hc
          clear hh hq hc
          go_wp2_with fail
          exact ⟨rfl, OutO.bad CB.out (by simp only [op11, Option.bind_some, Option.bind_none, Option.map_some, Option.map_none, Bool.true_and, Bool.false_and, Bool.and_true, Bool.and_false, Bool.false_or, Bool.true_or, Bool.or_false, Bool.or_true, E0.out, E1.out, E2.out, EB.out])⟩
        · obtain ⟨rfl, hm⟩ := hh.some_ hq
          clear z0 z1 z2 z3 z4
          obtain ⟨z0, z1, z2, z3, z4⟩ := hm.cells
          have E3 := Lib.hid hq
          have M3 := Lib.hid hm
          clear hh hq hm
          go_wp2_with fail
          go_ret
          exact OutO.good M3.out (by simp only [op11, Option.bind_some, Option.bind_none, Option.map_some, Option.map_none, Bool.true_and, Bool.false_and, Bool.and_true, Bool.and_false, Bool.false_or, Bool.true_or, Bool.or_false, Bool.or_true, E0.out, E1.out, E2.out, E3.out])
set_option maxRecDepth 100000 in
set_option maxHeartbeats 4000000 in
theorem nums_12 (h : Hd) (k : Nat) (w : World) (s : VSt) (xa xb : Int) (xn : Nat) (cs : List CaseD) (A : Option Addr) (c : Nat) (H : CkI h (k + 1100) w s) (HV : StV h.m s.stack) :
    Calls Try.prog 53 #[.pointer (some ⟨h.p, 0, none⟩), instrV ⟨12, xa, xb, xn, cs⟩ A c] w (OutO h k w ((op12 h.m ⟨12, xa, xb, xn, cs⟩ s).map (true, ·))) := by
  have hm := Mid.start ⟨12, xa, xb, xn, cs⟩ A c (H.less (show k + 3 ≤ k + 1100 by omega)) HV
  obtain ⟨z0, z1, z2, z3, z4⟩ := hm.cells
  have M := Lib.hid hm
  clear hm H HV
  unfold instrV
  go_enter Try.func53, Try.ntmps53
  go_wp2_with fail
  refine (mid_fields (k := k + 3) true false false M.out).mono fun e w2 hh => ?_
  rcases hq : fieldsN ⟨12, xa, xb, xn, cs⟩ true false false s with _ | s0
  · obtain ⟨rfl, hc⟩ := hh.none_ hq
    have EB := Lib.hid hq
    have CB := Lib.hid hc
    clear hh hq hc
    go_wp2_with fail
    exact ⟨rfl, OutO.bad CB.out (by simp only [op12, Option.bind_some, Option.bind_none, Option.map_some, Option.map_none, Bool.true_and, Bool.false_and, Bool.and_true, Bool.and_false, Bool.false_or, Bool.true_or, Bool.or_false, Bool.or_true, EB.out])⟩
  · obtain ⟨rfl, hm⟩ := hh.some_ hq
    clear z0 z1 z2 z3 z4
    obtain ⟨z0, z1, z2, z3, z4⟩ := hm.cells
    have E0 := Lib.hid hq
    have M0 := Lib.hid hm
    clear hh hq hm
    go_wp2_with fail
    refine (mid_whole xa M0.out).mono fun e w2 hh => ?_
    rcases hq : wholeN h.m.types xa s0 with _ | s1
    · obtain ⟨rfl, hc⟩ := hh.none_ hq
      have EB := Lib.hid hq
      have CB := Lib.hid hc
      clear hh hq hc
      go_wp2_with fail
      exact ⟨rfl, OutO.bad CB.out (by simp only [op12, Option.bind_some, Option.bind_none, Option.map_some, Option.map_none, Bool.true_and, Bool.false_and, Bool.and_true, Bool.and_false, Bool.false_or, Bool.true_or, Bool.or_false, Bool.or_true, E0.out, EB.out])⟩
    · obtain ⟨rfl, hm⟩ := hh.some_ hq
      clear z0 z1 z2 z3 z4
      obtain ⟨z0, z1, z2, z3, z4⟩ := hm.cells
      have E1 := Lib.hid hq
      have M1 := Lib.hid hm
      clear hh hq hm
      go_wp2_with fail
      refine (mid_pop (k := (k + 2)) M1.out).mono fun e w2 hh => ?_
      rcases hq : popN s1 with _ | ⟨r, s2⟩
      · obtain ⟨rfl, hc⟩ := hh.none_ hq
        have EB := Lib.hid hq
        have CB := Lib.hid hc
        clear hh hq hc
        go_wp2_with fail
        exact ⟨rfl, OutO.bad CB.out (by simp only [op12, Option.bind_some, Option.bind_none, Option.map_some, Option.map_none, Bool.true_and, Bool.false_and, Bool.and_true, Bool.and_false, Bool.false_or, Bool.true_or, Bool.or_false, Bool.or_true, E0.out, E1.out, EB.out])⟩
      · obtain ⟨rfl, hm, hv⟩ := hh.some_ hq
        have Vr := Lib.hid hv
        clear z0 z1 z2 z3 z4
        obtain ⟨z0, z1, z2, z3, z4⟩ := hm.cells
        have E2 := Lib.hid hq
        have M2 := Lib.hid hm
        clear hh hq hm hv
        go_wp2_with fail
        refine (mid_whole r M2.out).mono fun e w2 hh => ?_
        rcases hq : wholeN h.m.types r s2 with _ | s3
        · obtain ⟨rfl, hc⟩ := hh.none_ hq
          have EB := Lib.hid hq
          have CB := Lib.hid hc
          clear hh hq hc
          go_wp2_with fail
          exact ⟨rfl, OutO.bad CB.out (by simp only [op12, Option.bind_some, Option.bind_none, Option.map_some, Option.map_none, Bool.true_and, Bool.false_and, Bool.and_true, Bool.and_false, Bool.false_or, Bool.true_or, Bool.or_false, Bool.or_true, E0.out, E1.out, E2.out, EB.out])⟩
        · obtain ⟨rfl, hm⟩ := hh.some_ hq
          clear z0 z1 z2 z3 z4
          obtain ⟨z0, z1, z2, z3, z4⟩ := hm.cells
          have E3 := Lib.hid hq
          have M3 := Lib.hid hm
          clear hh hq hm
          go_wp2_with fail
          refine (mid_push (k := k) xa (whole_valid E1.out) M3.out).mono fun e w2 hh => ?_
          rcases hq : pushN xa s3 with _ | s4
          · obtain ⟨rfl, hc⟩ := hh.none_ hq
            have EB := Lib.hid hq
            have CB := Lib.hid hc
            clear hh hq hc
            go_wp2_with fail
            exact ⟨rfl, OutO.bad CB.out (by simp only [op12, Option.bind_some, Option.bind_none, Option.map_some, Option.map_none, Bool.true_and, Bool.false_and, Bool.and_true, Bool.and_false, Bool.false_or, Bool.true_or, Bool.or_false, Bool.or_true, E0.out, E1.out, E2.out, E3.out, EB.out])⟩
          · obtain ⟨rfl, hm⟩ := hh.some_ hq
            clear z0 z1 z2 z3 z4
            obtain ⟨z0, z1, z2, z3, z4⟩ := hm.cells
            have E4 := Lib.hid hq
            have M4 := Lib.hid hm
            clear hh hq hm
            go_wp2_with fail
            go_ret
            exact OutO.good M4.out (by simp only [op12, Option.bind_some, Option.bind_none, Option.map_some, Option.map_none, Bool.true_and, Bool.false_and, Bool.and_true, Bool.and_false, Bool.false_or, Bool.true_or, Bool.or_false, Bool.or_true, E0.out, E1.out, E2.out, E3.out, E4.out])
end Go.Proofs.Ytdegfnejhamejaa
namespace Go.Proofs.Ytdegfnejhamejaa
open Go.RowKit
set_option linter.unusedVariables false
set_option linter.unusedSimpArgs false

set_option maxRecDepth 100000 in
set_option maxHeartbeats 4000000 in
theorem vals_3 (h : Hd) (k : Nat) (w : World) (s : VSt) (xa xb : Int) (xn : Nat) (cs : List CaseD) (A : Option Addr) (c : Nat) (H : CkI h (k + 1100) w s) (HV : StV h.m s.stack) :
    Calls Try.prog 54 #[.pointer (some ⟨h.p, 0, none⟩), instrV ⟨3, xa, xb, xn, cs⟩ A c] w (OutO h k w ((op3 h.m ⟨3, xa, xb, xn, cs⟩ s).map (true, ·))) := by
  have hm := Mid.start ⟨3, xa, xb, xn, cs⟩ A c (H.less (show k + 2 ≤ k + 1100 by omega)) HV
  obtain ⟨z0, z1, z2, z3, z4⟩ := hm.cells
  have M := Lib.hid hm
  clear hm H HV
  unfold instrV
  go_enter Try.func54, Try.ntmps54
  go_wp2_with fail
  refine (mid_fields (k := k + 2) true false false M.out).mono fun e v0 hh => ?_
  rcases hq : fieldsN ⟨3, xa, xb, xn, cs⟩ true false false s with _ | s0
  · obtain ⟨rfl, hc⟩ := hh.none_ hq
    have EB := Lib.hid hq
    have CB := Lib.hid hc
    clear hh hq hc
    go_wp2_with fail
    exact ⟨rfl, OutO.bad CB.out (by simp only [op3, Option.bind_some, Option.bind_none, Option.map_some, Option.map_none, Bool.true_and, Bool.false_and, Bool.and_true, Bool.and_false, Bool.false_or, Bool.true_or, Bool.or_false, Bool.or_true, EB.out])⟩
  · obtain ⟨rfl, hm⟩ := hh.some_ hq
    clear z0 z1 z2 z3 z4
    obtain ⟨z0, z1, z2, z3, z4⟩ := hm.cells
    have E0 := Lib.hid hq
    have M0 := Lib.hid hm
    clear hh hq hm
    go_wp2_with fail
    refine (mid_kind xa M0.out).mono fun e v1 hh => ?_
    obtain ⟨rfl, rfl⟩ := hh
    obtain ⟨kd, hkd⟩ : ∃ kd, kindN h.m.types xa = kd := ⟨_, rfl⟩
    rw [hkd]
    have E1 := Lib.hid hkd
    clear hkd
    go_wp2_with fail
    refine (mid_need (kd != 0) M0.out).mono fun e v2 hh => ?_
    rcases hq : needN (kd != 0) s0 with _ | s2
    · obtain ⟨rfl, hc⟩ := hh.none_ hq
      have EB := Lib.hid hq
      have CB := Lib.hid hc
      clear hh hq hc
      go_wp2_with fail
      exact ⟨rfl, OutO.bad CB.out (by simp only [op3, Option.bind_some, Option.bind_none, Option.map_some, Option.map_none, Bool.true_and, Bool.false_and, Bool.and_true, Bool.and_false, Bool.false_or, Bool.true_or, Bool.or_false, Bool.or_true, E0.out, E1.out, EB.out])⟩
    · obtain ⟨rfl, hm⟩ := hh.some_ hq
      clear z0 z1 z2 z3 z4
      obtain ⟨z0, z1, z2, z3, z4⟩ := hm.cells
      have E2 := Lib.hid hq
      have M2 := Lib.hid hm
      clear hh hq hm
      go_wp2_with fail
      refine (mid_push (k := k) xa (nz_valid (by rw [E1.out]; simpa using (needN_some E2.out).1)) M2.out).mono fun e v3 hh => ?_
      rcases hq : pushN xa s2 with _ | s3
      · obtain ⟨rfl, hc⟩ := hh.none_ hq
        have EB := Lib.hid hq
        have CB := Lib.hid hc
        clear hh hq hc
        go_wp2_with fail
        exact ⟨rfl, OutO.bad CB.out (by simp only [op3, Option.bind_some, Option.bind_none, Option.map_some, Option.map_none, Bool.true_and, Bool.false_and, Bool.and_true, Bool.and_false, Bool.false_or, Bool.true_or, Bool.or_false, Bool.or_true, E0.out, E1.out, E2.out, EB.out])⟩
      · obtain ⟨rfl, hm⟩ := hh.some_ hq
        clear z0 z1 z2 z3 z4
        obtain ⟨z0, z1, z2, z3, z4⟩ := hm.cells
        have E3 := Lib.hid hq
        have M3 := Lib.hid hm
        clear hh hq hm
        go_wp2_with fail
        go_ret
        exact OutO.good M3.out (by simp only [op3, Option.bind_some, Option.bind_none, Option.map_some, Option.map_none, Bool.true_and, Bool.false_and, Bool.and_true, Bool.and_false, Bool.false_or, Bool.true_or, Bool.or_false, Bool.or_true, E0.out, E1.out, E2.out, E3.out])
set_option maxRecDepth 100000 in
set_option maxHeartbeats 4000000 in
theorem vals_4 (h : Hd) (k : Nat) (w : World) (s : VSt) (xa xb : Int) (xn : Nat) (cs : List CaseD) (A : Option Addr) (c : Nat) (H : CkI h (k + 1100) w s) (HV : StV h.m s.stack) :
    Calls Try.prog 54 #[.pointer (some ⟨h.p, 0, none⟩), instrV ⟨4, xa, xb, xn, cs⟩ A c] w (OutO h k w ((op4 h.f ⟨4, xa, xb, xn, cs⟩ s).map (true, ·))) := by
  have hm := Mid.start ⟨4, xa, xb, xn, cs⟩ A c (H.less (show k + 2 ≤ k + 1100 by omega)) HV
  obtain ⟨z0, z1, z2, z3, z4⟩ := hm.cells
  have M := Lib.hid hm
  clear hm H HV
  unfold instrV
  go_enter Try.func54, Try.ntmps54
  go_wp2_with fail
  refine (mid_fields (k := k + 2) true false false M.out).mono fun e v0 hh => ?_
  rcases hq : fieldsN ⟨4, xa, xb, xn, cs⟩ true false false s with _ | s0
  · obtain ⟨rfl, hc⟩ := hh.none_ hq
    have EB := Lib.hid hq
    have CB := Lib.hid hc
    clear hh hq hc
    go_wp2_with fail
    exact ⟨rfl, OutO.bad CB.out (by simp only [op4, Option.bind_some, Option.bind_none, Option.map_some, Option.map_none, Bool.true_and, Bool.false_and, Bool.and_true, Bool.and_false, Bool.false_or, Bool.true_or, Bool.or_false, Bool.or_true, EB.out])⟩
  · obtain ⟨rfl, hm⟩ := hh.some_ hq
    clear z0 z1 z2 z3 z4
    obtain ⟨z0, z1, z2, z3, z4⟩ := hm.cells
    have E0 := Lib.hid hq
    have M0 := Lib.hid hm
    clear hh hq hm
    go_wp2_with fail
    refine (mid_local xa M0.out).mono fun e v1 hh => ?_
    rcases hq : localN h.f xa s0 with _ | s1
    · obtain ⟨rfl, hc⟩ := hh.none_ hq
      have EB := Lib.hid hq
      have CB := Lib.hid hc
      clear hh hq hc
      go_wp2_with fail
      exact ⟨rfl, OutO.bad CB.out (by simp only [op4, Option.bind_some, Option.bind_none, Option.map_some, Option.map_none, Bool.true_and, Bool.false_and, Bool.and_true, Bool.and_false, Bool.false_or, Bool.true_or, Bool.or_false, Bool.or_true, E0.out, EB.out])⟩
    · obtain ⟨rfl, hm⟩ := hh.some_ hq
      clear z0 z1 z2 z3 z4
      obtain ⟨z0, z1, z2, z3, z4⟩ := hm.cells
      have E1 := Lib.hid hq
      have M1 := Lib.hid hm
      clear hh hq hm
      go_wp2_with fail
      refine (mid_push (k := k) (locV h.f xa) (loc_valid M1.out E1.out) M1.out).mono fun e v2 hh => ?_
      rcases hq : pushN (locV h.f xa) s1 with _ | s2
      · obtain ⟨rfl, hc⟩ := hh.none_ hq
        have EB := Lib.hid hq
        have CB := Lib.hid hc
        clear hh hq hc
        go_wp2_with fail
        exact ⟨rfl, OutO.bad CB.out (by simp only [op4, Option.bind_some, Option.bind_none, Option.map_some, Option.map_none, Bool.true_and, Bool.false_and, Bool.and_true, Bool.and_false, Bool.false_or, Bool.true_or, Bool.or_false, Bool.or_true, E0.out, E1.out, EB.out])⟩
      · obtain ⟨rfl, hm⟩ := hh.some_ hq
        clear z0 z1 z2 z3 z4
        obtain ⟨z0, z1, z2, z3, z4⟩ := hm.cells
        have E2 := Lib.hid hq
        have M2 := Lib.hid hm
        clear hh hq hm
        go_wp2_with fail
        go_ret
        exact OutO.good M2.out (by simp only [op4, Option.bind_some, Option.bind_none, Option.map_some, Option.map_none, Bool.true_and, Bool.false_and, Bool.and_true, Bool.and_false, Bool.false_or, Bool.true_or, Bool.or_false, Bool.or_true, E0.out, E1.out, E2.out])
set_option maxRecDepth 100000 in
set_option maxHeartbeats 4000000 in
theorem vals_5 (h : Hd) (k : Nat) (w : World) (s : VSt) (xa xb : Int) (xn : Nat) (cs : List CaseD) (A : Option Addr) (c : Nat) (H : CkI h (k + 1100) w s) (HV : StV h.m s.stack) :
    Calls Try.prog 54 #[.pointer (some ⟨h.p, 0, none⟩), instrV ⟨5, xa, xb, xn, cs⟩ A c] w (OutO h k w ((op5 h.f ⟨5, xa, xb, xn, cs⟩ s).map (true, ·))) := by
  have hm := Mid.start ⟨5, xa, xb, xn, cs⟩ A c (H.less (show k + 1 ≤ k + 1100 by omega)) HV
  obtain ⟨z0, z1, z2, z3, z4⟩ := hm.cells
  have M := Lib.hid hm
  clear hm H HV
  unfold instrV
  go_enter Try.func54, Try.ntmps54
  go_wp2_with fail
  refine (mid_fields (k := k + 1) true false false M.out).mono fun e v0 hh => ?_
  rcases hq : fieldsN ⟨5, xa, xb, xn, cs⟩ true false false s with _ | s0
  · obtain ⟨rfl, hc⟩ := hh.none_ hq
    have EB := Lib.hid hq
    have CB := Lib.hid hc
    clear hh hq hc
    go_wp2_with fail
    exact ⟨rfl, OutO.bad CB.out (by simp only [op5, Option.bind_some, Option.bind_none, Option.map_some, Option.map_none, Bool.true_and, Bool.false_and, Bool.and_true, Bool.and_false, Bool.false_or, Bool.true_or, Bool.or_false, Bool.or_true, EB.out])⟩
  · obtain ⟨rfl, hm⟩ := hh.some_ hq
    clear z0 z1 z2 z3 z4
    obtain ⟨z0, z1, z2, z3, z4⟩ := hm.cells
    have E0 := Lib.hid hq
    have M0 := Lib.hid hm
    clear hh hq hm
    go_wp2_with fail
    refine (mid_local xa M0.out).mono fun e v1 hh => ?_
    rcases hq : localN h.f xa s0 with _ | s1
    · obtain ⟨rfl, hc⟩ := hh.none_ hq
      have EB := Lib.hid hq
      have CB := Lib.hid hc
      clear hh hq hc
      go_wp2_with fail
      exact ⟨rfl, OutO.bad CB.out (by simp only [op5, Option.bind_some, Option.bind_none, Option.map_some, Option.map_none, Bool.true_and, Bool.false_and, Bool.and_true, Bool.and_false, Bool.false_or, Bool.true_or, Bool.or_false, Bool.or_true, E0.out, EB.out])⟩
    · obtain ⟨rfl, hm⟩ := hh.some_ hq
      clear z0 z1 z2 z3 z4
      obtain ⟨z0, z1, z2, z3, z4⟩ := hm.cells
      have E1 := Lib.hid hq
      have M1 := Lib.hid hm
      clear hh hq hm
      go_wp2_with fail
      refine (mid_want (k := k) (locV h.f xa) M1.out).mono fun e v2 hh => ?_
      rcases hq : wantN (locV h.f xa) s1 with _ | s2
      · obtain ⟨rfl, hc⟩ := hh.none_ hq
        have EB := Lib.hid hq
        have CB := Lib.hid hc
        clear hh hq hc
        go_wp2_with fail
        exact ⟨rfl, OutO.bad CB.out (by simp only [op5, Option.bind_some, Option.bind_none, Option.map_some, Option.map_none, Bool.true_and, Bool.false_and, Bool.and_true, Bool.and_false, Bool.false_or, Bool.true_or, Bool.or_false, Bool.or_true, E0.out, E1.out, EB.out])⟩
      · obtain ⟨rfl, hm⟩ := hh.some_ hq
        clear z0 z1 z2 z3 z4
        obtain ⟨z0, z1, z2, z3, z4⟩ := hm.cells
        have E2 := Lib.hid hq
        have M2 := Lib.hid hm
        clear hh hq hm
        go_wp2_with fail
        go_ret
        exact OutO.good M2.out (by simp only [op5, Option.bind_some, Option.bind_none, Option.map_some, Option.map_none, Bool.true_and, Bool.false_and, Bool.and_true, Bool.and_false, Bool.false_or, Bool.true_or, Bool.or_false, Bool.or_true, E0.out, E1.out, E2.out])
set_option maxRecDepth 100000 in
set_option maxHeartbeats 4000000 in
theorem vals_6 (h : Hd) (k : Nat) (w : World) (s : VSt) (xa xb : Int) (xn : Nat) (cs : List CaseD) (A : Option Addr) (c : Nat) (H : CkI h (k + 1100) w s) (HV : StV h.m s.stack) :
    Calls Try.prog 54 #[.pointer (some ⟨h.p, 0, none⟩), instrV ⟨6, xa, xb, xn, cs⟩ A c] w (OutO h k w ((op6  ⟨6, xa, xb, xn, cs⟩ s).map (true, ·))) := by
  have hm := Mid.start ⟨6, xa, xb, xn, cs⟩ A c (H.less (show k + 1 ≤ k + 1100 by omega)) HV
  obtain ⟨z0, z1, z2, z3, z4⟩ := hm.cells
  have M := Lib.hid hm
  clear hm H HV
  unfold instrV
  go_enter Try.func54, Try.ntmps54
  go_wp2_with fail
  refine (mid_fields (k := k + 1) false false false M.out).mono fun e v0 hh => ?_
  rcases hq : fieldsN ⟨6, xa, xb, xn, cs⟩ false false false s with _ | s0
  · obtain ⟨rfl, hc⟩ := hh.none_ hq
    have EB := Lib.hid hq
    have CB := Lib.hid hc
    clear hh hq hc
    go_wp2_with fail
    exact ⟨rfl, OutO.bad CB.out (by simp only [op6, Option.bind_some, Option.bind_none, Option.map_some, Option.map_none, Bool.true_and, Bool.false_and, Bool.and_true, Bool.and_false, Bool.false_or, Bool.true_or, Bool.or_false, Bool.or_true, EB.out])⟩
  · obtain ⟨rfl, hm⟩ := hh.some_ hq
    clear z0 z1 z2 z3 z4
    obtain ⟨z0, z1, z2, z3, z4⟩ := hm.cells
    have E0 := Lib.hid hq
    have M0 := Lib.hid hm
    clear hh hq hm
    go_wp2_with fail
    refine (mid_pop (k := k) M0.out).mono fun e v1 hh => ?_
    rcases hq : popN s0 with _ | ⟨r, s1⟩
    · obtain ⟨rfl, hc⟩ := hh.none_ hq
      have EB := Lib.hid hq
      have CB := Lib.hid hc
      clear hh hq hc
      go_wp2_with fail
      exact ⟨rfl, OutO.bad CB.out (by simp only [op6, Option.bind_some, Option.bind_none, Option.map_some, Option.map_none, Bool.true_and, Bool.false_and, Bool.and_true, Bool.and_false, Bool.false_or, Bool.true_or, Bool.or_false, Bool.or_true, E0.out, EB.out])⟩
    · obtain ⟨rfl, hm, hv⟩ := hh.some_ hq
      have Vr := Lib.hid hv
      clear z0 z1 z2 z3 z4
      obtain ⟨z0, z1, z2, z3, z4⟩ := hm.cells
      have E1 := Lib.hid hq
      have M1 := Lib.hid hm
      clear hh hq hm hv
      go_wp2_with fail
      go_ret
      exact OutO.good M1.out (by simp only [op6, Option.bind_some, Option.bind_none, Option.map_some, Option.map_none, Bool.true_and, Bool.false_and, Bool.and_true, Bool.and_false, Bool.false_or, Bool.true_or, Bool.or_false, Bool.or_true, E0.out, E1.out])
set_option maxRecDepth 100000 in
set_option maxHeartbeats 4000000 in
theorem vals_13 (h : Hd) (k : Nat) (w : World) (s : VSt) (xa xb : Int) (xn : Nat) (cs : List CaseD) (A : Option Addr) (c : Nat) (H : CkI h (k + 1100) w s) (HV : StV h.m s.stack) :
    Calls Try.prog 54 #[.pointer (some ⟨h.p, 0, none⟩), instrV ⟨13, xa, xb, xn, cs⟩ A c] w (OutO h k w ((op13 h.m ⟨13, xa, xb, xn, cs⟩ s).map (true, ·))) := by
  have hm := Mid.start ⟨13, xa, xb, xn, cs⟩ A c (H.less (show k + 1026 ≤ k + 1100 by omega)) HV
  obtain ⟨z0, z1, z2, z3, z4⟩ := hm.cells
  have M := Lib.hid hm
  clear hm H HV
  unfold instrV
  go_enter Try.func54, Try.ntmps54
  go_wp2_with fail
  refine (mid_fields (k := k + 1026) true false false M.out).mono fun e v0 hh => ?_
  rcases hq : fieldsN ⟨13, xa, xb, xn, cs⟩ true false false s with _ | s0
  · obtain ⟨rfl, hc⟩ := hh.none_ hq
    have EB := Lib.hid hq
    have CB := Lib.hid hc
    clear hh hq hc
    go_wp2_with fail
    exact ⟨rfl, OutO.bad CB.out (by simp only [op13, Option.bind_some, Option.bind_none, Option.map_some, Option.map_none, Bool.true_and, Bool.false_and, Bool.and_true, Bool.and_false, Bool.false_or, Bool.true_or, Bool.or_false, Bool.or_true, EB.out])⟩
  · obtain ⟨rfl, hm⟩ := hh.some_ hq
    clear z0 z1 z2 z3 z4
    obtain ⟨z0, z1, z2, z3, z4⟩ := hm.cells
    have E0 := Lib.hid hq
    have M0 := Lib.hid hm
    clear hh hq hm
    go_wp2_with fail
    refine (mid_is xa 8 M0.out).mono fun e v1 hh => ?_
    rcases hq : isKN h.m.types xa 8 s0 with _ | s1
    · obtain ⟨rfl, hc⟩ := hh.none_ hq
      have EB := Lib.hid hq
      have CB := Lib.hid hc
      clear hh hq hc
      go_wp2_with fail
      exact ⟨rfl, OutO.bad CB.out (by simp only [op13, Option.bind_some, Option.bind_none, Option.map_some, Option.map_none, Bool.true_and, Bool.false_and, Bool.and_true, Bool.and_false, Bool.false_or, Bool.true_or, Bool.or_false, Bool.or_true, E0.out, EB.out])⟩
    · obtain ⟨rfl, hm⟩ := hh.some_ hq
      clear z0 z1 z2 z3 z4
      obtain ⟨z0, z1, z2, z3, z4⟩ := hm.cells
      have E1 := Lib.hid hq
      have M1 := Lib.hid hm
      clear hh hq hm
      have hvs := (is_valid E1.out (by decide))
      obtain ⟨n, rfl⟩ : ∃ n : Nat, xa = (n : Int) := ⟨xa.toNat, by have := hvs.1; omega⟩
      have hF := M1.out.fix
      obtain ⟨tb, to, TA, tc, hA, hl, _, _, hcell⟩ := hF.mod.shape hvs
      obtain ⟨e0, e1, e2⟩ := hcell _ _ (Chg.refl (fun _ _ => False) _) (fun _ _ _ h => h)
      have d0 := hF.d0
      rw [hA] at d0
      have q1 : (n : Int) < (h.m.types.length : Int) := hvs.2
      have q2 : n < h.m.types.length := by omega
      rw [Int.toNat_natCast] at e0 e1 e2
      have HL := Lib.hid (And.intro hA (And.intro hl hvs))
      clear hcell hF hA hl hvs
      go_wp2_with fail
      refine wp_region_still_tail 11 (by kernel_rfl) (by kernel_rfl) ?_
      simp only [List.take_succ_cons, List.take_zero, List.drop_succ_cons, List.drop_zero]
      repeat (with_reducible refine wpStill_step (fun K hK => ?_); go_simp; with_reducible refine hK _ ?_; clear hK K)
      try with_reducible refine wpStill_nil ?_
      have hdr := (Chg.refl (fun _ _ => False) (v1)).drew
      have hm := M1.out.same hdr
      clear z0 z1 z2 z3 z4
      obtain ⟨z0, z1, z2, z3, z4⟩ := hm.cells
      have M1d := Lib.hid hm
      have HDR := Lib.hid hdr
      clear hm hdr e0 e1 e2 d0
      change wpList _ _ _ _ _ (World.drew (v1))
      generalize World.drew (v1) = v1d at z0 z1 z2 z3 z4 M1d HDR ⊢
      go_wp2_with fail
      refine (mid_wants (k := k + 2) (listN h.m.types (n : Int)) (HL.out.2.1.keep HDR.out fun _ _ _ h => h) (list_valid M1d.out.fix HL.out.2.2).2 M1d.out).mono fun e v3 hh => ?_
      rcases hq : wantsN (listN h.m.types (n : Int)) s1 with _ | s3
      · obtain ⟨rfl, hc⟩ := hh.none_ hq
        have EB := Lib.hid hq
        have CB := Lib.hid hc
        clear hh hq hc
        go_wp2_with fail
        exact ⟨rfl, OutO.bad CB.out (by simp only [op13, Option.bind_some, Option.bind_none, Option.map_some, Option.map_none, Bool.true_and, Bool.false_and, Bool.and_true, Bool.and_false, Bool.false_or, Bool.true_or, Bool.or_false, Bool.or_true, E0.out, E1.out, EB.out])⟩
      · obtain ⟨rfl, hm⟩ := hh.some_ hq
        clear z0 z1 z2 z3 z4
        obtain ⟨z0, z1, z2, z3, z4⟩ := hm.cells
        have E3 := Lib.hid hq
        have M3 := Lib.hid hm
        clear hh hq hm
        go_wp2_with fail
        refine (mid_push (k := k) (n : Int) HL.out.2.2 M3.out).mono fun e v4 hh => ?_
        rcases hq : pushN (n : Int) s3 with _ | s4
        · obtain ⟨rfl, hc⟩ := hh.none_ hq
          have EB := Lib.hid hq
          have CB := Lib.hid hc
          clear hh hq hc
          go_wp2_with fail
          exact ⟨rfl, OutO.bad CB.out (by simp only [op13, Option.bind_some, Option.bind_none, Option.map_some, Option.map_none, Bool.true_and, Bool.false_and, Bool.and_true, Bool.and_false, Bool.false_or, Bool.true_or, Bool.or_false, Bool.or_true, E0.out, E1.out, E3.out, EB.out])⟩
        · obtain ⟨rfl, hm⟩ := hh.some_ hq
          clear z0 z1 z2 z3 z4
          obtain ⟨z0, z1, z2, z3, z4⟩ := hm.cells
          have E4 := Lib.hid hq
          have M4 := Lib.hid hm
          clear hh hq hm
          go_wp2_with fail
          go_ret
          exact OutO.good M4.out (by simp only [op13, Option.bind_some, Option.bind_none, Option.map_some, Option.map_none, Bool.true_and, Bool.false_and, Bool.and_true, Bool.and_false, Bool.false_or, Bool.true_or, Bool.or_false, Bool.or_true, E0.out, E1.out, E3.out, E4.out])
set_option maxRecDepth 100000 in
set_option maxHeartbeats 4000000 in
theorem vals_16 (h : Hd) (k : Nat) (w : World) (s : VSt) (xa xb : Int) (xn : Nat) (cs : List CaseD) (A : Option Addr) (c : Nat) (H : CkI h (k + 1100) w s) (HV : StV h.m s.stack) :
    Calls Try.prog 54 #[.pointer (some ⟨h.p, 0, none⟩), instrV ⟨16, xa, xb, xn, cs⟩ A c] w (OutO h k w ((op16 h.m ⟨16, xa, xb, xn, cs⟩ s).map (true, ·))) := by
  have hm := Mid.start ⟨16, xa, xb, xn, cs⟩ A c (H.less (show k + 3 ≤ k + 1100 by omega)) HV
  obtain ⟨z0, z1, z2, z3, z4⟩ := hm.cells
  have M := Lib.hid hm
  clear hm H HV
  unfold instrV
  go_enter Try.func54, Try.ntmps54
  go_wp2_with fail
  refine (mid_fields (k := k + 3) true true false M.out).mono fun e v0 hh => ?_
  rcases hq : fieldsN ⟨16, xa, xb, xn, cs⟩ true true false s with _ | s0
  · obtain ⟨rfl, hc⟩ := hh.none_ hq
    have EB := Lib.hid hq
    have CB := Lib.hid hc
    clear hh hq hc
    go_wp2_with fail
    exact ⟨rfl, OutO.bad CB.out (by simp only [op16, Option.bind_some, Option.bind_none, Option.map_some, Option.map_none, Bool.true_and, Bool.false_and, Bool.and_true, Bool.and_false, Bool.false_or, Bool.true_or, Bool.or_false, Bool.or_true, EB.out])⟩
  · obtain ⟨rfl, hm⟩ := hh.some_ hq
    clear z0 z1 z2 z3 z4
    obtain ⟨z0, z1, z2, z3, z4⟩ := hm.cells
    have E0 := Lib.hid hq
    have M0 := Lib.hid hm
    clear hh hq hm
    go_wp2_with fail
    refine (mid_kind xa M0.out).mono fun e v1 hh => ?_
    obtain ⟨rfl, rfl⟩ := hh
    obtain ⟨kd, hkd⟩ : ∃ kd, kindN h.m.types xa = kd := ⟨_, rfl⟩
    rw [hkd]
    have E1 := Lib.hid hkd
    clear hkd
    cases hb : (kd == 9)
    · have EK := Lib.hid hb
      go_wp2_with fail
      refine (mid_kind xa M0.out).mono fun e v90 hh => ?_
      obtain ⟨rfl, rfl⟩ := hh
      rw [E1.out]
      go_wp2_with fail
      refine (mid_need (kd == 10) M0.out).mono fun e v3 hh => ?_
      rcases hq : needN (kd == 10) s0 with _ | s3
      · obtain ⟨rfl, hc⟩ := hh.none_ hq
        have EB := Lib.hid hq
        have CB := Lib.hid hc
        clear hh hq hc
        go_wp2_with fail
        exact ⟨rfl, OutO.bad CB.out (by simp only [op16, Option.bind_some, Option.bind_none, Option.map_some, Option.map_none, Bool.true_and, Bool.false_and, Bool.and_true, Bool.and_false, Bool.false_or, Bool.true_or, Bool.or_false, Bool.or_true, E0.out, E1.out, EK.out, EB.out])⟩
      · obtain ⟨rfl, hm⟩ := hh.some_ hq
        clear z0 z1 z2 z3 z4
        obtain ⟨z0, z1, z2, z3, z4⟩ := hm.cells
        have E3 := Lib.hid hq
        have M3 := Lib.hid hm
        clear hh hq hm
        go_wp2_with fail
        refine (mid_whole xb M3.out).mono fun e v4 hh => ?_
        rcases hq : wholeN h.m.types xb s3 with _ | s4
        · obtain ⟨rfl, hc⟩ := hh.none_ hq
          have EB := Lib.hid hq
          have CB := Lib.hid hc
          clear hh hq hc
          go_wp2_with fail
          exact ⟨rfl, OutO.bad CB.out (by simp only [op16, Option.bind_some, Option.bind_none, Option.map_some, Option.map_none, Bool.true_and, Bool.false_and, Bool.and_true, Bool.and_false, Bool.false_or, Bool.true_or, Bool.or_false, Bool.or_true, E0.out, E1.out, EK.out, E3.out, EB.out])⟩
        · obtain ⟨rfl, hm⟩ := hh.some_ hq
          clear z0 z1 z2 z3 z4
          obtain ⟨z0, z1, z2, z3, z4⟩ := hm.cells
          have E4 := Lib.hid hq
          have M4 := Lib.hid hm
          clear hh hq hm
          go_wp2_with fail
          refine (mid_want (k := k + 2) xb M4.out).mono fun e v5 hh => ?_
          rcases hq : wantN xb s4 with _ | s5
          · obtain ⟨rfl, hc⟩ := hh.none_ hq
            have EB := Lib.hid hq
            have CB := Lib.hid hc
            clear hh hq hc
            go_wp2_with fail
            exact ⟨rfl, OutO.bad CB.out (by simp only [op16, Option.bind_some, Option.bind_none, Option.map_some, Option.map_none, Bool.true_and, Bool.false_and, Bool.and_true, Bool.and_false, Bool.false_or, Bool.true_or, Bool.or_false, Bool.or_true, E0.out, E1.out, EK.out, E3.out, E4.out, EB.out])⟩
          · obtain ⟨rfl, hm⟩ := hh.some_ hq
            clear z0 z1 z2 z3 z4
            obtain ⟨z0, z1, z2, z3, z4⟩ := hm.cells
            have E5 := Lib.hid hq
            have M5 := Lib.hid hm
            clear hh hq hm
            go_wp2_with fail
            refine (mid_push (k := k) xa (nz_valid (by rw [E1.out]; intro h0; subst h0; first | exact absurd EK.out (by decide) | exact absurd (needN_some E3.out).1 (by decide))) M5.out).mono fun e v6 hh => ?_
            rcases hq : pushN xa s5 with _ | s6
            · obtain ⟨rfl, hc⟩ := hh.none_ hq
              have EB := Lib.hid hq
              have CB := Lib.hid hc
              clear hh hq hc
              go_wp2_with fail
              exact ⟨rfl, OutO.bad CB.out (by simp only [op16, Option.bind_some, Option.bind_none, Option.map_some, Option.map_none, Bool.true_and, Bool.false_and, Bool.and_true, Bool.and_false, Bool.false_or, Bool.true_or, Bool.or_false, Bool.or_true, E0.out, E1.out, EK.out, E3.out, E4.out, E5.out, EB.out])⟩
            · obtain ⟨rfl, hm⟩ := hh.some_ hq
              clear z0 z1 z2 z3 z4
              obtain ⟨z0, z1, z2, z3, z4⟩ := hm.cells
              have E6 := Lib.hid hq
              have M6 := Lib.hid hm
              clear hh hq hm
              go_wp2_with fail
              go_ret
              exact OutO.good M6.out (by simp only [op16, Option.bind_some, Option.bind_none, Option.map_some, Option.map_none, Bool.true_and, Bool.false_and, Bool.and_true, Bool.and_false, Bool.false_or, Bool.true_or, Bool.or_false, Bool.or_true, E0.out, E1.out, EK.out, E3.out, E4.out, E5.out, E6.out])
    · have EK := Lib.hid hb
      go_wp2_with fail
      refine (mid_need true M0.out).mono fun e v7 hh => ?_
      obtain ⟨rfl, hm⟩ := hh.some_ rfl
      clear z0 z1 z2 z3 z4
      obtain ⟨z0, z1, z2, z3, z4⟩ := hm.cells
      have E7 := Lib.hid (needN_ok (s := s0) (show true = true from rfl))
      have M7 := Lib.hid hm
      clear hh hm
      go_wp2_with fail
      refine (mid_whole xb M7.out).mono fun e v8 hh => ?_
      rcases hq : wholeN h.m.types xb s0 with _ | s8
      · obtain ⟨rfl, hc⟩ := hh.none_ hq
        have EB := Lib.hid hq
        have CB := Lib.hid hc
        clear hh hq hc
        go_wp2_with fail
        exact ⟨rfl, OutO.bad CB.out (by simp only [op16, Option.bind_some, Option.bind_none, Option.map_some, Option.map_none, Bool.true_and, Bool.false_and, Bool.and_true, Bool.and_false, Bool.false_or, Bool.true_or, Bool.or_false, Bool.or_true, E0.out, E1.out, EK.out, E7.out, EB.out])⟩
      · obtain ⟨rfl, hm⟩ := hh.some_ hq
        clear z0 z1 z2 z3 z4
        obtain ⟨z0, z1, z2, z3, z4⟩ := hm.cells
        have E8 := Lib.hid hq
        have M8 := Lib.hid hm
        clear hh hq hm
        go_wp2_with fail
        refine (mid_want (k := k + 2) xb M8.out).mono fun e v9 hh => ?_
        rcases hq : wantN xb s8 with _ | s9
        · obtain ⟨rfl, hc⟩ := hh.none_ hq
          have EB := Lib.hid hq
          have CB := Lib.hid hc
          clear hh hq hc
          go_wp2_with fail
          exact ⟨rfl, OutO.bad CB.out (by simp only [op16, Option.bind_some, Option.bind_none, Option.map_some, Option.map_none, Bool.true_and, Bool.false_and, Bool.and_true, Bool.and_false, Bool.false_or, Bool.true_or, Bool.or_false, Bool.or_true, E0.out, E1.out, EK.out, E7.out, E8.out, EB.out])⟩
        · obtain ⟨rfl, hm⟩ := hh.some_ hq
          clear z0 z1 z2 z3 z4
          obtain ⟨z0, z1, z2, z3, z4⟩ := hm.cells
          have E9 := Lib.hid hq
          have M9 := Lib.hid hm
          clear hh hq hm
          go_wp2_with fail
          refine (mid_push (k := k) xa (nz_valid (by rw [E1.out]; intro h0; subst h0; first | exact absurd EK.out (by decide) | exact absurd (needN_some E7.out).1 (by decide))) M9.out).mono fun e v10 hh => ?_
          rcases hq : pushN xa s9 with _ | s10
          · obtain ⟨rfl, hc⟩ := hh.none_ hq
            have EB := Lib.hid hq
            have CB := Lib.hid hc
            clear hh hq hc
            go_wp2_with fail
            exact ⟨rfl, OutO.bad CB.out (by simp only [op16, Option.bind_some, Option.bind_none, Option.map_some, Option.map_none, Bool.true_and, Bool.false_and, Bool.and_true, Bool.and_false, Bool.false_or, Bool.true_or, Bool.or_false, Bool.or_true, E0.out, E1.out, EK.out, E7.out, E8.out, E9.out, EB.out])⟩
          · obtain ⟨rfl, hm⟩ := hh.some_ hq
            clear z0 z1 z2 z3 z4
            obtain ⟨z0, z1, z2, z3, z4⟩ := hm.cells
            have E10 := Lib.hid hq
            have M10 := Lib.hid hm
            clear hh hq hm
            go_wp2_with fail
            go_ret
            exact OutO.good M10.out (by simp only [op16, Option.bind_some, Option.bind_none, Option.map_some, Option.map_none, Bool.true_and, Bool.false_and, Bool.and_true, Bool.and_false, Bool.false_or, Bool.true_or, Bool.or_false, Bool.or_true, E0.out, E1.out, EK.out, E7.out, E8.out, E9.out, E10.out])
set_option maxRecDepth 100000 in
set_option maxHeartbeats 4000000 in
theorem vals_17 (h : Hd) (k : Nat) (w : World) (s : VSt) (xa xb : Int) (xn : Nat) (cs : List CaseD) (A : Option Addr) (c : Nat) (H : CkI h (k + 1100) w s) (HV : StV h.m s.stack) :
    Calls Try.prog 54 #[.pointer (some ⟨h.p, 0, none⟩), instrV ⟨17, xa, xb, xn, cs⟩ A c] w (OutO h k w ((op17 h.m ⟨17, xa, xb, xn, cs⟩ s).map (true, ·))) := by
  have hm := Mid.start ⟨17, xa, xb, xn, cs⟩ A c (H.less (show k + 3 ≤ k + 1100 by omega)) HV
  obtain ⟨z0, z1, z2, z3, z4⟩ := hm.cells
  have M := Lib.hid hm
  clear hm H HV
  unfold instrV
  go_enter Try.func54, Try.ntmps54
  go_wp2_with fail
  refine (mid_fields (k := k + 3) false true false M.out).mono fun e v0 hh => ?_
  rcases hq : fieldsN ⟨17, xa, xb, xn, cs⟩ false true false s with _ | s0
  · obtain ⟨rfl, hc⟩ := hh.none_ hq
    have EB := Lib.hid hq
    have CB := Lib.hid hc
    clear hh hq hc
    go_wp2_with fail
    exact ⟨rfl, OutO.bad CB.out (by simp only [op17, Option.bind_some, Option.bind_none, Option.map_some, Option.map_none, Bool.true_and, Bool.false_and, Bool.and_true, Bool.and_false, Bool.false_or, Bool.true_or, Bool.or_false, Bool.or_true, EB.out])⟩
  · obtain ⟨rfl, hm⟩ := hh.some_ hq
    clear z0 z1 z2 z3 z4
    obtain ⟨z0, z1, z2, z3, z4⟩ := hm.cells
    have E0 := Lib.hid hq
    have M0 := Lib.hid hm
    clear hh hq hm
    go_wp2_with fail
    refine (mid_is xb 6 M0.out).mono fun e v1 hh => ?_
    rcases hq : isKN h.m.types xb 6 s0 with _ | s1
    · obtain ⟨rfl, hc⟩ := hh.none_ hq
      have EB := Lib.hid hq
      have CB := Lib.hid hc
      clear hh hq hc
      go_wp2_with fail
      exact ⟨rfl, OutO.bad CB.out (by simp only [op17, Option.bind_some, Option.bind_none, Option.map_some, Option.map_none, Bool.true_and, Bool.false_and, Bool.and_true, Bool.and_false, Bool.false_or, Bool.true_or, Bool.or_false, Bool.or_true, E0.out, EB.out])⟩
    · obtain ⟨rfl, hm⟩ := hh.some_ hq
      clear z0 z1 z2 z3 z4
      obtain ⟨z0, z1, z2, z3, z4⟩ := hm.cells
      have E1 := Lib.hid hq
      have M1 := Lib.hid hm
      clear hh hq hm
      go_wp2_with fail
      refine (mid_pops (k := k + 2) 9 (by decide) M1.out).mono fun e v2 hh => ?_
      rcases hq : popsN h.m.types 9 s1 with _ | ⟨t, s2⟩
      · obtain ⟨rfl, hc⟩ := hh.none_ hq
        have EB := Lib.hid hq
        have CB := Lib.hid hc
        clear hh hq hc
        go_wp2_with fail
        exact ⟨rfl, OutO.bad CB.out (by simp only [op17, Option.bind_some, Option.bind_none, Option.map_some, Option.map_none, Bool.true_and, Bool.false_and, Bool.and_true, Bool.and_false, Bool.false_or, Bool.true_or, Bool.or_false, Bool.or_true, E0.out, E1.out, EB.out])⟩
      · obtain ⟨hb_, ho_, hc_, rs, rfl, hcell, hm, hv, hvh⟩ := hh.head_ (by decide) hq
        have hfld := run_fld 9 rs hb_ ho_ 1 hc_
        have Vt := Lib.hid hv
        have VH := Lib.hid hvh
        clear z0 z1 z2 z3 z4
        obtain ⟨z0, z1, z2, z3, z4⟩ := hm.cells
        have E2 := Lib.hid hq
        have M2 := Lib.hid hm
        clear hh hq hm hv hvh
        go_wp2_with fail
        refine (mid_push (k := k) xb (is_valid E1.out (by decide)) M2.out).mono fun e v3 hh => ?_
        rcases hq : pushN xb s2 with _ | s3
        · obtain ⟨rfl, hc⟩ := hh.none_ hq
          have EB := Lib.hid hq
          have CB := Lib.hid hc
          clear hh hq hc
          go_wp2_with fail
          exact ⟨rfl, OutO.bad CB.out (by simp only [op17, Option.bind_some, Option.bind_none, Option.map_some, Option.map_none, Bool.true_and, Bool.false_and, Bool.and_true, Bool.and_false, Bool.false_or, Bool.true_or, Bool.or_false, Bool.or_true, E0.out, E1.out, E2.out, EB.out])⟩
        · obtain ⟨rfl, hm⟩ := hh.some_ hq
          clear z0 z1 z2 z3 z4
          obtain ⟨z0, z1, z2, z3, z4⟩ := hm.cells
          have E3 := Lib.hid hq
          have M3 := Lib.hid hm
          clear hh hq hm
          go_wp2_with fail
          go_ret
          exact OutO.good M3.out (by simp only [op17, Option.bind_some, Option.bind_none, Option.map_some, Option.map_none, Bool.true_and, Bool.false_and, Bool.and_true, Bool.and_false, Bool.false_or, Bool.true_or, Bool.or_false, Bool.or_true, E0.out, E1.out, E2.out, E3.out])
set_option maxRecDepth 100000 in
set_option maxHeartbeats 4000000 in
theorem vals_18 (h : Hd) (k : Nat) (w : World) (s : VSt) (xa xb : Int) (xn : Nat) (cs : List CaseD) (A : Option Addr) (c : Nat) (H : CkI h (k + 1100) w s) (HV : StV h.m s.stack) :
    Calls Try.prog 54 #[.pointer (some ⟨h.p, 0, none⟩), instrV ⟨18, xa, xb, xn, cs⟩ A c] w (OutO h k w ((op18 h.m ⟨18, xa, xb, xn, cs⟩ s).map (true, ·))) := by
  have hm := Mid.start ⟨18, xa, xb, xn, cs⟩ A c (H.less (show k + 4 ≤ k + 1100 by omega)) HV
  obtain ⟨z0, z1, z2, z3, z4⟩ := hm.cells
  have M := Lib.hid hm
  clear hm H HV
  unfold instrV
  go_enter Try.func54, Try.ntmps54
  go_wp2_with fail
  refine (mid_fields (k := k + 4) false false false M.out).mono fun e v0 hh => ?_
  rcases hq : fieldsN ⟨18, xa, xb, xn, cs⟩ false false false s with _ | s0
  · obtain ⟨rfl, hc⟩ := hh.none_ hq
    have EB := Lib.hid hq
    have CB := Lib.hid hc
    clear hh hq hc
    go_wp2_with fail
    exact ⟨rfl, OutO.bad CB.out (by simp only [op18, Option.bind_some, Option.bind_none, Option.map_some, Option.map_none, Bool.true_and, Bool.false_and, Bool.and_true, Bool.and_false, Bool.false_or, Bool.true_or, Bool.or_false, Bool.or_true, EB.out])⟩
  · obtain ⟨rfl, hm⟩ := hh.some_ hq
    clear z0 z1 z2 z3 z4
    obtain ⟨z0, z1, z2, z3, z4⟩ := hm.cells
    have E0 := Lib.hid hq
    have M0 := Lib.hid hm
    clear hh hq hm
    go_wp2_with fail
    refine (mid_pop (k := k + 3) M0.out).mono fun e v1 hh => ?_
    rcases hq : popN s0 with _ | ⟨r, s1⟩
    · obtain ⟨rfl, hc⟩ := hh.none_ hq
      have EB := Lib.hid hq
      have CB := Lib.hid hc
      clear hh hq hc
      go_wp2_with fail
      exact ⟨rfl, OutO.bad CB.out (by simp only [op18, Option.bind_some, Option.bind_none, Option.map_some, Option.map_none, Bool.true_and, Bool.false_and, Bool.and_true, Bool.and_false, Bool.false_or, Bool.true_or, Bool.or_false, Bool.or_true, E0.out, EB.out])⟩
    · obtain ⟨rfl, hm, hv⟩ := hh.some_ hq
      have Vr := Lib.hid hv
      clear z0 z1 z2 z3 z4
      obtain ⟨z0, z1, z2, z3, z4⟩ := hm.cells
      have E1 := Lib.hid hq
      have M1 := Lib.hid hm
      clear hh hq hm hv
      go_wp2_with fail
      refine (mid_whole r M1.out).mono fun e v2 hh => ?_
      rcases hq : wholeN h.m.types r s1 with _ | s2
      · obtain ⟨rfl, hc⟩ := hh.none_ hq
        have EB := Lib.hid hq
        have CB := Lib.hid hc
        clear hh hq hc
        go_wp2_with fail
        exact ⟨rfl, OutO.bad CB.out (by simp only [op18, Option.bind_some, Option.bind_none, Option.map_some, Option.map_none, Bool.true_and, Bool.false_and, Bool.and_true, Bool.and_false, Bool.false_or, Bool.true_or, Bool.or_false, Bool.or_true, E0.out, E1.out, EB.out])⟩
      · obtain ⟨rfl, hm⟩ := hh.some_ hq
        clear z0 z1 z2 z3 z4
        obtain ⟨z0, z1, z2, z3, z4⟩ := hm.cells
        have E2 := Lib.hid hq
        have M2 := Lib.hid hm
        clear hh hq hm
        go_wp2_with fail
        refine (mid_pops (k := k + 2) 9 (by decide) M2.out).mono fun e v3 hh => ?_
        rcases hq : popsN h.m.types 9 s2 with _ | ⟨t, s3⟩
        · obtain ⟨rfl, hc⟩ := hh.none_ hq
          have EB := Lib.hid hq
          have CB := Lib.hid hc
          clear hh hq hc
          go_wp2_with fail
          exact ⟨rfl, OutO.bad CB.out (by simp only [op18, Option.bind_some, Option.bind_none, Option.map_some, Option.map_none, Bool.true_and, Bool.false_and, Bool.and_true, Bool.and_false, Bool.false_or, Bool.true_or, Bool.or_false, Bool.or_true, E0.out, E1.out, E2.out, EB.out])⟩
        · obtain ⟨hb_, ho_, hc_, rs, rfl, hcell, hm, hv, hvh⟩ := hh.head_ (by decide) hq
          have hfld := run_fld 9 rs hb_ ho_ 1 hc_
          have Vt := Lib.hid hv
          have VH := Lib.hid hvh
          clear z0 z1 z2 z3 z4
          obtain ⟨z0, z1, z2, z3, z4⟩ := hm.cells
          have E3 := Lib.hid hq
          have M3 := Lib.hid hm
          clear hh hq hm hv hvh
          go_wp2_with fail
          refine (mid_push (k := k) (headN h.m.types t) VH.out M3.out).mono fun e v4 hh => ?_
          rcases hq : pushN (headN h.m.types t) s3 with _ | s4
          · obtain ⟨rfl, hc⟩ := hh.none_ hq
            have EB := Lib.hid hq
            have CB := Lib.hid hc
            clear hh hq hc
            go_wp2_with fail
            exact ⟨rfl, OutO.bad CB.out (by simp only [op18, Option.bind_some, Option.bind_none, Option.map_some, Option.map_none, Bool.true_and, Bool.false_and, Bool.and_true, Bool.and_false, Bool.false_or, Bool.true_or, Bool.or_false, Bool.or_true, E0.out, E1.out, E2.out, E3.out, EB.out])⟩
          · obtain ⟨rfl, hm⟩ := hh.some_ hq
            clear z0 z1 z2 z3 z4
            obtain ⟨z0, z1, z2, z3, z4⟩ := hm.cells
            have E4 := Lib.hid hq
            have M4 := Lib.hid hm
            clear hh hq hm
            go_wp2_with fail
            go_ret
            exact OutO.good M4.out (by simp only [op18, Option.bind_some, Option.bind_none, Option.map_some, Option.map_none, Bool.true_and, Bool.false_and, Bool.and_true, Bool.and_false, Bool.false_or, Bool.true_or, Bool.or_false, Bool.or_true, E0.out, E1.out, E2.out, E3.out, E4.out])
set_option maxRecDepth 100000 in
set_option maxHeartbeats 4000000 in
theorem vals_19 (h : Hd) (k : Nat) (w : World) (s : VSt) (xa xb : Int) (xn : Nat) (cs : List CaseD) (A : Option Addr) (c : Nat) (H : CkI h (k + 1100) w s) (HV : StV h.m s.stack) :
    Calls Try.prog 54 #[.pointer (some ⟨h.p, 0, none⟩), instrV ⟨19, xa, xb, xn, cs⟩ A c] w (OutO h k w ((op19 h.m ⟨19, xa, xb, xn, cs⟩ s).map (true, ·))) := by
  have hm := Mid.start ⟨19, xa, xb, xn, cs⟩ A c (H.less (show k + 3 ≤ k + 1100 by omega)) HV
  obtain ⟨z0, z1, z2, z3, z4⟩ := hm.cells
  have M := Lib.hid hm
  clear hm H HV
  unfold instrV
  go_enter Try.func54, Try.ntmps54
  go_wp2_with fail
  refine (mid_fields (k := k + 3) false false false M.out).mono fun e v0 hh => ?_
  rcases hq : fieldsN ⟨19, xa, xb, xn, cs⟩ false false false s with _ | s0
  · obtain ⟨rfl, hc⟩ := hh.none_ hq
    have EB := Lib.hid hq
    have CB := Lib.hid hc
    clear hh hq hc
    go_wp2_with fail
    exact ⟨rfl, OutO.bad CB.out (by simp only [op19, Option.bind_some, Option.bind_none, Option.map_some, Option.map_none, Bool.true_and, Bool.false_and, Bool.and_true, Bool.and_false, Bool.false_or, Bool.true_or, Bool.or_false, Bool.or_true, EB.out])⟩
  · obtain ⟨rfl, hm⟩ := hh.some_ hq
    clear z0 z1 z2 z3 z4
    obtain ⟨z0, z1, z2, z3, z4⟩ := hm.cells
    have E0 := Lib.hid hq
    have M0 := Lib.hid hm
    clear hh hq hm
    go_wp2_with fail
    refine (mid_pop (k := k + 2) M0.out).mono fun e v1 hh => ?_
    rcases hq : popN s0 with _ | ⟨r, s1⟩
    · obtain ⟨rfl, hc⟩ := hh.none_ hq
      have EB := Lib.hid hq
      have CB := Lib.hid hc
      clear hh hq hc
      go_wp2_with fail
      exact ⟨rfl, OutO.bad CB.out (by simp only [op19, Option.bind_some, Option.bind_none, Option.map_some, Option.map_none, Bool.true_and, Bool.false_and, Bool.and_true, Bool.and_false, Bool.false_or, Bool.true_or, Bool.or_false, Bool.or_true, E0.out, EB.out])⟩
    · obtain ⟨rfl, hm, hv⟩ := hh.some_ hq
      have Vr := Lib.hid hv
      clear z0 z1 z2 z3 z4
      obtain ⟨z0, z1, z2, z3, z4⟩ := hm.cells
      have E1 := Lib.hid hq
      have M1 := Lib.hid hm
      clear hh hq hm hv
      go_wp2_with fail
      refine (mid_pop (k := k + 1) M1.out).mono fun e v2 hh => ?_
      rcases hq : popN s1 with _ | ⟨q, s2⟩
      · obtain ⟨rfl, hc⟩ := hh.none_ hq
        have EB := Lib.hid hq
        have CB := Lib.hid hc
        clear hh hq hc
        go_wp2_with fail
        exact ⟨rfl, OutO.bad CB.out (by simp only [op19, Option.bind_some, Option.bind_none, Option.map_some, Option.map_none, Bool.true_and, Bool.false_and, Bool.and_true, Bool.and_false, Bool.false_or, Bool.true_or, Bool.or_false, Bool.or_true, E0.out, E1.out, EB.out])⟩
      · obtain ⟨rfl, hm, hv⟩ := hh.some_ hq
        have Vq := Lib.hid hv
        clear z0 z1 z2 z3 z4
        obtain ⟨z0, z1, z2, z3, z4⟩ := hm.cells
        have E2 := Lib.hid hq
        have M2 := Lib.hid hm
        clear hh hq hm hv
        go_wp2_with fail
        refine (mid_whole q M2.out).mono fun e v3 hh => ?_
        rcases hq : wholeN h.m.types q s2 with _ | s3
        · obtain ⟨rfl, hc⟩ := hh.none_ hq
          have EB := Lib.hid hq
          have CB := Lib.hid hc
          clear hh hq hc
          go_wp2_with fail
          exact ⟨rfl, OutO.bad CB.out (by simp only [op19, Option.bind_some, Option.bind_none, Option.map_some, Option.map_none, Bool.true_and, Bool.false_and, Bool.and_true, Bool.and_false, Bool.false_or, Bool.true_or, Bool.or_false, Bool.or_true, E0.out, E1.out, E2.out, EB.out])⟩
        · obtain ⟨rfl, hm⟩ := hh.some_ hq
          clear z0 z1 z2 z3 z4
          obtain ⟨z0, z1, z2, z3, z4⟩ := hm.cells
          have E3 := Lib.hid hq
          have M3 := Lib.hid hm
          clear hh hq hm
          go_wp2_with fail
          refine (mid_pops (k := k) 9 (by decide) M3.out).mono fun e v4 hh => ?_
          rcases hq : popsN h.m.types 9 s3 with _ | ⟨t, s4⟩
          · obtain ⟨rfl, hc⟩ := hh.none_ hq
            have EB := Lib.hid hq
            have CB := Lib.hid hc
            clear hh hq hc
            go_wp2_with fail
            exact ⟨rfl, OutO.bad CB.out (by simp only [op19, Option.bind_some, Option.bind_none, Option.map_some, Option.map_none, Bool.true_and, Bool.false_and, Bool.and_true, Bool.and_false, Bool.false_or, Bool.true_or, Bool.or_false, Bool.or_true, E0.out, E1.out, E2.out, E3.out, EB.out])⟩
          · obtain ⟨hb_, ho_, hc_, rs, rfl, hcell, hm, hv, hvh⟩ := hh.head_ (by decide) hq
            have hfld := run_fld 9 rs hb_ ho_ 1 hc_
            have Vt := Lib.hid hv
            have VH := Lib.hid hvh
            clear z0 z1 z2 z3 z4
            obtain ⟨z0, z1, z2, z3, z4⟩ := hm.cells
            have E4 := Lib.hid hq
            have M4 := Lib.hid hm
            clear hh hq hm hv hvh
            go_wp2_with fail
            refine (mid_need (headN h.m.types t == r) M4.out).mono fun e v5 hh => ?_
            rcases hq : needN (headN h.m.types t == r) s4 with _ | s5
            · obtain ⟨rfl, hc⟩ := hh.none_ hq
              have EB := Lib.hid hq
              have CB := Lib.hid hc
              clear hh hq hc
              go_wp2_with fail
              exact ⟨rfl, OutO.bad CB.out (by simp only [op19, Option.bind_some, Option.bind_none, Option.map_some, Option.map_none, Bool.true_and, Bool.false_and, Bool.and_true, Bool.and_false, Bool.false_or, Bool.true_or, Bool.or_false, Bool.or_true, E0.out, E1.out, E2.out, E3.out, E4.out, EB.out])⟩
            · obtain ⟨rfl, hm⟩ := hh.some_ hq
              clear z0 z1 z2 z3 z4
              obtain ⟨z0, z1, z2, z3, z4⟩ := hm.cells
              have E5 := Lib.hid hq
              have M5 := Lib.hid hm
              clear hh hq hm
              go_wp2_with fail
              go_ret
              exact OutO.good M5.out (by simp only [op19, Option.bind_some, Option.bind_none, Option.map_some, Option.map_none, Bool.true_and, Bool.false_and, Bool.and_true, Bool.and_false, Bool.false_or, Bool.true_or, Bool.or_false, Bool.or_true, E0.out, E1.out, E2.out, E3.out, E4.out, E5.out])
set_option maxRecDepth 100000 in
set_option maxHeartbeats 4000000 in
theorem vals_21 (h : Hd) (k : Nat) (w : World) (s : VSt) (xa xb : Int) (xn : Nat) (cs : List CaseD) (A : Option Addr) (c : Nat) (H : CkI h (k + 1100) w s) (HV : StV h.m s.stack) :
    Calls Try.prog 54 #[.pointer (some ⟨h.p, 0, none⟩), instrV ⟨21, xa, xb, xn, cs⟩ A c] w (OutO h k w ((op21 h.m ⟨21, xa, xb, xn, cs⟩ s).map (true, ·))) := by
  have hm := Mid.start ⟨21, xa, xb, xn, cs⟩ A c (H.less (show k + 3 ≤ k + 1100 by omega)) HV
  obtain ⟨z0, z1, z2, z3, z4⟩ := hm.cells
  have M := Lib.hid hm
  clear hm H HV
  unfold instrV
  go_enter Try.func54, Try.ntmps54
  go_wp2_with fail
  refine (mid_fields (k := k + 3) true false false M.out).mono fun e v0 hh => ?_
  rcases hq : fieldsN ⟨21, xa, xb, xn, cs⟩ true false false s with _ | s0
  · obtain ⟨rfl, hc⟩ := hh.none_ hq
    have EB := Lib.hid hq
    have CB := Lib.hid hc
    clear hh hq hc
    go_wp2_with fail
    exact ⟨rfl, OutO.bad CB.out (by simp only [op21, Option.bind_some, Option.bind_none, Option.map_some, Option.map_none, Bool.true_and, Bool.false_and, Bool.and_true, Bool.and_false, Bool.false_or, Bool.true_or, Bool.or_false, Bool.or_true, EB.out])⟩
  · obtain ⟨rfl, hm⟩ := hh.some_ hq
    clear z0 z1 z2 z3 z4
    obtain ⟨z0, z1, z2, z3, z4⟩ := hm.cells
    have E0 := Lib.hid hq
    have M0 := Lib.hid hm
    clear hh hq hm
    go_wp2_with fail
    refine (mid_is xa 13 M0.out).mono fun e v1 hh => ?_
    rcases hq : isKN h.m.types xa 13 s0 with _ | s1
    · obtain ⟨rfl, hc⟩ := hh.none_ hq
      have EB := Lib.hid hq
      have CB := Lib.hid hc
      clear hh hq hc
      go_wp2_with fail
      exact ⟨rfl, OutO.bad CB.out (by simp only [op21, Option.bind_some, Option.bind_none, Option.map_some, Option.map_none, Bool.true_and, Bool.false_and, Bool.and_true, Bool.and_false, Bool.false_or, Bool.true_or, Bool.or_false, Bool.or_true, E0.out, EB.out])⟩
    · obtain ⟨rfl, hm⟩ := hh.some_ hq
      clear z0 z1 z2 z3 z4
      obtain ⟨z0, z1, z2, z3, z4⟩ := hm.cells
      have E1 := Lib.hid hq
      have M1 := Lib.hid hm
      clear hh hq hm
      have hvs := (is_valid E1.out (by decide))
      obtain ⟨n, rfl⟩ : ∃ n : Nat, xa = (n : Int) := ⟨xa.toNat, by have := hvs.1; omega⟩
      have hF := M1.out.fix
      obtain ⟨tb, to, TA, tc, hA, hl, _, _, hcell⟩ := hF.mod.shape hvs
      obtain ⟨e0, e1, e2⟩ := hcell _ _ (Chg.refl (fun _ _ => False) _) (fun _ _ _ h => h)
      have d0 := hF.d0
      rw [hA] at d0
      have q1 : (n : Int) < (h.m.types.length : Int) := hvs.2
      have q2 : n < h.m.types.length := by omega
      rw [Int.toNat_natCast] at e0 e1 e2
      obtain ⟨hb_, ho_, rfl, hlen, hcell0, hvh⟩ := head_at hF hl hvs (show kindN h.m.types (n : Int) = 13 by simpa using (needN_some E1.out).1) (by decide)
      have VH := Lib.hid hvh
      rw [hlen] at e1
      clear hvh hlen
      have HL := Lib.hid (And.intro hA (And.intro hl hvs))
      clear hcell hF hA hl hvs
      go_wp2_with fail
      refine wp_region_still_tail 13 (by kernel_rfl) (by kernel_rfl) ?_
      simp only [List.take_succ_cons, List.take_zero, List.drop_succ_cons, List.drop_zero]
      repeat (with_reducible refine wpStill_step (fun K hK => ?_); go_simp; with_reducible refine hK _ ?_; clear hK K)
      try with_reducible refine wpStill_nil ?_
      have hdr := (Chg.refl (fun _ _ => False) (v1)).drew
      have hm := M1.out.same hdr
      clear z0 z1 z2 z3 z4
      obtain ⟨z0, z1, z2, z3, z4⟩ := hm.cells
      have M1d := Lib.hid hm
      have HDR := Lib.hid hdr
      clear hm hdr e0 e1 e2 d0 hcell0
      change wpList _ _ _ _ _ (World.drew (v1))
      generalize World.drew (v1) = v1d at z0 z1 z2 z3 z4 M1d HDR ⊢
      go_wp2_with fail
      refine (mid_want (k := k + 2) (headN h.m.types (n : Int)) M1d.out).mono fun e v3 hh => ?_
      rcases hq : wantN (headN h.m.types (n : Int)) s1 with _ | s3
      · obtain ⟨rfl, hc⟩ := hh.none_ hq
        have EB := Lib.hid hq
        have CB := Lib.hid hc
        clear hh hq hc
        go_wp2_with fail
        exact ⟨rfl, OutO.bad CB.out (by simp only [op21, Option.bind_some, Option.bind_none, Option.map_some, Option.map_none, Bool.true_and, Bool.false_and, Bool.and_true, Bool.and_false, Bool.false_or, Bool.true_or, Bool.or_false, Bool.or_true, E0.out, E1.out, EB.out])⟩
      · obtain ⟨rfl, hm⟩ := hh.some_ hq
        clear z0 z1 z2 z3 z4
        obtain ⟨z0, z1, z2, z3, z4⟩ := hm.cells
        have E3 := Lib.hid hq
        have M3 := Lib.hid hm
        clear hh hq hm
        go_wp2_with fail
        refine (mid_push (k := k) (n : Int) HL.out.2.2 M3.out).mono fun e v4 hh => ?_
        rcases hq : pushN (n : Int) s3 with _ | s4
        · obtain ⟨rfl, hc⟩ := hh.none_ hq
          have EB := Lib.hid hq
          have CB := Lib.hid hc
          clear hh hq hc
          go_wp2_with fail
          exact ⟨rfl, OutO.bad CB.out (by simp only [op21, Option.bind_some, Option.bind_none, Option.map_some, Option.map_none, Bool.true_and, Bool.false_and, Bool.and_true, Bool.and_false, Bool.false_or, Bool.true_or, Bool.or_false, Bool.or_true, E0.out, E1.out, E3.out, EB.out])⟩
        · obtain ⟨rfl, hm⟩ := hh.some_ hq
          clear z0 z1 z2 z3 z4
          obtain ⟨z0, z1, z2, z3, z4⟩ := hm.cells
          have E4 := Lib.hid hq
          have M4 := Lib.hid hm
          clear hh hq hm
          go_wp2_with fail
          go_ret
          exact OutO.good M4.out (by simp only [op21, Option.bind_some, Option.bind_none, Option.map_some, Option.map_none, Bool.true_and, Bool.false_and, Bool.and_true, Bool.and_false, Bool.false_or, Bool.true_or, Bool.or_false, Bool.or_true, E0.out, E1.out, E3.out, E4.out])
set_option maxRecDepth 100000 in
set_option maxHeartbeats 4000000 in
theorem vals_22 (h : Hd) (k : Nat) (w : World) (s : VSt) (xa xb : Int) (xn : Nat) (cs : List CaseD) (A : Option Addr) (c : Nat) (H : CkI h (k + 1100) w s) (HV : StV h.m s.stack) :
    Calls Try.prog 54 #[.pointer (some ⟨h.p, 0, none⟩), instrV ⟨22, xa, xb, xn, cs⟩ A c] w (OutO h k w ((op22 h.m ⟨22, xa, xb, xn, cs⟩ s).map (true, ·))) := by
  have hm := Mid.start ⟨22, xa, xb, xn, cs⟩ A c (H.less (show k + 3 ≤ k + 1100 by omega)) HV
  obtain ⟨z0, z1, z2, z3, z4⟩ := hm.cells
  have M := Lib.hid hm
  clear hm H HV
  unfold instrV
  go_enter Try.func54, Try.ntmps54
  go_wp2_with fail
  refine (mid_fields (k := k + 3) false false false M.out).mono fun e v0 hh => ?_
  rcases hq : fieldsN ⟨22, xa, xb, xn, cs⟩ false false false s with _ | s0
  · obtain ⟨rfl, hc⟩ := hh.none_ hq
    have EB := Lib.hid hq
    have CB := Lib.hid hc
    clear hh hq hc
    go_wp2_with fail
    exact ⟨rfl, OutO.bad CB.out (by simp only [op22, Option.bind_some, Option.bind_none, Option.map_some, Option.map_none, Bool.true_and, Bool.false_and, Bool.and_true, Bool.and_false, Bool.false_or, Bool.true_or, Bool.or_false, Bool.or_true, EB.out])⟩
  · obtain ⟨rfl, hm⟩ := hh.some_ hq
    clear z0 z1 z2 z3 z4
    obtain ⟨z0, z1, z2, z3, z4⟩ := hm.cells
    have E0 := Lib.hid hq
    have M0 := Lib.hid hm
    clear hh hq hm
    go_wp2_with fail
    refine (mid_pops (k := k + 2) 13 (by decide) M0.out).mono fun e v1 hh => ?_
    rcases hq : popsN h.m.types 13 s0 with _ | ⟨t, s1⟩
    · obtain ⟨rfl, hc⟩ := hh.none_ hq
      have EB := Lib.hid hq
      have CB := Lib.hid hc
      clear hh hq hc
      go_wp2_with fail
      exact ⟨rfl, OutO.bad CB.out (by simp only [op22, Option.bind_some, Option.bind_none, Option.map_some, Option.map_none, Bool.true_and, Bool.false_and, Bool.and_true, Bool.and_false, Bool.false_or, Bool.true_or, Bool.or_false, Bool.or_true, E0.out, EB.out])⟩
    · obtain ⟨hb_, ho_, hc_, rs, rfl, hcell, hm, hv, hvh⟩ := hh.head_ (by decide) hq
      have hfld := run_fld 13 rs hb_ ho_ 1 hc_
      have Vt := Lib.hid hv
      have VH := Lib.hid hvh
      clear z0 z1 z2 z3 z4
      obtain ⟨z0, z1, z2, z3, z4⟩ := hm.cells
      have E1 := Lib.hid hq
      have M1 := Lib.hid hm
      clear hh hq hm hv hvh
      go_wp2_with fail
      refine (mid_push (k := k) (headN h.m.types t) VH.out M1.out).mono fun e v2 hh => ?_
      rcases hq : pushN (headN h.m.types t) s1 with _ | s2
      · obtain ⟨rfl, hc⟩ := hh.none_ hq
        have EB := Lib.hid hq
        have CB := Lib.hid hc
        clear hh hq hc
        go_wp2_with fail
        exact ⟨rfl, OutO.bad CB.out (by simp only [op22, Option.bind_some, Option.bind_none, Option.map_some, Option.map_none, Bool.true_and, Bool.false_and, Bool.and_true, Bool.and_false, Bool.false_or, Bool.true_or, Bool.or_false, Bool.or_true, E0.out, E1.out, EB.out])⟩
      · obtain ⟨rfl, hm⟩ := hh.some_ hq
        clear z0 z1 z2 z3 z4
        obtain ⟨z0, z1, z2, z3, z4⟩ := hm.cells
        have E2 := Lib.hid hq
        have M2 := Lib.hid hm
        clear hh hq hm
        go_wp2_with fail
        go_ret
        exact OutO.good M2.out (by simp only [op22, Option.bind_some, Option.bind_none, Option.map_some, Option.map_none, Bool.true_and, Bool.false_and, Bool.and_true, Bool.and_false, Bool.false_or, Bool.true_or, Bool.or_false, Bool.or_true, E0.out, E1.out, E2.out])
set_option maxRecDepth 100000 in
set_option maxHeartbeats 4000000 in
theorem vals_23 (h : Hd) (k : Nat) (w : World) (s : VSt) (xa xb : Int) (xn : Nat) (cs : List CaseD) (A : Option Addr) (c : Nat) (H : CkI h (k + 1100) w s) (HV : StV h.m s.stack) :
    Calls Try.prog 54 #[.pointer (some ⟨h.p, 0, none⟩), instrV ⟨23, xa, xb, xn, cs⟩ A c] w (OutO h k w ((op23 h.m ⟨23, xa, xb, xn, cs⟩ s).map (true, ·))) := by
  have hm := Mid.start ⟨23, xa, xb, xn, cs⟩ A c (H.less (show k + 2 ≤ k + 1100 by omega)) HV
  obtain ⟨z0, z1, z2, z3, z4⟩ := hm.cells
  have M := Lib.hid hm
  clear hm H HV
  unfold instrV
  go_enter Try.func54, Try.ntmps54
  go_wp2_with fail
  refine (mid_fields (k := k + 2) false false false M.out).mono fun e v0 hh => ?_
  rcases hq : fieldsN ⟨23, xa, xb, xn, cs⟩ false false false s with _ | s0
  · obtain ⟨rfl, hc⟩ := hh.none_ hq
    have EB := Lib.hid hq
    have CB := Lib.hid hc
    clear hh hq hc
    go_wp2_with fail
    exact ⟨rfl, OutO.bad CB.out (by simp only [op23, Option.bind_some, Option.bind_none, Option.map_some, Option.map_none, Bool.true_and, Bool.false_and, Bool.and_true, Bool.and_false, Bool.false_or, Bool.true_or, Bool.or_false, Bool.or_true, EB.out])⟩
  · obtain ⟨rfl, hm⟩ := hh.some_ hq
    clear z0 z1 z2 z3 z4
    obtain ⟨z0, z1, z2, z3, z4⟩ := hm.cells
    have E0 := Lib.hid hq
    have M0 := Lib.hid hm
    clear hh hq hm
    go_wp2_with fail
    refine (mid_pop (k := k + 1) M0.out).mono fun e v1 hh => ?_
    rcases hq : popN s0 with _ | ⟨r, s1⟩
    · obtain ⟨rfl, hc⟩ := hh.none_ hq
      have EB := Lib.hid hq
      have CB := Lib.hid hc
      clear hh hq hc
      go_wp2_with fail
      exact ⟨rfl, OutO.bad CB.out (by simp only [op23, Option.bind_some, Option.bind_none, Option.map_some, Option.map_none, Bool.true_and, Bool.false_and, Bool.and_true, Bool.and_false, Bool.false_or, Bool.true_or, Bool.or_false, Bool.or_true, E0.out, EB.out])⟩
    · obtain ⟨rfl, hm, hv⟩ := hh.some_ hq
      have Vr := Lib.hid hv
      clear z0 z1 z2 z3 z4
      obtain ⟨z0, z1, z2, z3, z4⟩ := hm.cells
      have E1 := Lib.hid hq
      have M1 := Lib.hid hm
      clear hh hq hm hv
      go_wp2_with fail
      refine (mid_pops (k := k) 13 (by decide) M1.out).mono fun e v2 hh => ?_
      rcases hq : popsN h.m.types 13 s1 with _ | ⟨t, s2⟩
      · obtain ⟨rfl, hc⟩ := hh.none_ hq
        have EB := Lib.hid hq
        have CB := Lib.hid hc
        clear hh hq hc
        go_wp2_with fail
        exact ⟨rfl, OutO.bad CB.out (by simp only [op23, Option.bind_some, Option.bind_none, Option.map_some, Option.map_none, Bool.true_and, Bool.false_and, Bool.and_true, Bool.and_false, Bool.false_or, Bool.true_or, Bool.or_false, Bool.or_true, E0.out, E1.out, EB.out])⟩
      · obtain ⟨hb_, ho_, hc_, rs, rfl, hcell, hm, hv, hvh⟩ := hh.head_ (by decide) hq
        have hfld := run_fld 13 rs hb_ ho_ 1 hc_
        have Vt := Lib.hid hv
        have VH := Lib.hid hvh
        clear z0 z1 z2 z3 z4
        obtain ⟨z0, z1, z2, z3, z4⟩ := hm.cells
        have E2 := Lib.hid hq
        have M2 := Lib.hid hm
        clear hh hq hm hv hvh
        go_wp2_with fail
        refine (mid_need (headN h.m.types t == r) M2.out).mono fun e v3 hh => ?_
        rcases hq : needN (headN h.m.types t == r) s2 with _ | s3
        · obtain ⟨rfl, hc⟩ := hh.none_ hq
          have EB := Lib.hid hq
          have CB := Lib.hid hc
          clear hh hq hc
          go_wp2_with fail
          exact ⟨rfl, OutO.bad CB.out (by simp only [op23, Option.bind_some, Option.bind_none, Option.map_some, Option.map_none, Bool.true_and, Bool.false_and, Bool.and_true, Bool.and_false, Bool.false_or, Bool.true_or, Bool.or_false, Bool.or_true, E0.out, E1.out, E2.out, EB.out])⟩
        · obtain ⟨rfl, hm⟩ := hh.some_ hq
          clear z0 z1 z2 z3 z4
          obtain ⟨z0, z1, z2, z3, z4⟩ := hm.cells
          have E3 := Lib.hid hq
          have M3 := Lib.hid hm
          clear hh hq hm
          go_wp2_with fail
          go_ret
          exact OutO.good M3.out (by simp only [op23, Option.bind_some, Option.bind_none, Option.map_some, Option.map_none, Bool.true_and, Bool.false_and, Bool.and_true, Bool.and_false, Bool.false_or, Bool.true_or, Bool.or_false, Bool.or_true, E0.out, E1.out, E2.out, E3.out])
end Go.Proofs.Ytdegfnejhamejaa
namespace Go.Proofs.Ytdegfnejhamejaa
open Go.RowKit
set_option linter.unusedVariables false
set_option linter.unusedSimpArgs false

set_option maxRecDepth 100000 in
set_option maxHeartbeats 4000000 in
theorem vals_24 (h : Hd) (k : Nat) (w : World) (s : VSt) (xa xb : Int) (xn : Nat) (cs : List CaseD) (A : Option Addr) (c : Nat) (H : CkI h (k + 1100) w s) (HV : StV h.m s.stack) :
    Calls Try.prog 54 #[.pointer (some ⟨h.p, 0, none⟩), instrV ⟨24, xa, xb, xn, cs⟩ A c] w (OutO h k w ((op24 h.f ⟨24, xa, xb, xn, cs⟩ s).map (true, ·))) := by
  have hm := Mid.start ⟨24, xa, xb, xn, cs⟩ A c (H.less (show k + 2 ≤ k + 1100 by omega)) HV
  obtain ⟨z0, z1, z2, z3, z4⟩ := hm.cells
  have M := Lib.hid hm
  clear hm H HV
  unfold instrV
  go_enter Try.func54, Try.ntmps54
  go_wp2_with fail
  refine (mid_fields (k := k + 2) true false false M.out).mono fun e v0 hh => ?_
  rcases hq : fieldsN ⟨24, xa, xb, xn, cs⟩ true false false s with _ | s0
  · obtain ⟨rfl, hc⟩ := hh.none_ hq
    have EB := Lib.hid hq
    have CB := Lib.hid hc
    clear hh hq hc
    go_wp2_with fail
    exact ⟨rfl, OutO.bad CB.out (by simp only [op24, inB, Option.bind_some, Option.bind_none, Option.map_some, Option.map_none, Bool.true_and, Bool.false_and, Bool.and_true, Bool.and_false, Bool.false_or, Bool.true_or, Bool.or_false, Bool.or_true, if_false, if_true, EB.out])⟩
  · obtain ⟨rfl, hm⟩ := hh.some_ hq
    clear z0 z1 z2 z3 z4
    obtain ⟨z0, z1, z2, z3, z4⟩ := hm.cells
    have E0 := Lib.hid hq
    have M0 := Lib.hid hm
    clear hh hq hm
    have d4 := M0.out.fix.d4
    cases hb : decide (0 ≤ xa)
    · have E2 := Lib.hid hb
      go_wp2_with fail
      refine wp_region_still_tail 15 (by kernel_rfl) (by kernel_rfl) ?_
      simp only [List.take_succ_cons, List.take_zero, List.drop_succ_cons, List.drop_zero]
      repeat (with_reducible refine wpStill_step (fun K hK => ?_); go_simp; with_reducible refine hK _ ?_; clear hK K)
      try with_reducible refine wpStill_nil ?_
      have hdr := (Chg.refl (fun _ _ => False) (v0)).drew
      have hm := M0.out.same hdr
      clear z0 z1 z2 z3 z4
      obtain ⟨z0, z1, z2, z3, z4⟩ := hm.cells
      have M0d := Lib.hid hm
      have HDR := Lib.hid hdr
      clear hm hdr d4
      change wpList _ _ _ _ _ (World.drew (v0))
      generalize World.drew (v0) = v0d at z0 z1 z2 z3 z4 M0d HDR ⊢
      go_wp2_with fail
      refine (mid_need false M0d.out).mono fun e v3 hh => ?_
      obtain ⟨rfl, hc⟩ := hh.none_ rfl
      have CB := Lib.hid hc
      clear hh hc
      go_wp2_with fail
      exact ⟨rfl, OutO.bad CB.out (by simp only [op24, inB, Option.bind_some, Option.bind_none, Option.map_some, Option.map_none, Bool.true_and, Bool.false_and, Bool.and_true, Bool.and_false, Bool.false_or, Bool.true_or, Bool.or_false, Bool.or_true, if_false, if_true, E0.out, E2.out, needN, Bool.false_eq_true, if_false])⟩
    · have E2 := Lib.hid hb
      go_wp2_with fail
      refine wp_region_still_tail 15 (by kernel_rfl) (by kernel_rfl) ?_
      simp only [List.take_succ_cons, List.take_zero, List.drop_succ_cons, List.drop_zero]
      repeat (with_reducible refine wpStill_step (fun K hK => ?_); go_simp; with_reducible refine hK _ ?_; clear hK K)
      try with_reducible refine wpStill_nil ?_
      have hdr := (Chg.refl (fun _ _ => False) (v0)).drew
      have hm := M0.out.same hdr
      clear z0 z1 z2 z3 z4
      obtain ⟨z0, z1, z2, z3, z4⟩ := hm.cells
      have M0d := Lib.hid hm
      have HDR := Lib.hid hdr
      clear hm hdr d4
      change wpList _ _ _ _ _ (World.drew (v0))
      generalize World.drew (v0) = v0d at z0 z1 z2 z3 z4 M0d HDR ⊢
      go_wp2_with fail
      refine (mid_need (decide (xa < (h.f.caps.length : Int))) M0d.out).mono fun e v4 hh => ?_
      rcases hq : needN (decide (xa < (h.f.caps.length : Int))) s0 with _ | s4
      · obtain ⟨rfl, hc⟩ := hh.none_ hq
        have EB := Lib.hid hq
        have CB := Lib.hid hc
        clear hh hq hc
        go_wp2_with fail
        exact ⟨rfl, OutO.bad CB.out (by simp only [op24, inB, Option.bind_some, Option.bind_none, Option.map_some, Option.map_none, Bool.true_and, Bool.false_and, Bool.and_true, Bool.and_false, Bool.false_or, Bool.true_or, Bool.or_false, Bool.or_true, if_false, if_true, E0.out, E2.out, EB.out])⟩
      · obtain ⟨rfl, hm⟩ := hh.some_ hq
        clear z0 z1 z2 z3 z4
        obtain ⟨z0, z1, z2, z3, z4⟩ := hm.cells
        have E4 := Lib.hid hq
        have M4 := Lib.hid hm
        clear hh hq hm
        have hx0 := of_decide_eq_true E2.out
        have hx1 := of_decide_eq_true (needN_some E4.out).1
        obtain ⟨n, rfl⟩ : ∃ n : Nat, xa = (n : Int) := ⟨xa.toNat, by omega⟩
        have hF := M4.out.fix
        obtain ⟨tb, to, y, hA, hy, hI, hcell⟩ := hF.mod.caps.at_ (k := n) (by omega)
        have d4 := hF.d4
        rw [hA] at d4
        have hgd : h.f.caps.getD (n : Int).toNat 0 = y := by rw [Int.toNat_natCast, List.getD_eq_getElem?_getD, hy]; rfl
        have hyv := (formed_func hF.mod.formed hF.mod.func).2.1 y (List.mem_of_getElem? hy)
        have q1 : (n : Int) < (h.f.caps.length : Int) := by omega
        have q2 : n < h.f.caps.length := by omega
        have HY := Lib.hid hgd
        have HV := Lib.hid hyv
        clear hF hA hy hI hgd hyv hx0 hx1
        go_wp2_with fail
        refine wp_region_still_tail 10 (by kernel_rfl) (by kernel_rfl) ?_
        simp only [List.take_succ_cons, List.take_zero, List.drop_succ_cons, List.drop_zero]
        repeat (with_reducible refine wpStill_step (fun K hK => ?_); go_simp; with_reducible refine hK _ ?_; clear hK K)
        try with_reducible refine wpStill_nil ?_
        have hdr := (Chg.refl (fun _ _ => False) (v4)).drew
        have hm := M4.out.same hdr
        clear z0 z1 z2 z3 z4
        obtain ⟨z0, z1, z2, z3, z4⟩ := hm.cells
        have M4d := Lib.hid hm
        have HDR := Lib.hid hdr
        clear hm hdr d4 hcell
        change wpList _ _ _ _ _ (World.drew (v4))
        generalize World.drew (v4) = v4d at z0 z1 z2 z3 z4 M4d HDR ⊢
        go_wp2_with fail
        refine (mid_push (k := k) y HV.out M4d.out).mono fun e v6 hh => ?_
        rcases hq : pushN y s4 with _ | s6
        · obtain ⟨rfl, hc⟩ := hh.none_ hq
          have EB := Lib.hid hq
          have CB := Lib.hid hc
          clear hh hq hc
          go_wp2_with fail
          exact ⟨rfl, OutO.bad CB.out (by simp only [op24, inB, Option.bind_some, Option.bind_none, Option.map_some, Option.map_none, Bool.true_and, Bool.false_and, Bool.and_true, Bool.and_false, Bool.false_or, Bool.true_or, Bool.or_false, Bool.or_true, if_false, if_true, E0.out, E2.out, E4.out, HY.out, EB.out])⟩
        · obtain ⟨rfl, hm⟩ := hh.some_ hq
          clear z0 z1 z2 z3 z4
          obtain ⟨z0, z1, z2, z3, z4⟩ := hm.cells
          have E6 := Lib.hid hq
          have M6 := Lib.hid hm
          clear hh hq hm
          go_wp2_with fail
          go_ret
          exact OutO.good (M6.out.less (by omega)) (by simp only [op24, inB, Option.bind_some, Option.bind_none, Option.map_some, Option.map_none, Bool.true_and, Bool.false_and, Bool.and_true, Bool.and_false, Bool.false_or, Bool.true_or, Bool.or_false, Bool.or_true, if_false, if_true, E0.out, E2.out, E4.out, HY.out, E6.out])
set_option maxRecDepth 100000 in
set_option maxHeartbeats 4000000 in
theorem vals_14 (h : Hd) (k : Nat) (w : World) (s : VSt) (xa xb : Int) (xn : Nat) (cs : List CaseD) (A : Option Addr) (c : Nat) (H : CkI h (k + 1100) w s) (HV : StV h.m s.stack) :
    Calls Try.prog 54 #[.pointer (some ⟨h.p, 0, none⟩), instrV ⟨14, xa, xb, xn, cs⟩ A c] w (OutO h k w ((op14 h.m ⟨14, xa, xb, xn, cs⟩ s).map (true, ·))) := by
  have hm := Mid.start ⟨14, xa, xb, xn, cs⟩ A c (H.less (show k + 3 ≤ k + 1100 by omega)) HV
  obtain ⟨z0, z1, z2, z3, z4⟩ := hm.cells
  have M := Lib.hid hm
  clear hm H HV
  unfold instrV
  go_enter Try.func54, Try.ntmps54
  go_wp2_with fail
  refine (mid_fields (k := k + 3) true false false M.out).mono fun e v0 hh => ?_
  rcases hq : fieldsN ⟨14, xa, xb, xn, cs⟩ true false false s with _ | s0
  · obtain ⟨rfl, hc⟩ := hh.none_ hq
    have EB := Lib.hid hq
    have CB := Lib.hid hc
    clear hh hq hc
    go_wp2_with fail
    exact ⟨rfl, OutO.bad CB.out (by simp only [op14, inB, Option.bind_some, Option.bind_none, Option.map_some, Option.map_none, Bool.true_and, Bool.false_and, Bool.and_true, Bool.and_false, Bool.false_or, Bool.true_or, Bool.or_false, Bool.or_true, if_false, if_true, EB.out])⟩
  · obtain ⟨rfl, hm⟩ := hh.some_ hq
    clear z0 z1 z2 z3 z4
    obtain ⟨z0, z1, z2, z3, z4⟩ := hm.cells
    have E0 := Lib.hid hq
    have M0 := Lib.hid hm
    clear hh hq hm
    go_wp2_with fail
    refine (mid_pops (k := k + 2) 8 (by decide) M0.out).mono fun e v1 hh => ?_
    rcases hq : popsN h.m.types 8 s0 with _ | ⟨t, s1⟩
    · obtain ⟨rfl, hc⟩ := hh.none_ hq
      have EB := Lib.hid hq
      have CB := Lib.hid hc
      clear hh hq hc
      go_wp2_with fail
      exact ⟨rfl, OutO.bad CB.out (by simp only [op14, inB, Option.bind_some, Option.bind_none, Option.map_some, Option.map_none, Bool.true_and, Bool.false_and, Bool.and_true, Bool.and_false, Bool.false_or, Bool.true_or, Bool.or_false, Bool.or_true, if_false, if_true, E0.out, EB.out])⟩
    · obtain ⟨A', c', rs, rfl, hl, hm, hv, hk⟩ := hh.some_ hq
      have Vt := Lib.hid hv
      have Lt := Lib.hid (And.intro hl hk)
      clear z0 z1 z2 z3 z4
      obtain ⟨z0, z1, z2, z3, z4⟩ := hm.cells
      have E1 := Lib.hid hq
      have M1 := Lib.hid hm
      clear hh hq hm hv hl hk
      cases hb : decide (0 ≤ xa)
      · have G3 := Lib.hid hb
        have hc1 := chg_alloc v1 (.cells #[.int .i64 8, .slice A' (listN h.m.types t).length c', .int .i64 rs] 37)
        have hm := M1.out.same hc1
        clear z0 z1 z2 z3 z4
        obtain ⟨z0, z1, z2, z3, z4⟩ := hm.cells
        have hz := Blk.new v1 37 #[.int .i64 8, .slice A' (listN h.m.types t).length c', .int .i64 rs]
        have y1 : (v1.alloc (.cells #[.int .i64 8, .slice A' (listN h.m.types t).length c', .int .i64 rs] 37)).cell? ⟨v1.heap.size, 1, none⟩ = some (.slice A' (listN h.m.types t).length c') := by simp
        have N3 := Lib.hid hm
        clear hm hz hc1
        go_wp2_with fail
        refine (N3.out.pure (b := false)).mono fun e vv hp => ?_
        obtain ⟨rfl, rfl⟩ := hp.bad rfl
        clear hp
        go_wp2_with fail
        exact ⟨rfl, OutO.bad N3.out.chg (by simp only [op14, inB, Option.bind_some, Option.bind_none, Option.map_some, Option.map_none, Bool.true_and, Bool.false_and, Bool.and_true, Bool.and_false, Bool.false_or, Bool.true_or, Bool.or_false, Bool.or_true, if_false, if_true, E0.out, E1.out, G3.out, needN, Bool.false_eq_true, if_false])⟩
      · have G3 := Lib.hid hb
        cases hb2 : decide (xa < ((listN h.m.types t).length : Int))
        · have I3 := Lib.hid hb2
          have hc1 := chg_alloc v1 (.cells #[.int .i64 8, .slice A' (listN h.m.types t).length c', .int .i64 rs] 37)
          have hm := M1.out.same hc1
          clear z0 z1 z2 z3 z4
          obtain ⟨z0, z1, z2, z3, z4⟩ := hm.cells
          have hz := Blk.new v1 37 #[.int .i64 8, .slice A' (listN h.m.types t).length c', .int .i64 rs]
          have y1 : (v1.alloc (.cells #[.int .i64 8, .slice A' (listN h.m.types t).length c', .int .i64 rs] 37)).cell? ⟨v1.heap.size, 1, none⟩ = some (.slice A' (listN h.m.types t).length c') := by simp
          have N3 := Lib.hid hm
          clear hm hz hc1
          go_wp2_with fail
          refine (N3.out.pure (b := false)).mono fun e vv hp => ?_
          obtain ⟨rfl, rfl⟩ := hp.bad rfl
          clear hp
          go_wp2_with fail
          exact ⟨rfl, OutO.bad N3.out.chg (by simp only [op14, inB, Option.bind_some, Option.bind_none, Option.map_some, Option.map_none, Bool.true_and, Bool.false_and, Bool.and_true, Bool.and_false, Bool.false_or, Bool.true_or, Bool.or_false, Bool.or_true, if_false, if_true, E0.out, E1.out, G3.out, I3.out, needN, Bool.false_eq_true, if_false])⟩
        · have I3 := Lib.hid hb2
          have hx0 := of_decide_eq_true hb
          have hx1 := of_decide_eq_true hb2
          obtain ⟨xn_, rfl⟩ : ∃ n : Nat, xa = (n : Int) := ⟨xa.toNat, by omega⟩
          obtain ⟨lb, lo, y, rfl, hy, hI, hcell⟩ := (Lt.out.1).at_ (k := xn_) (by omega)
          have hgd : (listN h.m.types t).getD (xn_ : Int).toNat 0 = y := by rw [Int.toNat_natCast, List.getD_eq_getElem?_getD, hy]; rfl
          have hyv := (list_valid M1.out.fix Vt.out).1 y (List.mem_of_getElem? hy)
          have q3 : xn_ < (listN h.m.types t).length := by omega
          have Y3 := Lib.hid hgd
          have YV := Lib.hid hyv
          have hc1 := chg_alloc v1 (.cells #[.int .i64 8, .slice (some ⟨lb, lo, none⟩) (listN h.m.types t).length c', .int .i64 rs] 37)
          have hm := M1.out.same hc1
          clear z0 z1 z2 z3 z4
          obtain ⟨z0, z1, z2, z3, z4⟩ := hm.cells
          have hz := Blk.new v1 37 #[.int .i64 8, .slice (some ⟨lb, lo, none⟩) (listN h.m.types t).length c', .int .i64 rs]
          have y1 : (v1.alloc (.cells #[.int .i64 8, .slice (some ⟨lb, lo, none⟩) (listN h.m.types t).length c', .int .i64 rs] 37)).cell? ⟨v1.heap.size, 1, none⟩ = some (.slice (some ⟨lb, lo, none⟩) (listN h.m.types t).length c') := by simp
          have hcell := hc1.cell hcell (fun _ => id)
          have N3 := Lib.hid hm
          clear hm hz hc1 hx0 hx1 hgd hyv hy hI
          go_wp2_with fail
          refine (N3.out.pure (b := true)).mono fun e vv hp => ?_
          obtain ⟨rfl, rfl⟩ := hp.ok rfl
          clear hp
          have O3 := Lib.hid (needN_ok (s := s1) (show true = true from rfl))
          go_wp2_with fail
          refine (mid_push (k := k) y YV.out N3.out).mono fun e v4 hh => ?_
          rcases hq : pushN y s1 with _ | s4
          · obtain ⟨rfl, hc⟩ := hh.none_ hq
            have EB := Lib.hid hq
            have CB := Lib.hid hc
            clear hh hq hc
            go_wp2_with fail
            exact ⟨rfl, OutO.bad CB.out (by simp only [op14, inB, Option.bind_some, Option.bind_none, Option.map_some, Option.map_none, Bool.true_and, Bool.false_and, Bool.and_true, Bool.and_false, Bool.false_or, Bool.true_or, Bool.or_false, Bool.or_true, if_false, if_true, E0.out, E1.out, G3.out, I3.out, Y3.out, O3.out, EB.out])⟩
          · obtain ⟨rfl, hm⟩ := hh.some_ hq
            clear z0 z1 z2 z3 z4
            obtain ⟨z0, z1, z2, z3, z4⟩ := hm.cells
            have E4 := Lib.hid hq
            have M4 := Lib.hid hm
            clear hh hq hm
            go_wp2_with fail
            go_ret
            exact OutO.good (M4.out.less (by omega)) (by simp only [op14, inB, Option.bind_some, Option.bind_none, Option.map_some, Option.map_none, Bool.true_and, Bool.false_and, Bool.and_true, Bool.and_false, Bool.false_or, Bool.true_or, Bool.or_false, Bool.or_true, if_false, if_true, E0.out, E1.out, G3.out, I3.out, Y3.out, O3.out, E4.out])
set_option maxRecDepth 100000 in
set_option maxHeartbeats 4000000 in
theorem vals_15 (h : Hd) (k : Nat) (w : World) (s : VSt) (xa xb : Int) (xn : Nat) (cs : List CaseD) (A : Option Addr) (c : Nat) (H : CkI h (k + 1100) w s) (HV : StV h.m s.stack) :
    Calls Try.prog 54 #[.pointer (some ⟨h.p, 0, none⟩), instrV ⟨15, xa, xb, xn, cs⟩ A c] w (OutO h k w ((op15 h.m ⟨15, xa, xb, xn, cs⟩ s).map (true, ·))) := by
  have hm := Mid.start ⟨15, xa, xb, xn, cs⟩ A c (H.less (show k + 4 ≤ k + 1100 by omega)) HV
  obtain ⟨z0, z1, z2, z3, z4⟩ := hm.cells
  have M := Lib.hid hm
  clear hm H HV
  unfold instrV
  go_enter Try.func54, Try.ntmps54
  go_wp2_with fail
  refine (mid_fields (k := k + 4) true false false M.out).mono fun e v0 hh => ?_
  rcases hq : fieldsN ⟨15, xa, xb, xn, cs⟩ true false false s with _ | s0
  · obtain ⟨rfl, hc⟩ := hh.none_ hq
    have EB := Lib.hid hq
    have CB := Lib.hid hc
    clear hh hq hc
    go_wp2_with fail
    exact ⟨rfl, OutO.bad CB.out (by simp only [op15, inB, Option.bind_some, Option.bind_none, Option.map_some, Option.map_none, Bool.true_and, Bool.false_and, Bool.and_true, Bool.and_false, Bool.false_or, Bool.true_or, Bool.or_false, Bool.or_true, if_false, if_true, EB.out])⟩
  · obtain ⟨rfl, hm⟩ := hh.some_ hq
    clear z0 z1 z2 z3 z4
    obtain ⟨z0, z1, z2, z3, z4⟩ := hm.cells
    have E0 := Lib.hid hq
    have M0 := Lib.hid hm
    clear hh hq hm
    go_wp2_with fail
    refine (mid_pop (k := k + 3) M0.out).mono fun e v1 hh => ?_
    rcases hq : popN s0 with _ | ⟨r, s1⟩
    · obtain ⟨rfl, hc⟩ := hh.none_ hq
      have EB := Lib.hid hq
      have CB := Lib.hid hc
      clear hh hq hc
      go_wp2_with fail
      exact ⟨rfl, OutO.bad CB.out (by simp only [op15, inB, Option.bind_some, Option.bind_none, Option.map_some, Option.map_none, Bool.true_and, Bool.false_and, Bool.and_true, Bool.and_false, Bool.false_or, Bool.true_or, Bool.or_false, Bool.or_true, if_false, if_true, E0.out, EB.out])⟩
    · obtain ⟨rfl, hm, hv⟩ := hh.some_ hq
      have Vr := Lib.hid hv
      clear z0 z1 z2 z3 z4
      obtain ⟨z0, z1, z2, z3, z4⟩ := hm.cells
      have E1 := Lib.hid hq
      have M1 := Lib.hid hm
      clear hh hq hm hv
      go_wp2_with fail
      refine (mid_pop (k := k + 2) M1.out).mono fun e v2 hh => ?_
      rcases hq : popN s1 with _ | ⟨q, s2⟩
      · obtain ⟨rfl, hc⟩ := hh.none_ hq
        have EB := Lib.hid hq
        have CB := Lib.hid hc
        clear hh hq hc
        go_wp2_with fail
        exact ⟨rfl, OutO.bad CB.out (by simp only [op15, inB, Option.bind_some, Option.bind_none, Option.map_some, Option.map_none, Bool.true_and, Bool.false_and, Bool.and_true, Bool.and_false, Bool.false_or, Bool.true_or, Bool.or_false, Bool.or_true, if_false, if_true, E0.out, E1.out, EB.out])⟩
      · obtain ⟨rfl, hm, hv⟩ := hh.some_ hq
        have Vq := Lib.hid hv
        clear z0 z1 z2 z3 z4
        obtain ⟨z0, z1, z2, z3, z4⟩ := hm.cells
        have E2 := Lib.hid hq
        have M2 := Lib.hid hm
        clear hh hq hm hv
        go_wp2_with fail
        refine (mid_is q 8 M2.out).mono fun e v3 hh => ?_
        rcases hq : isKN h.m.types q 8 s2 with _ | s3
        · obtain ⟨rfl, hc⟩ := hh.none_ hq
          have EB := Lib.hid hq
          have CB := Lib.hid hc
          clear hh hq hc
          go_wp2_with fail
          exact ⟨rfl, OutO.bad CB.out (by simp only [op15, inB, Option.bind_some, Option.bind_none, Option.map_some, Option.map_none, Bool.true_and, Bool.false_and, Bool.and_true, Bool.and_false, Bool.false_or, Bool.true_or, Bool.or_false, Bool.or_true, if_false, if_true, E0.out, E1.out, E2.out, EB.out])⟩
        · obtain ⟨rfl, hm⟩ := hh.some_ hq
          clear z0 z1 z2 z3 z4
          obtain ⟨z0, z1, z2, z3, z4⟩ := hm.cells
          have E3 := Lib.hid hq
          have M3 := Lib.hid hm
          clear hh hq hm
          have hvs := Vq.out
          obtain ⟨n, rfl⟩ : ∃ n : Nat, q = (n : Int) := ⟨q.toNat, by have := hvs.1; omega⟩
          have hF := M3.out.fix
          obtain ⟨tb, to, TA, tc, hA, hl, _, _, hcell⟩ := hF.mod.shape hvs
          obtain ⟨e0, e1, e2⟩ := hcell _ _ (Chg.refl (fun _ _ => False) _) (fun _ _ _ h => h)
          have d0 := hF.d0
          rw [hA] at d0
          have q1 : (n : Int) < (h.m.types.length : Int) := hvs.2
          have q2 : n < h.m.types.length := by omega
          rw [Int.toNat_natCast] at e0 e1 e2
          have HL := Lib.hid (And.intro hA (And.intro hl hvs))
          clear hcell hF hA hl hvs
          cases hb : decide (0 ≤ xa)
          · have G6 := Lib.hid hb
            have hc1 := chg_alloc v3 (.cells #[.int .i64 (kindN h.m.types (n : Int)), .slice TA (listN h.m.types (n : Int)).length tc, .int .i64 (resN h.m.types (n : Int))] 37)
            have hm := M3.out.same hc1
            clear z0 z1 z2 z3 z4
            obtain ⟨z0, z1, z2, z3, z4⟩ := hm.cells
            have hz := Blk.new v3 37 #[.int .i64 (kindN h.m.types (n : Int)), .slice TA (listN h.m.types (n : Int)).length tc, .int .i64 (resN h.m.types (n : Int))]
            have y1 : (v3.alloc (.cells #[.int .i64 (kindN h.m.types (n : Int)), .slice TA (listN h.m.types (n : Int)).length tc, .int .i64 (resN h.m.types (n : Int))] 37)).cell? ⟨v3.heap.size, 1, none⟩ = some (.slice TA (listN h.m.types (n : Int)).length tc) := by simp
            have N6 := Lib.hid hm
            clear hm hz hc1
            go_wp2_with fail
            refine (N6.out.pure (b := false)).mono fun e vv hp => ?_
            obtain ⟨rfl, rfl⟩ := hp.bad rfl
            clear hp
            go_wp2_with fail
            exact ⟨rfl, OutO.bad N6.out.chg (by simp only [op15, inB, Option.bind_some, Option.bind_none, Option.map_some, Option.map_none, Bool.true_and, Bool.false_and, Bool.and_true, Bool.and_false, Bool.false_or, Bool.true_or, Bool.or_false, Bool.or_true, if_false, if_true, E0.out, E1.out, E2.out, E3.out, G6.out, needN, Bool.false_eq_true, if_false])⟩
          · have G6 := Lib.hid hb
            cases hb2 : decide (xa < ((listN h.m.types (n : Int)).length : Int))
            · have I6 := Lib.hid hb2
              have hc1 := chg_alloc v3 (.cells #[.int .i64 (kindN h.m.types (n : Int)), .slice TA (listN h.m.types (n : Int)).length tc, .int .i64 (resN h.m.types (n : Int))] 37)
              have hm := M3.out.same hc1
              clear z0 z1 z2 z3 z4
              obtain ⟨z0, z1, z2, z3, z4⟩ := hm.cells
              have hz := Blk.new v3 37 #[.int .i64 (kindN h.m.types (n : Int)), .slice TA (listN h.m.types (n : Int)).length tc, .int .i64 (resN h.m.types (n : Int))]
              have y1 : (v3.alloc (.cells #[.int .i64 (kindN h.m.types (n : Int)), .slice TA (listN h.m.types (n : Int)).length tc, .int .i64 (resN h.m.types (n : Int))] 37)).cell? ⟨v3.heap.size, 1, none⟩ = some (.slice TA (listN h.m.types (n : Int)).length tc) := by simp
              have N6 := Lib.hid hm
              clear hm hz hc1
              go_wp2_with fail
              refine (N6.out.pure (b := false)).mono fun e vv hp => ?_
              obtain ⟨rfl, rfl⟩ := hp.bad rfl
              clear hp
              go_wp2_with fail
              exact ⟨rfl, OutO.bad N6.out.chg (by simp only [op15, inB, Option.bind_some, Option.bind_none, Option.map_some, Option.map_none, Bool.true_and, Bool.false_and, Bool.and_true, Bool.and_false, Bool.false_or, Bool.true_or, Bool.or_false, Bool.or_true, if_false, if_true, E0.out, E1.out, E2.out, E3.out, G6.out, I6.out, needN, Bool.false_eq_true, if_false])⟩
            · have I6 := Lib.hid hb2
              have hx0 := of_decide_eq_true hb
              have hx1 := of_decide_eq_true hb2
              obtain ⟨xn_, rfl⟩ : ∃ n : Nat, xa = (n : Int) := ⟨xa.toNat, by omega⟩
              obtain ⟨lb, lo, y, rfl, hy, hI, hcell⟩ := (HL.out.2.1).at_ (k := xn_) (by omega)
              have hgd : (listN h.m.types (n : Int)).getD (xn_ : Int).toNat 0 = y := by rw [Int.toNat_natCast, List.getD_eq_getElem?_getD, hy]; rfl
              have hyv := (list_valid M3.out.fix Vq.out).1 y (List.mem_of_getElem? hy)
              have q3 : xn_ < (listN h.m.types (n : Int)).length := by omega
              have Y6 := Lib.hid hgd
              have YV := Lib.hid hyv
              have hc1 := chg_alloc v3 (.cells #[.int .i64 (kindN h.m.types (n : Int)), .slice (some ⟨lb, lo, none⟩) (listN h.m.types (n : Int)).length tc, .int .i64 (resN h.m.types (n : Int))] 37)
              have hm := M3.out.same hc1
              clear z0 z1 z2 z3 z4
              obtain ⟨z0, z1, z2, z3, z4⟩ := hm.cells
              have hz := Blk.new v3 37 #[.int .i64 (kindN h.m.types (n : Int)), .slice (some ⟨lb, lo, none⟩) (listN h.m.types (n : Int)).length tc, .int .i64 (resN h.m.types (n : Int))]
              have y1 : (v3.alloc (.cells #[.int .i64 (kindN h.m.types (n : Int)), .slice (some ⟨lb, lo, none⟩) (listN h.m.types (n : Int)).length tc, .int .i64 (resN h.m.types (n : Int))] 37)).cell? ⟨v3.heap.size, 1, none⟩ = some (.slice (some ⟨lb, lo, none⟩) (listN h.m.types (n : Int)).length tc) := by simp
              have hcell := hc1.cell hcell (fun _ => id)
              have N6 := Lib.hid hm
              clear hm hz hc1 hx0 hx1 hgd hyv hy hI
              cases hb3 : (y == r)
              · have J6 := Lib.hid hb3
                go_wp2_with fail
                refine (N6.out.pure (b := false)).mono fun e vv hp => ?_
                obtain ⟨rfl, rfl⟩ := hp.bad rfl
                clear hp
                go_wp2_with fail
                exact ⟨rfl, OutO.bad N6.out.chg (by simp only [op15, inB, Option.bind_some, Option.bind_none, Option.map_some, Option.map_none, Bool.true_and, Bool.false_and, Bool.and_true, Bool.and_false, Bool.false_or, Bool.true_or, Bool.or_false, Bool.or_true, if_false, if_true, E0.out, E1.out, E2.out, E3.out, G6.out, I6.out, Y6.out, J6.out, needN, Bool.false_eq_true, if_false])⟩
              · have J6 := Lib.hid hb3
                go_wp2_with fail
                refine (N6.out.pure (b := true)).mono fun e vv hp => ?_
                obtain ⟨rfl, rfl⟩ := hp.ok rfl
                clear hp
                have O6 := Lib.hid (needN_ok (s := s3) (show true = true from rfl))
                go_wp2_with fail
                refine (mid_push (k := k) (n : Int) Vq.out N6.out).mono fun e v7 hh => ?_
                rcases hq : pushN (n : Int) s3 with _ | s7
                · obtain ⟨rfl, hc⟩ := hh.none_ hq
                  have EB := Lib.hid hq
                  have CB := Lib.hid hc
                  clear hh hq hc
                  go_wp2_with fail
                  exact ⟨rfl, OutO.bad CB.out (by simp only [op15, inB, Option.bind_some, Option.bind_none, Option.map_some, Option.map_none, Bool.true_and, Bool.false_and, Bool.and_true, Bool.and_false, Bool.false_or, Bool.true_or, Bool.or_false, Bool.or_true, if_false, if_true, E0.out, E1.out, E2.out, E3.out, G6.out, I6.out, Y6.out, J6.out, O6.out, EB.out])⟩
                · obtain ⟨rfl, hm⟩ := hh.some_ hq
                  clear z0 z1 z2 z3 z4
                  obtain ⟨z0, z1, z2, z3, z4⟩ := hm.cells
                  have E7 := Lib.hid hq
                  have M7 := Lib.hid hm
                  clear hh hq hm
                  go_wp2_with fail
                  go_ret
                  exact OutO.good (M7.out.less (by omega)) (by simp only [op15, inB, Option.bind_some, Option.bind_none, Option.map_some, Option.map_none, Bool.true_and, Bool.false_and, Bool.and_true, Bool.and_false, Bool.false_or, Bool.true_or, Bool.or_false, Bool.or_true, if_false, if_true, E0.out, E1.out, E2.out, E3.out, G6.out, I6.out, Y6.out, J6.out, O6.out, E7.out])
end Go.Proofs.Ytdegfnejhamejaa
namespace Go.Proofs.Ytdegfnejhamejaa
open Go.RowKit
set_option linter.unusedVariables false
set_option linter.unusedSimpArgs false

set_option maxRecDepth 100000 in
set_option maxHeartbeats 4000000 in
theorem calls_29 (h : Hd) (k : Nat) (w : World) (s : VSt) (xa xb : Int) (xn : Nat) (cs : List CaseD) (A : Option Addr) (c : Nat) (H : CkI h (k + 1100) w s) (HV : StV h.m s.stack) :
    Calls Try.prog 55 #[.pointer (some ⟨h.p, 0, none⟩), instrV ⟨29, xa, xb, xn, cs⟩ A c] w (OutO h k w ((op29 h.m ⟨29, xa, xb, xn, cs⟩ s).map (true, ·))) := by
  have hm := Mid.start ⟨29, xa, xb, xn, cs⟩ A c (H.less (show k + 2 ≤ k + 1100 by omega)) HV
  obtain ⟨z0, z1, z2, z3, z4⟩ := hm.cells
  have M := Lib.hid hm
  clear hm H HV
  unfold instrV
  go_enter Try.func55, Try.ntmps55
  go_wp2_with fail
  refine (mid_fields (k := k + 2) false false false M.out).mono fun e v0 hh => ?_
  rcases hq : fieldsN ⟨29, xa, xb, xn, cs⟩ false false false s with _ | s0
  · obtain ⟨rfl, hc⟩ := hh.none_ hq
    have EB := Lib.hid hq
    have CB := Lib.hid hc
    clear hh hq hc
    go_wp2_with fail
    exact ⟨rfl, OutO.bad CB.out (by simp only [op29, Option.bind_some, Option.bind_none, Option.map_some, Option.map_none, Bool.true_and, Bool.false_and, Bool.and_true, Bool.and_false, Bool.false_or, Bool.true_or, Bool.or_false, Bool.or_true, if_false, if_true, EB.out])⟩
  · obtain ⟨rfl, hm⟩ := hh.some_ hq
    clear z0 z1 z2 z3 z4
    obtain ⟨z0, z1, z2, z3, z4⟩ := hm.cells
    have E0 := Lib.hid hq
    have M0 := Lib.hid hm
    clear hh hq hm
    go_wp2_with fail
    refine (mid_pop (k := k + 1) M0.out).mono fun e v1 hh => ?_
    rcases hq : popN s0 with _ | ⟨r, s1⟩
    · obtain ⟨rfl, hc⟩ := hh.none_ hq
      have EB := Lib.hid hq
      have CB := Lib.hid hc
      clear hh hq hc
      go_wp2_with fail
      exact ⟨rfl, OutO.bad CB.out (by simp only [op29, Option.bind_some, Option.bind_none, Option.map_some, Option.map_none, Bool.true_and, Bool.false_and, Bool.and_true, Bool.and_false, Bool.false_or, Bool.true_or, Bool.or_false, Bool.or_true, if_false, if_true, E0.out, EB.out])⟩
    · obtain ⟨rfl, hm, hv⟩ := hh.some_ hq
      have Vr := Lib.hid hv
      clear z0 z1 z2 z3 z4
      obtain ⟨z0, z1, z2, z3, z4⟩ := hm.cells
      have E1 := Lib.hid hq
      have M1 := Lib.hid hm
      clear hh hq hm hv
      go_wp2_with fail
      refine (mid_pops (k := k) 10 (by decide) M1.out).mono fun e v2 hh => ?_
      rcases hq : popsN h.m.types 10 s1 with _ | ⟨t, s2⟩
      · obtain ⟨rfl, hc⟩ := hh.none_ hq
        have EB := Lib.hid hq
        have CB := Lib.hid hc
        clear hh hq hc
        go_wp2_with fail
        exact ⟨rfl, OutO.bad CB.out (by simp only [op29, Option.bind_some, Option.bind_none, Option.map_some, Option.map_none, Bool.true_and, Bool.false_and, Bool.and_true, Bool.and_false, Bool.false_or, Bool.true_or, Bool.or_false, Bool.or_true, if_false, if_true, E0.out, E1.out, EB.out])⟩
      · obtain ⟨hb_, ho_, hc_, rs, rfl, hcell, hm, hv, hvh⟩ := hh.head_ (by decide) hq
        have hfld := run_fld 10 rs hb_ ho_ 1 hc_
        have Vt := Lib.hid hv
        have VH := Lib.hid hvh
        clear z0 z1 z2 z3 z4
        obtain ⟨z0, z1, z2, z3, z4⟩ := hm.cells
        have E2 := Lib.hid hq
        have M2 := Lib.hid hm
        clear hh hq hm hv hvh
        go_wp2_with fail
        refine (mid_need (headN h.m.types t == r) M2.out).mono fun e v3 hh => ?_
        rcases hq : needN (headN h.m.types t == r) s2 with _ | s3
        · obtain ⟨rfl, hc⟩ := hh.none_ hq
          have EB := Lib.hid hq
          have CB := Lib.hid hc
          clear hh hq hc
          go_wp2_with fail
          exact ⟨rfl, OutO.bad CB.out (by simp only [op29, Option.bind_some, Option.bind_none, Option.map_some, Option.map_none, Bool.true_and, Bool.false_and, Bool.and_true, Bool.and_false, Bool.false_or, Bool.true_or, Bool.or_false, Bool.or_true, if_false, if_true, E0.out, E1.out, E2.out, EB.out])⟩
        · obtain ⟨rfl, hm⟩ := hh.some_ hq
          clear z0 z1 z2 z3 z4
          obtain ⟨z0, z1, z2, z3, z4⟩ := hm.cells
          have E3 := Lib.hid hq
          have M3 := Lib.hid hm
          clear hh hq hm
          go_wp2_with fail
          go_ret
          exact OutO.good (M3.out.less (by omega)) (by simp only [op29, Option.bind_some, Option.bind_none, Option.map_some, Option.map_none, Bool.true_and, Bool.false_and, Bool.and_true, Bool.and_false, Bool.false_or, Bool.true_or, Bool.or_false, Bool.or_true, if_false, if_true, E0.out, E1.out, E2.out, E3.out])
set_option maxRecDepth 100000 in
set_option maxHeartbeats 4000000 in
theorem calls_30 (h : Hd) (k : Nat) (w : World) (s : VSt) (xa xb : Int) (xn : Nat) (cs : List CaseD) (A : Option Addr) (c : Nat) (H : CkI h (k + 1100) w s) (HV : StV h.m s.stack) :
    Calls Try.prog 55 #[.pointer (some ⟨h.p, 0, none⟩), instrV ⟨30, xa, xb, xn, cs⟩ A c] w (OutO h k w ((op30 h.m ⟨30, xa, xb, xn, cs⟩ s).map (true, ·))) := by
  have hm := Mid.start ⟨30, xa, xb, xn, cs⟩ A c (H.less (show k + 3 ≤ k + 1100 by omega)) HV
  obtain ⟨z0, z1, z2, z3, z4⟩ := hm.cells
  have M := Lib.hid hm
  clear hm H HV
  unfold instrV
  go_enter Try.func55, Try.ntmps55
  go_wp2_with fail
  refine (mid_fields (k := k + 3) false false false M.out).mono fun e v0 hh => ?_
  rcases hq : fieldsN ⟨30, xa, xb, xn, cs⟩ false false false s with _ | s0
  · obtain ⟨rfl, hc⟩ := hh.none_ hq
    have EB := Lib.hid hq
    have CB := Lib.hid hc
    clear hh hq hc
    go_wp2_with fail
    exact ⟨rfl, OutO.bad CB.out (by simp only [op30, Option.bind_some, Option.bind_none, Option.map_some, Option.map_none, Bool.true_and, Bool.false_and, Bool.and_true, Bool.and_false, Bool.false_or, Bool.true_or, Bool.or_false, Bool.or_true, if_false, if_true, EB.out])⟩
  · obtain ⟨rfl, hm⟩ := hh.some_ hq
    clear z0 z1 z2 z3 z4
    obtain ⟨z0, z1, z2, z3, z4⟩ := hm.cells
    have E0 := Lib.hid hq
    have M0 := Lib.hid hm
    clear hh hq hm
    go_wp2_with fail
    refine (mid_pops (k := k + 2) 10 (by decide) M0.out).mono fun e v1 hh => ?_
    rcases hq : popsN h.m.types 10 s0 with _ | ⟨t, s1⟩
    · obtain ⟨rfl, hc⟩ := hh.none_ hq
      have EB := Lib.hid hq
      have CB := Lib.hid hc
      clear hh hq hc
      go_wp2_with fail
      exact ⟨rfl, OutO.bad CB.out (by simp only [op30, Option.bind_some, Option.bind_none, Option.map_some, Option.map_none, Bool.true_and, Bool.false_and, Bool.and_true, Bool.and_false, Bool.false_or, Bool.true_or, Bool.or_false, Bool.or_true, if_false, if_true, E0.out, EB.out])⟩
    · obtain ⟨hb_, ho_, hc_, rs, rfl, hcell, hm, hv, hvh⟩ := hh.head_ (by decide) hq
      have hfld := run_fld 10 rs hb_ ho_ 1 hc_
      have Vt := Lib.hid hv
      have VH := Lib.hid hvh
      clear z0 z1 z2 z3 z4
      obtain ⟨z0, z1, z2, z3, z4⟩ := hm.cells
      have E1 := Lib.hid hq
      have M1 := Lib.hid hm
      clear hh hq hm hv hvh
      go_wp2_with fail
      refine (mid_push (k := k) (headN h.m.types t) VH.out M1.out).mono fun e v2 hh => ?_
      rcases hq : pushN (headN h.m.types t) s1 with _ | s2
      · obtain ⟨rfl, hc⟩ := hh.none_ hq
        have EB := Lib.hid hq
        have CB := Lib.hid hc
        clear hh hq hc
        go_wp2_with fail
        exact ⟨rfl, OutO.bad CB.out (by simp only [op30, Option.bind_some, Option.bind_none, Option.map_some, Option.map_none, Bool.true_and, Bool.false_and, Bool.and_true, Bool.and_false, Bool.false_or, Bool.true_or, Bool.or_false, Bool.or_true, if_false, if_true, E0.out, E1.out, EB.out])⟩
      · obtain ⟨rfl, hm⟩ := hh.some_ hq
        clear z0 z1 z2 z3 z4
        obtain ⟨z0, z1, z2, z3, z4⟩ := hm.cells
        have E2 := Lib.hid hq
        have M2 := Lib.hid hm
        clear hh hq hm
        go_wp2_with fail
        go_ret
        exact OutO.good (M2.out.less (by omega)) (by simp only [op30, Option.bind_some, Option.bind_none, Option.map_some, Option.map_none, Bool.true_and, Bool.false_and, Bool.and_true, Bool.and_false, Bool.false_or, Bool.true_or, Bool.or_false, Bool.or_true, if_false, if_true, E0.out, E1.out, E2.out])
set_option maxRecDepth 100000 in
set_option maxHeartbeats 4000000 in
theorem calls_31 (h : Hd) (k : Nat) (w : World) (s : VSt) (xa xb : Int) (xn : Nat) (cs : List CaseD) (A : Option Addr) (c : Nat) (H : CkI h (k + 1100) w s) (HV : StV h.m s.stack) :
    Calls Try.prog 55 #[.pointer (some ⟨h.p, 0, none⟩), instrV ⟨31, xa, xb, xn, cs⟩ A c] w (OutO h k w ((op31 h.m ⟨31, xa, xb, xn, cs⟩ s).map (true, ·))) := by
  have hm := Mid.start ⟨31, xa, xb, xn, cs⟩ A c (H.less (show k + 1 ≤ k + 1100 by omega)) HV
  obtain ⟨z0, z1, z2, z3, z4⟩ := hm.cells
  have M := Lib.hid hm
  clear hm H HV
  unfold instrV
  go_enter Try.func55, Try.ntmps55
  go_wp2_with fail
  refine (mid_fields (k := k + 1) false false false M.out).mono fun e v0 hh => ?_
  rcases hq : fieldsN ⟨31, xa, xb, xn, cs⟩ false false false s with _ | s0
  · obtain ⟨rfl, hc⟩ := hh.none_ hq
    have EB := Lib.hid hq
    have CB := Lib.hid hc
    clear hh hq hc
    go_wp2_with fail
    exact ⟨rfl, OutO.bad CB.out (by simp only [op31, Option.bind_some, Option.bind_none, Option.map_some, Option.map_none, Bool.true_and, Bool.false_and, Bool.and_true, Bool.and_false, Bool.false_or, Bool.true_or, Bool.or_false, Bool.or_true, if_false, if_true, EB.out])⟩
  · obtain ⟨rfl, hm⟩ := hh.some_ hq
    clear z0 z1 z2 z3 z4
    obtain ⟨z0, z1, z2, z3, z4⟩ := hm.cells
    have E0 := Lib.hid hq
    have M0 := Lib.hid hm
    clear hh hq hm
    go_wp2_with fail
    refine (mid_pops (k := k) 10 (by decide) M0.out).mono fun e v1 hh => ?_
    rcases hq : popsN h.m.types 10 s0 with _ | ⟨t, s1⟩
    · obtain ⟨rfl, hc⟩ := hh.none_ hq
      have EB := Lib.hid hq
      have CB := Lib.hid hc
      clear hh hq hc
      go_wp2_with fail
      exact ⟨rfl, OutO.bad CB.out (by simp only [op31, Option.bind_some, Option.bind_none, Option.map_some, Option.map_none, Bool.true_and, Bool.false_and, Bool.and_true, Bool.and_false, Bool.false_or, Bool.true_or, Bool.or_false, Bool.or_true, if_false, if_true, E0.out, EB.out])⟩
    · obtain ⟨hb_, ho_, hc_, rs, rfl, hcell, hm, hv, hvh⟩ := hh.head_ (by decide) hq
      have hfld := run_fld 10 rs hb_ ho_ 1 hc_
      have Vt := Lib.hid hv
      have VH := Lib.hid hvh
      clear z0 z1 z2 z3 z4
      obtain ⟨z0, z1, z2, z3, z4⟩ := hm.cells
      have E1 := Lib.hid hq
      have M1 := Lib.hid hm
      clear hh hq hm hv hvh
      go_wp2_with fail
      go_ret
      exact OutO.good (M1.out.less (by omega)) (by simp only [op31, Option.bind_some, Option.bind_none, Option.map_some, Option.map_none, Bool.true_and, Bool.false_and, Bool.and_true, Bool.and_false, Bool.false_or, Bool.true_or, Bool.or_false, Bool.or_true, if_false, if_true, E0.out, E1.out])
set_option maxRecDepth 100000 in
set_option maxHeartbeats 4000000 in
theorem calls_37 (h : Hd) (k : Nat) (w : World) (s : VSt) (xa xb : Int) (xn : Nat) (cs : List CaseD) (A : Option Addr) (c : Nat) (H : CkI h (k + 1100) w s) (HV : StV h.m s.stack) :
    Calls Try.prog 55 #[.pointer (some ⟨h.p, 0, none⟩), instrV ⟨37, xa, xb, xn, cs⟩ A c] w (OutO h k w ((op37 h.m ⟨37, xa, xb, xn, cs⟩ s).map (true, ·))) := by
  have hm := Mid.start ⟨37, xa, xb, xn, cs⟩ A c (H.less (show k + 2 ≤ k + 1100 by omega)) HV
  obtain ⟨z0, z1, z2, z3, z4⟩ := hm.cells
  have M := Lib.hid hm
  clear hm H HV
  unfold instrV
  go_enter Try.func55, Try.ntmps55
  go_wp2_with fail
  refine (mid_fields (k := k + 2) false true false M.out).mono fun e v0 hh => ?_
  rcases hq : fieldsN ⟨37, xa, xb, xn, cs⟩ false true false s with _ | s0
  · obtain ⟨rfl, hc⟩ := hh.none_ hq
    have EB := Lib.hid hq
    have CB := Lib.hid hc
    clear hh hq hc
    go_wp2_with fail
    exact ⟨rfl, OutO.bad CB.out (by simp only [op37, Option.bind_some, Option.bind_none, Option.map_some, Option.map_none, Bool.true_and, Bool.false_and, Bool.and_true, Bool.and_false, Bool.false_or, Bool.true_or, Bool.or_false, Bool.or_true, if_false, if_true, EB.out])⟩
  · obtain ⟨rfl, hm⟩ := hh.some_ hq
    clear z0 z1 z2 z3 z4
    obtain ⟨z0, z1, z2, z3, z4⟩ := hm.cells
    have E0 := Lib.hid hq
    have M0 := Lib.hid hm
    clear hh hq hm
    go_wp2_with fail
    refine (mid_is xb 6 M0.out).mono fun e v1 hh => ?_
    rcases hq : isKN h.m.types xb 6 s0 with _ | s1
    · obtain ⟨rfl, hc⟩ := hh.none_ hq
      have EB := Lib.hid hq
      have CB := Lib.hid hc
      clear hh hq hc
      go_wp2_with fail
      exact ⟨rfl, OutO.bad CB.out (by simp only [op37, Option.bind_some, Option.bind_none, Option.map_some, Option.map_none, Bool.true_and, Bool.false_and, Bool.and_true, Bool.and_false, Bool.false_or, Bool.true_or, Bool.or_false, Bool.or_true, if_false, if_true, E0.out, EB.out])⟩
    · obtain ⟨rfl, hm⟩ := hh.some_ hq
      clear z0 z1 z2 z3 z4
      obtain ⟨z0, z1, z2, z3, z4⟩ := hm.cells
      have E1 := Lib.hid hq
      have M1 := Lib.hid hm
      clear hh hq hm
      go_wp2_with fail
      refine (mid_push (k := k) xb (is_valid E1.out (by decide)) M1.out).mono fun e v2 hh => ?_
      rcases hq : pushN xb s1 with _ | s2
      · obtain ⟨rfl, hc⟩ := hh.none_ hq
        have EB := Lib.hid hq
        have CB := Lib.hid hc
        clear hh hq hc
        go_wp2_with fail
        exact ⟨rfl, OutO.bad CB.out (by simp only [op37, Option.bind_some, Option.bind_none, Option.map_some, Option.map_none, Bool.true_and, Bool.false_and, Bool.and_true, Bool.and_false, Bool.false_or, Bool.true_or, Bool.or_false, Bool.or_true, if_false, if_true, E0.out, E1.out, EB.out])⟩
      · obtain ⟨rfl, hm⟩ := hh.some_ hq
        clear z0 z1 z2 z3 z4
        obtain ⟨z0, z1, z2, z3, z4⟩ := hm.cells
        have E2 := Lib.hid hq
        have M2 := Lib.hid hm
        clear hh hq hm
        go_wp2_with fail
        go_ret
        exact OutO.good (M2.out.less (by omega)) (by simp only [op37, Option.bind_some, Option.bind_none, Option.map_some, Option.map_none, Bool.true_and, Bool.false_and, Bool.and_true, Bool.and_false, Bool.false_or, Bool.true_or, Bool.or_false, Bool.or_true, if_false, if_true, E0.out, E1.out, E2.out])
set_option maxRecDepth 100000 in
set_option maxHeartbeats 4000000 in
theorem calls_38 (h : Hd) (k : Nat) (w : World) (s : VSt) (xa xb : Int) (xn : Nat) (cs : List CaseD) (A : Option Addr) (c : Nat) (H : CkI h (k + 1100) w s) (HV : StV h.m s.stack) :
    Calls Try.prog 55 #[.pointer (some ⟨h.p, 0, none⟩), instrV ⟨38, xa, xb, xn, cs⟩ A c] w (OutO h k w ((op38 h.m ⟨38, xa, xb, xn, cs⟩ s).map (true, ·))) := by
  have hm := Mid.start ⟨38, xa, xb, xn, cs⟩ A c (H.less (show k + 1 ≤ k + 1100 by omega)) HV
  obtain ⟨z0, z1, z2, z3, z4⟩ := hm.cells
  have M := Lib.hid hm
  clear hm H HV
  unfold instrV
  go_enter Try.func55, Try.ntmps55
  go_wp2_with fail
  refine (mid_fields (k := k + 1) false false false M.out).mono fun e v0 hh => ?_
  rcases hq : fieldsN ⟨38, xa, xb, xn, cs⟩ false false false s with _ | s0
  · obtain ⟨rfl, hc⟩ := hh.none_ hq
    have EB := Lib.hid hq
    have CB := Lib.hid hc
    clear hh hq hc
    go_wp2_with fail
    exact ⟨rfl, OutO.bad CB.out (by simp only [op38, Option.bind_some, Option.bind_none, Option.map_some, Option.map_none, Bool.true_and, Bool.false_and, Bool.and_true, Bool.and_false, Bool.false_or, Bool.true_or, Bool.or_false, Bool.or_true, if_false, if_true, EB.out])⟩
  · obtain ⟨rfl, hm⟩ := hh.some_ hq
    clear z0 z1 z2 z3 z4
    obtain ⟨z0, z1, z2, z3, z4⟩ := hm.cells
    have E0 := Lib.hid hq
    have M0 := Lib.hid hm
    clear hh hq hm
    go_wp2_with fail
    refine (mid_pop (k := k) M0.out).mono fun e v1 hh => ?_
    rcases hq : popN s0 with _ | ⟨r, s1⟩
    · obtain ⟨rfl, hc⟩ := hh.none_ hq
      have EB := Lib.hid hq
      have CB := Lib.hid hc
      clear hh hq hc
      go_wp2_with fail
      exact ⟨rfl, OutO.bad CB.out (by simp only [op38, Option.bind_some, Option.bind_none, Option.map_some, Option.map_none, Bool.true_and, Bool.false_and, Bool.and_true, Bool.and_false, Bool.false_or, Bool.true_or, Bool.or_false, Bool.or_true, if_false, if_true, E0.out, EB.out])⟩
    · obtain ⟨rfl, hm, hv⟩ := hh.some_ hq
      have Vr := Lib.hid hv
      clear z0 z1 z2 z3 z4
      obtain ⟨z0, z1, z2, z3, z4⟩ := hm.cells
      have E1 := Lib.hid hq
      have M1 := Lib.hid hm
      clear hh hq hm hv
      go_wp2_with fail
      refine (mid_kind r M1.out).mono fun e v2 hh => ?_
      obtain ⟨rfl, rfl⟩ := hh
      obtain ⟨kd, hkd⟩ : ∃ kd, kindN h.m.types r = kd := ⟨_, rfl⟩
      rw [hkd]
      have E2 := Lib.hid hkd
      clear hkd
      go_wp2_with fail
      refine (wwhole_any _ kd).mono fun e v91 hh => ?_
      obtain ⟨rfl, rfl⟩ := hh
      cases hb : wholeB kd
      · have EK := Lib.hid hb
        go_wp2_with fail
        refine (mid_need (kd == 1) M1.out).mono fun e v4 hh => ?_
        rcases hq : needN (kd == 1) s1 with _ | s4
        · obtain ⟨rfl, hc⟩ := hh.none_ hq
          have EB := Lib.hid hq
          have CB := Lib.hid hc
          clear hh hq hc
          go_wp2_with fail
          exact ⟨rfl, OutO.bad CB.out (by simp only [op38, Option.bind_some, Option.bind_none, Option.map_some, Option.map_none, Bool.true_and, Bool.false_and, Bool.and_true, Bool.and_false, Bool.false_or, Bool.true_or, Bool.or_false, Bool.or_true, if_false, if_true, E0.out, E1.out, E2.out, EK.out, EB.out])⟩
        · obtain ⟨rfl, hm⟩ := hh.some_ hq
          clear z0 z1 z2 z3 z4
          obtain ⟨z0, z1, z2, z3, z4⟩ := hm.cells
          have E4 := Lib.hid hq
          have M4 := Lib.hid hm
          clear hh hq hm
          go_wp2_with fail
          go_ret
          exact OutO.good (M4.out.less (by omega)) (by simp only [op38, Option.bind_some, Option.bind_none, Option.map_some, Option.map_none, Bool.true_and, Bool.false_and, Bool.and_true, Bool.and_false, Bool.false_or, Bool.true_or, Bool.or_false, Bool.or_true, if_false, if_true, E0.out, E1.out, E2.out, EK.out, E4.out])
      · have EK := Lib.hid hb
        go_wp2_with fail
        refine (mid_need true M1.out).mono fun e v5 hh => ?_
        obtain ⟨rfl, hm⟩ := hh.some_ rfl
        clear z0 z1 z2 z3 z4
        obtain ⟨z0, z1, z2, z3, z4⟩ := hm.cells
        have E5 := Lib.hid (needN_ok (s := s1) (show true = true from rfl))
        have M5 := Lib.hid hm
        clear hh hm
        go_wp2_with fail
        go_ret
        exact OutO.good (M5.out.less (by omega)) (by simp only [op38, Option.bind_some, Option.bind_none, Option.map_some, Option.map_none, Bool.true_and, Bool.false_and, Bool.and_true, Bool.and_false, Bool.false_or, Bool.true_or, Bool.or_false, Bool.or_true, if_false, if_true, E0.out, E1.out, E2.out, EK.out, E5.out])
set_option maxRecDepth 100000 in
set_option maxHeartbeats 4000000 in
theorem calls_26 (h : Hd) (k : Nat) (w : World) (s : VSt) (xa xb : Int) (xn : Nat) (cs : List CaseD) (A : Option Addr) (c : Nat) (H : CkI h (k + 1100) w s) (HV : StV h.m s.stack) :
    Calls Try.prog 55 #[.pointer (some ⟨h.p, 0, none⟩), instrV ⟨26, xa, xb, xn, cs⟩ A c] w (OutO h k w ((op26 h.m ⟨26, xa, xb, xn, cs⟩ s).map (true, ·))) := by
  have hm := Mid.start ⟨26, xa, xb, xn, cs⟩ A c (H.less (show k + 1027 ≤ k + 1100 by omega)) HV
  obtain ⟨z0, z1, z2, z3, z4⟩ := hm.cells
  have M := Lib.hid hm
  clear hm H HV
  unfold instrV
  go_enter Try.func55, Try.ntmps55
  go_wp2_with fail
  refine (mid_fields (k := k + 1027) true false false M.out).mono fun e v0 hh => ?_
  rcases hq : fieldsN ⟨26, xa, xb, xn, cs⟩ true false false s with _ | s0
  · obtain ⟨rfl, hc⟩ := hh.none_ hq
    have EB := Lib.hid hq
    have CB := Lib.hid hc
    clear hh hq hc
    go_wp2_with fail
    exact ⟨rfl, OutO.bad CB.out (by simp only [op26, Option.bind_some, Option.bind_none, Option.map_some, Option.map_none, Bool.true_and, Bool.false_and, Bool.and_true, Bool.and_false, Bool.false_or, Bool.true_or, Bool.or_false, Bool.or_true, if_false, if_true, EB.out])⟩
  · obtain ⟨rfl, hm⟩ := hh.some_ hq
    clear z0 z1 z2 z3 z4
    obtain ⟨z0, z1, z2, z3, z4⟩ := hm.cells
    have E0 := Lib.hid hq
    have M0 := Lib.hid hm
    clear hh hq hm
    go_wp2_with fail
    refine (mid_is xa 11 M0.out).mono fun e v1 hh => ?_
    rcases hq : isKN h.m.types xa 11 s0 with _ | s1
    · obtain ⟨rfl, hc⟩ := hh.none_ hq
      have EB := Lib.hid hq
      have CB := Lib.hid hc
      clear hh hq hc
      go_wp2_with fail
      exact ⟨rfl, OutO.bad CB.out (by simp only [op26, Option.bind_some, Option.bind_none, Option.map_some, Option.map_none, Bool.true_and, Bool.false_and, Bool.and_true, Bool.and_false, Bool.false_or, Bool.true_or, Bool.or_false, Bool.or_true, if_false, if_true, E0.out, EB.out])⟩
    · obtain ⟨rfl, hm⟩ := hh.some_ hq
      clear z0 z1 z2 z3 z4
      obtain ⟨z0, z1, z2, z3, z4⟩ := hm.cells
      have E1 := Lib.hid hq
      have M1 := Lib.hid hm
      clear hh hq hm
      have hvs := (is_valid E1.out (by decide))
      obtain ⟨n, rfl⟩ : ∃ n : Nat, xa = (n : Int) := ⟨xa.toNat, by have := hvs.1; omega⟩
      have hF := M1.out.fix
      obtain ⟨tb, to, TA, tc, hA, hl, _, _, hcell⟩ := hF.mod.shape hvs
      obtain ⟨e0, e1, e2⟩ := hcell _ _ (Chg.refl (fun _ _ => False) _) (fun _ _ _ h => h)
      have d0 := hF.d0
      rw [hA] at d0
      have q1 : (n : Int) < (h.m.types.length : Int) := hvs.2
      have q2 : n < h.m.types.length := by omega
      rw [Int.toNat_natCast] at e0 e1 e2
      have HL := Lib.hid (And.intro hA (And.intro hl hvs))
      clear hcell hF hA hl hvs
      go_wp2_with fail
      refine wp_region_still_tail 11 (by kernel_rfl) (by kernel_rfl) ?_
      simp only [List.take_succ_cons, List.take_zero, List.drop_succ_cons, List.drop_zero]
      repeat (with_reducible refine wpStill_step (fun K hK => ?_); go_simp; with_reducible refine hK _ ?_; clear hK K)
      try with_reducible refine wpStill_nil ?_
      have hdr := (Chg.refl (fun _ _ => False) (v1)).drew
      have hm := M1.out.same hdr
      clear z0 z1 z2 z3 z4
      obtain ⟨z0, z1, z2, z3, z4⟩ := hm.cells
      have M1d := Lib.hid hm
      have HDR := Lib.hid hdr
      clear hm hdr e0 e1 e2 d0
      change wpList _ _ _ _ _ (World.drew (v1))
      generalize World.drew (v1) = v1d at z0 z1 z2 z3 z4 M1d HDR ⊢
      go_wp2_with fail
      refine (mid_wants (k := k + 3) (listN h.m.types (n : Int)) (HL.out.2.1.keep HDR.out fun _ _ _ h => h) (list_valid M1d.out.fix HL.out.2.2).2 M1d.out).mono fun e v3 hh => ?_
      rcases hq : wantsN (listN h.m.types (n : Int)) s1 with _ | s3
      · obtain ⟨rfl, hc⟩ := hh.none_ hq
        have EB := Lib.hid hq
        have CB := Lib.hid hc
        clear hh hq hc
        go_wp2_with fail
        exact ⟨rfl, OutO.bad CB.out (by simp only [op26, Option.bind_some, Option.bind_none, Option.map_some, Option.map_none, Bool.true_and, Bool.false_and, Bool.and_true, Bool.and_false, Bool.false_or, Bool.true_or, Bool.or_false, Bool.or_true, if_false, if_true, E0.out, E1.out, EB.out])⟩
      · obtain ⟨rfl, hm⟩ := hh.some_ hq
        clear z0 z1 z2 z3 z4
        obtain ⟨z0, z1, z2, z3, z4⟩ := hm.cells
        have E3 := Lib.hid hq
        have M3 := Lib.hid hm
        clear hh hq hm
        go_wp2_with fail
        refine (mid_want (k := k + 2) (n : Int) M3.out).mono fun e v4 hh => ?_
        rcases hq : wantN (n : Int) s3 with _ | s4
        · obtain ⟨rfl, hc⟩ := hh.none_ hq
          have EB := Lib.hid hq
          have CB := Lib.hid hc
          clear hh hq hc
          go_wp2_with fail
          exact ⟨rfl, OutO.bad CB.out (by simp only [op26, Option.bind_some, Option.bind_none, Option.map_some, Option.map_none, Bool.true_and, Bool.false_and, Bool.and_true, Bool.and_false, Bool.false_or, Bool.true_or, Bool.or_false, Bool.or_true, if_false, if_true, E0.out, E1.out, E3.out, EB.out])⟩
        · obtain ⟨rfl, hm⟩ := hh.some_ hq
          clear z0 z1 z2 z3 z4
          obtain ⟨z0, z1, z2, z3, z4⟩ := hm.cells
          have E4 := Lib.hid hq
          have M4 := Lib.hid hm
          clear hh hq hm
          have hvs := HL.out.2.2
          have hF := M4.out.fix
          obtain ⟨tb, to, TA, tc, hA, hl, _, _, hcell⟩ := hF.mod.shape hvs
          obtain ⟨e0, e1, e2⟩ := hcell _ _ (Chg.refl (fun _ _ => False) _) (fun _ _ _ h => h)
          have d0 := hF.d0
          rw [hA] at d0
          rw [Int.toNat_natCast] at e0 e1 e2
          have HL2 := Lib.hid (And.intro hA (And.intro hl hvs))
          clear hcell hF hA hl hvs
          go_wp2_with fail
          refine wp_region_still_tail 11 (by kernel_rfl) (by kernel_rfl) ?_
          simp only [List.take_succ_cons, List.take_zero, List.drop_succ_cons, List.drop_zero]
          repeat (with_reducible refine wpStill_step (fun K hK => ?_); go_simp; with_reducible refine hK _ ?_; clear hK K)
          try with_reducible refine wpStill_nil ?_
          have hdr := (Chg.refl (fun _ _ => False) (v4)).drew
          have hm := M4.out.same hdr
          clear z0 z1 z2 z3 z4
          obtain ⟨z0, z1, z2, z3, z4⟩ := hm.cells
          have M4d := Lib.hid hm
          have HDR := Lib.hid hdr
          clear hm hdr e0 e1 e2 d0
          change wpList _ _ _ _ _ (World.drew (v4))
          generalize World.drew (v4) = v4d at z0 z1 z2 z3 z4 M4d HDR ⊢
          go_wp2_with fail
          refine (mid_res (k := k) (resN h.m.types (n : Int)) (res_valid M4d.out.fix HL.out.2.2) M4d.out).mono fun e v6 hh => ?_
          rcases hq : resS (resN h.m.types (n : Int)) s4 with _ | s6
          · obtain ⟨rfl, hc⟩ := hh.none_ hq
            have EB := Lib.hid hq
            have CB := Lib.hid hc
            clear hh hq hc
            go_wp2_with fail
            exact ⟨rfl, OutO.bad CB.out (by simp only [op26, Option.bind_some, Option.bind_none, Option.map_some, Option.map_none, Bool.true_and, Bool.false_and, Bool.and_true, Bool.and_false, Bool.false_or, Bool.true_or, Bool.or_false, Bool.or_true, if_false, if_true, E0.out, E1.out, E3.out, E4.out, EB.out])⟩
          · obtain ⟨rfl, hm⟩ := hh.some_ hq
            clear z0 z1 z2 z3 z4
            obtain ⟨z0, z1, z2, z3, z4⟩ := hm.cells
            have E6 := Lib.hid hq
            have M6 := Lib.hid hm
            clear hh hq hm
            go_wp2_with fail
            go_ret
            exact OutO.good (M6.out.less (by omega)) (by simp only [op26, Option.bind_some, Option.bind_none, Option.map_some, Option.map_none, Bool.true_and, Bool.false_and, Bool.and_true, Bool.and_false, Bool.false_or, Bool.true_or, Bool.or_false, Bool.or_true, if_false, if_true, E0.out, E1.out, E3.out, E4.out, E6.out])
set_option maxRecDepth 100000 in
set_option maxHeartbeats 4000000 in
theorem calls_27 (h : Hd) (k : Nat) (w : World) (s : VSt) (xa xb : Int) (xn : Nat) (cs : List CaseD) (A : Option Addr) (c : Nat) (H : CkI h (k + 1100) w s) (HV : StV h.m s.stack) :
    Calls Try.prog 55 #[.pointer (some ⟨h.p, 0, none⟩), instrV ⟨27, xa, xb, xn, cs⟩ A c] w (OutO h k w ((op27 h.m ⟨27, xa, xb, xn, cs⟩ s).map (true, ·))) := by
  have hm := Mid.start ⟨27, xa, xb, xn, cs⟩ A c (H.less (show k + 1025 ≤ k + 1100 by omega)) HV
  obtain ⟨z0, z1, z2, z3, z4⟩ := hm.cells
  have M := Lib.hid hm
  clear hm H HV
  unfold instrV
  go_enter Try.func55, Try.ntmps55
  go_wp2_with fail
  refine (mid_fields (k := k + 1025) true false false M.out).mono fun e v0 hh => ?_
  rcases hq : fieldsN ⟨27, xa, xb, xn, cs⟩ true false false s with _ | s0
  · obtain ⟨rfl, hc⟩ := hh.none_ hq
    have EB := Lib.hid hq
    have CB := Lib.hid hc
    clear hh hq hc
    go_wp2_with fail
    exact ⟨rfl, OutO.bad CB.out (by simp only [op27, Option.bind_some, Option.bind_none, Option.map_some, Option.map_none, Bool.true_and, Bool.false_and, Bool.and_true, Bool.and_false, Bool.false_or, Bool.true_or, Bool.or_false, Bool.or_true, if_false, if_true, EB.out])⟩
  · obtain ⟨rfl, hm⟩ := hh.some_ hq
    clear z0 z1 z2 z3 z4
    obtain ⟨z0, z1, z2, z3, z4⟩ := hm.cells
    have E0 := Lib.hid hq
    have M0 := Lib.hid hm
    clear hh hq hm
    go_wp2_with fail
    refine (mid_is xa 11 M0.out).mono fun e v1 hh => ?_
    rcases hq : isKN h.m.types xa 11 s0 with _ | s1
    · obtain ⟨rfl, hc⟩ := hh.none_ hq
      have EB := Lib.hid hq
      have CB := Lib.hid hc
      clear hh hq hc
      go_wp2_with fail
      exact ⟨rfl, OutO.bad CB.out (by simp only [op27, Option.bind_some, Option.bind_none, Option.map_some, Option.map_none, Bool.true_and, Bool.false_and, Bool.and_true, Bool.and_false, Bool.false_or, Bool.true_or, Bool.or_false, Bool.or_true, if_false, if_true, E0.out, EB.out])⟩
    · obtain ⟨rfl, hm⟩ := hh.some_ hq
      clear z0 z1 z2 z3 z4
      obtain ⟨z0, z1, z2, z3, z4⟩ := hm.cells
      have E1 := Lib.hid hq
      have M1 := Lib.hid hm
      clear hh hq hm
      have hvs := (is_valid E1.out (by decide))
      obtain ⟨n, rfl⟩ : ∃ n : Nat, xa = (n : Int) := ⟨xa.toNat, by have := hvs.1; omega⟩
      have hF := M1.out.fix
      obtain ⟨tb, to, TA, tc, hA, hl, _, _, hcell⟩ := hF.mod.shape hvs
      obtain ⟨e0, e1, e2⟩ := hcell _ _ (Chg.refl (fun _ _ => False) _) (fun _ _ _ h => h)
      have d0 := hF.d0
      rw [hA] at d0
      have q1 : (n : Int) < (h.m.types.length : Int) := hvs.2
      have q2 : n < h.m.types.length := by omega
      rw [Int.toNat_natCast] at e0 e1 e2
      have HL := Lib.hid (And.intro hA (And.intro hl hvs))
      clear hcell hF hA hl hvs
      go_wp2_with fail
      refine wp_region_still_tail 11 (by kernel_rfl) (by kernel_rfl) ?_
      simp only [List.take_succ_cons, List.take_zero, List.drop_succ_cons, List.drop_zero]
      repeat (with_reducible refine wpStill_step (fun K hK => ?_); go_simp; with_reducible refine hK _ ?_; clear hK K)
      try with_reducible refine wpStill_nil ?_
      have hdr := (Chg.refl (fun _ _ => False) (v1)).drew
      have hm := M1.out.same hdr
      clear z0 z1 z2 z3 z4
      obtain ⟨z0, z1, z2, z3, z4⟩ := hm.cells
      have M1d := Lib.hid hm
      have HDR := Lib.hid hdr
      clear hm hdr e0 e1 e2 d0
      change wpList _ _ _ _ _ (World.drew (v1))
      generalize World.drew (v1) = v1d at z0 z1 z2 z3 z4 M1d HDR ⊢
      go_wp2_with fail
      refine (mid_wants (k := k + 1) (listN h.m.types (n : Int)) (HL.out.2.1.keep HDR.out fun _ _ _ h => h) (list_valid M1d.out.fix HL.out.2.2).2 M1d.out).mono fun e v3 hh => ?_
      rcases hq : wantsN (listN h.m.types (n : Int)) s1 with _ | s3
      · obtain ⟨rfl, hc⟩ := hh.none_ hq
        have EB := Lib.hid hq
        have CB := Lib.hid hc
        clear hh hq hc
        go_wp2_with fail
        exact ⟨rfl, OutO.bad CB.out (by simp only [op27, Option.bind_some, Option.bind_none, Option.map_some, Option.map_none, Bool.true_and, Bool.false_and, Bool.and_true, Bool.and_false, Bool.false_or, Bool.true_or, Bool.or_false, Bool.or_true, if_false, if_true, E0.out, E1.out, EB.out])⟩
      · obtain ⟨rfl, hm⟩ := hh.some_ hq
        clear z0 z1 z2 z3 z4
        obtain ⟨z0, z1, z2, z3, z4⟩ := hm.cells
        have E3 := Lib.hid hq
        have M3 := Lib.hid hm
        clear hh hq hm
        go_wp2_with fail
        refine (mid_want (k := k) (n : Int) M3.out).mono fun e v4 hh => ?_
        rcases hq : wantN (n : Int) s3 with _ | s4
        · obtain ⟨rfl, hc⟩ := hh.none_ hq
          have EB := Lib.hid hq
          have CB := Lib.hid hc
          clear hh hq hc
          go_wp2_with fail
          exact ⟨rfl, OutO.bad CB.out (by simp only [op27, Option.bind_some, Option.bind_none, Option.map_some, Option.map_none, Bool.true_and, Bool.false_and, Bool.and_true, Bool.and_false, Bool.false_or, Bool.true_or, Bool.or_false, Bool.or_true, if_false, if_true, E0.out, E1.out, E3.out, EB.out])⟩
        · obtain ⟨rfl, hm⟩ := hh.some_ hq
          clear z0 z1 z2 z3 z4
          obtain ⟨z0, z1, z2, z3, z4⟩ := hm.cells
          have E4 := Lib.hid hq
          have M4 := Lib.hid hm
          clear hh hq hm
          go_wp2_with fail
          go_ret
          exact OutO.good (M4.out.less (by omega)) (by simp only [op27, Option.bind_some, Option.bind_none, Option.map_some, Option.map_none, Bool.true_and, Bool.false_and, Bool.and_true, Bool.and_false, Bool.false_or, Bool.true_or, Bool.or_false, Bool.or_true, if_false, if_true, E0.out, E1.out, E3.out, E4.out])
set_option maxRecDepth 100000 in
set_option maxHeartbeats 4000000 in
theorem calls_28 (h : Hd) (k : Nat) (w : World) (s : VSt) (xa xb : Int) (xn : Nat) (cs : List CaseD) (A : Option Addr) (c : Nat) (H : CkI h (k + 1100) w s) (HV : StV h.m s.stack) :
    Calls Try.prog 55 #[.pointer (some ⟨h.p, 0, none⟩), instrV ⟨28, xa, xb, xn, cs⟩ A c] w (OutO h k w ((op27 h.m ⟨28, xa, xb, xn, cs⟩ s).map (true, ·))) := by
  have hm := Mid.start ⟨28, xa, xb, xn, cs⟩ A c (H.less (show k + 1025 ≤ k + 1100 by omega)) HV
  obtain ⟨z0, z1, z2, z3, z4⟩ := hm.cells
  have M := Lib.hid hm
  clear hm H HV
  unfold instrV
  go_enter Try.func55, Try.ntmps55
  go_wp2_with fail
  refine (mid_fields (k := k + 1025) true false false M.out).mono fun e v0 hh => ?_
  rcases hq : fieldsN ⟨28, xa, xb, xn, cs⟩ true false false s with _ | s0
  · obtain ⟨rfl, hc⟩ := hh.none_ hq
    have EB := Lib.hid hq
    have CB := Lib.hid hc
    clear hh hq hc
    go_wp2_with fail
    exact ⟨rfl, OutO.bad CB.out (by simp only [op27, Option.bind_some, Option.bind_none, Option.map_some, Option.map_none, Bool.true_and, Bool.false_and, Bool.and_true, Bool.and_false, Bool.false_or, Bool.true_or, Bool.or_false, Bool.or_true, if_false, if_true, EB.out])⟩
  · obtain ⟨rfl, hm⟩ := hh.some_ hq
    clear z0 z1 z2 z3 z4
    obtain ⟨z0, z1, z2, z3, z4⟩ := hm.cells
    have E0 := Lib.hid hq
    have M0 := Lib.hid hm
    clear hh hq hm
    go_wp2_with fail
    refine (mid_is xa 11 M0.out).mono fun e v1 hh => ?_
    rcases hq : isKN h.m.types xa 11 s0 with _ | s1
    · obtain ⟨rfl, hc⟩ := hh.none_ hq
      have EB := Lib.hid hq
      have CB := Lib.hid hc
      clear hh hq hc
      go_wp2_with fail
      exact ⟨rfl, OutO.bad CB.out (by simp only [op27, Option.bind_some, Option.bind_none, Option.map_some, Option.map_none, Bool.true_and, Bool.false_and, Bool.and_true, Bool.and_false, Bool.false_or, Bool.true_or, Bool.or_false, Bool.or_true, if_false, if_true, E0.out, EB.out])⟩
    · obtain ⟨rfl, hm⟩ := hh.some_ hq
      clear z0 z1 z2 z3 z4
      obtain ⟨z0, z1, z2, z3, z4⟩ := hm.cells
      have E1 := Lib.hid hq
      have M1 := Lib.hid hm
      clear hh hq hm
      have hvs := (is_valid E1.out (by decide))
      obtain ⟨n, rfl⟩ : ∃ n : Nat, xa = (n : Int) := ⟨xa.toNat, by have := hvs.1; omega⟩
      have hF := M1.out.fix
      obtain ⟨tb, to, TA, tc, hA, hl, _, _, hcell⟩ := hF.mod.shape hvs
      obtain ⟨e0, e1, e2⟩ := hcell _ _ (Chg.refl (fun _ _ => False) _) (fun _ _ _ h => h)
      have d0 := hF.d0
      rw [hA] at d0
      have q1 : (n : Int) < (h.m.types.length : Int) := hvs.2
      have q2 : n < h.m.types.length := by omega
      rw [Int.toNat_natCast] at e0 e1 e2
      have HL := Lib.hid (And.intro hA (And.intro hl hvs))
      clear hcell hF hA hl hvs
      go_wp2_with fail
      refine wp_region_still_tail 11 (by kernel_rfl) (by kernel_rfl) ?_
      simp only [List.take_succ_cons, List.take_zero, List.drop_succ_cons, List.drop_zero]
      repeat (with_reducible refine wpStill_step (fun K hK => ?_); go_simp; with_reducible refine hK _ ?_; clear hK K)
      try with_reducible refine wpStill_nil ?_
      have hdr := (Chg.refl (fun _ _ => False) (v1)).drew
      have hm := M1.out.same hdr
      clear z0 z1 z2 z3 z4
      obtain ⟨z0, z1, z2, z3, z4⟩ := hm.cells
      have M1d := Lib.hid hm
      have HDR := Lib.hid hdr
      clear hm hdr e0 e1 e2 d0
      change wpList _ _ _ _ _ (World.drew (v1))
      generalize World.drew (v1) = v1d at z0 z1 z2 z3 z4 M1d HDR ⊢
      go_wp2_with fail
      refine (mid_wants (k := k + 1) (listN h.m.types (n : Int)) (HL.out.2.1.keep HDR.out fun _ _ _ h => h) (list_valid M1d.out.fix HL.out.2.2).2 M1d.out).mono fun e v3 hh => ?_
      rcases hq : wantsN (listN h.m.types (n : Int)) s1 with _ | s3
      · obtain ⟨rfl, hc⟩ := hh.none_ hq
        have EB := Lib.hid hq
        have CB := Lib.hid hc
        clear hh hq hc
        go_wp2_with fail
        exact ⟨rfl, OutO.bad CB.out (by simp only [op27, Option.bind_some, Option.bind_none, Option.map_some, Option.map_none, Bool.true_and, Bool.false_and, Bool.and_true, Bool.and_false, Bool.false_or, Bool.true_or, Bool.or_false, Bool.or_true, if_false, if_true, E0.out, E1.out, EB.out])⟩
      · obtain ⟨rfl, hm⟩ := hh.some_ hq
        clear z0 z1 z2 z3 z4
        obtain ⟨z0, z1, z2, z3, z4⟩ := hm.cells
        have E3 := Lib.hid hq
        have M3 := Lib.hid hm
        clear hh hq hm
        go_wp2_with fail
        refine (mid_want (k := k) (n : Int) M3.out).mono fun e v4 hh => ?_
        rcases hq : wantN (n : Int) s3 with _ | s4
        · obtain ⟨rfl, hc⟩ := hh.none_ hq
          have EB := Lib.hid hq
          have CB := Lib.hid hc
          clear hh hq hc
          go_wp2_with fail
          exact ⟨rfl, OutO.bad CB.out (by simp only [op27, Option.bind_some, Option.bind_none, Option.map_some, Option.map_none, Bool.true_and, Bool.false_and, Bool.and_true, Bool.and_false, Bool.false_or, Bool.true_or, Bool.or_false, Bool.or_true, if_false, if_true, E0.out, E1.out, E3.out, EB.out])⟩
        · obtain ⟨rfl, hm⟩ := hh.some_ hq
          clear z0 z1 z2 z3 z4
          obtain ⟨z0, z1, z2, z3, z4⟩ := hm.cells
          have E4 := Lib.hid hq
          have M4 := Lib.hid hm
          clear hh hq hm
          go_wp2_with fail
          go_ret
          exact OutO.good (M4.out.less (by omega)) (by simp only [op27, Option.bind_some, Option.bind_none, Option.map_some, Option.map_none, Bool.true_and, Bool.false_and, Bool.and_true, Bool.and_false, Bool.false_or, Bool.true_or, Bool.or_false, Bool.or_true, if_false, if_true, E0.out, E1.out, E3.out, E4.out])
end Go.Proofs.Ytdegfnejhamejaa
namespace Go.Proofs.Ytdegfnejhamejaa
open Go.RowKit
set_option linter.unusedVariables false
set_option linter.unusedSimpArgs false

set_option maxRecDepth 100000 in
set_option maxHeartbeats 4000000 in
theorem flow_33 (h : Hd) (k : Nat) (w : World) (s : VSt) (xa xb : Int) (xn : Nat) (cs : List CaseD) (A : Option Addr) (c : Nat) (H : CkI h (k + 1100) w s) (HV : StV h.m s.stack) :
    Calls Try.prog 56 #[.pointer (some ⟨h.p, 0, none⟩), instrV ⟨33, xa, xb, xn, cs⟩ A c] w (OutO h k w (((op33 h.f ⟨33, xa, xb, xn, cs⟩ s).bind endN).map (true, ·))) := by
  have hm := Mid.start ⟨33, xa, xb, xn, cs⟩ A c (H.less (show k + 0 ≤ k + 1100 by omega)) HV
  obtain ⟨z0, z1, z2, z3, z4⟩ := hm.cells
  have M := Lib.hid hm
  clear hm H HV
  unfold instrV
  go_enter Try.func56, Try.ntmps56
  go_wp2_with fail
  refine (mid_fields (k := k + 0) true false false M.out).mono fun e v0 hh => ?_
  rcases hq : fieldsN ⟨33, xa, xb, xn, cs⟩ true false false s with _ | s0
  · obtain ⟨rfl, hc⟩ := hh.none_ hq
    have EB := Lib.hid hq
    have CB := Lib.hid hc
    clear hh hq hc
    go_wp2_with fail
    exact ⟨rfl, OutO.bad CB.out (by simp only [op33, endN, Option.bind_some, Option.bind_none, Option.map_some, Option.map_none, Bool.true_and, Bool.false_and, Bool.and_true, Bool.and_false, Bool.false_or, Bool.true_or, Bool.or_false, Bool.or_true, if_false, if_true, EB.out])⟩
  · obtain ⟨rfl, hm⟩ := hh.some_ hq
    clear z0 z1 z2 z3 z4
    obtain ⟨z0, z1, z2, z3, z4⟩ := hm.cells
    have E0 := Lib.hid hq
    have M0 := Lib.hid hm
    clear hh hq hm
    go_wp2_with fail
    refine (mid_place xa M0.out).mono fun e v1 hh => ?_
    rcases hq : placeN h.f xa s0 with _ | s1
    · obtain ⟨rfl, hc⟩ := hh.none_ hq
      have EB := Lib.hid hq
      have CB := Lib.hid hc
      clear hh hq hc
      go_wp2_with fail
      exact ⟨rfl, OutO.bad CB.out (by simp only [op33, endN, Option.bind_some, Option.bind_none, Option.map_some, Option.map_none, Bool.true_and, Bool.false_and, Bool.and_true, Bool.and_false, Bool.false_or, Bool.true_or, Bool.or_false, Bool.or_true, if_false, if_true, E0.out, EB.out])⟩
    · obtain ⟨rfl, hm⟩ := hh.some_ hq
      clear z0 z1 z2 z3 z4
      obtain ⟨z0, z1, z2, z3, z4⟩ := hm.cells
      have E1 := Lib.hid hq
      have M1 := Lib.hid hm
      clear hh hq hm
      obtain ⟨As8, cs8, d8⟩ := M1.out.stack8
      go_wp2_with fail
      refine (mid_need ((s1.stack.length : Int) == 0) M1.out).mono fun e v3 hh => ?_
      rcases hq : needN ((s1.stack.length : Int) == 0) s1 with _ | s3
      · obtain ⟨rfl, hc⟩ := hh.none_ hq
        have EB := Lib.hid hq
        have CB := Lib.hid hc
        clear hh hq hc
        go_wp2_with fail
        exact ⟨rfl, OutO.bad CB.out (by simp only [op33, endN, Option.bind_some, Option.bind_none, Option.map_some, Option.map_none, Bool.true_and, Bool.false_and, Bool.and_true, Bool.and_false, Bool.false_or, Bool.true_or, Bool.or_false, Bool.or_true, if_false, if_true, E0.out, E1.out, EB.out])⟩
      · obtain ⟨rfl, hm⟩ := hh.some_ hq
        clear z0 z1 z2 z3 z4
        obtain ⟨z0, z1, z2, z3, z4⟩ := hm.cells
        have E3 := Lib.hid hq
        have M3 := Lib.hid hm
        clear hh hq hm
        go_wp2_with fail
        go_ret
        exact OutO.good (M3.out.less (by omega)) (by simp only [op33, endN, Option.bind_some, Option.bind_none, Option.map_some, Option.map_none, Bool.true_and, Bool.false_and, Bool.and_true, Bool.and_false, Bool.false_or, Bool.true_or, Bool.or_false, Bool.or_true, if_false, if_true, E0.out, E1.out, E3.out])
set_option maxRecDepth 100000 in
set_option maxHeartbeats 4000000 in
theorem flow_34 (h : Hd) (k : Nat) (w : World) (s : VSt) (xa xb : Int) (xn : Nat) (cs : List CaseD) (A : Option Addr) (c : Nat) (H : CkI h (k + 1100) w s) (HV : StV h.m s.stack) :
    Calls Try.prog 56 #[.pointer (some ⟨h.p, 0, none⟩), instrV ⟨34, xa, xb, xn, cs⟩ A c] w (OutO h k w (((op34 h.m h.f ⟨34, xa, xb, xn, cs⟩ s).bind endN).map (true, ·))) := by
  have hm := Mid.start ⟨34, xa, xb, xn, cs⟩ A c (H.less (show k + 1 ≤ k + 1100 by omega)) HV
  obtain ⟨z0, z1, z2, z3, z4⟩ := hm.cells
  have M := Lib.hid hm
  clear hm H HV
  unfold instrV
  go_enter Try.func56, Try.ntmps56
  go_wp2_with fail
  refine (mid_fields (k := k + 1) true false false M.out).mono fun e v0 hh => ?_
  rcases hq : fieldsN ⟨34, xa, xb, xn, cs⟩ true false false s with _ | s0
  · obtain ⟨rfl, hc⟩ := hh.none_ hq
    have EB := Lib.hid hq
    have CB := Lib.hid hc
    clear hh hq hc
    go_wp2_with fail
    exact ⟨rfl, OutO.bad CB.out (by simp only [op34, endN, Option.bind_some, Option.bind_none, Option.map_some, Option.map_none, Bool.true_and, Bool.false_and, Bool.and_true, Bool.and_false, Bool.false_or, Bool.true_or, Bool.or_false, Bool.or_true, if_false, if_true, EB.out])⟩
  · obtain ⟨rfl, hm⟩ := hh.some_ hq
    clear z0 z1 z2 z3 z4
    obtain ⟨z0, z1, z2, z3, z4⟩ := hm.cells
    have E0 := Lib.hid hq
    have M0 := Lib.hid hm
    clear hh hq hm
    go_wp2_with fail
    refine (mid_place xa M0.out).mono fun e v1 hh => ?_
    rcases hq : placeN h.f xa s0 with _ | s1
    · obtain ⟨rfl, hc⟩ := hh.none_ hq
      have EB := Lib.hid hq
      have CB := Lib.hid hc
      clear hh hq hc
      go_wp2_with fail
      exact ⟨rfl, OutO.bad CB.out (by simp only [op34, endN, Option.bind_some, Option.bind_none, Option.map_some, Option.map_none, Bool.true_and, Bool.false_and, Bool.and_true, Bool.and_false, Bool.false_or, Bool.true_or, Bool.or_false, Bool.or_true, if_false, if_true, E0.out, EB.out])⟩
    · obtain ⟨rfl, hm⟩ := hh.some_ hq
      clear z0 z1 z2 z3 z4
      obtain ⟨z0, z1, z2, z3, z4⟩ := hm.cells
      have E1 := Lib.hid hq
      have M1 := Lib.hid hm
      clear hh hq hm
      go_wp2_with fail
      refine (mid_pop (k := k) M1.out).mono fun e v2 hh => ?_
      rcases hq : popN s1 with _ | ⟨r, s2⟩
      · obtain ⟨rfl, hc⟩ := hh.none_ hq
        have EB := Lib.hid hq
        have CB := Lib.hid hc
        clear hh hq hc
        go_wp2_with fail
        exact ⟨rfl, OutO.bad CB.out (by simp only [op34, endN, Option.bind_some, Option.bind_none, Option.map_some, Option.map_none, Bool.true_and, Bool.false_and, Bool.and_true, Bool.and_false, Bool.false_or, Bool.true_or, Bool.or_false, Bool.or_true, if_false, if_true, E0.out, E1.out, EB.out])⟩
      · obtain ⟨rfl, hm, hv⟩ := hh.some_ hq
        have Vr := Lib.hid hv
        clear z0 z1 z2 z3 z4
        obtain ⟨z0, z1, z2, z3, z4⟩ := hm.cells
        have E2 := Lib.hid hq
        have M2 := Lib.hid hm
        clear hh hq hm hv
        go_wp2_with fail
        refine (mid_is r 1 M2.out).mono fun e v3 hh => ?_
        rcases hq : isKN h.m.types r 1 s2 with _ | s3
        · obtain ⟨rfl, hc⟩ := hh.none_ hq
          have EB := Lib.hid hq
          have CB := Lib.hid hc
          clear hh hq hc
          go_wp2_with fail
          exact ⟨rfl, OutO.bad CB.out (by simp only [op34, endN, Option.bind_some, Option.bind_none, Option.map_some, Option.map_none, Bool.true_and, Bool.false_and, Bool.and_true, Bool.and_false, Bool.false_or, Bool.true_or, Bool.or_false, Bool.or_true, if_false, if_true, E0.out, E1.out, E2.out, EB.out])⟩
        · obtain ⟨rfl, hm⟩ := hh.some_ hq
          clear z0 z1 z2 z3 z4
          obtain ⟨z0, z1, z2, z3, z4⟩ := hm.cells
          have E3 := Lib.hid hq
          have M3 := Lib.hid hm
          clear hh hq hm
          obtain ⟨As8, cs8, d8⟩ := M3.out.stack8
          go_wp2_with fail
          refine (mid_need ((s3.stack.length : Int) == 0) M3.out).mono fun e v5 hh => ?_
          rcases hq : needN ((s3.stack.length : Int) == 0) s3 with _ | s5
          · obtain ⟨rfl, hc⟩ := hh.none_ hq
            have EB := Lib.hid hq
            have CB := Lib.hid hc
            clear hh hq hc
            go_wp2_with fail
            exact ⟨rfl, OutO.bad CB.out (by simp only [op34, endN, Option.bind_some, Option.bind_none, Option.map_some, Option.map_none, Bool.true_and, Bool.false_and, Bool.and_true, Bool.and_false, Bool.false_or, Bool.true_or, Bool.or_false, Bool.or_true, if_false, if_true, E0.out, E1.out, E2.out, E3.out, EB.out])⟩
          · obtain ⟨rfl, hm⟩ := hh.some_ hq
            clear z0 z1 z2 z3 z4
            obtain ⟨z0, z1, z2, z3, z4⟩ := hm.cells
            have E5 := Lib.hid hq
            have M5 := Lib.hid hm
            clear hh hq hm
            go_wp2_with fail
            go_ret
            exact OutO.good (M5.out.less (by omega)) (by simp only [op34, endN, Option.bind_some, Option.bind_none, Option.map_some, Option.map_none, Bool.true_and, Bool.false_and, Bool.and_true, Bool.and_false, Bool.false_or, Bool.true_or, Bool.or_false, Bool.or_true, if_false, if_true, E0.out, E1.out, E2.out, E3.out, E5.out])
set_option maxRecDepth 100000 in
set_option maxHeartbeats 4000000 in
theorem flow_35 (h : Hd) (k : Nat) (w : World) (s : VSt) (xa xb : Int) (xn : Nat) (cs : List CaseD) (A : Option Addr) (c : Nat) (H : CkI h (k + 1100) w s) (HV : StV h.m s.stack) :
    Calls Try.prog 56 #[.pointer (some ⟨h.p, 0, none⟩), instrV ⟨35, xa, xb, xn, cs⟩ A c] w (OutO h k w (((op35 h.f ⟨35, xa, xb, xn, cs⟩ s).bind endN).map (true, ·))) := by
  have hm := Mid.start ⟨35, xa, xb, xn, cs⟩ A c (H.less (show k + 1 ≤ k + 1100 by omega)) HV
  obtain ⟨z0, z1, z2, z3, z4⟩ := hm.cells
  have M := Lib.hid hm
  clear hm H HV
  unfold instrV
  go_enter Try.func56, Try.ntmps56
  go_wp2_with fail
  refine (mid_fields (k := k + 1) false false false M.out).mono fun e v0 hh => ?_
  rcases hq : fieldsN ⟨35, xa, xb, xn, cs⟩ false false false s with _ | s0
  · obtain ⟨rfl, hc⟩ := hh.none_ hq
    have EB := Lib.hid hq
    have CB := Lib.hid hc
    clear hh hq hc
    go_wp2_with fail
    exact ⟨rfl, OutO.bad CB.out (by simp only [op35, endN, Option.bind_some, Option.bind_none, Option.map_some, Option.map_none, Bool.true_and, Bool.false_and, Bool.and_true, Bool.and_false, Bool.false_or, Bool.true_or, Bool.or_false, Bool.or_true, if_false, if_true, EB.out])⟩
  · obtain ⟨rfl, hm⟩ := hh.some_ hq
    clear z0 z1 z2 z3 z4
    obtain ⟨z0, z1, z2, z3, z4⟩ := hm.cells
    have E0 := Lib.hid hq
    have M0 := Lib.hid hm
    clear hh hq hm
    have d5 := M0.out.fix.d5
    have hfr := (formed_func M0.out.fix.mod.formed M0.out.fix.mod.func).2.2.2.2.2.2
    have hfl := (formed_len M0.out.fix.mod.formed).1
    have q9 : IntKind.i64.wrap (h.f.res - 1) = h.f.res - 1 := IntWalk.i64_in _ ⟨by omega, by omega⟩
    clear hfr hfl
    cases hb : decide (0 < h.f.res)
    · have EI := Lib.hid (eq_false (of_decide_eq_false hb))
      have EK := Lib.hid hb
      obtain ⟨As8, cs8, d8⟩ := M0.out.stack8
      go_wp2_with fail
      refine (mid_need ((s0.stack.length : Int) == 0) M0.out).mono fun e v2 hh => ?_
      rcases hq : needN ((s0.stack.length : Int) == 0) s0 with _ | s2
      · obtain ⟨rfl, hc⟩ := hh.none_ hq
        have EB := Lib.hid hq
        have CB := Lib.hid hc
        clear hh hq hc
        go_wp2_with fail
        exact ⟨rfl, OutO.bad CB.out (by simp only [op35, endN, Option.bind_some, Option.bind_none, Option.map_some, Option.map_none, Bool.true_and, Bool.false_and, Bool.and_true, Bool.and_false, Bool.false_or, Bool.true_or, Bool.or_false, Bool.or_true, if_false, if_true, E0.out, EI.out, EB.out])⟩
      · obtain ⟨rfl, hm⟩ := hh.some_ hq
        clear z0 z1 z2 z3 z4
        obtain ⟨z0, z1, z2, z3, z4⟩ := hm.cells
        have E2 := Lib.hid hq
        have M2 := Lib.hid hm
        clear hh hq hm
        go_wp2_with fail
        go_ret
        exact OutO.good (M2.out.less (by omega)) (by simp only [op35, endN, Option.bind_some, Option.bind_none, Option.map_some, Option.map_none, Bool.true_and, Bool.false_and, Bool.and_true, Bool.and_false, Bool.false_or, Bool.true_or, Bool.or_false, Bool.or_true, if_false, if_true, E0.out, EI.out, E2.out])
    · have EI := Lib.hid (eq_true (of_decide_eq_true hb))
      have EK := Lib.hid hb
      go_wp2_with fail
      refine (mid_want (k := k) (h.f.res - 1) M0.out).mono fun e v3 hh => ?_
      rcases hq : wantN (h.f.res - 1) s0 with _ | s3
      · obtain ⟨rfl, hc⟩ := hh.none_ hq
        have EB := Lib.hid hq
        have CB := Lib.hid hc
        clear hh hq hc
        go_wp2_with fail
        exact ⟨rfl, OutO.bad CB.out (by simp only [op35, endN, Option.bind_some, Option.bind_none, Option.map_some, Option.map_none, Bool.true_and, Bool.false_and, Bool.and_true, Bool.and_false, Bool.false_or, Bool.true_or, Bool.or_false, Bool.or_true, if_false, if_true, E0.out, EI.out, EB.out])⟩
      · obtain ⟨rfl, hm⟩ := hh.some_ hq
        clear z0 z1 z2 z3 z4
        obtain ⟨z0, z1, z2, z3, z4⟩ := hm.cells
        have E3 := Lib.hid hq
        have M3 := Lib.hid hm
        clear hh hq hm
        obtain ⟨As8, cs8, d8⟩ := M3.out.stack8
        go_wp2_with fail
        refine (mid_need ((s3.stack.length : Int) == 0) M3.out).mono fun e v5 hh => ?_
        rcases hq : needN ((s3.stack.length : Int) == 0) s3 with _ | s5
        · obtain ⟨rfl, hc⟩ := hh.none_ hq
          have EB := Lib.hid hq
          have CB := Lib.hid hc
          clear hh hq hc
          go_wp2_with fail
          exact ⟨rfl, OutO.bad CB.out (by simp only [op35, endN, Option.bind_some, Option.bind_none, Option.map_some, Option.map_none, Bool.true_and, Bool.false_and, Bool.and_true, Bool.and_false, Bool.false_or, Bool.true_or, Bool.or_false, Bool.or_true, if_false, if_true, E0.out, EI.out, E3.out, EB.out])⟩
        · obtain ⟨rfl, hm⟩ := hh.some_ hq
          clear z0 z1 z2 z3 z4
          obtain ⟨z0, z1, z2, z3, z4⟩ := hm.cells
          have E5 := Lib.hid hq
          have M5 := Lib.hid hm
          clear hh hq hm
          go_wp2_with fail
          go_ret
          exact OutO.good (M5.out.less (by omega)) (by simp only [op35, endN, Option.bind_some, Option.bind_none, Option.map_some, Option.map_none, Bool.true_and, Bool.false_and, Bool.and_true, Bool.and_false, Bool.false_or, Bool.true_or, Bool.or_false, Bool.or_true, if_false, if_true, E0.out, EI.out, E3.out, E5.out])
set_option maxRecDepth 100000 in
set_option maxHeartbeats 4000000 in
theorem flow_36 (h : Hd) (k : Nat) (w : World) (s : VSt) (xa xb : Int) (xn : Nat) (cs : List CaseD) (A : Option Addr) (c : Nat) (H : CkI h (k + 1100) w s) (HV : StV h.m s.stack) :
    Calls Try.prog 56 #[.pointer (some ⟨h.p, 0, none⟩), instrV ⟨36, xa, xb, xn, cs⟩ A c] w (OutO h k w (((op36 h.m ⟨36, xa, xb, xn, cs⟩ s).bind endN).map (true, ·))) := by
  have hm := Mid.start ⟨36, xa, xb, xn, cs⟩ A c (H.less (show k + 1 ≤ k + 1100 by omega)) HV
  obtain ⟨z0, z1, z2, z3, z4⟩ := hm.cells
  have M := Lib.hid hm
  clear hm H HV
  unfold instrV
  go_enter Try.func56, Try.ntmps56
  go_wp2_with fail
  refine (mid_fields (k := k + 1) false false false M.out).mono fun e v0 hh => ?_
  rcases hq : fieldsN ⟨36, xa, xb, xn, cs⟩ false false false s with _ | s0
  · obtain ⟨rfl, hc⟩ := hh.none_ hq
    have EB := Lib.hid hq
    have CB := Lib.hid hc
    clear hh hq hc
    go_wp2_with fail
    exact ⟨rfl, OutO.bad CB.out (by simp only [op36, endN, Option.bind_some, Option.bind_none, Option.map_some, Option.map_none, Bool.true_and, Bool.false_and, Bool.and_true, Bool.and_false, Bool.false_or, Bool.true_or, Bool.or_false, Bool.or_true, if_false, if_true, EB.out])⟩
  · obtain ⟨rfl, hm⟩ := hh.some_ hq
    clear z0 z1 z2 z3 z4
    obtain ⟨z0, z1, z2, z3, z4⟩ := hm.cells
    have E0 := Lib.hid hq
    have M0 := Lib.hid hm
    clear hh hq hm
    go_wp2_with fail
    refine (mid_pop (k := k) M0.out).mono fun e v1 hh => ?_
    rcases hq : popN s0 with _ | ⟨r, s1⟩
    · obtain ⟨rfl, hc⟩ := hh.none_ hq
      have EB := Lib.hid hq
      have CB := Lib.hid hc
      clear hh hq hc
      go_wp2_with fail
      exact ⟨rfl, OutO.bad CB.out (by simp only [op36, endN, Option.bind_some, Option.bind_none, Option.map_some, Option.map_none, Bool.true_and, Bool.false_and, Bool.and_true, Bool.and_false, Bool.false_or, Bool.true_or, Bool.or_false, Bool.or_true, if_false, if_true, E0.out, EB.out])⟩
    · obtain ⟨rfl, hm, hv⟩ := hh.some_ hq
      have Vr := Lib.hid hv
      clear z0 z1 z2 z3 z4
      obtain ⟨z0, z1, z2, z3, z4⟩ := hm.cells
      have E1 := Lib.hid hq
      have M1 := Lib.hid hm
      clear hh hq hm hv
      go_wp2_with fail
      refine (mid_is r 6 M1.out).mono fun e v2 hh => ?_
      rcases hq : isKN h.m.types r 6 s1 with _ | s2
      · obtain ⟨rfl, hc⟩ := hh.none_ hq
        have EB := Lib.hid hq
        have CB := Lib.hid hc
        clear hh hq hc
        go_wp2_with fail
        exact ⟨rfl, OutO.bad CB.out (by simp only [op36, endN, Option.bind_some, Option.bind_none, Option.map_some, Option.map_none, Bool.true_and, Bool.false_and, Bool.and_true, Bool.and_false, Bool.false_or, Bool.true_or, Bool.or_false, Bool.or_true, if_false, if_true, E0.out, E1.out, EB.out])⟩
      · obtain ⟨rfl, hm⟩ := hh.some_ hq
        clear z0 z1 z2 z3 z4
        obtain ⟨z0, z1, z2, z3, z4⟩ := hm.cells
        have E2 := Lib.hid hq
        have M2 := Lib.hid hm
        clear hh hq hm
        obtain ⟨As8, cs8, d8⟩ := M2.out.stack8
        go_wp2_with fail
        refine (mid_need ((s2.stack.length : Int) == 0) M2.out).mono fun e v4 hh => ?_
        rcases hq : needN ((s2.stack.length : Int) == 0) s2 with _ | s4
        · obtain ⟨rfl, hc⟩ := hh.none_ hq
          have EB := Lib.hid hq
          have CB := Lib.hid hc
          clear hh hq hc
          go_wp2_with fail
          exact ⟨rfl, OutO.bad CB.out (by simp only [op36, endN, Option.bind_some, Option.bind_none, Option.map_some, Option.map_none, Bool.true_and, Bool.false_and, Bool.and_true, Bool.and_false, Bool.false_or, Bool.true_or, Bool.or_false, Bool.or_true, if_false, if_true, E0.out, E1.out, E2.out, EB.out])⟩
        · obtain ⟨rfl, hm⟩ := hh.some_ hq
          clear z0 z1 z2 z3 z4
          obtain ⟨z0, z1, z2, z3, z4⟩ := hm.cells
          have E4 := Lib.hid hq
          have M4 := Lib.hid hm
          clear hh hq hm
          go_wp2_with fail
          go_ret
          exact OutO.good (M4.out.less (by omega)) (by simp only [op36, endN, Option.bind_some, Option.bind_none, Option.map_some, Option.map_none, Bool.true_and, Bool.false_and, Bool.and_true, Bool.and_false, Bool.false_or, Bool.true_or, Bool.or_false, Bool.or_true, if_false, if_true, E0.out, E1.out, E2.out, E4.out])
end Go.Proofs.Ytdegfnejhamejaa
namespace Go.Proofs.Ytdegfnejhamejaa
open Go.RowKit
set_option linter.unusedVariables false
set_option linter.unusedSimpArgs false

set_option maxRecDepth 100000 in
set_option maxHeartbeats 4000000 in
theorem nums_1 (h : Hd) (k : Nat) (w : World) (s : VSt) (xa xb : Int) (xn : Nat) (cs : List CaseD) (A : Option Addr) (c : Nat) (H : CkI h (k + 1100) w s) (HV : StV h.m s.stack) :
    Calls Try.prog 53 #[.pointer (some ⟨h.p, 0, none⟩), instrV ⟨1, xa, xb, xn, cs⟩ A c] w (OutO h k w ((op1 h.m ⟨1, xa, xb, xn, cs⟩ s).map (true, ·))) := by
  have hm := Mid.start ⟨1, xa, xb, xn, cs⟩ A c (H.less (show k + 2 ≤ k + 1100 by omega)) HV
  obtain ⟨z0, z1, z2, z3, z4⟩ := hm.cells
  have M := Lib.hid hm
  clear hm H HV
  unfold instrV
  go_enter Try.func53, Try.ntmps53
  go_wp2_with fail
  refine (mid_fields (k := k + 2) true false true M.out).mono fun e v0 hh => ?_
  rcases hq : fieldsN ⟨1, xa, xb, xn, cs⟩ true false true s with _ | s0
  · obtain ⟨rfl, hc⟩ := hh.none_ hq
    have EB := Lib.hid hq
    have CB := Lib.hid hc
    clear hh hq hc
    go_wp2_with fail
    exact ⟨rfl, OutO.bad CB.out (by simp only [op1, Option.bind_some, Option.bind_none, Option.map_some, Option.map_none, Bool.true_and, Bool.false_and, Bool.and_true, Bool.and_false, Bool.false_or, Bool.true_or, Bool.or_false, Bool.or_true, if_false, if_true, EB.out])⟩
  · obtain ⟨rfl, hm⟩ := hh.some_ hq
    clear z0 z1 z2 z3 z4
    obtain ⟨z0, z1, z2, z3, z4⟩ := hm.cells
    have E0 := Lib.hid hq
    have M0 := Lib.hid hm
    clear hh hq hm
    go_wp2_with fail
    have hm := M0.out.same (Chg.refl (fun _ _ => False) v0).drew
    clear z0 z1 z2 z3 z4
    obtain ⟨z0, z1, z2, z3, z4⟩ := hm.cells
    have N0 := Lib.hid hm
    clear hm
    cases hq : wholeN h.m.types xa s0 with
    | none =>
      have EB := Lib.hid hq
      clear hq
      refine wp_region_G (S := (fun w' => w'.cell? ⟨w.heap.size, 1, none⟩ = some (.int .i64 xa) ∧ w'.cell? ⟨w.heap.size, 3, none⟩ = some (.int .u64 (xn : Int)))) 10 (by kernel_rfl) ⟨z1, z3⟩ (fun hHeld => ?_)
      refine wpAnyG_take (i := 0) (v := ?va1) rfl (by kernel_rfl) (fun _ _ _ h => h) (Or.inl ⟨by rfl, ?hy1⟩) (by assumption) ?ra1
      case hy1 => (intro w hSw; (try dsimp only at hSw); go_simp; all_goals (with_reducible rfl))
      simp only [Act.put, List.setIfInBounds_toArray, List.set_cons_zero, List.set_cons_succ]
      refine wpAnyG_take (i := 1) (v := ?va2) rfl (by kernel_rfl) (fun _ _ _ h => h) (Or.inl ⟨by rfl, ?hy2⟩) (by assumption) ?ra2
      case hy2 => (intro w hSw; (try dsimp only at hSw); go_simp; all_goals (with_reducible rfl))
      simp only [Act.put, List.setIfInBounds_toArray, List.set_cons_zero, List.set_cons_succ]
      refine wpAnyG_take (i := 2) (v := ?va3) rfl (by kernel_rfl) (fun _ _ _ h => h) (Or.inl ⟨by rfl, ?hy3⟩) (by assumption) ?ra3
      case hy3 => (intro w hSw; (try dsimp only at hSw); go_simp; all_goals (with_reducible rfl))
      simp only [Act.put, List.setIfInBounds_toArray, List.set_cons_zero, List.set_cons_succ]
      refine wpAnyG_take (i := 3) (v := ?va4) rfl (by kernel_rfl) (fun _ _ _ h => h) (Or.inl ⟨by rfl, ?hy4⟩) (by assumption) ?ra4
      case hy4 => (intro w hSw; (try dsimp only at hSw); go_simp; all_goals (with_reducible rfl))
      simp only [Act.put, List.setIfInBounds_toArray, List.set_cons_zero, List.set_cons_succ]
      refine wpAnyG_take (i := 4) (v := ?va5) rfl (by kernel_rfl) (fun _ _ _ h => h) (Or.inl ⟨by rfl, ?hy5⟩) (by assumption) ?ra5
      case hy5 => (intro w hSw; (try dsimp only at hSw); go_simp; all_goals (with_reducible rfl))
      simp only [Act.put, List.setIfInBounds_toArray, List.set_cons_zero, List.set_cons_succ]
      refine wpAnyG_take (i := 7) (v := ?va6) rfl (by kernel_rfl) (fun _ _ _ h => h) (Or.inl ⟨by rfl, ?hy6⟩) (by assumption) ?ra6
      case hy6 => (intro w hSw; (try dsimp only at hSw); go_simp; all_goals (with_reducible rfl))
      simp only [Act.put, List.setIfInBounds_toArray, List.set_cons_zero, List.set_cons_succ]
      refine wpAnyG_take (i := 8) (v := ?va7) rfl (by kernel_rfl) (fun _ _ _ h => h) (Or.inl ⟨by rfl, ?hy7⟩) (by assumption) ?ra7
      case hy7 => (intro w hSw; (try dsimp only at hSw); go_simp; all_goals (with_reducible rfl))
      simp only [Act.put, List.setIfInBounds_toArray, List.set_cons_zero, List.set_cons_succ]
      refine wpAnyG_ready (rs := [5]) (by kernel_rfl) (by simp) ?_
      refine AllReadyG.cons rfl (fun K hK => ?_) AllReadyG.nil
      go_simp
      go_at_call 63
      refine (mid_whole xa N0.out).mono ?_
      rintro e v1 hh
      obtain ⟨rfl, hc⟩ := hh.none_ EB.out
      have CB := Lib.hid hc
      clear hh hc
      exact ⟨rfl, OutO.bad CB.out (by simp only [op1, Option.bind_some, Option.bind_none, Option.map_some, Option.map_none, Bool.true_and, Bool.false_and, Bool.and_true, Bool.and_false, Bool.false_or, Bool.true_or, Bool.or_false, Bool.or_true, if_false, if_true, E0.out, EB.out])⟩
    | some s1 =>
      have E1 := Lib.hid hq
      clear hq
      cases hi : isB (kindN h.m.types xa) xn
      · have EI := Lib.hid hi
        clear hi
        refine wp_region_G (S := (fun w' => w'.cell? ⟨w.heap.size, 1, none⟩ = some (.int .i64 xa) ∧ w'.cell? ⟨w.heap.size, 3, none⟩ = some (.int .u64 (xn : Int)))) 10 (by kernel_rfl) ⟨z1, z3⟩ (fun hHeld => ?_)
        refine wpAnyG_take (i := 0) (v := ?va8) rfl (by kernel_rfl) (fun _ _ _ h => h) (Or.inl ⟨by rfl, ?hy8⟩) (by assumption) ?ra8
        case hy8 => (intro w hSw; (try dsimp only at hSw); go_simp; all_goals (with_reducible rfl))
        simp only [Act.put, List.setIfInBounds_toArray, List.set_cons_zero, List.set_cons_succ]
        refine wpAnyG_take (i := 1) (v := ?va9) rfl (by kernel_rfl) (fun _ _ _ h => h) (Or.inl ⟨by rfl, ?hy9⟩) (by assumption) ?ra9
        case hy9 => (intro w hSw; (try dsimp only at hSw); go_simp; all_goals (with_reducible rfl))
        simp only [Act.put, List.setIfInBounds_toArray, List.set_cons_zero, List.set_cons_succ]
        refine wpAnyG_take (i := 2) (v := ?va10) rfl (by kernel_rfl) (fun _ _ _ h => h) (Or.inl ⟨by rfl, ?hy10⟩) (by assumption) ?ra10
        case hy10 => (intro w hSw; (try dsimp only at hSw); go_simp; all_goals (with_reducible rfl))
        simp only [Act.put, List.setIfInBounds_toArray, List.set_cons_zero, List.set_cons_succ]
        refine wpAnyG_take (i := 3) (v := ?va11) rfl (by kernel_rfl) (fun _ _ _ h => h) (Or.inl ⟨by rfl, ?hy11⟩) (by assumption) ?ra11
        case hy11 => (intro w hSw; (try dsimp only at hSw); go_simp; all_goals (with_reducible rfl))
        simp only [Act.put, List.setIfInBounds_toArray, List.set_cons_zero, List.set_cons_succ]
        refine wpAnyG_take (i := 4) (v := ?va12) rfl (by kernel_rfl) (fun _ _ _ h => h) (Or.inl ⟨by rfl, ?hy12⟩) (by assumption) ?ra12
        case hy12 => (intro w hSw; (try dsimp only at hSw); go_simp; all_goals (with_reducible rfl))
        simp only [Act.put, List.setIfInBounds_toArray, List.set_cons_zero, List.set_cons_succ]
        refine wpAnyG_take (i := 7) (v := ?va13) rfl (by kernel_rfl) (fun _ _ _ h => h) (Or.inl ⟨by rfl, ?hy13⟩) (by assumption) ?ra13
        case hy13 => (intro w hSw; (try dsimp only at hSw); go_simp; all_goals (with_reducible rfl))
        simp only [Act.put, List.setIfInBounds_toArray, List.set_cons_zero, List.set_cons_succ]
        refine wpAnyG_take (i := 8) (v := ?va14) rfl (by kernel_rfl) (fun _ _ _ h => h) (Or.inl ⟨by rfl, ?hy14⟩) (by assumption) ?ra14
        case hy14 => (intro w hSw; (try dsimp only at hSw); go_simp; all_goals (with_reducible rfl))
        simp only [Act.put, List.setIfInBounds_toArray, List.set_cons_zero, List.set_cons_succ]
        refine wpAnyG_ready (rs := [5]) (by kernel_rfl) (by simp) ?_
        refine AllReadyG.cons rfl (fun K hK => ?_) AllReadyG.nil
        go_simp
        go_at_call 63
        refine (mid_whole xa N0.out).mono ?_
        rintro e v1 hh
        obtain ⟨rfl, hm⟩ := hh.some_ E1.out
        obtain ⟨t0, t1, t2, t3, t4⟩ := hm.cells
        have N1 := Lib.hid hm
        clear hh hm
        refine hK.out _ _ ⟨t1, t3⟩ (fun hHeld => ?_)
        clear hK K
        try simp only [Act.put, List.setIfInBounds_toArray, List.set_cons_zero, List.set_cons_succ]
        refine wpAnyG_ready (rs := [6]) (by kernel_rfl) (by simp) ?_
        refine AllReadyG.cons rfl (fun K hK => ?_) AllReadyG.nil
        go_simp
        go_at_call 62
        refine (mid_kind xa N1.out).mono ?_
        rintro e v2 ⟨rfl, rfl⟩
        refine hK.out _ _ ⟨t1, t3⟩ (fun hHeld => ?_)
        clear hK K
        try simp only [Act.put, List.setIfInBounds_toArray, List.set_cons_zero, List.set_cons_succ]
        refine wpAnyG_ready (rs := [9]) (by kernel_rfl) (by simp) ?_
        refine AllReadyG.cons rfl (fun K hK => ?_) AllReadyG.nil
        go_simp
        go_at_call 61
        refine (wis_any _ (kindN h.m.types xa) xn).mono ?_
        rintro e v3 ⟨rfl, rfl⟩
        rw [EI.out]
        refine hK.out _ _ ⟨t1, t3⟩ (fun hHeld => ?_)
        clear hK K
        try simp only [Act.put, List.setIfInBounds_toArray, List.set_cons_zero, List.set_cons_succ]
        refine wpAnyG_last rfl (by kernel_rfl) (by kernel_rfl) (fun K hK => ?_)
        go_simp
        go_at_call 52
        refine (mid_need false N1.out).mono ?_
        rintro e v4 hh
        obtain ⟨rfl, hc⟩ := hh.none_ rfl
        have CB := Lib.hid hc
        clear hh hc
        exact ⟨rfl, OutO.bad CB.out (by simp only [op1, Option.bind_some, Option.bind_none, Option.map_some, Option.map_none, Bool.true_and, Bool.false_and, Bool.and_true, Bool.and_false, Bool.false_or, Bool.true_or, Bool.or_false, Bool.or_true, if_false, if_true, E0.out, E1.out, EI.out, needN_false])⟩
      · have EI := Lib.hid hi
        clear hi
        refine wp_region_G (S := (fun w' => w'.cell? ⟨w.heap.size, 1, none⟩ = some (.int .i64 xa) ∧ w'.cell? ⟨w.heap.size, 3, none⟩ = some (.int .u64 (xn : Int)))) 10 (by kernel_rfl) ⟨z1, z3⟩ (fun hHeld => ?_)
        refine wpAnyG_take (i := 0) (v := ?va15) rfl (by kernel_rfl) (fun _ _ _ h => h) (Or.inl ⟨by rfl, ?hy15⟩) (by assumption) ?ra15
        case hy15 => (intro w hSw; (try dsimp only at hSw); go_simp; all_goals (with_reducible rfl))
        simp only [Act.put, List.setIfInBounds_toArray, List.set_cons_zero, List.set_cons_succ]
        refine wpAnyG_take (i := 1) (v := ?va16) rfl (by kernel_rfl) (fun _ _ _ h => h) (Or.inl ⟨by rfl, ?hy16⟩) (by assumption) ?ra16
        case hy16 => (intro w hSw; (try dsimp only at hSw); go_simp; all_goals (with_reducible rfl))
        simp only [Act.put, List.setIfInBounds_toArray, List.set_cons_zero, List.set_cons_succ]
        refine wpAnyG_take (i := 2) (v := ?va17) rfl (by kernel_rfl) (fun _ _ _ h => h) (Or.inl ⟨by rfl, ?hy17⟩) (by assumption) ?ra17
        case hy17 => (intro w hSw; (try dsimp only at hSw); go_simp; all_goals (with_reducible rfl))
        simp only [Act.put, List.setIfInBounds_toArray, List.set_cons_zero, List.set_cons_succ]
        refine wpAnyG_take (i := 3) (v := ?va18) rfl (by kernel_rfl) (fun _ _ _ h => h) (Or.inl ⟨by rfl, ?hy18⟩) (by assumption) ?ra18
        case hy18 => (intro w hSw; (try dsimp only at hSw); go_simp; all_goals (with_reducible rfl))
        simp only [Act.put, List.setIfInBounds_toArray, List.set_cons_zero, List.set_cons_succ]
        refine wpAnyG_take (i := 4) (v := ?va19) rfl (by kernel_rfl) (fun _ _ _ h => h) (Or.inl ⟨by rfl, ?hy19⟩) (by assumption) ?ra19
        case hy19 => (intro w hSw; (try dsimp only at hSw); go_simp; all_goals (with_reducible rfl))
        simp only [Act.put, List.setIfInBounds_toArray, List.set_cons_zero, List.set_cons_succ]
        refine wpAnyG_take (i := 7) (v := ?va20) rfl (by kernel_rfl) (fun _ _ _ h => h) (Or.inl ⟨by rfl, ?hy20⟩) (by assumption) ?ra20
        case hy20 => (intro w hSw; (try dsimp only at hSw); go_simp; all_goals (with_reducible rfl))
        simp only [Act.put, List.setIfInBounds_toArray, List.set_cons_zero, List.set_cons_succ]
        refine wpAnyG_take (i := 8) (v := ?va21) rfl (by kernel_rfl) (fun _ _ _ h => h) (Or.inl ⟨by rfl, ?hy21⟩) (by assumption) ?ra21
        case hy21 => (intro w hSw; (try dsimp only at hSw); go_simp; all_goals (with_reducible rfl))
        simp only [Act.put, List.setIfInBounds_toArray, List.set_cons_zero, List.set_cons_succ]
        refine wpAnyG_ready (rs := [5]) (by kernel_rfl) (by simp) ?_
        refine AllReadyG.cons rfl (fun K hK => ?_) AllReadyG.nil
        go_simp
        go_at_call 63
        refine (mid_whole xa N0.out).mono ?_
        rintro e v1 hh
        obtain ⟨rfl, hm⟩ := hh.some_ E1.out
        obtain ⟨t0, t1, t2, t3, t4⟩ := hm.cells
        have N1 := Lib.hid hm
        clear hh hm
        refine hK.out _ _ ⟨t1, t3⟩ (fun hHeld => ?_)
        clear hK K
        try simp only [Act.put, List.setIfInBounds_toArray, List.set_cons_zero, List.set_cons_succ]
        refine wpAnyG_ready (rs := [6]) (by kernel_rfl) (by simp) ?_
        refine AllReadyG.cons rfl (fun K hK => ?_) AllReadyG.nil
        go_simp
        go_at_call 62
        refine (mid_kind xa N1.out).mono ?_
        rintro e v2 ⟨rfl, rfl⟩
        refine hK.out _ _ ⟨t1, t3⟩ (fun hHeld => ?_)
        clear hK K
        try simp only [Act.put, List.setIfInBounds_toArray, List.set_cons_zero, List.set_cons_succ]
        refine wpAnyG_ready (rs := [9]) (by kernel_rfl) (by simp) ?_
        refine AllReadyG.cons rfl (fun K hK => ?_) AllReadyG.nil
        go_simp
        go_at_call 61
        refine (wis_any _ (kindN h.m.types xa) xn).mono ?_
        rintro e v3 ⟨rfl, rfl⟩
        rw [EI.out]
        refine hK.out _ _ ⟨t1, t3⟩ (fun hHeld => ?_)
        clear hK K
        try simp only [Act.put, List.setIfInBounds_toArray, List.set_cons_zero, List.set_cons_succ]
        refine wpAnyG_last rfl (by kernel_rfl) (by kernel_rfl) (fun K hK => ?_)
        go_simp
        go_at_call 52
        refine (mid_need true N1.out).mono ?_
        rintro e v4 hh
        obtain ⟨rfl, hm⟩ := hh.some_ rfl
        have EN := Lib.hid (needN_ok (s := s1) (show true = true from rfl))
        have N2 := Lib.hid hm
        clear hh hm
        refine hK.out _ _ ?_
        clear hK K
        try simp only [Act.put, List.setIfInBounds_toArray, List.set_cons_zero, List.set_cons_succ]
        clear z0 z1 z2 z3 z4 t0 t1 t2 t3 t4
        obtain ⟨z0, z1, z2, z3, z4⟩ := N2.out.cells
        go_wp2_with fail
        refine (mid_push (k := k) xa (whole_valid E1.out) N2.out).mono fun e v2 hh => ?_
        rcases hq : pushN xa s1 with _ | s2
        · obtain ⟨rfl, hc⟩ := hh.none_ hq
          have EB := Lib.hid hq
          have CB := Lib.hid hc
          clear hh hq hc
          go_wp2_with fail
          exact ⟨rfl, OutO.bad CB.out (by simp only [op1, Option.bind_some, Option.bind_none, Option.map_some, Option.map_none, Bool.true_and, Bool.false_and, Bool.and_true, Bool.and_false, Bool.false_or, Bool.true_or, Bool.or_false, Bool.or_true, if_false, if_true, E0.out, E1.out, EI.out, EN.out, EB.out])⟩
        · obtain ⟨rfl, hm⟩ := hh.some_ hq
          clear z0 z1 z2 z3 z4
          obtain ⟨z0, z1, z2, z3, z4⟩ := hm.cells
          have E2 := Lib.hid hq
          have M2 := Lib.hid hm
          clear hh hq hm
          go_wp2_with fail
          go_ret
          exact OutO.good (M2.out.less (by omega)) (by simp only [op1, Option.bind_some, Option.bind_none, Option.map_some, Option.map_none, Bool.true_and, Bool.false_and, Bool.and_true, Bool.and_false, Bool.false_or, Bool.true_or, Bool.or_false, Bool.or_true, if_false, if_true, E0.out, E1.out, EI.out, EN.out, E2.out])

end Go.Proofs.Ytdegfnejhamejaa
namespace Go.Proofs.Ytdegfnejhamejaa
open Go.RowKit
set_option linter.unusedVariables false
set_option linter.unusedSimpArgs false

theorem OutO.good_ {h : Hd} {k : Nat} {w w2 : World} {o : Option (Bool × VSt)} {b : Bool} {s : VSt} (hc : Chg (MC h) w w2) (hk : CkI h k w2 s) (hv : StV h.m s.stack) (ho : o = some (b, s)) : OutO h k w o (.returned (.bool b)) w2 := by subst ho; exact ⟨hc, rfl, hk, hv⟩
set_option maxRecDepth 100000 in
set_option maxHeartbeats 4000000 in
theorem calls_25 (h : Hd) (k : Nat) (w : World) (s : VSt) (xa xb : Int) (xn : Nat) (cs : List CaseD) (A : Option Addr) (c : Nat) (H : CkI h (k + 1100) w s) (HV : StV h.m s.stack) :
    Calls Try.prog 55 #[.pointer (some ⟨h.p, 0, none⟩), instrV ⟨25, xa, xb, xn, cs⟩ A c] w (OutO h k w ((op25 h.m ⟨25, xa, xb, xn, cs⟩ s).map (true, ·))) := by
  have hm := Mid.start ⟨25, xa, xb, xn, cs⟩ A c (H.less (show k + 1026 ≤ k + 1100 by omega)) HV
  obtain ⟨z0, z1, z2, z3, z4⟩ := hm.cells
  have M := Lib.hid hm
  clear hm H HV
  unfold instrV
  go_enter Try.func55, Try.ntmps55
  go_wp2_with fail
  refine (mid_fields (k := k + 1026) true false false M.out).mono fun e v0 hh => ?_
  rcases hq : fieldsN ⟨25, xa, xb, xn, cs⟩ true false false s with _ | s0
  · obtain ⟨rfl, hc⟩ := hh.none_ hq
    have EB := Lib.hid hq
    have CB := Lib.hid hc
    clear hh hq hc
    go_wp2_with fail
    exact ⟨rfl, OutO.bad CB.out (by simp only [op25, inB, Option.bind_some, Option.bind_none, Option.map_some, Option.map_none, Bool.true_and, Bool.false_and, Bool.and_true, Bool.and_false, Bool.false_or, Bool.true_or, Bool.or_false, Bool.or_true, if_false, if_true, EB.out])⟩
  · obtain ⟨rfl, hm⟩ := hh.some_ hq
    clear z0 z1 z2 z3 z4
    obtain ⟨z0, z1, z2, z3, z4⟩ := hm.cells
    have E0 := Lib.hid hq
    have M0 := Lib.hid hm
    clear hh hq hm
    have d1 := M0.out.fix.d1
    cases hb : decide (0 ≤ xa)
    · have E2 := Lib.hid hb
      go_wp2_with fail
      refine wp_region_still_tail 15 (by kernel_rfl) (by kernel_rfl) ?_
      simp only [List.take_succ_cons, List.take_zero, List.drop_succ_cons, List.drop_zero]
      repeat (with_reducible refine wpStill_step (fun K hK => ?_); go_simp; with_reducible refine hK _ ?_; clear hK K)
      try with_reducible refine wpStill_nil ?_
      have hdr := (Chg.refl (fun _ _ => False) (v0)).drew
      have hm := M0.out.same hdr
      clear z0 z1 z2 z3 z4
      obtain ⟨z0, z1, z2, z3, z4⟩ := hm.cells
      have M0d := Lib.hid hm
      have HDR := Lib.hid hdr
      clear hm hdr d1
      change wpList _ _ _ _ _ (World.drew (v0))
      generalize World.drew (v0) = v0d at z0 z1 z2 z3 z4 M0d HDR ⊢
      go_wp2_with fail
      refine (mid_need false M0d.out).mono fun e v3 hh => ?_
      obtain ⟨rfl, hc⟩ := hh.none_ rfl
      have CB := Lib.hid hc
      clear hh hc
      go_wp2_with fail
      exact ⟨rfl, OutO.bad CB.out (by simp only [op25, inB, Option.bind_some, Option.bind_none, Option.map_some, Option.map_none, Bool.true_and, Bool.false_and, Bool.and_true, Bool.and_false, Bool.false_or, Bool.true_or, Bool.or_false, Bool.or_true, if_false, if_true, E0.out, E2.out, needN_false])⟩
    · have E2 := Lib.hid hb
      go_wp2_with fail
      refine wp_region_still_tail 15 (by kernel_rfl) (by kernel_rfl) ?_
      simp only [List.take_succ_cons, List.take_zero, List.drop_succ_cons, List.drop_zero]
      repeat (with_reducible refine wpStill_step (fun K hK => ?_); go_simp; with_reducible refine hK _ ?_; clear hK K)
      try with_reducible refine wpStill_nil ?_
      have hdr := (Chg.refl (fun _ _ => False) (v0)).drew
      have hm := M0.out.same hdr
      clear z0 z1 z2 z3 z4
      obtain ⟨z0, z1, z2, z3, z4⟩ := hm.cells
      have M0d := Lib.hid hm
      have HDR := Lib.hid hdr
      clear hm hdr d1
      change wpList _ _ _ _ _ (World.drew (v0))
      generalize World.drew (v0) = v0d at z0 z1 z2 z3 z4 M0d HDR ⊢
      go_wp2_with fail
      refine (mid_need (decide (xa < (h.m.funcs.length : Int))) M0d.out).mono fun e v4 hh => ?_
      rcases hq : needN (decide (xa < (h.m.funcs.length : Int))) s0 with _ | s4
      · obtain ⟨rfl, hc⟩ := hh.none_ hq
        have EB := Lib.hid hq
        have CB := Lib.hid hc
        clear hh hq hc
        go_wp2_with fail
        exact ⟨rfl, OutO.bad CB.out (by simp only [op25, inB, Option.bind_some, Option.bind_none, Option.map_some, Option.map_none, Bool.true_and, Bool.false_and, Bool.and_true, Bool.and_false, Bool.false_or, Bool.true_or, Bool.or_false, Bool.or_true, if_false, if_true, E0.out, E2.out, EB.out])⟩
      · obtain ⟨rfl, hm⟩ := hh.some_ hq
        clear z0 z1 z2 z3 z4
        obtain ⟨z0, z1, z2, z3, z4⟩ := hm.cells
        have E4 := Lib.hid hq
        have M4 := Lib.hid hm
        clear hh hq hm
        have hx0 := of_decide_eq_true E2.out
        have hx1 := of_decide_eq_true (needN_some E4.out).1
        obtain ⟨n, rfl⟩ : ∃ n : Nat, xa = (n : Int) := ⟨xa.toNat, by omega⟩
        have hF := M4.out.fix
        obtain ⟨fb, fo, G, F1, f1, F2, f2, F3, f3, hA2, hG, hpI, hrI, hlo, hca, hco, g0, g1, g2, g3, g4⟩ := hF.mod.funcs.at_ (k := n) (by omega)
        have d1 := hF.d1
        rw [hA2] at d1
        have hff := formed_func hF.mod.formed (List.mem_of_getElem? hG)
        obtain ⟨pn, hpn⟩ : ∃ pn : Nat, G.params = (pn : Int) := ⟨G.params.toNat, by have := hff.2.2.2.2.1; omega⟩
        rw [hpn] at g0
        have hlc := hlo.len
        have hpl : pn ≤ G.locals.length := by have := hff.2.2.2.2.2.1; omega
        have p1 : (n : Int) < (h.m.funcs.length : Int) := by omega
        have p2 : n < h.m.funcs.length := by omega
        have hGN : funN h.m (n : Int) = some G := by unfold funN; rw [Int.toNat_natCast]; exact hG
        have hPN : parN G = G.locals.take pn := by unfold parN; rw [hpn, Int.toNat_natCast]
        have hlen : (G.locals.take pn).length = pn := by rw [List.length_take]; omega
        have HG := Lib.hid (And.intro hGN (And.intro hPN (And.intro hlo (And.intro hff (And.intro hpl hlen)))))
        clear hGN hPN hlo hca hff hpI hrI hco hA2 hG hF hx0 hx1 hpn
        go_wp2_with fail
        refine wp_region_G (S := (fun w' => Chg (fun _ _ => False) v4 w')) 10 (by kernel_rfl) (Chg.refl _ _).drew (fun hHeld => ?_)
        refine wpAnyG_take (i := 0) (v := ?va130) rfl (by kernel_rfl) (fun _ _ _ h => h) (Or.inl ⟨by rfl, ?hy130⟩) (by assumption) ?ra130
        case hy130 => (intro w hSw; (try dsimp only at hSw); have d1 := hSw.cell d1 (fun _ => id); have z1 := hSw.cell z1 (fun _ => id); have g0 := hSw.cell g0 (fun _ => id); have g1 := hSw.cell g1 (fun _ => id); have g2 := hSw.cell g2 (fun _ => id); have g3 := hSw.cell g3 (fun _ => id); have g4 := hSw.cell g4 (fun _ => id); clear hSw; go_simp; all_goals (with_reducible rfl))
        simp only [Act.put, List.setIfInBounds_toArray, List.set_cons_zero, List.set_cons_succ]
        refine wpAnyG_take (i := 1) (v := ?va131) rfl (by kernel_rfl) (fun _ _ _ h => h) (Or.inl ⟨by rfl, ?hy131⟩) (by assumption) ?ra131
        case hy131 => (intro w hSw; (try dsimp only at hSw); have d1 := hSw.cell d1 (fun _ => id); have z1 := hSw.cell z1 (fun _ => id); have g0 := hSw.cell g0 (fun _ => id); have g1 := hSw.cell g1 (fun _ => id); have g2 := hSw.cell g2 (fun _ => id); have g3 := hSw.cell g3 (fun _ => id); have g4 := hSw.cell g4 (fun _ => id); clear hSw; go_simp; all_goals (with_reducible rfl))
        simp only [Act.put, List.setIfInBounds_toArray, List.set_cons_zero, List.set_cons_succ]
        refine wpAnyG_take (i := 2) (v := ?va132) rfl (by kernel_rfl) (fun _ _ _ h => h) (Or.inl ⟨by rfl, ?hy132⟩) (by assumption) ?ra132
        case hy132 => (intro w hSw; (try dsimp only at hSw); have d1 := hSw.cell d1 (fun _ => id); have z1 := hSw.cell z1 (fun _ => id); have g0 := hSw.cell g0 (fun _ => id); have g1 := hSw.cell g1 (fun _ => id); have g2 := hSw.cell g2 (fun _ => id); have g3 := hSw.cell g3 (fun _ => id); have g4 := hSw.cell g4 (fun _ => id); clear hSw; go_simp; all_goals (with_reducible rfl))
        simp only [Act.put, List.setIfInBounds_toArray, List.set_cons_zero, List.set_cons_succ]
        refine wpAnyG_take (i := 3) (v := ?va133) rfl (by kernel_rfl) (fun _ _ _ h => h) (Or.inl ⟨by rfl, ?hy133⟩) (by assumption) ?ra133
        case hy133 => (intro w hSw; (try dsimp only at hSw); have d1 := hSw.cell d1 (fun _ => id); have z1 := hSw.cell z1 (fun _ => id); have g0 := hSw.cell g0 (fun _ => id); have g1 := hSw.cell g1 (fun _ => id); have g2 := hSw.cell g2 (fun _ => id); have g3 := hSw.cell g3 (fun _ => id); have g4 := hSw.cell g4 (fun _ => id); clear hSw; go_simp; all_goals (with_reducible rfl))
        simp only [Act.put, List.setIfInBounds_toArray, List.set_cons_zero, List.set_cons_succ]
        refine wpAnyG_take (i := 4) (v := ?va134) rfl (by kernel_rfl) (fun _ _ _ h => h) (Or.inl ⟨by rfl, ?hy134⟩) (by assumption) ?ra134
        case hy134 => (intro w hSw; (try dsimp only at hSw); have d1 := hSw.cell d1 (fun _ => id); have z1 := hSw.cell z1 (fun _ => id); have g0 := hSw.cell g0 (fun _ => id); have g1 := hSw.cell g1 (fun _ => id); have g2 := hSw.cell g2 (fun _ => id); have g3 := hSw.cell g3 (fun _ => id); have g4 := hSw.cell g4 (fun _ => id); clear hSw; go_simp; all_goals (with_reducible rfl))
        simp only [Act.put, List.setIfInBounds_toArray, List.set_cons_zero, List.set_cons_succ]
        refine wpAnyG_take (i := 5) (v := ?va135) rfl (by kernel_rfl) (fun _ _ _ h => h) (Or.inl ⟨by rfl, ?hy135⟩) (by assumption) ?ra135
        case hy135 => (intro w hSw; (try dsimp only at hSw); have d1 := hSw.cell d1 (fun _ => id); have z1 := hSw.cell z1 (fun _ => id); have g0 := hSw.cell g0 (fun _ => id); have g1 := hSw.cell g1 (fun _ => id); have g2 := hSw.cell g2 (fun _ => id); have g3 := hSw.cell g3 (fun _ => id); have g4 := hSw.cell g4 (fun _ => id); clear hSw; go_simp; all_goals (with_reducible rfl))
        simp only [Act.put, List.setIfInBounds_toArray, List.set_cons_zero, List.set_cons_succ]
        refine wpAnyG_take (i := 6) (v := ?va136) rfl (by kernel_rfl) (fun _ _ _ h => h) (Or.inl ⟨by rfl, ?hy136⟩) (by assumption) ?ra136
        case hy136 => (intro w hSw; (try dsimp only at hSw); have d1 := hSw.cell d1 (fun _ => id); have z1 := hSw.cell z1 (fun _ => id); have g0 := hSw.cell g0 (fun _ => id); have g1 := hSw.cell g1 (fun _ => id); have g2 := hSw.cell g2 (fun _ => id); have g3 := hSw.cell g3 (fun _ => id); have g4 := hSw.cell g4 (fun _ => id); clear hSw; go_simp; all_goals (with_reducible rfl))
        simp only [Act.put, List.setIfInBounds_toArray, List.set_cons_zero, List.set_cons_succ]
        refine wpAnyG_take (i := 7) (v := ?va137) rfl (by kernel_rfl) (fun _ _ _ h => h) (Or.inl ⟨by rfl, ?hy137⟩) (by assumption) ?ra137
        case hy137 => (intro w hSw; (try dsimp only at hSw); have d1 := hSw.cell d1 (fun _ => id); have z1 := hSw.cell z1 (fun _ => id); have g0 := hSw.cell g0 (fun _ => id); have g1 := hSw.cell g1 (fun _ => id); have g2 := hSw.cell g2 (fun _ => id); have g3 := hSw.cell g3 (fun _ => id); have g4 := hSw.cell g4 (fun _ => id); clear hSw; go_simp; all_goals (with_reducible rfl))
        simp only [Act.put, List.setIfInBounds_toArray, List.set_cons_zero, List.set_cons_succ]
        refine wpAnyG_take (i := 8) (v := ?va138) rfl (by kernel_rfl) (fun _ _ _ h => h) (Or.inl ⟨by rfl, ?hy138⟩) (by assumption) ?ra138
        case hy138 => (intro w hSw; (try dsimp only at hSw); have d1 := hSw.cell d1 (fun _ => id); have z1 := hSw.cell z1 (fun _ => id); have g0 := hSw.cell g0 (fun _ => id); have g1 := hSw.cell g1 (fun _ => id); have g2 := hSw.cell g2 (fun _ => id); have g3 := hSw.cell g3 (fun _ => id); have g4 := hSw.cell g4 (fun _ => id); clear hSw; go_simp; all_goals (with_reducible rfl))
        simp only [Act.put, List.setIfInBounds_toArray, List.set_cons_zero, List.set_cons_succ]
        refine wpAnyG_ready (rs := [9]) (by kernel_rfl) (by simp) ?_
        refine AllReadyG.cons rfl (fun K hK => ?_) AllReadyG.nil
        go_simp
        refine hK.out _ _ (hHeld.alloc _) (fun hHeld => ?_)
        clear hK K
        try simp only [Act.put, List.setIfInBounds_toArray, List.set_cons_zero, List.set_cons_succ]
        refine wpAnyG_last rfl (by kernel_rfl) (by kernel_rfl) (fun K hK => ?_)
        go_simp
        refine hK.out _ _ ?_
        clear hK K
        try simp only [Act.put, List.setIfInBounds_toArray, List.set_cons_zero, List.set_cons_succ]
        clear hHeld
        have hck := (M4.out.ck.zone (.cells #[.int .i64 (pn : Int), .slice F1 G.locals.length f1, .slice F2 G.caps.length f2, .int .i64 G.res, .slice F3 G.code.length f3] 34)).same (Chg.refl (fun _ _ => False) _).drew
        have hch := (chg_alloc v4 (.cells #[.int .i64 (pn : Int), .slice F1 G.locals.length f1, .slice F2 G.caps.length f2, .int .i64 G.res, .slice F3 G.code.length f3] 34)).drew
        have hb7 := (Blk.new v4 34 #[.int .i64 (pn : Int), .slice F1 G.locals.length f1, .slice F2 G.caps.length f2, .int .i64 G.res, .slice F3 G.code.length f3]).drew
        have hm := M4.out.same hch
        clear z0 z1 z2 z3 z4
        obtain ⟨z0, z1, z2, z3, z4⟩ := hm.cells
        clear d1 g0 g1 g2 g3 g4
        have HCH := Lib.hid hch
        have MA := Lib.hid hm
        have MK := Lib.hid hck
        clear hm hch hck
        generalize (v4.alloc (.cells #[.int .i64 (pn : Int), .slice F1 G.locals.length f1, .slice F2 G.caps.length f2, .int .i64 G.res, .slice F3 G.code.length f3] 34)).drew = w5 at *
        generalize v4.heap.size = g7 at *
        have a0 : w5.cell? ⟨g7, 0, none⟩ = some (.int .i64 (pn : Int)) := by simpa using hb7.cell 0
        have a1 : w5.cell? ⟨g7, 1, none⟩ = some (.slice F1 G.locals.length f1) := by simpa using hb7.cell 1
        have a2 : w5.cell? ⟨g7, 2, none⟩ = some (.slice F2 G.caps.length f2) := by simpa using hb7.cell 2
        have hpc : pn ≤ f1 := Nat.le_trans hpl hlc.2
        have hpc2 : (pn : Int) ≤ (f1 : Int) := by omega
        have HB7 := Lib.hid hb7
        have HGN := Lib.hid HG.out.1
        have HPN := Lib.hid HG.out.2.1
        clear hb7 hpl hlc p1 p2
        cases hq : ((G.caps.length : Int) == 0)
        · have Q1 := Lib.hid hq
          go_wp2_with fail
          refine (MA.out.pure (b := false)).mono fun e vv hp => ?_
          obtain ⟨rfl, rfl⟩ := hp.bad rfl
          clear hp
          go_wp2_with fail
          exact ⟨rfl, OutO.bad MA.out.chg (by simp only [op25, inB, Option.bind_some, Option.bind_none, Option.map_some, Option.map_none, Bool.true_and, Bool.false_and, Bool.and_true, Bool.and_false, Bool.false_or, Bool.true_or, Bool.or_false, Bool.or_true, if_false, if_true, E0.out, E2.out, E4.out, HGN.out, HPN.out, Q1.out, needN_false])⟩
        · have Q1 := Lib.hid hq
          have cw := wants_any ((h.zone w.heap.size).zone g7) (k + 2) w5 s4 F1 f1 (G.locals.take pn) (by rw [HG.out.2.2.2.2.2]; exact IntsR.keep (SlR.take_ HG.out.2.2.1 HG.out.2.2.2.2.1) HCH.out (fun _ _ _ h => h)) (by rw [HG.out.2.2.2.2.2]; have := HG.out.2.2.2.1.2.2.1; have := HG.out.2.2.2.2.1; omega) MK.out
          rw [HG.out.2.2.2.2.2] at cw
          have EN := Lib.hid (needN_ok (s := s4) (show true = true from rfl))
          go_wp2_with fail
          refine (MA.out.pure (b := true)).mono fun e vv hp => ?_
          obtain ⟨rfl, rfl⟩ := hp.ok rfl
          clear hp
          go_wp2_with fail
          refine cw.mono fun e w6 hh => ?_
          rcases hq2 : wantsN (G.locals.take pn) s4 with _ | s6
          · obtain ⟨rfl, hc⟩ := hh.none_ hq2
            have EB := Lib.hid hq2
            have CB := Lib.hid (MA.out.chg.trans hc.unzone.unzone)
            clear hh hq2 hc cw
            go_wp2_with fail
            exact ⟨rfl, OutO.bad CB.out (by simp only [op25, inB, Option.bind_some, Option.bind_none, Option.map_some, Option.map_none, Bool.true_and, Bool.false_and, Bool.and_true, Bool.and_false, Bool.false_or, Bool.true_or, Bool.or_false, Bool.or_true, if_false, if_true, E0.out, E2.out, E4.out, HGN.out, HPN.out, Q1.out, EN.out, EB.out])⟩
          · obtain ⟨rfl, hk, hc⟩ := hh.some_ hq2
            have hb8 := hc.zblk HB7.out
            have a3 : w6.cell? ⟨g7, 3, none⟩ = some (.int .i64 G.res) := by simpa using hb8.cell 3
            have E6 := Lib.hid hq2
            have V6 := Lib.hid (MA.out.val.wantsR hq2)
            have C6 := Lib.hid (MA.out.chg.trans hc.unzone.unzone)
            have cr := res_any ((h.zone w.heap.size).zone g7) k w6 s6 G.res ⟨HG.out.2.2.2.1.2.2.2.2.2.2.1, by have := HG.out.2.2.2.1.2.2.2.2.2.2.2; have := (formed_len MA.out.fix.mod.formed).1; omega⟩ hk
            clear hh hq2 hc cw hb8 hk z0 z1 z2 z3 z4 a0 a1 a2
            go_wp2_with fail
            refine cr.mono fun e w7 hh => ?_
            rcases hq3 : resS G.res s6 with _ | s7
            · obtain ⟨rfl, hc⟩ := hh.none_ hq3
              have EB := Lib.hid hq3
              have CB := Lib.hid (C6.out.trans hc.unzone.unzone)
              clear hh hq3 hc cr
              go_wp2_with fail
              exact ⟨rfl, OutO.bad CB.out (by simp only [op25, inB, Option.bind_some, Option.bind_none, Option.map_some, Option.map_none, Bool.true_and, Bool.false_and, Bool.and_true, Bool.and_false, Bool.false_or, Bool.true_or, Bool.or_false, Bool.or_true, if_false, if_true, E0.out, E2.out, E4.out, HGN.out, HPN.out, Q1.out, EN.out, E6.out, EB.out])⟩
            · obtain ⟨rfl, hk, hc⟩ := hh.some_ hq3
              have E7 := Lib.hid hq3
              have K7 := Lib.hid hk.unzone.unzone
              have C7 := Lib.hid (C6.out.trans hc.unzone.unzone)
              have V7 := Lib.hid (V6.out.res ⟨HG.out.2.2.2.1.2.2.2.2.2.2.1, HG.out.2.2.2.1.2.2.2.2.2.2.2⟩ hq3)
              clear hh hq3 hc cr hk
              go_wp2_with fail
              go_ret
              exact OutO.good_ C7.out K7.out V7.out (by simp only [op25, inB, Option.bind_some, Option.bind_none, Option.map_some, Option.map_none, Bool.true_and, Bool.false_and, Bool.and_true, Bool.and_false, Bool.false_or, Bool.true_or, Bool.or_false, Bool.or_true, if_false, if_true, E0.out, E2.out, E4.out, HGN.out, HPN.out, Q1.out, EN.out, E6.out, E7.out])

end Go.Proofs.Ytdegfnejhamejaa
namespace Go.Proofs.Ytdegfnejhamejaa
open Go.RowKit
set_option linter.unusedVariables false
set_option linter.unusedSimpArgs false

set_option maxRecDepth 100000 in
set_option maxHeartbeats 4000000 in
theorem numbers_none (h : Hd) (k : Nat) (w : World) (s : VSt) (op xa xb : Int) (xn : Nat) (cs : List CaseD) (A : Option Addr) (c : Nat) (h1 : op ≠ 1) (h2 : op ≠ 2) (h7 : op ≠ 7) (h8 : op ≠ 8) (h9 : op ≠ 9) (h10 : op ≠ 10) (h11 : op ≠ 11) (h12 : op ≠ 12) (H : CkI h (k + 1100) w s) (HV : StV h.m s.stack) :
    Calls Try.prog 53 #[.pointer (some ⟨h.p, 0, none⟩), instrV ⟨op, xa, xb, xn, cs⟩ A c] w (OutO h k w (numsN h.m ⟨op, xa, xb, xn, cs⟩ s)) := by
  have ho : numsN h.m ⟨op, xa, xb, xn, cs⟩ s = some (false, s) := by simp only [numsN, h1, h2, h7, h8, h9, h10, h11, h12, if_false]
  rw [ho]
  have hm := Mid.start ⟨op, xa, xb, xn, cs⟩ A c (H.less (show k ≤ k + 1100 by omega)) HV
  obtain ⟨z0, z1, z2, z3, z4⟩ := hm.cells
  have M := Lib.hid hm
  have g1 : (op == 1) = false := by simpa using h1
  have g2 : (op == 2) = false := by simpa using h2
  have g7 : (op == 7) = false := by simpa using h7
  have g8 : (op == 8) = false := by simpa using h8
  have g9 : (op == 9) = false := by simpa using h9
  have g10 : (op == 10) = false := by simpa using h10
  have g11 : (op == 11) = false := by simpa using h11
  have g12 : (op == 12) = false := by simpa using h12
  clear h1 h2 h7 h8 h9 h10 h11 h12 hm H HV ho
  unfold instrV
  go_enter Try.func53, Try.ntmps53
  go_wp2_with fail
  go_ret
  exact OutO.good M.out rfl
theorem numbers_any (h : Hd) (k : Nat) (w : World) (s : VSt) (x : InstrD) (A : Option Addr) (c : Nat) (H : CkI h (k + 1100) w s) (HV : StV h.m s.stack) :
    Calls Try.prog 53 #[.pointer (some ⟨h.p, 0, none⟩), instrV x A c] w (OutO h k w (numsN h.m x s)) := by
  obtain ⟨op, xa, xb, xn, cs⟩ := x
  by_cases h1 : op = 1
  · subst h1
    exact (nums_1 h k w s xa xb xn cs A c H HV).mono fun e w' hh => hh.as (by simp [numsN])
  by_cases h2 : op = 2
  · subst h2
    exact (nums_2 h k w s xa xb xn cs A c H HV).mono fun e w' hh => hh.as (by simp [numsN])
  by_cases h7 : op = 7
  · subst h7
    exact (nums_7 h k w s xa xb xn cs A c H HV).mono fun e w' hh => hh.as (by simp [numsN])
  by_cases h8 : op = 8
  · subst h8
    exact (nums_8 h k w s xa xb xn cs A c H HV).mono fun e w' hh => hh.as (by simp [numsN])
  by_cases h9 : op = 9
  · subst h9
    exact (nums_9 h k w s xa xb xn cs A c H HV).mono fun e w' hh => hh.as (by simp [numsN])
  by_cases h10 : op = 10
  · subst h10
    exact (nums_10 h k w s xa xb xn cs A c H HV).mono fun e w' hh => hh.as (by simp [numsN])
  by_cases h11 : op = 11
  · subst h11
    exact (nums_11 h k w s xa xb xn cs A c H HV).mono fun e w' hh => hh.as (by simp [numsN])
  by_cases h12 : op = 12
  · subst h12
    exact (nums_12 h k w s xa xb xn cs A c H HV).mono fun e w' hh => hh.as (by simp [numsN])
  exact numbers_none h k w s op xa xb xn cs A c h1 h2 h7 h8 h9 h10 h11 h12 H HV
set_option maxRecDepth 100000 in
set_option maxHeartbeats 4000000 in
theorem values_none (h : Hd) (k : Nat) (w : World) (s : VSt) (op xa xb : Int) (xn : Nat) (cs : List CaseD) (A : Option Addr) (c : Nat) (h3 : op ≠ 3) (h4 : op ≠ 4) (h5 : op ≠ 5) (h6 : op ≠ 6) (h13 : op ≠ 13) (h14 : op ≠ 14) (h15 : op ≠ 15) (h16 : op ≠ 16) (h17 : op ≠ 17) (h18 : op ≠ 18) (h19 : op ≠ 19) (h21 : op ≠ 21) (h22 : op ≠ 22) (h23 : op ≠ 23) (h24 : op ≠ 24) (H : CkI h (k + 1100) w s) (HV : StV h.m s.stack) :
    Calls Try.prog 54 #[.pointer (some ⟨h.p, 0, none⟩), instrV ⟨op, xa, xb, xn, cs⟩ A c] w (OutO h k w (valsN h.m h.f ⟨op, xa, xb, xn, cs⟩ s)) := by
  have ho : valsN h.m h.f ⟨op, xa, xb, xn, cs⟩ s = some (false, s) := by simp only [valsN, h3, h4, h5, h6, h13, h14, h15, h16, h17, h18, h19, h21, h22, h23, h24, if_false]
  rw [ho]
  have hm := Mid.start ⟨op, xa, xb, xn, cs⟩ A c (H.less (show k ≤ k + 1100 by omega)) HV
  obtain ⟨z0, z1, z2, z3, z4⟩ := hm.cells
  have M := Lib.hid hm
  have g3 : (op == 3) = false := by simpa using h3
  have g4 : (op == 4) = false := by simpa using h4
  have g5 : (op == 5) = false := by simpa using h5
  have g6 : (op == 6) = false := by simpa using h6
  have g13 : (op == 13) = false := by simpa using h13
  have g14 : (op == 14) = false := by simpa using h14
  have g15 : (op == 15) = false := by simpa using h15
  have g16 : (op == 16) = false := by simpa using h16
  have g17 : (op == 17) = false := by simpa using h17
  have g18 : (op == 18) = false := by simpa using h18
  have g19 : (op == 19) = false := by simpa using h19
  have g21 : (op == 21) = false := by simpa using h21
  have g22 : (op == 22) = false := by simpa using h22
  have g23 : (op == 23) = false := by simpa using h23
  have g24 : (op == 24) = false := by simpa using h24
  clear h3 h4 h5 h6 h13 h14 h15 h16 h17 h18 h19 h21 h22 h23 h24 hm H HV ho
  unfold instrV
  go_enter Try.func54, Try.ntmps54
  go_wp2_with fail
  go_ret
  exact OutO.good M.out rfl
theorem values_any (h : Hd) (k : Nat) (w : World) (s : VSt) (x : InstrD) (A : Option Addr) (c : Nat) (H : CkI h (k + 1100) w s) (HV : StV h.m s.stack) :
    Calls Try.prog 54 #[.pointer (some ⟨h.p, 0, none⟩), instrV x A c] w (OutO h k w (valsN h.m h.f x s)) := by
  obtain ⟨op, xa, xb, xn, cs⟩ := x
  by_cases h3 : op = 3
  · subst h3
    exact (vals_3 h k w s xa xb xn cs A c H HV).mono fun e w' hh => hh.as (by simp [valsN])
  by_cases h4 : op = 4
  · subst h4
    exact (vals_4 h k w s xa xb xn cs A c H HV).mono fun e w' hh => hh.as (by simp [valsN])
  by_cases h5 : op = 5
  · subst h5
    exact (vals_5 h k w s xa xb xn cs A c H HV).mono fun e w' hh => hh.as (by simp [valsN])
  by_cases h6 : op = 6
  · subst h6
    exact (vals_6 h k w s xa xb xn cs A c H HV).mono fun e w' hh => hh.as (by simp [valsN])
  by_cases h13 : op = 13
  · subst h13
    exact (vals_13 h k w s xa xb xn cs A c H HV).mono fun e w' hh => hh.as (by simp [valsN])
  by_cases h14 : op = 14
  · subst h14
    exact (vals_14 h k w s xa xb xn cs A c H HV).mono fun e w' hh => hh.as (by simp [valsN])
  by_cases h15 : op = 15
  · subst h15
    exact (vals_15 h k w s xa xb xn cs A c H HV).mono fun e w' hh => hh.as (by simp [valsN])
  by_cases h16 : op = 16
  · subst h16
    exact (vals_16 h k w s xa xb xn cs A c H HV).mono fun e w' hh => hh.as (by simp [valsN])
  by_cases h17 : op = 17
  · subst h17
    exact (vals_17 h k w s xa xb xn cs A c H HV).mono fun e w' hh => hh.as (by simp [valsN])
  by_cases h18 : op = 18
  · subst h18
    exact (vals_18 h k w s xa xb xn cs A c H HV).mono fun e w' hh => hh.as (by simp [valsN])
  by_cases h19 : op = 19
  · subst h19
    exact (vals_19 h k w s xa xb xn cs A c H HV).mono fun e w' hh => hh.as (by simp [valsN])
  by_cases h21 : op = 21
  · subst h21
    exact (vals_21 h k w s xa xb xn cs A c H HV).mono fun e w' hh => hh.as (by simp [valsN])
  by_cases h22 : op = 22
  · subst h22
    exact (vals_22 h k w s xa xb xn cs A c H HV).mono fun e w' hh => hh.as (by simp [valsN])
  by_cases h23 : op = 23
  · subst h23
    exact (vals_23 h k w s xa xb xn cs A c H HV).mono fun e w' hh => hh.as (by simp [valsN])
  by_cases h24 : op = 24
  · subst h24
    exact (vals_24 h k w s xa xb xn cs A c H HV).mono fun e w' hh => hh.as (by simp [valsN])
  exact values_none h k w s op xa xb xn cs A c h3 h4 h5 h6 h13 h14 h15 h16 h17 h18 h19 h21 h22 h23 h24 H HV
set_option maxRecDepth 100000 in
set_option maxHeartbeats 4000000 in
theorem calls_none (h : Hd) (k : Nat) (w : World) (s : VSt) (op xa xb : Int) (xn : Nat) (cs : List CaseD) (A : Option Addr) (c : Nat) (h20 : op ≠ 20) (h25 : op ≠ 25) (h26 : op ≠ 26) (h27 : op ≠ 27) (h28 : op ≠ 28) (h29 : op ≠ 29) (h30 : op ≠ 30) (h31 : op ≠ 31) (h37 : op ≠ 37) (h38 : op ≠ 38) (H : CkI h (k + 1100) w s) (HV : StV h.m s.stack) :
    Calls Try.prog 55 #[.pointer (some ⟨h.p, 0, none⟩), instrV ⟨op, xa, xb, xn, cs⟩ A c] w (OutO h k w (callsN h.m ⟨op, xa, xb, xn, cs⟩ s)) := by
  have ho : callsN h.m ⟨op, xa, xb, xn, cs⟩ s = some (false, s) := by simp only [callsN, h20, h25, h26, h27, h28, h29, h30, h31, h37, h38, if_false]
  rw [ho]
  have hm := Mid.start ⟨op, xa, xb, xn, cs⟩ A c (H.less (show k ≤ k + 1100 by omega)) HV
  obtain ⟨z0, z1, z2, z3, z4⟩ := hm.cells
  have M := Lib.hid hm
  have g20 : (op == 20) = false := by simpa using h20
  have g25 : (op == 25) = false := by simpa using h25
  have g26 : (op == 26) = false := by simpa using h26
  have g27 : (op == 27) = false := by simpa using h27
  have g28 : (op == 28) = false := by simpa using h28
  have g29 : (op == 29) = false := by simpa using h29
  have g30 : (op == 30) = false := by simpa using h30
  have g31 : (op == 31) = false := by simpa using h31
  have g37 : (op == 37) = false := by simpa using h37
  have g38 : (op == 38) = false := by simpa using h38
  clear h20 h25 h26 h27 h28 h29 h30 h31 h37 h38 hm H HV ho
  unfold instrV
  go_enter Try.func55, Try.ntmps55
  go_wp2_with fail
  go_ret
  exact OutO.good M.out rfl
theorem calls_any (h : Hd) (k : Nat) (w : World) (s : VSt) (x : InstrD) (A : Option Addr) (c : Nat) (H : CkI h (k + 1100) w s) (HV : StV h.m s.stack) :
    Calls Try.prog 55 #[.pointer (some ⟨h.p, 0, none⟩), instrV x A c] w (OutO h k w (callsN h.m x s)) := by
  obtain ⟨op, xa, xb, xn, cs⟩ := x
  by_cases h20 : op = 20
  · subst h20
    exact (calls_20 h k w s xa xb xn cs A c H HV).mono fun e w' hh => hh.as (by simp [callsN])
  by_cases h25 : op = 25
  · subst h25
    exact (calls_25 h k w s xa xb xn cs A c H HV).mono fun e w' hh => hh.as (by simp [callsN])
  by_cases h26 : op = 26
  · subst h26
    exact (calls_26 h k w s xa xb xn cs A c H HV).mono fun e w' hh => hh.as (by simp [callsN])
  by_cases h27 : op = 27
  · subst h27
    exact (calls_27 h k w s xa xb xn cs A c H HV).mono fun e w' hh => hh.as (by simp [callsN])
  by_cases h28 : op = 28
  · subst h28
    exact (calls_28 h k w s xa xb xn cs A c H HV).mono fun e w' hh => hh.as (by simp [callsN])
  by_cases h29 : op = 29
  · subst h29
    exact (calls_29 h k w s xa xb xn cs A c H HV).mono fun e w' hh => hh.as (by simp [callsN])
  by_cases h30 : op = 30
  · subst h30
    exact (calls_30 h k w s xa xb xn cs A c H HV).mono fun e w' hh => hh.as (by simp [callsN])
  by_cases h31 : op = 31
  · subst h31
    exact (calls_31 h k w s xa xb xn cs A c H HV).mono fun e w' hh => hh.as (by simp [callsN])
  by_cases h37 : op = 37
  · subst h37
    exact (calls_37 h k w s xa xb xn cs A c H HV).mono fun e w' hh => hh.as (by simp [callsN])
  by_cases h38 : op = 38
  · subst h38
    exact (calls_38 h k w s xa xb xn cs A c H HV).mono fun e w' hh => hh.as (by simp [callsN])
  exact calls_none h k w s op xa xb xn cs A c h20 h25 h26 h27 h28 h29 h30 h31 h37 h38 H HV
set_option maxRecDepth 100000 in
set_option maxHeartbeats 4000000 in
theorem flow_none (h : Hd) (k : Nat) (w : World) (s : VSt) (op xa xb : Int) (xn : Nat) (cs : List CaseD) (A : Option Addr) (c : Nat) (h33 : op ≠ 33) (h34 : op ≠ 34) (h35 : op ≠ 35) (h36 : op ≠ 36) (h32 : op ≠ 32) (H : CkI h (k + 1100) w s) (HV : StV h.m s.stack) :
    Calls Try.prog 56 #[.pointer (some ⟨h.p, 0, none⟩), instrV ⟨op, xa, xb, xn, cs⟩ A c] w (OutO h k w (flowN h.m h.f ⟨op, xa, xb, xn, cs⟩ s)) := by
  have ho : flowN h.m h.f ⟨op, xa, xb, xn, cs⟩ s = some (false, s) := by simp only [flowN, h33, h34, h35, h36, h32, if_false]
  rw [ho]
  have hm := Mid.start ⟨op, xa, xb, xn, cs⟩ A c (H.less (show k ≤ k + 1100 by omega)) HV
  obtain ⟨z0, z1, z2, z3, z4⟩ := hm.cells
  have M := Lib.hid hm
  have g33 : (op == 33) = false := by simpa using h33
  have g34 : (op == 34) = false := by simpa using h34
  have g35 : (op == 35) = false := by simpa using h35
  have g36 : (op == 36) = false := by simpa using h36
  have g32 : (op == 32) = false := by simpa using h32
  clear h33 h34 h35 h36 h32 hm H HV ho
  unfold instrV
  go_enter Try.func56, Try.ntmps56
  go_wp2_with fail
  go_ret
  exact OutO.good M.out rfl
theorem flow_any (h : Hd) (k : Nat) (w : World) (s : VSt) (x : InstrD) (A : Option Addr) (c : Nat) (H : CkI h (k + 1100) w s) (HV : StV h.m s.stack) (hcs : CasesR h.B w (.slice A x.cases.length c) x.cases) :
    Calls Try.prog 56 #[.pointer (some ⟨h.p, 0, none⟩), instrV x A c] w (OutO h k w (flowN h.m h.f x s)) := by
  obtain ⟨op, xa, xb, xn, cs⟩ := x
  by_cases h33 : op = 33
  · subst h33
    exact (flow_33 h k w s xa xb xn cs A c H HV).mono fun e w' hh => hh.as (by simp [flowN])
  by_cases h34 : op = 34
  · subst h34
    exact (flow_34 h k w s xa xb xn cs A c H HV).mono fun e w' hh => hh.as (by simp [flowN])
  by_cases h35 : op = 35
  · subst h35
    exact (flow_35 h k w s xa xb xn cs A c H HV).mono fun e w' hh => hh.as (by simp [flowN])
  by_cases h36 : op = 36
  · subst h36
    exact (flow_36 h k w s xa xb xn cs A c H HV).mono fun e w' hh => hh.as (by simp [flowN])
  by_cases h32 : op = 32
  · subst h32
    exact (flow_32 h k w s xa xb xn cs A c H HV hcs).mono fun e w' hh => hh.as (by simp [flowN])
  exact flow_none h k w s op xa xb xn cs A c h33 h34 h35 h36 h32 H HV
end Go.Proofs.Ytdegfnejhamejaa
