/-
  The reference's list: is a list, by letters?
-/
import Derived.Test.YtgaodjoddfjfmaaDoorNRef1
namespace Go.Proofs.YtgaodjoddfjfmaaDoor
open Go.RowKit
set_option linter.unusedVariables false
set_option linter.unusedSimpArgs false

theorem quiet_same {P : Program} {f : FuncId} {args : Array Value} {w : World} {n : Nat} {v : Value}
    (h : Calls P f args (w.drewN n) fun e w' => e = .returned v ∧ w' = w.drewN n) : Calls P f args (w.drewN n) fun e w'' => e = .returned v ∧ ∃ m, w'' = w.drewN m :=
  h.mono fun _ _ ⟨he, hm⟩ => ⟨he, n, hm⟩
def trL (x : UInt8) : Int := if x = 115 then -3 else if x = 101 then -1 else if x = 116 then -2 else if x = 98 then 20 else if x = 105 then 25 else if x = 99 then 34 else if x = 114 then 39 else if x = 112 then 6 else if x = 113 then 7 else if x = 103 then 4 else 0
theorem lets_bad {l : List Nd} {wl : List UInt8} {k : Nat} {x : Nd} {c : UInt8} (hx : l[k]? = some x) (hc : wl[k]? = some c) (h : kind1 x.kind (trL c) = false) : kindsF l (wl.map trL) = false :=
  kindsF_false fun h' => by have := h'.2 k x (trL c) hx (by rw [List.getElem?_map, hc]; rfl); rw [h] at this; cases this
def ltRel (l : List Nd) (wl : List UInt8) (W : World) (i : Value) (wr : World) : Prop := ∃ k : Nat, k ≤ l.length ∧ i = .int .i64 k ∧ (∀ (j : Nat) x y, j < k → l[j]? = some x → wl[j]? = some y → kind1 x.kind (trL y) = true) ∧ Chg (fun _ _ => False) W wr
set_option maxRecDepth 100000 in
set_option maxHeartbeats 8000000 in
theorem rlist_any (n B : Nat) (w : World) (l : List Nd) (wl : List UInt8) (A : Option Addr) (c : Nat) (hl : NdsR n B w (.slice A l.length c) l) (hll : l.length ≤ 1048576) (hwl : wl.length ≤ 64) (hlet : ∀ x ∈ wl, x = 115 ∨ x = 101 ∨ x = 116 ∨ x = 98 ∨ x = 105 ∨ x = 99 ∨ x = 114 ∨ x = 112 ∨ x = 113 ∨ x = 103) :
    Calls Tryd.prog 45 #[.slice A l.length c, .string ⟨wl.toArray⟩] w fun e w' => e = .returned (.bool (kindsF l (wl.map trL))) ∧ Chg (fun _ _ => False) w w' := by
  have hsz : (⟨wl.toArray⟩ : ByteArray).size = wl.length := by simp [ByteArray.size]
  have hget : ∀ (k : Nat) x, wl[k]? = some x → ∀ w, (Instr.index 9 (.string ⟨wl.toArray⟩) (.int .i64 k)).run Tryd.prog w = .ok (.int .u8 x.toNat) w := by
    intro k x hx w
    obtain ⟨h1, h2⟩ := List.getElem?_eq_some_iff.1 hx
    rw [run_index_string w 9 _ .i64 k Tryd.underlying9, dif_pos ⟨by omega, by rw [hsz]; omega⟩]
    have : (⟨wl.toArray⟩ : ByteArray)[(k : Int).toNat]'(by rw [hsz]; simpa using h1) = x := by
      show wl.toArray[(k : Int).toNat]'_ = x
      simpa using h2
    rw [this]
  generalize (⟨wl.toArray⟩ : ByteArray) = S at hsz hget ⊢
  by_cases hlm : l.length = wl.length
  · have q4 : ((l.length : Int) != (S.size : Int)) = false := by rw [hsz]; simp [hlm]
    have p4 : (l.length != S.size) = false := by rw [hsz]; simp [hlm]
    have H0 := Lib.hid (And.intro hl (And.intro hlm (And.intro hlet hget)))
    clear hl hlm hlet hget hsz
    go_enter Tryd.func45, Tryd.ntmps45
    go_wp2_with fail
    go_loopw [5] (fun i wr => ltRel l wl w i wr) (fun i _ => l.length - (intOf i).toNat)
    case atStart => exact ⟨0, Nat.zero_le _, rfl, fun j x y hj => by omega, Chg.refl _ _⟩
    case round =>
      obtain ⟨k, hk, rfl, hs, hch⟩ := hrel
      have q3 : IntKind.i64.wrap ((k : Int) + 1) = (k : Int) + 1 := IntWalk.i64_in _ ⟨by omega, by omega⟩
      by_cases hlt : k < l.length
      · have q1 : decide (k < l.length) = true := decide_eq_true hlt
        have q2 : (k : Int) < (l.length : Int) := by omega
        obtain ⟨bb, oo, x, X, cx, rfl, hkx, hRx, z0, z1, z2, z3, z4⟩ := NdsR.at_ (NdsR.keep0 hch H0.out.1) hlt
        obtain ⟨y, hw⟩ : ∃ y, wl[k]? = some y := ⟨_, List.getElem?_eq_getElem (by have := H0.out.2.1; omega)⟩
        have hix := H0.out.2.2.2 k y hw
        have hy := H0.out.2.2.1 y (List.mem_of_getElem? hw)
        rcases hy with rfl | rfl | rfl | rfl | rfl | rfl | rfl | rfl | rfl | rfl
        · have hkd : kind1 x.kind (trL 115) = (sortF x.kind == 115) := by
            rw [show trL 115 = -3 by decide, sort_s]; rfl
          cases hb : (sortF x.kind == 115) with
          | true =>
            rw [hb] at hkd
            have HK := Lib.hid (And.intro hs (And.intro hkx (And.intro hw hkd)))
            clear hs hkx hw hkd hRx z1 z2 z3 z4
            go_wp2_with fail
            go_quiet ((go_at_call 30; first | exact quiet_same (sort_any _ _) | exact quiet_add_same (sort_any _ _)))
            go_wp2_with fail
            go_roundw
            case rel =>
              refine ⟨k + 1, hlt, by simp, fun j x' y' hj hx hy => ?_, by repeat' (first | exact hch | apply Chg.drew | apply Chg.drewN)⟩
              by_cases hjk : j = k
              · subst hjk
                rw [HK.out.2.1] at hx
                rw [HK.out.2.2.1] at hy
                cases hx
                cases hy
                exact HK.out.2.2.2
              · exact HK.out.1 j x' y' (by omega) hx hy
            case measure => simp [intOf]; omega
          | false =>
            rw [hb] at hkd
            have HK := Lib.hid (And.intro hs (And.intro hkx (And.intro hw hkd)))
            clear hs hkx hw hkd hRx z1 z2 z3 z4
            go_wp2_with fail
            go_quiet ((go_at_call 30; first | exact quiet_same (sort_any _ _) | exact quiet_add_same (sort_any _ _)))
            go_wp2_with fail
            go_ret
            refine ⟨?_, by repeat' (first | exact hch | apply Chg.drew | apply Chg.drewN)⟩
            rw [lets_bad HK.out.2.1 HK.out.2.2.1 HK.out.2.2.2]
            rfl
        · have hkd : kind1 x.kind (trL 101) = (sortF x.kind == 101) := by
            rw [show trL 101 = -1 by decide, sort_e]; rfl
          cases hb : (sortF x.kind == 101) with
          | true =>
            rw [hb] at hkd
            have HK := Lib.hid (And.intro hs (And.intro hkx (And.intro hw hkd)))
            clear hs hkx hw hkd hRx z1 z2 z3 z4
            go_wp2_with fail
            go_quiet ((go_at_call 30; first | exact quiet_same (sort_any _ _) | exact quiet_add_same (sort_any _ _)))
            go_wp2_with fail
            go_roundw
            case rel =>
              refine ⟨k + 1, hlt, by simp, fun j x' y' hj hx hy => ?_, by repeat' (first | exact hch | apply Chg.drew | apply Chg.drewN)⟩
              by_cases hjk : j = k
              · subst hjk
                rw [HK.out.2.1] at hx
                rw [HK.out.2.2.1] at hy
                cases hx
                cases hy
                exact HK.out.2.2.2
              · exact HK.out.1 j x' y' (by omega) hx hy
            case measure => simp [intOf]; omega
          | false =>
            rw [hb] at hkd
            have HK := Lib.hid (And.intro hs (And.intro hkx (And.intro hw hkd)))
            clear hs hkx hw hkd hRx z1 z2 z3 z4
            go_wp2_with fail
            go_quiet ((go_at_call 30; first | exact quiet_same (sort_any _ _) | exact quiet_add_same (sort_any _ _)))
            go_wp2_with fail
            go_ret
            refine ⟨?_, by repeat' (first | exact hch | apply Chg.drew | apply Chg.drewN)⟩
            rw [lets_bad HK.out.2.1 HK.out.2.2.1 HK.out.2.2.2]
            rfl
        · have hkd : kind1 x.kind (trL 116) = (sortF x.kind == 116) := by
            rw [show trL 116 = -2 by decide, sort_t]; rfl
          cases hb : (sortF x.kind == 116) with
          | true =>
            rw [hb] at hkd
            have HK := Lib.hid (And.intro hs (And.intro hkx (And.intro hw hkd)))
            clear hs hkx hw hkd hRx z1 z2 z3 z4
            go_wp2_with fail
            go_quiet ((go_at_call 30; first | exact quiet_same (sort_any _ _) | exact quiet_add_same (sort_any _ _)))
            go_wp2_with fail
            go_roundw
            case rel =>
              refine ⟨k + 1, hlt, by simp, fun j x' y' hj hx hy => ?_, by repeat' (first | exact hch | apply Chg.drew | apply Chg.drewN)⟩
              by_cases hjk : j = k
              · subst hjk
                rw [HK.out.2.1] at hx
                rw [HK.out.2.2.1] at hy
                cases hx
                cases hy
                exact HK.out.2.2.2
              · exact HK.out.1 j x' y' (by omega) hx hy
            case measure => simp [intOf]; omega
          | false =>
            rw [hb] at hkd
            have HK := Lib.hid (And.intro hs (And.intro hkx (And.intro hw hkd)))
            clear hs hkx hw hkd hRx z1 z2 z3 z4
            go_wp2_with fail
            go_quiet ((go_at_call 30; first | exact quiet_same (sort_any _ _) | exact quiet_add_same (sort_any _ _)))
            go_wp2_with fail
            go_ret
            refine ⟨?_, by repeat' (first | exact hch | apply Chg.drew | apply Chg.drewN)⟩
            rw [lets_bad HK.out.2.1 HK.out.2.2.1 HK.out.2.2.2]
            rfl
        · have hkd : kind1 x.kind (trL 98) = (x.kind == 20) := by
            rw [show trL 98 = 20 by decide]; unfold kind1; rw [if_neg (by decide), if_neg (by decide), if_neg (by decide)]; by_cases h : x.kind = 20 <;> simp [h]
          cases hb : (x.kind == 20) with
          | true =>
            rw [hb] at hkd
            have HK := Lib.hid (And.intro hs (And.intro hkx (And.intro hw hkd)))
            clear hs hkx hw hkd hRx z1 z2 z3 z4
            go_wp2_with fail
            go_quiet ((go_at_call 30; first | exact quiet_same (sort_any _ _) | exact quiet_add_same (sort_any _ _)))
            go_wp2_with fail
            go_roundw
            case rel =>
              refine ⟨k + 1, hlt, by simp, fun j x' y' hj hx hy => ?_, by repeat' (first | exact hch | apply Chg.drew | apply Chg.drewN)⟩
              by_cases hjk : j = k
              · subst hjk
                rw [HK.out.2.1] at hx
                rw [HK.out.2.2.1] at hy
                cases hx
                cases hy
                exact HK.out.2.2.2
              · exact HK.out.1 j x' y' (by omega) hx hy
            case measure => simp [intOf]; omega
          | false =>
            rw [hb] at hkd
            have HK := Lib.hid (And.intro hs (And.intro hkx (And.intro hw hkd)))
            clear hs hkx hw hkd hRx z1 z2 z3 z4
            go_wp2_with fail
            go_quiet ((go_at_call 30; first | exact quiet_same (sort_any _ _) | exact quiet_add_same (sort_any _ _)))
            go_wp2_with fail
            go_ret
            refine ⟨?_, by repeat' (first | exact hch | apply Chg.drew | apply Chg.drewN)⟩
            rw [lets_bad HK.out.2.1 HK.out.2.2.1 HK.out.2.2.2]
            rfl
        · have hkd : kind1 x.kind (trL 105) = (x.kind == 25) := by
            rw [show trL 105 = 25 by decide]; unfold kind1; rw [if_neg (by decide), if_neg (by decide), if_neg (by decide)]; by_cases h : x.kind = 25 <;> simp [h]
          cases hb : (x.kind == 25) with
          | true =>
            rw [hb] at hkd
            have HK := Lib.hid (And.intro hs (And.intro hkx (And.intro hw hkd)))
            clear hs hkx hw hkd hRx z1 z2 z3 z4
            go_wp2_with fail
            go_quiet ((go_at_call 30; first | exact quiet_same (sort_any _ _) | exact quiet_add_same (sort_any _ _)))
            go_wp2_with fail
            go_roundw
            case rel =>
              refine ⟨k + 1, hlt, by simp, fun j x' y' hj hx hy => ?_, by repeat' (first | exact hch | apply Chg.drew | apply Chg.drewN)⟩
              by_cases hjk : j = k
              · subst hjk
                rw [HK.out.2.1] at hx
                rw [HK.out.2.2.1] at hy
                cases hx
                cases hy
                exact HK.out.2.2.2
              · exact HK.out.1 j x' y' (by omega) hx hy
            case measure => simp [intOf]; omega
          | false =>
            rw [hb] at hkd
            have HK := Lib.hid (And.intro hs (And.intro hkx (And.intro hw hkd)))
            clear hs hkx hw hkd hRx z1 z2 z3 z4
            go_wp2_with fail
            go_quiet ((go_at_call 30; first | exact quiet_same (sort_any _ _) | exact quiet_add_same (sort_any _ _)))
            go_wp2_with fail
            go_ret
            refine ⟨?_, by repeat' (first | exact hch | apply Chg.drew | apply Chg.drewN)⟩
            rw [lets_bad HK.out.2.1 HK.out.2.2.1 HK.out.2.2.2]
            rfl
        · have hkd : kind1 x.kind (trL 99) = (x.kind == 34) := by
            rw [show trL 99 = 34 by decide]; unfold kind1; rw [if_neg (by decide), if_neg (by decide), if_neg (by decide)]; by_cases h : x.kind = 34 <;> simp [h]
          cases hb : (x.kind == 34) with
          | true =>
            rw [hb] at hkd
            have HK := Lib.hid (And.intro hs (And.intro hkx (And.intro hw hkd)))
            clear hs hkx hw hkd hRx z1 z2 z3 z4
            go_wp2_with fail
            go_quiet ((go_at_call 30; first | exact quiet_same (sort_any _ _) | exact quiet_add_same (sort_any _ _)))
            go_wp2_with fail
            go_roundw
            case rel =>
              refine ⟨k + 1, hlt, by simp, fun j x' y' hj hx hy => ?_, by repeat' (first | exact hch | apply Chg.drew | apply Chg.drewN)⟩
              by_cases hjk : j = k
              · subst hjk
                rw [HK.out.2.1] at hx
                rw [HK.out.2.2.1] at hy
                cases hx
                cases hy
                exact HK.out.2.2.2
              · exact HK.out.1 j x' y' (by omega) hx hy
            case measure => simp [intOf]; omega
          | false =>
            rw [hb] at hkd
            have HK := Lib.hid (And.intro hs (And.intro hkx (And.intro hw hkd)))
            clear hs hkx hw hkd hRx z1 z2 z3 z4
            go_wp2_with fail
            go_quiet ((go_at_call 30; first | exact quiet_same (sort_any _ _) | exact quiet_add_same (sort_any _ _)))
            go_wp2_with fail
            go_ret
            refine ⟨?_, by repeat' (first | exact hch | apply Chg.drew | apply Chg.drewN)⟩
            rw [lets_bad HK.out.2.1 HK.out.2.2.1 HK.out.2.2.2]
            rfl
        · have hkd : kind1 x.kind (trL 114) = (x.kind == 39) := by
            rw [show trL 114 = 39 by decide]; unfold kind1; rw [if_neg (by decide), if_neg (by decide), if_neg (by decide)]; by_cases h : x.kind = 39 <;> simp [h]
          cases hb : (x.kind == 39) with
          | true =>
            rw [hb] at hkd
            have HK := Lib.hid (And.intro hs (And.intro hkx (And.intro hw hkd)))
            clear hs hkx hw hkd hRx z1 z2 z3 z4
            go_wp2_with fail
            go_quiet ((go_at_call 30; first | exact quiet_same (sort_any _ _) | exact quiet_add_same (sort_any _ _)))
            go_wp2_with fail
            go_roundw
            case rel =>
              refine ⟨k + 1, hlt, by simp, fun j x' y' hj hx hy => ?_, by repeat' (first | exact hch | apply Chg.drew | apply Chg.drewN)⟩
              by_cases hjk : j = k
              · subst hjk
                rw [HK.out.2.1] at hx
                rw [HK.out.2.2.1] at hy
                cases hx
                cases hy
                exact HK.out.2.2.2
              · exact HK.out.1 j x' y' (by omega) hx hy
            case measure => simp [intOf]; omega
          | false =>
            rw [hb] at hkd
            have HK := Lib.hid (And.intro hs (And.intro hkx (And.intro hw hkd)))
            clear hs hkx hw hkd hRx z1 z2 z3 z4
            go_wp2_with fail
            go_quiet ((go_at_call 30; first | exact quiet_same (sort_any _ _) | exact quiet_add_same (sort_any _ _)))
            go_wp2_with fail
            go_ret
            refine ⟨?_, by repeat' (first | exact hch | apply Chg.drew | apply Chg.drewN)⟩
            rw [lets_bad HK.out.2.1 HK.out.2.2.1 HK.out.2.2.2]
            rfl
        · have hkd : kind1 x.kind (trL 112) = (x.kind == 6) := by
            rw [show trL 112 = 6 by decide]; unfold kind1; rw [if_neg (by decide), if_neg (by decide), if_neg (by decide)]; by_cases h : x.kind = 6 <;> simp [h]
          cases hb : (x.kind == 6) with
          | true =>
            rw [hb] at hkd
            have HK := Lib.hid (And.intro hs (And.intro hkx (And.intro hw hkd)))
            clear hs hkx hw hkd hRx z1 z2 z3 z4
            go_wp2_with fail
            go_quiet ((go_at_call 30; first | exact quiet_same (sort_any _ _) | exact quiet_add_same (sort_any _ _)))
            go_wp2_with fail
            go_roundw
            case rel =>
              refine ⟨k + 1, hlt, by simp, fun j x' y' hj hx hy => ?_, by repeat' (first | exact hch | apply Chg.drew | apply Chg.drewN)⟩
              by_cases hjk : j = k
              · subst hjk
                rw [HK.out.2.1] at hx
                rw [HK.out.2.2.1] at hy
                cases hx
                cases hy
                exact HK.out.2.2.2
              · exact HK.out.1 j x' y' (by omega) hx hy
            case measure => simp [intOf]; omega
          | false =>
            rw [hb] at hkd
            have HK := Lib.hid (And.intro hs (And.intro hkx (And.intro hw hkd)))
            clear hs hkx hw hkd hRx z1 z2 z3 z4
            go_wp2_with fail
            go_quiet ((go_at_call 30; first | exact quiet_same (sort_any _ _) | exact quiet_add_same (sort_any _ _)))
            go_wp2_with fail
            go_ret
            refine ⟨?_, by repeat' (first | exact hch | apply Chg.drew | apply Chg.drewN)⟩
            rw [lets_bad HK.out.2.1 HK.out.2.2.1 HK.out.2.2.2]
            rfl
        · have hkd : kind1 x.kind (trL 113) = (x.kind == 7) := by
            rw [show trL 113 = 7 by decide]; unfold kind1; rw [if_neg (by decide), if_neg (by decide), if_neg (by decide)]; by_cases h : x.kind = 7 <;> simp [h]
          cases hb : (x.kind == 7) with
          | true =>
            rw [hb] at hkd
            have HK := Lib.hid (And.intro hs (And.intro hkx (And.intro hw hkd)))
            clear hs hkx hw hkd hRx z1 z2 z3 z4
            go_wp2_with fail
            go_quiet ((go_at_call 30; first | exact quiet_same (sort_any _ _) | exact quiet_add_same (sort_any _ _)))
            go_wp2_with fail
            go_roundw
            case rel =>
              refine ⟨k + 1, hlt, by simp, fun j x' y' hj hx hy => ?_, by repeat' (first | exact hch | apply Chg.drew | apply Chg.drewN)⟩
              by_cases hjk : j = k
              · subst hjk
                rw [HK.out.2.1] at hx
                rw [HK.out.2.2.1] at hy
                cases hx
                cases hy
                exact HK.out.2.2.2
              · exact HK.out.1 j x' y' (by omega) hx hy
            case measure => simp [intOf]; omega
          | false =>
            rw [hb] at hkd
            have HK := Lib.hid (And.intro hs (And.intro hkx (And.intro hw hkd)))
            clear hs hkx hw hkd hRx z1 z2 z3 z4
            go_wp2_with fail
            go_quiet ((go_at_call 30; first | exact quiet_same (sort_any _ _) | exact quiet_add_same (sort_any _ _)))
            go_wp2_with fail
            go_ret
            refine ⟨?_, by repeat' (first | exact hch | apply Chg.drew | apply Chg.drewN)⟩
            rw [lets_bad HK.out.2.1 HK.out.2.2.1 HK.out.2.2.2]
            rfl
        · have hkd : kind1 x.kind (trL 103) = (x.kind == 4) := by
            rw [show trL 103 = 4 by decide]; unfold kind1; rw [if_neg (by decide), if_neg (by decide), if_neg (by decide)]; by_cases h : x.kind = 4 <;> simp [h]
          cases hb : (x.kind == 4) with
          | true =>
            rw [hb] at hkd
            have HK := Lib.hid (And.intro hs (And.intro hkx (And.intro hw hkd)))
            clear hs hkx hw hkd hRx z1 z2 z3 z4
            go_wp2_with fail
            go_quiet ((go_at_call 30; first | exact quiet_same (sort_any _ _) | exact quiet_add_same (sort_any _ _)))
            go_wp2_with fail
            go_roundw
            case rel =>
              refine ⟨k + 1, hlt, by simp, fun j x' y' hj hx hy => ?_, by repeat' (first | exact hch | apply Chg.drew | apply Chg.drewN)⟩
              by_cases hjk : j = k
              · subst hjk
                rw [HK.out.2.1] at hx
                rw [HK.out.2.2.1] at hy
                cases hx
                cases hy
                exact HK.out.2.2.2
              · exact HK.out.1 j x' y' (by omega) hx hy
            case measure => simp [intOf]; omega
          | false =>
            rw [hb] at hkd
            have HK := Lib.hid (And.intro hs (And.intro hkx (And.intro hw hkd)))
            clear hs hkx hw hkd hRx z1 z2 z3 z4
            go_wp2_with fail
            go_quiet ((go_at_call 30; first | exact quiet_same (sort_any _ _) | exact quiet_add_same (sort_any _ _)))
            go_wp2_with fail
            go_ret
            refine ⟨?_, by repeat' (first | exact hch | apply Chg.drew | apply Chg.drewN)⟩
            rw [lets_bad HK.out.2.1 HK.out.2.2.1 HK.out.2.2.2]
            rfl
      · have q1 : decide (k < l.length) = false := decide_eq_false hlt
        obtain rfl : k = l.length := by omega
        have HC := Lib.hid hch
        have HS := Lib.hid (show kindsF l (wl.map trL) = true from kindsF_true.2 ⟨by rw [List.length_map]; exact H0.out.2.1, fun j x y hx hy => by
          rw [List.getElem?_map, Option.map_eq_some_iff] at hy
          obtain ⟨z, hz, rfl⟩ := hy
          exact hs j x z (List.getElem?_eq_some_iff.1 hx).1 hx hz⟩)
        clear hs hch
        go_wp2_with fail
        go_ret
        refine ⟨?_, HC.out⟩
        rw [HS.out]
        rfl
  · have q4 : ((l.length : Int) != (S.size : Int)) = true := by rw [hsz]; simp; omega
    have p4 : (l.length != S.size) = true := by rw [hsz]; simp; omega
    have HS := Lib.hid (show kindsF l (wl.map trL) = false from kindsF_false fun h => hlm (by have := h.1; rw [List.length_map] at this; exact this))
    clear hl hlm hlet hget hsz
    go_enter Tryd.func45, Tryd.ntmps45
    go_wp2_with fail
    go_ret
    refine ⟨?_, Chg.refl _ _⟩
    rw [HS.out]
    rfl
end Go.Proofs.YtgaodjoddfjfmaaDoor
