/-
  The walk of the statement HeapReach.
-/
import Derived.Test.YteigopmdhhgnfaaHLaw
namespace Go.Proofs.Yteigopmdhhgnfaa
open Go.RowKit
set_option linter.unusedVariables false
set_option linter.unusedSimpArgs false

set_option maxRecDepth 100000 in
set_option maxHeartbeats 8000000 in
theorem heapReach_walk (w : World) (cells : Int) (A : Option Addr) (c : Nat) (l : List HActD) (hl : HActsA w.heap.size w (.slice A l.length c) l) (hn : l.length ≤ 1048576) (RA : Option Addr) (rc : Nat) (roots : List Int) (hr : SlR w.heap.size 0 1 IntZ w (.slice RA roots.length rc) roots) (hI : ∀ r ∈ roots, I64 r) (hrl : roots.length ≤ 1048576) (RB : Option Addr) (rd : Nat) (ruts : List Int) (hs : SlR w.heap.size 0 1 IntZ w (.slice RB ruts.length rd) ruts) (hJ : ∀ r ∈ ruts, I64 r) (hsum : roots.length + ruts.length ≤ 1048576) :
    Calls Try.prog 4 #[.int .i64 cells, .slice A l.length c, .slice RA roots.length rc, .slice RB ruts.length rd] w fun e w' => e = .returned (.bool true) ∧ Below w.heap.size w w' := by
  have c1 := hgrown_any w w.heap.size (Nat.le_refl _) cells A c l hl hn
  obtain ⟨bud, hbud⟩ : ∃ bud, capC cells = bud := ⟨_, rfl⟩
  obtain ⟨S, hS⟩ : ∃ S, grownS bud l = S := ⟨_, rfl⟩
  rw [hbud, hS] at c1
  have HH := Lib.hid (And.intro hr (And.intro hI (And.intro hs hJ)))
  clear hl hbud hS hr hI hs hJ
  go_enter Try.func4, Try.ntmps4
  go_wp2_with fail
  refine c1.mono fun e w1 hh => ?_
  obtain ⟨p, q, rfl, h2, hc1⟩ := hh
  have H1 := Lib.hid (And.intro h2 hc1)
  clear c1 h2 hc1
  go_wp2_with fail
  refine (answers12_any w1).mono fun e w2 hh => ?_
  obtain ⟨rfl, hc2⟩ := hh
  have H2 := Lib.hid (And.intro (H1.out.1.same hc2) (And.intro (H1.out.2.trans hc2.no) (Nat.le_trans H1.out.2.size hc2.size)))
  clear hc2 H1
  obtain ⟨i0, hi0, hz0, hs0, hb0⟩ := info_parts infoInt
  have hgd := H2.out.1.good
  have hS6 : S.length ≤ 65536 := by have := len_le_used S; omega
  have HW0 := Lib.hid (And.intro H2.out.2.1 (And.intro H2.out.1 H2.out.2.2))
  obtain ⟨ea, hea⟩ : ∃ ea : Int, (if knownO S roots = true then (0 : Int) else 15) = ea := ⟨_, rfl⟩
  obtain ⟨eb, heb⟩ : ∃ eb : Int, (if knownO S ruts = true then (0 : Int) else 15) = eb := ⟨_, rfl⟩
  obtain ⟨eg, heg⟩ : ∃ eg : Int, (if knownO S (roots ++ ruts) = true then (0 : Int) else 15) = eg := ⟨_, rfl⟩
  have HE := Lib.hid (And.intro hea (And.intro heb heg))
  have HGD := Lib.hid hgd.1
  have hsl : ruts.length ≤ 1048576 := by omega
  clear hea heb heg hgd H2
  go_wp2_with fail
  refine (ints12_any _ _ roots RA rc (slr_ml2 HH.out.1 HW0.out.1 fun _ _ h => h) hrl).mono fun e v1 hh => ?_
  obtain ⟨IA1, ic1, rfl, hrow, hc⟩ := hh
  obtain ⟨G, hG, _, _⟩ := (HW0.out.2.1.same hc).left (Nat.le_trans HW0.out.2.2 hc.size)
  have c1 := hreach_P hG ((hrow.slr (by decide) 0).settle fun _ _ h => h) (Nat.le_refl _) HH.out.2.1 hrl
  rw [HE.out.1] at c1
  have HV1 := Lib.hid hc
  clear hG hrow hc
  go_wp2_with fail
  refine c1.mono fun e u1 hh => ?_
  obtain ⟨xs, xsA, xsc, rfl, hrow, hz, hc⟩ := hh
  have HW1 := Lib.hid (And.intro (HW0.out.1.trans (HV1.out.trans hc).no) (And.intro ((HW0.out.2.1.same HV1.out).same hc) (Nat.le_trans HW0.out.2.2 (HV1.out.trans hc).size)))
  have HZ1 := Lib.hid (And.intro hrow (And.intro hz (HV1.out.trans hc)))
  clear c1 hrow hz hc
  go_wp2_with fail
  refine (ints12_any _ _ ruts RB rd (slr_ml2 HH.out.2.2.1 HW1.out.1 fun _ _ h => h) hsl).mono fun e v2 hh => ?_
  obtain ⟨IA2, ic2, rfl, hrow, hc⟩ := hh
  obtain ⟨G, hG, _, _⟩ := (HW1.out.2.1.same hc).left (Nat.le_trans HW1.out.2.2 hc.size)
  have c2 := hreach_P hG ((hrow.slr (by decide) 0).settle fun _ _ h => h) (Nat.le_refl _) HH.out.2.2.2 hsl
  rw [HE.out.2.1] at c2
  have HV2 := Lib.hid hc
  clear hG hrow hc
  go_wp2_with fail
  refine c2.mono fun e u2 hh => ?_
  obtain ⟨ys, ysA, ysc, rfl, hrow, hz, hc⟩ := hh
  have HW2 := Lib.hid (And.intro (HW1.out.1.trans (HV2.out.trans hc).no) (And.intro ((HW1.out.2.1.same HV2.out).same hc) (Nat.le_trans HW1.out.2.2 (HV2.out.trans hc).size)))
  have HZ2 := Lib.hid (And.intro hrow (And.intro hz (HV2.out.trans hc)))
  clear c2 hrow hz hc
  go_wp2_with fail
  refine (ints12_any _ _ roots RA rc (slr_ml2 HH.out.1 HW2.out.1 fun _ _ h => h) hrl).mono fun e v3 hh => ?_
  obtain ⟨IA3, ic3, rfl, hrow, hc⟩ := hh
  obtain ⟨yss, g1, g2, g3, g4⟩ := (slr_ml2 HH.out.2.2.1 (HW2.out.1.trans hc.no) fun _ _ h => h).reads
  obtain ⟨xss, how, x2, x3, x4⟩ := hrow
  have h1' : ∀ u ∈ yss.flatten, u.oneCell' = true := fun u hu => by
    obtain ⟨cs, hcs, hu⟩ := List.mem_flatten.1 hu
    obtain ⟨k, hk, hk2⟩ := List.mem_iff_getElem.1 hcs
    have hkl : k < ruts.length := by omega
    have := g3 k ruts[k] cs (List.getElem?_eq_getElem hkl) (by rw [List.getElem?_eq_getElem hk, hk2])
    unfold IntZ at this
    subst this
    simp at hu
    subst hu
    rfl
  have hsz3 := hc.size
  have HV3 := Lib.hid (And.intro hc (And.intro how (And.intro x2 (And.intro x3 (And.intro x4 (And.intro g1 (And.intro g2 (And.intro g3 (And.intro g4 h1')))))))))
  clear hc how x2 x3 x4 g1 g2 g3 g4 h1'
  go_wp2_with (at_builtin; go_must (refine wpList_append_any v3 rfl (.tmp 50) (.tmp 51) 24 rfl u2.heap.size 3 i0 _ 1 8 Try.underlying24 hi0 hz0 hs0 hb0 rfl (by omega) (.slice IA3 roots.length ic3) roots.length xss.flatten rfl HV3.out.2.1 v3.heap.size RB ruts.length rd yss.flatten rfl HV3.out.2.2.2.2.2.2.2.2.1 HV3.out.2.2.2.2.2.2.2.2.2 (by simp only [maxLen]; omega) (by omega) hsz3 ?_))
  intro v4 w4 s1 s2 s3
  obtain ⟨A4, c4, rfl⟩ := own_form s1
  obtain ⟨hc, how, x2, x3, x4, g1, g2, g3, g4, _⟩ := HV3.out
  have hc4 : Chg (fun _ _ => False) u2 w4 := hc.trans_new (chg_grown how s2) fun b t hb h => by
    have := (own_blk how h.1).1
    omega
  have hrow4 : RowR u2.heap.size 3 1 IntZ w4 A4 c4 (roots ++ ruts) := RowR.app s1 x2 g1 rfl rfl x3 g2 x4 g3
  obtain ⟨G, hG, _, _⟩ := (HW2.out.2.1.same hc4).left (Nat.le_trans HW2.out.2.2 hc4.size)
  have c3 := hreach_P hG ((hrow4.slr (by decide) 0).settle fun _ _ h => h) (Nat.le_refl _) (fun r hr => (List.mem_append.1 hr).elim (HH.out.2.1 r) (HH.out.2.2.2 r)) (by rw [List.length_append]; exact hsum)
  rw [HE.out.2.2, List.length_append] at c3
  have HV4 := Lib.hid hc4
  clear hG hrow4 hc4 hc how x2 x3 x4 g1 g2 g3 g4 s1 s2 s3
  go_wp2_with fail
  refine c3.mono fun e u3 hh => ?_
  obtain ⟨zs, zsA, zsc, rfl, hrow, hz, hc⟩ := hh
  have HW3 := Lib.hid (And.intro (HW2.out.1.trans (HV4.out.trans hc).no) (And.intro ((HW2.out.2.1.same HV4.out).same hc) (Nat.le_trans HW2.out.2.2 (HV4.out.trans hc).size)))
  have HZ3 := Lib.hid (And.intro hrow (And.intro hz (HV4.out.trans hc)))
  clear c3 hrow hz hc
  by_cases hkk : knownO S roots = true ∧ knownO S ruts = true
  · obtain ⟨ha, hb⟩ := hkk
    have hab : knownO S (roots ++ ruts) = true := by rw [known_append, ha, hb]; rfl
    obtain rfl : ea = 0 := by rw [← HE.out.1, if_pos ha]
    obtain rfl : eb = 0 := by rw [← HE.out.2.1, if_pos hb]
    obtain rfl : eg = 0 := by rw [← HE.out.2.2, if_pos hab]
    have hxs : xs = reachL S roots := by rw [HZ1.out.2.1, if_pos ha]
    have hys : ys = reachL S ruts := by rw [HZ2.out.2.1, if_pos hb]
    have hzs : zs = reachL S (roots ++ ruts) := by rw [HZ3.out.2.1, if_pos hab]
    have hl1 : xs.length ≤ 65536 := by rw [hxs, reach_len]; exact Nat.le_trans (live_len _ _) hS6
    have hl2 : ys.length ≤ 65536 := by rw [hys, reach_len]; exact Nat.le_trans (live_len _ _) hS6
    have hl3 : zs.length ≤ 65536 := by rw [hzs, reach_len]; exact Nat.le_trans (live_len _ _) hS6
    have HM := Lib.hid (And.intro (show ∀ v ∈ zs, v ∈ xs ∨ v ∈ ys from fun v hv => by rw [hzs] at hv; rw [hxs, hys]; exact reach_app hv) (And.intro (show ∀ v ∈ xs, v ∈ zs from fun v hv => by rw [hxs] at hv; rw [hzs]; exact reach_l hv) (And.intro (show ∀ v ∈ ys, v ∈ zs from fun v hv => by rw [hys] at hv; rw [hzs]; exact reach_r hv) (show ∀ i j, i < j → j < zs.length → zs.getD i 0 < zs.getD j 0 from fun i j h1 h2 => by rw [hzs] at h2 ⊢; exact reach_rises HGD.out _ h1 h2))))
    have hrx : reachL S xs = xs := by rw [hxs]; exact reach_reach S roots
    have hkx : knownO S xs = true := by rw [hxs]; exact reach_known S roots
    have hIx : ∀ r ∈ xs, I64 r := fun r hr => by
      rw [hxs] at hr
      obtain ⟨o, ho, he, _⟩ := mem_reach.1 hr
      have := HGD.out.top o ho
      unfold I64
      omega
    have rx := ((HZ1.out.1.keep (HZ2.out.2.2.trans HZ3.out.2.2) (fun _ _ => id) fun _ _ h => h).slr (by decide) 0).settle (R' := IntZ) fun _ _ h => h
    have ry := ((HZ2.out.1.keep HZ3.out.2.2 (fun _ _ => id) fun _ _ h => h).slr (by decide) 0).settle (R' := IntZ) fun _ _ h => h
    have rz := (HZ3.out.1.slr (by decide) 0).settle (R' := IntZ) fun _ _ h => h
    have HR := Lib.hid (And.intro rx (And.intro ry (And.intro rz (And.intro hIx (And.intro hkx hrx)))))
    clear ha hb hab hxs hys hzs hrx hkx hIx rx ry rz
    go_wp2_with fail
    refine (ints12_any _ u3 xs xsA xsc HR.out.1 (by omega)).mono fun e v5 hh => ?_
    obtain ⟨IA5, ic5, rfl, hrow, hc⟩ := hh
    obtain ⟨G, hG, _, _⟩ := (HW3.out.2.1.same hc).left (Nat.le_trans HW3.out.2.2 hc.size)
    have c5 := hreach_P hG ((hrow.slr (by decide) 0).settle fun _ _ h => h) (Nat.le_refl _) HR.out.2.2.2.1 (by omega)
    rw [HR.out.2.2.2.2.1, if_pos rfl, if_pos rfl, HR.out.2.2.2.2.2] at c5
    have HV5 := Lib.hid hc
    clear hG hrow hc
    go_wp2_with fail
    refine c5.mono fun e u5 hh => ?_
    obtain ⟨ws, wsA, wsc, rfl, hrow, hz, hc⟩ := hh
    obtain rfl : ws = xs := hz
    have hcc := HV5.out.trans hc
    have c6 := sameI12 _ _ u5 wsA xsA wsc xsc ws ((hrow.slr (by decide) 0).settle fun _ _ h => h) (SlR.keep HR.out.1 hcc (no_letsH _ _) fun _ _ h => h) (by omega)
    have HU5 := Lib.hid hcc
    clear c5 hrow hc hcc
    go_wp2_with fail
    refine c6.mono fun e u6 hh => ?_
    obtain ⟨rfl, hc⟩ := hh
    have HU6 := Lib.hid (HU5.out.trans hc)
    clear c6 hc
    go_wp2_with fail
    go_loopw [19] (fun i wr => ∃ k : Nat, k ≤ zs.length ∧ i = .int .i64 (k : Int) ∧ Chg (fun _ _ => False) u3 wr) (fun i _ => zs.length - (intOf i).toNat)
    case atStart => exact ⟨0, Nat.zero_le _, rfl, HU6.out⟩
    case round =>
      obtain ⟨k, hk, rfl, hch⟩ := hrel
      have q3 : IntKind.i64.wrap ((k : Int) + 1) = (k : Int) + 1 := IntWalk.i64_in _ ⟨by omega, by omega⟩
      by_cases hlt : k < zs.length
      · have q1 : decide (k < zs.length) = true := decide_eq_true hlt
        have q2 : (k : Int) < (zs.length : Int) := by omega
        obtain ⟨zb, zo, rfl, z0⟩ := int_at (SlR.keep HR.out.2.2.1 hch (no_letsH _ _) fun _ _ h => h) hlt
        obtain ⟨v, hv⟩ : ∃ v, zs.getD k 0 = v := ⟨_, rfl⟩
        have hvz : v ∈ zs := by rw [← hv]; exact getD_mem hlt
        rw [hv] at z0
        have hqx : ∀ W, Chg (fun _ _ => False) u3 W → Calls Try.prog 20 #[.slice xsA ws.length xsc, .int .i64 v] W fun e w' => e = .returned (.bool (decide (v ∈ ws))) ∧ w' = W := fun W hW => has12_q _ W xsA xsc ws v (SlR.keep HR.out.1 hW (no_letsH _ _) fun _ _ h => h) (by omega)
        have hqy : ∀ W, Chg (fun _ _ => False) u3 W → Calls Try.prog 20 #[.slice ysA ys.length ysc, .int .i64 v] W fun e w' => e = .returned (.bool (decide (v ∈ ys))) ∧ w' = W := fun W hW => has12_q _ W ysA ysc ys v (SlR.keep HR.out.2.1 hW (no_letsH _ _) fun _ _ h => h) (by omega)
        by_cases hk0 : k = 0
        · subst hk0
          rw [Nat.add_zero] at z0
          by_cases hvx : v ∈ ws
          · have d1 : decide (v ∈ ws) = true := decide_eq_true hvx
            rw [d1] at hqx
            have HQ := Lib.hid (And.intro hqx (And.intro hqy hch))
            clear hqx hqy hvx d1 hvz hch hv
            go_wp2_with fail
            go_quiet (first | (go_at_call_of 20 (Value.slice xsA ws.length xsc); exact Calls.quiet_of_same (HQ.out.1 _ (HQ.out.2.2.drewN _))) | (go_at_call_of 20 (Value.slice ysA ys.length ysc); exact Calls.quiet_of_same (HQ.out.2.1 _ (HQ.out.2.2.drewN _))))
            go_wp2_with fail
            go_roundw
            case rel => exact ⟨0 + 1, hlt, by simp, HQ.out.2.2.drewN nq⟩
            case measure => simp [intOf]; try omega
          · have d1 : decide (v ∈ ws) = false := decide_eq_false hvx
            have d2 : decide (v ∈ ys) = true := decide_eq_true ((HM.out.1 v hvz).resolve_left hvx)
            rw [d1] at hqx
            rw [d2] at hqy
            have HQ := Lib.hid (And.intro hqx (And.intro hqy hch))
            clear hqx hqy hvx d1 hvz hch hv d2
            go_wp2_with fail
            go_quiet (first | (go_at_call_of 20 (Value.slice xsA ws.length xsc); exact Calls.quiet_of_same (HQ.out.1 _ (HQ.out.2.2.drewN _))) | (go_at_call_of 20 (Value.slice ysA ys.length ysc); exact Calls.quiet_of_same (HQ.out.2.1 _ (HQ.out.2.2.drewN _))))
            go_wp2_with fail
            go_roundw
            case rel => exact ⟨0 + 1, hlt, by simp, HQ.out.2.2.drewN nq⟩
            case measure => simp [intOf]; try omega
        · obtain ⟨m, rfl⟩ : ∃ m, k = m + 1 := ⟨k - 1, by omega⟩
          have hltm : m < zs.length := by omega
          obtain ⟨zb', zo', hze, z1⟩ := int_at (SlR.keep HR.out.2.2.1 hch (no_letsH _ _) fun _ _ h => h) hltm
          obtain ⟨rfl, rfl⟩ : zb' = zb ∧ zo' = zo := by
            injection hze with hze
            injection hze with e1 e2
            exact ⟨e1.symm, e2.symm⟩
          obtain ⟨u, hu⟩ : ∃ u, zs.getD m 0 = u := ⟨_, rfl⟩
          have huv : ¬ v ≤ u := by
            have := HM.out.2.2.2 m (m + 1) (Nat.lt_succ_self m) hlt
            rw [hu, hv] at this
            omega
          rw [hu] at z1
          have p1 : decide (v ≤ u) = false := decide_eq_false huv
          have p2 : IntKind.i64.wrap ((m : Int) + 1 - 1) = (m : Int) := by rw [show ((m : Int) + 1 - 1) = (m : Int) by omega]; exact IntWalk.i64_in _ ⟨by omega, by omega⟩
          have p3 : (0 : Int) < (m : Int) + 1 := by omega
          have p4 : (m : Int) < (zs.length : Int) := by omega
          clear hze hu huv hk0
          by_cases hvx : v ∈ ws
          · have d1 : decide (v ∈ ws) = true := decide_eq_true hvx
            rw [d1] at hqx
            have HQ := Lib.hid (And.intro hqx (And.intro hqy hch))
            clear hqx hqy hvx d1 hvz hch hv
            go_wp2_with fail
            go_quiet (first | (go_at_call_of 20 (Value.slice xsA ws.length xsc); exact Calls.quiet_of_same (HQ.out.1 _ (HQ.out.2.2.drewN _))) | (go_at_call_of 20 (Value.slice ysA ys.length ysc); exact Calls.quiet_of_same (HQ.out.2.1 _ (HQ.out.2.2.drewN _))))
            go_wp2_with fail
            go_roundw
            case rel => exact ⟨m + 1 + 1, hlt, by simp, HQ.out.2.2.drewN nq⟩
            case measure => simp [intOf]; try omega
          · have d1 : decide (v ∈ ws) = false := decide_eq_false hvx
            have d2 : decide (v ∈ ys) = true := decide_eq_true ((HM.out.1 v hvz).resolve_left hvx)
            rw [d1] at hqx
            rw [d2] at hqy
            have HQ := Lib.hid (And.intro hqx (And.intro hqy hch))
            clear hqx hqy hvx d1 hvz hch hv d2
            go_wp2_with fail
            go_quiet (first | (go_at_call_of 20 (Value.slice xsA ws.length xsc); exact Calls.quiet_of_same (HQ.out.1 _ (HQ.out.2.2.drewN _))) | (go_at_call_of 20 (Value.slice ysA ys.length ysc); exact Calls.quiet_of_same (HQ.out.2.1 _ (HQ.out.2.2.drewN _))))
            go_wp2_with fail
            go_roundw
            case rel => exact ⟨m + 1 + 1, hlt, by simp, HQ.out.2.2.drewN nq⟩
            case measure => simp [intOf]; try omega
      · have q1 : decide (k < zs.length) = false := decide_eq_false hlt
        obtain rfl : k = zs.length := by omega
        have HL := Lib.hid hch
        clear hch
        go_wp2_with fail
        have hadd : IntKind.i64.wrap ((ws.length : Int) + (ys.length : Int)) = (ws.length : Int) + (ys.length : Int) := IntWalk.i64_in _ ⟨by omega, by omega⟩
        go_loopw [20] (fun i wr => ∃ k : Nat, k ≤ ws.length + ys.length ∧ i = .int .i64 (k : Int) ∧ Chg (fun _ _ => False) u3 wr) (fun i _ => ws.length + ys.length - (intOf i).toNat)
        case atStart => exact ⟨0, Nat.zero_le _, rfl, HL.out⟩
        case round =>
          obtain ⟨k, hk, rfl, hch⟩ := hrel
          have q3 : IntKind.i64.wrap ((k : Int) + 1) = (k : Int) + 1 := IntWalk.i64_in _ ⟨by omega, by omega⟩
          by_cases hlt : k < ws.length + ys.length
          · have q2 : (k : Int) < (ws.length : Int) + (ys.length : Int) := by omega
            have hqz : ∀ v ∈ zs, Calls Try.prog 20 #[.slice zsA zs.length zsc, .int .i64 v] wr fun e w' => e = .returned (.bool true) ∧ w' = wr := fun v hv => by
              have := has12_q _ wr zsA zsc zs v (SlR.keep HR.out.2.2.1 hch (no_letsH _ _) fun _ _ h => h) (by omega)
              rw [decide_eq_true hv] at this
              exact this
            by_cases hkx : k < ws.length
            · have p1 : (k : Int) < (ws.length : Int) := by omega
              have p2 : decide (k < ws.length) = true := decide_eq_true hkx
              have p3 : decide (ws.length ≤ k) = false := decide_eq_false (by omega)
              have p4 : ¬ (ws.length : Int) ≤ (k : Int) := by omega
              obtain ⟨xb, xo, rfl, z0⟩ := int_at (SlR.keep HR.out.1 hch (no_letsH _ _) fun _ _ h => h) hkx
              have c7 := hqz _ (HM.out.2.1 _ (getD_mem hkx))
              obtain ⟨v, hv⟩ : ∃ v, ws.getD k 0 = v := ⟨_, rfl⟩
              rw [hv] at z0 c7
              have HQ := Lib.hid hch
              clear hqz hch hv hk
              go_wp2_with fail
              refine c7.mono fun e w' hh => ?_
              obtain ⟨rfl, rfl⟩ := hh
              clear c7
              go_wp2_with fail
              go_roundw
              case rel => exact ⟨k + 1, hlt, by simp, HQ.out⟩
              case measure => simp [intOf]; omega
            · obtain ⟨j, rfl⟩ : ∃ j, k = ws.length + j := ⟨k - ws.length, by omega⟩
              have hj : j < ys.length := by omega
              have p1 : (j : Int) < (ys.length : Int) := by omega
              have p2 : IntKind.i64.wrap ((ws.length : Int) + (j : Int) - (ws.length : Int)) = (j : Int) := by rw [show ((ws.length : Int) + (j : Int) - (ws.length : Int)) = (j : Int) by omega]; exact IntWalk.i64_in _ ⟨by omega, by omega⟩
              have p3 : IntKind.i64.wrap (j : Int) = (j : Int) := IntWalk.i64_in _ ⟨by omega, by omega⟩
              have p4 : ¬ (ws.length : Int) + (j : Int) < (ws.length : Int) := by omega
              have p5 : (ws.length : Int) ≤ (ws.length : Int) + (j : Int) := by omega
              obtain ⟨xb, xo, rfl, z0⟩ := int_at (SlR.keep HR.out.2.1 hch (no_letsH _ _) fun _ _ h => h) hj
              have c7 := hqz _ (HM.out.2.2.1 _ (getD_mem hj))
              obtain ⟨v, hv⟩ : ∃ v, ys.getD j 0 = v := ⟨_, rfl⟩
              rw [hv] at z0 c7
              have HQ := Lib.hid hch
              clear hqz hch hv hk hkx
              go_wp2_with fail
              refine c7.mono fun e w' hh => ?_
              obtain ⟨rfl, rfl⟩ := hh
              clear c7
              go_wp2_with fail
              go_roundw
              case rel => exact ⟨ws.length + j + 1, hlt, by simp, HQ.out⟩
              case measure => simp [intOf]; omega
          · have q2 : ¬ (k : Int) < (ws.length : Int) + (ys.length : Int) := by omega
            have HQ := Lib.hid (HW3.out.1.trans hch.no)
            clear hch hk
            go_wp2_with fail
            go_ret
            exact ⟨by simp, below_ml2 HQ.out⟩
  · have hab : knownO S (roots ++ ruts) = false := by
      rw [known_append]
      cases h1 : knownO S roots with
      | false => rfl
      | true =>
        cases h2 : knownO S ruts with
        | false => rfl
        | true => exact absurd ⟨h1, h2⟩ hkk
    obtain rfl : eg = 15 := by rw [← HE.out.2.2, hab]; rfl
    cases h1 : knownO S roots with
    | false =>
      obtain rfl : ea = 15 := by rw [← HE.out.1, h1]; rfl
      clear hkk hab h1
      go_wp2_with fail
      go_ret
      exact ⟨by simp, below_ml2 HW3.out.1⟩
    | true =>
      have h2 : knownO S ruts = false := by
        cases h2 : knownO S ruts with
        | false => rfl
        | true => exact absurd ⟨h1, h2⟩ hkk
      obtain rfl : ea = 0 := by rw [← HE.out.1, h1]; rfl
      obtain rfl : eb = 15 := by rw [← HE.out.2.1, h2]; rfl
      clear hkk hab h1 h2
      go_wp2_with fail
      go_ret
      exact ⟨by simp, below_ml2 HW3.out.1⟩
end Go.Proofs.Yteigopmdhhgnfaa
