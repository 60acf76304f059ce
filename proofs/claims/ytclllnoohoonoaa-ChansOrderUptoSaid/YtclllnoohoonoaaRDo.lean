/-
  The reference: one of some cases goes on, or all wait (Do).
-/
import Derived.Test.YtclllnoohoonoaaRDoA
import Derived.Test.YtclllnoohoonoaaHeldG
namespace Go.Proofs.Ytclllnoohoonoaa
open Go.RowKit
set_option linter.unusedVariables false
set_option linter.unusedSimpArgs false

set_option maxRecDepth 100000 in
set_option maxHeartbeats 16000000 in
theorem rdo_any (w : World) (F : Nat → Prop) (p B : Nat) (H : HubD) (hH : HubFR F w p H) (hs : SmallH H) (hok : okH H) (who : Int) (hwho : I64 who) (cases : List CaseC) (A1 : Option Addr) (c1 : Nat) (hl : CasesX B w (.slice A1 cases.length c1) cases) (hn : cases.length ≤ 1099511627776) (hB : ∀ b, F b → B ≤ b) (pick : Int) (hpi : I64 pick) (wait : Bool) :
    Calls Try.prog 41 #[.pointer (some ⟨p, 0, none⟩), .int .i64 who, .slice A1 cases.length c1, .int .i64 pick, .bool wait] w (RDoRes (doC H who cases pick wait).2 F p (doC H who cases pick wait).1 w) := by
  have hca := chg_alloc w (.cells #[.int .i64 0, .int .u64 0, .bool false, .slice none 0 0, .int .i64 0] 95)
  have hbr := Blk.new w 95 #[.int .i64 0, .int .u64 0, .bool false, .slice none 0 0, .int .i64 0]
  have HH := Lib.hid (And.intro hH (And.intro hs (And.intro hok (And.intro hl (And.intro hwho (And.intro hca hbr))))))
  obtain ⟨r0, r1, r2, r3, r4⟩ := hbr.cells5
  have rz := hbr.frozen
  by_cases hneg : pick < 0
  · have HE := Lib.hid (doC_neg (H := H) (who := who) (cases := cases) (wait := wait) hneg)
    have hneg' : decide (pick < 0) = true := decide_eq_true hneg
    clear hneg hH hs hok hl hwho hca hbr
    go_enter Try.func41, Try.ntmps41
    go_wp2_with fail
    refine bodyPost_ret (rdo_results rfl (Blk.new w 95 #[.int .i64 0, .int .u64 0, .bool false, .slice none 0 0, .int .i64 2])) rfl ?_
    rw [HE.out]
    exact ⟨_, rfl, RSrvsT.nil _ _, HubQ.same HH.out.1 (chg_alloc w _)⟩
  have hneg' : decide (pick < 0) = false := decide_eq_false hneg
  have HN := Lib.hid (show 0 ≤ pick by omega)
  obtain ⟨B1, b1, B2, b2, B3, b3, B4, b4, hI⟩ := hH.keep hca (fun _ _ _ => id) (fun _ => id)
  have hline := Lib.hid (hI.line.slr (by decide) 0)
  obtain ⟨d0, d1, d2, d3⟩ := hI.blk.cells4
  have hwn := hs.wait
  clear hneg hI hH hs hok hl hwho hca hbr d0 d1 d2
  go_enter Try.func41, Try.ntmps41
  go_wp2_with fail
  generalize hwz : w.alloc (.cells #[.int .i64 0, .int .u64 0, .bool false, .slice none 0 0, .int .i64 0] 95) = wa at HH r0 r1 r2 r3 r4 rz hline d3 ⊢
  clear hwz
  go_loopw [11] (fun i wr => seekRel who wa H.wait i wr) (fun i _ => H.wait.length - (intOf i).toNat)
  case atStart => exact ⟨0, Nat.zero_le _, rfl, fun j y h => absurd h (Nat.not_lt_zero _), rfl⟩
  case round =>
    obtain ⟨k, hkl, rfl, hb, rfl⟩ := hrel
    by_cases hlt : k < H.wait.length
    · obtain ⟨b, o, x, A5, c5, rfl, hkx, _, _, hz⟩ := LineR.at3 hline.out hlt
      obtain ⟨z0, z1⟩ := hz _ _ (Chg.refl (fun _ _ => False) wr) fun _ => id
      have HK := Lib.hid (And.intro hkx hb)
      clear hkx hb hz
      by_cases hp : x.who = who
      · have hp' : (x.who == who) = true := by simpa using hp
        have htw : (whos H).any (eqI who) = true := by
          rw [List.any_eq_true]
          exact ⟨x.who, List.mem_of_getElem? (who_at HK.out.1), by simp [eqI, hp]⟩
        have HE := Lib.hid (doC_twice (cases := cases) (wait := wait) HN.out htw)
        clear hp htw
        go_wp2_with fail
        refine bodyPost_ret (rdo_results rfl (set5_blk HH.out.2.2.2.2.2.2 (.int .i64 0) (.int .u64 0) (.bool false) (.slice none 0 0) (.int .i64 8))) rfl ?_
        rw [HE.out]
        exact done_end (d := bad 8) HH.out.2.2.2.2.2.2 (Nat.le_refl _) (HubQ.same HH.out.1 HH.out.2.2.2.2.2.1) (RSrvsT.nil _ _) _ _ _ _ _
      · have hp' : (x.who == who) = false := by simpa using hp
        have HP := Lib.hid hp
        clear hp
        go_wp2_with fail
        go_roundw
        case rel => exact ⟨k + 1, hlt, by simp, idx_step (who_at HK.out.1) (decide_eq_false fun h => HP.out h.symm) HK.out.2, rfl⟩
        case measure => simp [intOf]; omega
    · obtain rfl : k = H.wait.length := by omega
      have htw : (whos H).any (eqI who) = false := by
        rw [List.any_eq_false]
        intro y hy
        obtain ⟨j, hj⟩ := List.getElem?_of_mem hy
        rw [hb j y (by have := (List.getElem?_eq_some_iff.1 hj).1; simpa [whos] using this) hj]
        simp
      have HT := Lib.hid htw
      clear hb htw hlt hkl
      go_wp2_with fail
      refine (rready_any _ F p B H (HH.out.1.keep HH.out.2.2.2.2.2.1 (fun _ _ _ => id) (fun _ => id)) HH.out.2.1 A1 c1 cases (HH.out.2.2.2.1.keep HH.out.2.2.2.2.2.1 (fun _ _ _ => id) fun _ => id) hn).mono fun e w3 hh => ?_
      obtain ⟨A3, c3, rfl, hrow, hc3⟩ := hh
      have hbr3 := hc3.blk HH.out.2.2.2.2.2.2 id
      have H3 := Lib.hid (And.intro hrow.read (And.intro (HH.out.2.2.2.2.2.1.trans hc3) hbr3))
      clear r0 r1 r2 r3 r4 rz
      obtain ⟨r0, r1, r2, r3, r4⟩ := hbr3.cells5
      have rz := hbr3.frozen
      have e3 := hc3.cell d3 fun _ => id
      clear hrow hc3 hbr3 d3
      cases hk : knownC H.list.length cases
      case false =>
        have HE := Lib.hid (doC_none (wait := wait) HN.out HT.out hk)
        rw [show readyE H cases = 15 by simp [readyE, hk]]
        clear hk
        go_wp2_with fail
        refine bodyPost_ret (rdo_results rfl (set5_blk H3.out.2.2 (.int .i64 0) (.int .u64 0) (.bool false) (.slice none 0 0) (.int .i64 15))) rfl ?_
        rw [HE.out]
        exact done_end (d := bad 15) H3.out.2.2 (Nat.le_refl _) (HubQ.same HH.out.1 H3.out.2.1) (RSrvsT.nil _ _) _ _ _ _ _
      have he : readyE H cases = 0 := by simp [readyE, hk]
      have ha : readyA H cases = readyC H cases := by simp [readyA, hk]
      rw [he, ha]
      rw [ha] at H3
      have HK := Lib.hid hk
      clear hk he ha
      cases hrc : readyC H cases with
      | nil =>
        have HE := Lib.hid (doC_wait (wait := wait) HN.out HT.out HK.out hrc)
        rw [hrc] at H3
        clear hrc
        cases wait
        · go_wp2_with fail
          refine bodyPost_ret (rdo_results rfl (set5_blk H3.out.2.2 (.int .i64 0) (.int .u64 0) (.bool false) (.slice none 0 0) (.int .i64 22))) rfl ?_
          rw [HE.out]
          exact done_end (d := bad 22) H3.out.2.2 (Nat.le_refl _) (HubQ.same HH.out.1 H3.out.2.1) (RSrvsT.nil _ _) _ _ _ _ _
        · obtain ⟨C1, k1, C2, k2, C3, k3, C4, k4, hI⟩ := HH.out.1.keep H3.out.2.1 (fun _ _ _ => id) (fun _ => id)
          obtain ⟨i0, hi0, hz0, hs0, hb0⟩ := info_parts infoRWaiter
          obtain ⟨i1, hi1, hz1, hs1, hb1⟩ := info_parts infoRCase
          obtain ⟨_, _, _, d3⟩ := hI.blk.cells4
          have hnw := HH.out.2.1.wait
          obtain ⟨xss, how, h2, h3, h4⟩ := hI.line
          have HI := Lib.hid (And.intro hI (And.intro (HH.out.2.2.2.1.keep H3.out.2.1 (fun _ _ _ => id) fun _ => id) (And.intro how (And.intro h2 (And.intro h3 h4)))))
          have hTn : ∀ n o, ((w3.drewN n).alloc o).cell? ⟨p, 3, none⟩ = some (.slice C4 H.wait.length k4) := fun n o => (((Chg.refl (fun _ _ => False) w3).drewN n).alloc _).cell d3 fun _ => id
          have hTa : ∀ o, (w3.alloc o).cell? ⟨p, 3, none⟩ = some (.slice C4 H.wait.length k4) := fun o => ((Chg.refl (fun _ _ => False) w3).alloc _).cell d3 fun _ => id
          clear hI how h2 h3 h4 e3 r0 r1 r2 r3 r4 rz
          go_wp2_with fail
          go_region_law (
            first
              | (refine step_append_blk _ rfl (.tmp 61) (.tmp 67) 31 rfl 0 40 i0 _ 2 32 Try.underlying31 hi0 hz0 hs0 hb0 rfl (by omega) C4 H.wait.length k4 xss.flatten (by rfl) (Chg.own (M := fun _ _ => False) (hX.trans (by repeat' (first | exact Chg.refl (fun _ _ => False) _ | apply Chg.drew | apply Chg.drewN | apply Chg.alloc))) HI.out.2.2.1 fun _ _ => id) 1 1 [.int .i64 who, .slice A5 cases.length c5] _ (by rfl) (by first | exact Blk.new _ _ _ | exact (Blk.new _ _ _).drew) rfl (by intro u hu; simp at hu; rcases hu with rfl | rfl <;> rfl) (by unfold maxLen; omega) (by omega) (Nat.zero_le _) ?_
                 intro A6 c6 w6 hown6 hg6 hp6
                 obtain ⟨hP, f0, f1⟩ := rwait_end HI.out.1 HI.out.2.2.2.1 HI.out.2.2.2.2.1 HI.out.2.2.2.2.2 HI.out.2.2.1 (hX.trans (by repeat' (first | exact Chg.refl (fun _ _ => False) _ | apply Chg.drew | apply Chg.drewN | apply Chg.alloc))) hown6 hg6 hp6 (hcl.out.keep (by repeat' (first | exact Chg.refl (fun _ _ => False) _ | apply Chg.drew | apply Chg.drewN | apply Chg.alloc)) (fun _ _ _ => id) fun _ => id) HH.out.2.2.2.2.1
                 have HP := Lib.hid hP
                 clear hown6 hg6 hp6 hP)
              | (refine step_copy_row _ rfl (.tmp 63) (.tmp 64) 38 rfl i1 _ 24 Try.underlying38 hi1 hz1 hs1 hb1 rfl (by omega) A1 cases.length c1 _ (by rfl) (by first | exact Blk.new _ _ _ | exact (Blk.new _ _ _).drew) (by rfl) (HI.out.2.1.keep (by repeat' (first | exact Chg.refl (fun _ _ => False) _ | apply Chg.drew | apply Chg.drewN | apply Chg.alloc)) (fun _ _ _ => id) fun _ => id) one_rcase hn (by omega) (fun _ _ _ h => h) ?_
                 intro A5 c5 w5 hr5 hc5
                 have hX : Chg (fun _ _ => False) w3 w5 := Chg.trans_new (by repeat' (first | exact Chg.refl (fun _ _ => False) _ | apply Chg.drew | apply Chg.drewN | apply Chg.alloc)) hc5 fun b t hb h => by have := h.1; first | omega | (simp at this; omega)
                 have hcl := Lib.hid (show CasesX 0 w5 (.slice A5 cases.length c5) cases from RowR.slr (by decide) hr5 0)
                 have hS := hX.cell d3 fun _ => id
                 have hSn : ∀ n o, ((w5.drewN n).alloc o).cell? ⟨p, 3, none⟩ = some (.slice C4 H.wait.length k4) := fun n o => (((Chg.refl (fun _ _ => False) w5).drewN n).alloc _).cell hS fun _ => id
                 have hSa : ∀ o, (w5.alloc o).cell? ⟨p, 3, none⟩ = some (.slice C4 H.wait.length k4) := fun o => ((Chg.refl (fun _ _ => False) w5).alloc _).cell hS fun _ => id
                 clear hr5 hc5))
          all_goals
            have hbr9 := HP.out.chg.blk H3.out.2.2 fun h => absurd h.2 (by decide)
            generalize w6.setCell _ _ = w9 at HP hbr9 ⊢
            obtain ⟨r0, r1, r2, r3, r4⟩ := hbr9.cells5
            have rz := hbr9.frozen
            have H9 := Lib.hid (And.intro hbr9 HP.out)
            clear hbr9 HP
            go_wp2_with fail
            refine bodyPost_ret (rdo_results rfl (set5_blk H9.out.1 (.int .i64 0) (.int .u64 0) (.bool false) (.slice none 0 0) (.int .i64 22))) rfl ?_
            rw [HE.out]
            simp only [if_true]
            exact done_end (d := bad 22) H9.out.1 (Nat.le_refl _) (HubQ.trans_new H3.out.2.1 H9.out.2) (RSrvsT.nil _ _) _ _ _ _ _
      | cons a r =>
        rw [hrc] at H3
        obtain ⟨pn, rfl⟩ : ∃ pn : Nat, pick = (pn : Int) := ⟨pick.toNat, by have := HN.out; omega⟩
        obtain ⟨m, hm⟩ : ∃ m, pn % (r.length + 1) = m := ⟨_, rfl⟩
        have hml : m < (a :: r).length := by rw [← hm]; exact Nat.mod_lt _ (by simp)
        obtain ⟨b3, o3, am, rfl, ham, y0⟩ := H3.out.1.at_ hml
        have ham' : (readyFrom H 0 cases)[m]? = some am := by rw [show readyFrom H 0 cases = a :: r from hrc]; exact ham
        obtain ⟨j, x, hj, hx, hcan⟩ := ready_mem H cases 0 m am ham'
        rw [Nat.zero_add] at hj
        subst hj
        obtain ⟨hx0, hx1⟩ := known_in HK.out hx
        have hxz : x.chan ≠ 0 := by
          intro h0
          rw [canC_zero h0] at hcan
          cases hcan
        have hjl : j < cases.length := (List.getElem?_eq_some_iff.1 hx).1
        have hdo := doC_at (wait := wait) (pn := pn) (j := j) rfl HT.out HK.out hrc (by rw [hm, List.getD_eq_getElem?_getD, ham]; rfl) hx
        have hrl : r.length + 1 ≤ cases.length := by have := ready_len H cases 0; rw [show readyFrom H 0 cases = a :: r from hrc] at this; simpa using this
        have hmi : ((pn : Int)).tmod ((r.length : Int) + 1) = (m : Int) := by
          rw [← hm, Int.natCast_emod]
          rw [Int.tmod_eq_emod_of_nonneg (by omega)]
          rfl
        have hmj : ((pn : Int)) % ((r.length : Int) + 1) = (m : Int) := by rw [← hm, Int.natCast_emod]; rfl
        have hmL : m < r.length + 1 := by simpa using hml
        have HX := Lib.hid (And.intro hx (And.intro hx0 (And.intro hx1 (And.intro hxz hdo))))
        obtain ⟨b4, o4, x', rfl, hx', hxi, hxu, c0, c1', c2'⟩ := (HH.out.2.2.2.1.keep (H3.out.2.1.trans (chg_alloc w3 (.cells #[.int .i64 j, .int .u64 0, .bool false, .slice none 0 0, .int .i64 0] 95))) (fun _ _ _ => id) fun _ => id).at_ hjl
        obtain rfl : x' = x := by rw [hx] at hx'; injection hx' with h; exact h.symm
        clear hx hx0 hx1 hxz hdo hx' hcan ham ham' hm hrc hml
        obtain ⟨send, chan, val⟩ := x'
        obtain ⟨k, hk⟩ : ∃ k : Nat, chan = (k : Int) + 1 := ⟨(chan - 1).toNat, by have := HX.out.2.1; have := HX.out.2.2.2.1; simp only at *; omega⟩
        simp only at hxi hxu c0 c1' c2' HX
        subst hk
        have hkl : k < H.list.length := by have := HX.out.2.2.1; omega
        have hkb : (k : Int) ≤ 1099511627776 := by have := HH.out.2.1.list; omega
        have hk0 : (0 : Int) ≤ (k : Int) := by omega
        have hk1 : (k : Int) < (H.list.length : Int) := by omega
        have hw1 : IntKind.i64.wrap ((k : Int) + 1 - 1) = (k : Int) := by rw [show ((k : Int) + 1 - 1) = (k : Int) by omega]; exact IntWalk.i64_in _ (by omega)
        have HB := Lib.hid (And.intro hxi hxu)
        clear hxi hxu
        go_wp2_with fail
        have hD0 := Blk.new w3 95 #[.int .i64 j, .int .u64 0, .bool false, .slice none 0 0, .int .i64 0]
        have hc4 := chg_alloc w3 (.cells #[.int .i64 j, .int .u64 0, .bool false, .slice none 0 0, .int .i64 0] 95)
        have hc5 := chg_alloc (w3.alloc (.cells #[.int .i64 j, .int .u64 0, .bool false, .slice none 0 0, .int .i64 0] 95)) (.cells #[.bool send, .int .i64 ((k : Int) + 1), .int .u64 val] 43)
        have hT0 := Blk.new (w3.alloc (.cells #[.int .i64 j, .int .u64 0, .bool false, .slice none 0 0, .int .i64 0] 95)) 43 #[.bool send, .int .i64 ((k : Int) + 1), .int .u64 val]
        rw [show (w3.alloc (.cells #[.int .i64 j, .int .u64 0, .bool false, .slice none 0 0, .int .i64 0] 95)).heap.size = w3.heap.size + 1 by simp] at hT0
        have hD1 := hc5.blk hD0 id
        have hR1 := (hc4.trans hc5).blk H3.out.2.2 id
        have hC1 := H3.out.2.1.trans (hc4.trans hc5)
        have hrd : w.heap.size < w3.heap.size := H3.out.2.2.lt
        generalize (w3.alloc (.cells #[.int .i64 j, .int .u64 0, .bool false, .slice none 0 0, .int .i64 0] 95)).alloc (.cells #[.bool send, .int .i64 ((k : Int) + 1), .int .u64 val] 43) = w5 at hT0 hD1 hR1 hC1 ⊢
        clear hD0 hc4 hc5 c0 c1' c2' y0 r0 r1 r2 r3 r4 rz e3 H3
        generalize w3.heap.size = dn at hT0 hD1 hrd ⊢
        refine (peer_any _ F p H (HH.out.1.keep hC1 (fun _ _ _ => id) (fun _ => id)) ((k : Int) + 1) (!send) HH.out.2.1).mono fun e w6 hh => ?_
        obtain ⟨rfl, rfl⟩ := hh
        rw [peerV_eq]
        obtain ⟨pr, hpr⟩ : ∃ pr, findW ((k : Int) + 1) (!send) H.wait = pr := ⟨_, rfl⟩
        rw [hpr]
        have hpi := peer_some pr
        have HP := Lib.hid hpr
        have HC := Lib.hid (And.intro hC1 (And.intro hR1 (And.intro hD1 hT0)))
        obtain ⟨A1, e1, A2, e2, A3, e3, A4, e4, hI⟩ := HH.out.1.keep hC1 (fun _ _ _ => id) (fun _ => id)
        obtain ⟨_, d1, d2, d3⟩ := hI.blk.cells4
        obtain ⟨gb, ch, v, rfl, hl2, hkx, hgk, hq, hu, hvF, hgz⟩ := BufsR.at_ hI.bufs hkl
        obtain ⟨gt, ch', rfl, hl3, hkx', hsk, _⟩ := ShutsR.at_ hI.shuts hkl
        obtain rfl : ch' = ch := by rw [hkx] at hkx'; injection hkx' with h; exact h.symm
        obtain ⟨t0, t1, t2⟩ := hT0.cells3
        obtain ⟨D0, D1, D2, D3, D4⟩ := hD1.cells5
        have Dz := hD1.frozen
        obtain ⟨r0, r1, r2, r3, r4⟩ := hR1.cells5
        have rz := hR1.frozen
        have HI := Lib.hid (And.intro hI (And.intro hkx (And.intro hq (And.intro hu hvF))))
        clear hI hkx hkx' hq hu hvF hpr hC1 hR1 hD1 hT0
        cases send
        · obtain ⟨A6, c6, hv6, hc6⟩ := HI.out.2.2.1.form
          subst hv6
          rw [u64V_len] at hgk hc6
          have hq6 := HI.out.2.2.1
          rw [u64V_len] at hq6
          have hbl : ch'.buf.length ≤ 1024 := by have := HH.out.2.2.1 k ch' HI.out.2.1; omega
          obtain ⟨i0, hi0, hz0, hs0, hb0⟩ := info_parts infoU64
          rcases pr with _ | ⟨i, q⟩
          · simp only [peerI] at hpi
            rcases hbuf : ch'.buf with _ | ⟨x, r⟩
            · have HE := Lib.hid (recv_nil HI.out.2.1 HP.out hbuf)
              rw [hbuf] at hgk hq6
              simp only [List.length_nil] at hgk hq6
              have HQ := Lib.hid hq6
              clear hq6 hsk hbuf hbl
              have a1 := (chg_alloc w6 (.cells #[] 41)).cell d1 fun _ => id
              have a2 := (chg_alloc w6 (.cells #[] 41)).cell hgk fun _ => id
              go_wp2_with (at_builtin; go_must (refine wpList_copy_q rfl (.tmp 150) (.tmp 157) 34 rfl 41 i0 _ 8 Try.underlying34 hi0 hz0 hs0 hb0 rfl w6.heap.size rfl (Blk.new w6 _ _) (.slice A6 0 c6) (u64V []) rfl (HQ.out.keep (chg_alloc w6 _) fun _ _ => id) 0 (u64V_len _) (one_u64V _) (by omega) (by omega) ?_))
              intro A7 c7 w7 hq7 hc7 ho7
              have hX : Chg (fun _ _ => False) w6 w7 := Chg.trans_new (chg_alloc w6 _) hc7 fun b t hb h => by have := h.1; omega
              have hD7 := hX.blk HC.out.2.2.1 id
              have hR7 := hX.blk HC.out.2.1 id
              clear r0 r1 r2 r3 r4 rz D0 D1 D2 D3 D4 Dz t0 t1 t2 d1 d2 d3 hgk hgz a1 a2
              obtain ⟨D0, D1, D2, D3, D4⟩ := hD7.cells5
              obtain ⟨r0, r1, r2, r3, r4⟩ := hR7.cells5
              have rz := hR7.frozen
              have H7 := Lib.hid (And.intro hX hR7)
              clear hX hD7 hR7 hq7 hc7 ho7
              go_wp2_with fail
              refine bodyPost_ret (rdo_results rfl (set5_blk H7.out.2 (.int .i64 j) (.int .u64 0) (.bool false) (.slice none 0 0) (.int .i64 0))) rfl ?_
              rw [HX.out.2.2.2.2]
              simp only [if_true]
              rw [HE.out]
              exact done_end (d := ⟨j, 0, false, [], 0⟩) H7.out.2 (Nat.le_refl _) (HubQ.same HH.out.1 (HC.out.1.trans H7.out.1)) (RSrvsT.nil _ _) _ _ _ _ _
            · have HE := Lib.hid (recv_none HI.out.2.1 HP.out hbuf)
              rw [hbuf] at hgk hq6 hbl
              simp only [List.length_cons] at hgk hq6 hbl
              have HQ := Lib.hid (And.intro hq6 (show ∀ y ∈ x :: r, U64 y by rw [← hbuf]; exact HI.out.2.2.2.1))
              clear hq6 hsk hbuf
              have a1 := (chg_alloc w6 (.cells #[] 41)).cell d1 fun _ => id
              have a2 := (chg_alloc w6 (.cells #[] 41)).cell hgk fun _ => id
              go_wp2_with (at_builtin; go_must (refine wpList_copy_q rfl (.tmp 150) (.tmp 157) 34 rfl 41 i0 _ 8 Try.underlying34 hi0 hz0 hs0 hb0 rfl w6.heap.size rfl (Blk.new w6 _ _) (.slice A6 (r.length + 1) c6) (u64V (x :: r)) rfl (HQ.out.1.keep (chg_alloc w6 _) fun _ _ => id) (r.length + 1) (u64V_len _) (one_u64V _) (by omega) (by omega) ?_))
              intro A7 c7 w7 hq7 hc7 ho7
              have hX : Chg (fun _ _ => False) w6 w7 := Chg.trans_new (chg_alloc w6 _) hc7 fun b t hb h => by have := h.1; omega
              have hD7 := hX.blk HC.out.2.2.1 id
              have hR7 := hX.blk HC.out.2.1 id
              obtain ⟨gq, oq, A8, rfl, hcq, hgql, hxc, hA8, hA8b, hq8⟩ := recv_end hq7
              have hI7 := HI.out.1.keep hX (fun _ _ _ => id) (fun _ => id)
              have hgq := ho7 gq (by rfl)
              clear r0 r1 r2 r3 r4 rz D0 D1 D2 D3 D4 Dz t0 t1 t2 d1 d2 d3 hgk hgz a1 a2
              obtain ⟨D0, D1, D2, D3, D4⟩ := hD7.cells5
              have Dz := hD7.frozen
              have H7 := Lib.hid (And.intro hX (And.intro hR7 (And.intro hD7 (And.intro hI7 (And.intro hq8 (And.intro hA8b hgq))))))
              clear hX hR7 hD7 hI7 hq8 hA8b hgq hq7 hc7 ho7
              go_wp2_with fail
              have hb1 := H7.out.2.2.1.set_ 1 (.int .u64 (x : Int))
              have hs2 := (chg_set (j := 1) H7.out.2.2.1 (.int .u64 (x : Int))).trans (chg_set (j := 2) hb1 (.bool true))
              have hD9 : Blk ((w7.setCell ⟨dn, 1, none⟩ (.int .u64 x)).setCell ⟨dn, 2, none⟩ (.bool true)) dn 95 #[.int .i64 j, .int .u64 x, .bool true, .slice none 0 0, .int .i64 0] := by simpa using hb1.set_ 2 (.bool true)
              have hR9 := hs2.blk H7.out.2.1 fun h => absurd h.1 (by omega)
              have hI9 := H7.out.2.2.2.1.keepT hs2 fun b t ht => done_ty b t dn ht
              have hq9 := H7.out.2.2.2.2.1.keep hs2 fun b hb h => absurd h.2 (by decide)
              have hC9 : Chg (MR F) w ((w7.setCell ⟨dn, 1, none⟩ (.int .u64 x)).setCell ⟨dn, 2, none⟩ (.bool true)) := ((HC.out.1.trans H7.out.1).mono fun _ _ _ h => h.elim).trans_le hs2 fun b t hb h => absurd h.1 (by omega)
              generalize (w7.setCell ⟨dn, 1, none⟩ (.int .u64 x)).setCell ⟨dn, 2, none⟩ (.bool true) = w9 at hD9 hR9 hI9 hq9 hC9 ⊢
              obtain ⟨gb', chx, vx, hAx, _, hkx, hgk, _, _, _, hgz⟩ := BufsR.at_ hI9.bufs hkl
              obtain rfl : gb = gb' := by injection hAx with h; injection h
              obtain ⟨cur, hgB⟩ := (hI9.bufs.lt (g := gb) rfl).2
              have hgp : gb ≠ p := hgB.ne_ hI9.blk (by decide)
              obtain ⟨_, d1, _, _⟩ := hI9.blk.cells4
              have hfz9 := hgz k
              have hQ9 := rbuf_end2 (F := F) hI9 HI.out.2.1 hq9 (fun y hy => HQ.out.2 y (by simp [hy])) (fun b hb => by
                have h1 : A8.block = b := by simpa [Value.ownBlock] using hb
                have h2 := H7.out.2.2.2.2.2.1
                have h3 := H7.out.2.2.2.2.2.2
                have h4 := HC.out.1.size
                omega) (fun b hb => .inl hb) hC9
              have hs10 := (chg_set (j := k) hgB (.slice (some A8) r.length (c7 - 1))).drew
              have hR10 := hs10.blk hR9 fun h => absurd h.2 (by decide)
              have hD10 := hs10.blk hD9 fun h => absurd h.2 (by decide)
              have H9 := Lib.hid (And.intro (hQ9.then_new (Chg.drew (Chg.refl _ _))) (And.intro hR10 hD10))
              clear hb1 hs2 hD9 hR9 hI9 hq9 hC9 hAx hkx hgB hgz hQ9 D0 D1 D2 D3 D4 Dz hxc hs10 hR10 hD10
              go_region
              all_goals
                generalize (w9.setCell ⟨gb, k, none⟩ (.slice (some A8) r.length (c7 - 1))).drew = w10 at H9 ⊢
                obtain ⟨D0, D1, D2, D3, D4⟩ := H9.out.2.2.cells5
                obtain ⟨r0, r1, r2, r3, r4⟩ := H9.out.2.1.cells5
                have rz := H9.out.2.1.frozen
                clear d1 hgk hfz9 hgp
                go_wp2_with fail
                refine bodyPost_ret (rdo_results rfl (set5_blk H9.out.2.1 (.int .i64 j) (.int .u64 x) (.bool true) (.slice none 0 0) (.int .i64 0))) rfl ?_
                rw [HX.out.2.2.2.2]
                simp only [if_true]
                rw [HE.out]
                exact done_end (d := ⟨j, x, true, [], 0⟩) H9.out.2.1 (Nat.le_refl _) H9.out.1 (RSrvsT.nil _ _) _ _ _ _ _
          · simp only [peerI, Option.isSome_some] at hpi
            simp only [peerI, peerK]
            obtain ⟨xw, hxw, hcase⟩ := findW_some HP.out
            have hil := findW_lt HP.out
            have hql := caseAt_lt hcase
            obtain ⟨b5, o5, x5, A5, c5, rfl, hix, _, hcs5, hz⟩ := LineR.at3 (HI.out.1.line.slr (by decide) 0) hil
            obtain rfl : x5 = xw := by rw [hxw] at hix; injection hix with h; exact h.symm
            obtain ⟨bc, oc, y, rfl, hyk, _, hyu, _, _, q2⟩ := hcs5.at_ hql
            obtain ⟨z0, z1⟩ := hz _ _ (Chg.refl (fun _ _ => False) w6) fun _ => id
            have hval : valOf H i q = y.val := by simp [valOf, hxw, List.getElem?_map, hyk]
            obtain ⟨x, r, hbs⟩ : ∃ x r, ch'.buf ++ [valOf H i q] = x :: r := by cases ch'.buf <;> exact ⟨_, _, rfl⟩
            have hlen : ch'.buf.length = r.length := by have := congrArg List.length hbs; simpa using this
            have hsv : srvOf H i q 0 true = ⟨x5.who, (q : Int), 0, true⟩ := by simp [srvOf, List.getElem?_map, hxw]
            have HE := Lib.hid (And.intro (recv_some HI.out.2.1 HP.out hbs) hsv)
            rw [hval] at hbs
            rw [hlen] at hgk hq6 hbl
            have hiI : (0 : Int) ≤ (i : Int) := by omega
            have hiJ : (i : Int) < (H.wait.length : Int) := by omega
            have hqI : (0 : Int) ≤ (q : Int) := by omega
            have hqJ : (q : Int) < (x5.cases.length : Int) := by omega
            have huy : ∀ y' ∈ x :: r, U64 y' := by
              rw [← hbs]
              intro y' hy'
              rcases List.mem_append.1 hy' with h | h
              · exact HI.out.2.2.2.1 y' h
              · simp at h; subst h; exact hyu
            have HQ := Lib.hid (And.intro hq6 (And.intro hbs (And.intro hlen huy)))
            have a1 := (chg_alloc w6 (.cells #[] 41)).cell d1 fun _ => id
            have a2 := (chg_alloc w6 (.cells #[] 41)).cell hgk fun _ => id
            clear hq6 hsk hbs hlen huy hval hsv hix hxw hcase hcs5 hyk hyu
            have HZ := Lib.hid hz
            clear hz
            go_wp2_with (at_builtin; go_must (refine wpList_copy_q rfl (.tmp 150) (.tmp 157) 34 rfl 41 i0 _ 8 Try.underlying34 hi0 hz0 hs0 hb0 rfl w6.heap.size rfl (Blk.new w6 _ _) (.slice A6 r.length c6) (u64V ch'.buf) rfl (HQ.out.1.keep (chg_alloc w6 _) fun _ _ => id) r.length (by rw [u64V_len]; exact HQ.out.2.2.1) (one_u64V _) (by omega) (by omega) ?_))
            intro A7 c7 w7 hq7 hc7 ho7
            have hX : Chg (fun _ _ => False) w6 w7 := Chg.trans_new (chg_alloc w6 _) hc7 fun b t hb h => by have := h.1; omega
            have e3 := hX.cell d3 fun _ => id
            have f1 := hX.cell z1 fun _ => id
            have f2 := hX.cell q2 fun _ => id
            have H7 := Lib.hid (And.intro hX (And.intro hq7 ho7))
            clear hX hq7 hc7 ho7 a1 a2
            go_wp2_with (at_builtin; go_must (refine wpList_append_q _ rfl (.tmp 161) (.tmp 174) 34 rfl 41 i0 _ 8 Try.underlying34 hi0 hz0 hs0 hb0 rfl (.slice A7 r.length c7) (u64V ch'.buf) rfl (H7.out.2.1.keep (chg_alloc w7 _) fun _ _ => id) w7.heap.size 1 (.int .u64 y.val) rfl ((Blk.new w7 _ _).cell 0) rfl (by rw [u64V_len, HQ.out.2.2.1]; unfold maxLen; omega) (by rw [u64V_len, HQ.out.2.2.1]; omega) ?_))
            intro A9 c9 w9 hq9 hg9 hb9
            rw [u64V_len, HQ.out.2.2.1] at hq9 hb9 ⊢
            have hXa : Chg (fun _ _ => False) w6 (w7.alloc (.cells #[.int .u64 (y.val : Int)] 41)) := H7.out.1.alloc _
            have hsz := hXa.size
            have hX9 : Chg (fun _ _ => False) w6 w9 := Chg.grown hXa hg9 fun g o hg ho => by
              have h1 := H7.out.2.2 g hg
              rw [Array.getElem?_eq_none h1] at ho
              cases ho
            have ho9 : ∀ b, (Value.slice A9 (r.length + 1) c9).ownBlock = some b → w6.heap.size ≤ b := fun b hb => by
              rcases hb9 with h | h
              · rw [h] at hb; exact H7.out.2.2 b hb
              · rw [h] at hb; injection hb with hb; rw [← hb]; simpa using hsz
            have hq9' : QR w9 41 (.slice A9 (r.length + 1) c9) (u64V (x :: r)) := by rw [← HQ.out.2.1]; simpa [u64V] using hq9
            obtain ⟨v0, _⟩ := HZ.out _ _ hX9 fun _ => id
            have e9 := hX9.cell d3 fun _ => id
            have hD9 := hX9.blk HC.out.2.2.1 id
            have hR9 := hX9.blk HC.out.2.1 id
            have hI9 := HI.out.1.keep hX9 (fun _ _ _ => id) (fun _ => id)
            clear r0 r1 r2 r3 r4 rz D0 D1 D2 D3 D4 Dz t0 t1 t2 d1 d2 d3 hgk hgz z0 z1 q2 e3 f1 f2
            obtain ⟨D0, D1, D2, D3, D4⟩ := hD9.cells5
            have Dz := hD9.frozen
            have hSa : ∀ o, (w9.alloc o).cell? ⟨dn, 3, none⟩ = some (.slice none 0 0) := fun o => (chg_alloc w9 o).cell D3 fun _ => id
            have hZa : ∀ o, (w9.alloc o).frozen? ⟨dn, 3, none⟩ = false := fun o => ((chg_alloc w9 o).blk hD9 id).frozen 3
            have H9 := Lib.hid (And.intro hX9 (And.intro hq9' (And.intro ho9 (And.intro hD9 (And.intro hR9 hI9)))))
            clear hq9 hg9 hb9 hXa hsz hX9 ho9 hq9' hD9 hR9 hI9
            go_wp2_with fail
            have hSn : Blk (w9.alloc (.cells #[.int .i64 x5.who, .int .i64 q, .int .u64 0, .bool true] 105)) w9.heap.size 105 #[.int .i64 x5.who, .int .i64 q, .int .u64 0, .bool true] := Blk.new _ _ _
            have hca9 := chg_alloc w9 (.cells #[.int .i64 x5.who, .int .i64 q, .int .u64 0, .bool true] 105)
            have hDa := hca9.blk H9.out.2.2.2.1 id
            have hs10 := chg_set (j := 3) hDa (.slice (some ⟨w9.heap.size, 0, none⟩) 1 1)
            have hc10 := (hca9.mono fun b t _ h => (h.elim : b = dn ∧ t = 95)).trans hs10
            have hD10 : Blk ((w9.alloc (.cells #[.int .i64 x5.who, .int .i64 q, .int .u64 0, .bool true] 105)).setCell ⟨dn, 3, none⟩ (.slice (some ⟨w9.heap.size, 0, none⟩) 1 1)) dn 95 #[.int .i64 j, .int .u64 0, .bool false, .slice (some ⟨w9.heap.size, 0, none⟩) 1 1, .int .i64 0] := by
              simpa using hDa.set_ 3 (.slice (some ⟨w9.heap.size, 0, none⟩) 1 1)
            have hS10 := hs10.blk hSn fun h => absurd h.2 (by decide)
            have hR10 := hc10.blk H9.out.2.2.2.2.1 fun h => absurd h.1 (by omega)
            have hI10 := H9.out.2.2.2.2.2.keepT hc10 fun b t ht => done_ty b t dn ht
            have hq10 := H9.out.2.1.keep hc10 fun b hb h => absurd h.2 (by decide)
            have hC10 : Chg (MR F) w ((w9.alloc (.cells #[.int .i64 x5.who, .int .i64 q, .int .u64 0, .bool true] 105)).setCell ⟨dn, 3, none⟩ (.slice (some ⟨w9.heap.size, 0, none⟩) 1 1)) := ((HC.out.1.trans H9.out.1).mono fun _ _ _ h => h.elim).trans_le hc10 fun b t hb h => absurd h.1 (by omega)
            have H10 := Lib.hid (And.intro hD10 (And.intro (RSrvsT.one (s := ⟨x5.who, (q : Int), 0, true⟩) hS10) (And.intro hR10 (And.intro hI10 (And.intro hq10 hC10)))))
            clear hSn hca9 hDa hs10 hc10 hD10 hS10 hR10 hI10 hq10 hC10 v0 e9 D0 D1 D2 D3 D4 Dz hSa hZa
            generalize (w9.alloc (.cells #[.int .i64 x5.who, .int .i64 q, .int .u64 0, .bool true] 105)).setCell ⟨dn, 3, none⟩ (.slice (some ⟨w9.heap.size, 0, none⟩) 1 1) = w10 at H10 ⊢
            generalize w9.heap.size = sn at H10 ⊢
            refine (rremove_any _ F p H ⟨_, _, _, _, _, _, _, _, H10.out.2.2.2.1⟩ HH.out.2.1 i hil).mono fun e w11 hh => ?_
            obtain ⟨rfl, F', hF', hsub, hch⟩ := hh
            obtain ⟨C1, g1, C2, g2, C3, g3, C4, g4, hI11⟩ := hF'
            have hD11 := hch.blk H10.out.1 fun h => absurd h.2 (by decide)
            have hR11 := hch.blk H10.out.2.2.1 fun h => absurd h.2 (by decide)
            have hq11 := H10.out.2.2.2.2.1.keep hch fun b hb h => absurd h.2 (by decide)
            have hS11 := H10.out.2.1.keep hch fun b h => absurd h.2 (by decide)
            obtain ⟨gq, oq, A8, rfl, hcq, hgql, hxc, hA8, hA8b, hq8⟩ := recv_end hq11
            have hgq : w6.heap.size ≤ gq := H9.out.2.2.1 gq (by rfl)
            have hgq' : w.heap.size ≤ gq := by have := HC.out.1.size; omega
            have hC11 : Chg (MR F) w w11 := H10.out.2.2.2.2.2.trans hch
            have hsz10 := H10.out.2.2.2.2.2.size
            obtain ⟨D0, D1, D2, D3, D4⟩ := hD11.cells5
            have Dz := hD11.frozen
            have H11 := Lib.hid (And.intro hI11 (And.intro hsub (And.intro hD11 (And.intro hR11 (And.intro hS11 (And.intro hA8b (And.intro hq8 (And.intro hgq' (And.intro hC11 hsz10)))))))))
            clear hI11 hsub hch hD11 hR11 hS11 hA8b hq8 hgq hgq' hC11 hsz10 hq11 H10
            go_wp2_with fail
            have hb1 := H11.out.2.2.1.set_ 1 (.int .u64 (x : Int))
            have hs2 := (chg_set (j := 1) H11.out.2.2.1 (.int .u64 (x : Int))).trans (chg_set (j := 2) hb1 (.bool true))
            have hD9 : Blk ((w11.setCell ⟨dn, 1, none⟩ (.int .u64 x)).setCell ⟨dn, 2, none⟩ (.bool true)) dn 95 #[.int .i64 j, .int .u64 x, .bool true, .slice (some ⟨sn, 0, none⟩) 1 1, .int .i64 0] := by simpa using hb1.set_ 2 (.bool true)
            have hR9 := hs2.blk H11.out.2.2.2.1 fun h => absurd h.1 (by omega)
            have hS9 := H11.out.2.2.2.2.1.keep hs2 fun b h => absurd h.2 (by decide)
            have hI9 := H11.out.1.keepT hs2 fun b t ht => done_ty b t dn ht
            have hq9 := H11.out.2.2.2.2.2.2.1.keep hs2 fun b hb h => absurd h.2 (by decide)
            have hC9 : Chg (MR F) w ((w11.setCell ⟨dn, 1, none⟩ (.int .u64 x)).setCell ⟨dn, 2, none⟩ (.bool true)) := H11.out.2.2.2.2.2.2.2.2.1.trans_le hs2 fun b t hb h => absurd h.1 (by omega)
            generalize (w11.setCell ⟨dn, 1, none⟩ (.int .u64 x)).setCell ⟨dn, 2, none⟩ (.bool true) = w12 at hD9 hR9 hS9 hI9 hq9 hC9 ⊢
            obtain ⟨gb', chx, vx, rfl, _, hkx, hgk, _, _, _, hgz⟩ := BufsR.at_ hI9.bufs (show k < (unwait H i).list.length from hkl)
            obtain ⟨cur, hgB⟩ := (hI9.bufs.lt (g := gb') rfl).2
            have hgp : gb' ≠ p := hgB.ne_ hI9.blk (by decide)
            obtain ⟨_, d1, _, _⟩ := hI9.blk.cells4
            have hfz9 := hgz k
            have hQ9 := rbuf_end2 (F := F) hI9 (show (unwait H i).list[k]? = some ch' from HI.out.2.1) hq9 (fun y hy => HQ.out.2.2.2 y (by simp [hy])) (fun b hb => by
              have h1 : A8.block = b := by simpa [Value.ownBlock] using hb
              have h2 := H11.out.2.2.2.2.2.1
              have h3 := H11.out.2.2.2.2.2.2.2.1
              omega) (fun b hb => (H11.out.2.1 b hb).imp id fun h => Nat.le_trans H11.out.2.2.2.2.2.2.2.2.2 h) hC9
            have hs10 := (chg_set (j := k) hgB (.slice (some A8) r.length (c9 - 1))).drew
            have hR10 := hs10.blk hR9 fun h => absurd h.2 (by decide)
            have hD10 := hs10.blk hD9 fun h => absurd h.2 (by decide)
            have hS10 := hS9.keep hs10 fun b h => absurd h.2 (by decide)
            have H12 := Lib.hid (And.intro (hQ9.then_new (Chg.drew (Chg.refl _ _))) (And.intro hR10 (And.intro hD10 hS10)))
            clear hb1 hs2 hD9 hR9 hS9 hI9 hq9 hC9 hkx hgB hgz hQ9 D0 D1 D2 D3 D4 Dz hxc hs10 hR10 hD10 hS10
            rw [show (unwait H i).list.length = H.list.length from rfl] at d1
            go_region
            all_goals
              generalize (w12.setCell ⟨gb', k, none⟩ (.slice (some A8) r.length (c9 - 1))).drew = w13 at H12 ⊢
              obtain ⟨D0, D1, D2, D3, D4⟩ := H12.out.2.2.1.cells5
              obtain ⟨r0, r1, r2, r3, r4⟩ := H12.out.2.1.cells5
              have rz := H12.out.2.1.frozen
              clear d1 hgk hfz9 hgp
              go_wp2_with fail
              refine bodyPost_ret (rdo_results rfl (set5_blk H12.out.2.1 (.int .i64 j) (.int .u64 x) (.bool true) (.slice (some ⟨sn, 0, none⟩) 1 1) (.int .i64 0))) rfl ?_
              rw [HX.out.2.2.2.2]
              simp only [if_true]
              rw [HE.out.1, HE.out.2]
              exact done_end (d := ⟨j, x, true, [⟨x5.who, (q : Int), 0, true⟩], 0⟩) H12.out.2.1 (Nat.le_refl _) H12.out.1 H12.out.2.2.2 _ _ _ _ _
        have hsh : shutOf H ((k : Int) + 1) = ch'.shut := by
          simp only [shutOf]
          rw [show ((k : Int) + 1 - 1).toNat = k by omega, HI.out.2.1]
        cases hshv : ch'.shut
        case true =>
          rw [hshv] at hsk hsh
          have HS := Lib.hid hsh
          clear hsh hshv
          go_wp2_with fail
          have hs2 := chg_set (j := 4) HC.out.2.2.1 (.int .i64 21)
          have hR2 := hs2.blk HC.out.2.1 fun h => absurd h.1 (by omega)
          refine bodyPost_ret (rdo_results rfl (set5_blk hR2 (.int .i64 j) (.int .u64 0) (.bool false) (.slice none 0 0) (.int .i64 21))) rfl ?_
          rw [HX.out.2.2.2.2]
          simp only [Bool.true_eq_false, if_false, HS.out, if_true]
          exact done_end (d := ⟨j, 0, false, [], 21⟩) hR2 (Nat.le_refl _) ((HubQ.same HH.out.1 HC.out.1).other hs2 (fun b t ht => done_ty b t dn ht) fun b t h => by rw [h.1]; omega) (RSrvsT.nil _ _) _ _ _ _ _
        rw [hshv] at hsk hsh
        have HS := Lib.hid hsh
        clear hsh hshv
        rcases pr with _ | ⟨i, q⟩
        · simp only [peerI] at hpi
          go_wp2_with fail
          have hs2 := chg_set (j := 2) HC.out.2.2.1 (.bool true)
          have hD2 : Blk (w6.setCell ⟨dn, 2, none⟩ (.bool true)) dn 95 #[.int .i64 j, .int .u64 0, .bool true, .slice none 0 0, .int .i64 0] := by simpa using HC.out.2.2.1.set_ 2 (.bool true)
          have hR2 := hs2.blk HC.out.2.1 fun h => absurd h.1 (by omega)
          have hT2 := hs2.blk HC.out.2.2.2 fun h => absurd h.2 (by decide)
          have hI2 := HI.out.1.keepT hs2 fun b t ht => done_ty b t dn ht
          have hC2 : Chg (fun b t => b = dn ∧ t = 95) w (w6.setCell ⟨dn, 2, none⟩ (.bool true)) := (HC.out.1.mono fun _ _ _ h => h.elim).trans hs2
          generalize w6.setCell ⟨dn, 2, none⟩ (.bool true) = w7 at hD2 hR2 hT2 hI2 hC2 ⊢
          obtain ⟨gb', ch2, v2, hA, _, hkx2, hgk2, hq2, hu2, hvF, hgz2⟩ := BufsR.at_ hI2.bufs hkl
          obtain rfl : gb = gb' := by injection hA with hA; injection hA
          obtain rfl : ch2 = ch' := by have := HI.out.2.1; rw [hkx2] at this; injection this
          clear r0 r1 r2 r3 r4 rz D0 D1 D2 D3 D4 Dz t0 t1 t2 d1 d2 d3 hs2 HC hgk hsk hgz hA
          obtain ⟨_, d1, _, _⟩ := hI2.blk.cells4
          obtain ⟨_, _, t2⟩ := hT2.cells3
          obtain ⟨A6, c6, rfl, hc6⟩ := hq2.form
          rw [u64V_len] at hgk2 hq2 hc6
          have hbl : ch2.buf.length ≤ 1024 := by have := HH.out.2.2.1 k ch2 hkx2; omega
          have hsm := HH.out.2.1
          obtain ⟨i0, hi0, hz0, hs0, hb0⟩ := info_parts infoU64
          have HI := Lib.hid (And.intro hI2 (And.intro hkx2 (And.intro hq2 (And.intro hu2 (And.intro hD2 (And.intro hR2 hC2))))))
          have hs10 : ∀ o, (w7.alloc o).cell? ⟨p, 1, none⟩ = some (.slice (some ⟨gb, 0, none⟩) H.list.length e2) := fun o => (chg_alloc w7 o).cell d1 fun _ => id
          have hs20 : ∀ o o', ((w7.alloc o).alloc o').cell? ⟨p, 1, none⟩ = some (.slice (some ⟨gb, 0, none⟩) H.list.length e2) := fun o o' => (chg_alloc _ o').cell (hs10 o) fun _ => id
          have hs11 : ∀ o, (w7.alloc o).cell? ⟨gb, k, none⟩ = some (.slice A6 ch2.buf.length c6) := fun o => (chg_alloc w7 o).cell hgk2 fun _ => id
          have hs21 : ∀ o o', ((w7.alloc o).alloc o').cell? ⟨gb, k, none⟩ = some (.slice A6 ch2.buf.length c6) := fun o o' => (chg_alloc _ o').cell (hs11 o) fun _ => id
          have hs12 : ∀ o, (w7.alloc o).cell? ⟨dn + 1, 2, none⟩ = some (.int .u64 val) := fun o => (chg_alloc w7 o).cell t2 fun _ => id
          have hs22 : ∀ o o', ((w7.alloc o).alloc o').cell? ⟨dn + 1, 2, none⟩ = some (.int .u64 val) := fun o o' => (chg_alloc _ o').cell (hs12 o) fun _ => id
          obtain ⟨cur, hgB⟩ := (hI2.bufs.lt (g := gb) rfl).2
          have hgp : gb ≠ p := hgB.ne_ hI2.blk (by decide)
          have hgt : gb ≠ dn + 1 := hgB.ne_ hT2 (by decide)
          have hse : sendC H ⟨true, (k : Int) + 1, val⟩ = (setCh H k { ch2 with buf := ch2.buf ++ [val] }, []) := by
            unfold sendC
            simp only
            rw [show findW ((k : Int) + 1) false H.wait = none from HP.out]
            simp only
            rw [show ((k : Int) + 1 - 1).toNat = k by omega, hkx2]
          have HE := Lib.hid hse
          clear hI2 hkx2 hq2 hu2 hD2 hR2 hC2 hvF hT2 hgB hse
          have hS0 : w7.drew.cell? ⟨p, 1, none⟩ = some (.slice (some ⟨gb, 0, none⟩) H.list.length e2) ∧ w7.drew.cell? ⟨gb, k, none⟩ = some (.slice A6 ch2.buf.length c6) ∧ w7.drew.cell? ⟨dn + 1, 2, none⟩ = some (.int .u64 val) := ⟨d1, hgk2, t2⟩
          refine wp_region_G (S := fun w' => w'.cell? ⟨p, 1, none⟩ = some (.slice (some ⟨gb, 0, none⟩) H.list.length e2) ∧ w'.cell? ⟨gb, k, none⟩ = some (.slice A6 ch2.buf.length c6) ∧ w'.cell? ⟨dn + 1, 2, none⟩ = some (.int .u64 val)) 19 (by kernel_rfl) hS0 (fun hHeld => ?_)
          refine wpAnyG_take (i := 0) (v := ?va1) rfl (by kernel_rfl) (fun _ _ _ h => h) (Or.inl ⟨by rfl, ?hy1⟩) (by assumption) ?ra1
          case hy1 => (intro w hSw; (try dsimp only at hSw); go_simp; all_goals (with_reducible rfl))
          simp only [Act.put, List.setIfInBounds_toArray, List.set_cons_zero, List.set_cons_succ]
          refine wpAnyG_take (i := 1) (v := ?va2) rfl (by kernel_rfl) (fun _ _ _ h => h) (Or.inl ⟨by rfl, ?hy2⟩) (by assumption) ?ra2
          case hy2 => (intro w hSw; (try dsimp only at hSw); go_simp; all_goals (with_reducible rfl))
          simp only [Act.put, List.setIfInBounds_toArray, List.set_cons_zero, List.set_cons_succ]
          refine wpAnyG_take (i := 2) (v := ?va3) rfl (by kernel_rfl) (fun _ _ _ h => h) (Or.inl ⟨by rfl, ?hy3⟩) (by assumption) ?ra3
          case hy3 => (intro w hSw; (try dsimp only at hSw); go_simp; all_goals (with_reducible rfl))
          simp only [Act.put, List.setIfInBounds_toArray, List.set_cons_zero, List.set_cons_succ]
          refine wpAnyG_take (i := 3) (v := ?va4) rfl (by kernel_rfl) (fun _ _ _ h => h) (Or.inl ⟨by rfl, ?hy4⟩) (by assumption) ?ra4
          case hy4 => (intro w hSw; (try dsimp only at hSw); go_simp; all_goals (with_reducible rfl))
          simp only [Act.put, List.setIfInBounds_toArray, List.set_cons_zero, List.set_cons_succ]
          refine wpAnyG_take (i := 4) (v := ?va5) rfl (by kernel_rfl) (fun _ _ _ h => h) (Or.inl ⟨by rfl, ?hy5⟩) (by assumption) ?ra5
          case hy5 => (intro w hSw; (try dsimp only at hSw); go_simp; all_goals (with_reducible rfl))
          simp only [Act.put, List.setIfInBounds_toArray, List.set_cons_zero, List.set_cons_succ]
          refine wpAnyG_take (i := 6) (v := ?va6) rfl (by kernel_rfl) (fun _ _ _ h => h) (Or.inl ⟨by rfl, ?hy6⟩) (by assumption) ?ra6
          case hy6 => (intro w hSw; (try dsimp only at hSw); go_simp; all_goals (with_reducible rfl))
          simp only [Act.put, List.setIfInBounds_toArray, List.set_cons_zero, List.set_cons_succ]
          refine wpAnyG_take (i := 7) (v := ?va7) rfl (by kernel_rfl) (fun _ _ _ h => h) (Or.inl ⟨by rfl, ?hy7⟩) (by assumption) ?ra7
          case hy7 => (intro w hSw; (try dsimp only at hSw); go_simp; all_goals (with_reducible rfl))
          simp only [Act.put, List.setIfInBounds_toArray, List.set_cons_zero, List.set_cons_succ]
          refine wpAnyG_take (i := 8) (v := ?va8) rfl (by kernel_rfl) (fun _ _ _ h => h) (Or.inl ⟨by rfl, ?hy8⟩) (by assumption) ?ra8
          case hy8 => (intro w hSw; (try dsimp only at hSw); go_simp; all_goals (with_reducible rfl))
          simp only [Act.put, List.setIfInBounds_toArray, List.set_cons_zero, List.set_cons_succ]
          refine wpAnyG_take (i := 9) (v := ?va9) rfl (by kernel_rfl) (fun _ _ _ h => h) (Or.inl ⟨by rfl, ?hy9⟩) (by assumption) ?ra9
          case hy9 => (intro w hSw; (try dsimp only at hSw); go_simp; all_goals (with_reducible rfl))
          simp only [Act.put, List.setIfInBounds_toArray, List.set_cons_zero, List.set_cons_succ]
          refine wpAnyG_take (i := 10) (v := ?va10) rfl (by kernel_rfl) (fun _ _ _ h => h) (Or.inl ⟨by rfl, ?hy10⟩) (by assumption) ?ra10
          case hy10 => (intro w hSw; (try dsimp only at hSw); go_simp; all_goals (with_reducible rfl))
          simp only [Act.put, List.setIfInBounds_toArray, List.set_cons_zero, List.set_cons_succ]
          refine wpAnyG_take (i := 11) (v := ?va11) rfl (by kernel_rfl) (fun _ _ _ h => h) (Or.inl ⟨by rfl, ?hy11⟩) (by assumption) ?ra11
          case hy11 => (intro w hSw; (try dsimp only at hSw); go_simp; all_goals (with_reducible rfl))
          simp only [Act.put, List.setIfInBounds_toArray, List.set_cons_zero, List.set_cons_succ]
          refine wpAnyG_take (i := 12) (v := ?va12) rfl (by kernel_rfl) (fun _ _ _ h => h) (Or.inl ⟨by rfl, ?hy12⟩) (by assumption) ?ra12
          case hy12 => (intro w hSw; (try dsimp only at hSw); go_simp; all_goals (with_reducible rfl))
          simp only [Act.put, List.setIfInBounds_toArray, List.set_cons_zero, List.set_cons_succ]
          refine wpAnyG_take (i := 14) (v := ?va13) rfl (by kernel_rfl) (fun _ _ _ h => h) (Or.inl ⟨by rfl, ?hy13⟩) (by assumption) ?ra13
          case hy13 => (intro w hSw; (try dsimp only at hSw); go_simp; all_goals (with_reducible rfl))
          simp only [Act.put, List.setIfInBounds_toArray, List.set_cons_zero, List.set_cons_succ]
          refine wpAnyG_take (i := 15) (v := ?va14) rfl (by kernel_rfl) (fun _ _ _ h => h) (Or.inl ⟨by rfl, ?hy14⟩) (by assumption) ?ra14
          case hy14 => (intro w hSw; (try dsimp only at hSw); go_simp; all_goals (with_reducible rfl))
          simp only [Act.put, List.setIfInBounds_toArray, List.set_cons_zero, List.set_cons_succ]
          refine wpAnyG_ready (rs := [5, 16]) (by kernel_rfl) (by simp) ?_
          refine AllReadyG.cons rfl (fun K hK => ?_) ?_
          · skip
            go_simp
            refine hK.out _ _ ⟨hs10 _, hs11 _, hs12 _⟩ (fun hHeld => ?_)
            clear hK K
            try simp only [Act.put, List.setIfInBounds_toArray, List.set_cons_zero, List.set_cons_succ]
            refine wpAnyG_ready (rs := [13, 16]) (by kernel_rfl) (by simp) ?_
            refine AllReadyG.cons rfl (fun K hK => ?_) ?_
            · skip
              refine step_copy_q _ rfl (.tmp 135) (.tmp 142) 34 rfl 41 i0 _ 8 Try.underlying34 hi0 hz0 hs0 hb0 rfl (w7.heap.size) (by first | rfl | simp [Act.eval, Act.put]) (Blk.new w7 _ _) (.slice A6 ch2.buf.length c6) (u64V ch2.buf) (by first | rfl | simp [Act.eval, Act.put]) (HI.out.2.2.1.keep (by repeat' (first | exact Chg.refl (fun _ _ => False) _ | apply Chg.drew | apply Chg.drewN | apply Chg.alloc)) fun _ _ => id) ch2.buf.length (u64V_len _) (one_u64V _) (by omega) (by omega) ?_
              intro A7 c7 w8 hq8 hc8 ho8
              have hX : Chg (fun _ _ => False) w7 w8 := Chg.trans_new (by repeat' (first | exact Chg.refl (fun _ _ => False) _ | apply Chg.drew | apply Chg.drewN | apply Chg.alloc)) hc8 fun b t hb h => by have := h.1; first | omega | (simp at this; omega)
              have HQ8 := Lib.hid (And.intro hq8 (And.intro hX (show ∀ b, (Value.slice A7 ch2.buf.length c7).ownBlock = some b → w7.heap.size ≤ b from fun b hb => by have := ho8 b hb; omega)))
              clear hq8 hc8 ho8
              have g00 := hX.cell d1 fun _ => id
              have g01 := hX.cell hgk2 fun _ => id
              have g02 := hX.cell t2 fun _ => id
              have g10 : ∀ o, (w8.alloc o).cell? ⟨p, 1, none⟩ = some (.slice (some ⟨gb, 0, none⟩) H.list.length e2) := fun o => (chg_alloc w8 o).cell g00 fun _ => id
              have g11 : ∀ o, (w8.alloc o).cell? ⟨gb, k, none⟩ = some (.slice A6 ch2.buf.length c6) := fun o => (chg_alloc w8 o).cell g01 fun _ => id
              have g12 : ∀ o, (w8.alloc o).cell? ⟨dn + 1, 2, none⟩ = some (.int .u64 val) := fun o => (chg_alloc w8 o).cell g02 fun _ => id
              clear hX
              refine hK.out _ _ ⟨g00, g01, g02⟩ (fun hHeld => ?_)
              clear hK K
              try simp only [Act.put, List.setIfInBounds_toArray, List.set_cons_zero, List.set_cons_succ]
              refine wpAnyG_ready (rs := [16]) (by kernel_rfl) (by simp) ?_
              refine AllReadyG.cons rfl (fun K hK => ?_) ?_
              · skip
                go_simp
                refine hK.out _ _ ⟨g10 _, g11 _, g12 _⟩ (fun hHeld => ?_)
                clear hK K
                try simp only [Act.put, List.setIfInBounds_toArray, List.set_cons_zero, List.set_cons_succ]
                refine wpAnyG_ready (rs := [17]) (by kernel_rfl) (by simp) ?_
                refine AllReadyG.cons rfl (fun K hK => ?_) ?_
                · skip
                  refine step_append_q _ rfl (.tmp 143) (.tmp 146) 34 rfl 41 i0 _ 8 Try.underlying34 hi0 hz0 hs0 hb0 rfl (.slice A7 ch2.buf.length c7) (u64V ch2.buf) (by first | rfl | simp [Act.eval, Act.put]) (HQ8.out.1.keep (by repeat' (first | exact Chg.refl (fun _ _ => False) _ | apply Chg.drew | apply Chg.drewN | apply Chg.alloc)) fun _ _ => id) _ _ (.int .u64 val) (by first | rfl | simp [Act.eval, Act.put]) (by first | exact (Blk.new _ _ _).cell 0 | exact (Blk.new _ _ _).drew.cell 0) rfl (by rw [u64V_len]; unfold maxLen; omega) (by rw [u64V_len]; omega) ?_
                  intro A9 c9 w9 hq9 hg9 hb9
                  have hXa : Chg (fun _ _ => False) w7 (w8.alloc (.cells #[.int .u64 (val : Int)] 41)) := HQ8.out.2.1.trans (by repeat' (first | exact Chg.refl (fun _ _ => False) _ | apply Chg.drew | apply Chg.drewN | apply Chg.alloc))
                  have hsz := hXa.size
                  have hX9 : Chg (fun _ _ => False) w7 w9 := Chg.grown hXa hg9 fun g o hg ho => by
                    have h1 := HQ8.out.2.2 g hg
                    rw [Array.getElem?_eq_none h1] at ho
                    cases ho
                  have h90 := hX9.cell d1 fun _ => id
                  have h91 := hX9.cell hgk2 fun _ => id
                  have h92 := hX9.cell t2 fun _ => id
                  rw [u64V_len] at hq9 hb9 ⊢
                  obtain ⟨hQ9, f9⟩ := rbuf_end (buf' := ch2.buf ++ [val]) HI.out.1 HI.out.2.1 hX9 (by simpa [u64V] using hq9) (by
                    intro y hy
                    rcases List.mem_append.1 hy with h | h
                    · exact HI.out.2.2.2.1 y h
                    · simp at h; subst h; exact HB.out.2) (fun b hb => by
                    rcases hb9 with h | h
                    · rw [h] at hb; exact .inr (HQ8.out.2.2 b hb)
                    · rw [h] at hb; injection hb with hb; exact .inr (by rw [← hb]; exact hsz))
                  have HQ9 := Lib.hid hQ9
                  clear hq9 hg9 hb9 hX9 hQ9 hXa hsz
                  refine hK.out _ _ ⟨h90, h91, h92⟩ (fun hHeld => ?_)
                  clear hK K
                  try simp only [Act.put, List.setIfInBounds_toArray, List.set_cons_zero, List.set_cons_succ]
                  refine wpAnyG_take (i := 18) (v := ?va15) rfl (by kernel_rfl) (fun _ _ _ h => h) (Or.inl ⟨by rfl, ?hy15⟩) (by assumption) ?ra15
                  case hy15 => (intro w hSw; (try dsimp only at hSw); go_simp; all_goals (with_reducible rfl))
                  simp only [Act.put, List.setIfInBounds_toArray, List.set_cons_zero, List.set_cons_succ]
                  refine wpAnyG_last rfl (by kernel_rfl) (by kernel_rfl) (fun K hK => ?_)
                  go_simp
                  refine hK.out _ _ ?_
                  clear hK K
                  try simp only [Act.put, List.setIfInBounds_toArray, List.set_cons_zero, List.set_cons_succ]
                  generalize w9.setCell ⟨gb, k, none⟩ (.slice A9 (ch2.buf.length + 1) c9) = w10 at HQ9 ⊢
                  have hD9 := HQ9.out.chg.blk HI.out.2.2.2.2.1 fun h => absurd h.2 (by decide)
                  have hR9 := HQ9.out.chg.blk HI.out.2.2.2.2.2.1 fun h => absurd h.2 (by decide)
                  clear h90 h91 h92 f9 hHeld hS0 hs10 hs20 hs11 hs21 hs12 hs22 g00 g01 g02 g10 g11 g12 d1 t2 hgk2
                  obtain ⟨D0, D1, D2, D3, D4⟩ := hD9.cells5
                  obtain ⟨r0, r1, r2, r3, r4⟩ := hR9.cells5
                  have rz := hR9.frozen
                  have H9 := Lib.hid (And.intro HQ9.out hR9)
                  clear hD9 hR9
                  go_wp2_with fail
                  refine bodyPost_ret (rdo_results rfl (set5_blk H9.out.2 (.int .i64 j) (.int .u64 0) (.bool true) (.slice none 0 0) (.int .i64 0))) rfl ?_
                  rw [HX.out.2.2.2.2, HE.out]
                  simp only [Bool.true_eq_false, if_false, HS.out]
                  exact done_end (d := ⟨j, 0, true, [], 0⟩) H9.out.2 (Nat.le_refl _) (HubQ.pre HI.out.2.2.2.2.2.2 (fun b t h => by rw [h.1]; omega) H9.out.1) (RSrvsT.nil _ _) _ _ _ _ _
                exact AllReadyG.nil
              exact AllReadyG.nil
            refine AllReadyG.cons rfl (fun K hK => ?_) ?_
            · skip
              go_simp
              refine hK.out _ _ ⟨hs20 _ _, hs21 _ _, hs22 _ _⟩ (fun hHeld => ?_)
              clear hK K
              try simp only [Act.put, List.setIfInBounds_toArray, List.set_cons_zero, List.set_cons_succ]
              refine wpAnyG_ready (rs := [13]) (by kernel_rfl) (by simp) ?_
              refine AllReadyG.cons rfl (fun K hK => ?_) ?_
              · skip
                refine step_copy_q _ rfl (.tmp 135) (.tmp 142) 34 rfl 41 i0 _ 8 Try.underlying34 hi0 hz0 hs0 hb0 rfl (w7.heap.size) (by first | rfl | simp [Act.eval, Act.put]) ((Blk.new w7 41 #[]).alloc _) (.slice A6 ch2.buf.length c6) (u64V ch2.buf) (by first | rfl | simp [Act.eval, Act.put]) (HI.out.2.2.1.keep (by repeat' (first | exact Chg.refl (fun _ _ => False) _ | apply Chg.drew | apply Chg.drewN | apply Chg.alloc)) fun _ _ => id) ch2.buf.length (u64V_len _) (one_u64V _) (by omega) (by omega) ?_
                intro A7 c7 w8 hq8 hc8 ho8
                have hX : Chg (fun _ _ => False) w7 w8 := Chg.trans_new (by repeat' (first | exact Chg.refl (fun _ _ => False) _ | apply Chg.drew | apply Chg.drewN | apply Chg.alloc)) hc8 fun b t hb h => by have := h.1; first | omega | (simp at this; omega)
                have hvc : w8.cell? ⟨w7.heap.size + 1, 0, none⟩ = some (.int .u64 val) := hc8.cell (by have h5 := (Blk.new (w7.alloc (.cells #[] 41)) 41 #[.int .u64 (val : Int)]).cell 0; rw [show (w7.alloc (.cells #[] 41)).heap.size = w7.heap.size + 1 by simp] at h5; exact h5) (fun t h => by have := h.1; simp at this)
                have HQ8 := Lib.hid (And.intro hq8 (And.intro hX (show ∀ b, (Value.slice A7 ch2.buf.length c7).ownBlock = some b → w7.heap.size ≤ b from fun b hb => by have := ho8 b hb; omega)))
                clear hq8 hc8 ho8
                have g00 := hX.cell d1 fun _ => id
                have g01 := hX.cell hgk2 fun _ => id
                have g02 := hX.cell t2 fun _ => id
                have g10 : ∀ o, (w8.alloc o).cell? ⟨p, 1, none⟩ = some (.slice (some ⟨gb, 0, none⟩) H.list.length e2) := fun o => (chg_alloc w8 o).cell g00 fun _ => id
                have g11 : ∀ o, (w8.alloc o).cell? ⟨gb, k, none⟩ = some (.slice A6 ch2.buf.length c6) := fun o => (chg_alloc w8 o).cell g01 fun _ => id
                have g12 : ∀ o, (w8.alloc o).cell? ⟨dn + 1, 2, none⟩ = some (.int .u64 val) := fun o => (chg_alloc w8 o).cell g02 fun _ => id
                clear hX
                refine hK.out _ _ ⟨g00, g01, g02⟩ (fun hHeld => ?_)
                clear hK K
                try simp only [Act.put, List.setIfInBounds_toArray, List.set_cons_zero, List.set_cons_succ]
                refine wpAnyG_ready (rs := [17]) (by kernel_rfl) (by simp) ?_
                refine AllReadyG.cons rfl (fun K hK => ?_) ?_
                · skip
                  refine step_append_q _ rfl (.tmp 143) (.tmp 146) 34 rfl 41 i0 _ 8 Try.underlying34 hi0 hz0 hs0 hb0 rfl (.slice A7 ch2.buf.length c7) (u64V ch2.buf) (by first | rfl | simp [Act.eval, Act.put]) (HQ8.out.1.keep (by repeat' (first | exact Chg.refl (fun _ _ => False) _ | apply Chg.drew | apply Chg.drewN | apply Chg.alloc)) fun _ _ => id) _ _ (.int .u64 val) (by first | rfl | simp [Act.eval, Act.put]) hvc rfl (by rw [u64V_len]; unfold maxLen; omega) (by rw [u64V_len]; omega) ?_
                  intro A9 c9 w9 hq9 hg9 hb9
                  have hXa : Chg (fun _ _ => False) w7 (w8) := HQ8.out.2.1.trans (by repeat' (first | exact Chg.refl (fun _ _ => False) _ | apply Chg.drew | apply Chg.drewN | apply Chg.alloc))
                  have hsz := hXa.size
                  have hX9 : Chg (fun _ _ => False) w7 w9 := Chg.grown hXa hg9 fun g o hg ho => by
                    have h1 := HQ8.out.2.2 g hg
                    rw [Array.getElem?_eq_none h1] at ho
                    cases ho
                  have h90 := hX9.cell d1 fun _ => id
                  have h91 := hX9.cell hgk2 fun _ => id
                  have h92 := hX9.cell t2 fun _ => id
                  rw [u64V_len] at hq9 hb9 ⊢
                  obtain ⟨hQ9, f9⟩ := rbuf_end (buf' := ch2.buf ++ [val]) HI.out.1 HI.out.2.1 hX9 (by simpa [u64V] using hq9) (by
                    intro y hy
                    rcases List.mem_append.1 hy with h | h
                    · exact HI.out.2.2.2.1 y h
                    · simp at h; subst h; exact HB.out.2) (fun b hb => by
                    rcases hb9 with h | h
                    · rw [h] at hb; exact .inr (HQ8.out.2.2 b hb)
                    · rw [h] at hb; injection hb with hb; exact .inr (by rw [← hb]; exact hsz))
                  have HQ9 := Lib.hid hQ9
                  clear hq9 hg9 hb9 hX9 hQ9 hXa hsz
                  refine hK.out _ _ ⟨h90, h91, h92⟩ (fun hHeld => ?_)
                  clear hK K
                  try simp only [Act.put, List.setIfInBounds_toArray, List.set_cons_zero, List.set_cons_succ]
                  refine wpAnyG_take (i := 18) (v := ?va16) rfl (by kernel_rfl) (fun _ _ _ h => h) (Or.inl ⟨by rfl, ?hy16⟩) (by assumption) ?ra16
                  case hy16 => (intro w hSw; (try dsimp only at hSw); go_simp; all_goals (with_reducible rfl))
                  simp only [Act.put, List.setIfInBounds_toArray, List.set_cons_zero, List.set_cons_succ]
                  refine wpAnyG_last rfl (by kernel_rfl) (by kernel_rfl) (fun K hK => ?_)
                  go_simp
                  refine hK.out _ _ ?_
                  clear hK K
                  try simp only [Act.put, List.setIfInBounds_toArray, List.set_cons_zero, List.set_cons_succ]
                  generalize w9.setCell ⟨gb, k, none⟩ (.slice A9 (ch2.buf.length + 1) c9) = w10 at HQ9 ⊢
                  have hD9 := HQ9.out.chg.blk HI.out.2.2.2.2.1 fun h => absurd h.2 (by decide)
                  have hR9 := HQ9.out.chg.blk HI.out.2.2.2.2.2.1 fun h => absurd h.2 (by decide)
                  clear h90 h91 h92 f9 hHeld hS0 hs10 hs20 hs11 hs21 hs12 hs22 g00 g01 g02 g10 g11 g12 d1 t2 hgk2
                  obtain ⟨D0, D1, D2, D3, D4⟩ := hD9.cells5
                  obtain ⟨r0, r1, r2, r3, r4⟩ := hR9.cells5
                  have rz := hR9.frozen
                  have H9 := Lib.hid (And.intro HQ9.out hR9)
                  clear hD9 hR9
                  go_wp2_with fail
                  refine bodyPost_ret (rdo_results rfl (set5_blk H9.out.2 (.int .i64 j) (.int .u64 0) (.bool true) (.slice none 0 0) (.int .i64 0))) rfl ?_
                  rw [HX.out.2.2.2.2, HE.out]
                  simp only [Bool.true_eq_false, if_false, HS.out]
                  exact done_end (d := ⟨j, 0, true, [], 0⟩) H9.out.2 (Nat.le_refl _) (HubQ.pre HI.out.2.2.2.2.2.2 (fun b t h => by rw [h.1]; omega) H9.out.1) (RSrvsT.nil _ _) _ _ _ _ _
                exact AllReadyG.nil
              exact AllReadyG.nil
            exact AllReadyG.nil
          refine AllReadyG.cons rfl (fun K hK => ?_) ?_
          · skip
            go_simp
            refine hK.out _ _ ⟨hs10 _, hs11 _, hs12 _⟩ (fun hHeld => ?_)
            clear hK K
            try simp only [Act.put, List.setIfInBounds_toArray, List.set_cons_zero, List.set_cons_succ]
            refine wpAnyG_ready (rs := [5]) (by kernel_rfl) (by simp) ?_
            refine AllReadyG.cons rfl (fun K hK => ?_) ?_
            · skip
              go_simp
              refine hK.out _ _ ⟨hs20 _ _, hs21 _ _, hs22 _ _⟩ (fun hHeld => ?_)
              clear hK K
              try simp only [Act.put, List.setIfInBounds_toArray, List.set_cons_zero, List.set_cons_succ]
              refine wpAnyG_ready (rs := [13]) (by kernel_rfl) (by simp) ?_
              refine AllReadyG.cons rfl (fun K hK => ?_) ?_
              · skip
                refine step_copy_q _ rfl (.tmp 135) (.tmp 142) 34 rfl 41 i0 _ 8 Try.underlying34 hi0 hz0 hs0 hb0 rfl (w7.heap.size + 1) (by first | rfl | simp [Act.eval, Act.put]) (by have h5 := Blk.new (w7.alloc (.cells #[.int .u64 (val : Int)] 41)) 41 #[]; rw [show (w7.alloc (.cells #[.int .u64 (val : Int)] 41)).heap.size = w7.heap.size + 1 by simp] at h5; exact h5) (.slice A6 ch2.buf.length c6) (u64V ch2.buf) (by first | rfl | simp [Act.eval, Act.put]) (HI.out.2.2.1.keep (by repeat' (first | exact Chg.refl (fun _ _ => False) _ | apply Chg.drew | apply Chg.drewN | apply Chg.alloc)) fun _ _ => id) ch2.buf.length (u64V_len _) (one_u64V _) (by omega) (by omega) ?_
                intro A7 c7 w8 hq8 hc8 ho8
                have hX : Chg (fun _ _ => False) w7 w8 := Chg.trans_new (by repeat' (first | exact Chg.refl (fun _ _ => False) _ | apply Chg.drew | apply Chg.drewN | apply Chg.alloc)) hc8 fun b t hb h => by have := h.1; first | omega | (simp at this; omega)
                have hvc : w8.cell? ⟨w7.heap.size, 0, none⟩ = some (.int .u64 val) := hc8.cell ((chg_alloc (w7.alloc (.cells #[.int .u64 (val : Int)] 41)) (.cells #[] 41)).cell ((Blk.new w7 41 #[.int .u64 (val : Int)]).cell 0) fun _ => id) (fun t h => by have := h.1; simp at this)
                have HQ8 := Lib.hid (And.intro hq8 (And.intro hX (show ∀ b, (Value.slice A7 ch2.buf.length c7).ownBlock = some b → w7.heap.size ≤ b from fun b hb => by have := ho8 b hb; omega)))
                clear hq8 hc8 ho8
                have g00 := hX.cell d1 fun _ => id
                have g01 := hX.cell hgk2 fun _ => id
                have g02 := hX.cell t2 fun _ => id
                have g10 : ∀ o, (w8.alloc o).cell? ⟨p, 1, none⟩ = some (.slice (some ⟨gb, 0, none⟩) H.list.length e2) := fun o => (chg_alloc w8 o).cell g00 fun _ => id
                have g11 : ∀ o, (w8.alloc o).cell? ⟨gb, k, none⟩ = some (.slice A6 ch2.buf.length c6) := fun o => (chg_alloc w8 o).cell g01 fun _ => id
                have g12 : ∀ o, (w8.alloc o).cell? ⟨dn + 1, 2, none⟩ = some (.int .u64 val) := fun o => (chg_alloc w8 o).cell g02 fun _ => id
                clear hX
                refine hK.out _ _ ⟨g00, g01, g02⟩ (fun hHeld => ?_)
                clear hK K
                try simp only [Act.put, List.setIfInBounds_toArray, List.set_cons_zero, List.set_cons_succ]
                refine wpAnyG_ready (rs := [17]) (by kernel_rfl) (by simp) ?_
                refine AllReadyG.cons rfl (fun K hK => ?_) ?_
                · skip
                  refine step_append_q _ rfl (.tmp 143) (.tmp 146) 34 rfl 41 i0 _ 8 Try.underlying34 hi0 hz0 hs0 hb0 rfl (.slice A7 ch2.buf.length c7) (u64V ch2.buf) (by first | rfl | simp [Act.eval, Act.put]) (HQ8.out.1.keep (by repeat' (first | exact Chg.refl (fun _ _ => False) _ | apply Chg.drew | apply Chg.drewN | apply Chg.alloc)) fun _ _ => id) _ _ (.int .u64 val) (by first | rfl | simp [Act.eval, Act.put]) hvc rfl (by rw [u64V_len]; unfold maxLen; omega) (by rw [u64V_len]; omega) ?_
                  intro A9 c9 w9 hq9 hg9 hb9
                  have hXa : Chg (fun _ _ => False) w7 (w8) := HQ8.out.2.1.trans (by repeat' (first | exact Chg.refl (fun _ _ => False) _ | apply Chg.drew | apply Chg.drewN | apply Chg.alloc))
                  have hsz := hXa.size
                  have hX9 : Chg (fun _ _ => False) w7 w9 := Chg.grown hXa hg9 fun g o hg ho => by
                    have h1 := HQ8.out.2.2 g hg
                    rw [Array.getElem?_eq_none h1] at ho
                    cases ho
                  have h90 := hX9.cell d1 fun _ => id
                  have h91 := hX9.cell hgk2 fun _ => id
                  have h92 := hX9.cell t2 fun _ => id
                  rw [u64V_len] at hq9 hb9 ⊢
                  obtain ⟨hQ9, f9⟩ := rbuf_end (buf' := ch2.buf ++ [val]) HI.out.1 HI.out.2.1 hX9 (by simpa [u64V] using hq9) (by
                    intro y hy
                    rcases List.mem_append.1 hy with h | h
                    · exact HI.out.2.2.2.1 y h
                    · simp at h; subst h; exact HB.out.2) (fun b hb => by
                    rcases hb9 with h | h
                    · rw [h] at hb; exact .inr (HQ8.out.2.2 b hb)
                    · rw [h] at hb; injection hb with hb; exact .inr (by rw [← hb]; exact hsz))
                  have HQ9 := Lib.hid hQ9
                  clear hq9 hg9 hb9 hX9 hQ9 hXa hsz
                  refine hK.out _ _ ⟨h90, h91, h92⟩ (fun hHeld => ?_)
                  clear hK K
                  try simp only [Act.put, List.setIfInBounds_toArray, List.set_cons_zero, List.set_cons_succ]
                  refine wpAnyG_take (i := 18) (v := ?va17) rfl (by kernel_rfl) (fun _ _ _ h => h) (Or.inl ⟨by rfl, ?hy17⟩) (by assumption) ?ra17
                  case hy17 => (intro w hSw; (try dsimp only at hSw); go_simp; all_goals (with_reducible rfl))
                  simp only [Act.put, List.setIfInBounds_toArray, List.set_cons_zero, List.set_cons_succ]
                  refine wpAnyG_last rfl (by kernel_rfl) (by kernel_rfl) (fun K hK => ?_)
                  go_simp
                  refine hK.out _ _ ?_
                  clear hK K
                  try simp only [Act.put, List.setIfInBounds_toArray, List.set_cons_zero, List.set_cons_succ]
                  generalize w9.setCell ⟨gb, k, none⟩ (.slice A9 (ch2.buf.length + 1) c9) = w10 at HQ9 ⊢
                  have hD9 := HQ9.out.chg.blk HI.out.2.2.2.2.1 fun h => absurd h.2 (by decide)
                  have hR9 := HQ9.out.chg.blk HI.out.2.2.2.2.2.1 fun h => absurd h.2 (by decide)
                  clear h90 h91 h92 f9 hHeld hS0 hs10 hs20 hs11 hs21 hs12 hs22 g00 g01 g02 g10 g11 g12 d1 t2 hgk2
                  obtain ⟨D0, D1, D2, D3, D4⟩ := hD9.cells5
                  obtain ⟨r0, r1, r2, r3, r4⟩ := hR9.cells5
                  have rz := hR9.frozen
                  have H9 := Lib.hid (And.intro HQ9.out hR9)
                  clear hD9 hR9
                  go_wp2_with fail
                  refine bodyPost_ret (rdo_results rfl (set5_blk H9.out.2 (.int .i64 j) (.int .u64 0) (.bool true) (.slice none 0 0) (.int .i64 0))) rfl ?_
                  rw [HX.out.2.2.2.2, HE.out]
                  simp only [Bool.true_eq_false, if_false, HS.out]
                  exact done_end (d := ⟨j, 0, true, [], 0⟩) H9.out.2 (Nat.le_refl _) (HubQ.pre HI.out.2.2.2.2.2.2 (fun b t h => by rw [h.1]; omega) H9.out.1) (RSrvsT.nil _ _) _ _ _ _ _
                exact AllReadyG.nil
              exact AllReadyG.nil
            exact AllReadyG.nil
          exact AllReadyG.nil
        simp only [peerI] at hpi
        go_wp2_with fail
        have hs2 := chg_set (j := 2) HC.out.2.2.1 (.bool true)
        have hD2 : Blk (w6.setCell ⟨dn, 2, none⟩ (.bool true)) dn 95 #[.int .i64 j, .int .u64 0, .bool true, .slice none 0 0, .int .i64 0] := by simpa using HC.out.2.2.1.set_ 2 (.bool true)
        have hR2 := hs2.blk HC.out.2.1 fun h => absurd h.1 (by omega)
        have hT2 := hs2.blk HC.out.2.2.2 fun h => absurd h.2 (by decide)
        have hI2 := HI.out.1.keepT hs2 fun b t ht => done_ty b t dn ht
        have hC2 : Chg (fun b t => b = dn ∧ t = 95) w (w6.setCell ⟨dn, 2, none⟩ (.bool true)) := (HC.out.1.mono fun _ _ _ h => h.elim).trans hs2
        generalize w6.setCell ⟨dn, 2, none⟩ (.bool true) = w7 at hD2 hR2 hT2 hI2 hC2 ⊢
        clear r0 r1 r2 r3 r4 rz D0 D1 D2 D3 D4 Dz t0 t1 t2 d1 d2 d3 hs2 HC HI hgk hsk hgz
        obtain ⟨_, _, _, d3⟩ := hI2.blk.cells4
        have hil := findW_lt HP.out
        obtain ⟨b5, o5, x, A5, c5, rfl, hix, _, _, hz⟩ := LineR.at3 (hI2.line.slr (by decide) 0) hil
        obtain ⟨z0, _⟩ := hz _ _ (Chg.refl (fun _ _ => False) w7) fun _ => id
        obtain ⟨_, _, t2⟩ := hT2.cells3
        obtain ⟨D0, D1, D2, D3, D4⟩ := hD2.cells5
        have Dz := hD2.frozen
        have hi0 : (0 : Int) ≤ (i : Int) := by omega
        have hi1 : (i : Int) < (H.wait.length : Int) := by omega
        have HI := Lib.hid (And.intro hI2 (And.intro hix (And.intro hD2 (And.intro hR2 hC2))))
        have hSa : ∀ o, (w7.alloc o).cell? ⟨dn, 3, none⟩ = some (.slice none 0 0) := fun o => (chg_alloc w7 o).cell D3 fun _ => id
        have hZa : ∀ o, (w7.alloc o).frozen? ⟨dn, 3, none⟩ = false := fun o => ((chg_alloc w7 o).blk hD2 id).frozen 3
        clear hI2 hix hD2 hR2 hC2 hz hT2
        simp only [peerI, peerK]
        go_region
        all_goals
          have hc8 := ((chg_alloc w7 (.cells #[.int .i64 x.who, .int .i64 q, .int .u64 val, .bool true] 105)).mono fun b t _ h => (h.elim : b = dn ∧ t = 95)).trans (chg_set (j := 3) ((chg_alloc w7 (.cells #[.int .i64 x.who, .int .i64 q, .int .u64 val, .bool true] 105)).blk HI.out.2.2.1 id) (.slice (some ⟨w7.heap.size, 0, none⟩) 1 1))
          have hD8 : Blk (((w7.alloc (.cells #[.int .i64 x.who, .int .i64 q, .int .u64 val, .bool true] 105)).setCell ⟨dn, 3, none⟩ (.slice (some ⟨w7.heap.size, 0, none⟩) 1 1)).drew) dn 95 #[.int .i64 j, .int .u64 0, .bool true, .slice (some ⟨w7.heap.size, 0, none⟩) 1 1, .int .i64 0] := by
            simpa using (((chg_alloc w7 (.cells #[.int .i64 x.who, .int .i64 q, .int .u64 val, .bool true] 105)).blk HI.out.2.2.1 id).set_ 3 (.slice (some ⟨w7.heap.size, 0, none⟩) 1 1)).drew
          have hS8 := (chg_set (j := 3) ((chg_alloc w7 (.cells #[.int .i64 x.who, .int .i64 q, .int .u64 val, .bool true] 105)).blk HI.out.2.2.1 id) (.slice (some ⟨w7.heap.size, 0, none⟩) 1 1)).drew.blk (Blk.new w7 105 #[.int .i64 x.who, .int .i64 q, .int .u64 val, .bool true]) fun h => absurd h.2 (by decide)
          have hc9 := hc8.drew
          have hR8 := hc9.blk HI.out.2.2.2.1 fun h => absurd h.1 (by omega)
          have hI8 := HI.out.1.keepT hc9 fun b t ht => done_ty b t dn ht
          have hQ8 := Lib.hid (And.intro hI8 (And.intro hD8 (And.intro hR8 (And.intro (RSrvsT.one (s := ⟨x.who, (q : Int), val, true⟩) hS8) (HI.out.2.2.2.2.trans hc9)))))
          generalize ((w7.alloc (.cells #[.int .i64 x.who, .int .i64 q, .int .u64 val, .bool true] 105)).setCell ⟨dn, 3, none⟩ (.slice (some ⟨w7.heap.size, 0, none⟩) 1 1)).drew = w8 at hQ8 ⊢
          generalize w7.heap.size = sn at hQ8 ⊢
          have hsv : srvOf H i q val true = ⟨x.who, (q : Int), val, true⟩ := by simp [srvOf, List.getElem?_map, HI.out.2.1]
          have hse : sendC H ⟨true, (k : Int) + 1, val⟩ = (unwait H i, [⟨x.who, (q : Int), val, true⟩]) := by
            unfold sendC
            simp only
            rw [show findW ((k : Int) + 1) false H.wait = some (i, q) from HP.out, ← hsv]
          have HE := Lib.hid hse
          clear hc8 hD8 hS8 hc9 hR8 hI8 hsv hse d3 z0 t2 D0 D1 D2 D3 D4 Dz hSa hZa HI
          go_wp2_with fail
          refine (rremove_any _ F p H ⟨_, _, _, _, _, _, _, _, hQ8.out.1⟩ HH.out.2.1 i hil).mono fun e w9 hh => ?_
          obtain ⟨rfl, hQ⟩ := hh
          have hD9 := hQ.chg.blk hQ8.out.2.1 fun h => absurd h.2 (by decide)
          have hR9 := hQ.chg.blk hQ8.out.2.2.1 fun h => absurd h.2 (by decide)
          obtain ⟨D0, D1, D2, D3, D4⟩ := hD9.cells5
          obtain ⟨r0, r1, r2, r3, r4⟩ := hR9.cells5
          have rz := hR9.frozen
          have H9 := Lib.hid (And.intro hQ (And.intro hR9 (hQ8.out.2.2.2.1.keep hQ.chg fun b h => absurd h.2 (by decide))))
          clear hQ hD9 hR9
          go_wp2_with fail
          refine bodyPost_ret (rdo_results rfl (set5_blk H9.out.2.1 (.int .i64 j) (.int .u64 0) (.bool true) (.slice (some ⟨sn, 0, none⟩) 1 1) (.int .i64 0))) rfl ?_
          rw [HX.out.2.2.2.2, HE.out]
          simp only [Bool.true_eq_false, if_false, HS.out]
          exact done_end (d := ⟨j, 0, true, [⟨x.who, (q : Int), val, true⟩], 0⟩) H9.out.2.1 (Nat.le_refl _) (HubQ.pre hQ8.out.2.2.2.2 (fun b t h => by rw [h.1]; omega) H9.out.1) H9.out.2.2 _ _ _ _ _
end Go.Proofs.Ytclllnoohoonoaa
