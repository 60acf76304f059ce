/-
  Alloc of the reference's heap.
-/
import Derived.Test.YteigopmdhhgnfaaHrAl0
namespace Go.Proofs.Yteigopmdhhgnfaa
open Go.RowKit
set_option linter.unusedVariables false
set_option linter.unusedSimpArgs false

def RallocRes (F : Nat → Prop) (q : Nat) (S : List ObjD) (bud : Nat) (refs : List Bool) (roots : List Int) (w : World) (e : Ending) (w' : World) : Prop :=
  e = .returned (.tuple #[.int .i64 (allocV S bud refs roots).1, .int .i64 (allocV S bud refs roots).2]) ∧ Chg (MR F) w w' ∧
  ∃ (F' : Nat → Prop) (A' : Option Addr) (c' : Nat), RhI F' w' q A' c' (allocT S bud refs roots) bud ∧ ∀ b, F' b → F b ∨ w.heap.size ≤ b
set_option maxRecDepth 100000 in
set_option maxHeartbeats 16000000 in
theorem ralloc_any (F : Nat → Prop) (Bf ef Br er : Nat) (w : World) (q : Nat) (A : Option Addr) (c : Nat) (S : List ObjD) (bud : Nat) (refs : List Bool) (FA : Option Addr) (fc : Nat) (roots : List Int) (RA : Option Addr) (rc : Nat) (h : RhI F w q A c S bud)
    (hf : SlR Bf ef 1 BoolV w (.slice FA refs.length fc) refs) (hr : SlR Br er 1 IntZ w (.slice RA roots.length rc) roots) (hLf : Lets (MR F) Bf ef) (hl : roots.length ≤ 1048576) (hfl : refs.length ≤ 1048576) :
    Calls Try.prog 44 #[.pointer (some ⟨q, 0, none⟩), .slice FA refs.length fc, .slice RA roots.length rc] w (RallocRes F q S bud refs roots w) := by
  by_cases hbig : 262146 < refs.length
  · have q1 : decide (262146 < refs.length) = true := decide_eq_true hbig
    have q2 : (262146 : Int) < (refs.length : Int) := by omega
    have hv : allocV S bud refs roots = (0, 2) := by unfold allocV; rw [if_pos hbig]
    have ht : allocT S bud refs roots = S := by unfold allocT; rw [if_pos hbig]
    have HH := Lib.hid (And.intro h (And.intro hv ht))
    clear hbig h hf hr hl hfl hv ht
    go_enter Try.func44, Try.ntmps44
    go_wp2_with fail
    go_ret2
    exact ⟨by rw [HH.out.2.1]; rfl, Chg.refl _ _, F, A, c, by rw [HH.out.2.2]; exact HH.out.1, fun b hb => .inl hb⟩
  · have q1 : decide (262146 < refs.length) = false := decide_eq_false hbig
    have q2 : ¬ (262146 : Int) < (refs.length : Int) := by omega
    have HV : Hid ((knownO S roots = false → allocV S bud refs roots = (0, 15) ∧ allocT S bud refs roots = S) ∧ (knownO S roots = true → bud < usedO (allocIn S bud refs roots) + (1 + refs.length) → allocV S bud refs roots = (0, 20) ∧ allocT S bud refs roots = allocIn S bud refs roots) ∧ (knownO S roots = true → ¬ bud < usedO (allocIn S bud refs roots) + (1 + refs.length) → allocV S bud refs roots = (((gapS (allocIn S bud refs roots) + 1 : Nat) : Int), 0) ∧ allocT S bud refs roots = allocO (allocIn S bud refs roots) refs)) := Lib.hid ⟨fun hk => allocE_none hbig hk, fun hk hb => allocE_full hbig hk hb, fun hk hb => allocE_ok hbig hk hb⟩
    have hfl' : refs.length ≤ 262146 := by omega
    have hkn := rknown_any F w.heap.size w q A c S bud roots RA rc h (hr.settle fun _ _ h => h) hl
    have hru := h.room
    have HH := Lib.hid (And.intro h (And.intro hr hf))
    clear h hr hf hbig hfl
    cases hk : knownO S roots with
    | false =>
      rw [hk] at hkn
      go_enter Try.func44, Try.ntmps44
      go_wp2_with fail
      refine hkn.mono fun e w1 h => ?_
      obtain ⟨rfl, hc1⟩ := h
      have HC := Lib.hid hc1
      clear hkn hc1
      go_wp2_with fail
      go_ret2
      exact ⟨by rw [(HV.out.1 hk).1]; rfl, HC.out.mono fun _ _ _ h => h.elim, F, A, c, by rw [(HV.out.1 hk).2]; exact HH.out.1.keep HC.out fun _ _ _ => id, fun b hb => .inl hb⟩
    | true =>
      rw [hk] at hkn
      have HK := Lib.hid hk
      clear hk
      go_enter Try.func44, Try.ntmps44
      go_wp2_with fail
      refine hkn.mono fun e w1 h => ?_
      obtain ⟨rfl, hc1⟩ := h
      have HC1 := Lib.hid hc1
      have HX := Lib.hid (HH.out.1.keep hc1 fun _ _ _ => id)
      clear hkn hc1
      obtain ⟨U, hU⟩ : ∃ U, usedO S = U := ⟨_, rfl⟩
      have HU := Lib.hid hU
      rw [hU] at hru
      clear hU
      go_wp2_with fail
      have hdr := (Chg.refl (fun _ _ => False) w1).drew
      refine wp_region_facts [(0, 18), (1, 19), (2, 20), (3, 21), (4, 22), (5, 23), (6, 24), (7, 25), (8, 26), (9, 27), (10, 28)] [] (romF q U refs.length FA fc bud) (by kernel_rfl) (by kernel_rfl) romF_dep romF_mono (ops_cons (OpF.run rfl rfl fun _ w H => by
        exact ⟨_, w, exec_mv (.tmp 0), H.same 0 (by kernel_rfl), Chg.refl _ _⟩) (ops_cons (OpF.call rfl rfl fun _ w H => by
        obtain ⟨r0, h0⟩ := H.fact 0 (by kernel_rfl)
        have h0 := factH (p := fun u => u = .pointer (some ⟨q, 0, none⟩)) (k := 0) (d := 18) h0 (by kernel_rfl)
        exact ⟨_, _, exec_cl _ _ _ (rused_enters w), by rw [h0]; exact (rused_any F w q A c S bud (HX.out.keep (hdr.trans H.chg) fun _ _ _ => id)).mono fun e w' ⟨he, hc⟩ => ⟨_, he, by have hu := HU.out; subst hu; rfl, hc⟩⟩) (ops_cons (OpF.run rfl rfl fun _ w H => by
        obtain ⟨r1, h1⟩ := H.fact 1 (by kernel_rfl)
        have h1 := factH (p := fun u => u = .int .i64 (U : Int)) (k := 1) (d := 19) h1 (by kernel_rfl)
        exact ⟨_, w, exec_addI (.tmp 19) (.const (.int .i64 1)) h1 rfl (by unfold I64; omega), rfl, Chg.refl _ _⟩) (ops_cons (OpF.run rfl rfl fun _ w H => by
        exact ⟨_, w, exec_mv (.tmp 1), H.same 1 (by kernel_rfl), Chg.refl _ _⟩) (ops_cons (OpF.run rfl rfl fun _ w H => by
        obtain ⟨r3, h3⟩ := H.fact 3 (by kernel_rfl)
        have h3 := factH (p := fun u => u = .slice FA refs.length fc) (k := 3) (d := 21) h3 (by kernel_rfl)
        exact ⟨_, w, exec_lenB (.tmp 21) h3, rfl, Chg.refl _ _⟩) (ops_cons (OpF.run rfl rfl fun _ w H => by
        obtain ⟨r2, h2⟩ := H.fact 2 (by kernel_rfl)
        have h2 := factH (p := fun u => u = .int .i64 ((U : Int) + 1)) (k := 2) (d := 20) h2 (by kernel_rfl)
        obtain ⟨r4, h4⟩ := H.fact 4 (by kernel_rfl)
        have h4 := factH (p := fun u => u = .int .i64 (refs.length : Int)) (k := 4) (d := 22) h4 (by kernel_rfl)
        exact ⟨_, w, exec_addI (.tmp 20) (.tmp 22) h2 h4 (by unfold I64; omega), rfl, Chg.refl _ _⟩) (ops_cons (OpF.run rfl rfl fun _ w H => by
        exact ⟨_, w, exec_mv (.tmp 0), H.same 0 (by kernel_rfl), Chg.refl _ _⟩) (ops_cons (OpF.run rfl rfl fun _ w H => by
        obtain ⟨r6, h6⟩ := H.fact 6 (by kernel_rfl)
        have h6 := factH (p := fun u => u = .pointer (some ⟨q, 0, none⟩)) (k := 6) (d := 24) h6 (by kernel_rfl)
        exact ⟨_, w, exec_nc (.tmp 24) h6, rfl, Chg.refl _ _⟩) (ops_cons (OpF.run rfl rfl fun _ w H => by
        obtain ⟨r7, h7⟩ := H.fact 7 (by kernel_rfl)
        have h7 := factH (p := fun u => u = .pointer (some ⟨q, 0, none⟩)) (k := 7) (d := 25) h7 (by kernel_rfl)
        exact ⟨_, w, exec_faR1 (.tmp 25) h7, rfl, Chg.refl _ _⟩) (ops_cons (OpF.run rfl rfl fun _ w H => by
        obtain ⟨r8, h8⟩ := H.fact 8 (by kernel_rfl)
        have h8 := factH (p := fun u => u = .pointer (some ⟨q, 1, none⟩)) (k := 8) (d := 26) h8 (by kernel_rfl)
        exact ⟨_, w, exec_ldI (.tmp 26) h8 (by simpa using ((hdr.trans H.chg).blk HX.out.blk id).cell 1), rfl, Chg.refl _ _⟩) (ops_cons (OpF.run rfl rfl fun _ w H => by
        obtain ⟨r5, h5⟩ := H.fact 5 (by kernel_rfl)
        have h5 := factH (p := fun u => u = .int .i64 ((U : Int) + 1 + (refs.length : Int))) (k := 5) (d := 23) h5 (by kernel_rfl)
        obtain ⟨r9, h9⟩ := H.fact 9 (by kernel_rfl)
        have h9 := factH (p := fun u => u = .int .i64 (bud : Int)) (k := 9) (d := 27) h9 (by kernel_rfl)
        exact ⟨_, w, exec_gtrI (.tmp 23) (.tmp 27) h5 h9, rfl, Chg.refl _ _⟩) ops_nil))))))))))) ?_
      intro pp u r w2 hu _ _ hcw
      have e10 : u 10 = _ := hu (10, 28) (by simp)
      clear hu
      simp only [List.filter_nil, List.append_nil, putL, Act.put, List.setIfInBounds_toArray, List.set_cons_zero, List.set_cons_succ]
      rw [e10]
      clear e10
      have hcw := hdr.trans hcw
      refine ⟨by kernel_rfl, ?_⟩
      clear hdr
      by_cases hbr : bud < U + (1 + refs.length)
      · have q5 : decide ((bud : Int) < (U : Int) + 1 + (refs.length : Int)) = true := decide_eq_true (by omega)
        have HIN := Lib.hid (show allocIn S bud refs roots = liveO S roots by unfold allocIn; rw [HU.out, if_pos hbr])
        have hc02 := HC1.out.trans hcw
        have hco := rcollect_any F w2.heap.size w2 q A c S bud roots RA rc (HH.out.1.keep hc02 fun _ _ _ => id) ((SlR.keep HH.out.2.1 hc02 (no_letsH _ _) fun _ _ h => h).settle fun _ _ h => h) hl
        have HD := Lib.hid hc02
        rw [HK.out] at hco
        simp only [if_true] at hco
        clear hbr hcw hc02 HX
        rw [q5]
        go_wp2_with fail
        refine hco.mono fun e w3 h => ?_
        obtain ⟨rfl, hch, F1, A1, c1, hR1, hF1⟩ := h
        have HT := Lib.hid (And.intro hR1 (And.intro ((HD.out.mono fun _ _ _ h => h.elim).trans hch) (And.intro HIN.out (show ∀ b, F1 b → F b ∨ w.heap.size ≤ b from fun b hb => (hF1 b hb).imp id fun h => Nat.le_trans HD.out.size h))))
        clear hco hch hR1 hF1
        obtain ⟨Sx, hSx⟩ : ∃ Sx, liveO S roots = Sx := ⟨_, rfl⟩
        rw [hSx] at HT
        clear hSx HIN HD
        go_wp2_with fail
        have hrs := HT.out.1.room
        obtain ⟨V, hV⟩ : ∃ V, usedO Sx = V := ⟨_, rfl⟩
        rw [hV] at hrs
        have HU := Lib.hid hV
        have HX := Lib.hid HT.out.1
        clear q5 hV
        have hdr := (Chg.refl (fun _ _ => False) w3).drew
        refine wp_region_facts [(0, 32), (1, 33), (2, 34), (3, 35), (4, 36), (5, 37), (6, 38), (7, 39), (8, 40), (9, 41), (10, 42)] [] (romF q V refs.length FA fc bud) (by kernel_rfl) (by kernel_rfl) romF_dep romF_mono (ops_cons (OpF.run rfl rfl fun _ w H => by
          exact ⟨_, w, exec_mv (.tmp 0), H.same 0 (by kernel_rfl), Chg.refl _ _⟩) (ops_cons (OpF.call rfl rfl fun _ w H => by
          obtain ⟨r0, h0⟩ := H.fact 0 (by kernel_rfl)
          have h0 := factH (p := fun u => u = .pointer (some ⟨q, 0, none⟩)) (k := 0) (d := 32) h0 (by kernel_rfl)
          exact ⟨_, _, exec_cl _ _ _ (rused_enters w), by rw [h0]; exact (rused_any F1 w q A1 c1 Sx bud (HX.out.keep (hdr.trans H.chg) fun _ _ _ => id)).mono fun e w' ⟨he, hc⟩ => ⟨_, he, by have hu := HU.out; subst hu; rfl, hc⟩⟩) (ops_cons (OpF.run rfl rfl fun _ w H => by
          obtain ⟨r1, h1⟩ := H.fact 1 (by kernel_rfl)
          have h1 := factH (p := fun u => u = .int .i64 (V : Int)) (k := 1) (d := 33) h1 (by kernel_rfl)
          exact ⟨_, w, exec_addI (.tmp 33) (.const (.int .i64 1)) h1 rfl (by unfold I64; omega), rfl, Chg.refl _ _⟩) (ops_cons (OpF.run rfl rfl fun _ w H => by
          exact ⟨_, w, exec_mv (.tmp 1), H.same 1 (by kernel_rfl), Chg.refl _ _⟩) (ops_cons (OpF.run rfl rfl fun _ w H => by
          obtain ⟨r3, h3⟩ := H.fact 3 (by kernel_rfl)
          have h3 := factH (p := fun u => u = .slice FA refs.length fc) (k := 3) (d := 35) h3 (by kernel_rfl)
          exact ⟨_, w, exec_lenB (.tmp 35) h3, rfl, Chg.refl _ _⟩) (ops_cons (OpF.run rfl rfl fun _ w H => by
          obtain ⟨r2, h2⟩ := H.fact 2 (by kernel_rfl)
          have h2 := factH (p := fun u => u = .int .i64 ((V : Int) + 1)) (k := 2) (d := 34) h2 (by kernel_rfl)
          obtain ⟨r4, h4⟩ := H.fact 4 (by kernel_rfl)
          have h4 := factH (p := fun u => u = .int .i64 (refs.length : Int)) (k := 4) (d := 36) h4 (by kernel_rfl)
          exact ⟨_, w, exec_addI (.tmp 34) (.tmp 36) h2 h4 (by unfold I64; omega), rfl, Chg.refl _ _⟩) (ops_cons (OpF.run rfl rfl fun _ w H => by
          exact ⟨_, w, exec_mv (.tmp 0), H.same 0 (by kernel_rfl), Chg.refl _ _⟩) (ops_cons (OpF.run rfl rfl fun _ w H => by
          obtain ⟨r6, h6⟩ := H.fact 6 (by kernel_rfl)
          have h6 := factH (p := fun u => u = .pointer (some ⟨q, 0, none⟩)) (k := 6) (d := 38) h6 (by kernel_rfl)
          exact ⟨_, w, exec_nc (.tmp 38) h6, rfl, Chg.refl _ _⟩) (ops_cons (OpF.run rfl rfl fun _ w H => by
          obtain ⟨r7, h7⟩ := H.fact 7 (by kernel_rfl)
          have h7 := factH (p := fun u => u = .pointer (some ⟨q, 0, none⟩)) (k := 7) (d := 39) h7 (by kernel_rfl)
          exact ⟨_, w, exec_faR1 (.tmp 39) h7, rfl, Chg.refl _ _⟩) (ops_cons (OpF.run rfl rfl fun _ w H => by
          obtain ⟨r8, h8⟩ := H.fact 8 (by kernel_rfl)
          have h8 := factH (p := fun u => u = .pointer (some ⟨q, 1, none⟩)) (k := 8) (d := 40) h8 (by kernel_rfl)
          exact ⟨_, w, exec_ldI (.tmp 40) h8 (by simpa using ((hdr.trans H.chg).blk HX.out.blk id).cell 1), rfl, Chg.refl _ _⟩) (ops_cons (OpF.run rfl rfl fun _ w H => by
          obtain ⟨r5, h5⟩ := H.fact 5 (by kernel_rfl)
          have h5 := factH (p := fun u => u = .int .i64 ((V : Int) + 1 + (refs.length : Int))) (k := 5) (d := 37) h5 (by kernel_rfl)
          obtain ⟨r9, h9⟩ := H.fact 9 (by kernel_rfl)
          have h9 := factH (p := fun u => u = .int .i64 (bud : Int)) (k := 9) (d := 41) h9 (by kernel_rfl)
          exact ⟨_, w, exec_gtrI (.tmp 37) (.tmp 41) h5 h9, rfl, Chg.refl _ _⟩) ops_nil))))))))))) ?_
        intro pp u r w4 hu _ _ hcw
        have e10 : u 10 = _ := hu (10, 42) (by simp)
        clear hu
        simp only [List.filter_nil, List.append_nil, putL, Act.put, List.setIfInBounds_toArray, List.set_cons_zero, List.set_cons_succ]
        rw [e10]
        clear e10
        have hcw := hdr.trans hcw
        refine ⟨by kernel_rfl, ?_⟩
        clear hdr
        by_cases hfu : bud < V + (1 + refs.length)
        · have q5 : decide ((bud : Int) < (V : Int) + 1 + (refs.length : Int)) = true := decide_eq_true (by omega)
          have HF := Lib.hid (And.intro (show bud < usedO (allocIn S bud refs roots) + (1 + refs.length) by rw [HT.out.2.2.1, HU.out]; exact hfu) hcw)
          clear hfu hrs hcw
          rw [q5]
          go_wp2_with fail
          go_ret2
          exact ⟨by rw [(HV.out.2.1 HK.out HF.out.1).1]; rfl, HT.out.2.1.trans (HF.out.2.mono fun _ _ _ h => h.elim), F1, A1, c1, by rw [(HV.out.2.1 HK.out HF.out.1).2, HT.out.2.2.1]; exact HT.out.1.keep HF.out.2 fun _ _ _ => id, HT.out.2.2.2⟩
        · have q5 : decide ((bud : Int) < (V : Int) + 1 + (refs.length : Int)) = false := decide_eq_false (by omega)
          have hlen := len_le_used Sx
          rw [HU.out] at hlen
          have HF := Lib.hid (And.intro (show ¬ bud < usedO (allocIn S bud refs roots) + (1 + refs.length) by rw [HT.out.2.2.1, HU.out]; exact hfu) (And.intro hfu hrs))
          have hlen : Sx.length ≤ 65536 := by omega
          have hH4 := HT.out.1.keep hcw fun _ _ _ => id
          have HH4 := Lib.hid (And.intro hH4 hcw)
          have HSL := Lib.hid ((SlR.keep (SlR.keep HH.out.2.2 HT.out.2.1 hLf fun _ _ h => h) hcw (no_letsH _ _) fun _ _ h => h).settle fun _ _ h => h)
          have x0 : w4.cell? ⟨q, 0, none⟩ = some (.slice A1 Sx.length c1) := by simpa using hH4.blk.cell 0
          have HX0 := Lib.hid x0
          clear hfu hrs hcw hH4
          rw [q5]
          go_wp2_with fail
          go_loopw [8] (fun i wr => ∃ k : Nat, k ≤ gapS Sx ∧ i = .int .i64 (k : Int) ∧ wr = w4) (fun i _ => gapS Sx + 1 - (intOf i).toNat)
          case atStart => exact ⟨0, Nat.zero_le _, rfl, rfl⟩
          case round =>
            obtain ⟨k, hk, rfl, hwe⟩ := hrel
            rw [hwe]
            have hgl := gapS_le Sx
            have q3 : IntKind.i64.wrap ((k : Int) + 1) = (k : Int) + 1 := IntWalk.i64_in _ ⟨by omega, by omega⟩
            by_cases hlt : k < Sx.length
            · have p1 : (k : Int) < (Sx.length : Int) := by omega
              have p2 : decide (k < Sx.length) = true := decide_eq_true hlt
              obtain ⟨gb, o, B1, d1, B2, d2, hA1, hko, _, z0, _, _⟩ := HH4.out.1.objs.at_ hlt
              subst hA1
              by_cases hnm : o.name = k + 1
              · have hkl : k < gapS Sx := by
                  rcases Nat.lt_or_ge k (gapS Sx) with h1 | h1
                  · exact h1
                  · have := gapS_gt HT.out.1.good.sorted HT.out.1.good.pos hko h1
                    omega
                have p3 : ((o.name : Int) == (k : Int) + 1) = true := by simp [hnm]
                clear hko hnm
                go_wp2_with fail
                go_roundw
                case rel => exact ⟨k + 1, hkl, by simp, by first | rfl | trivial⟩
                case measure => simp [intOf]; omega
              · have hkg : k = gapS Sx := by
                  rcases Nat.lt_or_ge k (gapS Sx) with h1 | h1
                  · have := gapS_at hko h1
                    omega
                  · omega
                have p3 : ((o.name : Int) == (k : Int) + 1) = false := by simp; omega
                have HKG := Lib.hid hkg
                clear hko hnm hkg
                have hdr := (Chg.refl (fun _ _ => False) w4).drew
                go_wp2_with fail
                refine wp_region_facts [(0, 65), (1, 66), (2, 67), (3, 68), (4, 69), (5, 70), (6, 71), (7, 72), (8, 73), (9, 9)] [] (objF k FA fc refs w4.heap.size) (by kernel_rfl) (by kernel_rfl) objF_dep objF_mono (ops_cons (OpF.run rfl rfl fun _ w H => by
                  exact ⟨_, w, exec_mv (.tmp 8), H.same 8 (by kernel_rfl), Chg.refl _ _⟩) (ops_cons (OpF.run rfl rfl fun _ w H => by
                  obtain ⟨r0, h0⟩ := H.fact 0 (by kernel_rfl)
                  have h0 := factH (p := fun u => u = .int .i64 (k : Int)) (k := 0) (d := 65) h0 (by kernel_rfl)
                  exact ⟨_, w, exec_addI (.tmp 65) (.const (.int .i64 1)) h0 rfl (by unfold I64; omega), rfl, Chg.refl _ _⟩) (ops_cons (OpF.run rfl rfl fun _ w H => by
                  exact ⟨_, w, exec_mv (.tmp 1), H.same 1 (by kernel_rfl), Chg.refl _ _⟩) (ops_cons (OpF.run rfl rfl fun _ w H => by
                  obtain ⟨r2, h2⟩ := H.fact 2 (by kernel_rfl)
                  have h2 := factH (p := fun u => u = .slice FA refs.length fc) (k := 2) (d := 67) h2 (by kernel_rfl)
                  exact ⟨_, w, exec_lenB (.tmp 67) h2, rfl, Chg.refl _ _⟩) (ops_cons (OpF.run rfl rfl fun _ w H => by
                  obtain ⟨r3, h3⟩ := H.fact 3 (by kernel_rfl)
                  have h3 := factH (p := fun u => u = .int .i64 (refs.length : Nat)) (k := 3) (d := 68) h3 (by kernel_rfl)
                  exact ⟨_, _, exec_mk0 (.tmp 68) (.tmp 68) h3 h3 (by omega), ⟨_, _, rfl, made_row w4.heap.size refs.length (fun _ => rfl) (Nat.le_trans hdr.size H.chg.size) (by simp only [maxLen]; omega)⟩, chg_alloc _ _⟩) (ops_cons (OpF.run rfl rfl fun _ w H => by
                  exact ⟨_, _, exec_bs0, ⟨_, rfl, Nat.le_trans hdr.size H.chg.size, Blk.new w 4 _⟩, chg_alloc _ _⟩) (ops_cons (OpF.run rfl rfl fun _ w H => by
                  exact ⟨_, w, exec_mv (.tmp 1), H.same 1 (by kernel_rfl), Chg.refl _ _⟩) (ops_cons (OpF.run rfl rfl fun _ w H => by
                  obtain ⟨r5, h5⟩ := H.fact 5 (by kernel_rfl)
                  obtain ⟨b5, h5, k5, k5b⟩ := h5
                  have h5 := factH (p := fun u => u = .slice (some ⟨b5, 0, none⟩) 0 0) (k := 5) (d := 70) h5 (by kernel_rfl)
                  obtain ⟨r6, h6⟩ := H.fact 6 (by kernel_rfl)
                  have h6 := factH (p := fun u => u = .slice FA refs.length fc) (k := 6) (d := 71) h6 (by kernel_rfl)
                  obtain ⟨A', c', w', hr, hrow, hch⟩ := exec_apB (.tmp 70) (.tmp 71) h5 h6 k5 k5b (SlR.keep HSL.out (hdr.trans H.chg) (no_letsH _ _) fun _ _ h => h) (by omega) (Nat.le_trans hdr.size H.chg.size)
                  exact ⟨_, w', hr, ⟨_, _, rfl, hrow⟩, hch⟩) (ops_cons (OpF.run rfl rfl fun _ w H => by
                  obtain ⟨r1, h1⟩ := H.fact 1 (by kernel_rfl)
                  have h1 := factH (p := fun u => u = .int .i64 ((k : Int) + 1)) (k := 1) (d := 66) h1 (by kernel_rfl)
                  obtain ⟨r4, h4⟩ := H.fact 4 (by kernel_rfl)
                  obtain ⟨A1, c1, h4, k4⟩ := h4
                  have h4 := factH (p := fun v => v = .slice A1 refs.length c1) (k := 4) (d := 69) h4 (by kernel_rfl)
                  obtain ⟨r7, h7⟩ := H.fact 7 (by kernel_rfl)
                  obtain ⟨A2, c2, h7, k7⟩ := h7
                  have h7 := factH (p := fun v => v = .slice A2 refs.length c2) (k := 7) (d := 72) h7 (by kernel_rfl)
                  exact ⟨_, w, exec_bd3 (.tmp 66) (.tmp 69) (.tmp 72) h1 h4 h7, ⟨_, _, _, _, rfl, k4, k7⟩, Chg.refl _ _⟩) (ops_cons (OpF.run rfl rfl fun _ w H => by
                  exact ⟨_, _, exec_alO, ⟨_, rfl, Nat.le_trans hdr.size H.chg.size, Blk.new w 39 _⟩, chg_alloc _ _⟩) ops_nil)))))))))) ?_
                intro pp u r w7 hu _ _ hcw
                obtain ⟨XA, xc, XB, xd, e8, hr1, hr2⟩ := hu (8, 73) (by simp)
                obtain ⟨bx, e9, hbx0, hbx⟩ := hu (9, 9) (by simp)
                have e8 : u 8 = _ := e8
                have e9 : u 9 = _ := e9
                clear hu
                simp only [List.filter_nil, List.append_nil, putL, Act.put, List.setIfInBounds_toArray, List.set_cons_zero, List.set_cons_succ]
                rw [e8, e9]
                clear e8 e9
                have z0 : w7.cell? ⟨bx, 0, none⟩ = some (.int .i64 0) := by simpa using hbx.cell 0
                have z1 : w7.cell? ⟨bx, 1, none⟩ = some (.slice none 0 0) := by simpa using hbx.cell 1
                have z2 : w7.cell? ⟨bx, 2, none⟩ = some (.slice none 0 0) := by simpa using hbx.cell 2
                have f0 := hbx.frozen 0
                have f1 := hbx.frozen 1
                have f2 := hbx.frozen 2
                refine wpAny_ready (rs := [10]) (by kernel_rfl) (by simp) ?_
                refine AllReady.cons rfl (fun K hK => ?_) AllReady.nil
                go_simp
                refine hK _ _ ?_
                clear hK K z0 z1 z2 f0 f1 f2
                try simp only [Act.put, List.setIfInBounds_toArray, List.set_cons_zero, List.set_cons_succ]
                refine ⟨by kernel_rfl, ?_⟩
                have hb1 := hbx.set_ 0 (.int .i64 ((k : Int) + 1))
                have hb2 := hb1.set_ 1 (.slice XA refs.length xc)
                have hb3 : Blk (((w7.setCell ⟨bx, 0, none⟩ (.int .i64 ((k : Int) + 1))).setCell ⟨bx, 1, none⟩ (.slice XA refs.length xc)).setCell ⟨bx, 2, none⟩ (.slice XB refs.length xd)) bx 39 #[.int .i64 ((k : Int) + 1), .slice XA refs.length xc, .slice XB refs.length xd] := by simpa using hb2.set_ 2 (.slice XB refs.length xd)
                have hcs := (chg_set (j := 0) hbx (.int .i64 ((k : Int) + 1))).trans ((chg_set (j := 1) hb1 (.slice XA refs.length xc)).trans (chg_set (j := 2) hb2 (.slice XB refs.length xd)))
                have hc8 := ((((hdr.trans hcw).setNew 0 (.int .i64 ((k : Int) + 1)) hbx0).setNew 1 (.slice XA refs.length xc) hbx0).setNew 2 (.slice XB refs.length xd) hbx0)
                clear hb1 hb2 hdr hcw
                generalize hw8 : (((w7.setCell ⟨bx, 0, none⟩ (.int .i64 ((k : Int) + 1))).setCell ⟨bx, 1, none⟩ (.slice XA refs.length xc)).setCell ⟨bx, 2, none⟩ (.slice XB refs.length xd)) = w8 at hb3 hc8 hcs ⊢
                clear hw8 hbx
                obtain ⟨hd, hx1, hx2, hx3⟩ := RObjs.hdr HH4.out.1.objs HT.out.1.good.sorted
                have hr1 := hr1.keep hcs (fun b _ h => absurd h.2 (by decide)) fun _ _ h => h
                have hr2 := hr2.keep hcs (fun b _ h => absurd h.2 (by decide)) fun _ _ h => h
                have hdat := RDat.alloc (hx2.keep hc8 fun _ _ _ => id) HT.out.1.good (fun b hb => HH4.out.1.lt b hb) hr1 hr2
                have hrow : RowR 0 39 3 (XoR (hd.put (gapS Sx + 1) XA xc XB xd)) w8 (some ⟨gb, 0, none⟩) c1 Sx := (hx1.keep hc8 (fun _ _ => id) fun _ _ h => h).imp' fun cs x hx h => (XoR.put (gap_names HT.out.1.good x hx)).2 h
                generalize hhd : hd.put (gapS Sx + 1) XA xc XB xd = hdd at hdat hrow
                have hsl := (hrow.slr (by decide) 0).take_ (i := k) (by omega)
                have hcap := (SlR.len (hrow.slr (by decide) 0)).2
                have y0 := hc8.cell x0 fun _ => id
                have hnew : XoR hdd w8 [.int .i64 ((k : Int) + 1), .slice XA refs.length xc, .slice XB refs.length xd] (newX Sx refs) := by
                  rw [← hhd, HKG.out]
                  simp [XoR, newX, HdrT.put]
                have htl : (Sx.take k).length = k := by rw [List.length_take]; omega
                obtain ⟨i0, hi0, hz0, hs0, hb0⟩ := info_parts infoRObj
                have HG := Lib.hid (And.intro hdat (And.intro hrow (And.intro hb3 (And.intro hc8 (And.intro hnew htl)))))
                have hql : q < w8.heap.size := Nat.lt_of_lt_of_le HH4.out.1.blk.lt hc8.size
                have hii : (0 : Int) ≤ (k : Int) := by omega
                have hin : (k : Int) ≤ (Sx.length : Int) := by omega
                have hic : k ≤ c1 := by omega
                have hin2 : k ≤ Sx.length := by omega
                clear hr1 hr2 hx1 hx2 hx3 hhd hdat hrow hb3 hc8 hcs hnew htl x0 hbx0 hd hk
                go_wp2_with (at_builtin; go_must (refine wpList_copy_slr rfl (.tmp 74) (.tmp 80) 40 rfl 39 i0 _ 56 Try.underlying40 hi0 hz0 hs0 hb0 rfl (by omega) (some ⟨gb, 0, none⟩) k c1 rfl (by simp) rfl hsl one_xor (by omega) (by omega) ?_))
                intro A6 c6 w9 yss k1 k2 k3 k4 k5
                have y0 := k5.cell y0 fun _ => id
                have hb9 := k5.blk HG.out.2.2.1 id
                have v0 : w9.cell? ⟨bx, 0, none⟩ = some (.int .i64 ((k : Int) + 1)) := by simpa using hb9.cell 0
                have v1 : w9.cell? ⟨bx, 1, none⟩ = some (.slice XA refs.length xc) := by simpa using hb9.cell 1
                have v2 : w9.cell? ⟨bx, 2, none⟩ = some (.slice XB refs.length xd) := by simpa using hb9.cell 2
                have hrow9 : RowR w8.heap.size 39 3 (XoR hdd) w9 A6 c6 (Sx.take k) := ⟨yss, by rw [HG.out.2.2.2.2.2]; exact k1, by rw [HG.out.2.2.2.2.2]; exact k2, k3, k4⟩
                have hsz9 := k5.size
                have H9 := Lib.hid (And.intro hrow9 k5)
                clear k1 k2 k3 k4 k5 hsl hb9 hrow9
                go_wp2_with (at_builtin; go_must (refine wpList_push1 rfl (.tmp 82) (.tmp 84) 40 rfl w8.heap.size 39 i0 _ 3 56 Try.underlying40 hi0 hz0 hs0 hb0 rfl (by omega) (XoR hdd) A6 c6 (Sx.take k) (n := k) HG.out.2.2.2.2.2.symm (by first | rfl | simp) H9.out.1 1 [.int .i64 ((k : Int) + 1), .slice XA refs.length xc, .slice XB refs.length xd] (newX Sx refs) (by first | rfl | simp) (by first | rfl | simp) rfl (by intro u hu; simp at hu; rcases hu with rfl | rfl | rfl <;> rfl) HG.out.2.2.2.2.1 (by omega) (by omega) hsz9 (fun _ _ _ _ h => h) ?_))
                intro A7 c7 w10 r1 r2 r3
                have hc10 : Chg (fun _ _ => False) w8 w10 := H9.out.2.trans_new r2 fun b t hb h => by
                  have := (H9.out.1.own_in (g := b) (by rw [HG.out.2.2.2.2.2]; exact h.1)).1
                  omega
                have y0 := hc10.cell (HG.out.2.2.2.1.cell HX0.out fun _ => id) fun _ => id
                obtain ⟨zss, how7, z2, z3, z4⟩ := r1
                have hl7 : (Sx.take k ++ [newX Sx refs]).length = k + 1 := by rw [List.length_append, HG.out.2.2.2.2.2]; rfl
                rw [hl7] at how7
                obtain ⟨xss, how, x2, x3, x4⟩ := HG.out.2.1.keep hc10 (fun _ _ => id) fun _ _ h => h
                have hne : ¬ c1 = k := by omega
                obtain ⟨A5, hA5, hrd⟩ : ∃ A5, some (⟨gb, k * 3, none⟩ : Addr) = A5 ∧ Reads w10 w10.heap.size 3 A5 (Sx.length - k) (xss.drop k).flatten := by
                  have hr := (Reads.of_own how).cut (k := k) (cap := c1) hin2 hcap
                  rw [drop_flat xss x3] at hr
                  refine ⟨_, rfl, ?_⟩
                  rw [if_neg hne] at hr
                  simpa [add_flat] using hr
                clear hne
                have hsz10 := hc10.size
                have h1' : ∀ u ∈ (xss.drop k).flatten, u.oneCell' = true := fun u hu => one_flatX x2 x4 u (by
                  obtain ⟨cs, hcs, hu⟩ := List.mem_flatten.1 hu
                  exact List.mem_flatten.2 ⟨cs, List.mem_of_mem_drop hcs, hu⟩)
                have H10 := Lib.hid (And.intro hc10 (And.intro z2 (And.intro z3 (And.intro z4 (And.intro x2 (And.intro x3 (And.intro x4 (And.intro how7 (And.intro hrd h1')))))))))
                clear hc10 z2 z3 z4 x2 x3 x4 how how7 hrd h1' r2 r3 hl7 v0 v1 v2
                go_wp2_with (at_builtin; go_must (refine wpList_append_any w10 rfl (.tmp 87) (.tmp 93) 40 rfl w8.heap.size 39 i0 _ 3 56 Try.underlying40 hi0 hz0 hs0 hb0 rfl (by omega) (.slice A7 (k + 1) c7) (k + 1) zss.flatten rfl H10.out.2.2.2.2.2.2.2.1 w10.heap.size A5 (Sx.length - k) (c1 - k) (xss.drop k).flatten rfl H10.out.2.2.2.2.2.2.2.2.1 H10.out.2.2.2.2.2.2.2.2.2 (by unfold maxLen; omega) (by omega) hsz10 ?_))
                intro v11 w11 s1 s2 s3
                obtain ⟨A8, c8, rfl⟩ := own_form s1
                obtain ⟨hc10, z2, z3, z4, x2, x3, x4, how7, _, _⟩ := H10.out
                have hc11 : Chg (fun _ _ => False) w8 w11 := hc10.trans_new (chg_grown how7 s2) fun b t hb h => by
                  have := (own_blk how7 h.1).1
                  omega
                have hal : allocO Sx refs = (Sx.take k ++ [newX Sx refs]) ++ Sx.drop k := by
                  have := HKG.out
                  rw [this]
                  simp [allocO]
                have hlen11 : (allocO Sx refs).length = k + 1 + (Sx.length - k) := by
                  rw [hal, List.length_append, List.length_append, HG.out.2.2.2.2.2, List.length_drop]
                  rfl
                have hrow11 : RowR w8.heap.size 39 3 (XoR hdd) w11 A8 c8 (allocO Sx refs) := by
                  rw [hal]
                  refine RowR.app s1 z2 (by rw [List.length_drop, List.length_drop, x2]) (by rw [List.length_append, HG.out.2.2.2.2.2]; rfl) (by rw [List.length_drop]) z3 (fun cs hcs => x3 cs (List.mem_of_mem_drop hcs)) z4 fun j x cs hx hcs => ?_
                  rw [List.getElem?_drop] at hx hcs
                  exact x4 _ x cs hx hcs
                obtain ⟨hb11, hP, hcP⟩ := HH4.out.1.setRow (S' := allocO Sx refs) (HG.out.2.2.2.1.trans hc11) hrow11 HG.out.2.2.2.1.size (HG.out.1.keep (F := _) hc11 fun _ _ _ => id) (fun b hb => hb.imp id fun h => ⟨h.1, Nat.lt_of_lt_of_le h.2 hc11.size⟩) (alloc_good HT.out.1.good refs (by have := len_le_used Sx; have := HU.out; have := HF.out.2.1; have := HF.out.2.2; omega)) (by rw [alloc_used]; have := HU.out; have := HF.out.2.1; omega)
                rw [hlen11] at hP hcP
                have y0 : w11.cell? ⟨q, 0, none⟩ = some (.slice (some ⟨gb, 0, none⟩) Sx.length c1) := by simpa using hb11.cell 0
                have y0f := hb11.frozen 0
                have HP := Lib.hid (And.intro hP (HT.out.2.1.trans_le ((HH4.out.2.mono fun _ _ _ h => h.elim).trans hcP) fun b t hb h => ⟨(HT.out.2.2.2 b h.1).resolve_right (by omega), h.2⟩))
                clear hP hcP hb11 hrow11 hal hlen11 hc11 hc10 z2 z3 z4 x2 x3 x4 how7 s1 s2 s3
                go_wp2_with fail
                go_ret2
                exact ⟨by rw [(HV.out.2.2 HK.out HF.out.1).1, HT.out.2.2.1, ← HKG.out]; rfl, HP.out.2, _, A8, c8, by rw [(HV.out.2.2 HK.out HF.out.1).2, HT.out.2.2.1]; exact HP.out.1, fun b hb => by
                  rcases hb with hb | hb
                  · exact HT.out.2.2.2 b hb
                  · exact .inr (Nat.le_trans HT.out.2.1.size (Nat.le_trans HH4.out.2.size hb.1))⟩

            · have p2 : decide (k < Sx.length) = false := decide_eq_false hlt
              have HKG := Lib.hid (show k = gapS Sx by omega)
              rcases HH4.out.1.objs.choose_spec.1.2 with ⟨hv, h0⟩ | ⟨gb, cap, cur, hv, _⟩
              · injection hv with hA hn0 hc0
                subst hA
                have H00 := Lib.hid h0
                clear h0 hn0 hc0
                have hdr := (Chg.refl (fun _ _ => False) w4).drew
                go_wp2_with fail
                refine wp_region_facts [(0, 65), (1, 66), (2, 67), (3, 68), (4, 69), (5, 70), (6, 71), (7, 72), (8, 73), (9, 9)] [] (objF k FA fc refs w4.heap.size) (by kernel_rfl) (by kernel_rfl) objF_dep objF_mono (ops_cons (OpF.run rfl rfl fun _ w H => by
                  exact ⟨_, w, exec_mv (.tmp 8), H.same 8 (by kernel_rfl), Chg.refl _ _⟩) (ops_cons (OpF.run rfl rfl fun _ w H => by
                  obtain ⟨r0, h0⟩ := H.fact 0 (by kernel_rfl)
                  have h0 := factH (p := fun u => u = .int .i64 (k : Int)) (k := 0) (d := 65) h0 (by kernel_rfl)
                  exact ⟨_, w, exec_addI (.tmp 65) (.const (.int .i64 1)) h0 rfl (by unfold I64; omega), rfl, Chg.refl _ _⟩) (ops_cons (OpF.run rfl rfl fun _ w H => by
                  exact ⟨_, w, exec_mv (.tmp 1), H.same 1 (by kernel_rfl), Chg.refl _ _⟩) (ops_cons (OpF.run rfl rfl fun _ w H => by
                  obtain ⟨r2, h2⟩ := H.fact 2 (by kernel_rfl)
                  have h2 := factH (p := fun u => u = .slice FA refs.length fc) (k := 2) (d := 67) h2 (by kernel_rfl)
                  exact ⟨_, w, exec_lenB (.tmp 67) h2, rfl, Chg.refl _ _⟩) (ops_cons (OpF.run rfl rfl fun _ w H => by
                  obtain ⟨r3, h3⟩ := H.fact 3 (by kernel_rfl)
                  have h3 := factH (p := fun u => u = .int .i64 (refs.length : Nat)) (k := 3) (d := 68) h3 (by kernel_rfl)
                  exact ⟨_, _, exec_mk0 (.tmp 68) (.tmp 68) h3 h3 (by omega), ⟨_, _, rfl, made_row w4.heap.size refs.length (fun _ => rfl) (Nat.le_trans hdr.size H.chg.size) (by simp only [maxLen]; omega)⟩, chg_alloc _ _⟩) (ops_cons (OpF.run rfl rfl fun _ w H => by
                  exact ⟨_, _, exec_bs0, ⟨_, rfl, Nat.le_trans hdr.size H.chg.size, Blk.new w 4 _⟩, chg_alloc _ _⟩) (ops_cons (OpF.run rfl rfl fun _ w H => by
                  exact ⟨_, w, exec_mv (.tmp 1), H.same 1 (by kernel_rfl), Chg.refl _ _⟩) (ops_cons (OpF.run rfl rfl fun _ w H => by
                  obtain ⟨r5, h5⟩ := H.fact 5 (by kernel_rfl)
                  obtain ⟨b5, h5, k5, k5b⟩ := h5
                  have h5 := factH (p := fun u => u = .slice (some ⟨b5, 0, none⟩) 0 0) (k := 5) (d := 70) h5 (by kernel_rfl)
                  obtain ⟨r6, h6⟩ := H.fact 6 (by kernel_rfl)
                  have h6 := factH (p := fun u => u = .slice FA refs.length fc) (k := 6) (d := 71) h6 (by kernel_rfl)
                  obtain ⟨A', c', w', hr, hrow, hch⟩ := exec_apB (.tmp 70) (.tmp 71) h5 h6 k5 k5b (SlR.keep HSL.out (hdr.trans H.chg) (no_letsH _ _) fun _ _ h => h) (by omega) (Nat.le_trans hdr.size H.chg.size)
                  exact ⟨_, w', hr, ⟨_, _, rfl, hrow⟩, hch⟩) (ops_cons (OpF.run rfl rfl fun _ w H => by
                  obtain ⟨r1, h1⟩ := H.fact 1 (by kernel_rfl)
                  have h1 := factH (p := fun u => u = .int .i64 ((k : Int) + 1)) (k := 1) (d := 66) h1 (by kernel_rfl)
                  obtain ⟨r4, h4⟩ := H.fact 4 (by kernel_rfl)
                  obtain ⟨A1, c1, h4, k4⟩ := h4
                  have h4 := factH (p := fun v => v = .slice A1 refs.length c1) (k := 4) (d := 69) h4 (by kernel_rfl)
                  obtain ⟨r7, h7⟩ := H.fact 7 (by kernel_rfl)
                  obtain ⟨A2, c2, h7, k7⟩ := h7
                  have h7 := factH (p := fun v => v = .slice A2 refs.length c2) (k := 7) (d := 72) h7 (by kernel_rfl)
                  exact ⟨_, w, exec_bd3 (.tmp 66) (.tmp 69) (.tmp 72) h1 h4 h7, ⟨_, _, _, _, rfl, k4, k7⟩, Chg.refl _ _⟩) (ops_cons (OpF.run rfl rfl fun _ w H => by
                  exact ⟨_, _, exec_alO, ⟨_, rfl, Nat.le_trans hdr.size H.chg.size, Blk.new w 39 _⟩, chg_alloc _ _⟩) ops_nil)))))))))) ?_
                intro pp u r w7 hu _ _ hcw
                obtain ⟨XA, xc, XB, xd, e8, hr1, hr2⟩ := hu (8, 73) (by simp)
                obtain ⟨bx, e9, hbx0, hbx⟩ := hu (9, 9) (by simp)
                have e8 : u 8 = _ := e8
                have e9 : u 9 = _ := e9
                clear hu
                simp only [List.filter_nil, List.append_nil, putL, Act.put, List.setIfInBounds_toArray, List.set_cons_zero, List.set_cons_succ]
                rw [e8, e9]
                clear e8 e9
                have z0 : w7.cell? ⟨bx, 0, none⟩ = some (.int .i64 0) := by simpa using hbx.cell 0
                have z1 : w7.cell? ⟨bx, 1, none⟩ = some (.slice none 0 0) := by simpa using hbx.cell 1
                have z2 : w7.cell? ⟨bx, 2, none⟩ = some (.slice none 0 0) := by simpa using hbx.cell 2
                have f0 := hbx.frozen 0
                have f1 := hbx.frozen 1
                have f2 := hbx.frozen 2
                refine wpAny_ready (rs := [10]) (by kernel_rfl) (by simp) ?_
                refine AllReady.cons rfl (fun K hK => ?_) AllReady.nil
                go_simp
                refine hK _ _ ?_
                clear hK K z0 z1 z2 f0 f1 f2
                try simp only [Act.put, List.setIfInBounds_toArray, List.set_cons_zero, List.set_cons_succ]
                refine ⟨by kernel_rfl, ?_⟩
                have hb1 := hbx.set_ 0 (.int .i64 ((k : Int) + 1))
                have hb2 := hb1.set_ 1 (.slice XA refs.length xc)
                have hb3 : Blk (((w7.setCell ⟨bx, 0, none⟩ (.int .i64 ((k : Int) + 1))).setCell ⟨bx, 1, none⟩ (.slice XA refs.length xc)).setCell ⟨bx, 2, none⟩ (.slice XB refs.length xd)) bx 39 #[.int .i64 ((k : Int) + 1), .slice XA refs.length xc, .slice XB refs.length xd] := by simpa using hb2.set_ 2 (.slice XB refs.length xd)
                have hcs := (chg_set (j := 0) hbx (.int .i64 ((k : Int) + 1))).trans ((chg_set (j := 1) hb1 (.slice XA refs.length xc)).trans (chg_set (j := 2) hb2 (.slice XB refs.length xd)))
                have hc8 := ((((hdr.trans hcw).setNew 0 (.int .i64 ((k : Int) + 1)) hbx0).setNew 1 (.slice XA refs.length xc) hbx0).setNew 2 (.slice XB refs.length xd) hbx0)
                clear hb1 hb2 hdr hcw
                generalize hw8 : (((w7.setCell ⟨bx, 0, none⟩ (.int .i64 ((k : Int) + 1))).setCell ⟨bx, 1, none⟩ (.slice XA refs.length xc)).setCell ⟨bx, 2, none⟩ (.slice XB refs.length xd)) = w8 at hb3 hc8 hcs ⊢
                clear hw8 hbx
                obtain ⟨hd, hx1, hx2, hx3⟩ := RObjs.hdr HH4.out.1.objs HT.out.1.good.sorted
                have hr1 := hr1.keep hcs (fun b _ h => absurd h.2 (by decide)) fun _ _ h => h
                have hr2 := hr2.keep hcs (fun b _ h => absurd h.2 (by decide)) fun _ _ h => h
                have hdat := RDat.alloc (hx2.keep hc8 fun _ _ _ => id) HT.out.1.good (fun b hb => HH4.out.1.lt b hb) hr1 hr2
                have hrow : RowR 0 39 3 (XoR (hd.put (gapS Sx + 1) XA xc XB xd)) w8 none c1 Sx := (hx1.keep hc8 (fun _ _ => id) fun _ _ h => h).imp' fun cs x hx h => (XoR.put (gap_names HT.out.1.good x hx)).2 h
                generalize hhd : hd.put (gapS Sx + 1) XA xc XB xd = hdd at hdat hrow
                have hsl := (hrow.slr (by decide) 0).take_ (i := k) (by omega)
                have hcap := (SlR.len (hrow.slr (by decide) 0)).2
                have y0 := hc8.cell x0 fun _ => id
                have hnew : XoR hdd w8 [.int .i64 ((k : Int) + 1), .slice XA refs.length xc, .slice XB refs.length xd] (newX Sx refs) := by
                  rw [← hhd, HKG.out]
                  simp [XoR, newX, HdrT.put]
                have htl : (Sx.take k).length = k := by rw [List.length_take]; omega
                obtain ⟨i0, hi0, hz0, hs0, hb0⟩ := info_parts infoRObj
                have HG := Lib.hid (And.intro hdat (And.intro hrow (And.intro hb3 (And.intro hc8 (And.intro hnew htl)))))
                have hql : q < w8.heap.size := Nat.lt_of_lt_of_le HH4.out.1.blk.lt hc8.size
                have hii : (0 : Int) ≤ (k : Int) := by omega
                have hin : (k : Int) ≤ (Sx.length : Int) := by omega
                have hic : k ≤ c1 := by omega
                have hin2 : k ≤ Sx.length := by omega
                clear hr1 hr2 hx1 hx2 hx3 hhd hdat hrow hb3 hc8 hcs hnew htl x0 hbx0 hd hk
                go_wp2_with (at_builtin; go_must (refine wpList_copy_slr rfl (.tmp 74) (.tmp 80) 40 rfl 39 i0 _ 56 Try.underlying40 hi0 hz0 hs0 hb0 rfl (by omega) none k c1 rfl (by simp) rfl hsl one_xor (by omega) (by omega) ?_))
                intro A6 c6 w9 yss k1 k2 k3 k4 k5
                have y0 := k5.cell y0 fun _ => id
                have hb9 := k5.blk HG.out.2.2.1 id
                have v0 : w9.cell? ⟨bx, 0, none⟩ = some (.int .i64 ((k : Int) + 1)) := by simpa using hb9.cell 0
                have v1 : w9.cell? ⟨bx, 1, none⟩ = some (.slice XA refs.length xc) := by simpa using hb9.cell 1
                have v2 : w9.cell? ⟨bx, 2, none⟩ = some (.slice XB refs.length xd) := by simpa using hb9.cell 2
                have hrow9 : RowR w8.heap.size 39 3 (XoR hdd) w9 A6 c6 (Sx.take k) := ⟨yss, by rw [HG.out.2.2.2.2.2]; exact k1, by rw [HG.out.2.2.2.2.2]; exact k2, k3, k4⟩
                have hsz9 := k5.size
                have H9 := Lib.hid (And.intro hrow9 k5)
                clear k1 k2 k3 k4 k5 hsl hb9 hrow9
                go_wp2_with (at_builtin; go_must (refine wpList_push1 rfl (.tmp 82) (.tmp 84) 40 rfl w8.heap.size 39 i0 _ 3 56 Try.underlying40 hi0 hz0 hs0 hb0 rfl (by omega) (XoR hdd) A6 c6 (Sx.take k) (n := k) HG.out.2.2.2.2.2.symm (by first | rfl | simp) H9.out.1 1 [.int .i64 ((k : Int) + 1), .slice XA refs.length xc, .slice XB refs.length xd] (newX Sx refs) (by first | rfl | simp) (by first | rfl | simp) rfl (by intro u hu; simp at hu; rcases hu with rfl | rfl | rfl <;> rfl) HG.out.2.2.2.2.1 (by omega) (by omega) hsz9 (fun _ _ _ _ h => h) ?_))
                intro A7 c7 w10 r1 r2 r3
                have hc10 : Chg (fun _ _ => False) w8 w10 := H9.out.2.trans_new r2 fun b t hb h => by
                  have := (H9.out.1.own_in (g := b) (by rw [HG.out.2.2.2.2.2]; exact h.1)).1
                  omega
                have y0 := hc10.cell (HG.out.2.2.2.1.cell HX0.out fun _ => id) fun _ => id
                obtain ⟨zss, how7, z2, z3, z4⟩ := r1
                have hl7 : (Sx.take k ++ [newX Sx refs]).length = k + 1 := by rw [List.length_append, HG.out.2.2.2.2.2]; rfl
                rw [hl7] at how7
                obtain ⟨xss, how, x2, x3, x4⟩ := HG.out.2.1.keep hc10 (fun _ _ => id) fun _ _ h => h
                have hrd : Reads w10 w10.heap.size 3 none (Sx.length - k) (xss.drop k).flatten := by
                  have hx0 : xss = [] := List.eq_nil_of_length_eq_zero (by rw [x2]; exact H00.out)
                  rw [hx0, show Sx.length - k = 0 by have := H00.out; omega, List.drop_nil]
                  exact Reads.none_
                have hsz10 := hc10.size
                have h1' : ∀ u ∈ (xss.drop k).flatten, u.oneCell' = true := fun u hu => one_flatX x2 x4 u (by
                  obtain ⟨cs, hcs, hu⟩ := List.mem_flatten.1 hu
                  exact List.mem_flatten.2 ⟨cs, List.mem_of_mem_drop hcs, hu⟩)
                have H10 := Lib.hid (And.intro hc10 (And.intro z2 (And.intro z3 (And.intro z4 (And.intro x2 (And.intro x3 (And.intro x4 (And.intro how7 (And.intro hrd h1')))))))))
                clear hc10 z2 z3 z4 x2 x3 x4 how how7 hrd h1' r2 r3 hl7 v0 v1 v2
                go_wp2_with (at_builtin; go_must (refine wpList_append_any w10 rfl (.tmp 87) (.tmp 93) 40 rfl w8.heap.size 39 i0 _ 3 56 Try.underlying40 hi0 hz0 hs0 hb0 rfl (by omega) (.slice A7 (k + 1) c7) (k + 1) zss.flatten rfl H10.out.2.2.2.2.2.2.2.1 w10.heap.size none (Sx.length - k) (c1 - k) (xss.drop k).flatten rfl H10.out.2.2.2.2.2.2.2.2.1 H10.out.2.2.2.2.2.2.2.2.2 (by unfold maxLen; omega) (by omega) hsz10 ?_))
                intro v11 w11 s1 s2 s3
                obtain ⟨A8, c8, rfl⟩ := own_form s1
                obtain ⟨hc10, z2, z3, z4, x2, x3, x4, how7, _, _⟩ := H10.out
                have hc11 : Chg (fun _ _ => False) w8 w11 := hc10.trans_new (chg_grown how7 s2) fun b t hb h => by
                  have := (own_blk how7 h.1).1
                  omega
                have hal : allocO Sx refs = (Sx.take k ++ [newX Sx refs]) ++ Sx.drop k := by
                  have := HKG.out
                  rw [this]
                  simp [allocO]
                have hlen11 : (allocO Sx refs).length = k + 1 + (Sx.length - k) := by
                  rw [hal, List.length_append, List.length_append, HG.out.2.2.2.2.2, List.length_drop]
                  rfl
                have hrow11 : RowR w8.heap.size 39 3 (XoR hdd) w11 A8 c8 (allocO Sx refs) := by
                  rw [hal]
                  refine RowR.app s1 z2 (by rw [List.length_drop, List.length_drop, x2]) (by rw [List.length_append, HG.out.2.2.2.2.2]; rfl) (by rw [List.length_drop]) z3 (fun cs hcs => x3 cs (List.mem_of_mem_drop hcs)) z4 fun j x cs hx hcs => ?_
                  rw [List.getElem?_drop] at hx hcs
                  exact x4 _ x cs hx hcs
                obtain ⟨hb11, hP, hcP⟩ := HH4.out.1.setRow (S' := allocO Sx refs) (HG.out.2.2.2.1.trans hc11) hrow11 HG.out.2.2.2.1.size (HG.out.1.keep (F := _) hc11 fun _ _ _ => id) (fun b hb => hb.imp id fun h => ⟨h.1, Nat.lt_of_lt_of_le h.2 hc11.size⟩) (alloc_good HT.out.1.good refs (by have := len_le_used Sx; have := HU.out; have := HF.out.2.1; have := HF.out.2.2; omega)) (by rw [alloc_used]; have := HU.out; have := HF.out.2.1; omega)
                rw [hlen11] at hP hcP
                have y0 : w11.cell? ⟨q, 0, none⟩ = some (.slice none Sx.length c1) := by simpa using hb11.cell 0
                have y0f := hb11.frozen 0
                have HP := Lib.hid (And.intro hP (HT.out.2.1.trans_le ((HH4.out.2.mono fun _ _ _ h => h.elim).trans hcP) fun b t hb h => ⟨(HT.out.2.2.2 b h.1).resolve_right (by omega), h.2⟩))
                clear hP hcP hb11 hrow11 hal hlen11 hc11 hc10 z2 z3 z4 x2 x3 x4 how7 s1 s2 s3
                go_wp2_with fail
                go_ret2
                exact ⟨by rw [(HV.out.2.2 HK.out HF.out.1).1, HT.out.2.2.1, ← HKG.out]; rfl, HP.out.2, _, A8, c8, by rw [(HV.out.2.2 HK.out HF.out.1).2, HT.out.2.2.1]; exact HP.out.1, fun b hb => by
                  rcases hb with hb | hb
                  · exact HT.out.2.2.2 b hb
                  · exact .inr (Nat.le_trans HT.out.2.1.size (Nat.le_trans HH4.out.2.size hb.1))⟩

              · injection hv with hA hn0 hc0
                subst hA
                subst hc0
                clear hn0
                have hdr := (Chg.refl (fun _ _ => False) w4).drew
                go_wp2_with fail
                refine wp_region_facts [(0, 65), (1, 66), (2, 67), (3, 68), (4, 69), (5, 70), (6, 71), (7, 72), (8, 73), (9, 9)] [] (objF k FA fc refs w4.heap.size) (by kernel_rfl) (by kernel_rfl) objF_dep objF_mono (ops_cons (OpF.run rfl rfl fun _ w H => by
                  exact ⟨_, w, exec_mv (.tmp 8), H.same 8 (by kernel_rfl), Chg.refl _ _⟩) (ops_cons (OpF.run rfl rfl fun _ w H => by
                  obtain ⟨r0, h0⟩ := H.fact 0 (by kernel_rfl)
                  have h0 := factH (p := fun u => u = .int .i64 (k : Int)) (k := 0) (d := 65) h0 (by kernel_rfl)
                  exact ⟨_, w, exec_addI (.tmp 65) (.const (.int .i64 1)) h0 rfl (by unfold I64; omega), rfl, Chg.refl _ _⟩) (ops_cons (OpF.run rfl rfl fun _ w H => by
                  exact ⟨_, w, exec_mv (.tmp 1), H.same 1 (by kernel_rfl), Chg.refl _ _⟩) (ops_cons (OpF.run rfl rfl fun _ w H => by
                  obtain ⟨r2, h2⟩ := H.fact 2 (by kernel_rfl)
                  have h2 := factH (p := fun u => u = .slice FA refs.length fc) (k := 2) (d := 67) h2 (by kernel_rfl)
                  exact ⟨_, w, exec_lenB (.tmp 67) h2, rfl, Chg.refl _ _⟩) (ops_cons (OpF.run rfl rfl fun _ w H => by
                  obtain ⟨r3, h3⟩ := H.fact 3 (by kernel_rfl)
                  have h3 := factH (p := fun u => u = .int .i64 (refs.length : Nat)) (k := 3) (d := 68) h3 (by kernel_rfl)
                  exact ⟨_, _, exec_mk0 (.tmp 68) (.tmp 68) h3 h3 (by omega), ⟨_, _, rfl, made_row w4.heap.size refs.length (fun _ => rfl) (Nat.le_trans hdr.size H.chg.size) (by simp only [maxLen]; omega)⟩, chg_alloc _ _⟩) (ops_cons (OpF.run rfl rfl fun _ w H => by
                  exact ⟨_, _, exec_bs0, ⟨_, rfl, Nat.le_trans hdr.size H.chg.size, Blk.new w 4 _⟩, chg_alloc _ _⟩) (ops_cons (OpF.run rfl rfl fun _ w H => by
                  exact ⟨_, w, exec_mv (.tmp 1), H.same 1 (by kernel_rfl), Chg.refl _ _⟩) (ops_cons (OpF.run rfl rfl fun _ w H => by
                  obtain ⟨r5, h5⟩ := H.fact 5 (by kernel_rfl)
                  obtain ⟨b5, h5, k5, k5b⟩ := h5
                  have h5 := factH (p := fun u => u = .slice (some ⟨b5, 0, none⟩) 0 0) (k := 5) (d := 70) h5 (by kernel_rfl)
                  obtain ⟨r6, h6⟩ := H.fact 6 (by kernel_rfl)
                  have h6 := factH (p := fun u => u = .slice FA refs.length fc) (k := 6) (d := 71) h6 (by kernel_rfl)
                  obtain ⟨A', c', w', hr, hrow, hch⟩ := exec_apB (.tmp 70) (.tmp 71) h5 h6 k5 k5b (SlR.keep HSL.out (hdr.trans H.chg) (no_letsH _ _) fun _ _ h => h) (by omega) (Nat.le_trans hdr.size H.chg.size)
                  exact ⟨_, w', hr, ⟨_, _, rfl, hrow⟩, hch⟩) (ops_cons (OpF.run rfl rfl fun _ w H => by
                  obtain ⟨r1, h1⟩ := H.fact 1 (by kernel_rfl)
                  have h1 := factH (p := fun u => u = .int .i64 ((k : Int) + 1)) (k := 1) (d := 66) h1 (by kernel_rfl)
                  obtain ⟨r4, h4⟩ := H.fact 4 (by kernel_rfl)
                  obtain ⟨A1, c1, h4, k4⟩ := h4
                  have h4 := factH (p := fun v => v = .slice A1 refs.length c1) (k := 4) (d := 69) h4 (by kernel_rfl)
                  obtain ⟨r7, h7⟩ := H.fact 7 (by kernel_rfl)
                  obtain ⟨A2, c2, h7, k7⟩ := h7
                  have h7 := factH (p := fun v => v = .slice A2 refs.length c2) (k := 7) (d := 72) h7 (by kernel_rfl)
                  exact ⟨_, w, exec_bd3 (.tmp 66) (.tmp 69) (.tmp 72) h1 h4 h7, ⟨_, _, _, _, rfl, k4, k7⟩, Chg.refl _ _⟩) (ops_cons (OpF.run rfl rfl fun _ w H => by
                  exact ⟨_, _, exec_alO, ⟨_, rfl, Nat.le_trans hdr.size H.chg.size, Blk.new w 39 _⟩, chg_alloc _ _⟩) ops_nil)))))))))) ?_
                intro pp u r w7 hu _ _ hcw
                obtain ⟨XA, xc, XB, xd, e8, hr1, hr2⟩ := hu (8, 73) (by simp)
                obtain ⟨bx, e9, hbx0, hbx⟩ := hu (9, 9) (by simp)
                have e8 : u 8 = _ := e8
                have e9 : u 9 = _ := e9
                clear hu
                simp only [List.filter_nil, List.append_nil, putL, Act.put, List.setIfInBounds_toArray, List.set_cons_zero, List.set_cons_succ]
                rw [e8, e9]
                clear e8 e9
                have z0 : w7.cell? ⟨bx, 0, none⟩ = some (.int .i64 0) := by simpa using hbx.cell 0
                have z1 : w7.cell? ⟨bx, 1, none⟩ = some (.slice none 0 0) := by simpa using hbx.cell 1
                have z2 : w7.cell? ⟨bx, 2, none⟩ = some (.slice none 0 0) := by simpa using hbx.cell 2
                have f0 := hbx.frozen 0
                have f1 := hbx.frozen 1
                have f2 := hbx.frozen 2
                refine wpAny_ready (rs := [10]) (by kernel_rfl) (by simp) ?_
                refine AllReady.cons rfl (fun K hK => ?_) AllReady.nil
                go_simp
                refine hK _ _ ?_
                clear hK K z0 z1 z2 f0 f1 f2
                try simp only [Act.put, List.setIfInBounds_toArray, List.set_cons_zero, List.set_cons_succ]
                refine ⟨by kernel_rfl, ?_⟩
                have hb1 := hbx.set_ 0 (.int .i64 ((k : Int) + 1))
                have hb2 := hb1.set_ 1 (.slice XA refs.length xc)
                have hb3 : Blk (((w7.setCell ⟨bx, 0, none⟩ (.int .i64 ((k : Int) + 1))).setCell ⟨bx, 1, none⟩ (.slice XA refs.length xc)).setCell ⟨bx, 2, none⟩ (.slice XB refs.length xd)) bx 39 #[.int .i64 ((k : Int) + 1), .slice XA refs.length xc, .slice XB refs.length xd] := by simpa using hb2.set_ 2 (.slice XB refs.length xd)
                have hcs := (chg_set (j := 0) hbx (.int .i64 ((k : Int) + 1))).trans ((chg_set (j := 1) hb1 (.slice XA refs.length xc)).trans (chg_set (j := 2) hb2 (.slice XB refs.length xd)))
                have hc8 := ((((hdr.trans hcw).setNew 0 (.int .i64 ((k : Int) + 1)) hbx0).setNew 1 (.slice XA refs.length xc) hbx0).setNew 2 (.slice XB refs.length xd) hbx0)
                clear hb1 hb2 hdr hcw
                generalize hw8 : (((w7.setCell ⟨bx, 0, none⟩ (.int .i64 ((k : Int) + 1))).setCell ⟨bx, 1, none⟩ (.slice XA refs.length xc)).setCell ⟨bx, 2, none⟩ (.slice XB refs.length xd)) = w8 at hb3 hc8 hcs ⊢
                clear hw8 hbx
                obtain ⟨hd, hx1, hx2, hx3⟩ := RObjs.hdr HH4.out.1.objs HT.out.1.good.sorted
                have hr1 := hr1.keep hcs (fun b _ h => absurd h.2 (by decide)) fun _ _ h => h
                have hr2 := hr2.keep hcs (fun b _ h => absurd h.2 (by decide)) fun _ _ h => h
                have hdat := RDat.alloc (hx2.keep hc8 fun _ _ _ => id) HT.out.1.good (fun b hb => HH4.out.1.lt b hb) hr1 hr2
                have hrow : RowR 0 39 3 (XoR (hd.put (gapS Sx + 1) XA xc XB xd)) w8 (some ⟨gb, 0, none⟩) c1 Sx := (hx1.keep hc8 (fun _ _ => id) fun _ _ h => h).imp' fun cs x hx h => (XoR.put (gap_names HT.out.1.good x hx)).2 h
                generalize hhd : hd.put (gapS Sx + 1) XA xc XB xd = hdd at hdat hrow
                have hsl := (hrow.slr (by decide) 0).take_ (i := k) (by omega)
                have hcap := (SlR.len (hrow.slr (by decide) 0)).2
                have y0 := hc8.cell x0 fun _ => id
                have hnew : XoR hdd w8 [.int .i64 ((k : Int) + 1), .slice XA refs.length xc, .slice XB refs.length xd] (newX Sx refs) := by
                  rw [← hhd, HKG.out]
                  simp [XoR, newX, HdrT.put]
                have htl : (Sx.take k).length = k := by rw [List.length_take]; omega
                obtain ⟨i0, hi0, hz0, hs0, hb0⟩ := info_parts infoRObj
                have HG := Lib.hid (And.intro hdat (And.intro hrow (And.intro hb3 (And.intro hc8 (And.intro hnew htl)))))
                have hql : q < w8.heap.size := Nat.lt_of_lt_of_le HH4.out.1.blk.lt hc8.size
                have hii : (0 : Int) ≤ (k : Int) := by omega
                have hin : (k : Int) ≤ (Sx.length : Int) := by omega
                have hic : k ≤ c1 := by omega
                have hin2 : k ≤ Sx.length := by omega
                clear hr1 hr2 hx1 hx2 hx3 hhd hdat hrow hb3 hc8 hcs hnew htl x0 hbx0 hd hk
                go_wp2_with (at_builtin; go_must (refine wpList_copy_slr rfl (.tmp 74) (.tmp 80) 40 rfl 39 i0 _ 56 Try.underlying40 hi0 hz0 hs0 hb0 rfl (by omega) (some ⟨gb, 0, none⟩) k c1 rfl (by simp) rfl hsl one_xor (by omega) (by omega) ?_))
                intro A6 c6 w9 yss k1 k2 k3 k4 k5
                have y0 := k5.cell y0 fun _ => id
                have hb9 := k5.blk HG.out.2.2.1 id
                have v0 : w9.cell? ⟨bx, 0, none⟩ = some (.int .i64 ((k : Int) + 1)) := by simpa using hb9.cell 0
                have v1 : w9.cell? ⟨bx, 1, none⟩ = some (.slice XA refs.length xc) := by simpa using hb9.cell 1
                have v2 : w9.cell? ⟨bx, 2, none⟩ = some (.slice XB refs.length xd) := by simpa using hb9.cell 2
                have hrow9 : RowR w8.heap.size 39 3 (XoR hdd) w9 A6 c6 (Sx.take k) := ⟨yss, by rw [HG.out.2.2.2.2.2]; exact k1, by rw [HG.out.2.2.2.2.2]; exact k2, k3, k4⟩
                have hsz9 := k5.size
                have H9 := Lib.hid (And.intro hrow9 k5)
                clear k1 k2 k3 k4 k5 hsl hb9 hrow9
                go_wp2_with (at_builtin; go_must (refine wpList_push1 rfl (.tmp 82) (.tmp 84) 40 rfl w8.heap.size 39 i0 _ 3 56 Try.underlying40 hi0 hz0 hs0 hb0 rfl (by omega) (XoR hdd) A6 c6 (Sx.take k) (n := k) HG.out.2.2.2.2.2.symm (by first | rfl | simp) H9.out.1 1 [.int .i64 ((k : Int) + 1), .slice XA refs.length xc, .slice XB refs.length xd] (newX Sx refs) (by first | rfl | simp) (by first | rfl | simp) rfl (by intro u hu; simp at hu; rcases hu with rfl | rfl | rfl <;> rfl) HG.out.2.2.2.2.1 (by omega) (by omega) hsz9 (fun _ _ _ _ h => h) ?_))
                intro A7 c7 w10 r1 r2 r3
                have hc10 : Chg (fun _ _ => False) w8 w10 := H9.out.2.trans_new r2 fun b t hb h => by
                  have := (H9.out.1.own_in (g := b) (by rw [HG.out.2.2.2.2.2]; exact h.1)).1
                  omega
                have y0 := hc10.cell (HG.out.2.2.2.1.cell HX0.out fun _ => id) fun _ => id
                obtain ⟨zss, how7, z2, z3, z4⟩ := r1
                have hl7 : (Sx.take k ++ [newX Sx refs]).length = k + 1 := by rw [List.length_append, HG.out.2.2.2.2.2]; rfl
                rw [hl7] at how7
                obtain ⟨xss, how, x2, x3, x4⟩ := HG.out.2.1.keep hc10 (fun _ _ => id) fun _ _ h => h
                obtain ⟨A5, hA5, hrd⟩ : ∃ A5, (if c1 = k then some (⟨gb, 0, none⟩ : Addr) else some ⟨gb, k * 3, none⟩) = A5 ∧ Reads w10 w10.heap.size 3 A5 (Sx.length - k) (xss.drop k).flatten := by
                  have hr := (Reads.of_own how).cut (k := k) (cap := c1) hin2 hcap
                  rw [drop_flat xss x3] at hr
                  refine ⟨_, rfl, ?_⟩
                  have e : (if c1 = k then some (⟨gb, 0, none⟩ : Addr) else (some (⟨gb, 0, none⟩ : Addr)).map (·.add (k * 3))) = if c1 = k then some (⟨gb, 0, none⟩ : Addr) else some ⟨gb, k * 3, none⟩ := by
                    simp [add_flat]
                  rw [← e]
                  exact hr
                have hsz10 := hc10.size
                have h1' : ∀ u ∈ (xss.drop k).flatten, u.oneCell' = true := fun u hu => one_flatX x2 x4 u (by
                  obtain ⟨cs, hcs, hu⟩ := List.mem_flatten.1 hu
                  exact List.mem_flatten.2 ⟨cs, List.mem_of_mem_drop hcs, hu⟩)
                have H10 := Lib.hid (And.intro hc10 (And.intro z2 (And.intro z3 (And.intro z4 (And.intro x2 (And.intro x3 (And.intro x4 (And.intro how7 (And.intro hrd h1')))))))))
                clear hc10 z2 z3 z4 x2 x3 x4 how how7 hrd h1' r2 r3 hl7 v0 v1 v2
                go_wp2_with (at_builtin; go_must (refine wpList_append_any w10 rfl (.tmp 87) (.tmp 93) 40 rfl w8.heap.size 39 i0 _ 3 56 Try.underlying40 hi0 hz0 hs0 hb0 rfl (by omega) (.slice A7 (k + 1) c7) (k + 1) zss.flatten rfl H10.out.2.2.2.2.2.2.2.1 w10.heap.size A5 (Sx.length - k) (c1 - k) (xss.drop k).flatten rfl H10.out.2.2.2.2.2.2.2.2.1 H10.out.2.2.2.2.2.2.2.2.2 (by unfold maxLen; omega) (by omega) hsz10 ?_))
                intro v11 w11 s1 s2 s3
                obtain ⟨A8, c8, rfl⟩ := own_form s1
                obtain ⟨hc10, z2, z3, z4, x2, x3, x4, how7, _, _⟩ := H10.out
                have hc11 : Chg (fun _ _ => False) w8 w11 := hc10.trans_new (chg_grown how7 s2) fun b t hb h => by
                  have := (own_blk how7 h.1).1
                  omega
                have hal : allocO Sx refs = (Sx.take k ++ [newX Sx refs]) ++ Sx.drop k := by
                  have := HKG.out
                  rw [this]
                  simp [allocO]
                have hlen11 : (allocO Sx refs).length = k + 1 + (Sx.length - k) := by
                  rw [hal, List.length_append, List.length_append, HG.out.2.2.2.2.2, List.length_drop]
                  rfl
                have hrow11 : RowR w8.heap.size 39 3 (XoR hdd) w11 A8 c8 (allocO Sx refs) := by
                  rw [hal]
                  refine RowR.app s1 z2 (by rw [List.length_drop, List.length_drop, x2]) (by rw [List.length_append, HG.out.2.2.2.2.2]; rfl) (by rw [List.length_drop]) z3 (fun cs hcs => x3 cs (List.mem_of_mem_drop hcs)) z4 fun j x cs hx hcs => ?_
                  rw [List.getElem?_drop] at hx hcs
                  exact x4 _ x cs hx hcs
                obtain ⟨hb11, hP, hcP⟩ := HH4.out.1.setRow (S' := allocO Sx refs) (HG.out.2.2.2.1.trans hc11) hrow11 HG.out.2.2.2.1.size (HG.out.1.keep (F := _) hc11 fun _ _ _ => id) (fun b hb => hb.imp id fun h => ⟨h.1, Nat.lt_of_lt_of_le h.2 hc11.size⟩) (alloc_good HT.out.1.good refs (by have := len_le_used Sx; have := HU.out; have := HF.out.2.1; have := HF.out.2.2; omega)) (by rw [alloc_used]; have := HU.out; have := HF.out.2.1; omega)
                rw [hlen11] at hP hcP
                have y0 : w11.cell? ⟨q, 0, none⟩ = some (.slice (some ⟨gb, 0, none⟩) Sx.length c1) := by simpa using hb11.cell 0
                have y0f := hb11.frozen 0
                have HP := Lib.hid (And.intro hP (HT.out.2.1.trans_le ((HH4.out.2.mono fun _ _ _ h => h.elim).trans hcP) fun b t hb h => ⟨(HT.out.2.2.2 b h.1).resolve_right (by omega), h.2⟩))
                clear hP hcP hb11 hrow11 hal hlen11 hc11 hc10 z2 z3 z4 x2 x3 x4 how7 s1 s2 s3
                go_wp2_with fail
                go_ret2
                exact ⟨by rw [(HV.out.2.2 HK.out HF.out.1).1, HT.out.2.2.1, ← HKG.out]; rfl, HP.out.2, _, A8, c8, by rw [(HV.out.2.2 HK.out HF.out.1).2, HT.out.2.2.1]; exact HP.out.1, fun b hb => by
                  rcases hb with hb | hb
                  · exact HT.out.2.2.2 b hb
                  · exact .inr (Nat.le_trans HT.out.2.1.size (Nat.le_trans HH4.out.2.size hb.1))⟩


      · have q5 : decide ((bud : Int) < (U : Int) + 1 + (refs.length : Int)) = false := decide_eq_false (by omega)
        have HIN := Lib.hid (show allocIn S bud refs roots = S by unfold allocIn; rw [HU.out, if_neg hbr])
        have hc02 := HC1.out.trans hcw
        have HT : Hid (RhI F w2 q A c S bud ∧ Chg (MR F) w w2 ∧ allocIn S bud refs roots = S ∧ ∀ b, F b → F b ∨ w.heap.size ≤ b) := Lib.hid ⟨HH.out.1.keep hc02 fun _ _ _ => id, hc02.mono fun _ _ _ h => h.elim, HIN.out, fun b hb => .inl hb⟩
        obtain ⟨Sx, F1, A1, c1, w3, hSx⟩ : ∃ Sx F1 A1 c1 w3, Sx = S ∧ F1 = F ∧ A1 = A ∧ c1 = c ∧ w3 = w2 := ⟨_, _, _, _, _, rfl, rfl, rfl, rfl, rfl⟩
        obtain ⟨s1, s2, s3, s4, s5⟩ := hSx
        have HT : Hid (RhI F1 w3 q A1 c1 Sx bud ∧ Chg (MR F) w w3 ∧ allocIn S bud refs roots = Sx ∧ ∀ b, F1 b → F b ∨ w.heap.size ≤ b) := by rw [s1, s2, s3, s4, s5]; exact HT
        rw [← s5]
        clear s1 s2 s3 s4 s5 hbr hcw hc02 HX HIN
        rw [q5]
        go_wp2_with fail
        have hrs := HT.out.1.room
        obtain ⟨V, hV⟩ : ∃ V, usedO Sx = V := ⟨_, rfl⟩
        rw [hV] at hrs
        have HU := Lib.hid hV
        have HX := Lib.hid HT.out.1
        clear q5 hV
        have hdr := (Chg.refl (fun _ _ => False) w3).drew
        refine wp_region_facts [(0, 32), (1, 33), (2, 34), (3, 35), (4, 36), (5, 37), (6, 38), (7, 39), (8, 40), (9, 41), (10, 42)] [] (romF q V refs.length FA fc bud) (by kernel_rfl) (by kernel_rfl) romF_dep romF_mono (ops_cons (OpF.run rfl rfl fun _ w H => by
          exact ⟨_, w, exec_mv (.tmp 0), H.same 0 (by kernel_rfl), Chg.refl _ _⟩) (ops_cons (OpF.call rfl rfl fun _ w H => by
          obtain ⟨r0, h0⟩ := H.fact 0 (by kernel_rfl)
          have h0 := factH (p := fun u => u = .pointer (some ⟨q, 0, none⟩)) (k := 0) (d := 32) h0 (by kernel_rfl)
          exact ⟨_, _, exec_cl _ _ _ (rused_enters w), by rw [h0]; exact (rused_any F1 w q A1 c1 Sx bud (HX.out.keep (hdr.trans H.chg) fun _ _ _ => id)).mono fun e w' ⟨he, hc⟩ => ⟨_, he, by have hu := HU.out; subst hu; rfl, hc⟩⟩) (ops_cons (OpF.run rfl rfl fun _ w H => by
          obtain ⟨r1, h1⟩ := H.fact 1 (by kernel_rfl)
          have h1 := factH (p := fun u => u = .int .i64 (V : Int)) (k := 1) (d := 33) h1 (by kernel_rfl)
          exact ⟨_, w, exec_addI (.tmp 33) (.const (.int .i64 1)) h1 rfl (by unfold I64; omega), rfl, Chg.refl _ _⟩) (ops_cons (OpF.run rfl rfl fun _ w H => by
          exact ⟨_, w, exec_mv (.tmp 1), H.same 1 (by kernel_rfl), Chg.refl _ _⟩) (ops_cons (OpF.run rfl rfl fun _ w H => by
          obtain ⟨r3, h3⟩ := H.fact 3 (by kernel_rfl)
          have h3 := factH (p := fun u => u = .slice FA refs.length fc) (k := 3) (d := 35) h3 (by kernel_rfl)
          exact ⟨_, w, exec_lenB (.tmp 35) h3, rfl, Chg.refl _ _⟩) (ops_cons (OpF.run rfl rfl fun _ w H => by
          obtain ⟨r2, h2⟩ := H.fact 2 (by kernel_rfl)
          have h2 := factH (p := fun u => u = .int .i64 ((V : Int) + 1)) (k := 2) (d := 34) h2 (by kernel_rfl)
          obtain ⟨r4, h4⟩ := H.fact 4 (by kernel_rfl)
          have h4 := factH (p := fun u => u = .int .i64 (refs.length : Int)) (k := 4) (d := 36) h4 (by kernel_rfl)
          exact ⟨_, w, exec_addI (.tmp 34) (.tmp 36) h2 h4 (by unfold I64; omega), rfl, Chg.refl _ _⟩) (ops_cons (OpF.run rfl rfl fun _ w H => by
          exact ⟨_, w, exec_mv (.tmp 0), H.same 0 (by kernel_rfl), Chg.refl _ _⟩) (ops_cons (OpF.run rfl rfl fun _ w H => by
          obtain ⟨r6, h6⟩ := H.fact 6 (by kernel_rfl)
          have h6 := factH (p := fun u => u = .pointer (some ⟨q, 0, none⟩)) (k := 6) (d := 38) h6 (by kernel_rfl)
          exact ⟨_, w, exec_nc (.tmp 38) h6, rfl, Chg.refl _ _⟩) (ops_cons (OpF.run rfl rfl fun _ w H => by
          obtain ⟨r7, h7⟩ := H.fact 7 (by kernel_rfl)
          have h7 := factH (p := fun u => u = .pointer (some ⟨q, 0, none⟩)) (k := 7) (d := 39) h7 (by kernel_rfl)
          exact ⟨_, w, exec_faR1 (.tmp 39) h7, rfl, Chg.refl _ _⟩) (ops_cons (OpF.run rfl rfl fun _ w H => by
          obtain ⟨r8, h8⟩ := H.fact 8 (by kernel_rfl)
          have h8 := factH (p := fun u => u = .pointer (some ⟨q, 1, none⟩)) (k := 8) (d := 40) h8 (by kernel_rfl)
          exact ⟨_, w, exec_ldI (.tmp 40) h8 (by simpa using ((hdr.trans H.chg).blk HX.out.blk id).cell 1), rfl, Chg.refl _ _⟩) (ops_cons (OpF.run rfl rfl fun _ w H => by
          obtain ⟨r5, h5⟩ := H.fact 5 (by kernel_rfl)
          have h5 := factH (p := fun u => u = .int .i64 ((V : Int) + 1 + (refs.length : Int))) (k := 5) (d := 37) h5 (by kernel_rfl)
          obtain ⟨r9, h9⟩ := H.fact 9 (by kernel_rfl)
          have h9 := factH (p := fun u => u = .int .i64 (bud : Int)) (k := 9) (d := 41) h9 (by kernel_rfl)
          exact ⟨_, w, exec_gtrI (.tmp 37) (.tmp 41) h5 h9, rfl, Chg.refl _ _⟩) ops_nil))))))))))) ?_
        intro pp u r w4 hu _ _ hcw
        have e10 : u 10 = _ := hu (10, 42) (by simp)
        clear hu
        simp only [List.filter_nil, List.append_nil, putL, Act.put, List.setIfInBounds_toArray, List.set_cons_zero, List.set_cons_succ]
        rw [e10]
        clear e10
        have hcw := hdr.trans hcw
        refine ⟨by kernel_rfl, ?_⟩
        clear hdr
        by_cases hfu : bud < V + (1 + refs.length)
        · have q5 : decide ((bud : Int) < (V : Int) + 1 + (refs.length : Int)) = true := decide_eq_true (by omega)
          have HF := Lib.hid (And.intro (show bud < usedO (allocIn S bud refs roots) + (1 + refs.length) by rw [HT.out.2.2.1, HU.out]; exact hfu) hcw)
          clear hfu hrs hcw
          rw [q5]
          go_wp2_with fail
          go_ret2
          exact ⟨by rw [(HV.out.2.1 HK.out HF.out.1).1]; rfl, HT.out.2.1.trans (HF.out.2.mono fun _ _ _ h => h.elim), F1, A1, c1, by rw [(HV.out.2.1 HK.out HF.out.1).2, HT.out.2.2.1]; exact HT.out.1.keep HF.out.2 fun _ _ _ => id, HT.out.2.2.2⟩
        · have q5 : decide ((bud : Int) < (V : Int) + 1 + (refs.length : Int)) = false := decide_eq_false (by omega)
          have hlen := len_le_used Sx
          rw [HU.out] at hlen
          have HF := Lib.hid (And.intro (show ¬ bud < usedO (allocIn S bud refs roots) + (1 + refs.length) by rw [HT.out.2.2.1, HU.out]; exact hfu) (And.intro hfu hrs))
          have hlen : Sx.length ≤ 65536 := by omega
          have hH4 := HT.out.1.keep hcw fun _ _ _ => id
          have HH4 := Lib.hid (And.intro hH4 hcw)
          have HSL := Lib.hid ((SlR.keep (SlR.keep HH.out.2.2 HT.out.2.1 hLf fun _ _ h => h) hcw (no_letsH _ _) fun _ _ h => h).settle fun _ _ h => h)
          have x0 : w4.cell? ⟨q, 0, none⟩ = some (.slice A1 Sx.length c1) := by simpa using hH4.blk.cell 0
          have HX0 := Lib.hid x0
          clear hfu hrs hcw hH4
          rw [q5]
          go_wp2_with fail
          go_loopw [8] (fun i wr => ∃ k : Nat, k ≤ gapS Sx ∧ i = .int .i64 (k : Int) ∧ wr = w4) (fun i _ => gapS Sx + 1 - (intOf i).toNat)
          case atStart => exact ⟨0, Nat.zero_le _, rfl, rfl⟩
          case round =>
            obtain ⟨k, hk, rfl, hwe⟩ := hrel
            rw [hwe]
            have hgl := gapS_le Sx
            have q3 : IntKind.i64.wrap ((k : Int) + 1) = (k : Int) + 1 := IntWalk.i64_in _ ⟨by omega, by omega⟩
            by_cases hlt : k < Sx.length
            · have p1 : (k : Int) < (Sx.length : Int) := by omega
              have p2 : decide (k < Sx.length) = true := decide_eq_true hlt
              obtain ⟨gb, o, B1, d1, B2, d2, hA1, hko, _, z0, _, _⟩ := HH4.out.1.objs.at_ hlt
              subst hA1
              by_cases hnm : o.name = k + 1
              · have hkl : k < gapS Sx := by
                  rcases Nat.lt_or_ge k (gapS Sx) with h1 | h1
                  · exact h1
                  · have := gapS_gt HT.out.1.good.sorted HT.out.1.good.pos hko h1
                    omega
                have p3 : ((o.name : Int) == (k : Int) + 1) = true := by simp [hnm]
                clear hko hnm
                go_wp2_with fail
                go_roundw
                case rel => exact ⟨k + 1, hkl, by simp, by first | rfl | trivial⟩
                case measure => simp [intOf]; omega
              · have hkg : k = gapS Sx := by
                  rcases Nat.lt_or_ge k (gapS Sx) with h1 | h1
                  · have := gapS_at hko h1
                    omega
                  · omega
                have p3 : ((o.name : Int) == (k : Int) + 1) = false := by simp; omega
                have HKG := Lib.hid hkg
                clear hko hnm hkg
                have hdr := (Chg.refl (fun _ _ => False) w4).drew
                go_wp2_with fail
                refine wp_region_facts [(0, 65), (1, 66), (2, 67), (3, 68), (4, 69), (5, 70), (6, 71), (7, 72), (8, 73), (9, 9)] [] (objF k FA fc refs w4.heap.size) (by kernel_rfl) (by kernel_rfl) objF_dep objF_mono (ops_cons (OpF.run rfl rfl fun _ w H => by
                  exact ⟨_, w, exec_mv (.tmp 8), H.same 8 (by kernel_rfl), Chg.refl _ _⟩) (ops_cons (OpF.run rfl rfl fun _ w H => by
                  obtain ⟨r0, h0⟩ := H.fact 0 (by kernel_rfl)
                  have h0 := factH (p := fun u => u = .int .i64 (k : Int)) (k := 0) (d := 65) h0 (by kernel_rfl)
                  exact ⟨_, w, exec_addI (.tmp 65) (.const (.int .i64 1)) h0 rfl (by unfold I64; omega), rfl, Chg.refl _ _⟩) (ops_cons (OpF.run rfl rfl fun _ w H => by
                  exact ⟨_, w, exec_mv (.tmp 1), H.same 1 (by kernel_rfl), Chg.refl _ _⟩) (ops_cons (OpF.run rfl rfl fun _ w H => by
                  obtain ⟨r2, h2⟩ := H.fact 2 (by kernel_rfl)
                  have h2 := factH (p := fun u => u = .slice FA refs.length fc) (k := 2) (d := 67) h2 (by kernel_rfl)
                  exact ⟨_, w, exec_lenB (.tmp 67) h2, rfl, Chg.refl _ _⟩) (ops_cons (OpF.run rfl rfl fun _ w H => by
                  obtain ⟨r3, h3⟩ := H.fact 3 (by kernel_rfl)
                  have h3 := factH (p := fun u => u = .int .i64 (refs.length : Nat)) (k := 3) (d := 68) h3 (by kernel_rfl)
                  exact ⟨_, _, exec_mk0 (.tmp 68) (.tmp 68) h3 h3 (by omega), ⟨_, _, rfl, made_row w4.heap.size refs.length (fun _ => rfl) (Nat.le_trans hdr.size H.chg.size) (by simp only [maxLen]; omega)⟩, chg_alloc _ _⟩) (ops_cons (OpF.run rfl rfl fun _ w H => by
                  exact ⟨_, _, exec_bs0, ⟨_, rfl, Nat.le_trans hdr.size H.chg.size, Blk.new w 4 _⟩, chg_alloc _ _⟩) (ops_cons (OpF.run rfl rfl fun _ w H => by
                  exact ⟨_, w, exec_mv (.tmp 1), H.same 1 (by kernel_rfl), Chg.refl _ _⟩) (ops_cons (OpF.run rfl rfl fun _ w H => by
                  obtain ⟨r5, h5⟩ := H.fact 5 (by kernel_rfl)
                  obtain ⟨b5, h5, k5, k5b⟩ := h5
                  have h5 := factH (p := fun u => u = .slice (some ⟨b5, 0, none⟩) 0 0) (k := 5) (d := 70) h5 (by kernel_rfl)
                  obtain ⟨r6, h6⟩ := H.fact 6 (by kernel_rfl)
                  have h6 := factH (p := fun u => u = .slice FA refs.length fc) (k := 6) (d := 71) h6 (by kernel_rfl)
                  obtain ⟨A', c', w', hr, hrow, hch⟩ := exec_apB (.tmp 70) (.tmp 71) h5 h6 k5 k5b (SlR.keep HSL.out (hdr.trans H.chg) (no_letsH _ _) fun _ _ h => h) (by omega) (Nat.le_trans hdr.size H.chg.size)
                  exact ⟨_, w', hr, ⟨_, _, rfl, hrow⟩, hch⟩) (ops_cons (OpF.run rfl rfl fun _ w H => by
                  obtain ⟨r1, h1⟩ := H.fact 1 (by kernel_rfl)
                  have h1 := factH (p := fun u => u = .int .i64 ((k : Int) + 1)) (k := 1) (d := 66) h1 (by kernel_rfl)
                  obtain ⟨r4, h4⟩ := H.fact 4 (by kernel_rfl)
                  obtain ⟨A1, c1, h4, k4⟩ := h4
                  have h4 := factH (p := fun v => v = .slice A1 refs.length c1) (k := 4) (d := 69) h4 (by kernel_rfl)
                  obtain ⟨r7, h7⟩ := H.fact 7 (by kernel_rfl)
                  obtain ⟨A2, c2, h7, k7⟩ := h7
                  have h7 := factH (p := fun v => v = .slice A2 refs.length c2) (k := 7) (d := 72) h7 (by kernel_rfl)
                  exact ⟨_, w, exec_bd3 (.tmp 66) (.tmp 69) (.tmp 72) h1 h4 h7, ⟨_, _, _, _, rfl, k4, k7⟩, Chg.refl _ _⟩) (ops_cons (OpF.run rfl rfl fun _ w H => by
                  exact ⟨_, _, exec_alO, ⟨_, rfl, Nat.le_trans hdr.size H.chg.size, Blk.new w 39 _⟩, chg_alloc _ _⟩) ops_nil)))))))))) ?_
                intro pp u r w7 hu _ _ hcw
                obtain ⟨XA, xc, XB, xd, e8, hr1, hr2⟩ := hu (8, 73) (by simp)
                obtain ⟨bx, e9, hbx0, hbx⟩ := hu (9, 9) (by simp)
                have e8 : u 8 = _ := e8
                have e9 : u 9 = _ := e9
                clear hu
                simp only [List.filter_nil, List.append_nil, putL, Act.put, List.setIfInBounds_toArray, List.set_cons_zero, List.set_cons_succ]
                rw [e8, e9]
                clear e8 e9
                have z0 : w7.cell? ⟨bx, 0, none⟩ = some (.int .i64 0) := by simpa using hbx.cell 0
                have z1 : w7.cell? ⟨bx, 1, none⟩ = some (.slice none 0 0) := by simpa using hbx.cell 1
                have z2 : w7.cell? ⟨bx, 2, none⟩ = some (.slice none 0 0) := by simpa using hbx.cell 2
                have f0 := hbx.frozen 0
                have f1 := hbx.frozen 1
                have f2 := hbx.frozen 2
                refine wpAny_ready (rs := [10]) (by kernel_rfl) (by simp) ?_
                refine AllReady.cons rfl (fun K hK => ?_) AllReady.nil
                go_simp
                refine hK _ _ ?_
                clear hK K z0 z1 z2 f0 f1 f2
                try simp only [Act.put, List.setIfInBounds_toArray, List.set_cons_zero, List.set_cons_succ]
                refine ⟨by kernel_rfl, ?_⟩
                have hb1 := hbx.set_ 0 (.int .i64 ((k : Int) + 1))
                have hb2 := hb1.set_ 1 (.slice XA refs.length xc)
                have hb3 : Blk (((w7.setCell ⟨bx, 0, none⟩ (.int .i64 ((k : Int) + 1))).setCell ⟨bx, 1, none⟩ (.slice XA refs.length xc)).setCell ⟨bx, 2, none⟩ (.slice XB refs.length xd)) bx 39 #[.int .i64 ((k : Int) + 1), .slice XA refs.length xc, .slice XB refs.length xd] := by simpa using hb2.set_ 2 (.slice XB refs.length xd)
                have hcs := (chg_set (j := 0) hbx (.int .i64 ((k : Int) + 1))).trans ((chg_set (j := 1) hb1 (.slice XA refs.length xc)).trans (chg_set (j := 2) hb2 (.slice XB refs.length xd)))
                have hc8 := ((((hdr.trans hcw).setNew 0 (.int .i64 ((k : Int) + 1)) hbx0).setNew 1 (.slice XA refs.length xc) hbx0).setNew 2 (.slice XB refs.length xd) hbx0)
                clear hb1 hb2 hdr hcw
                generalize hw8 : (((w7.setCell ⟨bx, 0, none⟩ (.int .i64 ((k : Int) + 1))).setCell ⟨bx, 1, none⟩ (.slice XA refs.length xc)).setCell ⟨bx, 2, none⟩ (.slice XB refs.length xd)) = w8 at hb3 hc8 hcs ⊢
                clear hw8 hbx
                obtain ⟨hd, hx1, hx2, hx3⟩ := RObjs.hdr HH4.out.1.objs HT.out.1.good.sorted
                have hr1 := hr1.keep hcs (fun b _ h => absurd h.2 (by decide)) fun _ _ h => h
                have hr2 := hr2.keep hcs (fun b _ h => absurd h.2 (by decide)) fun _ _ h => h
                have hdat := RDat.alloc (hx2.keep hc8 fun _ _ _ => id) HT.out.1.good (fun b hb => HH4.out.1.lt b hb) hr1 hr2
                have hrow : RowR 0 39 3 (XoR (hd.put (gapS Sx + 1) XA xc XB xd)) w8 (some ⟨gb, 0, none⟩) c1 Sx := (hx1.keep hc8 (fun _ _ => id) fun _ _ h => h).imp' fun cs x hx h => (XoR.put (gap_names HT.out.1.good x hx)).2 h
                generalize hhd : hd.put (gapS Sx + 1) XA xc XB xd = hdd at hdat hrow
                have hsl := (hrow.slr (by decide) 0).take_ (i := k) (by omega)
                have hcap := (SlR.len (hrow.slr (by decide) 0)).2
                have y0 := hc8.cell x0 fun _ => id
                have hnew : XoR hdd w8 [.int .i64 ((k : Int) + 1), .slice XA refs.length xc, .slice XB refs.length xd] (newX Sx refs) := by
                  rw [← hhd, HKG.out]
                  simp [XoR, newX, HdrT.put]
                have htl : (Sx.take k).length = k := by rw [List.length_take]; omega
                obtain ⟨i0, hi0, hz0, hs0, hb0⟩ := info_parts infoRObj
                have HG := Lib.hid (And.intro hdat (And.intro hrow (And.intro hb3 (And.intro hc8 (And.intro hnew htl)))))
                have hql : q < w8.heap.size := Nat.lt_of_lt_of_le HH4.out.1.blk.lt hc8.size
                have hii : (0 : Int) ≤ (k : Int) := by omega
                have hin : (k : Int) ≤ (Sx.length : Int) := by omega
                have hic : k ≤ c1 := by omega
                have hin2 : k ≤ Sx.length := by omega
                clear hr1 hr2 hx1 hx2 hx3 hhd hdat hrow hb3 hc8 hcs hnew htl x0 hbx0 hd hk
                go_wp2_with (at_builtin; go_must (refine wpList_copy_slr rfl (.tmp 74) (.tmp 80) 40 rfl 39 i0 _ 56 Try.underlying40 hi0 hz0 hs0 hb0 rfl (by omega) (some ⟨gb, 0, none⟩) k c1 rfl (by simp) rfl hsl one_xor (by omega) (by omega) ?_))
                intro A6 c6 w9 yss k1 k2 k3 k4 k5
                have y0 := k5.cell y0 fun _ => id
                have hb9 := k5.blk HG.out.2.2.1 id
                have v0 : w9.cell? ⟨bx, 0, none⟩ = some (.int .i64 ((k : Int) + 1)) := by simpa using hb9.cell 0
                have v1 : w9.cell? ⟨bx, 1, none⟩ = some (.slice XA refs.length xc) := by simpa using hb9.cell 1
                have v2 : w9.cell? ⟨bx, 2, none⟩ = some (.slice XB refs.length xd) := by simpa using hb9.cell 2
                have hrow9 : RowR w8.heap.size 39 3 (XoR hdd) w9 A6 c6 (Sx.take k) := ⟨yss, by rw [HG.out.2.2.2.2.2]; exact k1, by rw [HG.out.2.2.2.2.2]; exact k2, k3, k4⟩
                have hsz9 := k5.size
                have H9 := Lib.hid (And.intro hrow9 k5)
                clear k1 k2 k3 k4 k5 hsl hb9 hrow9
                go_wp2_with (at_builtin; go_must (refine wpList_push1 rfl (.tmp 82) (.tmp 84) 40 rfl w8.heap.size 39 i0 _ 3 56 Try.underlying40 hi0 hz0 hs0 hb0 rfl (by omega) (XoR hdd) A6 c6 (Sx.take k) (n := k) HG.out.2.2.2.2.2.symm (by first | rfl | simp) H9.out.1 1 [.int .i64 ((k : Int) + 1), .slice XA refs.length xc, .slice XB refs.length xd] (newX Sx refs) (by first | rfl | simp) (by first | rfl | simp) rfl (by intro u hu; simp at hu; rcases hu with rfl | rfl | rfl <;> rfl) HG.out.2.2.2.2.1 (by omega) (by omega) hsz9 (fun _ _ _ _ h => h) ?_))
                intro A7 c7 w10 r1 r2 r3
                have hc10 : Chg (fun _ _ => False) w8 w10 := H9.out.2.trans_new r2 fun b t hb h => by
                  have := (H9.out.1.own_in (g := b) (by rw [HG.out.2.2.2.2.2]; exact h.1)).1
                  omega
                have y0 := hc10.cell (HG.out.2.2.2.1.cell HX0.out fun _ => id) fun _ => id
                obtain ⟨zss, how7, z2, z3, z4⟩ := r1
                have hl7 : (Sx.take k ++ [newX Sx refs]).length = k + 1 := by rw [List.length_append, HG.out.2.2.2.2.2]; rfl
                rw [hl7] at how7
                obtain ⟨xss, how, x2, x3, x4⟩ := HG.out.2.1.keep hc10 (fun _ _ => id) fun _ _ h => h
                have hne : ¬ c1 = k := by omega
                obtain ⟨A5, hA5, hrd⟩ : ∃ A5, some (⟨gb, k * 3, none⟩ : Addr) = A5 ∧ Reads w10 w10.heap.size 3 A5 (Sx.length - k) (xss.drop k).flatten := by
                  have hr := (Reads.of_own how).cut (k := k) (cap := c1) hin2 hcap
                  rw [drop_flat xss x3] at hr
                  refine ⟨_, rfl, ?_⟩
                  rw [if_neg hne] at hr
                  simpa [add_flat] using hr
                clear hne
                have hsz10 := hc10.size
                have h1' : ∀ u ∈ (xss.drop k).flatten, u.oneCell' = true := fun u hu => one_flatX x2 x4 u (by
                  obtain ⟨cs, hcs, hu⟩ := List.mem_flatten.1 hu
                  exact List.mem_flatten.2 ⟨cs, List.mem_of_mem_drop hcs, hu⟩)
                have H10 := Lib.hid (And.intro hc10 (And.intro z2 (And.intro z3 (And.intro z4 (And.intro x2 (And.intro x3 (And.intro x4 (And.intro how7 (And.intro hrd h1')))))))))
                clear hc10 z2 z3 z4 x2 x3 x4 how how7 hrd h1' r2 r3 hl7 v0 v1 v2
                go_wp2_with (at_builtin; go_must (refine wpList_append_any w10 rfl (.tmp 87) (.tmp 93) 40 rfl w8.heap.size 39 i0 _ 3 56 Try.underlying40 hi0 hz0 hs0 hb0 rfl (by omega) (.slice A7 (k + 1) c7) (k + 1) zss.flatten rfl H10.out.2.2.2.2.2.2.2.1 w10.heap.size A5 (Sx.length - k) (c1 - k) (xss.drop k).flatten rfl H10.out.2.2.2.2.2.2.2.2.1 H10.out.2.2.2.2.2.2.2.2.2 (by unfold maxLen; omega) (by omega) hsz10 ?_))
                intro v11 w11 s1 s2 s3
                obtain ⟨A8, c8, rfl⟩ := own_form s1
                obtain ⟨hc10, z2, z3, z4, x2, x3, x4, how7, _, _⟩ := H10.out
                have hc11 : Chg (fun _ _ => False) w8 w11 := hc10.trans_new (chg_grown how7 s2) fun b t hb h => by
                  have := (own_blk how7 h.1).1
                  omega
                have hal : allocO Sx refs = (Sx.take k ++ [newX Sx refs]) ++ Sx.drop k := by
                  have := HKG.out
                  rw [this]
                  simp [allocO]
                have hlen11 : (allocO Sx refs).length = k + 1 + (Sx.length - k) := by
                  rw [hal, List.length_append, List.length_append, HG.out.2.2.2.2.2, List.length_drop]
                  rfl
                have hrow11 : RowR w8.heap.size 39 3 (XoR hdd) w11 A8 c8 (allocO Sx refs) := by
                  rw [hal]
                  refine RowR.app s1 z2 (by rw [List.length_drop, List.length_drop, x2]) (by rw [List.length_append, HG.out.2.2.2.2.2]; rfl) (by rw [List.length_drop]) z3 (fun cs hcs => x3 cs (List.mem_of_mem_drop hcs)) z4 fun j x cs hx hcs => ?_
                  rw [List.getElem?_drop] at hx hcs
                  exact x4 _ x cs hx hcs
                obtain ⟨hb11, hP, hcP⟩ := HH4.out.1.setRow (S' := allocO Sx refs) (HG.out.2.2.2.1.trans hc11) hrow11 HG.out.2.2.2.1.size (HG.out.1.keep (F := _) hc11 fun _ _ _ => id) (fun b hb => hb.imp id fun h => ⟨h.1, Nat.lt_of_lt_of_le h.2 hc11.size⟩) (alloc_good HT.out.1.good refs (by have := len_le_used Sx; have := HU.out; have := HF.out.2.1; have := HF.out.2.2; omega)) (by rw [alloc_used]; have := HU.out; have := HF.out.2.1; omega)
                rw [hlen11] at hP hcP
                have y0 : w11.cell? ⟨q, 0, none⟩ = some (.slice (some ⟨gb, 0, none⟩) Sx.length c1) := by simpa using hb11.cell 0
                have y0f := hb11.frozen 0
                have HP := Lib.hid (And.intro hP (HT.out.2.1.trans_le ((HH4.out.2.mono fun _ _ _ h => h.elim).trans hcP) fun b t hb h => ⟨(HT.out.2.2.2 b h.1).resolve_right (by omega), h.2⟩))
                clear hP hcP hb11 hrow11 hal hlen11 hc11 hc10 z2 z3 z4 x2 x3 x4 how7 s1 s2 s3
                go_wp2_with fail
                go_ret2
                exact ⟨by rw [(HV.out.2.2 HK.out HF.out.1).1, HT.out.2.2.1, ← HKG.out]; rfl, HP.out.2, _, A8, c8, by rw [(HV.out.2.2 HK.out HF.out.1).2, HT.out.2.2.1]; exact HP.out.1, fun b hb => by
                  rcases hb with hb | hb
                  · exact HT.out.2.2.2 b hb
                  · exact .inr (Nat.le_trans HT.out.2.1.size (Nat.le_trans HH4.out.2.size hb.1))⟩

            · have p2 : decide (k < Sx.length) = false := decide_eq_false hlt
              have HKG := Lib.hid (show k = gapS Sx by omega)
              rcases HH4.out.1.objs.choose_spec.1.2 with ⟨hv, h0⟩ | ⟨gb, cap, cur, hv, _⟩
              · injection hv with hA hn0 hc0
                subst hA
                have H00 := Lib.hid h0
                clear h0 hn0 hc0
                have hdr := (Chg.refl (fun _ _ => False) w4).drew
                go_wp2_with fail
                refine wp_region_facts [(0, 65), (1, 66), (2, 67), (3, 68), (4, 69), (5, 70), (6, 71), (7, 72), (8, 73), (9, 9)] [] (objF k FA fc refs w4.heap.size) (by kernel_rfl) (by kernel_rfl) objF_dep objF_mono (ops_cons (OpF.run rfl rfl fun _ w H => by
                  exact ⟨_, w, exec_mv (.tmp 8), H.same 8 (by kernel_rfl), Chg.refl _ _⟩) (ops_cons (OpF.run rfl rfl fun _ w H => by
                  obtain ⟨r0, h0⟩ := H.fact 0 (by kernel_rfl)
                  have h0 := factH (p := fun u => u = .int .i64 (k : Int)) (k := 0) (d := 65) h0 (by kernel_rfl)
                  exact ⟨_, w, exec_addI (.tmp 65) (.const (.int .i64 1)) h0 rfl (by unfold I64; omega), rfl, Chg.refl _ _⟩) (ops_cons (OpF.run rfl rfl fun _ w H => by
                  exact ⟨_, w, exec_mv (.tmp 1), H.same 1 (by kernel_rfl), Chg.refl _ _⟩) (ops_cons (OpF.run rfl rfl fun _ w H => by
                  obtain ⟨r2, h2⟩ := H.fact 2 (by kernel_rfl)
                  have h2 := factH (p := fun u => u = .slice FA refs.length fc) (k := 2) (d := 67) h2 (by kernel_rfl)
                  exact ⟨_, w, exec_lenB (.tmp 67) h2, rfl, Chg.refl _ _⟩) (ops_cons (OpF.run rfl rfl fun _ w H => by
                  obtain ⟨r3, h3⟩ := H.fact 3 (by kernel_rfl)
                  have h3 := factH (p := fun u => u = .int .i64 (refs.length : Nat)) (k := 3) (d := 68) h3 (by kernel_rfl)
                  exact ⟨_, _, exec_mk0 (.tmp 68) (.tmp 68) h3 h3 (by omega), ⟨_, _, rfl, made_row w4.heap.size refs.length (fun _ => rfl) (Nat.le_trans hdr.size H.chg.size) (by simp only [maxLen]; omega)⟩, chg_alloc _ _⟩) (ops_cons (OpF.run rfl rfl fun _ w H => by
                  exact ⟨_, _, exec_bs0, ⟨_, rfl, Nat.le_trans hdr.size H.chg.size, Blk.new w 4 _⟩, chg_alloc _ _⟩) (ops_cons (OpF.run rfl rfl fun _ w H => by
                  exact ⟨_, w, exec_mv (.tmp 1), H.same 1 (by kernel_rfl), Chg.refl _ _⟩) (ops_cons (OpF.run rfl rfl fun _ w H => by
                  obtain ⟨r5, h5⟩ := H.fact 5 (by kernel_rfl)
                  obtain ⟨b5, h5, k5, k5b⟩ := h5
                  have h5 := factH (p := fun u => u = .slice (some ⟨b5, 0, none⟩) 0 0) (k := 5) (d := 70) h5 (by kernel_rfl)
                  obtain ⟨r6, h6⟩ := H.fact 6 (by kernel_rfl)
                  have h6 := factH (p := fun u => u = .slice FA refs.length fc) (k := 6) (d := 71) h6 (by kernel_rfl)
                  obtain ⟨A', c', w', hr, hrow, hch⟩ := exec_apB (.tmp 70) (.tmp 71) h5 h6 k5 k5b (SlR.keep HSL.out (hdr.trans H.chg) (no_letsH _ _) fun _ _ h => h) (by omega) (Nat.le_trans hdr.size H.chg.size)
                  exact ⟨_, w', hr, ⟨_, _, rfl, hrow⟩, hch⟩) (ops_cons (OpF.run rfl rfl fun _ w H => by
                  obtain ⟨r1, h1⟩ := H.fact 1 (by kernel_rfl)
                  have h1 := factH (p := fun u => u = .int .i64 ((k : Int) + 1)) (k := 1) (d := 66) h1 (by kernel_rfl)
                  obtain ⟨r4, h4⟩ := H.fact 4 (by kernel_rfl)
                  obtain ⟨A1, c1, h4, k4⟩ := h4
                  have h4 := factH (p := fun v => v = .slice A1 refs.length c1) (k := 4) (d := 69) h4 (by kernel_rfl)
                  obtain ⟨r7, h7⟩ := H.fact 7 (by kernel_rfl)
                  obtain ⟨A2, c2, h7, k7⟩ := h7
                  have h7 := factH (p := fun v => v = .slice A2 refs.length c2) (k := 7) (d := 72) h7 (by kernel_rfl)
                  exact ⟨_, w, exec_bd3 (.tmp 66) (.tmp 69) (.tmp 72) h1 h4 h7, ⟨_, _, _, _, rfl, k4, k7⟩, Chg.refl _ _⟩) (ops_cons (OpF.run rfl rfl fun _ w H => by
                  exact ⟨_, _, exec_alO, ⟨_, rfl, Nat.le_trans hdr.size H.chg.size, Blk.new w 39 _⟩, chg_alloc _ _⟩) ops_nil)))))))))) ?_
                intro pp u r w7 hu _ _ hcw
                obtain ⟨XA, xc, XB, xd, e8, hr1, hr2⟩ := hu (8, 73) (by simp)
                obtain ⟨bx, e9, hbx0, hbx⟩ := hu (9, 9) (by simp)
                have e8 : u 8 = _ := e8
                have e9 : u 9 = _ := e9
                clear hu
                simp only [List.filter_nil, List.append_nil, putL, Act.put, List.setIfInBounds_toArray, List.set_cons_zero, List.set_cons_succ]
                rw [e8, e9]
                clear e8 e9
                have z0 : w7.cell? ⟨bx, 0, none⟩ = some (.int .i64 0) := by simpa using hbx.cell 0
                have z1 : w7.cell? ⟨bx, 1, none⟩ = some (.slice none 0 0) := by simpa using hbx.cell 1
                have z2 : w7.cell? ⟨bx, 2, none⟩ = some (.slice none 0 0) := by simpa using hbx.cell 2
                have f0 := hbx.frozen 0
                have f1 := hbx.frozen 1
                have f2 := hbx.frozen 2
                refine wpAny_ready (rs := [10]) (by kernel_rfl) (by simp) ?_
                refine AllReady.cons rfl (fun K hK => ?_) AllReady.nil
                go_simp
                refine hK _ _ ?_
                clear hK K z0 z1 z2 f0 f1 f2
                try simp only [Act.put, List.setIfInBounds_toArray, List.set_cons_zero, List.set_cons_succ]
                refine ⟨by kernel_rfl, ?_⟩
                have hb1 := hbx.set_ 0 (.int .i64 ((k : Int) + 1))
                have hb2 := hb1.set_ 1 (.slice XA refs.length xc)
                have hb3 : Blk (((w7.setCell ⟨bx, 0, none⟩ (.int .i64 ((k : Int) + 1))).setCell ⟨bx, 1, none⟩ (.slice XA refs.length xc)).setCell ⟨bx, 2, none⟩ (.slice XB refs.length xd)) bx 39 #[.int .i64 ((k : Int) + 1), .slice XA refs.length xc, .slice XB refs.length xd] := by simpa using hb2.set_ 2 (.slice XB refs.length xd)
                have hcs := (chg_set (j := 0) hbx (.int .i64 ((k : Int) + 1))).trans ((chg_set (j := 1) hb1 (.slice XA refs.length xc)).trans (chg_set (j := 2) hb2 (.slice XB refs.length xd)))
                have hc8 := ((((hdr.trans hcw).setNew 0 (.int .i64 ((k : Int) + 1)) hbx0).setNew 1 (.slice XA refs.length xc) hbx0).setNew 2 (.slice XB refs.length xd) hbx0)
                clear hb1 hb2 hdr hcw
                generalize hw8 : (((w7.setCell ⟨bx, 0, none⟩ (.int .i64 ((k : Int) + 1))).setCell ⟨bx, 1, none⟩ (.slice XA refs.length xc)).setCell ⟨bx, 2, none⟩ (.slice XB refs.length xd)) = w8 at hb3 hc8 hcs ⊢
                clear hw8 hbx
                obtain ⟨hd, hx1, hx2, hx3⟩ := RObjs.hdr HH4.out.1.objs HT.out.1.good.sorted
                have hr1 := hr1.keep hcs (fun b _ h => absurd h.2 (by decide)) fun _ _ h => h
                have hr2 := hr2.keep hcs (fun b _ h => absurd h.2 (by decide)) fun _ _ h => h
                have hdat := RDat.alloc (hx2.keep hc8 fun _ _ _ => id) HT.out.1.good (fun b hb => HH4.out.1.lt b hb) hr1 hr2
                have hrow : RowR 0 39 3 (XoR (hd.put (gapS Sx + 1) XA xc XB xd)) w8 none c1 Sx := (hx1.keep hc8 (fun _ _ => id) fun _ _ h => h).imp' fun cs x hx h => (XoR.put (gap_names HT.out.1.good x hx)).2 h
                generalize hhd : hd.put (gapS Sx + 1) XA xc XB xd = hdd at hdat hrow
                have hsl := (hrow.slr (by decide) 0).take_ (i := k) (by omega)
                have hcap := (SlR.len (hrow.slr (by decide) 0)).2
                have y0 := hc8.cell x0 fun _ => id
                have hnew : XoR hdd w8 [.int .i64 ((k : Int) + 1), .slice XA refs.length xc, .slice XB refs.length xd] (newX Sx refs) := by
                  rw [← hhd, HKG.out]
                  simp [XoR, newX, HdrT.put]
                have htl : (Sx.take k).length = k := by rw [List.length_take]; omega
                obtain ⟨i0, hi0, hz0, hs0, hb0⟩ := info_parts infoRObj
                have HG := Lib.hid (And.intro hdat (And.intro hrow (And.intro hb3 (And.intro hc8 (And.intro hnew htl)))))
                have hql : q < w8.heap.size := Nat.lt_of_lt_of_le HH4.out.1.blk.lt hc8.size
                have hii : (0 : Int) ≤ (k : Int) := by omega
                have hin : (k : Int) ≤ (Sx.length : Int) := by omega
                have hic : k ≤ c1 := by omega
                have hin2 : k ≤ Sx.length := by omega
                clear hr1 hr2 hx1 hx2 hx3 hhd hdat hrow hb3 hc8 hcs hnew htl x0 hbx0 hd hk
                go_wp2_with (at_builtin; go_must (refine wpList_copy_slr rfl (.tmp 74) (.tmp 80) 40 rfl 39 i0 _ 56 Try.underlying40 hi0 hz0 hs0 hb0 rfl (by omega) none k c1 rfl (by simp) rfl hsl one_xor (by omega) (by omega) ?_))
                intro A6 c6 w9 yss k1 k2 k3 k4 k5
                have y0 := k5.cell y0 fun _ => id
                have hb9 := k5.blk HG.out.2.2.1 id
                have v0 : w9.cell? ⟨bx, 0, none⟩ = some (.int .i64 ((k : Int) + 1)) := by simpa using hb9.cell 0
                have v1 : w9.cell? ⟨bx, 1, none⟩ = some (.slice XA refs.length xc) := by simpa using hb9.cell 1
                have v2 : w9.cell? ⟨bx, 2, none⟩ = some (.slice XB refs.length xd) := by simpa using hb9.cell 2
                have hrow9 : RowR w8.heap.size 39 3 (XoR hdd) w9 A6 c6 (Sx.take k) := ⟨yss, by rw [HG.out.2.2.2.2.2]; exact k1, by rw [HG.out.2.2.2.2.2]; exact k2, k3, k4⟩
                have hsz9 := k5.size
                have H9 := Lib.hid (And.intro hrow9 k5)
                clear k1 k2 k3 k4 k5 hsl hb9 hrow9
                go_wp2_with (at_builtin; go_must (refine wpList_push1 rfl (.tmp 82) (.tmp 84) 40 rfl w8.heap.size 39 i0 _ 3 56 Try.underlying40 hi0 hz0 hs0 hb0 rfl (by omega) (XoR hdd) A6 c6 (Sx.take k) (n := k) HG.out.2.2.2.2.2.symm (by first | rfl | simp) H9.out.1 1 [.int .i64 ((k : Int) + 1), .slice XA refs.length xc, .slice XB refs.length xd] (newX Sx refs) (by first | rfl | simp) (by first | rfl | simp) rfl (by intro u hu; simp at hu; rcases hu with rfl | rfl | rfl <;> rfl) HG.out.2.2.2.2.1 (by omega) (by omega) hsz9 (fun _ _ _ _ h => h) ?_))
                intro A7 c7 w10 r1 r2 r3
                have hc10 : Chg (fun _ _ => False) w8 w10 := H9.out.2.trans_new r2 fun b t hb h => by
                  have := (H9.out.1.own_in (g := b) (by rw [HG.out.2.2.2.2.2]; exact h.1)).1
                  omega
                have y0 := hc10.cell (HG.out.2.2.2.1.cell HX0.out fun _ => id) fun _ => id
                obtain ⟨zss, how7, z2, z3, z4⟩ := r1
                have hl7 : (Sx.take k ++ [newX Sx refs]).length = k + 1 := by rw [List.length_append, HG.out.2.2.2.2.2]; rfl
                rw [hl7] at how7
                obtain ⟨xss, how, x2, x3, x4⟩ := HG.out.2.1.keep hc10 (fun _ _ => id) fun _ _ h => h
                have hrd : Reads w10 w10.heap.size 3 none (Sx.length - k) (xss.drop k).flatten := by
                  have hx0 : xss = [] := List.eq_nil_of_length_eq_zero (by rw [x2]; exact H00.out)
                  rw [hx0, show Sx.length - k = 0 by have := H00.out; omega, List.drop_nil]
                  exact Reads.none_
                have hsz10 := hc10.size
                have h1' : ∀ u ∈ (xss.drop k).flatten, u.oneCell' = true := fun u hu => one_flatX x2 x4 u (by
                  obtain ⟨cs, hcs, hu⟩ := List.mem_flatten.1 hu
                  exact List.mem_flatten.2 ⟨cs, List.mem_of_mem_drop hcs, hu⟩)
                have H10 := Lib.hid (And.intro hc10 (And.intro z2 (And.intro z3 (And.intro z4 (And.intro x2 (And.intro x3 (And.intro x4 (And.intro how7 (And.intro hrd h1')))))))))
                clear hc10 z2 z3 z4 x2 x3 x4 how how7 hrd h1' r2 r3 hl7 v0 v1 v2
                go_wp2_with (at_builtin; go_must (refine wpList_append_any w10 rfl (.tmp 87) (.tmp 93) 40 rfl w8.heap.size 39 i0 _ 3 56 Try.underlying40 hi0 hz0 hs0 hb0 rfl (by omega) (.slice A7 (k + 1) c7) (k + 1) zss.flatten rfl H10.out.2.2.2.2.2.2.2.1 w10.heap.size none (Sx.length - k) (c1 - k) (xss.drop k).flatten rfl H10.out.2.2.2.2.2.2.2.2.1 H10.out.2.2.2.2.2.2.2.2.2 (by unfold maxLen; omega) (by omega) hsz10 ?_))
                intro v11 w11 s1 s2 s3
                obtain ⟨A8, c8, rfl⟩ := own_form s1
                obtain ⟨hc10, z2, z3, z4, x2, x3, x4, how7, _, _⟩ := H10.out
                have hc11 : Chg (fun _ _ => False) w8 w11 := hc10.trans_new (chg_grown how7 s2) fun b t hb h => by
                  have := (own_blk how7 h.1).1
                  omega
                have hal : allocO Sx refs = (Sx.take k ++ [newX Sx refs]) ++ Sx.drop k := by
                  have := HKG.out
                  rw [this]
                  simp [allocO]
                have hlen11 : (allocO Sx refs).length = k + 1 + (Sx.length - k) := by
                  rw [hal, List.length_append, List.length_append, HG.out.2.2.2.2.2, List.length_drop]
                  rfl
                have hrow11 : RowR w8.heap.size 39 3 (XoR hdd) w11 A8 c8 (allocO Sx refs) := by
                  rw [hal]
                  refine RowR.app s1 z2 (by rw [List.length_drop, List.length_drop, x2]) (by rw [List.length_append, HG.out.2.2.2.2.2]; rfl) (by rw [List.length_drop]) z3 (fun cs hcs => x3 cs (List.mem_of_mem_drop hcs)) z4 fun j x cs hx hcs => ?_
                  rw [List.getElem?_drop] at hx hcs
                  exact x4 _ x cs hx hcs
                obtain ⟨hb11, hP, hcP⟩ := HH4.out.1.setRow (S' := allocO Sx refs) (HG.out.2.2.2.1.trans hc11) hrow11 HG.out.2.2.2.1.size (HG.out.1.keep (F := _) hc11 fun _ _ _ => id) (fun b hb => hb.imp id fun h => ⟨h.1, Nat.lt_of_lt_of_le h.2 hc11.size⟩) (alloc_good HT.out.1.good refs (by have := len_le_used Sx; have := HU.out; have := HF.out.2.1; have := HF.out.2.2; omega)) (by rw [alloc_used]; have := HU.out; have := HF.out.2.1; omega)
                rw [hlen11] at hP hcP
                have y0 : w11.cell? ⟨q, 0, none⟩ = some (.slice none Sx.length c1) := by simpa using hb11.cell 0
                have y0f := hb11.frozen 0
                have HP := Lib.hid (And.intro hP (HT.out.2.1.trans_le ((HH4.out.2.mono fun _ _ _ h => h.elim).trans hcP) fun b t hb h => ⟨(HT.out.2.2.2 b h.1).resolve_right (by omega), h.2⟩))
                clear hP hcP hb11 hrow11 hal hlen11 hc11 hc10 z2 z3 z4 x2 x3 x4 how7 s1 s2 s3
                go_wp2_with fail
                go_ret2
                exact ⟨by rw [(HV.out.2.2 HK.out HF.out.1).1, HT.out.2.2.1, ← HKG.out]; rfl, HP.out.2, _, A8, c8, by rw [(HV.out.2.2 HK.out HF.out.1).2, HT.out.2.2.1]; exact HP.out.1, fun b hb => by
                  rcases hb with hb | hb
                  · exact HT.out.2.2.2 b hb
                  · exact .inr (Nat.le_trans HT.out.2.1.size (Nat.le_trans HH4.out.2.size hb.1))⟩

              · injection hv with hA hn0 hc0
                subst hA
                subst hc0
                clear hn0
                have hdr := (Chg.refl (fun _ _ => False) w4).drew
                go_wp2_with fail
                refine wp_region_facts [(0, 65), (1, 66), (2, 67), (3, 68), (4, 69), (5, 70), (6, 71), (7, 72), (8, 73), (9, 9)] [] (objF k FA fc refs w4.heap.size) (by kernel_rfl) (by kernel_rfl) objF_dep objF_mono (ops_cons (OpF.run rfl rfl fun _ w H => by
                  exact ⟨_, w, exec_mv (.tmp 8), H.same 8 (by kernel_rfl), Chg.refl _ _⟩) (ops_cons (OpF.run rfl rfl fun _ w H => by
                  obtain ⟨r0, h0⟩ := H.fact 0 (by kernel_rfl)
                  have h0 := factH (p := fun u => u = .int .i64 (k : Int)) (k := 0) (d := 65) h0 (by kernel_rfl)
                  exact ⟨_, w, exec_addI (.tmp 65) (.const (.int .i64 1)) h0 rfl (by unfold I64; omega), rfl, Chg.refl _ _⟩) (ops_cons (OpF.run rfl rfl fun _ w H => by
                  exact ⟨_, w, exec_mv (.tmp 1), H.same 1 (by kernel_rfl), Chg.refl _ _⟩) (ops_cons (OpF.run rfl rfl fun _ w H => by
                  obtain ⟨r2, h2⟩ := H.fact 2 (by kernel_rfl)
                  have h2 := factH (p := fun u => u = .slice FA refs.length fc) (k := 2) (d := 67) h2 (by kernel_rfl)
                  exact ⟨_, w, exec_lenB (.tmp 67) h2, rfl, Chg.refl _ _⟩) (ops_cons (OpF.run rfl rfl fun _ w H => by
                  obtain ⟨r3, h3⟩ := H.fact 3 (by kernel_rfl)
                  have h3 := factH (p := fun u => u = .int .i64 (refs.length : Nat)) (k := 3) (d := 68) h3 (by kernel_rfl)
                  exact ⟨_, _, exec_mk0 (.tmp 68) (.tmp 68) h3 h3 (by omega), ⟨_, _, rfl, made_row w4.heap.size refs.length (fun _ => rfl) (Nat.le_trans hdr.size H.chg.size) (by simp only [maxLen]; omega)⟩, chg_alloc _ _⟩) (ops_cons (OpF.run rfl rfl fun _ w H => by
                  exact ⟨_, _, exec_bs0, ⟨_, rfl, Nat.le_trans hdr.size H.chg.size, Blk.new w 4 _⟩, chg_alloc _ _⟩) (ops_cons (OpF.run rfl rfl fun _ w H => by
                  exact ⟨_, w, exec_mv (.tmp 1), H.same 1 (by kernel_rfl), Chg.refl _ _⟩) (ops_cons (OpF.run rfl rfl fun _ w H => by
                  obtain ⟨r5, h5⟩ := H.fact 5 (by kernel_rfl)
                  obtain ⟨b5, h5, k5, k5b⟩ := h5
                  have h5 := factH (p := fun u => u = .slice (some ⟨b5, 0, none⟩) 0 0) (k := 5) (d := 70) h5 (by kernel_rfl)
                  obtain ⟨r6, h6⟩ := H.fact 6 (by kernel_rfl)
                  have h6 := factH (p := fun u => u = .slice FA refs.length fc) (k := 6) (d := 71) h6 (by kernel_rfl)
                  obtain ⟨A', c', w', hr, hrow, hch⟩ := exec_apB (.tmp 70) (.tmp 71) h5 h6 k5 k5b (SlR.keep HSL.out (hdr.trans H.chg) (no_letsH _ _) fun _ _ h => h) (by omega) (Nat.le_trans hdr.size H.chg.size)
                  exact ⟨_, w', hr, ⟨_, _, rfl, hrow⟩, hch⟩) (ops_cons (OpF.run rfl rfl fun _ w H => by
                  obtain ⟨r1, h1⟩ := H.fact 1 (by kernel_rfl)
                  have h1 := factH (p := fun u => u = .int .i64 ((k : Int) + 1)) (k := 1) (d := 66) h1 (by kernel_rfl)
                  obtain ⟨r4, h4⟩ := H.fact 4 (by kernel_rfl)
                  obtain ⟨A1, c1, h4, k4⟩ := h4
                  have h4 := factH (p := fun v => v = .slice A1 refs.length c1) (k := 4) (d := 69) h4 (by kernel_rfl)
                  obtain ⟨r7, h7⟩ := H.fact 7 (by kernel_rfl)
                  obtain ⟨A2, c2, h7, k7⟩ := h7
                  have h7 := factH (p := fun v => v = .slice A2 refs.length c2) (k := 7) (d := 72) h7 (by kernel_rfl)
                  exact ⟨_, w, exec_bd3 (.tmp 66) (.tmp 69) (.tmp 72) h1 h4 h7, ⟨_, _, _, _, rfl, k4, k7⟩, Chg.refl _ _⟩) (ops_cons (OpF.run rfl rfl fun _ w H => by
                  exact ⟨_, _, exec_alO, ⟨_, rfl, Nat.le_trans hdr.size H.chg.size, Blk.new w 39 _⟩, chg_alloc _ _⟩) ops_nil)))))))))) ?_
                intro pp u r w7 hu _ _ hcw
                obtain ⟨XA, xc, XB, xd, e8, hr1, hr2⟩ := hu (8, 73) (by simp)
                obtain ⟨bx, e9, hbx0, hbx⟩ := hu (9, 9) (by simp)
                have e8 : u 8 = _ := e8
                have e9 : u 9 = _ := e9
                clear hu
                simp only [List.filter_nil, List.append_nil, putL, Act.put, List.setIfInBounds_toArray, List.set_cons_zero, List.set_cons_succ]
                rw [e8, e9]
                clear e8 e9
                have z0 : w7.cell? ⟨bx, 0, none⟩ = some (.int .i64 0) := by simpa using hbx.cell 0
                have z1 : w7.cell? ⟨bx, 1, none⟩ = some (.slice none 0 0) := by simpa using hbx.cell 1
                have z2 : w7.cell? ⟨bx, 2, none⟩ = some (.slice none 0 0) := by simpa using hbx.cell 2
                have f0 := hbx.frozen 0
                have f1 := hbx.frozen 1
                have f2 := hbx.frozen 2
                refine wpAny_ready (rs := [10]) (by kernel_rfl) (by simp) ?_
                refine AllReady.cons rfl (fun K hK => ?_) AllReady.nil
                go_simp
                refine hK _ _ ?_
                clear hK K z0 z1 z2 f0 f1 f2
                try simp only [Act.put, List.setIfInBounds_toArray, List.set_cons_zero, List.set_cons_succ]
                refine ⟨by kernel_rfl, ?_⟩
                have hb1 := hbx.set_ 0 (.int .i64 ((k : Int) + 1))
                have hb2 := hb1.set_ 1 (.slice XA refs.length xc)
                have hb3 : Blk (((w7.setCell ⟨bx, 0, none⟩ (.int .i64 ((k : Int) + 1))).setCell ⟨bx, 1, none⟩ (.slice XA refs.length xc)).setCell ⟨bx, 2, none⟩ (.slice XB refs.length xd)) bx 39 #[.int .i64 ((k : Int) + 1), .slice XA refs.length xc, .slice XB refs.length xd] := by simpa using hb2.set_ 2 (.slice XB refs.length xd)
                have hcs := (chg_set (j := 0) hbx (.int .i64 ((k : Int) + 1))).trans ((chg_set (j := 1) hb1 (.slice XA refs.length xc)).trans (chg_set (j := 2) hb2 (.slice XB refs.length xd)))
                have hc8 := ((((hdr.trans hcw).setNew 0 (.int .i64 ((k : Int) + 1)) hbx0).setNew 1 (.slice XA refs.length xc) hbx0).setNew 2 (.slice XB refs.length xd) hbx0)
                clear hb1 hb2 hdr hcw
                generalize hw8 : (((w7.setCell ⟨bx, 0, none⟩ (.int .i64 ((k : Int) + 1))).setCell ⟨bx, 1, none⟩ (.slice XA refs.length xc)).setCell ⟨bx, 2, none⟩ (.slice XB refs.length xd)) = w8 at hb3 hc8 hcs ⊢
                clear hw8 hbx
                obtain ⟨hd, hx1, hx2, hx3⟩ := RObjs.hdr HH4.out.1.objs HT.out.1.good.sorted
                have hr1 := hr1.keep hcs (fun b _ h => absurd h.2 (by decide)) fun _ _ h => h
                have hr2 := hr2.keep hcs (fun b _ h => absurd h.2 (by decide)) fun _ _ h => h
                have hdat := RDat.alloc (hx2.keep hc8 fun _ _ _ => id) HT.out.1.good (fun b hb => HH4.out.1.lt b hb) hr1 hr2
                have hrow : RowR 0 39 3 (XoR (hd.put (gapS Sx + 1) XA xc XB xd)) w8 (some ⟨gb, 0, none⟩) c1 Sx := (hx1.keep hc8 (fun _ _ => id) fun _ _ h => h).imp' fun cs x hx h => (XoR.put (gap_names HT.out.1.good x hx)).2 h
                generalize hhd : hd.put (gapS Sx + 1) XA xc XB xd = hdd at hdat hrow
                have hsl := (hrow.slr (by decide) 0).take_ (i := k) (by omega)
                have hcap := (SlR.len (hrow.slr (by decide) 0)).2
                have y0 := hc8.cell x0 fun _ => id
                have hnew : XoR hdd w8 [.int .i64 ((k : Int) + 1), .slice XA refs.length xc, .slice XB refs.length xd] (newX Sx refs) := by
                  rw [← hhd, HKG.out]
                  simp [XoR, newX, HdrT.put]
                have htl : (Sx.take k).length = k := by rw [List.length_take]; omega
                obtain ⟨i0, hi0, hz0, hs0, hb0⟩ := info_parts infoRObj
                have HG := Lib.hid (And.intro hdat (And.intro hrow (And.intro hb3 (And.intro hc8 (And.intro hnew htl)))))
                have hql : q < w8.heap.size := Nat.lt_of_lt_of_le HH4.out.1.blk.lt hc8.size
                have hii : (0 : Int) ≤ (k : Int) := by omega
                have hin : (k : Int) ≤ (Sx.length : Int) := by omega
                have hic : k ≤ c1 := by omega
                have hin2 : k ≤ Sx.length := by omega
                clear hr1 hr2 hx1 hx2 hx3 hhd hdat hrow hb3 hc8 hcs hnew htl x0 hbx0 hd hk
                go_wp2_with (at_builtin; go_must (refine wpList_copy_slr rfl (.tmp 74) (.tmp 80) 40 rfl 39 i0 _ 56 Try.underlying40 hi0 hz0 hs0 hb0 rfl (by omega) (some ⟨gb, 0, none⟩) k c1 rfl (by simp) rfl hsl one_xor (by omega) (by omega) ?_))
                intro A6 c6 w9 yss k1 k2 k3 k4 k5
                have y0 := k5.cell y0 fun _ => id
                have hb9 := k5.blk HG.out.2.2.1 id
                have v0 : w9.cell? ⟨bx, 0, none⟩ = some (.int .i64 ((k : Int) + 1)) := by simpa using hb9.cell 0
                have v1 : w9.cell? ⟨bx, 1, none⟩ = some (.slice XA refs.length xc) := by simpa using hb9.cell 1
                have v2 : w9.cell? ⟨bx, 2, none⟩ = some (.slice XB refs.length xd) := by simpa using hb9.cell 2
                have hrow9 : RowR w8.heap.size 39 3 (XoR hdd) w9 A6 c6 (Sx.take k) := ⟨yss, by rw [HG.out.2.2.2.2.2]; exact k1, by rw [HG.out.2.2.2.2.2]; exact k2, k3, k4⟩
                have hsz9 := k5.size
                have H9 := Lib.hid (And.intro hrow9 k5)
                clear k1 k2 k3 k4 k5 hsl hb9 hrow9
                go_wp2_with (at_builtin; go_must (refine wpList_push1 rfl (.tmp 82) (.tmp 84) 40 rfl w8.heap.size 39 i0 _ 3 56 Try.underlying40 hi0 hz0 hs0 hb0 rfl (by omega) (XoR hdd) A6 c6 (Sx.take k) (n := k) HG.out.2.2.2.2.2.symm (by first | rfl | simp) H9.out.1 1 [.int .i64 ((k : Int) + 1), .slice XA refs.length xc, .slice XB refs.length xd] (newX Sx refs) (by first | rfl | simp) (by first | rfl | simp) rfl (by intro u hu; simp at hu; rcases hu with rfl | rfl | rfl <;> rfl) HG.out.2.2.2.2.1 (by omega) (by omega) hsz9 (fun _ _ _ _ h => h) ?_))
                intro A7 c7 w10 r1 r2 r3
                have hc10 : Chg (fun _ _ => False) w8 w10 := H9.out.2.trans_new r2 fun b t hb h => by
                  have := (H9.out.1.own_in (g := b) (by rw [HG.out.2.2.2.2.2]; exact h.1)).1
                  omega
                have y0 := hc10.cell (HG.out.2.2.2.1.cell HX0.out fun _ => id) fun _ => id
                obtain ⟨zss, how7, z2, z3, z4⟩ := r1
                have hl7 : (Sx.take k ++ [newX Sx refs]).length = k + 1 := by rw [List.length_append, HG.out.2.2.2.2.2]; rfl
                rw [hl7] at how7
                obtain ⟨xss, how, x2, x3, x4⟩ := HG.out.2.1.keep hc10 (fun _ _ => id) fun _ _ h => h
                obtain ⟨A5, hA5, hrd⟩ : ∃ A5, (if c1 = k then some (⟨gb, 0, none⟩ : Addr) else some ⟨gb, k * 3, none⟩) = A5 ∧ Reads w10 w10.heap.size 3 A5 (Sx.length - k) (xss.drop k).flatten := by
                  have hr := (Reads.of_own how).cut (k := k) (cap := c1) hin2 hcap
                  rw [drop_flat xss x3] at hr
                  refine ⟨_, rfl, ?_⟩
                  have e : (if c1 = k then some (⟨gb, 0, none⟩ : Addr) else (some (⟨gb, 0, none⟩ : Addr)).map (·.add (k * 3))) = if c1 = k then some (⟨gb, 0, none⟩ : Addr) else some ⟨gb, k * 3, none⟩ := by
                    simp [add_flat]
                  rw [← e]
                  exact hr
                have hsz10 := hc10.size
                have h1' : ∀ u ∈ (xss.drop k).flatten, u.oneCell' = true := fun u hu => one_flatX x2 x4 u (by
                  obtain ⟨cs, hcs, hu⟩ := List.mem_flatten.1 hu
                  exact List.mem_flatten.2 ⟨cs, List.mem_of_mem_drop hcs, hu⟩)
                have H10 := Lib.hid (And.intro hc10 (And.intro z2 (And.intro z3 (And.intro z4 (And.intro x2 (And.intro x3 (And.intro x4 (And.intro how7 (And.intro hrd h1')))))))))
                clear hc10 z2 z3 z4 x2 x3 x4 how how7 hrd h1' r2 r3 hl7 v0 v1 v2
                go_wp2_with (at_builtin; go_must (refine wpList_append_any w10 rfl (.tmp 87) (.tmp 93) 40 rfl w8.heap.size 39 i0 _ 3 56 Try.underlying40 hi0 hz0 hs0 hb0 rfl (by omega) (.slice A7 (k + 1) c7) (k + 1) zss.flatten rfl H10.out.2.2.2.2.2.2.2.1 w10.heap.size A5 (Sx.length - k) (c1 - k) (xss.drop k).flatten rfl H10.out.2.2.2.2.2.2.2.2.1 H10.out.2.2.2.2.2.2.2.2.2 (by unfold maxLen; omega) (by omega) hsz10 ?_))
                intro v11 w11 s1 s2 s3
                obtain ⟨A8, c8, rfl⟩ := own_form s1
                obtain ⟨hc10, z2, z3, z4, x2, x3, x4, how7, _, _⟩ := H10.out
                have hc11 : Chg (fun _ _ => False) w8 w11 := hc10.trans_new (chg_grown how7 s2) fun b t hb h => by
                  have := (own_blk how7 h.1).1
                  omega
                have hal : allocO Sx refs = (Sx.take k ++ [newX Sx refs]) ++ Sx.drop k := by
                  have := HKG.out
                  rw [this]
                  simp [allocO]
                have hlen11 : (allocO Sx refs).length = k + 1 + (Sx.length - k) := by
                  rw [hal, List.length_append, List.length_append, HG.out.2.2.2.2.2, List.length_drop]
                  rfl
                have hrow11 : RowR w8.heap.size 39 3 (XoR hdd) w11 A8 c8 (allocO Sx refs) := by
                  rw [hal]
                  refine RowR.app s1 z2 (by rw [List.length_drop, List.length_drop, x2]) (by rw [List.length_append, HG.out.2.2.2.2.2]; rfl) (by rw [List.length_drop]) z3 (fun cs hcs => x3 cs (List.mem_of_mem_drop hcs)) z4 fun j x cs hx hcs => ?_
                  rw [List.getElem?_drop] at hx hcs
                  exact x4 _ x cs hx hcs
                obtain ⟨hb11, hP, hcP⟩ := HH4.out.1.setRow (S' := allocO Sx refs) (HG.out.2.2.2.1.trans hc11) hrow11 HG.out.2.2.2.1.size (HG.out.1.keep (F := _) hc11 fun _ _ _ => id) (fun b hb => hb.imp id fun h => ⟨h.1, Nat.lt_of_lt_of_le h.2 hc11.size⟩) (alloc_good HT.out.1.good refs (by have := len_le_used Sx; have := HU.out; have := HF.out.2.1; have := HF.out.2.2; omega)) (by rw [alloc_used]; have := HU.out; have := HF.out.2.1; omega)
                rw [hlen11] at hP hcP
                have y0 : w11.cell? ⟨q, 0, none⟩ = some (.slice (some ⟨gb, 0, none⟩) Sx.length c1) := by simpa using hb11.cell 0
                have y0f := hb11.frozen 0
                have HP := Lib.hid (And.intro hP (HT.out.2.1.trans_le ((HH4.out.2.mono fun _ _ _ h => h.elim).trans hcP) fun b t hb h => ⟨(HT.out.2.2.2 b h.1).resolve_right (by omega), h.2⟩))
                clear hP hcP hb11 hrow11 hal hlen11 hc11 hc10 z2 z3 z4 x2 x3 x4 how7 s1 s2 s3
                go_wp2_with fail
                go_ret2
                exact ⟨by rw [(HV.out.2.2 HK.out HF.out.1).1, HT.out.2.2.1, ← HKG.out]; rfl, HP.out.2, _, A8, c8, by rw [(HV.out.2.2 HK.out HF.out.1).2, HT.out.2.2.1]; exact HP.out.1, fun b hb => by
                  rcases hb with hb | hb
                  · exact HT.out.2.2.2 b hb
                  · exact .inr (Nat.le_trans HT.out.2.1.size (Nat.le_trans HH4.out.2.size hb.1))⟩


end Go.Proofs.Yteigopmdhhgnfaa
