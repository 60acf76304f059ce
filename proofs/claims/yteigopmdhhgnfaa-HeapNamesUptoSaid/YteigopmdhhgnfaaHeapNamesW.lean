/-
  The walk of the statement HeapNames.
-/
import Derived.Test.YteigopmdhhgnfaaHLawN
namespace Go.Proofs.Yteigopmdhhgnfaa
open Go.RowKit
set_option linter.unusedVariables false
set_option linter.unusedSimpArgs false

def nmR (S : List ObjD) (D : Nat) (w : World) (v i : Value) (wr : World) : Prop :=
  ∃ (k : Nat) (A : Option Addr) (c : Nat), k ≤ S.length ∧ i = .int .i64 (k : Int) ∧ v = .slice A k c ∧ RowR D 3 1 IntZ wr A c (nmI (S.take k)) ∧ Chg (fun _ _ => False) w wr
theorem nmI_take {S : List ObjD} {k : Nat} (hk : k ≤ S.length) : k = (nmI (S.take k)).length := by rw [nmI_len, List.length_take]; omega
theorem nmI_succ {S : List ObjD} {k : Nat} {o : ObjD} (h : S[k]? = some o) : nmI (S.take (k + 1)) = nmI (S.take k) ++ [(o.name : Int)] := by
  obtain ⟨h1, h2⟩ := List.getElem?_eq_some_iff.1 h
  rw [List.take_succ_eq_append_getElem h1, h2, nmI_snoc]
theorem bool_at {w : World} {A : Option Addr} {c k n B : Nat} {l : List Bool} (h : SlR B 0 1 BoolV w (.slice A n c) l) (hk : k < l.length) : ∃ b o, A = some ⟨b, o, none⟩ ∧ w.cell? ⟨b, o + k, none⟩ = some (.bool (l.getD k false)) := by
  obtain ⟨b, o, x, cs, hA, hx, _, rfl, h3⟩ := SlR.at2 h hk
  refine ⟨b, o, hA, ?_⟩
  rw [List.getD_eq_getElem?_getD, hx]
  simpa using h3 0 _ rfl
set_option maxRecDepth 100000 in
set_option maxHeartbeats 8000000 in
theorem heapNames_walk (w : World) (cells : Int) (A : Option Addr) (c : Nat) (l : List HActD) (hl : HActsA w.heap.size w (.slice A l.length c) l) (hn : l.length ≤ 1048576) (FA : Option Addr) (fc : Nat) (refs : List Bool) (hf : SlR w.heap.size 0 1 BoolV w (.slice FA refs.length fc) refs) (hfl : refs.length ≤ 1048576) :
    Calls Try.prog 5 #[.int .i64 cells, .slice A l.length c, .slice FA refs.length fc] w fun e w' => e = .returned (.bool true) ∧ Below w.heap.size w w' := by
  have c1 := hgrown_any w w.heap.size (Nat.le_refl _) cells A c l hl hn
  obtain ⟨bud, hbud⟩ : ∃ bud, capC cells = bud := ⟨_, rfl⟩
  obtain ⟨S, hS⟩ : ∃ S, grownS bud l = S := ⟨_, rfl⟩
  rw [hbud, hS] at c1
  have HH := Lib.hid hf
  clear hl hbud hS hf
  go_enter Try.func5, Try.ntmps5
  go_wp2_with fail
  refine c1.mono fun e w1 hh => ?_
  obtain ⟨p, q, rfl, h2, hc1⟩ := hh
  have H1 := Lib.hid (And.intro h2 hc1)
  clear c1 h2 hc1
  go_wp2_with fail
  refine (answers12_any w1).mono fun e w2 hh => ?_
  obtain ⟨rfl, hc2⟩ := hh
  have H2 := Lib.hid (And.intro (H1.out.1.same hc2) (And.intro (H1.out.2.trans hc2.no) (Nat.le_trans H1.out.2.size hc2.size)))
  clear hc2 H1
  have hgd := H2.out.1.good
  have hS6 : S.length ≤ 65536 := by have := len_le_used S; omega
  by_cases hbig : 1000 < refs.length
  · have q1 : (1000 : Int) < (refs.length : Int) := by omega
    have q2 : decide (1000 < refs.length) = true := decide_eq_true hbig
    clear hbig hgd
    go_wp2_with fail
    refine (answers12_any w2).mono fun e w3 hh => ?_
    obtain ⟨rfl, hc3⟩ := hh
    have H3 := Lib.hid (H2.out.2.1.trans hc3.no)
    clear hc3
    go_wp2_with fail
    go_ret
    exact ⟨by simp, below_ml2 H3.out⟩
  · have q1 : ¬ (1000 : Int) < (refs.length : Int) := by omega
    have q2 : decide (1000 < refs.length) = false := decide_eq_false hbig
    have hr1 : refs.length ≤ 1000 := by omega
    obtain ⟨i0, hi0, hz0, hs0, hb0⟩ := info_parts infoInt
    obtain ⟨i1, hi1, hz1, hs1, hb1⟩ := info_parts infoBool
    obtain ⟨F, ⟨LA, lc, hR⟩, _, _⟩ := H2.out.1.right H2.out.2.2
    have HR := Lib.hid (And.intro hR hgd)
    clear hR hgd hbig
    go_wp2_with fail
    go_loopw [9, 10] (fun v i wr => nmR S w2.heap.size w2 v i wr) (fun _ i _ => S.length - (intOf i).toNat)
    case atStart => exact ⟨0, none, 0, Nat.zero_le _, rfl, rfl, by simpa [nmI] using RowR.nil _ _ _ _ _, Chg.refl _ _⟩
    case round =>
      obtain ⟨k, NA, nc, hk, rfl, rfl, hrow, hch⟩ := hrel
      have q3 : IntKind.i64.wrap ((k : Int) + 1) = (k : Int) + 1 := IntWalk.i64_in _ ⟨by omega, by omega⟩
      have hH := HR.out.1.keep hch fun _ _ _ => id
      have x0 : wr.cell? ⟨q, 0, none⟩ = some (.slice LA S.length lc) := by simpa using hH.blk.cell 0
      by_cases hlt : k < S.length
      · have q4 : decide (k < S.length) = true := decide_eq_true hlt
        have q5 : (k : Int) < (S.length : Int) := by omega
        obtain ⟨gb, o, A1, c1, A2, c2, rfl, hko, _, z0, _, _⟩ := hH.objs.at_ hlt
        have HK := Lib.hid (And.intro hrow (And.intro hch (And.intro (nmI_succ hko) (And.intro (nmI_take hk) hch.size))))
        clear hrow hch hH hko hk
        go_wp2_with (at_builtin; go_must (refine wpList_push1 rfl (.tmp 51) (.tmp 60) 24 rfl w2.heap.size 3 i0 _ 1 8 Try.underlying24 hi0 hz0 hs0 hb0 rfl (by omega) IntZ NA nc (nmI (S.take k)) (n := k) HK.out.2.2.2.1 (by first | rfl | simp) HK.out.1 1 [.int .i64 (o.name : Int)] (o.name : Int) (by first | rfl | simp) (by first | rfl | simp) rfl (by intro u hu; simp at hu; subst hu; rfl) rfl (by omega) (by omega) HK.out.2.2.2.2 (fun _ _ _ _ h => h) ?_))
        intro A8 c8 w8 hr8 hc8 hp8
        have hc9 : Chg (fun _ _ => False) w2 w8 := HK.out.2.1.trans_new hc8 fun b t hb h => by
          have := (HK.out.1.own_in (g := b) (by rw [← HK.out.2.2.2.1]; exact h.1)).1
          omega
        have HW := Lib.hid (And.intro hr8 hc9)
        clear hr8 hc8 hp8 hc9
        go_wp2_with fail
        go_roundw
        case rel => exact ⟨k + 1, A8, c8, hlt, by simp, rfl, by rw [HK.out.2.2.1]; exact HW.out.1, HW.out.2⟩
        case measure => simp [intOf]; omega
      · have q4 : decide (k < S.length) = false := decide_eq_false hlt
        obtain rfl : k = S.length := by omega
        rw [List.take_length] at hrow
        have hall : SlR wr.heap.size 0 1 IntZ wr (.slice NA S.length nc) (nmI S) := by
          have := (hrow.slr (by decide) 0).settle (R' := IntZ) fun _ _ h => h
          rw [nmI_len] at this
          exact this
        have HA := Lib.hid (And.intro hall (And.intro hch (And.intro (H2.out.2.1.trans hch.no) hrow)))
        have hsl := slr_ml2 HH.out HA.out.2.2.1 fun _ _ h => h
        clear hrow hch hH hall hk hlt
        go_wp2_with (at_builtin; go_must (refine wpList_copy_slr rfl (.tmp 64) (.tmp 65) 23 rfl 4 i1 _ 1 Try.underlying23 hi1 hz1 hs1 hb1 rfl (by omega) FA refs.length fc rfl (by simp) rfl hsl (fun cs y h => by subst h; intro u hu; simp at hu; subst hu; rfl) (by omega) (by omega) ?_))
        intro A3 c3 w4 yss k1 k2 k3 k4 k5
        have hfr : RowR wr.heap.size 4 1 BoolV w4 A3 c3 refs := ⟨yss, k1, k2, k3, fun k x cs h1 h2 => by
          cases x
          · exact (k4 k).1 cs h1 h2
          · exact (k4 k).2 cs h1 h2⟩
        have H4 := Lib.hid (And.intro hfr (And.intro k5 (HA.out.2.1.trans k5)))
        clear k1 k2 k3 k4 k5 hsl hfr
        have c4 := ints12_any wr.heap.size w4 (nmI S) NA nc (by rw [nmI_len]; exact SlR.keep HA.out.1 H4.out.2.1 (no_letsH _ _) fun _ _ h => h) (by rw [nmI_len]; omega)
        rw [nmI_len] at c4
        go_wp2_with fail
        refine c4.mono fun e w5 hh => ?_
        obtain ⟨IA, ic, rfl, hir, hc5⟩ := hh
        have h25 := H4.out.2.2.trans hc5
        have HC5 := Lib.hid hc5
        obtain ⟨G, hG, _, hGk⟩ := (H2.out.1.same h25).left (Nat.le_trans H2.out.2.2 h25.size)
        have hir' := hir.slr (by decide) 0
        rw [nmI_len] at hir'
        have hIn : ∀ r ∈ nmI S, I64 r := fun r hr => by
          obtain ⟨o, ho, he⟩ := findO_isSome.1 (nmI_mem.1 hr)
          have := HR.out.2.1.top o ho
          unfold I64
          omega
        have c5 := halloc_P hG (((H4.out.1.keep hc5 (fun _ _ => id) fun _ _ h => h)).slr (by decide) 0) (by rw [nmI_len]; exact hir') hIn (by rw [nmI_len]; omega) hfl (by simp only [maxLen]; omega)
        rw [nmI_len] at c5
        have H5 := Lib.hid (And.intro h25 (And.intro hGk (Nat.le_trans H2.out.2.2 h25.size)))
        obtain ⟨U, hU⟩ : ∃ U, usedO S = U := ⟨_, rfl⟩
        have hal := alloc_all (S := S) (bud := bud) (refs := refs) hr1
        rw [hU] at hal
        have hrm := HR.out.2.2
        rw [hU] at hrm
        have HU := Lib.hid hU
        clear c4 hir hc5 h25 hG hGk hir' hIn hU
        by_cases hfu : bud < U + (1 + refs.length)
        · rw [hal.1 hfu] at c5
          have p1 : decide ((bud : Int) < (U : Int) + 1 + (refs.length : Int)) = true := decide_eq_true (by omega)
          have p2 : (bud : Int) < (U : Int) + 1 + (refs.length : Int) := by omega
          have p3 : IntKind.i64.wrap ((U : Int) + 1) = (U : Int) + 1 := IntWalk.i64_in _ ⟨by omega, by omega⟩
          have p4 : IntKind.i64.wrap ((U : Int) + 1 + (refs.length : Int)) = (U : Int) + 1 + (refs.length : Int) := IntWalk.i64_in _ ⟨by omega, by omega⟩
          clear hal hfu hrm
          go_wp2_with fail
          refine c5.mono fun e w6 hh => ?_
          obtain ⟨rfl, hP⟩ := hh
          obtain ⟨h6, hc6⟩ := H5.out.2.1 _ _ _ hP
          obtain ⟨F', ⟨LB, ld, hR6⟩, _, _⟩ := h6.right (Nat.le_trans H5.out.2.2 hc6.size)
          have y1 : w6.cell? ⟨q, 1, none⟩ = some (.int .i64 (bud : Int)) := by simpa using hR6.blk.cell 1
          have hqu : ∀ n, Calls Try.prog 21 #[.pointer (some ⟨q, 0, none⟩)] (w6.drewN n) fun e w' => e = .returned (.int .i64 (U : Int)) ∧ w' = w6.drewN n := fun n => by
            have := rused_q F' (w6.drewN n) q LB ld S bud (hR6.keep ((Chg.refl (fun _ _ => False) w6).drewN n) fun _ _ _ => id)
            rw [HU.out] at this
            exact this
          have HQ6 := Lib.hid hqu
          have H6 := Lib.hid (And.intro hR6 ((H2.out.2.1.trans H5.out.1.no).trans hc6))
          clear c5 hP h6 hc6 hR6 hqu
          go_wp2_with fail
          go_quiet ((go_at_call 21; exact Calls.quiet_of_same (HQ6.out _)))
          go_wp2_with fail
          go_ret
          exact ⟨by simp, below_ml2 (H6.out.2.drewN _)⟩
        · obtain ⟨ha1, ha2⟩ := hal.2 hfu
          rw [ha1, ha2] at c5
          obtain ⟨g1, hg1⟩ : ∃ g1, gapS S + 1 = g1 := ⟨_, rfl⟩
          have hgl := gapS_le S
          have hfree : decide ((g1 : Int) ∈ nmI S) = false := decide_eq_false fun hm => by
            have := nmI_mem.1 hm
            rw [← hg1, gapS_free HR.out.2.1.sorted HR.out.2.1.pos] at this
            cases this
          have htk : ∀ i : Nat, 1 ≤ i → i < g1 → decide ((i : Int) ∈ nmI S) = true := fun i h1 h2 => decide_eq_true (nmI_mem.2 (gapS_taken h1 (by omega)))
          have hun : decide ((g1 : Int) ∈ reachL (allocO S refs) (nmI S)) = false := decide_eq_false (by rw [← hg1]; exact alloc_unreached HR.out.2.1 refs)
          have hge : ∀ i : Nat, i < refs.length → getV (allocO S refs) (g1 : Int) (i : Int) = (0, refs.getD i false, 0) := fun i hi => by rw [← hg1]; exact alloc_get HR.out.2.1 hi
          have hus : usedO (allocO S refs) = U + 1 + refs.length := by rw [alloc_used, HU.out]
          have hkn := alloc_known HR.out.2.1 refs
          rw [hg1] at c5
          have HO := Lib.hid (And.intro hfree (And.intro htk (And.intro hun (And.intro hge (And.intro hus hkn)))))
          have p1 : ¬ (g1 : Int) < 1 := by omega
          have p2 : IntKind.i64.wrap ((S.length : Int) + 1) = (S.length : Int) + 1 := IntWalk.i64_in _ ⟨by omega, by omega⟩
          have p3 : ¬ (S.length : Int) + 1 < (g1 : Int) := by omega
          have hg1b : 1 ≤ g1 ∧ g1 ≤ 65537 := by omega
          obtain ⟨S', hS'⟩ : ∃ S', allocO S refs = S' := ⟨_, rfl⟩
          rw [hS'] at c5 HO
          have HS' := Lib.hid hS'
          clear hal hfu ha1 ha2 hg1 hgl hfree htk hun hge hus hkn hS'
          go_wp2_with fail
          refine c5.mono fun e w6 hh => ?_
          obtain ⟨rfl, hP⟩ := hh
          obtain ⟨h6, hc6⟩ := H5.out.2.1 _ _ _ hP
          have hallr : RowR w2.heap.size 3 1 IntZ w6 NA nc (nmI S) := HA.out.2.2.2.keep1 ((H4.out.2.1.trans HC5.out).no.trans hc6) (fun _ _ => ML2_no (by decide)) fun _ _ h => h
          have hall6 : SlR w6.heap.size 0 1 IntZ w6 (.slice NA S.length nc) (nmI S) := by
            have := (hallr.slr (by decide) 0).settle (R' := IntZ) fun _ _ h => h
            rw [nmI_len] at this
            exact this
          have hc06 := (H2.out.2.1.trans H5.out.1.no).trans hc6
          obtain ⟨G', hG', _, _⟩ := h6.left (Nat.le_trans H5.out.2.2 hc6.size)
          obtain ⟨F', hF', _, _⟩ := h6.right (Nat.le_trans H5.out.2.2 hc6.size)
          have H6 := Lib.hid (And.intro hall6 (And.intro hc06 (And.intro (slr_ml2 HH.out hc06 fun _ _ h => h) (And.intro hG' hF'))))
          have c6 := has12_q _ w6 NA nc (nmI S) (g1 : Int) (by rw [nmI_len]; exact hall6) (by rw [nmI_len]; omega)
          rw [HO.out.1, nmI_len] at c6
          clear c5 hP h6 hc6 hallr hall6 hc06 hG' hF'
          go_wp2_with fail
          refine c6.mono fun e w6 hh => ?_
          obtain ⟨rfl, rfl⟩ := hh
          clear c6
          go_wp2_with fail
          go_loopw [13] (fun i wx => ∃ k : Nat, 1 ≤ k ∧ k ≤ g1 ∧ i = .int .i64 (k : Int) ∧ wx = w6) (fun i _ => g1 - (intOf i).toNat)
          case atStart => exact ⟨1, Nat.le_refl _, hg1b.1, rfl, rfl⟩
          case round =>
            obtain ⟨k, hk1, hk, rfl, hwx⟩ := hrel
            rw [hwx]
            clear hwx
            have q3 : IntKind.i64.wrap ((k : Int) + 1) = (k : Int) + 1 := IntWalk.i64_in _ ⟨by omega, by omega⟩
            by_cases hlt : k < g1
            · have q4 : decide (k < g1) = true := decide_eq_true hlt
              have q5 : (k : Int) < (g1 : Int) := by omega
              have c7 := has12_q _ w6 NA nc (nmI S) (k : Int) (by rw [nmI_len]; exact H6.out.1) (by rw [nmI_len]; omega)
              rw [HO.out.2.1 k hk1 hlt, nmI_len] at c7
              go_wp2_with fail
              refine c7.mono fun e w6 hh => ?_
              obtain ⟨rfl, rfl⟩ := hh
              clear c7
              go_wp2_with fail
              go_roundw
              case rel => exact ⟨k + 1, by omega, hlt, by simp, by first | rfl | trivial⟩
              case measure => simp [intOf]; omega
            · have q4 : decide (k < g1) = false := decide_eq_false hlt
              obtain rfl : k = g1 := by omega
              go_wp2_with fail
              have hd6 : Chg (fun _ _ => False) w6 w6 := Chg.refl _ _
              go_loopw [14] (fun i wx => ∃ k : Nat, k ≤ refs.length ∧ i = .int .i64 (k : Int) ∧ Chg (fun _ _ => False) w6 wx) (fun i _ => refs.length - (intOf i).toNat)
              case atStart => exact ⟨0, Nat.zero_le _, rfl, hd6⟩
              case round =>
                obtain ⟨m, hm, rfl, hcx⟩ := hrel
                have q6 : IntKind.i64.wrap ((m : Int) + 1) = (m : Int) + 1 := IntWalk.i64_in _ ⟨by omega, by omega⟩
                by_cases hmt : m < refs.length
                · have q7 : decide (m < refs.length) = true := decide_eq_true hmt
                  have q8 : (m : Int) < (refs.length : Int) := by omega
                  have c8 := hget_P (H6.out.2.2.2.1.keep hcx fun _ _ _ => id) (k : Int) (m : Int) (by unfold I64; omega)
                  rw [HO.out.2.2.2.1 m hmt] at c8
                  obtain ⟨r, hr⟩ : ∃ r, refs.getD m false = r := ⟨_, rfl⟩
                  rw [hr] at c8
                  have HC := Lib.hid (And.intro hcx hr)
                  clear hcx hr hd6
                  go_wp2_with fail
                  refine c8.mono fun e w8 hh => ?_
                  obtain ⟨rfl, hc8⟩ := hh
                  have hc68 := HC.out.1.trans hc8
                  obtain ⟨fb, fo, rfl, z0⟩ := bool_at (SlR.keep H6.out.2.2.1 hc68 (no_letsH _ _) fun _ _ h => h) hmt
                  rw [HC.out.2] at z0
                  have HD := Lib.hid hc68
                  clear c8 hc8 hc68
                  go_wp2_with fail
                  go_roundw
                  case rel => exact ⟨m + 1, hmt, by simp, HD.out⟩
                  case measure => simp [intOf]; omega
                · have q7 : decide (m < refs.length) = false := decide_eq_false hmt
                  obtain rfl : m = refs.length := by omega
                  have c9 := ints12_any _ _ (nmI S) NA nc (by rw [nmI_len]; exact SlR.keep H6.out.1 hcx (no_letsH _ _) fun _ _ h => h) (by rw [nmI_len]; omega)
                  rw [nmI_len] at c9
                  have HC := Lib.hid hcx
                  clear hcx hd6
                  go_wp2_with fail
                  refine c9.mono fun e w9 hh => ?_
                  obtain ⟨JA, jc, rfl, hjr, hc9⟩ := hh
                  have hc69 := HC.out.trans hc9
                  have hjr' := hjr.slr (by decide) 0
                  have hIn : ∀ r ∈ nmI S, I64 r := fun r hr => by
                    obtain ⟨o, ho, he⟩ := findO_isSome.1 (nmI_mem.1 hr)
                    have := HR.out.2.1.top o ho
                    unfold I64
                    omega
                  have c10 := hreach_P (H6.out.2.2.2.1.keep hc69 fun _ _ _ => id) (hjr'.settle fun _ _ h => h) (Nat.le_refl _) hIn (by rw [nmI_len]; omega)
                  rw [HO.out.2.2.2.2.2, if_pos rfl, if_pos rfl, nmI_len] at c10
                  have HC9 := Lib.hid hc69
                  clear c9 hjr hc9 hc69 hjr' hIn
                  go_wp2_with fail
                  refine c10.mono fun e w10 hh => ?_
                  obtain ⟨zs, ZA, zc, rfl, hzr, hz, hc10⟩ := hh
                  have hzl : zs.length ≤ 65537 := by
                    rw [hz, reach_len]
                    refine Nat.le_trans (live_len _ _) ?_
                    rw [← HS'.out, alloc_len]
                    omega
                  have c11 := has12_q _ w10 ZA zc zs (k : Int) ((hzr.slr (by decide) 0).settle fun _ _ h => h) (by omega)
                  rw [hz, HO.out.2.2.1, ← hz] at c11
                  have hc610 := HC9.out.trans hc10
                  have c12 := hused_P (H6.out.2.2.2.1.keep hc610 fun _ _ _ => id)
                  rw [HO.out.2.2.2.2.1] at c12
                  have HC10 := Lib.hid hc610
                  have p5 : IntKind.i64.wrap ((U : Int) + 1) = (U : Int) + 1 := IntWalk.i64_in _ ⟨by omega, by omega⟩
                  have p6 : IntKind.i64.wrap ((U : Int) + 1 + (refs.length : Int)) = (U : Int) + 1 + (refs.length : Int) := IntWalk.i64_in _ ⟨by omega, by omega⟩
                  clear c10 hzr hz hc10 hc610
                  go_wp2_with fail
                  refine c11.mono fun e w10 hh => ?_
                  obtain ⟨rfl, rfl⟩ := hh
                  clear c11
                  go_wp2_with fail
                  refine c12.mono fun e w11 hh => ?_
                  obtain ⟨rfl, hc11⟩ := hh
                  have hc611 := HC10.out.trans hc11
                  have c13 := rused_P (H6.out.2.2.2.2.keep hc611 fun _ _ _ => id)
                  rw [HU.out] at c13
                  have HC11 := Lib.hid hc611
                  clear c12 hc11 hc611
                  go_wp2_with fail
                  refine c13.mono fun e w12 hh => ?_
                  obtain ⟨rfl, hc12⟩ := hh
                  have HC12 := Lib.hid (HC11.out.trans hc12)
                  clear c13 hc12
                  go_wp2_with fail
                  go_ret
                  exact ⟨by simp, below_ml2 (H6.out.2.1.trans HC12.out.no)⟩
end Go.Proofs.Yteigopmdhhgnfaa
