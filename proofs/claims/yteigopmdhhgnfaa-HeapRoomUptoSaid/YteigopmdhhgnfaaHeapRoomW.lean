/-
  The walk of the statement HeapRoom.
-/
import Derived.Test.YteigopmdhhgnfaaHLawN
namespace Go.Proofs.Yteigopmdhhgnfaa
open Go.RowKit
set_option linter.unusedVariables false
set_option linter.unusedSimpArgs false

/-- What an allocation leaves of what is reached. -/
theorem room_find {S : List ObjD} (hg : GoodO S) {bud : Nat} {refs : List Bool} {roots : List Int} (hk : knownO S roots = true) (hb : ¬ 262146 < refs.length) {x : ObjD} (hx : x ∈ liveO S roots) : findO (allocT S bud refs roots) (x.name : Int) = some x ∧ (allocV S bud refs roots).1 ≠ (x.name : Int) := by
  have hin : GoodO (allocIn S bud refs roots) ∧ x ∈ allocIn S bud refs roots := by
    unfold allocIn
    split
    · exact ⟨liveO_good hg roots, hx⟩
    · exact ⟨hg, (liveO_mem.1 hx).1⟩
  obtain ⟨hgi, hxi⟩ := hin
  by_cases hf : bud < usedO (allocIn S bud refs roots) + (1 + refs.length)
  · obtain ⟨h1, h2⟩ := allocE_full hb hk hf
    rw [h1, h2]
    refine ⟨findO_some hgi.sorted hxi, ?_⟩
    have := hgi.pos x hxi
    simp only
    omega
  · obtain ⟨h1, h2⟩ := allocE_ok hb hk hf
    rw [h1, h2]
    have hne := gap_names hgi x hxi
    refine ⟨?_, ?_⟩
    · rw [alloc_find hgi.sorted hgi.pos, if_neg (by omega)]
      exact findO_some hgi.sorted hxi
    · simp only
      omega
theorem room_full {S : List ObjD} {bud : Nat} {refs : List Bool} {roots : List Int} (hk : knownO S roots = true) (hb : ¬ 262146 < refs.length) :
    (bud < usedO (liveO S roots) + (1 + refs.length) ∧ (allocV S bud refs roots).2 = 20) ∨ (¬ bud < usedO (liveO S roots) + (1 + refs.length) ∧ (allocV S bud refs roots).2 = 0) := by
  have hle : usedO (liveO S roots) ≤ usedO S := used_filter _ _
  by_cases hf : bud < usedO (allocIn S bud refs roots) + (1 + refs.length)
  · refine .inl ⟨?_, by rw [(allocE_full hb hk hf).1]⟩
    unfold allocIn at hf
    split at hf
    · exact hf
    · rename_i h; exact absurd hf h
  · refine .inr ⟨?_, by rw [(allocE_ok hb hk hf).1]⟩
    unfold allocIn at hf
    split at hf
    · exact hf
    · omega
def roomR (L : List ObjD) (w : World) (v i : Value) (wr : World) : Prop :=
  ∃ k : Nat, k ≤ L.length ∧ v = .int .i64 ((usedO (L.take k) : Nat) : Int) ∧ i = .int .i64 (k : Int) ∧ Chg (fun _ _ => False) w wr
set_option maxRecDepth 100000 in
set_option maxHeartbeats 8000000 in
theorem heapRoom_walk (w : World) (cells : Int) (A : Option Addr) (c : Nat) (l : List HActD) (hl : HActsA w.heap.size w (.slice A l.length c) l) (hn : l.length ≤ 1048576) (FA : Option Addr) (fc : Nat) (refs : List Bool) (hf : SlR w.heap.size 0 1 BoolV w (.slice FA refs.length fc) refs) (hfl : refs.length ≤ 1048576) (RA : Option Addr) (rc : Nat) (roots : List Int) (hr : SlR w.heap.size 0 1 IntZ w (.slice RA roots.length rc) roots) (hI : ∀ r ∈ roots, I64 r) (hrl : roots.length ≤ 1048576) :
    Calls Try.prog 3 #[.int .i64 cells, .slice A l.length c, .slice FA refs.length fc, .slice RA roots.length rc] w fun e w' => e = .returned (.bool true) ∧ Below w.heap.size w w' := by
  have c1 := hgrown_any w w.heap.size (Nat.le_refl _) cells A c l hl hn
  obtain ⟨bud, hbud⟩ : ∃ bud, capC cells = bud := ⟨_, rfl⟩
  obtain ⟨S, hS⟩ : ∃ S, grownS bud l = S := ⟨_, rfl⟩
  rw [hbud, hS] at c1
  have HH := Lib.hid (And.intro hf (And.intro hr hI))
  clear hl hbud hS hf hr hI
  go_enter Try.func3, Try.ntmps3
  go_wp2_with fail
  refine c1.mono fun e w1 hh => ?_
  obtain ⟨p, q, rfl, h2, hc1⟩ := hh
  have H1 := Lib.hid (And.intro h2 hc1)
  clear c1 h2 hc1
  go_wp2_with fail
  refine (answers12_any w1).mono fun e w2 hh => ?_
  obtain ⟨rfl, hc2⟩ := hh
  have H2 := Lib.hid (And.intro (H1.out.1.same hc2) (And.intro (H1.out.2.trans hc2.no) (Nat.le_trans H1.out.2.size hc2.size)))
  clear hc2 H1
  have hgd := H2.out.1.good
  have hS6 : S.length ≤ 65536 := by have := len_le_used S; omega
  obtain ⟨i1, hi1, hz1, hs1, hb1⟩ := info_parts infoBool
  obtain ⟨F, hF, _, _⟩ := H2.out.1.right H2.out.2.2
  have c2 := rreach_P hF (slr_ml2 HH.out.2.1 H2.out.2.1 fun _ _ h => h) hrl
  obtain ⟨ea, hea⟩ : ∃ ea : Int, (if knownO S roots = true then (0 : Int) else 15) = ea := ⟨_, rfl⟩
  rw [hea] at c2
  obtain ⟨V, hV⟩ : ∃ V, allocV S bud refs roots = V := ⟨_, rfl⟩
  obtain ⟨ov, fv⟩ := V
  obtain ⟨S', hS'⟩ : ∃ S', allocT S bud refs roots = S' := ⟨_, rfl⟩
  have HE := Lib.hid (And.intro hea (And.intro hV (And.intro hS' hgd)))
  clear hF hea hV hS' hgd
  go_wp2_with fail
  refine c2.mono fun e w3 hh => ?_
  obtain ⟨zs, ZA, zc, rfl, hzr, hz, hc3⟩ := hh
  have H3 := Lib.hid (And.intro (H2.out.2.1.trans hc3.no) (And.intro (H2.out.1.same hc3) (And.intro (Nat.le_trans H2.out.2.2 hc3.size) (And.intro hzr hz))))
  have hsl := slr_ml2 HH.out.1 H3.out.1 fun _ _ h => h
  clear c2 hzr hz hc3
  go_wp2_with (at_builtin; go_must (refine wpList_copy_slr rfl (.tmp 44) (.tmp 45) 23 rfl 4 i1 _ 1 Try.underlying23 hi1 hz1 hs1 hb1 rfl (by omega) FA refs.length fc rfl (by simp) rfl hsl (fun cs y h => by subst h; intro u hu; simp at hu; subst hu; rfl) (by omega) (by omega) ?_))
  intro A3 c3 w4 yss k1 k2 k3 k4 k5
  have hfr : RowR w3.heap.size 4 1 BoolV w4 A3 c3 refs := ⟨yss, k1, k2, k3, fun k x cs h1 h2 => by
    cases x
    · exact (k4 k).1 cs h1 h2
    · exact (k4 k).2 cs h1 h2⟩
  have H4 := Lib.hid (And.intro hfr k5)
  have c4 := ints12_any _ w4 roots RA rc (slr_ml2 HH.out.2.1 (H3.out.1.trans k5.no) fun _ _ h => h) hrl
  clear k1 k2 k3 k4 k5 hsl hfr
  go_wp2_with fail
  refine c4.mono fun e w5 hh => ?_
  obtain ⟨IA, ic, rfl, hir, hc5⟩ := hh
  have h35 := H4.out.2.trans hc5
  obtain ⟨G, hG, _, hGk⟩ := (H3.out.2.1.same h35).left (Nat.le_trans H3.out.2.2.1 h35.size)
  have c5 := halloc_P hG ((H4.out.1.keep hc5 (fun _ _ => id) fun _ _ h => h).slr (by decide) 0) (hir.slr (by decide) 0) HH.out.2.2 hrl hfl (by simp only [maxLen]; omega)
  rw [HE.out.2.1, HE.out.2.2.1] at c5
  have H5 := Lib.hid (And.intro h35 (And.intro hGk (Nat.le_trans H3.out.2.2.1 h35.size)))
  clear c4 hir hc5 h35 hG hGk
  go_wp2_with fail
  refine c5.mono fun e w6 hh => ?_
  obtain ⟨rfl, hP⟩ := hh
  obtain ⟨h6, hc6⟩ := H5.out.2.1 _ _ _ hP
  have hc06 := (H3.out.1.trans H5.out.1.no).trans hc6
  obtain ⟨G', hG', _, _⟩ := h6.left (Nat.le_trans H5.out.2.2 hc6.size)
  obtain ⟨F', ⟨LB, ld, hR6⟩, _, _⟩ := h6.right (Nat.le_trans H5.out.2.2 hc6.size)
  have hzr6 := H3.out.2.2.2.1.keep1 (H5.out.1.no.trans hc6) (fun _ _ => ML2_no (by decide)) fun _ _ h => h
  have H6 := Lib.hid (And.intro hc06 (And.intro hG' (And.intro hR6 hzr6)))
  clear c5 hP h6 hc6 hc06 hG' hR6 hzr6
  by_cases hbig : 262146 < refs.length
  · have q1 : (262146 : Int) < (refs.length : Int) := by omega
    have q2 : decide (262146 < refs.length) = true := decide_eq_true hbig
    have hfv : fv = 2 := by
      have := HE.out.2.1
      unfold allocV at this
      rw [if_pos hbig] at this
      injection this with _ this
      exact this.symm
    subst hfv
    clear hbig
    cases hk : knownO S roots with
    | false =>
      obtain rfl : ea = 15 := by rw [← HE.out.1, hk]; rfl
      clear hk
      go_wp2_with fail
      go_ret
      exact ⟨by simp, below_ml2 H6.out.1⟩
    | true =>
      obtain rfl : ea = 0 := by rw [← HE.out.1, hk]; rfl
      clear hk
      go_wp2_with fail
      go_ret
      exact ⟨by simp, below_ml2 H6.out.1⟩
  · have q1 : ¬ (262146 : Int) < (refs.length : Int) := by omega
    have q2 : decide (262146 < refs.length) = false := decide_eq_false hbig
    cases hk : knownO S roots with
    | false =>
      obtain rfl : ea = 15 := by rw [← HE.out.1, hk]; rfl
      have hfv : fv = 15 := by
        have := HE.out.2.1
        rw [(allocE_none hbig hk).1] at this
        injection this with _ this
        exact this.symm
      subst hfv
      clear hk hbig
      go_wp2_with fail
      go_ret
      exact ⟨by simp, below_ml2 H6.out.1⟩
    | true =>
      obtain rfl : ea = 0 := by rw [← HE.out.1, hk]; rfl
      have hzs : zs = reachL S roots := by have := H3.out.2.2.2.2; rw [hk, if_pos rfl] at this; exact this
      have hfind : ∀ x ∈ liveO S roots, findO S' (x.name : Int) = some x ∧ ov ≠ (x.name : Int) := fun x hx => by
        have := room_find HE.out.2.2.2.1 (bud := bud) (refs := refs) hk hbig hx
        rw [HE.out.2.1, HE.out.2.2.1] at this
        exact this
      have hfull := room_full (bud := bud) (refs := refs) hk hbig
      rw [HE.out.2.1] at hfull
      simp only at hfull
      have hule : usedO (liveO S roots) ≤ 65536 := by have h1 : usedO (liveO S roots) ≤ usedO S := used_filter _ _; have h2 := HE.out.2.2.2.2; omega
      have hSf : ∀ x ∈ liveO S roots, findO S (x.name : Int) = some x := fun x hx => findO_some HE.out.2.2.2.1.sorted (liveO_mem.1 hx).1
      have hgS : ∀ x ∈ liveO S roots, x.name ≤ 65536 ∧ x.refs.length = x.cells.length := fun x hx => ⟨HE.out.2.2.2.1.top x (liveO_mem.1 hx).1, HE.out.2.2.2.1.len x (liveO_mem.1 hx).1⟩
      obtain ⟨L, hL⟩ : ∃ L, liveO S roots = L := ⟨_, rfl⟩
      have hzn : zs = nmI L := by rw [hzs, ← hL]; rfl
      rw [hL] at hfind hfull hule hSf hgS
      have hzl : zs.length = L.length := by rw [hzn, nmI_len]
      have hLl : L.length ≤ 65536 := Nat.le_trans (len_le_used L) hule
      have HL := Lib.hid (And.intro hfind (And.intro hfull (And.intro hule (And.intro hSf (And.intro hgS (And.intro hzn hzl))))))
      have hlr : SlR w6.heap.size 0 1 IntZ w6 (.slice ZA L.length zc) zs := by
        have := (H6.out.2.2.2.slr (by decide) 0).settle (R' := IntZ) fun _ _ h => h
        rw [hzl] at this
        exact this
      have HZ := Lib.hid hlr
      rw [hzl]
      clear hk hbig hzs hfind hfull hule hSf hgS hL hzn hzl hlr
      go_wp2_with fail
      go_loopw [15, 16] (fun v i wr => roomR L w6 v i wr) (fun _ i _ => L.length - (intOf i).toNat)
      case atStart => exact ⟨0, Nat.zero_le _, by simp [usedO], rfl, Chg.refl _ _⟩
      case round =>
        obtain ⟨k, hk, rfl, rfl, hch⟩ := hrel
        have q3 : IntKind.i64.wrap ((k : Int) + 1) = (k : Int) + 1 := IntWalk.i64_in _ ⟨by omega, by omega⟩
        by_cases hlt : k < L.length
        · have q4 : decide (k < L.length) = true := decide_eq_true hlt
          have q5 : (k : Int) < (L.length : Int) := by omega
          obtain ⟨o, hko⟩ : ∃ o, L[k]? = some o := ⟨_, List.getElem?_eq_getElem hlt⟩
          have hom := List.mem_of_getElem? hko
          obtain ⟨zb, zo, rfl, z0⟩ := int_at (SlR.keep HZ.out hch (no_letsH _ _) fun _ _ h => h) (show k < zs.length by rw [HL.out.2.2.2.2.2.2]; exact hlt)
          have hzv : zs.getD k 0 = (o.name : Int) := by rw [HL.out.2.2.2.2.2.1, List.getD_eq_getElem?_getD]; unfold nmI; rw [List.getElem?_map, hko]; rfl
          rw [hzv] at z0
          obtain ⟨hf1, hf2⟩ := HL.out.1 o hom
          have hf3 := HL.out.2.2.2.1 o hom
          obtain ⟨hg1, hg2⟩ := HL.out.2.2.2.2.1 o hom
          obtain ⟨j, hj, hja⟩ := atO_idx S 0 hf3
          rw [Nat.zero_add] at hja
          have hjl := (List.getElem?_eq_some_iff.1 hj).1
          have p2 : (j : Int) < (S.length : Int) := by omega
          have hat := rat_any F' wr q LB ld S bud (o.name : Int) (H6.out.2.2.1.keep hch fun _ _ _ => id)
          rw [hja] at hat
          have hI : I64 (o.name : Int) := by unfold I64; omega
          have hlv : lenV S' (o.name : Int) = (o.cells.length, 0) := by unfold lenV; rw [hf1]
          have hgv : ∀ d : Nat, d < o.cells.length → getV S' (o.name : Int) (d : Int) = (o.cells.getD d 0, o.refs.getD d false, 0) := fun d hd => by rw [getV_in hf1 ⟨by omega, by omega⟩, Int.toNat_natCast]
          obtain ⟨u, hu⟩ : ∃ u, usedO (L.take k) = u := ⟨_, rfl⟩
          have hsn := used_snoc hko
          have hub := used_take L (k + 1)
          have hul := HL.out.2.2.1
          have hcl : u + 1 + o.cells.length ≤ 65536 := by omega
          have p3 : IntKind.i64.wrap ((u : Int) + 1) = (u : Int) + 1 := IntWalk.i64_in _ ⟨by omega, by omega⟩
          have p4 : IntKind.i64.wrap ((u : Int) + 1 + (o.cells.length : Int)) = (u : Int) + 1 + (o.cells.length : Int) := IntWalk.i64_in _ ⟨by omega, by omega⟩
          have p5 : (ov == (o.name : Int)) = false := by simpa using hf2
          rw [hu]
          have HK := Lib.hid (And.intro hch (And.intro hj (And.intro hI (And.intro hlv (And.intro hgv (And.intro (show u + 1 + o.cells.length = usedO (L.take (k + 1)) by rw [hsn, hu]) hzv))))))
          clear hch hko hom hzv hf1 hf2 hf3 hg1 hg2 hj hja hI hlv hgv hu hsn hub hul hk
          go_wp2_with fail
          refine hat.mono fun e w7 hh => ?_
          obtain ⟨rfl, hc7⟩ := hh
          have hc67 := HK.out.1.trans hc7
          have hR7 := H6.out.2.2.1.keep hc67 fun _ _ _ => id
          have x0 : w7.cell? ⟨q, 0, none⟩ = some (.slice LB S.length ld) := by simpa using hR7.blk.cell 0
          obtain ⟨gb, o', B1, d1, B2, d2, rfl, hx', _, y0, y1, y2⟩ := hR7.objs.at_ hjl
          obtain rfl : o' = o := by rw [HK.out.2.1] at hx'; exact (Option.some.inj hx').symm
          have z7 := hc7.cell z0 fun _ => id
          have c8 := hlen_P (H6.out.2.1.keep hc67 fun _ _ _ => id) (o'.name : Int) HK.out.2.2.1
          rw [HK.out.2.2.2.1] at c8
          have H7 := Lib.hid (And.intro hc67 z7)
          clear hat hc7 hc67 hR7 hx' z0
          go_wp2_with fail
          refine c8.mono fun e w8 hh => ?_
          obtain ⟨rfl, hc8⟩ := hh
          have hc68 := H7.out.1.trans hc8
          have z0 := hc8.cell H7.out.2 fun _ => id
          have hR8 := H6.out.2.2.1.keep hc68 fun _ _ _ => id
          clear x0 y0 y1 y2 z7
          have x0 : w8.cell? ⟨q, 0, none⟩ = some (.slice (some ⟨gb, 0, none⟩) S.length ld) := by simpa using hR8.blk.cell 0
          obtain ⟨gb', o'', B1', d1', B2', d2', hge, hx', _, y0, y1, y2⟩ := hR8.objs.at_ hjl
          obtain rfl : o'' = o' := by rw [HK.out.2.1] at hx'; exact (Option.some.inj hx').symm
          obtain rfl : gb' = gb := by
            injection hge with hge
            injection hge with hge
            exact hge.symm
          have H8 := Lib.hid (And.intro hc68 z0)
          clear c8 hc8 hc68 hR8 hx' hge
          go_wp2_with fail
          clear x0 y0 y1 y2 z0
          go_loopw [20] (fun i wx => ∃ d : Nat, d ≤ o''.cells.length ∧ i = .int .i64 (d : Int) ∧ Chg (fun _ _ => False) w8 wx) (fun i _ => o''.cells.length - (intOf i).toNat)
          case atStart => exact ⟨0, Nat.zero_le _, rfl, Chg.refl _ _⟩
          case round =>
            rename World => wx
            obtain ⟨d, hd, rfl, hcx⟩ := hrel
            have q6 : IntKind.i64.wrap ((d : Int) + 1) = (d : Int) + 1 := IntWalk.i64_in _ ⟨by omega, by omega⟩
            have z0 := hcx.cell H8.out.2 fun _ => id
            have hc6x := H8.out.1.trans hcx
            by_cases hdl : d < o''.cells.length
            · have q7 : decide (d < o''.cells.length) = true := decide_eq_true hdl
              have q8 : (d : Int) < (o''.cells.length : Int) := by omega
              have c9 := hget_P (H6.out.2.1.keep hc6x fun _ _ _ => id) (o''.name : Int) (d : Int) HK.out.2.2.1
              rw [HK.out.2.2.2.2.1 d hdl] at c9
              obtain ⟨v, hv⟩ : ∃ v, o''.cells.getD d 0 = v := ⟨_, rfl⟩
              rw [hv] at c9
              have H9 := Lib.hid (And.intro hcx (And.intro hc6x hv))
              clear hcx hc6x hv hd
              go_wp2_with fail
              refine c9.mono fun e w10 hh => ?_
              obtain ⟨rfl, hc10⟩ := hh
              have hc610 := H9.out.2.1.trans hc10
              have hR10 := H6.out.2.2.1.keep hc610 fun _ _ _ => id
              clear z0
              have x0 : w10.cell? ⟨q, 0, none⟩ = some (.slice (some ⟨gb', 0, none⟩) S.length ld) := by simpa using hR10.blk.cell 0
              obtain ⟨gb2, o3, B3, d3, B4, d4, hge, hx', hV, y0, y1, y2⟩ := hR10.objs.at_ hjl
              obtain rfl : o3 = o'' := by rw [HK.out.2.1] at hx'; exact (Option.some.inj hx').symm
              obtain rfl : gb2 = gb' := by
                injection hge with hge
                injection hge with hge
                exact hge.symm
              obtain ⟨B5, d5, B6, d6, he, hr1, hr2, _⟩ := hV
              obtain ⟨rfl, rfl, rfl, rfl⟩ : B3 = B5 ∧ d3 = d5 ∧ B4 = B6 ∧ d4 = d6 := by simpa [and_assoc] using he
              obtain ⟨g1, o1, rfl, y5⟩ := u64_at hr1 hdl
              rw [H9.out.2.2] at y5
              have H10 := Lib.hid (H9.out.1.trans hc10)
              clear c9 hc10 hc610 hR10 hx' hge he hr1 hr2
              go_wp2_with fail
              go_roundw
              case rel => exact ⟨d + 1, hdl, by simp, H10.out⟩
              case measure => simp [intOf]; omega
            · have q7 : decide (d < o''.cells.length) = false := decide_eq_false hdl
              obtain rfl : d = o''.cells.length := by omega
              have H9 := Lib.hid hc6x
              clear hcx hc6x hd z0
              go_wp2_with fail
              go_roundw
              case rel => exact ⟨k + 1, hlt, by rw [← HK.out.2.2.2.2.2.1]; simp, by simp, H9.out⟩
              case measure => simp [intOf]; omega
        · have q4 : decide (k < L.length) = false := decide_eq_false hlt
          obtain rfl : k = L.length := by omega
          obtain ⟨u, hu⟩ : ∃ u, usedO L = u := ⟨_, rfl⟩
          rw [List.take_length, hu]
          have hul := HL.out.2.2.1
          rw [hu] at hul
          have y1 : wr.cell? ⟨q, 1, none⟩ = some (.int .i64 (bud : Int)) := by simpa using (H6.out.2.2.1.keep hch fun _ _ _ => id).blk.cell 1
          have p3 : IntKind.i64.wrap ((u : Int) + 1) = (u : Int) + 1 := IntWalk.i64_in _ ⟨by omega, by omega⟩
          have p4 : IntKind.i64.wrap ((u : Int) + 1 + (refs.length : Int)) = (u : Int) + 1 + (refs.length : Int) := IntWalk.i64_in _ ⟨by omega, by omega⟩
          have HC := Lib.hid (H6.out.1.trans hch.no)
          have hfl2 := HL.out.2.1
          rw [hu] at hfl2
          rcases hfl2 with ⟨h1, rfl⟩ | ⟨h1, rfl⟩
          · have p5 : decide ((u : Int) + 1 + (refs.length : Int) ≤ (bud : Int)) = false := decide_eq_false (by omega)
            have p6 : ¬ (u : Int) + 1 + (refs.length : Int) ≤ (bud : Int) := by omega
            clear h1 hch hu hk hul
            go_wp2_with fail
            try go_quiet (fail)
            try go_wp2_with fail
            go_ret
            first
              | exact ⟨by simp, below_ml2 HC.out⟩
              | exact ⟨by simp, below_ml2 (HC.out.drewN _)⟩
          · have p5 : decide ((u : Int) + 1 + (refs.length : Int) ≤ (bud : Int)) = true := decide_eq_true (by omega)
            have p6 : (u : Int) + 1 + (refs.length : Int) ≤ (bud : Int) := by omega
            clear h1 hch hu hk hul
            go_wp2_with fail
            try go_quiet (fail)
            try go_wp2_with fail
            go_ret
            first
              | exact ⟨by simp, below_ml2 HC.out⟩
              | exact ⟨by simp, below_ml2 (HC.out.drewN _)⟩
end Go.Proofs.Yteigopmdhhgnfaa
