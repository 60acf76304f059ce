/-
  Are both heaps alike?
-/
import Derived.Test.YteigopmdhhgnfaaHLawN
namespace Go.Proofs.Yteigopmdhhgnfaa
open Go.RowKit
set_option linter.unusedVariables false
set_option linter.unusedSimpArgs false

set_option maxRecDepth 100000 in
set_option maxHeartbeats 4000000 in
theorem alike12_any (w : World) (base p q bud N : Nat) (S : List ObjD) (hb : base ≤ w.heap.size) (h2 : HTwo base w p q bud N S S) :
    Calls Try.prog 29 #[.pointer (some ⟨p, 0, none⟩), .pointer (some ⟨q, 0, none⟩)] w fun e w' => e = .returned (.bool true) ∧ Chg (fun _ _ => False) w w' := by
  have hgd := h2.good
  have hS6 : S.length ≤ 65536 := by have := len_le_used S; omega
  obtain ⟨G, hG, _, _⟩ := h2.left hb
  obtain ⟨F, ⟨LA, lc, hR⟩, _, _⟩ := h2.right hb
  have c1 := names_P hG
  have HH := Lib.hid (And.intro hG (And.intro hR hgd))
  clear hG hR hgd h2 hb
  go_enter Try.func29, Try.ntmps29
  go_wp2_with fail
  refine c1.mono fun e w1 hh => ?_
  obtain ⟨NA, nc, rfl, hnr, hc1⟩ := hh
  have c2 := hused_P (HH.out.1.keep hc1 fun _ _ _ => id)
  obtain ⟨U, hU⟩ : ∃ U, usedO S = U := ⟨_, rfl⟩
  rw [hU] at c2
  have HU := Lib.hid hU
  have H1 := Lib.hid (And.intro hnr hc1)
  clear c1 hnr hc1 hU
  go_wp2_with fail
  refine c2.mono fun e w2 hh => ?_
  obtain ⟨rfl, hc2⟩ := hh
  have hc02 := H1.out.2.trans hc2
  have c3 := rused_any F w2 q LA lc S bud (HH.out.2.1.keep hc02 fun _ _ _ => id)
  rw [HU.out] at c3
  have H2 := Lib.hid (And.intro hc02 (H1.out.1.keep hc2 (fun _ _ => id) fun _ _ h => h))
  clear c2 hc2 hc02
  go_wp2_with fail
  refine c3.mono fun e w3 hh => ?_
  obtain ⟨rfl, hc3⟩ := hh
  have hc03 := H2.out.1.trans hc3
  have hR3 := HH.out.2.1.keep hc03 fun _ _ _ => id
  have x0 : w3.cell? ⟨q, 0, none⟩ = some (.slice LA S.length lc) := by simpa using hR3.blk.cell 0
  have hnr : SlR w3.heap.size 0 1 IntZ w3 (.slice NA S.length nc) (nmI S) := by
    have := (((H2.out.2.keep hc3 (fun _ _ => id) fun _ _ h => h).slr (by decide) 0).settle (R' := IntZ) fun _ _ h => h)
    rw [List.length_map] at this
    exact this
  have H3 := Lib.hid (And.intro hc03 (And.intro hR3 (And.intro hnr (HH.out.1.keep hc03 fun _ _ _ => id))))
  clear c3 hc3 hc03 hR3 hnr
  go_wp2_with fail
  clear x0
  go_loopw [7] (fun i wr => ∃ k : Nat, k ≤ S.length ∧ i = .int .i64 (k : Int) ∧ Chg (fun _ _ => False) w3 wr) (fun i _ => S.length - (intOf i).toNat)
  case atStart => exact ⟨0, Nat.zero_le _, rfl, Chg.refl _ _⟩
  case round =>
    obtain ⟨k, hk, rfl, hch⟩ := hrel
    have q3 : IntKind.i64.wrap ((k : Int) + 1) = (k : Int) + 1 := IntWalk.i64_in _ ⟨by omega, by omega⟩
    by_cases hlt : k < S.length
    · have q4 : decide (k < S.length) = true := decide_eq_true hlt
      have q5 : (k : Int) < (S.length : Int) := by omega
      have hR := H3.out.2.1.keep hch fun _ _ _ => id
      have x0 : wr.cell? ⟨q, 0, none⟩ = some (.slice LA S.length lc) := by simpa using hR.blk.cell 0
      obtain ⟨gb, o, A1, c1, A2, c2, rfl, hko, hV, z0, z1, z2⟩ := hR.objs.at_ hlt
      obtain ⟨zb, zo, rfl, y0⟩ := int_at (SlR.keep H3.out.2.2.1 hch (no_letsH _ _) fun _ _ h => h) (show k < (nmI S).length by rw [nmI_len]; exact hlt)
      have hzv : (nmI S).getD k 0 = (o.name : Int) := by rw [List.getD_eq_getElem?_getD]; unfold nmI; rw [List.getElem?_map, hko]; rfl
      rw [hzv] at y0
      have hbx := Blk.new wr 39 #[.int .i64 (o.name : Int), .slice A1 o.cells.length c1, .slice A2 o.refs.length c2]
      have hcx := chg_alloc wr (.cells #[.int .i64 (o.name : Int), .slice A1 o.cells.length c1, .slice A2 o.refs.length c2] 39)
      have y0 := hcx.cell y0 fun _ => id
      obtain ⟨B1, d1, B2, d2, he, hr1, hr2, _⟩ := hV
      obtain ⟨rfl, rfl, rfl, rfl⟩ : A1 = B1 ∧ c1 = d1 ∧ A2 = B2 ∧ c2 = d2 := by simpa [and_assoc] using he
      have hch2 := hch.trans hcx
      have hom := List.mem_of_getElem? hko
      have hI : I64 (o.name : Int) := by have := HH.out.2.2.1.top o hom; unfold I64; omega
      have hf := findO_some HH.out.2.2.1.sorted hom
      have hlv : lenV S (o.name : Int) = (o.cells.length, 0) := by unfold lenV; rw [hf]
      have hgv : ∀ d : Nat, d < o.cells.length → getV S (o.name : Int) (d : Int) = (o.cells.getD d 0, o.refs.getD d false, 0) := fun d hd => by rw [getV_in hf ⟨by omega, by omega⟩, Int.toNat_natCast]
      have hlen := HH.out.2.2.1.len o hom
      have hcl : o.cells.length ≤ 65536 := by have := used_ge hom; have := HH.out.2.2.2; omega
      have c4 := hlen_P (H3.out.2.2.2.keep hch2 fun _ _ _ => id) (o.name : Int) hI
      rw [hlv] at c4
      have HK := Lib.hid (And.intro hch2 (And.intro hbx (And.intro y0 (And.intro (row_keepF hr1 hcx fun _ _ h => h) (And.intro (row_keepF hr2 hcx fun _ _ h => h) (And.intro hI (And.intro hgv hlen)))))))
      clear hch hR hko hzv hbx hcx he hr1 hr2 hch2 hom hI hf hlv hgv hlen hk
      go_wp2_with fail
      obtain ⟨w5, hw5⟩ : ∃ w5, wr.alloc (.cells #[.int .i64 (o.name : Int), .slice A1 o.cells.length c1, .slice A2 o.refs.length c2] 39) = w5 := ⟨_, rfl⟩
      obtain ⟨gx, hgx⟩ : ∃ gx, wr.heap.size = gx := ⟨_, rfl⟩
      rw [hw5] at HK y0 c4 ⊢
      rw [hgx] at HK
      simp only [hgx]
      clear hw5 hgx x0 z0 z1 z2
      refine c4.mono fun e w6 hh => ?_
      obtain ⟨rfl, hc6⟩ := hh
      have y6 := hc6.cell y0 fun _ => id
      have hb6 := hc6.blk HK.out.2.1 id
      have t0 : w6.cell? ⟨gx, 0, none⟩ = some (.int .i64 (o.name : Int)) := by simpa using hb6.cell 0
      have t1 : w6.cell? ⟨gx, 1, none⟩ = some (.slice A1 o.cells.length c1) := by simpa using hb6.cell 1
      have t2 : w6.cell? ⟨gx, 2, none⟩ = some (.slice A2 o.refs.length c2) := by simpa using hb6.cell 2
      have H6 := Lib.hid hc6
      clear c4 hc6 hb6 y0
      go_wp2_with fail
      go_quiet (fail)
      go_wp2_with fail
      clear y6 t0 t1 t2
      have hd6 := H6.out.drewN nq
      generalize w6.drewN nq = w7 at hd6 ⊢
      have H7 := Lib.hid hd6
      clear hd6
      go_loopw [11] (fun i wx => ∃ d : Nat, d ≤ o.cells.length ∧ i = .int .i64 (d : Int) ∧ Chg (fun _ _ => False) w5 wx) (fun i _ => o.cells.length - (intOf i).toNat)
      case atStart => exact ⟨0, Nat.zero_le _, rfl, H7.out⟩
      case round =>
        rename World => wx
        obtain ⟨d, hd, rfl, hcx⟩ := hrel
        have q6 : IntKind.i64.wrap ((d : Int) + 1) = (d : Int) + 1 := IntWalk.i64_in _ ⟨by omega, by omega⟩
        by_cases hdl : d < o.cells.length
        · have q7 : decide (d < o.cells.length) = true := decide_eq_true hdl
          have q8 : (d : Int) < (o.cells.length : Int) := by omega
          have hdr : d < o.refs.length := by rw [HK.out.2.2.2.2.2.2.2]; exact hdl
          have q9 : (d : Int) < (o.refs.length : Int) := by omega
          have y0 := hcx.cell HK.out.2.2.1 fun _ => id
          have c9 := hget_P (H3.out.2.2.2.keep (HK.out.1.trans hcx) fun _ _ _ => id) (o.name : Int) (d : Int) HK.out.2.2.2.2.2.1
          rw [HK.out.2.2.2.2.2.2.1 d hdl] at c9
          obtain ⟨v, hv⟩ : ∃ v, o.cells.getD d 0 = v := ⟨_, rfl⟩
          obtain ⟨r, hr⟩ : ∃ r, o.refs.getD d false = r := ⟨_, rfl⟩
          rw [hv, hr] at c9
          have H9 := Lib.hid (And.intro hcx (And.intro hv hr))
          clear hcx hv hr hd
          go_wp2_with fail
          refine c9.mono fun e w10 hh => ?_
          obtain ⟨rfl, hc10⟩ := hh
          have hc510 := H9.out.1.trans hc10
          have hb10 := hc510.blk HK.out.2.1 id
          have t1 : w10.cell? ⟨gx, 1, none⟩ = some (.slice A1 o.cells.length c1) := by simpa using hb10.cell 1
          have t2 : w10.cell? ⟨gx, 2, none⟩ = some (.slice A2 o.refs.length c2) := by simpa using hb10.cell 2
          obtain ⟨g1, o1, rfl, y1⟩ := u64_at (row_keepF HK.out.2.2.2.1 hc510 fun _ _ h => h) hdl
          obtain ⟨g2, o2, rfl, y2⟩ := boo_at (row_keepF HK.out.2.2.2.2.1 hc510 fun _ _ h => h) hdr
          rw [H9.out.2.1] at y1
          rw [H9.out.2.2] at y2
          have H10 := Lib.hid hc510
          clear c9 hc10 hc510 hb10 y0
          go_wp2_with fail
          try go_quiet (fail)
          try go_wp2_with fail
          go_roundw
          case rel => first | exact ⟨d + 1, hdl, by simp, H10.out⟩ | exact ⟨d + 1, hdl, by simp, H10.out.drewN _⟩
          case measure => simp [intOf]; omega
        · have q7 : decide (d < o.cells.length) = false := decide_eq_false hdl
          obtain rfl : d = o.cells.length := by omega
          have H9 := Lib.hid (HK.out.1.trans hcx)
          clear hcx hd
          go_wp2_with fail
          go_roundw
          case rel => exact ⟨k + 1, hlt, by simp, H9.out⟩
          case measure => simp [intOf]; omega
    · have q4 : decide (k < S.length) = false := decide_eq_false hlt
      obtain rfl : k = S.length := by omega
      have HC := Lib.hid (H3.out.1.trans hch)
      clear hch
      go_wp2_with fail
      go_ret
      exact ⟨rfl, HC.out⟩
end Go.Proofs.Yteigopmdhhgnfaa
