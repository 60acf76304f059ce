/-
  The walk of the statement CodeReads: the program and the reference read the same, and a beginning is never at fault further on.
-/
import Derived.Test.YtfmhedpjkpaohaaTurnW
namespace Go.Proofs.Ytfmhedpjkpaohaa
open Go.RowKit
set_option linter.unusedVariables false
set_option linter.unusedSimpArgs false

/-- The place that the statement keeps. -/
def placeOf (i : Nat) (bs : List Nat) (len : Nat) : Nat := if (decAns bs).2.2 = 0 ∧ i = 0 then len else (decAns bs).2.1
theorem place_le {bs : List Nat} {k : Nat} (hk : k ≤ bs.length) (hl : bs.length ≤ 1048576) : placeOf 1 (bs.take k) bs.length ≤ placeOf 0 bs bs.length := by
  have htl : (bs.take k).length = k := by rw [List.length_take]; omega
  unfold placeOf
  cases h1 : readP (bs.take k) with
  | ok m =>
    rw [decAns_ok (by omega) h1]
    exact Nat.zero_le _
  | error f =>
    rw [decAns_error (by omega) h1]
    have h2 := read_part hk h1
    cases h3 : readP bs with
    | ok m =>
      rw [decAns_ok hl h3]
      rw [h3] at h2
      exact h2
    | error f0 =>
      rw [decAns_error hl h3]
      rw [h3] at h2
      exact h2
/-- The lists that are read, and their bytes. -/
def lb (bs : List Nat) (k i : Nat) : List Nat := if i = 0 then bs else bs.take k
def pls (bs : List Nat) (k : Nat) : List Int := [(placeOf 0 bs bs.length : Int), (placeOf 1 (bs.take k) bs.length : Int)]
theorem pls_at {bs : List Nat} {k i : Nat} (hi : i < 2) : (pls bs k)[i]? = some (placeOf i (lb bs k i) bs.length : Int) := by
  match i, hi with
  | 0, _ => rfl
  | 1, _ => rfl
def intQ (_ : World) (cs : List Value) (x : Int) : Prop := cs = [.int .i64 x]
def readsRel (D : Nat) (w0 : World) (bs : List Nat) (k : Nat) (pl i : Value) (wr : World) : Prop :=
  ∃ (n : Nat) (A' : Option Addr) (c' : Nat), n ≤ 2 ∧ i = .int .i64 n ∧ pl = .slice A' n c' ∧ RowR D 3 1 intQ wr A' c' ((pls bs k).take n) ∧ Chg (fun _ _ => False) w0 wr
theorem reads_step {w0 w7 w8 : World} {bs : List Nat} {k n c1 c8 : Nat} {p : Int} {A1 A8 : Option Addr} {xss : List (List Value)} (hn : n < 2) (x2 : xss.length = ((pls bs k).take n).length) (x3 : ∀ cs ∈ xss, cs.length = 1)
    (x4 : ∀ (j : Nat) x cs, ((pls bs k).take n)[j]? = some x → xss[j]? = some cs → intQ w7 cs x) (h07 : Chg (fun _ _ => False) w0 w7) (how : w7.ownsRow w0.heap.size 3 1 (.slice A1 n c1) n xss.flatten) (hpl : (pls bs k).take (n + 1) = (pls bs k).take n ++ [p])
    (hap : Apd (w7.alloc (.cells #[.int .i64 p] 3)) w8 w0.heap.size 3 1 A1 A8 n c1 (n + 1) c8 (xss.flatten ++ [.int .i64 p])) : readsRel w0.heap.size w0 bs k (.slice A8 (n + 1) c8) (.int .i64 ((n : Int) + 1)) w8 := by
  have hch := hap.chg how
  have htl : ((pls bs k).take n).length = n := by rw [List.length_take]; show min n 2 = n; omega
  refine ⟨n + 1, A8, c8, hn, by simp, rfl, ?_, h07.trans_new hch fun b t hb h => by have := h.1; omega⟩
  rw [hpl]
  exact RowR.snoc (w := w7) x2 x3 x4 (fun _ _ h => h) (by rw [htl]; exact hap.own) rfl rfl
set_option maxRecDepth 100000 in
set_option maxHeartbeats 4000000 in
theorem codeReads_walk (w : World) (B : Nat) (hBw : B ≤ w.heap.size) (bs : List Nat) (A : Option Addr) (c : Nat) (hv : SlR B 0 1 ByteV w (.slice A bs.length c) bs) (hlen : bs.length ≤ 1048576) (cut : Nat) (hcut : cut < 65536) :
    Calls Try.prog 7 #[.slice A bs.length c, .int .u16 cut] w fun e w' => e = .returned (.bool true) ∧ Below w.heap.size w w' := by
  obtain ⟨i3, hi3, hz3, hs3, hb3⟩ := info_parts infoInt
  obtain ⟨i1, hi1, hz1, hs1, hb1⟩ := info_parts infoU8
  have hc : bs.length ≤ c := hv.len.2
  have HV := Lib.hid (And.intro hv hBw)
  have t1 : decide ((1048576 : Int) < (bs.length : Int)) = false := decide_eq_false (by omega)
  have t2 : IntKind.i64.wrap ((bs.length : Int) + 1) = (bs.length : Int) + 1 := IntWalk.i64_in _ ⟨by omega, by omega⟩
  obtain ⟨k, t4, hk⟩ : ∃ k : Nat, (wrap64 (cut : Int)).tmod ((bs.length : Int) + 1) = (k : Int) ∧ k ≤ bs.length := by
    clear t1 t2
    refine ⟨cut % (bs.length + 1), ?_, by have := Nat.mod_lt cut (show 0 < bs.length + 1 by omega); omega⟩
    rw [show wrap64 (cut : Int) = cut by unfold wrap64; omega, Int.tmod_eq_emod_of_nonneg (by omega)]
    simp
  have t5 : (k : Int) ≤ (c : Int) := by omega
  have HL := Lib.hid (And.intro hlen hk)
  clear hv hBw hcut hlen hk hc
  go_enter Try.func7, Try.ntmps7
  go_wp2_with fail
  refine (answers_any _).mono fun e w1 h => ?_
  obtain ⟨rfl, hb1⟩ := h
  have hbl : Blk (w1.alloc (.cells #[.slice A bs.length c, .slice A k c] 26)) w1.heap.size 26 #[.slice A bs.length c, .slice A k c] := Blk.new _ _ _
  have hc0 : Chg (fun _ _ => False) w (w1.alloc (.cells #[.slice A bs.length c, .slice A k c] 26)) := (Chg.of_below hb1 (fun _ _ => False)).alloc _
  clear hb1
  go_wp2_with fail
  generalize w1.alloc (.cells #[.slice A bs.length c, .slice A k c] 26) = w0 at hbl hc0 ⊢
  generalize w1.heap.size = r at hbl ⊢
  clear w1
  have HS := Lib.hid (And.intro hbl (And.intro hc0 (And.intro (SlR.keep HV.out.1 hc0 ⟨fun _ _ _ => id, fun h => absurd rfl h⟩ fun _ _ h => h) (Nat.le_trans HV.out.2 hc0.size))))
  clear hbl hc0
  go_loopw [10, 11] (fun pl i wr => readsRel w0.heap.size w0 bs k pl i wr) (fun _ i _ => (2 - intOf i).toNat)
  case atStart => exact ⟨0, none, 0, by omega, rfl, rfl, RowR.nil _ _ _ _ _, Chg.refl _ _⟩
  case round =>
    obtain ⟨n, A1, c1, hn2, rfl, rfl, hrow, hch⟩ := hrel
    by_cases hn : n < 2
    · have q1 : decide ((n : Int) < 2) = true := decide_eq_true (by omega)
      have q2 : (n : Int) < 2 := by omega
      have hbl := hch.blk HS.out.1 id
      have hbb : SlR B 0 1 ByteV wr (.slice A (lb bs k n).length c) (lb bs k n) := by
        have hv := SlR.keep HS.out.2.2.1 hch ⟨fun _ _ _ => id, fun h => absurd rfl h⟩ fun _ _ h => h
        unfold lb
        split
        · exact hv
        · exact byteV_take hv HL.out.2
      have hat : (#[Value.slice A bs.length c, Value.slice A k c] : Array Value)[n]? = some (.slice A (lb bs k n).length c) := by
        unfold lb
        match n, hn with
        | 0, _ => rfl
        | 1, _ =>
          have : (bs.take k).length = k := by rw [List.length_take]; have := HL.out.2; omega
          show some (Value.slice A k c) = some (.slice A (bs.take k).length c)
          rw [this]
      have hln : (lb bs k n).length ≤ 1048576 := by
        unfold lb
        have := HL.out.1
        split
        · exact this
        · rw [List.length_take]; omega
      have hpl : ((pls bs k).take (n + 1)) = (pls bs k).take n ++ [(placeOf n (lb bs k n) bs.length : Int)] := by
        have h := pls_at (bs := bs) (k := k) hn
        obtain ⟨h1, h2⟩ := List.getElem?_eq_some_iff.1 h
        rw [List.take_succ_eq_append_getElem h1, h2]
      have hcell := (hbl.alloc (.cells #[] 5)).cell n
      rw [hat] at hcell
      generalize lb bs k n = l at hbb hat hln hpl hcell
      have HR := Lib.hid (And.intro hrow (And.intro hch (And.intro hbl (And.intro hat (And.intro hpl hln)))))
      have hbw : B ≤ wr.heap.size := Nat.le_trans HS.out.2.2.2 hch.size
      clear hrow hch hbl hat hpl
      go_wp2_with (at_builtin; go_must (refine wpList_copy_slr rfl (.tmp 53) (.tmp 57) 26 rfl 5 i1 _ 1 Try.underlying26 hi1 hz1 hs1 hb1 rfl (by omega) A l.length c rfl rfl rfl hbb (fun cs y h => by obtain ⟨rfl, _⟩ := h; intro u hu; simp at hu; subst hu; rfl) (by omega) (by omega) ?_))
      intro A2 c2 w2 xss k1 k2 k3 k4 hc2
      have hb2 := byteV_copied k1 k2 k3 k4
      clear k1 k2 k3 k4
      have hsz2 := hc2.size
      go_wp2_with fail
      refine (decode_any w2.heap.size l A2 c2 w2 hb2 (Nat.le_refl _)).mono fun e w3 h => ?_
      obtain ⟨A3, c3, A4, c4, rfl, hc3, hm3⟩ := h.ans
      have hcost := decAns_cost (byteV_lt hb2)
      have HP := Lib.hid (show (placeOf n l bs.length : Int) = if (decAns l).2.2 = 0 ∧ n = 0 then (bs.length : Int) else ((decAns l).2.1 : Int) by unfold placeOf; split <;> rfl)
      clear h
      generalize hq : decAns l = q at *
      obtain ⟨m, z, y⟩ := q
      simp only at hm3 HP hcost ⊢
      have hcw := hc2.trans hc3
      clear hc2 hc3 hsz2
      have H3 := Lib.hid (And.intro (hm3.keep (chg_alloc w3 (.cells #[.slice A3 m.types.length c3, .slice A4 m.funcs.length c4] 25)) (fun _ _ _ => id)) (And.intro hcw hcost))
      have hbm := Blk.new w3 25 #[.slice A3 m.types.length c3, .slice A4 m.funcs.length c4]
      clear hb2 hm3 hcw hcost
      generalize ho3 : w3.alloc (.cells #[.slice A3 m.types.length c3, .slice A4 m.funcs.length c4] 25) = w4 at *
      have hc4 : Chg (fun _ _ => False) wr w4 := by subst ho3; exact H3.out.2.1.alloc _
      have hbl4 := hc4.blk HR.out.2.2.1 id
      have hcell4 := hbl4.cell n
      rw [HR.out.2.2.2.1] at hcell4
      go_wp2_with fail
      refine (inmodule_any B l A c w4 (SlR.keep hbb hc4 ⟨fun _ _ _ => id, fun h => absurd rfl h⟩ fun _ _ h => h) (Nat.le_trans hbw hc4.size)).mono fun e w5 h => ?_
      obtain ⟨A5, c5, A6, c6, rfl, hc5, hm5⟩ := h.ans
      clear h
      rw [hq] at hm5 ⊢
      simp only at hm5 ⊢
      have hbm5 := (hc5.blk hbm id).alloc (.cells #[.slice A5 m.types.length c5, .slice A6 m.funcs.length c6] 25)
      have hbn5 := Blk.new w5 25 #[.slice A5 m.types.length c5, .slice A6 m.funcs.length c6]
      have hch6 := chg_alloc w5 (.cells #[.slice A5 m.types.length c5, .slice A6 m.funcs.length c6] 25)
      have hm6 := (hm5.keep hch6 (fun _ _ _ => id)).more hch6.size
      have hm4 := ((H3.out.1.keep hc5 (fun _ _ _ => id)).keep hch6 (fun _ _ _ => id)).more (B' := (w5.alloc (.cells #[.slice A5 m.types.length c5, .slice A6 m.funcs.length c6] 25)).heap.size) (by
        have h1 : w3.heap.size ≤ w4.heap.size := by subst ho3; simp
        have := hc5.size
        have := hch6.size
        omega)
      have hc6 := (hc4.trans hc5).trans hch6
      have hcost := H3.out.2.2
      clear hbm hbl4 hcell4 hc4 hc5 hm5 hch6 ho3
      obtain ⟨d0, d1⟩ := hbm5.cells2
      obtain ⟨e0, e1⟩ := hbn5.cells2
      generalize w3.heap.size = g3 at d0 d1 hbm5 ⊢
      have H6 := Lib.hid (And.intro hc6 (And.intro hm4 (And.intro hm6 hcost)))
      clear H3 hm4 hm6 hcost hbm5 hbn5 hq hc6
      go_wp2_with fail
      refine (rsame_any _ _ _ _ m m H6.out.2.1 H6.out.2.2.1 H6.out.2.2.2 H6.out.2.2.2).mono fun e w7 h => ?_
      obtain ⟨rfl, hc7⟩ := h
      rw [sameMod_refl]
      have hc7 := H6.out.1.trans hc7
      clear H6 d0 d1 e0 e1
      have hrow := HR.out.1.keep hc7 (fun _ _ => id) fun _ _ h => h
      obtain ⟨xss, how, x2, x3, x4⟩ := hrow
      have htl : ((pls bs k).take n).length = n := by rw [List.length_take]; show min n 2 = n; omega
      rw [htl] at how
      have h07 : Chg (fun _ _ => False) w0 w7 := HR.out.2.1.trans hc7
      have hsz7 := h07.size
      have H7 := Lib.hid (And.intro x2 (And.intro x3 (And.intro x4 h07)))
      clear x2 x3 x4 h07 hc7
      by_cases hz : y = 0 ∧ n = 0
      · obtain ⟨rfl, rfl⟩ := hz
        rw [if_pos ⟨rfl, rfl⟩] at HP
        go_wp2_with (at_builtin; go_must (refine wpList_append_new rfl (.tmp 94) (.tmp 96) 36 rfl w0.heap.size 3 i3 _ 1 8 Try.underlying36 hi3 hz3 hs3 hb3 rfl (by omega) A1 _ c1 xss.flatten rfl how 1 1 [.int .i64 (bs.length : Int)] rfl (by first | rfl | simp) rfl (by intro u hu; simp at hu; subst hu; rfl) (by simp only [maxLen]; omega) (by omega) hsz7 ?_))
        intro A8 c8 w8 hap
        rw [← HP.out] at hap
        have H8 := Lib.hid (reads_step hn H7.out.1 H7.out.2.1 H7.out.2.2.1 H7.out.2.2.2 how HR.out.2.2.2.2.1 hap)
        clear hap how
        go_wp2
        go_roundw
        case rel => exact H8.out
        case measure => simp [intOf]
      · rw [if_neg hz] at HP
        have hap0 : ∀ A8 c8 w8, Apd (w7.alloc (.cells #[.int .i64 (z : Int)] 3)) w8 w0.heap.size 3 1 A1 A8 n c1 (n + 1) c8 (xss.flatten ++ [.int .i64 (z : Int)]) → readsRel w0.heap.size w0 bs k (.slice A8 (n + 1) c8) (.int .i64 ((n : Int) + 1)) w8 := by
          intro A8 c8 w8 hap
          rw [← HP.out] at hap
          exact reads_step hn H7.out.1 H7.out.2.1 H7.out.2.2.1 H7.out.2.2.2 how HR.out.2.2.2.2.1 hap
        have HAP := Lib.hid hap0
        clear hap0
        rcases (show y ≠ 0 ∨ (y = 0 ∧ n = 1) by omega) with hy | ⟨rfl, rfl⟩
        · have q3 : decide ((y : Int) = 0) = false := decide_eq_false (by omega)
          have q4 : IntKind.i64.wrap ((n : Int) + 1) = (n : Int) + 1 := IntWalk.i64_in _ ⟨by omega, by omega⟩
          go_wp2_with (at_builtin; go_must (refine wpList_append_new rfl (.tmp 94) (.tmp 96) 36 rfl w0.heap.size 3 i3 _ 1 8 Try.underlying36 hi3 hz3 hs3 hb3 rfl (by omega) A1 _ c1 xss.flatten rfl how 1 1 [.int .i64 (z : Int)] rfl (by first | rfl | simp) rfl (by intro u hu; simp at hu; subst hu; rfl) (by simp only [maxLen]; omega) (by omega) hsz7 ?_))
          intro A8 c8 w8 hap
          have H8 := Lib.hid (HAP.out _ _ _ hap)
          clear hap how
          go_wp2
          go_roundw
          case rel => exact H8.out
          case measure => simp [intOf]; omega
        · go_wp2_with (at_builtin; go_must (refine wpList_append_new rfl (.tmp 94) (.tmp 96) 36 rfl w0.heap.size 3 i3 _ 1 8 Try.underlying36 hi3 hz3 hs3 hb3 rfl (by omega) A1 _ c1 xss.flatten rfl how 1 1 [.int .i64 (z : Int)] rfl (by first | rfl | simp) rfl (by intro u hu; simp at hu; subst hu; rfl) (by simp only [maxLen]; omega) (by omega) hsz7 ?_))
          intro A8 c8 w8 hap
          have H8 := Lib.hid (HAP.out _ _ _ hap)
          clear hap how
          go_wp2
          go_roundw
          case rel => exact H8.out
          case measure => simp [intOf]
    · obtain rfl : n = 2 := by omega
      have hs := hrow.slr (by decide) 0
      rw [show (pls bs k).take 2 = pls bs k from rfl] at hs
      obtain ⟨b, o, x0, cs0, hA, hx0, _, rfl, hc0⟩ := SlR.at2 hs (show 0 < (pls bs k).length by show 0 < 2; decide)
      obtain ⟨b', o', x1, cs1, hA', hx1, _, rfl, hc1⟩ := SlR.at2 hs (show 1 < (pls bs k).length by show 1 < 2; decide)
      rw [hA] at hA'
      injection hA' with hA'; injection hA' with hb ho _
      subst hb ho hA
      have d0 := hc0 0 _ rfl
      have d1 := hc1 0 _ rfl
      have hle := place_le HL.out.2 HL.out.1
      injection hx0 with hx0
      injection hx1 with hx1
      subst hx0 hx1
      have q3 : decide (placeOf 1 (bs.take k) bs.length ≤ placeOf 0 bs bs.length) = true := decide_eq_true (by omega)
      simp only [Nat.zero_mul, Nat.one_mul, Nat.add_zero] at d0 d1
      have hch2 := HS.out.2.1.trans hch
      have HE := Lib.hid (hch2.drew.below (B := w.heap.size) (fun _ _ h => h.elim) (Nat.le_refl _))
      clear hs hrow hch hch2 hc0 hc1 hle
      go_wp2_with fail
      go_region
      go_wp2
      go_ret
      exact ⟨by simp only [q3]; rfl, HE.out⟩
end Go.Proofs.Ytfmhedpjkpaohaa
