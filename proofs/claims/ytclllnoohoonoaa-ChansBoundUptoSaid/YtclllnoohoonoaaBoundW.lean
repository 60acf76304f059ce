/-
  The walk of the statement ChansBound.
-/
import Derived.Test.YtclllnoohoonoaaGrown
namespace Go.Proofs.Ytclllnoohoonoaa
open Go.RowKit
set_option linter.unusedVariables false
set_option linter.unusedSimpArgs false

def mtRel (n : Nat) (w : World) (i : Value) (wr : World) : Prop := ∃ k : Nat, k ≤ n ∧ i = .int .i64 k ∧ wr = w
theorem CasesX.at0 {B : Nat} {w : World} {A : Option Addr} {n c k : Nat} {l : List CaseC} (h : CasesX B w (.slice A n c) l) (hk : k < l.length) : ∃ b o, A = some ⟨b, o, none⟩ ∧ I64 l[k].chan ∧ U64 l[k].val ∧
    w.cell? ⟨b, o + k * 3, none⟩ = some (.bool l[k].send) ∧ w.cell? ⟨b, o + k * 3 + 1, none⟩ = some (.int .i64 l[k].chan) ∧ w.cell? ⟨b, o + k * 3 + 2, none⟩ = some (.int .u64 l[k].val) := by
  obtain ⟨b, o, x, hA, hx, h1, h2, h3⟩ := h.at_ hk
  obtain ⟨_, rfl⟩ := List.getElem?_eq_some_iff.1 hx
  exact ⟨b, o, hA, h1, h2, h3⟩
set_option maxRecDepth 100000 in
set_option maxHeartbeats 4000000 in
theorem meets_no (w : World) (A : Option Addr) (c : Nat) (l : List WaitD) (hl : SlR 0 40 2 RWaitV w (.slice A l.length c) l) (hn : l.length ≤ 1099511627776) (hm : ∀ x ∈ l, x.cases.length ≤ 1099511627776) (i : Nat) (ch : Int)
    (hno : ∀ (j : Nat) x, l[j]? = some x → j ≠ i → ∀ y ∈ x.cases, y.chan = ch → y.send = true) : Calls Try.prog 12 #[.slice A l.length c, .int .i64 i, .int .i64 ch] w (HasRes false w) := by
  have HH := Lib.hid (And.intro hl (And.intro hm hno))
  clear hl hm hno
  go_enter Try.func12, Try.ntmps12
  go_wp2_with fail
  go_loopw [7] (fun i wr => mtRel l.length w i wr) (fun i _ => l.length - (intOf i).toNat)
  case atStart => exact ⟨0, Nat.zero_le _, rfl, rfl⟩
  case round =>
    obtain ⟨k, hkl, rfl, rfl⟩ := hrel
    by_cases hlt : k < l.length
    · obtain ⟨b, o, x, A5, c5, rfl, hkx, _, hcs, hz⟩ := LineR.at3 HH.out.1 hlt
      obtain ⟨z0, z1⟩ := hz _ _ (Chg.refl (fun _ _ => False) wr) fun _ => id
      have hnx := HH.out.2.1 x (List.mem_of_getElem? hkx)
      have HX := Lib.hid (And.intro hkx hcs)
      clear hkx hcs hz
      go_wp2_with fail
      go_loopw [8] (fun i wr' => mtRel x.cases.length wr i wr') (fun i _ => x.cases.length - (intOf i).toNat)
      case atStart => exact ⟨0, Nat.zero_le _, rfl, rfl⟩
      case round =>
        obtain ⟨j, hjl, rfl, rfl⟩ := hrel
        by_cases hltj : j < x.cases.length
        · obtain ⟨b2, o2, y, rfl, hjy, _, _, y0, y1, y2⟩ := HX.out.2.at_ hltj
          have hnoy := HH.out.2.2 k x HX.out.1
          have hjm := List.mem_of_getElem? hjy
          by_cases e1 : k = i
          · subst e1
            have e1' : ((k : Int) != (k : Int)) = false := by simp
            clear hjy hnoy hjm
            go_wp2_with fail
            go_roundw
            case rel => exact ⟨j + 1, hltj, by simp, rfl⟩
            case measure => simp [intOf]; omega
          · have e1' : ((k : Int) != (i : Int)) = true := by simp; omega
            by_cases e2 : y.chan = ch
            · have e2' : (y.chan == ch) = true := by simpa using e2
              have e3 := hnoy e1 y hjm e2
              rw [e3] at y0
              clear hjy hnoy hjm e1 e2 e3
              go_wp2_with fail
              go_roundw
              case rel => exact ⟨j + 1, hltj, by simp, rfl⟩
              case measure => simp [intOf]; omega
            · have e2' : (y.chan == ch) = false := by simpa using e2
              clear hjy hnoy hjm e1 e2
              go_wp2_with fail
              go_roundw
              case rel => exact ⟨j + 1, hltj, by simp, rfl⟩
              case measure => simp [intOf]; omega
        · obtain rfl : j = x.cases.length := by omega
          go_wp2_with fail
          go_roundw
          case rel => exact ⟨k + 1, hlt, by simp, rfl⟩
          case measure => simp [intOf]; omega
    · obtain rfl : k = l.length := by omega
      go_wp2_with fail
      go_ret
      exact ⟨rfl, rfl⟩
theorem far_at {l : List WaitD} (h : l.Pairwise farW) {i j : Nat} {a b : WaitD} (hi : l[i]? = some a) (hj : l[j]? = some b) (hij : i ≠ j) {x y : CaseC} (hx : x ∈ a.cases) (hy : y ∈ b.cases) (hc : x.chan = y.chan) (hz : x.chan ≠ 0) : x.send = y.send := by
  obtain ⟨hil, rfl⟩ := List.getElem?_eq_some_iff.1 hi
  obtain ⟨hjl, rfl⟩ := List.getElem?_eq_some_iff.1 hj
  rw [List.pairwise_iff_getElem] at h
  rcases Nat.lt_or_ge i j with hlt | hge
  · exact h i j hil hjl hlt x hx y hy hc hz
  · exact (h j i hjl hil (by omega) y hy x hx hc.symm (by rw [← hc]; exact hz)).symm
def cRel (n : Nat) (w : World) (i : Value) (wr : World) : Prop := ∃ k : Nat, k ≤ n ∧ i = .int .i64 k ∧ Chg (fun _ _ => False) w wr
set_option maxRecDepth 100000 in
set_option maxHeartbeats 16000000 in
theorem chansBound_walk (w : World) (A : Option Addr) (c : Nat) (l : List ActD) (hl : ActsA w.heap.size w (.slice A l.length c) l) (hn : l.length ≤ 1099511627776) (hm : ∀ a ∈ l, a.cases.length ≤ 1099511627776) :
    Calls Try.prog 3 #[.slice A l.length c] w fun e w' => e = .returned (.bool true) ∧ Below w.heap.size w w' := by
  have hgo := grownC_good hm l.length (Nat.le_refl _)
  rw [List.take_length] at hgo
  have HH := Lib.hid (And.intro hl (And.intro hm hgo))
  clear hl hm hgo
  go_enter Try.func3, Try.ntmps3
  go_wp2_with fail
  refine (grown_any w w.heap.size (Nat.le_refl _) A c l HH.out.1 hn HH.out.2.1).mono fun e w1 hh => ?_
  obtain ⟨p, q, rfl, h2, hc1⟩ := hh
  have hgo := HH.out.2.2
  generalize grownC l = H at h2 hgo
  have hsm := hgo.small hn (Nat.le_refl _)
  have H1 := Lib.hid (And.intro h2 (And.intro hc1 (And.intro hgo hsm)))
  have hnl := hsm.list
  have hnw := hsm.wait
  clear h2 hc1 hgo hsm
  go_wp2_with fail
  refine (hanswers_any w1).mono fun e w2 hh => ?_
  obtain ⟨rfl, hc2⟩ := hh
  have H2 := Lib.hid (And.intro (H1.out.1.same hc2) (H1.out.2.1.trans hc2.no))
  clear hc2
  go_wp2_with fail
  go_loopw [5] (fun i wr => alRel H.list.length w2 i wr) (fun i _ => H.list.length + 1 - (intOf i).toNat)
  case atStart => exact ⟨0, Nat.zero_le _, rfl, Chg.refl _ _⟩
  case round =>
    obtain ⟨k, hkl, rfl, hch⟩ := hrel
    obtain ⟨wo, rfl⟩ : ∃ wo : World, wo = wr := ⟨_, rfl⟩
    have h2 := H2.out.1.same hch
    obtain ⟨G, hG⟩ := h2.hub
    obtain ⟨F, B1, b1, B2, b2, B3, b3, B4, b4, hI⟩ := h2.ref
    obtain ⟨d0, d1, d2, d3⟩ := hI.blk.cells4
    have HR := Lib.hid (And.intro hch (And.intro h2 (And.intro hG hI)))
    by_cases hlt : k < H.list.length
    · obtain ⟨gs, ch, rfl, hsc, hkx, e0, _⟩ := SizesR.at_ hI.sizes hlt
      obtain ⟨gt, ch', rfl, htc, hkx', e2, _⟩ := ShutsR.at_ hI.shuts hlt
      obtain rfl : ch' = ch := by rw [hkx] at hkx'; injection hkx' with h; exact h.symm
      have hok := H1.out.2.2.1.ok k _ hkx
      have hbc : bufC H ((k : Int) + 1) = (ch'.buf, 0) := by
        unfold bufC
        rw [if_neg (by omega), show ((k : Int) + 1 - 1).toNat = k by omega, hkx]
      have hbl : ch'.buf.length ≤ 1024 := by omega
      have hkb : (k : Int) ≤ 1099511627776 := by omega
      have hk0 : (0 : Int) ≤ (k : Int) := by omega
      have hk1 : (k : Int) < (H.list.length : Int) := by omega
      have hw1 : IntKind.i64.wrap ((k : Int) + 1 - 1) = (k : Int) := by rw [show ((k : Int) + 1 - 1) = (k : Int) by omega]; exact IntWalk.i64_in _ (by omega)
      have q1 : decide ((k : Int) + 1 ≤ (H.list.length : Int)) = true := decide_eq_true (by omega)
      have q2 : decide (ch'.size < (ch'.buf.length : Int)) = false := decide_eq_false (by omega)
      have HE := Lib.hid (And.intro hbc (And.intro hbl hkx))
      clear hch h2 hG hI hkx hkx' hbc hok
      go_wp2_with fail
      refine (buffer_any _ G p H HR.out.2.2.1 H1.out.2.2.2 H1.out.2.2.1.ok ((k : Int) + 1)).mono fun e w3 hh => ?_
      rw [HE.out.1] at hh
      obtain ⟨A5, c5, rfl, _, _, hc3⟩ := hh
      have f0 := hc3.cell d0 fun _ => id
      have g0 := hc3.cell e0 fun _ => id
      have H3 := Lib.hid (And.intro (HR.out.1.trans hc3) (HR.out.2.2.2.keep hc3 (fun _ _ _ => id) fun _ => id))
      clear hc3 d0 d1 d2 d3 e0 e2
      simp only
      go_wp2_with fail
      clear f0 g0
      go_loopw [8] (fun i wr' => cRel H.wait.length w3 i wr') (fun i _ => H.wait.length - (intOf i).toNat)
      case atStart => exact ⟨0, Nat.zero_le _, rfl, Chg.refl _ _⟩
      case round =>
        obtain ⟨i, hil, rfl, hci⟩ := hrel
        obtain ⟨wi, rfl⟩ : ∃ wi : World, wi = wr := ⟨_, rfl⟩
        have hI4 := H3.out.2.keep hci (fun _ _ _ => id) fun _ => id
        obtain ⟨_, _, _, d3⟩ := hI4.blk.cells4
        by_cases hlti : i < H.wait.length
        · obtain ⟨b, o, x, A6, c6, rfl, hix, _, hcs, hz⟩ := LineR.at3 (hI4.line.slr (by decide) 0) hlti
          have hnx := H1.out.2.2.2.cases x (List.mem_of_getElem? hix)
          have HX := Lib.hid (And.intro hci (And.intro hix (And.intro hcs hz)))
          clear hci hix hcs hz hI4
          go_wp2_with fail
          clear d3
          go_loopw [9] (fun i wr' => cRel x.cases.length wi i wr') (fun i _ => x.cases.length - (intOf i).toNat)
          case atStart => exact ⟨0, Nat.zero_le _, rfl, Chg.refl _ _⟩
          case round =>
            obtain ⟨j, hjl, rfl, hcj⟩ := hrel
            obtain ⟨wj, rfl⟩ : ∃ wj : World, wj = wr := ⟨_, rfl⟩
            have hc5 := HX.out.1.trans hcj
            have hI5 := H3.out.2.keep hc5 (fun _ _ _ => id) fun _ => id
            obtain ⟨d0, d1, d2, d3⟩ := hI5.blk.cells4
            obtain ⟨z0, z1⟩ := HX.out.2.2.2 _ _ hcj fun _ => id
            by_cases hltj : j < x.cases.length
            · obtain ⟨bc, oc, y, rfl, hjy, _, _, y0, y1, y2⟩ := (HX.out.2.2.1.keep hcj (fun _ _ _ => id) fun _ => id).at_ hltj
              obtain ⟨gs', chs, hgs, _, hkx1, e0, _⟩ := SizesR.at_ hI5.sizes hlt
              obtain ⟨gt', cht, hgt, _, hkx2, e2, _⟩ := ShutsR.at_ hI5.shuts hlt
              injection hgs with hgs
              injection hgs with hgs
              injection hgt with hgt
              injection hgt with hgt
              subst hgs hgt
              obtain rfl : chs = ch' := by rw [HE.out.2.2] at hkx1; injection hkx1 with h; exact h.symm
              obtain rfl : cht = chs := by rw [HE.out.2.2] at hkx2; injection hkx2 with h; exact h.symm
              have hym := List.mem_of_getElem? hjy
              have hxm := List.mem_of_getElem? HX.out.2.1
              have HJ := Lib.hid (And.intro hc5 (And.intro hI5 (And.intro hym (And.intro hxm hcj))))
              have a0 := fun o => (chg_alloc wj o).cell d0 fun _ => id
              have a2 := fun o => (chg_alloc wj o).cell d2 fun _ => id
              have a3 := fun o => (chg_alloc wj o).cell d3 fun _ => id
              have u0 := fun o => (chg_alloc wj o).cell e0 fun _ => id
              have u2 := fun o => (chg_alloc wj o).cell e2 fun _ => id
              clear hc5 hI5 hjy hkx1 hkx2 hym hxm hcj
              by_cases hyc : y.chan = (k : Int) + 1
              · have hyc' : (y.chan != (k : Int) + 1) = false := by simpa using hyc
                obtain ⟨hsh, hrm⟩ := H1.out.2.2.1.at_ HE.out.2.2 HJ.out.2.2.2.1 HJ.out.2.2.1 hyc
                rw [hsh] at e2 u2
                have HY := Lib.hid hyc
                clear hyc hsh
                cases hsd : y.send
                · rw [hsd] at y0 hrm
                  have r1 : decide (0 < cht.buf.length) = false := hrm
                  clear hrm hsd
                  go_wp2_with fail
                  go_roundw
                  case rel => exact ⟨j + 1, hltj, by simp, HJ.out.2.2.2.2.alloc _⟩
                  case measure => simp [intOf]; omega
                · rw [hsd] at y0 hrm
                  have r1 : decide ((cht.buf.length : Int) < cht.size) = false := hrm
                  have HS := Lib.hid hsd
                  clear hrm hsd
                  go_wp2_with fail
                  refine (meets_no _ _ _ H.wait ((HJ.out.2.1.keep (chg_alloc wj _) (fun _ _ _ => id) fun _ => id).line.slr (by decide) 0) hnw H1.out.2.2.2.cases i ((k : Int) + 1) (fun i' x' hi' hne y' hy' hc' => by
                    have := far_at H1.out.2.2.1.far HX.out.2.1 hi' (Ne.symm hne) HJ.out.2.2.1 hy' (by rw [HY.out, hc']) (by rw [HY.out]; omega)
                    rw [← this]; exact HS.out)).mono fun e w6 hh => ?_
                  obtain ⟨rfl, rfl⟩ := hh
                  go_wp2_with fail
                  go_roundw
                  case rel => exact ⟨j + 1, hltj, by simp, HJ.out.2.2.2.2.alloc _⟩
                  case measure => simp [intOf]; omega
              · have hyc' : (y.chan != (k : Int) + 1) = true := by simpa using hyc
                clear hyc
                go_wp2_with fail
                go_roundw
                case rel => exact ⟨j + 1, hltj, by simp, HJ.out.2.2.2.2.alloc _⟩
                case measure => simp [intOf]; omega
            · obtain rfl : j = x.cases.length := by omega
              have HJ := Lib.hid hc5
              clear hcj hc5 hI5
              go_wp2_with fail
              go_roundw
              case rel => exact ⟨i + 1, hlti, by simp, HJ.out⟩
              case measure => simp [intOf]; omega
        · obtain rfl : i = H.wait.length := by omega
          have HJ := Lib.hid hci
          clear hci hI4
          go_wp2_with fail
          go_roundw
          case rel => exact ⟨k + 1, hlt, by simp, H3.out.1.trans HJ.out⟩
          case measure => simp [intOf]; omega
    · obtain rfl : k = H.list.length := by omega
      have q1 : decide ((H.list.length : Int) + 1 ≤ (H.list.length : Int)) = false := decide_eq_false (by omega)
      clear hch h2 hG hI d1 d2 d3
      go_wp2_with fail
      go_ret
      exact ⟨rfl, (H2.out.2.trans HR.out.1.no).below (fun b t h => h.1) (Nat.le_refl _)⟩
end Go.Proofs.Ytclllnoohoonoaa
