/-
  The walk of the statement VerifyKeeps.
-/
import Derived.Test.YtdegfnejhamejaaVKpNZk
namespace Go.Proofs.Ytdegfnejhamejaa
open Go.RowKit
set_option linter.unusedVariables false
set_option linter.unusedSimpArgs false

def SpM (N1 N2 N3 : Nat) (b t : Nat) : Prop := t = 3 ∧ ((N1 ≤ b ∧ b < N2) ∨ N3 ≤ b)
/-- What stays while the answers are spoilt. -/
def SpI (N1 N2 N3 : Nat) (Al : Option Addr) (cl : Nat) (L : List (List Int)) (Aa : Option Addr) (ca la : Nat) (Ab : Option Addr) (cb lb : Nat) (W wr : World) : Prop :=
  Chg (SpM N1 N2 N3) W wr ∧ RowR N1 31 1 (LkR N1 N2) wr Al cl L ∧ LenR N3 Aa ca la wr ∧ LenR N3 Ab cb lb wr
section
variable {N1 N2 N3 cl ca la cb lb : Nat} {Al Aa Ab : Option Addr} {L : List (List Int)} {W wr : World}
theorem SpI.set (H : SpI N1 N2 N3 Al cl L Aa ca la Ab cb lb W wr) {g j : Nat} {cs : Array Value} (hg : Blk wr g 3 cs) (hb : (N1 ≤ g ∧ g < N2) ∨ N3 ≤ g) : SpI N1 N2 N3 Al cl L Aa ca la Ab cb lb W (wr.setCell ⟨g, j, none⟩ (.int .i64 99)) := by
  obtain ⟨h1, h2, h3, h4⟩ := H
  have hs := chg_set (j := j) hg (.int .i64 99)
  have h99 : I64 99 := by unfold I64; omega
  exact ⟨h1.trans (hs.mono fun b t _ hm => ⟨hm.2, by rw [hm.1]; exact hb⟩), h2.keep1 hs (fun _ _ hm => absurd hm.2 (by decide)) fun _ _ h => h.set hg h99, h3.set hg h99, h4.set hg h99⟩
end
theorem row_max2 {n0 e size : Nat} {α : Type} {R : World → List Value → α → Prop} {A : Option Addr} {c : Nat} {w : World} {l : List α} (H : RowR n0 e size R w A c l) : l.length ≤ maxLen := by
  obtain ⟨xss, ⟨_, h⟩, _⟩ := H
  rcases h with ⟨_, h⟩ | ⟨g, cap, cur, _, _, _, h1, h2, _⟩
  · rw [h]; exact Nat.zero_le _
  · exact Nat.le_trans h1 h2
theorem LenR.max {n0 c n : Nat} {A : Option Addr} {w : World} (H : LenR n0 A c n w) : n ≤ maxLen := by
  obtain ⟨x, rfl, hx⟩ := H
  exact row_max2 hx
theorem StL.small {m : ModD} {fn : Int} {L : List (List Int)} {i : Nat} (h : StL m fn L) (hi : i < L.length) : L[i].length ≤ 64 := by
  unfold StL at h
  split at h
  · obtain ⟨f, h1, h2, h3⟩ := h
    have h4 := h3 i hi
    rw [List.getElem?_eq_getElem hi] at h4
    exact at_small h4
  · subst h
    cases hi
theorem wrap_next {i n : Nat} (h : n ≤ maxLen) (hi : i < n) : IntKind.i64.wrap ((i : Int) + 1) = (i : Int) + 1 := by
  simp only [maxLen] at h
  exact IntWalk.i64_in _ ⟨by omega, by omega⟩
theorem same_self2 (l : List Int) : sameL sameInt l l = true := by
  induction l with
  | nil => rfl
  | cons x l ih => simp [sameL, sameInt, ih]
def kpRel (n : Nat) (S : World → Prop) (i : Value) (wr : World) : Prop := ∃ k : Nat, k ≤ n ∧ i = .int .i64 k ∧ S wr
set_option maxRecDepth 100000 in
set_option maxHeartbeats 8000000 in
theorem verifyKeeps_walk (w : World) (B : Nat) (hBw : B ≤ w.heap.size) (v : Value) (m : ModD) (hm : ModR B w v m) (hcost : cMod m ≤ 1099511627776) (fn at_ : Int) :
    Calls Try.prog 5 #[v, .int .i64 fn, .int .i64 at_] w fun e w' => e = .returned (.bool true) ∧ Below w.heap.size w w' := by
  have hs := small_of_cost hcost
  obtain ⟨Am, cm, Am', cm', rfl, hT, hF⟩ := hm
  have hm0 : ModR B w (.agg #[.slice Am m.types.length cm, .slice Am' m.funcs.length cm']) m := ⟨Am, cm, Am', cm', rfl, hT, hF⟩
  clear hT hF
  have hb0 := Blk.new w 25 #[.slice Am m.types.length cm, .slice Am' m.funcs.length cm']
  have hc0 := chg_alloc w (.cells #[.slice Am m.types.length cm, .slice Am' m.funcs.length cm'] 25)
  have hm1 := hm0.keep hc0 (fun _ _ _ => id)
  obtain ⟨d0, d1⟩ := hb0.cells2
  have HV := Lib.hid (And.intro hBw (And.intro hm0 (And.intro hcost hs)))
  clear hm0 hs
  go_enter Try.func5, Try.ntmps5
  go_wp2_with fail
  refine (own_any _ B _ m (by simp; omega) hm1 hcost).mono fun e w1 h => ?_
  obtain ⟨v1, hv1, hmod⟩ := OwnRes.modR h
  obtain ⟨A4, c4, A5, c5, rfl, hb1, _, _⟩ := h
  injection hv1 with hv1
  subst hv1
  have hcb1 := Chg.of_below hb1 (fun _ _ => False)
  have hc1 := hc0.trans hcb1
  have hbk1 := hcb1.blk hb0 id
  have hca := chg_alloc w1 (.cells #[.slice A4 m.types.length c4, .slice A5 m.funcs.length c5] 25)
  have hbx := Blk.new w1 25 #[.slice A4 m.types.length c4, .slice A5 m.funcs.length c5]
  obtain ⟨a0, a1⟩ := hbx.cells2
  have H1 := Lib.hid (And.intro (hc1.trans hca) (And.intro (hca.blk hbk1 id) (And.intro hbx (And.intro (hmod.keep hca (fun _ _ _ => id)) hbk1.lt))))
  clear hb0 hc0 hm1 hb1 d0 d1 hBw hcost hmod hcb1 hc1 hbk1 hca hbx
  go_wp2_with fail
  generalize (w1.alloc (.cells #[.slice A4 m.types.length c4, .slice A5 m.funcs.length c5] 25)) = W1 at *
  generalize w1.heap.size = g7 at *
  refine (stacks_any W1 g7 _ m fn (Nat.le_of_lt H1.out.2.2.1.lt) H1.out.2.2.2.1 HV.out.2.2.1 HV.out.2.2.2).mono fun e w2 h => ?_
  obtain ⟨v2, rfl, hc2, ho2⟩ := h
  obtain ⟨L, Al, cl, rfl, hrl, hL, hL0⟩ := stk_form ho2
  have hbx2 := hc2.blk H1.out.2.2.1 id
  obtain ⟨b0, b1⟩ := hbx2.cells2
  have H2 := Lib.hid (And.intro hc2 (And.intro hbx2 (And.intro (lk_of hrl fun b hb => hb.1) (And.intro hL (And.intro hL0 (H1.out.2.2.2.1.keep hc2 (fun _ _ _ => id)))))))
  clear hc2 ho2 hrl hL hL0 hbx2 a0 a1
  go_wp2_with fail
  refine (stacks_any w2 g7 _ m fn (Nat.le_of_lt H2.out.2.1.lt) H2.out.2.2.2.2.2 HV.out.2.2.1 HV.out.2.2.2).mono fun e w3 h => ?_
  obtain ⟨v3, rfl, hc3, ho3⟩ := h
  obtain ⟨L', Ak, ck, rfl, hrk, hL', _⟩ := stk_form ho3
  obtain rfl : L = L' := StL.uniq H2.out.2.2.2.1 hL'
  have hbx3 := hc3.blk H2.out.2.1 id
  obtain ⟨a0, a1⟩ := hbx3.cells2
  have H3 := Lib.hid (And.intro hc3 (And.intro hbx3 (And.intro hrk (H2.out.2.2.2.2.2.keep hc3 (fun _ _ _ => id)))))
  clear hc3 ho3 hrk hL' hbx3 b0 b1
  go_wp2_with fail
  refine (takes_any w3 g7 _ m fn at_ (Nat.le_of_lt H3.out.2.1.lt) H3.out.2.2.2 HV.out.2.2.1 HV.out.2.2.2).mono fun e w4 h => ?_
  obtain ⟨va, vb, rfl, hc4, ho4⟩ := h
  obtain ⟨la, lb, Aa, ca, Ab, cb, rfl, rfl, hLa, hLb, hTL, hTL0⟩ := tk_form ho4
  have hbx4 := hc4.blk H3.out.2.1 id
  obtain ⟨b0, b1⟩ := hbx4.cells2
  have H4 := Lib.hid (And.intro hc4 (And.intro hbx4 (And.intro hLa (And.intro hLb (And.intro hTL (And.intro hTL0 (H3.out.2.2.2.keep hc4 (fun _ _ _ => id))))))))
  clear hc4 ho4 hLa hLb hTL hTL0 hbx4 a0 a1
  go_wp2_with fail
  refine (vans_any _).mono fun e w5 h => ?_
  obtain ⟨rfl, hc5⟩ := h
  have hbx5 := hc5.blk H4.out.2.1 id
  obtain ⟨a0, a1⟩ := hbx5.cells2
  have hc05 := H1.out.1.trans (H2.out.1.trans (H3.out.1.trans (H4.out.1.trans hc5)))
  have hbm5 := (H2.out.1.trans (H3.out.1.trans (H4.out.1.trans hc5))).blk H1.out.2.1 id
  obtain ⟨d0, d1⟩ := hbm5.cells2
  have hmi5 := H4.out.2.2.2.2.2.2.keep hc5 (fun _ _ _ => id)
  have hmm5 := (HV.out.2.1.keep hc05 (fun _ _ _ => id)).more (show B ≤ g7 from Nat.le_trans HV.out.1 (Nat.le_of_lt H1.out.2.2.2.2))
  have hsame := rsame_any w5 g7 (.agg #[.slice A4 m.types.length c4, .slice A5 m.funcs.length c5]) (.agg #[.slice Am m.types.length cm, .slice Am' m.funcs.length cm']) m m hmi5 hmm5 HV.out.2.2.1 HV.out.2.2.1
  rw [sameMod_refl] at hsame
  have H5 := Lib.hid (And.intro hc5 (And.intro hc05 (And.intro hbx5 (And.intro hbm5 hmi5))))
  clear hc5 hbx5 hc05 hbm5 hmi5 hmm5 b0 b1
  have q1 : ((L.length : Int) != (L.length : Int)) = false := by simp
  go_wp2_with fail
  refine hsame.mono fun e w6 h => ?_
  obtain ⟨rfl, hc6⟩ := h
  have hn2 : W1.heap.size ≤ w2.heap.size := H2.out.1.size
  have hn3 : w2.heap.size ≤ w3.heap.size := H3.out.1.size
  have hg7 : g7 < W1.heap.size := H1.out.2.2.1.lt
  have hc46 := H5.out.1.trans hc6
  have hc36 := H4.out.1.trans hc46
  have hc26 := H3.out.1.trans hc36
  have hRK := H3.out.2.2.1.keep1 hc36 (fun _ _ => id) fun _ _ h => h.keep hc36 fun _ _ => id
  have hSP : SpI W1.heap.size w2.heap.size w3.heap.size Al cl L Aa ca la Ab cb lb w6 w6 := ⟨Chg.refl _ _, H2.out.2.2.1.keep1 hc26 (fun _ _ => id) fun _ _ h => h.keep hc26 fun _ _ _ => id, H4.out.2.2.1.keep hc46 fun _ _ => id, H4.out.2.2.2.1.keep hc46 fun _ _ => id⟩
  have H6 := Lib.hid (And.intro (H5.out.2.1.trans hc6) (And.intro (hc6.blk H5.out.2.2.1 id) (And.intro (hc6.blk H5.out.2.2.2.1 id) (And.intro (H5.out.2.2.2.2.keep hc6 (fun _ _ _ => id)) (And.intro hRK (And.intro hSP (And.intro hg7 (And.intro hn2 hn3))))))))
  clear hc6 hc46 hc36 hc26 hRK hSP hsame hg7 hn2 hn3 a0 a1 d0 d1
  go_wp2_with fail
  go_loopw [15] (fun i wr => kpRel L.length (SpI W1.heap.size w2.heap.size w3.heap.size Al cl L Aa ca la Ab cb lb w6) i wr) (fun i _ => L.length - (intOf i).toNat)
  case atStart => exact ⟨0, Nat.zero_le _, rfl, H6.out.2.2.2.2.2.1⟩
  case round =>
    obtain ⟨i, hi, rfl, hsp⟩ := hrel
    have hmx := row_max2 hsp.2.1
    by_cases hlt : i < L.length
    · have q2 : (i : Int) < (L.length : Int) := by omega
      have q3 := wrap_next hmx hlt
      obtain ⟨ni, hni⟩ : ∃ n, n = (L[i]).length := ⟨_, rfl⟩
      have HS := Lib.hid hsp
      have HNI := Lib.hid hni
      obtain ⟨b, o, _, _, _, rfl, _, _, _⟩ := lk_at hsp.2.1 hlt
      clear hsp hmx hni
      go_wp2_with fail
      go_loopw [16] (fun i wr => kpRel ni (SpI W1.heap.size w2.heap.size w3.heap.size (some ⟨b, o, none⟩) cl L Aa ca la Ab cb lb w6) i wr) (fun i _ => ni - (intOf i).toNat)
      case atStart => exact ⟨0, Nat.zero_le _, rfl, HS.out⟩
      case round =>
        obtain ⟨j, hj, rfl, hsp⟩ := hrel
        obtain ⟨b', o', Ai, ci, n1, hA, k1, k2, k3⟩ := lk_at hsp.2.1 hlt
        injection hA with hA
        injection hA with hA1 hA2
        subst hA1 hA2
        rw [← HNI.out] at k1 k2 k3
        have hmj := k2.max
        by_cases hjl : j < ni
        · have q5 : (j : Int) < (ni : Int) := by omega
          have q4 := wrap_next hmj hjl
          obtain ⟨g, cs, y, rfl, kb, kc, ko⟩ := k2.at_ hjl
          have kf := kb.frozen j
          have HN := Lib.hid (hsp.set (j := j) kb (.inl (k3 g ko)))
          clear hsp k2 k3 kb ko hmj
          go_wp2_with fail
          go_roundw
          case rel => exact ⟨j + 1, hjl, by simp, HN.out⟩
          case measure => simp [intOf]; omega
        · have q6 : decide (j < ni) = false := decide_eq_false hjl
          have HN := Lib.hid hsp
          clear hsp k2 k3 hmj
          go_wp2_with fail
          go_roundw
          case rel => exact ⟨i + 1, hlt, by simp, HN.out⟩
          case measure => simp [intOf]; omega
    · have q6 : decide (i < L.length) = false := decide_eq_false hlt
      have HS := Lib.hid hsp
      clear hsp hmx
      go_wp2_with fail
      go_loopw [17] (fun i wr => kpRel la (SpI W1.heap.size w2.heap.size w3.heap.size Al cl L Aa ca la Ab cb lb w6) i wr) (fun i _ => la - (intOf i).toNat)
      case atStart => exact ⟨0, Nat.zero_le _, rfl, HS.out⟩
      case round =>
        obtain ⟨i, hi, rfl, hsp⟩ := hrel
        have hmx := LenR.max hsp.2.2.1
        by_cases hlt : i < la
        · have q2 : (i : Int) < (la : Int) := by omega
          have q3 := wrap_next hmx hlt
          obtain ⟨g, cs, y, rfl, kb, kc, ko⟩ := hsp.2.2.1.at_ hlt
          have kf := kb.frozen i
          have HN := Lib.hid (hsp.set (j := i) kb (.inr (hsp.2.2.1.own ko).1))
          clear hsp kb ko hmx
          go_wp2_with fail
          go_roundw
          case rel => exact ⟨i + 1, hlt, by simp, HN.out⟩
          case measure => simp [intOf]; omega
        · have q6 : decide (i < la) = false := decide_eq_false hlt
          have HS := Lib.hid hsp
          clear hsp hmx
          go_wp2_with fail
          go_loopw [18] (fun i wr => kpRel lb (SpI W1.heap.size w2.heap.size w3.heap.size Al cl L Aa ca la Ab cb lb w6) i wr) (fun i _ => lb - (intOf i).toNat)
          case atStart => exact ⟨0, Nat.zero_le _, rfl, HS.out⟩
          case round =>
            obtain ⟨i, hi, rfl, hsp⟩ := hrel
            have hmx := LenR.max hsp.2.2.2
            by_cases hlt : i < lb
            · have q2 : (i : Int) < (lb : Int) := by omega
              have q3 := wrap_next hmx hlt
              obtain ⟨g, cs, y, rfl, kb, kc, ko⟩ := hsp.2.2.2.at_ hlt
              have kf := kb.frozen i
              have HN := Lib.hid (hsp.set (j := i) kb (.inr (hsp.2.2.2.own ko).1))
              clear hsp kb ko hmx
              go_wp2_with fail
              go_roundw
              case rel => exact ⟨i + 1, hlt, by simp, HN.out⟩
              case measure => simp [intOf]; omega
            · have q6 : decide (i < lb) = false := decide_eq_false hlt
              have HS := Lib.hid hsp
              clear hsp hmx
              skip
              have hcz := HS.out.1
              have hnum := H6.out.2.2.2.2.2.2
              have hMi : ModR g7 wr (.agg #[.slice A4 m.types.length c4, .slice A5 m.funcs.length c5]) m := H6.out.2.2.2.1.keep hcz (fun b t hb hm => by rcases hm.2 with h | h <;> omega)
              have hbx := hcz.blk H6.out.2.1 (fun hm => absurd hm.1 (by decide))
              have hbm := hcz.blk H6.out.2.2.1 (fun hm => absurd hm.1 (by decide))
              have hRK := H6.out.2.2.2.2.1.keep1 hcz (fun _ _ hm => absurd hm.1 (by decide)) fun _ _ h => h.keep hcz fun b hb hm => by rcases hm.2 with h | h <;> omega
              obtain ⟨a0, a1⟩ := hbx.cells2
              have H7 := Lib.hid (And.intro hcz (And.intro hMi (And.intro hbx (And.intro hbm hRK))))
              clear hcz hMi hbx hbm hRK hnum
              go_wp2_with fail
              refine (takes_any wr g7 _ m fn at_ (Nat.le_of_lt H7.out.2.2.1.lt) H7.out.2.1 HV.out.2.2.1 HV.out.2.2.2).mono fun e w7 h => ?_
              obtain ⟨va, vb, rfl, hc7, ho7⟩ := h
              obtain ⟨la', lb', Ax, cx, Ay, cy, rfl, rfl, _, _, hT7, _⟩ := tk_form ho7
              obtain ⟨e1, e2⟩ := TkL.uniq H4.out.2.2.2.2.1 hT7
              subst e1 e2
              have hbx7 := hc7.blk H7.out.2.2.1 id
              obtain ⟨b0, b1⟩ := hbx7.cells2
              have H8 := Lib.hid (And.intro hc7 (And.intro hbx7 (H7.out.2.1.keep hc7 (fun _ _ _ => id))))
              clear hc7 ho7 hT7 hbx7 a0 a1
              go_wp2_with fail
              refine (stacks_any w7 g7 _ m fn (Nat.le_of_lt H8.out.2.1.lt) H8.out.2.2 HV.out.2.2.1 HV.out.2.2.2).mono fun e w8 h => ?_
              obtain ⟨v8, rfl, hc8, ho8⟩ := h
              obtain ⟨L', An, cn, rfl, hrn, hL', _⟩ := stk_form ho8
              obtain rfl : L = L' := StL.uniq H2.out.2.2.2.1 hL'
              have hc78 := H8.out.1.trans hc8
              have H9 := Lib.hid (And.intro hc78 (And.intro (hc78.blk H7.out.2.2.1 id) (And.intro (hc78.blk H7.out.2.2.2.1 id) (And.intro (H7.out.2.1.keep hc78 (fun _ _ _ => id)) (And.intro (H7.out.2.2.2.2.keep1 hc78 (fun _ _ => id) fun _ _ h => h.keep hc78 fun _ _ => id) hrn)))))
              clear hc8 ho8 hL' hrn hc78 b0 b1
              go_wp2_with fail
              go_loopw [24] (fun i wr => kpRel L.length (fun wr => Chg (fun _ _ => False) w8 wr) i wr) (fun i _ => L.length - (intOf i).toNat)
              case atStart => exact ⟨0, Nat.zero_le _, rfl, Chg.refl _ _⟩
              case round =>
                obtain ⟨i, hi, rfl, hch⟩ := hrel
                have hmx := row_max2 H9.out.2.2.2.2.2
                by_cases hlt : i < L.length
                · have q2 : (i : Int) < (L.length : Int) := by omega
                  have q3 := wrap_next hmx hlt
                  have hdr := (Chg.refl (fun _ _ => False) wr).drew
                  have hcd := hch.trans hdr
                  obtain ⟨x1, o1, A1, c1, rfl, k1, k2⟩ := st_at (H9.out.2.2.2.2.1.keep1 hcd (fun _ _ => id) fun _ _ h => h.keep hcd fun _ _ => id) hlt
                  obtain ⟨x2, o2, A2, c2, rfl, n1, n2⟩ := st_at (H9.out.2.2.2.2.2.keep1 hcd (fun _ _ => id) fun _ _ h => h.keep hcd fun _ _ => id) hlt
                  have k1 : wr.cell? ⟨x1, o1 + i, none⟩ = some (.slice A1 L[i].length c1) := k1
                  have n1 : wr.cell? ⟨x2, o2 + i, none⟩ = some (.slice A2 L[i].length c2) := n1
                  have hmi : L[i].length ≤ 1099511627776 := Nat.le_trans (H2.out.2.2.2.1.small hlt) (by omega)
                  have hsm := rInts_any wr.drew wr.drew.heap.size A1 A2 L[i].length c1 L[i].length c2 L[i] L[i] k2 n2 hmi hmi
                  rw [same_self2] at hsm
                  obtain ⟨ni, hni⟩ : ∃ n, n = (L[i]).length := ⟨_, rfl⟩
                  rw [← hni] at k1 n1 hsm
                  have HC := Lib.hid (And.intro hch hcd)
                  clear k2 n2 hmi hni hch hcd hmx
                  go_wp2_with fail
                  refine wp_region_G (S := (fun w' => Chg (fun _ _ => False) wr w')) 9 (by kernel_rfl) (Chg.refl _ _).drew (fun hHeld => ?_)
                  refine wpAnyG_take (i := 0) (v := ?va1) rfl (by kernel_rfl) (fun _ _ _ h => h) (Or.inl ⟨by kernel_rfl, ?hy1⟩) (by assumption) ?ra1
                  case hy1 => (intro w hSw; (try dsimp only at hSw); have k1 := hSw.cell k1 (fun _ => id); have n1 := hSw.cell n1 (fun _ => id); clear hSw; go_simp; all_goals (with_reducible rfl))
                  simp only [Act.put, List.setIfInBounds_toArray, List.set_cons_zero, List.set_cons_succ]
                  refine wpAnyG_take (i := 1) (v := ?va2) rfl (by kernel_rfl) (fun _ _ _ h => h) (Or.inl ⟨by kernel_rfl, ?hy2⟩) (by assumption) ?ra2
                  case hy2 => (intro w hSw; (try dsimp only at hSw); have k1 := hSw.cell k1 (fun _ => id); have n1 := hSw.cell n1 (fun _ => id); clear hSw; go_simp; all_goals (with_reducible rfl))
                  simp only [Act.put, List.setIfInBounds_toArray, List.set_cons_zero, List.set_cons_succ]
                  refine wpAnyG_take (i := 2) (v := ?va3) rfl (by kernel_rfl) (fun _ _ _ h => h) (Or.inl ⟨by kernel_rfl, ?hy3⟩) (by assumption) ?ra3
                  case hy3 => (intro w hSw; (try dsimp only at hSw); have k1 := hSw.cell k1 (fun _ => id); have n1 := hSw.cell n1 (fun _ => id); clear hSw; go_simp; all_goals (with_reducible rfl))
                  simp only [Act.put, List.setIfInBounds_toArray, List.set_cons_zero, List.set_cons_succ]
                  refine wpAnyG_take (i := 3) (v := ?va4) rfl (by kernel_rfl) (fun _ _ _ h => h) (Or.inl ⟨by kernel_rfl, ?hy4⟩) (by assumption) ?ra4
                  case hy4 => (intro w hSw; (try dsimp only at hSw); have k1 := hSw.cell k1 (fun _ => id); have n1 := hSw.cell n1 (fun _ => id); clear hSw; go_simp; all_goals (with_reducible rfl))
                  simp only [Act.put, List.setIfInBounds_toArray, List.set_cons_zero, List.set_cons_succ]
                  refine wpAnyG_take (i := 4) (v := ?va5) rfl (by kernel_rfl) (fun _ _ _ h => h) (Or.inl ⟨by kernel_rfl, ?hy5⟩) (by assumption) ?ra5
                  case hy5 => (intro w hSw; (try dsimp only at hSw); have k1 := hSw.cell k1 (fun _ => id); have n1 := hSw.cell n1 (fun _ => id); clear hSw; go_simp; all_goals (with_reducible rfl))
                  simp only [Act.put, List.setIfInBounds_toArray, List.set_cons_zero, List.set_cons_succ]
                  refine wpAnyG_take (i := 5) (v := ?va6) rfl (by kernel_rfl) (fun _ _ _ h => h) (Or.inl ⟨by kernel_rfl, ?hy6⟩) (by assumption) ?ra6
                  case hy6 => (intro w hSw; (try dsimp only at hSw); have k1 := hSw.cell k1 (fun _ => id); have n1 := hSw.cell n1 (fun _ => id); clear hSw; go_simp; all_goals (with_reducible rfl))
                  simp only [Act.put, List.setIfInBounds_toArray, List.set_cons_zero, List.set_cons_succ]
                  refine wpAnyG_take (i := 6) (v := ?va7) rfl (by kernel_rfl) (fun _ _ _ h => h) (Or.inl ⟨by kernel_rfl, ?hy7⟩) (by assumption) ?ra7
                  case hy7 => (intro w hSw; (try dsimp only at hSw); have k1 := hSw.cell k1 (fun _ => id); have n1 := hSw.cell n1 (fun _ => id); clear hSw; go_simp; all_goals (with_reducible rfl))
                  simp only [Act.put, List.setIfInBounds_toArray, List.set_cons_zero, List.set_cons_succ]
                  refine wpAnyG_take (i := 7) (v := ?va8) rfl (by kernel_rfl) (fun _ _ _ h => h) (Or.inl ⟨by kernel_rfl, ?hy8⟩) (by assumption) ?ra8
                  case hy8 => (intro w hSw; (try dsimp only at hSw); have k1 := hSw.cell k1 (fun _ => id); have n1 := hSw.cell n1 (fun _ => id); clear hSw; go_simp; all_goals (with_reducible rfl))
                  simp only [Act.put, List.setIfInBounds_toArray, List.set_cons_zero, List.set_cons_succ]
                  refine wpAnyG_ready (rs := [8]) (by kernel_rfl) (by simp) ?_
                  refine AllReadyG.cons rfl (fun K hK => ?_) AllReadyG.nil
                  go_simp
                  go_at_call 15
                  refine hsm.mono ?_
                  rintro e wA ⟨rfl, qm, rfl⟩
                  refine hK.out _ _ (hHeld.trans (chg_drewN wr.drew qm)) (fun hHeld => ?_)
                  clear hK K hsm
                  try simp only [Act.put, List.setIfInBounds_toArray, List.set_cons_zero, List.set_cons_succ]
                  refine wpAnyG_last rfl (by kernel_rfl) (by kernel_rfl) (fun K hK => ?_)
                  go_simp
                  refine hK.out _ _ ?_
                  clear hK K
                  try simp only [Act.put, List.setIfInBounds_toArray, List.set_cons_zero, List.set_cons_succ]
                  have HN := Lib.hid (HC.out.1.trans (chg_drewN wr (1 + qm)))
                  clear hHeld
                  go_wp2_with fail
                  go_roundw
                  case rel => exact ⟨i + 1, hlt, by simp, HN.out⟩
                  case measure => simp [intOf]; omega
                · have q6 : decide (i < L.length) = false := decide_eq_false hlt
                  have hbx := hch.blk H9.out.2.1 id
                  have hbm := hch.blk H9.out.2.2.1 id
                  obtain ⟨a0, a1⟩ := hbx.cells2
                  obtain ⟨d0, d1⟩ := hbm.cells2
                  have hge : ∀ b t, SpM W1.heap.size w2.heap.size w3.heap.size b t → w.heap.size ≤ b := fun b t hm => by have h1 := H1.out.2.2.2.2; have h2 := H6.out.2.2.2.2.2.2; rcases hm.2 with h | h <;> omega
                  have hall : Chg (fun b _ => w.heap.size ≤ b) w wr := ((H6.out.1.mono (M' := fun b _ => w.heap.size ≤ b) fun _ _ _ h => h.elim).trans (H7.out.1.mono fun b t _ hm => hge b t hm)).trans ((H9.out.1.trans hch).mono fun _ _ _ h => h.elim)
                  have hmm := (HV.out.2.1.keep hall (fun b _ hb h => by have := HV.out.1; omega)).more (show B ≤ g7 from Nat.le_trans HV.out.1 (Nat.le_of_lt H1.out.2.2.2.2))
                  have hsame := rsame_any wr g7 (.agg #[.slice A4 m.types.length c4, .slice A5 m.funcs.length c5]) (.agg #[.slice Am m.types.length cm, .slice Am' m.funcs.length cm']) m m (H9.out.2.2.2.1.keep hch (fun _ _ _ => id)) hmm HV.out.2.2.1 HV.out.2.2.1
                  rw [sameMod_refl] at hsame
                  have HA := Lib.hid hall
                  clear hbx hbm hge hall hmm hch hmx
                  go_wp2_with fail
                  refine hsame.mono fun e wE h => ?_
                  obtain ⟨rfl, hcE⟩ := h
                  have HZ := Lib.hid ((HA.out.trans (hcE.mono fun _ _ _ h => h.elim)).below (B := w.heap.size) (fun _ _ h => h) (Nat.le_refl _))
                  clear hcE hsame
                  cases he : (headE m fn == 0)
                  · have hL0 : ((L.length : Int) == 0) = true := by rw [H2.out.2.2.2.2.1 (by simpa using he)]; rfl
                    cases hf : (takeE m fn at_ == 0)
                    · have hT0 : ((la : Int) == 0) = true := by rw [H4.out.2.2.2.2.2.1 (by simpa using hf)]; rfl
                      go_wp2_with fail
                      go_ret
                      exact ⟨rfl, HZ.out⟩
                    · go_wp2_with fail
                      go_ret
                      exact ⟨rfl, HZ.out⟩
                  · cases hf : (takeE m fn at_ == 0)
                    · have hT0 : ((la : Int) == 0) = true := by rw [H4.out.2.2.2.2.2.1 (by simpa using hf)]; rfl
                      go_wp2_with fail
                      go_ret
                      exact ⟨rfl, HZ.out⟩
                    · go_wp2_with fail
                      go_ret
                      exact ⟨rfl, HZ.out⟩
end Go.Proofs.Ytdegfnejhamejaa

