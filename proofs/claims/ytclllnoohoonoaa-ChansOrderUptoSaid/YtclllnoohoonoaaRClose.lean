/-
  The reference: a channel is shut (Close).
-/
import Derived.Test.YtclllnoohoonoaaRReady
import Derived.Test.YtclllnoohoonoaaShut
namespace Go.Proofs.Ytclllnoohoonoaa
open Go.RowKit
set_option linter.unusedVariables false
set_option linter.unusedSimpArgs false

theorem RowR.set_same {α : Type} {base e size : Nat} {R : World → List Value → α → Prop} {w : World} {A : Option Addr} {c k : Nat} {l : List α} {x x' : α} (h : RowR base e size R w A c l) (hx : l[k]? = some x) (hR : ∀ cs, R w cs x → R w cs x') : RowR base e size R w A c (l.set k x') := by
  obtain ⟨xss, h1, h2, h3, h4⟩ := h
  refine ⟨xss, by simpa using h1, by simpa using h2, h3, fun i y cs hy hcs => ?_⟩
  rw [List.getElem?_set] at hy
  split at hy
  · rename_i hki
    subst hki
    split at hy
    · injection hy with hy
      subst hy
      exact hR cs (h4 k x cs hx hcs)
    · cases hy
  · exact h4 i y cs hy hcs
theorem RowR.set1 {α : Type} {e : TypeId} {R : World → List Value → α → Prop} {w : World} {g c k : Nat} {l : List α} {x' : α} {u : Value} (h : RowR 0 e 1 R w (some ⟨g, 0, none⟩) c l) (hk : k < l.length) (hR : ∀ cs y, R w cs y → R (w.setCell ⟨g, k, none⟩ u) cs y) (hx : R (w.setCell ⟨g, k, none⟩ u) [u] x') : RowR 0 e 1 R (w.setCell ⟨g, k, none⟩ u) (some ⟨g, 0, none⟩) c (l.set k x') := by
  obtain ⟨xss, h1, h2, h3, h4⟩ := h
  have how := own_set (i := k * 1 + 0) h1 u
  rw [set_flat xss h3 k 0 u (by omega)] at how
  rw [Nat.mul_one, Nat.add_zero] at how
  have hkx : k < xss.length := by omega
  refine ⟨xss.modify k fun cs => cs.set 0 u, by simpa using how, by simp [h2], ?_, ?_⟩
  · intro cs hcs
    obtain ⟨i, hi⟩ := List.getElem?_of_mem hcs
    rw [List.getElem?_modify] at hi
    cases hxi : xss[i]? with
    | none => rw [hxi] at hi; simp at hi
    | some d =>
      rw [hxi] at hi
      have hd := h3 d (List.mem_of_getElem? hxi)
      by_cases hki : k = i
      · simp [hki] at hi; rw [← hi]; simpa using hd
      · simp [hki] at hi; rw [← hi]; exact hd
  · intro i y cs hy hcs
    rw [List.getElem?_modify] at hcs
    rw [List.getElem?_set] at hy
    by_cases hki : k = i
    · subst hki
      rw [if_pos rfl, if_pos hk] at hy
      injection hy with hy
      subst hy
      cases hxi : xss[k]? with
      | none => rw [hxi] at hcs; simp at hcs
      | some d =>
        rw [hxi] at hcs
        have hd := h3 d (List.mem_of_getElem? hxi)
        simp at hcs
        match d, hd with
        | [d0], _ =>
          simp at hcs
          rw [← hcs]
          exact hx
    · rw [if_neg hki] at hy
      cases hxi : xss[i]? with
      | none => rw [hxi] at hcs; simp at hcs
      | some d =>
        rw [hxi] at hcs
        simp [hki] at hcs
        rw [← hcs]
        exact hR d y (h4 i y d hy hxi)
theorem HubF.setShut {F : Nat → Prop} {w : World} {A1 A2 A4 : Option Addr} {c1 c2 c3 c4 p gt k : Nat} {H : HubD} {ch : ChanD} (hI : HubF F w p A1 c1 A2 c2 (some ⟨gt, 0, none⟩) c3 A4 c4 H) (hk : H.list[k]? = some ch) :
    HubF F (w.setCell ⟨gt, k, none⟩ (.bool true)) p A1 c1 A2 c2 (some ⟨gt, 0, none⟩) c3 A4 c4 (setCh H k { ch with shut := true }) ∧ Chg (MR F) w (w.setCell ⟨gt, k, none⟩ (.bool true)) := by
  have hkl : k < H.list.length := (List.getElem?_eq_some_iff.1 hk).1
  obtain ⟨g, cs, hA, _, _, _, ⟨cur, hb⟩, _⟩ := own_at hI.shuts.choose_spec.1 hI.shuts.choose_spec.2.1 hI.shuts.choose_spec.2.2.1 hkl
  injection hA with hA
  injection hA with hA
  subst hA
  have hs := chg_set (j := k) hb (.bool true)
  refine ⟨⟨?_, ?_, ?_, ?_, ?_, ?_, ?_, ?_, hI.own4, hI.own, fun b hb => by simpa [World.setCell] using hI.lt b hb⟩, hs.mono fun b t _ h => ⟨by rw [h.1]; exact hI.own3 gt rfl, .inr (.inr (.inr (.inl h.2)))⟩⟩
  · have := hs.blk hI.blk fun h => absurd h.2 (by decide)
    simpa [setCh] using this
  · exact (RowR.set_same (x' := { ch with shut := true }) hI.sizes hk fun cs h => h).keep1 hs (fun b hb h => absurd h.2 (by decide)) fun _ _ h => h
  · exact (RowR.set_same (x' := { ch with shut := true }) hI.bufs hk fun cs h => h).keep1 hs (fun b hb h => absurd h.2 (by decide)) fun _ _ h => h.keep hs fun b hb h => absurd h.2 (by decide)
  · exact hI.shuts.set1 hkl (fun _ _ h => h) rfl
  · exact hI.line.keep1 hs (fun b hb h => absurd h.2 (by decide)) fun _ _ h => h.keep hs fun b h => absurd h.2 (by decide)
  · intro b hb; exact hI.own1 b (by simpa [setCh] using hb)
  · intro b hb; exact hI.own2 b (by simpa [setCh] using hb)
  · intro b hb; exact hI.own3 b (by simpa [setCh] using hb)
def RSrvsT (w : World) (v : Value) (l : List SrvD) : Prop := SlR 0 105 4 SrvV w v l
theorem RSrvsT.nil (w : World) (c : Nat) : RSrvsT w (.slice none 0 c) [] := SlR.nil _ _ _ _ _ _ _
theorem RSrvsT.keep {M : Nat → Nat → Prop} {w w' : World} {v : Value} {l : List SrvD} (h : RSrvsT w v l) (hc : Chg M w w') (hm : ∀ b, ¬ M b 105) : RSrvsT w' v l := SlR.keep h hc ⟨fun b _ hb => absurd hb (Nat.not_lt_zero _), fun _ => hm⟩ fun _ _ h => h
def CloseRes (r : List SrvD × Int) (F : Nat → Prop) (p : Nat) (H' : HubD) (w : World) (e : Ending) (w' : World) : Prop := ∃ v, e = .returned (.tuple #[v, .int .i64 r.2]) ∧ RSrvsT w' v r.1 ∧ HubQ F w w' p H'
/-- The first case at a channel, from the m-th on; -1: none. -/
def lastAt (c : Int) (l : List CaseC) (m : Nat) : Int := match anyAt c (l.drop m) with
  | none => -1
  | some q => ((q + m : Nat) : Int)
theorem lastAt_step {c : Int} {l : List CaseC} {m : Nat} {x : CaseC} (hx : l[m]? = some x) : lastAt c l m = if x.chan = c then (m : Int) else lastAt c l (m + 1) := by
  obtain ⟨h1, h2⟩ := List.getElem?_eq_some_iff.1 hx
  unfold lastAt
  rw [List.drop_eq_getElem_cons h1, h2, anyAt]
  by_cases h : x.chan = c
  · simp [h]
  · rw [if_neg h, if_neg h]
    cases anyAt c (l.drop (m + 1)) with
    | none => rfl
    | some q => simp; omega
def lastRel (c : Int) (w : World) (l : List CaseC) (a i : Value) (wr : World) : Prop := ∃ (m : Nat) (z : Int), m ≤ l.length ∧ i = .int .i64 z ∧ z = (m : Int) - 1 ∧ a = .int .i64 (lastAt c l m) ∧ wr = w
def closeRel (c : Int) (w : World) (line : List WaitD) (v r i : Value) (wr : World) : Prop :=
  ∃ (k : Nat) (A5 : Option Addr) (c5 : Nat) (A6 : Option Addr) (c6 : Nat), k ≤ line.length ∧ i = .int .i64 k ∧ v = .slice A5 (told c (line.take k)).length c5 ∧ r = .slice A6 (leave c (line.take k)).length c6 ∧
    RowR w.heap.size 105 4 SrvV wr A5 c5 (told c (line.take k)) ∧ RowR w.heap.size 40 2 RWaitV wr A6 c6 (leave c (line.take k)) ∧ Chg (fun _ _ => False) w wr
theorem leave_take {c : Int} {l : List WaitD} {k : Nat} {x : WaitD} (hx : l[k]? = some x) : leave c (l.take (k + 1)) = leave c (l.take k) ++ if (anyAt c x.cases).isNone then [x] else [] := by
  obtain ⟨h1, h2⟩ := List.getElem?_eq_some_iff.1 hx
  rw [List.take_succ_eq_append_getElem h1, h2]
  unfold leave
  rw [List.filter_append]
  congr 1
  simp [List.filter_cons]
theorem told_take {c : Int} {l : List WaitD} {k : Nat} {x : WaitD} (hx : l[k]? = some x) : told c (l.take (k + 1)) = told c (l.take k) ++ match anyAt c x.cases with
    | none => []
    | some q => [⟨x.who, (q : Int), 0, false⟩] := by
  obtain ⟨h1, h2⟩ := List.getElem?_eq_some_iff.1 hx
  rw [List.take_succ_eq_append_getElem h1, h2]
  unfold told
  rw [List.filterMap_append]
  congr 1
  simp only [List.filterMap_cons, List.filterMap_nil]
  cases anyAt c x.cases <;> rfl
theorem leave_len (c : Int) (l : List WaitD) (k : Nat) : (leave c (l.take k)).length ≤ l.length := Nat.le_trans (List.length_filter_le _ _) (List.length_take_le' _ _)
theorem told_len (c : Int) (l : List WaitD) (k : Nat) : (told c (l.take k)).length ≤ l.length := Nat.le_trans (List.length_filterMap_le _ _) (List.length_take_le' _ _)
theorem lastAt_end (c : Int) (l : List CaseC) : lastAt c l l.length = -1 := by simp [lastAt, anyAt]
theorem lastAt_zero (c : Int) (l : List CaseC) : lastAt c l 0 = match anyAt c l with
    | none => -1
    | some q => (q : Int) := by
  simp only [lastAt, List.drop_zero]
  cases anyAt c l <;> rfl
theorem RowR.own_lt {α : Type} {base e size : Nat} {R : World → List Value → α → Prop} {w : World} {A : Option Addr} {c : Nat} {l : List α} (h : RowR base e size R w A c l) {b : Nat} (hb : (Value.slice A l.length c).ownBlock = some b) : base ≤ b := by
  obtain ⟨xss, h1, _⟩ := h
  exact (own_blk h1 hb).1
set_option maxRecDepth 100000 in
set_option maxHeartbeats 8000000 in
theorem close_any (w : World) (F : Nat → Prop) (p : Nat) (H : HubD) (hH : HubFR F w p H) (hs : SmallH H) (c : Int) :
    Calls Try.prog 36 #[.pointer (some ⟨p, 0, none⟩), .int .i64 c] w (CloseRes (shutC H c).2 F p (shutC H c).1 w) := by
  obtain ⟨i0, hi0, hz0, hs0, hb0⟩ := info_parts infoRServed
  obtain ⟨i1, hi1, hz1, hs1, hb1⟩ := info_parts infoRWaiter
  have hH0 := hH
  obtain ⟨B1, b1, B2, b2, B3, b3, B4, b4, hI⟩ := hH
  obtain ⟨d0, d1, d2, d3⟩ := hI.blk.cells4
  by_cases h0 : c = 0
  · subst h0
    have HH := Lib.hid (And.intro hH0 (show shutC H 0 = (H, [], 2) by simp [shutC]))
    clear hH0 hs hI
    go_enter Try.func36, Try.ntmps36
    go_wp2_with fail
    go_ret2
    rw [HH.out.2]
    exact ⟨_, rfl, RSrvsT.nil _ _, HubQ.same HH.out.1 (Chg.refl _ _)⟩
  · have h0' : (c == 0) = false := by simpa using h0
    by_cases h1 : c < 0
    · have HH := Lib.hid (And.intro hH0 (show shutC H c = (H, [], 15) by simp [shutC, h0, h1]))
      have h1' : decide (c < 0) = true := decide_eq_true h1
      clear hH0 hs hI h0 h1
      go_enter Try.func36, Try.ntmps36
      go_wp2_with fail
      go_ret2
      rw [HH.out.2]
      exact ⟨_, rfl, RSrvsT.nil _ _, HubQ.same HH.out.1 (Chg.refl _ _)⟩
    · by_cases h2 : (H.list.length : Int) < c
      · have HH := Lib.hid (And.intro hH0 (show shutC H c = (H, [], 15) by simp [shutC, h0, h2]))
        have h1' : decide (c < 0) = false := decide_eq_false h1
        have h2' : decide ((H.list.length : Int) < c) = true := decide_eq_true h2
        clear hH0 hs hI h0 h1 h2
        go_enter Try.func36, Try.ntmps36
        go_wp2_with fail
        go_ret2
        rw [HH.out.2]
        exact ⟨_, rfl, RSrvsT.nil _ _, HubQ.same HH.out.1 (Chg.refl _ _)⟩
      · obtain ⟨k, rfl⟩ : ∃ k : Nat, c = (k : Int) + 1 := ⟨(c - 1).toNat, by omega⟩
        have hkl : k < H.list.length := by omega
        obtain ⟨gt, ch, rfl, htc, hkx, y2, hfz⟩ := ShutsR.at_ hI.shuts hkl
        have hkb : (k : Int) ≤ 1099511627776 := by have := hs.list; omega
        have hk0 : (0 : Int) ≤ (k : Int) := by omega
        have hk1 : (k : Int) < (H.list.length : Int) := by omega
        have hw1 : IntKind.i64.wrap ((k : Int) + 1 - 1) = (k : Int) := by rw [show ((k : Int) + 1 - 1) = (k : Int) by omega]; exact IntWalk.i64_in _ (by omega)
        have hw2 : IntKind.i64.wrap (k : Int) = (k : Int) := IntWalk.i64_in _ (by omega)
        have h1' : decide ((k : Int) + 1 < 0) = false := decide_eq_false h1
        have h2' : decide ((H.list.length : Int) < (k : Int) + 1) = false := decide_eq_false h2
        cases hsh : ch.shut
        case true =>
          have HH := Lib.hid (And.intro hH0 (show shutC H ((k : Int) + 1) = (H, [], 21) by
            unfold shutC
            rw [if_neg h0, if_neg (by omega), show ((k : Int) + 1 - 1).toNat = k by omega, hkx]
            simp only [hsh, if_true]))
          rw [hsh] at y2
          clear hH0 hs hI h0 h1 h2 hkx hfz hsh
          go_enter Try.func36, Try.ntmps36
          go_wp2_with fail
          go_ret2
          rw [HH.out.2]
          exact ⟨_, rfl, RSrvsT.nil _ _, HubQ.same HH.out.1 (Chg.refl _ _)⟩
        case false =>
          have HE := Lib.hid (show shutC H ((k : Int) + 1) = ({ list := H.list.set k { ch with shut := true }, wait := leave ((k : Int) + 1) H.wait }, told ((k : Int) + 1) H.wait, 0) by
            unfold shutC
            rw [if_neg h0, if_neg (by omega), show ((k : Int) + 1 - 1).toNat = k by omega, hkx]
            simp only [hsh]
            simp)
          rw [hsh] at y2
          obtain ⟨hI1, hch1⟩ := hI.setShut hkx
          have hfk := hfz k
          have HH := Lib.hid (And.intro hI1 (And.intro hch1 hs))
          have hsm2 := hs.wait
          clear hH0 hs hI h0 h1 h2 hkx hfz hsh hI1 hch1
          go_enter Try.func36, Try.ntmps36
          go_wp2_with fail
          generalize w.setCell ⟨gt, k, none⟩ (.bool true) = w1 at HH ⊢
          have hI1 := HH.out.1
          obtain ⟨f0, f1, f2, f3⟩ := hI1.blk.cells4
          have hline := Lib.hid (show SlR 0 40 2 RWaitV w1 (.slice B4 H.wait.length b4) H.wait from hI1.line.slr (by decide) 0)
          have HF := Lib.hid (show w1.cell? ⟨p, 3, none⟩ = some (.slice B4 H.wait.length b4) from f3)
          clear hI1 f0 f1 f2 f3 d0 d1 d2 d3 y2 hfk
          go_loopw [6, 7, 8] (fun v r i wr => closeRel ((k : Int) + 1) w1 H.wait v r i wr) (fun _ _ i _ => H.wait.length - (intOf i).toNat)
          case atStart => exact ⟨0, none, 0, none, 0, Nat.zero_le _, rfl, rfl, rfl, RowR.nil _ _ _ _ _, RowR.nil _ _ _ _ _, Chg.refl _ _⟩
          case round =>
            obtain ⟨q, A5, c5, A6, c6, hql, rfl, rfl, rfl, hr1, hr2, hch⟩ := hrel
            have e3 := hch.cell HF.out fun _ => id
            obtain ⟨wo, rfl⟩ : ∃ wo : World, wo = wr := ⟨_, rfl⟩
            have hl1 := leave_len ((k : Int) + 1) H.wait q
            have hl2 := told_len ((k : Int) + 1) H.wait q
            by_cases hlt : q < H.wait.length
            · obtain ⟨b, o, x, A7, c7, rfl, hqx, hwi, hcs, hz⟩ := LineR.at3 hline.out hlt
              obtain ⟨z0, z1⟩ := hz _ _ hch fun _ => id
              have hxc := HH.out.2.2.cases x (List.mem_of_getElem? hqx)
              have HQ := Lib.hid (And.intro hqx (And.intro hwi (And.intro (hcs.keep hch (fun b t h => absurd h (Nat.not_lt_zero _)) fun _ => id) (And.intro hch (And.intro hr1 hr2)))))
              clear hqx hwi hcs hz hch hr1 hr2
              go_wp2_with fail
              go_loopw [9, 10] (fun a i wr => lastRel ((k : Int) + 1) wo x.cases a i wr) (fun _ i _ => (intOf i + 1).toNat)
              case atStart => exact ⟨x.cases.length, (x.cases.length : Int) - 1, Nat.le_refl _, rfl, rfl, by rw [lastAt_end], rfl⟩
              case round =>
                obtain ⟨m, z, hm, rfl, hzm, rfl, rfl⟩ := hrel
                rcases m with _ | m
                · obtain rfl : z = -1 := by omega
                  have hla := lastAt_zero ((k : Int) + 1) x.cases
                  cases hany : anyAt ((k : Int) + 1) x.cases with
                  | none =>
                    rw [hany] at hla
                    rw [hla]
                    have HA := Lib.hid hany
                    clear hla hany hzm
                    obtain ⟨xss, how, g2, g3, g4⟩ := HQ.out.2.2.2.2.2
                    have HG := Lib.hid (And.intro g2 (And.intro g3 g4))
                    have hsz := HQ.out.2.2.2.1.size
                    clear g2 g3 g4
                    go_wp2_with (at_builtin; go_must (refine wpList_append_new rfl (.tmp 79) (.tmp 87) 31 rfl w1.heap.size 40 i1 _ 2 32 Try.underlying31 hi1 hz1 hs1 hb1 rfl (by omega) A6 (leave ((k : Int) + 1) (H.wait.take q)).length c6 xss.flatten rfl how 1 1 [.int .i64 x.who, .slice A7 x.cases.length c7] rfl (by first | rfl | simp) rfl (by intro u hu; simp at hu; rcases hu with rfl | rfl <;> rfl) (by simp only [maxLen]; omega) (by omega) hsz ?_))
                    intro A8 c8 w8 hap
                    have hapc := hap.chg how
                    have HAP := Lib.hid (And.intro hap.own hapc)
                    clear hap hapc how
                    go_wp2
                    go_roundw
                    case rel =>
                      obtain ⟨hqx, hwi, hcs, hch, hr1, hr2⟩ := HQ.out
                      have hlv := leave_take (c := (k : Int) + 1) hqx
                      have htd := told_take (c := (k : Int) + 1) hqx
                      rw [HA.out] at hlv htd
                      simp only [Option.isNone_none, if_true, List.append_nil] at hlv htd
                      refine ⟨q + 1, A5, c5, A8, c8, hlt, by simp, by rw [htd], by rw [hlv]; simp, by rw [htd]; exact hr1.keep1 HAP.out.2 (fun b hb h => absurd h.2 (by decide)) fun _ _ h => h, ?_, hch.trans_new HAP.out.2 fun b t hb h => by omega⟩
                      rw [hlv]
                      exact RowR.snoc HG.out.1 HG.out.2.1 HG.out.2.2 (fun cs y h => RWaitV.keep h HAP.out.2 fun b h => absurd h.2 (by decide)) HAP.out.1 rfl ⟨A7, c7, rfl, hwi, hcs.keep HAP.out.2 (fun b t h => absurd h (Nat.not_lt_zero _)) fun b h => absurd h.2 (by decide)⟩
                    case measure => simp [intOf]; omega
                  | some qq =>
                    rw [hany] at hla
                    rw [hla]
                    have HA := Lib.hid hany
                    have hqq : decide ((qq : Int) < 0) = false := decide_eq_false (by omega)
                    clear hla hany hzm
                    obtain ⟨xss, how, g2, g3, g4⟩ := HQ.out.2.2.2.2.1
                    have HG := Lib.hid (And.intro g2 (And.intro g3 g4))
                    have hsz := HQ.out.2.2.2.1.size
                    clear g2 g3 g4
                    go_wp2_with (at_builtin; go_must (refine wpList_append_new rfl (.tmp 89) (.tmp 100) 88 rfl w1.heap.size 105 i0 _ 4 32 Try.underlying88 hi0 hz0 hs0 hb0 rfl (by omega) A5 (told ((k : Int) + 1) (H.wait.take q)).length c5 xss.flatten rfl how 1 1 [.int .i64 x.who, .int .i64 qq, .int .u64 0, .bool false] rfl (by first | rfl | simp) rfl (by intro u hu; simp at hu; rcases hu with rfl | rfl | rfl | rfl <;> rfl) (by simp only [maxLen]; omega) (by omega) hsz ?_))
                    intro A8 c8 w8 hap
                    have hapc := hap.chg how
                    have HAP := Lib.hid (And.intro hap.own hapc)
                    clear hap hapc how
                    go_wp2
                    go_roundw
                    case rel =>
                      obtain ⟨hqx, hwi, hcs, hch, hr1, hr2⟩ := HQ.out
                      have hlv := leave_take (c := (k : Int) + 1) hqx
                      have htd := told_take (c := (k : Int) + 1) hqx
                      rw [HA.out] at hlv htd
                      simp at hlv
                      simp only at htd
                      refine ⟨q + 1, A8, c8, A6, c6, hlt, by simp, by rw [htd]; simp, by rw [hlv], ?_, by rw [hlv]; exact hr2.keep1 HAP.out.2 (fun b hb h => absurd h.2 (by decide)) fun _ _ h => RWaitV.keep h HAP.out.2 fun b h => absurd h.2 (by decide), hch.trans_new HAP.out.2 fun b t hb h => by omega⟩
                      rw [htd]
                      exact RowR.snoc (w := wr) HG.out.1 HG.out.2.1 HG.out.2.2 (fun cs y h => h) HAP.out.1 rfl rfl
                    case measure => simp [intOf]; omega
                · obtain rfl : z = (m : Int) := by omega
                  obtain ⟨b2, o2, y, rfl, hmy, _, _, y0, y1, y2⟩ := HQ.out.2.2.1.at_ (k := m) (by omega)
                  have hst := lastAt_step (c := (k : Int) + 1) hmy
                  have hm0 : (0 : Int) ≤ (m : Int) := by omega
                  have hm1 : (m : Int) < (x.cases.length : Int) := by omega
                  have hm2 : m < x.cases.length := by omega
                  have hms := Lib.hid (show (m : Int) - 1 = (m : Int) - 1 from rfl)
                  by_cases hyc : y.chan = (k : Int) + 1
                  · rw [if_pos hyc] at hst
                    have hyc' : (y.chan == (k : Int) + 1) = true := by simpa using hyc
                    have HS := Lib.hid hst
                    clear hst hyc hmy hzm
                    go_wp2_with fail
                    go_roundw
                    case rel => exact ⟨m, (m : Int) - 1, by omega, by first | rfl | simp, rfl, by rw [HS.out], rfl⟩
                    case measure => first | (simp [intOf]; done) | (simp [intOf]; omega)
                  · rw [if_neg hyc] at hst
                    have hyc' : (y.chan == (k : Int) + 1) = false := by simpa using hyc
                    have HS := Lib.hid hst
                    clear hst hyc hmy hzm
                    go_wp2_with fail
                    go_roundw
                    case rel => exact ⟨m, (m : Int) - 1, by omega, by first | rfl | simp, rfl, by rw [HS.out], rfl⟩
                    case measure => first | (simp [intOf]; done) | (simp [intOf]; omega)
            · obtain rfl : q = H.wait.length := by omega
              rw [List.take_length] at hr1 hr2
              obtain ⟨hQ, hbk⟩ := HH.out.1.setLine (l' := leave ((k : Int) + 1) H.wait) (hch.mono fun _ _ _ h => h.elim) (hr2.rebase (Nat.zero_le _)) (fun b hb => .inr (hr2.own_lt hb))
              have f1 := hbk.frozen 3
              have hse := chg_set (j := 3) hbk (.slice A6 (leave ((k : Int) + 1) H.wait).length c6)
              have HR := Lib.hid (And.intro hr1 (And.intro hQ hse))
              rw [List.take_length] at hl1 hl2 ⊢
              clear hr1 hr2 hQ hbk hch hse
              go_wp2_with fail
              go_ret2
              rw [HE.out]
              exact ⟨_, rfl, RSrvsT.keep (RowR.slr (by decide) HR.out.1 0) HR.out.2.2 fun b h => absurd h.2 (by decide), HubQ.comp (F1 := F) (fun b h => .inl h) HH.out.2.1 HR.out.2.1⟩
end Go.Proofs.Ytclllnoohoonoaa
