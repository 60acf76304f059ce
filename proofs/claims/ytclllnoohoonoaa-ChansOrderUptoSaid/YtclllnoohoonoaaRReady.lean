/-
  The reference: which cases can go on (Ready).
-/
import Derived.Test.YtclllnoohoonoaaROps2
namespace Go.Proofs.Ytclllnoohoonoaa
open Go.RowKit
set_option linter.unusedVariables false
set_option linter.unusedSimpArgs false

def peerI (r : Option (Nat × Nat)) : Int := match r with
  | none => -1
  | some (i, _) => i
def peerK (r : Option (Nat × Nat)) : Int := match r with
  | none => -1
  | some (_, k) => k
theorem peerV_eq (r : Option (Nat × Nat)) : peerV r = .tuple #[.int .i64 (peerI r), .int .i64 (peerK r)] := by
  rcases r with _ | ⟨i, k⟩ <;> rfl
theorem peer_some (r : Option (Nat × Nat)) : decide (0 ≤ peerI r) = r.isSome := by
  rcases r with _ | ⟨i, k⟩
  · rfl
  · exact decide_eq_true (show (0 : Int) ≤ (i : Int) by omega)
def knownRel (n : Nat) (w : World) (l : List CaseC) (i : Value) (wr : World) : Prop := ∃ k : Nat, k ≤ l.length ∧ i = .int .i64 k ∧ knownC n (l.take k) = true ∧ Chg (fun _ _ => False) w wr
theorem known_take {n : Nat} {l : List CaseC} {k : Nat} {x : CaseC} (hx : l[k]? = some x) (h : knownC n (l.take k) = true) (h0 : 0 ≤ x.chan) (h1 : x.chan ≤ (n : Int)) : knownC n (l.take (k + 1)) = true := by
  obtain ⟨a, b⟩ := List.getElem?_eq_some_iff.1 hx
  unfold knownC at *
  rw [List.take_succ_eq_append_getElem a, b, List.all_append, h]
  simp [h0, h1]
theorem known_bad {n : Nat} {l : List CaseC} {k : Nat} {x : CaseC} (hx : l[k]? = some x) (h : x.chan < 0 ∨ (n : Int) < x.chan) : knownC n l = false := by
  cases hk : knownC n l
  · rfl
  · have := known_in hk hx
    omega
theorem SizesR.at_ {w : World} {A : Option Addr} {c k : Nat} {l : List ChanD} (h : RowR 0 3 1 SizeV w A c l) (hk : k < l.length) : ∃ b x, A = some ⟨b, 0, none⟩ ∧ l.length ≤ c ∧ l[k]? = some x ∧ w.cell? ⟨b, k, none⟩ = some (.int .i64 x.size) ∧ ∀ i, w.frozen? ⟨b, i, none⟩ = false := by
  obtain ⟨xss, h1, h2, h3, h4⟩ := h
  obtain ⟨g, cs, rfl, hc, hcs, hg, hb, hcell, hfz⟩ := own_at h1 h2 h3 hk
  obtain ⟨rfl, _⟩ := h4 k _ cs (List.getElem?_eq_getElem hk) hcs
  exact ⟨g, l[k], rfl, hc, List.getElem?_eq_getElem hk, by simpa using hcell 0 _ rfl, hfz⟩
theorem ShutsR.at_ {w : World} {A : Option Addr} {c k : Nat} {l : List ChanD} (h : RowR 0 4 1 ShutV w A c l) (hk : k < l.length) : ∃ b x, A = some ⟨b, 0, none⟩ ∧ l.length ≤ c ∧ l[k]? = some x ∧ w.cell? ⟨b, k, none⟩ = some (.bool x.shut) ∧ ∀ i, w.frozen? ⟨b, i, none⟩ = false := by
  obtain ⟨xss, h1, h2, h3, h4⟩ := h
  obtain ⟨g, cs, rfl, hc, hcs, hg, hb, hcell, hfz⟩ := own_at h1 h2 h3 hk
  obtain rfl := h4 k _ cs (List.getElem?_eq_getElem hk) hcs
  exact ⟨g, l[k], rfl, hc, List.getElem?_eq_getElem hk, by simpa using hcell 0 _ rfl, hfz⟩
theorem BufsR.at_ {F : Nat → Prop} {w : World} {A : Option Addr} {c k : Nat} {l : List ChanD} (h : RowR 0 34 1 (BufV F) w A c l) (hk : k < l.length) : ∃ b x v, A = some ⟨b, 0, none⟩ ∧ l.length ≤ c ∧ l[k]? = some x ∧ w.cell? ⟨b, k, none⟩ = some v ∧ QR w 41 v (u64V x.buf) ∧ (∀ y ∈ x.buf, U64 y) ∧ (∀ b, v.ownBlock = some b → F b) ∧ ∀ i, w.frozen? ⟨b, i, none⟩ = false := by
  obtain ⟨xss, h1, h2, h3, h4⟩ := h
  obtain ⟨g, cs, rfl, hc, hcs, hg, hb, hcell, hfz⟩ := own_at h1 h2 h3 hk
  obtain ⟨v, rfl, hq, hu, hF⟩ := h4 k _ cs (List.getElem?_eq_getElem hk) hcs
  exact ⟨g, l[k], v, rfl, hc, List.getElem?_eq_getElem hk, by simpa using hcell 0 _ rfl, hq, hu, hF, hfz⟩
set_option maxRecDepth 100000 in
set_option maxHeartbeats 8000000 in
theorem rready_any (w : World) (F : Nat → Prop) (p B : Nat) (H : HubD) (hH : HubFR F w p H) (hs : SmallH H) (A1 : Option Addr) (c1 : Nat) (l : List CaseC) (hl : CasesX B w (.slice A1 l.length c1) l) (hn : l.length ≤ 1099511627776) :
    Calls Try.prog 23 #[.pointer (some ⟨p, 0, none⟩), .slice A1 l.length c1] w (IntsRes (readyA H l) (readyE H l) w) := by
  obtain ⟨i3, hi3, hz3, hs3, hb3⟩ := info_parts infoInt
  have HH := Lib.hid (And.intro hH (And.intro hs hl))
  obtain ⟨B1, b1, B2, b2, B3, b3, B4, b4, hI⟩ := hH
  obtain ⟨d0, d1, d2, d3⟩ := hI.blk.cells4
  have HI := Lib.hid (And.intro hI (And.intro d0 (And.intro d1 d2)))
  have hnl := hs.list
  clear hI hs hl d0 d1 d2 d3
  go_enter Try.func23, Try.ntmps23
  go_wp2_with fail
  go_loopw [7] (fun i wr => knownRel H.list.length w l i wr) (fun i _ => l.length - (intOf i).toNat)
  case atStart => exact ⟨0, Nat.zero_le _, rfl, rfl, Chg.refl _ _⟩
  case round =>
    obtain ⟨k, hkl, rfl, hkn, hch⟩ := hrel
    have e0 := hch.cell HI.out.2.1 fun _ => id
    obtain ⟨wo, rfl⟩ : ∃ wo : World, wo = wr := ⟨_, rfl⟩
    by_cases hlt : k < l.length
    · obtain ⟨b, o, x, rfl, hkx, _, _, z0, z1, z2⟩ := (HH.out.2.2.keep hch (fun _ _ _ => id) (fun _ => id)).at_ hlt
      have HK := Lib.hid (And.intro hkx (And.intro hkn hch))
      clear hkx hkn hch
      cases q1 : decide (x.chan < 0)
      · cases q2 : decide ((H.list.length : Int) < x.chan)
        · have HQ := Lib.hid (And.intro (of_decide_eq_false q1) (of_decide_eq_false q2))
          go_wp2_with fail
          go_quiet (fail)
          go_wp2_with fail
          go_roundw
          case rel => exact ⟨k + 1, hlt, by simp, known_take HK.out.1 HK.out.2.1 (by have := HQ.out; omega) (by have := HQ.out; omega), (by repeat' (first | exact HK.out.2.2 | apply Chg.drew | apply Chg.drewN))⟩
          case measure => simp [intOf]; omega
        · have HQ := Lib.hid (known_bad (n := H.list.length) HK.out.1 (.inr (of_decide_eq_true q2)))
          go_wp2_with fail
          go_quiet (fail)
          go_wp2_with fail
          go_ret2
          exact ⟨none, 0, by simp [readyA, readyE, HQ.out], by simp only [readyA, HQ.out]; exact IntsN.nil _ _, (by repeat' (first | exact HK.out.2.2 | apply Chg.drew | apply Chg.drewN))⟩
      · have HQ := Lib.hid (known_bad (n := H.list.length) HK.out.1 (.inl (of_decide_eq_true q1)))
        go_wp2_with fail
        go_quiet (fail)
        go_wp2_with fail
        go_ret2
        exact ⟨none, 0, by simp [readyA, readyE, HQ.out], by simp only [readyA, HQ.out]; exact IntsN.nil _ _, (by repeat' (first | exact HK.out.2.2 | apply Chg.drew | apply Chg.drewN))⟩
    · obtain rfl : k = l.length := by omega
      rw [List.take_length] at hkn
      have HK := Lib.hid (And.intro hkn hch)
      clear hkn hch
      go_wp2_with fail
      go_loopw [6, 8] (fun v i wr => readyRel H w l v i wr) (fun _ i _ => l.length - (intOf i).toNat)
      case atStart => exact ⟨0, [], none, 0, Nat.zero_le _, rfl, rfl, rfl, IntsN.nil _ _, HK.out.2⟩
      case round =>
        clear e0 hlt hkl
        obtain ⟨k, row, A2, c2, hkl, rfl, rfl, hrow, hown, hch⟩ := hrel
        have hrl : row.length ≤ l.length := by rw [hrow]; exact Nat.le_trans (ready_len _ _ _) (List.length_take_le' _ _)
        obtain ⟨wo, rfl⟩ : ∃ wo : World, wo = wr := ⟨_, rfl⟩
        by_cases hlt : k < l.length
        · obtain ⟨b, o, x, rfl, hkx, _, _, z0, z1, z2⟩ := (HH.out.2.2.keep hch (fun _ _ _ => id) (fun _ => id)).at_ hlt
          obtain ⟨hx0, hx1⟩ := known_in HK.out.1 hkx
          have hsz2 := hch.size
          obtain ⟨send, chan, val⟩ := x
          simp only at hx0 hx1 z0 z1 z2
          by_cases hz : chan = 0
          · have hcan : canC H ⟨send, chan, val⟩ = false := canC_zero hz
            have hz' : (chan == 0) = true := by simpa using hz
            have HR := Lib.hid (And.intro hkx (And.intro hrow (And.intro hown (And.intro hch hcan))))
            clear hkx hrow hown hch hcan hx0 hx1 hz
            go_wp2_with fail
            go_roundw
            case rel => exact ⟨k + 1, row, A2, c2, hlt, by simp, rfl, by rw [ready_take HR.out.1, HR.out.2.2.2.2, ← HR.out.2.1]; simp, HR.out.2.2.1, HR.out.2.2.2.1⟩
            case measure => simp [intOf]; omega
          · obtain ⟨j, rfl⟩ : ∃ j : Nat, chan = (j : Int) + 1 := ⟨(chan - 1).toNat, by omega⟩
            have hjl : j < H.list.length := by omega
            have hI := HI.out.1.keep hch (fun _ _ _ => id) (fun _ => id)
            obtain ⟨gs, ch, hgs, hsc, hchx, y0, _⟩ := SizesR.at_ hI.sizes hjl
            obtain ⟨gb, ch', v, hgb, hbc, hchx', y1, hq, _⟩ := BufsR.at_ hI.bufs hjl
            obtain ⟨gt, ch'', hgt, htc, hchx'', y2, _⟩ := ShutsR.at_ hI.shuts hjl
            obtain rfl : ch' = ch := by rw [hchx] at hchx'; injection hchx' with h; exact h.symm
            obtain rfl : ch'' = ch' := by rw [hchx] at hchx''; injection hchx'' with h; exact h.symm
            obtain ⟨nA, cq, hv, _⟩ := hq.form
            rw [u64V_len] at hv
            subst hv hgs hgb hgt
            have e0 := hch.cell HI.out.2.1 fun _ => id
            have e1 := hch.cell HI.out.2.2.1 fun _ => id
            have e2 := hch.cell HI.out.2.2.2 fun _ => id
            have hcan := canC_at (x := ⟨send, (j : Int) + 1, val⟩) rfl hchx
            have hkb : (j : Int) ≤ 1099511627776 := by omega
            have hk0 : (0 : Int) ≤ (j : Int) := by omega
            have hk1 : (j : Int) < (H.list.length : Int) := by omega
            have hw1 : IntKind.i64.wrap ((j : Int) + 1 - 1) = (j : Int) := by rw [show ((j : Int) + 1 - 1) = (j : Int) by omega]; exact IntWalk.i64_in _ (by omega)
            have hw2 : IntKind.i64.wrap (j : Int) = (j : Int) := IntWalk.i64_in _ (by omega)
            have hz' : ((j : Int) + 1 == 0) = false := by simp; omega
            have HR := Lib.hid (And.intro hkx (And.intro hrow (And.intro hch (HH.out.1.keep hch (fun _ _ _ => id) (fun _ => id)))))
            clear hkx hrow hch hI hq hchx hchx' hchx'' hx0 hx1 hz
            go_wp2_with fail
            refine (peer_any _ F p H HR.out.2.2.2 ((j : Int) + 1) (!send) HH.out.2.1).mono fun e w3 hh => ?_
            obtain ⟨rfl, rfl⟩ := hh
            rw [peerV_eq]
            have hps := peer_some (findW ((j : Int) + 1) (!send) H.wait)
            obtain ⟨fo, hfo⟩ : ∃ fo, (findW ((j : Int) + 1) (!send) H.wait).isSome = fo := ⟨_, rfl⟩
            obtain ⟨pv, hpv⟩ : ∃ pv, peerI (findW ((j : Int) + 1) (!send) H.wait) = pv := ⟨_, rfl⟩
            obtain ⟨pk, hpk⟩ : ∃ pk, peerK (findW ((j : Int) + 1) (!send) H.wait) = pk := ⟨_, rfl⟩
            rw [hpv, hpk]
            rw [hpv, hfo] at hps
            rw [hfo] at hcan
            clear hpv hpk hfo
            obtain ⟨sh, hsh⟩ : ∃ sh, ch''.shut = sh := ⟨_, rfl⟩
            rw [hsh] at y2 hcan
            cases send
            · cases hr : decide (0 < ch''.buf.length)
              · cases fo
                · have hpf : decide (0 ≤ pv) = false := hps
                  cases sh
                  · have HC := Lib.hid (show canC H ⟨false, (j : Int) + 1, val⟩ = false by rw [hcan]; simp only [roomC]; simp [hr])
                    clear hcan hps
                    have HO := Lib.hid hown
                    clear hown
                    go_wp2_with fail
                    go_roundw
                    case rel => exact ⟨k + 1, row, A2, c2, hlt, by simp, rfl, by rw [ready_take HR.out.1, HC.out, ← HR.out.2.1]; simp, HO.out, (by repeat' (first | exact HR.out.2.2.1 | apply Chg.drew | apply Chg.drewN))⟩
                    case measure => simp [intOf]; omega
                  · have HC := Lib.hid (show canC H ⟨false, (j : Int) + 1, val⟩ = true by rw [hcan]; simp only [roomC]; simp [hr])
                    clear hcan hps
                    go_wp2_with (at_builtin; go_must (refine wpList_append_new rfl (.tmp 111) (.tmp 113) 28 rfl w.heap.size 3 i3 (.int .i64 0) 1 8 Try.underlying28 hi3 hz3 hs3 hb3 rfl (by omega) A2 row.length c2 (intV row) rfl (by exact hown) 1 1 [.int .i64 (k : Int)] rfl (by first | rfl | simp) rfl (by intro u hu; simp at hu; subst hu; rfl) (by simp only [maxLen]; omega) (by omega) (by exact hsz2) ?_))
                    intro A6 c6 w7 hap
                    have hapc := hap.chg (by exact hown)
                    have HA := Lib.hid (And.intro hap.own hapc)
                    clear hap hapc hown
                    go_wp2
                    go_roundw
                    case rel =>
                      refine ⟨k + 1, row ++ [(k : Int)], A6, c6, hlt, by simp, by simp, by rw [ready_take HR.out.1, HC.out, ← HR.out.2.1]; simp, ?_, Chg.trans_new (by repeat' (first | exact HR.out.2.2.1 | apply Chg.drew | apply Chg.drewN)) HA.out.2 fun b t hb h => by omega⟩
                      have := HA.out.1
                      unfold IntsN
                      rw [intV_snoc, List.length_append]
                      exact this
                    case measure => simp [intOf]; omega
                · have hpf : decide (0 ≤ pv) = true := hps
                  have HC := Lib.hid (show canC H ⟨false, (j : Int) + 1, val⟩ = true by rw [hcan]; simp)
                  clear hcan hps
                  go_wp2_with (at_builtin; go_must (refine wpList_append_new rfl (.tmp 111) (.tmp 113) 28 rfl w.heap.size 3 i3 (.int .i64 0) 1 8 Try.underlying28 hi3 hz3 hs3 hb3 rfl (by omega) A2 row.length c2 (intV row) rfl (by exact hown) 1 1 [.int .i64 (k : Int)] rfl (by first | rfl | simp) rfl (by intro u hu; simp at hu; subst hu; rfl) (by simp only [maxLen]; omega) (by omega) (by exact hsz2) ?_))
                  intro A6 c6 w7 hap
                  have hapc := hap.chg (by exact hown)
                  have HA := Lib.hid (And.intro hap.own hapc)
                  clear hap hapc hown
                  go_wp2
                  go_roundw
                  case rel =>
                    refine ⟨k + 1, row ++ [(k : Int)], A6, c6, hlt, by simp, by simp, by rw [ready_take HR.out.1, HC.out, ← HR.out.2.1]; simp, ?_, Chg.trans_new (by repeat' (first | exact HR.out.2.2.1 | apply Chg.drew | apply Chg.drewN)) HA.out.2 fun b t hb h => by omega⟩
                    have := HA.out.1
                    unfold IntsN
                    rw [intV_snoc, List.length_append]
                    exact this
                  case measure => simp [intOf]; omega
              · have HC := Lib.hid (show canC H ⟨false, (j : Int) + 1, val⟩ = true by rw [hcan]; simp only [roomC]; simp [hr])
                clear hcan hps
                go_wp2_with (at_builtin; go_must (refine wpList_append_new rfl (.tmp 111) (.tmp 113) 28 rfl w.heap.size 3 i3 (.int .i64 0) 1 8 Try.underlying28 hi3 hz3 hs3 hb3 rfl (by omega) A2 row.length c2 (intV row) rfl (by exact hown) 1 1 [.int .i64 (k : Int)] rfl (by first | rfl | simp) rfl (by intro u hu; simp at hu; subst hu; rfl) (by simp only [maxLen]; omega) (by omega) (by exact hsz2) ?_))
                intro A6 c6 w7 hap
                have hapc := hap.chg (by exact hown)
                have HA := Lib.hid (And.intro hap.own hapc)
                clear hap hapc hown
                go_wp2
                go_roundw
                case rel =>
                  refine ⟨k + 1, row ++ [(k : Int)], A6, c6, hlt, by simp, by simp, by rw [ready_take HR.out.1, HC.out, ← HR.out.2.1]; simp, ?_, Chg.trans_new (by repeat' (first | exact HR.out.2.2.1 | apply Chg.drew | apply Chg.drewN)) HA.out.2 fun b t hb h => by omega⟩
                  have := HA.out.1
                  unfold IntsN
                  rw [intV_snoc, List.length_append]
                  exact this
                case measure => simp [intOf]; omega
            · cases hr : decide ((ch''.buf.length : Int) < ch''.size)
              · cases fo
                · have hpf : decide (0 ≤ pv) = false := hps
                  cases sh
                  · have HC := Lib.hid (show canC H ⟨true, (j : Int) + 1, val⟩ = false by rw [hcan]; simp only [roomC]; simp [hr])
                    clear hcan hps
                    go_wp2_with fail
                    go_quiet (fail)
                    have HO := Lib.hid hown
                    clear hown
                    go_wp2_with fail
                    go_roundw
                    case rel => exact ⟨k + 1, row, A2, c2, hlt, by simp, rfl, by rw [ready_take HR.out.1, HC.out, ← HR.out.2.1]; simp, HO.out, (by repeat' (first | exact HR.out.2.2.1 | apply Chg.drew | apply Chg.drewN))⟩
                    case measure => simp [intOf]; omega
                  · have HC := Lib.hid (show canC H ⟨true, (j : Int) + 1, val⟩ = true by rw [hcan]; simp only [roomC]; simp [hr])
                    clear hcan hps
                    go_wp2_with fail
                    go_quiet (fail)
                    go_wp2_with (at_builtin; go_must (refine wpList_append_new rfl (.tmp 111) (.tmp 113) 28 rfl w.heap.size 3 i3 (.int .i64 0) 1 8 Try.underlying28 hi3 hz3 hs3 hb3 rfl (by omega) A2 row.length c2 (intV row) rfl (by exact hown) 1 1 [.int .i64 (k : Int)] rfl (by first | rfl | simp) rfl (by intro u hu; simp at hu; subst hu; rfl) (by simp only [maxLen]; omega) (by omega) (by exact hsz2) ?_))
                    intro A6 c6 w7 hap
                    have hapc := hap.chg (by exact hown)
                    have HA := Lib.hid (And.intro hap.own hapc)
                    clear hap hapc hown
                    go_wp2
                    go_roundw
                    case rel =>
                      refine ⟨k + 1, row ++ [(k : Int)], A6, c6, hlt, by simp, by simp, by rw [ready_take HR.out.1, HC.out, ← HR.out.2.1]; simp, ?_, Chg.trans_new (by repeat' (first | exact HR.out.2.2.1 | apply Chg.drew | apply Chg.drewN)) HA.out.2 fun b t hb h => by omega⟩
                      have := HA.out.1
                      unfold IntsN
                      rw [intV_snoc, List.length_append]
                      exact this
                    case measure => simp [intOf]; omega
                · have hpf : decide (0 ≤ pv) = true := hps
                  have HC := Lib.hid (show canC H ⟨true, (j : Int) + 1, val⟩ = true by rw [hcan]; simp)
                  clear hcan hps
                  go_wp2_with fail
                  go_quiet (fail)
                  go_wp2_with (at_builtin; go_must (refine wpList_append_new rfl (.tmp 111) (.tmp 113) 28 rfl w.heap.size 3 i3 (.int .i64 0) 1 8 Try.underlying28 hi3 hz3 hs3 hb3 rfl (by omega) A2 row.length c2 (intV row) rfl (by exact hown) 1 1 [.int .i64 (k : Int)] rfl (by first | rfl | simp) rfl (by intro u hu; simp at hu; subst hu; rfl) (by simp only [maxLen]; omega) (by omega) (by exact hsz2) ?_))
                  intro A6 c6 w7 hap
                  have hapc := hap.chg (by exact hown)
                  have HA := Lib.hid (And.intro hap.own hapc)
                  clear hap hapc hown
                  go_wp2
                  go_roundw
                  case rel =>
                    refine ⟨k + 1, row ++ [(k : Int)], A6, c6, hlt, by simp, by simp, by rw [ready_take HR.out.1, HC.out, ← HR.out.2.1]; simp, ?_, Chg.trans_new (by repeat' (first | exact HR.out.2.2.1 | apply Chg.drew | apply Chg.drewN)) HA.out.2 fun b t hb h => by omega⟩
                    have := HA.out.1
                    unfold IntsN
                    rw [intV_snoc, List.length_append]
                    exact this
                  case measure => simp [intOf]; omega
              · have HC := Lib.hid (show canC H ⟨true, (j : Int) + 1, val⟩ = true by rw [hcan]; simp only [roomC]; simp [hr])
                clear hcan hps
                go_wp2_with fail
                go_quiet (fail)
                go_wp2_with (at_builtin; go_must (refine wpList_append_new rfl (.tmp 111) (.tmp 113) 28 rfl w.heap.size 3 i3 (.int .i64 0) 1 8 Try.underlying28 hi3 hz3 hs3 hb3 rfl (by omega) A2 row.length c2 (intV row) rfl (by exact hown) 1 1 [.int .i64 (k : Int)] rfl (by first | rfl | simp) rfl (by intro u hu; simp at hu; subst hu; rfl) (by simp only [maxLen]; omega) (by omega) (by exact hsz2) ?_))
                intro A6 c6 w7 hap
                have hapc := hap.chg (by exact hown)
                have HA := Lib.hid (And.intro hap.own hapc)
                clear hap hapc hown
                go_wp2
                go_roundw
                case rel =>
                  refine ⟨k + 1, row ++ [(k : Int)], A6, c6, hlt, by simp, by simp, by rw [ready_take HR.out.1, HC.out, ← HR.out.2.1]; simp, ?_, Chg.trans_new (by repeat' (first | exact HR.out.2.2.1 | apply Chg.drew | apply Chg.drewN)) HA.out.2 fun b t hb h => by omega⟩
                  have := HA.out.1
                  unfold IntsN
                  rw [intV_snoc, List.length_append]
                  exact this
                case measure => simp [intOf]; omega
        · obtain rfl : k = l.length := by omega
          rw [List.take_length] at hrow
          have hrow' : readyA H l = row := by rw [hrow]; simp [readyA, HK.out.1, readyC]
          have HR := Lib.hid (And.intro hrow' (And.intro hown hch))
          clear hrow hrow' hown hch
          go_wp2_with fail
          go_ret2
          exact ⟨A2, c2, by rw [HR.out.1]; simp [readyE, HK.out.1], by rw [HR.out.1]; exact HR.out.2.1, HR.out.2.2⟩
end Go.Proofs.Ytclllnoohoonoaa
