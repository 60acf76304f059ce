/-
  chans: Buffer, Drop.
-/
import Derived.Test.YtclllnoohoonoaaOps1
namespace Go.Proofs.Ytclllnoohoonoaa
open Go.RowKit
set_option linter.unusedVariables false
set_option linter.unusedSimpArgs false

def bufC (H : HubD) (c : Int) : List Nat × Int :=
  if c < 1 ∨ (H.list.length : Int) < c then ([], 15) else match H.list[(c - 1).toNat]? with
    | none => ([], 15)
    | some ch => (ch.buf, 0)
def BufRes (r : List Nat × Int) (w : World) (e : Ending) (w' : World) : Prop := ∃ A c, e = .returned (.tuple #[.slice A r.1.length c, .int .i64 r.2]) ∧ QR w' 41 (.slice A r.1.length c) (u64V r.1) ∧ (∀ b, (Value.slice A r.1.length c).ownBlock = some b → w.heap.size ≤ b) ∧ Chg (fun _ _ => False) w w'
set_option maxRecDepth 100000 in
set_option maxHeartbeats 2000000 in
theorem buffer_any (w : World) (G : Nat → Prop) (p : Nat) (H : HubD) (hH : HubR G w p H) (hs : SmallH H) (hok : okH H) (c : Int) :
    Calls Try.prog 11 #[.pointer (some ⟨p, 0, none⟩), .int .i64 c] w (BufRes (bufC H c) w) := by
  obtain ⟨A, cc, A', c', hI⟩ := hH
  obtain ⟨d0, d1⟩ := hI.blk.cells2
  have hnl := hs.list
  by_cases h1 : c < 1
  · have HE := Lib.hid (show bufC H c = ([], 15) by simp [bufC, h1])
    have h1' : decide (c < 1) = true := decide_eq_true h1
    clear h1 hI hs hok
    go_enter Try.func11, Try.ntmps11
    go_wp2_with fail
    go_ret2
    rw [HE.out]
    exact ⟨none, 0, rfl, QR.nil _ _, fun b hb => by simp [Value.ownBlock] at hb, Chg.refl _ _⟩
  · by_cases h2 : (H.list.length : Int) < c
    · have HE := Lib.hid (show bufC H c = ([], 15) by simp [bufC, h2])
      have h1' : decide (c < 1) = false := decide_eq_false h1
      have h2' : decide ((H.list.length : Int) < c) = true := decide_eq_true h2
      clear h1 h2 hI hs hok
      go_enter Try.func11, Try.ntmps11
      go_wp2_with fail
      go_ret2
      rw [HE.out]
      exact ⟨none, 0, rfl, QR.nil _ _, fun b hb => by simp [Value.ownBlock] at hb, Chg.refl _ _⟩
    · obtain ⟨k, rfl⟩ : ∃ k : Nat, c = (k : Int) + 1 := ⟨(c - 1).toNat, by omega⟩
      have hkl : k < H.list.length := by omega
      obtain ⟨g, ch, v, rfl, hlc, hkx, hGg, hgb, hsi, hq, hu, hvG, z0, z1, z2, hfz⟩ := hI.chans.at_ hkl
      obtain ⟨o0, o1, o2⟩ := hok k ch hkx
      have HE := Lib.hid (show bufC H ((k : Int) + 1) = (ch.buf, 0) by
        unfold bufC
        rw [if_neg (by omega), show ((k : Int) + 1 - 1).toNat = k by omega, hkx])
      obtain ⟨nA, cq, hv, hnn⟩ := hq.form
      rw [u64V_len] at hv
      subst hv
      have hbl : ch.buf.length ≤ 1099511627776 := by omega
      have hw1 : IntKind.i64.wrap ((k : Int) + 1 - 1) = (k : Int) := by rw [show ((k : Int) + 1 - 1) = (k : Int) by omega]; exact IntWalk.i64_in _ (by omega)
      have h1' : decide ((k : Int) + 1 < 1) = false := decide_eq_false h1
      have h2' : decide ((H.list.length : Int) < (k : Int) + 1) = false := decide_eq_false h2
      have hk0 : (0 : Int) ≤ (k : Int) := by omega
      have hk1 : (k : Int) < (H.list.length : Int) := by omega
      have HQ := Lib.hid hq
      clear hI hs hok hkx hGg hgb hsi hq hu hvG hfz o0 o1 o2 hnn h1 h2
      go_enter Try.func11, Try.ntmps11
      go_wp2_with fail
      refine (cloneU_any _ nA _ cq ch.buf rfl HQ.out hbl).mono fun e w2 hh => ?_
      obtain ⟨A2, c2, rfl, hq2, hb2, hc2⟩ := hh
      have H2 := Lib.hid (And.intro hq2 (And.intro hb2 hc2))
      clear hq2 hb2 hc2
      go_wp2_with fail
      go_ret2
      rw [HE.out]
      exact ⟨A2, c2, rfl, H2.out⟩
def DropRes (r : Int) (G : Nat → Prop) (p : Nat) (H' : HubD) (w : World) (e : Ending) (w' : World) : Prop := e = .returned (.int .i64 r) ∧ HubP G w w' p H'
theorem drop_eq (H : HubD) (who : Int) : dropC H who = if idxI (eqI who) (whos H) < 0 then (H, 15) else (unwait H (idxI (eqI who) (whos H)).toNat, 0) := by
  unfold dropC idxI
  have : (whos H).findIdx? (fun x => x == who) = (whos H).findIdx? (eqI who) := by
    congr 1
    funext x
    unfold eqI
    by_cases h : who = x
    · subst h; simp
    · rw [decide_eq_false h]
      exact beq_eq_false_iff_ne.2 (Ne.symm h)
  rw [show (H.wait.map fun x => x.who) = whos H from rfl, this]
  cases (whos H).findIdx? (eqI who) with
  | none => simp
  | some i => simp
theorem idx_lt {α : Type} {P : α → Bool} {l : List α} (h : ¬ idxI P l < 0) : ∃ i : Nat, idxI P l = (i : Int) ∧ i < l.length := by
  unfold idxI at *
  cases hf : l.findIdx? P with
  | none => rw [hf] at h; exact absurd (by decide) h
  | some i => exact ⟨i, rfl, (List.findIdx?_eq_some_iff_getElem.1 hf).1⟩
set_option maxRecDepth 100000 in
set_option maxHeartbeats 4000000 in
theorem drop_any (w : World) (G : Nat → Prop) (p : Nat) (H : HubD) (hH : HubR G w p H) (hs : SmallH H) (who : Int) :
    Calls Try.prog 26 #[.pointer (some ⟨p, 0, none⟩), .int .i64 who] w (DropRes (dropC H who).2 G p (dropC H who).1 w) := by
  have HH := Lib.hid (And.intro hH (And.intro hs (fun b hb => hH.lt (b := b) hb)))
  have HE := Lib.hid (drop_eq H who)
  clear hH hs
  go_enter Try.func26, Try.ntmps26
  go_wp2_with fail
  refine (waiting_any _ G p H HH.out.1 HH.out.2.1).mono fun e w1 hh => ?_
  obtain ⟨A2, c2, rfl, hrow, hc1⟩ := hh
  have hwl : (whos H).length ≤ 1099511627776 := by have := HH.out.2.1.wait; simpa [whos] using this
  have hr1 : IntsT w1 (.slice A2 (whos H).length c2) (whos H) := hrow.read
  have H1 := Lib.hid (And.intro hr1 hc1)
  clear hrow hr1 hc1
  rw [show (H.wait.map fun x => x.who) = whos H from rfl]
  go_wp2_with fail
  refine (indexI_any _ A2 c2 (whos H) who H1.out.1 hwl).mono fun e w2 hh => ?_
  obtain ⟨rfl, hc2⟩ := hh
  have H2 := Lib.hid (H1.out.2.trans hc2)
  clear hc2
  by_cases h0 : idxI (eqI who) (whos H) < 0
  · have HE2 := Lib.hid (HE.out.trans (if_pos h0))
    have h0' : decide (idxI (eqI who) (whos H) < 0) = true := decide_eq_true h0
    clear h0
    generalize idxI (eqI who) (whos H) = n at h0' ⊢
    go_wp2_with fail
    go_ret
    rw [HE2.out]
    exact ⟨rfl, HubP.same HH.out.1 H2.out⟩
  · have HE2 := HE.out.trans (if_neg h0)
    obtain ⟨i, hi, hil⟩ := idx_lt h0
    rw [hi] at HE2 ⊢
    rw [Int.toNat_natCast] at HE2
    have hil' : i < H.wait.length := by simpa [whos] using hil
    have HE3 := Lib.hid HE2
    clear h0 HE2 hi hil
    obtain ⟨A, c, A', c', hI⟩ := HH.out.1.keep H2.out (fun _ _ _ => id) (fun _ => id)
    obtain ⟨xss, how, h2, h3, h4⟩ := hI.waits
    obtain ⟨g, cs, rfl, hnc, hcs, hgl, hgb, hcell, hfz⟩ := own_at how h2 h3 hil'
    obtain ⟨d0, d1⟩ := hI.blk.cells2
    have hn := HH.out.2.1.wait
    have HI := Lib.hid (And.intro hI (And.intro how (And.intro h2 (And.intro h3 h4))))
    clear hI how h2 h3 h4 hcs hgb hcell hfz
    go_wp2_with fail
    have hd := del_any _ g c' H.wait.length i (i + 1) xss HI.out.2.1 HI.out.2.2.1 HI.out.2.2.2.1 (one_wait HI.out.2.2.1 HI.out.2.2.2.2) hil' rfl
    rw [show ((i + 1 : Nat) : Int) = (i : Int) + 1 by omega] at hd
    refine hd.mono fun e w3 hh => ?_
    clear hd
    obtain ⟨rfl, how3, hc3⟩ := hh
    obtain ⟨hI2, how2, h2, h3, h4⟩ := HI.out
    have hG : G g := hI2.wown g rfl
    have hel : (H.wait.eraseIdx i).length = H.wait.length - 1 := List.length_eraseIdx_of_lt hil'
    have hrow := RowR.erase (R := WaitV) (w' := w3) h2 h3 h4 (fun cs x h => WaitV.keep h hc3 fun b h => absurd h.2 (by decide)) hil' how3
    have hset := hI2.setWait (l' := H.wait.eraseIdx i) (hc3.mono fun b t _ h => ⟨by rw [h.1]; exact hG, h.2⟩) hrow (fun b hb => by
      have : g = b := by simpa [Value.ownBlock] using hb
      subst this
      exact .inl hG)
    rw [hel] at hset
    obtain ⟨hP, hb3⟩ := hset
    obtain ⟨e0, e1⟩ := hb3.cells2
    have ez := hb3.frozen 1
    have HP := Lib.hid (HubP.trans_new H2.out hP HH.out.2.2)
    clear hP hb3 hrow how3 hc3 hI2 how2 h2 h3 h4 hel
    go_wp2_with fail
    go_ret
    rw [HE3.out]
    exact ⟨rfl, HP.out⟩
end Go.Proofs.Ytclllnoohoonoaa
