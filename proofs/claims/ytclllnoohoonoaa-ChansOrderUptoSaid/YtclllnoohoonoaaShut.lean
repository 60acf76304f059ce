/-
  chans: a channel is shut (Shut).
-/
import Derived.Test.YtclllnoohoonoaaOps2
namespace Go.Proofs.Ytclllnoohoonoaa
open Go.RowKit
set_option linter.unusedVariables false
set_option linter.unusedSimpArgs false

def isAt (c : Int) (x : CaseC) : Bool := decide (x.chan = c)
theorem anyAt_idx (c : Int) : ∀ l : List CaseC, anyAt c l = l.findIdx? (isAt c)
  | [] => rfl
  | x :: l => by
    rw [anyAt, List.findIdx?_cons, anyAt_idx c l]
    by_cases h : x.chan = c <;> simp [isAt, h]
set_option maxRecDepth 100000 in
theorem shut1_any (w : World) (g : Nat) (c : Int) (x : CaseC) (hb : Blk w g 3 #[.int .i64 c]) :
    Calls Try.prog 33 #[caseAgg x, .pointer (some ⟨g, 0, none⟩)] w (BoolRes (isAt c x) w) := by
  have d0 : w.cell? ⟨g, 0, none⟩ = some (.int .i64 c) := by simpa using hb.cell 0
  have hc0 := chg_alloc w (.cells #[.bool x.send, .int .i64 x.chan, .int .u64 x.val] 52)
  have e0 := hc0.cell d0 fun _ => id
  have H0 := Lib.hid hc0
  unfold caseAgg
  by_cases h : x.chan = c
  · have h' : (x.chan == c) = true := by simpa using h
    have HH := Lib.hid h
    clear h hc0
    go_enter Try.func33, Try.ntmps33
    go_wp2_with fail
    go_ret
    exact BoolRes.of (decide_eq_true HH.out).symm H0.out
  · have h' : (x.chan == c) = false := by simpa using h
    have HH := Lib.hid h
    clear h hc0
    go_enter Try.func33, Try.ntmps33
    go_wp2_with fail
    go_ret
    exact BoolRes.of (decide_eq_false HH.out).symm H0.out
def SrvN (w : World) (A : Option Addr) (c : Nat) (l : List SrvD) : Prop := RowR 0 59 4 SrvV w A c l
theorem SrvN.read {w : World} {A : Option Addr} {c : Nat} {l : List SrvD} (h : SrvN w A c l) : SrvsT w (.slice A l.length c) l := RowR.slr (by decide) h 0
def ShutRes (r : List SrvD × Int) (G : Nat → Prop) (p : Nat) (H' : HubD) (w : World) (e : Ending) (w' : World) : Prop := ∃ v, e = .returned (.tuple #[v, .int .i64 r.2]) ∧ SrvsT w' v r.1 ∧ HubP G w w' p H'
/-- How many wait, as the hub in memory says. -/
def waitLen (p : Nat) (w : World) : Nat := match w.cell? ⟨p, 1, none⟩ with
  | some (.slice _ n _) => n
  | _ => 0
/-- Some of those who wait have been looked at: 'kept' stay, 'rest' are to come. -/
def shutRel (G : Nat → Prop) (p cb : Nat) (w0 w1 : World) (c : Int) (H1 : HubD) (v i : Value) (wr : World) : Prop :=
  ∃ (kept rest : List WaitD) (tl : List SrvD) (A : Option Addr) (cap : Nat), leave c H1.wait = kept ++ leave c rest ∧ told c H1.wait = tl ++ told c rest ∧ kept.length + rest.length ≤ H1.wait.length ∧ tl.length + rest.length ≤ H1.wait.length ∧ (∀ x ∈ kept ++ rest, x ∈ H1.wait) ∧
    i = .int .i64 (kept.length : Int) ∧ v = .slice A tl.length cap ∧ SrvN wr A cap tl ∧ (∀ b, (Value.slice A tl.length cap).ownBlock = some b → w1.heap.size ≤ b) ∧ HubP G w1 wr p { H1 with wait := kept ++ rest } ∧ Blk wr cb 3 #[.int .i64 c]
theorem leave_cons (c : Int) (x : WaitD) (l : List WaitD) : leave c (x :: l) = if (anyAt c x.cases).isNone then x :: leave c l else leave c l := by simp [leave, List.filter_cons]
theorem told_cons (c : Int) (x : WaitD) (l : List WaitD) : told c (x :: l) = match anyAt c x.cases with
    | none => told c l
    | some k => ⟨x.who, (k : Int), 0, false⟩ :: told c l := by
  simp only [told, List.filterMap_cons]
  cases anyAt c x.cases <;> rfl
theorem erase_mid {α : Type} (x : α) (r : List α) : ∀ kept : List α, (kept ++ x :: r).eraseIdx kept.length = kept ++ r
  | [] => rfl
  | y :: kept => by simp [erase_mid x r kept]
theorem waitLen_eq {p n c : Nat} {w : World} {A : Option Addr} (h : w.cell? ⟨p, 1, none⟩ = some (.slice A n c)) : waitLen p w = n := by simp [waitLen, h]
theorem any_idx_none {c : Int} {l : List CaseC} (h : idxI (isAt c) l < 0) : anyAt c l = none := by
  rw [anyAt_idx]
  unfold idxI at h
  cases hf : l.findIdx? (isAt c) with
  | none => rfl
  | some k => rw [hf] at h; simp only at h; omega
theorem any_idx_some {c : Int} {l : List CaseC} (h : ¬ idxI (isAt c) l < 0) : ∃ k : Nat, idxI (isAt c) l = (k : Int) ∧ anyAt c l = some k := by
  rw [anyAt_idx]
  unfold idxI at *
  cases hf : l.findIdx? (isAt c) with
  | none => rw [hf] at h; exact absurd (by decide) h
  | some k => exact ⟨k, rfl, rfl⟩
set_option maxRecDepth 100000 in
set_option maxHeartbeats 8000000 in
theorem shut_any (w : World) (G : Nat → Prop) (p : Nat) (H : HubD) (hH : HubR G w p H) (hs : SmallH H) (c : Int) :
    Calls Try.prog 16 #[.pointer (some ⟨p, 0, none⟩), .int .i64 c] w (ShutRes (shutC H c).2 G p (shutC H c).1 w) := by
  obtain ⟨i0, hi0, hz0, hs0, hb0⟩ := info_parts infoServed
  have hlt := fun b hb => hH.lt (b := b) hb
  have hcb := chg_alloc w (.cells #[.int .i64 c] 3)
  have hbb := Blk.new w 3 #[.int .i64 c]
  have hH1 := hH.keep hcb (fun _ _ _ => id) (fun _ => id)
  by_cases h0 : c = 0
  · subst h0
    have HH := Lib.hid (And.intro hH (And.intro hcb (show shutC H 0 = (H, [], 2) by simp [shutC])))
    clear hH hs hlt hH1 hcb hbb
    go_enter Try.func16, Try.ntmps16
    go_wp2_with fail
    go_ret2
    rw [HH.out.2.2]
    exact ⟨_, rfl, SrvsT.nil _ _, HubP.same HH.out.1 HH.out.2.1⟩
  · have h0' : (c == 0) = false := by simpa using h0
    obtain ⟨A, cc, A', c', hI⟩ := hH1
    obtain ⟨d0, d1⟩ := hI.blk.cells2
    by_cases h1 : c < 0
    · have HH := Lib.hid (And.intro hH (And.intro hcb (show shutC H c = (H, [], 15) by simp [shutC, h0, h1])))
      have h1' : decide (c < 0) = true := decide_eq_true h1
      clear hH hs hlt hcb hbb hI h0 h1
      go_enter Try.func16, Try.ntmps16
      go_wp2_with fail
      go_quiet (fail)
      rename_i nq
      go_wp2_with fail
      go_ret2
      rw [HH.out.2.2]
      exact ⟨_, rfl, SrvsT.nil _ _, HubP.same HH.out.1 (HH.out.2.1.drewN nq)⟩
    · by_cases h2 : (H.list.length : Int) < c
      · have HH := Lib.hid (And.intro hH (And.intro hcb (show shutC H c = (H, [], 15) by simp [shutC, h0, h2])))
        have h1' : decide (c < 0) = false := decide_eq_false h1
        have h2' : decide ((H.list.length : Int) < c) = true := decide_eq_true h2
        clear hH hs hlt hcb hbb hI h0 h1 h2
        go_enter Try.func16, Try.ntmps16
        go_wp2_with fail
        go_quiet (fail)
        rename_i nq
        go_wp2_with fail
        go_ret2
        rw [HH.out.2.2]
        exact ⟨_, rfl, SrvsT.nil _ _, HubP.same HH.out.1 (HH.out.2.1.drewN nq)⟩
      · obtain ⟨k, rfl⟩ : ∃ k : Nat, c = (k : Int) + 1 := ⟨(c - 1).toNat, by omega⟩
        have hkl : k < H.list.length := by omega
        obtain ⟨g, ch, v, rfl, hlc, hkx, hGg, hgb, hsi, hq, hu, hvG, z0, z1, z2, hfz⟩ := hI.chans.at_ hkl
        have hkb : (k : Int) ≤ 1099511627776 := by have := hs.list; omega
        have hk0 : (0 : Int) ≤ (k : Int) := by omega
        have hk1 : (k : Int) < (H.list.length : Int) := by omega
        have hw1 : IntKind.i64.wrap ((k : Int) + 1 - 1) = (k : Int) := by rw [show ((k : Int) + 1 - 1) = (k : Int) by omega]; exact IntWalk.i64_in _ (by omega)
        have h1' : decide ((k : Int) + 1 < 0) = false := decide_eq_false h1
        have h2' : decide ((H.list.length : Int) < (k : Int) + 1) = false := decide_eq_false h2
        cases hsh : ch.shut
        case true =>
          have HH := Lib.hid (And.intro hH (And.intro hcb (show shutC H ((k : Int) + 1) = (H, [], 21) by
            unfold shutC
            rw [if_neg h0, if_neg (by omega), show ((k : Int) + 1 - 1).toNat = k by omega, hkx]
            simp only [hsh, if_true])))
          rw [hsh] at z2
          clear hH hs hlt hcb hbb hI h0 h1 h2 hkx hGg hgb hsi hq hu hvG hfz hsh
          go_enter Try.func16, Try.ntmps16
          go_wp2_with fail
          go_quiet (fail)
          rename_i nq
          go_wp2_with fail
          go_quiet (fail)
          go_wp2_with fail
          go_ret2
          rw [HH.out.2.2]
          exact ⟨_, rfl, SrvsT.nil _ _, HubP.same HH.out.1 (by repeat' (first | exact HH.out.2.1 | apply Chg.drew | apply Chg.drewN))⟩
        case false =>
          have HE := Lib.hid (show shutC H ((k : Int) + 1) = ({ list := H.list.set k { ch with shut := true }, wait := leave ((k : Int) + 1) H.wait }, told ((k : Int) + 1) H.wait, 0) by
            unfold shutC
            rw [if_neg h0, if_neg (by omega), show ((k : Int) + 1 - 1).toNat = k by omega, hkx]
            simp only [hsh]
            simp)
          rw [hsh] at z2
          have HH := Lib.hid (And.intro hH (And.intro hcb (And.intro hs (And.intro hlt (And.intro hI (And.intro hkx (And.intro z1 (And.intro hsi (And.intro hq (And.intro hu hbb))))))))))
          have hfz2 := hfz (k * 3 + 2)
          have hgl : g < w.heap.size := hlt g hGg
          have hsm1 := hs.list
          have hsm2 := hs.wait
          clear hH hs hlt hcb hbb hI h0 h1 h2 hkx hGg hgb hsi hq hu hvG hfz hsh
          go_enter Try.func16, Try.ntmps16
          go_wp2_with fail
          go_quiet (fail)
          rename_i nq
          go_wp2_with fail
          go_quiet (fail)
          go_wp2_with fail
          generalize hw2 : World.drewN (World.drewN _ _) _ = w2
          have hcd : Chg (fun _ _ => False) (w.alloc (.cells #[.int .i64 ((k : Int) + 1)] 3)) w2 := by
            rw [← hw2]
            repeat' (first | exact Chg.refl (fun _ _ => False) _ | apply Chg.drew | apply Chg.drewN | apply Chg.alloc)
          clear hw2
          have y0 := hcd.cell z0 fun _ => id
          have y1 := hcd.cell z1 fun _ => id
          have y2 := hcd.cell z2 fun _ => id
          have e0 := hcd.cell d0 fun _ => id
          have e1 := hcd.cell d1 fun _ => id
          have hbb2 := hcd.blk HH.out.2.2.2.2.2.2.2.2.2.2 id
          have b0 : w2.cell? ⟨w.heap.size, 0, none⟩ = some (.int .i64 ((k : Int) + 1)) := by simpa using hbb2.cell 0
          have hset := (HH.out.2.2.2.2.1.keep hcd (fun _ _ _ => id) (fun _ => id)).setCoreI (x' := { ch with shut := true }) (j := 2) (u := .bool true) (v' := v) HH.out.2.2.2.2.2.1 y1 (Chg.refl _ _) (by decide) (by rfl) HH.out.2.2.2.2.2.2.2.1 (HH.out.2.2.2.2.2.2.2.2.1.keep hcd fun _ _ => id) HH.out.2.2.2.2.2.2.2.2.2.1 (fun b hb => .inl hb)
          have hbb3 := Blk.far hbb2 (p := ⟨g, k * 3 + 2, none⟩) (by show w.heap.size ≠ g; omega) (.bool true)
          have hfz3 := hset.2.2.2.2 (k * 3 + 2)
          have H2 := Lib.hid (And.intro hcd (And.intro hset hbb3))
          clear hcd z0 z1 z2 d0 d1 hbb2 hset hbb3 hfz2
          have hwk : IntKind.i64.wrap (k : Int) = (k : Int) := IntWalk.i64_in _ (by omega)
          go_still_tail 8, (by kernel_rfl)
          change wpList _ _ _ _ _ (World.drew _)
          go_wp2_with fail
          have hdr : Chg (fun _ _ => False) (w2.setCell ⟨g, k * 3 + 2, none⟩ (.bool true)) (w2.setCell ⟨g, k * 3 + 2, none⟩ (.bool true)).drew := (Chg.refl _ _).drew
          have H3 := Lib.hid (And.intro (H2.out.2.1.1.keep hdr (fun _ _ _ => id) (fun _ => id)) (And.intro (H2.out.2.1.2.2.1.trans (hdr.mono fun _ _ _ h => h.elim)) (H2.out.2.2.drew)))
          clear hdr y0 y1 y2 e0 e1 b0 hfz3
          generalize (w2.setCell ⟨g, k * 3 + 2, none⟩ (.bool true)).drew = w3 at H3 ⊢
          have hG1 : HubR (fun b => G b ∨ v.ownBlock = some b) w3 p (setCh H k { ch with shut := true }) := ⟨_, _, _, _, H3.out.1⟩
          obtain ⟨G1, hG1e⟩ : ∃ G1, (fun b => G b ∨ v.ownBlock = some b) = G1 := ⟨_, rfl⟩
          have hcase := HH.out.2.2.1.cases
          obtain ⟨H1, hH1⟩ : ∃ H1, setCh H k { ch with shut := true } = H1 := ⟨_, rfl⟩
          have hw1e : H1.wait = H.wait := by rw [← hH1]; rfl
          have hl1 : H1.list.length ≤ 1099511627776 := by rw [← hH1]; simpa [setCh] using hsm1
          rw [hG1e, hH1] at hG1
          have H4 := Lib.hid (And.intro hG1 (And.intro hG1e (And.intro hH1 (And.intro hw1e (And.intro hcase hl1)))))
          clear hG1 hG1e hH1 hw1e hcase hl1
          go_loopw [6, 7] (fun v i wr => shutRel G1 p w.heap.size w w3 ((k : Int) + 1) H1 v i wr) (fun _ i wr => waitLen p wr - (intOf i).toNat)
          case atStart => exact ⟨[], H1.wait, [], none, 0, rfl, rfl, by simp, by simp, fun x hx => hx, rfl, rfl, RowR.nil _ _ _ _ _, fun b hb => by simp [Value.ownBlock] at hb, HubP.same H4.out.1 (Chg.refl _ _), H3.out.2.2⟩
          case round =>
            obtain ⟨kept, rest, tl, A5, c5, hlv, htd, hn1, hn2, hmem, rfl, rfl, hrow, hfresh, hP, hbb⟩ := hrel
            obtain ⟨wo, rfl⟩ : ∃ wo : World, wo = wr := ⟨_, rfl⟩
            obtain ⟨G2, ⟨A6, c6, A7, c7, hI5⟩, hsub, hch⟩ := hP
            obtain ⟨f0, f1⟩ := hI5.blk.cells2
            have hlen : (kept ++ rest).length = kept.length + rest.length := List.length_append
            simp only [List.length_append] at f1
            have hm0 := waitLen_eq f1
            have hwt : H1.wait.length ≤ 1099511627776 := by rw [H4.out.2.2.2.1]; exact hsm2
            have hsm : SmallH { H1 with wait := kept ++ rest } := ⟨H4.out.2.2.2.2.2, by simp only [List.length_append]; omega, fun x hx => H4.out.2.2.2.2.1 x (by rw [← H4.out.2.2.2.1]; exact hmem x hx)⟩
            cases rest with
            | nil =>
              simp only [List.length_nil, Nat.add_zero] at f1 hm0
              have HR := Lib.hid (And.intro hlv (And.intro htd (And.intro hrow (And.intro hfresh (And.intro hI5 (And.intro hsub hch))))))
              clear hlv htd hrow hfresh hI5 hsub hch hmem hsm hbb
              go_wp2_with fail
              go_ret2
              rw [HE.out]
              obtain ⟨hlv, htd, hrow, hfresh, hI5, hsub, hch⟩ := HR.out
              have e1 : told ((k : Int) + 1) H.wait = tl := by rw [← H4.out.2.2.2.1, htd]; simp [told]
              have e2 : ({ list := H.list.set k { ch with shut := true }, wait := leave ((k : Int) + 1) H.wait } : HubD) = { H1 with wait := kept ++ [] } := by
                rw [← H4.out.2.2.2.1, hlv, ← H4.out.2.2.1]
                simp [setCh, leave]
              refine ⟨_, rfl, by rw [e1]; exact hrow.read, ?_⟩
              simp only [e2]
              refine HubP.trans_new HH.out.2.1 (HubP.trans_new H2.out.1 (HubP.comp (G1 := G1) ?_ H3.out.2.1 ⟨G2, ⟨_, _, _, _, hI5⟩, hsub, hch⟩) fun b hb => Nat.lt_of_lt_of_le (HH.out.2.2.2.1 b hb) (by simp)) HH.out.2.2.2.1
              intro b hb
              rw [← H4.out.2.1] at hb
              exact H2.out.2.1.2.1 b hb
            | cons x r =>
              obtain ⟨bw, ow, x', A8, c8, hA8, hx', _, hcs, hz⟩ := WaitsR.at3 (k := kept.length) (hI5.waits.slr (by decide) 0) (by simp)
              obtain rfl : x' = x := by
                simp at hx'
                exact hx'.symm
              subst hA8
              obtain ⟨v0, v1⟩ := hz _ _ (Chg.refl (fun _ _ => False) wo) fun _ => id
              have hxc : x'.cases.length ≤ 1099511627776 := hsm.cases x' (by simp)
              have hki : (kept.length : Int) < ((kept.length + (r.length + 1) : Nat) : Int) := by omega
              simp only [List.length_cons] at f1 hm0 hn1 hn2
              have HR := Lib.hid (And.intro hlv (And.intro htd (And.intro hrow (And.intro hfresh (And.intro hI5 (And.intro hsub (And.intro hch (And.intro hmem (And.intro hsm (And.intro hbb (And.intro hcs hm0)))))))))))
              clear hlv htd hrow hfresh hI5 hsub hch hmem hsm hbb hz hcs hx' hlen hm0
              have hkk : kept.length < kept.length + (r.length + 1) := by omega
              go_wp2_with fail
              refine (idxC_any _ 33 _ (isAt ((k : Int) + 1)) A8 c8 x'.cases HR.out.2.2.2.2.2.2.2.2.2.2.1 hxc enters_shut1 (fun w' y hc _ => shut1_any w' w.heap.size _ y (hc.blk HR.out.2.2.2.2.2.2.2.2.2.1 id))).mono fun e w5 hh => ?_
              obtain ⟨rfl, hc5⟩ := hh
              have h5sz := hc5.size
              have g1 := hc5.cell f1 fun _ => id
              have hm5 := waitLen_eq g1
              have H5 := Lib.hid (And.intro hc5 hm5)
              clear hc5 f0 f1 v0 v1 hm5
              by_cases hi0 : idxI (isAt ((k : Int) + 1)) x'.cases < 0
              · have HA := Lib.hid (any_idx_none hi0)
                have hi0' : decide (idxI (isAt ((k : Int) + 1)) x'.cases < 0) = true := decide_eq_true hi0
                clear hi0
                generalize idxI (isAt ((k : Int) + 1)) x'.cases = ni at hi0' ⊢
                go_wp2_with fail
                go_roundw
                case rel =>
                  obtain ⟨hlv, htd, hrow, hfresh, hI5, hsub, hch, hmem, hsm, hbb, hcs, hm0⟩ := HR.out
                  have hc5 := H5.out.1
                  refine ⟨kept ++ [x'], r, tl, A5, c5, ?_, ?_, by simp; omega, by omega, by simpa using hmem, by simp, rfl, hrow.keep1 hc5 (fun _ _ => id) fun _ _ h => h, hfresh, ?_, hc5.blk hbb id⟩
                  · rw [hlv, leave_cons, HA.out]; simp
                  · rw [htd, told_cons, HA.out]
                  · have : kept ++ [x'] ++ r = kept ++ x' :: r := by simp
                    rw [this]
                    exact HubP.then_new ⟨G2, ⟨_, _, _, _, hI5⟩, hsub, hch⟩ hc5
                case measure => rw [H5.out.2, HR.out.2.2.2.2.2.2.2.2.2.2.2]; simp [intOf]; omega
              · obtain ⟨kk, hik, hak⟩ := any_idx_some hi0
                have HA := Lib.hid hak
                rw [hik]
                clear hi0 hik hak
                have hkn : decide ((kk : Int) < 0) = false := decide_eq_false (by omega)
                go_wp2_with fail
                have hserve := serve_any _ G2 p { H1 with wait := kept ++ x' :: r } (HubR.keep ⟨_, _, _, _, HR.out.2.2.2.2.1⟩ H5.out.1 (fun _ _ _ => id) (fun _ => id)) HR.out.2.2.2.2.2.2.2.2.1 kept.length kk 0 false (by simp)
                refine hserve.mono fun e w6 hh => ?_
                clear hserve
                obtain ⟨rfl, hP6⟩ := hh
                have hsv : srvOf { H1 with wait := kept ++ x' :: r } kept.length kk 0 false = ⟨x'.who, (kk : Int), 0, false⟩ := by simp [srvOf]
                have hun : unwait { H1 with wait := kept ++ x' :: r } kept.length = { H1 with wait := kept ++ r } := by simp [unwait, erase_mid]
                rw [hsv]
                rw [hun] at hP6
                obtain ⟨xss, how, q2, q3, q4⟩ := HR.out.2.2.1
                have hc56 := (H5.out.1.mono (M' := MI G2) fun _ _ _ h => h.elim).trans hP6.chg
                have how6 := hc56.own how fun b hb h => by rcases h.2 with h | h | h | h <;> exact absurd h (by decide)
                have H6 := Lib.hid (And.intro hP6 (And.intro hc56 (And.intro q2 (And.intro q3 q4))))
                unfold srvAgg
                clear hP6 hsv hun how q2 q3 q4 hc56
                go_wp2_with (at_builtin; go_must (refine wpList_append_new rfl (.tmp 67) (.tmp 72) 49 rfl 0 59 i0 _ 4 32 Try.underlying49 hi0 hz0 hs0 hb0 rfl (by omega) A5 tl.length c5 xss.flatten rfl how6 1 1 [.int .i64 x'.who, .int .i64 kk, .int .u64 0, .bool false] rfl (by first | rfl | simp) rfl (by intro u hu; simp at hu; rcases hu with rfl | rfl | rfl | rfl <;> rfl) (by simp only [maxLen]; omega) (by omega) (Nat.zero_le _) ?_))
                intro A9 c9 w9 hap
                have hc69 := hap.chg1 how6
                have hp9 : HubP G1 w3 w9 p { H1 with wait := kept ++ r } := by
                  obtain ⟨hlv, htd, hrow, hfresh, hI5, hsub, hch, hmem, hsm, hbb, hcs, hm0⟩ := HR.out
                  refine (HubP.comp hsub hch (HubP.trans_new H5.out.1 H6.out.1 hI5.lt)).other hc69 (fun b t ht h => by rcases ht with h' | h' | h' | h' | h' <;> (rw [h'] at h; exact absurd h.2 (by decide))) fun b t h => hfresh b h.1
                have hcell9 : ∃ A c, w9.cell? ⟨p, 1, none⟩ = some (.slice A (kept.length + r.length) c) := by
                  obtain ⟨G9, ⟨_, _, A, c, h9⟩, _⟩ := hp9
                  have := h9.blk.cells2.2
                  simp only [List.length_append] at this
                  exact ⟨A, c, this⟩
                obtain ⟨A10, c10, h10⟩ := hcell9
                have H9 := Lib.hid (And.intro hp9 (And.intro (waitLen_eq h10) (And.intro hap (And.intro hc69 how6))))
                clear hp9 h10 hap hc69 how6
                go_wp2
                go_roundw
                case rel =>
                  obtain ⟨hlv, htd, hrow, hfresh, hI5, hsub, hch, hmem, hsm, hbb, hcs, hm0⟩ := HR.out
                  obtain ⟨hp9, h10, hap, hc69, how6⟩ := H9.out
                  refine ⟨kept, r, tl ++ [⟨x'.who, (kk : Int), 0, false⟩], A9, c9, ?_, ?_, by omega, by simp; omega, fun y hy => hmem y (by simp at hy ⊢; rcases hy with h | h <;> simp [h]), by simp, by simp, ?_, ?_, hp9, ?_⟩
                  · rw [hlv, leave_cons, HA.out]; simp
                  · rw [htd, told_cons, HA.out]; simp
                  · exact RowR.snoc (w := wo) H6.out.2.2.1 H6.out.2.2.2.1 H6.out.2.2.2.2 (fun _ _ h => h) hap.own rfl rfl
                  · intro b hb
                    have hb' : (Value.slice A9 (tl.length + 1) c9).ownBlock = some b := by simpa using hb
                    rcases hap.place with h | h
                    · rw [hb'] at h; exact hfresh b h.symm
                    · rw [hb'] at h
                      injection h with h
                      have s1 := hch.size
                      have s2 := H6.out.2.1.size
                      rw [h]
                      simp only [World.size_alloc]
                      omega
                  · refine hc69.blk (H6.out.2.1.blk hbb fun h => ?_) fun h => absurd h.2 (by decide)
                    rcases h.2 with h | h | h | h <;> exact absurd h (by decide)
                case measure => rw [H9.out.2.1, HR.out.2.2.2.2.2.2.2.2.2.2.2]; simp [intOf]
end Go.Proofs.Ytclllnoohoonoaa
