/-
  chans: one of some cases goes on, or all wait (Do).
-/
import Derived.Test.YtclllnoohoonoaaClone
import Derived.Deep.RegionHeld3
namespace Go.Proofs.Ytclllnoohoonoaa
open Go.RowKit
set_option linter.unusedVariables false
set_option linter.unusedSimpArgs false

theorem results_tmp5 {fn : Func} {a b c d e : Tmp} (h : fn.results = #[.tmp a, .tmp b, .tmp c, .tmp d, .tmp e]) (tmps : Array Value) (P : Program) (w : World) :
    (results fn tmps).run P w = .ok (.tuple #[tmps.getD a undef, tmps.getD b undef, tmps.getD c undef, tmps.getD d undef, tmps.getD e undef]) w := by
  simp [results, h]
def DoRes (d : DoneD) (G : Nat → Prop) (p : Nat) (H' : HubD) (w : World) (e : Ending) (w' : World) : Prop :=
  ∃ v, e = .returned (.tuple #[.int .i64 d.at_, .int .u64 (d.val : Int), .bool d.ok, v, .int .i64 d.e]) ∧ SrvsT w' v d.served ∧ HubP G w w' p H'
def whos (H : HubD) : List Int := H.wait.map (·.who)
theorem contains_any (l : List Int) (n : Int) : l.contains n = l.any (eqI n) := by
  induction l with
  | nil => rfl
  | cons x l ih => rw [List.contains_cons, List.any_cons, ih]; congr 1
theorem ready_mem (h : HubD) : ∀ (l : List CaseC) (i m : Nat) (a : Int), (readyFrom h i l)[m]? = some a → ∃ (j : Nat) (x : CaseC), a = ((i + j : Nat) : Int) ∧ l[j]? = some x ∧ canC h x = true
  | [], i, m, a, hm => by simp [readyFrom] at hm
  | y :: l, i, m, a, hm => by
    rw [readyFrom] at hm
    split at hm
    · rename_i hy
      cases m with
      | zero =>
        simp at hm
        exact ⟨0, y, by simpa using hm.symm, rfl, hy⟩
      | succ m =>
        obtain ⟨j, x, h1, h2, h3⟩ := ready_mem h l (i + 1) m a (by simpa using hm)
        exact ⟨j + 1, x, by rw [h1]; congr 1; omega, by simpa using h2, h3⟩
    · obtain ⟨j, x, h1, h2, h3⟩ := ready_mem h l (i + 1) m a hm
      exact ⟨j + 1, x, by rw [h1]; congr 1; omega, by simpa using h2, h3⟩
section
variable {H : HubD} {who pick : Int} {cases : List CaseC} {wait : Bool}
theorem doC_neg (h : pick < 0) : doC H who cases pick wait = (H, bad 2) := by simp [doC, h]
theorem doC_twice (h : 0 ≤ pick) (h2 : (whos H).any (eqI who) = true) : doC H who cases pick wait = (H, bad 8) := by
  unfold doC
  rw [if_neg (by omega), if_pos (by rw [contains_any]; exact h2)]
theorem doC_none (h : 0 ≤ pick) (h2 : (whos H).any (eqI who) = false) (h3 : knownC H.list.length cases = false) : doC H who cases pick wait = (H, bad 15) := by
  unfold doC
  rw [if_neg (by omega), if_neg (by rw [contains_any]; show ¬ (whos H).any (eqI who) = true; rw [h2]; simp), if_pos h3]
theorem doC_wait (h : 0 ≤ pick) (h2 : (whos H).any (eqI who) = false) (h3 : knownC H.list.length cases = true) (h4 : readyC H cases = []) : doC H who cases pick wait = (if wait then { H with wait := H.wait ++ [⟨who, cases⟩] } else H, bad 22) := by
  unfold doC
  rw [if_neg (by omega), if_neg (by rw [contains_any]; show ¬ (whos H).any (eqI who) = true; rw [h2]; simp), if_neg (by rw [h3]; simp), h4]
theorem doC_at {pn j : Nat} {x : CaseC} {a : Int} {r : List Int} (h : pick = (pn : Int)) (h2 : (whos H).any (eqI who) = false) (h3 : knownC H.list.length cases = true) (h4 : readyC H cases = a :: r) (h5 : (a :: r).getD (pn % (r.length + 1)) 0 = (j : Int)) (h6 : cases[j]? = some x) :
    doC H who cases pick wait = if x.send = false then ((recvC H x.chan).1, ⟨j, (recvC H x.chan).2.1, (recvC H x.chan).2.2.1, (recvC H x.chan).2.2.2, 0⟩) else if shutOf H x.chan then (H, ⟨j, 0, false, [], 21⟩) else ((sendC H x).1, ⟨j, 0, true, (sendC H x).2, 0⟩) := by
  subst h
  unfold doC
  rw [if_neg (by omega), if_neg (by rw [contains_any]; show ¬ (whos H).any (eqI who) = true; rw [h2]; simp), if_neg (by rw [h3]; simp), h4]
  simp only [Int.toNat_natCast, h5, h6]
end
theorem wait_end {G : Nat → Prop} {W0 W w6 : World} {A A' A5 A6 : Option Addr} {c c' c5 c6 p : Nat} {H : HubD} {xss : List (List Value)} {who : Int} {cases : List CaseC} (hI : HubI G W0 p A c A' c' H) (h2 : xss.length = H.wait.length) (h3 : ∀ cs ∈ xss, cs.length = 2) (h4 : ∀ (k : Nat) x cs, H.wait[k]? = some x → xss[k]? = some cs → WaitV W0 cs x)
    (how : W0.ownsRow 0 80 2 (.slice A' H.wait.length c') H.wait.length xss.flatten) (hc : Chg (fun _ _ => False) W0 W) (hown6 : w6.ownsRow 0 80 2 (.slice A6 (H.wait.length + 1) c6) (H.wait.length + 1) (xss.flatten ++ [.int .i64 who, .slice A5 cases.length c5])) (hg : W.grownBy w6 (Value.slice A' H.wait.length c').ownBlock)
    (hpl : (Value.slice A6 (H.wait.length + 1) c6).ownBlock = (Value.slice A' H.wait.length c').ownBlock ∨ (Value.slice A6 (H.wait.length + 1) c6).ownBlock = some W.heap.size) (hcl : CasesC W (.slice A5 cases.length c5) cases) (hwho : I64 who) :
    HubP G W0 (w6.setCell ⟨p, 1, none⟩ (.slice A6 (H.wait.length + 1) c6)) p { H with wait := H.wait ++ [⟨who, cases⟩] } ∧ w6.cell? ⟨p, 1, none⟩ = some (.slice A' H.wait.length c') ∧ w6.frozen? ⟨p, 1, none⟩ = false := by
  have hcW := own_chg (hc.own how fun _ _ => id) hg
  have hc6 : Chg (fun b t => G b ∧ t = 80) W0 w6 := (hc.mono fun _ _ _ h => h.elim).trans (hcW.mono fun b t _ h => ⟨hI.wown b h.1, h.2⟩)
  have hrow : RowR 0 80 2 WaitV w6 A6 c6 (H.wait ++ [⟨who, cases⟩]) := RowR.snoc (w := W0) h2 h3 h4 (fun cs x h => (h.keep hc fun _ => id).keep hcW fun b h => absurd h.2 (by decide)) hown6 rfl ⟨A5, c5, rfl, hwho, hcl.keep hcW fun b h => absurd h.2 (by decide)⟩
  have hset := hI.setWait (l' := H.wait ++ [⟨who, cases⟩]) hc6 hrow (fun b hb => by
    simp only [List.length_append, List.length_singleton] at hb
    rcases hpl with h | h
    · rw [h] at hb; exact .inl (hI.wown b hb)
    · rw [h] at hb; injection hb with hb; exact .inr (by rw [← hb]; exact hc.size))
  simp only [List.length_append, List.length_singleton] at hset
  exact ⟨hset.1, hset.2.cells2.2, hset.2.frozen 1⟩
set_option maxRecDepth 100000 in
set_option maxHeartbeats 8000000 in
theorem do_any (w : World) (G : Nat → Prop) (p : Nat) (H : HubD) (hH : HubR G w p H) (hs : SmallH H) (hok : okH H) (who : Int) (hwho : I64 who) (cases : List CaseC) (A1 : Option Addr) (c1 : Nat) (hl : CasesC w (.slice A1 cases.length c1) cases) (hn : cases.length ≤ 1099511627776) (pick : Int) (hpi : I64 pick) (wait : Bool) :
    Calls Try.prog 15 #[.pointer (some ⟨p, 0, none⟩), .int .i64 who, .slice A1 cases.length c1, .int .i64 pick, .bool wait] w (DoRes (doC H who cases pick wait).2 G p (doC H who cases pick wait).1 w) := by
  have HH := Lib.hid (And.intro hH (And.intro hs (And.intro hok (And.intro hl (And.intro (fun b hb => hH.lt (b := b) hb) hwho)))))
  clear hH hs hok hl hwho
  by_cases hneg : pick < 0
  · rw [doC_neg hneg]
    have hneg' : decide (pick < 0) = true := decide_eq_true hneg
    clear hneg
    go_enter Try.func15, Try.ntmps15
    go_wp2_with fail
    refine bodyPost_ret (results_tmp5 rfl _ _ _) rfl ?_
    exact ⟨_, rfl, SrvsT.nil _ _, HubP.same HH.out.1 (Chg.refl _ _)⟩
  have hneg' : decide (pick < 0) = false := decide_eq_false hneg
  have HN := Lib.hid (show 0 ≤ pick by omega)
  go_enter Try.func15, Try.ntmps15
  go_wp2_with fail
  refine (waiting_any _ G p H HH.out.1 HH.out.2.1).mono fun e w1 hh => ?_
  obtain ⟨A2, c2, rfl, hrow, hc1⟩ := hh
  have hwl : (whos H).length ≤ 1099511627776 := by have := HH.out.2.1.wait; simpa [whos] using this
  have hr1 : IntsT w1 (.slice A2 (whos H).length c2) (whos H) := hrow.read
  have H1 := Lib.hid (And.intro hr1 hc1)
  clear hrow hr1 hc1
  rw [show (H.wait.map fun x => x.who) = whos H from rfl]
  go_wp2_with fail
  refine (contI_any _ A2 c2 (whos H) who H1.out.1 hwl).mono fun e w2 hh => ?_
  obtain ⟨rfl, hc2⟩ := hh
  have H2 := Lib.hid (H1.out.2.trans hc2)
  clear hc2
  cases htw : (whos H).any (eqI who)
  case true =>
    have HE := Lib.hid (doC_twice (cases := cases) (wait := wait) HN.out htw)
    clear htw
    go_wp2_with fail
    refine bodyPost_ret (results_tmp5 rfl _ _ _) rfl ?_
    rw [HE.out]
    exact ⟨_, rfl, SrvsT.nil _ _, HubP.same HH.out.1 H2.out⟩
  have HT := Lib.hid htw
  clear htw
  go_wp2_with fail
  refine (ready_any _ G p H (HH.out.1.keep H2.out (fun _ _ _ => id) (fun _ => id)) HH.out.2.1 A1 c1 cases (HH.out.2.2.2.1.keep H2.out fun _ => id) hn).mono fun e w3 hh => ?_
  obtain ⟨A3, c3, rfl, hrow, hc3⟩ := hh
  have H3 := Lib.hid (And.intro hrow.read (H2.out.trans hc3))
  clear hrow hc3
  cases hk : knownC H.list.length cases
  case false =>
    have HE := Lib.hid (doC_none (wait := wait) HN.out HT.out hk)
    rw [show readyE H cases = 15 by simp [readyE, hk]]
    clear hk
    go_wp2_with fail
    refine bodyPost_ret (results_tmp5 rfl _ _ _) rfl ?_
    rw [HE.out]
    exact ⟨_, rfl, SrvsT.nil _ _, HubP.same HH.out.1 H3.out.2⟩
  have he : readyE H cases = 0 := by simp [readyE, hk]
  have ha : readyA H cases = readyC H cases := by simp [readyA, hk]
  rw [he, ha]
  rw [ha] at H3
  have HK := Lib.hid hk
  clear hk he ha
  cases hrc : readyC H cases with
  | nil =>
    have HE := Lib.hid (doC_wait (wait := wait) HN.out HT.out HK.out hrc)
    rw [hrc] at H3
    clear hrc
    cases wait
    · go_wp2_with fail
      refine bodyPost_ret (results_tmp5 rfl _ _ _) rfl ?_
      rw [HE.out]
      exact ⟨_, rfl, SrvsT.nil _ _, HubP.same HH.out.1 H3.out.2⟩
    · obtain ⟨A, cc, A', c', hI⟩ := HH.out.1.keep H3.out.2 (fun _ _ _ => id) (fun _ => id)
      obtain ⟨i0, hi0, hz0, hs0, hb0⟩ := info_parts infoWaiter
      obtain ⟨d0, d1⟩ := hI.blk.cells2
      have hnw := HH.out.2.1.wait
      obtain ⟨xss, how, h2, h3, h4⟩ := hI.waits
      have HI := Lib.hid (And.intro hI (And.intro (HH.out.2.2.2.1.keep H3.out.2 fun _ => id) (And.intro how (And.intro h2 (And.intro h3 h4)))))
      clear hI how h2 h3 h4
      go_wp2_with fail
      go_region_law (
        first
          | (refine step_append_blk _ rfl (.tmp 44) (.tmp 49) 73 rfl 0 80 i0 _ 2 32 Try.underlying73 hi0 hz0 hs0 hb0 rfl (by omega) A' H.wait.length c' xss.flatten (by rfl) (Chg.own (M := fun _ _ => False) (hX.trans (by repeat' (first | exact Chg.refl (fun _ _ => False) _ | apply Chg.drew | apply Chg.drewN | apply Chg.alloc))) HI.out.2.2.1 fun _ _ => id) 1 1 [.int .i64 who, .slice A5 cases.length c5] _ (by rfl) (by first | exact Blk.new _ _ _ | exact (Blk.new _ _ _).drew) rfl (by intro u hu; simp at hu; rcases hu with rfl | rfl <;> rfl) (by unfold maxLen; omega) (by omega) (Nat.zero_le _) ?_
             intro A6 c6 w6 hown6 hg6 hp6
             obtain ⟨hP, f0, f1⟩ := wait_end HI.out.1 HI.out.2.2.2.1 HI.out.2.2.2.2.1 HI.out.2.2.2.2.2 HI.out.2.2.1 (hX.trans (by repeat' (first | exact Chg.refl (fun _ _ => False) _ | apply Chg.drew | apply Chg.drewN | apply Chg.alloc))) hown6 hg6 hp6 (hcl.keep (by repeat' (first | exact Chg.refl (fun _ _ => False) _ | apply Chg.drew | apply Chg.drewN | apply Chg.alloc)) fun _ => id) HH.out.2.2.2.2.2
             have HP := Lib.hid hP
             clear hown6 hg6 hp6 hP)
          | (go_simp
             go_at_call 29
             refine (cloneC_any _ _ _ _ cases rfl (HI.out.2.1.keep (by repeat' (first | exact Chg.refl (fun _ _ => False) _ | apply Chg.drew | apply Chg.drewN | apply Chg.alloc)) fun _ => id) hn).mono ?_
             rintro e w' ⟨A5, c5, rfl, hcl, hcc⟩
             have hS := hcc.cell d1 fun _ => id
             have hX : Chg (fun _ _ => False) w3 w' := Chg.trans (by repeat' (first | exact Chg.refl (fun _ _ => False) _ | apply Chg.drew | apply Chg.drewN | apply Chg.alloc)) hcc
             have hSn : ∀ n o, ((w'.drewN n).alloc o).cell? ⟨p, 1, none⟩ = some (.slice A' H.wait.length c') := fun n o => (((Chg.refl (fun _ _ => False) w').drewN n).alloc _).cell hS fun _ => id
             have hSa : ∀ o, (w'.alloc o).cell? ⟨p, 1, none⟩ = some (.slice A' H.wait.length c') := fun o => ((Chg.refl (fun _ _ => False) w').alloc _).cell hS fun _ => id))
      all_goals
        go_wp2_with fail
        refine bodyPost_ret (results_tmp5 rfl _ _ _) rfl ?_
        rw [HE.out]
        simp only [if_true]
        exact ⟨_, rfl, SrvsT.nil _ _, (HubP.trans_new H3.out.2 HP.out HH.out.2.2.2.2.1).then_new (by repeat' (first | exact Chg.refl (fun _ _ => False) _ | apply Chg.drew | apply Chg.drewN))⟩
  | cons a r =>
    rw [hrc] at H3
    obtain ⟨pn, rfl⟩ : ∃ pn : Nat, pick = (pn : Int) := ⟨pick.toNat, by have := HN.out; omega⟩
    obtain ⟨m, hm⟩ : ∃ m, pn % (r.length + 1) = m := ⟨_, rfl⟩
    have hml : m < (a :: r).length := by rw [← hm]; exact Nat.mod_lt _ (by simp)
    obtain ⟨b3, o3, am, rfl, ham, y0⟩ := H3.out.1.at_ hml
    have ham' : (readyFrom H 0 cases)[m]? = some am := by rw [show readyFrom H 0 cases = a :: r from hrc]; exact ham
    obtain ⟨j, x, hj, hx, hcan⟩ := ready_mem H cases 0 m am ham'
    rw [Nat.zero_add] at hj
    subst hj
    obtain ⟨hx0, hx1⟩ := known_in HK.out hx
    have hxz : x.chan ≠ 0 := by
      intro h0
      rw [canC_zero h0] at hcan
      cases hcan
    have hjl : j < cases.length := (List.getElem?_eq_some_iff.1 hx).1
    have hdo := doC_at (wait := wait) (pn := pn) (j := j) rfl HT.out HK.out hrc (by rw [hm, List.getD_eq_getElem?_getD, ham]; rfl) hx
    have hrl : r.length + 1 ≤ cases.length := by have := ready_len H cases 0; rw [show readyFrom H 0 cases = a :: r from hrc] at this; simpa using this
    have hmi : ((pn : Int)).tmod ((r.length : Int) + 1) = (m : Int) := by
      rw [← hm, Int.natCast_emod]
      rw [Int.tmod_eq_emod_of_nonneg (by omega)]
      rfl
    have hmj : ((pn : Int)) % ((r.length : Int) + 1) = (m : Int) := by rw [← hm, Int.natCast_emod]; rfl
    have hmL : m < r.length + 1 := by simpa using hml
    have HX := Lib.hid (And.intro hx (And.intro hx0 (And.intro hx1 (And.intro hxz hdo))))
    obtain ⟨b4, o4, x', rfl, hx', hxi, hxu, c0, c1', c2'⟩ := (HH.out.2.2.2.1.keep H3.out.2 fun _ => id).at_ hjl
    obtain rfl : x' = x := by rw [hx] at hx'; injection hx' with h; exact h.symm
    clear hx hx0 hx1 hxz hdo hx' hcan ham ham' hm hrc hml
    obtain ⟨send, chan, val⟩ := x'
    obtain ⟨k, hk⟩ : ∃ k : Nat, chan = (k : Int) + 1 := ⟨(chan - 1).toNat, by have := HX.out.2.1; have := HX.out.2.2.2.1; simp only at *; omega⟩
    simp only at hxi hxu c0 c1' c2' HX
    subst hk
    have hkl : k < H.list.length := by have := HX.out.2.2.1; omega
    have hcb := H3.out.2.trans (chg_alloc w3 (.cells #[.bool send, .int .i64 ((k : Int) + 1), .int .u64 val] 52))
    have HB := Lib.hid (And.intro hcb (And.intro hxi hxu))
    clear hcb hxi hxu
    cases send
    · go_wp2_with fail
      refine (recv_any _ G p H (HH.out.1.keep HB.out.1 (fun _ _ _ => id) (fun _ => id)) HH.out.2.1 HH.out.2.2.1 k hkl).mono fun e w4 hh => ?_
      obtain ⟨v4, rfl, hsv, hP⟩ := hh
      obtain ⟨rr, hrr⟩ : ∃ rr, (recvC H ((k : Int) + 1)).2 = rr := ⟨_, rfl⟩
      rw [hrr] at hsv ⊢
      obtain ⟨rv, ro, rs⟩ := rr
      have HP := Lib.hid (And.intro hsv (And.intro hP hrr))
      clear hsv hP hrr
      go_wp2_with fail
      refine bodyPost_ret (results_tmp5 rfl _ _ _) rfl ?_
      rw [HX.out.2.2.2.2]
      simp only [if_true]
      rw [HP.out.2.2]
      exact ⟨_, rfl, HP.out.1, HubP.trans_new HB.out.1 HP.out.2.1 HH.out.2.2.2.2.1⟩
    · obtain ⟨A, cc, A', c', hI⟩ := HH.out.1.keep HB.out.1 (fun _ _ _ => id) (fun _ => id)
      obtain ⟨g, ch, v, rfl, hlc, hkx, hGg, hgb, hsi, hq, hu, hvG, z0, z1, z2, hfz⟩ := hI.chans.at_ hkl
      obtain ⟨d0, d1⟩ := hI.blk.cells2
      have hsh : shutOf H ((k : Int) + 1) = ch.shut := by
        simp only [shutOf]
        rw [show ((k : Int) + 1 - 1).toNat = k by omega, hkx]
      have hkb : (k : Int) ≤ 1099511627776 := by have := HH.out.2.1.list; omega
      have hk0 : (0 : Int) ≤ (k : Int) := by omega
      have hk1 : (k : Int) < (H.list.length : Int) := by omega
      have hw1 : IntKind.i64.wrap ((k : Int) + 1 - 1) = (k : Int) := by rw [show ((k : Int) + 1 - 1) = (k : Int) by omega]; exact IntWalk.i64_in _ (by omega)
      have HI := Lib.hid hI
      clear hI hkx hGg hgb hsi hq hu hvG hfz
      cases hs : ch.shut
      · rw [hs] at z2 hsh
        have HS := Lib.hid hsh
        clear hs hsh
        go_wp2_with fail
        go_quiet (fail)
        rename_i nq
        go_wp2_with fail
        refine (send_any _ G p H (HH.out.1.keep (HB.out.1.drewN nq) (fun _ _ _ => id) (fun _ => id)) HH.out.2.1 HH.out.2.2.1 ⟨true, (k : Int) + 1, val⟩ (by simp only; omega) (by simp only; omega) HB.out.2.2).mono fun e w4 hh => ?_
        obtain ⟨v4, rfl, hsv, hP⟩ := hh
        have HP := Lib.hid (And.intro hsv hP)
        clear hsv hP
        go_wp2_with fail
        refine bodyPost_ret (results_tmp5 rfl _ _ _) rfl ?_
        rw [HX.out.2.2.2.2]
        simp only [HS.out, Bool.true_eq_false, Bool.false_eq_true, if_false]
        exact ⟨_, rfl, HP.out.1, HubP.trans_new (HB.out.1.drewN nq) HP.out.2 HH.out.2.2.2.2.1⟩
      · rw [hs] at z2 hsh
        have HS := Lib.hid hsh
        clear hs hsh
        go_wp2_with fail
        go_quiet (fail)
        rename_i nq
        go_wp2_with fail
        refine bodyPost_ret (results_tmp5 rfl _ _ _) rfl ?_
        rw [HX.out.2.2.2.2]
        simp only [HS.out, Bool.true_eq_false, if_false, if_true]
        exact ⟨_, rfl, SrvsT.nil _ _, HubP.same HH.out.1 (HB.out.1.drewN nq)⟩
end Go.Proofs.Ytclllnoohoonoaa
