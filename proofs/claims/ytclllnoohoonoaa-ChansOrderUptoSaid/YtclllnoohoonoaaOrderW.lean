/-
  The walk of the statement ChansOrder.
-/
import Derived.Test.YtclllnoohoonoaaOrderN
import Derived.Test.YtclllnoohoonoaaGrown
import Derived.Test.YtclllnoohoonoaaOpenB
namespace Go.Proofs.Ytclllnoohoonoaa
open Go.RowKit
set_option linter.unusedVariables false
set_option linter.unusedSimpArgs false

def StepD (base p q : Nat) (H1' H2 : HubD) (d : DoneD) (w : World) (e : Ending) (w' : World) : Prop :=
  ∃ A c, e = .returned (.tuple #[.int .i64 d.at_, .int .u64 (d.val : Int), .bool d.ok, .slice A d.served.length c, .int .i64 d.e]) ∧ Two base w' p q H1' H2 ∧ Chg (ML base) w w'
theorem do_new (wo : World) (base p q : Nat) (H1 H2 : HubD) (h2 : Two base wo p q H1 H2) (hb : base ≤ wo.heap.size) (hs : SmallH H1) (hok : okH H1) (who : Int) (hwho : I64 who) (x : CaseC) (hc : I64 x.chan) (hv : U64 x.val) (wt : Bool) (H1' : HubD) (d : DoneD) (hd : doC H1 who [x] 0 wt = (H1', d)) :
    Calls Try.prog 15 #[.pointer (some ⟨p, 0, none⟩), .int .i64 who, .slice (some ⟨wo.heap.size, 0, none⟩) 1 1, .int .i64 0, .bool wt] (wo.alloc (.cells #[.bool x.send, .int .i64 x.chan, .int .u64 (x.val : Int)] 52)) (StepD base p q H1' H2 d wo) := by
  have hca := chg_alloc wo (.cells #[.bool x.send, .int .i64 x.chan, .int .u64 (x.val : Int)] 52)
  obtain ⟨G, hG, hGk⟩ := (h2.same hca).left (Nat.le_trans hb hca.size)
  refine (do_any _ G p H1 hG hs hok who hwho [x] _ 1 (CasesC.one (s := x) hc hv (Blk.new wo _ _)) (by simp) 0 (by unfold I64; omega) wt).mono fun e w' hh => ?_
  rw [hd] at hh
  obtain ⟨v, rfl, hsv, hP⟩ := hh
  obtain ⟨A, c, rfl, _⟩ := hsv.form
  obtain ⟨h3, h4⟩ := hGk _ _ hP
  exact ⟨A, c, rfl, h3, hca.no.trans h4⟩
theorem NatsA.at_ {base : Nat} {w : World} {A : Option Addr} {n c k : Nat} {l : List Nat} (h : NatsA base w (.slice A n c) l) (hk : k < l.length) : ∃ b o x, A = some ⟨b, o, none⟩ ∧ l[k]? = some x ∧ U64 x ∧ w.cell? ⟨b, o + k, none⟩ = some (.int .u64 (x : Int)) := by
  obtain ⟨b, o, c', cs, hv, _, _, _, h1, ⟨rfl, h2⟩, h4⟩ := SlR.at_ h hk
  injection hv with hA
  exact ⟨b, o, l[k], hA, List.getElem?_eq_getElem hk, h2, by simpa using h4 0 _ rfl⟩
theorem NatsA.keep {base : Nat} {w w' : World} {v : Value} {l : List Nat} (h : NatsA base w v l) (hc : Chg (ML base) w w') : NatsA base w' v l := SlR.keep h hc ⟨fun b t hb hm => absurd hm.1 (by omega), fun h => absurd rfl h⟩ fun _ _ h => h
def oRel (n base p q : Nat) (H : HubD) (f : Nat → HubD) (w : World) (i : Value) (wr : World) : Prop := ∃ k : Nat, k ≤ n ∧ i = .int .i64 k ∧ Two base wr p q (f k) H ∧ Chg (ML base) w wr
theorem drop_at {l : List Nat} {n k x : Nat} (h : l[k]? = some x) (hk : k < n) : (l.take n).drop k = x :: (l.take n).drop (k + 1) := by
  have h1 : (l.take n)[k]? = some x := by rw [List.getElem?_take, if_pos hk]; exact h
  obtain ⟨h2, h3⟩ := List.getElem?_eq_some_iff.1 h1
  rw [List.drop_eq_getElem_cons h2, h3]
set_option maxRecDepth 100000 in
set_option maxHeartbeats 32000000 in
theorem chansOrder_walk (w : World) (A : Option Addr) (c : Nat) (l : List ActD) (hl : ActsA w.heap.size w (.slice A l.length c) l) (hn : l.length ≤ 1048576) (hm : ∀ a ∈ l, a.cases.length ≤ 1048576)
    (A1 : Option Addr) (c1 : Nat) (vals : List Nat) (hv : NatsA w.heap.size w (.slice A1 vals.length c1) vals) (hvn : vals.length ≤ 1048576) (cut : Nat) (hcut : cut < 256) :
    Calls Try.prog 4 #[.slice A l.length c, .slice A1 vals.length c1, .int .u8 cut] w fun e w' => e = .returned (.bool true) ∧ Below w.heap.size w w' := by
  have hgo := grownC_good hm l.length (Nat.le_refl _)
  rw [List.take_length] at hgo
  have HH := Lib.hid (And.intro hl (And.intro (fun a ha => Nat.le_trans (hm a ha) (by decide : 1048576 ≤ 1099511627776)) (And.intro hgo hv)))
  clear hl hm hgo hv
  go_enter Try.func4, Try.ntmps4
  go_wp2_with fail
  refine (grown_any w w.heap.size (Nat.le_refl _) A c l HH.out.1 (by omega) HH.out.2.1).mono fun e w1 hh => ?_
  obtain ⟨p, q, rfl, h2, hc1⟩ := hh
  have hgo := HH.out.2.2.1
  generalize grownC l = H at h2 hgo
  have H1 := Lib.hid (And.intro h2 (And.intro hc1 hgo))
  have hci : I64 (nextC H) := by unfold I64 nextC; have := hgo.list; omega
  have HC := Lib.hid hci
  clear h2 hc1 hgo hci
  go_wp2_with fail
  refine (hanswers_any w1).mono fun e w2 hh => ?_
  obtain ⟨rfl, hc2⟩ := hh
  have H2 := Lib.hid (And.intro (H1.out.1.same hc2) (H1.out.2.1.trans hc2.no))
  clear hc2
  obtain ⟨L, hL⟩ : ∃ L, vals.length = L := ⟨_, rfl⟩
  have HV := Lib.hid (show NatsA w.heap.size w (.slice A1 L c1) vals by rw [← hL]; exact HH.out.2.2.2)
  rw [hL]
  rw [hL] at hvn
  have HL := Lib.hid hL
  clear hL
  obtain ⟨n, hnn⟩ : ∃ n : Nat, n = min L 1024 := ⟨_, rfl⟩
  have hn1 : n ≤ 1024 := by omega
  have hn2 : n ≤ L := by omega
  have hni : (n : Int) ≤ 1024 := by omega
  by_cases hbig : 1024 < L
  · have q1 : decide ((1024 : Int) < (L : Int)) = true := decide_eq_true (by omega)
    have hz : (1024 : Int) = (n : Int) := by omega
    have HZ := Lib.hid hz
    have HIDX := Lib.hid (show ∀ k : Nat, k < n → (k : Int) < (L : Int) from fun k hk => by omega)
    clear hz hnn hbig
    go_wp2_with fail
    rw [HZ.out]
    clear q1
    obtain ⟨G, hG, hGk⟩ := H2.out.1.left H2.out.2.size
    refine (make_any _ G p H hG (H1.out.2.2.small (by omega) (by decide)) (n : Int)).mono fun e w3 hh => ?_
    rw [make_new H (by omega) hni] at hh
    obtain ⟨rfl, hP⟩ := hh
    obtain ⟨h23, hc3⟩ := hGk _ _ hP
    have H3 := Lib.hid (And.intro h23 (H2.out.2.trans hc3))
    clear hGk hP h23 hc3 hG
    simp only
    obtain ⟨G, hG⟩ := H3.out.1.hub
    obtain ⟨ws, hws⟩ : ∃ ws, (H.wait.map fun x => x.who) = ws := ⟨_, rfl⟩
    have HW := Lib.hid (And.intro hG (show ((newH H n [] false).wait.map fun x => x.who) = ws from hws))
    clear hG hws
    go_wp2_with fail
    refine (waiting_any _ G p (newH H n [] false) HW.out.1 (newH_small H1.out.2.2 (by omega) (by decide))).mono fun e w4 hh => ?_
    rw [HW.out.2] at hh
    obtain ⟨A2, c2, rfl, _, hc4⟩ := hh
    by_cases hw : H.wait = []
    case neg =>
      have hwl : decide (0 < ws.length) = true := decide_eq_true (by
        rw [← HW.out.2]
        show 0 < (H.wait.map fun x => x.who).length
        rw [List.length_map]
        rcases Nat.eq_zero_or_pos H.wait.length with h | h
        · exact absurd (List.eq_nil_of_length_eq_zero h) hw
        · exact h)
      have H4 := Lib.hid (H3.out.2.trans hc4.no)
      clear hc4 hw
      go_wp2_with fail
      go_ret
      exact ⟨by simp, H4.out.below (fun b t h => h.1) (Nat.le_refl _)⟩
    obtain rfl : ws = [] := by rw [← HW.out.2]; show (H.wait.map fun x => x.who) = []; rw [hw]; rfl
    have H4 := Lib.hid (And.intro (H3.out.1.same hc4) (And.intro (H3.out.2.trans hc4.no) hw))
    clear hc4 hw
    simp only [List.length_nil]
    go_wp2_with fail
    go_loopw [12] (fun i wr => oRel n w.heap.size p q H (fun k => newH H n (vals.take k) false) w i wr) (fun i _ => n - (intOf i).toNat)
    case atStart => exact ⟨0, Nat.zero_le _, rfl, H4.out.1, H4.out.2.1⟩
    case round =>
      obtain ⟨k, hkl, rfl, h2, hch⟩ := hrel
      obtain ⟨wo, rfl⟩ : ∃ wo : World, wo = wr := ⟨_, rfl⟩
      have HR := Lib.hid (And.intro (show Two w.heap.size wo p q (newH H n (vals.take k) false) H from h2) hch)
      clear h2 hch
      have htl : (vals.take k).length = k := by rw [List.length_take]; have := HL.out; omega
      have HTL := Lib.hid htl
      clear htl
      by_cases hlt : k < n
      · obtain ⟨b, o, x, rfl, hx, hxu, z0⟩ := (HV.out.keep HR.out.2).at_ (k := k) (by have := HL.out; omega)
        have hd := put_one (v := x) (n := n) (buf := vals.take k) H4.out.2.2 (by rw [HTL.out]; exact hlt)
        have hnx : vals.take (k + 1) = vals.take k ++ [x] := by
          obtain ⟨h3, h4⟩ := List.getElem?_eq_some_iff.1 hx
          rw [List.take_succ_eq_append_getElem h3, h4]
        rw [← hnx] at hd
        have HD := Lib.hid (And.intro hd hxu)
        have hk0 : (0 : Int) ≤ (k : Int) := by omega
        have hk1 := HIDX.out k hlt
        clear hd hx hxu hnx
        go_wp2_with fail
        refine (do_new wo w.heap.size p q _ H HR.out.1 HR.out.2.size (newH_small H1.out.2.2 (by omega) (by decide)) (newH_ok H1.out.2.2 hn1 (by rw [HTL.out]; exact hkl)) 1 (by unfold I64; omega) ⟨true, nextC H, x⟩ HC.out HD.out.2 false _ _ HD.out.1).mono fun e w5 hh => ?_
        obtain ⟨A5, c5, rfl, h25, hc5⟩ := hh
        have H5 := Lib.hid (And.intro h25 (HR.out.2.trans hc5))
        clear h25 hc5
        simp only [List.length_nil]
        go_wp2_with fail
        go_roundw
        case rel => exact ⟨k + 1, hlt, by simp, H5.out.1, H5.out.2⟩
        case measure => simp [intOf]; omega
      · have hkn : k = n := by omega
        rw [hkn] at HR HTL
        have hd := put_full (v := 1) (n := n) (buf := vals.take n) H4.out.2.2 (by rw [HTL.out]; exact Nat.le_refl _)
        have HD := Lib.hid hd
        have hkn' : decide (k < n) = false := decide_eq_false (by omega)
        clear hd hkn
        go_wp2_with fail
        refine (do_new wo w.heap.size p q _ H HR.out.1 HR.out.2.size (newH_small H1.out.2.2 (by omega) (by decide)) (newH_ok H1.out.2.2 hn1 (by rw [HTL.out]; exact Nat.le_refl _)) 1 (by unfold I64; omega) ⟨true, nextC H, 1⟩ HC.out (by simp [U64]) false _ _ HD.out).mono fun e w5 hh => ?_
        obtain ⟨A5, c5, rfl, h25, hc5⟩ := hh
        have H5 := Lib.hid (And.intro h25 (HR.out.2.trans hc5))
        clear h25 hc5 HD HR HTL hkl hkn' hlt
        simp only [bad, List.length_nil]
        go_wp2_with fail
        go_loopw [23] (fun i wr => oRel n w.heap.size p q H (fun k => newH H n ((vals.take n).drop k) false) w i wr) (fun i _ => n - (intOf i).toNat)
        case atStart => exact ⟨0, Nat.zero_le _, rfl, H5.out.1, H5.out.2⟩
        case round =>
          clear H5
          obtain ⟨k, hkl, rfl, h2, hch⟩ := hrel
          obtain ⟨wo, rfl⟩ : ∃ wo : World, wo = wr := ⟨_, rfl⟩
          have HR := Lib.hid (And.intro (show Two w.heap.size wo p q (newH H n ((vals.take n).drop k) false) H from h2) hch)
          have hcw : IntKind.i64.wrap (cut : Int) = (cut : Int) := IntWalk.i64_in _ (by omega)
          clear h2 hch
          by_cases hgo : k < n ∧ k < cut
          · obtain ⟨hlt, hlc⟩ := hgo
            obtain ⟨b, o, x, rfl, hx, hxu, z0⟩ := (HV.out.keep HR.out.2).at_ (k := k) (by have := HL.out; omega)
            have hd := get_one (x := x) (r := (vals.take n).drop (k + 1)) (s := false) (n := n) H4.out.2.2
            rw [← drop_at hx hlt] at hd
            have HD := Lib.hid (And.intro hd hx)
            have hdl : ((vals.take n).drop k).length ≤ n := by rw [List.length_drop, List.length_take]; omega
            have HDL := Lib.hid hdl
            have hk0 : (0 : Int) ≤ (k : Int) := by omega
            have hk1 := HIDX.out k hlt
            clear hd hx hxu hdl
            go_wp2_with fail
            refine (do_new wo w.heap.size p q _ H HR.out.1 HR.out.2.size (newH_small H1.out.2.2 (by omega) (by decide)) (newH_ok H1.out.2.2 hn1 HDL.out) 2 (by unfold I64; omega) ⟨false, nextC H, 0⟩ HC.out (by simp [U64]) false _ _ HD.out.1).mono fun e w8 hh => ?_
            obtain ⟨A8, c8, rfl, h28, hc8⟩ := hh
            obtain ⟨b', o', x', hA', hx', _, z1⟩ := (HV.out.keep (HR.out.2.trans hc8)).at_ (k := k) (by have := HL.out; omega)
            injection hA' with hA'
            injection hA' with hb' ho'
            subst hb' ho'
            obtain rfl : x' = x := by have := HD.out.2; rw [this] at hx'; injection hx' with h; exact h.symm
            have H8 := Lib.hid (And.intro h28 (HR.out.2.trans hc8))
            clear h28 hc8 hx'
            simp only [List.length_nil]
            go_wp2_with fail
            go_roundw
            case rel => exact ⟨k + 1, hlt, by simp, H8.out.1, H8.out.2⟩
            case measure => simp [intOf]; omega
          · by_cases h1 : k < n
            · have hlc : decide (k < cut) = false := decide_eq_false (by omega)
              clear hgo
              go_wp2_with fail
              clear hlc h1
              obtain ⟨G, hG, hGk⟩ := HR.out.1.left HR.out.2.size
              refine (shut_any _ G p _ hG (newH_small H1.out.2.2 (by omega) (by decide)) (nextC H)).mono fun e w7 hh => ?_
              rw [shut_new H4.out.2.2] at hh
              obtain ⟨v7, rfl, hsv, hP⟩ := hh
              obtain ⟨A7, c7, rfl, _⟩ := hsv.form
              obtain ⟨h27, hc7⟩ := hGk _ _ hP
              have H7 := Lib.hid (And.intro h27 (HR.out.2.trans hc7))
              clear hG hGk hsv hP h27 hc7
              simp only [List.length_nil]
              go_wp2_with fail
              go_loopw [23] (fun i wr => oRel (n + 2) w.heap.size p q H (fun k => newH H n ((vals.take n).drop k) true) w i wr) (fun i _ => n + 2 - (intOf i).toNat)
              case atStart => exact ⟨k, by omega, rfl, H7.out.1, H7.out.2⟩
              case round =>
                clear HR H7 hkl
                obtain ⟨k, hkl, rfl, h2, hch⟩ := hrel
                obtain ⟨wo, rfl⟩ : ∃ wo : World, wo = wr := ⟨_, rfl⟩
                have HR := Lib.hid (And.intro (show Two w.heap.size wo p q (newH H n ((vals.take n).drop k) true) H from h2) hch)
                clear h2 hch
                have hdl : ((vals.take n).drop k).length ≤ n := by rw [List.length_drop, List.length_take]; omega
                by_cases hlt3 : k < n + 2
                · have q3 : decide ((k : Int) < (n : Int) + 2) = true := decide_eq_true (by omega)
                  by_cases hlt : k < n
                  · obtain ⟨b, o, x, rfl, hx, hxu, z0⟩ := (HV.out.keep HR.out.2).at_ (k := k) (by have := HL.out; omega)
                    have hd := get_one (x := x) (r := (vals.take n).drop (k + 1)) (s := true) (n := n) H4.out.2.2
                    rw [← drop_at hx hlt] at hd
                    have HD := Lib.hid (And.intro hd hx)
                    have hk0 : (0 : Int) ≤ (k : Int) := by omega
                    have hk1 := HIDX.out k hlt
                    have HDL := Lib.hid hdl
                    clear hd hx hxu hdl
                    go_wp2_with fail
                    refine (do_new wo w.heap.size p q _ H HR.out.1 HR.out.2.size (newH_small H1.out.2.2 (by omega) (by decide)) (newH_ok H1.out.2.2 hn1 HDL.out) 2 (by unfold I64; omega) ⟨false, nextC H, 0⟩ HC.out (by simp [U64]) false _ _ HD.out.1).mono fun e w8 hh => ?_
                    obtain ⟨A8, c8, rfl, h28, hc8⟩ := hh
                    obtain ⟨b', o', x', hA', hx', _, z1⟩ := (HV.out.keep (HR.out.2.trans hc8)).at_ (k := k) (by have := HL.out; omega)
                    injection hA' with hA'
                    injection hA' with hb' ho'
                    subst hb' ho'
                    obtain rfl : x' = x := by have := HD.out.2; rw [this] at hx'; injection hx' with h; exact h.symm
                    have H8 := Lib.hid (And.intro h28 (HR.out.2.trans hc8))
                    clear h28 hc8 hx'
                    simp only [List.length_nil]
                    go_wp2_with fail
                    go_roundw
                    case rel => exact ⟨k + 1, by omega, by simp, H8.out.1, H8.out.2⟩
                    case measure => simp [intOf]; omega
                  · have hnil : (vals.take n).drop k = [] := List.drop_eq_nil_of_le (by rw [List.length_take]; omega)
                    have hnil2 : (vals.take n).drop (k + 1) = [] := List.drop_eq_nil_of_le (by rw [List.length_take]; omega)
                    have HN := Lib.hid (And.intro hnil hnil2)
                    clear hnil hnil2 hdl
                    go_wp2_with fail
                    refine (do_new wo w.heap.size p q (newH H n [] true) H (by rw [← HN.out.1]; exact HR.out.1) HR.out.2.size (newH_small H1.out.2.2 (by omega) (by decide)) (newH_ok H1.out.2.2 hn1 (by simp)) 2 (by unfold I64; omega) ⟨false, nextC H, 0⟩ HC.out (by simp [U64]) false _ _ (get_none H4.out.2.2)).mono fun e w8 hh => ?_
                    obtain ⟨A8, c8, rfl, h28, hc8⟩ := hh
                    have H8 := Lib.hid (And.intro h28 (HR.out.2.trans hc8))
                    clear h28 hc8
                    simp only [List.length_nil]
                    go_wp2_with fail
                    go_roundw
                    case rel => exact ⟨k + 1, by omega, by simp, by show Two w.heap.size w8 p q (newH H n ((vals.take n).drop (k + 1)) true) H; rw [HN.out.2]; exact H8.out.1, H8.out.2⟩
                    case measure => simp [intOf]; omega
                · have q3 : decide ((k : Int) < (n : Int) + 2) = false := decide_eq_false (by omega)
                  have HDL := Lib.hid hdl
                  clear hdl
                  go_wp2_with fail
                  refine (do_new wo w.heap.size p q _ H HR.out.1 HR.out.2.size (newH_small H1.out.2.2 (by omega) (by decide)) (newH_ok H1.out.2.2 hn1 HDL.out) 1 (by unfold I64; omega) ⟨true, nextC H, 0⟩ HC.out (by simp [U64]) false _ _ (put_shut H4.out.2.2)).mono fun e w8 hh => ?_
                  obtain ⟨A8, c8, rfl, h28, hc8⟩ := hh
                  have H8 := Lib.hid (HR.out.2.trans hc8)
                  clear h28 hc8
                  simp only [List.length_nil]
                  go_wp2_with fail
                  go_ret
                  exact ⟨by simp, H8.out.below (fun b t h => h.1) (Nat.le_refl _)⟩
            · have hlc : decide (k < n) = false := decide_eq_false h1
              clear hgo h1
              go_wp2_with fail
              clear hlc
              obtain ⟨G, hG, hGk⟩ := HR.out.1.left HR.out.2.size
              refine (shut_any _ G p _ hG (newH_small H1.out.2.2 (by omega) (by decide)) (nextC H)).mono fun e w7 hh => ?_
              rw [shut_new H4.out.2.2] at hh
              obtain ⟨v7, rfl, hsv, hP⟩ := hh
              obtain ⟨A7, c7, rfl, _⟩ := hsv.form
              obtain ⟨h27, hc7⟩ := hGk _ _ hP
              have H7 := Lib.hid (And.intro h27 (HR.out.2.trans hc7))
              clear hG hGk hsv hP h27 hc7
              simp only [List.length_nil]
              go_wp2_with fail
              go_loopw [23] (fun i wr => oRel (n + 2) w.heap.size p q H (fun k => newH H n ((vals.take n).drop k) true) w i wr) (fun i _ => n + 2 - (intOf i).toNat)
              case atStart => exact ⟨k, by omega, rfl, H7.out.1, H7.out.2⟩
              case round =>
                clear HR H7 hkl
                obtain ⟨k, hkl, rfl, h2, hch⟩ := hrel
                obtain ⟨wo, rfl⟩ : ∃ wo : World, wo = wr := ⟨_, rfl⟩
                have HR := Lib.hid (And.intro (show Two w.heap.size wo p q (newH H n ((vals.take n).drop k) true) H from h2) hch)
                clear h2 hch
                have hdl : ((vals.take n).drop k).length ≤ n := by rw [List.length_drop, List.length_take]; omega
                by_cases hlt3 : k < n + 2
                · have q3 : decide ((k : Int) < (n : Int) + 2) = true := decide_eq_true (by omega)
                  by_cases hlt : k < n
                  · obtain ⟨b, o, x, rfl, hx, hxu, z0⟩ := (HV.out.keep HR.out.2).at_ (k := k) (by have := HL.out; omega)
                    have hd := get_one (x := x) (r := (vals.take n).drop (k + 1)) (s := true) (n := n) H4.out.2.2
                    rw [← drop_at hx hlt] at hd
                    have HD := Lib.hid (And.intro hd hx)
                    have hk0 : (0 : Int) ≤ (k : Int) := by omega
                    have hk1 := HIDX.out k hlt
                    have HDL := Lib.hid hdl
                    clear hd hx hxu hdl
                    go_wp2_with fail
                    refine (do_new wo w.heap.size p q _ H HR.out.1 HR.out.2.size (newH_small H1.out.2.2 (by omega) (by decide)) (newH_ok H1.out.2.2 hn1 HDL.out) 2 (by unfold I64; omega) ⟨false, nextC H, 0⟩ HC.out (by simp [U64]) false _ _ HD.out.1).mono fun e w8 hh => ?_
                    obtain ⟨A8, c8, rfl, h28, hc8⟩ := hh
                    obtain ⟨b', o', x', hA', hx', _, z1⟩ := (HV.out.keep (HR.out.2.trans hc8)).at_ (k := k) (by have := HL.out; omega)
                    injection hA' with hA'
                    injection hA' with hb' ho'
                    subst hb' ho'
                    obtain rfl : x' = x := by have := HD.out.2; rw [this] at hx'; injection hx' with h; exact h.symm
                    have H8 := Lib.hid (And.intro h28 (HR.out.2.trans hc8))
                    clear h28 hc8 hx'
                    simp only [List.length_nil]
                    go_wp2_with fail
                    go_roundw
                    case rel => exact ⟨k + 1, by omega, by simp, H8.out.1, H8.out.2⟩
                    case measure => simp [intOf]; omega
                  · have hnil : (vals.take n).drop k = [] := List.drop_eq_nil_of_le (by rw [List.length_take]; omega)
                    have hnil2 : (vals.take n).drop (k + 1) = [] := List.drop_eq_nil_of_le (by rw [List.length_take]; omega)
                    have HN := Lib.hid (And.intro hnil hnil2)
                    clear hnil hnil2 hdl
                    go_wp2_with fail
                    refine (do_new wo w.heap.size p q (newH H n [] true) H (by rw [← HN.out.1]; exact HR.out.1) HR.out.2.size (newH_small H1.out.2.2 (by omega) (by decide)) (newH_ok H1.out.2.2 hn1 (by simp)) 2 (by unfold I64; omega) ⟨false, nextC H, 0⟩ HC.out (by simp [U64]) false _ _ (get_none H4.out.2.2)).mono fun e w8 hh => ?_
                    obtain ⟨A8, c8, rfl, h28, hc8⟩ := hh
                    have H8 := Lib.hid (And.intro h28 (HR.out.2.trans hc8))
                    clear h28 hc8
                    simp only [List.length_nil]
                    go_wp2_with fail
                    go_roundw
                    case rel => exact ⟨k + 1, by omega, by simp, by show Two w.heap.size w8 p q (newH H n ((vals.take n).drop (k + 1)) true) H; rw [HN.out.2]; exact H8.out.1, H8.out.2⟩
                    case measure => simp [intOf]; omega
                · have q3 : decide ((k : Int) < (n : Int) + 2) = false := decide_eq_false (by omega)
                  have HDL := Lib.hid hdl
                  clear hdl
                  go_wp2_with fail
                  refine (do_new wo w.heap.size p q _ H HR.out.1 HR.out.2.size (newH_small H1.out.2.2 (by omega) (by decide)) (newH_ok H1.out.2.2 hn1 HDL.out) 1 (by unfold I64; omega) ⟨true, nextC H, 0⟩ HC.out (by simp [U64]) false _ _ (put_shut H4.out.2.2)).mono fun e w8 hh => ?_
                  obtain ⟨A8, c8, rfl, h28, hc8⟩ := hh
                  have H8 := Lib.hid (HR.out.2.trans hc8)
                  clear h28 hc8
                  simp only [List.length_nil]
                  go_wp2_with fail
                  go_ret
                  exact ⟨by simp, H8.out.below (fun b t h => h.1) (Nat.le_refl _)⟩
  · have q1 : decide ((1024 : Int) < (L : Int)) = false := decide_eq_false (by omega)
    obtain rfl : n = L := by omega
    have HIDX := Lib.hid (show ∀ k : Nat, k < n → (k : Int) < (n : Int) from fun k hk => by omega)
    clear hnn hbig
    go_wp2_with fail
    clear q1
    obtain ⟨G, hG, hGk⟩ := H2.out.1.left H2.out.2.size
    refine (make_any _ G p H hG (H1.out.2.2.small (by omega) (by decide)) (n : Int)).mono fun e w3 hh => ?_
    rw [make_new H (by omega) hni] at hh
    obtain ⟨rfl, hP⟩ := hh
    obtain ⟨h23, hc3⟩ := hGk _ _ hP
    have H3 := Lib.hid (And.intro h23 (H2.out.2.trans hc3))
    clear hGk hP h23 hc3 hG
    simp only
    obtain ⟨G, hG⟩ := H3.out.1.hub
    obtain ⟨ws, hws⟩ : ∃ ws, (H.wait.map fun x => x.who) = ws := ⟨_, rfl⟩
    have HW := Lib.hid (And.intro hG (show ((newH H n [] false).wait.map fun x => x.who) = ws from hws))
    clear hG hws
    go_wp2_with fail
    refine (waiting_any _ G p (newH H n [] false) HW.out.1 (newH_small H1.out.2.2 (by omega) (by decide))).mono fun e w4 hh => ?_
    rw [HW.out.2] at hh
    obtain ⟨A2, c2, rfl, _, hc4⟩ := hh
    by_cases hw : H.wait = []
    case neg =>
      have hwl : decide (0 < ws.length) = true := decide_eq_true (by
        rw [← HW.out.2]
        show 0 < (H.wait.map fun x => x.who).length
        rw [List.length_map]
        rcases Nat.eq_zero_or_pos H.wait.length with h | h
        · exact absurd (List.eq_nil_of_length_eq_zero h) hw
        · exact h)
      have H4 := Lib.hid (H3.out.2.trans hc4.no)
      clear hc4 hw
      go_wp2_with fail
      go_ret
      exact ⟨by simp, H4.out.below (fun b t h => h.1) (Nat.le_refl _)⟩
    obtain rfl : ws = [] := by rw [← HW.out.2]; show (H.wait.map fun x => x.who) = []; rw [hw]; rfl
    have H4 := Lib.hid (And.intro (H3.out.1.same hc4) (And.intro (H3.out.2.trans hc4.no) hw))
    clear hc4 hw
    simp only [List.length_nil]
    go_wp2_with fail
    go_loopw [12] (fun i wr => oRel n w.heap.size p q H (fun k => newH H n (vals.take k) false) w i wr) (fun i _ => n - (intOf i).toNat)
    case atStart => exact ⟨0, Nat.zero_le _, rfl, H4.out.1, H4.out.2.1⟩
    case round =>
      obtain ⟨k, hkl, rfl, h2, hch⟩ := hrel
      obtain ⟨wo, rfl⟩ : ∃ wo : World, wo = wr := ⟨_, rfl⟩
      have HR := Lib.hid (And.intro (show Two w.heap.size wo p q (newH H n (vals.take k) false) H from h2) hch)
      clear h2 hch
      have htl : (vals.take k).length = k := by rw [List.length_take]; have := HL.out; omega
      have HTL := Lib.hid htl
      clear htl
      by_cases hlt : k < n
      · obtain ⟨b, o, x, rfl, hx, hxu, z0⟩ := (HV.out.keep HR.out.2).at_ (k := k) (by have := HL.out; omega)
        have hd := put_one (v := x) (n := n) (buf := vals.take k) H4.out.2.2 (by rw [HTL.out]; exact hlt)
        have hnx : vals.take (k + 1) = vals.take k ++ [x] := by
          obtain ⟨h3, h4⟩ := List.getElem?_eq_some_iff.1 hx
          rw [List.take_succ_eq_append_getElem h3, h4]
        rw [← hnx] at hd
        have HD := Lib.hid (And.intro hd hxu)
        have hk0 : (0 : Int) ≤ (k : Int) := by omega
        have hk1 := HIDX.out k hlt
        clear hd hx hxu hnx
        go_wp2_with fail
        refine (do_new wo w.heap.size p q _ H HR.out.1 HR.out.2.size (newH_small H1.out.2.2 (by omega) (by decide)) (newH_ok H1.out.2.2 hn1 (by rw [HTL.out]; exact hkl)) 1 (by unfold I64; omega) ⟨true, nextC H, x⟩ HC.out HD.out.2 false _ _ HD.out.1).mono fun e w5 hh => ?_
        obtain ⟨A5, c5, rfl, h25, hc5⟩ := hh
        have H5 := Lib.hid (And.intro h25 (HR.out.2.trans hc5))
        clear h25 hc5
        simp only [List.length_nil]
        go_wp2_with fail
        go_roundw
        case rel => exact ⟨k + 1, hlt, by simp, H5.out.1, H5.out.2⟩
        case measure => simp [intOf]; omega
      · have hkn : k = n := by omega
        rw [hkn] at HR HTL
        have hd := put_full (v := 1) (n := n) (buf := vals.take n) H4.out.2.2 (by rw [HTL.out]; exact Nat.le_refl _)
        have HD := Lib.hid hd
        have hkn' : decide (k < n) = false := decide_eq_false (by omega)
        clear hd hkn
        go_wp2_with fail
        refine (do_new wo w.heap.size p q _ H HR.out.1 HR.out.2.size (newH_small H1.out.2.2 (by omega) (by decide)) (newH_ok H1.out.2.2 hn1 (by rw [HTL.out]; exact Nat.le_refl _)) 1 (by unfold I64; omega) ⟨true, nextC H, 1⟩ HC.out (by simp [U64]) false _ _ HD.out).mono fun e w5 hh => ?_
        obtain ⟨A5, c5, rfl, h25, hc5⟩ := hh
        have H5 := Lib.hid (And.intro h25 (HR.out.2.trans hc5))
        clear h25 hc5 HD HR HTL hkl hkn' hlt
        simp only [bad, List.length_nil]
        go_wp2_with fail
        go_loopw [23] (fun i wr => oRel n w.heap.size p q H (fun k => newH H n ((vals.take n).drop k) false) w i wr) (fun i _ => n - (intOf i).toNat)
        case atStart => exact ⟨0, Nat.zero_le _, rfl, H5.out.1, H5.out.2⟩
        case round =>
          clear H5
          obtain ⟨k, hkl, rfl, h2, hch⟩ := hrel
          obtain ⟨wo, rfl⟩ : ∃ wo : World, wo = wr := ⟨_, rfl⟩
          have HR := Lib.hid (And.intro (show Two w.heap.size wo p q (newH H n ((vals.take n).drop k) false) H from h2) hch)
          have hcw : IntKind.i64.wrap (cut : Int) = (cut : Int) := IntWalk.i64_in _ (by omega)
          clear h2 hch
          by_cases hgo : k < n ∧ k < cut
          · obtain ⟨hlt, hlc⟩ := hgo
            obtain ⟨b, o, x, rfl, hx, hxu, z0⟩ := (HV.out.keep HR.out.2).at_ (k := k) (by have := HL.out; omega)
            have hd := get_one (x := x) (r := (vals.take n).drop (k + 1)) (s := false) (n := n) H4.out.2.2
            rw [← drop_at hx hlt] at hd
            have HD := Lib.hid (And.intro hd hx)
            have hdl : ((vals.take n).drop k).length ≤ n := by rw [List.length_drop, List.length_take]; omega
            have HDL := Lib.hid hdl
            have hk0 : (0 : Int) ≤ (k : Int) := by omega
            have hk1 := HIDX.out k hlt
            clear hd hx hxu hdl
            go_wp2_with fail
            refine (do_new wo w.heap.size p q _ H HR.out.1 HR.out.2.size (newH_small H1.out.2.2 (by omega) (by decide)) (newH_ok H1.out.2.2 hn1 HDL.out) 2 (by unfold I64; omega) ⟨false, nextC H, 0⟩ HC.out (by simp [U64]) false _ _ HD.out.1).mono fun e w8 hh => ?_
            obtain ⟨A8, c8, rfl, h28, hc8⟩ := hh
            obtain ⟨b', o', x', hA', hx', _, z1⟩ := (HV.out.keep (HR.out.2.trans hc8)).at_ (k := k) (by have := HL.out; omega)
            injection hA' with hA'
            injection hA' with hb' ho'
            subst hb' ho'
            obtain rfl : x' = x := by have := HD.out.2; rw [this] at hx'; injection hx' with h; exact h.symm
            have H8 := Lib.hid (And.intro h28 (HR.out.2.trans hc8))
            clear h28 hc8 hx'
            simp only [List.length_nil]
            go_wp2_with fail
            go_roundw
            case rel => exact ⟨k + 1, hlt, by simp, H8.out.1, H8.out.2⟩
            case measure => simp [intOf]; omega
          · by_cases h1 : k < n
            · have hlc : decide (k < cut) = false := decide_eq_false (by omega)
              clear hgo
              go_wp2_with fail
              clear hlc h1
              obtain ⟨G, hG, hGk⟩ := HR.out.1.left HR.out.2.size
              refine (shut_any _ G p _ hG (newH_small H1.out.2.2 (by omega) (by decide)) (nextC H)).mono fun e w7 hh => ?_
              rw [shut_new H4.out.2.2] at hh
              obtain ⟨v7, rfl, hsv, hP⟩ := hh
              obtain ⟨A7, c7, rfl, _⟩ := hsv.form
              obtain ⟨h27, hc7⟩ := hGk _ _ hP
              have H7 := Lib.hid (And.intro h27 (HR.out.2.trans hc7))
              clear hG hGk hsv hP h27 hc7
              simp only [List.length_nil]
              go_wp2_with fail
              go_loopw [23] (fun i wr => oRel (n + 2) w.heap.size p q H (fun k => newH H n ((vals.take n).drop k) true) w i wr) (fun i _ => n + 2 - (intOf i).toNat)
              case atStart => exact ⟨k, by omega, rfl, H7.out.1, H7.out.2⟩
              case round =>
                clear HR H7 hkl
                obtain ⟨k, hkl, rfl, h2, hch⟩ := hrel
                obtain ⟨wo, rfl⟩ : ∃ wo : World, wo = wr := ⟨_, rfl⟩
                have HR := Lib.hid (And.intro (show Two w.heap.size wo p q (newH H n ((vals.take n).drop k) true) H from h2) hch)
                clear h2 hch
                have hdl : ((vals.take n).drop k).length ≤ n := by rw [List.length_drop, List.length_take]; omega
                by_cases hlt3 : k < n + 2
                · have q3 : decide ((k : Int) < (n : Int) + 2) = true := decide_eq_true (by omega)
                  by_cases hlt : k < n
                  · obtain ⟨b, o, x, rfl, hx, hxu, z0⟩ := (HV.out.keep HR.out.2).at_ (k := k) (by have := HL.out; omega)
                    have hd := get_one (x := x) (r := (vals.take n).drop (k + 1)) (s := true) (n := n) H4.out.2.2
                    rw [← drop_at hx hlt] at hd
                    have HD := Lib.hid (And.intro hd hx)
                    have hk0 : (0 : Int) ≤ (k : Int) := by omega
                    have hk1 := HIDX.out k hlt
                    have HDL := Lib.hid hdl
                    clear hd hx hxu hdl
                    go_wp2_with fail
                    refine (do_new wo w.heap.size p q _ H HR.out.1 HR.out.2.size (newH_small H1.out.2.2 (by omega) (by decide)) (newH_ok H1.out.2.2 hn1 HDL.out) 2 (by unfold I64; omega) ⟨false, nextC H, 0⟩ HC.out (by simp [U64]) false _ _ HD.out.1).mono fun e w8 hh => ?_
                    obtain ⟨A8, c8, rfl, h28, hc8⟩ := hh
                    obtain ⟨b', o', x', hA', hx', _, z1⟩ := (HV.out.keep (HR.out.2.trans hc8)).at_ (k := k) (by have := HL.out; omega)
                    injection hA' with hA'
                    injection hA' with hb' ho'
                    subst hb' ho'
                    obtain rfl : x' = x := by have := HD.out.2; rw [this] at hx'; injection hx' with h; exact h.symm
                    have H8 := Lib.hid (And.intro h28 (HR.out.2.trans hc8))
                    clear h28 hc8 hx'
                    simp only [List.length_nil]
                    go_wp2_with fail
                    go_roundw
                    case rel => exact ⟨k + 1, by omega, by simp, H8.out.1, H8.out.2⟩
                    case measure => simp [intOf]; omega
                  · have hnil : (vals.take n).drop k = [] := List.drop_eq_nil_of_le (by rw [List.length_take]; omega)
                    have hnil2 : (vals.take n).drop (k + 1) = [] := List.drop_eq_nil_of_le (by rw [List.length_take]; omega)
                    have HN := Lib.hid (And.intro hnil hnil2)
                    clear hnil hnil2 hdl
                    go_wp2_with fail
                    refine (do_new wo w.heap.size p q (newH H n [] true) H (by rw [← HN.out.1]; exact HR.out.1) HR.out.2.size (newH_small H1.out.2.2 (by omega) (by decide)) (newH_ok H1.out.2.2 hn1 (by simp)) 2 (by unfold I64; omega) ⟨false, nextC H, 0⟩ HC.out (by simp [U64]) false _ _ (get_none H4.out.2.2)).mono fun e w8 hh => ?_
                    obtain ⟨A8, c8, rfl, h28, hc8⟩ := hh
                    have H8 := Lib.hid (And.intro h28 (HR.out.2.trans hc8))
                    clear h28 hc8
                    simp only [List.length_nil]
                    go_wp2_with fail
                    go_roundw
                    case rel => exact ⟨k + 1, by omega, by simp, by show Two w.heap.size w8 p q (newH H n ((vals.take n).drop (k + 1)) true) H; rw [HN.out.2]; exact H8.out.1, H8.out.2⟩
                    case measure => simp [intOf]; omega
                · have q3 : decide ((k : Int) < (n : Int) + 2) = false := decide_eq_false (by omega)
                  have HDL := Lib.hid hdl
                  clear hdl
                  go_wp2_with fail
                  refine (do_new wo w.heap.size p q _ H HR.out.1 HR.out.2.size (newH_small H1.out.2.2 (by omega) (by decide)) (newH_ok H1.out.2.2 hn1 HDL.out) 1 (by unfold I64; omega) ⟨true, nextC H, 0⟩ HC.out (by simp [U64]) false _ _ (put_shut H4.out.2.2)).mono fun e w8 hh => ?_
                  obtain ⟨A8, c8, rfl, h28, hc8⟩ := hh
                  have H8 := Lib.hid (HR.out.2.trans hc8)
                  clear h28 hc8
                  simp only [List.length_nil]
                  go_wp2_with fail
                  go_ret
                  exact ⟨by simp, H8.out.below (fun b t h => h.1) (Nat.le_refl _)⟩
            · have hlc : decide (k < n) = false := decide_eq_false h1
              clear hgo h1
              go_wp2_with fail
              clear hlc
              obtain ⟨G, hG, hGk⟩ := HR.out.1.left HR.out.2.size
              refine (shut_any _ G p _ hG (newH_small H1.out.2.2 (by omega) (by decide)) (nextC H)).mono fun e w7 hh => ?_
              rw [shut_new H4.out.2.2] at hh
              obtain ⟨v7, rfl, hsv, hP⟩ := hh
              obtain ⟨A7, c7, rfl, _⟩ := hsv.form
              obtain ⟨h27, hc7⟩ := hGk _ _ hP
              have H7 := Lib.hid (And.intro h27 (HR.out.2.trans hc7))
              clear hG hGk hsv hP h27 hc7
              simp only [List.length_nil]
              go_wp2_with fail
              go_loopw [23] (fun i wr => oRel (n + 2) w.heap.size p q H (fun k => newH H n ((vals.take n).drop k) true) w i wr) (fun i _ => n + 2 - (intOf i).toNat)
              case atStart => exact ⟨k, by omega, rfl, H7.out.1, H7.out.2⟩
              case round =>
                clear HR H7 hkl
                obtain ⟨k, hkl, rfl, h2, hch⟩ := hrel
                obtain ⟨wo, rfl⟩ : ∃ wo : World, wo = wr := ⟨_, rfl⟩
                have HR := Lib.hid (And.intro (show Two w.heap.size wo p q (newH H n ((vals.take n).drop k) true) H from h2) hch)
                clear h2 hch
                have hdl : ((vals.take n).drop k).length ≤ n := by rw [List.length_drop, List.length_take]; omega
                by_cases hlt3 : k < n + 2
                · have q3 : decide ((k : Int) < (n : Int) + 2) = true := decide_eq_true (by omega)
                  by_cases hlt : k < n
                  · obtain ⟨b, o, x, rfl, hx, hxu, z0⟩ := (HV.out.keep HR.out.2).at_ (k := k) (by have := HL.out; omega)
                    have hd := get_one (x := x) (r := (vals.take n).drop (k + 1)) (s := true) (n := n) H4.out.2.2
                    rw [← drop_at hx hlt] at hd
                    have HD := Lib.hid (And.intro hd hx)
                    have hk0 : (0 : Int) ≤ (k : Int) := by omega
                    have hk1 := HIDX.out k hlt
                    have HDL := Lib.hid hdl
                    clear hd hx hxu hdl
                    go_wp2_with fail
                    refine (do_new wo w.heap.size p q _ H HR.out.1 HR.out.2.size (newH_small H1.out.2.2 (by omega) (by decide)) (newH_ok H1.out.2.2 hn1 HDL.out) 2 (by unfold I64; omega) ⟨false, nextC H, 0⟩ HC.out (by simp [U64]) false _ _ HD.out.1).mono fun e w8 hh => ?_
                    obtain ⟨A8, c8, rfl, h28, hc8⟩ := hh
                    obtain ⟨b', o', x', hA', hx', _, z1⟩ := (HV.out.keep (HR.out.2.trans hc8)).at_ (k := k) (by have := HL.out; omega)
                    injection hA' with hA'
                    injection hA' with hb' ho'
                    subst hb' ho'
                    obtain rfl : x' = x := by have := HD.out.2; rw [this] at hx'; injection hx' with h; exact h.symm
                    have H8 := Lib.hid (And.intro h28 (HR.out.2.trans hc8))
                    clear h28 hc8 hx'
                    simp only [List.length_nil]
                    go_wp2_with fail
                    go_roundw
                    case rel => exact ⟨k + 1, by omega, by simp, H8.out.1, H8.out.2⟩
                    case measure => simp [intOf]; omega
                  · have hnil : (vals.take n).drop k = [] := List.drop_eq_nil_of_le (by rw [List.length_take]; omega)
                    have hnil2 : (vals.take n).drop (k + 1) = [] := List.drop_eq_nil_of_le (by rw [List.length_take]; omega)
                    have HN := Lib.hid (And.intro hnil hnil2)
                    clear hnil hnil2 hdl
                    go_wp2_with fail
                    refine (do_new wo w.heap.size p q (newH H n [] true) H (by rw [← HN.out.1]; exact HR.out.1) HR.out.2.size (newH_small H1.out.2.2 (by omega) (by decide)) (newH_ok H1.out.2.2 hn1 (by simp)) 2 (by unfold I64; omega) ⟨false, nextC H, 0⟩ HC.out (by simp [U64]) false _ _ (get_none H4.out.2.2)).mono fun e w8 hh => ?_
                    obtain ⟨A8, c8, rfl, h28, hc8⟩ := hh
                    have H8 := Lib.hid (And.intro h28 (HR.out.2.trans hc8))
                    clear h28 hc8
                    simp only [List.length_nil]
                    go_wp2_with fail
                    go_roundw
                    case rel => exact ⟨k + 1, by omega, by simp, by show Two w.heap.size w8 p q (newH H n ((vals.take n).drop (k + 1)) true) H; rw [HN.out.2]; exact H8.out.1, H8.out.2⟩
                    case measure => simp [intOf]; omega
                · have q3 : decide ((k : Int) < (n : Int) + 2) = false := decide_eq_false (by omega)
                  have HDL := Lib.hid hdl
                  clear hdl
                  go_wp2_with fail
                  refine (do_new wo w.heap.size p q _ H HR.out.1 HR.out.2.size (newH_small H1.out.2.2 (by omega) (by decide)) (newH_ok H1.out.2.2 hn1 HDL.out) 1 (by unfold I64; omega) ⟨true, nextC H, 0⟩ HC.out (by simp [U64]) false _ _ (put_shut H4.out.2.2)).mono fun e w8 hh => ?_
                  obtain ⟨A8, c8, rfl, h28, hc8⟩ := hh
                  have H8 := Lib.hid (HR.out.2.trans hc8)
                  clear h28 hc8
                  simp only [List.length_nil]
                  go_wp2_with fail
                  go_ret
                  exact ⟨by simp, H8.out.below (fun b t h => h.1) (Nat.le_refl _)⟩
end Go.Proofs.Ytclllnoohoonoaa
