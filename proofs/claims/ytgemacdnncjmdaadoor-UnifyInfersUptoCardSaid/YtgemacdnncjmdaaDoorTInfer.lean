/-
  unify.Infer.
-/
import Derived.Test.YtgemacdnncjmdaaDoorRInfer
namespace Go.Proofs.YtgemacdnncjmdaaDoor
open Go.RowKit
set_option linter.unusedVariables false
set_option linter.unusedSimpArgs false

def giRel (D n : Nat) (params : List Ty) (g : ByteArray → Option Ty) (W : World) (v i : Value) (wr : World) : Prop :=
  ∃ (k : Nat) (A : Option Addr) (c : Nat), k ≤ params.length ∧ i = .int .i64 k ∧ v = .slice A k c ∧ (∀ j < k, ∀ p, params[j]? = some p → isAt g p.name = true) ∧ GrowR D 33 6 (TyN (n + 1)) wr A c ((params.take k).map fun p => tyAt g p.name) ∧ Chg (fun _ _ => False) W wr
set_option maxRecDepth 100000 in
set_option maxHeartbeats 8000000 in
theorem tinfer_any (n B : Nat) (w : World) (params want have_ : List Ty) (Ap : Option Addr) (cp : Nat) (Aw : Option Addr) (cw : Nat) (Ah : Option Addr) (ch : Nat) (hB : B ≤ w.heap.size) (hTab : Tabs w)
    (hP : TysR n B w (.slice Ap params.length cp) params) (hpl : params.length ≤ 1048576) (hW : TysR n B w (.slice Aw want.length cw) want) (hwl : want.length ≤ 1048576) (hH : TysR n B w (.slice Ah have_.length ch) have_) (hhl : have_.length ≤ 1048576) :
    Calls Tryd.prog 24 #[.slice Ap params.length cp, .slice Aw want.length cw, .slice Ah have_.length ch] w (InfRes n (n + 1) params want have_ w) := by
  obtain ⟨i9, hi9, hz9, hs9, hb9⟩ := info_parts infoStr
  obtain ⟨i39, hi39, hz39, hs39, hb39⟩ := info_parts infoType
  have HP := Lib.hid (And.intro hB (And.intro hTab (And.intro hP (And.intro hW hH))))
  clear hB hTab hP hW hH
  go_enter Tryd.func24, Tryd.ntmps24
  go_wp2_with fail
  go_loopw [6, 9, 21] (fun a v i wr => a = .slice none 0 0 ∧ nmRel w.heap.size params w v i wr) (fun _ _ i _ => params.length - (intOf i).toNat)
  case atStart => exact ⟨rfl, 0, none, 0, Nat.zero_le _, rfl, rfl, by simp, RowR.nil _ _ _ _ _, Chg.refl _ _⟩
  case round =>
    obtain ⟨rfl, k, A1, c1, hk, rfl, rfl, hs, hr, hch⟩ := hrel
    have q3 : IntKind.i64.wrap ((k : Int) + 1) = (k : Int) + 1 := IntWalk.i64_in _ ⟨by omega, by omega⟩
    have htl : ((params.take k).map Ty.name).length = k := by rw [List.length_map, List.length_take]; omega
    by_cases hlt : k < params.length
    · have q1 : decide (k < params.length) = true := decide_eq_true hlt
      have q2 : (k : Int) < (params.length : Int) := by omega
      obtain ⟨bb, oo, x, Xf, xf, Xl, xl, Xr, xr, rfl, hkx, hRx, z0, z1, z2, z3, z4, z5⟩ := TysR.at_ (TysR.keep0 hch HP.out.2.2.1) hlt
      have hca := chg_alloc wr (.cells #[.int .i64 x.kind, .string x.name, .int .i64 x.con, .slice Xf x.fields.length xf, .slice Xl x.list.length xl, .slice Xr x.res.length xr] 33)
      have hbx := Blk.new wr 33 #[.int .i64 x.kind, .string x.name, .int .i64 x.con, .slice Xf x.fields.length xf, .slice Xl x.list.length xl, .slice Xr x.res.length xr]
      have hcall := sound_any n B (wr.alloc (.cells #[.int .i64 x.kind, .string x.name, .int .i64 x.con, .slice Xf x.fields.length xf, .slice Xl x.list.length xl, .slice Xr x.res.length xr] 33)) x Xf xf Xl xl Xr xr (Nat.le_trans HP.out.1 (hch.trans hca).size) (HP.out.2.1.keep0 (hch.trans hca)) (TyR.keep0 hca hRx)
      have hsz := (TyR.small hRx).2.2.1
      have hr' := hr.keep hca (fun _ _ h => h) fun cs x h => h
      have hch' := hch.trans hca
      by_cases hkd : x.kind = 12
      · have qk : (x.kind != 12) = false := by simp [hkd]
        have HK := Lib.hid (And.intro hs (And.intro hch' (And.intro hkx (And.intro hr' (And.intro hkd htl)))))
        clear hs hch hkx hRx hr hkd htl hca hch' hr'
        cases he : soundT x with
        | true =>
          rw [he] at hcall
          have HE := Lib.hid he
          clear he
          go_wp2_with fail
          generalize wr.alloc (.cells #[.int .i64 x.kind, .string x.name, .int .i64 x.con, .slice Xf x.fields.length xf, .slice Xl x.list.length xl, .slice Xr x.res.length xr] 33) = w4 at hcall HK hbx ⊢
          clear z0 z1 z2 z3 z4 z5
          refine hcall.mono fun e w5 h => ?_
          obtain ⟨rfl, hc5⟩ := h
          obtain ⟨x0, x1, x2, x3, x4, x5⟩ := (hc5.blk hbx id).cells6
          have hr5 := HK.out.2.2.2.1.keep hc5 (fun _ _ h => h) fun cs x h => h
          have hD5 : w.heap.size ≤ w5.heap.size := (HK.out.2.1.trans hc5).size
          have H5 := Lib.hid (And.intro hr5 hc5)
          have hln := Lib.hid (HK.out.2.2.2.2.2).symm
          have hk20 : k ≤ 549755813888 := by omega
          clear hcall hc5 hr5 hbx
          go_wp2_with (at_builtin; go_must (refine wpList_push rfl (.tmp 33) (.tmp 36) 22 rfl w.heap.size 9 i9 _ 1 16 Tryd.underlying22 hi9 hz9 hs9 hb9 rfl (by omega) StrV A1 c1 _ hln.out (by first | rfl | simp) H5.out.1 1 [.string x.name] x.name (by first | rfl | simp) (by first | rfl | simp) rfl (by intro u hu; simp at hu; subst hu; rfl) ⟨rfl, hsz⟩ hk20 (by omega) hD5 (fun _ _ _ _ h => h) ?_))
          intro A7 c7 w7 hr7 hc7
          have HQ := Lib.hid (show nmRel w.heap.size params w (.slice A7 (k + 1) c7) (.int .i64 ((k : Int) + 1)) w7 from by
            obtain ⟨h1, h2⟩ := List.getElem?_eq_some_iff.1 HK.out.2.2.1
            refine ⟨k + 1, A7, c7, hlt, by simp, rfl, ?_, ?_, (HK.out.2.1.trans H5.out.2).trans_new hc7 fun b t hb h => by have := h.1; omega⟩
            · rw [List.take_succ_eq_append_getElem h1, h2, List.all_append, HK.out.1]
              simp [okP, HE.out, HK.out.2.2.2.2.1]
            · rw [List.take_succ_eq_append_getElem h1, h2, List.map_append, List.map_take]
              exact hr7)
          clear hr7 hc7 x0 x1 x2 x3 x4 x5
          go_wp2_with fail
          go_roundw
          case rel => exact ⟨rfl, HQ.out⟩
          case measure => simp [intOf]; omega
        | false =>
          rw [he] at hcall
          have HE := Lib.hid he
          clear he
          go_wp2_with fail
          generalize wr.alloc (.cells #[.int .i64 x.kind, .string x.name, .int .i64 x.con, .slice Xf x.fields.length xf, .slice Xl x.list.length xl, .slice Xr x.res.length xr] 33) = w4 at hcall HK hbx ⊢
          clear z0 z1 z2 z3 z4 z5 hbx
          refine hcall.mono fun e w5 h => ?_
          obtain ⟨rfl, hc5⟩ := h
          clear hcall
          go_wp2_with fail
          go_ret3
          exact ⟨HK.out.2.1.trans hc5, [], 0, 1, none, 0, rfl, SlR.nil _ _ _ _ _ _ _, .inl ⟨all_badP HK.out.2.2.1 (by unfold okP; rw [HE.out, Bool.and_false]), rfl, rfl, rfl⟩⟩
      · have qk : (x.kind != 12) = true := by simp [hkd]
        have HK := Lib.hid (And.intro hs (And.intro hch' (And.intro hkx hkd)))
        clear hs hch hkx hRx hr hkd htl hcall hca hch' hr' hbx
        go_wp2_with fail
        go_ret3
        exact ⟨HK.out.2.1, [], 0, 1, none, 0, rfl, SlR.nil _ _ _ _ _ _ _, .inl ⟨all_badP HK.out.2.2.1 (by unfold okP; rw [decide_eq_false HK.out.2.2.2, Bool.false_and]), rfl, rfl, rfl⟩⟩
    · have q1 : decide (k < params.length) = false := decide_eq_false hlt
      obtain rfl : k = params.length := by omega
      rw [List.take_length] at hs hr htl
      have hnl : (params.map Ty.name).length ≤ 1048576 := by rw [List.length_map]; exact hpl
      have hNs : StrsR wr.heap.size wr (.slice A1 (params.map Ty.name).length c1) (params.map Ty.name) := hr.settleT (by decide) fun _ _ h => h
      have hmr := Nat.le_trans HP.out.1 hch.size
      have hcall := ufind_any n n wr.heap.size wr (params.map Ty.name) want have_ A1 c1 Aw cw Ah ch (Nat.le_refl _) (HP.out.2.1.keep0 hch) hNs hnl (TysR.more hmr (TysR.keep0 hch HP.out.2.2.2.1)) hwl (TysR.more hmr (TysR.keep0 hch HP.out.2.2.2.2)) hhl
      rw [htl] at hcall
      have HS := Lib.hid (And.intro hs (And.intro hch htl))
      clear hs hch hr htl hNs hmr q1 q3 hlt hk hnl
      rename World => w2
      go_wp2_with fail
      refine hcall.mono fun e w3 h => ?_
      clear hcall
      obtain ⟨hc3, h⟩ := h
      rcases h with ⟨h1, rfl⟩ | ⟨h1, h2, rfl⟩ | ⟨h1, h2, ⟨k, g, x, y, k1, k2, k3, k4, rfl⟩ | ⟨q, g, h3, rfl, hM, hq⟩⟩
      · have HF := Lib.hid (And.intro h1 hc3)
        clear h1 hc3
        go_wp2_with fail
        go_ret3
        exact ⟨HS.out.2.1.trans HF.out.2, [], 0, 1, none, 0, rfl, SlR.nil _ _ _ _ _ _ _, .inr ⟨HS.out.1, 0, 1, none, .inl ⟨HF.out.1, rfl, rfl, rfl⟩, .inl ⟨rfl, rfl, rfl, rfl⟩⟩⟩
      · have HF := Lib.hid (And.intro h1 (And.intro hc3 h2))
        clear h1 hc3 h2
        go_wp2_with fail
        go_ret3
        exact ⟨HS.out.2.1.trans HF.out.2.1, [], 0, 2, none, 0, rfl, SlR.nil _ _ _ _ _ _ _, .inr ⟨HS.out.1, 0, 2, none, .inr (.inl ⟨HF.out.1, HF.out.2.2, rfl, rfl, rfl⟩), .inl ⟨rfl, rfl, rfl, rfl⟩⟩⟩
      · have HF := Lib.hid (And.intro h1 (And.intro hc3 (And.intro h2 (show FndP n (params.map Ty.name) want have_ k 9 none from .inr (.inr ⟨h1, h2, .inl ⟨g, x, y, k1, k2, k3, k4, rfl, rfl⟩⟩)))))
        clear h1 hc3 h2 k1 k2 k3 k4
        go_wp2_with fail
        go_ret3
        exact ⟨HS.out.2.1.trans HF.out.2.1, [], k, 9, none, 0, rfl, SlR.nil _ _ _ _ _ _ _, .inr ⟨HS.out.1, k, 9, none, HF.out.2.2.2, .inl ⟨rfl, rfl, rfl, rfl⟩⟩⟩
      · have HF := Lib.hid (And.intro (show FndP n (params.map Ty.name) want have_ 0 0 (some g) from .inr (.inr ⟨h1, h2, .inr ⟨g, h3, rfl, rfl, rfl⟩⟩)) (And.intro (HS.out.2.1.trans hc3) (And.intro hM (And.intro (found_sound h1 h3) (And.intro (Nat.le_trans HS.out.2.1.size hc3.size) hc3.size)))))
        clear h1 h2 h3 hc3 hM hq
        go_wp2_with fail
        go_loopw [6, 53] (fun v i wr => giRel w3.heap.size n params g w3 v i wr) (fun _ i _ => params.length - (intOf i).toNat)
        case atStart => exact ⟨0, none, 0, Nat.zero_le _, rfl, rfl, fun j hj => absurd hj (by omega), GrowR.nil _ _ _ _ _, Chg.refl _ _⟩
        case round =>
          obtain ⟨k, A1, c1, hk, rfl, rfl, hs, hg, hch⟩ := hrel
          have q3 : IntKind.i64.wrap ((k : Int) + 1) = (k : Int) + 1 := IntWalk.i64_in _ ⟨by omega, by omega⟩
          have htl : ((params.take k).map fun p => tyAt g p.name).length = k := by rw [List.length_map, List.length_take]; omega
          by_cases hlt : k < params.length
          · have q1 : decide (k < params.length) = true := decide_eq_true hlt
            have q2 : (k : Int) < (params.length : Int) := by omega
            obtain ⟨bb, oo, p, Pf, pf, Pl, pl, Pr, pr, rfl, hkp, hRp, z0, z1, z2, z3, z4, z5⟩ := TysR.at_ (TysR.keep0 (HF.out.2.1.trans hch) HP.out.2.2.1) hlt
            have hcp := chg_alloc wr (.cells #[.int .i64 p.kind, .string p.name, .int .i64 p.con, .slice Pf p.fields.length pf, .slice Pl p.list.length pl, .slice Pr p.res.length pr] 33)
            obtain ⟨x, b, Xf, xf, Xl, xl, Xr, xr, hx, hb, hlook, hRx⟩ := ((HF.out.2.2.1.keep hch).keep hcp).look (TyR.small hRp).2.2.1
            cases b with
            | false =>
              have HK := Lib.hid (And.intro hs (And.intro (hch.trans hcp) (And.intro hkp hb)))
              clear hs hch hkp hRp hg htl hRx hx hb hcp
              go_wp2_with fail
              go_ret3
              exact ⟨HF.out.2.1.trans (HK.out.2.1.alloc _), [], k, 12, none, 0, rfl, SlR.nil _ _ _ _ _ _ _, .inr ⟨HS.out.1, 0, 0, some g, HF.out.1, .inr ⟨g, rfl, .inl ⟨p.name, by rw [List.getElem?_map, HK.out.2.2.1]; rfl, HK.out.2.2.2.symm, fun j hj s' hs' => by
                rw [List.getElem?_map] at hs'
                obtain ⟨p', hp', rfl⟩ := Option.map_eq_some_iff.1 hs'
                exact HK.out.1 j hj p' hp', rfl, rfl⟩⟩⟩⟩
            | true =>
              have hca := hcp.alloc (.cells #[.int .i64 x.kind, .string x.name, .int .i64 x.con, .slice Xf x.fields.length xf, .slice Xl x.list.length xl, .slice Xr x.res.length xr] 33)
              have hlt2 : ∀ g', (Value.slice A1 ((params.take k).map fun p => tyAt g p.name).length c1).ownBlock = some g' → g' < ((wr.alloc (.cells #[.int .i64 p.kind, .string p.name, .int .i64 p.con, .slice Pf p.fields.length pf, .slice Pl p.list.length pl, .slice Pr p.res.length pr] 33)).alloc (.cells #[.int .i64 x.kind, .string x.name, .int .i64 x.con, .slice Xf x.fields.length xf, .slice Xl x.list.length xl, .slice Xr x.res.length xr] 33)).heap.size := fun g' h => Nat.lt_of_lt_of_le (hg.1.lt h).1 hca.size
              have hg' := hg.keep hca (fun _ _ => id) fun G hG cs x h => tyN_keepR (n + 1) G _ _ _ hca (fun _ _ _ _ => id) cs x h
              obtain ⟨⟨xss, how0, x2, x3, x4⟩, hgD⟩ := hg'
              rw [htl] at how0
              have hwD : w3.heap.size ≤ ((wr.alloc (.cells #[.int .i64 p.kind, .string p.name, .int .i64 p.con, .slice Pf p.fields.length pf, .slice Pl p.list.length pl, .slice Pr p.res.length pr] 33)).alloc (.cells #[.int .i64 x.kind, .string x.name, .int .i64 x.con, .slice Xf x.fields.length xf, .slice Xl x.list.length xl, .slice Xr x.res.length xr] 33)).heap.size := (hch.trans hca).size
              have hBw : w2.heap.size ≤ ((wr.alloc (.cells #[.int .i64 p.kind, .string p.name, .int .i64 p.con, .slice Pf p.fields.length pf, .slice Pl p.list.length pl, .slice Pr p.res.length pr] 33)).alloc (.cells #[.int .i64 x.kind, .string x.name, .int .i64 x.con, .slice Xf x.fields.length xf, .slice Xl x.list.length xl, .slice Xr x.res.length xr] 33)).heap.size := Nat.le_trans HF.out.2.2.2.2.2 hwD
              have hRx' := TyR.keep0 (chg_alloc _ (.cells #[.int .i64 x.kind, .string x.name, .int .i64 x.con, .slice Xf x.fields.length xf, .slice Xl x.list.length xl, .slice Xr x.res.length xr] 33)) hRx
              have HR := Lib.hid (And.intro how0 (And.intro (hch.trans hca) (And.intro hkp (And.intro htl (And.intro hs (And.intro hx (And.intro hb hRx')))))))
              have HX := Lib.hid (And.intro x2 (And.intro x3 (And.intro x4 (And.intro hgD hlt2))))
              clear hcp how0 hch hkp htl x2 x3 x4 hgD hlt2 hg hs hx hb hRx hRx' hRp hca
              go_wp2_with fail
              generalize (wr.alloc (.cells #[.int .i64 p.kind, .string p.name, .int .i64 p.con, .slice Pf p.fields.length pf, .slice Pl p.list.length pl, .slice Pr p.res.length pr] 33)).alloc (.cells #[.int .i64 x.kind, .string x.name, .int .i64 x.con, .slice Xf x.fields.length xf, .slice Xl x.list.length xl, .slice Xr x.res.length xr] 33) = w5 at HR HX hwD hBw ⊢
              clear z0 z1 z2 z3 z4 z5 hlook
              refine (clone_any (n + 1) w2.heap.size w5 x Xf xf Xl xl Xr xr hBw HR.out.2.2.2.2.2.2.2).mono fun e w6 h => ?_
              obtain ⟨Bf, bf, Bl, bl, Br, br, rfl, hN, hc6⟩ := h
              have how := hc6.own HR.out.1 fun _ _ => id
              have hone := one_ty x.kind x.con x.name Bf x.fields.length bf Bl x.list.length bl Br x.res.length br
              have HN := Lib.hid (And.intro hN hc6)
              clear hN hc6
              go_wp2_with (at_builtin; go_must (refine wpList_append_new rfl (.tmp 68) (.tmp 71) 23 rfl 0 33 i39 _ 6 104 Tryd.underlying23 hi39 hz39 hs39 hb39 rfl (by omega) A1 k c1 xss.flatten rfl how 1 1 [.int .i64 x.kind, .string x.name, .int .i64 x.con, .slice Bf x.fields.length bf, .slice Bl x.list.length bl, .slice Br x.res.length br] rfl (by first | rfl | simp) rfl hone (by simp only [maxLen]; omega) (by omega) (Nat.zero_le _) ?_))
              intro A3 c3 w7 hap
              obtain ⟨_, hch, hkp, htl, hs, hx, hb, hRx⟩ := HR.out
              obtain ⟨hN, hc6⟩ := HN.out
              obtain ⟨x2, x3, x4, hgD, hlt2⟩ := HX.out
              have hp := GrowR.push (x := x) (cs := (tyCells x.kind x.name x.con Bf x.fields.length bf Bl x.list.length bl Br x.res.length br)) (tyN_keepR (n + 1)) (tyN_subR (n + 1)) x2 x3 x4 hgD hwD hc6 (by rw [htl]; exact how) hlt2 hN rfl (by rw [htl]; exact hap)
              have hch2 := hp.2
              rw [htl] at hch2
              have HQ := Lib.hid (show giRel w3.heap.size n params g w3 (.slice A3 (k + 1) c3) (.int .i64 ((k : Int) + 1)) w7 from by
                obtain ⟨h1, h2⟩ := List.getElem?_eq_some_iff.1 hkp
                refine ⟨k + 1, A3, c3, hlt, by simp, rfl, fun j hj p' hp' => ?_, ?_, (hch.trans hc6).trans_new hch2 fun b t hb h => by have := hgD b (by rw [htl]; exact h.1); omega⟩
                · by_cases hjk : j = k
                  · subst hjk
                    rw [hkp] at hp'
                    cases hp'
                    exact hb.symm
                  · exact hs j (by omega) p' hp'
                · rw [List.take_succ_eq_append_getElem h1, h2, List.map_append]
                  rw [hx] at hp
                  exact hp.1)
              clear hap how hch hkp htl hN hc6 hx hb x2 x3 x4 hgD hlt2 hp hch2 hs hRx hone
              go_wp2_with fail
              go_roundw
              case rel => exact HQ.out
              case measure => simp [intOf]; omega
          · have q1 : decide (k < params.length) = false := decide_eq_false hlt
            obtain rfl : k = params.length := by omega
            have hr := hg.rowG fun G G' hG cs x h => tyN_subR (n + 1) G G' wr hG cs x h
            rw [List.take_length] at hr htl
            have hTs : TysR (n + 1) wr.heap.size wr (.slice A1 (params.map fun p => tyAt g p.name).length c1) (params.map fun p => tyAt g p.name) := hr.1.settleT (by decide) fun _ _ h => TyN.tyR h
            rw [htl] at hTs
            have HI := Lib.hid (And.intro (show ∀ s ∈ params.map Ty.name, isAt g s = true from fun s hs' => by
              obtain ⟨p, hp, rfl⟩ := List.mem_map.1 hs'
              obtain ⟨j, hj, hjs⟩ := List.mem_iff_getElem.1 hp
              exact hs j hj p (by rw [List.getElem?_eq_getElem hj, hjs])) (And.intro hch (And.intro hTs htl)))
            clear hs hch q1 q3 hk hlt hg hr hTs htl
            rename World => w4
            go_wp2_with fail
            go_loopw [6, 76] (fun a i wr => a = .slice A1 params.length c1 ∧ mtRel params g w4 i wr) (fun _ i _ => params.length - (intOf i).toNat)
            case atStart => exact ⟨rfl, 0, Nat.zero_le _, rfl, fun j hj => absurd hj (by omega), Chg.refl _ _⟩
            case round =>
              obtain ⟨rfl, k, hk, rfl, hs, hch⟩ := hrel
              have q3 : IntKind.i64.wrap ((k : Int) + 1) = (k : Int) + 1 := IntWalk.i64_in _ ⟨by omega, by omega⟩
              have hcw := HI.out.2.1.trans hch
              by_cases hlt : k < params.length
              · have q1 : decide (k < params.length) = true := decide_eq_true hlt
                have q2 : (k : Int) < (params.length : Int) := by omega
                obtain ⟨bb, oo, p, Pf, pf, Pl, pl, Pr, pr, rfl, hkp, hRp, z0, z1, z2, z3, z4, z5⟩ := TysR.at_ (TysR.keep0 (HF.out.2.1.trans hcw) HP.out.2.2.1) hlt
                have hkn : (params.map Ty.name)[k]? = some p.name := by rw [List.getElem?_map, hkp]; rfl
                have hca := chg_alloc wr (.cells #[.int .i64 p.kind, .string p.name, .int .i64 p.con, .slice Pf p.fields.length pf, .slice Pl p.list.length pl, .slice Pr p.res.length pr] 33)
                have hbp := Blk.new wr 33 #[.int .i64 p.kind, .string p.name, .int .i64 p.con, .slice Pf p.fields.length pf, .slice Pl p.list.length pl, .slice Pr p.res.length pr]
                obtain ⟨b2, o2, u, Uf, uf, Ul, ul, Ur, ur, rfl, hku, hRu, u0, u1, u2, u3, u4, u5⟩ := TysR.at_ (TysR.keep0 (hch.trans hca) HI.out.2.2.1) (k := k) (by rw [List.length_map]; exact hlt)
                have hu : u = tyAt g p.name := by
                  rw [List.getElem?_map, hkp] at hku
                  exact (Option.some.inj hku).symm
                have hok := List.all_eq_true.1 HS.out.1 p (List.mem_of_getElem? hkp)
                unfold okP at hok
                simp only [Bool.and_eq_true, decide_eq_true_eq] at hok
                have hcon := param_con hok.2 hok.1
                have hsu : soundT u = true := by
                  have hi := HI.out.1 p.name (List.mem_of_getElem? hkn)
                  unfold isAt at hi
                  obtain ⟨v, hv⟩ := Option.isSome_iff_exists.1 hi
                  rw [hu]
                  unfold tyAt
                  rw [hv]
                  exact HF.out.2.2.2.1 _ _ hv
                have hdr := (Chg.refl (fun _ _ => False) (wr.alloc (.cells #[.int .i64 p.kind, .string p.name, .int .i64 p.con, .slice Pf p.fields.length pf, .slice Pl p.list.length pl, .slice Pr p.res.length pr] 33))).drew
                have hcall := tmeets_any (n + 1) w4.heap.size (wr.alloc (.cells #[.int .i64 p.kind, .string p.name, .int .i64 p.con, .slice Pf p.fields.length pf, .slice Pl p.list.length pl, .slice Pr p.res.length pr] 33)).drew u Uf uf Ul ul Ur ur p.con ((hch.trans hca).trans hdr).size (TyR.keep0 hdr hRu) hsu hcon
                have HK := Lib.hid (And.intro hs (And.intro ((hch.trans hca).trans hdr) (And.intro hkp (And.intro hu hcw))))
                clear hs hch hkp hRp hkn hRu hok hcon hsu hcw hdr hu hku hca
                go_wp2_with fail
                generalize wr.alloc (.cells #[.int .i64 p.kind, .string p.name, .int .i64 p.con, .slice Pf p.fields.length pf, .slice Pl p.list.length pl, .slice Pr p.res.length pr] 33) = w5 at hcall HK hbp u0 u1 u2 u3 u4 u5 ⊢
                clear z0 z1 z2 z3 z4 z5
                obtain ⟨x0, x1, x2, x3, x4, x5⟩ := hbp.cells6
                clear hbp
                refine wp_region_still_tail 6 (by kernel_rfl) (by kernel_rfl) ?_
                simp only [List.take_succ_cons, List.take_zero, List.drop_succ_cons, List.drop_zero]
                repeat (with_reducible refine wpStill_step (fun K hK => ?_); go_simp; with_reducible refine hK _ ?_; clear hK K)
                try with_reducible refine wpStill_nil ?_
                clear x0 x1 x2 x3 x4 x5 u0 u1 u2 u3 u4 u5
                change wpList _ _ _ _ _ w5.drew
                generalize w5.drew = w6 at hcall HK ⊢
                generalize hrr : meetsT u p.con = rr at hcall
                have HRR := Lib.hid hrr
                clear hrr
                go_wp2_with fail
                refine hcall.mono fun e w7 h => ?_
                obtain ⟨rfl, hc7⟩ := h
                clear hcall
                cases rr with
                | true =>
                  go_wp2_with fail
                  go_roundw
                  case rel =>
                    refine ⟨rfl, k + 1, hlt, by simp, fun j hj p' hp' => ?_, HK.out.2.1.trans hc7⟩
                    by_cases hjk : j = k
                    · subst hjk
                      rw [HK.out.2.2.1] at hp'
                      cases hp'
                      rw [← HK.out.2.2.2.1]
                      exact HRR.out
                    · exact HK.out.1 j (by omega) p' hp'
                  case measure => simp [intOf]; omega
                | false =>
                  go_wp2_with fail
                  go_ret3
                  exact ⟨(HF.out.2.1.trans HI.out.2.1).trans (HK.out.2.1.trans hc7), [], want.length + k, 9, none, 0, by simp, SlR.nil _ _ _ _ _ _ _, .inr ⟨HS.out.1, 0, 0, some g, HF.out.1, .inr ⟨g, rfl, .inr ⟨HI.out.1, .inl ⟨k, p, HK.out.2.2.1, by rw [← HK.out.2.2.2.1]; exact HRR.out, HK.out.1, rfl, rfl, rfl⟩⟩⟩⟩⟩
              · have q1 : decide (k < params.length) = false := decide_eq_false hlt
                obtain rfl : k = params.length := by omega
                have hts := TysR.keep0 hch HI.out.2.2.1
                have HZ := Lib.hid (And.intro (show ∀ p ∈ params, meetsT (tyAt g p.name) p.con = true from fun p hp => by
                  obtain ⟨j, hj, hjp⟩ := List.mem_iff_getElem.1 hp
                  exact hs j hj p (by rw [List.getElem?_eq_getElem hj, hjp])) (And.intro hcw (TysR.more hch.size hts)))
                clear hs hch hcw hts
                go_wp2_with fail
                go_ret3
                exact ⟨HF.out.2.1.trans HZ.out.2.1, params.map (fun p => tyAt g p.name), 0, 0, _, _, by rw [List.length_map]; rfl, by rw [List.length_map]; exact HZ.out.2.2, .inr ⟨HS.out.1, 0, 0, some g, HF.out.1, .inr ⟨g, rfl, .inr ⟨HI.out.1, .inr ⟨HZ.out.1, by rw [List.map_map]; rfl, rfl, rfl⟩⟩⟩⟩⟩
end Go.Proofs.YtgemacdnncjmdaaDoor
