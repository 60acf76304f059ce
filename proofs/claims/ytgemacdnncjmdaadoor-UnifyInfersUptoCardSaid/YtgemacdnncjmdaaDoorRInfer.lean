/-
  ref02.Infer.
-/
import Derived.Test.YtgemacdnncjmdaaDoorInfP
import Derived.Test.YtgemacdnncjmdaaDoorRFind
namespace Go.Proofs.YtgemacdnncjmdaaDoor
open Go.RowKit
set_option linter.unusedVariables false
set_option linter.unusedSimpArgs false

theorem TysR.more {n B B' : Nat} {w : World} {v : Value} {l : List Ty} (hB : B ≤ B') (h : TysR n B w v l) : TysR n B' w v l := SlR.imp h (fun b _ hl => hl.imp (fun h => Nat.lt_of_lt_of_le h hB) id) fun _ _ h => TyR.more hB h
theorem all_badP {l : List Ty} {k : Nat} {x : Ty} (h : l[k]? = some x) (hx : okP x = false) : l.all okP = false := by
  rw [← Bool.not_eq_true, List.all_eq_true]
  intro ha
  have := ha _ (List.mem_of_getElem? h)
  rw [hx] at this
  cases this
/-- What Infer answers: types found, the place, the error. -/
def InfRes (n m : Nat) (params want have_ : List Ty) (w : World) (e : Ending) (w' : World) : Prop := Chg (fun _ _ => False) w w' ∧
  ∃ (l : List Ty) (at_ : Nat) (c : Int) (A : Option Addr) (cA : Nat), e = .returned (.tuple #[.slice A l.length cA, .int .i64 at_, .int .i64 c]) ∧ TysR m w'.heap.size w' (.slice A l.length cA) l ∧ InfP n params want have_ l at_ c
def nmRel (D : Nat) (params : List Ty) (W : World) (v i : Value) (wr : World) : Prop :=
  ∃ (k : Nat) (A : Option Addr) (c : Nat), k ≤ params.length ∧ i = .int .i64 k ∧ v = .slice A k c ∧ (params.take k).all okP = true ∧ RowR D 9 1 StrV wr A c ((params.take k).map Ty.name) ∧ Chg (fun _ _ => False) W wr
def knRel (names : List ByteArray) (g : ByteArray → Option Ty) (W : World) (i : Value) (wr : World) : Prop :=
  ∃ k : Nat, k ≤ names.length ∧ i = .int .i64 k ∧ (∀ j < k, ∀ s, names[j]? = some s → isAt g s = true) ∧ Chg (fun _ _ => False) W wr
def mtRel (params : List Ty) (g : ByteArray → Option Ty) (W : World) (i : Value) (wr : World) : Prop :=
  ∃ k : Nat, k ≤ params.length ∧ i = .int .i64 k ∧ (∀ j < k, ∀ p, params[j]? = some p → meetsT (tyAt g p.name) p.con = true) ∧ Chg (fun _ _ => False) W wr
set_option maxRecDepth 100000 in
set_option maxHeartbeats 4000000 in
theorem rinfer_any (n B : Nat) (w : World) (params want have_ : List Ty) (Ap : Option Addr) (cp : Nat) (Aw : Option Addr) (cw : Nat) (Ah : Option Addr) (ch : Nat) (hB : B ≤ w.heap.size)
    (hP : TysR n B w (.slice Ap params.length cp) params) (hpl : params.length ≤ 1048576) (hW : TysR n B w (.slice Aw want.length cw) want) (hwl : want.length ≤ 1048576) (hH : TysR n B w (.slice Ah have_.length ch) have_) (hhl : have_.length ≤ 1048576) :
    Calls Tryd.prog 25 #[.slice Ap params.length cp, .slice Aw want.length cw, .slice Ah have_.length ch] w (InfRes n (n + 1) params want have_ w) := by
  obtain ⟨i9, hi9, hz9, hs9, hb9⟩ := info_parts infoStr
  have HP := Lib.hid (And.intro hB (And.intro hP (And.intro hW hH)))
  clear hB hP hW hH
  go_enter Tryd.func25, Tryd.ntmps25
  go_wp2_with fail
  go_loopw [9, 10] (fun v i wr => nmRel w.heap.size params w v i wr) (fun _ i _ => params.length - (intOf i).toNat)
  case atStart => exact ⟨0, none, 0, Nat.zero_le _, rfl, rfl, by simp, RowR.nil _ _ _ _ _, Chg.refl _ _⟩
  case round =>
    obtain ⟨k, A1, c1, hk, rfl, rfl, hs, hr, hch⟩ := hrel
    have q3 : IntKind.i64.wrap ((k : Int) + 1) = (k : Int) + 1 := IntWalk.i64_in _ ⟨by omega, by omega⟩
    have htl : ((params.take k).map Ty.name).length = k := by rw [List.length_map, List.length_take]; omega
    by_cases hlt : k < params.length
    · have q1 : decide (k < params.length) = true := decide_eq_true hlt
      have q2 : (k : Int) < (params.length : Int) := by omega
      obtain ⟨bb, oo, x, Xf, xf, Xl, xl, Xr, xr, rfl, hkx, hRx, z0, z1, z2, z3, z4, z5⟩ := TysR.at_ (TysR.keep0 hch HP.out.2.1) hlt
      have hcall := rsound_any n B wr x Xf xf Xl xl Xr xr (Nat.le_trans HP.out.1 hch.size) hRx
      have hsz := (TyR.small hRx).2.2.1
      by_cases hkd : x.kind = 12
      · have qk : (x.kind != 12) = false := by simp [hkd]
        have HK := Lib.hid (And.intro hs (And.intro hch (And.intro hkx (And.intro hr (And.intro hkd htl)))))
        clear hs hch hkx hRx hr hkd htl
        cases he : soundT x with
        | true =>
          rw [he] at hcall
          have HE := Lib.hid he
          clear he
          go_wp2_with fail
          refine hcall.mono fun e w5 h => ?_
          obtain ⟨rfl, hc5⟩ := h
          have z1' := hc5.cell z1 fun _ => id
          have hr5 := HK.out.2.2.2.1.keep hc5 (fun _ _ h => h) fun cs x h => h
          have hD5 : w.heap.size ≤ w5.heap.size := (HK.out.2.1.trans hc5).size
          have H5 := Lib.hid (And.intro hr5 hc5)
          have hln := Lib.hid (HK.out.2.2.2.2.2).symm
          have hk20 : k ≤ 549755813888 := by omega
          clear hcall z0 z1 z2 z3 z4 z5 hc5 hr5
          go_wp2_with (at_builtin; go_must (refine wpList_push rfl (.tmp 36) (.tmp 42) 22 rfl w.heap.size 9 i9 _ 1 16 Tryd.underlying22 hi9 hz9 hs9 hb9 rfl (by omega) StrV A1 c1 _ hln.out (by first | rfl | simp) H5.out.1 1 [.string x.name] x.name (by first | rfl | simp) (by first | rfl | simp) rfl (by intro u hu; simp at hu; subst hu; rfl) ⟨rfl, hsz⟩ hk20 (by omega) hD5 (fun _ _ _ _ h => h) ?_))
          intro A7 c7 w7 hr7 hc7
          have HQ := Lib.hid (show nmRel w.heap.size params w (.slice A7 (k + 1) c7) (.int .i64 ((k : Int) + 1)) w7 from by
            obtain ⟨h1, h2⟩ := List.getElem?_eq_some_iff.1 HK.out.2.2.1
            refine ⟨k + 1, A7, c7, hlt, by simp, rfl, ?_, ?_, (HK.out.2.1.trans H5.out.2).trans_new hc7 fun b t hb h => by have := h.1; omega⟩
            · rw [List.take_succ_eq_append_getElem h1, h2, List.all_append, HK.out.1]
              simp [okP, HE.out, HK.out.2.2.2.2.1]
            · rw [List.take_succ_eq_append_getElem h1, h2, List.map_append, List.map_take]
              exact hr7)
          clear hr7 hc7 z1'
          go_wp2_with fail
          go_roundw
          case rel => exact HQ.out
          case measure => simp [intOf]; omega
        | false =>
          rw [he] at hcall
          have HE := Lib.hid he
          clear he
          go_wp2_with fail
          refine hcall.mono fun e w5 h => ?_
          obtain ⟨rfl, hc5⟩ := h
          clear hcall
          go_wp2_with fail
          go_ret3
          exact ⟨HK.out.2.1.trans hc5, [], 0, 1, none, 0, rfl, SlR.nil _ _ _ _ _ _ _, .inl ⟨all_badP HK.out.2.2.1 (by unfold okP; rw [HE.out, Bool.and_false]), rfl, rfl, rfl⟩⟩
      · have qk : (x.kind != 12) = true := by simp [hkd]
        have HK := Lib.hid (And.intro hs (And.intro hch (And.intro hkx hkd)))
        clear hs hch hkx hRx hr hkd htl hcall
        go_wp2_with fail
        go_ret3
        exact ⟨HK.out.2.1, [], 0, 1, none, 0, rfl, SlR.nil _ _ _ _ _ _ _, .inl ⟨all_badP HK.out.2.2.1 (by unfold okP; rw [decide_eq_false HK.out.2.2.2, Bool.false_and]), rfl, rfl, rfl⟩⟩
    · have q1 : decide (k < params.length) = false := decide_eq_false hlt
      obtain rfl : k = params.length := by omega
      rw [List.take_length] at hs hr htl
      have hnl : (params.map Ty.name).length ≤ 1048576 := by rw [List.length_map]; exact hpl
      have hNs : StrsR wr.heap.size wr (.slice A1 (params.map Ty.name).length c1) (params.map Ty.name) := hr.settleT (by decide) fun _ _ h => h
      have hmr := Nat.le_trans HP.out.1 hch.size
      have hcall := rfind_any n n wr.heap.size wr (params.map Ty.name) want have_ A1 c1 Aw cw Ah ch (Nat.le_refl _) hNs hnl (TysR.more hmr (TysR.keep0 hch HP.out.2.2.1)) hwl (TysR.more hmr (TysR.keep0 hch HP.out.2.2.2)) hhl
      rw [htl] at hcall
      have HS := Lib.hid (And.intro hs (And.intro hch htl))
      clear hs hch hr htl hNs hmr q1 q3 hlt hk hnl
      rename World => w2
      go_wp2_with fail
      refine hcall.mono fun e w3 h => ?_
      clear hcall
      obtain ⟨hc3, h⟩ := h
      rcases h with ⟨h1, rfl⟩ | ⟨h1, h2, rfl⟩ | ⟨h1, h2, ⟨k, g, x, y, k1, k2, k3, k4, rfl⟩ | ⟨gB, qT, qK, g, h3, rfl, hBd⟩⟩
      · have HF := Lib.hid (And.intro h1 hc3)
        clear h1 hc3
        go_wp2_with fail
        go_ret3
        exact ⟨HS.out.2.1.trans HF.out.2, [], 0, 1, none, 0, rfl, SlR.nil _ _ _ _ _ _ _, .inr ⟨HS.out.1, 0, 1, none, .inl ⟨HF.out.1, rfl, rfl, rfl⟩, .inl ⟨rfl, rfl, rfl, rfl⟩⟩⟩
      · have HF := Lib.hid (And.intro h1 (And.intro hc3 h2))
        clear h1 hc3 h2
        go_wp2_with fail
        go_ret3
        exact ⟨HS.out.2.1.trans HF.out.2.1, [], 0, 2, none, 0, rfl, SlR.nil _ _ _ _ _ _ _, .inr ⟨HS.out.1, 0, 2, none, .inr (.inl ⟨HF.out.1, HF.out.2.2, rfl, rfl, rfl⟩), .inl ⟨rfl, rfl, rfl, rfl⟩⟩⟩
      · have HF := Lib.hid (And.intro h1 (And.intro hc3 (And.intro h2 (show FndP n (params.map Ty.name) want have_ k 9 none from .inr (.inr ⟨h1, h2, .inl ⟨g, x, y, k1, k2, k3, k4, rfl, rfl⟩⟩)))))
        clear h1 hc3 h2 k1 k2 k3 k4
        go_wp2_with fail
        go_ret3
        exact ⟨HS.out.2.1.trans HF.out.2.1, [], k, 9, none, 0, rfl, SlR.nil _ _ _ _ _ _ _, .inr ⟨HS.out.1, k, 9, none, HF.out.2.2.2, .inl ⟨rfl, rfl, rfl, rfl⟩⟩⟩
      · have HF := Lib.hid (And.intro (show FndP n (params.map Ty.name) want have_ 0 0 (some g) from .inr (.inr ⟨h1, h2, .inr ⟨g, h3, rfl, rfl, rfl⟩⟩)) (And.intro (HS.out.2.1.trans hc3) (And.intro hBd (And.intro (found_sound h1 h3) hc3.size))))
        clear h1 h2 h3 hc3 hBd
        go_wp2_with fail
        go_loopw [14] (fun i wr => knRel (params.map Ty.name) g w3 i wr) (fun i _ => params.length - (intOf i).toNat)
        case atStart => exact ⟨0, Nat.zero_le _, rfl, fun j hj => absurd hj (by omega), Chg.refl _ _⟩
        case round =>
          obtain ⟨k, hk, rfl, hs, hch⟩ := hrel
          rw [List.length_map] at hk
          have q3 : IntKind.i64.wrap ((k : Int) + 1) = (k : Int) + 1 := IntWalk.i64_in _ ⟨by omega, by omega⟩
          by_cases hlt : k < params.length
          · have q1 : decide (k < params.length) = true := decide_eq_true hlt
            have q2 : (k : Int) < (params.length : Int) := by omega
            obtain ⟨s, hks⟩ : ∃ s, (params.map Ty.name)[k]? = some s := ⟨_, List.getElem?_eq_getElem (by rw [List.length_map]; exact hlt)⟩
            have hBd := HF.out.2.2.1.keep hch
            obtain ⟨e0, e1, e2⟩ := hBd.own
            rw [HS.out.2.2] at e0 e1 e2
            have i0 := hBd.isIt hks
            have HK := Lib.hid (And.intro hs (And.intro hch hks))
            generalize hb : isAt g s = b at i0
            have HB := Lib.hid hb
            clear hs hch hks hBd hb
            cases b with
            | true =>
              go_wp2_with fail
              go_roundw
              case rel =>
                refine ⟨k + 1, by rw [List.length_map]; exact hlt, by simp, fun j hj s' hs' => ?_, HK.out.2.1⟩
                by_cases hjk : j = k
                · subst hjk
                  rw [HK.out.2.2] at hs'
                  cases hs'
                  exact HB.out
                · exact HK.out.1 j (by omega) s' hs'
              case measure => simp [intOf]; omega
            | false =>
              go_wp2_with fail
              go_ret3
              exact ⟨HF.out.2.1.trans HK.out.2.1, [], k, 12, none, 0, rfl, SlR.nil _ _ _ _ _ _ _, .inr ⟨HS.out.1, 0, 0, some g, HF.out.1, .inr ⟨g, rfl, .inl ⟨s, HK.out.2.2, HB.out, HK.out.1, rfl, rfl⟩⟩⟩⟩
          · have q1 : decide (k < params.length) = false := decide_eq_false hlt
            obtain rfl : k = params.length := by omega
            have HI := Lib.hid (And.intro (show ∀ s ∈ params.map Ty.name, isAt g s = true from fun s hs' => by
              obtain ⟨j, hj, hjs⟩ := List.mem_iff_getElem.1 hs'
              exact hs j (by rw [List.length_map] at hj; exact hj) s (by rw [List.getElem?_eq_getElem hj, hjs])) hch)
            clear hs hch q1 q3 hk hlt
            rename World => w4
            go_wp2_with fail
            go_loopw [15] (fun i wr => mtRel params g w4 i wr) (fun i _ => params.length - (intOf i).toNat)
            case atStart => exact ⟨0, Nat.zero_le _, rfl, fun j hj => absurd hj (by omega), Chg.refl _ _⟩
            case round =>
              obtain ⟨k, hk, rfl, hs, hch⟩ := hrel
              have q3 : IntKind.i64.wrap ((k : Int) + 1) = (k : Int) + 1 := IntWalk.i64_in _ ⟨by omega, by omega⟩
              have hcw := HI.out.2.trans hch
              by_cases hlt : k < params.length
              · have q1 : decide (k < params.length) = true := decide_eq_true hlt
                have q2 : (k : Int) < (params.length : Int) := by omega
                obtain ⟨bb, oo, p, Pf, pf, Pl, pl, Pr, pr, rfl, hkp, hRp, z0, z1, z2, z3, z4, z5⟩ := TysR.at_ (TysR.keep0 (HF.out.2.1.trans hcw) HP.out.2.1) hlt
                have hkn : (params.map Ty.name)[k]? = some p.name := by rw [List.getElem?_map, hkp]; rfl
                have hBd := HF.out.2.2.1.keep hcw
                obtain ⟨e0, e1, e2⟩ := hBd.own
                rw [HS.out.2.2] at e0 e1 e2
                obtain ⟨u, Uf, uf, Ul, ul, Ur, ur, hu, hRu, u0, u1, u2, u3, u4, u5, _⟩ := hBd.ty hkn
                have hok := List.all_eq_true.1 HS.out.1 p (List.mem_of_getElem? hkp)
                unfold okP at hok
                simp only [Bool.and_eq_true, decide_eq_true_eq] at hok
                have hcon := param_con hok.2 hok.1
                have hsu : soundT u = true := by
                  have hi := HI.out.1 p.name (List.mem_of_getElem? hkn)
                  unfold isAt at hi
                  obtain ⟨v, hv⟩ := Option.isSome_iff_exists.1 hi
                  rw [hu]
                  unfold tyAt
                  rw [hv]
                  exact HF.out.2.2.2.1 _ _ hv
                have hdr := (Chg.refl (fun _ _ => False) wr).drew
                have hcall := rmeets_any (n + 1) w2.heap.size wr.drew u Uf uf Ul ul Ur ur p.con (Nat.le_trans HF.out.2.2.2.2 (hcw.trans hdr).size) (TyR.keep0 hdr hRu) hsu hcon
                have HK := Lib.hid (And.intro hs (And.intro (hch.trans hdr) (And.intro hkp (And.intro hu hcw))))
                clear hs hch hkp hRp hkn hBd hRu hok hcon hsu hcw hdr hu
                go_wp2_with fail
                refine wp_region_still_tail 12 (by kernel_rfl) (by kernel_rfl) ?_
                simp only [List.take_succ_cons, List.take_zero, List.drop_succ_cons, List.drop_zero]
                repeat (with_reducible refine wpStill_step (fun K hK => ?_); go_simp; with_reducible refine hK _ ?_; clear hK K)
                try with_reducible refine wpStill_nil ?_
                clear z0 z1 z2 z3 z4 z5 u0 u1 u2 u3 u4 u5 e0 e1 e2
                change wpList _ _ _ _ _ wr.drew
                generalize wr.drew = w6 at hcall HK ⊢
                generalize hrr : meetsT u p.con = rr at hcall
                have HRR := Lib.hid hrr
                clear hrr
                go_wp2_with fail
                refine hcall.mono fun e w7 h => ?_
                obtain ⟨rfl, hc7⟩ := h
                clear hcall
                cases rr with
                | true =>
                  go_wp2_with fail
                  go_roundw
                  case rel =>
                    refine ⟨k + 1, hlt, by simp, fun j hj p' hp' => ?_, HK.out.2.1.trans hc7⟩
                    by_cases hjk : j = k
                    · subst hjk
                      rw [HK.out.2.2.1] at hp'
                      cases hp'
                      rw [← HK.out.2.2.2.1]
                      exact HRR.out
                    · exact HK.out.1 j (by omega) p' hp'
                  case measure => simp [intOf]; omega
                | false =>
                  go_wp2_with fail
                  go_ret3
                  exact ⟨(HF.out.2.1.trans HI.out.2).trans (HK.out.2.1.trans hc7), [], want.length + k, 9, none, 0, by simp, SlR.nil _ _ _ _ _ _ _, .inr ⟨HS.out.1, 0, 0, some g, HF.out.1, .inr ⟨g, rfl, .inr ⟨HI.out.1, .inl ⟨k, p, HK.out.2.2.1, by rw [← HK.out.2.2.2.1]; exact HRR.out, HK.out.1, rfl, rfl, rfl⟩⟩⟩⟩⟩
              · have q1 : decide (k < params.length) = false := decide_eq_false hlt
                obtain rfl : k = params.length := by omega
                have hBd := HF.out.2.2.1.keep hcw
                obtain ⟨e0, e1, e2⟩ := hBd.own
                rw [HS.out.2.2] at e0 e1 e2
                have hts := hBd.tys (by have := HF.out.2.2.2.2; have := hcw.size; omega)
                have HZ := Lib.hid (And.intro (show ∀ p ∈ params, meetsT (tyAt g p.name) p.con = true from fun p hp => by
                  obtain ⟨j, hj, hjp⟩ := List.mem_iff_getElem.1 hp
                  exact hs j hj p (by rw [List.getElem?_eq_getElem hj, hjp])) (And.intro hcw hts))
                clear hs hch hcw hBd hts
                go_wp2_with fail
                go_ret3
                exact ⟨HF.out.2.1.trans HZ.out.2.1, (params.map Ty.name).map (tyAt g), 0, 0, some ⟨qT, 0, none⟩, _, by rw [List.length_map, List.length_map]; rfl, by simpa using HZ.out.2.2, .inr ⟨HS.out.1, 0, 0, some g, HF.out.1, .inr ⟨g, rfl, .inr ⟨HI.out.1, .inr ⟨HZ.out.1, rfl, rfl, rfl⟩⟩⟩⟩⟩
end Go.Proofs.YtgemacdnncjmdaaDoor
