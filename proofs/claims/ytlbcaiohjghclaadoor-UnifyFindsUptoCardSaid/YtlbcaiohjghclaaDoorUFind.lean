/-
  unify.find: what names stand for, and the first pair that does not match.
-/
import Derived.Test.YtlbcaiohjghclaaDoorUMatch
namespace Go.Proofs.YtlbcaiohjghclaaDoor
open Go.RowKit
set_option linter.unusedVariables false
set_option linter.unusedSimpArgs false

/-- What find answers. -/
def FindRes (n m : Nat) (names : List ByteArray) (want have_ : List Ty) (w : World) (e : Ending) (w' : World) : Prop := Chg (fun _ _ => False) w w' ∧
  (((want ++ have_).all soundT = false ∧ e = .returned (.tuple #[.map none, .int .i64 0, .int .i64 1])) ∨
   ((want ++ have_).all soundT = true ∧ ¬ (names.Nodup ∧ want.length = have_.length) ∧ e = .returned (.tuple #[.map none, .int .i64 0, .int .i64 2])) ∨
   ((want ++ have_).all soundT = true ∧ (names.Nodup ∧ want.length = have_.length) ∧ ((∃ (k : Nat) (g : ByteArray → Option Ty) (x y : Ty), want[k]? = some x ∧ have_[k]? = some y ∧ matchL (matchT names n) ((noNm want).take k) ((noNm have_).take k) (fun _ => none) = some g ∧ matchT names n x y g = none ∧ e = .returned (.tuple #[.map none, .int .i64 k, .int .i64 9])) ∨
     ∃ (q : Nat) (g : ByteArray → Option Ty), matchL (matchT names n) (noNm want) (noNm have_) (fun _ => none) = some g ∧ e = .returned (.tuple #[.map (some q), .int .i64 0, .int .i64 0]) ∧ MapM m w.heap.size q names g w' ∧ w.heap.size ≤ q)))
def allRel (l : List Ty) (W : World) (i : Value) (wr : World) : Prop := ∃ k : Nat, k ≤ l.length ∧ i = .int .i64 k ∧ (l.take k).all soundT = true ∧ Chg (fun _ _ => False) W wr
def seenRel (names : List ByteArray) (gm : Nat) (W : World) (i : Value) (wr : World) : Prop :=
  ∃ k n m : Nat, k ≤ names.length ∧ i = .int .i64 k ∧ n ≤ k ∧ (names.take k).Nodup ∧ SMap wr gm n m (setF (names.take k)) ∧ Chg (fun b t => b = gm ∧ t = 0) W wr
theorem all_bad {l : List Ty} {k : Nat} {x : Ty} (h : l[k]? = some x) (hx : soundT x = false) : l.all soundT = false := by
  rw [← Bool.not_eq_true, List.all_eq_true]
  intro ha
  have := ha _ (List.mem_of_getElem? h)
  rw [hx] at this
  cases this
theorem take_nodup {l : List ByteArray} {k : Nat} {x : ByteArray} (h : l[k]? = some x) (hx : x ∈ l.take k) : ¬ l.Nodup := by
  intro hn
  obtain ⟨h1, h2⟩ := List.getElem?_eq_some_iff.1 h
  have hs := hn.sublist (List.take_sublist (k + 1) l)
  rw [List.take_succ_eq_append_getElem h1, h2, nodup_snoc] at hs
  exact hs.2 hx
theorem take_nodup_succ {l : List ByteArray} {k : Nat} {x : ByteArray} (h : l[k]? = some x) (hn : (l.take k).Nodup) (hx : x ∉ l.take k) : (l.take (k + 1)).Nodup := by
  obtain ⟨h1, h2⟩ := List.getElem?_eq_some_iff.1 h
  rw [List.take_succ_eq_append_getElem h1, h2, nodup_snoc]
  exact ⟨hn, hx⟩
set_option maxRecDepth 100000 in
set_option maxHeartbeats 16000000 in
theorem ufind_any (n m B : Nat) (w : World) (names : List ByteArray) (want have_ : List Ty) (An : Option Addr) (cn : Nat) (Aw : Option Addr) (cw : Nat) (Ah : Option Addr) (ch : Nat) (hB : B ≤ w.heap.size) (hTab : Tabs w)
    (hN : StrsR B w (.slice An names.length cn) names) (hnl : names.length ≤ 1048576) (hW : TysR n B w (.slice Aw want.length cw) want) (hwl : want.length ≤ 1048576) (hH : TysR m B w (.slice Ah have_.length ch) have_) (hhl : have_.length ≤ 1048576) :
    Calls Tryd.prog 9 #[.slice An names.length cn, .slice Aw want.length cw, .slice Ah have_.length ch] w (FindRes n m names want have_ w) := by
  have hbc := Blk.new w 23 #[.slice Aw want.length cw, .slice Ah have_.length ch]
  have hc1 := chg_alloc w (.cells #[.slice Aw want.length cw, .slice Ah have_.length ch] 23)
  have hmx : ∀ (l : List Ty) (A : Option Addr) (c : Nat), TysR n B w (.slice A l.length c) l → TysR (n + m) B w (.slice A l.length c) l := fun l A c h => SlR.imp h (fun _ _ h => h) fun _ _ h => TyR.deep h (by omega)
  have hmy : ∀ (l : List Ty) (A : Option Addr) (c : Nat), TysR m B w (.slice A l.length c) l → TysR (n + m) B w (.slice A l.length c) l := fun l A c h => SlR.imp h (fun _ _ h => h) fun _ _ h => TyR.deep h (by omega)
  have HP := Lib.hid (And.intro hB (And.intro hTab (And.intro hN (And.intro hW (And.intro hH (And.intro (hmx _ _ _ hW) (hmy _ _ _ hH)))))))
  have HC1 := Lib.hid (And.intro hc1 hbc)
  clear hB hTab hN hW hH hmx hmy hbc hc1
  go_enter Tryd.func9, Tryd.ntmps9
  go_wp2_with fail
  generalize w.alloc (.cells #[.slice Aw want.length cw, .slice Ah have_.length ch] 23) = W1 at HC1 ⊢
  have hsum : sumL [(.slice Aw want.length cw, want), (.slice Ah have_.length ch, have_)] = want.length + have_.length := by simp [sumL]
  have hflat : flatL [(.slice Aw want.length cw, want), (.slice Ah have_.length ch, have_)] = want ++ have_ := by simp [flatL]
  refine (concat_any (n + m) B W1 w.heap.size 2 2 [(.slice Aw want.length cw, want), (.slice Ah have_.length ch, have_)] rfl (by omega) (Nat.le_trans HP.out.1 HC1.out.1.size) ?_ ?_ ?_).mono fun e w2 h => ?_
  · intro k p hp
    obtain ⟨h0, h1⟩ := HC1.out.2.cells2
    match k, hp with
    | 0, hp => simp at hp; subst hp; exact h0
    | 1, hp => simp at hp; subst hp; exact h1
    | k + 2, hp => simp at hp
  · intro k p hp
    match k, hp with
    | 0, hp => simp at hp; subst hp; exact TysR.keep0 HC1.out.1 HP.out.2.2.2.2.2.1
    | 1, hp => simp at hp; subst hp; exact TysR.keep0 HC1.out.1 HP.out.2.2.2.2.2.2
    | k + 2, hp => simp at hp
  · rw [hsum]; omega
  · obtain ⟨A, c, rfl, hr, hc2⟩ := h
    rw [hsum]
    rw [hflat] at hr
    have hl := RowR.settleT (R' := TyR (n + m) w2.heap.size) (by decide) hr fun _ _ h => TyR.more (Nat.le_trans HP.out.1 (HC1.out.1.trans hc2).size) h
    rw [List.length_append] at hl
    have H2 := Lib.hid (And.intro hl (HC1.out.1.trans hc2))
    have hll : (want ++ have_).length = want.length + have_.length := List.length_append
    clear hr hl hc2 hsum hflat HC1
    go_wp2_with fail
    generalize hL : want ++ have_ = L at H2 hll
    have HL := Lib.hid hL
    clear hL
    rw [← hll] at H2 ⊢
    have hLn : L.length ≤ 2097152 := by omega
    have HLL := Lib.hid hll
    clear hll
    go_loopw [21] (fun i wr => allRel L w2 i wr) (fun i _ => L.length - (intOf i).toNat)
    case atStart => exact ⟨0, Nat.zero_le _, rfl, by simp, Chg.refl _ _⟩
    case round =>
      obtain ⟨k, hk, rfl, hs, hch⟩ := hrel
      have q3 : IntKind.i64.wrap ((k : Int) + 1) = (k : Int) + 1 := IntWalk.i64_in _ ⟨by omega, by omega⟩
      by_cases hlt : k < L.length
      · have q1 : decide (k < L.length) = true := decide_eq_true hlt
        have q1' : decide ((k : Int) < (want.length : Int) + (have_.length : Int)) = true := decide_eq_true (by have := HLL.out; omega)
        have q2 : (k : Int) < (L.length : Int) := by omega
        obtain ⟨bb, oo, x, Xf, xf, Xl, xl, Xr, xr, rfl, hkx, hRx, z0, z1, z2, z3, z4, z5⟩ := TysR.at_ (TysR.keep0 hch H2.out.1) hlt
        have hca := chg_alloc wr (.cells #[.int .i64 x.kind, .string x.name, .int .i64 x.con, .slice Xf x.fields.length xf, .slice Xl x.list.length xl, .slice Xr x.res.length xr] 42)
        have hcw := (H2.out.2.trans hch).trans hca
        have hcall := sound_any (n + m) w2.heap.size _ x Xf xf Xl xl Xr xr ((hch.trans hca).size) (HP.out.2.1.keep0 hcw) (TyR.keep0 hca hRx)
        have HK := Lib.hid (And.intro hs (And.intro (hch.trans hca) hkx))
        clear hs hch hkx hRx hca hcw
        cases he : soundT x with
        | true =>
          rw [he] at hcall
          have HE := Lib.hid he
          clear he
          go_wp2_with fail
          refine hcall.mono fun e w5 h => ?_
          obtain ⟨rfl, hc5⟩ := h
          clear hcall
          go_wp2_with fail
          go_roundw
          case rel =>
            obtain ⟨h1, h2⟩ := List.getElem?_eq_some_iff.1 HK.out.2.2
            refine ⟨k + 1, hlt, by simp, ?_, HK.out.2.1.trans hc5⟩
            rw [List.take_succ_eq_append_getElem h1, h2, List.all_append, HK.out.1]
            simp [HE.out]
          case measure => simp [intOf]; omega
        | false =>
          rw [he] at hcall
          have HE := Lib.hid he
          clear he
          go_wp2_with fail
          refine hcall.mono fun e w5 h => ?_
          obtain ⟨rfl, hc5⟩ := h
          clear hcall
          go_wp2_with fail
          go_ret3
          exact ⟨(H2.out.2.trans HK.out.2.1).trans hc5, .inl ⟨by rw [HL.out]; exact all_bad HK.out.2.2 HE.out, rfl⟩⟩
      · have q1' : decide ((k : Int) < (want.length : Int) + (have_.length : Int)) = false := decide_eq_false (by have := HLL.out; omega)
        obtain rfl : k = L.length := by omega
        rw [List.take_length] at hs
        have HK := Lib.hid (And.intro hs (H2.out.2.trans hch))
        have HS := Lib.hid hs
        rename World => w3
        have hmk := SMap.made w3
        have hcm := chg_alloc w3 (.map #[] 0)
        have hmm := @run_makeMap Tryd.prog
        clear hs hch
        go_wp2_with fail
        generalize w3.alloc (.map #[] 0) = W4 at hmk hcm ⊢
        generalize hgm : w3.heap.size = gm at hmk ⊢
        have hgw : w.heap.size ≤ gm := by have := HK.out.2.size; omega
        have H4 := Lib.hid (And.intro (HK.out.2.trans hcm) hgw)
        clear hgm hcm hgw q1' q3
        go_loopw [13, 32] (fun _ i wr => seenRel names gm W4 i wr) (fun _ i _ => names.length - (intOf i).toNat)
        case atStart => exact ⟨0, 0, 0, Nat.zero_le _, rfl, Nat.le_refl _, by simp, hmk.ext fun s _ => (setF_out (by simp)).symm, Chg.refl _ _⟩
        case round =>
          clear hmk
          obtain ⟨k, n', m', hk, rfl, hn', hnd, hmap, hch⟩ := hrel
          have q3 : IntKind.i64.wrap ((k : Int) + 1) = (k : Int) + 1 := IntWalk.i64_in _ ⟨by omega, by omega⟩
          have hcw : Chg (fun _ _ => False) w wr := H4.out.1.trans_new hch fun b t hb h => by have := h.1; have := H4.out.2; omega
          by_cases hlt : k < names.length
          · have q1 : decide (k < names.length) = true := decide_eq_true hlt
            have q2 : (k : Int) < (names.length : Int) := by omega
            obtain ⟨bb, oo, x, cs, rfl, hkx, _, ⟨rfl, hxs⟩, hcell⟩ := SlR.at2 (SlR.keep HP.out.2.2.1 hcw (no_lets _ _) fun _ _ h => h) hlt
            have z0 : wr.cell? ⟨bb, oo + k, none⟩ = some (.string x) := by simpa using hcell 0 _ rfl
            have hlook := hmap.look (t := 50) (e := 4) Tryd.underlying50 (z := .bool false) (by kernel_rfl) (s := x) (by unfold maxLen; omega)
            by_cases hin : x ∈ names.take k
            · rw [setF_in hin] at hlook
              have HI := Lib.hid (And.intro (take_nodup hkx hin) hcw)
              clear hin hmap hch hcw hnd hkx hcell
              go_wp2_with fail
              go_ret3
              exact ⟨HI.out.2, .inr (.inl ⟨by rw [HL.out]; exact HK.out.1, fun h => HI.out.1 h.1, rfl⟩)⟩
            · rw [setF_out hin] at hlook
              obtain ⟨w5, hput, hm5, hc5⟩ := hmap.put (t := 50) (e := 4) Tryd.underlying50 (by unfold maxLen; omega) (s := x) (by unfold maxLen; omega) (.bool true)
              rw [setF_snoc, setF_out hin] at hm5
              have HI := Lib.hid (And.intro (take_nodup_succ hkx hnd hin) (And.intro hm5 (And.intro (hch.trans_le hc5 fun b t _ h => h) (And.intro hkx hn'))))
              clear hin hmap hch hcw hnd hkx hcell hm5 hc5 hn'
              go_wp2_with fail
              go_roundw
              case rel =>
                obtain ⟨h1, h2⟩ := List.getElem?_eq_some_iff.1 HI.out.2.2.2.1
                have htk : names.take (k + 1) = names.take k ++ [x] := by rw [List.take_succ_eq_append_getElem h1, h2]
                have hm := HI.out.2.1
                rw [← htk] at hm
                exact ⟨k + 1, n' + 1, _, hlt, by simp, by have := HI.out.2.2.2.2; omega, HI.out.1, hm, HI.out.2.2.1⟩
              case measure => simp [intOf]; omega
          · have q1 : decide (k < names.length) = false := decide_eq_false hlt
            obtain rfl : k = names.length := by omega
            rw [List.take_length] at hnd
            have HN := Lib.hid (And.intro hnd hcw)
            clear hnd hcw hch hmap hn'
            by_cases hlen : want.length = have_.length
            · have p4 : (((want.length : Nat) : Int) != ((have_.length : Nat) : Int)) = false := by simp [hlen]
              have HE := Lib.hid hlen
              clear hlen
              rename World => w6
              have hmm := @run_makeMap Tryd.prog
              go_wp2_with fail
              have hmk := (SMap.made w6).keep (chg_alloc (w6.alloc (.map #[] 0)) (.cells #[.slice An names.length cn, .map (some w6.heap.size)] 53)) id
              have hbf := Blk.new (w6.alloc (.map #[] 0)) 53 #[.slice An names.length cn, .map (some w6.heap.size)]
              have hcf := (chg_alloc w6 (.map #[] 0)).alloc (.cells #[.slice An names.length cn, .map (some w6.heap.size)] 53)
              simp only [World.size_alloc] at hbf
              generalize (w6.alloc (.map #[] 0)).alloc (.cells #[.slice An names.length cn, .map (some w6.heap.size)] 53) = Wf at hmk hbf hcf ⊢
              generalize hgF : w6.heap.size + 1 = gF at hbf ⊢
              generalize hq0 : w6.heap.size = q at hmk hbf ⊢
              have hqw : w.heap.size ≤ q := by have := HN.out.2.size; omega
              have hcW := HN.out.2.trans hcf
              have hFin : FinR w.heap.size gF q names An cn Wf := ⟨hbf, SlR.imp (SlR.keep HP.out.2.2.1 hcW (no_lets _ _) fun _ _ h => h) (fun b _ hl => hl.imp (fun h => Nat.lt_of_lt_of_le h HP.out.1) id) fun _ _ h => h⟩
              have hMap : MapM m w.heap.size q names (fun _ => none) Wf := ⟨0, 0, fun _ => none, hmk, by have := List.countP_le_length (p := fun s : ByteArray => ((fun _ => none : ByteArray → Option Ty) s).isNone) (l := names); omega, fun s _ => .inl ⟨rfl, rfl⟩⟩
              have hMC := umatch_any m w.heap.size gF q names An cn hqw hnl n
              have hWt : TysR n w.heap.size Wf (.slice Aw want.length cw) want := SlR.imp (TysR.keep0 hcW HP.out.2.2.2.1) (fun b _ hl => hl.imp (fun h => Nat.lt_of_lt_of_le h HP.out.1) id) fun _ _ h => TyR.more HP.out.1 h
              have hHt : TysR m w.heap.size Wf (.slice Ah have_.length ch) have_ := SlR.imp (TysR.keep0 hcW HP.out.2.2.2.2.1) (fun b _ hl => hl.imp (fun h => Nat.lt_of_lt_of_le h HP.out.1) id) fun _ _ h => TyR.more HP.out.1 h
              have HF := Lib.hid (And.intro hqw (And.intro hcW (And.intro hFin (And.intro hMC (And.intro hWt hHt)))))
              have HM := Lib.hid hMap
              clear hmk hbf hcf hgF hq0 hqw hcW hFin hMap hMC hWt hHt hmm q1 q3 p4
              go_loopw [15, 53] (fun _ i wr => uRel n m w.heap.size gF q names An cn (noNm want) (noNm have_) (fun _ => none) Wf i wr) (fun _ i _ => want.length - (intOf i).toNat)
              case atStart => exact ⟨0, Nat.zero_le _, rfl, ⟨fun _ => none, by simp [matchL], HM.out⟩, Chg.refl _ _⟩
              case round =>
                obtain ⟨k, hk, rfl, ⟨g, hg, hMg⟩, hch⟩ := hrel
                rw [noNm_len] at hk
                have q3 : IntKind.i64.wrap ((k : Int) + 1) = (k : Int) + 1 := IntWalk.i64_in _ ⟨by omega, by omega⟩
                have hcF : Chg (fun _ _ => False) w wr := HF.out.2.1.trans_new hch fun b t hb h => by have := h.1; have := HF.out.1; omega
                by_cases hlt : k < want.length
                · have q1 : decide (k < want.length) = true := decide_eq_true hlt
                  have q2 : (k : Int) < (want.length : Int) := by omega
                  have q2m : (k : Int) < (have_.length : Int) := by have := HE.out; omega
                  have hkp := mb_lets HF.out.1
                  obtain ⟨bb, oo, x, Xf, xf, Xl, xl, Xr, xr, rfl, hkx, hRx, z0, z1, z2, z3, z4, z5⟩ := TysR.at_ (SlR.keep HF.out.2.2.2.2.1 hch hkp.lets fun _ _ h => TyR.keep hch hkp h) hlt
                  obtain ⟨bb', oo', y, Yf, yf, Yl, yl, Yr, yr, rfl, hky, hRy, v0, v1, v2, v3, v4, v5⟩ := TysR.at_ (SlR.keep HF.out.2.2.2.2.2 hch hkp.lets fun _ _ h => TyR.keep hch hkp h) (k := k) (by have := HE.out; omega)
                  have hdr := (Chg.refl (fun _ _ => False) wr).drew
                  have hcall := HF.out.2.2.2.1 wr.drew x y Xf xf Xl xl Xr xr Yf yf Yl yl Yr yr g (hcF.trans hdr).size (HF.out.2.2.1.keep (hch.trans hdr.toMb) HF.out.1) (hMg.keep hdr) (TyR.keep0 hdr hRx) (TyR.keep0 hdr hRy)
                  have hst := (matchL_take hg (noNm_get hkx) (noNm_get hky)).trans (stepM_bare _ _ _ _ _)
                  have HK := Lib.hid (And.intro (hch.trans hdr.toMb) (And.intro hst (And.intro (hcF.trans hdr) (And.intro hkx (And.intro hky hg)))))
                  clear hg hMg hch hcF hkx hky hRx hRy hdr hst hkp
                  go_wp2_with fail
                  go_still_tail 9, (by kernel_rfl)
                  clear z0 z1 z2 z3 z4 z5 v0 v1 v2 v3 v4 v5
                  change wpList _ _ _ _ _ wr.drew
                  generalize wr.drew = w7 at hcall HK ⊢
                  go_wp2_with fail
                  generalize hrr : matchT names n x y g = rr at hcall HK
                  have HRR := Lib.hid hrr
                  clear hrr
                  refine hcall.mono fun e w8 h => ?_
                  obtain ⟨rfl, hm8, hc8⟩ := h
                  clear hcall
                  cases rr with
                  | some g' =>
                    have HM8 := Lib.hid (hm8 g' rfl)
                    clear hm8
                    go_wp2_with fail
                    go_roundw
                    case rel => exact ⟨k + 1, by rw [noNm_len]; exact hlt, by simp, ⟨g', HK.out.2.1, HM8.out⟩, HK.out.1.trans hc8⟩
                    case measure => simp [intOf]; omega
                  | none =>
                    clear hm8
                    go_wp2_with fail
                    go_ret3
                    exact ⟨HK.out.2.2.1.trans_new hc8 fun b t hb h => by have := h.1; have := HF.out.1; omega, .inr (.inr ⟨by rw [HL.out]; exact HS.out, ⟨HN.out.1, HE.out⟩, .inl ⟨k, g, x, y, HK.out.2.2.2.1, HK.out.2.2.2.2.1, HK.out.2.2.2.2.2, HRR.out, rfl⟩⟩)⟩
                · have q1 : decide (k < want.length) = false := decide_eq_false hlt
                  obtain rfl : k = want.length := by omega
                  have hall : matchL (matchT names n) (noNm want) (noNm have_) (fun _ => none) = some g := by
                    rw [← hg, List.take_of_length_le (by rw [noNm_len]; exact Nat.le_refl _), List.take_of_length_le (by rw [noNm_len]; have := HE.out; omega)]
                  obtain ⟨f0, f1⟩ := (HF.out.2.2.1.keep hch HF.out.1).1.cells2
                  have HK := Lib.hid (And.intro hall (And.intro hMg hcF))
                  clear hg hch hMg hall hcF
                  go_wp2_with fail
                  go_ret3
                  exact ⟨HK.out.2.2, .inr (.inr ⟨by rw [HL.out]; exact HS.out, ⟨HN.out.1, HE.out⟩, .inr ⟨q, g, HK.out.1, rfl, HK.out.2.1, HF.out.1⟩⟩)⟩
            · have p4 : (((want.length : Nat) : Int) != ((have_.length : Nat) : Int)) = true := by simp; omega
              have HE := Lib.hid hlen
              clear hlen
              go_wp2_with fail
              go_ret3
              exact ⟨HN.out.2, .inr (.inl ⟨by rw [HL.out]; exact HK.out.1, fun h => HE.out h.2, rfl⟩)⟩
end Go.Proofs.YtlbcaiohjghclaaDoor
