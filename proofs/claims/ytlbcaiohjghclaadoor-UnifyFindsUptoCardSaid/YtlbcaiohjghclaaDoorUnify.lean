/-
  unify.Unify: what names stand for.
-/
import Derived.Test.YtlbcaiohjghclaaDoorUFind
import Derived.Test.YtlbcaiohjghclaaDoorTCopy
namespace Go.Proofs.YtlbcaiohjghclaaDoor
open Go.RowKit
set_option linter.unusedVariables false
set_option linter.unusedSimpArgs false

theorem infoBool : (Tryd.prog.info? 4).map (fun i => (i.zero, i.size, i.bytes)) = some (some (.bool false), 1, 1) := by kernel_rfl
def BoolV (_ : World) (cs : List Value) (b : Bool) : Prop := cs = [.bool b]
def tyAt (g : ByteArray → Option Ty) (s : ByteArray) : Ty := (g s).getD zeroT
def isAt (g : ByteArray → Option Ty) (s : ByteArray) : Bool := (g s).isSome
/-- What Unify answers: an error, or types in new memory and what is known. -/
def UniRes (n m : Nat) (names : List ByteArray) (want have_ : List Ty) (w : World) (e : Ending) (w' : World) : Prop := Chg (fun _ _ => False) w w' ∧
  ((∃ c : Int, e = .returned (.tuple #[.slice none 0 0, .slice none 0 0, .int .i64 c]) ∧ (((want ++ have_).all soundT = false ∧ c = 1) ∨ ((want ++ have_).all soundT = true ∧ ¬ (names.Nodup ∧ want.length = have_.length) ∧ c = 2) ∨
      ((want ++ have_).all soundT = true ∧ (names.Nodup ∧ want.length = have_.length) ∧ matchL (matchT names n) (noNm want) (noNm have_) (fun _ => none) = none ∧ c = 9))) ∨
   ∃ (g : ByteArray → Option Ty) (A : Option Addr) (c : Nat) (A' : Option Addr) (c' : Nat), ((want ++ have_).all soundT = true ∧ (names.Nodup ∧ want.length = have_.length) ∧ matchL (matchT names n) (noNm want) (noNm have_) (fun _ => none) = some g) ∧
     e = .returned (.tuple #[.slice A names.length c, .slice A' names.length c', .int .i64 0]) ∧ RowG (fun b => w.heap.size ≤ b) 42 6 (TyN (m + 1) fun b => w.heap.size ≤ b) w' A c (names.map (tyAt g)) ∧ RowR w.heap.size 4 1 BoolV w' A' c' (names.map (isAt g)))
theorem MapM.look {m B q : Nat} {names : List ByteArray} {f : ByteArray → Option Ty} {w : World} (h : MapM m B q names f w) {s : ByteArray} (hs : s.size ≤ 1048576) :
    ∃ (x : Ty) (b : Bool) (Xf : Option Addr) (xf : Nat) (Xl : Option Addr) (xl : Nat) (Xr : Option Addr) (xr : Nat), x = tyAt f s ∧ b = isAt f s ∧ (Instr.lookup 37 (.map (some q)) (.string s) true).run Tryd.prog w = .ok (.tuple #[.agg #[.int .i64 x.kind, .string x.name, .int .i64 x.con, .slice Xf x.fields.length xf, .slice Xl x.list.length xl, .slice Xr x.res.length xr], .bool b]) w ∧ TyR (m + 1) B w (tyCells x.kind x.name x.con Xf x.fields.length xf Xl x.list.length xl Xr x.res.length xr) x := by
  obtain ⟨N, k, g, h1, h2, h3⟩ := h
  have hl := h1.look_ok (t := 37) (e := 42) Tryd.underlying37 (zero_ty w) (s := s) (by simp only [maxLen]; omega)
  rcases h3 s hs with ⟨hf, hg⟩ | ⟨u, Xf, xf, Xl, xl, Xr, xr, hf, hg, hR⟩
  · rw [hg] at hl
    refine ⟨zeroT, false, none, 0, none, 0, none, 0, by unfold tyAt; rw [hf]; rfl, by unfold isAt; rw [hf]; rfl, hl, ?_⟩
    exact ⟨⟨by unfold I64; decide, by unfold I64; decide, by decide, by decide, by decide, by decide⟩, none, 0, none, 0, none, 0, rfl, SlR.nil _ _ _ _ _ _ _, SlR.nil _ _ _ _ _ _ _, SlR.nil _ _ _ _ _ _ _⟩
  · rw [hg] at hl
    exact ⟨u, true, Xf, xf, Xl, xl, Xr, xr, by unfold tyAt; rw [hf]; rfl, by unfold isAt; rw [hf]; rfl, hl, TyR.deep hR (Nat.le_succ m)⟩
def uniRel (D m : Nat) (names : List ByteArray) (g : ByteArray → Option Ty) (W : World) (v v' i : Value) (wr : World) : Prop :=
  ∃ (k : Nat) (A : Option Addr) (c : Nat) (A' : Option Addr) (c' : Nat), k ≤ names.length ∧ i = .int .i64 k ∧ v = .slice A k c ∧ v' = .slice A' k c' ∧ GrowR D 42 6 (TyN (m + 1)) wr A c ((names.take k).map (tyAt g)) ∧ RowR D 4 1 BoolV wr A' c' ((names.take k).map (isAt g)) ∧ Chg (fun _ _ => False) W wr
set_option maxRecDepth 100000 in
set_option maxHeartbeats 8000000 in
theorem unify_any (n m B : Nat) (w : World) (names : List ByteArray) (want have_ : List Ty) (An : Option Addr) (cn : Nat) (Aw : Option Addr) (cw : Nat) (Ah : Option Addr) (ch : Nat) (hB : B ≤ w.heap.size) (hTab : Tabs w)
    (hN : StrsR B w (.slice An names.length cn) names) (hnl : names.length ≤ 1048576) (hW : TysR n B w (.slice Aw want.length cw) want) (hwl : want.length ≤ 1048576) (hH : TysR m B w (.slice Ah have_.length ch) have_) (hhl : have_.length ≤ 1048576) :
    Calls Tryd.prog 4 #[.slice An names.length cn, .slice Aw want.length cw, .slice Ah have_.length ch] w (UniRes n m names want have_ w) := by
  obtain ⟨i39, hi39, hz39, hs39, hb39⟩ := info_parts infoType
  obtain ⟨i4, hi4, hz4, hs4, hb4⟩ := info_parts infoBool
  have hcall := ufind_any n m B w names want have_ An cn Aw cw Ah ch hB hTab hN hnl hW hwl hH hhl
  have HP := Lib.hid (And.intro hB hN)
  clear hB hTab hN hW hH
  go_enter Tryd.func4, Tryd.ntmps4
  go_wp2_with fail
  refine hcall.mono fun e w1 h => ?_
  obtain ⟨hc1, h⟩ := h
  clear hcall
  rcases h with ⟨hs, rfl⟩ | ⟨hs, hnd, rfl⟩ | ⟨hs, hnd, h⟩
  · have HZ := Lib.hid (And.intro hs hc1)
    clear hs hc1
    go_wp2_with fail
    go_ret3
    exact ⟨HZ.out.2, .inl ⟨1, rfl, .inl ⟨HZ.out.1, rfl⟩⟩⟩
  · have HZ := Lib.hid (And.intro hs (And.intro hnd hc1))
    clear hs hnd hc1
    go_wp2_with fail
    go_ret3
    exact ⟨HZ.out.2.2, .inl ⟨2, rfl, .inr (.inl ⟨HZ.out.1, HZ.out.2.1, rfl⟩)⟩⟩
  · have HS := Lib.hid (And.intro hs hnd)
    clear hs
    rcases h with ⟨k, g, x, y, hx, hy, hg, hm, rfl⟩ | ⟨q, g, hg, rfl, hM, hq⟩
    · have hbad : matchL (matchT names n) (noNm want) (noNm have_) (fun _ => none) = none := by
        have hk := (List.getElem?_eq_some_iff.1 hx).1
        refine matchL_bad (k := k + 1) (by rw [noNm_len]; omega) (by rw [noNm_len, noNm_len]; exact hnd.2) ?_
        rw [matchL_take hg (noNm_get hx) (noNm_get hy), stepM_bare, hm]
      have HZ := Lib.hid (And.intro hbad hc1)
      clear hbad hc1 hx hy hg hm hnd
      go_wp2_with fail
      go_ret3
      exact ⟨HZ.out.2, .inl ⟨9, rfl, .inr (.inr ⟨HS.out.1, HS.out.2, HZ.out.1, rfl⟩)⟩⟩
    · have H1 := Lib.hid (And.intro hg (And.intro hM (And.intro hq hc1)))
      have hw1 := hc1.size
      clear hg hM hq hc1 hnd
      go_wp2_with fail
      go_loopw [6, 7, 12, 14, 28] (fun v v' _ _ i wr => uniRel w1.heap.size m names g w1 v v' i wr) (fun _ _ _ _ i _ => names.length - (intOf i).toNat)
      case atStart => exact ⟨0, none, 0, none, 0, Nat.zero_le _, rfl, rfl, rfl, GrowR.nil _ _ _ _ _, RowR.nil _ _ _ _ _, Chg.refl _ _⟩
      case round =>
        obtain ⟨k, A1, c1, A2, c2, hk, rfl, rfl, rfl, hg, hr2, hch⟩ := hrel
        have q3 : IntKind.i64.wrap ((k : Int) + 1) = (k : Int) + 1 := IntWalk.i64_in _ ⟨by omega, by omega⟩
        have htl : ((names.take k).map (tyAt g)).length = k := by rw [List.length_map, List.length_take]; omega
        have htl2 : ((names.take k).map (isAt g)).length = k := by rw [List.length_map, List.length_take]; omega
        by_cases hlt : k < names.length
        · have q1 : decide (k < names.length) = true := decide_eq_true hlt
          have q2 : (k : Int) < (names.length : Int) := by omega
          have hcw := H1.out.2.2.2.trans hch
          obtain ⟨bb, oo, s, cs, rfl, hks, _, ⟨rfl, hss⟩, hcell⟩ := SlR.at2 (SlR.keep HP.out.2 hcw (no_lets _ _) fun _ _ h => h) hlt
          have z0 : wr.cell? ⟨bb, oo + k, none⟩ = some (.string s) := by simpa using hcell 0 _ rfl
          obtain ⟨x, b, Xf, xf, Xl, xl, Xr, xr, hx, hb, hlook, hRx⟩ := (H1.out.2.1.keep hch).look hss
          have hca := chg_alloc wr (.cells #[.int .i64 x.kind, .string x.name, .int .i64 x.con, .slice Xf x.fields.length xf, .slice Xl x.list.length xl, .slice Xr x.res.length xr] 42)
          have hlt2 : ∀ g', (Value.slice A1 ((names.take k).map (tyAt g)).length c1).ownBlock = some g' → g' < (wr.alloc (.cells #[.int .i64 x.kind, .string x.name, .int .i64 x.con, .slice Xf x.fields.length xf, .slice Xl x.list.length xl, .slice Xr x.res.length xr] 42)).heap.size := fun g' h => Nat.lt_of_lt_of_le (hg.1.lt h).1 hca.size
          have hg' := hg.keep hca (fun _ _ => id) fun G hG cs x h => tyN_keepR (m + 1) G _ _ _ hca (fun _ _ _ _ => id) cs x h
          have hr2' := hr2.keep hca (fun _ _ h => h) fun cs x h => h
          obtain ⟨⟨xss, how0, x2, x3, x4⟩, hgD⟩ := hg'
          rw [htl] at how0
          have hwD : w1.heap.size ≤ (wr.alloc (.cells #[.int .i64 x.kind, .string x.name, .int .i64 x.con, .slice Xf x.fields.length xf, .slice Xl x.list.length xl, .slice Xr x.res.length xr] 42)).heap.size := (hch.trans hca).size
          have hBw : w.heap.size ≤ (wr.alloc (.cells #[.int .i64 x.kind, .string x.name, .int .i64 x.con, .slice Xf x.fields.length xf, .slice Xl x.list.length xl, .slice Xr x.res.length xr] 42)).heap.size := Nat.le_trans hw1 hwD
          have hRx' := TyR.keep0 hca hRx
          have HR := Lib.hid (And.intro how0 (And.intro (hch.trans hca) (And.intro hks (And.intro htl (And.intro hr2' (And.intro hx (And.intro hb (And.intro hRx' htl2))))))))
          have HX := Lib.hid (And.intro x2 (And.intro x3 (And.intro x4 (And.intro hgD hlt2))))
          clear how0 hch hks htl htl2 x2 x3 x4 hgD hlt2 hg hr2 hr2' hx hb hRx hRx' hcw hcell hca
          go_wp2_with fail
          generalize wr.alloc (.cells #[.int .i64 x.kind, .string x.name, .int .i64 x.con, .slice Xf x.fields.length xf, .slice Xl x.list.length xl, .slice Xr x.res.length xr] 42) = w2 at HR HX hwD hBw ⊢
          clear z0 hlook
          refine (clone_any (m + 1) w.heap.size w2 x Xf xf Xl xl Xr xr hBw HR.out.2.2.2.2.2.2.2.1).mono fun e w3 h => ?_
          obtain ⟨Bf, bf, Bl, bl, Br, br, rfl, hN, hc3⟩ := h
          have how := hc3.own HR.out.1 fun _ _ => id
          have hone := one_ty x.kind x.con x.name Bf x.fields.length bf Bl x.list.length bl Br x.res.length br
          have HN := Lib.hid (And.intro hN hc3)
          clear hN hc3
          go_wp2_with (at_builtin; go_must (refine wpList_append_new rfl (.tmp 38) (.tmp 41) 23 rfl 0 42 i39 _ 6 104 Tryd.underlying23 hi39 hz39 hs39 hb39 rfl (by omega) A1 k c1 xss.flatten rfl how 1 1 [.int .i64 x.kind, .string x.name, .int .i64 x.con, .slice Bf x.fields.length bf, .slice Bl x.list.length bl, .slice Br x.res.length br] rfl (by first | rfl | simp) rfl hone (by simp only [maxLen]; omega) (by omega) (Nat.zero_le _) ?_))
          intro A3 c3 w4 hap
          obtain ⟨_, hch, hks, htl, hr2, hx, hb, hRx, htl2⟩ := HR.out
          obtain ⟨hN, hc3⟩ := HN.out
          obtain ⟨x2, x3, x4, hgD, hlt2⟩ := HX.out
          have hp := GrowR.push (x := x) (cs := (tyCells x.kind x.name x.con Bf x.fields.length bf Bl x.list.length bl Br x.res.length br)) (tyN_keepR (m + 1)) (tyN_subR (m + 1)) x2 x3 x4 hgD hwD hc3 (by rw [htl]; exact how) hlt2 hN rfl (by rw [htl]; exact hap)
          have hch2 := hp.2
          rw [htl] at hch2
          have hr4 := (hr2.keep hc3 (fun _ _ h => h) fun cs x h => h).keep hch2 (fun b _ h => absurd h.2 (by decide)) fun cs x h => h
          have hcw4 : Chg (fun _ _ => False) w1 w4 := (hch.trans hc3).trans_new hch2 fun b t hb h => by have := hgD b (by rw [htl]; exact h.1); omega
          have hD4 : w1.heap.size ≤ w4.heap.size := hcw4.size
          have H4 := Lib.hid (And.intro hp.1 (And.intro hr4 (And.intro hcw4 (And.intro hks (And.intro hx hb)))))
          have hk20 : k ≤ 549755813888 := by omega
          have hkl := Lib.hid htl2
          clear hap how hch hks htl htl2 hN hc3 hx hb x2 x3 x4 hgD hlt2 hp hch2 hr4 hcw4 hr2 hRx hone
          go_wp2_with (at_builtin; go_must (refine wpList_push rfl (.tmp 43) (.tmp 45) 24 rfl w1.heap.size 4 i4 _ 1 1 Tryd.underlying24 hi4 hz4 hs4 hb4 rfl (by omega) BoolV A2 c2 _ hkl.out.symm (by first | rfl | simp) H4.out.2.1 1 [.bool b] b (by first | rfl | simp) (by first | rfl | simp) rfl (by intro u hu; simp at hu; subst hu; rfl) rfl hk20 (by omega) hD4 (fun _ _ _ _ h => h) ?_))
          intro A5 c5 w5 hr5 hc5
          obtain ⟨hg4, hr4, hcw4, hks, hx, hb⟩ := H4.out
          have htk : (names.take (k + 1)).map (tyAt g) = (names.take k).map (tyAt g) ++ [x] := by
            obtain ⟨h1, h2⟩ := List.getElem?_eq_some_iff.1 hks
            rw [List.take_succ_eq_append_getElem h1, h2]
            simp [hx]
          have htk2 : (names.take (k + 1)).map (isAt g) = (names.take k).map (isAt g) ++ [b] := by
            obtain ⟨h1, h2⟩ := List.getElem?_eq_some_iff.1 hks
            rw [List.take_succ_eq_append_getElem h1, h2]
            simp [hb]
          have hg5 := hg4.keep hc5 (fun b _ h => absurd h.2 (by decide)) fun G hG cs x h => tyN_keepR (m + 1) G _ _ _ hc5 (fun b t _ ht h => by rcases ht with rfl | rfl <;> exact absurd h.2 (by decide)) cs x h
          have HQ := Lib.hid (show uniRel w1.heap.size m names g w1 (.slice A3 (k + 1) c3) (.slice A5 (k + 1) c5) (.int .i64 ((k : Int) + 1)) w5 from ⟨k + 1, A3, c3, A5, c5, hlt, by simp, rfl, rfl, by rw [htk]; exact hg5, by rw [htk2, List.map_take]; exact hr5, hcw4.trans_new hc5 fun b t hb h => by have := h.1; omega⟩)
          clear hr5 hc5 hg4 hr4 hcw4 hks hx hb htk htk2 hg5 hkl
          go_wp2_with fail
          go_roundw
          case rel => exact HQ.out
          case measure => simp [intOf]; omega
        · have q1 : decide (k < names.length) = false := decide_eq_false hlt
          obtain rfl : k = names.length := by omega
          have hr := hg.rowG fun G G' hG cs x h => tyN_subR (m + 1) G G' wr hG cs x h
          rw [List.take_length] at hr hr2
          have HR := Lib.hid (And.intro hr (And.intro hr2 hch))
          clear hg hch hr hr2 htl htl2
          go_wp2_with fail
          go_ret3
          refine ⟨H1.out.2.2.2.trans HR.out.2.2, .inr ⟨g, A1, c1, A2, c2, ⟨HS.out.1, HS.out.2, H1.out.1⟩, rfl, ?_, ?_⟩⟩
          · exact HR.out.1.imp (fun b _ h => Nat.le_trans hw1 h) fun cs x h => TyN.sub (fun b _ h => Nat.le_trans hw1 h) h
          · exact HR.out.2.1.rebase hw1
end Go.Proofs.YtlbcaiohjghclaaDoor
