/-
  verify.Check: the first function that is wrong, and where.
-/
import Derived.Test.YtdegfnejhamejaaCkFZk
import Derived.Test.YtdegfnejhamejaaCheckZk
namespace Go.Proofs.Ytdegfnejhamejaa
open Go.RowKit
set_option linter.unusedVariables false
set_option linter.unusedSimpArgs false

def SmallC (m : ModD) : Prop := ∀ f ∈ m.funcs, (placesOf f.code).length < 4611686018427387904 ∧ ∀ x ∈ f.code, x.cases.length < 4611686018427387904
set_option maxRecDepth 100000 in
/-- One who listens, and does nothing. -/
theorem check1_each (w : World) (p a b : Value) : Calls Try.prog 20 (#[p, a, b] ++ #[]) w fun e w' => e = .returned (.tuple #[]) ∧ w' = w := by
  simp only [List.append_toArray, List.append_nil, Array.append_empty]
  go_enter Try.func20, Try.ntmps20
  go_wp2_with fail
  go_end0
  exact ⟨rfl, rfl⟩
def noUC (m : ModD) (f : FuncD) (B : Nat) : UC m f B where
  G0 := fun _ => False
  J := fun _ _ _ => True
  keep := fun _ _ _ _ _ _ _ _ => trivial
  fu := 20
  env := #[]
  enters := fun _ _ => rfl
  each := fun k G w st As cs base p _ _ _ _ _ _ _ => (check1_each w p _ _).mono fun e w' hh => by
    obtain ⟨rfl, rfl⟩ := hh
    exact ⟨rfl, Chg.refl _ _, G, trivial, fun _ h => h, fun _ h => .inl h⟩
theorem firstBad_cons {m : ModD} {l : List FuncD} {j : Nat} {f : FuncD} (hf : l[j]? = some f) : firstBad m (l.drop j) j = if 0 ≤ funcAt m f then some (j, funcAt m f) else firstBad m (l.drop (j + 1)) (j + 1) := by
  obtain ⟨h1, h2⟩ := List.getElem?_eq_some_iff.1 hf
  rw [List.drop_eq_getElem_cons h1, h2, firstBad]
def vchkRel (m : ModD) (w : World) (i : Value) (wr : World) : Prop := ∃ j : Nat, j ≤ m.funcs.length ∧ i = .int .i64 j ∧ firstBad m (m.funcs.drop j) j = firstBad m m.funcs 0 ∧ Chg (fun _ _ => False) w wr
def VChk (m : ModD) (w : World) (e : Ending) (w' : World) : Prop := e = .returned (.tuple #[.int .i64 (chkN m).1, .int .i64 (chkN m).2.1, .int .i64 (chkN m).2.2]) ∧ Chg (fun _ _ => False) w w'
theorem VChk.of {m : ModD} {w w' : World} {a b c : Int} (hc : Chg (fun _ _ => False) w w') (h : chkN m = (a, b, c)) : VChk m w (.returned (.tuple #[.int .i64 a, .int .i64 b, .int .i64 c])) w' := by
  refine ⟨?_, hc⟩
  rw [h]
set_option maxRecDepth 100000 in
set_option maxHeartbeats 4000000 in
theorem vcheck_any (w : World) (B : Nat) (v : Value) (m : ModD) (hBw : B ≤ w.heap.size) (hm : ModR B w v m) (hn : cMod m ≤ 1099511627776) (hs : SmallC m) : Calls Try.prog 7 #[v] w (VChk m w) := by
  obtain ⟨A, c, A', c', rfl, hT, hF⟩ := hm
  have hb0 := Blk.new w 25 #[.slice A m.types.length c, .slice A' m.funcs.length c']
  have hc0 := chg_alloc w (.cells #[.slice A m.types.length c, .slice A' m.funcs.length c'] 25)
  have y0 : (w.alloc (.cells #[.slice A m.types.length c, .slice A' m.funcs.length c'] 25)).cell? ⟨w.heap.size, 0, none⟩ = some (.slice A m.types.length c) := by simp
  have y1 : (w.alloc (.cells #[.slice A m.types.length c, .slice A' m.funcs.length c'] 25)).cell? ⟨w.heap.size, 1, none⟩ = some (.slice A' m.funcs.length c') := by simp
  have hlt : LetsM (fun _ _ => False) B := fun _ _ _ h => h
  have hT0 := hT.keep hc0 hlt
  have hF0 := hF.keep hc0 hlt
  have hsz0 : B ≤ (w.alloc (.cells #[.slice A m.types.length c, .slice A' m.funcs.length c'] 25)).heap.size := by rw [World.size_alloc]; omega
  clear hT hF hb0
  go_enter Try.func7, Try.ntmps7
  go_wp2_with fail
  generalize (w.alloc (.cells #[.slice A m.types.length c, .slice A' m.funcs.length c'] 25)) = W at y0 y1 hT0 hF0 hc0 hsz0 ⊢
  have hdr := (Chg.refl (fun _ _ => False) W).drew
  have hchk := check_any W.drew B (.agg #[.slice A m.types.length c, .slice A' m.funcs.length c']) m hsz0 ⟨A, c, A', c', rfl, hT0.keep hdr hlt, hF0.keep hdr hlt⟩ hn
  have HCK := Lib.hid hchk
  have HDR := Lib.hid hdr
  clear hchk hdr hlt
  cases hfm : formedMod m with
  | false =>
    have HFM := Lib.hid (show (if formedMod m = true then (0 : Int) else 1) = 1 by rw [hfm]; rfl)
    have HC := Lib.hid (And.intro hc0 hfm)
    clear hfm hT0 hF0 hc0 hn hs hsz0 hBw
    refine wp_region_G (S := (fun w' => Chg (fun _ _ => False) W w')) 23 (by kernel_rfl) (Chg.refl _ _).drew (fun hHeld => ?_)
    refine wpAnyG_take (i := 0) (v := ?va1) rfl (by kernel_rfl) (fun _ _ _ h => h) (Or.inl ⟨by kernel_rfl, ?hy1⟩) (by assumption) ?ra1
    case hy1 => (intro w hSw; (try dsimp only at hSw); have y0 := hSw.cell y0 (fun _ => id); have y1 := hSw.cell y1 (fun _ => id); clear hSw; go_simp; all_goals (with_reducible rfl))
    simp only [Act.put, List.setIfInBounds_toArray, List.set_cons_zero, List.set_cons_succ]
    refine wpAnyG_ready (rs := [1]) (by kernel_rfl) (by simp) ?_
    refine AllReadyG.cons rfl (fun K hK => ?_) AllReadyG.nil
    go_simp
    go_at_call 11
    refine HCK.out.mono ?_
    rintro e w1 ⟨rfl, hc1⟩
    rw [HFM.out]
    refine hK.out _ _ (HDR.out.trans hc1) (fun hHeld => ?_)
    clear hK K hc1
    try simp only [Act.put, List.setIfInBounds_toArray, List.set_cons_zero, List.set_cons_succ]
    refine wpAnyG_take (i := 2) (v := ?va2) rfl (by kernel_rfl) (fun _ _ _ h => h) (Or.inl ⟨by kernel_rfl, ?hy2⟩) (by assumption) ?ra2
    case hy2 => (intro w hSw; (try dsimp only at hSw); have y0 := hSw.cell y0 (fun _ => id); have y1 := hSw.cell y1 (fun _ => id); clear hSw; go_simp; all_goals (with_reducible rfl))
    simp only [Act.put, List.setIfInBounds_toArray, List.set_cons_zero, List.set_cons_succ]
    refine wpAnyG_take (i := 3) (v := ?va3) rfl (by kernel_rfl) (fun _ _ _ h => h) (Or.inl ⟨by kernel_rfl, ?hy3⟩) (by assumption) ?ra3
    case hy3 => (intro w hSw; (try dsimp only at hSw); have y0 := hSw.cell y0 (fun _ => id); have y1 := hSw.cell y1 (fun _ => id); clear hSw; go_simp; all_goals (with_reducible rfl))
    simp only [Act.put, List.setIfInBounds_toArray, List.set_cons_zero, List.set_cons_succ]
    refine wpAnyG_take (i := 4) (v := undef) rfl (by kernel_rfl) (fun _ _ _ h => h) (Or.inr ⟨by kernel_rfl, rfl⟩) (by assumption) ?ra4
    simp only [Act.put, List.setIfInBounds_toArray, List.set_cons_zero, List.set_cons_succ]
    refine wpAnyG_take (i := 5) (v := undef) rfl (by kernel_rfl) (fun _ _ _ h => h) (Or.inr ⟨by kernel_rfl, rfl⟩) (by assumption) ?ra5
    simp only [Act.put, List.setIfInBounds_toArray, List.set_cons_zero, List.set_cons_succ]
    refine wpAnyG_take (i := 6) (v := undef) rfl (by kernel_rfl) (fun _ _ _ h => h) (Or.inr ⟨by kernel_rfl, rfl⟩) (by assumption) ?ra6
    simp only [Act.put, List.setIfInBounds_toArray, List.set_cons_zero, List.set_cons_succ]
    refine wpAnyG_take (i := 7) (v := undef) rfl (by kernel_rfl) (fun _ _ _ h => h) (Or.inr ⟨by kernel_rfl, rfl⟩) (by assumption) ?ra7
    simp only [Act.put, List.setIfInBounds_toArray, List.set_cons_zero, List.set_cons_succ]
    refine wpAnyG_take (i := 8) (v := undef) rfl (by kernel_rfl) (fun _ _ _ h => h) (Or.inr ⟨by kernel_rfl, rfl⟩) (by assumption) ?ra8
    simp only [Act.put, List.setIfInBounds_toArray, List.set_cons_zero, List.set_cons_succ]
    refine wpAnyG_take (i := 9) (v := undef) rfl (by kernel_rfl) (fun _ _ _ h => h) (Or.inr ⟨by kernel_rfl, rfl⟩) (by assumption) ?ra9
    simp only [Act.put, List.setIfInBounds_toArray, List.set_cons_zero, List.set_cons_succ]
    refine wpAnyG_take (i := 10) (v := undef) rfl (by kernel_rfl) (fun _ _ _ h => h) (Or.inr ⟨by kernel_rfl, rfl⟩) (by assumption) ?ra10
    simp only [Act.put, List.setIfInBounds_toArray, List.set_cons_zero, List.set_cons_succ]
    refine wpAnyG_take (i := 11) (v := undef) rfl (by kernel_rfl) (fun _ _ _ h => h) (Or.inr ⟨by kernel_rfl, rfl⟩) (by assumption) ?ra11
    simp only [Act.put, List.setIfInBounds_toArray, List.set_cons_zero, List.set_cons_succ]
    refine wpAnyG_take (i := 12) (v := undef) rfl (by kernel_rfl) (fun _ _ _ h => h) (Or.inr ⟨by kernel_rfl, rfl⟩) (by assumption) ?ra12
    simp only [Act.put, List.setIfInBounds_toArray, List.set_cons_zero, List.set_cons_succ]
    refine wpAnyG_take (i := 13) (v := undef) rfl (by kernel_rfl) (fun _ _ _ h => h) (Or.inr ⟨by kernel_rfl, rfl⟩) (by assumption) ?ra13
    simp only [Act.put, List.setIfInBounds_toArray, List.set_cons_zero, List.set_cons_succ]
    refine wpAnyG_take (i := 14) (v := undef) rfl (by kernel_rfl) (fun _ _ _ h => h) (Or.inr ⟨by kernel_rfl, rfl⟩) (by assumption) ?ra14
    simp only [Act.put, List.setIfInBounds_toArray, List.set_cons_zero, List.set_cons_succ]
    refine wpAnyG_take (i := 15) (v := undef) rfl (by kernel_rfl) (fun _ _ _ h => h) (Or.inr ⟨by kernel_rfl, rfl⟩) (by assumption) ?ra15
    simp only [Act.put, List.setIfInBounds_toArray, List.set_cons_zero, List.set_cons_succ]
    refine wpAnyG_take (i := 16) (v := undef) rfl (by kernel_rfl) (fun _ _ _ h => h) (Or.inr ⟨by kernel_rfl, rfl⟩) (by assumption) ?ra16
    simp only [Act.put, List.setIfInBounds_toArray, List.set_cons_zero, List.set_cons_succ]
    refine wpAnyG_take (i := 17) (v := undef) rfl (by kernel_rfl) (fun _ _ _ h => h) (Or.inr ⟨by kernel_rfl, rfl⟩) (by assumption) ?ra17
    simp only [Act.put, List.setIfInBounds_toArray, List.set_cons_zero, List.set_cons_succ]
    refine wpAnyG_take (i := 18) (v := undef) rfl (by kernel_rfl) (fun _ _ _ h => h) (Or.inr ⟨by kernel_rfl, rfl⟩) (by assumption) ?ra18
    simp only [Act.put, List.setIfInBounds_toArray, List.set_cons_zero, List.set_cons_succ]
    refine wpAnyG_take (i := 19) (v := undef) rfl (by kernel_rfl) (fun _ _ _ h => h) (Or.inr ⟨by kernel_rfl, rfl⟩) (by assumption) ?ra19
    simp only [Act.put, List.setIfInBounds_toArray, List.set_cons_zero, List.set_cons_succ]
    refine wpAnyG_take (i := 20) (v := undef) rfl (by kernel_rfl) (fun _ _ _ h => h) (Or.inr ⟨by kernel_rfl, rfl⟩) (by assumption) ?ra20
    simp only [Act.put, List.setIfInBounds_toArray, List.set_cons_zero, List.set_cons_succ]
    refine wpAnyG_take (i := 21) (v := undef) rfl (by kernel_rfl) (fun _ _ _ h => h) (Or.inr ⟨by kernel_rfl, rfl⟩) (by assumption) ?ra21
    simp only [Act.put, List.setIfInBounds_toArray, List.set_cons_zero, List.set_cons_succ]
    refine wpAnyG_take (i := 22) (v := undef) rfl (by kernel_rfl) (fun _ _ _ h => h) (Or.inr ⟨by kernel_rfl, rfl⟩) (by assumption) ?ra22
    simp only [Act.put, List.setIfInBounds_toArray, List.set_cons_zero, List.set_cons_succ]
    refine wpAnyG_last rfl (by kernel_rfl) (by kernel_rfl) (fun K hK => ?_)
    go_simp
    refine hK.out _ _ ?_
    clear hK K
    try simp only [Act.put, List.setIfInBounds_toArray, List.set_cons_zero, List.set_cons_succ]
    go_wp2_with fail
    go_ret3
    refine VChk.of (HC.out.1.trans hHeld) ?_
    unfold chkN
    rw [HC.out.2]
    rfl
  | true =>
    have HFM := Lib.hid (show (if formedMod m = true then (0 : Int) else 1) = 0 by rw [hfm]; rfl)
    have hlen := formed_len hfm
    have hpos : 0 < m.funcs.length := by
      have h2 := hfm
      unfold formedMod at h2
      simp only [Bool.and_eq_true, decide_eq_true_eq] at h2
      omega
    obtain ⟨fb, fo, f, F1, f1, F2, f2, F3, f3, rfl, hf, _, _, _, _, _, g0, g1, g2, g3, g4⟩ := hF0.at_ hpos
    simp only [Nat.zero_mul, Nat.add_zero] at g0 g1 g2 g3 g4
    have hff := formed_func hfm (List.mem_of_getElem? hf)
    have hsolo : soloB m = decide (f.params + (f.caps.length : Int) + f.res ≤ 0) := by
      unfold soloB
      cases hl : m.funcs with
      | nil => rw [hl] at hf; cases hf
      | cons a l => rw [hl] at hf; injection hf with hf; subst hf; rfl
    have p1 : IntKind.i64.wrap (f.params + (f.caps.length : Int)) = f.params + (f.caps.length : Int) := IntWalk.i64_in _ ⟨by omega, by omega⟩
    have p2 : IntKind.i64.wrap (f.params + (f.caps.length : Int) + f.res) = f.params + (f.caps.length : Int) + f.res := IntWalk.i64_in _ ⟨by omega, by omega⟩
    have HC := Lib.hid (And.intro hc0 (And.intro hfm (And.intro hsolo (And.intro hT0 (And.intro hF0 (And.intro hs (And.intro hsz0 hlen)))))))
    clear hfm hsolo hf hff hT0 hF0 hs hn hc0 hBw hlen hsz0
    cases hb : decide (0 < f.params + (f.caps.length : Int) + f.res)
    · have HB := Lib.hid hb
      refine wp_region_G (S := (fun w' => Chg (fun _ _ => False) W w')) 23 (by kernel_rfl) (Chg.refl _ _).drew (fun hHeld => ?_)
      refine wpAnyG_take (i := 0) (v := ?va23) rfl (by kernel_rfl) (fun _ _ _ h => h) (Or.inl ⟨by kernel_rfl, ?hy23⟩) (by assumption) ?ra23
      case hy23 => (intro w hSw; (try dsimp only at hSw); have y0 := hSw.cell y0 (fun _ => id); have y1 := hSw.cell y1 (fun _ => id); have g0 := hSw.cell g0 (fun _ => id); have g2 := hSw.cell g2 (fun _ => id); have g3 := hSw.cell g3 (fun _ => id); clear hSw; go_simp; all_goals (with_reducible rfl))
      simp only [Act.put, List.setIfInBounds_toArray, List.set_cons_zero, List.set_cons_succ]
      refine wpAnyG_ready (rs := [1]) (by kernel_rfl) (by simp) ?_
      refine AllReadyG.cons rfl (fun K hK => ?_) AllReadyG.nil
      go_simp
      go_at_call 11
      refine HCK.out.mono ?_
      rintro e w1 ⟨rfl, hc1⟩
      rw [HFM.out]
      refine hK.out _ _ (HDR.out.trans hc1) (fun hHeld => ?_)
      clear hK K hc1
      try simp only [Act.put, List.setIfInBounds_toArray, List.set_cons_zero, List.set_cons_succ]
      refine wpAnyG_take (i := 2) (v := ?va24) rfl (by kernel_rfl) (fun _ _ _ h => h) (Or.inl ⟨by kernel_rfl, ?hy24⟩) (by assumption) ?ra24
      case hy24 => (intro w hSw; (try dsimp only at hSw); have y0 := hSw.cell y0 (fun _ => id); have y1 := hSw.cell y1 (fun _ => id); have g0 := hSw.cell g0 (fun _ => id); have g2 := hSw.cell g2 (fun _ => id); have g3 := hSw.cell g3 (fun _ => id); clear hSw; go_simp; all_goals (with_reducible rfl))
      simp only [Act.put, List.setIfInBounds_toArray, List.set_cons_zero, List.set_cons_succ]
      refine wpAnyG_take (i := 3) (v := ?va25) rfl (by kernel_rfl) (fun _ _ _ h => h) (Or.inl ⟨by kernel_rfl, ?hy25⟩) (by assumption) ?ra25
      case hy25 => (intro w hSw; (try dsimp only at hSw); have y0 := hSw.cell y0 (fun _ => id); have y1 := hSw.cell y1 (fun _ => id); have g0 := hSw.cell g0 (fun _ => id); have g2 := hSw.cell g2 (fun _ => id); have g3 := hSw.cell g3 (fun _ => id); clear hSw; go_simp; all_goals (with_reducible rfl))
      simp only [Act.put, List.setIfInBounds_toArray, List.set_cons_zero, List.set_cons_succ]
      refine wpAnyG_take (i := 4) (v := ?va26) rfl (by kernel_rfl) (fun _ _ _ h => h) (Or.inl ⟨by kernel_rfl, ?hy26⟩) (by assumption) ?ra26
      case hy26 => (intro w hSw; (try dsimp only at hSw); have y0 := hSw.cell y0 (fun _ => id); have y1 := hSw.cell y1 (fun _ => id); have g0 := hSw.cell g0 (fun _ => id); have g2 := hSw.cell g2 (fun _ => id); have g3 := hSw.cell g3 (fun _ => id); clear hSw; go_simp; all_goals (with_reducible rfl))
      simp only [Act.put, List.setIfInBounds_toArray, List.set_cons_zero, List.set_cons_succ]
      refine wpAnyG_take (i := 5) (v := ?va27) rfl (by kernel_rfl) (fun _ _ _ h => h) (Or.inl ⟨by kernel_rfl, ?hy27⟩) (by assumption) ?ra27
      case hy27 => (intro w hSw; (try dsimp only at hSw); have y0 := hSw.cell y0 (fun _ => id); have y1 := hSw.cell y1 (fun _ => id); have g0 := hSw.cell g0 (fun _ => id); have g2 := hSw.cell g2 (fun _ => id); have g3 := hSw.cell g3 (fun _ => id); clear hSw; go_simp; all_goals (with_reducible rfl))
      simp only [Act.put, List.setIfInBounds_toArray, List.set_cons_zero, List.set_cons_succ]
      refine wpAnyG_take (i := 6) (v := ?va28) rfl (by kernel_rfl) (fun _ _ _ h => h) (Or.inl ⟨by kernel_rfl, ?hy28⟩) (by assumption) ?ra28
      case hy28 => (intro w hSw; (try dsimp only at hSw); have y0 := hSw.cell y0 (fun _ => id); have y1 := hSw.cell y1 (fun _ => id); have g0 := hSw.cell g0 (fun _ => id); have g2 := hSw.cell g2 (fun _ => id); have g3 := hSw.cell g3 (fun _ => id); clear hSw; go_simp; all_goals (with_reducible rfl))
      simp only [Act.put, List.setIfInBounds_toArray, List.set_cons_zero, List.set_cons_succ]
      refine wpAnyG_take (i := 7) (v := ?va29) rfl (by kernel_rfl) (fun _ _ _ h => h) (Or.inl ⟨by kernel_rfl, ?hy29⟩) (by assumption) ?ra29
      case hy29 => (intro w hSw; (try dsimp only at hSw); have y0 := hSw.cell y0 (fun _ => id); have y1 := hSw.cell y1 (fun _ => id); have g0 := hSw.cell g0 (fun _ => id); have g2 := hSw.cell g2 (fun _ => id); have g3 := hSw.cell g3 (fun _ => id); clear hSw; go_simp; all_goals (with_reducible rfl))
      simp only [Act.put, List.setIfInBounds_toArray, List.set_cons_zero, List.set_cons_succ]
      refine wpAnyG_take (i := 8) (v := ?va30) rfl (by kernel_rfl) (fun _ _ _ h => h) (Or.inl ⟨by kernel_rfl, ?hy30⟩) (by assumption) ?ra30
      case hy30 => (intro w hSw; (try dsimp only at hSw); have y0 := hSw.cell y0 (fun _ => id); have y1 := hSw.cell y1 (fun _ => id); have g0 := hSw.cell g0 (fun _ => id); have g2 := hSw.cell g2 (fun _ => id); have g3 := hSw.cell g3 (fun _ => id); clear hSw; go_simp; all_goals (with_reducible rfl))
      simp only [Act.put, List.setIfInBounds_toArray, List.set_cons_zero, List.set_cons_succ]
      refine wpAnyG_take (i := 9) (v := ?va31) rfl (by kernel_rfl) (fun _ _ _ h => h) (Or.inl ⟨by kernel_rfl, ?hy31⟩) (by assumption) ?ra31
      case hy31 => (intro w hSw; (try dsimp only at hSw); have y0 := hSw.cell y0 (fun _ => id); have y1 := hSw.cell y1 (fun _ => id); have g0 := hSw.cell g0 (fun _ => id); have g2 := hSw.cell g2 (fun _ => id); have g3 := hSw.cell g3 (fun _ => id); clear hSw; go_simp; all_goals (with_reducible rfl))
      simp only [Act.put, List.setIfInBounds_toArray, List.set_cons_zero, List.set_cons_succ]
      refine wpAnyG_take (i := 10) (v := ?va32) rfl (by kernel_rfl) (fun _ _ _ h => h) (Or.inl ⟨by kernel_rfl, ?hy32⟩) (by assumption) ?ra32
      case hy32 => (intro w hSw; (try dsimp only at hSw); have y0 := hSw.cell y0 (fun _ => id); have y1 := hSw.cell y1 (fun _ => id); have g0 := hSw.cell g0 (fun _ => id); have g2 := hSw.cell g2 (fun _ => id); have g3 := hSw.cell g3 (fun _ => id); clear hSw; go_simp; all_goals (with_reducible rfl))
      simp only [Act.put, List.setIfInBounds_toArray, List.set_cons_zero, List.set_cons_succ]
      refine wpAnyG_take (i := 11) (v := ?va33) rfl (by kernel_rfl) (fun _ _ _ h => h) (Or.inl ⟨by kernel_rfl, ?hy33⟩) (by assumption) ?ra33
      case hy33 => (intro w hSw; (try dsimp only at hSw); have y0 := hSw.cell y0 (fun _ => id); have y1 := hSw.cell y1 (fun _ => id); have g0 := hSw.cell g0 (fun _ => id); have g2 := hSw.cell g2 (fun _ => id); have g3 := hSw.cell g3 (fun _ => id); clear hSw; go_simp; all_goals (with_reducible rfl))
      simp only [Act.put, List.setIfInBounds_toArray, List.set_cons_zero, List.set_cons_succ]
      refine wpAnyG_take (i := 12) (v := ?va34) rfl (by kernel_rfl) (fun _ _ _ h => h) (Or.inl ⟨by kernel_rfl, ?hy34⟩) (by assumption) ?ra34
      case hy34 => (intro w hSw; (try dsimp only at hSw); have y0 := hSw.cell y0 (fun _ => id); have y1 := hSw.cell y1 (fun _ => id); have g0 := hSw.cell g0 (fun _ => id); have g2 := hSw.cell g2 (fun _ => id); have g3 := hSw.cell g3 (fun _ => id); clear hSw; go_simp; all_goals (with_reducible rfl))
      simp only [Act.put, List.setIfInBounds_toArray, List.set_cons_zero, List.set_cons_succ]
      refine wpAnyG_take (i := 13) (v := ?va35) rfl (by kernel_rfl) (fun _ _ _ h => h) (Or.inl ⟨by kernel_rfl, ?hy35⟩) (by assumption) ?ra35
      case hy35 => (intro w hSw; (try dsimp only at hSw); have y0 := hSw.cell y0 (fun _ => id); have y1 := hSw.cell y1 (fun _ => id); have g0 := hSw.cell g0 (fun _ => id); have g2 := hSw.cell g2 (fun _ => id); have g3 := hSw.cell g3 (fun _ => id); clear hSw; go_simp; all_goals (with_reducible rfl))
      simp only [Act.put, List.setIfInBounds_toArray, List.set_cons_zero, List.set_cons_succ]
      refine wpAnyG_take (i := 14) (v := ?va36) rfl (by kernel_rfl) (fun _ _ _ h => h) (Or.inl ⟨by kernel_rfl, ?hy36⟩) (by assumption) ?ra36
      case hy36 => (intro w hSw; (try dsimp only at hSw); have y0 := hSw.cell y0 (fun _ => id); have y1 := hSw.cell y1 (fun _ => id); have g0 := hSw.cell g0 (fun _ => id); have g2 := hSw.cell g2 (fun _ => id); have g3 := hSw.cell g3 (fun _ => id); clear hSw; go_simp; all_goals (with_reducible rfl))
      simp only [Act.put, List.setIfInBounds_toArray, List.set_cons_zero, List.set_cons_succ]
      refine wpAnyG_take (i := 15) (v := ?va37) rfl (by kernel_rfl) (fun _ _ _ h => h) (Or.inl ⟨by kernel_rfl, ?hy37⟩) (by assumption) ?ra37
      case hy37 => (intro w hSw; (try dsimp only at hSw); have y0 := hSw.cell y0 (fun _ => id); have y1 := hSw.cell y1 (fun _ => id); have g0 := hSw.cell g0 (fun _ => id); have g2 := hSw.cell g2 (fun _ => id); have g3 := hSw.cell g3 (fun _ => id); clear hSw; go_simp; all_goals (with_reducible rfl))
      simp only [Act.put, List.setIfInBounds_toArray, List.set_cons_zero, List.set_cons_succ]
      refine wpAnyG_take (i := 16) (v := ?va38) rfl (by kernel_rfl) (fun _ _ _ h => h) (Or.inl ⟨by kernel_rfl, ?hy38⟩) (by assumption) ?ra38
      case hy38 => (intro w hSw; (try dsimp only at hSw); have y0 := hSw.cell y0 (fun _ => id); have y1 := hSw.cell y1 (fun _ => id); have g0 := hSw.cell g0 (fun _ => id); have g2 := hSw.cell g2 (fun _ => id); have g3 := hSw.cell g3 (fun _ => id); clear hSw; go_simp; all_goals (with_reducible rfl))
      simp only [Act.put, List.setIfInBounds_toArray, List.set_cons_zero, List.set_cons_succ]
      refine wpAnyG_take (i := 17) (v := ?va39) rfl (by kernel_rfl) (fun _ _ _ h => h) (Or.inl ⟨by kernel_rfl, ?hy39⟩) (by assumption) ?ra39
      case hy39 => (intro w hSw; (try dsimp only at hSw); have y0 := hSw.cell y0 (fun _ => id); have y1 := hSw.cell y1 (fun _ => id); have g0 := hSw.cell g0 (fun _ => id); have g2 := hSw.cell g2 (fun _ => id); have g3 := hSw.cell g3 (fun _ => id); clear hSw; go_simp; all_goals (with_reducible rfl))
      simp only [Act.put, List.setIfInBounds_toArray, List.set_cons_zero, List.set_cons_succ]
      refine wpAnyG_take (i := 18) (v := ?va40) rfl (by kernel_rfl) (fun _ _ _ h => h) (Or.inl ⟨by kernel_rfl, ?hy40⟩) (by assumption) ?ra40
      case hy40 => (intro w hSw; (try dsimp only at hSw); have y0 := hSw.cell y0 (fun _ => id); have y1 := hSw.cell y1 (fun _ => id); have g0 := hSw.cell g0 (fun _ => id); have g2 := hSw.cell g2 (fun _ => id); have g3 := hSw.cell g3 (fun _ => id); clear hSw; go_simp; all_goals (with_reducible rfl))
      simp only [Act.put, List.setIfInBounds_toArray, List.set_cons_zero, List.set_cons_succ]
      refine wpAnyG_take (i := 19) (v := ?va41) rfl (by kernel_rfl) (fun _ _ _ h => h) (Or.inl ⟨by kernel_rfl, ?hy41⟩) (by assumption) ?ra41
      case hy41 => (intro w hSw; (try dsimp only at hSw); have y0 := hSw.cell y0 (fun _ => id); have y1 := hSw.cell y1 (fun _ => id); have g0 := hSw.cell g0 (fun _ => id); have g2 := hSw.cell g2 (fun _ => id); have g3 := hSw.cell g3 (fun _ => id); clear hSw; go_simp; all_goals (with_reducible rfl))
      simp only [Act.put, List.setIfInBounds_toArray, List.set_cons_zero, List.set_cons_succ]
      refine wpAnyG_take (i := 20) (v := ?va42) rfl (by kernel_rfl) (fun _ _ _ h => h) (Or.inl ⟨by kernel_rfl, ?hy42⟩) (by assumption) ?ra42
      case hy42 => (intro w hSw; (try dsimp only at hSw); have y0 := hSw.cell y0 (fun _ => id); have y1 := hSw.cell y1 (fun _ => id); have g0 := hSw.cell g0 (fun _ => id); have g2 := hSw.cell g2 (fun _ => id); have g3 := hSw.cell g3 (fun _ => id); clear hSw; go_simp; all_goals (with_reducible rfl))
      simp only [Act.put, List.setIfInBounds_toArray, List.set_cons_zero, List.set_cons_succ]
      refine wpAnyG_take (i := 21) (v := ?va43) rfl (by kernel_rfl) (fun _ _ _ h => h) (Or.inl ⟨by kernel_rfl, ?hy43⟩) (by assumption) ?ra43
      case hy43 => (intro w hSw; (try dsimp only at hSw); have y0 := hSw.cell y0 (fun _ => id); have y1 := hSw.cell y1 (fun _ => id); have g0 := hSw.cell g0 (fun _ => id); have g2 := hSw.cell g2 (fun _ => id); have g3 := hSw.cell g3 (fun _ => id); clear hSw; go_simp; all_goals (with_reducible rfl))
      simp only [Act.put, List.setIfInBounds_toArray, List.set_cons_zero, List.set_cons_succ]
      refine wpAnyG_take (i := 22) (v := ?va44) rfl (by kernel_rfl) (fun _ _ _ h => h) (Or.inl ⟨by kernel_rfl, ?hy44⟩) (by assumption) ?ra44
      case hy44 => (intro w hSw; (try dsimp only at hSw); have y0 := hSw.cell y0 (fun _ => id); have y1 := hSw.cell y1 (fun _ => id); have g0 := hSw.cell g0 (fun _ => id); have g2 := hSw.cell g2 (fun _ => id); have g3 := hSw.cell g3 (fun _ => id); clear hSw; go_simp; all_goals (with_reducible rfl))
      simp only [Act.put, List.setIfInBounds_toArray, List.set_cons_zero, List.set_cons_succ]
      refine wpAnyG_last rfl (by kernel_rfl) (by kernel_rfl) (fun K hK => ?_)
      go_simp
      refine hK.out _ _ ?_
      clear hK K
      try simp only [Act.put, List.setIfInBounds_toArray, List.set_cons_zero, List.set_cons_succ]
      have y1w := hHeld.cell y1 (fun _ => id)
      go_wp2_with fail
      have hsl : soloB m = true := by rw [HC.out.2.2.1]; have := of_decide_eq_false HB.out; exact decide_eq_true (by omega)
      have HSL := Lib.hid hsl
      have HHW := Lib.hid (HC.out.1.trans hHeld)
      have HHL := Lib.hid hHeld
      clear hsl hb p1 p2 g0 g1 g2 g3 g4 hHeld y1w
      have hl256 := HC.out.2.2.2.2.2.2.2.2
      go_loopw [34] (fun i wr => vchkRel m W i wr) (fun i _ => m.funcs.length - (intOf i).toNat)
      case atStart => exact ⟨0, Nat.zero_le _, rfl, by simp, HHL.out⟩
      case round =>
        obtain ⟨j, hj, rfl, hfb, hch⟩ := hrel
        have q3 : IntKind.i64.wrap ((j : Int) + 1) = (j : Int) + 1 := IntWalk.i64_in _ ⟨by omega, by omega⟩
        by_cases hlt : j < m.funcs.length
        · have q1 : decide (j < m.funcs.length) = true := decide_eq_true hlt
          have q2 : (j : Int) < (m.funcs.length : Int) := by omega
          have hfj : m.funcs[j]? = some m.funcs[j] := List.getElem?_eq_getElem hlt
          have hmem : m.funcs[j] ∈ m.funcs := List.getElem_mem hlt
          have hlt0 : LetsM (fun _ _ => False) B := fun _ _ _ h => h
          obtain ⟨ff, hff⟩ : ∃ ff, m.funcs[j] = ff := ⟨_, rfl⟩
          rw [hff] at hfj hmem
          have hcall : Calls Try.prog 19 #[.agg #[.slice A m.types.length c, .slice (some ⟨fb, fo, none⟩) m.funcs.length c'], .int .i64 (j : Int), .func (.func 20) #[] #[]] wr (FunRes (noUC m ff B) wr) :=
            function_any wr B m ff A (some ⟨fb, fo, none⟩) c c' j hfj (HC.out.2.2.2.1.keep hch hlt0) (HC.out.2.2.2.2.1.keep hch hlt0) HC.out.2.1 (Nat.le_trans HC.out.2.2.2.2.2.2.1 hch.size) (noUC m ff B) trivial (fun _ h => h.elim) (HC.out.2.2.2.2.2.1 ff hmem).1 (HC.out.2.2.2.2.2.1 ff hmem).2
          have z0 := hch.cell y0 (fun _ => id)
          have z1 := hch.cell y1 (fun _ => id)
          have hfc := firstBad_cons hfj (m := m)
          have HX := Lib.hid (And.intro hfb (And.intro hch hfc))
          clear hfb hch hfc hfj hmem hff hlt0
          go_wp2_with fail
          refine hcall.mono fun e w2 hh => ?_
          obtain ⟨hc2, rfl, _⟩ := hh
          obtain ⟨at0, hat⟩ : ∃ x, funcAt m ff = x := ⟨_, rfl⟩
          rw [hat]
          have HY := Lib.hid (And.intro hat (HX.out.2.1.trans (hc2.mono fun _ _ _ hm => hm.1.elim)))
          clear hat hc2 hcall
          cases ha : decide (0 ≤ at0)
          · have HA := Lib.hid ha
            go_wp2_with fail
            go_roundw
            case rel => exact ⟨j + 1, hlt, by simp, by rw [← HX.out.1, HX.out.2.2, HY.out.1, if_neg (of_decide_eq_false HA.out)], HY.out.2⟩
            case measure => simp [intOf]; omega
          · have HA := Lib.hid ha
            go_wp2_with fail
            go_ret3
            refine VChk.of (HC.out.1.trans HY.out.2) ?_
            unfold chkN
            rw [HC.out.2.1, HSL.out, ← HX.out.1, HX.out.2.2, HY.out.1, if_pos (of_decide_eq_true HA.out)]
            rfl
        · have q1 : decide (j < m.funcs.length) = false := decide_eq_false hlt
          have hnone : firstBad m m.funcs 0 = none := by rw [← hfb, List.drop_of_length_le (by omega)]; rfl
          have HX := Lib.hid (And.intro hnone hch)
          clear hnone hch hfb
          go_wp2_with fail
          go_ret3
          refine VChk.of (HC.out.1.trans HX.out.2) ?_
          unfold chkN
          rw [HC.out.2.1, HSL.out, HX.out.1]
          rfl
    · have HB := Lib.hid hb
      refine wp_region_G (S := (fun w' => Chg (fun _ _ => False) W w')) 23 (by kernel_rfl) (Chg.refl _ _).drew (fun hHeld => ?_)
      refine wpAnyG_take (i := 0) (v := ?va45) rfl (by kernel_rfl) (fun _ _ _ h => h) (Or.inl ⟨by kernel_rfl, ?hy45⟩) (by assumption) ?ra45
      case hy45 => (intro w hSw; (try dsimp only at hSw); have y0 := hSw.cell y0 (fun _ => id); have y1 := hSw.cell y1 (fun _ => id); have g0 := hSw.cell g0 (fun _ => id); have g2 := hSw.cell g2 (fun _ => id); have g3 := hSw.cell g3 (fun _ => id); clear hSw; go_simp; all_goals (with_reducible rfl))
      simp only [Act.put, List.setIfInBounds_toArray, List.set_cons_zero, List.set_cons_succ]
      refine wpAnyG_ready (rs := [1]) (by kernel_rfl) (by simp) ?_
      refine AllReadyG.cons rfl (fun K hK => ?_) AllReadyG.nil
      go_simp
      go_at_call 11
      refine HCK.out.mono ?_
      rintro e w1 ⟨rfl, hc1⟩
      rw [HFM.out]
      refine hK.out _ _ (HDR.out.trans hc1) (fun hHeld => ?_)
      clear hK K hc1
      try simp only [Act.put, List.setIfInBounds_toArray, List.set_cons_zero, List.set_cons_succ]
      refine wpAnyG_take (i := 2) (v := ?va46) rfl (by kernel_rfl) (fun _ _ _ h => h) (Or.inl ⟨by kernel_rfl, ?hy46⟩) (by assumption) ?ra46
      case hy46 => (intro w hSw; (try dsimp only at hSw); have y0 := hSw.cell y0 (fun _ => id); have y1 := hSw.cell y1 (fun _ => id); have g0 := hSw.cell g0 (fun _ => id); have g2 := hSw.cell g2 (fun _ => id); have g3 := hSw.cell g3 (fun _ => id); clear hSw; go_simp; all_goals (with_reducible rfl))
      simp only [Act.put, List.setIfInBounds_toArray, List.set_cons_zero, List.set_cons_succ]
      refine wpAnyG_take (i := 3) (v := ?va47) rfl (by kernel_rfl) (fun _ _ _ h => h) (Or.inl ⟨by kernel_rfl, ?hy47⟩) (by assumption) ?ra47
      case hy47 => (intro w hSw; (try dsimp only at hSw); have y0 := hSw.cell y0 (fun _ => id); have y1 := hSw.cell y1 (fun _ => id); have g0 := hSw.cell g0 (fun _ => id); have g2 := hSw.cell g2 (fun _ => id); have g3 := hSw.cell g3 (fun _ => id); clear hSw; go_simp; all_goals (with_reducible rfl))
      simp only [Act.put, List.setIfInBounds_toArray, List.set_cons_zero, List.set_cons_succ]
      refine wpAnyG_take (i := 4) (v := ?va48) rfl (by kernel_rfl) (fun _ _ _ h => h) (Or.inl ⟨by kernel_rfl, ?hy48⟩) (by assumption) ?ra48
      case hy48 => (intro w hSw; (try dsimp only at hSw); have y0 := hSw.cell y0 (fun _ => id); have y1 := hSw.cell y1 (fun _ => id); have g0 := hSw.cell g0 (fun _ => id); have g2 := hSw.cell g2 (fun _ => id); have g3 := hSw.cell g3 (fun _ => id); clear hSw; go_simp; all_goals (with_reducible rfl))
      simp only [Act.put, List.setIfInBounds_toArray, List.set_cons_zero, List.set_cons_succ]
      refine wpAnyG_take (i := 5) (v := ?va49) rfl (by kernel_rfl) (fun _ _ _ h => h) (Or.inl ⟨by kernel_rfl, ?hy49⟩) (by assumption) ?ra49
      case hy49 => (intro w hSw; (try dsimp only at hSw); have y0 := hSw.cell y0 (fun _ => id); have y1 := hSw.cell y1 (fun _ => id); have g0 := hSw.cell g0 (fun _ => id); have g2 := hSw.cell g2 (fun _ => id); have g3 := hSw.cell g3 (fun _ => id); clear hSw; go_simp; all_goals (with_reducible rfl))
      simp only [Act.put, List.setIfInBounds_toArray, List.set_cons_zero, List.set_cons_succ]
      refine wpAnyG_take (i := 6) (v := ?va50) rfl (by kernel_rfl) (fun _ _ _ h => h) (Or.inl ⟨by kernel_rfl, ?hy50⟩) (by assumption) ?ra50
      case hy50 => (intro w hSw; (try dsimp only at hSw); have y0 := hSw.cell y0 (fun _ => id); have y1 := hSw.cell y1 (fun _ => id); have g0 := hSw.cell g0 (fun _ => id); have g2 := hSw.cell g2 (fun _ => id); have g3 := hSw.cell g3 (fun _ => id); clear hSw; go_simp; all_goals (with_reducible rfl))
      simp only [Act.put, List.setIfInBounds_toArray, List.set_cons_zero, List.set_cons_succ]
      refine wpAnyG_take (i := 7) (v := ?va51) rfl (by kernel_rfl) (fun _ _ _ h => h) (Or.inl ⟨by kernel_rfl, ?hy51⟩) (by assumption) ?ra51
      case hy51 => (intro w hSw; (try dsimp only at hSw); have y0 := hSw.cell y0 (fun _ => id); have y1 := hSw.cell y1 (fun _ => id); have g0 := hSw.cell g0 (fun _ => id); have g2 := hSw.cell g2 (fun _ => id); have g3 := hSw.cell g3 (fun _ => id); clear hSw; go_simp; all_goals (with_reducible rfl))
      simp only [Act.put, List.setIfInBounds_toArray, List.set_cons_zero, List.set_cons_succ]
      refine wpAnyG_take (i := 8) (v := ?va52) rfl (by kernel_rfl) (fun _ _ _ h => h) (Or.inl ⟨by kernel_rfl, ?hy52⟩) (by assumption) ?ra52
      case hy52 => (intro w hSw; (try dsimp only at hSw); have y0 := hSw.cell y0 (fun _ => id); have y1 := hSw.cell y1 (fun _ => id); have g0 := hSw.cell g0 (fun _ => id); have g2 := hSw.cell g2 (fun _ => id); have g3 := hSw.cell g3 (fun _ => id); clear hSw; go_simp; all_goals (with_reducible rfl))
      simp only [Act.put, List.setIfInBounds_toArray, List.set_cons_zero, List.set_cons_succ]
      refine wpAnyG_take (i := 9) (v := ?va53) rfl (by kernel_rfl) (fun _ _ _ h => h) (Or.inl ⟨by kernel_rfl, ?hy53⟩) (by assumption) ?ra53
      case hy53 => (intro w hSw; (try dsimp only at hSw); have y0 := hSw.cell y0 (fun _ => id); have y1 := hSw.cell y1 (fun _ => id); have g0 := hSw.cell g0 (fun _ => id); have g2 := hSw.cell g2 (fun _ => id); have g3 := hSw.cell g3 (fun _ => id); clear hSw; go_simp; all_goals (with_reducible rfl))
      simp only [Act.put, List.setIfInBounds_toArray, List.set_cons_zero, List.set_cons_succ]
      refine wpAnyG_take (i := 10) (v := ?va54) rfl (by kernel_rfl) (fun _ _ _ h => h) (Or.inl ⟨by kernel_rfl, ?hy54⟩) (by assumption) ?ra54
      case hy54 => (intro w hSw; (try dsimp only at hSw); have y0 := hSw.cell y0 (fun _ => id); have y1 := hSw.cell y1 (fun _ => id); have g0 := hSw.cell g0 (fun _ => id); have g2 := hSw.cell g2 (fun _ => id); have g3 := hSw.cell g3 (fun _ => id); clear hSw; go_simp; all_goals (with_reducible rfl))
      simp only [Act.put, List.setIfInBounds_toArray, List.set_cons_zero, List.set_cons_succ]
      refine wpAnyG_take (i := 11) (v := ?va55) rfl (by kernel_rfl) (fun _ _ _ h => h) (Or.inl ⟨by kernel_rfl, ?hy55⟩) (by assumption) ?ra55
      case hy55 => (intro w hSw; (try dsimp only at hSw); have y0 := hSw.cell y0 (fun _ => id); have y1 := hSw.cell y1 (fun _ => id); have g0 := hSw.cell g0 (fun _ => id); have g2 := hSw.cell g2 (fun _ => id); have g3 := hSw.cell g3 (fun _ => id); clear hSw; go_simp; all_goals (with_reducible rfl))
      simp only [Act.put, List.setIfInBounds_toArray, List.set_cons_zero, List.set_cons_succ]
      refine wpAnyG_take (i := 12) (v := ?va56) rfl (by kernel_rfl) (fun _ _ _ h => h) (Or.inl ⟨by kernel_rfl, ?hy56⟩) (by assumption) ?ra56
      case hy56 => (intro w hSw; (try dsimp only at hSw); have y0 := hSw.cell y0 (fun _ => id); have y1 := hSw.cell y1 (fun _ => id); have g0 := hSw.cell g0 (fun _ => id); have g2 := hSw.cell g2 (fun _ => id); have g3 := hSw.cell g3 (fun _ => id); clear hSw; go_simp; all_goals (with_reducible rfl))
      simp only [Act.put, List.setIfInBounds_toArray, List.set_cons_zero, List.set_cons_succ]
      refine wpAnyG_take (i := 13) (v := ?va57) rfl (by kernel_rfl) (fun _ _ _ h => h) (Or.inl ⟨by kernel_rfl, ?hy57⟩) (by assumption) ?ra57
      case hy57 => (intro w hSw; (try dsimp only at hSw); have y0 := hSw.cell y0 (fun _ => id); have y1 := hSw.cell y1 (fun _ => id); have g0 := hSw.cell g0 (fun _ => id); have g2 := hSw.cell g2 (fun _ => id); have g3 := hSw.cell g3 (fun _ => id); clear hSw; go_simp; all_goals (with_reducible rfl))
      simp only [Act.put, List.setIfInBounds_toArray, List.set_cons_zero, List.set_cons_succ]
      refine wpAnyG_take (i := 14) (v := ?va58) rfl (by kernel_rfl) (fun _ _ _ h => h) (Or.inl ⟨by kernel_rfl, ?hy58⟩) (by assumption) ?ra58
      case hy58 => (intro w hSw; (try dsimp only at hSw); have y0 := hSw.cell y0 (fun _ => id); have y1 := hSw.cell y1 (fun _ => id); have g0 := hSw.cell g0 (fun _ => id); have g2 := hSw.cell g2 (fun _ => id); have g3 := hSw.cell g3 (fun _ => id); clear hSw; go_simp; all_goals (with_reducible rfl))
      simp only [Act.put, List.setIfInBounds_toArray, List.set_cons_zero, List.set_cons_succ]
      refine wpAnyG_take (i := 15) (v := ?va59) rfl (by kernel_rfl) (fun _ _ _ h => h) (Or.inl ⟨by kernel_rfl, ?hy59⟩) (by assumption) ?ra59
      case hy59 => (intro w hSw; (try dsimp only at hSw); have y0 := hSw.cell y0 (fun _ => id); have y1 := hSw.cell y1 (fun _ => id); have g0 := hSw.cell g0 (fun _ => id); have g2 := hSw.cell g2 (fun _ => id); have g3 := hSw.cell g3 (fun _ => id); clear hSw; go_simp; all_goals (with_reducible rfl))
      simp only [Act.put, List.setIfInBounds_toArray, List.set_cons_zero, List.set_cons_succ]
      refine wpAnyG_take (i := 16) (v := ?va60) rfl (by kernel_rfl) (fun _ _ _ h => h) (Or.inl ⟨by kernel_rfl, ?hy60⟩) (by assumption) ?ra60
      case hy60 => (intro w hSw; (try dsimp only at hSw); have y0 := hSw.cell y0 (fun _ => id); have y1 := hSw.cell y1 (fun _ => id); have g0 := hSw.cell g0 (fun _ => id); have g2 := hSw.cell g2 (fun _ => id); have g3 := hSw.cell g3 (fun _ => id); clear hSw; go_simp; all_goals (with_reducible rfl))
      simp only [Act.put, List.setIfInBounds_toArray, List.set_cons_zero, List.set_cons_succ]
      refine wpAnyG_take (i := 17) (v := ?va61) rfl (by kernel_rfl) (fun _ _ _ h => h) (Or.inl ⟨by kernel_rfl, ?hy61⟩) (by assumption) ?ra61
      case hy61 => (intro w hSw; (try dsimp only at hSw); have y0 := hSw.cell y0 (fun _ => id); have y1 := hSw.cell y1 (fun _ => id); have g0 := hSw.cell g0 (fun _ => id); have g2 := hSw.cell g2 (fun _ => id); have g3 := hSw.cell g3 (fun _ => id); clear hSw; go_simp; all_goals (with_reducible rfl))
      simp only [Act.put, List.setIfInBounds_toArray, List.set_cons_zero, List.set_cons_succ]
      refine wpAnyG_take (i := 18) (v := ?va62) rfl (by kernel_rfl) (fun _ _ _ h => h) (Or.inl ⟨by kernel_rfl, ?hy62⟩) (by assumption) ?ra62
      case hy62 => (intro w hSw; (try dsimp only at hSw); have y0 := hSw.cell y0 (fun _ => id); have y1 := hSw.cell y1 (fun _ => id); have g0 := hSw.cell g0 (fun _ => id); have g2 := hSw.cell g2 (fun _ => id); have g3 := hSw.cell g3 (fun _ => id); clear hSw; go_simp; all_goals (with_reducible rfl))
      simp only [Act.put, List.setIfInBounds_toArray, List.set_cons_zero, List.set_cons_succ]
      refine wpAnyG_take (i := 19) (v := ?va63) rfl (by kernel_rfl) (fun _ _ _ h => h) (Or.inl ⟨by kernel_rfl, ?hy63⟩) (by assumption) ?ra63
      case hy63 => (intro w hSw; (try dsimp only at hSw); have y0 := hSw.cell y0 (fun _ => id); have y1 := hSw.cell y1 (fun _ => id); have g0 := hSw.cell g0 (fun _ => id); have g2 := hSw.cell g2 (fun _ => id); have g3 := hSw.cell g3 (fun _ => id); clear hSw; go_simp; all_goals (with_reducible rfl))
      simp only [Act.put, List.setIfInBounds_toArray, List.set_cons_zero, List.set_cons_succ]
      refine wpAnyG_take (i := 20) (v := ?va64) rfl (by kernel_rfl) (fun _ _ _ h => h) (Or.inl ⟨by kernel_rfl, ?hy64⟩) (by assumption) ?ra64
      case hy64 => (intro w hSw; (try dsimp only at hSw); have y0 := hSw.cell y0 (fun _ => id); have y1 := hSw.cell y1 (fun _ => id); have g0 := hSw.cell g0 (fun _ => id); have g2 := hSw.cell g2 (fun _ => id); have g3 := hSw.cell g3 (fun _ => id); clear hSw; go_simp; all_goals (with_reducible rfl))
      simp only [Act.put, List.setIfInBounds_toArray, List.set_cons_zero, List.set_cons_succ]
      refine wpAnyG_take (i := 21) (v := ?va65) rfl (by kernel_rfl) (fun _ _ _ h => h) (Or.inl ⟨by kernel_rfl, ?hy65⟩) (by assumption) ?ra65
      case hy65 => (intro w hSw; (try dsimp only at hSw); have y0 := hSw.cell y0 (fun _ => id); have y1 := hSw.cell y1 (fun _ => id); have g0 := hSw.cell g0 (fun _ => id); have g2 := hSw.cell g2 (fun _ => id); have g3 := hSw.cell g3 (fun _ => id); clear hSw; go_simp; all_goals (with_reducible rfl))
      simp only [Act.put, List.setIfInBounds_toArray, List.set_cons_zero, List.set_cons_succ]
      refine wpAnyG_take (i := 22) (v := ?va66) rfl (by kernel_rfl) (fun _ _ _ h => h) (Or.inl ⟨by kernel_rfl, ?hy66⟩) (by assumption) ?ra66
      case hy66 => (intro w hSw; (try dsimp only at hSw); have y0 := hSw.cell y0 (fun _ => id); have y1 := hSw.cell y1 (fun _ => id); have g0 := hSw.cell g0 (fun _ => id); have g2 := hSw.cell g2 (fun _ => id); have g3 := hSw.cell g3 (fun _ => id); clear hSw; go_simp; all_goals (with_reducible rfl))
      simp only [Act.put, List.setIfInBounds_toArray, List.set_cons_zero, List.set_cons_succ]
      refine wpAnyG_last rfl (by kernel_rfl) (by kernel_rfl) (fun K hK => ?_)
      go_simp
      refine hK.out _ _ ?_
      clear hK K
      try simp only [Act.put, List.setIfInBounds_toArray, List.set_cons_zero, List.set_cons_succ]
      go_wp2_with fail
      go_ret3
      refine VChk.of (HC.out.1.trans hHeld) ?_
      unfold chkN
      have h1 : soloB m = false := by rw [HC.out.2.2.1]; have := of_decide_eq_true HB.out; exact decide_eq_false (by omega)
      rw [HC.out.2.1, h1]
      rfl
end Go.Proofs.Ytdegfnejhamejaa

