/-
  Unify in the words of values that read as types; what the laws ask first.
-/
import Derived.Test.YtlbcaiohjghclaaDoorUnify
import Derived.Great.BuildSlice
namespace Go.Proofs.YtlbcaiohjghclaaDoor
open Go.RowKit
set_option linter.unusedVariables false
set_option linter.unusedSimpArgs false

theorem enters_owns8 (w : World) (xs : Array Value) : (callFunc 5 xs).run Tryd.prog w = .ok (.enter 5 xs) w := by
  show (callFunc _ _).run _ _ = _
  simp [callFunc, Tryd.func5, go_sem]
  rw [if_neg (by decide +kernel), if_neg (fun h => by cases h)]
theorem enters_unify (w : World) (xs : Array Value) : (callFunc 4 xs).run Tryd.prog w = .ok (.enter 4 xs) w := by
  show (callFunc _ _).run _ _ = _
  simp [callFunc, Tryd.func4, go_sem]
  rw [if_neg (by decide +kernel), if_neg (fun h => by cases h)]
theorem TyR.deepT : ∀ {n B : Nat} {w : World} {cs : List Value} {t : Ty}, TyR n B w cs t → deepT n t
  | n + 1, B, w, cs, t, ⟨hs, Af, cf, Al, cl, Ar, cr, h1, h2, h3, h4⟩ => by
    have key : ∀ (l : List Ty) (A : Option Addr) (c : Nat), SlR B 0 6 (TyR n B) w (.slice A l.length c) l → ∀ x ∈ l, Go.Proofs.YtlbcaiohjghclaaDoor.deepT n x := fun l A c h x hx => by
      obtain ⟨k, hk, rfl⟩ := List.mem_iff_getElem.1 hx
      obtain ⟨b, o, c', cs', _, _, _, _, _, hR, _⟩ := h.at_ hk
      exact TyR.deepT hR
    intro p hp
    unfold Ty.innerN at hp
    rcases List.mem_append.1 hp with hp | hp
    · rcases List.mem_append.1 hp with hp | hp
      · obtain ⟨k, hk, rfl⟩ := List.mem_iff_getElem.1 hp
        obtain ⟨b, o, c', cs', _, _, _, _, _, ⟨ds, _, _, hR⟩, _⟩ := h2.at_ hk
        exact TyR.deepT hR
      · unfold noNm at hp
        obtain ⟨x, hx, rfl⟩ := List.mem_map.1 hp
        exact key _ _ _ h3 x hx
    · unfold noNm at hp
      obtain ⟨x, hx, rfl⟩ := List.mem_map.1 hp
      exact key _ _ _ h4 x hx
theorem TyU.deepT {n : Nat} {w : World} {v : Value} {t : Ty} (h : TyU n w v t) : deepT n t := by
  obtain ⟨D, Xf, xf, Xl, xl, Xr, xr, h1, h2, h3⟩ := h
  exact h3.deepT
def BoolsU (w : World) (v : Value) (l : List Bool) : Prop := ∃ A c, v = .slice A l.length c ∧ RowR 0 4 1 BoolV w A c l
theorem BoolsU.keep {w w' : World} {v : Value} {l : List Bool} (h : BoolsU w v l) (hc : Chg (fun _ _ => False) w w') : BoolsU w' v l := by
  obtain ⟨A, c, h1, h2⟩ := h
  exact ⟨A, c, h1, h2.keep hc (fun _ _ => id) fun _ _ h => h⟩
/-- The error of Unify. -/
noncomputable def uniE (n : Nat) (names : List ByteArray) (want have_ : List Ty) : Int :=
  if (want ++ have_).all soundT = true then (@ite _ (names.Nodup ∧ want.length = have_.length) (Classical.propDecidable _) (if (matchL (matchT names n) (noNm want) (noNm have_) fun _ => none).isSome = true then 0 else 9) 2) else 1
def UniP (n m : Nat) (names : List ByteArray) (want have_ : List Ty) (w : World) (v : Value) : Prop :=
  ∃ v1 v2, v = .tuple #[v1, v2, .int .i64 (uniE n names want have_)] ∧ (¬ uniE n names want have_ = 0 → v1 = .slice none 0 0 ∧ v2 = .slice none 0 0) ∧
    (uniE n names want have_ = 0 → ∃ g, matchL (matchT names n) (noNm want) (noNm have_) (fun _ => none) = some g ∧ names.Nodup ∧ want.length = have_.length ∧ (want ++ have_).all soundT = true ∧ TysU (m + 1) w v1 (names.map (tyAt g)) ∧ BoolsU w v2 (names.map (isAt g)))
theorem UniP.keep {n m : Nat} {names : List ByteArray} {want have_ : List Ty} {w w' : World} {v : Value} (h : UniP n m names want have_ w v) (hc : Chg (fun _ _ => False) w w') : UniP n m names want have_ w' v := by
  obtain ⟨v1, v2, h1, h2, h3⟩ := h
  exact ⟨v1, v2, h1, h2, fun he => by
    obtain ⟨g, k1, k2, k3, k4, k5, k6⟩ := h3 he
    exact ⟨g, k1, k2, k3, k4, k5.keep hc, k6.keep hc⟩⟩
theorem uni_of {n m : Nat} {names : List ByteArray} {want have_ : List Ty} {w w' : World} {e : Ending} (h : UniRes n m names want have_ w e w') : ∃ v, e = .returned v ∧ UniP n m names want have_ w' v ∧ Chg (fun _ _ => False) w w' := by
  obtain ⟨hc, ⟨c, rfl, h⟩ | ⟨g, A, c, A', c', ⟨h1, h2, h3⟩, rfl, h4, h5⟩⟩ := h
  · have hE : uniE n names want have_ = c ∧ ¬ c = 0 := by
      unfold uniE
      rcases h with ⟨h1, rfl⟩ | ⟨h1, h2, rfl⟩ | ⟨h1, h2, h3, rfl⟩
      · rw [h1, if_neg (by decide)]; exact ⟨rfl, by decide⟩
      · rw [if_pos h1, if_neg h2]; exact ⟨rfl, by decide⟩
      · rw [if_pos h1, if_pos h2, h3, if_neg (by decide)]; exact ⟨rfl, by decide⟩
    obtain ⟨hE, h0⟩ := hE
    refine ⟨_, rfl, ⟨_, _, by rw [hE], fun _ => ⟨rfl, rfl⟩, fun he => absurd (hE ▸ he) h0⟩, hc⟩
  · have hE : uniE n names want have_ = 0 := by
      unfold uniE
      rw [if_pos h1, if_pos h2, h3]
      rfl
    refine ⟨_, rfl, ⟨_, _, by rw [hE], fun he => absurd hE he, fun _ => ⟨g, h3, h2.1, h2.2, h1, ?_, ?_⟩⟩, hc⟩
    · have := h4.1.settleT (R' := TyR (m + 1) w'.heap.size) (by decide) fun _ _ h => TyN.tyR h
      rw [List.length_map] at this
      exact ⟨_, A, c, Nat.le_refl _, by rw [List.length_map], by rw [List.length_map]; exact this⟩
    · exact ⟨A', c', by rw [List.length_map], h5.rebase (Nat.zero_le _)⟩
theorem unifyU {n m : Nat} {w : World} {v1 v2 v3 : Value} {names : List ByteArray} {want have_ : List Ty} (hTab : Tabs w) (h1 : StrsU w v1 names) (h2 : TysU n w v2 want) (h3 : TysU m w v3 have_) (hnl : names.length ≤ 1048576) (hwl : want.length ≤ 1048576) (hhl : have_.length ≤ 1048576) :
    Calls Tryd.prog 4 #[v1, v2, v3] w fun e w' => ∃ v, e = .returned v ∧ UniP n m names want have_ w' v ∧ Chg (fun _ _ => False) w w' := by
  obtain ⟨D1, A1, c1, k1, rfl, k3⟩ := h1
  obtain ⟨D2, A2, c2, l1, rfl, l3⟩ := h2
  obtain ⟨D3, A3, c3, m1, rfl, m3⟩ := h3
  exact (unify_any n m w.heap.size w names want have_ A1 c1 A2 c2 A3 c3 (Nat.le_refl _) hTab (SlR.imp k3 (fun b _ hl => hl.imp (fun h => Nat.lt_of_lt_of_le h k1) id) fun _ _ h => h) hnl (SlR.imp l3 (fun b _ hl => hl.imp (fun h => Nat.lt_of_lt_of_le h l1) id) fun _ _ h => TyR.more l1 h) hwl (SlR.imp m3 (fun b _ hl => hl.imp (fun h => Nat.lt_of_lt_of_le h m1) id) fun _ _ h => TyR.more m1 h) hhl).mono fun e w' h => uni_of h
theorem owns8U {n : Nat} {w : World} {v : Value} {l : List Ty} (h : TysU n w v l) (hl : l.length ≤ 1048576) : Calls Tryd.prog 5 #[v] w fun e w' => ∃ v', e = .returned v' ∧ TysU n w' v' l ∧ Chg (fun _ _ => False) w w' := by
  obtain ⟨D, A, c, h1, rfl, h3⟩ := h
  refine (owns8_any n D w l A c h1 hl h3).mono fun e w' h => ?_
  obtain ⟨A', c', rfl, hN, hc⟩ := h
  exact ⟨_, rfl, ⟨w'.heap.size, A', c', Nat.le_refl _, rfl, hN.1.settleT (by decide) fun _ _ h => TyN.tyR h⟩, hc⟩
def tyP : Ty := .mk 12 ⟨#[84]⟩ 1 [] [] []
theorem look_P : lookT 9 tyP = some (0, 1) := by
  have hn : nameOK ⟨#[84]⟩ = true := by kernel_rfl
  have hs : shapeT tyP = true := by
    unfold shapeT
    rw [if_neg (c := tyP.kind = 8) (show ¬ (12 : Int) = 8 by decide), if_neg (c := tyP.kind = 9 ∨ tyP.kind = 10) (show ¬ ((12 : Int) = 9 ∨ (12 : Int) = 10) by decide), if_neg (c := tyP.kind = 11) (show ¬ (12 : Int) = 11 by decide), if_pos (c := tyP.kind = 12) (show (12 : Int) = 12 from rfl)]
    show (bare tyP true true false false false && nameOK ⟨#[84]⟩ && _) = true
    rw [hn]
    rfl
  rw [show lookT 9 tyP = if shapeT tyP then match lookL (lookT 8) tyP.inner with
      | none => none
      | some (d, c) => if (if tyP.kind = 8 then c else 1) ≤ 64 then some (d, if tyP.kind = 8 then c else 1) else none
    else none from rfl, if_pos hs]
  rfl
theorem ans8_match : matchL (matchT [⟨#[84]⟩] 1) (noNm [tyP]) (noNm [tyI8]) (fun _ => none) = some (updT (fun _ => none) ⟨#[84]⟩ tyI8) := by
  show (if eqB ByteArray.empty ByteArray.empty = true then _ else _) = _
  rw [if_pos (eqB_self _)]
  have : matchT [⟨#[84]⟩] 1 tyP tyI8 (fun _ => none) = some (updT (fun _ => none) ⟨#[84]⟩ tyI8) := by
    rw [matchT, if_pos ⟨rfl, by show (⟨#[84]⟩ : ByteArray) ∈ _; simp⟩]
    rfl
  rw [this]
  rfl
theorem ans8_E : uniE 1 [⟨#[84]⟩] [tyP] [tyI8] = 0 := by
  unfold uniE
  have h1 : ([tyP] ++ [tyI8]).all soundT = true := by
    simp only [List.cons_append, List.nil_append, List.all_cons, List.all_nil, Bool.and_true, soundT, look_P, look_i8 8]
    rfl
  rw [if_pos h1, if_pos ⟨by simp, rfl⟩, ans8_match]
  rfl
theorem tyU_mk (k : Int) (nm : ByteArray) (c : Int) (hk : I64 k) (hc : I64 c) (hn : nm.size ≤ 1048576) (w : World) : TyU 1 w (.agg #[.int .i64 k, .string nm, .int .i64 c, .slice none 0 0, .slice none 0 0, .slice none 0 0]) (.mk k nm c [] [] []) :=
  ⟨0, none, 0, none, 0, none, 0, Nat.zero_le _, rfl, ⟨hk, hc, hn, Nat.zero_le _, Nat.zero_le _, Nat.zero_le _⟩, none, 0, none, 0, none, 0, rfl, SlR.nil _ _ _ _ _ _ _, SlR.nil _ _ _ _ _ _ _, SlR.nil _ _ _ _ _ _ _⟩
set_option maxRecDepth 100000 in
set_option maxHeartbeats 4000000 in
theorem answers8_any (w : World) (hTab : Tabs w) : Calls Tryd.prog 7 #[] w fun e w' => e = .returned (.bool true) ∧ Chg (fun _ _ => False) w w' := by
  have hc1 := chg_alloc w (.cells #[.string ⟨#[84]⟩] 9)
  have h1 := StrsU.built (w := w) (s := ⟨#[84]⟩) (by decide)
  have h2 := TysU.built (tyU_mk 12 ⟨#[84]⟩ 1 (by unfold I64; decide) (by unfold I64; decide) (by decide) (w.alloc (.cells #[.string ⟨#[84]⟩] 9)))
  have hc2 := hc1.alloc (.cells #[.int .i64 12, .string ⟨#[84]⟩, .int .i64 1, .slice none 0 0, .slice none 0 0, .slice none 0 0] 42)
  have h3 := TysU.built (tyU_mk 2 ⟨#[]⟩ 0 (by unfold I64; decide) (by unfold I64; decide) (by decide) ((w.alloc (.cells #[.string ⟨#[84]⟩] 9)).alloc (.cells #[.int .i64 12, .string ⟨#[84]⟩, .int .i64 1, .slice none 0 0, .slice none 0 0, .slice none 0 0] 42)))
  have hc3 := hc2.alloc (.cells #[.int .i64 2, .string ⟨#[]⟩, .int .i64 0, .slice none 0 0, .slice none 0 0, .slice none 0 0] 42)
  have hcall := unifyU (n := 1) (m := 1) (names := [⟨#[84]⟩]) (want := [tyP]) (have_ := [tyI8]) (hTab.keep0 hc3) ((h1.keep ((chg_alloc _ _))).keep (chg_alloc _ _)) (h2.keep (chg_alloc _ _)) h3 (by decide) (by decide) (by decide)
  simp only [World.size_alloc] at hcall
  have HC := Lib.hid hc3
  clear hTab h1 h2 h3 hc1 hc2 hc3
  go_enter Tryd.func7, Tryd.ntmps7
  go_wp2_with fail
  refine hcall.mono fun e w4 h => ?_
  obtain ⟨v, rfl, ⟨v1, v2, rfl, _, hok⟩, hc4⟩ := h
  clear hcall
  obtain ⟨g, hg, _, _, _, hT, hBo⟩ := hok ans8_E
  rw [ans8_match] at hg
  injection hg with hg
  subst hg
  rw [ans8_E]
  obtain ⟨D, A, c, hD, rfl, hT⟩ := hT
  obtain ⟨A', c', rfl, hBo⟩ := hBo
  have e1 : [(⟨#[84]⟩ : ByteArray)].map (tyAt (updT (fun _ => none) ⟨#[84]⟩ tyI8)) = [tyI8] := by
    simp [tyAt, updT_same]
  have e2 : [(⟨#[84]⟩ : ByteArray)].map (isAt (updT (fun _ => none) ⟨#[84]⟩ tyI8)) = [true] := by
    simp [isAt, updT_same]
  rw [e1] at hT ⊢
  rw [e2] at hBo ⊢
  obtain ⟨b, o, x, Xf, xf, Xl, xl, Xr, xr, rfl, hkx, hRx, z0, z1, z2, z3, z4, z5⟩ := TysR.at_ hT (k := 0) (by decide)
  obtain rfl : tyI8 = x := by simpa using hkx
  obtain ⟨b', o', y, cs, rfl, hky, hcl, hy, hcell⟩ := SlR.at2 (hBo.slr (by decide) 0) (k := 0) (by decide)
  obtain rfl : true = y := by simpa using hky
  obtain rfl : cs = [.bool true] := hy
  have y0 := hcell 0 _ rfl
  have HD := Lib.hid (HC.out.trans hc4)
  clear hT hBo hkx hRx hky hcl hcell hc4
  simp only [Nat.zero_mul, Nat.add_zero] at z0 z1 z2 z3 z4 z5 y0
  go_wp2_with fail
  go_ret
  exact ⟨rfl, HD.out⟩
theorem exec_assign {P : Program} {a : Act} {w : World} {dst : Option Nat} {ty : TypeId} {pos : String} {af : Array Edge} {g : Option (Nat × Bool)} (x : Operand) : (execOp a.eval { dst := dst, op := .assign x, type := ty, pos := pos, after := af, guard := g }).run P w = .ok (.value (a.eval x)) w := by
  simp [execOp, go_sem]
theorem TysR.more {n B B' : Nat} {w : World} {v : Value} {l : List Ty} (hB : B ≤ B') (h : TysR n B w v l) : TysR n B' w v l := SlR.imp h (fun b _ hl => hl.imp (fun h => Nat.lt_of_lt_of_le h hB) id) fun _ _ h => TyR.more hB h
end Go.Proofs.YtlbcaiohjghclaaDoor
