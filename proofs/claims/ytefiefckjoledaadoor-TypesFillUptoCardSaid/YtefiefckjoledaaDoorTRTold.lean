/-
  The reference's Told: what a type is called.
-/
import Derived.Test.YtefiefckjoledaaDoorTTold2
namespace Go.Proofs.YtefiefckjoledaaDoor
open Go.RowKit
set_option linter.unusedVariables false
set_option linter.unusedSimpArgs false

theorem joinB_one (x : ByteArray) : joinB [x] = x := by
  unfold joinB
  rw [List.map_cons, List.map_nil, Lib.join_cons]
  simp [Lib.joinTail]
theorem joinB_snoc (xs : List ByteArray) (x : ByteArray) (h : xs ≠ []) : joinB (xs ++ [x]) = joinB xs ++ ⟨#[44, 32]⟩ ++ x := by
  cases xs with
  | nil => exact absurd rfl h
  | cons y ys =>
    unfold joinB
    apply ByteArray.ext
    apply Array.ext'
    simp [Lib.join_cons, Lib.joinTail, ByteArray.data_append]
def RToldC (f : Nat) : Prop := ∀ (n B : Nat) (w : World) (t : Ty) (Af : Option Addr) (cf : Nat) (Al : Option Addr) (cl : Nat) (Ar : Option Addr) (cr : Nat), B ≤ w.heap.size → TyR n B w (tyCells t.kind t.name t.con Af t.fields.length cf Al t.list.length cl Ar t.res.length cr) t → (lookT f t).isSome = true →
    Calls Tryd.prog 32 #[.agg #[.int .i64 t.kind, .string t.name, .int .i64 t.con, .slice Af t.fields.length cf, .slice Al t.list.length cl, .slice Ar t.res.length cr]] w fun e w' => e = .returned (.string (toldF f t)) ∧ Chg (fun _ _ => False) w w'
def rtRel (f : Nat) (l : List Ty) (W : World) (s i : Value) (wr : World) : Prop :=
  ∃ k : Nat, k ≤ l.length ∧ i = .int .i64 k ∧ s = .string (⟨#[102, 117, 110, 99, 40]⟩ ++ joinB ((l.take k).map (toldF f))) ∧ Chg (fun _ _ => False) W wr
theorem rt_size (f : Nat) (l : List Ty) (k : Nat) (hl : l.length ≤ 16) (hf : f ≤ 8) (hok : ∀ x ∈ l, (lookT f x).isSome = true) : (⟨#[102, 117, 110, 99, 40]⟩ ++ joinB ((l.take k).map (toldF f)) : ByteArray).size ≤ 80000000000000 := by
  have hz8 : szT f ≤ 4398046511104 := Nat.le_trans (szT_mono hf) (by decide)
  have h1 := joinB_size ((l.take k).map (toldF f)) (szT f) (fun y hy => by
    obtain ⟨x, hx, rfl⟩ := List.mem_map.1 hy
    exact toldF_size (hok x (List.mem_of_mem_take hx)))
  rw [List.length_map, List.length_take] at h1
  have h2 : min k l.length * (szT f + 2) ≤ 16 * (szT f + 2) := Nat.mul_le_mul_right _ (by omega)
  rw [ByteArray.size_append]
  show 5 + _ ≤ _
  omega
theorem rt_next (f : Nat) (l : List Ty) (k : Nat) (x : Ty) (hx : l[k]? = some x) (hk : ¬ k = 0) : (⟨#[102, 117, 110, 99, 40]⟩ ++ joinB ((l.take (k + 1)).map (toldF f)) : ByteArray) = (⟨#[102, 117, 110, 99, 40]⟩ ++ joinB ((l.take k).map (toldF f))) ++ ⟨#[44, 32]⟩ ++ toldF f x := by
  obtain ⟨h1, h2⟩ := List.getElem?_eq_some_iff.1 hx
  rw [List.take_succ_eq_append_getElem h1, h2, List.map_append, List.map_cons, List.map_nil, joinB_snoc _ _ (by
    intro h
    have := congrArg List.length h
    rw [List.length_map, List.length_take, List.length_nil] at this
    omega)]
  simp only [ByteArray.append_assoc]
theorem rt_first (f : Nat) (l : List Ty) (x : Ty) (hx : l[0]? = some x) : (⟨#[102, 117, 110, 99, 40]⟩ ++ joinB ((l.take (0 + 1)).map (toldF f)) : ByteArray) = (⟨#[102, 117, 110, 99, 40]⟩ ++ joinB ((l.take 0).map (toldF f))) ++ toldF f x := by
  obtain ⟨h1, h2⟩ := List.getElem?_eq_some_iff.1 hx
  rw [List.take_succ_eq_append_getElem h1, h2, List.take_zero, List.nil_append, List.map_cons, List.map_nil, joinB_one]
  rfl
set_option maxRecDepth 100000 in
set_option maxHeartbeats 2000000 in
theorem rtold_basic (w : World) (t : Ty) (Af : Option Addr) (cf : Nat) (Al : Option Addr) (cl : Nat) (Ar : Option Addr) (cr : Nat) (hk : 1 ≤ t.kind ∧ t.kind ≤ 7) :
    Calls Tryd.prog 32 #[.agg #[.int .i64 t.kind, .string t.name, .int .i64 t.con, .slice Af t.fields.length cf, .slice Al t.list.length cl, .slice Ar t.res.length cr]] w fun e w' => e = .returned (.string (basicB t.kind)) ∧ Chg (fun _ _ => False) w w' := by
  have hc1 := (chg_alloc w (.cells #[.int .i64 t.kind, .string t.name, .int .i64 t.con, .slice Af t.fields.length cf, .slice Al t.list.length cl, .slice Ar t.res.length cr] 39)).alloc (.cells #[.string ⟨#[]⟩, .string ⟨#[98, 111, 111, 108]⟩, .string ⟨#[105, 110, 116, 56]⟩, .string ⟨#[117, 105, 110, 116, 56]⟩, .string ⟨#[105, 110, 116, 51, 50]⟩, .string ⟨#[117, 105, 110, 116, 51, 50]⟩, .string ⟨#[105, 110, 116, 54, 52]⟩, .string ⟨#[117, 105, 110, 116, 54, 52]⟩] 9)
  generalize t.kind = K at hk hc1 ⊢
  have hK : K = 1 ∨ K = 2 ∨ K = 3 ∨ K = 4 ∨ K = 5 ∨ K = 6 ∨ K = 7 := by omega
  clear hk
  rcases hK with rfl | rfl | rfl | rfl | rfl | rfl | rfl
  · have HC := Lib.hid hc1
    clear hc1
    go_enter Tryd.func32, Tryd.ntmps32
    go_wp2_with fail
    go_ret
    exact ⟨rfl, HC.out⟩
  · have HC := Lib.hid hc1
    clear hc1
    go_enter Tryd.func32, Tryd.ntmps32
    go_wp2_with fail
    go_ret
    exact ⟨rfl, HC.out⟩
  · have HC := Lib.hid hc1
    clear hc1
    go_enter Tryd.func32, Tryd.ntmps32
    go_wp2_with fail
    go_ret
    exact ⟨rfl, HC.out⟩
  · have HC := Lib.hid hc1
    clear hc1
    go_enter Tryd.func32, Tryd.ntmps32
    go_wp2_with fail
    go_ret
    exact ⟨rfl, HC.out⟩
  · have HC := Lib.hid hc1
    clear hc1
    go_enter Tryd.func32, Tryd.ntmps32
    go_wp2_with fail
    go_ret
    exact ⟨rfl, HC.out⟩
  · have HC := Lib.hid hc1
    clear hc1
    go_enter Tryd.func32, Tryd.ntmps32
    go_wp2_with fail
    go_ret
    exact ⟨rfl, HC.out⟩
  · have HC := Lib.hid hc1
    clear hc1
    go_enter Tryd.func32, Tryd.ntmps32
    go_wp2_with fail
    go_ret
    exact ⟨rfl, HC.out⟩
set_option maxRecDepth 100000 in
set_option maxHeartbeats 8000000 in
theorem rtold_step (f : Nat) (hf : f ≤ 8) (IH : RToldC f) : RToldC (f + 1) := by
  intro n B w t Af cf Al cl Ar cr hB hA hok
  cases n with
  | zero => exact hA.elim
  | succ n =>
  obtain ⟨hsm, hF, hL, hR⟩ := TyR.open_ hA
  obtain ⟨hs, hin⟩ := lookT_open hok
  have hb1 := (Blk.new w 39 #[.int .i64 t.kind, .string t.name, .int .i64 t.con, .slice Af t.fields.length cf, .slice Al t.list.length cl, .slice Ar t.res.length cr]).alloc (.cells #[.string ⟨#[]⟩, .string ⟨#[98, 111, 111, 108]⟩, .string ⟨#[105, 110, 116, 56]⟩, .string ⟨#[117, 105, 110, 116, 56]⟩, .string ⟨#[105, 110, 116, 51, 50]⟩, .string ⟨#[117, 105, 110, 116, 51, 50]⟩, .string ⟨#[105, 110, 116, 54, 52]⟩, .string ⟨#[117, 105, 110, 116, 54, 52]⟩] 9)
  have hc1 := (chg_alloc w (.cells #[.int .i64 t.kind, .string t.name, .int .i64 t.con, .slice Af t.fields.length cf, .slice Al t.list.length cl, .slice Ar t.res.length cr] 39)).alloc (.cells #[.string ⟨#[]⟩, .string ⟨#[98, 111, 111, 108]⟩, .string ⟨#[105, 110, 116, 56]⟩, .string ⟨#[117, 105, 110, 116, 56]⟩, .string ⟨#[105, 110, 116, 51, 50]⟩, .string ⟨#[117, 105, 110, 116, 51, 50]⟩, .string ⟨#[105, 110, 116, 54, 52]⟩, .string ⟨#[117, 105, 110, 116, 54, 52]⟩] 9)
  have hkind := shape_kind hs
  have IH := Lib.hid IH
  have HT := Lib.hid (And.intro hB (And.intro hs (And.intro hin (And.intro hL hR))))
  have hz := szT_9 (show f ≤ 9 by omega)
  have hz8 : szT f ≤ 4398046511104 := Nat.le_trans (szT_mono hf) (by decide)
  have H0 := Lib.hid (And.intro hb1 hc1)
  obtain ⟨y0, y1, y2, y3, y4, y5⟩ := hb1.cells6
  clear hA hok hF hs hb1 hB hL hR hin hc1
  rcases hkind with ⟨hk, hn⟩ | ⟨hk, hn⟩ | ⟨hk, hn1, hn2⟩ | ⟨hk, hn⟩ | hk
  · have HE := Lib.hid (show toldF (f + 1) t = t.name by rw [toldF]; rw [if_pos (.inl hk)])
    have q8 : (t.kind == 8) = true := by simp [hk]
    have q12 : (t.kind == 12) = false := by simp [hk]
    have q9 : (t.kind == 9) = false := by simp [hk]
    have q10 : (t.kind == 10) = false := by simp [hk]
    have q11 : (t.kind == 11) = false := by simp [hk]
    replace hk := Lib.hid hk
    go_enter Tryd.func32, Tryd.ntmps32
    go_wp2_with fail
    go_ret
    refine ⟨?_, H0.out.2⟩
    rw [HE.out]
    first | done | rfl
  · rcases hk with hk | hk
    · have q1 : (0 : Int) < (t.list.length : Int) := by omega
      obtain ⟨b, o, x, Xf, xf, Xl, xl, Xr, xr, hA, hkx, hRx, z0, z1, z2, z3, z4, z5⟩ := TysR.at_ (TysR.keep0 H0.out.2 HT.out.2.2.2.1) (show 0 < t.list.length by omega)
      subst hA
      have HE := Lib.hid (show toldF (f + 1) t = ⟨#[91, 93]⟩ ++ toldF f x by
        have hl : t.list = [x] := by
          obtain ⟨h1, h2⟩ := List.getElem?_eq_some_iff.1 hkx
          match hll : t.list, hn with
          | [y], _ => simp [hll] at hkx; rw [hkx]
        rw [toldF]
        rw [if_neg (by omega), if_pos hk, hl, List.map_cons, List.map_nil, joinB_one])
      have hcall := IH.out n B _ x Xf xf Xl xl Xr xr (Nat.le_trans HT.out.1 H0.out.2.size) hRx (HT.out.2.2.1 x (mem_list (List.mem_of_getElem? hkx)))
      have hJ := Nat.le_trans (toldF_size (HT.out.2.2.1 x (mem_list (List.mem_of_getElem? hkx)))) hz8
      generalize toldF f x = J at HE hJ hcall
      simp only [Nat.zero_mul, Nat.add_zero] at z0 z1 z2 z3 z4 z5
      have q8 : (t.kind == 8) = false := by simp [hk]
      have q12 : (t.kind == 12) = false := by simp [hk]
      have q9 : (t.kind == 9) = true := by simp [hk]
      have q10 : (t.kind == 10) = false := by simp [hk]
      have q11 : (t.kind == 11) = false := by simp [hk]
      replace hk := Lib.hid hk
      replace hn := Lib.hid hn
      clear hkx hRx
      go_enter Tryd.func32, Tryd.ntmps32
      go_wp2_with fail
      generalize (w.alloc (.cells #[.int .i64 t.kind, .string t.name, .int .i64 t.con, .slice Af t.fields.length cf, .slice (some ⟨b, o, none⟩) t.list.length cl, .slice Ar t.res.length cr] 39)).alloc (.cells #[.string ⟨#[]⟩, .string ⟨#[98, 111, 111, 108]⟩, .string ⟨#[105, 110, 116, 56]⟩, .string ⟨#[117, 105, 110, 116, 56]⟩, .string ⟨#[105, 110, 116, 51, 50]⟩, .string ⟨#[117, 105, 110, 116, 51, 50]⟩, .string ⟨#[105, 110, 116, 54, 52]⟩, .string ⟨#[117, 105, 110, 116, 54, 52]⟩] 9) = W at H0 hcall y0 y1 y2 y3 y4 y5 z0 z1 z2 z3 z4 z5 ⊢
      refine hcall.mono fun e w2 h => ?_
      obtain ⟨rfl, hc2⟩ := h
      clear hcall
      go_wp2_with fail
      go_ret
      refine ⟨?_, H0.out.2.trans hc2⟩
      rw [HE.out]
      first | done | rfl
    · have q1 : (0 : Int) < (t.list.length : Int) := by omega
      obtain ⟨b, o, x, Xf, xf, Xl, xl, Xr, xr, hA, hkx, hRx, z0, z1, z2, z3, z4, z5⟩ := TysR.at_ (TysR.keep0 H0.out.2 HT.out.2.2.2.1) (show 0 < t.list.length by omega)
      subst hA
      have HE := Lib.hid (show toldF (f + 1) t = ⟨#[99, 104, 97, 110, 32]⟩ ++ toldF f x by
        have hl : t.list = [x] := by
          obtain ⟨h1, h2⟩ := List.getElem?_eq_some_iff.1 hkx
          match hll : t.list, hn with
          | [y], _ => simp [hll] at hkx; rw [hkx]
        rw [toldF]
        rw [if_neg (by omega), if_neg (by omega), if_pos hk, hl, List.map_cons, List.map_nil, joinB_one])
      have hcall := IH.out n B _ x Xf xf Xl xl Xr xr (Nat.le_trans HT.out.1 H0.out.2.size) hRx (HT.out.2.2.1 x (mem_list (List.mem_of_getElem? hkx)))
      have hJ := Nat.le_trans (toldF_size (HT.out.2.2.1 x (mem_list (List.mem_of_getElem? hkx)))) hz8
      generalize toldF f x = J at HE hJ hcall
      simp only [Nat.zero_mul, Nat.add_zero] at z0 z1 z2 z3 z4 z5
      have q8 : (t.kind == 8) = false := by simp [hk]
      have q12 : (t.kind == 12) = false := by simp [hk]
      have q9 : (t.kind == 9) = false := by simp [hk]
      have q10 : (t.kind == 10) = true := by simp [hk]
      have q11 : (t.kind == 11) = false := by simp [hk]
      replace hk := Lib.hid hk
      replace hn := Lib.hid hn
      clear hkx hRx
      go_enter Tryd.func32, Tryd.ntmps32
      go_wp2_with fail
      generalize (w.alloc (.cells #[.int .i64 t.kind, .string t.name, .int .i64 t.con, .slice Af t.fields.length cf, .slice (some ⟨b, o, none⟩) t.list.length cl, .slice Ar t.res.length cr] 39)).alloc (.cells #[.string ⟨#[]⟩, .string ⟨#[98, 111, 111, 108]⟩, .string ⟨#[105, 110, 116, 56]⟩, .string ⟨#[117, 105, 110, 116, 56]⟩, .string ⟨#[105, 110, 116, 51, 50]⟩, .string ⟨#[117, 105, 110, 116, 51, 50]⟩, .string ⟨#[105, 110, 116, 54, 52]⟩, .string ⟨#[117, 105, 110, 116, 54, 52]⟩] 9) = W at H0 hcall y0 y1 y2 y3 y4 y5 z0 z1 z2 z3 z4 z5 ⊢
      refine hcall.mono fun e w2 h => ?_
      obtain ⟨rfl, hc2⟩ := h
      clear hcall
      go_wp2_with fail
      go_ret
      refine ⟨?_, H0.out.2.trans hc2⟩
      rw [HE.out]
      first | done | rfl
  · have q8 : (t.kind == 8) = false := by simp [hk]
    have q12 : (t.kind == 12) = false := by simp [hk]
    have q9 : (t.kind == 9) = false := by simp [hk]
    have q10 : (t.kind == 10) = false := by simp [hk]
    have q11 : (t.kind == 11) = true := by simp [hk]
    go_enter Tryd.func32, Tryd.ntmps32
    replace hk := Lib.hid hk
    clear y0 y1 y2 y3 y4 y5
    go_wp2_with fail
    generalize (w.alloc (.cells #[.int .i64 t.kind, .string t.name, .int .i64 t.con, .slice Af t.fields.length cf, .slice Al t.list.length cl, .slice Ar t.res.length cr] 39)).alloc (.cells #[.string ⟨#[]⟩, .string ⟨#[98, 111, 111, 108]⟩, .string ⟨#[105, 110, 116, 56]⟩, .string ⟨#[117, 105, 110, 116, 56]⟩, .string ⟨#[105, 110, 116, 51, 50]⟩, .string ⟨#[117, 105, 110, 116, 51, 50]⟩, .string ⟨#[105, 110, 116, 54, 52]⟩, .string ⟨#[117, 105, 110, 116, 54, 52]⟩] 9) = W at H0 ⊢
    generalize w.heap.size + 1 = g2 at H0 ⊢
    generalize w.heap.size = g at H0 ⊢
    go_loopw [4, 5] (fun s i wr => rtRel f t.list W s i wr) (fun _ i _ => t.list.length - (intOf i).toNat)
    case atStart => exact ⟨0, Nat.zero_le _, rfl, by rw [List.take_zero]; rfl, Chg.refl _ _⟩
    case round =>
      obtain ⟨k, hkl, rfl, rfl, hch⟩ := hrel
      have q3 : IntKind.i64.wrap ((k : Int) + 1) = (k : Int) + 1 := IntWalk.i64_in _ ⟨by omega, by omega⟩
      have hS := rt_size f t.list k hn1 (by omega) (fun x hx => HT.out.2.2.1 x (mem_list hx))
      obtain ⟨y0, y1, y2, y3, y4, y5⟩ := (hch.blk H0.out.1 id).cells6
      have hcw := H0.out.2.trans hch
      have HB := Lib.hid (hch.blk H0.out.1 id)
      by_cases hlt : k < t.list.length
      · have q1 : decide (k < t.list.length) = true := decide_eq_true hlt
        have q2 : (k : Int) < (t.list.length : Int) := by omega
        obtain ⟨b, o, x, Xf, xf, Xl, xl, Xr, xr, hA, hkx, hRx, z0, z1, z2, z3, z4, z5⟩ := TysR.at_ (TysR.keep0 hcw HT.out.2.2.2.1) hlt
        subst hA
        have hcall := IH.out n B wr x Xf xf Xl xl Xr xr (Nat.le_trans HT.out.1 hcw.size) hRx (HT.out.2.2.1 x (mem_list (List.mem_of_getElem? hkx)))
        have hJ := Nat.le_trans (toldF_size (HT.out.2.2.1 x (mem_list (List.mem_of_getElem? hkx)))) hz8
        have HX := Lib.hid (And.intro hch hkx)
        by_cases hk0 : k = 0
        · have HN := Lib.hid (show (⟨#[102, 117, 110, 99, 40]⟩ ++ joinB ((t.list.take (k + 1)).map (toldF f)) : ByteArray) = (⟨#[102, 117, 110, 99, 40]⟩ ++ joinB ((t.list.take k).map (toldF f))) ++ toldF f x by subst hk0; exact rt_first f t.list x hkx)
          have q4 : decide (0 < k) = false := decide_eq_false (by omega)
          clear hch hkx hRx hcw hk0
          generalize (⟨#[102, 117, 110, 99, 40]⟩ ++ joinB ((t.list.take k).map (toldF f)) : ByteArray) = S at HN hS ⊢
          generalize toldF f x = J at HN hJ hcall
          go_wp2_with fail
          refine hcall.mono fun e w2 h => ?_
          obtain ⟨rfl, hc2⟩ := h
          clear hcall
          go_wp2_with fail
          go_roundw
          case rel => exact ⟨k + 1, hlt, by simp, by rw [HN.out], HX.out.1.trans hc2⟩
          case measure => simp [intOf]; omega
        · have HN := Lib.hid (rt_next f t.list k x hkx hk0)
          have q4 : decide (0 < k) = true := decide_eq_true (by omega)
          clear hch hkx hRx hcw hk0
          generalize (⟨#[102, 117, 110, 99, 40]⟩ ++ joinB ((t.list.take k).map (toldF f)) : ByteArray) = S at HN hS ⊢
          generalize toldF f x = J at HN hJ hcall
          go_wp2_with fail
          refine hcall.mono fun e w2 h => ?_
          obtain ⟨rfl, hc2⟩ := h
          clear hcall
          go_wp2_with fail
          go_roundw
          case rel => exact ⟨k + 1, hlt, by simp, by rw [HN.out], HX.out.1.trans hc2⟩
          case measure => simp [intOf]; omega
      · have q1 : decide (k < t.list.length) = false := decide_eq_false hlt
        obtain rfl : k = t.list.length := by omega
        rw [List.take_length] at hS
        rw [List.take_length]
        generalize hSe : (⟨#[102, 117, 110, 99, 40]⟩ ++ joinB (t.list.map (toldF f)) : ByteArray) = S at hS ⊢
        by_cases hr0 : t.res.length = 0
        · have HE := Lib.hid (show toldF (f + 1) t = (S ++ ⟨#[41]⟩ : ByteArray) by rw [toldF]; rw [if_neg (by have := hk.out; omega), if_neg (by have := hk.out; omega), if_neg (by have := hk.out; omega), if_pos hk.out, if_pos hr0, hSe])
          have q5 : (t.res.length == 1) = false := by simp [hr0]
          have q6 : decide (t.res.length = 1) = false := by simp [hr0]
          have HC := Lib.hid hcw
          clear hSe hch hcw hr0
          go_wp2_with fail
          go_ret
          refine ⟨?_, HC.out⟩
          rw [HE.out]
          first | done | rfl
        · have q5 : (t.res.length == 1) = true := by simp; omega
          have q6 : decide (t.res.length = 1) = true := by simp; omega
          have q7 : (0 : Int) < (t.res.length : Int) := by omega
          obtain ⟨b, o, x, Xf, xf, Xl, xl, Xr, xr, hA, hkx, hRx, z0, z1, z2, z3, z4, z5⟩ := TysR.at_ (TysR.keep0 hcw HT.out.2.2.2.2) (show 0 < t.res.length by omega)
          subst hA
          have HE := Lib.hid (show toldF (f + 1) t = (S ++ ⟨#[41]⟩ : ByteArray) ++ ⟨#[32]⟩ ++ toldF f x by
            have hl : t.res = [x] := by
              have hn : t.res.length = 1 := by omega
              match hll : t.res, hn with
              | [y], _ => simp [hll] at hkx; rw [hkx]
            rw [toldF]; rw [if_neg (by have := hk.out; omega), if_neg (by have := hk.out; omega), if_neg (by have := hk.out; omega), if_pos hk.out, if_neg hr0, hSe, hl, List.map_cons, List.map_nil, joinB_one]
            simp only [ByteArray.append_assoc])
          have hcall := IH.out n B wr x Xf xf Xl xl Xr xr (Nat.le_trans HT.out.1 hcw.size) hRx (HT.out.2.2.1 x (mem_res (List.mem_of_getElem? hkx)))
          have hJ := Nat.le_trans (toldF_size (HT.out.2.2.1 x (mem_res (List.mem_of_getElem? hkx)))) hz8
          simp only [Nat.zero_mul, Nat.add_zero] at z0 z1 z2 z3 z4 z5
          generalize toldF f x = J at HE hJ hcall
          have HC := Lib.hid hcw
          clear hSe hch hcw hr0 hkx hRx
          go_wp2_with fail
          refine hcall.mono fun e w2 h => ?_
          obtain ⟨rfl, hc2⟩ := h
          clear hcall
          go_wp2_with fail
          go_ret
          refine ⟨?_, HC.out.trans hc2⟩
          rw [HE.out]
          first | done | rfl
  · have HE := Lib.hid (show toldF (f + 1) t = t.name by rw [toldF]; rw [if_pos (.inr hk)])
    have q8 : (t.kind == 8) = false := by simp [hk]
    have q12 : (t.kind == 12) = true := by simp [hk]
    have q9 : (t.kind == 9) = false := by simp [hk]
    have q10 : (t.kind == 10) = false := by simp [hk]
    have q11 : (t.kind == 11) = false := by simp [hk]
    replace hk := Lib.hid hk
    go_enter Tryd.func32, Tryd.ntmps32
    go_wp2_with fail
    go_ret
    refine ⟨?_, H0.out.2⟩
    rw [HE.out]
    first | done | rfl
  · have HE := Lib.hid (show toldF (f + 1) t = basicB t.kind by rw [toldF]; rw [if_neg (by omega), if_neg (by omega), if_neg (by omega), if_neg (by omega)])
    refine (rtold_basic w t Af cf Al cl Ar cr hk).mono fun e w2 h => ?_
    obtain ⟨rfl, hc2⟩ := h
    exact ⟨by rw [HE.out], hc2⟩
theorem rtold_any : ∀ f, f ≤ 9 → RToldC f
  | 0, _ => fun n B w t Af cf Al cl Ar cr hB hA hok => by cases hok
  | f + 1, h => rtold_step f (by omega) (rtold_any f (by omega))
end Go.Proofs.YtefiefckjoledaaDoor
