/-
  types.Told, Text: what a type is called.
-/
import Derived.Test.YtgemacdnncjmdaaDoorTTold
namespace Go.Proofs.YtgemacdnncjmdaaDoor
open Go.RowKit
set_option linter.unusedVariables false
set_option linter.unusedSimpArgs false

theorem infoStr : (Tryd.prog.info? 9).map (fun i => (i.zero, i.size, i.bytes)) = some (some (.string ByteArray.empty), 1, 16) := by kernel_rfl
/-- The contract of Told at types of so much depth. -/
def ToldC (f : Nat) : Prop := ∀ (n B : Nat) (w : World) (t : Ty) (Af : Option Addr) (cf : Nat) (Al : Option Addr) (cl : Nat) (Ar : Option Addr) (cr : Nat), B ≤ w.heap.size → TyR n B w (tyCells t.kind t.name t.con Af t.fields.length cf Al t.list.length cl Ar t.res.length cr) t → (lookT f t).isSome = true →
    Calls Tryd.prog 42 #[.agg #[.int .i64 t.kind, .string t.name, .int .i64 t.con, .slice Af t.fields.length cf, .slice Al t.list.length cl, .slice Ar t.res.length cr]] w fun e w' => e = .returned (.string (toldF f t)) ∧ Chg (fun _ _ => False) w w'
def strC (_ : World) (cs : List Value) (s : ByteArray) : Prop := cs = [.string s]
theorem strC.one (cs : List Value) (s : ByteArray) {w : World} (h : strC w cs s) : ∀ u ∈ cs, u.oneCell' = true := by
  subst h
  intro u hu
  simp at hu
  subst hu
  rfl
def toldRel (f D : Nat) (l : List Ty) (W : World) (s i : Value) (wr : World) : Prop :=
  ∃ (k : Nat) (A : Option Addr) (c : Nat), k ≤ l.length ∧ i = .int .i64 k ∧ s = .slice A k c ∧ RowR D 9 1 strC wr A c ((l.take k).map (toldF f)) ∧ Chg (fun _ _ => False) W wr
theorem join_any (l : List ByteArray) (A : Option Addr) (c : Nat) (w : World) (D S : Nat) (hr : RowR D 9 1 strC w A c l) (hl : l.length ≤ 16) (hS : ∀ x ∈ l, x.size ≤ S) (hS2 : S ≤ 4398046511104) :
    Calls Tryd.prog 60 #[.slice A l.length c, .string ⟨#[44, 32]⟩] w fun e w' => e = .returned (.string (joinB l)) ∧ Chg (fun _ _ => False) w w' := by
  by_cases h0 : l.length = 0
  · have hl0 : l = [] := List.eq_nil_of_length_eq_zero h0
    subst hl0
    exact (Tryd.strings_Join_none A c ⟨#[44, 32]⟩ w).mono fun e w' h => ⟨h.1, h.2 ▸ Chg.refl _ _⟩
  · obtain ⟨A', c', hv, hlc, hk⟩ := hr.slr (by decide) 0
    injection hv with hA _ hc
    subst hA
    subst hc
    obtain ⟨b, o, hA, _, hlt, hcell⟩ := hk (by omega)
    subst hA
    have hsz := joinB_size l S hS
    have hm : l.length * (S + 2) ≤ 16 * (S + 2) := Nat.mul_le_mul_right _ hl
    refine (Tryd.strings_Join b o c l ⟨#[44, 32]⟩ w (fun j x hx => ?_) hlt (by omega) hlc ?_).mono fun e w' h => ⟨h.1, Chg.of_below h.2 _⟩
    · obtain ⟨cs, _, h1, h2⟩ := hcell j x hx
      have h3 := h2 0 (.string x) (by rw [show cs = [.string x] from h1]; rfl)
      simpa using h3
    · have : (joinB l).size = (Lib.join (l.map (·.data.toList)) [44, 32]).length := by unfold joinB; rw [← List.size_toArray]; rfl
      show (Lib.join (l.map (·.data.toList)) [44, 32]).length ≤ _
      omega
set_option maxRecDepth 100000 in
set_option maxHeartbeats 2000000 in
theorem told1_of (f : Nat) (IH : ToldC f) (hf : f ≤ 8) (n B : Nat) (w : World) (l : List Ty) (A : Option Addr) (c : Nat) (hB : B ≤ w.heap.size) (hT : TysR n B w (.slice A l.length c) l) (hl : l.length ≤ 16) (hok : ∀ x ∈ l, (lookT f x).isSome = true) :
    Calls Tryd.prog 59 #[.slice A l.length c] w fun e w' => e = .returned (.string (joinB (l.map (toldF f)))) ∧ Chg (fun _ _ => False) w w' := by
  obtain ⟨i9, hi9, hz9, hs9, hb9⟩ := info_parts infoStr
  have H0 := Lib.hid (And.intro hB (And.intro hT (And.intro hok IH)))
  clear hB hT hok IH
  go_enter Tryd.func59, Tryd.ntmps59
  go_wp2_with fail
  go_loopw [3, 8] (fun s i wr => toldRel f w.heap.size l w s i wr) (fun _ i _ => l.length - (intOf i).toNat)
  case atStart => exact ⟨0, none, 0, Nat.zero_le _, rfl, rfl, RowR.nil _ _ _ _ _, Chg.refl _ _⟩
  case round =>
    obtain ⟨k, A1, c1, hk, rfl, rfl, hr, hch⟩ := hrel
    have q3 : IntKind.i64.wrap ((k : Int) + 1) = (k : Int) + 1 := IntWalk.i64_in _ ⟨by omega, by omega⟩
    by_cases hlt : k < l.length
    · have q1 : decide (k < l.length) = true := decide_eq_true hlt
      have q2 : (k : Int) < (l.length : Int) := by omega
      obtain ⟨b, o, x, Xf, xf, Xl, xl, Xr, xr, rfl, hkx, hRx, z0, z1, z2, z3, z4, z5⟩ := TysR.at_ (TysR.keep0 hch H0.out.2.1) hlt
      have hca := chg_alloc wr (.cells #[.int .i64 x.kind, .string x.name, .int .i64 x.con, .slice Xf x.fields.length xf, .slice Xl x.list.length xl, .slice Xr x.res.length xr] 33)
      have hcall := H0.out.2.2.2 n B _ x Xf xf Xl xl Xr xr (Nat.le_trans H0.out.1 (hch.trans hca).size) (TyR.keep0 hca hRx) (H0.out.2.2.1 x (List.mem_of_getElem? hkx))
      have hra := hr.keep hca (fun b _ h => h) (fun _ _ h => h)
      have HR := Lib.hid (And.intro hra (And.intro (hch.trans hca) hkx))
      clear hr hch hkx hRx hra hca
      go_wp2_with fail
      generalize wr.alloc (.cells #[.int .i64 x.kind, .string x.name, .int .i64 x.con, .slice Xf x.fields.length xf, .slice Xl x.list.length xl, .slice Xr x.res.length xr] 33) = w3 at hcall HR ⊢
      refine hcall.mono fun e w4 h => ?_
      obtain ⟨rfl, hc4⟩ := h
      have hr4 := HR.out.1.keep hc4 (fun b _ h => h) (fun _ _ h => h)
      have hD : w.heap.size ≤ w4.heap.size := (HR.out.2.1.trans hc4).size
      have htl : k = ((l.take k).map (toldF f)).length := by rw [List.length_map, List.length_take]; omega
      generalize hu : toldF f x = u
      have HR4 := Lib.hid (And.intro hr4 (And.intro (HR.out.2.1.trans hc4) (And.intro htl hu)))
      clear hcall hc4 hr4 htl hu z0 z1 z2 z3 z4 z5
      go_wp2_with (at_builtin; go_must (refine wpList_push rfl (.tmp 12) (.tmp 15) 22 rfl w.heap.size 9 i9 _ 1 16 Tryd.underlying22 hi9 hz9 hs9 hb9 rfl (by omega) strC A1 c1 _ HR4.out.2.2.1 (by first | rfl | simp) HR4.out.1 1 [.string u] u (by first | rfl | simp) (by first | rfl | simp) rfl (strC.one (w := w4) _ _ rfl) rfl (by omega) (by omega) hD (fun _ _ _ _ h => h) ?_))
      intro A2 c2 w5 hr5 hc5
      have htk : (l.take (k + 1)).map (toldF f) = (l.take k).map (toldF f) ++ [u] := by
        obtain ⟨h1, h2⟩ := List.getElem?_eq_some_iff.1 HR.out.2.2
        rw [List.take_succ_eq_append_getElem h1, h2, ← HR4.out.2.2.2]
        simp
      have HP := Lib.hid (show toldRel f w.heap.size l w (.slice A2 (k + 1) c2) (.int .i64 ((k : Int) + 1)) w5 from ⟨k + 1, A2, c2, hlt, by simp, rfl, by rw [htk]; simpa using hr5, HR4.out.2.1.trans_new hc5 fun b t hb h => by have := h.1; omega⟩)
      clear hr5 hc5 htk
      go_wp2_with fail
      go_roundw
      case rel => exact HP.out
      case measure => simp [intOf]; omega
    · have q1 : decide (k < l.length) = false := decide_eq_false hlt
      obtain rfl : k = l.length := by omega
      rw [List.take_length] at hr
      have hj := join_any (l.map (toldF f)) A1 c1 wr w.heap.size (szT f) hr (by rw [List.length_map]; exact hl) (fun y hy => by
        obtain ⟨x, hx, rfl⟩ := List.mem_map.1 hy
        exact toldF_size (H0.out.2.2.1 x hx)) (Nat.le_trans (szT_mono hf) (by decide))
      rw [List.length_map] at hj
      have HC := Lib.hid hch
      clear hr hch
      go_wp2_with fail
      refine hj.mono fun e w2 h => ?_
      obtain ⟨rfl, hc2⟩ := h
      clear hj
      go_wp2_with fail
      go_ret
      exact ⟨rfl, HC.out.trans hc2⟩
set_option maxRecDepth 100000 in
set_option maxHeartbeats 4000000 in
theorem told_step (f : Nat) (hf : f ≤ 8) (IH : ToldC f) : ToldC (f + 1) := by
  intro n B w t Af cf Al cl Ar cr hB hA hok
  cases n with
  | zero => exact hA.elim
  | succ n =>
  obtain ⟨hsm, hF, hL, hR⟩ := TyR.open_ hA
  obtain ⟨hs, hin⟩ := lookT_open hok
  have hb1 := Blk.new w 33 #[.int .i64 t.kind, .string t.name, .int .i64 t.con, .slice Af t.fields.length cf, .slice Al t.list.length cl, .slice Ar t.res.length cr]
  have hc1 := chg_alloc w (.cells #[.int .i64 t.kind, .string t.name, .int .i64 t.con, .slice Af t.fields.length cf, .slice Al t.list.length cl, .slice Ar t.res.length cr] 33)
  have hkind := shape_kind hs
  have IH := Lib.hid IH
  have HT := Lib.hid (And.intro hB (And.intro hs (And.intro hin (And.intro hL hR))))
  have hz := szT_9 (show f ≤ 9 by omega)
  have hz8 : szT f ≤ 4398046511104 := Nat.le_trans (szT_mono hf) (by decide)
  have H0 := Lib.hid (And.intro hb1 hc1)
  obtain ⟨y0, y1, y2, y3, y4, y5⟩ := hb1.cells6
  clear hA hok hF hs hb1
  have hcl : t.list.length ≤ 16 → Calls Tryd.prog 59 #[.slice Al t.list.length cl] (w.alloc (.cells #[.int .i64 t.kind, .string t.name, .int .i64 t.con, .slice Af t.fields.length cf, .slice Al t.list.length cl, .slice Ar t.res.length cr] 33)) fun e w' => e = .returned (.string (joinB (t.list.map (toldF f)))) ∧ Chg (fun _ _ => False) (w.alloc (.cells #[.int .i64 t.kind, .string t.name, .int .i64 t.con, .slice Af t.fields.length cf, .slice Al t.list.length cl, .slice Ar t.res.length cr] 33)) w' :=
    fun h => told1_of f IH.out (by omega) n B _ t.list Al cl (Nat.le_trans hB hc1.size) (TysR.keep0 hc1 hL) h (fun x hx => hin x (mem_list hx))
  have hJ : t.list.length ≤ 16 → (joinB (t.list.map (toldF f))).size ≤ 80000000000000 := fun h => by
    have h1 := joinB_size (t.list.map (toldF f)) (szT f) (fun y hy => by
        obtain ⟨x, hx, rfl⟩ := List.mem_map.1 hy
        exact toldF_size (hin x (mem_list hx)))
    rw [List.length_map] at h1
    have h2 : t.list.length * (szT f + 2) ≤ 16 * (szT f + 2) := Nat.mul_le_mul_right _ h
    omega
  have hK : t.res.length ≤ 1 → (joinB (t.res.map (toldF f))).size ≤ 80000000000000 := fun h => by
    have h1 := joinB_size (t.res.map (toldF f)) (szT f) (fun y hy => by
        obtain ⟨x, hx, rfl⟩ := List.mem_map.1 hy
        exact toldF_size (hin x (mem_res hx)))
    rw [List.length_map] at h1
    have h2 : t.res.length * (szT f + 2) ≤ 1 * (szT f + 2) := Nat.mul_le_mul_right _ h
    omega
  clear hB hL hR hin hc1
  rcases hkind with ⟨hk, hn⟩ | ⟨hk, hn⟩ | ⟨hk, hn1, hn2⟩ | ⟨hk, hn⟩ | hk
  · have HE := Lib.hid (show toldF (f + 1) t = t.name by unfold toldF; rw [if_pos (.inl hk)])
    have q8 : (t.kind == 8) = true := by simp [hk]
    replace hk := Lib.hid hk
    clear hcl hJ hK
    go_enter Tryd.func42, Tryd.ntmps42
    go_wp2_with fail
    go_ret
    refine ⟨?_, H0.out.2⟩
    rw [HE.out]
    rfl
  · replace hcl := hcl (by omega)
    replace hJ := hJ (by omega)
    clear hK hn
    rcases hk with hk | hk
    · have HE := Lib.hid (show toldF (f + 1) t = ⟨#[91, 93]⟩ ++ joinB (t.list.map (toldF f)) by unfold toldF; rw [if_neg (by omega), if_pos hk])
      have q9 : (t.kind == 9) = true := by simp [hk]
      have q8 := q9
      have q7 : (t.kind == 8) = false := by simp [hk]
      have q6 : (t.kind == 12) = false := by simp [hk]
      replace hk := Lib.hid hk
      go_enter Tryd.func42, Tryd.ntmps42
      go_wp2_with fail
      generalize w.alloc (.cells #[.int .i64 t.kind, .string t.name, .int .i64 t.con, .slice Af t.fields.length cf, .slice Al t.list.length cl, .slice Ar t.res.length cr] 33) = W at H0 hcl y0 y1 y2 y3 y4 y5 ⊢
      generalize w.heap.size = g at H0 y0 y1 y2 y3 y4 y5 ⊢
      refine hcl.mono fun e w2 h => ?_
      obtain ⟨rfl, hc2⟩ := h
      clear hcl
      generalize joinB (t.list.map (toldF f)) = J at HE hJ ⊢
      go_wp2_with fail
      go_ret
      refine ⟨?_, H0.out.2.trans hc2⟩
      rw [HE.out]
      rfl
    · have HE := Lib.hid (show toldF (f + 1) t = ⟨#[99, 104, 97, 110, 32]⟩ ++ joinB (t.list.map (toldF f)) by unfold toldF; rw [if_neg (by omega), if_neg (by omega), if_pos hk])
      have q9 : (t.kind == 10) = true := by simp [hk]
      have q8 : (t.kind == 9) = false := by simp [hk]
      have q7 : (t.kind == 8) = false := by simp [hk]
      have q6 : (t.kind == 12) = false := by simp [hk]
      replace hk := Lib.hid hk
      go_enter Tryd.func42, Tryd.ntmps42
      go_wp2_with fail
      generalize w.alloc (.cells #[.int .i64 t.kind, .string t.name, .int .i64 t.con, .slice Af t.fields.length cf, .slice Al t.list.length cl, .slice Ar t.res.length cr] 33) = W at H0 hcl y0 y1 y2 y3 y4 y5 ⊢
      generalize w.heap.size = g at H0 y0 y1 y2 y3 y4 y5 ⊢
      refine hcl.mono fun e w2 h => ?_
      obtain ⟨rfl, hc2⟩ := h
      clear hcl
      generalize joinB (t.list.map (toldF f)) = J at HE hJ ⊢
      go_wp2_with fail
      go_ret
      refine ⟨?_, H0.out.2.trans hc2⟩
      rw [HE.out]
      rfl
  · replace hcl := hcl hn1
    replace hJ := hJ hn1
    replace hK := hK hn2
    by_cases hr0 : t.res.length = 0
    · have HE := Lib.hid (show toldF (f + 1) t = (⟨#[102, 117, 110, 99, 40]⟩ ++ joinB (t.list.map (toldF f)) ++ ⟨#[41]⟩ : ByteArray) by unfold toldF; rw [if_neg (by omega), if_neg (by omega), if_neg (by omega), if_pos hk, if_pos hr0])
      have q11 : (t.kind == 11) = true := by simp [hk]
      have q10 : (t.kind == 10) = false := by simp [hk]
      have q9 : (t.kind == 9) = false := by simp [hk]
      have q8 : (t.kind == 8) = false := by simp [hk]
      have q12 : (t.kind == 12) = false := by simp [hk]
      replace hk := Lib.hid hk
      replace hr0 := Lib.hid hr0
      go_enter Tryd.func42, Tryd.ntmps42
      go_wp2_with fail
      generalize w.alloc (.cells #[.int .i64 t.kind, .string t.name, .int .i64 t.con, .slice Af t.fields.length cf, .slice Al t.list.length cl, .slice Ar t.res.length cr] 33) = W at H0 hcl y0 y1 y2 y3 y4 y5 ⊢
      generalize w.heap.size = g at H0 y0 y1 y2 y3 y4 y5 ⊢
      refine hcl.mono fun e w2 h => ?_
      obtain ⟨rfl, hc2⟩ := h
      clear hcl
      generalize joinB (t.list.map (toldF f)) = J at HE hJ ⊢
      have hb2 := hc2.blk H0.out.1 id
      obtain ⟨x0, x1, x2, x3, x4, x5⟩ := hb2.cells6
      have r0 : decide (0 < t.res.length) = false := decide_eq_false (by have := hr0.out; omega)
      go_wp2_with fail
      go_ret
      refine ⟨?_, H0.out.2.trans hc2⟩
      rw [HE.out]
      rfl
    · have HE := Lib.hid (show toldF (f + 1) t = (⟨#[102, 117, 110, 99, 40]⟩ ++ joinB (t.list.map (toldF f)) ++ ⟨#[41]⟩ : ByteArray) ++ (⟨#[32]⟩ ++ joinB (t.res.map (toldF f))) by unfold toldF; rw [if_neg (by omega), if_neg (by omega), if_neg (by omega), if_pos hk, if_neg (by omega)])
      have q11 : (t.kind == 11) = true := by simp [hk]
      have q10 : (t.kind == 10) = false := by simp [hk]
      have q9 : (t.kind == 9) = false := by simp [hk]
      have q8 : (t.kind == 8) = false := by simp [hk]
      have q12 : (t.kind == 12) = false := by simp [hk]
      replace hk := Lib.hid hk
      replace hr0 := Lib.hid hr0
      go_enter Tryd.func42, Tryd.ntmps42
      go_wp2_with fail
      generalize w.alloc (.cells #[.int .i64 t.kind, .string t.name, .int .i64 t.con, .slice Af t.fields.length cf, .slice Al t.list.length cl, .slice Ar t.res.length cr] 33) = W at H0 hcl y0 y1 y2 y3 y4 y5 ⊢
      generalize w.heap.size = g at H0 y0 y1 y2 y3 y4 y5 ⊢
      refine hcl.mono fun e w2 h => ?_
      obtain ⟨rfl, hc2⟩ := h
      clear hcl
      generalize joinB (t.list.map (toldF f)) = J at HE hJ ⊢
      have hb2 := hc2.blk H0.out.1 id
      obtain ⟨x0, x1, x2, x3, x4, x5⟩ := hb2.cells6
      have r0 : decide (0 < t.res.length) = true := decide_eq_true (by have := hr0.out; omega)
      go_wp2_with fail
      have hcr := told1_of f IH.out (by omega) n B w2 t.res Ar cr (Nat.le_trans HT.out.1 (H0.out.2.trans hc2).size) (TysR.keep0 (H0.out.2.trans hc2) HT.out.2.2.2.2) (by omega) (fun x hx => HT.out.2.2.1 x (mem_res hx))
      refine hcr.mono fun e w3 h => ?_
      obtain ⟨rfl, hc3⟩ := h
      clear hcr
      generalize joinB (t.res.map (toldF f)) = K at HE hK ⊢
      go_wp2_with fail
      go_ret
      refine ⟨?_, (H0.out.2.trans hc2).trans hc3⟩
      rw [HE.out]
      rfl
  · have HE := Lib.hid (show toldF (f + 1) t = t.name by unfold toldF; rw [if_pos (.inr hk)])
    have q8 : (t.kind == 8) = false := by simp [hk]
    have q12 : (t.kind == 12) = true := by simp [hk]
    replace hk := Lib.hid hk
    clear hcl hJ hK
    go_enter Tryd.func42, Tryd.ntmps42
    go_wp2_with fail
    go_ret
    refine ⟨?_, H0.out.2⟩
    rw [HE.out]
    rfl
  · have HE := Lib.hid (show toldF (f + 1) t = basicB t.kind by unfold toldF; rw [if_neg (by omega), if_neg (by omega), if_neg (by omega), if_neg (by omega)])
    have q8 : (t.kind == 8) = false := by simp only [beq_eq_false_iff_ne]; omega
    have q9 : (t.kind == 9) = false := by simp only [beq_eq_false_iff_ne]; omega
    have q10 : (t.kind == 10) = false := by simp only [beq_eq_false_iff_ne]; omega
    have q11 : (t.kind == 11) = false := by simp only [beq_eq_false_iff_ne]; omega
    have q12 : (t.kind == 12) = false := by simp only [beq_eq_false_iff_ne]; omega
    have hba := basic_any t.kind hk
    replace hk := Lib.hid hk
    clear hcl hJ hK
    go_enter Tryd.func42, Tryd.ntmps42
    go_wp2_with fail
    refine (hba _).mono fun e w2 h => ?_
    obtain ⟨rfl, rfl⟩ := h
    clear hba
    go_wp2_with fail
    go_ret
    refine ⟨?_, H0.out.2⟩
    rw [HE.out]
    rfl
theorem told_any : ∀ f, f ≤ 9 → ToldC f
  | 0, _ => fun n B w t Af cf Al cl Ar cr hB hA hok => by cases hok
  | f + 1, h => told_step f (by omega) (told_any f (by omega))
set_option maxRecDepth 100000 in
set_option maxHeartbeats 1000000 in
theorem text_any (n B : Nat) (w : World) (t : Ty) (Af : Option Addr) (cf : Nat) (Al : Option Addr) (cl : Nat) (Ar : Option Addr) (cr : Nat) (hB : B ≤ w.heap.size) (hTab : Tabs w) (hT : TyR n B w (tyCells t.kind t.name t.con Af t.fields.length cf Al t.list.length cl Ar t.res.length cr) t) :
    Calls Tryd.prog 20 #[.agg #[.int .i64 t.kind, .string t.name, .int .i64 t.con, .slice Af t.fields.length cf, .slice Al t.list.length cl, .slice Ar t.res.length cr]] w fun e w' => e = .returned (.tuple #[.string (if soundT t then toldF 9 t else ⟨#[]⟩), .int .i64 (errOf (soundT t))]) ∧ Chg (fun _ _ => False) w w' := by
  have hc1 := chg_alloc w (.cells #[.int .i64 t.kind, .string t.name, .int .i64 t.con, .slice Af t.fields.length cf, .slice Al t.list.length cl, .slice Ar t.res.length cr] 33)
  have hb1 := Blk.new w 33 #[.int .i64 t.kind, .string t.name, .int .i64 t.con, .slice Af t.fields.length cf, .slice Al t.list.length cl, .slice Ar t.res.length cr]
  have hck := check_any n B _ t Af cf Al cl Ar cr (Nat.le_trans hB hc1.size) (hTab.keep0 hc1) (TyR.keep0 hc1 hT)
  cases hs : soundT t with
  | true =>
    rw [hs, show errOf true = 0 from rfl] at hck
    rw [show errOf true = 0 from rfl, if_pos rfl]
    have H := Lib.hid (And.intro hB (And.intro hT hs))
    clear hB hT hTab hs
    go_enter Tryd.func20, Tryd.ntmps20
    go_wp2_with fail
    refine hck.mono fun e w1 h => ?_
    obtain ⟨rfl, hc2⟩ := h
    clear hck
    have hb2 := hc2.blk hb1 id
    obtain ⟨y0, y1, y2, y3, y4, y5⟩ := hb2.cells6
    go_wp2_with fail
    refine (told_any 9 (by omega) n B w1 t Af cf Al cl Ar cr (Nat.le_trans H.out.1 (hc1.trans hc2).size) (TyR.keep0 (hc1.trans hc2) H.out.2.1) H.out.2.2).mono fun e w3 h => ?_
    obtain ⟨rfl, hc3⟩ := h
    have HC := Lib.hid ((hc1.trans hc2).trans hc3)
    clear hc1 hc2 hc3
    go_wp2_with fail
    go_ret2
    exact ⟨rfl, HC.out⟩
  | false =>
    rw [hs, show errOf false = 1 from rfl] at hck
    rw [show errOf false = 1 from rfl, if_neg (by decide)]
    clear hB hT hTab hs
    go_enter Tryd.func20, Tryd.ntmps20
    go_wp2_with fail
    refine hck.mono fun e w1 h => ?_
    obtain ⟨rfl, hc2⟩ := h
    clear hck
    go_wp2_with fail
    go_ret2
    exact ⟨rfl, hc1.trans hc2⟩
end Go.Proofs.YtgemacdnncjmdaaDoor
