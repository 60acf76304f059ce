/-
  types.Compares, Comparable: may values of a type be compared?
-/
import Derived.Test.YtgemacdnncjmdaaDoorTCells
namespace Go.Proofs.YtgemacdnncjmdaaDoor
open Go.RowKit
set_option linter.unusedVariables false
set_option linter.unusedSimpArgs false

/-- May values of a sound type be compared? -/
def cmpF : Nat → Ty → Bool
  | 0, _ => true
  | f + 1, t => if t.kind = 9 ∨ t.kind = 11 then false else if t.kind = 12 then decide (t.con ≠ 1) else if t.kind = 8 then t.fields.all (fun p => cmpF f p.2) else true
theorem cmpF_succ (f : Nat) (t : Ty) : cmpF (f + 1) t = if t.kind = 9 ∨ t.kind = 11 then false else if t.kind = 12 then decide (t.con ≠ 1) else if t.kind = 8 then t.fields.all (fun p => cmpF f p.2) else true := rfl
def CmpC (f : Nat) : Prop := ∀ (n B : Nat) (w : World) (t : Ty) (Af : Option Addr) (cf : Nat) (Al : Option Addr) (cl : Nat) (Ar : Option Addr) (cr : Nat), B ≤ w.heap.size → TyR n B w (tyCells t.kind t.name t.con Af t.fields.length cf Al t.list.length cl Ar t.res.length cr) t → (lookT f t).isSome = true →
    Calls Tryd.prog 44 #[.agg #[.int .i64 t.kind, .string t.name, .int .i64 t.con, .slice Af t.fields.length cf, .slice Al t.list.length cl, .slice Ar t.res.length cr]] w fun e w' => e = .returned (.bool (cmpF f t)) ∧ Chg (fun _ _ => False) w w'
theorem mem_fields {t : Ty} {p : ByteArray × Ty} (h : p ∈ t.fields) : p.2 ∈ t.inner := by
  unfold Ty.inner
  rw [List.append_assoc]
  exact List.mem_append_left _ (List.mem_map_of_mem (f := fun p : ByteArray × Ty => p.2) h)
set_option maxRecDepth 100000 in
set_option maxHeartbeats 1000000 in
theorem compares1_of (f : Nat) (IH : CmpC f) (n B : Nat) (w : World) (nm : ByteArray) (x : Ty) (Xf : Option Addr) (xf : Nat) (Xl : Option Addr) (xl : Nat) (Xr : Option Addr) (xr : Nat) (hB : B ≤ w.heap.size) (hT : TyR n B w (tyCells x.kind x.name x.con Xf x.fields.length xf Xl x.list.length xl Xr x.res.length xr) x) (hok : (lookT f x).isSome = true) :
    Calls Tryd.prog 64 #[.agg #[.string nm, .int .i64 x.kind, .string x.name, .int .i64 x.con, .slice Xf x.fields.length xf, .slice Xl x.list.length xl, .slice Xr x.res.length xr]] w fun e w' => e = .returned (.bool (!cmpF f x)) ∧ Chg (fun _ _ => False) w w' := by
  have hc1 := chg_alloc w (.cells #[.string nm, .int .i64 x.kind, .string x.name, .int .i64 x.con, .slice Xf x.fields.length xf, .slice Xl x.list.length xl, .slice Xr x.res.length xr] 35)
  have hcall := IH n B _ x Xf xf Xl xl Xr xr (Nat.le_trans hB hc1.size) (TyR.keep0 hc1 hT) hok
  clear hT hok
  go_enter Tryd.func64, Tryd.ntmps64
  go_wp2_with fail
  refine hcall.mono fun e w2 h => ?_
  obtain ⟨rfl, hc2⟩ := h
  have HC := Lib.hid (hc1.trans hc2)
  clear hcall hc1 hc2
  go_wp2_with fail
  go_ret
  exact ⟨rfl, HC.out⟩
def idxRel (f : Nat) (l : List (ByteArray × Ty)) (W : World) (i : Value) (wr : World) : Prop := ∃ k : Nat, k ≤ l.length ∧ i = .int .i64 k ∧ (l.take k).all (fun p => cmpF f p.2) = true ∧ Chg (fun _ _ => False) W wr
set_option maxRecDepth 100000 in
set_option maxHeartbeats 2000000 in
theorem idxF_of (f : Nat) (IH : CmpC f) (n B : Nat) (w : World) (l : List (ByteArray × Ty)) (A : Option Addr) (c : Nat) (hB : B ≤ w.heap.size) (hl : SlR B 0 7 (FdR (TyR n B)) w (.slice A l.length c) l) (hl20 : l.length ≤ 1048576) (hok : ∀ p ∈ l, (lookT f p.2).isSome = true) :
    Calls Tryd.prog 76 #[.slice A l.length c, .func (.func 64) #[] #[]] w fun e w' => ∃ r : Int, e = .returned (.int .i64 r) ∧ decide (0 ≤ r) = (!l.all fun p => cmpF f p.2) ∧ Chg (fun _ _ => False) w w' := by
  have H0 := Lib.hid (And.intro hB (And.intro hl (And.intro hok IH)))
  clear hB hl hok IH
  go_enter Tryd.func76, Tryd.ntmps76
  go_wp2_with fail
  go_loopw [5, 8] (fun _ i wr => idxRel f l w i wr) (fun _ i _ => l.length - (intOf i).toNat)
  case atStart => exact ⟨0, Nat.zero_le _, rfl, by simp, Chg.refl _ _⟩
  case round =>
    obtain ⟨k, hk, rfl, hs, hch⟩ := hrel
    have q3 : IntKind.i64.wrap ((k : Int) + 1) = (k : Int) + 1 := IntWalk.i64_in _ ⟨by omega, by omega⟩
    by_cases hlt : k < l.length
    · have q1 : decide (k < l.length) = true := decide_eq_true hlt
      have q2 : (k : Int) < (l.length : Int) := by omega
      obtain ⟨bb, oo, nm, x, Xf, xf, Xl, xl, Xr, xr, rfl, hbB, hkx, hnms, hRx, z0, z1, z2, z3, z4, z5, z6⟩ := fld_at (SlR.keep H0.out.2.1 hch (no_lets _ _) fun _ _ h => h.imp fun _ _ h => TyR.keep0 hch h) hlt
      have hcall := compares1_of f H0.out.2.2.2 n B wr nm x Xf xf Xl xl Xr xr (Nat.le_trans H0.out.1 hch.size) hRx (H0.out.2.2.1 _ (List.mem_of_getElem? hkx))
      have HK := Lib.hid (And.intro hs (And.intro hch hkx))
      clear hs hch hkx hbB hnms hRx
      cases he : cmpF f x with
      | true =>
        rw [he] at hcall
        have HE := Lib.hid he
        clear he
        go_wp2_with fail
        refine hcall.mono fun e w5 h => ?_
        obtain ⟨rfl, hc5⟩ := h
        clear hcall
        go_wp2_with fail
        go_roundw
        case rel =>
          refine ⟨k + 1, hlt, by simp, ?_, HK.out.2.1.trans hc5⟩
          obtain ⟨h1, h2⟩ := List.getElem?_eq_some_iff.1 HK.out.2.2
          rw [List.take_succ_eq_append_getElem h1, h2, List.all_append, HK.out.1]
          simp [HE.out]
        case measure => simp [intOf]; omega
      | false =>
        rw [he] at hcall
        have HE := Lib.hid he
        clear he
        go_wp2_with fail
        refine hcall.mono fun e w5 h => ?_
        obtain ⟨rfl, hc5⟩ := h
        clear hcall
        go_wp2_with fail
        go_ret
        refine ⟨k, rfl, ?_, HK.out.2.1.trans hc5⟩
        have hal : (l.all fun p => cmpF f p.2) = false := by
          rw [← Bool.not_eq_true, List.all_eq_true]
          intro ha
          have := ha _ (List.mem_of_getElem? HK.out.2.2)
          rw [HE.out] at this
          cases this
        rw [hal, decide_eq_true (by omega)]
        rfl
    · have q1 : decide (k < l.length) = false := decide_eq_false hlt
      obtain rfl : k = l.length := by omega
      rw [List.take_length] at hs
      have HK := Lib.hid (And.intro hs hch)
      clear hs hch
      go_wp2_with fail
      go_ret
      refine ⟨-1, rfl, ?_, HK.out.2⟩
      rw [HK.out.1]
      rfl
set_option maxRecDepth 100000 in
set_option maxHeartbeats 1000000 in
theorem contF_of (f : Nat) (IH : CmpC f) (n B : Nat) (w : World) (l : List (ByteArray × Ty)) (A : Option Addr) (c : Nat) (hB : B ≤ w.heap.size) (hl : SlR B 0 7 (FdR (TyR n B)) w (.slice A l.length c) l) (hl20 : l.length ≤ 1048576) (hok : ∀ p ∈ l, (lookT f p.2).isSome = true) :
    Calls Tryd.prog 63 #[.slice A l.length c, .func (.func 64) #[] #[]] w fun e w' => e = .returned (.bool (!l.all fun p => cmpF f p.2)) ∧ Chg (fun _ _ => False) w w' := by
  have hcall := idxF_of f IH n B w l A c hB hl hl20 hok
  clear hl hok IH
  go_enter Tryd.func63, Tryd.ntmps63
  go_wp2_with fail
  refine hcall.mono fun e w5 h => ?_
  obtain ⟨r, rfl, hr, hc5⟩ := h
  have HR := Lib.hid hr
  clear hcall hr
  go_wp2_with fail
  go_ret
  refine ⟨?_, hc5⟩
  rw [← HR.out]
  rfl
set_option maxRecDepth 100000 in
set_option maxHeartbeats 2000000 in
theorem cmp_step (f : Nat) (IH : CmpC f) : CmpC (f + 1) := by
  intro n B w t Af cf Al cl Ar cr hB hA hok
  cases n with
  | zero => exact hA.elim
  | succ n =>
  obtain ⟨hsm, hF, hL, hR⟩ := TyR.open_ hA
  obtain ⟨hs, hin⟩ := lookT_open hok
  have hkind := shape_kind hs
  have hc1 := chg_alloc w (.cells #[.int .i64 t.kind, .string t.name, .int .i64 t.con, .slice Af t.fields.length cf, .slice Al t.list.length cl, .slice Ar t.res.length cr] 33)
  rcases hkind with ⟨hk, hn⟩ | ⟨hk, hn⟩ | ⟨hk, hn1, hn2⟩ | ⟨hk, hn⟩ | hk
  · have hcall := contF_of f IH n B _ t.fields Af cf (Nat.le_trans hB hc1.size) (SlR.keep hF hc1 (no_lets _ _) fun _ _ h => h.imp fun _ _ h => TyR.keep0 hc1 h) hsm.2.2.2.1 fun p hp => hin _ (mem_fields hp)
    have HE := Lib.hid (show cmpF (f + 1) t = t.fields.all (fun p => cmpF f p.2) by rw [cmpF_succ]; rw [if_neg (by omega), if_neg (by omega), if_pos hk])
    have q9 : (t.kind == 9) = false := by simp [hk]
    have q11 : (t.kind == 11) = false := by simp [hk]
    have q12 : (t.kind == 12) = false := by simp [hk]
    have q8 : (t.kind == 8) = true := by simp [hk]
    replace hk := Lib.hid hk
    clear hA hF hL hR hin hok hn hsm
    go_enter Tryd.func44, Tryd.ntmps44
    go_wp2_with fail
    refine hcall.mono fun e w2 h => ?_
    obtain ⟨rfl, hc2⟩ := h
    clear hcall
    go_wp2_with fail
    go_ret
    refine ⟨?_, hc1.trans hc2⟩
    rw [HE.out]
    simp
  · clear hA hF hL hR hin hok hn hsm IH
    rcases hk with hk | hk
    · have HE := Lib.hid (show cmpF (f + 1) t = false by rw [cmpF_succ]; rw [if_pos (.inl hk)])
      have q9 : (t.kind == 9) = true := by simp [hk]
      have q11 : (t.kind == 11) = false := by simp [hk]
      have q12 : (t.kind == 12) = false := by simp [hk]
      have q8 : (t.kind == 8) = false := by simp [hk]
      replace hk := Lib.hid hk
      go_enter Tryd.func44, Tryd.ntmps44
      go_wp2_with fail
      go_ret
      refine ⟨?_, hc1⟩
      rw [HE.out]
      first
        | rfl
        | (simp; done)
    · have HE := Lib.hid (show cmpF (f + 1) t = true by rw [cmpF_succ]; rw [if_neg (by omega), if_neg (by omega), if_neg (by omega)])
      have q9 : (t.kind == 9) = false := by simp only [beq_eq_false_iff_ne]; omega
      have q11 : (t.kind == 11) = false := by simp only [beq_eq_false_iff_ne]; omega
      have q12 : (t.kind == 12) = false := by simp only [beq_eq_false_iff_ne]; omega
      have q8 : (t.kind == 8) = false := by simp only [beq_eq_false_iff_ne]; omega
      replace hk := Lib.hid hk
      go_enter Tryd.func44, Tryd.ntmps44
      go_wp2_with fail
      go_ret
      refine ⟨?_, hc1⟩
      rw [HE.out]
      first
        | rfl
        | (simp; done)
  · clear hA hF hL hR hin hok hn1 hn2 hsm IH
    have HE := Lib.hid (show cmpF (f + 1) t = false by rw [cmpF_succ]; rw [if_pos (.inr hk)])
    have q9 : (t.kind == 9) = false := by simp [hk]
    have q11 : (t.kind == 11) = true := by simp [hk]
    have q12 : (t.kind == 12) = false := by simp [hk]
    have q8 : (t.kind == 8) = false := by simp [hk]
    replace hk := Lib.hid hk
    go_enter Tryd.func44, Tryd.ntmps44
    go_wp2_with fail
    go_ret
    refine ⟨?_, hc1⟩
    rw [HE.out]
    first
      | rfl
      | (simp; done)
  · clear hA hF hL hR hin hok hn hsm IH
    by_cases hcn : t.con = 1
    · have r1 : (t.con != 1) = false := by simp [hcn]
      have HE := Lib.hid (show cmpF (f + 1) t = false by rw [cmpF_succ]; rw [if_neg (by omega), if_pos hk, decide_eq_false (by omega)])
      replace hcn := Lib.hid hcn
      have q9 : (t.kind == 9) = false := by simp [hk]
      have q11 : (t.kind == 11) = false := by simp [hk]
      have q12 : (t.kind == 12) = true := by simp [hk]
      have q8 : (t.kind == 8) = false := by simp [hk]
      replace hk := Lib.hid hk
      go_enter Tryd.func44, Tryd.ntmps44
      go_wp2_with fail
      go_ret
      refine ⟨?_, hc1⟩
      rw [HE.out]
      first
        | rfl
        | (simp; done)
        | simp [r1]
    · have r1 : (t.con != 1) = true := by simp [hcn]
      have HE := Lib.hid (show cmpF (f + 1) t = true by rw [cmpF_succ]; rw [if_neg (by omega), if_pos hk, decide_eq_true (by omega)])
      replace hcn := Lib.hid hcn
      have q9 : (t.kind == 9) = false := by simp [hk]
      have q11 : (t.kind == 11) = false := by simp [hk]
      have q12 : (t.kind == 12) = true := by simp [hk]
      have q8 : (t.kind == 8) = false := by simp [hk]
      replace hk := Lib.hid hk
      go_enter Tryd.func44, Tryd.ntmps44
      go_wp2_with fail
      go_ret
      refine ⟨?_, hc1⟩
      rw [HE.out]
      first
        | rfl
        | (simp; done)
        | simp [r1]
  · clear hA hF hL hR hin hok hsm IH
    have HE := Lib.hid (show cmpF (f + 1) t = true by rw [cmpF_succ]; rw [if_neg (by omega), if_neg (by omega), if_neg (by omega)])
    have q9 : (t.kind == 9) = false := by simp only [beq_eq_false_iff_ne]; omega
    have q11 : (t.kind == 11) = false := by simp only [beq_eq_false_iff_ne]; omega
    have q12 : (t.kind == 12) = false := by simp only [beq_eq_false_iff_ne]; omega
    have q8 : (t.kind == 8) = false := by simp only [beq_eq_false_iff_ne]; omega
    replace hk := Lib.hid hk
    go_enter Tryd.func44, Tryd.ntmps44
    go_wp2_with fail
    go_ret
    refine ⟨?_, hc1⟩
    rw [HE.out]
    first
      | rfl
      | (simp; done)
theorem cmp_any : ∀ f, CmpC f
  | 0 => fun n B w t Af cf Al cl Ar cr hB hA hok => by cases hok
  | f + 1 => cmp_step f (cmp_any f)
set_option maxRecDepth 100000 in
set_option maxHeartbeats 1000000 in
theorem comparable_any (n B : Nat) (w : World) (t : Ty) (Af : Option Addr) (cf : Nat) (Al : Option Addr) (cl : Nat) (Ar : Option Addr) (cr : Nat) (hB : B ≤ w.heap.size) (hTab : Tabs w) (hT : TyR n B w (tyCells t.kind t.name t.con Af t.fields.length cf Al t.list.length cl Ar t.res.length cr) t) :
    Calls Tryd.prog 23 #[.agg #[.int .i64 t.kind, .string t.name, .int .i64 t.con, .slice Af t.fields.length cf, .slice Al t.list.length cl, .slice Ar t.res.length cr]] w fun e w' => e = .returned (.tuple #[.bool (soundT t && cmpF 9 t), .int .i64 (errOf (soundT t))]) ∧ Chg (fun _ _ => False) w w' := by
  have hc1 := chg_alloc w (.cells #[.int .i64 t.kind, .string t.name, .int .i64 t.con, .slice Af t.fields.length cf, .slice Al t.list.length cl, .slice Ar t.res.length cr] 33)
  have hb1 := Blk.new w 33 #[.int .i64 t.kind, .string t.name, .int .i64 t.con, .slice Af t.fields.length cf, .slice Al t.list.length cl, .slice Ar t.res.length cr]
  have hck := check_any n B _ t Af cf Al cl Ar cr (Nat.le_trans hB hc1.size) (hTab.keep0 hc1) (TyR.keep0 hc1 hT)
  cases hs : soundT t with
  | true =>
    rw [hs, show errOf true = 0 from rfl] at hck
    rw [show errOf true = 0 from rfl, Bool.true_and]
    have H := Lib.hid (And.intro hB (And.intro hT hs))
    clear hB hT hTab hs
    go_enter Tryd.func23, Tryd.ntmps23
    go_wp2_with fail
    refine hck.mono fun e w1 h => ?_
    obtain ⟨rfl, hc2⟩ := h
    clear hck
    have hb2 := hc2.blk hb1 id
    obtain ⟨y0, y1, y2, y3, y4, y5⟩ := hb2.cells6
    go_wp2_with fail
    refine (cmp_any 9 n B w1 t Af cf Al cl Ar cr (Nat.le_trans H.out.1 (hc1.trans hc2).size) (TyR.keep0 (hc1.trans hc2) H.out.2.1) H.out.2.2).mono fun e w3 h => ?_
    obtain ⟨rfl, hc3⟩ := h
    have HC := Lib.hid ((hc1.trans hc2).trans hc3)
    clear hc1 hc2 hc3
    go_wp2_with fail
    go_ret2
    exact ⟨rfl, HC.out⟩
  | false =>
    rw [hs, show errOf false = 1 from rfl] at hck
    rw [show errOf false = 1 from rfl, Bool.false_and]
    clear hB hT hTab hs
    go_enter Tryd.func23, Tryd.ntmps23
    go_wp2_with fail
    refine hck.mono fun e w1 h => ?_
    obtain ⟨rfl, hc2⟩ := h
    clear hck
    go_wp2_with fail
    go_ret2
    exact ⟨rfl, hc1.trans hc2⟩
end Go.Proofs.YtgemacdnncjmdaaDoor
