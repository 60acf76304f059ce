/-
  ref02.FillAll: many types, each filled, in new memory.
-/
import Derived.Test.YtgemacdnncjmdaaDoorTFill
namespace Go.Proofs.YtgemacdnncjmdaaDoor
open Go.RowKit
set_option linter.unusedVariables false
set_option linter.unusedSimpArgs false

def fillsRel (D m : Nat) (f : ByteArray → Option Ty) (w : World) (l : List Ty) (v i : Value) (wr : World) : Prop :=
  ∃ (k : Nat) (A : Option Addr) (c : Nat), k ≤ l.length ∧ i = .int .i64 k ∧ v = .slice A k c ∧ GrowR D 33 6 (TyN m) wr A c ((l.take k).map (Ty.fill f)) ∧ Chg (fun _ _ => False) w wr
theorem one_ty (a c : Int) (b : ByteArray) (Af : Option Addr) (nf cf : Nat) (Al : Option Addr) (nl cl : Nat) (Ar : Option Addr) (nr cr : Nat) : ∀ u ∈ [Value.int .i64 a, .string b, .int .i64 c, .slice Af nf cf, .slice Al nl cl, .slice Ar nr cr], u.oneCell' = true := by
  intro u hu
  simp at hu
  rcases hu with rfl | rfl | rfl | rfl | rfl | rfl <;> rfl
set_option maxRecDepth 100000 in
set_option maxHeartbeats 4000000 in
theorem fillAll_of (n m B : Nat) (f : ByteArray → Option Ty) (vn va : Value) (Pre : World → Prop) (hS : Stays Pre) (hF : FillC n m B f vn va Pre) (w : World) (l : List Ty) (A : Option Addr) (c : Nat)
    (hB : B ≤ w.heap.size) (hP : Pre w) (hl : l.length ≤ 1048576) (hT : TysR n B w (.slice A l.length c) l) : Calls Tryd.prog 31 #[.slice A l.length c, vn, va] w (FillsRes m (l.map (Ty.fill f)) w) := by
  obtain ⟨i39, hi39, hz39, hs39, hb39⟩ := info_parts infoType
  have HH := Lib.hid (And.intro hB (And.intro hP (And.intro hT (And.intro hS hF))))
  clear hB hP hT hS hF
  go_enter Tryd.func31, Tryd.ntmps31
  go_wp2_with fail
  go_loopw [7, 8] (fun v i wr => fillsRel w.heap.size m f w l v i wr) (fun _ i _ => l.length - (intOf i).toNat)
  case atStart => exact ⟨0, none, 0, Nat.zero_le _, rfl, rfl, GrowR.nil _ _ _ _ _, Chg.refl _ _⟩
  case round =>
    obtain ⟨k, A1, c1, hk, rfl, rfl, hg, hch⟩ := hrel
    have htl : ((l.take k).map (Ty.fill f)).length = k := by rw [List.length_map, List.length_take]; omega
    by_cases hlt : k < l.length
    · have q1 : decide (k < l.length) = true := decide_eq_true hlt
      have q2 : (k : Int) < (l.length : Int) := by omega
      have q3 : IntKind.i64.wrap ((k : Int) + 1) = (k : Int) + 1 := IntWalk.i64_in _ ⟨by omega, by omega⟩
      obtain ⟨b, o, t, Af, cf, Al, cl, Ar, cr, rfl, hkt, hR, z0, z1, z2, z3, z4, z5⟩ := (HH.out.2.2.1.keep0 hch).at_ hlt
      have hlt2 : ∀ g, (Value.slice A1 ((l.take k).map (Ty.fill f)).length c1).ownBlock = some g → g < wr.heap.size := fun g h => (hg.1.lt h).1
      obtain ⟨⟨xss, how0, x2, x3, x4⟩, hgD⟩ := hg
      rw [htl] at how0
      have HR := Lib.hid (And.intro how0 (And.intro hch (And.intro hkt htl)))
      have HX := Lib.hid (And.intro x2 (And.intro x3 (And.intro x4 (And.intro hgD hlt2))))
      have hwr := hch.size
      clear how0 hch hkt htl x2 x3 x4 hgD hlt2
      go_wp2_with fail
      refine (HH.out.2.2.2.2 wr t Af cf Al cl Ar cr (Nat.le_trans HH.out.1 hwr) (HH.out.2.2.2.1 _ _ HR.out.2.1 HH.out.2.1) hR).mono fun e w1 h => ?_
      obtain ⟨Bf, bf, Bl, bl, Br, br, rfl, hN, hc1⟩ := h
      generalize hu : t.fill f = u at hN
      have how := hc1.own HR.out.1 fun _ _ => id
      have hone := one_ty u.kind u.con u.name Bf u.fields.length bf Bl u.list.length bl Br u.res.length br
      have HN := Lib.hid (And.intro hN (And.intro hc1 hu))
      clear hN hc1 hu z0 z1 z2 z3 z4 z5 hR
      go_wp2_with (at_builtin; go_must (refine wpList_append_new rfl (.tmp 15) (.tmp 23) 23 rfl 0 33 i39 _ 6 104 Tryd.underlying23 hi39 hz39 hs39 hb39 rfl (by omega) A1 k c1 xss.flatten rfl how 1 1 [.int .i64 u.kind, .string u.name, .int .i64 u.con, .slice Bf u.fields.length bf, .slice Bl u.list.length bl, .slice Br u.res.length br] rfl (by first | rfl | simp) rfl hone (by simp only [maxLen]; omega) (by omega) (Nat.zero_le _) ?_))
      intro A2 c2 w2 hap
      obtain ⟨_, hch, hkt, htl⟩ := HR.out
      obtain ⟨hN, hc1, hu⟩ := HN.out
      obtain ⟨x2, x3, x4, hgD, hlt2⟩ := HX.out
      have hp := GrowR.push (x := u) (cs := tyCells u.kind u.name u.con Bf u.fields.length bf Bl u.list.length bl Br u.res.length br) (tyN_keepR m) (tyN_subR m) x2 x3 x4 hgD hwr hc1 (by rw [htl]; exact how) hlt2 hN rfl (by rw [htl]; exact hap)
      have htk : (l.take (k + 1)).map (Ty.fill f) = (l.take k).map (Ty.fill f) ++ [u] := by
        obtain ⟨h1, h2⟩ := List.getElem?_eq_some_iff.1 hkt
        rw [List.take_succ_eq_append_getElem h1, h2]
        simp [hu]
      have hch2 := hp.2
      rw [htl] at hch2
      have HP := Lib.hid (show fillsRel w.heap.size m f w l (.slice A2 (k + 1) c2) (.int .i64 ((k : Int) + 1)) w2 from ⟨k + 1, A2, c2, hlt, by simp, rfl, by rw [htk]; exact hp.1, (hch.trans hc1).trans_new hch2 fun b t hb h => by have := hgD b (by rw [htl]; exact h.1); omega⟩)
      clear hap how hch hkt htl hN hc1 hu x2 x3 x4 hgD hlt2 hp htk hch2
      go_wp2
      go_roundw
      case rel => exact HP.out
      case measure => simp [intOf]; omega
    · have q1 : decide (k < l.length) = false := decide_eq_false hlt
      obtain rfl : k = l.length := by omega
      have hr := hg.rowG fun G G' hG cs x h => tyN_subR m G G' wr hG cs x h
      rw [List.take_length] at hr
      have HR := Lib.hid (And.intro hr hch)
      clear hg hch hr htl
      go_wp2
      go_ret
      exact ⟨A1, c1, by simp, HR.out.1, HR.out.2⟩
end Go.Proofs.YtgemacdnncjmdaaDoor
