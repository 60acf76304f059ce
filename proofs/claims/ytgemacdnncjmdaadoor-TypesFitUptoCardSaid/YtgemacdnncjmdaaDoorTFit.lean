/-
  types.Params, types.Fits; the same texts.
-/
import Derived.Test.YtgemacdnncjmdaaDoorTParams
import Derived.Test.YtgemacdnncjmdaaDoorRMeets
namespace Go.Proofs.YtgemacdnncjmdaaDoor
open Go.RowKit
set_option linter.unusedVariables false
set_option linter.unusedSimpArgs false

set_option maxRecDepth 100000 in
set_option maxHeartbeats 2000000 in
theorem params_bad (n B : Nat) (w : World) (t : Ty) (Af : Option Addr) (cf : Nat) (Al : Option Addr) (cl : Nat) (Ar : Option Addr) (cr : Nat) (hB : B ≤ w.heap.size) (hTab : Tabs w) (hT : TyR n B w (tyCells t.kind t.name t.con Af t.fields.length cf Al t.list.length cl Ar t.res.length cr) t) (hs : soundT t = false) :
    Calls Tryd.prog 27 #[.agg #[.int .i64 t.kind, .string t.name, .int .i64 t.con, .slice Af t.fields.length cf, .slice Al t.list.length cl, .slice Ar t.res.length cr]] w fun e w' => e = .returned (.tuple #[.slice none 0 0, .int .i64 1]) ∧ Chg (fun _ _ => False) w w' := by
  have hb1 := Blk.new w 33 #[.int .i64 t.kind, .string t.name, .int .i64 t.con, .slice Af t.fields.length cf, .slice Al t.list.length cl, .slice Ar t.res.length cr]
  have hc1 := chg_alloc w (.cells #[.int .i64 t.kind, .string t.name, .int .i64 t.con, .slice Af t.fields.length cf, .slice Al t.list.length cl, .slice Ar t.res.length cr] 33)
  have hso := check_any n B _ t Af cf Al cl Ar cr (Nat.le_trans hB hc1.size) (hTab.keep0 hc1) (TyR.keep0 hc1 hT)
  rw [hs] at hso
  have hT1 := TyR.keep0 hc1 hT
  rw [show errOf false = 1 from rfl] at hso
  have H := Lib.hid (And.intro hs hc1)
  clear hs hB hTab hT hT1 hc1
  go_enter Tryd.func27, Tryd.ntmps27
  go_wp2_with fail
  refine hso.mono fun e w2 h => ?_
  obtain ⟨rfl, hc2⟩ := h
  clear hso
  go_wp2_with fail
  go_ret2
  exact ⟨rfl, H.out.2.trans hc2⟩
set_option maxRecDepth 100000 in
set_option maxHeartbeats 4000000 in
theorem params_ok (n B : Nat) (w : World) (t : Ty) (Af : Option Addr) (cf : Nat) (Al : Option Addr) (cl : Nat) (Ar : Option Addr) (cr : Nat) (hB : B ≤ w.heap.size) (hTab : Tabs w) (hT : TyR n B w (tyCells t.kind t.name t.con Af t.fields.length cf Al t.list.length cl Ar t.res.length cr) t) (hs : soundT t = true) :
    Calls Tryd.prog 27 #[.agg #[.int .i64 t.kind, .string t.name, .int .i64 t.con, .slice Af t.fields.length cf, .slice Al t.list.length cl, .slice Ar t.res.length cr]] w fun e w' => ∃ A c, e = .returned (.tuple #[.slice A (holesT n t []).length c, .int .i64 0]) ∧ StrsR w'.heap.size w' (.slice A (holesT n t []).length c) (holesT n t []) ∧ Chg (fun _ _ => False) w w' := by
  have hst : ∀ (w' : World) (a : Addr) (f : Nat) (cs : Array Value), (store a (.func (.func f) #[] cs)).run Tryd.prog w' = stored Tryd.prog w' a (.func (.func f) #[] cs) .plain := fun w' a f cs => run_store Tryd.prog w' a _ .plain rfl
  have hb1 := Blk.new w 33 #[.int .i64 t.kind, .string t.name, .int .i64 t.con, .slice Af t.fields.length cf, .slice Al t.list.length cl, .slice Ar t.res.length cr]
  have hc1 := chg_alloc w (.cells #[.int .i64 t.kind, .string t.name, .int .i64 t.con, .slice Af t.fields.length cf, .slice Al t.list.length cl, .slice Ar t.res.length cr] 33)
  have hso := check_any n B _ t Af cf Al cl Ar cr (Nat.le_trans hB hc1.size) (hTab.keep0 hc1) (TyR.keep0 hc1 hT)
  rw [hs] at hso
  have hT1 := TyR.keep0 hc1 hT
  rw [show errOf true = 0 from rfl] at hso
  have H := Lib.hid (And.intro hs (And.intro hB (And.intro hT1 (And.intro hb1 hc1))))
  clear hs hB hTab hT hT1 hc1
  go_enter Tryd.func27, Tryd.ntmps27
  go_wp2_with fail
  refine hso.mono fun e W h => ?_
  obtain ⟨rfl, hc2⟩ := h
  clear hso
  have hB2 : B ≤ W.heap.size := Nat.le_trans H.out.2.1 (Nat.le_trans H.out.2.2.2.2.size hc2.size)
  have hbk := (((hc2.blk H.out.2.2.2.1 id).alloc (.cells #[.slice none 0 0] 22)).alloc (.cells #[(.func (.func 47) #[] #[.pointer (some ⟨W.heap.size, 0, none⟩), .pointer (some ⟨W.heap.size + 1, 0, none⟩)])] 79))
  have hbL := (Blk.new W 22 #[.slice none 0 0]).alloc (.cells #[(.func (.func 47) #[] #[.pointer (some ⟨W.heap.size, 0, none⟩), .pointer (some ⟨W.heap.size + 1, 0, none⟩)])] 79)
  have hbF := Blk.new (W.alloc (.cells #[.slice none 0 0] 22)) 79 #[(.func (.func 47) #[] #[.pointer (some ⟨W.heap.size, 0, none⟩), .pointer (some ⟨W.heap.size + 1, 0, none⟩)])]
  have hc3 := (chg_alloc W (.cells #[.slice none 0 0] 22)).alloc (.cells #[(.func (.func 47) #[] #[.pointer (some ⟨W.heap.size, 0, none⟩), .pointer (some ⟨W.heap.size + 1, 0, none⟩)])] 79)
  simp only [World.size_alloc] at hbF
  have hS : PaS W.heap.size W.heap.size (W.heap.size + 1) [] ((W.alloc (.cells #[.slice none 0 0] 22)).alloc (.cells #[(.func (.func 47) #[] #[.pointer (some ⟨W.heap.size, 0, none⟩), .pointer (some ⟨W.heap.size + 1, 0, none⟩)])] 79)) := ⟨hbF, none, 0, hbL, RowR.nil _ _ _ _ _⟩
  have f0 := hS.fn
  obtain ⟨c0, c1, c2, c3, c4, c5⟩ := hbk.cells6
  have hcall := params1_any n 9 W.heap.size W.heap.size (W.heap.size + 1) ((W.alloc (.cells #[.slice none 0 0] 22)).alloc (.cells #[(.func (.func 47) #[] #[.pointer (some ⟨W.heap.size, 0, none⟩), .pointer (some ⟨W.heap.size + 1, 0, none⟩)])] 79)) t Af cf Al cl Ar cr [] (by have := H.out.1; unfold soundT at this; exact this) (by have := nodesB_mono (f := 9) (by omega); simp only [List.length_nil]; omega) hc3.size (Nat.le_refl _) (TyR.keep0 hc3 (TyR.more hB2 (TyR.keep0 hc2 H.out.2.2.1))) hS
  have HC := Lib.hid ((H.out.2.2.2.2.trans hc2).trans hc3)
  have HW := Lib.hid (Nat.le_trans H.out.2.2.2.2.size hc2.size)
  have hcw := (hc2.blk H.out.2.2.2.1 id)
  obtain ⟨y0, y1, y2, y3, y4, y5⟩ := hcw.cells6
  clear hbk hbL hbF hc3 hS hc2 hB2 hcw hb1 H
  go_wp2_with fail
  refine hcall.mono fun e w6 h => ?_
  obtain ⟨rfl, ⟨_, A6, c6, hbL, hr⟩, hc6⟩ := h
  clear hcall c0 c1 c2 c3 c4 c5 f0
  have l0 : w6.cell? ⟨W.heap.size, 0, none⟩ = some (.slice A6 (holesT n t []).length c6) := by simpa using hbL.cell 0
  have HZ := Lib.hid (And.intro hr hc6)
  clear hr hc6 hbL
  go_wp2_with fail
  go_ret2
  refine ⟨A6, c6, rfl, HZ.out.1.settleT (by decide) fun _ _ h => h, ?_⟩
  exact HC.out.trans_new HZ.out.2 fun b t hb h => by
    have h3 := HW.out
    rcases h with h | h <;> (have := h.1; omega)

set_option maxRecDepth 100000 in
set_option maxHeartbeats 2000000 in
theorem fits_bad (n B : Nat) (w : World) (t : Ty) (Af : Option Addr) (cf : Nat) (Al : Option Addr) (cl : Nat) (Ar : Option Addr) (cr : Nat) (con : Int) (hB : B ≤ w.heap.size) (hTab : Tabs w) (hT : TyR n B w (tyCells t.kind t.name t.con Af t.fields.length cf Al t.list.length cl Ar t.res.length cr) t) (hs : soundT t = false) :
    Calls Tryd.prog 26 #[.agg #[.int .i64 t.kind, .string t.name, .int .i64 t.con, .slice Af t.fields.length cf, .slice Al t.list.length cl, .slice Ar t.res.length cr], .int .i64 con] w fun e w' => e = .returned (.tuple #[.bool false, .int .i64 1]) ∧ Chg (fun _ _ => False) w w' := by
  have hb1 := Blk.new w 33 #[.int .i64 t.kind, .string t.name, .int .i64 t.con, .slice Af t.fields.length cf, .slice Al t.list.length cl, .slice Ar t.res.length cr]
  have hc1 := chg_alloc w (.cells #[.int .i64 t.kind, .string t.name, .int .i64 t.con, .slice Af t.fields.length cf, .slice Al t.list.length cl, .slice Ar t.res.length cr] 33)
  have hso := sound_any n B _ t Af cf Al cl Ar cr (Nat.le_trans hB hc1.size) (hTab.keep0 hc1) (TyR.keep0 hc1 hT)
  rw [hs] at hso
  have hT1 := TyR.keep0 hc1 hT
  have H := Lib.hid (And.intro hs (And.intro hB (And.intro hT1 (And.intro hb1 hc1))))
  clear hs hB hTab hT hT1 hc1
  go_enter Tryd.func26, Tryd.ntmps26
  go_wp2_with fail
  refine hso.mono fun e w2 h => ?_
  obtain ⟨rfl, hc2⟩ := h
  clear hso
  go_wp2_with fail
  go_ret2
  exact ⟨rfl, H.out.2.2.2.2.trans hc2⟩
set_option maxRecDepth 100000 in
set_option maxHeartbeats 2000000 in
theorem fits_arg (n B : Nat) (w : World) (t : Ty) (Af : Option Addr) (cf : Nat) (Al : Option Addr) (cl : Nat) (Ar : Option Addr) (cr : Nat) (con : Int) (hB : B ≤ w.heap.size) (hTab : Tabs w) (hT : TyR n B w (tyCells t.kind t.name t.con Af t.fields.length cf Al t.list.length cl Ar t.res.length cr) t) (hs : soundT t = true) (hcon : con < 1 ∨ 3 < con) :
    Calls Tryd.prog 26 #[.agg #[.int .i64 t.kind, .string t.name, .int .i64 t.con, .slice Af t.fields.length cf, .slice Al t.list.length cl, .slice Ar t.res.length cr], .int .i64 con] w fun e w' => e = .returned (.tuple #[.bool false, .int .i64 2]) ∧ Chg (fun _ _ => False) w w' := by
  have hb1 := Blk.new w 33 #[.int .i64 t.kind, .string t.name, .int .i64 t.con, .slice Af t.fields.length cf, .slice Al t.list.length cl, .slice Ar t.res.length cr]
  have hc1 := chg_alloc w (.cells #[.int .i64 t.kind, .string t.name, .int .i64 t.con, .slice Af t.fields.length cf, .slice Al t.list.length cl, .slice Ar t.res.length cr] 33)
  have hso := sound_any n B _ t Af cf Al cl Ar cr (Nat.le_trans hB hc1.size) (hTab.keep0 hc1) (TyR.keep0 hc1 hT)
  rw [hs] at hso
  have hT1 := TyR.keep0 hc1 hT
  have H := Lib.hid (And.intro hs (And.intro hB (And.intro hT1 (And.intro hb1 hc1))))
  clear hs hB hTab hT hT1 hc1
  by_cases h1 : con < 1
  · have qa : decide (con < 1) = true := decide_eq_true h1
    clear hcon h1
    go_enter Tryd.func26, Tryd.ntmps26
    go_wp2_with fail
    refine hso.mono fun e w2 h => ?_
    obtain ⟨rfl, hc2⟩ := h
    clear hso hb1
    go_wp2_with fail
    go_ret2
    exact ⟨rfl, H.out.2.2.2.2.trans hc2⟩
  · have qa : decide (con < 1) = false := decide_eq_false h1
    have qb : decide (con > 3) = true := decide_eq_true (by omega)
    have qb' : decide (3 < con) = true := decide_eq_true (by omega)
    clear hcon h1
    go_enter Tryd.func26, Tryd.ntmps26
    go_wp2_with fail
    refine hso.mono fun e w2 h => ?_
    obtain ⟨rfl, hc2⟩ := h
    clear hso hb1
    go_wp2_with fail
    go_ret2
    exact ⟨rfl, H.out.2.2.2.2.trans hc2⟩
set_option maxRecDepth 100000 in
set_option maxHeartbeats 2000000 in
theorem fits_ok (n B : Nat) (w : World) (t : Ty) (Af : Option Addr) (cf : Nat) (Al : Option Addr) (cl : Nat) (Ar : Option Addr) (cr : Nat) (con : Int) (hB : B ≤ w.heap.size) (hTab : Tabs w) (hT : TyR n B w (tyCells t.kind t.name t.con Af t.fields.length cf Al t.list.length cl Ar t.res.length cr) t) (hs : soundT t = true) (hcon : con = 1 ∨ con = 2 ∨ con = 3) :
    Calls Tryd.prog 26 #[.agg #[.int .i64 t.kind, .string t.name, .int .i64 t.con, .slice Af t.fields.length cf, .slice Al t.list.length cl, .slice Ar t.res.length cr], .int .i64 con] w fun e w' => e = .returned (.tuple #[.bool (meetsT t con), .int .i64 0]) ∧ Chg (fun _ _ => False) w w' := by
  have hb1 := Blk.new w 33 #[.int .i64 t.kind, .string t.name, .int .i64 t.con, .slice Af t.fields.length cf, .slice Al t.list.length cl, .slice Ar t.res.length cr]
  have hc1 := chg_alloc w (.cells #[.int .i64 t.kind, .string t.name, .int .i64 t.con, .slice Af t.fields.length cf, .slice Al t.list.length cl, .slice Ar t.res.length cr] 33)
  have hso := sound_any n B _ t Af cf Al cl Ar cr (Nat.le_trans hB hc1.size) (hTab.keep0 hc1) (TyR.keep0 hc1 hT)
  rw [hs] at hso
  have hT1 := TyR.keep0 hc1 hT
  have H := Lib.hid (And.intro hs (And.intro hB (And.intro hT1 (And.intro hb1 hc1))))
  clear hs hB hTab hT hT1 hc1
  rcases hcon with rfl | rfl | rfl
  · go_enter Tryd.func26, Tryd.ntmps26
    go_wp2_with fail
    refine hso.mono fun e w2 h => ?_
    obtain ⟨rfl, hc2⟩ := h
    obtain ⟨y0, y1, y2, y3, y4, y5⟩ := (hc2.blk H.out.2.2.2.1 id).cells6
    have hm := tmeets_any n B w2 t Af cf Al cl Ar cr 1 (Nat.le_trans H.out.2.1 (Nat.le_trans H.out.2.2.2.2.size hc2.size)) (TyR.keep0 hc2 H.out.2.2.1) H.out.1 (by decide)
    have HC := Lib.hid (H.out.2.2.2.2.trans hc2)
    clear hso hc2 hb1
    go_wp2_with fail
    refine hm.mono fun e w3 h => ?_
    obtain ⟨rfl, hc3⟩ := h
    clear hm y0 y1 y2 y3 y4 y5
    go_wp2_with fail
    go_ret2
    exact ⟨rfl, HC.out.trans hc3⟩
  · go_enter Tryd.func26, Tryd.ntmps26
    go_wp2_with fail
    refine hso.mono fun e w2 h => ?_
    obtain ⟨rfl, hc2⟩ := h
    obtain ⟨y0, y1, y2, y3, y4, y5⟩ := (hc2.blk H.out.2.2.2.1 id).cells6
    have hm := tmeets_any n B w2 t Af cf Al cl Ar cr 2 (Nat.le_trans H.out.2.1 (Nat.le_trans H.out.2.2.2.2.size hc2.size)) (TyR.keep0 hc2 H.out.2.2.1) H.out.1 (by decide)
    have HC := Lib.hid (H.out.2.2.2.2.trans hc2)
    clear hso hc2 hb1
    go_wp2_with fail
    refine hm.mono fun e w3 h => ?_
    obtain ⟨rfl, hc3⟩ := h
    clear hm y0 y1 y2 y3 y4 y5
    go_wp2_with fail
    go_ret2
    exact ⟨rfl, HC.out.trans hc3⟩
  · go_enter Tryd.func26, Tryd.ntmps26
    go_wp2_with fail
    refine hso.mono fun e w2 h => ?_
    obtain ⟨rfl, hc2⟩ := h
    obtain ⟨y0, y1, y2, y3, y4, y5⟩ := (hc2.blk H.out.2.2.2.1 id).cells6
    have hm := tmeets_any n B w2 t Af cf Al cl Ar cr 3 (Nat.le_trans H.out.2.1 (Nat.le_trans H.out.2.2.2.2.size hc2.size)) (TyR.keep0 hc2 H.out.2.2.1) H.out.1 (by decide)
    have HC := Lib.hid (H.out.2.2.2.2.trans hc2)
    clear hso hc2 hb1
    go_wp2_with fail
    refine hm.mono fun e w3 h => ?_
    obtain ⟨rfl, hc3⟩ := h
    clear hm y0 y1 y2 y3 y4 y5
    go_wp2_with fail
    go_ret2
    exact ⟨rfl, HC.out.trans hc3⟩
def textRel (l : List ByteArray) (W : World) (i : Value) (wr : World) : Prop := ∃ k : Nat, k ≤ l.length ∧ i = .int .i64 k ∧ Chg (fun _ _ => False) W wr
set_option maxRecDepth 100000 in
set_option maxHeartbeats 2000000 in
/-- Two slices that read as the same texts are said to be the same. -/
theorem texts_any (B : Nat) (w : World) (l : List ByteArray) (A : Option Addr) (c : Nat) (A' : Option Addr) (c' : Nat) (hl : StrsR B w (.slice A l.length c) l) (hr : StrsR B w (.slice A' l.length c') l) (hl20 : l.length ≤ 549755813888) :
    Calls Tryd.prog 29 #[.slice A l.length c, .slice A' l.length c'] w fun e w' => e = .returned (.bool true) ∧ Chg (fun _ _ => False) w w' := by
  have HP := Lib.hid (And.intro hl hr)
  clear hl hr
  go_enter Tryd.func29, Tryd.ntmps29
  go_wp2_with fail
  go_loopw [5] (fun i wr => textRel l w i wr) (fun i _ => l.length - (intOf i).toNat)
  case atStart => exact ⟨0, Nat.zero_le _, rfl, Chg.refl _ _⟩
  case round =>
    obtain ⟨k, hk, rfl, hch⟩ := hrel
    have q3 : IntKind.i64.wrap ((k : Int) + 1) = (k : Int) + 1 := IntWalk.i64_in _ ⟨by omega, by omega⟩
    by_cases hlt : k < l.length
    · have q1 : decide (k < l.length) = true := decide_eq_true hlt
      have q1' : decide ((k : Int) < (l.length : Int)) = true := decide_eq_true (by omega)
      have q2 : (k : Int) < (l.length : Int) := by omega
      obtain ⟨b, o, x, cs, rfl, hkx, _, ⟨rfl, hxs⟩, hcell⟩ := SlR.at2 (SlR.keep HP.out.1 hch (no_lets _ _) fun _ _ h => h) hlt
      obtain ⟨b', o', x', cs', rfl, hkx', _, ⟨rfl, hxs'⟩, hcell'⟩ := SlR.at2 (SlR.keep HP.out.2 hch (no_lets _ _) fun _ _ h => h) hlt
      obtain rfl : x = x' := Option.some.inj (hkx.symm.trans hkx')
      have z0 : wr.cell? ⟨b, o + k, none⟩ = some (.string x) := by simpa using hcell 0 _ rfl
      have z1 : wr.cell? ⟨b', o' + k, none⟩ = some (.string x) := by simpa using hcell' 0 _ rfl
      have q5 := str_eq (rfl : x = x)
      have hkk : (0 : Int) ≤ (k : Int) := by omega
      have HX := Lib.hid hch
      clear hkx hkx' hch hcell hcell' hxs hxs'
      go_wp2_with fail
      go_quiet (fail)
      go_wp2_with fail
      go_roundw
      case rel => exact ⟨k + 1, hlt, by simp, by repeat' (first | exact HX.out | apply Chg.drew | apply Chg.drewN)⟩
      case measure => simp [intOf]; omega
    · have q1 : decide (k < l.length) = false := decide_eq_false hlt
      have q1' : decide ((k : Int) < (l.length : Int)) = false := decide_eq_false (by omega)
      obtain rfl : k = l.length := by omega
      have HX := Lib.hid hch
      clear hch
      go_wp2_with fail
      go_ret
      exact ⟨rfl, HX.out⟩
end Go.Proofs.YtgemacdnncjmdaaDoor
