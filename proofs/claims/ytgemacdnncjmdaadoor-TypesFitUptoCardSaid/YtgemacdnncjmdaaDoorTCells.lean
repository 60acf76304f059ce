/-
  types.Cells, types.Depth.
-/
import Derived.Test.YtgemacdnncjmdaaDoorTFill4
namespace Go.Proofs.YtgemacdnncjmdaaDoor
open Go.RowKit
set_option linter.unusedVariables false
set_option linter.unusedSimpArgs false

def cellsT (t : Ty) : Int := match lookT 9 t with | some p => p.2 | none => 0
def depthT (t : Ty) : Int := match lookT 9 t with | some p => p.1 | none => 0
set_option maxRecDepth 100000 in
set_option maxHeartbeats 1000000 in
theorem cells_any (n B : Nat) (w : World) (t : Ty) (Af : Option Addr) (cf : Nat) (Al : Option Addr) (cl : Nat) (Ar : Option Addr) (cr : Nat) (hB : B ≤ w.heap.size) (hTab : Tabs w)
    (hT : TyR n B w (tyCells t.kind t.name t.con Af t.fields.length cf Al t.list.length cl Ar t.res.length cr) t) :
    Calls Tryd.prog 21 #[.agg #[.int .i64 t.kind, .string t.name, .int .i64 t.con, .slice Af t.fields.length cf, .slice Al t.list.length cl, .slice Ar t.res.length cr]] w fun e w' => e = .returned (.tuple #[.int .i64 (cellsT t), .int .i64 (errOf (soundT t))]) ∧ Chg (fun _ _ => False) w w' := by
  have hc1 := chg_alloc w (.cells #[.int .i64 t.kind, .string t.name, .int .i64 t.con, .slice Af t.fields.length cf, .slice Al t.list.length cl, .slice Ar t.res.length cr] 33)
  have hm := measure_any 9 (by omega) n B _ t Af cf Al cl Ar cr (Nat.le_trans hB hc1.size) (hTab.keep0 hc1) (TyR.keep0 hc1 hT) 0 rfl
  clear hB hTab hT
  go_enter Tryd.func21, Tryd.ntmps21
  go_wp2_with fail
  refine hm.mono fun e w1 h => ?_
  clear hm
  obtain ⟨d, c, he, hdc, hc2⟩ := h
  have HC := Lib.hid (hc1.trans hc2)
  clear hc1 hc2
  cases hl : lookT 9 t with
  | none =>
    rw [hl] at he
    subst he
    have HV := Lib.hid (show cellsT t = 0 ∧ soundT t = false from ⟨by unfold cellsT; rw [hl], by unfold soundT; rw [hl]; rfl⟩)
    clear hl hdc
    go_wp2_with fail
    go_ret2
    refine ⟨?_, HC.out⟩
    rw [HV.out.1, HV.out.2]
    rfl
  | some p =>
    rw [hl] at he
    subst he
    have HV := Lib.hid (show cellsT t = c ∧ soundT t = true from ⟨by unfold cellsT; rw [hl]; exact (hdc p hl).2.symm, by unfold soundT; rw [hl]; rfl⟩)
    clear hl hdc
    go_wp2_with fail
    go_ret2
    refine ⟨?_, HC.out⟩
    rw [HV.out.1, HV.out.2]
    rfl
set_option maxRecDepth 100000 in
set_option maxHeartbeats 1000000 in
theorem depth_any (n B : Nat) (w : World) (t : Ty) (Af : Option Addr) (cf : Nat) (Al : Option Addr) (cl : Nat) (Ar : Option Addr) (cr : Nat) (hB : B ≤ w.heap.size) (hTab : Tabs w)
    (hT : TyR n B w (tyCells t.kind t.name t.con Af t.fields.length cf Al t.list.length cl Ar t.res.length cr) t) :
    Calls Tryd.prog 22 #[.agg #[.int .i64 t.kind, .string t.name, .int .i64 t.con, .slice Af t.fields.length cf, .slice Al t.list.length cl, .slice Ar t.res.length cr]] w fun e w' => e = .returned (.tuple #[.int .i64 (depthT t), .int .i64 (errOf (soundT t))]) ∧ Chg (fun _ _ => False) w w' := by
  have hc1 := chg_alloc w (.cells #[.int .i64 t.kind, .string t.name, .int .i64 t.con, .slice Af t.fields.length cf, .slice Al t.list.length cl, .slice Ar t.res.length cr] 33)
  have hm := measure_any 9 (by omega) n B _ t Af cf Al cl Ar cr (Nat.le_trans hB hc1.size) (hTab.keep0 hc1) (TyR.keep0 hc1 hT) 0 rfl
  clear hB hTab hT
  go_enter Tryd.func22, Tryd.ntmps22
  go_wp2_with fail
  refine hm.mono fun e w1 h => ?_
  clear hm
  obtain ⟨d, c, he, hdc, hc2⟩ := h
  have HC := Lib.hid (hc1.trans hc2)
  clear hc1 hc2
  cases hl : lookT 9 t with
  | none =>
    rw [hl] at he
    subst he
    have HV := Lib.hid (show depthT t = 0 ∧ soundT t = false from ⟨by unfold depthT; rw [hl], by unfold soundT; rw [hl]; rfl⟩)
    clear hl hdc
    go_wp2_with fail
    go_ret2
    refine ⟨?_, HC.out⟩
    rw [HV.out.1, HV.out.2]
    rfl
  | some p =>
    rw [hl] at he
    subst he
    have HV := Lib.hid (show depthT t = d ∧ soundT t = true from ⟨by unfold depthT; rw [hl]; exact (hdc p hl).1.symm, by unfold soundT; rw [hl]; rfl⟩)
    clear hl hdc
    go_wp2_with fail
    go_ret2
    refine ⟨?_, HC.out⟩
    rw [HV.out.1, HV.out.2]
    rfl
end Go.Proofs.YtgemacdnncjmdaaDoor
