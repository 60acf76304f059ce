/-
  The walk of TreeSizes.
-/
import Derived.Test.YtgaodjoddfjfmaaDoorNAns
import Derived.Test.YtgaodjoddfjfmaaDoorNSame
import Derived.Deep.RegionHeld3
namespace Go.Proofs.YtgaodjoddfjfmaaDoor
open Go.RowKit
set_option linter.unusedVariables false
set_option linter.unusedSimpArgs false

theorem nd_next {n : Nat} {w1 w2 : World} {cs : List Value} {t : Nd} (h : NdR n w1.heap.size w1 cs t) (hc : Chg (fun _ _ => False) w1 w2) : NdR n w2.heap.size w2 cs t := NdR.more hc.size (NdR.keep0 hc h)
theorem heldSizes_next {w0 w1 w2 : World} {g1 : Nat} {v0 v1 v2 v3 v4 : Value} (k : w1.cell? ⟨g1, 0, none⟩ = some v0 ∧ w1.cell? ⟨g1, 1, none⟩ = some v1 ∧ w1.cell? ⟨g1, 2, none⟩ = some v2 ∧ w1.cell? ⟨g1, 3, none⟩ = some v3 ∧ w1.cell? ⟨g1, 4, none⟩ = some v4 ∧ Chg (fun _ _ => False) w0 w1) (hc : Chg (fun _ _ => False) w1 w2) :
    w2.cell? ⟨g1, 0, none⟩ = some v0 ∧ w2.cell? ⟨g1, 1, none⟩ = some v1 ∧ w2.cell? ⟨g1, 2, none⟩ = some v2 ∧ w2.cell? ⟨g1, 3, none⟩ = some v3 ∧ w2.cell? ⟨g1, 4, none⟩ = some v4 ∧ Chg (fun _ _ => False) w0 w2 :=
  ⟨hc.cell k.1 fun _ h => h, hc.cell k.2.1 fun _ h => h, hc.cell k.2.2.1 fun _ h => h, hc.cell k.2.2.2.1 fun _ h => h, hc.cell k.2.2.2.2.1 fun _ h => h, k.2.2.2.2.2.trans hc⟩
theorem heldSizes_chg {w0 w1 : World} {g1 : Nat} {v0 v1 v2 v3 v4 : Value} (k : w1.cell? ⟨g1, 0, none⟩ = some v0 ∧ w1.cell? ⟨g1, 1, none⟩ = some v1 ∧ w1.cell? ⟨g1, 2, none⟩ = some v2 ∧ w1.cell? ⟨g1, 3, none⟩ = some v3 ∧ w1.cell? ⟨g1, 4, none⟩ = some v4 ∧ Chg (fun _ _ => False) w0 w1) : Chg (fun _ _ => False) w0 w1 := k.2.2.2.2.2
set_option maxRecDepth 100000 in
set_option maxHeartbeats 4000000 in
theorem treeSizes_walk (n B : Nat) (w : World) (t : Nd) (A : Option Addr) (c : Nat) (hB : B ≤ w.heap.size) (hT : NdR n B w (ndCells t.kind t.text t.n t.at_ A t.list.length c) t) (hs : t.size ≤ 1048576) :
    Calls Tryd.prog 6 #[.agg #[.int .i64 t.kind, .string t.text, .int .u64 t.n, .int .i64 t.at_, .slice A t.list.length c]] w fun e w' => e = .returned (.bool true) ∧ Chg (fun _ _ => False) w w' := by
  have hb1 := Blk.new w 25 #[.int .i64 t.kind, .string t.text, .int .u64 t.n, .int .i64 t.at_, .slice A t.list.length c]
  have hc1 := chg_alloc w (.cells #[.int .i64 t.kind, .string t.text, .int .u64 t.n, .int .i64 t.at_, .slice A t.list.length c] 25)
  have HP := Lib.hid (And.intro hB (And.intro hT hs))
  clear hB hT hs
  go_enter Tryd.func6, Tryd.ntmps6
  go_wp2_with fail
  generalize w.alloc (.cells #[.int .i64 t.kind, .string t.text, .int .u64 t.n, .int .i64 t.at_, .slice A t.list.length c] 25) = W at hb1 hc1 ⊢
  generalize w.heap.size = g1 at hb1 ⊢
  obtain ⟨c0, c1, c2, c3, c4⟩ := hb1.cells5
  have H1 := Lib.hid hc1
  have hK : W.cell? ⟨g1, 0, none⟩ = some (.int .i64 t.kind) ∧ W.cell? ⟨g1, 1, none⟩ = some (.string t.text) ∧ W.cell? ⟨g1, 2, none⟩ = some (.int .u64 t.n) ∧ W.cell? ⟨g1, 3, none⟩ = some (.int .i64 t.at_) ∧ W.cell? ⟨g1, 4, none⟩ = some (.slice A t.list.length c) ∧ Chg (fun _ _ => False) W W := ⟨c0, c1, c2, c3, c4, Chg.refl _ _⟩
  have hKd := heldSizes_next hK ((Chg.refl (fun _ _ => False) W).drew)
  clear hb1 hc1  hK
  go_region_held3 (fun w' => w'.cell? ⟨g1, 0, none⟩ = some (.int .i64 t.kind) ∧ w'.cell? ⟨g1, 1, none⟩ = some (.string t.text) ∧ w'.cell? ⟨g1, 2, none⟩ = some (.int .u64 t.n) ∧ w'.cell? ⟨g1, 3, none⟩ = some (.int .i64 t.at_) ∧ w'.cell? ⟨g1, 4, none⟩ = some (.slice A t.list.length c) ∧ Chg (fun _ _ => False) W w')
    (assumption)
    (first
      | (go_at_call 11
         refine (answers4_any _).mono ?_
         rintro e w' ⟨rfl, hb⟩
         have hS := heldSizes_next (by assumption) hb
         clear hb)
      | (go_at_call 13
         refine (own_any n B _ t A c (by exact Nat.le_trans HP.out.1 (H1.out.trans (heldSizes_chg (by assumption))).size) (NdR.keep0 (H1.out.trans (heldSizes_chg (by assumption))) HP.out.2.1)).mono ?_
         rintro e w' ⟨A7, c7, rfl, hN, hb⟩
         have hv := hN.ndR
         have hS := heldSizes_next (by assumption) hb
         clear hb hN)
      | (go_at_call 18
         refine (nsize_any n _ _ t _ _ (Nat.le_refl _) (by assumption) HP.out.2.2).mono ?_
         rintro e w' ⟨rfl, hb⟩
         have hS := heldSizes_next (by assumption) hb
         clear hb)
      | (go_at_call 20
         refine (ndepth_any n _ _ t _ _ (Nat.le_refl _) (by assumption) HP.out.2.2).mono ?_
         rintro e w' ⟨rfl, hb⟩
         have hS := heldSizes_next (by assumption) hb
         clear hb)
      | (go_at_call 19
         refine (rnsize_any n B _ t A c (by exact Nat.le_trans HP.out.1 (H1.out.trans (heldSizes_chg (by assumption))).size) (NdR.keep0 (H1.out.trans (heldSizes_chg (by assumption))) HP.out.2.1) HP.out.2.2).mono ?_
         rintro e w' ⟨rfl, hb⟩
         have hS := heldSizes_next (by assumption) hb
         clear hb)
      | (go_at_call 21
         refine (rndepth_any n B _ t A c (by exact Nat.le_trans HP.out.1 (H1.out.trans (heldSizes_chg (by assumption))).size) (NdR.keep0 (H1.out.trans (heldSizes_chg (by assumption))) HP.out.2.1) HP.out.2.2).mono ?_
         rintro e w' ⟨rfl, hb⟩
         have hS := heldSizes_next (by assumption) hb
         clear hb))
  have hS := H1.out.trans (heldSizes_chg (by assumption))
  clear c0 c1 c2 c3 c4
  go_wp2_with fail
  go_ret
  exact ⟨by simp, hS⟩
end Go.Proofs.YtgaodjoddfjfmaaDoor
