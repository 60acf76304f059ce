/-
  The walk of TreeSame.
-/
import Derived.Test.YtgaodjoddfjfmaaDoorNAns
import Derived.Test.YtgaodjoddfjfmaaDoorNSame
import Derived.Deep.RegionHeld3
namespace Go.Proofs.YtgaodjoddfjfmaaDoor
open Go.RowKit
set_option linter.unusedVariables false
set_option linter.unusedSimpArgs false

theorem nd_next {n : Nat} {w1 w2 : World} {cs : List Value} {t : Nd} (h : NdR n w1.heap.size w1 cs t) (hc : Chg (fun _ _ => False) w1 w2) : NdR n w2.heap.size w2 cs t := NdR.more hc.size (NdR.keep0 hc h)
theorem heldSame_next {w0 w1 w2 : World} {g1 g2 : Nat} {v0 v1 v2 v3 v4 v5 v6 v7 v8 v9 : Value} (k : w1.cell? ⟨g1, 0, none⟩ = some v0 ∧ w1.cell? ⟨g1, 1, none⟩ = some v1 ∧ w1.cell? ⟨g1, 2, none⟩ = some v2 ∧ w1.cell? ⟨g1, 3, none⟩ = some v3 ∧ w1.cell? ⟨g1, 4, none⟩ = some v4 ∧ w1.cell? ⟨g2, 0, none⟩ = some v5 ∧ w1.cell? ⟨g2, 1, none⟩ = some v6 ∧ w1.cell? ⟨g2, 2, none⟩ = some v7 ∧ w1.cell? ⟨g2, 3, none⟩ = some v8 ∧ w1.cell? ⟨g2, 4, none⟩ = some v9 ∧ Chg (fun _ _ => False) w0 w1) (hc : Chg (fun _ _ => False) w1 w2) :
    w2.cell? ⟨g1, 0, none⟩ = some v0 ∧ w2.cell? ⟨g1, 1, none⟩ = some v1 ∧ w2.cell? ⟨g1, 2, none⟩ = some v2 ∧ w2.cell? ⟨g1, 3, none⟩ = some v3 ∧ w2.cell? ⟨g1, 4, none⟩ = some v4 ∧ w2.cell? ⟨g2, 0, none⟩ = some v5 ∧ w2.cell? ⟨g2, 1, none⟩ = some v6 ∧ w2.cell? ⟨g2, 2, none⟩ = some v7 ∧ w2.cell? ⟨g2, 3, none⟩ = some v8 ∧ w2.cell? ⟨g2, 4, none⟩ = some v9 ∧ Chg (fun _ _ => False) w0 w2 :=
  ⟨hc.cell k.1 fun _ h => h, hc.cell k.2.1 fun _ h => h, hc.cell k.2.2.1 fun _ h => h, hc.cell k.2.2.2.1 fun _ h => h, hc.cell k.2.2.2.2.1 fun _ h => h, hc.cell k.2.2.2.2.2.1 fun _ h => h, hc.cell k.2.2.2.2.2.2.1 fun _ h => h, hc.cell k.2.2.2.2.2.2.2.1 fun _ h => h, hc.cell k.2.2.2.2.2.2.2.2.1 fun _ h => h, hc.cell k.2.2.2.2.2.2.2.2.2.1 fun _ h => h, k.2.2.2.2.2.2.2.2.2.2.trans hc⟩
theorem heldSame_chg {w0 w1 : World} {g1 g2 : Nat} {v0 v1 v2 v3 v4 v5 v6 v7 v8 v9 : Value} (k : w1.cell? ⟨g1, 0, none⟩ = some v0 ∧ w1.cell? ⟨g1, 1, none⟩ = some v1 ∧ w1.cell? ⟨g1, 2, none⟩ = some v2 ∧ w1.cell? ⟨g1, 3, none⟩ = some v3 ∧ w1.cell? ⟨g1, 4, none⟩ = some v4 ∧ w1.cell? ⟨g2, 0, none⟩ = some v5 ∧ w1.cell? ⟨g2, 1, none⟩ = some v6 ∧ w1.cell? ⟨g2, 2, none⟩ = some v7 ∧ w1.cell? ⟨g2, 3, none⟩ = some v8 ∧ w1.cell? ⟨g2, 4, none⟩ = some v9 ∧ Chg (fun _ _ => False) w0 w1) : Chg (fun _ _ => False) w0 w1 := k.2.2.2.2.2.2.2.2.2.2
set_option maxRecDepth 100000 in
set_option maxHeartbeats 4000000 in
theorem treeSame_walk (n B : Nat) (w : World) (a b : Nd) (A : Option Addr) (c : Nat) (A2 : Option Addr) (c2 : Nat) (hB : B ≤ w.heap.size) (hT : NdR n B w (ndCells a.kind a.text a.n a.at_ A a.list.length c) a) (hU : NdR n B w (ndCells b.kind b.text b.n b.at_ A2 b.list.length c2) b) :
    Calls Tryd.prog 3 #[.agg #[.int .i64 a.kind, .string a.text, .int .u64 a.n, .int .i64 a.at_, .slice A a.list.length c], .agg #[.int .i64 b.kind, .string b.text, .int .u64 b.n, .int .i64 b.at_, .slice A2 b.list.length c2]] w fun e w' => e = .returned (.bool true) ∧ Chg (fun _ _ => False) w w' := by
  have hb1 := (Blk.new w 25 #[.int .i64 a.kind, .string a.text, .int .u64 a.n, .int .i64 a.at_, .slice A a.list.length c]).alloc (.cells #[.int .i64 b.kind, .string b.text, .int .u64 b.n, .int .i64 b.at_, .slice A2 b.list.length c2] 25)
  have hb2 := Blk.new (w.alloc (.cells #[.int .i64 a.kind, .string a.text, .int .u64 a.n, .int .i64 a.at_, .slice A a.list.length c] 25)) 25 #[.int .i64 b.kind, .string b.text, .int .u64 b.n, .int .i64 b.at_, .slice A2 b.list.length c2]
  have hc1 := (chg_alloc w (.cells #[.int .i64 a.kind, .string a.text, .int .u64 a.n, .int .i64 a.at_, .slice A a.list.length c] 25)).alloc (.cells #[.int .i64 b.kind, .string b.text, .int .u64 b.n, .int .i64 b.at_, .slice A2 b.list.length c2] 25)
  simp only [World.size_alloc] at hb2
  have HP := Lib.hid (And.intro hB (And.intro hT hU))
  clear hB hT hU
  go_enter Tryd.func3, Tryd.ntmps3
  go_wp2_with fail
  generalize (w.alloc (.cells #[.int .i64 a.kind, .string a.text, .int .u64 a.n, .int .i64 a.at_, .slice A a.list.length c] 25)).alloc (.cells #[.int .i64 b.kind, .string b.text, .int .u64 b.n, .int .i64 b.at_, .slice A2 b.list.length c2] 25) = W at hb1 hb2 hc1 ⊢
  generalize w.heap.size + 1 = g2 at hb2 ⊢
  generalize w.heap.size = g1 at hb1 ⊢
  obtain ⟨c0, c1, c2', c3, c4⟩ := hb1.cells5
  obtain ⟨d0, d1, d2, d3, d4⟩ := hb2.cells5
  have H1 := Lib.hid hc1
  have hK : W.cell? ⟨g1, 0, none⟩ = some (.int .i64 a.kind) ∧ W.cell? ⟨g1, 1, none⟩ = some (.string a.text) ∧ W.cell? ⟨g1, 2, none⟩ = some (.int .u64 a.n) ∧ W.cell? ⟨g1, 3, none⟩ = some (.int .i64 a.at_) ∧ W.cell? ⟨g1, 4, none⟩ = some (.slice A a.list.length c) ∧ W.cell? ⟨g2, 0, none⟩ = some (.int .i64 b.kind) ∧ W.cell? ⟨g2, 1, none⟩ = some (.string b.text) ∧ W.cell? ⟨g2, 2, none⟩ = some (.int .u64 b.n) ∧ W.cell? ⟨g2, 3, none⟩ = some (.int .i64 b.at_) ∧ W.cell? ⟨g2, 4, none⟩ = some (.slice A2 b.list.length c2) ∧ Chg (fun _ _ => False) W W := ⟨c0, c1, c2', c3, c4, d0, d1, d2, d3, d4, Chg.refl _ _⟩
  have hKd := heldSame_next hK ((Chg.refl (fun _ _ => False) W).drew)
  clear hb1 hc1 hb2 hK
  go_region_held3 (fun w' => w'.cell? ⟨g1, 0, none⟩ = some (.int .i64 a.kind) ∧ w'.cell? ⟨g1, 1, none⟩ = some (.string a.text) ∧ w'.cell? ⟨g1, 2, none⟩ = some (.int .u64 a.n) ∧ w'.cell? ⟨g1, 3, none⟩ = some (.int .i64 a.at_) ∧ w'.cell? ⟨g1, 4, none⟩ = some (.slice A a.list.length c) ∧ w'.cell? ⟨g2, 0, none⟩ = some (.int .i64 b.kind) ∧ w'.cell? ⟨g2, 1, none⟩ = some (.string b.text) ∧ w'.cell? ⟨g2, 2, none⟩ = some (.int .u64 b.n) ∧ w'.cell? ⟨g2, 3, none⟩ = some (.int .i64 b.at_) ∧ w'.cell? ⟨g2, 4, none⟩ = some (.slice A2 b.list.length c2) ∧ Chg (fun _ _ => False) W w')
    (assumption)
    (first
      | (go_at_call 11
         refine (answers4_any _).mono ?_
         rintro e w' ⟨rfl, hb⟩
         have hS := heldSame_next (by assumption) hb
         clear hb)
      | (go_at_call 12
         refine (nsame_any n _ _ _ _ _ _ _ _ (Nat.le_refl _) (by assumption) (by assumption)).mono ?_
         rintro e w' ⟨rfl, hb⟩
         have hS := heldSame_next (by assumption) hb
         clear hb)
      | (go_at_call 14
         refine (rnsame_any n B _ a b A c A2 c2 (by exact Nat.le_trans HP.out.1 (H1.out.trans (heldSame_chg (by assumption))).size) (NdR.keep0 (H1.out.trans (heldSame_chg (by assumption))) HP.out.2.1) (NdR.keep0 (H1.out.trans (heldSame_chg (by assumption))) HP.out.2.2)).mono ?_
         rintro e w' ⟨rfl, hb⟩
         have hS := heldSame_next (by assumption) hb
         clear hb)
      | (go_at_call_of 13 (Value.agg #[.int .i64 a.kind, .string a.text, .int .u64 a.n, .int .i64 a.at_, .slice A a.list.length c])
         refine (own_any n B _ a A c (by exact Nat.le_trans HP.out.1 (H1.out.trans (heldSame_chg (by assumption))).size) (NdR.keep0 (H1.out.trans (heldSame_chg (by assumption))) HP.out.2.1)).mono ?_
         rintro e w' ⟨A7, c7, rfl, hN, hb⟩
         have hv := hN.ndR
         have hS := heldSame_next (by assumption) hb
         try have hk := nd_next (by assumption) hb
         clear hb hN)
      | (go_at_call_of 13 (Value.agg #[.int .i64 b.kind, .string b.text, .int .u64 b.n, .int .i64 b.at_, .slice A2 b.list.length c2])
         refine (own_any n B _ b A2 c2 (by exact Nat.le_trans HP.out.1 (H1.out.trans (heldSame_chg (by assumption))).size) (NdR.keep0 (H1.out.trans (heldSame_chg (by assumption))) HP.out.2.2)).mono ?_
         rintro e w' ⟨A7, c7, rfl, hN, hb⟩
         have hv := hN.ndR
         have hS := heldSame_next (by assumption) hb
         try have hk := nd_next (by assumption) hb
         clear hb hN))
  have hS := H1.out.trans (heldSame_chg (by assumption))
  have hcm := eqB_comm b.strip a.strip
  clear c0 c1 c2' c3 c4 d0 d1 d2 d3 d4
  have hcm' : sameN b a = sameN a b := hcm
  go_wp2_with fail
  go_ret
  exact ⟨by simp [hcm'], hS⟩
end Go.Proofs.YtgaodjoddfjfmaaDoor
