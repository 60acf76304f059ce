/-
  The reference's Exact: one tree, lying twice, is exactly itself.
-/
import Derived.Test.YtgaodjoddfjfmaaDoorNSame
namespace Go.Proofs.YtgaodjoddfjfmaaDoor
open Go.RowKit
set_option linter.unusedVariables false
set_option linter.unusedSimpArgs false

def exactC (n : Nat) : Prop := ∀ (B : Nat) (w : World) (t : Nd) (A : Option Addr) (c : Nat) (A2 : Option Addr) (c2 : Nat), B ≤ w.heap.size → NdR n B w (ndCells t.kind t.text t.n t.at_ A t.list.length c) t → NdR n B w (ndCells t.kind t.text t.n t.at_ A2 t.list.length c2) t →
    Calls Tryd.prog 26 #[.agg #[.int .i64 t.kind, .string t.text, .int .u64 t.n, .int .i64 t.at_, .slice A t.list.length c], .agg #[.int .i64 t.kind, .string t.text, .int .u64 t.n, .int .i64 t.at_, .slice A2 t.list.length c2]] w fun e w' => e = .returned (.bool true) ∧ Chg (fun _ _ => False) w w'
def exRel (n : Nat) (W : World) (i : Value) (wr : World) : Prop := ∃ k : Nat, k ≤ n ∧ i = .int .i64 k ∧ Chg (fun _ _ => False) W wr
set_option maxRecDepth 100000 in
set_option maxHeartbeats 4000000 in
theorem exact_step (n : Nat) (IH : exactC n) : exactC (n + 1) := by
  intro B w t A c A2 c2 hB hA hC
  obtain ⟨hsm, hLa⟩ := NdR.open_ hA
  obtain ⟨_, hLb⟩ := NdR.open_ hC
  have hll : t.list.length ≤ 1048576 := hsm.2.2.2.2
  have hb1 := (Blk.new w 25 #[.int .i64 t.kind, .string t.text, .int .u64 t.n, .int .i64 t.at_, .slice A t.list.length c]).alloc (.cells #[.int .i64 t.kind, .string t.text, .int .u64 t.n, .int .i64 t.at_, .slice A2 t.list.length c2] 25)
  have hb2 := Blk.new (w.alloc (.cells #[.int .i64 t.kind, .string t.text, .int .u64 t.n, .int .i64 t.at_, .slice A t.list.length c] 25)) 25 #[.int .i64 t.kind, .string t.text, .int .u64 t.n, .int .i64 t.at_, .slice A2 t.list.length c2]
  have hc1 := (chg_alloc w (.cells #[.int .i64 t.kind, .string t.text, .int .u64 t.n, .int .i64 t.at_, .slice A t.list.length c] 25)).alloc (.cells #[.int .i64 t.kind, .string t.text, .int .u64 t.n, .int .i64 t.at_, .slice A2 t.list.length c2] 25)
  simp only [World.size_alloc] at hb2
  have HT := Lib.hid (And.intro hB (And.intro hLa hLb))
  have IH := Lib.hid IH
  have hN : ∀ w : World, NdR 1 w.heap.size w (ndCells (Nd.mk t.kind t.text t.n 0 []).kind (Nd.mk t.kind t.text t.n 0 []).text (Nd.mk t.kind t.text t.n 0 []).n (Nd.mk t.kind t.text t.n 0 []).at_ none (Nd.mk t.kind t.text t.n 0 []).list.length 0) (.mk t.kind t.text t.n 0 []) := fun w =>
    ⟨⟨hsm.1, by simp [Nd.at_, I64], hsm.2.2.1, hsm.2.2.2.1, by simp [Nd.list]⟩, none, 0, rfl, SlR.nil _ _ _ _ _ _ _⟩
  have hsame := fun w => rnsame_any 1 w.heap.size w _ _ none 0 none 0 (Nat.le_refl _) (hN w) (hN w)
  have HS := Lib.hid hsame
  have hbb1 := hb1
  have hbb2 := hb2
  clear hB hA hC hLa hLb hsm hN hsame
  go_enter Tryd.func26, Tryd.ntmps26
  go_wp2_with fail
  generalize (w.alloc (.cells #[.int .i64 t.kind, .string t.text, .int .u64 t.n, .int .i64 t.at_, .slice A t.list.length c] 25)).alloc (.cells #[.int .i64 t.kind, .string t.text, .int .u64 t.n, .int .i64 t.at_, .slice A2 t.list.length c2] 25) = W at hb1 hb2 hbb1 hbb2 hc1 ⊢
  generalize w.heap.size + 1 = g2 at hb2 hbb2 ⊢
  generalize w.heap.size = g1 at hb1 hbb1 ⊢
  have H0 := Lib.hid (And.intro hbb1 (And.intro hbb2 hc1))
  clear hbb1 hbb2 hc1
  refine (HS.out W).mono fun e w1 h => ?_
  obtain ⟨rfl, hc2⟩ := h
  rw [show sameN (Nd.mk t.kind t.text t.n 0 []) (Nd.mk t.kind t.text t.n 0 []) = true from eqB_self _]
  obtain ⟨y0, y1, y2, y3, y4⟩ := (hc2.blk hb1 id).cells5
  obtain ⟨x0, x1, x2, x3, x4⟩ := (hc2.blk hb2 id).cells5
  have H1 := Lib.hid hc2
  clear hb1 hb2 hc2
  go_wp2_with fail
  go_loopw [5] (fun i wr => exRel t.list.length w1 i wr) (fun i _ => t.list.length - (intOf i).toNat)
  case atStart => exact ⟨0, Nat.zero_le _, rfl, Chg.refl _ _⟩
  case round =>
    obtain ⟨k, hk, rfl, hch⟩ := hrel
    clear y0 y1 y2 y3 y4 x0 x1 x2 x3 x4
    have hcw := (H0.out.2.2.trans H1.out).trans hch
    obtain ⟨y0, y1, y2, y3, y4⟩ := ((H1.out.trans hch).blk H0.out.1 id).cells5
    obtain ⟨x0, x1, x2, x3, x4⟩ := ((H1.out.trans hch).blk H0.out.2.1 id).cells5
    have q3' : IntKind.i64.wrap ((k : Int) + 1) = (k : Int) + 1 := IntWalk.i64_in _ ⟨by omega, by omega⟩
    by_cases hlt : k < t.list.length
    · have q1' : decide (k < t.list.length) = true := decide_eq_true hlt
      have q2' : (k : Int) < (t.list.length : Int) := by omega
      obtain ⟨bb, oo, x, X, cx, rfl, hkx, hRx, z0, z1, z2, z3, z4⟩ := NdsR.at_ (NdsR.keep0 hcw HT.out.2.1) hlt
      obtain ⟨bb', oo', y, Y, cy, rfl, hky, hRy, v0, v1, v2, v3, v4⟩ := NdsR.at_ (NdsR.keep0 hcw HT.out.2.2) hlt
      obtain rfl : y = x := by rw [hkx] at hky; exact (Option.some.inj hky).symm
      have hdr := (Chg.refl (fun _ _ => False) wr).drew
      have hcall := IH.out B wr.drew y X cx Y cy (Nat.le_trans HT.out.1 (hcw.trans hdr).size) (NdR.keep0 hdr hRx) (NdR.keep0 hdr hRy)
      have HK := Lib.hid (hch.trans hdr)
      clear hch hkx hky hRx hRy hdr hcw
      go_wp2_with fail
      refine wp_region_still_tail 10 (by kernel_rfl) (by kernel_rfl) ?_
      simp only [List.take_succ_cons, List.take_zero, List.drop_succ_cons, List.drop_zero]
      repeat (with_reducible refine wpStill_step (fun K hK => ?_); go_simp; with_reducible refine hK _ ?_; clear hK K)
      try with_reducible refine wpStill_nil ?_
      clear z0 z1 z2 z3 z4 v0 v1 v2 v3 v4 x0 x1 x2 x3 x4 y0 y1 y2 y3 y4
      change wpList _ _ _ _ _ wr.drew
      generalize wr.drew = w6 at hcall HK ⊢
      go_wp2_with fail
      refine hcall.mono fun e w5 h => ?_
      obtain ⟨rfl, hc5⟩ := h
      clear hcall
      go_wp2_with fail
      go_roundw
      case rel => exact ⟨k + 1, hlt, by simp, HK.out.trans hc5⟩
      case measure => simp [intOf]; omega
    · have q1' : decide (k < t.list.length) = false := decide_eq_false hlt
      obtain rfl : k = t.list.length := by omega
      have HC := Lib.hid hcw
      clear hch hcw
      go_wp2_with fail
      go_ret
      exact ⟨rfl, HC.out⟩
theorem exact_any : ∀ n, exactC n
  | 0 => fun B w t A c A2 c2 hB hT => hT.elim
  | n + 1 => exact_step n (exact_any n)
end Go.Proofs.YtgaodjoddfjfmaaDoor
