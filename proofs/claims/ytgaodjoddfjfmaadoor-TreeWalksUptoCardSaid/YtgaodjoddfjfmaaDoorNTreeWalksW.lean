/-
  The walk of TreeWalks.
-/
import Derived.Test.YtgaodjoddfjfmaaDoorNAns
import Derived.Test.YtgaodjoddfjfmaaDoorNFlat
import Derived.Test.YtgaodjoddfjfmaaDoorNExact
import Derived.Test.YtgaodjoddfjfmaaDoorNWalked
namespace Go.Proofs.YtgaodjoddfjfmaaDoor
open Go.RowKit
set_option linter.unusedVariables false
set_option linter.unusedSimpArgs false

theorem deps_at {B n c k : Nat} {w : World} {A : Option Addr} {l : List Nat} (h : SlR B 0 1 IntV w (.slice A n c) l) (hk : k < l.length) :
    ∃ b o x, A = some ⟨b, o, none⟩ ∧ l[k]? = some x ∧ w.cell? ⟨b, o + k, none⟩ = some (.int .i64 (x : Int)) := by
  obtain ⟨b, o, x, cs, hA, hx, _, rfl, h3⟩ := SlR.at2 h hk
  exact ⟨b, o, x, hA, hx, by simpa using h3 0 _ rfl⟩
set_option maxRecDepth 100000 in
set_option maxHeartbeats 8000000 in
theorem treeWalks_walk (n B : Nat) (w : World) (t : Nd) (A : Option Addr) (c : Nat) (hB : B ≤ w.heap.size) (hT : NdR n B w (ndCells t.kind t.text t.n t.at_ A t.list.length c) t) (hs : t.size ≤ 1048576) :
    Calls Tryd.prog 9 #[.agg #[.int .i64 t.kind, .string t.text, .int .u64 t.n, .int .i64 t.at_, .slice A t.list.length c]] w fun e w' => e = .returned (.bool true) ∧ Chg (fun _ _ => False) w w' := by
  have hb1 := Blk.new w 25 #[.int .i64 t.kind, .string t.text, .int .u64 t.n, .int .i64 t.at_, .slice A t.list.length c]
  have hc1 := chg_alloc w (.cells #[.int .i64 t.kind, .string t.text, .int .u64 t.n, .int .i64 t.at_, .slice A t.list.length c] 25)
  have hfl := flat_any n n B 0 (w.alloc (.cells #[.int .i64 t.kind, .string t.text, .int .u64 t.n, .int .i64 t.at_, .slice A t.list.length c] 25)) t A c [] [] none 0 none 0 (Nat.le_refl _) (Nat.le_trans hB hc1.size) (NdR.keep0 hc1 hT) (RowR.nil _ _ _ _ _) (RowR.nil _ _ _ _ _) (fun b h => absurd h OwnB.none_) (fun b h => absurd h OwnB.none_) (by omega) (by simpa using hs) rfl
  obtain ⟨c0, c1, c2', c3', c4⟩ := hb1.cells5
  have HP := Lib.hid (And.intro hB (And.intro hT hs))
  have H1 := Lib.hid (And.intro hb1 hc1)
  clear hB hT hb1 hc1
  simp only [List.length_nil, List.nil_append, Nat.zero_add] at hfl
  go_enter Tryd.func9, Tryd.ntmps9
  go_wp2_with fail
  generalize w.alloc (.cells #[.int .i64 t.kind, .string t.text, .int .u64 t.n, .int .i64 t.at_, .slice A t.list.length c] 25) = W at hfl H1 c0 c1 c2' c3' c4 ⊢
  generalize w.heap.size = g1 at H1 c0 c1 c2' c3' c4 ⊢
  refine hfl.mono fun e w4 h => ?_
  obtain ⟨A4, c4', A5, c5', rfl, hr4, hr5, _, _, hc4⟩ := h
  clear hfl c0 c1 c2' c3' c4
  have hc4 : Chg (fun _ _ => False) W w4 := hc4.mono fun b t _ h => by rcases h with h | h <;> exact OwnB.none_ h.1
  have hcw := H1.out.2.trans hc4
  have hwk := walked_any n B w4 t A c (Nat.le_trans HP.out.1 hcw.size) (NdR.keep0 hcw HP.out.2.1) hs
  obtain ⟨c0, c1, c2', c3', c4⟩ := (hc4.blk H1.out.1 id).cells5
  have H4 := Lib.hid (And.intro hr4 (And.intro hr5 hcw))
  clear hr4 hr5 hc4 hcw
  go_wp2_with fail
  refine hwk.mono fun e w5 h => ?_
  obtain ⟨A6, c6, A7, c7, rfl, hr6, hr7, hc5⟩ := h
  clear hwk c0 c1 c2' c3' c4
  have hans := answers4_any w5
  have HA := Lib.hid (show NdsR n w5.heap.size w5 (.slice A4 t.flat.length c4') t.flat from (H4.out.1.keep hc5 (fun _ _ h => h) fun _ _ h => NdR.keep0 hc5 h).settleT (by decide) fun _ _ h => NdR.more (Nat.le_trans HP.out.1 (H4.out.2.2.trans hc5).size) h)
  have HD := Lib.hid (show SlR w5.heap.size 0 1 IntV w5 (.slice A5 (t.flatD 0).length c5') (t.flatD 0) from (H4.out.2.1.keep hc5 (fun _ _ h => h) fun _ _ h => h).settleT (by decide) fun _ _ h => h)
  have HE := Lib.hid (show SlR w5.heap.size 0 1 IntV w5 (.slice A7 (t.flatD 0).length c7) (t.flatD 0) from hr7.settleT (by decide) fun _ _ h => h)
  have HB := Lib.hid (show NdsR n w5.heap.size w5 (.slice A6 t.flat.length c6) t.flat from hr6.1.settleT (by decide) fun _ _ h => NdN.ndR h)
  have H5 := Lib.hid (H4.out.2.2.trans hc5)
  have hfln := flat_len t
  have hfdn := flatD_len t 0
  clear hr6 hr7 hc5
  go_wp2_with fail
  refine hans.mono fun e w6 h => ?_
  obtain ⟨rfl, hc6⟩ := h
  clear hans
  have q5 : ((t.size : Int) == (t.size : Int)) = true := by simp
  have q6 : (t.size == t.size) = true := by simp
  have q7 : ((t.size : Int) != (t.size : Int)) = false := by simp
  have H6 := Lib.hid hc6
  clear hc6
  go_wp2_with fail
  go_loopw [8] (fun i wr => exRel t.size w6 i wr) (fun i _ => t.size - (intOf i).toNat)
  case atStart => exact ⟨0, Nat.zero_le _, rfl, Chg.refl _ _⟩
  case round =>
    obtain ⟨k, hk, rfl, hch⟩ := hrel
    have hcw := H6.out.trans hch
    have q3' : IntKind.i64.wrap ((k : Int) + 1) = (k : Int) + 1 := IntWalk.i64_in _ ⟨by omega, by omega⟩
    by_cases hlt : k < t.size
    · have q1' : decide (k < t.size) = true := decide_eq_true hlt
      have q2' : (k : Int) < (t.size : Int) := by omega
      obtain ⟨bb, oo, x, X, cx, rfl, hkx, hRx, z0, z1, z2, z3, z4⟩ := NdsR.at_ (NdsR.keep0 hcw HA.out) (by omega : k < t.flat.length)
      obtain ⟨bb', oo', y, Y, cy, rfl, hky, hRy, v0, v1, v2, v3, v4⟩ := NdsR.at_ (NdsR.keep0 hcw HB.out) (by omega : k < t.flat.length)
      obtain rfl : y = x := by rw [hkx] at hky; exact (Option.some.inj hky).symm
      obtain ⟨bd, od, d, rfl, hkd, zd⟩ := deps_at (SlR.keep HD.out hcw (no_lets _ _) fun _ _ h => h) (by omega : k < (t.flatD 0).length)
      obtain ⟨be, oe, d', rfl, hke, ze⟩ := deps_at (SlR.keep HE.out hcw (no_lets _ _) fun _ _ h => h) (by omega : k < (t.flatD 0).length)
      obtain rfl : d' = d := by rw [hkd] at hke; exact (Option.some.inj hke).symm
      have q8 : ((d' : Int) != (d' : Int)) = false := by simp
      have q9 : (d' != d') = false := by simp
      have hdr := (Chg.refl (fun _ _ => False) wr).drew
      have hcall := exact_any n w5.heap.size wr.drew y X cx Y cy (hcw.trans hdr).size (NdR.keep0 hdr hRx) (NdR.keep0 hdr hRy)
      have HK := Lib.hid (hch.trans hdr)
      clear hch hkx hky hRx hRy hdr hcw hkd hke
      go_wp2_with fail
      refine wp_region_still_tail 18 (by kernel_rfl) (by kernel_rfl) ?_
      simp only [List.take_succ_cons, List.take_zero, List.drop_succ_cons, List.drop_zero]
      repeat (with_reducible refine wpStill_step (fun K hK => ?_); go_simp; with_reducible refine hK _ ?_; clear hK K)
      try with_reducible refine wpStill_nil ?_
      clear z0 z1 z2 z3 z4 v0 v1 v2 v3 v4 zd ze
      change wpList _ _ _ _ _ wr.drew
      generalize wr.drew = w7 at hcall HK ⊢
      go_wp2_with fail
      refine hcall.mono fun e w8 h => ?_
      obtain ⟨rfl, hc8⟩ := h
      clear hcall
      go_wp2_with fail
      go_roundw
      case rel => exact ⟨k + 1, hlt, by simp, HK.out.trans hc8⟩
      case measure => simp [intOf]; omega
    · have q1' : decide (k < t.size) = false := decide_eq_false hlt
      obtain rfl : k = t.size := by omega
      have HC := Lib.hid (H5.out.trans hcw)
      clear hch hcw
      go_wp2_with fail
      go_ret
      exact ⟨rfl, HC.out⟩
end Go.Proofs.YtgaodjoddfjfmaaDoor
