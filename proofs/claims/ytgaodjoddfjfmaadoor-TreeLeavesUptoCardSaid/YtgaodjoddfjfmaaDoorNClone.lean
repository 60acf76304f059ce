/-
  tree.Clone: a tree in new memory.
-/
import Derived.Test.YtgaodjoddfjfmaaDoorNOwn
namespace Go.Proofs.YtgaodjoddfjfmaaDoor
open Go.RowKit
set_option linter.unusedVariables false
set_option linter.unusedSimpArgs false

def CloneC (n : Nat) : Prop := ∀ (B : Nat) (w : World) (t : Nd) (A : Option Addr) (c : Nat), B ≤ w.heap.size → NdR n B w (ndCells t.kind t.text t.n t.at_ A t.list.length c) t → Calls Tryd.prog 36 #[.agg #[.int .i64 t.kind, .string t.text, .int .u64 t.n, .int .i64 t.at_, .slice A t.list.length c]] w (OwnRes n t w)
def clnRel (D n : Nat) (t : Nd) (W : World) (v i : Value) (wr : World) : Prop :=
  ∃ (k : Nat) (A : Option Addr) (c : Nat), k ≤ t.list.length ∧ i = .int .i64 k ∧ v = .slice A k c ∧ GrowR D 25 5 (NdN n) wr A c (t.list.take k) ∧ Chg (fun _ _ => False) W wr
set_option maxRecDepth 100000 in
set_option maxHeartbeats 8000000 in
theorem clone_step (n : Nat) (IH : CloneC n) : CloneC (n + 1) := by
  intro B w t A c hB hT
  obtain ⟨i25, hi25, hz25, hs25, hb25⟩ := info_parts infoNode
  obtain ⟨hsm, hLl⟩ := NdR.open_ hT
  have hb1 := (Blk.new w 25 #[.int .i64 t.kind, .string t.text, .int .u64 t.n, .int .i64 t.at_, .slice A t.list.length c]).alloc (.cells #[.int .i64 0, .string ⟨#[]⟩, .int .u64 0, .int .i64 0, .slice none 0 0] 25)
  have hb2 := Blk.new (w.alloc (.cells #[.int .i64 t.kind, .string t.text, .int .u64 t.n, .int .i64 t.at_, .slice A t.list.length c] 25)) 25 #[.int .i64 0, .string ⟨#[]⟩, .int .u64 0, .int .i64 0, .slice none 0 0]
  have hc0 := (chg_alloc w (.cells #[.int .i64 t.kind, .string t.text, .int .u64 t.n, .int .i64 t.at_, .slice A t.list.length c] 25)).alloc (.cells #[.int .i64 0, .string ⟨#[]⟩, .int .u64 0, .int .i64 0, .slice none 0 0] 25)
  simp only [World.size_alloc] at hb2
  have HP := Lib.hid (And.intro hB (And.intro hLl (And.intro hsm IH)))
  have hll : t.list.length ≤ 1048576 := hsm.2.2.2.2
  clear hB hT hLl hsm IH
  go_enter Tryd.func36, Tryd.ntmps36
  go_wp2_with fail
  generalize hW0 : (w.alloc (.cells #[.int .i64 t.kind, .string t.text, .int .u64 t.n, .int .i64 t.at_, .slice A t.list.length c] 25)).alloc (.cells #[.int .i64 0, .string ⟨#[]⟩, .int .u64 0, .int .i64 0, .slice none 0 0] 25) = W1 at hb1 hb2 hc0 ⊢
  have hD : W1.heap.size = w.heap.size + 2 := by rw [← hW0]; simp
  generalize hg2 : w.heap.size + 1 = g2 at hb2 ⊢
  generalize hg1 : w.heap.size = g1 at hb1 ⊢
  obtain ⟨D, hDD⟩ : ∃ D, D = W1.heap.size := ⟨_, rfl⟩
  have H1 := Lib.hid (And.intro hb1 (And.intro hb2 (And.intro hc0 (show g1 = w.heap.size ∧ g2 = w.heap.size + 1 ∧ D = w.heap.size + 2 ∧ D = W1.heap.size from ⟨hg1.symm, hg2.symm, by omega, hDD⟩))))
  obtain ⟨c0, c1, c2, c3, c4⟩ := hb1.cells5
  clear hb1 hb2 hc0 hW0 hg1 hg2 hD hDD
  go_wp2_with fail
  go_loopw [3, 9] (fun v i wr => clnRel D n t W1 v i wr) (fun _ i _ => t.list.length - (intOf i).toNat)
  case atStart => exact ⟨0, none, 0, Nat.zero_le _, rfl, rfl, GrowR.nil _ _ _ _ _, Chg.refl _ _⟩
  case round =>
    obtain ⟨k, Ag, cg, hk, rfl, rfl, hgr, hch⟩ := hrel
    clear c0 c1 c2 c3 c4
    have hcw := H1.out.2.2.1.trans hch
    by_cases hlt : k < t.list.length
    · have q1 : decide (k < t.list.length) = true := decide_eq_true hlt
      have q2 : (k : Int) < (t.list.length : Int) := by omega
      have q3 : IntKind.i64.wrap ((k : Int) + 1) = (k : Int) + 1 := IntWalk.i64_in _ ⟨by omega, by omega⟩
      obtain ⟨b, o, x, X, cx, rfl, hkx, hRx, z0, z1, z2, z3, z4⟩ := NdsR.at_ (NdsR.keep0 hcw HP.out.2.1) hlt
      have htl : (t.list.take k).length = k := by rw [List.length_take]; omega
      have hlt2 : ∀ g, (Value.slice Ag (t.list.take k).length cg).ownBlock = some g → g < wr.heap.size := fun g h => (hgr.1.lt h).1
      have hDw : D ≤ wr.heap.size := by have := H1.out.2.2.2; have := hch.size; omega
      obtain ⟨⟨xss, how0, x2, x3, x4⟩, hgD⟩ := hgr
      rw [htl] at how0 hlt2 hgD
      have hk20 : k ≤ 1048576 := by omega
      have hca := chg_alloc wr (.cells #[.int .i64 x.kind, .string x.text, .int .u64 x.n, .int .i64 x.at_, .slice X x.list.length cx] 25)
      have hcall := HP.out.2.2.2 B (wr.alloc (.cells #[.int .i64 x.kind, .string x.text, .int .u64 x.n, .int .i64 x.at_, .slice X x.list.length cx] 25)) x X cx (Nat.le_trans HP.out.1 (hcw.trans hca).size) (NdR.keep0 hca hRx)
      have HR := Lib.hid (And.intro how0 (And.intro x2 (And.intro x3 (And.intro x4 (And.intro hgD hlt2)))))
      have HX := Lib.hid (And.intro hch (And.intro hca (And.intro hkx (And.intro htl hDw))))
      clear how0 x2 x3 x4 hgD hlt2 hch hcw hkx hRx htl hDw hca
      go_wp2_with fail
      refine hcall.mono fun e w7 h => ?_
      obtain ⟨X7, c7, rfl, hN, hc7⟩ := h
      clear hcall z0 z1 z2 z3 z4
      have hc77 := HX.out.2.1.trans hc7
      have hN' := NdN.sub (G' := fun b => wr.heap.size ≤ b) (fun b _ h => by simp at h; omega) hN
      have HN := Lib.hid (And.intro hN' hc77)
      clear hN hN' hc7 hc77
      go_wp2_with (at_builtin; go_must (refine wpList_append_new rfl (.tmp 13) (.tmp 16) 23 rfl 0 25 i25 _ 5 64 Tryd.underlying23 hi25 hz25 hs25 hb25 rfl (by omega) Ag k cg xss.flatten (by first | rfl | simp [Act.eval, Act.put]) (HN.out.2.own HR.out.1 fun _ _ => id) 1 1 [.int .i64 x.kind, .string x.text, .int .u64 x.n, .int .i64 x.at_, .slice X7 x.list.length c7] (by first | rfl | simp [Act.eval, Act.put]) rfl rfl (one_nd _ _ _ _ _ _ _) (by simp only [maxLen]; omega) (by omega) (Nat.zero_le _) ?_))
      intro A6 c6 w8 hap
      obtain ⟨hN, hc7⟩ := HN.out
      obtain ⟨how0, x2, x3, x4, hgD, hlt2⟩ := HR.out
      obtain ⟨hch, hca, hkx, htl, hDw⟩ := HX.out
      have hpush := GrowR.push (x := x) (cs := ndCells x.kind x.text x.n x.at_ X7 x.list.length c7) (ndN_keepR n) (ndN_subR n) x2 x3 x4 (by rw [htl]; exact hgD) hDw hc7 (by rw [htl]; exact hc7.own how0 fun _ _ => id) (by rw [htl]; exact hlt2) hN rfl (by rw [htl]; exact hap)
      have hch8 := hpush.2
      rw [htl] at hch8
      have hdd := H1.out.2.2.2
      have htk : t.list.take (k + 1) = t.list.take k ++ [x] := by
        obtain ⟨h1, h2⟩ := List.getElem?_eq_some_iff.1 hkx
        rw [List.take_succ_eq_append_getElem h1, h2]
      have hg9 : GrowR D 25 5 (NdN n) w8 A6 c6 (t.list.take (k + 1)) := by rw [htk]; exact hpush.1
      have hc9 : Chg (fun _ _ => False) W1 w8 := (hch.trans hc7).trans_new hch8 fun b t hb h => by have := hgD b h.1; omega
      have HZ := Lib.hid (And.intro hg9 hc9)
      clear hN hc7 how0 x2 x3 x4 hgD hlt2 hch hca hkx htl hDw hpush hch8 hdd hap htk hg9 hc9
      go_wp2_with fail
      go_roundw
      case rel => exact ⟨k + 1, A6, c6, hlt, by simp, by simp, HZ.out.1, HZ.out.2⟩
      case measure => simp [intOf]; omega
    · have q1 : decide (k < t.list.length) = false := decide_eq_false hlt
      obtain rfl : k = t.list.length := by omega
      have hb1r := hch.blk H1.out.1 id
      have hb2r := hch.blk H1.out.2.1 id
      have hne : g2 ≠ g1 := by have := H1.out.2.2.2; omega
      have hgr2 := hgr.rowG fun G G' hG cs x h => ndN_subR n G G' wr hG cs x h
      rw [List.take_length] at hgr2
      have hb1s := hb1r.set_ 4 (.slice Ag t.list.length cg)
      have hb2s := hb2r.far (p := ⟨g1, 4, none⟩) hne (.slice Ag t.list.length cg)
      have hcs := chg_set (j := 4) hb1r (.slice Ag t.list.length cg)
      obtain ⟨c0, c1, c2, c3, c4⟩ := hb1r.cells5
      have f4 := hb1r.frozen 4
      obtain ⟨k0, k1, k2, k3, k4⟩ : (wr.setCell ⟨g1, 4, none⟩ (.slice Ag t.list.length cg)).cell? ⟨g1, 0, none⟩ = some (.int .i64 t.kind) ∧ (wr.setCell ⟨g1, 4, none⟩ (.slice Ag t.list.length cg)).cell? ⟨g1, 1, none⟩ = some (.string t.text) ∧ (wr.setCell ⟨g1, 4, none⟩ (.slice Ag t.list.length cg)).cell? ⟨g1, 2, none⟩ = some (.int .u64 t.n) ∧ (wr.setCell ⟨g1, 4, none⟩ (.slice Ag t.list.length cg)).cell? ⟨g1, 3, none⟩ = some (.int .i64 t.at_) ∧ (wr.setCell ⟨g1, 4, none⟩ (.slice Ag t.list.length cg)).cell? ⟨g1, 4, none⟩ = some (.slice Ag t.list.length cg) := by
        simpa using (show Blk _ g1 25 #[.int .i64 t.kind, .string t.text, .int .u64 t.n, .int .i64 t.at_, .slice Ag t.list.length cg] by simpa using hb1s).cells5
      obtain ⟨d0, d1, d2, d3, d4⟩ := hb2s.cells5
      have e0 := hb2s.frozen 0
      have e1 := hb2s.frozen 1
      have e2 := hb2s.frozen 2
      have e3 := hb2s.frozen 3
      have e4 := hb2s.frozen 4
      have HR := Lib.hid (And.intro hgr2 (And.intro (H1.out.2.2.1.trans hch) (And.intro hb2s hcs)))
      clear hgr hgr2 hch hcw hb1r hb2r hb1s hb2s hcs hne
      go_wp2_with fail
      clear c0 c1 c2 c3 c4 d0 d1 d2 d3 d4 e0 e1 e2 e3 e4 k0 k1 k2 k3 k4 f4
      obtain ⟨hbz, hcz⟩ := blk_set5 HR.out.2.2.1 (.int .i64 t.kind) (.string t.text) (.int .u64 t.n) (.int .i64 t.at_) (.slice Ag t.list.length cg)
      obtain ⟨d0, d1, d2, d3, d4⟩ := hbz.cells5
      have hcy : Chg (fun b _ => b = g1 ∨ b = g2) wr _ := (HR.out.2.2.2.mono fun b t _ h => .inl h.1).trans (hcz.mono fun b t _ h => .inr h.1)
      refine bodyPost_ret (v := .agg #[.int .i64 t.kind, .string t.text, .int .u64 t.n, .int .i64 t.at_, .slice Ag t.list.length cg]) (by simp [results, Tryd.results36, go_sem, d0, d1, d2, d3, d4]) rfl ?_
      refine ⟨Ag, cg, rfl, ⟨HP.out.2.2.1, Ag, cg, rfl, ?_⟩, HR.out.2.1.trans_new hcy fun b t hb h => by have := H1.out.2.2.2; rcases h with h | h <;> omega⟩
      exact (HR.out.1.keep hcy (fun b hb h => by have := H1.out.2.2.2; rcases h with h | h <;> omega) fun cs p h => NdN.keep hcy (fun b hb h => by have := H1.out.2.2.2; rcases h with h | h <;> omega) h).imp (fun b _ h => by have := H1.out.2.2.2; omega) fun cs p h => NdN.sub (fun b _ h => by have := H1.out.2.2.2; omega) h
theorem clone_any : ∀ n, CloneC n
  | 0 => fun B w t A c hB hT => hT.elim
  | n + 1 => clone_step n (clone_any n)
end Go.Proofs.YtgaodjoddfjfmaaDoor
