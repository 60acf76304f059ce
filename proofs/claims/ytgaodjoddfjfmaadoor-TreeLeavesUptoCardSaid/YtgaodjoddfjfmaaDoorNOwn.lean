/-
  ref04.Own: a tree in new memory.
-/
import Derived.Test.YtgaodjoddfjfmaaDoorNdR
import Derived.BigQuiet
namespace Go.Proofs.YtgaodjoddfjfmaaDoor
open Go.RowKit
set_option linter.unusedVariables false
set_option linter.unusedSimpArgs false

theorem infoNode : (Tryd.prog.info? 25).map (fun i => (i.zero, i.size, i.bytes)) = some (some (.agg #[.int .i64 0, .string ByteArray.empty, .int .u64 0, .int .i64 0, .slice none 0 0]), 5, 64) := by kernel_rfl
/-- What Own answers: that tree, in new memory. -/
def OwnRes (n : Nat) (t : Nd) (w : World) (e : Ending) (w' : World) : Prop :=
  ∃ A c, e = .returned (.agg #[.int .i64 t.kind, .string t.text, .int .u64 t.n, .int .i64 t.at_, .slice A t.list.length c]) ∧ NdN n (fun b => w.heap.size ≤ b) w' (ndCells t.kind t.text t.n t.at_ A t.list.length c) t ∧ Chg (fun _ _ => False) w w'
def OwnC (n : Nat) : Prop := ∀ (B : Nat) (w : World) (t : Nd) (A : Option Addr) (c : Nat), B ≤ w.heap.size → NdR n B w (ndCells t.kind t.text t.n t.at_ A t.list.length c) t → Calls Tryd.prog 13 #[.agg #[.int .i64 t.kind, .string t.text, .int .u64 t.n, .int .i64 t.at_, .slice A t.list.length c]] w (OwnRes n t w)
def ownRel (D n g : Nat) (t : Nd) (W : World) (i : Value) (wr : World) : Prop :=
  ∃ (k : Nat) (A : Option Addr) (c : Nat), k ≤ t.list.length ∧ i = .int .i64 k ∧ Blk wr g 25 #[.int .i64 t.kind, .string t.text, .int .u64 t.n, .int .i64 t.at_, .slice A k c] ∧ GrowR D 25 5 (NdN n) wr A c (t.list.take k) ∧ Chg (fun b t => b = g ∧ t = 25) W wr
theorem blk_set5 {w : World} {b T : Nat} {a0 a1 a2 a3 a4 : Value} (h : Blk w b T #[a0, a1, a2, a3, a4]) (v0 v1 v2 v3 v4 : Value) :
    Blk (((((w.setCell ⟨b, 0, none⟩ v0).setCell ⟨b, 1, none⟩ v1).setCell ⟨b, 2, none⟩ v2).setCell ⟨b, 3, none⟩ v3).setCell ⟨b, 4, none⟩ v4) b T #[v0, v1, v2, v3, v4] ∧
      Chg (fun b' t => b' = b ∧ t = T) w (((((w.setCell ⟨b, 0, none⟩ v0).setCell ⟨b, 1, none⟩ v1).setCell ⟨b, 2, none⟩ v2).setCell ⟨b, 3, none⟩ v3).setCell ⟨b, 4, none⟩ v4) := by
  have k1 := h.set_ 0 v0
  have k2 := k1.set_ 1 v1
  have k3 := k2.set_ 2 v2
  have k4 := k3.set_ 3 v3
  have k5 := k4.set_ 4 v4
  exact ⟨by simpa using k5, (((((chg_set h v0).trans (chg_set k1 v1)).trans (chg_set k2 v2)).trans (chg_set k3 v3)).trans (chg_set k4 v4))⟩
theorem NdR.open_ {n B : Nat} {w : World} {k : Int} {tx : ByteArray} {m : Nat} {p : Int} {A : Option Addr} {len c : Nat} {t : Nd} (h : NdR (n + 1) B w (ndCells k tx m p A len c) t) : SmallN t ∧ SlR B 0 5 (NdR n B) w (.slice A t.list.length c) t.list := by
  obtain ⟨hs, A', c', hcs, hL⟩ := h
  unfold ndCells at hcs
  injection hcs with _ hcs; injection hcs with _ hcs; injection hcs with _ hcs; injection hcs with _ hcs; injection hcs with h1 _
  injection h1 with h1 _ h1'
  subst h1 h1'
  exact ⟨hs, hL⟩
set_option maxRecDepth 100000 in
set_option maxHeartbeats 8000000 in
theorem own_step (n : Nat) (IH : OwnC n) : OwnC (n + 1) := by
  intro B w t A c hB hT
  obtain ⟨i25, hi25, hz25, hs25, hb25⟩ := info_parts infoNode
  obtain ⟨hsm, hLl⟩ := NdR.open_ hT
  have hb1 := ((Blk.new w 25 #[.int .i64 t.kind, .string t.text, .int .u64 t.n, .int .i64 t.at_, .slice A t.list.length c]).alloc (.cells #[.int .i64 0, .string ⟨#[]⟩, .int .u64 0, .int .i64 0, .slice none 0 0] 25)).alloc (.cells #[.int .i64 t.kind, .string t.text, .int .u64 t.n, .int .i64 t.at_, .slice none 0 0] 25)
  have hb2 := (Blk.new (w.alloc (.cells #[.int .i64 t.kind, .string t.text, .int .u64 t.n, .int .i64 t.at_, .slice A t.list.length c] 25)) 25 #[.int .i64 0, .string ⟨#[]⟩, .int .u64 0, .int .i64 0, .slice none 0 0]).alloc (.cells #[.int .i64 t.kind, .string t.text, .int .u64 t.n, .int .i64 t.at_, .slice none 0 0] 25)
  have hb3 := Blk.new ((w.alloc (.cells #[.int .i64 t.kind, .string t.text, .int .u64 t.n, .int .i64 t.at_, .slice A t.list.length c] 25)).alloc (.cells #[.int .i64 0, .string ⟨#[]⟩, .int .u64 0, .int .i64 0, .slice none 0 0] 25)) 25 #[.int .i64 t.kind, .string t.text, .int .u64 t.n, .int .i64 t.at_, .slice none 0 0]
  have hc0 := ((chg_alloc w (.cells #[.int .i64 t.kind, .string t.text, .int .u64 t.n, .int .i64 t.at_, .slice A t.list.length c] 25)).alloc (.cells #[.int .i64 0, .string ⟨#[]⟩, .int .u64 0, .int .i64 0, .slice none 0 0] 25)).alloc (.cells #[.int .i64 t.kind, .string t.text, .int .u64 t.n, .int .i64 t.at_, .slice none 0 0] 25)
  simp only [World.size_alloc] at hb2 hb3
  have HP := Lib.hid (And.intro hB (And.intro hLl (And.intro hsm IH)))
  have hll : t.list.length ≤ 1048576 := hsm.2.2.2.2
  clear hB hT hLl hsm IH
  go_enter Tryd.func13, Tryd.ntmps13
  go_wp2_with fail
  generalize hW0 : ((w.alloc (.cells #[.int .i64 t.kind, .string t.text, .int .u64 t.n, .int .i64 t.at_, .slice A t.list.length c] 25)).alloc (.cells #[.int .i64 0, .string ⟨#[]⟩, .int .u64 0, .int .i64 0, .slice none 0 0] 25)).alloc (.cells #[.int .i64 t.kind, .string t.text, .int .u64 t.n, .int .i64 t.at_, .slice none 0 0] 25) = W1 at hb1 hb2 hb3 hc0 ⊢
  have hD : W1.heap.size = w.heap.size + 3 := by rw [← hW0]; simp
  generalize hg3 : w.heap.size + 1 + 1 = g3 at hb3 ⊢
  generalize hg2 : w.heap.size + 1 = g2 at hb2 ⊢
  generalize hg1 : w.heap.size = g1 at hb1 ⊢
  obtain ⟨D, hDD⟩ : ∃ D, D = W1.heap.size := ⟨_, rfl⟩
  have H1 := Lib.hid (And.intro hb1 (And.intro hb2 (And.intro hc0 (show g1 = w.heap.size ∧ g2 = w.heap.size + 1 ∧ g3 = w.heap.size + 2 ∧ D = w.heap.size + 3 ∧ D = W1.heap.size from ⟨hg1.symm, hg2.symm, by omega, by omega, hDD⟩))))
  clear hb1 hb2 hc0 hW0 hg1 hg2 hg3 hD hDD
  go_loopw [4] (fun i wr => ownRel D n g3 t W1 i wr) (fun i _ => t.list.length - (intOf i).toNat)
  case atStart => exact ⟨0, none, 0, Nat.zero_le _, rfl, hb3, GrowR.nil _ _ _ _ _, Chg.refl _ _⟩
  case round =>
    clear hb3
    obtain ⟨k, Ag, cg, hk, rfl, hb3, hgr, hch⟩ := hrel
    obtain ⟨y0, y1, y2, y3, y4⟩ := hb3.cells5
    have hno1 : ¬ (g1 = g3 ∧ (25 : Nat) = 25) := fun h => by have := H1.out.2.2.2; have := h.1; omega
    obtain ⟨c0, c1, c2, c3, c4⟩ := (hch.blk H1.out.1 hno1).cells5
    by_cases hlt : k < t.list.length
    · have q1 : decide (k < t.list.length) = true := decide_eq_true hlt
      have q2 : (k : Int) < (t.list.length : Int) := by omega
      have q3 : IntKind.i64.wrap ((k : Int) + 1) = (k : Int) + 1 := IntWalk.i64_in _ ⟨by omega, by omega⟩
      have hcw : Chg (fun _ _ => False) w wr := H1.out.2.2.1.trans_new hch fun b t hb h => by have := h.1; have := H1.out.2.2.2; omega
      obtain ⟨b, o, x, X, cx, rfl, hkx, hRx, z0, z1, z2, z3, z4⟩ := NdsR.at_ (NdsR.keep0 hcw HP.out.2.1) hlt
      have hbB : b < B := by
        obtain ⟨b', o', c', cs', hv, _, hl, _⟩ := HP.out.2.1.at_ hlt
        injection hv with hv
        injection hv with hv
        injection hv with hv
        subst hv
        exact hl.elim id fun h => absurd rfl h.1
      have htl : (t.list.take k).length = k := by rw [List.length_take]; omega
      have hlt2 : ∀ g, (Value.slice Ag (t.list.take k).length cg).ownBlock = some g → g < wr.heap.size := fun g h => (hgr.1.lt h).1
      have hDw : D ≤ wr.heap.size := by have := H1.out.2.2.2; have := hch.size; omega
      obtain ⟨⟨xss, how0, x2, x3, x4⟩, hgD⟩ := hgr
      rw [htl] at how0 hlt2 hgD
      have hk20 : k ≤ 1048576 := by omega
      have HR := Lib.hid (And.intro how0 (And.intro x2 (And.intro x3 (And.intro x4 (And.intro hgD hlt2)))))
      have HX := Lib.hid (And.intro hch (And.intro hcw (And.intro hkx (And.intro hRx (And.intro hb3 (And.intro htl (And.intro hDw hbB)))))))
      clear how0 x2 x3 x4 hgD hlt2 hch hcw hkx hRx hb3 htl hDw hbB hno1 c0 c1 c2 c3 y0 y1 y2 y3
      go_wp2_with fail
      have hS0 : wr.drew.cell? ⟨g3, 4, none⟩ = some (.slice Ag k cg) ∧ wr.drew.cell? ⟨g1, 4, none⟩ = some (.slice (some ⟨b, o, none⟩) t.list.length c) ∧ wr.drew.cell? ⟨b, o + k * 5, none⟩ = some (.int .i64 x.kind) ∧ wr.drew.cell? ⟨b, o + k * 5 + 1, none⟩ = some (.string x.text) ∧ wr.drew.cell? ⟨b, o + k * 5 + 2, none⟩ = some (.int .u64 x.n) ∧ wr.drew.cell? ⟨b, o + k * 5 + 3, none⟩ = some (.int .i64 x.at_) ∧ wr.drew.cell? ⟨b, o + k * 5 + 4, none⟩ = some (.slice X x.list.length cx) := ⟨y4, c4, z0, z1, z2, z3, z4⟩
      refine wp_region_G (S := fun w' => w'.cell? ⟨g3, 4, none⟩ = some (.slice Ag k cg) ∧ w'.cell? ⟨g1, 4, none⟩ = some (.slice (some ⟨b, o, none⟩) t.list.length c) ∧ w'.cell? ⟨b, o + k * 5, none⟩ = some (.int .i64 x.kind) ∧ w'.cell? ⟨b, o + k * 5 + 1, none⟩ = some (.string x.text) ∧ w'.cell? ⟨b, o + k * 5 + 2, none⟩ = some (.int .u64 x.n) ∧ w'.cell? ⟨b, o + k * 5 + 3, none⟩ = some (.int .i64 x.at_) ∧ w'.cell? ⟨b, o + k * 5 + 4, none⟩ = some (.slice X x.list.length cx)) 11 (by kernel_rfl) hS0 (fun hHeld => ?_)
      refine wpAnyG_take (i := 0) (v := ?va1) rfl (by kernel_rfl) (fun _ _ _ h => h) (Or.inl ⟨by rfl, ?hy1⟩) (by assumption) ?ra1
      case hy1 => (intro w hSw; (try dsimp only at hSw); go_simp; all_goals (with_reducible rfl))
      simp only [Act.put, List.setIfInBounds_toArray, List.set_cons_zero, List.set_cons_succ]
      refine wpAnyG_take (i := 1) (v := ?va2) rfl (by kernel_rfl) (fun _ _ _ h => h) (Or.inl ⟨by rfl, ?hy2⟩) (by assumption) ?ra2
      case hy2 => (intro w hSw; (try dsimp only at hSw); go_simp; all_goals (with_reducible rfl))
      simp only [Act.put, List.setIfInBounds_toArray, List.set_cons_zero, List.set_cons_succ]
      refine wpAnyG_take (i := 2) (v := ?va3) rfl (by kernel_rfl) (fun _ _ _ h => h) (Or.inl ⟨by rfl, ?hy3⟩) (by assumption) ?ra3
      case hy3 => (intro w hSw; (try dsimp only at hSw); go_simp; all_goals (with_reducible rfl))
      simp only [Act.put, List.setIfInBounds_toArray, List.set_cons_zero, List.set_cons_succ]
      refine wpAnyG_take (i := 3) (v := ?va4) rfl (by kernel_rfl) (fun _ _ _ h => h) (Or.inl ⟨by rfl, ?hy4⟩) (by assumption) ?ra4
      case hy4 => (intro w hSw; (try dsimp only at hSw); go_simp; all_goals (with_reducible rfl))
      simp only [Act.put, List.setIfInBounds_toArray, List.set_cons_zero, List.set_cons_succ]
      refine wpAnyG_take (i := 4) (v := ?va5) rfl (by kernel_rfl) (fun _ _ _ h => h) (Or.inl ⟨by rfl, ?hy5⟩) (by assumption) ?ra5
      case hy5 => (intro w hSw; (try dsimp only at hSw); go_simp; all_goals (with_reducible rfl))
      simp only [Act.put, List.setIfInBounds_toArray, List.set_cons_zero, List.set_cons_succ]
      refine wpAnyG_take (i := 5) (v := ?va6) rfl (by kernel_rfl) (fun _ _ _ h => h) (Or.inl ⟨by rfl, ?hy6⟩) (by assumption) ?ra6
      case hy6 => (intro w hSw; (try dsimp only at hSw); go_simp; all_goals (with_reducible rfl))
      simp only [Act.put, List.setIfInBounds_toArray, List.set_cons_zero, List.set_cons_succ]
      refine wpAnyG_take (i := 6) (v := ?va7) rfl (by kernel_rfl) (fun _ _ _ h => h) (Or.inl ⟨by rfl, ?hy7⟩) (by assumption) ?ra7
      case hy7 => (intro w hSw; (try dsimp only at hSw); go_simp; all_goals (with_reducible rfl))
      simp only [Act.put, List.setIfInBounds_toArray, List.set_cons_zero, List.set_cons_succ]
      refine wpAnyG_ready (rs := [7]) (by kernel_rfl) (by simp) ?_
      refine AllReadyG.cons rfl (fun K hK => ?_) AllReadyG.nil
      go_simp
      go_at_call 13
      refine (HP.out.2.2.2 B wr.drew x X cx (Nat.le_trans HP.out.1 HX.out.2.1.size) (NdR.keep0 ((Chg.refl (fun _ _ => False) wr).drew) HX.out.2.2.2.1)).mono ?_
      rintro e w7 ⟨X7, c7, rfl, hN, hc7⟩
      have hc7' : Chg (fun _ _ => False) wr w7 := hc7.drewl
      have v0 := hc7'.cell y4 fun _ => id
      have v1 := hc7'.cell c4 fun _ => id
      have v2 := hc7'.cell z0 fun _ => id
      have v3 := hc7'.cell z1 fun _ => id
      have v4 := hc7'.cell z2 fun _ => id
      have v5 := hc7'.cell z3 fun _ => id
      have v6 := hc7'.cell z4 fun _ => id
      have s0 := fun ob => (chg_alloc w7 ob).cell v0 fun _ => id
      have s1 := fun ob => (chg_alloc w7 ob).cell v1 fun _ => id
      have s2 := fun ob => (chg_alloc w7 ob).cell v2 fun _ => id
      have s3 := fun ob => (chg_alloc w7 ob).cell v3 fun _ => id
      have s4 := fun ob => (chg_alloc w7 ob).cell v4 fun _ => id
      have s5 := fun ob => (chg_alloc w7 ob).cell v5 fun _ => id
      have s6 := fun ob => (chg_alloc w7 ob).cell v6 fun _ => id
      have HN := Lib.hid (And.intro hN hc7')
      clear hN hc7 hc7'
      refine hK.out _ _ ⟨v0, v1, v2, v3, v4, v5, v6⟩ (fun hHeld => ?_)
      clear hK K
      try simp only [Act.put, List.setIfInBounds_toArray, List.set_cons_zero, List.set_cons_succ]
      refine wpAnyG_ready (rs := [8]) (by kernel_rfl) (by simp) ?_
      refine AllReadyG.cons rfl (fun K hK => ?_) AllReadyG.nil
      go_simp
      refine hK.out _ _ ⟨s0 _, s1 _, s2 _, s3 _, s4 _, s5 _, s6 _⟩ (fun hHeld => ?_)
      clear hK K
      try simp only [Act.put, List.setIfInBounds_toArray, List.set_cons_zero, List.set_cons_succ]
      refine wpAnyG_ready (rs := [9]) (by kernel_rfl) (by simp) ?_
      refine AllReadyG.cons rfl (fun K hK => ?_) AllReadyG.nil
      refine step_append_blk _ rfl (.tmp 22) (.tmp 29) 23 rfl 0 25 i25 _ 5 64 Tryd.underlying23 hi25 hz25 hs25 hb25 rfl (by omega) Ag k cg xss.flatten (by first | rfl | simp [Act.eval, Act.put]) (Chg.own (M := fun _ _ => False) (HN.out.2.trans (by repeat' (first | exact Chg.refl (fun _ _ => False) _ | apply Chg.drew | apply Chg.drewN | apply Chg.alloc))) HR.out.1 fun _ _ => id) 1 1 [.int .i64 x.kind, .string x.text, .int .u64 x.n, .int .i64 x.at_, .slice X7 x.list.length c7] w7.heap.size (by first | rfl | simp [Act.eval, Act.put]) (by first | exact Blk.new _ _ _ | exact (Blk.new _ _ _).drew) rfl (one_nd _ _ _ _ _ _ _) (by simp only [maxLen]; omega) (by omega) (Nat.zero_le _) ?_
      intro A6 c6 w8 hown6 hg6 hp6
      obtain ⟨hN, hc7⟩ := HN.out
      obtain ⟨how0, x2, x3, x4, hgD, hlt2⟩ := HR.out
      obtain ⟨hch, hcw, hkx, hRx, hb3, htl, hDw, hbB⟩ := HX.out
      have hpush := GrowR.push (x := x) (cs := ndCells x.kind x.text x.n x.at_ X7 x.list.length c7) (ndN_keepR n) (ndN_subR n) x2 x3 x4 (by rw [htl]; exact hgD) hDw hc7 (by rw [htl]; exact hc7.own how0 fun _ _ => id) (by rw [htl]; exact hlt2) hN rfl (by rw [htl]; exact ⟨hown6, hg6, hp6⟩)
      have hch8 := hpush.2
      rw [htl] at hch8
      have hdd := H1.out.2.2.2
      have hno8 : ∀ t, ¬ ((Value.slice Ag k cg).ownBlock = some g3 ∧ t = 25) := fun t h => by have := hgD g3 h.1; omega
      have hno1 : ∀ t, ¬ ((Value.slice Ag k cg).ownBlock = some g1 ∧ t = 25) := fun t h => by have := hgD g1 h.1; omega
      have hnob : ∀ t, ¬ ((Value.slice Ag k cg).ownBlock = some b ∧ t = 25) := fun t h => by have := hgD b h.1; have := HP.out.1; omega
      have f0 := hch8.cell v0 hno8
      have f1 := hch8.cell v1 hno1
      have f2 := hch8.cell v2 hnob
      have f3 := hch8.cell v3 hnob
      have f4 := hch8.cell v4 hnob
      have f5 := hch8.cell v5 hnob
      have f6 := hch8.cell v6 hnob
      have hb38 := hch8.blk (hc7.blk hb3 id) (hno8 _)
      have fz := hb38.frozen 4
      have HZ := Lib.hid (And.intro hpush.1 (And.intro hch8 hb38))
      clear hN hc7 how0 x2 x3 x4 hgD hlt2 hch hcw hkx hRx hb3 htl hDw hbB hpush hch8 hdd hno8 hno1 hnob hb38 hown6 hg6 hp6
      refine hK.out _ _ ⟨f0, f1, f2, f3, f4, f5, f6⟩ (fun hHeld => ?_)
      clear hK K
      try simp only [Act.put, List.setIfInBounds_toArray, List.set_cons_zero, List.set_cons_succ]
      refine wpAnyG_take (i := 10) (v := ?va8) rfl (by kernel_rfl) (fun _ _ _ h => h) (Or.inl ⟨by rfl, ?hy8⟩) (by assumption) ?ra8
      case hy8 => (intro w hSw; (try dsimp only at hSw); go_simp; all_goals (with_reducible rfl))
      simp only [Act.put, List.setIfInBounds_toArray, List.set_cons_zero, List.set_cons_succ]
      refine wpAnyG_last rfl (by kernel_rfl) (by kernel_rfl) (fun K hK => ?_)
      go_simp
      refine hK.out _ _ ?_
      clear hK K
      try simp only [Act.put, List.setIfInBounds_toArray, List.set_cons_zero, List.set_cons_succ]
      clear hHeld hS0 v0 v1 v2 v3 v4 v5 v6 s0 s1 s2 s3 s4 s5 s6 f0 f1 f2 f3 f4 f5 f6 fz y4 c4 z0 z1 z2 z3 z4
      go_wp2_with fail
      go_roundw
      case rel =>
        obtain ⟨hg, hch8, hb38⟩ := HZ.out
        obtain ⟨hch, hcw, hkx, hRx, hb3, htl, hDw, hbB⟩ := HX.out
        obtain ⟨_, hc7⟩ := HN.out
        have hgD := HR.out.2.2.2.2.1
        have hdd := H1.out.2.2.2
        have hset := chg_set (j := 4) hb38 (.slice A6 (k + 1) c6)
        have htk : t.list.take (k + 1) = t.list.take k ++ [x] := by
          obtain ⟨h1, h2⟩ := List.getElem?_eq_some_iff.1 hkx
          rw [List.take_succ_eq_append_getElem h1, h2]
        refine ⟨k + 1, A6, c6, hlt, by simp, by simpa using hb38.set_ 4 (.slice A6 (k + 1) c6), ?_, ?_⟩
        · rw [htk]
          exact hg.keep hset (fun b hb h => by have := h.1; omega) fun G hG cs p h => ndN_keepR n G _ _ _ hset (fun b hb h => by have := hG b hb; have := h.1; omega) cs p h
        · exact ((hch.trans_le hc7 fun _ _ _ h => h.elim).trans_le hch8 fun b t hb h => by have := hgD b h.1; omega).trans_le hset fun b t _ h => h
      case measure => simp [intOf]; omega
    · have q1 : decide (k < t.list.length) = false := decide_eq_false hlt
      obtain rfl : k = t.list.length := by omega
      have hcw : Chg (fun _ _ => False) w wr := H1.out.2.2.1.trans_new hch fun b t hb h => by have := h.1; have := H1.out.2.2.2; omega
      have hb2r := hch.blk H1.out.2.1 (fun h => by have := h.1; have := H1.out.2.2.2; omega)
      have hgr2 := hgr.rowG fun G G' hG cs x h => ndN_subR n G G' wr hG cs x h
      rw [List.take_length] at hgr2
      obtain ⟨d0, d1, d2, d3, d4⟩ := hb2r.cells5
      have e0 := hb2r.frozen 0
      have e1 := hb2r.frozen 1
      have e2 := hb2r.frozen 2
      have e3 := hb2r.frozen 3
      have e4 := hb2r.frozen 4
      have HR := Lib.hid (And.intro hgr2 (And.intro hcw hb2r))
      clear hgr hgr2 hch hcw hb3 hb2r hno1
      go_wp2_with fail
      clear y0 y1 y2 y3 y4 c0 c1 c2 c3 c4 d0 d1 d2 d3 d4 e0 e1 e2 e3 e4
      obtain ⟨hbz, hcz⟩ := blk_set5 HR.out.2.2 (.int .i64 t.kind) (.string t.text) (.int .u64 t.n) (.int .i64 t.at_) (.slice Ag t.list.length cg)
      obtain ⟨d0, d1, d2, d3, d4⟩ := hbz.cells5
      refine bodyPost_ret (v := .agg #[.int .i64 t.kind, .string t.text, .int .u64 t.n, .int .i64 t.at_, .slice Ag t.list.length cg]) (by simp [results, Tryd.results13, go_sem, d0, d1, d2, d3, d4]) rfl ?_
      refine ⟨Ag, cg, rfl, ⟨HP.out.2.2.1, Ag, cg, rfl, ?_⟩, HR.out.2.1.trans_new hcz fun b t hb h => by have := h.1; have := H1.out.2.2.2; omega⟩
      exact (HR.out.1.keep hcz (fun b hb h => by have := h.1; have := H1.out.2.2.2; omega) fun cs p h => NdN.keep hcz (fun b hb h => by have := h.1; have := H1.out.2.2.2; omega) h).imp (fun b _ h => by have := H1.out.2.2.2; omega) fun cs p h => NdN.sub (fun b _ h => by have := H1.out.2.2.2; omega) h
theorem own_any : ∀ n, OwnC n
  | 0 => fun B w t A c hB hT => hT.elim
  | n + 1 => own_step n (own_any n)
end Go.Proofs.YtgaodjoddfjfmaaDoor
