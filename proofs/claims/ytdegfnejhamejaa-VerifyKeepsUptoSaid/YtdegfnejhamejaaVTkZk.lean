/-
  verify.Takes: what an instruction takes and leaves, in memory of its own.
-/
import Derived.Test.YtdegfnejhamejaaRevZk
namespace Go.Proofs.Ytdegfnejhamejaa
open Go.RowKit
set_option linter.unusedVariables false
set_option linter.unusedSimpArgs false

/-- What stands in the two variables, once the instruction was met. -/
def TkS (n0 gt gl : Nat) (G : Nat → Prop) (w : World) (a b : List Int) : Prop := ∃ A c A' c', Blk w gt 31 #[.slice A a.length c] ∧ Blk w gl 31 #[.slice A' b.length c'] ∧ RowR n0 3 1 IntV w A c a ∧ RowR n0 3 1 IntV w A' c' b ∧ (∀ x, OwnB A a.length c x → G x) ∧ ∀ x, OwnB A' b.length c' x → G x
set_option maxRecDepth 100000 in
set_option maxHeartbeats 4000000 in
theorem takes1_met (ga gc gt gl p a0 kk : Nat) (hh : Hd) (w : World) (s : VSt) (hC : CkI hh kk w s) (hp : hh.p = p) (hga : Blk w ga 3 #[.int .i64 (a0 : Int)]) (hgc : Blk w gc 62 #[.pointer (some ⟨p, 0, none⟩)]) (u v : Value) (hgt : Blk w gt 31 #[u]) (hgl : Blk w gl 31 #[v]) (hne : gt ≠ gl) :
    Calls Try.prog 28 (#[.int .i64 (a0 : Int)] ++ #[.pointer (some ⟨ga, 0, none⟩), .pointer (some ⟨gc, 0, none⟩), .pointer (some ⟨gt, 0, none⟩), .pointer (some ⟨gl, 0, none⟩)]) w fun e w' => e = .returned (.tuple #[]) ∧ Chg (fun b _ => b = gt ∨ b = gl) w w' ∧ TkS w.heap.size gt gl (fun b => w.heap.size ≤ b ∧ b < w'.heap.size) w' s.taken.reverse s.left := by
  obtain ⟨As, cs, At, ct, Al, cl, kn, HR⟩ := hC
  have a0' : w.cell? ⟨ga, 0, none⟩ = some (.int .i64 (a0 : Int)) := by simpa using hga.cell 0
  have c0 : w.cell? ⟨gc, 0, none⟩ = some (.pointer (some ⟨p, 0, none⟩)) := by simpa using hgc.cell 0
  have p9 : w.cell? ⟨p, 9, none⟩ = some (.slice At s.taken.length ct) := by rw [← hp]; simpa using HR.blk.cell 9
  have p10 : w.cell? ⟨p, 10, none⟩ = some (.slice Al s.left.length cl) := by rw [← hp]; simpa using HR.blk.cell 10
  have npt : p ≠ gt := fun e => by
    have h1 := HR.blk; have h2 := hgt
    rw [hp, e] at h1
    have := h1.symm.trans h2
    simp at this
  have npl : p ≠ gl := fun e => by
    have h1 := HR.blk; have h2 := hgl
    rw [hp, e] at h1
    have := h1.symm.trans h2
    simp at this
  have nct : gc ≠ gt := fun e => by
    have h1 := hgc; have h2 := hgt
    rw [e] at h1
    have := h1.symm.trans h2
    simp at this
  have ncl : gc ≠ gl := fun e => by
    have h1 := hgc; have h2 := hgl
    rw [e] at h1
    have := h1.symm.trans h2
    simp at this
  have hdr := (Chg.refl (fun _ _ => False) w).drew
  have hcl := cloneV_any 0 w.drew s.taken At ct (((HR.taken.keep1 hdr (fun _ _ => id) fun _ _ h => h).slr (by decide) 0)) (by have := HR.pt; omega)
  have hlr := HR.left
  have hpl := HR.plf
  have hpt := HR.pt
  have HB := Lib.hid (And.intro hgt (And.intro hgl (And.intro hlr hpl)))
  clear hga hgc hgt hgl HR hlr hpl
  simp only [List.append_toArray, List.cons_append, List.nil_append]
  go_enter Try.func28, Try.ntmps28
  go_wp2_with fail
  refine wp_region_G (S := (fun w' => Chg (fun b _ => b = gt ∨ b = gl) w w')) 11 (by kernel_rfl) (Chg.refl _ _).drew (fun hHeld => ?_)
  refine wpAnyG_take (i := 0) (v := ?va1) rfl (by kernel_rfl) (fun _ _ _ h => h) (Or.inl ⟨by kernel_rfl, ?hy1⟩) (by assumption) ?ra1
  case hy1 => (intro w hSw; (try dsimp only at hSw); have c0 := hSw.cell c0 (fun t hm => hm.elim nct ncl); have p9 := hSw.cell p9 (fun t hm => hm.elim npt npl); have p10 := hSw.cell p10 (fun t hm => hm.elim npt npl); clear hSw; go_simp; all_goals (with_reducible rfl))
  simp only [Act.put, List.setIfInBounds_toArray, List.set_cons_zero, List.set_cons_succ]
  refine wpAnyG_take (i := 1) (v := ?va2) rfl (by kernel_rfl) (fun _ _ _ h => h) (Or.inl ⟨by kernel_rfl, ?hy2⟩) (by assumption) ?ra2
  case hy2 => (intro w hSw; (try dsimp only at hSw); have c0 := hSw.cell c0 (fun t hm => hm.elim nct ncl); have p9 := hSw.cell p9 (fun t hm => hm.elim npt npl); have p10 := hSw.cell p10 (fun t hm => hm.elim npt npl); clear hSw; go_simp; all_goals (with_reducible rfl))
  simp only [Act.put, List.setIfInBounds_toArray, List.set_cons_zero, List.set_cons_succ]
  refine wpAnyG_take (i := 2) (v := ?va3) rfl (by kernel_rfl) (fun _ _ _ h => h) (Or.inl ⟨by kernel_rfl, ?hy3⟩) (by assumption) ?ra3
  case hy3 => (intro w hSw; (try dsimp only at hSw); have c0 := hSw.cell c0 (fun t hm => hm.elim nct ncl); have p9 := hSw.cell p9 (fun t hm => hm.elim npt npl); have p10 := hSw.cell p10 (fun t hm => hm.elim npt npl); clear hSw; go_simp; all_goals (with_reducible rfl))
  simp only [Act.put, List.setIfInBounds_toArray, List.set_cons_zero, List.set_cons_succ]
  refine wpAnyG_take (i := 3) (v := ?va4) rfl (by kernel_rfl) (fun _ _ _ h => h) (Or.inl ⟨by kernel_rfl, ?hy4⟩) (by assumption) ?ra4
  case hy4 => (intro w hSw; (try dsimp only at hSw); have c0 := hSw.cell c0 (fun t hm => hm.elim nct ncl); have p9 := hSw.cell p9 (fun t hm => hm.elim npt npl); have p10 := hSw.cell p10 (fun t hm => hm.elim npt npl); clear hSw; go_simp; all_goals (with_reducible rfl))
  simp only [Act.put, List.setIfInBounds_toArray, List.set_cons_zero, List.set_cons_succ]
  refine wpAnyG_take (i := 5) (v := ?va5) rfl (by kernel_rfl) (fun _ _ _ h => h) (Or.inl ⟨by kernel_rfl, ?hy5⟩) (by assumption) ?ra5
  case hy5 => (intro w hSw; (try dsimp only at hSw); have c0 := hSw.cell c0 (fun t hm => hm.elim nct ncl); have p9 := hSw.cell p9 (fun t hm => hm.elim npt npl); have p10 := hSw.cell p10 (fun t hm => hm.elim npt npl); clear hSw; go_simp; all_goals (with_reducible rfl))
  simp only [Act.put, List.setIfInBounds_toArray, List.set_cons_zero, List.set_cons_succ]
  refine wpAnyG_take (i := 6) (v := ?va6) rfl (by kernel_rfl) (fun _ _ _ h => h) (Or.inl ⟨by kernel_rfl, ?hy6⟩) (by assumption) ?ra6
  case hy6 => (intro w hSw; (try dsimp only at hSw); have c0 := hSw.cell c0 (fun t hm => hm.elim nct ncl); have p9 := hSw.cell p9 (fun t hm => hm.elim npt npl); have p10 := hSw.cell p10 (fun t hm => hm.elim npt npl); clear hSw; go_simp; all_goals (with_reducible rfl))
  simp only [Act.put, List.setIfInBounds_toArray, List.set_cons_zero, List.set_cons_succ]
  refine wpAnyG_take (i := 7) (v := ?va7) rfl (by kernel_rfl) (fun _ _ _ h => h) (Or.inl ⟨by kernel_rfl, ?hy7⟩) (by assumption) ?ra7
  case hy7 => (intro w hSw; (try dsimp only at hSw); have c0 := hSw.cell c0 (fun t hm => hm.elim nct ncl); have p9 := hSw.cell p9 (fun t hm => hm.elim npt npl); have p10 := hSw.cell p10 (fun t hm => hm.elim npt npl); clear hSw; go_simp; all_goals (with_reducible rfl))
  simp only [Act.put, List.setIfInBounds_toArray, List.set_cons_zero, List.set_cons_succ]
  refine wpAnyG_take (i := 8) (v := ?va8) rfl (by kernel_rfl) (fun _ _ _ h => h) (Or.inl ⟨by kernel_rfl, ?hy8⟩) (by assumption) ?ra8
  case hy8 => (intro w hSw; (try dsimp only at hSw); have c0 := hSw.cell c0 (fun t hm => hm.elim nct ncl); have p9 := hSw.cell p9 (fun t hm => hm.elim npt npl); have p10 := hSw.cell p10 (fun t hm => hm.elim npt npl); clear hSw; go_simp; all_goals (with_reducible rfl))
  simp only [Act.put, List.setIfInBounds_toArray, List.set_cons_zero, List.set_cons_succ]
  refine wpAnyG_ready (rs := [4]) (by kernel_rfl) (by simp) ?_
  refine AllReadyG.cons rfl (fun K hK => ?_) AllReadyG.nil
  go_simp
  go_at_call 27
  refine hcl.mono ?_
  rintro e w1 ⟨A1, c1, rfl, hr1, hc1⟩
  have hd1 := hdr.trans hc1
  have hcl2 := cloneV_any 0 w1 s.left Al cl (((HB.out.2.2.1.keep1 hd1 (fun _ _ => id) fun _ _ h => h).slr (by decide) 0)) (by have := HB.out.2.2.2; omega)
  refine hK.out _ _ (hHeld.trans (hc1.mono fun _ _ _ h => h.elim)) (fun hHeld => ?_)
  clear hK K hcl
  try simp only [Act.put, List.setIfInBounds_toArray, List.set_cons_zero, List.set_cons_succ]
  refine wpAnyG_ready (rs := [9]) (by kernel_rfl) (by simp) ?_
  refine AllReadyG.cons rfl (fun K hK => ?_) AllReadyG.nil
  go_simp
  go_at_call 27
  refine hcl2.mono ?_
  rintro e w2 ⟨A2, c2, rfl, hr2, hc2⟩
  have hd2 := hd1.trans hc2
  have hbt := hd2.blk HB.out.1 id
  have hbl := hd2.blk HB.out.2.1 id
  have t0 : w2.cell? ⟨gt, 0, none⟩ = some u := by simpa using hbt.cell 0
  have tf := hbt.frozen 0
  have hst := chg_set (j := 0) hbt (.slice A1 s.taken.length c1)
  have hbt' : Blk (w2.setCell ⟨gt, 0, none⟩ (.slice A1 s.taken.length c1)) gt 31 #[.slice A1 s.taken.length c1] := by simpa using hbt.set_ 0 (.slice A1 s.taken.length c1)
  have hbl' := hst.blk hbl (fun hm => hne hm.1.symm)
  have l0 : (w2.setCell ⟨gt, 0, none⟩ (.slice A1 s.taken.length c1)).cell? ⟨gl, 0, none⟩ = some v := by simpa using hbl'.cell 0
  have lf := hbl'.frozen 0
  have hsl := chg_set (j := 0) hbl' (.slice A2 s.left.length c2)
  have hbl'' : Blk ((w2.setCell ⟨gt, 0, none⟩ (.slice A1 s.taken.length c1)).setCell ⟨gl, 0, none⟩ (.slice A2 s.left.length c2)) gl 31 #[.slice A2 s.left.length c2] := by simpa using hbl'.set_ 0 (.slice A2 s.left.length c2)
  have hbt'' := hsl.blk hbt' (fun hm => hne hm.1)
  have hrt := ((hr1.keep1 hc2 (fun _ _ => id) fun _ _ h => h).keep1 hst (fun _ _ hm => absurd hm.2 (by decide)) fun _ _ h => h).keep1 hsl (fun _ _ hm => absurd hm.2 (by decide)) fun _ _ h => h
  have hrl := (hr2.keep1 hst (fun _ _ hm => absurd hm.2 (by decide)) fun _ _ h => h).keep1 hsl (fun _ _ hm => absurd hm.2 (by decide)) fun _ _ h => h
  have o1 : ∀ b, OwnB A1 s.taken.length c1 b → w.heap.size ≤ b ∧ b < w1.heap.size := fun b hb => hr1.ownIn hb
  have o2 : ∀ b, OwnB A2 s.left.length c2 b → w1.heap.size ≤ b ∧ b < w2.heap.size := fun b hb => hr2.ownIn hb
  have s1 : w.heap.size ≤ w1.heap.size := hd1.size
  have s2 : w1.heap.size ≤ w2.heap.size := hc2.size
  have s3 := hst.size
  have s4 := hsl.size
  have hH2 := hHeld.trans (hc2.mono fun _ _ _ h => h.elim)
  have hH3 := hH2.trans (hst.mono (M' := fun b _ => b = gt ∨ b = gl) fun _ _ _ hm => .inl hm.1)
  have hH4 := hH3.trans (hsl.mono (M' := fun b _ => b = gt ∨ b = gl) fun _ _ _ hm => .inr hm.1)
  have hrv := vrev_any hrt (by omega)
  have HZ := Lib.hid (And.intro hbt'' (And.intro hbl'' (And.intro hrl (And.intro o1 (And.intro o2 (And.intro s1 (And.intro s2 (And.intro s3 (And.intro s4 hH4)))))))))
  have z0 : ((w2.setCell ⟨gt, 0, none⟩ (.slice A1 s.taken.length c1)).setCell ⟨gl, 0, none⟩ (.slice A2 s.left.length c2)).cell? ⟨gt, 0, none⟩ = some (.slice A1 s.taken.length c1) := by simpa using hbt''.cell 0
  refine hK.out _ _ hH2 (fun hHeld => ?_)
  clear hK K hcl2 hbt hbl hst hbt' hbl' hsl hbl'' hbt'' hrt hrl o1 o2 s1 s2 s3 s4 hr1 hr2 hc1 hc2 hd1 hd2 hH4
  try simp only [Act.put, List.setIfInBounds_toArray, List.set_cons_zero, List.set_cons_succ]
  refine wpAnyG_ready (rs := [10]) (by kernel_rfl) (by simp) ?_
  refine AllReadyG.cons rfl (fun K hK => ?_) AllReadyG.nil
  go_simp
  refine hK.out _ _ hH3 (fun hHeld => ?_)
  clear hK K
  try simp only [Act.put, List.setIfInBounds_toArray, List.set_cons_zero, List.set_cons_succ]
  refine wpAnyG_last rfl (by kernel_rfl) (by kernel_rfl) (fun K hK => ?_)
  go_simp
  refine hK.out _ _ ?_
  clear hK K hHeld hH2 hH3 t0 tf l0 lf a0' c0 p9 p10
  try simp only [Act.put, List.setIfInBounds_toArray, List.set_cons_zero, List.set_cons_succ]
  generalize (w2.setCell ⟨gt, 0, none⟩ (.slice A1 s.taken.length c1)).setCell ⟨gl, 0, none⟩ (.slice A2 s.left.length c2) = W3 at *
  go_wp2_with fail
  refine hrv.mono fun e w4 h => ?_
  obtain ⟨rfl, hr4, hc4⟩ := h
  obtain ⟨hbt, hbl, hrl, o1, o2, s1, s2, s3, s4, hH4⟩ := HZ.out
  have hs5 := hc4.size
  have HE : Chg (fun b _ => b = gt ∨ b = gl) w w4 := hH4.trans_le hc4 fun b t hb hm => by have := o1 b hm.1; omega
  have HT : TkS w.heap.size gt gl (fun b => w.heap.size ≤ b ∧ b < w4.heap.size) w4 s.taken.reverse s.left := by
    refine ⟨A1, c1, A2, c2, by rw [List.length_reverse]; exact hc4.blk hbt (fun hm => absurd hm.2 (by decide)), hc4.blk hbl (fun hm => absurd hm.2 (by decide)), hr4, (hrl.keep1 hc4 (fun b hb hm => by have := o1 b hm.1; have := o2 b hb; omega) fun _ _ h => h).rebase (by omega), fun x hx => ?_, fun x hx => ?_⟩
    · rw [List.length_reverse] at hx
      have := o1 x hx; omega
    · have := o2 x hx; omega
  have HX := Lib.hid (And.intro HE HT)
  clear HE HT hrv HZ hbt hbl hrl o1 o2 s1 s2 s3 s4 hH4 hs5 hr4 hc4 z0
  go_wp2_with fail
  go_end0
  exact ⟨rfl, HX.out⟩
set_option maxRecDepth 100000 in
theorem takes1_other (ga gc gt gl a0 : Nat) (k : Nat) (hk : k ≠ a0) (w : World) (hga : Blk w ga 3 #[.int .i64 (a0 : Int)]) :
    Calls Try.prog 28 (#[.int .i64 (k : Int)] ++ #[.pointer (some ⟨ga, 0, none⟩), .pointer (some ⟨gc, 0, none⟩), .pointer (some ⟨gt, 0, none⟩), .pointer (some ⟨gl, 0, none⟩)]) w fun e w' => e = .returned (.tuple #[]) ∧ w' = w := by
  have a0' : w.cell? ⟨ga, 0, none⟩ = some (.int .i64 (a0 : Int)) := by simpa using hga.cell 0
  have hk' : ((k : Int) == (a0 : Int)) = false := by simp; omega
  simp only [List.append_toArray, List.cons_append, List.nil_append]
  go_enter Try.func28, Try.ntmps28
  go_wp2_with fail
  go_end0
  exact ⟨rfl, rfl⟩
end Go.Proofs.Ytdegfnejhamejaa

