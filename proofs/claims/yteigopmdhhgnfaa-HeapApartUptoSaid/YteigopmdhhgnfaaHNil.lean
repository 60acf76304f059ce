/-
  What a nil heap answers; the names of a heap's objects where there are none.
-/
import Derived.Test.YteigopmdhhgnfaaNRange
import Derived.Test.YteigopmdhhgnfaaIMap
namespace Go.Proofs.Yteigopmdhhgnfaa
open Go.RowKit
attribute [local go_sem] Oper.semAt_some
set_option linter.unusedVariables false
set_option linter.unusedSimpArgs false

def NilH (v : Value) (w : World) (e : Ending) (w' : World) : Prop := e = .returned v ∧ Chg (fun _ _ => False) w w'
set_option maxRecDepth 100000 in
theorem halloc_nil (w : World) : Calls Try.prog 13 #[.pointer none, .slice none 0 0, .slice none 0 0] w (NilH (.tuple #[.int .i64 0, .int .i64 2]) w) := by
  go_enter Try.func13, Try.ntmps13
  go_wp2_with fail
  go_ret2
  exact ⟨rfl, Chg.refl _ _⟩
set_option maxRecDepth 100000 in
theorem hcell_nil (w : World) (o i : Int) : Calls Try.prog 34 #[.pointer none, .int .i64 o, .int .i64 i] w (NilH (.tuple #[.pointer none, .int .i64 2]) w) := by
  go_enter Try.func34, Try.ntmps34
  go_wp2_with fail
  go_ret2
  exact ⟨rfl, Chg.refl _ _⟩
set_option maxRecDepth 100000 in
theorem hget_nil (w : World) (o i : Int) : Calls Try.prog 17 #[.pointer none, .int .i64 o, .int .i64 i] w (NilH (.tuple #[.int .u64 0, .bool false, .int .i64 2]) w) := by
  have hc := hcell_nil w o i
  go_enter Try.func17, Try.ntmps17
  go_wp2_with fail
  refine hc.mono fun e w1 h => ?_
  obtain ⟨rfl, hc1⟩ := h
  clear hc
  have HC := Lib.hid hc1
  clear hc1
  go_wp2_with fail
  go_ret3
  exact ⟨rfl, HC.out⟩
set_option maxRecDepth 100000 in
theorem hset_nil (w : World) (o i : Int) (n : Nat) : Calls Try.prog 30 #[.pointer none, .int .i64 o, .int .i64 i, .int .u64 n] w (NilH (.int .i64 2) w) := by
  have hc := hcell_nil w o i
  go_enter Try.func30, Try.ntmps30
  go_wp2_with fail
  refine hc.mono fun e w1 h => ?_
  obtain ⟨rfl, hc1⟩ := h
  clear hc
  have HC := Lib.hid hc1
  clear hc1
  go_wp2_with fail
  go_ret
  exact ⟨rfl, HC.out⟩
set_option maxRecDepth 100000 in
theorem hlen_nil (w : World) (o : Int) : Calls Try.prog 16 #[.pointer none, .int .i64 o] w (NilH (.tuple #[.int .i64 0, .int .i64 2]) w) := by
  have hc := hcell_nil w o 0
  go_enter Try.func16, Try.ntmps16
  go_wp2_with fail
  refine hc.mono fun e w1 h => ?_
  obtain ⟨rfl, hc1⟩ := h
  clear hc
  have HC := Lib.hid hc1
  clear hc1
  go_wp2_with fail
  go_ret2
  exact ⟨rfl, HC.out⟩
set_option maxRecDepth 100000 in
theorem hcollect_nil (w : World) : Calls Try.prog 23 #[.pointer none, .slice none 0 0] w (NilH (.tuple #[.int .i64 0, .int .i64 2]) w) := by
  go_enter Try.func23, Try.ntmps23
  go_wp2_with fail
  go_ret2
  exact ⟨rfl, Chg.refl _ _⟩
set_option maxRecDepth 100000 in
theorem hreach_nil (w : World) : Calls Try.prog 18 #[.pointer none, .slice none 0 0] w (NilH (.tuple #[.slice none 0 0, .int .i64 2]) w) := by
  go_enter Try.func18, Try.ntmps18
  go_wp2_with fail
  go_ret2
  exact ⟨rfl, Chg.refl _ _⟩
set_option maxRecDepth 100000 in
theorem hused_nil (w : World) : Calls Try.prog 22 #[.pointer none] w (NilH (.int .i64 0) w) := by
  go_enter Try.func22, Try.ntmps22
  go_wp2_with fail
  go_ret
  exact ⟨rfl, Chg.refl _ _⟩
set_option maxRecDepth 100000 in
theorem hcopy_nil (w : World) : Calls Try.prog 27 #[.pointer none] w (NilH (.pointer none) w) := by
  go_enter Try.func27, Try.ntmps27
  go_wp2_with fail
  go_ret
  exact ⟨rfl, Chg.refl _ _⟩
theorem seqI_nil (cs : Array Value) (w : World) : (binOp .eql 86 (.func (.func 55) #[] cs) .nilFunc).run Try.prog w = .ok (.bool false) w := by
  have h : ∀ d, (Op.equalIn (d + 1) 86 (.func (.func 55) #[] cs) .nilFunc).run Try.prog w = .ok false w := fun d => by simp [Op.equalIn, run_underlying Try.underlying86]
  simp only [binOp]
  simp [Op.equal, Op.maxDepth, h 9999]
set_option maxRecDepth 100000 in
/-- The iterator of no values hands out nothing. -/
theorem values1_none (gb D : Nat) (w : World) (hb : Blk w gb 24 #[.slice none 0 0]) : WalksN Try.prog 55 #[.pointer (some ⟨gb, 0, none⟩)] 0 D (fun _ _ _ _ => False) w := by
  intro l J Jx O W hc hJ hJx hJO hY h0
  have y0 : W.cell? ⟨gb, 0, none⟩ = some (.slice none 0 0) := by simpa using (hc.blk hb id).cell 0
  have HJ := Lib.hid h0
  clear hb hc hJ hJx hJO hY h0
  show Calls Try.prog 55 #[.func (.yield l) #[] #[], .pointer (some ⟨gb, 0, none⟩)] W _
  go_enter Try.func55, Try.ntmps55
  go_wp2_with fail
  go_loopw [7] (fun i wr => i = .int .i64 0 ∧ wr = W) (fun _ _ => 0)
  case atStart => exact ⟨rfl, rfl⟩
  case round =>
    obtain ⟨rfl, rfl⟩ := hrel
    go_wp2_with fail
    go_end0
    exact ⟨⟨_, rfl⟩, .inl ⟨O, HJ.out⟩⟩
theorem values1_enters (args : Array Value) (w : World) : (callFunc 55 args).run Try.prog w = .ok (.enter 55 args) w := by
  simp [callFunc, Try.func55, go_sem]
  rw [if_neg (by decide +kernel), if_neg (fun h => by cases h)]
set_option maxRecDepth 100000 in
theorem hall_nil (w : World) : Calls Try.prog 39 #[.pointer none] w fun e w' => e = .returned (.func (.func 55) #[] #[.pointer (some ⟨w.heap.size, 0, none⟩)]) ∧ Blk w' w.heap.size 24 #[.slice none 0 0] ∧ Chg (fun _ _ => False) w w' := by
  have hv : Calls Try.prog 50 #[.slice none 0 0] w fun e w' => e = .returned (.func (.func 55) #[] #[.pointer (some ⟨w.heap.size, 0, none⟩)]) ∧ Blk w' w.heap.size 24 #[.slice none 0 0] ∧ Chg (fun _ _ => False) w w' := by
    have hb := Blk.new w 24 #[.slice none 0 0]
    have hc := chg_alloc w (.cells #[.slice none 0 0] 24)
    have HC := Lib.hid (And.intro hb hc)
    clear hb hc
    go_enter Try.func50, Try.ntmps50
    go_wp2_with fail
    go_ret
    exact ⟨rfl, HC.out⟩
  go_enter Try.func39, Try.ntmps39
  go_wp2_with fail
  refine hv.mono fun e w1 h => ?_
  obtain ⟨rfl, hb, hc⟩ := h
  clear hv
  have HC := Lib.hid (And.intro hb hc)
  clear hb hc
  go_wp2_with fail
  go_ret
  exact ⟨rfl, HC.out⟩
set_option maxRecDepth 100000 in
set_option maxHeartbeats 2000000 in
theorem names_nil (w : World) : Calls Try.prog 24 #[.pointer none] w (NilH (.tuple #[.slice none 0 0, .bool true]) w) := by
  have hb2 := (Blk.new w 24 #[.slice none 0 0]).alloc (.cells #[.bool false] 4)
  have hb3 := Blk.new (w.alloc (.cells #[.slice none 0 0] 24)) 4 #[.bool false]
  have hc0 := (chg_alloc w (.cells #[.slice none 0 0] 24)).alloc (.cells #[.bool false] 4)
  simp only [World.size_alloc] at hb3
  refine (callsIn_wide (n := 3)).1 ?_
  refine callsIn_of_wp_marks Try.func24 rfl trivial ?_ rfl
  simp only [Try.ntmps24, List.size_toArray, List.length_cons, List.length_nil, Nat.reduceAdd, Nat.reduceSub, Array.replicate_succ, Array.replicate_zero, List.push_toArray, List.append_toArray, List.nil_append, List.cons_append]
  refine wpIn_wide.2 ?_
  go_wp2_with fail
  obtain ⟨W, hW⟩ : ∃ W, (w.alloc (.cells #[.slice none 0 0] 24)).alloc (.cells #[.bool false] 4) = W := ⟨_, rfl⟩
  rw [hW] at hb2 hb3 hc0 ⊢
  clear hW
  obtain ⟨g2, hg2⟩ : ∃ g2, w.heap.size = g2 := ⟨_, rfl⟩
  obtain ⟨g3, hg3⟩ : ∃ g3, g2 + 1 = g3 := ⟨_, rfl⟩
  rw [hg2] at hb2 hb3
  rw [hg3] at hb3
  simp only [hg2, hg3]
  have HG := Lib.hid (And.intro hg2 hg3)
  have HB := Lib.hid (And.intro hb2 (And.intro hb3 hc0))
  clear hg2 hg3 hb2 hb3 hc0
  refine (hall_nil W).mono fun e w1 h => ?_
  obtain ⟨rfl, hv, hc1⟩ := h
  have hnil := seqI_nil #[.pointer (some ⟨W.heap.size, 0, none⟩)]
  have h5 := Blk.new w1 24 #[.slice none 0 0]
  have hc2 := chg_alloc w1 (.cells #[.slice none 0 0] 24)
  have H1 := Lib.hid (And.intro hv hc1)
  clear hv hc1
  go_wp2_with fail
  clear hnil
  obtain ⟨W0, hW0⟩ : ∃ W0, w1.alloc (.cells #[.slice none 0 0] 24) = W0 := ⟨_, rfl⟩
  rw [hW0] at h5 hc2 ⊢
  have hs0 : W0.heap.size = w1.heap.size + 1 := by rw [← hW0]; simp
  obtain ⟨g5, hg5⟩ : ∃ g5, w1.heap.size = g5 := ⟨_, rfl⟩
  rw [hg5] at h5 hs0
  simp only [hg5]
  have f2 := hc2.blk (H1.out.2.blk HB.out.1 id) id
  have f3 := hc2.blk (H1.out.2.blk HB.out.2.1 id) id
  have hwk := values1_none W.heap.size g5 W0 (hc2.blk H1.out.1 id)
  have hcW := H1.out.2.trans hc2
  have hlt : g2 < g5 ∧ g3 < g5 := by have h1 := (H1.out.2.blk HB.out.1 id).lt; have h2 := (H1.out.2.blk HB.out.2.1 id).lt; omega
  have HF := Lib.hid (And.intro f2 (And.intro f3 (And.intro h5 (And.intro (HB.out.2.2.trans hcW) (And.intro hlt hs0)))))
  clear hW0 hg5 f2 f3 h5 hc2 hcW hlt hs0 H1 HB
  refine (wpIn_wide (n := 3)).1 (range_law rfl values1_enters 0 g5 (fun _ _ _ _ => False) hwk (fun k args A B h => h.elim) (fun k O W => ChgL W0.heap.size W0 W ∧ ∀ b, ¬ O b) (fun _ _ _ => False) (fun k O A B hc h => ⟨h.1.trans hc, h.2⟩) (fun c k A B _ h => h)
    (fun k O A h b hb => absurd hb (h.2 b)) (fun _ => False) ⟨Chg.refl _ _, fun _ => id⟩ ?round ?done ?stop)
  case stop => intro E c k W _ _ h; exact h.elim
  case round => intro l m k O args Wa B hl hI hsz hAB hG hk; exact hG.elim
  case done =>
    intro E O Wz hE hI hDf
    have hno : ∀ (b T : Nat), T ≠ 0 → ¬ (W0.heap.size ≤ b ∧ T = 0) := fun b T h k => h k.2
    have b2 := hI.1.blk HF.out.1 (hno _ _ (by decide))
    have b3 := hI.1.blk HF.out.2.1 (hno _ _ (by decide))
    have b5 := hI.1.blk HF.out.2.2.1 (hno _ _ (by decide))
    have n23 : g2 ≠ g3 := by have := HG.out; omega
    have y5 : Wz.cell? ⟨g5, 0, none⟩ = some (.slice none 0 0) := by simpa using b5.cell 0
    have y2 : Wz.cell? ⟨g2, 0, none⟩ = some (.slice none 0 0) := by simpa using b2.cell 0
    have y2f := b2.frozen 0
    have b2a : Blk (Wz.setCell ⟨g2, 0, none⟩ (.slice none 0 0)) g2 24 #[.slice none 0 0] := by simpa using b2.set_ 0 (.slice none 0 0)
    have b3a := b3.far (p := ⟨g2, 0, none⟩) (Ne.symm n23) (.slice none 0 0)
    have y3 : (Wz.setCell ⟨g2, 0, none⟩ (.slice none 0 0)).cell? ⟨g3, 0, none⟩ = some (.bool false) := by simpa using b3a.cell 0
    have y3f := b3a.frozen 0
    have hq := ((chg_set (j := 0) b2 (.slice none 0 0)).mono (M' := fun b t => (b = g2 ∧ t = 24) ∨ (b = g3 ∧ t = 4)) fun _ _ _ h => .inl h).trans ((chg_set (j := 0) b3a (.bool true)).mono fun _ _ _ h => .inr h)
    have b3b : Blk ((Wz.setCell ⟨g2, 0, none⟩ (.slice none 0 0)).setCell ⟨g3, 0, none⟩ (.bool true)) g3 4 #[.bool true] := by simpa using b3a.set_ 0 (.bool true)
    have b2b := b2a.far (p := ⟨g3, 0, none⟩) n23 (.bool true)
    have HQ := Lib.hid (And.intro hI.1 (And.intro hE (And.intro hDf (And.intro hq (And.intro b2b b3b)))))
    clear hI hE hDf hq b2 b3 b5 b2a b3a b2b b3b hwk
    go_wp2_with fail
    obtain ⟨hI, hE, hDf, hq, b2, b3⟩ := HQ.out
    have hDe := hq.keep _ _ hDf fun h => by rcases h with h | h <;> exact absurd h.2 (by decide)
    have hcp := chgL_put (B := E) (.deferred none) (Nat.le_refl _) hDe rfl
    have z2 := (hcp.blk b2 fun h => absurd h.2 (by decide)).cell 0
    have z3 := (hcp.blk b3 fun h => absurd h.2 (by decide)).cell 0
    refine ⟨by simp, .inl ⟨_, _, rfl, run_takeDeferred hDe, ?_⟩⟩
    refine ⟨.tuple #[.slice none 0 0, .bool true], by simp [results, Try.results24, go_sem, z2, z3], rfl, ?_⟩
    have hws : w.heap.size ≤ W0.heap.size := HF.out.2.2.2.1.size
    refine ((HF.out.2.2.2.1.trans_new hI fun b t hb h => ?_).trans_new hq fun b t hb h => ?_).trans_new hcp fun b t hb h => ?_
    · have := h.1; omega
    · have := HG.out; rcases h with h | h <;> (have := h.1; omega)
    · have := h.1; omega
end Go.Proofs.Yteigopmdhhgnfaa
