/-
  function: where a function is wrong; what is wrong is told by a panic, and caught.
-/
import Derived.Test.YtdegfnejhamejaaCkXZk
import Derived.Test.YtdegfnejhamejaaHeldGZk
import Derived.Deep.RegionHeld3
import Derived.Recover
import Derived.Defers
namespace Go.Proofs.Ytdegfnejhamejaa
open Go.RowKit
set_option linter.unusedVariables false
set_option linter.unusedSimpArgs false

set_option maxRecDepth 100000 in
set_option maxHeartbeats 4000000 in
theorem catch_idle (p : Nat) (w : World) :
    CallsD Try.prog 48 #[.pointer (some ⟨p, 0, none⟩)] .returning w fun e u' w' => e = .returned (.tuple #[]) ∧ u' = .returning ∧ w' = w := by
  refine callsD_of_wpS Try.func48 rfl fun c₀ cs hu => ?_
  apply wpS_seq
  apply wpS_region
  simp [wpOpsS, go_sem, recoverD, hu, Try.ntmps48, Exit.thenS]
  refine wpS_of_wp ?_
  change Code.wp _ _ _ { tmps := #[.pointer (some ⟨p, 0, none⟩), .nilIface, undef, undef, .nilIface, undef, undef, undef, undef, undef, undef, undef, undef, undef, undef, undef, undef], defers := [] } _
  go_wp2_with fail
  cases c₀
  simp_all [bodyPostS, results, Try.results48]
set_option maxRecDepth 100000 in
set_option maxHeartbeats 4000000 in
theorem catch_wrong (p : Nat) (r x : Int) (w : World) (hc : w.cell? ⟨p, 0, none⟩ = some (.int .i64 x)) (hz : w.frozen? ⟨p, 0, none⟩ = false) (hp : p < w.heap.size) :
    CallsD Try.prog 48 #[.pointer (some ⟨p, 0, none⟩)] (.panicking [{ v := .iface 90 (.agg #[.int .i64 r]), recovered := false }]) w fun e u' w' =>
      e = .returned (.tuple #[]) ∧ u' = .panicking [{ v := .iface 90 (.agg #[.int .i64 r]), recovered := true }] ∧ w' = (w.setCell ⟨p, 0, none⟩ (.int .i64 r)).alloc (.cells #[.int .i64 r] 90) := by
  refine callsD_of_wpS Try.func48 rfl fun c₀ cs hu => ?_
  apply wpS_seq
  apply wpS_region
  simp [wpOpsS, go_sem, recoverD, hu, Try.ntmps48, Exit.thenS]
  refine wpS_of_wp ?_
  have hta : ∀ w, (Instr.typeAssert (.iface 90 (.agg #[.int .i64 r])) 20 90 true).run Try.prog w = .ok (.tuple #[.agg #[.int .i64 r], .bool true]) w := fun w => by kernel_rfl
  change Code.wp _ _ _ { tmps := #[.pointer (some ⟨p, 0, none⟩), (.iface 90 (.agg #[.int .i64 r])), undef, undef, (.iface 90 (.agg #[.int .i64 r])), undef, undef, undef, undef, undef, undef, undef, undef, undef, undef, undef, undef], defers := [] } _
  go_wp2_with fail
  cases c₀
  simp_all [bodyPostS, results, Try.results48]
/-! ## function -/
/-- One who listens to a function's checking. -/
structure UC (m : ModD) (f : FuncD) (B : Nat) where
  G0 : Nat → Prop
  J : Nat → (Nat → Prop) → World → Prop
  keep : ∀ k G M w w', J k G w → Chg M w w' → (∀ b t, M b t → ¬ (G0 b ∨ G b)) → J k G w'
  fu : FuncId
  env : Array Value
  enters : ∀ args w, (callFunc fu args).run Try.prog w = .ok (.enter fu args) w
  each : ∀ (k : Nat) G w (st : List Int) As cs base p, J k G w → atN m f k = some st → st.length ≤ 64 → RowR base 3 1 IntV w As cs st → B ≤ base → base ≤ w.heap.size → (∀ b, G0 b ∨ G b → b < w.heap.size) →
    Calls Try.prog fu (#[p, .int .i64 (k : Int), .slice As st.length cs] ++ env) w fun e w' => e = .returned (.tuple #[]) ∧ Chg (fun b _ => (G0 b ∨ G b) ∧ B ≤ b) w w' ∧ ∃ G', J (k + 1) G' w' ∧ (∀ b, G b → G' b) ∧ ∀ b, G' b → G b ∨ (w.heap.size ≤ b ∧ b < w'.heap.size)
def FunRes {m : ModD} {f : FuncD} {B : Nat} (U : UC m f B) (w : World) (e : Ending) (w' : World) : Prop :=
  Chg (fun b _ => U.G0 b ∧ B ≤ b) w w' ∧ e = .returned (.int .i64 (funcAt m f)) ∧ (funcAt m f = -1 → ∃ G, U.J f.code.length G w')
/-- The head of a function's checking. -/
def hdF (B p n0 n1 : Nat) (G0 : Nat → Prop) (m : ModD) (f : FuncD) (A1 : Option Addr) (c1 : Nat) (A2 : Option Addr) (c2 : Nat) (F1 : Option Addr) (f1 : Nat) (F2 : Option Addr) (f2 : Nat) (F3 : Option Addr) (f3 : Nat) : Hd :=
  { K := fun b => G0 b ∨ (n0 ≤ b ∧ b < n1 ∧ b ≠ p), B := B, base := n0, p := p, m := m, f := f, A1 := A1, c1 := c1, A2 := A2, c2 := c2, A3 := F1, c3 := f1, A4 := F2, c4 := f2, A5 := F3, c5 := f3, pos := 0, pl := .map none, dn := .nilFunc }
set_option maxRecDepth 100000 in
theorem fun2_any {m : ModD} {f : FuncD} {B : Nat} (U : UC m f B) (g5 g7 : Nat) (pv : Value) (k : Nat) (G : Nat → Prop) (w : World) (st : List Int) (As : Option Addr) (cs base : Nat)
    (hb5 : Blk w g5 63 #[.func (.func U.fu) #[] U.env]) (hb7 : Blk w g7 62 #[pv]) (hJ : U.J k G w) (ha : atN m f k = some st) (hl : st.length ≤ 64) (hr : RowR base 3 1 IntV w As cs st) (hB : B ≤ base) (hs : base ≤ w.heap.size) (hG : ∀ b, U.G0 b ∨ G b → b < w.heap.size) :
    Calls Try.prog 49 (#[.int .i64 (k : Int), .slice As st.length cs] ++ #[.pointer (some ⟨g5, 0, none⟩), .pointer (some ⟨g7, 0, none⟩)]) w fun e w' => e = .returned (.tuple #[]) ∧ Chg (fun b _ => (U.G0 b ∨ G b) ∧ B ≤ b) w w' ∧ ∃ G', U.J (k + 1) G' w' ∧ (∀ b, G b → G' b) ∧ ∀ b, G' b → G b ∨ (w.heap.size ≤ b ∧ b < w'.heap.size) := by
  have x5 : w.cell? ⟨g5, 0, none⟩ = some (.func (.func U.fu) #[] U.env) := by simpa using hb5.cell 0
  have x7 : w.cell? ⟨g7, 0, none⟩ = some pv := by simpa using hb7.cell 0
  have hcall := U.each k G w st As cs base pv hJ ha hl hr hB hs hG
  have hent := U.enters
  clear hb5 hb7 hJ ha hl hr hB hs hG
  simp only [List.append_toArray, List.cons_append, List.nil_append]
  go_enter Try.func49, Try.ntmps49
  go_wp2_with fail
  refine hcall.mono fun e w1 hh => ?_
  obtain ⟨rfl, h2⟩ := hh
  have H2 := Lib.hid h2
  clear h2 hcall hent
  go_wp2_with fail
  go_end0
  exact ⟨rfl, H2.out⟩
/-- What the checking of a function brings to its run. -/
def cliF {m : ModD} {f : FuncD} {B : Nat} (U : UC m f B) (p n0 n1 g5 g7 : Nat) (A1 : Option Addr) (c1 : Nat) (A2 : Option Addr) (c2 : Nat) (F1 : Option Addr) (f1 : Nat) (F2 : Option Addr) (f2 : Nat) (F3 : Option Addr) (f3 : Nat) (hB : B ≤ n0) (hlow : ∀ b, U.G0 b → b < n0)
    (h5 : n0 ≤ g5 ∧ g5 < n1 ∧ g5 ≠ p) (h7 : n0 ≤ g7 ∧ g7 < n1 ∧ g7 ≠ p) : Cli (hdF B p n0 n1 U.G0 m f A1 c1 A2 c2 F1 f1 F2 f2 F3 f3) where
  G0 := U.G0
  sub := fun b hb => .inl hb
  J := fun k G w => U.J k G w ∧ Blk w g5 63 #[.func (.func U.fu) #[] U.env] ∧ Blk w g7 62 #[.pointer (some ⟨p, 0, none⟩)]
  J2 := fun k G w => U.J (k + 1) G w ∧ Blk w g5 63 #[.func (.func U.fu) #[] U.env] ∧ Blk w g7 62 #[.pointer (some ⟨p, 0, none⟩)]
  keep := fun k G w w' hJ hc => ⟨U.keep k G _ w w' hJ.1 hc fun b t hm hh => hm.2 (hh.elim (fun h0 => .inl (.inl h0)) .inr), hc.blk hJ.2.1 fun hm => hm.2 (.inl (.inr h5)), hc.blk hJ.2.2 fun hm => hm.2 (.inl (.inr h7))⟩
  keep2 := fun k G w w' hJ hc => ⟨U.keep (k + 1) G _ w w' hJ.1 hc fun b t hm hh => hm.2 (hh.elim (fun h0 => .inl (.inl h0)) .inr), hc.blk hJ.2.1 fun hm => hm.2 (.inl (.inr h5)), hc.blk hJ.2.2 fun hm => hm.2 (.inl (.inr h7))⟩
  fe := 49
  env := #[.pointer (some ⟨g5, 0, none⟩), .pointer (some ⟨g7, 0, none⟩)]
  enters := fun _ _ => rfl
  each := fun k G w st As cs hJ ha hl hr hbs hlw hGK => (fun2_any U g5 g7 _ k G w st As cs n0 hJ.2.1 hJ.2.2 hJ.1 ha hl hr hB hbs fun b hb => hlw b (hb.elim (fun h0 => .inl (.inl h0)) .inr)).mono fun e w' hh => by
    obtain ⟨he, hc, G', h1, h2, h3⟩ := hh
    have hn : ∀ b, (n0 ≤ b ∧ b < n1 ∧ b ≠ p) → ¬ (U.G0 b ∨ G b) := fun b hb hh => hh.elim (fun h0 => by have := hlow b h0; have := hb.1; omega) fun hg => hGK b hg (.inr hb)
    exact ⟨he, hc, G', ⟨h1, hc.blk hJ.2.1 fun hm => hn _ h5 hm.1, hc.blk hJ.2.2 fun hm => hn _ h7 hm.1⟩, h2, h3⟩
  next := .inl ⟨rfl, fun _ _ _ h => h⟩
set_option maxRecDepth 100000 in
set_option maxHeartbeats 8000000 in
theorem function_any (w : World) (B : Nat) (m : ModD) (f : FuncD) (A1 A2 : Option Addr) (c1 c2 i : Nat) (hf : m.funcs[i]? = some f) (hT : ShapesR B w (.slice A1 m.types.length c1) m.types) (hF : FuncsR B w (.slice A2 m.funcs.length c2) m.funcs) (hfm : formedMod m = true) (hB : B ≤ w.heap.size)
    (U : UC m f B) (hJ : U.J 0 (fun _ => False) w) (hlow : ∀ b, U.G0 b → b < w.heap.size) (hp : (placesOf f.code).length < 4611686018427387904) (hpt : ∀ x ∈ f.code, x.cases.length < 4611686018427387904) :
    Calls Try.prog 19 #[.agg #[.slice A1 m.types.length c1, .slice A2 m.funcs.length c2], .int .i64 (i : Int), .func (.func U.fu) #[] U.env] w (FunRes U w) := by
  have hlt : i < m.funcs.length := (List.getElem?_eq_some_iff.1 hf).1
  obtain ⟨fb, fo, f', F1, f1, F2, f2, F3, f3, rfl, hf', hpI, hrI, hlo, hca, hco, g0, g1, g2, g3, g4⟩ := hF.at_ hlt
  obtain rfl : f' = f := by rw [hf] at hf'; injection hf' with h; exact h.symm
  have hc0 := ((chg_alloc w (.cells #[.slice A1 m.types.length c1, .slice (some ⟨fb, fo, none⟩) m.funcs.length c2] 25)).alloc (.cells #[.func (.func U.fu) #[] U.env] 63)).alloc (.cells #[.int .i64 0] 3)
  have hbm := ((Blk.new w 25 #[.slice A1 m.types.length c1, .slice (some ⟨fb, fo, none⟩) m.funcs.length c2]).alloc (.cells #[.func (.func U.fu) #[] U.env] 63)).alloc (.cells #[.int .i64 0] 3)
  have hb5 := (Blk.new (w.alloc (.cells #[.slice A1 m.types.length c1, .slice (some ⟨fb, fo, none⟩) m.funcs.length c2] 25)) 63 #[.func (.func U.fu) #[] U.env]).alloc (.cells #[.int .i64 0] 3)
  have hb6 := Blk.new ((w.alloc (.cells #[.slice A1 m.types.length c1, .slice (some ⟨fb, fo, none⟩) m.funcs.length c2] 25)).alloc (.cells #[.func (.func U.fu) #[] U.env] 63)) 3 #[.int .i64 0]
  have hsz : (((w.alloc (.cells #[.slice A1 m.types.length c1, .slice (some ⟨fb, fo, none⟩) m.funcs.length c2] 25)).alloc (.cells #[.func (.func U.fu) #[] U.env] 63)).alloc (.cells #[.int .i64 0] 3)).heap.size = w.heap.size + 3 := by simp [World.size_alloc]
  rw [World.size_alloc] at hb5
  rw [World.size_alloc, World.size_alloc] at hb6
  have y0 : (((w.alloc (.cells #[.slice A1 m.types.length c1, .slice (some ⟨fb, fo, none⟩) m.funcs.length c2] 25)).alloc (.cells #[.func (.func U.fu) #[] U.env] 63)).alloc (.cells #[.int .i64 0] 3)).cell? ⟨w.heap.size, 0, none⟩ = some (.slice A1 m.types.length c1) := by simpa using hbm.cell 0
  have y1 : (((w.alloc (.cells #[.slice A1 m.types.length c1, .slice (some ⟨fb, fo, none⟩) m.funcs.length c2] 25)).alloc (.cells #[.func (.func U.fu) #[] U.env] 63)).alloc (.cells #[.int .i64 0] 3)).cell? ⟨w.heap.size, 1, none⟩ = some (.slice (some ⟨fb, fo, none⟩) m.funcs.length c2) := by simpa using hbm.cell 1
  have g0 := hc0.cell g0 (fun _ => id)
  have g1 := hc0.cell g1 (fun _ => id)
  have g2 := hc0.cell g2 (fun _ => id)
  have g3 := hc0.cell g3 (fun _ => id)
  have g4 := hc0.cell g4 (fun _ => id)
  have hmf : ∀ (fn : Fn) (first cap : Array Value) (w : World), (Instr.makeFunc fn first cap).run Try.prog w = .ok (.func fn first cap) w := fun _ _ _ _ => rfl
  have q1 : (i : Int) < (m.funcs.length : Int) := by omega
  have HH := Lib.hid (And.intro hT (And.intro hF (And.intro hfm (And.intro hB (And.intro hJ (And.intro hlow (And.intro hp (And.intro hpt (And.intro hf (And.intro hlo (And.intro hca hco)))))))))))
  have HB := Lib.hid (And.intro hc0 (And.intro hb5 (And.intro hb6 hsz)))
  clear hT hF hfm hB hJ hlow hp hpt hf hlo hca hco hpI hrI hf' hc0 hbm hb5 hb6 hsz
  go_enter_defers Try.func19, Try.ntmps19
  go_wp2_with fail
  generalize (((w.alloc (.cells #[.slice A1 m.types.length c1, .slice (some ⟨fb, fo, none⟩) m.funcs.length c2] 25)).alloc (.cells #[.func (.func U.fu) #[] U.env] 63)).alloc (.cells #[.int .i64 0] 3)) = W at y0 y1 g0 g1 g2 g3 g4 HB ⊢
  refine wp_region_noPanic ?_
  refine wp_region_G (S := (fun w' => Chg (fun _ _ => False) W w')) 9 (by kernel_rfl) (Chg.refl _ _).drew (fun hHeld => ?_)
  refine wpAnyG_take (i := 0) (v := ?va1) rfl (by kernel_rfl) (fun _ _ _ h => h) (Or.inl ⟨by rfl, ?hy1⟩) (by assumption) ?ra1
  case hy1 => (intro w hSw; (try dsimp only at hSw); have y0 := hSw.cell y0 (fun _ => id); have y1 := hSw.cell y1 (fun _ => id); have g0 := hSw.cell g0 (fun _ => id); have g1 := hSw.cell g1 (fun _ => id); have g2 := hSw.cell g2 (fun _ => id); have g3 := hSw.cell g3 (fun _ => id); have g4 := hSw.cell g4 (fun _ => id); clear hSw; go_simp; all_goals (with_reducible rfl))
  simp only [Act.put, List.setIfInBounds_toArray, List.set_cons_zero, List.set_cons_succ]
  refine wpAnyG_take (i := 1) (v := ?va2) rfl (by kernel_rfl) (fun _ _ _ h => h) (Or.inl ⟨by rfl, ?hy2⟩) (by assumption) ?ra2
  case hy2 => (intro w hSw; (try dsimp only at hSw); have y0 := hSw.cell y0 (fun _ => id); have y1 := hSw.cell y1 (fun _ => id); have g0 := hSw.cell g0 (fun _ => id); have g1 := hSw.cell g1 (fun _ => id); have g2 := hSw.cell g2 (fun _ => id); have g3 := hSw.cell g3 (fun _ => id); have g4 := hSw.cell g4 (fun _ => id); clear hSw; go_simp; all_goals (with_reducible rfl))
  simp only [Act.put, List.setIfInBounds_toArray, List.set_cons_zero, List.set_cons_succ]
  refine wpAnyG_take (i := 2) (v := ?va3) rfl (by kernel_rfl) (fun _ _ _ h => h) (Or.inl ⟨by rfl, ?hy3⟩) (by assumption) ?ra3
  case hy3 => (intro w hSw; (try dsimp only at hSw); have y0 := hSw.cell y0 (fun _ => id); have y1 := hSw.cell y1 (fun _ => id); have g0 := hSw.cell g0 (fun _ => id); have g1 := hSw.cell g1 (fun _ => id); have g2 := hSw.cell g2 (fun _ => id); have g3 := hSw.cell g3 (fun _ => id); have g4 := hSw.cell g4 (fun _ => id); clear hSw; go_simp; all_goals (with_reducible rfl))
  simp only [Act.put, List.setIfInBounds_toArray, List.set_cons_zero, List.set_cons_succ]
  refine wpAnyG_take (i := 3) (v := ?va4) rfl (by kernel_rfl) (fun _ _ _ h => h) (Or.inl ⟨by rfl, ?hy4⟩) (by assumption) ?ra4
  case hy4 => (intro w hSw; (try dsimp only at hSw); have y0 := hSw.cell y0 (fun _ => id); have y1 := hSw.cell y1 (fun _ => id); have g0 := hSw.cell g0 (fun _ => id); have g1 := hSw.cell g1 (fun _ => id); have g2 := hSw.cell g2 (fun _ => id); have g3 := hSw.cell g3 (fun _ => id); have g4 := hSw.cell g4 (fun _ => id); clear hSw; go_simp; all_goals (with_reducible rfl))
  simp only [Act.put, List.setIfInBounds_toArray, List.set_cons_zero, List.set_cons_succ]
  refine wpAnyG_take (i := 4) (v := ?va5) rfl (by kernel_rfl) (fun _ _ _ h => h) (Or.inl ⟨by rfl, ?hy5⟩) (by assumption) ?ra5
  case hy5 => (intro w hSw; (try dsimp only at hSw); have y0 := hSw.cell y0 (fun _ => id); have y1 := hSw.cell y1 (fun _ => id); have g0 := hSw.cell g0 (fun _ => id); have g1 := hSw.cell g1 (fun _ => id); have g2 := hSw.cell g2 (fun _ => id); have g3 := hSw.cell g3 (fun _ => id); have g4 := hSw.cell g4 (fun _ => id); clear hSw; go_simp; all_goals (with_reducible rfl))
  simp only [Act.put, List.setIfInBounds_toArray, List.set_cons_zero, List.set_cons_succ]
  refine wpAnyG_take (i := 5) (v := ?va6) rfl (by kernel_rfl) (fun _ _ _ h => h) (Or.inl ⟨by rfl, ?hy6⟩) (by assumption) ?ra6
  case hy6 => (intro w hSw; (try dsimp only at hSw); have y0 := hSw.cell y0 (fun _ => id); have y1 := hSw.cell y1 (fun _ => id); have g0 := hSw.cell g0 (fun _ => id); have g1 := hSw.cell g1 (fun _ => id); have g2 := hSw.cell g2 (fun _ => id); have g3 := hSw.cell g3 (fun _ => id); have g4 := hSw.cell g4 (fun _ => id); clear hSw; go_simp; all_goals (with_reducible rfl))
  simp only [Act.put, List.setIfInBounds_toArray, List.set_cons_zero, List.set_cons_succ]
  refine wpAnyG_take (i := 6) (v := ?va7) rfl (by kernel_rfl) (fun _ _ _ h => h) (Or.inl ⟨by rfl, ?hy7⟩) (by assumption) ?ra7
  case hy7 => (intro w hSw; (try dsimp only at hSw); have y0 := hSw.cell y0 (fun _ => id); have y1 := hSw.cell y1 (fun _ => id); have g0 := hSw.cell g0 (fun _ => id); have g1 := hSw.cell g1 (fun _ => id); have g2 := hSw.cell g2 (fun _ => id); have g3 := hSw.cell g3 (fun _ => id); have g4 := hSw.cell g4 (fun _ => id); clear hSw; go_simp; all_goals (with_reducible rfl))
  simp only [Act.put, List.setIfInBounds_toArray, List.set_cons_zero, List.set_cons_succ]
  refine wpAnyG_ready (rs := [7, 8]) (by kernel_rfl) (by simp) ?_
  refine AllReadyG.cons rfl (fun K hK => ?_) (AllReadyG.cons rfl (fun K hK => ?_) AllReadyG.nil)
  · go_simp
    refine hK.out _ _ (hHeld.alloc _) (fun hHeld => ?_)
    clear hK K
    try simp only [Act.put, List.setIfInBounds_toArray, List.set_cons_zero, List.set_cons_succ]
    refine wpAnyG_ready (rs := [8]) (by kernel_rfl) (by simp) ?_
    refine AllReadyG.cons rfl (fun K hK => ?_) AllReadyG.nil
    go_simp
    refine hK.out _ _ (hHeld.alloc _) (fun hHeld => ?_)
    clear hK K
    try simp only [Act.put, List.setIfInBounds_toArray, List.set_cons_zero, List.set_cons_succ]
    refine wpAnyG_last rfl (by kernel_rfl) (by kernel_rfl) (fun K hK => ?_)
    go_simp
    refine hK.out _ _ (NoPanic.normal ?_)
    clear hK K
    try simp only [Act.put, List.setIfInBounds_toArray, List.set_cons_zero, List.set_cons_succ]
    have hch := ((chg_alloc W (.cells #[.slice A1 m.types.length c1, .slice (some ⟨fb, fo, none⟩) m.funcs.length c2, .int .i64 f'.params, .slice F1 f'.locals.length f1, .slice F2 f'.caps.length f2, .int .i64 f'.res, .slice F3 f'.code.length f3, .int .i64 0, .slice none 0 0, .slice none 0 0, .slice none 0 0, .map none, .map none, .nilFunc] 74)).alloc (.cells #[.pointer (some ⟨W.heap.size, 0, none⟩)] 62)).drew
    have ha := ((Blk.new W 74 #[.slice A1 m.types.length c1, .slice (some ⟨fb, fo, none⟩) m.funcs.length c2, .int .i64 f'.params, .slice F1 f'.locals.length f1, .slice F2 f'.caps.length f2, .int .i64 f'.res, .slice F3 f'.code.length f3, .int .i64 0, .slice none 0 0, .slice none 0 0, .slice none 0 0, .map none, .map none, .nilFunc]).alloc (.cells #[.pointer (some ⟨W.heap.size, 0, none⟩)] 62)).drew
    have hb := (Blk.new (W.alloc (.cells #[.slice A1 m.types.length c1, .slice (some ⟨fb, fo, none⟩) m.funcs.length c2, .int .i64 f'.params, .slice F1 f'.locals.length f1, .slice F2 f'.caps.length f2, .int .i64 f'.res, .slice F3 f'.code.length f3, .int .i64 0, .slice none 0 0, .slice none 0 0, .slice none 0 0, .map none, .map none, .nilFunc] 74)) 62 #[.pointer (some ⟨W.heap.size, 0, none⟩)]).drew
    rw [World.size_alloc] at hb
    have hszV : ((W.alloc (.cells #[.slice A1 m.types.length c1, .slice (some ⟨fb, fo, none⟩) m.funcs.length c2, .int .i64 f'.params, .slice F1 f'.locals.length f1, .slice F2 f'.caps.length f2, .int .i64 f'.res, .slice F3 f'.code.length f3, .int .i64 0, .slice none 0 0, .slice none 0 0, .slice none 0 0, .map none, .map none, .nilFunc] 74)).alloc (.cells #[.pointer (some ⟨W.heap.size, 0, none⟩)] 62)).drew.heap.size = W.heap.size + 2 := by simp [World.size_alloc]
    have hszW := HB.out.2.2.2
    have hcw := HB.out.1.trans hch
    have hB5 := hch.blk HB.out.2.1 id
    have hB6 := hch.blk HB.out.2.2.1 id
    clear hHeld y0 y1 g0 g1 g2 g3 g4
    generalize ((W.alloc (.cells #[.slice A1 m.types.length c1, .slice (some ⟨fb, fo, none⟩) m.funcs.length c2, .int .i64 f'.params, .slice F1 f'.locals.length f1, .slice F2 f'.caps.length f2, .int .i64 f'.res, .slice F3 f'.code.length f3, .int .i64 0, .slice none 0 0, .slice none 0 0, .slice none 0 0, .map none, .map none, .nilFunc] 74)).alloc (.cells #[.pointer (some ⟨W.heap.size, 0, none⟩)] 62)).drew = V at *
    obtain ⟨p, hpe⟩ : ∃ p, p = W.heap.size := ⟨_, rfl⟩
    obtain ⟨g7, hge⟩ : ∃ g, g = (W.heap.size + 1) := ⟨_, rfl⟩
    rw [← hge] at hb ⊢
    rw [← hpe] at ha hb ⊢
    skip
    have hq7 : w.heap.size ≤ g7 ∧ g7 < V.heap.size ∧ g7 ≠ p := by omega
    have hq5 : w.heap.size ≤ w.heap.size + 1 ∧ w.heap.size + 1 < V.heap.size ∧ w.heap.size + 1 ≠ p := by omega
    have hq6 : w.heap.size ≤ w.heap.size + 1 + 1 ∧ w.heap.size + 1 + 1 < V.heap.size ∧ w.heap.size + 1 + 1 ≠ p := by omega
    have hqp : w.heap.size ≤ p ∧ p < V.heap.size := by omega
    have hbp : Blk V p 74 #[.slice A1 m.types.length c1, .slice (some ⟨fb, fo, none⟩) m.funcs.length c2, .int .i64 f'.params, .slice F1 f'.locals.length f1, .slice F2 f'.caps.length f2, .int .i64 f'.res, .slice F3 f'.code.length f3, .int .i64 0, .slice none 0 0, .slice none 0 0, .slice none 0 0, .map none, .map none, .nilFunc] := ha
    have hb7 : Blk V g7 62 #[.pointer (some ⟨p, 0, none⟩)] := hb
    have hno : ∀ b, ¬ OwnB (none : Option Addr) 0 0 b := fun b hb => by simp [OwnB, Value.ownBlock] at hb
    have hlt0 : LetsM (fun _ _ => False) B := fun _ _ _ h => h
    have hI : CkI (hdF B p w.heap.size V.heap.size U.G0 m f' A1 c1 (some ⟨fb, fo, none⟩) c2 F1 f1 F2 f2 F3 f3) 6000 V ⟨[], [], []⟩ := ⟨none, 0, none, 0, none, 0, .map none, {
      blk := hbp
      stack := RowR.nil _ _ _ _ _
      taken := RowR.nil _ _ _ _ _
      left := RowR.nil _ _ _ _ _
      ks := fun b hb => absurd hb (hno b)
      kt := fun b hb => absurd hb (hno b)
      kl := fun b hb => absurd hb (hno b)
      dst := fun b hb => absurd hb (hno b)
      dsl := fun b hb => absurd hb (hno b)
      dtl := fun b hb => absurd hb (hno b)
      known := ⟨fun _ => none, .inl ⟨rfl, rfl⟩⟩
      mod := ⟨HH.out.1.keep hcw hlt0, HH.out.2.1.keep hcw hlt0, HH.out.2.2.2.2.2.2.2.2.2.1.keep hcw hlt0, HH.out.2.2.2.2.2.2.2.2.2.2.1.keep hcw hlt0, HH.out.2.2.2.2.2.2.2.2.2.2.2.keep hcw hlt0, HH.out.2.2.2.1, HH.out.2.2.1, List.mem_of_getElem? HH.out.2.2.2.2.2.2.2.2.1⟩
      ps := by show 0 + 6000 ≤ 100000; omega
      pt := by show 0 + 6000 ≤ 100000; omega
      plf := by show 0 + 6000 ≤ 100000; omega
      place := ⟨hqp.1, fun hh => hh.elim (fun h0 => by have := HH.out.2.2.2.2.2.1 p h0; omega) fun h1 => h1.2.2 rfl⟩
      low := fun b hb => hb.elim (fun h0 => by have := HH.out.2.2.2.2.2.1 b h0; omega) fun h1 => h1.2.1
      bw := by show w.heap.size ≤ V.heap.size; omega }⟩
    have hJV := U.keep 0 (fun _ => False) _ w V HH.out.2.2.2.2.1 hcw (fun _ _ h => h.elim)
    have hrun : Calls Try.prog 30 #[.pointer (some ⟨p, 0, none⟩), .func (.func 49) #[] #[.pointer (some ⟨w.heap.size + 1, 0, none⟩), .pointer (some ⟨g7, 0, none⟩)]] V (RunRes (hdF B p w.heap.size V.heap.size U.G0 m f' A1 c1 (some ⟨fb, fo, none⟩) c2 F1 f1 F2 f2 F3 f3) U.G0 (fun k G w' => U.J k G w' ∧ Blk w' (w.heap.size + 1) 63 #[.func (.func U.fu) #[] U.env] ∧ Blk w' g7 62 #[.pointer (some ⟨p, 0, none⟩)]) V) :=
      run_any (hdF B p w.heap.size V.heap.size U.G0 m f' A1 c1 (some ⟨fb, fo, none⟩) c2 F1 f1 F2 f2 F3 f3) (cliF U p w.heap.size V.heap.size (w.heap.size + 1) g7 A1 c1 (some ⟨fb, fo, none⟩) c2 F1 f1 F2 f2 F3 f3 HH.out.2.2.2.1 HH.out.2.2.2.2.2.1 hq5 hq7) V rfl hI ⟨hJV, hB5, hb7⟩ HH.out.2.2.2.2.2.2.1 HH.out.2.2.2.2.2.2.2.1
    have x7 : V.cell? ⟨g7, 0, none⟩ = some (.pointer (some ⟨p, 0, none⟩)) := by simpa using hb7.cell 0
    have HV := Lib.hid (And.intro hcw (And.intro hq6 hB6))
    clear hI hJV hbp hb7 ha hb hB5 hB6 hszV hszW hcw hq5 hq7 hqp hq6 hch hpe hge hno hlt0
    go_wp2_with fail
    refine hrun.mono fun e v2 hh => ?_
    obtain ⟨hc2, hh⟩ := hh
    have hh : (funcAt m f' = -1 ∧ e = .returned (.tuple #[]) ∧ ∃ G, (U.J f'.code.length G v2 ∧ Blk v2 (w.heap.size + 1) 63 #[.func (.func U.fu) #[] U.env] ∧ Blk v2 g7 62 #[.pointer (some ⟨p, 0, none⟩)]) ∧ ∀ x, G x → V.heap.size < x) ∨ (0 ≤ funcAt m f' ∧ e = .panicked [{ v := .iface 90 (.agg #[.int .i64 (funcAt m f')]), recovered := false }]) := hh
    have hb6 := hc2.blk HV.out.2.2 (fun hm => hm.elim (fun h1 => h1.2 (.inr HV.out.2.1)) fun h1 => by have := HH.out.2.2.2.2.2.1 _ h1.1; omega)
    have e6 : v2.cell? ⟨w.heap.size + 1 + 1, 0, none⟩ = some (.int .i64 0) := by simpa using hb6.cell 0
    have f6 := hb6.frozen 0
    have hlt6 := hb6.lt
    have hst := fun x => chg_set (j := 0) hb6 (.int .i64 x)
    have hcf : ∀ x, Chg (fun b _ => U.G0 b ∧ B ≤ b) w (v2.setCell ⟨w.heap.size + 1 + 1, 0, none⟩ (.int .i64 x)) := fun x =>
      ((HV.out.1.mono fun _ _ _ h => h.elim : Chg (fun b _ => U.G0 b ∧ B ≤ b) w V).trans_le hc2 (fun b t hb hm => hm.elim (fun h1 => by have h2 : w.heap.size ≤ b := h1.1; omega) id)).trans_le (hst x) (fun b t hb hm => by have h2 : b = w.heap.size + 1 + 1 := hm.1; omega)
    rcases hh with ⟨hfa, rfl, G, hJG, hGn⟩ | ⟨hfa, rfl⟩
    · have hJf := U.keep _ G _ v2 _ hJG.1 (hst (-1)) (fun b t hm hh => by
        have h2 : b = w.heap.size + 1 + 1 := hm.1
        subst h2
        rcases hh with h0 | h0
        · have := HH.out.2.2.2.2.2.1 _ h0; omega
        · have := hGn _ h0; have := HV.out.2.1.2.1; omega)
      have HF := Lib.hid (And.intro hfa (And.intro hJf (hcf (-1))))
      have b6 := hb6.set_ 0 (.int .i64 (-1))
      have e7 : (v2.setCell ⟨w.heap.size + 1 + 1, 0, none⟩ (.int .i64 (-1))).cell? ⟨w.heap.size + 1 + 1, 0, none⟩ = some (.int .i64 (-1)) := by simpa using b6.cell 0
      clear hfa hJf hcf hJG hGn hst hb6 hc2 hrun b6
      go_wp2_with fail
      refine leaves_cons (f := 48) (args := #[.pointer (some ⟨w.heap.size + 1 + 1, 0, none⟩)]) (by simp) (by rfl) ?_
      refine (catch_idle (w.heap.size + 1 + 1) _).mono ?_
      rintro e u' w'' ⟨rfl, rfl, rfl⟩
      refine ⟨.int .i64 (-1), by simp [results, Try.results19, go_sem, e7], HF.out.2.2, by rw [HF.out.1], fun _ => ⟨G, HF.out.2.1⟩⟩
    · have HF := Lib.hid (And.intro hfa (hcf (funcAt m f')))
      have b6 := (hb6.set_ 0 (.int .i64 (funcAt m f'))).alloc (.cells #[.int .i64 (funcAt m f')] 90)
      have e7 : ((v2.setCell ⟨w.heap.size + 1 + 1, 0, none⟩ (.int .i64 (funcAt m f'))).alloc (.cells #[.int .i64 (funcAt m f')] 90)).cell? ⟨w.heap.size + 1 + 1, 0, none⟩ = some (.int .i64 (funcAt m f')) := by simpa using b6.cell 0
      clear hfa hcf hst hb6 hc2 hrun b6
      go_wp2_with fail
      refine leaves_cons (f := 48) (args := #[.pointer (some ⟨w.heap.size + 1 + 1, 0, none⟩)]) (by simp) (by rfl) ?_
      refine (catch_wrong (w.heap.size + 1 + 1) (funcAt m f') 0 v2 e6 f6 hlt6).mono ?_
      rintro e u' w'' ⟨rfl, rfl, rfl⟩
      refine ⟨.int .i64 (funcAt m f'), by simp [results, Try.results19, go_sem, e7], HF.out.2.alloc _, rfl, fun hh => by have := HF.out.1; omega⟩
  · go_simp
    refine hK.out _ _ (hHeld.alloc _) (fun hHeld => ?_)
    clear hK K
    try simp only [Act.put, List.setIfInBounds_toArray, List.set_cons_zero, List.set_cons_succ]
    refine wpAnyG_ready (rs := [7]) (by kernel_rfl) (by simp) ?_
    refine AllReadyG.cons rfl (fun K hK => ?_) AllReadyG.nil
    go_simp
    refine hK.out _ _ (hHeld.alloc _) (fun hHeld => ?_)
    clear hK K
    try simp only [Act.put, List.setIfInBounds_toArray, List.set_cons_zero, List.set_cons_succ]
    refine wpAnyG_last rfl (by kernel_rfl) (by kernel_rfl) (fun K hK => ?_)
    go_simp
    refine hK.out _ _ (NoPanic.normal ?_)
    clear hK K
    try simp only [Act.put, List.setIfInBounds_toArray, List.set_cons_zero, List.set_cons_succ]
    have hch := ((chg_alloc W (.cells #[.pointer (some ⟨(W.heap.size + 1), 0, none⟩)] 62)).alloc (.cells #[.slice A1 m.types.length c1, .slice (some ⟨fb, fo, none⟩) m.funcs.length c2, .int .i64 f'.params, .slice F1 f'.locals.length f1, .slice F2 f'.caps.length f2, .int .i64 f'.res, .slice F3 f'.code.length f3, .int .i64 0, .slice none 0 0, .slice none 0 0, .slice none 0 0, .map none, .map none, .nilFunc] 74)).drew
    have ha := ((Blk.new W 62 #[.pointer (some ⟨(W.heap.size + 1), 0, none⟩)]).alloc (.cells #[.slice A1 m.types.length c1, .slice (some ⟨fb, fo, none⟩) m.funcs.length c2, .int .i64 f'.params, .slice F1 f'.locals.length f1, .slice F2 f'.caps.length f2, .int .i64 f'.res, .slice F3 f'.code.length f3, .int .i64 0, .slice none 0 0, .slice none 0 0, .slice none 0 0, .map none, .map none, .nilFunc] 74)).drew
    have hb := (Blk.new (W.alloc (.cells #[.pointer (some ⟨(W.heap.size + 1), 0, none⟩)] 62)) 74 #[.slice A1 m.types.length c1, .slice (some ⟨fb, fo, none⟩) m.funcs.length c2, .int .i64 f'.params, .slice F1 f'.locals.length f1, .slice F2 f'.caps.length f2, .int .i64 f'.res, .slice F3 f'.code.length f3, .int .i64 0, .slice none 0 0, .slice none 0 0, .slice none 0 0, .map none, .map none, .nilFunc]).drew
    rw [World.size_alloc] at hb
    have hszV : ((W.alloc (.cells #[.pointer (some ⟨(W.heap.size + 1), 0, none⟩)] 62)).alloc (.cells #[.slice A1 m.types.length c1, .slice (some ⟨fb, fo, none⟩) m.funcs.length c2, .int .i64 f'.params, .slice F1 f'.locals.length f1, .slice F2 f'.caps.length f2, .int .i64 f'.res, .slice F3 f'.code.length f3, .int .i64 0, .slice none 0 0, .slice none 0 0, .slice none 0 0, .map none, .map none, .nilFunc] 74)).drew.heap.size = W.heap.size + 2 := by simp [World.size_alloc]
    have hszW := HB.out.2.2.2
    have hcw := HB.out.1.trans hch
    have hB5 := hch.blk HB.out.2.1 id
    have hB6 := hch.blk HB.out.2.2.1 id
    clear hHeld y0 y1 g0 g1 g2 g3 g4
    generalize ((W.alloc (.cells #[.pointer (some ⟨(W.heap.size + 1), 0, none⟩)] 62)).alloc (.cells #[.slice A1 m.types.length c1, .slice (some ⟨fb, fo, none⟩) m.funcs.length c2, .int .i64 f'.params, .slice F1 f'.locals.length f1, .slice F2 f'.caps.length f2, .int .i64 f'.res, .slice F3 f'.code.length f3, .int .i64 0, .slice none 0 0, .slice none 0 0, .slice none 0 0, .map none, .map none, .nilFunc] 74)).drew = V at *
    obtain ⟨p, hpe⟩ : ∃ p, p = (W.heap.size + 1) := ⟨_, rfl⟩
    obtain ⟨g7, hge⟩ : ∃ g, g = W.heap.size := ⟨_, rfl⟩
    skip
    rw [← hpe] at ha hb ⊢
    rw [← hge] at ha ⊢
    have hq7 : w.heap.size ≤ g7 ∧ g7 < V.heap.size ∧ g7 ≠ p := by omega
    have hq5 : w.heap.size ≤ w.heap.size + 1 ∧ w.heap.size + 1 < V.heap.size ∧ w.heap.size + 1 ≠ p := by omega
    have hq6 : w.heap.size ≤ w.heap.size + 1 + 1 ∧ w.heap.size + 1 + 1 < V.heap.size ∧ w.heap.size + 1 + 1 ≠ p := by omega
    have hqp : w.heap.size ≤ p ∧ p < V.heap.size := by omega
    have hbp : Blk V p 74 #[.slice A1 m.types.length c1, .slice (some ⟨fb, fo, none⟩) m.funcs.length c2, .int .i64 f'.params, .slice F1 f'.locals.length f1, .slice F2 f'.caps.length f2, .int .i64 f'.res, .slice F3 f'.code.length f3, .int .i64 0, .slice none 0 0, .slice none 0 0, .slice none 0 0, .map none, .map none, .nilFunc] := hb
    have hb7 : Blk V g7 62 #[.pointer (some ⟨p, 0, none⟩)] := ha
    have hno : ∀ b, ¬ OwnB (none : Option Addr) 0 0 b := fun b hb => by simp [OwnB, Value.ownBlock] at hb
    have hlt0 : LetsM (fun _ _ => False) B := fun _ _ _ h => h
    have hI : CkI (hdF B p w.heap.size V.heap.size U.G0 m f' A1 c1 (some ⟨fb, fo, none⟩) c2 F1 f1 F2 f2 F3 f3) 6000 V ⟨[], [], []⟩ := ⟨none, 0, none, 0, none, 0, .map none, {
      blk := hbp
      stack := RowR.nil _ _ _ _ _
      taken := RowR.nil _ _ _ _ _
      left := RowR.nil _ _ _ _ _
      ks := fun b hb => absurd hb (hno b)
      kt := fun b hb => absurd hb (hno b)
      kl := fun b hb => absurd hb (hno b)
      dst := fun b hb => absurd hb (hno b)
      dsl := fun b hb => absurd hb (hno b)
      dtl := fun b hb => absurd hb (hno b)
      known := ⟨fun _ => none, .inl ⟨rfl, rfl⟩⟩
      mod := ⟨HH.out.1.keep hcw hlt0, HH.out.2.1.keep hcw hlt0, HH.out.2.2.2.2.2.2.2.2.2.1.keep hcw hlt0, HH.out.2.2.2.2.2.2.2.2.2.2.1.keep hcw hlt0, HH.out.2.2.2.2.2.2.2.2.2.2.2.keep hcw hlt0, HH.out.2.2.2.1, HH.out.2.2.1, List.mem_of_getElem? HH.out.2.2.2.2.2.2.2.2.1⟩
      ps := by show 0 + 6000 ≤ 100000; omega
      pt := by show 0 + 6000 ≤ 100000; omega
      plf := by show 0 + 6000 ≤ 100000; omega
      place := ⟨hqp.1, fun hh => hh.elim (fun h0 => by have := HH.out.2.2.2.2.2.1 p h0; omega) fun h1 => h1.2.2 rfl⟩
      low := fun b hb => hb.elim (fun h0 => by have := HH.out.2.2.2.2.2.1 b h0; omega) fun h1 => h1.2.1
      bw := by show w.heap.size ≤ V.heap.size; omega }⟩
    have hJV := U.keep 0 (fun _ => False) _ w V HH.out.2.2.2.2.1 hcw (fun _ _ h => h.elim)
    have hrun : Calls Try.prog 30 #[.pointer (some ⟨p, 0, none⟩), .func (.func 49) #[] #[.pointer (some ⟨w.heap.size + 1, 0, none⟩), .pointer (some ⟨g7, 0, none⟩)]] V (RunRes (hdF B p w.heap.size V.heap.size U.G0 m f' A1 c1 (some ⟨fb, fo, none⟩) c2 F1 f1 F2 f2 F3 f3) U.G0 (fun k G w' => U.J k G w' ∧ Blk w' (w.heap.size + 1) 63 #[.func (.func U.fu) #[] U.env] ∧ Blk w' g7 62 #[.pointer (some ⟨p, 0, none⟩)]) V) :=
      run_any (hdF B p w.heap.size V.heap.size U.G0 m f' A1 c1 (some ⟨fb, fo, none⟩) c2 F1 f1 F2 f2 F3 f3) (cliF U p w.heap.size V.heap.size (w.heap.size + 1) g7 A1 c1 (some ⟨fb, fo, none⟩) c2 F1 f1 F2 f2 F3 f3 HH.out.2.2.2.1 HH.out.2.2.2.2.2.1 hq5 hq7) V rfl hI ⟨hJV, hB5, hb7⟩ HH.out.2.2.2.2.2.2.1 HH.out.2.2.2.2.2.2.2.1
    have x7 : V.cell? ⟨g7, 0, none⟩ = some (.pointer (some ⟨p, 0, none⟩)) := by simpa using hb7.cell 0
    have HV := Lib.hid (And.intro hcw (And.intro hq6 hB6))
    clear hI hJV hbp hb7 ha hb hB5 hB6 hszV hszW hcw hq5 hq7 hqp hq6 hch hpe hge hno hlt0
    go_wp2_with fail
    refine hrun.mono fun e v2 hh => ?_
    obtain ⟨hc2, hh⟩ := hh
    have hh : (funcAt m f' = -1 ∧ e = .returned (.tuple #[]) ∧ ∃ G, (U.J f'.code.length G v2 ∧ Blk v2 (w.heap.size + 1) 63 #[.func (.func U.fu) #[] U.env] ∧ Blk v2 g7 62 #[.pointer (some ⟨p, 0, none⟩)]) ∧ ∀ x, G x → V.heap.size < x) ∨ (0 ≤ funcAt m f' ∧ e = .panicked [{ v := .iface 90 (.agg #[.int .i64 (funcAt m f')]), recovered := false }]) := hh
    have hb6 := hc2.blk HV.out.2.2 (fun hm => hm.elim (fun h1 => h1.2 (.inr HV.out.2.1)) fun h1 => by have := HH.out.2.2.2.2.2.1 _ h1.1; omega)
    have e6 : v2.cell? ⟨w.heap.size + 1 + 1, 0, none⟩ = some (.int .i64 0) := by simpa using hb6.cell 0
    have f6 := hb6.frozen 0
    have hlt6 := hb6.lt
    have hst := fun x => chg_set (j := 0) hb6 (.int .i64 x)
    have hcf : ∀ x, Chg (fun b _ => U.G0 b ∧ B ≤ b) w (v2.setCell ⟨w.heap.size + 1 + 1, 0, none⟩ (.int .i64 x)) := fun x =>
      ((HV.out.1.mono fun _ _ _ h => h.elim : Chg (fun b _ => U.G0 b ∧ B ≤ b) w V).trans_le hc2 (fun b t hb hm => hm.elim (fun h1 => by have h2 : w.heap.size ≤ b := h1.1; omega) id)).trans_le (hst x) (fun b t hb hm => by have h2 : b = w.heap.size + 1 + 1 := hm.1; omega)
    rcases hh with ⟨hfa, rfl, G, hJG, hGn⟩ | ⟨hfa, rfl⟩
    · have hJf := U.keep _ G _ v2 _ hJG.1 (hst (-1)) (fun b t hm hh => by
        have h2 : b = w.heap.size + 1 + 1 := hm.1
        subst h2
        rcases hh with h0 | h0
        · have := HH.out.2.2.2.2.2.1 _ h0; omega
        · have := hGn _ h0; have := HV.out.2.1.2.1; omega)
      have HF := Lib.hid (And.intro hfa (And.intro hJf (hcf (-1))))
      have b6 := hb6.set_ 0 (.int .i64 (-1))
      have e7 : (v2.setCell ⟨w.heap.size + 1 + 1, 0, none⟩ (.int .i64 (-1))).cell? ⟨w.heap.size + 1 + 1, 0, none⟩ = some (.int .i64 (-1)) := by simpa using b6.cell 0
      clear hfa hJf hcf hJG hGn hst hb6 hc2 hrun b6
      go_wp2_with fail
      refine leaves_cons (f := 48) (args := #[.pointer (some ⟨w.heap.size + 1 + 1, 0, none⟩)]) (by simp) (by rfl) ?_
      refine (catch_idle (w.heap.size + 1 + 1) _).mono ?_
      rintro e u' w'' ⟨rfl, rfl, rfl⟩
      refine ⟨.int .i64 (-1), by simp [results, Try.results19, go_sem, e7], HF.out.2.2, by rw [HF.out.1], fun _ => ⟨G, HF.out.2.1⟩⟩
    · have HF := Lib.hid (And.intro hfa (hcf (funcAt m f')))
      have b6 := (hb6.set_ 0 (.int .i64 (funcAt m f'))).alloc (.cells #[.int .i64 (funcAt m f')] 90)
      have e7 : ((v2.setCell ⟨w.heap.size + 1 + 1, 0, none⟩ (.int .i64 (funcAt m f'))).alloc (.cells #[.int .i64 (funcAt m f')] 90)).cell? ⟨w.heap.size + 1 + 1, 0, none⟩ = some (.int .i64 (funcAt m f')) := by simpa using b6.cell 0
      clear hfa hcf hst hb6 hc2 hrun b6
      go_wp2_with fail
      refine leaves_cons (f := 48) (args := #[.pointer (some ⟨w.heap.size + 1 + 1, 0, none⟩)]) (by simp) (by rfl) ?_
      refine (catch_wrong (w.heap.size + 1 + 1) (funcAt m f') 0 v2 e6 f6 hlt6).mono ?_
      rintro e u' w'' ⟨rfl, rfl, rfl⟩
      refine ⟨.int .i64 (funcAt m f'), by simp [results, Try.results19, go_sem, e7], HF.out.2.alloc _, rfl, fun hh => by have := HF.out.1; omega⟩

end Go.Proofs.Ytdegfnejhamejaa
