/-
  verify.Takes: what an instruction takes and leaves, in memory of its own.
-/
import Derived.Test.YtdegfnejhamejaaVTk2Zk
namespace Go.Proofs.Ytdegfnejhamejaa
open Go.RowKit
set_option linter.unusedVariables false
set_option linter.unusedSimpArgs false

/-- Why Takes answers nothing; 0: it answers. -/
def takeE (m : ModD) (fn at_ : Int) : Int := if (headE m fn != 0) = true then headE m fn else match m.funcs[fn.toNat]? with
  | some f => if (decide (at_ < 0) || decide ((f.code.length : Int) ≤ at_)) = true then 16 else 0
  | none => 16
theorem takeE_bad {m : ModD} {fn at_ : Int} (h : (headE m fn != 0) = true) : takeE m fn at_ = headE m fn := by unfold takeE; rw [if_pos h]
theorem takeE_f {m : ModD} {fn at_ : Int} {f : FuncD} (h : headE m fn = 0) (hf : m.funcs[fn.toNat]? = some f) : takeE m fn at_ = if (decide (at_ < 0) || decide ((f.code.length : Int) ≤ at_)) = true then 16 else 0 := by
  unfold takeE
  rw [h, hf]
  rfl
def TkOut (w : World) (m : ModD) (fn at_ : Int) (a b : Value) (w' : World) : Prop :=
  if takeE m fn at_ = 0 then ∃ f x st s A c A' c', m.funcs[fn.toNat]? = some f ∧ f.code[at_.toNat]? = some x ∧ atN m f at_.toNat = some st ∧ stepN m f at_.toNat x st = some s ∧ a = .slice A s.taken.reverse.length c ∧ b = .slice A' s.left.length c' ∧ RowR w.heap.size 3 1 IntV w' A c s.taken.reverse ∧ RowR w.heap.size 3 1 IntV w' A' c' s.left
  else a = .slice none 0 0 ∧ b = .slice none 0 0
def TkRes (w : World) (m : ModD) (fn at_ : Int) (e : Ending) (w' : World) : Prop := ∃ a b, e = .returned (.tuple #[a, b, .int .i64 (takeE m fn at_)]) ∧ Chg (fun _ _ => False) w w' ∧ TkOut w m fn at_ a b w'
theorem nil_set {w : World} {gt gl : Nat} (ht : Blk w gt 31 #[.slice none 0 0]) (hl : Blk w gl 31 #[.slice none 0 0]) (hne : gt ≠ gl) :
    w.cell? ⟨gt, 0, none⟩ = some (.slice none 0 0) ∧ w.frozen? ⟨gt, 0, none⟩ = false ∧ (w.setCell ⟨gt, 0, none⟩ (.slice none 0 0)).cell? ⟨gl, 0, none⟩ = some (.slice none 0 0) ∧ (w.setCell ⟨gt, 0, none⟩ (.slice none 0 0)).frozen? ⟨gl, 0, none⟩ = false ∧
      ((w.setCell ⟨gt, 0, none⟩ (.slice none 0 0)).setCell ⟨gl, 0, none⟩ (.slice none 0 0)).cell? ⟨gt, 0, none⟩ = some (.slice none 0 0) ∧ ((w.setCell ⟨gt, 0, none⟩ (.slice none 0 0)).setCell ⟨gl, 0, none⟩ (.slice none 0 0)).cell? ⟨gl, 0, none⟩ = some (.slice none 0 0) ∧
      Chg (fun b _ => b = gt ∨ b = gl) w ((w.setCell ⟨gt, 0, none⟩ (.slice none 0 0)).setCell ⟨gl, 0, none⟩ (.slice none 0 0)) := by
  have hst := chg_set (j := 0) ht (.slice none 0 0)
  have hl' := hst.blk hl (fun hm => hne hm.1.symm)
  have ht' : Blk (w.setCell ⟨gt, 0, none⟩ (.slice none 0 0)) gt 31 #[.slice none 0 0] := by simpa using ht.set_ 0 (.slice none 0 0)
  have hsl := chg_set (j := 0) hl' (.slice none 0 0)
  have hl2 : Blk ((w.setCell ⟨gt, 0, none⟩ (.slice none 0 0)).setCell ⟨gl, 0, none⟩ (.slice none 0 0)) gl 31 #[.slice none 0 0] := by simpa using hl'.set_ 0 (.slice none 0 0)
  have ht2 := hsl.blk ht' (fun hm => hne hm.1)
  exact ⟨by simpa using ht.cell 0, ht.frozen 0, by simpa using hl'.cell 0, hl'.frozen 0, by simpa using ht2.cell 0, by simpa using hl2.cell 0, (hst.mono fun _ _ _ hm => .inl hm.1).trans (hsl.mono fun _ _ _ hm => .inr hm.1)⟩
set_option maxRecDepth 100000 in
set_option maxHeartbeats 8000000 in
theorem takes_any (w : World) (B : Nat) (v : Value) (m : ModD) (fn at_ : Int) (hBw : B ≤ w.heap.size) (hm : ModR B w v m) (hn : cMod m ≤ 1099511627776) (hs : SmallC m) : Calls Try.prog 14 #[v, .int .i64 fn, .int .i64 at_] w (TkRes w m fn at_) := by
  obtain ⟨A, c, A', c', rfl, hT, hF⟩ := hm
  have hlt : LetsM (fun _ _ => False) B := fun _ _ _ h => h
  have hc0 := (((chg_alloc w (.cells #[.slice A m.types.length c, .slice A' m.funcs.length c'] 25)).alloc (.cells #[.int .i64 at_] 3)).alloc (.cells #[.slice none 0 0] 31)).alloc (.cells #[.slice none 0 0] 31)
  have hbm := (((Blk.new w 25 #[.slice A m.types.length c, .slice A' m.funcs.length c']).alloc (.cells #[.int .i64 at_] 3)).alloc (.cells #[.slice none 0 0] 31)).alloc (.cells #[.slice none 0 0] 31)
  have hba := ((Blk.new (w.alloc (.cells #[.slice A m.types.length c, .slice A' m.funcs.length c'] 25)) 3 #[.int .i64 at_]).alloc (.cells #[.slice none 0 0] 31)).alloc (.cells #[.slice none 0 0] 31)
  have hbt := (Blk.new ((w.alloc (.cells #[.slice A m.types.length c, .slice A' m.funcs.length c'] 25)).alloc (.cells #[.int .i64 at_] 3)) 31 #[.slice none 0 0]).alloc (.cells #[.slice none 0 0] 31)
  have hbl := Blk.new (((w.alloc (.cells #[.slice A m.types.length c, .slice A' m.funcs.length c'] 25)).alloc (.cells #[.int .i64 at_] 3)).alloc (.cells #[.slice none 0 0] 31)) 31 #[.slice none 0 0]
  have hsz : ((((w.alloc (.cells #[.slice A m.types.length c, .slice A' m.funcs.length c'] 25)).alloc (.cells #[.int .i64 at_] 3)).alloc (.cells #[.slice none 0 0] 31)).alloc (.cells #[.slice none 0 0] 31)).heap.size = w.heap.size + 1 + 1 + 1 + 1 := by simp [World.size_alloc]
  have hcall := vhead_any ((((w.alloc (.cells #[.slice A m.types.length c, .slice A' m.funcs.length c'] 25)).alloc (.cells #[.int .i64 at_] 3)).alloc (.cells #[.slice none 0 0] 31)).alloc (.cells #[.slice none 0 0] 31)) B (.agg #[.slice A m.types.length c, .slice A' m.funcs.length c']) m fn (by rw [hsz]; omega) ⟨A, c, A', c', rfl, hT.keep hc0 hlt, hF.keep hc0 hlt⟩ hn hs
  simp only [World.size_alloc] at hba hbt hbl
  have hmf : ∀ (fn : Fn) (first cap : Array Value) (w : World), (Instr.makeFunc fn first cap).run Try.prog w = .ok (.func fn first cap) w := fun _ _ _ _ => rfl
  have hsf : ∀ (a : Addr) (w : World) (fn : Fn) (x y : Array Value), (store a (.func fn x y)).run Try.prog w = stored Try.prog w a (.func fn x y) .plain := fun a w fn x y => run_store _ w a _ .plain rfl
  have m0 : ((((w.alloc (.cells #[.slice A m.types.length c, .slice A' m.funcs.length c'] 25)).alloc (.cells #[.int .i64 at_] 3)).alloc (.cells #[.slice none 0 0] 31)).alloc (.cells #[.slice none 0 0] 31)).cell? ⟨w.heap.size, 0, none⟩ = some (.slice A m.types.length c) := by simpa using hbm.cell 0
  have m1 : ((((w.alloc (.cells #[.slice A m.types.length c, .slice A' m.funcs.length c'] 25)).alloc (.cells #[.int .i64 at_] 3)).alloc (.cells #[.slice none 0 0] 31)).alloc (.cells #[.slice none 0 0] 31)).cell? ⟨w.heap.size, 1, none⟩ = some (.slice A' m.funcs.length c') := by simpa using hbm.cell 1
  have hnum : w.heap.size < w.heap.size + 1 ∧ w.heap.size + 1 < w.heap.size + 1 + 1 ∧ w.heap.size + 1 + 1 < w.heap.size + 1 + 1 + 1 ∧ w.heap.size + 1 + 1 + 1 < ((((w.alloc (.cells #[.slice A m.types.length c, .slice A' m.funcs.length c'] 25)).alloc (.cells #[.int .i64 at_] 3)).alloc (.cells #[.slice none 0 0] 31)).alloc (.cells #[.slice none 0 0] 31)).heap.size := by rw [hsz]; omega
  have HC := Lib.hid (And.intro hc0 (And.intro hT (And.intro hF (And.intro hs (And.intro hBw (And.intro hba (And.intro hbt (And.intro hbl hnum))))))))
  clear hT hF hbm hn hs hBw hc0 hsz hba hbt hbl hnum
  go_enter Try.func14, Try.ntmps14
  go_wp2_with fail
  generalize ((((w.alloc (.cells #[.slice A m.types.length c, .slice A' m.funcs.length c'] 25)).alloc (.cells #[.int .i64 at_] 3)).alloc (.cells #[.slice none 0 0] 31)).alloc (.cells #[.slice none 0 0] 31)) = W at *
  generalize w.heap.size + 1 + 1 + 1 = gl at *
  generalize w.heap.size + 1 + 1 = gt at *
  generalize w.heap.size + 1 = ga at *
  refine hcall.mono fun e w1 hh => ?_
  obtain ⟨rfl, hc1⟩ := hh
  have x0 := hc1.cell m0 (fun _ => id)
  have x1 := hc1.cell m1 (fun _ => id)
  have hbt := hc1.blk HC.out.2.2.2.2.2.2.1 id
  have hbl := hc1.blk HC.out.2.2.2.2.2.2.2.1 id
  have hba := hc1.blk HC.out.2.2.2.2.2.1 id
  have a0 : w1.cell? ⟨ga, 0, none⟩ = some (.int .i64 at_) := by simpa using hba.cell 0
  have HD := Lib.hid (And.intro (HC.out.1.trans hc1) (And.intro hc1.size (And.intro hba (And.intro hbt hbl))))
  have hne : gt ≠ gl := Nat.ne_of_lt HC.out.2.2.2.2.2.2.2.2.2.2.1
  clear hbt hbl hba m0 m1 hc1 hcall
  obtain ⟨E, hE⟩ : ∃ E, headE m fn = E := ⟨_, rfl⟩
  rw [hE]
  have HE := Lib.hid hE
  clear hE
  cases hb : (E != 0)
  · have hE0 : E = 0 := by simpa using hb
    subst hE0
    obtain ⟨ho, h0, h1⟩ := head_ok HE.out
    obtain ⟨n, rfl⟩ : ∃ n : Nat, fn = (n : Int) := ⟨fn.toNat, by omega⟩
    obtain ⟨hfm, _, hall⟩ := chk_ok ho
    have hnl : n < m.funcs.length := by omega
    have hF1 := HC.out.2.2.1.keep HD.out.1 hlt
    obtain ⟨fb, fo, f, F1, f1, F2, f2, F3, f3, rfl, hf, hpI, hrI, hlo, hca, hco, g0, g1, g2, g3, g4⟩ := hF1.at_ hnl
    have hmem := List.mem_of_getElem? hf
    have hfa := hall f hmem
    have q1 : (n : Int) < (m.funcs.length : Int) := by omega
    have hcl : f.code.length ≤ 65536 := by
      have h2 := hfm
      unfold formedMod at h2
      simp only [Bool.and_eq_true, decide_eq_true_eq] at h2
      have h3 : f.code.length ≤ codeAll m.funcs := by
        unfold codeAll
        exact sum_ge _ _ (List.mem_map.2 ⟨f, hmem, rfl⟩)
      omega
    have HF := Lib.hid (And.intro hf (And.intro hfa (And.intro hmem (And.intro hfm (And.intro hcl (And.intro hF1 (And.intro hlo (And.intro hca hco))))))))
    clear hf hfa hmem hfm hcl hF1 hlo hca hco hpI hrI ho h0 h1 hall hnl
    cases hb1 : decide (at_ < 0)
    · cases hb2 : decide ((f.code.length : Int) ≤ at_)
      · have HB := Lib.hid (And.intro hb1 hb2)
        go_wp2_with fail
        refine wp_region_G (S := (fun w' => Chg (fun _ _ => False) w1 w')) 12 (by kernel_rfl) (Chg.refl _ _).drew (fun hHeld => ?_)
        refine wpAnyG_take (i := 0) (v := ?va13) rfl (by kernel_rfl) (fun _ _ _ h => h) (Or.inl ⟨by kernel_rfl, ?hy13⟩) (by assumption) ?ra13
        case hy13 => (intro w hSw; (try dsimp only at hSw); have x1 := hSw.cell x1 (fun _ => id); have a0 := hSw.cell a0 (fun _ => id); have g4 := hSw.cell g4 (fun _ => id); clear hSw; go_simp; all_goals (with_reducible rfl))
        simp only [Act.put, List.setIfInBounds_toArray, List.set_cons_zero, List.set_cons_succ]
        refine wpAnyG_take (i := 1) (v := ?va14) rfl (by kernel_rfl) (fun _ _ _ h => h) (Or.inl ⟨by kernel_rfl, ?hy14⟩) (by assumption) ?ra14
        case hy14 => (intro w hSw; (try dsimp only at hSw); have x1 := hSw.cell x1 (fun _ => id); have a0 := hSw.cell a0 (fun _ => id); have g4 := hSw.cell g4 (fun _ => id); clear hSw; go_simp; all_goals (with_reducible rfl))
        simp only [Act.put, List.setIfInBounds_toArray, List.set_cons_zero, List.set_cons_succ]
        refine wpAnyG_take (i := 2) (v := ?va15) rfl (by kernel_rfl) (fun _ _ _ h => h) (Or.inl ⟨by kernel_rfl, ?hy15⟩) (by assumption) ?ra15
        case hy15 => (intro w hSw; (try dsimp only at hSw); have x1 := hSw.cell x1 (fun _ => id); have a0 := hSw.cell a0 (fun _ => id); have g4 := hSw.cell g4 (fun _ => id); clear hSw; go_simp; all_goals (with_reducible rfl))
        simp only [Act.put, List.setIfInBounds_toArray, List.set_cons_zero, List.set_cons_succ]
        refine wpAnyG_take (i := 3) (v := ?va16) rfl (by kernel_rfl) (fun _ _ _ h => h) (Or.inl ⟨by kernel_rfl, ?hy16⟩) (by assumption) ?ra16
        case hy16 => (intro w hSw; (try dsimp only at hSw); have x1 := hSw.cell x1 (fun _ => id); have a0 := hSw.cell a0 (fun _ => id); have g4 := hSw.cell g4 (fun _ => id); clear hSw; go_simp; all_goals (with_reducible rfl))
        simp only [Act.put, List.setIfInBounds_toArray, List.set_cons_zero, List.set_cons_succ]
        refine wpAnyG_take (i := 4) (v := ?va17) rfl (by kernel_rfl) (fun _ _ _ h => h) (Or.inl ⟨by kernel_rfl, ?hy17⟩) (by assumption) ?ra17
        case hy17 => (intro w hSw; (try dsimp only at hSw); have x1 := hSw.cell x1 (fun _ => id); have a0 := hSw.cell a0 (fun _ => id); have g4 := hSw.cell g4 (fun _ => id); clear hSw; go_simp; all_goals (with_reducible rfl))
        simp only [Act.put, List.setIfInBounds_toArray, List.set_cons_zero, List.set_cons_succ]
        refine wpAnyG_take (i := 5) (v := ?va18) rfl (by kernel_rfl) (fun _ _ _ h => h) (Or.inl ⟨by kernel_rfl, ?hy18⟩) (by assumption) ?ra18
        case hy18 => (intro w hSw; (try dsimp only at hSw); have x1 := hSw.cell x1 (fun _ => id); have a0 := hSw.cell a0 (fun _ => id); have g4 := hSw.cell g4 (fun _ => id); clear hSw; go_simp; all_goals (with_reducible rfl))
        simp only [Act.put, List.setIfInBounds_toArray, List.set_cons_zero, List.set_cons_succ]
        refine wpAnyG_take (i := 6) (v := ?va19) rfl (by kernel_rfl) (fun _ _ _ h => h) (Or.inl ⟨by kernel_rfl, ?hy19⟩) (by assumption) ?ra19
        case hy19 => (intro w hSw; (try dsimp only at hSw); have x1 := hSw.cell x1 (fun _ => id); have a0 := hSw.cell a0 (fun _ => id); have g4 := hSw.cell g4 (fun _ => id); clear hSw; go_simp; all_goals (with_reducible rfl))
        simp only [Act.put, List.setIfInBounds_toArray, List.set_cons_zero, List.set_cons_succ]
        refine wpAnyG_take (i := 7) (v := ?va20) rfl (by kernel_rfl) (fun _ _ _ h => h) (Or.inl ⟨by kernel_rfl, ?hy20⟩) (by assumption) ?ra20
        case hy20 => (intro w hSw; (try dsimp only at hSw); have x1 := hSw.cell x1 (fun _ => id); have a0 := hSw.cell a0 (fun _ => id); have g4 := hSw.cell g4 (fun _ => id); clear hSw; go_simp; all_goals (with_reducible rfl))
        simp only [Act.put, List.setIfInBounds_toArray, List.set_cons_zero, List.set_cons_succ]
        refine wpAnyG_take (i := 8) (v := ?va21) rfl (by kernel_rfl) (fun _ _ _ h => h) (Or.inl ⟨by kernel_rfl, ?hy21⟩) (by assumption) ?ra21
        case hy21 => (intro w hSw; (try dsimp only at hSw); have x1 := hSw.cell x1 (fun _ => id); have a0 := hSw.cell a0 (fun _ => id); have g4 := hSw.cell g4 (fun _ => id); clear hSw; go_simp; all_goals (with_reducible rfl))
        simp only [Act.put, List.setIfInBounds_toArray, List.set_cons_zero, List.set_cons_succ]
        refine wpAnyG_take (i := 9) (v := ?va22) rfl (by kernel_rfl) (fun _ _ _ h => h) (Or.inl ⟨by kernel_rfl, ?hy22⟩) (by assumption) ?ra22
        case hy22 => (intro w hSw; (try dsimp only at hSw); have x1 := hSw.cell x1 (fun _ => id); have a0 := hSw.cell a0 (fun _ => id); have g4 := hSw.cell g4 (fun _ => id); clear hSw; go_simp; all_goals (with_reducible rfl))
        simp only [Act.put, List.setIfInBounds_toArray, List.set_cons_zero, List.set_cons_succ]
        refine wpAnyG_take (i := 10) (v := ?va23) rfl (by kernel_rfl) (fun _ _ _ h => h) (Or.inl ⟨by kernel_rfl, ?hy23⟩) (by assumption) ?ra23
        case hy23 => (intro w hSw; (try dsimp only at hSw); have x1 := hSw.cell x1 (fun _ => id); have a0 := hSw.cell a0 (fun _ => id); have g4 := hSw.cell g4 (fun _ => id); clear hSw; go_simp; all_goals (with_reducible rfl))
        simp only [Act.put, List.setIfInBounds_toArray, List.set_cons_zero, List.set_cons_succ]
        refine wpAnyG_take (i := 11) (v := ?va24) rfl (by kernel_rfl) (fun _ _ _ h => h) (Or.inl ⟨by kernel_rfl, ?hy24⟩) (by assumption) ?ra24
        case hy24 => (intro w hSw; (try dsimp only at hSw); have x1 := hSw.cell x1 (fun _ => id); have a0 := hSw.cell a0 (fun _ => id); have g4 := hSw.cell g4 (fun _ => id); clear hSw; go_simp; all_goals (with_reducible rfl))
        simp only [Act.put, List.setIfInBounds_toArray, List.set_cons_zero, List.set_cons_succ]
        refine wpAnyG_last rfl (by kernel_rfl) (by kernel_rfl) (fun K hK => ?_)
        go_simp
        refine hK.out _ _ ?_
        clear hK K
        try simp only [Act.put, List.setIfInBounds_toArray, List.set_cons_zero, List.set_cons_succ]
        generalize w1.drew = W4 at hHeld ⊢
        go_wp2_with fail
        obtain ⟨ka, rfl⟩ : ∃ ka : Nat, at_ = (ka : Int) := ⟨at_.toNat, by have := of_decide_eq_false HB.out.1; omega⟩
        have hkl : ka < f.code.length := by have := of_decide_eq_false HB.out.2; omega
        have x0 := hHeld.cell x0 (fun _ => id)
        have x1 := hHeld.cell x1 (fun _ => id)
        have g0 := hHeld.cell g0 (fun _ => id)
        have g1 := hHeld.cell g1 (fun _ => id)
        have g2 := hHeld.cell g2 (fun _ => id)
        have g3 := hHeld.cell g3 (fun _ => id)
        have g4 := hHeld.cell g4 (fun _ => id)
        have hba4 := hHeld.blk HD.out.2.2.1 id
        have hbt4 := hHeld.blk HD.out.2.2.2.1 id
        have hbl4 := hHeld.blk HD.out.2.2.2.2 id
        have hs4 : gl < W4.heap.size := hbl4.lt
        have H4 := Lib.hid (And.intro (HD.out.1.trans hHeld) (And.intro hba4 (And.intro hbt4 (And.intro hbl4 (And.intro hs4 (And.intro hkl hHeld))))))
        clear hba4 hbt4 hbl4 hs4 hkl hHeld hb1 hb2 a0
        refine wp_region_G (S := (fun w' => Chg (fun _ _ => False) W4 w')) 9 (by kernel_rfl) (Chg.refl _ _).drew (fun hHeld => ?_)
        refine wpAnyG_take (i := 0) (v := ?va37) rfl (by kernel_rfl) (fun _ _ _ h => h) (Or.inl ⟨by kernel_rfl, ?hy37⟩) (by assumption) ?ra37
        case hy37 => (intro w hSw; (try dsimp only at hSw); have x0 := hSw.cell x0 (fun _ => id); have x1 := hSw.cell x1 (fun _ => id); have g0 := hSw.cell g0 (fun _ => id); have g1 := hSw.cell g1 (fun _ => id); have g2 := hSw.cell g2 (fun _ => id); have g3 := hSw.cell g3 (fun _ => id); have g4 := hSw.cell g4 (fun _ => id); clear hSw; go_simp; all_goals (with_reducible rfl))
        simp only [Act.put, List.setIfInBounds_toArray, List.set_cons_zero, List.set_cons_succ]
        refine wpAnyG_take (i := 1) (v := ?va38) rfl (by kernel_rfl) (fun _ _ _ h => h) (Or.inl ⟨by kernel_rfl, ?hy38⟩) (by assumption) ?ra38
        case hy38 => (intro w hSw; (try dsimp only at hSw); have x0 := hSw.cell x0 (fun _ => id); have x1 := hSw.cell x1 (fun _ => id); have g0 := hSw.cell g0 (fun _ => id); have g1 := hSw.cell g1 (fun _ => id); have g2 := hSw.cell g2 (fun _ => id); have g3 := hSw.cell g3 (fun _ => id); have g4 := hSw.cell g4 (fun _ => id); clear hSw; go_simp; all_goals (with_reducible rfl))
        simp only [Act.put, List.setIfInBounds_toArray, List.set_cons_zero, List.set_cons_succ]
        refine wpAnyG_take (i := 2) (v := ?va39) rfl (by kernel_rfl) (fun _ _ _ h => h) (Or.inl ⟨by kernel_rfl, ?hy39⟩) (by assumption) ?ra39
        case hy39 => (intro w hSw; (try dsimp only at hSw); have x0 := hSw.cell x0 (fun _ => id); have x1 := hSw.cell x1 (fun _ => id); have g0 := hSw.cell g0 (fun _ => id); have g1 := hSw.cell g1 (fun _ => id); have g2 := hSw.cell g2 (fun _ => id); have g3 := hSw.cell g3 (fun _ => id); have g4 := hSw.cell g4 (fun _ => id); clear hSw; go_simp; all_goals (with_reducible rfl))
        simp only [Act.put, List.setIfInBounds_toArray, List.set_cons_zero, List.set_cons_succ]
        refine wpAnyG_take (i := 3) (v := ?va40) rfl (by kernel_rfl) (fun _ _ _ h => h) (Or.inl ⟨by kernel_rfl, ?hy40⟩) (by assumption) ?ra40
        case hy40 => (intro w hSw; (try dsimp only at hSw); have x0 := hSw.cell x0 (fun _ => id); have x1 := hSw.cell x1 (fun _ => id); have g0 := hSw.cell g0 (fun _ => id); have g1 := hSw.cell g1 (fun _ => id); have g2 := hSw.cell g2 (fun _ => id); have g3 := hSw.cell g3 (fun _ => id); have g4 := hSw.cell g4 (fun _ => id); clear hSw; go_simp; all_goals (with_reducible rfl))
        simp only [Act.put, List.setIfInBounds_toArray, List.set_cons_zero, List.set_cons_succ]
        refine wpAnyG_take (i := 4) (v := ?va41) rfl (by kernel_rfl) (fun _ _ _ h => h) (Or.inl ⟨by kernel_rfl, ?hy41⟩) (by assumption) ?ra41
        case hy41 => (intro w hSw; (try dsimp only at hSw); have x0 := hSw.cell x0 (fun _ => id); have x1 := hSw.cell x1 (fun _ => id); have g0 := hSw.cell g0 (fun _ => id); have g1 := hSw.cell g1 (fun _ => id); have g2 := hSw.cell g2 (fun _ => id); have g3 := hSw.cell g3 (fun _ => id); have g4 := hSw.cell g4 (fun _ => id); clear hSw; go_simp; all_goals (with_reducible rfl))
        simp only [Act.put, List.setIfInBounds_toArray, List.set_cons_zero, List.set_cons_succ]
        refine wpAnyG_take (i := 5) (v := ?va42) rfl (by kernel_rfl) (fun _ _ _ h => h) (Or.inl ⟨by kernel_rfl, ?hy42⟩) (by assumption) ?ra42
        case hy42 => (intro w hSw; (try dsimp only at hSw); have x0 := hSw.cell x0 (fun _ => id); have x1 := hSw.cell x1 (fun _ => id); have g0 := hSw.cell g0 (fun _ => id); have g1 := hSw.cell g1 (fun _ => id); have g2 := hSw.cell g2 (fun _ => id); have g3 := hSw.cell g3 (fun _ => id); have g4 := hSw.cell g4 (fun _ => id); clear hSw; go_simp; all_goals (with_reducible rfl))
        simp only [Act.put, List.setIfInBounds_toArray, List.set_cons_zero, List.set_cons_succ]
        refine wpAnyG_take (i := 6) (v := ?va43) rfl (by kernel_rfl) (fun _ _ _ h => h) (Or.inl ⟨by kernel_rfl, ?hy43⟩) (by assumption) ?ra43
        case hy43 => (intro w hSw; (try dsimp only at hSw); have x0 := hSw.cell x0 (fun _ => id); have x1 := hSw.cell x1 (fun _ => id); have g0 := hSw.cell g0 (fun _ => id); have g1 := hSw.cell g1 (fun _ => id); have g2 := hSw.cell g2 (fun _ => id); have g3 := hSw.cell g3 (fun _ => id); have g4 := hSw.cell g4 (fun _ => id); clear hSw; go_simp; all_goals (with_reducible rfl))
        simp only [Act.put, List.setIfInBounds_toArray, List.set_cons_zero, List.set_cons_succ]
        refine wpAnyG_ready (rs := [7, 8]) (by kernel_rfl) (by simp) ?_
        refine AllReadyG.cons rfl (fun K hK => ?_) (AllReadyG.cons rfl (fun K hK => ?_) AllReadyG.nil)
        · go_simp
          refine hK.out _ _ (hHeld.alloc _) (fun hHeld => ?_)
          clear hK K
          try simp only [Act.put, List.setIfInBounds_toArray, List.set_cons_zero, List.set_cons_succ]
          refine wpAnyG_ready (rs := [8]) (by kernel_rfl) (by simp) ?_
          refine AllReadyG.cons rfl (fun K hK => ?_) AllReadyG.nil
          go_simp
          refine hK.out _ _ (hHeld.alloc _) (fun hHeld => ?_)
          clear hK K
          try simp only [Act.put, List.setIfInBounds_toArray, List.set_cons_zero, List.set_cons_succ]
          refine wpAnyG_last rfl (by kernel_rfl) (by kernel_rfl) (fun K hK => ?_)
          go_simp
          refine hK.out _ _ ?_
          clear hK K
          try simp only [Act.put, List.setIfInBounds_toArray, List.set_cons_zero, List.set_cons_succ]
          have hch := ((chg_alloc W4 (.cells #[.slice A m.types.length c, .slice (some ⟨fb, fo, none⟩) m.funcs.length c', .int .i64 f.params, .slice F1 f.locals.length f1, .slice F2 f.caps.length f2, .int .i64 f.res, .slice F3 f.code.length f3, .int .i64 0, .slice none 0 0, .slice none 0 0, .slice none 0 0, .map none, .map none, .nilFunc] 74)).alloc (.cells #[.pointer (some ⟨W4.heap.size, 0, none⟩)] 62)).drew
          have ha := ((Blk.new W4 74 #[.slice A m.types.length c, .slice (some ⟨fb, fo, none⟩) m.funcs.length c', .int .i64 f.params, .slice F1 f.locals.length f1, .slice F2 f.caps.length f2, .int .i64 f.res, .slice F3 f.code.length f3, .int .i64 0, .slice none 0 0, .slice none 0 0, .slice none 0 0, .map none, .map none, .nilFunc]).alloc (.cells #[.pointer (some ⟨W4.heap.size, 0, none⟩)] 62)).drew
          have hb := (Blk.new (W4.alloc (.cells #[.slice A m.types.length c, .slice (some ⟨fb, fo, none⟩) m.funcs.length c', .int .i64 f.params, .slice F1 f.locals.length f1, .slice F2 f.caps.length f2, .int .i64 f.res, .slice F3 f.code.length f3, .int .i64 0, .slice none 0 0, .slice none 0 0, .slice none 0 0, .map none, .map none, .nilFunc] 74)) 62 #[.pointer (some ⟨W4.heap.size, 0, none⟩)]).drew
          rw [World.size_alloc] at hb
          have hszV : ((W4.alloc (.cells #[.slice A m.types.length c, .slice (some ⟨fb, fo, none⟩) m.funcs.length c', .int .i64 f.params, .slice F1 f.locals.length f1, .slice F2 f.caps.length f2, .int .i64 f.res, .slice F3 f.code.length f3, .int .i64 0, .slice none 0 0, .slice none 0 0, .slice none 0 0, .map none, .map none, .nilFunc] 74)).alloc (.cells #[.pointer (some ⟨W4.heap.size, 0, none⟩)] 62)).drew.heap.size = W4.heap.size + 2 := by simp [World.size_alloc]
          have hcw := H4.out.1.trans hch
          have hba5 := hch.blk H4.out.2.1 id
          have hbt5 := hch.blk H4.out.2.2.1 id
          have hbl5 := hch.blk H4.out.2.2.2.1 id
          have h4l := H4.out.2.2.2.2.1
          have hnum := HC.out.2.2.2.2.2.2.2.2
          clear hHeld x0 x1 g0 g1 g2 g3 g4
          generalize ((W4.alloc (.cells #[.slice A m.types.length c, .slice (some ⟨fb, fo, none⟩) m.funcs.length c', .int .i64 f.params, .slice F1 f.locals.length f1, .slice F2 f.caps.length f2, .int .i64 f.res, .slice F3 f.code.length f3, .int .i64 0, .slice none 0 0, .slice none 0 0, .slice none 0 0, .map none, .map none, .nilFunc] 74)).alloc (.cells #[.pointer (some ⟨W4.heap.size, 0, none⟩)] 62)).drew = V at *
          obtain ⟨p, hpe⟩ : ∃ p, p = W4.heap.size := ⟨_, rfl⟩
          obtain ⟨gc, hge⟩ : ∃ g, g = (W4.heap.size + 1) := ⟨_, rfl⟩
          rw [← hge] at hb ⊢
          rw [← hpe] at ha hb ⊢
          skip
          have hqa : w.heap.size ≤ ga ∧ ga < V.heap.size ∧ ga ≠ p := by omega
          have hqc : w.heap.size ≤ gc ∧ gc < V.heap.size ∧ gc ≠ p := by omega
          have hqt : w.heap.size ≤ gt ∧ gt < V.heap.size ∧ gt ≠ p := by omega
          have hql : w.heap.size ≤ gl ∧ gl < V.heap.size ∧ gl ≠ p := by omega
          have hqp : w.heap.size ≤ p ∧ p < V.heap.size := by omega
          have hqn : ga ≠ gt ∧ ga ≠ gl ∧ gc ≠ gt ∧ gc ≠ gl := by omega
          have hbp : Blk V p 74 #[.slice A m.types.length c, .slice (some ⟨fb, fo, none⟩) m.funcs.length c', .int .i64 f.params, .slice F1 f.locals.length f1, .slice F2 f.caps.length f2, .int .i64 f.res, .slice F3 f.code.length f3, .int .i64 0, .slice none 0 0, .slice none 0 0, .slice none 0 0, .map none, .map none, .nilFunc] := ha
          have hbc : Blk V gc 62 #[.pointer (some ⟨p, 0, none⟩)] := hb
          have c7 : V.cell? ⟨gc, 0, none⟩ = some (.pointer (some ⟨p, 0, none⟩)) := by simpa using hbc.cell 0
          have d13 : V.cell? ⟨p, 13, none⟩ = some .nilFunc := by simpa using hbp.cell 13
          have f13 := hbp.frozen 13
          have hst := chg_set (j := 13) hbp (.func (.func 28) #[] #[.pointer (some ⟨ga, 0, none⟩), .pointer (some ⟨gc, 0, none⟩), .pointer (some ⟨gt, 0, none⟩), .pointer (some ⟨gl, 0, none⟩)])
          have hbp2 : Blk (V.setCell ⟨p, 13, none⟩ (.func (.func 28) #[] #[.pointer (some ⟨ga, 0, none⟩), .pointer (some ⟨gc, 0, none⟩), .pointer (some ⟨gt, 0, none⟩), .pointer (some ⟨gl, 0, none⟩)])) p 74 #[.slice A m.types.length c, .slice (some ⟨fb, fo, none⟩) m.funcs.length c', .int .i64 f.params, .slice F1 f.locals.length f1, .slice F2 f.caps.length f2, .int .i64 f.res, .slice F3 f.code.length f3, .int .i64 0, .slice none 0 0, .slice none 0 0, .slice none 0 0, .map none, .map none, .func (.func 28) #[] #[.pointer (some ⟨ga, 0, none⟩), .pointer (some ⟨gc, 0, none⟩), .pointer (some ⟨gt, 0, none⟩), .pointer (some ⟨gl, 0, none⟩)]] := by simpa using hbp.set_ 13 (.func (.func 28) #[] #[.pointer (some ⟨ga, 0, none⟩), .pointer (some ⟨gc, 0, none⟩), .pointer (some ⟨gt, 0, none⟩), .pointer (some ⟨gl, 0, none⟩)])
          have hbc2 := hst.blk hbc (fun hm => hqc.2.2 hm.1)
          have hba2 := hst.blk hba5 (fun hm => hqa.2.2 hm.1)
          have hbt2 := hst.blk hbt5 (fun hm => hqt.2.2 hm.1)
          have hbl2 := hst.blk hbl5 (fun hm => hql.2.2 hm.1)
          have hsz2 : (V.setCell ⟨p, 13, none⟩ (.func (.func 28) #[] #[.pointer (some ⟨ga, 0, none⟩), .pointer (some ⟨gc, 0, none⟩), .pointer (some ⟨gt, 0, none⟩), .pointer (some ⟨gl, 0, none⟩)])).heap.size = V.heap.size := by simp [World.setCell]
          have hcw2 : Chg (fun _ _ => False) w (V.setCell ⟨p, 13, none⟩ (.func (.func 28) #[] #[.pointer (some ⟨ga, 0, none⟩), .pointer (some ⟨gc, 0, none⟩), .pointer (some ⟨gt, 0, none⟩), .pointer (some ⟨gl, 0, none⟩)])) := hcw.trans_new hst fun b t hb hm => by have := hm.1; omega
          have hcV : Chg (fun b _ => w.heap.size ≤ b) w1 (V.setCell ⟨p, 13, none⟩ (.func (.func 28) #[] #[.pointer (some ⟨ga, 0, none⟩), .pointer (some ⟨gc, 0, none⟩), .pointer (some ⟨gt, 0, none⟩), .pointer (some ⟨gl, 0, none⟩)])) := ((H4.out.2.2.2.2.2.2.trans hch).mono (M' := fun b _ => w.heap.size ≤ b) fun _ _ _ h => h.elim).trans (hst.mono fun b _ _ hm => by rw [hm.1]; exact hqp.1)
          have hlV : LetsM (fun b _ => w.heap.size ≤ b) B := fun b t hb hm => by have := HC.out.2.2.2.2.1; omega
          have hno : ∀ b, ¬ OwnB (none : Option Addr) 0 0 b := fun b hb => by simp [OwnB, Value.ownBlock] at hb
          have hI : CkI (hdT B p w.heap.size V.heap.size ga gc gt gl m f A c (some ⟨fb, fo, none⟩) c' F1 f1 F2 f2 F3 f3) 6000 (V.setCell ⟨p, 13, none⟩ (.func (.func 28) #[] #[.pointer (some ⟨ga, 0, none⟩), .pointer (some ⟨gc, 0, none⟩), .pointer (some ⟨gt, 0, none⟩), .pointer (some ⟨gl, 0, none⟩)])) ⟨[], [], []⟩ := ⟨none, 0, none, 0, none, 0, .map none, {
            blk := hbp2
            stack := RowR.nil _ _ _ _ _
            taken := RowR.nil _ _ _ _ _
            left := RowR.nil _ _ _ _ _
            ks := fun b hb => absurd hb (hno b)
            kt := fun b hb => absurd hb (hno b)
            kl := fun b hb => absurd hb (hno b)
            dst := fun b hb => absurd hb (hno b)
            dsl := fun b hb => absurd hb (hno b)
            dtl := fun b hb => absurd hb (hno b)
            known := ⟨fun _ => none, .inl ⟨rfl, rfl⟩⟩
            mod := ⟨HC.out.2.1.keep hcw2 hlt, HC.out.2.2.1.keep hcw2 hlt, HF.out.2.2.2.2.2.2.1.keep hcV hlV, HF.out.2.2.2.2.2.2.2.1.keep hcV hlV, HF.out.2.2.2.2.2.2.2.2.keep hcV hlV, HC.out.2.2.2.2.1, HF.out.2.2.2.1, HF.out.2.2.1⟩
            ps := by show 0 + 6000 ≤ 100000; omega
            pt := by show 0 + 6000 ≤ 100000; omega
            plf := by show 0 + 6000 ≤ 100000; omega
            place := ⟨hqp.1, fun hh => hh.2.2 rfl⟩
            low := fun b hb => by rw [hsz2]; exact hb.2.1
            bw := by rw [hsz2]; show w.heap.size ≤ V.heap.size; omega }⟩
          have hJ0 : TkJ m f ka w.heap.size ga gc gt gl p 0 (fun _ => False) (V.setCell ⟨p, 13, none⟩ (.func (.func 28) #[] #[.pointer (some ⟨ga, 0, none⟩), .pointer (some ⟨gc, 0, none⟩), .pointer (some ⟨gt, 0, none⟩), .pointer (some ⟨gl, 0, none⟩)])) := ⟨hba2, hbc2, fun _ h => h.elim, .inl ⟨Nat.zero_le _, hbt2, hbl2⟩⟩
          have hrun : Calls Try.prog 30 #[.pointer (some ⟨p, 0, none⟩), .func (.func 31) #[] #[]] (V.setCell ⟨p, 13, none⟩ (.func (.func 28) #[] #[.pointer (some ⟨ga, 0, none⟩), .pointer (some ⟨gc, 0, none⟩), .pointer (some ⟨gt, 0, none⟩), .pointer (some ⟨gl, 0, none⟩)])) (RunRes (hdT B p w.heap.size V.heap.size ga gc gt gl m f A c (some ⟨fb, fo, none⟩) c' F1 f1 F2 f2 F3 f3) (fun b => b = gt ∨ b = gl) (TkJ m f ka w.heap.size ga gc gt gl p) (V.setCell ⟨p, 13, none⟩ (.func (.func 28) #[] #[.pointer (some ⟨ga, 0, none⟩), .pointer (some ⟨gc, 0, none⟩), .pointer (some ⟨gt, 0, none⟩), .pointer (some ⟨gl, 0, none⟩)]))) :=
            run_any (hdT B p w.heap.size V.heap.size ga gc gt gl m f A c (some ⟨fb, fo, none⟩) c' F1 f1 F2 f2 F3 f3) (cliT B p w.heap.size V.heap.size ga gc gt gl ka m f A c (some ⟨fb, fo, none⟩) c' F1 f1 F2 f2 F3 f3 HC.out.2.2.2.2.1 hqa hqc hqt hql hne hqn) (V.setCell ⟨p, 13, none⟩ (.func (.func 28) #[] #[.pointer (some ⟨ga, 0, none⟩), .pointer (some ⟨gc, 0, none⟩), .pointer (some ⟨gt, 0, none⟩), .pointer (some ⟨gl, 0, none⟩)])) rfl hI hJ0 (HC.out.2.2.2.1 f HF.out.2.2.1).1 (HC.out.2.2.2.1 f HF.out.2.2.1).2
          have c8 : (V.setCell ⟨p, 13, none⟩ (.func (.func 28) #[] #[.pointer (some ⟨ga, 0, none⟩), .pointer (some ⟨gc, 0, none⟩), .pointer (some ⟨gt, 0, none⟩), .pointer (some ⟨gl, 0, none⟩)])).cell? ⟨gc, 0, none⟩ = some (.pointer (some ⟨p, 0, none⟩)) := by simpa using hbc2.cell 0
          have HV := Lib.hid (And.intro hcw2 (And.intro hqt.1 (And.intro hql.1 hqp.1)))
          clear hI hJ0 hbp hbp2 hbc hbc2 hba2 hbt2 hbl2 ha hb hba5 hbt5 hbl5 hszV hcw hcw2 hqa hqc hqt hql hqp hqn hch hpe hge hno hcV hlV hsz2 hst h4l hnum
          go_wp2_with fail
          refine hrun.mono fun e v2 hh => ?_
          obtain ⟨hc2, hh⟩ := hh
          have hh : (funcAt m f = -1 ∧ e = .returned (.tuple #[]) ∧ ∃ G, TkJ m f ka w.heap.size ga gc gt gl p f.code.length G v2 ∧ ∀ x, G x → (V.setCell ⟨p, 13, none⟩ (.func (.func 28) #[] #[.pointer (some ⟨ga, 0, none⟩), .pointer (some ⟨gc, 0, none⟩), .pointer (some ⟨gt, 0, none⟩), .pointer (some ⟨gl, 0, none⟩)])).heap.size < x) ∨ (0 ≤ funcAt m f ∧ e = .panicked [{ v := .iface 90 (.agg #[.int .i64 (funcAt m f)]), recovered := false }]) := hh
          rcases hh with ⟨_, rfl, G, hJG, _⟩ | ⟨hbad, _⟩
          · obtain ⟨_, _, hGn, hh⟩ := hJG
            rcases hh with ⟨hk, _⟩ | ⟨_, x, st, s, hx, hat, hs, TA, tc, TB, tc', k1, k2, k3, k4, k5, k6⟩
            · have := H4.out.2.2.2.2.2.1; omega
            · obtain ⟨tl, htl⟩ : ∃ l, l = s.taken.reverse := ⟨_, rfl⟩
              rw [← htl] at k1 k3 k5
              have HTL := Lib.hid htl
              clear htl
              have hcv : Chg (fun _ _ => False) w v2 := HV.out.1.trans_new hc2 fun b t hb hm => by
                rcases hm with h | ⟨h | h, _⟩
                · have h1 : w.heap.size ≤ b := h.1
                  omega
                · have := HV.out.2.1; omega
                · have := HV.out.2.2.1; omega
              have HR := Lib.hid (And.intro hx (And.intro hat (And.intro hs (And.intro k3 (And.intro k4 hcv)))))
              clear hx hat hs k3 k4 k5 k6 hcv hc2 hrun c8 c7 d13 f13
              go_wp2_with fail
              refine wp_region_G (S := fun w' => Blk w' gt 31 #[.slice TA tl.length tc] ∧ Blk w' gl 31 #[.slice TB s.left.length tc'] ∧ Chg (fun b t => (b = gt ∨ b = gl) ∧ t = 31) v2 w') 4 (by kernel_rfl) ⟨((Chg.refl (fun _ _ => False) v2).drew).blk k1 id, ((Chg.refl (fun _ _ => False) v2).drew).blk k2 id, (Chg.refl _ _).drew⟩ (fun hHeld => ?_)
              generalize v2.drew = V9 at hHeld ⊢
              obtain ⟨u1, u2, u3⟩ := id hHeld
              have hst1 := chg_set (j := 0) u1 (.slice TA tl.length tc)
              have ub1 : Blk (V9.setCell ⟨gt, 0, none⟩ (.slice TA tl.length tc)) gt 31 #[.slice TA tl.length tc] := by simpa using u1.set_ 0 (.slice TA tl.length tc)
              have ub2 := hst1.blk u2 (fun hm => hne hm.1.symm)
              have hst2 := chg_set (j := 0) ub2 (.slice TB s.left.length tc')
              have uc2 : Blk ((V9.setCell ⟨gt, 0, none⟩ (.slice TA tl.length tc)).setCell ⟨gl, 0, none⟩ (.slice TB s.left.length tc')) gl 31 #[.slice TB s.left.length tc'] := by simpa using ub2.set_ 0 (.slice TB s.left.length tc')
              have uc1 := hst2.blk ub1 (fun hm => hne hm.1)
              have t0 : V9.cell? ⟨gt, 0, none⟩ = some (.slice TA tl.length tc) := by simpa using u1.cell 0
              have tf := u1.frozen 0
              have l0 : (V9.setCell ⟨gt, 0, none⟩ (.slice TA tl.length tc)).cell? ⟨gl, 0, none⟩ = some (.slice TB s.left.length tc') := by simpa using ub2.cell 0
              have lf := ub2.frozen 0
              have e0 : ((V9.setCell ⟨gt, 0, none⟩ (.slice TA tl.length tc)).setCell ⟨gl, 0, none⟩ (.slice TB s.left.length tc')).cell? ⟨gt, 0, none⟩ = some (.slice TA tl.length tc) := by simpa using uc1.cell 0
              have e1 : ((V9.setCell ⟨gt, 0, none⟩ (.slice TA tl.length tc)).setCell ⟨gl, 0, none⟩ (.slice TB s.left.length tc')).cell? ⟨gl, 0, none⟩ = some (.slice TB s.left.length tc') := by simpa using uc2.cell 0
              have hm1 := u3.trans (hst1.mono (M' := fun b t => (b = gt ∨ b = gl) ∧ t = 31) fun _ _ _ hm => ⟨.inl hm.1, hm.2⟩)
              have HM := Lib.hid (And.intro u3 (And.intro hst1 hst2))
              clear uc1 uc2 u1 u2 u3 hst1 hst2 k1 k2
              refine wpAnyG_take (i := 0) (v := ?va44) rfl (by kernel_rfl) (fun _ _ _ h => h) (Or.inl ⟨by kernel_rfl, ?hy44⟩) (by assumption) ?ra44
              case hy44 => (intro w hSw; (try dsimp only at hSw); have t0 : w.cell? ⟨gt, 0, none⟩ = some (.slice TA tl.length tc) := (by simpa using hSw.1.cell 0); clear hSw; go_simp; all_goals (with_reducible rfl))
              simp only [Act.put, List.setIfInBounds_toArray, List.set_cons_zero, List.set_cons_succ]
              refine wpAnyG_take (i := 1) (v := ?va45) rfl (by kernel_rfl) (fun _ _ _ h => h) (Or.inl ⟨by kernel_rfl, ?hy45⟩) (by assumption) ?ra45
              case hy45 => (intro w hSw; (try dsimp only at hSw); have t0 : w.cell? ⟨gl, 0, none⟩ = some (.slice TB s.left.length tc') := (by simpa using hSw.2.1.cell 0); clear hSw; go_simp; all_goals (with_reducible rfl))
              simp only [Act.put, List.setIfInBounds_toArray, List.set_cons_zero, List.set_cons_succ]

              refine wpAnyG_ready (rs := [2]) (by kernel_rfl) (by simp) ?_
              refine AllReadyG.cons rfl (fun K hK => ?_) AllReadyG.nil

              go_simp
              refine hK.out _ _ ⟨ub1, ub2, hm1⟩ (fun hHeld => ?_)
              clear hK K
              try simp only [Act.put, List.setIfInBounds_toArray, List.set_cons_zero, List.set_cons_succ]
              refine wpAnyG_ready (rs := [3]) (by kernel_rfl) (by simp) ?_
              refine AllReadyG.cons rfl (fun K hK => ?_) AllReadyG.nil

              go_simp
              refine hK.out _ _ ⟨HM.out.2.2.blk ub1 (fun hm => hne hm.1), by simpa using ub2.set_ 0 (.slice TB s.left.length tc'), hm1.trans (HM.out.2.2.mono fun _ _ _ hm => ⟨.inr hm.1, hm.2⟩)⟩ (fun hHeld => ?_)
              clear hK K
              try simp only [Act.put, List.setIfInBounds_toArray, List.set_cons_zero, List.set_cons_succ]
              refine wpAnyG_last rfl (by kernel_rfl) (by kernel_rfl) (fun K hK => ?_)
              go_simp
              refine hK.out _ _ ?_
              clear hK K
              try simp only [Act.put, List.setIfInBounds_toArray, List.set_cons_zero, List.set_cons_succ]
              go_wp2_with fail
              refine bodyPost_ret (v := .tuple #[.slice TA tl.length tc, .slice TB s.left.length tc', .int .i64 0]) (by simp [results, Try.results14, go_sem, e0, e1]) rfl ?_
              have hE1 : takeE m n ka = 0 := by rw [takeE_f HE.out (by rw [Int.toNat_natCast]; exact HF.out.1)]; simp only [HB.out.1, HB.out.2, Bool.or_self, Bool.false_eq_true, if_false]
              have h3 := HM.out.2.1
              have h4 := HM.out.2.2
              have h5 := HM.out.1
              refine ⟨_, _, by rw [hE1], ((HR.out.2.2.2.2.2.trans_new h5 fun b t hb hm => by have := HV.out.2; have := hm.1; omega).trans_new h3 fun b t hb hm => by have := HV.out.2; have := hm.1; omega).trans_new h4 fun b t hb hm => by have := HV.out.2; have := hm.1; omega, ?_⟩
              unfold TkOut
              rw [hE1, if_pos rfl]
              simp only [Int.toNat_natCast]
              have htl := HTL.out
              subst htl
              exact ⟨f, x, st, s, TA, tc, TB, tc', HF.out.1, HR.out.1, HR.out.2.1, HR.out.2.2.1, rfl, rfl, (((HR.out.2.2.2.1.keep1 h5 (fun _ _ hm => absurd hm.2 (by decide)) fun _ _ h => h).keep1 h3 (fun _ _ hm => absurd hm.2 (by decide)) fun _ _ h => h).keep1 h4 (fun _ _ hm => absurd hm.2 (by decide)) fun _ _ h => h), (((HR.out.2.2.2.2.1.keep1 h5 (fun _ _ hm => absurd hm.2 (by decide)) fun _ _ h => h).keep1 h3 (fun _ _ hm => absurd hm.2 (by decide)) fun _ _ h => h).keep1 h4 (fun _ _ hm => absurd hm.2 (by decide)) fun _ _ h => h)⟩
          · have := HF.out.2.1; omega
        · go_simp
          refine hK.out _ _ (hHeld.alloc _) (fun hHeld => ?_)
          clear hK K
          try simp only [Act.put, List.setIfInBounds_toArray, List.set_cons_zero, List.set_cons_succ]
          refine wpAnyG_ready (rs := [7]) (by kernel_rfl) (by simp) ?_
          refine AllReadyG.cons rfl (fun K hK => ?_) AllReadyG.nil
          go_simp
          refine hK.out _ _ (hHeld.alloc _) (fun hHeld => ?_)
          clear hK K
          try simp only [Act.put, List.setIfInBounds_toArray, List.set_cons_zero, List.set_cons_succ]
          refine wpAnyG_last rfl (by kernel_rfl) (by kernel_rfl) (fun K hK => ?_)
          go_simp
          refine hK.out _ _ ?_
          clear hK K
          try simp only [Act.put, List.setIfInBounds_toArray, List.set_cons_zero, List.set_cons_succ]
          have hch := ((chg_alloc W4 (.cells #[.pointer (some ⟨(W4.heap.size + 1), 0, none⟩)] 62)).alloc (.cells #[.slice A m.types.length c, .slice (some ⟨fb, fo, none⟩) m.funcs.length c', .int .i64 f.params, .slice F1 f.locals.length f1, .slice F2 f.caps.length f2, .int .i64 f.res, .slice F3 f.code.length f3, .int .i64 0, .slice none 0 0, .slice none 0 0, .slice none 0 0, .map none, .map none, .nilFunc] 74)).drew
          have ha := ((Blk.new W4 62 #[.pointer (some ⟨(W4.heap.size + 1), 0, none⟩)]).alloc (.cells #[.slice A m.types.length c, .slice (some ⟨fb, fo, none⟩) m.funcs.length c', .int .i64 f.params, .slice F1 f.locals.length f1, .slice F2 f.caps.length f2, .int .i64 f.res, .slice F3 f.code.length f3, .int .i64 0, .slice none 0 0, .slice none 0 0, .slice none 0 0, .map none, .map none, .nilFunc] 74)).drew
          have hb := (Blk.new (W4.alloc (.cells #[.pointer (some ⟨(W4.heap.size + 1), 0, none⟩)] 62)) 74 #[.slice A m.types.length c, .slice (some ⟨fb, fo, none⟩) m.funcs.length c', .int .i64 f.params, .slice F1 f.locals.length f1, .slice F2 f.caps.length f2, .int .i64 f.res, .slice F3 f.code.length f3, .int .i64 0, .slice none 0 0, .slice none 0 0, .slice none 0 0, .map none, .map none, .nilFunc]).drew
          rw [World.size_alloc] at hb
          have hszV : ((W4.alloc (.cells #[.pointer (some ⟨(W4.heap.size + 1), 0, none⟩)] 62)).alloc (.cells #[.slice A m.types.length c, .slice (some ⟨fb, fo, none⟩) m.funcs.length c', .int .i64 f.params, .slice F1 f.locals.length f1, .slice F2 f.caps.length f2, .int .i64 f.res, .slice F3 f.code.length f3, .int .i64 0, .slice none 0 0, .slice none 0 0, .slice none 0 0, .map none, .map none, .nilFunc] 74)).drew.heap.size = W4.heap.size + 2 := by simp [World.size_alloc]
          have hcw := H4.out.1.trans hch
          have hba5 := hch.blk H4.out.2.1 id
          have hbt5 := hch.blk H4.out.2.2.1 id
          have hbl5 := hch.blk H4.out.2.2.2.1 id
          have h4l := H4.out.2.2.2.2.1
          have hnum := HC.out.2.2.2.2.2.2.2.2
          clear hHeld x0 x1 g0 g1 g2 g3 g4
          generalize ((W4.alloc (.cells #[.pointer (some ⟨(W4.heap.size + 1), 0, none⟩)] 62)).alloc (.cells #[.slice A m.types.length c, .slice (some ⟨fb, fo, none⟩) m.funcs.length c', .int .i64 f.params, .slice F1 f.locals.length f1, .slice F2 f.caps.length f2, .int .i64 f.res, .slice F3 f.code.length f3, .int .i64 0, .slice none 0 0, .slice none 0 0, .slice none 0 0, .map none, .map none, .nilFunc] 74)).drew = V at *
          obtain ⟨p, hpe⟩ : ∃ p, p = (W4.heap.size + 1) := ⟨_, rfl⟩
          obtain ⟨gc, hge⟩ : ∃ g, g = W4.heap.size := ⟨_, rfl⟩
          skip
          rw [← hpe] at ha hb ⊢
          rw [← hge] at ha ⊢
          have hqa : w.heap.size ≤ ga ∧ ga < V.heap.size ∧ ga ≠ p := by omega
          have hqc : w.heap.size ≤ gc ∧ gc < V.heap.size ∧ gc ≠ p := by omega
          have hqt : w.heap.size ≤ gt ∧ gt < V.heap.size ∧ gt ≠ p := by omega
          have hql : w.heap.size ≤ gl ∧ gl < V.heap.size ∧ gl ≠ p := by omega
          have hqp : w.heap.size ≤ p ∧ p < V.heap.size := by omega
          have hqn : ga ≠ gt ∧ ga ≠ gl ∧ gc ≠ gt ∧ gc ≠ gl := by omega
          have hbp : Blk V p 74 #[.slice A m.types.length c, .slice (some ⟨fb, fo, none⟩) m.funcs.length c', .int .i64 f.params, .slice F1 f.locals.length f1, .slice F2 f.caps.length f2, .int .i64 f.res, .slice F3 f.code.length f3, .int .i64 0, .slice none 0 0, .slice none 0 0, .slice none 0 0, .map none, .map none, .nilFunc] := hb
          have hbc : Blk V gc 62 #[.pointer (some ⟨p, 0, none⟩)] := ha
          have c7 : V.cell? ⟨gc, 0, none⟩ = some (.pointer (some ⟨p, 0, none⟩)) := by simpa using hbc.cell 0
          have d13 : V.cell? ⟨p, 13, none⟩ = some .nilFunc := by simpa using hbp.cell 13
          have f13 := hbp.frozen 13
          have hst := chg_set (j := 13) hbp (.func (.func 28) #[] #[.pointer (some ⟨ga, 0, none⟩), .pointer (some ⟨gc, 0, none⟩), .pointer (some ⟨gt, 0, none⟩), .pointer (some ⟨gl, 0, none⟩)])
          have hbp2 : Blk (V.setCell ⟨p, 13, none⟩ (.func (.func 28) #[] #[.pointer (some ⟨ga, 0, none⟩), .pointer (some ⟨gc, 0, none⟩), .pointer (some ⟨gt, 0, none⟩), .pointer (some ⟨gl, 0, none⟩)])) p 74 #[.slice A m.types.length c, .slice (some ⟨fb, fo, none⟩) m.funcs.length c', .int .i64 f.params, .slice F1 f.locals.length f1, .slice F2 f.caps.length f2, .int .i64 f.res, .slice F3 f.code.length f3, .int .i64 0, .slice none 0 0, .slice none 0 0, .slice none 0 0, .map none, .map none, .func (.func 28) #[] #[.pointer (some ⟨ga, 0, none⟩), .pointer (some ⟨gc, 0, none⟩), .pointer (some ⟨gt, 0, none⟩), .pointer (some ⟨gl, 0, none⟩)]] := by simpa using hbp.set_ 13 (.func (.func 28) #[] #[.pointer (some ⟨ga, 0, none⟩), .pointer (some ⟨gc, 0, none⟩), .pointer (some ⟨gt, 0, none⟩), .pointer (some ⟨gl, 0, none⟩)])
          have hbc2 := hst.blk hbc (fun hm => hqc.2.2 hm.1)
          have hba2 := hst.blk hba5 (fun hm => hqa.2.2 hm.1)
          have hbt2 := hst.blk hbt5 (fun hm => hqt.2.2 hm.1)
          have hbl2 := hst.blk hbl5 (fun hm => hql.2.2 hm.1)
          have hsz2 : (V.setCell ⟨p, 13, none⟩ (.func (.func 28) #[] #[.pointer (some ⟨ga, 0, none⟩), .pointer (some ⟨gc, 0, none⟩), .pointer (some ⟨gt, 0, none⟩), .pointer (some ⟨gl, 0, none⟩)])).heap.size = V.heap.size := by simp [World.setCell]
          have hcw2 : Chg (fun _ _ => False) w (V.setCell ⟨p, 13, none⟩ (.func (.func 28) #[] #[.pointer (some ⟨ga, 0, none⟩), .pointer (some ⟨gc, 0, none⟩), .pointer (some ⟨gt, 0, none⟩), .pointer (some ⟨gl, 0, none⟩)])) := hcw.trans_new hst fun b t hb hm => by have := hm.1; omega
          have hcV : Chg (fun b _ => w.heap.size ≤ b) w1 (V.setCell ⟨p, 13, none⟩ (.func (.func 28) #[] #[.pointer (some ⟨ga, 0, none⟩), .pointer (some ⟨gc, 0, none⟩), .pointer (some ⟨gt, 0, none⟩), .pointer (some ⟨gl, 0, none⟩)])) := ((H4.out.2.2.2.2.2.2.trans hch).mono (M' := fun b _ => w.heap.size ≤ b) fun _ _ _ h => h.elim).trans (hst.mono fun b _ _ hm => by rw [hm.1]; exact hqp.1)
          have hlV : LetsM (fun b _ => w.heap.size ≤ b) B := fun b t hb hm => by have := HC.out.2.2.2.2.1; omega
          have hno : ∀ b, ¬ OwnB (none : Option Addr) 0 0 b := fun b hb => by simp [OwnB, Value.ownBlock] at hb
          have hI : CkI (hdT B p w.heap.size V.heap.size ga gc gt gl m f A c (some ⟨fb, fo, none⟩) c' F1 f1 F2 f2 F3 f3) 6000 (V.setCell ⟨p, 13, none⟩ (.func (.func 28) #[] #[.pointer (some ⟨ga, 0, none⟩), .pointer (some ⟨gc, 0, none⟩), .pointer (some ⟨gt, 0, none⟩), .pointer (some ⟨gl, 0, none⟩)])) ⟨[], [], []⟩ := ⟨none, 0, none, 0, none, 0, .map none, {
            blk := hbp2
            stack := RowR.nil _ _ _ _ _
            taken := RowR.nil _ _ _ _ _
            left := RowR.nil _ _ _ _ _
            ks := fun b hb => absurd hb (hno b)
            kt := fun b hb => absurd hb (hno b)
            kl := fun b hb => absurd hb (hno b)
            dst := fun b hb => absurd hb (hno b)
            dsl := fun b hb => absurd hb (hno b)
            dtl := fun b hb => absurd hb (hno b)
            known := ⟨fun _ => none, .inl ⟨rfl, rfl⟩⟩
            mod := ⟨HC.out.2.1.keep hcw2 hlt, HC.out.2.2.1.keep hcw2 hlt, HF.out.2.2.2.2.2.2.1.keep hcV hlV, HF.out.2.2.2.2.2.2.2.1.keep hcV hlV, HF.out.2.2.2.2.2.2.2.2.keep hcV hlV, HC.out.2.2.2.2.1, HF.out.2.2.2.1, HF.out.2.2.1⟩
            ps := by show 0 + 6000 ≤ 100000; omega
            pt := by show 0 + 6000 ≤ 100000; omega
            plf := by show 0 + 6000 ≤ 100000; omega
            place := ⟨hqp.1, fun hh => hh.2.2 rfl⟩
            low := fun b hb => by rw [hsz2]; exact hb.2.1
            bw := by rw [hsz2]; show w.heap.size ≤ V.heap.size; omega }⟩
          have hJ0 : TkJ m f ka w.heap.size ga gc gt gl p 0 (fun _ => False) (V.setCell ⟨p, 13, none⟩ (.func (.func 28) #[] #[.pointer (some ⟨ga, 0, none⟩), .pointer (some ⟨gc, 0, none⟩), .pointer (some ⟨gt, 0, none⟩), .pointer (some ⟨gl, 0, none⟩)])) := ⟨hba2, hbc2, fun _ h => h.elim, .inl ⟨Nat.zero_le _, hbt2, hbl2⟩⟩
          have hrun : Calls Try.prog 30 #[.pointer (some ⟨p, 0, none⟩), .func (.func 31) #[] #[]] (V.setCell ⟨p, 13, none⟩ (.func (.func 28) #[] #[.pointer (some ⟨ga, 0, none⟩), .pointer (some ⟨gc, 0, none⟩), .pointer (some ⟨gt, 0, none⟩), .pointer (some ⟨gl, 0, none⟩)])) (RunRes (hdT B p w.heap.size V.heap.size ga gc gt gl m f A c (some ⟨fb, fo, none⟩) c' F1 f1 F2 f2 F3 f3) (fun b => b = gt ∨ b = gl) (TkJ m f ka w.heap.size ga gc gt gl p) (V.setCell ⟨p, 13, none⟩ (.func (.func 28) #[] #[.pointer (some ⟨ga, 0, none⟩), .pointer (some ⟨gc, 0, none⟩), .pointer (some ⟨gt, 0, none⟩), .pointer (some ⟨gl, 0, none⟩)]))) :=
            run_any (hdT B p w.heap.size V.heap.size ga gc gt gl m f A c (some ⟨fb, fo, none⟩) c' F1 f1 F2 f2 F3 f3) (cliT B p w.heap.size V.heap.size ga gc gt gl ka m f A c (some ⟨fb, fo, none⟩) c' F1 f1 F2 f2 F3 f3 HC.out.2.2.2.2.1 hqa hqc hqt hql hne hqn) (V.setCell ⟨p, 13, none⟩ (.func (.func 28) #[] #[.pointer (some ⟨ga, 0, none⟩), .pointer (some ⟨gc, 0, none⟩), .pointer (some ⟨gt, 0, none⟩), .pointer (some ⟨gl, 0, none⟩)])) rfl hI hJ0 (HC.out.2.2.2.1 f HF.out.2.2.1).1 (HC.out.2.2.2.1 f HF.out.2.2.1).2
          have c8 : (V.setCell ⟨p, 13, none⟩ (.func (.func 28) #[] #[.pointer (some ⟨ga, 0, none⟩), .pointer (some ⟨gc, 0, none⟩), .pointer (some ⟨gt, 0, none⟩), .pointer (some ⟨gl, 0, none⟩)])).cell? ⟨gc, 0, none⟩ = some (.pointer (some ⟨p, 0, none⟩)) := by simpa using hbc2.cell 0
          have HV := Lib.hid (And.intro hcw2 (And.intro hqt.1 (And.intro hql.1 hqp.1)))
          clear hI hJ0 hbp hbp2 hbc hbc2 hba2 hbt2 hbl2 ha hb hba5 hbt5 hbl5 hszV hcw hcw2 hqa hqc hqt hql hqp hqn hch hpe hge hno hcV hlV hsz2 hst h4l hnum
          go_wp2_with fail
          refine hrun.mono fun e v2 hh => ?_
          obtain ⟨hc2, hh⟩ := hh
          have hh : (funcAt m f = -1 ∧ e = .returned (.tuple #[]) ∧ ∃ G, TkJ m f ka w.heap.size ga gc gt gl p f.code.length G v2 ∧ ∀ x, G x → (V.setCell ⟨p, 13, none⟩ (.func (.func 28) #[] #[.pointer (some ⟨ga, 0, none⟩), .pointer (some ⟨gc, 0, none⟩), .pointer (some ⟨gt, 0, none⟩), .pointer (some ⟨gl, 0, none⟩)])).heap.size < x) ∨ (0 ≤ funcAt m f ∧ e = .panicked [{ v := .iface 90 (.agg #[.int .i64 (funcAt m f)]), recovered := false }]) := hh
          rcases hh with ⟨_, rfl, G, hJG, _⟩ | ⟨hbad, _⟩
          · obtain ⟨_, _, hGn, hh⟩ := hJG
            rcases hh with ⟨hk, _⟩ | ⟨_, x, st, s, hx, hat, hs, TA, tc, TB, tc', k1, k2, k3, k4, k5, k6⟩
            · have := H4.out.2.2.2.2.2.1; omega
            · obtain ⟨tl, htl⟩ : ∃ l, l = s.taken.reverse := ⟨_, rfl⟩
              rw [← htl] at k1 k3 k5
              have HTL := Lib.hid htl
              clear htl
              have hcv : Chg (fun _ _ => False) w v2 := HV.out.1.trans_new hc2 fun b t hb hm => by
                rcases hm with h | ⟨h | h, _⟩
                · have h1 : w.heap.size ≤ b := h.1
                  omega
                · have := HV.out.2.1; omega
                · have := HV.out.2.2.1; omega
              have HR := Lib.hid (And.intro hx (And.intro hat (And.intro hs (And.intro k3 (And.intro k4 hcv)))))
              clear hx hat hs k3 k4 k5 k6 hcv hc2 hrun c8 c7 d13 f13
              go_wp2_with fail
              refine wp_region_G (S := fun w' => Blk w' gt 31 #[.slice TA tl.length tc] ∧ Blk w' gl 31 #[.slice TB s.left.length tc'] ∧ Chg (fun b t => (b = gt ∨ b = gl) ∧ t = 31) v2 w') 4 (by kernel_rfl) ⟨((Chg.refl (fun _ _ => False) v2).drew).blk k1 id, ((Chg.refl (fun _ _ => False) v2).drew).blk k2 id, (Chg.refl _ _).drew⟩ (fun hHeld => ?_)
              generalize v2.drew = V9 at hHeld ⊢
              obtain ⟨u1, u2, u3⟩ := id hHeld
              have hst1 := chg_set (j := 0) u1 (.slice TA tl.length tc)
              have ub1 : Blk (V9.setCell ⟨gt, 0, none⟩ (.slice TA tl.length tc)) gt 31 #[.slice TA tl.length tc] := by simpa using u1.set_ 0 (.slice TA tl.length tc)
              have ub2 := hst1.blk u2 (fun hm => hne hm.1.symm)
              have hst2 := chg_set (j := 0) ub2 (.slice TB s.left.length tc')
              have uc2 : Blk ((V9.setCell ⟨gt, 0, none⟩ (.slice TA tl.length tc)).setCell ⟨gl, 0, none⟩ (.slice TB s.left.length tc')) gl 31 #[.slice TB s.left.length tc'] := by simpa using ub2.set_ 0 (.slice TB s.left.length tc')
              have uc1 := hst2.blk ub1 (fun hm => hne hm.1)
              have t0 : V9.cell? ⟨gt, 0, none⟩ = some (.slice TA tl.length tc) := by simpa using u1.cell 0
              have tf := u1.frozen 0
              have l0 : (V9.setCell ⟨gt, 0, none⟩ (.slice TA tl.length tc)).cell? ⟨gl, 0, none⟩ = some (.slice TB s.left.length tc') := by simpa using ub2.cell 0
              have lf := ub2.frozen 0
              have e0 : ((V9.setCell ⟨gt, 0, none⟩ (.slice TA tl.length tc)).setCell ⟨gl, 0, none⟩ (.slice TB s.left.length tc')).cell? ⟨gt, 0, none⟩ = some (.slice TA tl.length tc) := by simpa using uc1.cell 0
              have e1 : ((V9.setCell ⟨gt, 0, none⟩ (.slice TA tl.length tc)).setCell ⟨gl, 0, none⟩ (.slice TB s.left.length tc')).cell? ⟨gl, 0, none⟩ = some (.slice TB s.left.length tc') := by simpa using uc2.cell 0
              have hm1 := u3.trans (hst1.mono (M' := fun b t => (b = gt ∨ b = gl) ∧ t = 31) fun _ _ _ hm => ⟨.inl hm.1, hm.2⟩)
              have HM := Lib.hid (And.intro u3 (And.intro hst1 hst2))
              clear uc1 uc2 u1 u2 u3 hst1 hst2 k1 k2
              refine wpAnyG_take (i := 0) (v := ?va46) rfl (by kernel_rfl) (fun _ _ _ h => h) (Or.inl ⟨by kernel_rfl, ?hy46⟩) (by assumption) ?ra46
              case hy46 => (intro w hSw; (try dsimp only at hSw); have t0 : w.cell? ⟨gt, 0, none⟩ = some (.slice TA tl.length tc) := (by simpa using hSw.1.cell 0); clear hSw; go_simp; all_goals (with_reducible rfl))
              simp only [Act.put, List.setIfInBounds_toArray, List.set_cons_zero, List.set_cons_succ]
              refine wpAnyG_take (i := 1) (v := ?va47) rfl (by kernel_rfl) (fun _ _ _ h => h) (Or.inl ⟨by kernel_rfl, ?hy47⟩) (by assumption) ?ra47
              case hy47 => (intro w hSw; (try dsimp only at hSw); have t0 : w.cell? ⟨gl, 0, none⟩ = some (.slice TB s.left.length tc') := (by simpa using hSw.2.1.cell 0); clear hSw; go_simp; all_goals (with_reducible rfl))
              simp only [Act.put, List.setIfInBounds_toArray, List.set_cons_zero, List.set_cons_succ]

              refine wpAnyG_ready (rs := [2]) (by kernel_rfl) (by simp) ?_
              refine AllReadyG.cons rfl (fun K hK => ?_) AllReadyG.nil

              go_simp
              refine hK.out _ _ ⟨ub1, ub2, hm1⟩ (fun hHeld => ?_)
              clear hK K
              try simp only [Act.put, List.setIfInBounds_toArray, List.set_cons_zero, List.set_cons_succ]
              refine wpAnyG_ready (rs := [3]) (by kernel_rfl) (by simp) ?_
              refine AllReadyG.cons rfl (fun K hK => ?_) AllReadyG.nil

              go_simp
              refine hK.out _ _ ⟨HM.out.2.2.blk ub1 (fun hm => hne hm.1), by simpa using ub2.set_ 0 (.slice TB s.left.length tc'), hm1.trans (HM.out.2.2.mono fun _ _ _ hm => ⟨.inr hm.1, hm.2⟩)⟩ (fun hHeld => ?_)
              clear hK K
              try simp only [Act.put, List.setIfInBounds_toArray, List.set_cons_zero, List.set_cons_succ]
              refine wpAnyG_last rfl (by kernel_rfl) (by kernel_rfl) (fun K hK => ?_)
              go_simp
              refine hK.out _ _ ?_
              clear hK K
              try simp only [Act.put, List.setIfInBounds_toArray, List.set_cons_zero, List.set_cons_succ]
              go_wp2_with fail
              refine bodyPost_ret (v := .tuple #[.slice TA tl.length tc, .slice TB s.left.length tc', .int .i64 0]) (by simp [results, Try.results14, go_sem, e0, e1]) rfl ?_
              have hE1 : takeE m n ka = 0 := by rw [takeE_f HE.out (by rw [Int.toNat_natCast]; exact HF.out.1)]; simp only [HB.out.1, HB.out.2, Bool.or_self, Bool.false_eq_true, if_false]
              have h3 := HM.out.2.1
              have h4 := HM.out.2.2
              have h5 := HM.out.1
              refine ⟨_, _, by rw [hE1], ((HR.out.2.2.2.2.2.trans_new h5 fun b t hb hm => by have := HV.out.2; have := hm.1; omega).trans_new h3 fun b t hb hm => by have := HV.out.2; have := hm.1; omega).trans_new h4 fun b t hb hm => by have := HV.out.2; have := hm.1; omega, ?_⟩
              unfold TkOut
              rw [hE1, if_pos rfl]
              simp only [Int.toNat_natCast]
              have htl := HTL.out
              subst htl
              exact ⟨f, x, st, s, TA, tc, TB, tc', HF.out.1, HR.out.1, HR.out.2.1, HR.out.2.2.1, rfl, rfl, (((HR.out.2.2.2.1.keep1 h5 (fun _ _ hm => absurd hm.2 (by decide)) fun _ _ h => h).keep1 h3 (fun _ _ hm => absurd hm.2 (by decide)) fun _ _ h => h).keep1 h4 (fun _ _ hm => absurd hm.2 (by decide)) fun _ _ h => h), (((HR.out.2.2.2.2.1.keep1 h5 (fun _ _ hm => absurd hm.2 (by decide)) fun _ _ h => h).keep1 h3 (fun _ _ hm => absurd hm.2 (by decide)) fun _ _ h => h).keep1 h4 (fun _ _ hm => absurd hm.2 (by decide)) fun _ _ h => h)⟩
          · have := HF.out.2.1; omega
      · have HB := Lib.hid (And.intro hb1 hb2)
        go_wp2_with fail
        refine wp_region_G (S := (fun w' => Chg (fun _ _ => False) w1 w')) 12 (by kernel_rfl) (Chg.refl _ _).drew (fun hHeld => ?_)
        refine wpAnyG_take (i := 0) (v := ?va25) rfl (by kernel_rfl) (fun _ _ _ h => h) (Or.inl ⟨by kernel_rfl, ?hy25⟩) (by assumption) ?ra25
        case hy25 => (intro w hSw; (try dsimp only at hSw); have x1 := hSw.cell x1 (fun _ => id); have a0 := hSw.cell a0 (fun _ => id); have g4 := hSw.cell g4 (fun _ => id); clear hSw; go_simp; all_goals (with_reducible rfl))
        simp only [Act.put, List.setIfInBounds_toArray, List.set_cons_zero, List.set_cons_succ]
        refine wpAnyG_take (i := 1) (v := ?va26) rfl (by kernel_rfl) (fun _ _ _ h => h) (Or.inl ⟨by kernel_rfl, ?hy26⟩) (by assumption) ?ra26
        case hy26 => (intro w hSw; (try dsimp only at hSw); have x1 := hSw.cell x1 (fun _ => id); have a0 := hSw.cell a0 (fun _ => id); have g4 := hSw.cell g4 (fun _ => id); clear hSw; go_simp; all_goals (with_reducible rfl))
        simp only [Act.put, List.setIfInBounds_toArray, List.set_cons_zero, List.set_cons_succ]
        refine wpAnyG_take (i := 2) (v := ?va27) rfl (by kernel_rfl) (fun _ _ _ h => h) (Or.inl ⟨by kernel_rfl, ?hy27⟩) (by assumption) ?ra27
        case hy27 => (intro w hSw; (try dsimp only at hSw); have x1 := hSw.cell x1 (fun _ => id); have a0 := hSw.cell a0 (fun _ => id); have g4 := hSw.cell g4 (fun _ => id); clear hSw; go_simp; all_goals (with_reducible rfl))
        simp only [Act.put, List.setIfInBounds_toArray, List.set_cons_zero, List.set_cons_succ]
        refine wpAnyG_take (i := 3) (v := ?va28) rfl (by kernel_rfl) (fun _ _ _ h => h) (Or.inl ⟨by kernel_rfl, ?hy28⟩) (by assumption) ?ra28
        case hy28 => (intro w hSw; (try dsimp only at hSw); have x1 := hSw.cell x1 (fun _ => id); have a0 := hSw.cell a0 (fun _ => id); have g4 := hSw.cell g4 (fun _ => id); clear hSw; go_simp; all_goals (with_reducible rfl))
        simp only [Act.put, List.setIfInBounds_toArray, List.set_cons_zero, List.set_cons_succ]
        refine wpAnyG_take (i := 4) (v := ?va29) rfl (by kernel_rfl) (fun _ _ _ h => h) (Or.inl ⟨by kernel_rfl, ?hy29⟩) (by assumption) ?ra29
        case hy29 => (intro w hSw; (try dsimp only at hSw); have x1 := hSw.cell x1 (fun _ => id); have a0 := hSw.cell a0 (fun _ => id); have g4 := hSw.cell g4 (fun _ => id); clear hSw; go_simp; all_goals (with_reducible rfl))
        simp only [Act.put, List.setIfInBounds_toArray, List.set_cons_zero, List.set_cons_succ]
        refine wpAnyG_take (i := 5) (v := ?va30) rfl (by kernel_rfl) (fun _ _ _ h => h) (Or.inl ⟨by kernel_rfl, ?hy30⟩) (by assumption) ?ra30
        case hy30 => (intro w hSw; (try dsimp only at hSw); have x1 := hSw.cell x1 (fun _ => id); have a0 := hSw.cell a0 (fun _ => id); have g4 := hSw.cell g4 (fun _ => id); clear hSw; go_simp; all_goals (with_reducible rfl))
        simp only [Act.put, List.setIfInBounds_toArray, List.set_cons_zero, List.set_cons_succ]
        refine wpAnyG_take (i := 6) (v := ?va31) rfl (by kernel_rfl) (fun _ _ _ h => h) (Or.inl ⟨by kernel_rfl, ?hy31⟩) (by assumption) ?ra31
        case hy31 => (intro w hSw; (try dsimp only at hSw); have x1 := hSw.cell x1 (fun _ => id); have a0 := hSw.cell a0 (fun _ => id); have g4 := hSw.cell g4 (fun _ => id); clear hSw; go_simp; all_goals (with_reducible rfl))
        simp only [Act.put, List.setIfInBounds_toArray, List.set_cons_zero, List.set_cons_succ]
        refine wpAnyG_take (i := 7) (v := ?va32) rfl (by kernel_rfl) (fun _ _ _ h => h) (Or.inl ⟨by kernel_rfl, ?hy32⟩) (by assumption) ?ra32
        case hy32 => (intro w hSw; (try dsimp only at hSw); have x1 := hSw.cell x1 (fun _ => id); have a0 := hSw.cell a0 (fun _ => id); have g4 := hSw.cell g4 (fun _ => id); clear hSw; go_simp; all_goals (with_reducible rfl))
        simp only [Act.put, List.setIfInBounds_toArray, List.set_cons_zero, List.set_cons_succ]
        refine wpAnyG_take (i := 8) (v := ?va33) rfl (by kernel_rfl) (fun _ _ _ h => h) (Or.inl ⟨by kernel_rfl, ?hy33⟩) (by assumption) ?ra33
        case hy33 => (intro w hSw; (try dsimp only at hSw); have x1 := hSw.cell x1 (fun _ => id); have a0 := hSw.cell a0 (fun _ => id); have g4 := hSw.cell g4 (fun _ => id); clear hSw; go_simp; all_goals (with_reducible rfl))
        simp only [Act.put, List.setIfInBounds_toArray, List.set_cons_zero, List.set_cons_succ]
        refine wpAnyG_take (i := 9) (v := ?va34) rfl (by kernel_rfl) (fun _ _ _ h => h) (Or.inl ⟨by kernel_rfl, ?hy34⟩) (by assumption) ?ra34
        case hy34 => (intro w hSw; (try dsimp only at hSw); have x1 := hSw.cell x1 (fun _ => id); have a0 := hSw.cell a0 (fun _ => id); have g4 := hSw.cell g4 (fun _ => id); clear hSw; go_simp; all_goals (with_reducible rfl))
        simp only [Act.put, List.setIfInBounds_toArray, List.set_cons_zero, List.set_cons_succ]
        refine wpAnyG_take (i := 10) (v := ?va35) rfl (by kernel_rfl) (fun _ _ _ h => h) (Or.inl ⟨by kernel_rfl, ?hy35⟩) (by assumption) ?ra35
        case hy35 => (intro w hSw; (try dsimp only at hSw); have x1 := hSw.cell x1 (fun _ => id); have a0 := hSw.cell a0 (fun _ => id); have g4 := hSw.cell g4 (fun _ => id); clear hSw; go_simp; all_goals (with_reducible rfl))
        simp only [Act.put, List.setIfInBounds_toArray, List.set_cons_zero, List.set_cons_succ]
        refine wpAnyG_take (i := 11) (v := ?va36) rfl (by kernel_rfl) (fun _ _ _ h => h) (Or.inl ⟨by kernel_rfl, ?hy36⟩) (by assumption) ?ra36
        case hy36 => (intro w hSw; (try dsimp only at hSw); have x1 := hSw.cell x1 (fun _ => id); have a0 := hSw.cell a0 (fun _ => id); have g4 := hSw.cell g4 (fun _ => id); clear hSw; go_simp; all_goals (with_reducible rfl))
        simp only [Act.put, List.setIfInBounds_toArray, List.set_cons_zero, List.set_cons_succ]
        refine wpAnyG_last rfl (by kernel_rfl) (by kernel_rfl) (fun K hK => ?_)
        go_simp
        refine hK.out _ _ ?_
        clear hK K
        try simp only [Act.put, List.setIfInBounds_toArray, List.set_cons_zero, List.set_cons_succ]
        generalize w1.drew = W4 at hHeld ⊢
        obtain ⟨t0, tf, l0, lf, e0, e1, hce⟩ := nil_set (hHeld.blk HD.out.2.2.2.1 id) (hHeld.blk HD.out.2.2.2.2 id) hne
        have HX := Lib.hid (And.intro hce hHeld)
        clear hce hHeld
        go_wp2_with fail
        refine bodyPost_ret (v := .tuple #[.slice none 0 0, .slice none 0 0, .int .i64 16]) (by simp [results, Try.results14, go_sem, e0, e1]) rfl ?_
        have hch := (HD.out.1.trans HX.out.2).trans_new HX.out.1 fun b t hb hm => by have := HC.out.2.2.2.2.2.2.2.2; omega
        have hE1 : takeE m n at_ = 16 := by rw [takeE_f HE.out (by rw [Int.toNat_natCast]; exact HF.out.1)]; simp only [HB.out.2, Bool.or_true, Bool.true_or, if_true]
        refine ⟨.slice none 0 0, .slice none 0 0, by rw [hE1], hch, ?_⟩
        unfold TkOut
        rw [hE1, if_neg (by decide)]
        exact ⟨rfl, rfl⟩
    · have HB := Lib.hid hb1
      go_wp2_with fail
      refine wp_region_G (S := (fun w' => Chg (fun _ _ => False) w1 w')) 12 (by kernel_rfl) (Chg.refl _ _).drew (fun hHeld => ?_)
      refine wpAnyG_take (i := 0) (v := ?va1) rfl (by kernel_rfl) (fun _ _ _ h => h) (Or.inl ⟨by kernel_rfl, ?hy1⟩) (by assumption) ?ra1
      case hy1 => (intro w hSw; (try dsimp only at hSw); have x1 := hSw.cell x1 (fun _ => id); have a0 := hSw.cell a0 (fun _ => id); have g4 := hSw.cell g4 (fun _ => id); clear hSw; go_simp; all_goals (with_reducible rfl))
      simp only [Act.put, List.setIfInBounds_toArray, List.set_cons_zero, List.set_cons_succ]
      refine wpAnyG_take (i := 1) (v := ?va2) rfl (by kernel_rfl) (fun _ _ _ h => h) (Or.inl ⟨by kernel_rfl, ?hy2⟩) (by assumption) ?ra2
      case hy2 => (intro w hSw; (try dsimp only at hSw); have x1 := hSw.cell x1 (fun _ => id); have a0 := hSw.cell a0 (fun _ => id); have g4 := hSw.cell g4 (fun _ => id); clear hSw; go_simp; all_goals (with_reducible rfl))
      simp only [Act.put, List.setIfInBounds_toArray, List.set_cons_zero, List.set_cons_succ]
      refine wpAnyG_take (i := 2) (v := ?va3) rfl (by kernel_rfl) (fun _ _ _ h => h) (Or.inl ⟨by kernel_rfl, ?hy3⟩) (by assumption) ?ra3
      case hy3 => (intro w hSw; (try dsimp only at hSw); have x1 := hSw.cell x1 (fun _ => id); have a0 := hSw.cell a0 (fun _ => id); have g4 := hSw.cell g4 (fun _ => id); clear hSw; go_simp; all_goals (with_reducible rfl))
      simp only [Act.put, List.setIfInBounds_toArray, List.set_cons_zero, List.set_cons_succ]
      refine wpAnyG_take (i := 3) (v := undef) rfl (by kernel_rfl) (fun _ _ _ h => h) (Or.inr ⟨by kernel_rfl, rfl⟩) (by assumption) ?ra4
      simp only [Act.put, List.setIfInBounds_toArray, List.set_cons_zero, List.set_cons_succ]
      refine wpAnyG_take (i := 4) (v := undef) rfl (by kernel_rfl) (fun _ _ _ h => h) (Or.inr ⟨by kernel_rfl, rfl⟩) (by assumption) ?ra5
      simp only [Act.put, List.setIfInBounds_toArray, List.set_cons_zero, List.set_cons_succ]
      refine wpAnyG_take (i := 5) (v := undef) rfl (by kernel_rfl) (fun _ _ _ h => h) (Or.inr ⟨by kernel_rfl, rfl⟩) (by assumption) ?ra6
      simp only [Act.put, List.setIfInBounds_toArray, List.set_cons_zero, List.set_cons_succ]
      refine wpAnyG_take (i := 6) (v := undef) rfl (by kernel_rfl) (fun _ _ _ h => h) (Or.inr ⟨by kernel_rfl, rfl⟩) (by assumption) ?ra7
      simp only [Act.put, List.setIfInBounds_toArray, List.set_cons_zero, List.set_cons_succ]
      refine wpAnyG_take (i := 7) (v := undef) rfl (by kernel_rfl) (fun _ _ _ h => h) (Or.inr ⟨by kernel_rfl, rfl⟩) (by assumption) ?ra8
      simp only [Act.put, List.setIfInBounds_toArray, List.set_cons_zero, List.set_cons_succ]
      refine wpAnyG_take (i := 8) (v := undef) rfl (by kernel_rfl) (fun _ _ _ h => h) (Or.inr ⟨by kernel_rfl, rfl⟩) (by assumption) ?ra9
      simp only [Act.put, List.setIfInBounds_toArray, List.set_cons_zero, List.set_cons_succ]
      refine wpAnyG_take (i := 9) (v := undef) rfl (by kernel_rfl) (fun _ _ _ h => h) (Or.inr ⟨by kernel_rfl, rfl⟩) (by assumption) ?ra10
      simp only [Act.put, List.setIfInBounds_toArray, List.set_cons_zero, List.set_cons_succ]
      refine wpAnyG_take (i := 10) (v := undef) rfl (by kernel_rfl) (fun _ _ _ h => h) (Or.inr ⟨by kernel_rfl, rfl⟩) (by assumption) ?ra11
      simp only [Act.put, List.setIfInBounds_toArray, List.set_cons_zero, List.set_cons_succ]
      refine wpAnyG_take (i := 11) (v := undef) rfl (by kernel_rfl) (fun _ _ _ h => h) (Or.inr ⟨by kernel_rfl, rfl⟩) (by assumption) ?ra12
      simp only [Act.put, List.setIfInBounds_toArray, List.set_cons_zero, List.set_cons_succ]
      refine wpAnyG_last rfl (by kernel_rfl) (by kernel_rfl) (fun K hK => ?_)
      go_simp
      refine hK.out _ _ ?_
      clear hK K
      try simp only [Act.put, List.setIfInBounds_toArray, List.set_cons_zero, List.set_cons_succ]
      generalize w1.drew = W4 at hHeld ⊢
      obtain ⟨t0, tf, l0, lf, e0, e1, hce⟩ := nil_set (hHeld.blk HD.out.2.2.2.1 id) (hHeld.blk HD.out.2.2.2.2 id) hne
      have HX := Lib.hid (And.intro hce hHeld)
      clear hce hHeld
      go_wp2_with fail
      refine bodyPost_ret (v := .tuple #[.slice none 0 0, .slice none 0 0, .int .i64 16]) (by simp [results, Try.results14, go_sem, e0, e1]) rfl ?_
      have hch := (HD.out.1.trans HX.out.2).trans_new HX.out.1 fun b t hb hm => by have := HC.out.2.2.2.2.2.2.2.2; omega
      have hE1 : takeE m n at_ = 16 := by rw [takeE_f HE.out (by rw [Int.toNat_natCast]; exact HF.out.1)]; simp only [HB.out, Bool.or_true, Bool.true_or, if_true]
      refine ⟨.slice none 0 0, .slice none 0 0, by rw [hE1], hch, ?_⟩
      unfold TkOut
      rw [hE1, if_neg (by decide)]
      exact ⟨rfl, rfl⟩
  · obtain ⟨t0, tf, l0, lf, e0, e1, hce⟩ := nil_set HD.out.2.2.2.1 HD.out.2.2.2.2 hne
    have HX := Lib.hid (And.intro hce hb)
    clear hce
    go_wp2_with fail
    refine bodyPost_ret (v := .tuple #[.slice none 0 0, .slice none 0 0, .int .i64 E]) (by simp [results, Try.results14, go_sem, e0, e1]) rfl ?_
    have hch := HD.out.1.trans_new HX.out.1 fun b t hb hm => by have := HC.out.2.2.2.2.2.2.2.2; omega
    have hE1 : takeE m fn at_ = E := by rw [takeE_bad (by rw [HE.out]; exact HX.out.2), HE.out]
    refine ⟨.slice none 0 0, .slice none 0 0, by rw [hE1], hch, ?_⟩
    unfold TkOut
    rw [hE1, if_neg (by have := HX.out.2; simpa using this)]
    exact ⟨rfl, rfl⟩
end Go.Proofs.Ytdegfnejhamejaa

