/-
  Operations of a region, one by one: what each leaves.
-/
import Derived.Test.YtlbcaiohjghclaaDoorTFactsA
import Derived.Test.YtlbcaiohjghclaaDoorTCopy
import Derived.Great.BuildSlice
namespace Go.Proofs.YtlbcaiohjghclaaDoor
open Go.RowKit
set_option linter.unusedVariables false
set_option linter.unusedSimpArgs false

section
variable {a : Act} {w : World} {dst : Option Nat} {ty : TypeId} {pos : String} {af : Array Edge} {g : Option (Nat × Bool)}
theorem exec_bs1 {s : ByteArray} (x : Operand) (hx : a.eval x = .string s) : (execOp a.eval { dst := dst, op := .buildSlice 22 1 #[(0, x)], type := ty, pos := pos, after := af, guard := g }).run Tryd.prog w = .ok (.value (.slice (some ⟨w.heap.size, 0, none⟩) 1 1)) (w.alloc (.cells #[.string s] 9)) := by
  obtain ⟨i9, hi9, hz9, hs9, hb9⟩ := info_parts infoStr
  unfold execOp
  have hf : Instr.fill (fun i => some (i * i9.size, i9.size)) ((Array.range (1 * i9.size)).map ((Value.string ByteArray.empty).cells[· % (Value.string ByteArray.empty).cells.size]!)) ((#[(0, x)] : Array (Nat × Operand)).map fun (i, x) => (i, a.eval x)).toList = some #[.string s] := by
    rw [hs9]
    simp only [List.map_toArray, List.map_cons, List.map_nil]
    rw [hx]
    kernel_rfl
  simp only [Sem.run_bind, run_buildSlice (P := Tryd.prog) w 22 9 1 _ #[.string s] i9 _ Tryd.underlying22 hi9 hz9 (by rw [hs9]; decide) (by rw [hs9]; decide) hf, Result.andThen_ok]
  rfl
theorem exec_bs2 {s s' : ByteArray} (x y : Operand) (hx : a.eval x = .string s) (hy : a.eval y = .string s') : (execOp a.eval { dst := dst, op := .buildSlice 22 2 #[(0, x), (1, y)], type := ty, pos := pos, after := af, guard := g }).run Tryd.prog w = .ok (.value (.slice (some ⟨w.heap.size, 0, none⟩) 2 2)) (w.alloc (.cells #[.string s, .string s'] 9)) := by
  obtain ⟨i9, hi9, hz9, hs9, hb9⟩ := info_parts infoStr
  unfold execOp
  have hf : Instr.fill (fun i => some (i * i9.size, i9.size)) ((Array.range (2 * i9.size)).map ((Value.string ByteArray.empty).cells[· % (Value.string ByteArray.empty).cells.size]!)) ((#[(0, x), (1, y)] : Array (Nat × Operand)).map fun (i, x) => (i, a.eval x)).toList = some #[.string s, .string s'] := by
    rw [hs9]
    simp only [List.map_toArray, List.map_cons, List.map_nil]
    rw [hx, hy]
    kernel_rfl
  simp only [Sem.run_bind, run_buildSlice (P := Tryd.prog) w 22 9 2 _ #[.string s, .string s'] i9 _ Tryd.underlying22 hi9 hz9 (by rw [hs9]; decide) (by rw [hs9]; decide) hf, Result.andThen_ok]
  rfl
theorem exec_bt1 {v0 v1 v2 v3 v4 v5 : Value} (x : Operand) (hx : a.eval x = .agg #[v0, v1, v2, v3, v4, v5]) : (execOp a.eval { dst := dst, op := .buildSlice 23 1 #[(0, x)], type := ty, pos := pos, after := af, guard := g }).run Tryd.prog w = .ok (.value (.slice (some ⟨w.heap.size, 0, none⟩) 1 1)) (w.alloc (.cells #[v0, v1, v2, v3, v4, v5] 42)) := by
  obtain ⟨i9, hi9, hz9, hs9, hb9⟩ := info_parts infoType
  unfold execOp
  have hf : Instr.fill (fun i => some (i * i9.size, i9.size)) ((Array.range (1 * i9.size)).map ((Value.agg #[.int .i64 0, .string ByteArray.empty, .int .i64 0, .slice none 0 0, .slice none 0 0, .slice none 0 0]).cells[· % (Value.agg #[.int .i64 0, .string ByteArray.empty, .int .i64 0, .slice none 0 0, .slice none 0 0, .slice none 0 0]).cells.size]!)) ((#[(0, x)] : Array (Nat × Operand)).map fun (i, x) => (i, a.eval x)).toList = some #[v0, v1, v2, v3, v4, v5] := by
    rw [hs9]
    simp only [List.map_toArray, List.map_cons, List.map_nil]
    rw [hx]
    kernel_rfl
  simp only [Sem.run_bind, run_buildSlice (P := Tryd.prog) w 23 42 1 _ #[v0, v1, v2, v3, v4, v5] i9 _ Tryd.underlying23 hi9 hz9 (by rw [hs9]; decide) (by rw [hs9]; decide) hf, Result.andThen_ok]
  rfl
theorem exec_bt2 {v0 v1 v2 v3 v4 v5 u0 u1 u2 u3 u4 u5 : Value} (x y : Operand) (hx : a.eval x = .agg #[v0, v1, v2, v3, v4, v5]) (hy : a.eval y = .agg #[u0, u1, u2, u3, u4, u5]) : (execOp a.eval { dst := dst, op := .buildSlice 23 2 #[(0, x), (1, y)], type := ty, pos := pos, after := af, guard := g }).run Tryd.prog w = .ok (.value (.slice (some ⟨w.heap.size, 0, none⟩) 2 2)) (w.alloc (.cells (#[v0, v1, v2, v3, v4, v5] ++ #[u0, u1, u2, u3, u4, u5]) 42)) := by
  obtain ⟨i9, hi9, hz9, hs9, hb9⟩ := info_parts infoType
  unfold execOp
  have hf : Instr.fill (fun i => some (i * i9.size, i9.size)) ((Array.range (2 * i9.size)).map ((Value.agg #[.int .i64 0, .string ByteArray.empty, .int .i64 0, .slice none 0 0, .slice none 0 0, .slice none 0 0]).cells[· % (Value.agg #[.int .i64 0, .string ByteArray.empty, .int .i64 0, .slice none 0 0, .slice none 0 0, .slice none 0 0]).cells.size]!)) ((#[(0, x), (1, y)] : Array (Nat × Operand)).map fun (i, x) => (i, a.eval x)).toList = some (#[v0, v1, v2, v3, v4, v5] ++ #[u0, u1, u2, u3, u4, u5]) := by
    rw [hs9]
    simp only [List.map_toArray, List.map_cons, List.map_nil]
    rw [hx, hy]
    kernel_rfl
  simp only [Sem.run_bind, run_buildSlice (P := Tryd.prog) w 23 42 2 _ (#[v0, v1, v2, v3, v4, v5] ++ #[u0, u1, u2, u3, u4, u5]) i9 _ Tryd.underlying23 hi9 hz9 (by rw [hs9]; decide) (by rw [hs9]; decide) hf, Result.andThen_ok]
  rfl
theorem exec_allocT : (execOp a.eval { dst := dst, op := .alloc 42, type := ty, pos := pos, after := af, guard := g }).run Tryd.prog w = .ok (.value (.pointer (some ⟨w.heap.size, 0, none⟩))) (w.alloc (.cells #[.int .i64 0, .string ⟨#[]⟩, .int .i64 0, .slice none 0 0, .slice none 0 0, .slice none 0 0] 42)) := by
  unfold execOp
  simp [Instr.alloc, zero_ty w, go_sem, newVar, newRow]
theorem exec_call1 (f : FuncId) (x : Operand) (ts : Array TypeId) (hf : ∀ ys, (callFunc f ys).run Tryd.prog w = .ok (.enter f ys) w) : (execOp a.eval { dst := dst, op := .call { callee := .value (.func f), args := #[x], argTypes := ts }, type := ty, pos := pos, after := af, guard := g }).run Tryd.prog w = .ok (.enter f #[a.eval x]) w := by
  rw [exec_call f _ ts hf]; simp
theorem exec_call3 (f : FuncId) (x y z : Operand) (ts : Array TypeId) (hf : ∀ ys, (callFunc f ys).run Tryd.prog w = .ok (.enter f ys) w) : (execOp a.eval { dst := dst, op := .call { callee := .value (.func f), args := #[x, y, z], argTypes := ts }, type := ty, pos := pos, after := af, guard := g }).run Tryd.prog w = .ok (.enter f #[a.eval x, a.eval y, a.eval z]) w := by
  rw [exec_call f _ ts hf]; simp
theorem fact_at {p : Value → Prop} {ops : Array Oper} {k d : Nat} (h : p (valOf ops a k)) (hd : dstOf ops k = d) : p (a.eval (.tmp d)) := by
  subst hd
  exact h
theorem val_at {ops : Array Oper} {k d : Nat} (hd : dstOf ops k = d) : a.eval (.tmp d) = valOf ops a k := by
  subst hd
  rfl
theorem OpH.val {md : Region.Mode} {ops : Array Oper} {js : List Nat} {F : Nat → (Nat → Value) → Nat × Nat → World → Prop} {a0 : Act} {w0 : World} {j : Nat} (H : OpH md ops js F a0 w0 j a w) {k d : Nat} (hd : dstOf ops k = d) : a.eval (.tmp d) = valOf ops a k := val_at hd
theorem tyU_cells {n : Nat} {v : Value} {t : Ty} (h : TyU n w v t) : ∃ v0 v1 v2 v3 v4 v5, v = .agg #[v0, v1, v2, v3, v4, v5] := by
  obtain ⟨D, Xf, xf, Xl, xl, Xr, xr, h1, h2, h3⟩ := h
  exact ⟨_, _, _, _, _, _, h2⟩
end
theorem box_stored {n lo hi gb : Nat} {w0 w : World} {u : Ty} {Xf : Option Addr} {xf : Nat} {Xl : Option Addr} {xl : Nat} {Xr : Option Addr} {xr : Nat} (hb : Blk w gb 42 #[.int .i64 0, .string ⟨#[]⟩, .int .i64 0, .slice none 0 0, .slice none 0 0, .slice none 0 0]) (hN : TyN n (fun b => lo ≤ b ∧ b < hi) w (tyCells u.kind u.name u.con Xf u.fields.length xf Xl u.list.length xl Xr u.res.length xr) u)
    (hap : hi ≤ gb ∨ gb < lo) (hg : w0.heap.size ≤ gb) (hc : Chg (fun _ _ => False) w0 w) :
    ∃ W, (((((w.setCell ⟨gb, 0, none⟩ (.int .i64 u.kind)).setCell ⟨gb, 1, none⟩ (.string u.name)).setCell ⟨gb, 2, none⟩ (.int .i64 u.con)).setCell ⟨gb, 3, none⟩ (.slice Xf u.fields.length xf)).setCell ⟨gb, 4, none⟩ (.slice Xl u.list.length xl)).setCell ⟨gb, 5, none⟩ (.slice Xr u.res.length xr) = W ∧ BoxU n W gb u ∧ Chg (fun _ _ => False) w0 W := by
  obtain ⟨hbz, hcz⟩ := blk_set6 hb (.int .i64 u.kind) (.string u.name) (.int .i64 u.con) (.slice Xf u.fields.length xf) (.slice Xl u.list.length xl) (.slice Xr u.res.length xr)
  refine ⟨_, rfl, ⟨_, hbz, rfl, ?_⟩, hc.trans_new hcz fun b t hb h => by have := h.1; omega⟩
  exact TyU.of (Nat.le_refl _) (TyN.tyR (TyN.keep hcz (fun b t hb _ h => by have h1 : lo ≤ b ∧ b < hi := hb; have := h.1; omega) hN))
theorem box_open {n g : Nat} {w : World} {t : Ty} (h : BoxU n w g t) : ∃ D Xf xf Xl xl Xr xr, D ≤ w.heap.size ∧ Blk w g 42 #[.int .i64 t.kind, .string t.name, .int .i64 t.con, .slice Xf t.fields.length xf, .slice Xl t.list.length xl, .slice Xr t.res.length xr] ∧ TyR n D w (tyCells t.kind t.name t.con Xf t.fields.length xf Xl t.list.length xl Xr t.res.length xr) t := by
  obtain ⟨cs, hb, _, D, Xf, xf, Xl, xl, Xr, xr, hD, hv, hR⟩ := h
  injection hv with hv
  subst hv
  exact ⟨D, Xf, xf, Xl, xl, Xr, xr, hD, hb, hR⟩
theorem chg_undrew {M : Nat → Nat → Prop} {w w' : World} (h : Chg M w w'.drew) : Chg M w w' := ⟨h.os, h.tape, h.output, h.size, h.keep⟩
theorem infoSz6 : (Tryd.prog.info? 42).map (·.size) = some 6 := by kernel_rfl
end Go.Proofs.YtlbcaiohjghclaaDoor
