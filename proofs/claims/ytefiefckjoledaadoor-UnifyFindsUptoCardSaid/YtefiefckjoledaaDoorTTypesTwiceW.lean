/-
  The walk of TypesTwice.
-/
import Derived.Test.YtefiefckjoledaaDoorTFacts
import Derived.Test.YtefiefckjoledaaDoorTTwiceP
import Derived.Great.BuildSlice
namespace Go.Proofs.YtefiefckjoledaaDoor
open Go.RowKit
set_option linter.unusedVariables false
set_option linter.unusedSimpArgs false

theorem subT_zero {t : Ty} {names : List ByteArray} {args : List Ty} (h : subE t names args = 0) : subT t names args = t.fill (assoc names args) := by
  unfold subT
  rw [if_pos h]
theorem twice_law {t a b : Ty} {m n : ByteArray} (hmn : ¬ m = n) (h1 : subE t [m] [a] = 0) (h2 : subE (subT t [m] [a]) [n] [b] = 0) (h3 : subE a [n] [b] = 0) :
    subE t [m, n] [subT a [n] [b], b] = 0 ∧ subT t [m, n] [subT a [n] [b], b] = subT (subT t [m] [a]) [n] [b] := by
  obtain ⟨a1, a2, a3, a4⟩ := subE_zero h1
  have e1 : subT t [m] [a] = t.fill (assoc [m] [a]) := subT_zero h1
  obtain ⟨b1, b2, b3, b4⟩ := subE_zero h2
  have e2 : subT (subT t [m] [a]) [n] [b] = (t.fill (assoc [m] [a])).fill (assoc [n] [b]) := by rw [subT_zero h2, e1]
  obtain ⟨c1, c2, c3, c4⟩ := subE_zero h3
  have e3 : subT a [n] [b] = a.fill (assoc [n] [b]) := subT_zero h3
  have hf := fill_twice t a b m n hmn
  have h0 : subE t [m, n] [subT a [n] [b], b] = 0 := by
    rw [e3]
    refine subE_ok ?_ ⟨rfl, by simp [hmn]⟩ ?_
    · rw [a1]
      simp only [List.all_cons, List.all_nil, Bool.and_true] at b2 c2 ⊢
      rw [c4, b2]
      rfl
    · rw [← hf, ← e1]
      exact b4
  refine ⟨h0, ?_⟩
  rw [subT_zero h0, e2, e3, hf]
def twF (n n2 : Nat) (t a : Ty) (m : ByteArray) (u : Ty) (c : Int) : Nat → (Nat → Value) → Nat × Nat → World → Prop
  | 0, v, _, w => TyU n w (v 0) t
  | 1, v, _, w => TyU n w (v 1) t
  | 2, v, _, _ => v 2 = .string m
  | 3, v, _, w => StrsU w (v 3) [m]
  | 4, v, _, w => TyU n w (v 4) a
  | 5, v, _, w => TyU n w (v 5) a
  | 6, v, _, w => TysU n w (v 6) [a]
  | 7, v, r, w => SubV n2 u c r w (v 7)
  | 8, v, _, _ => v 8 = v 7 ∧ ∃ x y, v 8 = .tuple #[x, y]
  | 9, v, _, _ => ∃ vs, v 8 = .tuple vs ∧ vs[0]? = some (v 9)
  | 10, v, _, _ => ∃ vs, v 8 = .tuple vs ∧ vs[1]? = some (v 10)
  | 11, v, r, w => ∃ g, v 11 = .pointer (some ⟨g, 0, none⟩) ∧ r.1 ≤ g ∧ g < r.2 ∧ Blk w g 39 #[.int .i64 0, .string ⟨#[]⟩, .int .i64 0, .slice none 0 0, .slice none 0 0, .slice none 0 0]
  | _, _, _, _ => True
theorem twF_dep {n n2 : Nat} {t a : Ty} {m : ByteArray} {u : Ty} {c : Int} {md : Region.Mode} {ops : Array Oper} (h8 : waitsB md ops 8 7 = true) (h9 : waitsB md ops 9 8 = true) (h10 : waitsB md ops 10 8 = true) (j : Nat) (val val' : Nat → Value) (r : Nat × Nat) (w : World)
    (h : val j = val' j) (hk : ∀ k, waitsB md ops j k = true → val k = val' k) (hF : twF n n2 t a m u c j val r w) : twF n n2 t a m u c j val' r w := by
  unfold twF at hF ⊢
  split at hF <;> first | (rw [← hk 7 h8, ← h]; exact hF) | (rw [← hk 8 h9, ← h]; exact hF) | (rw [← hk 8 h10, ← h]; exact hF) | (rw [← h]; exact hF) | trivial
theorem twF_mono {n n2 : Nat} {t a : Ty} {m : ByteArray} {u : Ty} {c : Int} (j : Nat) (val : Nat → Value) (r : Nat × Nat) (w w' : World) (hc : Chg (fun _ _ => False) w w') (hF : twF n n2 t a m u c j val r w) : twF n n2 t a m u c j val r w' := by
  unfold twF at hF ⊢
  split at hF <;> first | exact TyU.keep hF hc | exact StrsU.keep hF hc | exact TysU.keep hF hc | exact SubV.keep hF hc | exact hF | skip
  obtain ⟨g, h1, h2, h3, h4⟩ := hF
  exact ⟨g, h1, h2, h3, hc.blk h4 id⟩
def twF8 (n n2 : Nat) (t z b : Ty) (m m' : ByteArray) (u : Ty) (c : Int) : Nat → (Nat → Value) → Nat × Nat → World → Prop
  | 0, v, _, w => TyU n w (v 0) t
  | 1, v, _, w => TyU n w (v 1) t
  | 2, v, _, _ => v 2 = .string m
  | 3, v, _, _ => v 3 = .string m'
  | 4, v, _, w => StrsU w (v 4) [m, m']
  | 5, v, _, w => TyU n w (v 5) z
  | 6, v, _, w => TyU n w (v 6) z
  | 7, v, _, w => TyU n w (v 7) b
  | 8, v, _, w => TyU n w (v 8) b
  | 9, v, _, w => TysU n w (v 9) [z, b]
  | 10, v, r, w => SubV n2 u c r w (v 10)
  | 11, v, _, _ => v 11 = v 10 ∧ ∃ x y, v 11 = .tuple #[x, y]
  | 12, v, _, _ => ∃ vs, v 11 = .tuple vs ∧ vs[0]? = some (v 12)
  | 13, v, _, _ => ∃ vs, v 11 = .tuple vs ∧ vs[1]? = some (v 13)
  | 14, v, r, w => ∃ g, v 14 = .pointer (some ⟨g, 0, none⟩) ∧ r.1 ≤ g ∧ g < r.2 ∧ Blk w g 39 #[.int .i64 0, .string ⟨#[]⟩, .int .i64 0, .slice none 0 0, .slice none 0 0, .slice none 0 0]
  | _, _, _, _ => True
theorem twF8_dep {n n2 : Nat} {t z b : Ty} {m m' : ByteArray} {u : Ty} {c : Int} {md : Region.Mode} {ops : Array Oper} (h8 : waitsB md ops 11 10 = true) (h9 : waitsB md ops 12 11 = true) (h10 : waitsB md ops 13 11 = true) (j : Nat) (val val' : Nat → Value) (r : Nat × Nat) (w : World)
    (h : val j = val' j) (hk : ∀ k, waitsB md ops j k = true → val k = val' k) (hF : twF8 n n2 t z b m m' u c j val r w) : twF8 n n2 t z b m m' u c j val' r w := by
  unfold twF8 at hF ⊢
  split at hF <;> first | (rw [← hk 10 h8, ← h]; exact hF) | (rw [← hk 11 h9, ← h]; exact hF) | (rw [← hk 11 h10, ← h]; exact hF) | (rw [← h]; exact hF) | trivial
theorem twF8_mono {n n2 : Nat} {t z b : Ty} {m m' : ByteArray} {u : Ty} {c : Int} (j : Nat) (val : Nat → Value) (r : Nat × Nat) (w w' : World) (hc : Chg (fun _ _ => False) w w') (hF : twF8 n n2 t z b m m' u c j val r w) : twF8 n n2 t z b m m' u c j val r w' := by
  unfold twF8 at hF ⊢
  split at hF <;> first | exact TyU.keep hF hc | exact StrsU.keep hF hc | exact TysU.keep hF hc | exact SubV.keep hF hc | exact hF | skip
  obtain ⟨g, h1, h2, h3, h4⟩ := hF
  exact ⟨g, h1, h2, h3, hc.blk h4 id⟩
section
variable {a : Act} {w : World} {dst : Option Nat} {ty : TypeId} {pos : String} {af : Array Edge} {g : Option (Nat × Bool)}
theorem exec_bs1 {s : ByteArray} (x : Operand) (hx : a.eval x = .string s) : (execOp a.eval { dst := dst, op := .buildSlice 22 1 #[(0, x)], type := ty, pos := pos, after := af, guard := g }).run Tryd.prog w = .ok (.value (.slice (some ⟨w.heap.size, 0, none⟩) 1 1)) (w.alloc (.cells #[.string s] 9)) := by
  obtain ⟨i9, hi9, hz9, hs9, hb9⟩ := info_parts infoStr
  unfold execOp
  have hf : Instr.fill (fun i => some (i * i9.size, i9.size)) ((Array.range (1 * i9.size)).map ((Value.string ByteArray.empty).cells[· % (Value.string ByteArray.empty).cells.size]!)) ((#[(0, x)] : Array (Nat × Operand)).map fun (i, x) => (i, a.eval x)).toList = some #[.string s] := by
    rw [hs9]
    simp only [List.map_toArray, List.map_cons, List.map_nil]
    rw [hx]
    kernel_rfl
  simp only [Sem.run_bind, run_buildSlice (P := Tryd.prog) w 22 9 1 _ #[.string s] i9 _ Tryd.underlying22 hi9 hz9 (by rw [hs9]; decide) (by rw [hs9]; decide) hf, Result.andThen_ok]
  rfl
theorem exec_bs2 {s s' : ByteArray} (x y : Operand) (hx : a.eval x = .string s) (hy : a.eval y = .string s') : (execOp a.eval { dst := dst, op := .buildSlice 22 2 #[(0, x), (1, y)], type := ty, pos := pos, after := af, guard := g }).run Tryd.prog w = .ok (.value (.slice (some ⟨w.heap.size, 0, none⟩) 2 2)) (w.alloc (.cells #[.string s, .string s'] 9)) := by
  obtain ⟨i9, hi9, hz9, hs9, hb9⟩ := info_parts infoStr
  unfold execOp
  have hf : Instr.fill (fun i => some (i * i9.size, i9.size)) ((Array.range (2 * i9.size)).map ((Value.string ByteArray.empty).cells[· % (Value.string ByteArray.empty).cells.size]!)) ((#[(0, x), (1, y)] : Array (Nat × Operand)).map fun (i, x) => (i, a.eval x)).toList = some #[.string s, .string s'] := by
    rw [hs9]
    simp only [List.map_toArray, List.map_cons, List.map_nil]
    rw [hx, hy]
    kernel_rfl
  simp only [Sem.run_bind, run_buildSlice (P := Tryd.prog) w 22 9 2 _ #[.string s, .string s'] i9 _ Tryd.underlying22 hi9 hz9 (by rw [hs9]; decide) (by rw [hs9]; decide) hf, Result.andThen_ok]
  rfl
theorem exec_bt1 {v0 v1 v2 v3 v4 v5 : Value} (x : Operand) (hx : a.eval x = .agg #[v0, v1, v2, v3, v4, v5]) : (execOp a.eval { dst := dst, op := .buildSlice 23 1 #[(0, x)], type := ty, pos := pos, after := af, guard := g }).run Tryd.prog w = .ok (.value (.slice (some ⟨w.heap.size, 0, none⟩) 1 1)) (w.alloc (.cells #[v0, v1, v2, v3, v4, v5] 39)) := by
  obtain ⟨i9, hi9, hz9, hs9, hb9⟩ := info_parts infoType
  unfold execOp
  have hf : Instr.fill (fun i => some (i * i9.size, i9.size)) ((Array.range (1 * i9.size)).map ((Value.agg #[.int .i64 0, .string ByteArray.empty, .int .i64 0, .slice none 0 0, .slice none 0 0, .slice none 0 0]).cells[· % (Value.agg #[.int .i64 0, .string ByteArray.empty, .int .i64 0, .slice none 0 0, .slice none 0 0, .slice none 0 0]).cells.size]!)) ((#[(0, x)] : Array (Nat × Operand)).map fun (i, x) => (i, a.eval x)).toList = some #[v0, v1, v2, v3, v4, v5] := by
    rw [hs9]
    simp only [List.map_toArray, List.map_cons, List.map_nil]
    rw [hx]
    kernel_rfl
  simp only [Sem.run_bind, run_buildSlice (P := Tryd.prog) w 23 39 1 _ #[v0, v1, v2, v3, v4, v5] i9 _ Tryd.underlying23 hi9 hz9 (by rw [hs9]; decide) (by rw [hs9]; decide) hf, Result.andThen_ok]
  rfl
theorem exec_bt2 {v0 v1 v2 v3 v4 v5 u0 u1 u2 u3 u4 u5 : Value} (x y : Operand) (hx : a.eval x = .agg #[v0, v1, v2, v3, v4, v5]) (hy : a.eval y = .agg #[u0, u1, u2, u3, u4, u5]) : (execOp a.eval { dst := dst, op := .buildSlice 23 2 #[(0, x), (1, y)], type := ty, pos := pos, after := af, guard := g }).run Tryd.prog w = .ok (.value (.slice (some ⟨w.heap.size, 0, none⟩) 2 2)) (w.alloc (.cells (#[v0, v1, v2, v3, v4, v5] ++ #[u0, u1, u2, u3, u4, u5]) 39)) := by
  obtain ⟨i9, hi9, hz9, hs9, hb9⟩ := info_parts infoType
  unfold execOp
  have hf : Instr.fill (fun i => some (i * i9.size, i9.size)) ((Array.range (2 * i9.size)).map ((Value.agg #[.int .i64 0, .string ByteArray.empty, .int .i64 0, .slice none 0 0, .slice none 0 0, .slice none 0 0]).cells[· % (Value.agg #[.int .i64 0, .string ByteArray.empty, .int .i64 0, .slice none 0 0, .slice none 0 0, .slice none 0 0]).cells.size]!)) ((#[(0, x), (1, y)] : Array (Nat × Operand)).map fun (i, x) => (i, a.eval x)).toList = some (#[v0, v1, v2, v3, v4, v5] ++ #[u0, u1, u2, u3, u4, u5]) := by
    rw [hs9]
    simp only [List.map_toArray, List.map_cons, List.map_nil]
    rw [hx, hy]
    kernel_rfl
  simp only [Sem.run_bind, run_buildSlice (P := Tryd.prog) w 23 39 2 _ (#[v0, v1, v2, v3, v4, v5] ++ #[u0, u1, u2, u3, u4, u5]) i9 _ Tryd.underlying23 hi9 hz9 (by rw [hs9]; decide) (by rw [hs9]; decide) hf, Result.andThen_ok]
  rfl
theorem exec_allocT : (execOp a.eval { dst := dst, op := .alloc 39, type := ty, pos := pos, after := af, guard := g }).run Tryd.prog w = .ok (.value (.pointer (some ⟨w.heap.size, 0, none⟩))) (w.alloc (.cells #[.int .i64 0, .string ⟨#[]⟩, .int .i64 0, .slice none 0 0, .slice none 0 0, .slice none 0 0] 39)) := by
  unfold execOp
  simp [Instr.alloc, zero_ty w, go_sem, newVar, newRow]
theorem exec_call1 (f : FuncId) (x : Operand) (ts : Array TypeId) (hf : ∀ ys, (callFunc f ys).run Tryd.prog w = .ok (.enter f ys) w) : (execOp a.eval { dst := dst, op := .call { callee := .value (.func f), args := #[x], argTypes := ts }, type := ty, pos := pos, after := af, guard := g }).run Tryd.prog w = .ok (.enter f #[a.eval x]) w := by
  rw [exec_call f _ ts hf]; simp
theorem exec_call3 (f : FuncId) (x y z : Operand) (ts : Array TypeId) (hf : ∀ ys, (callFunc f ys).run Tryd.prog w = .ok (.enter f ys) w) : (execOp a.eval { dst := dst, op := .call { callee := .value (.func f), args := #[x, y, z], argTypes := ts }, type := ty, pos := pos, after := af, guard := g }).run Tryd.prog w = .ok (.enter f #[a.eval x, a.eval y, a.eval z]) w := by
  rw [exec_call f _ ts hf]; simp
theorem fact_at {p : Value → Prop} {ops : Array Oper} {k d : Nat} (h : p (valOf ops a k)) (hd : dstOf ops k = d) : p (a.eval (.tmp d)) := by
  subst hd
  exact h
theorem val_at {ops : Array Oper} {k d : Nat} (hd : dstOf ops k = d) : a.eval (.tmp d) = valOf ops a k := by
  subst hd
  rfl
theorem OpH.val {md : Region.Mode} {ops : Array Oper} {js : List Nat} {F : Nat → (Nat → Value) → Nat × Nat → World → Prop} {a0 : Act} {w0 : World} {j : Nat} (H : OpH md ops js F a0 w0 j a w) {k d : Nat} (hd : dstOf ops k = d) : a.eval (.tmp d) = valOf ops a k := val_at hd
theorem tyU_cells {n : Nat} {v : Value} {t : Ty} (h : TyU n w v t) : ∃ v0 v1 v2 v3 v4 v5, v = .agg #[v0, v1, v2, v3, v4, v5] := by
  obtain ⟨D, Xf, xf, Xl, xl, Xr, xr, h1, h2, h3⟩ := h
  exact ⟨_, _, _, _, _, _, h2⟩
end
theorem box_stored {n lo hi gb : Nat} {w0 w : World} {u : Ty} {Xf : Option Addr} {xf : Nat} {Xl : Option Addr} {xl : Nat} {Xr : Option Addr} {xr : Nat} (hb : Blk w gb 39 #[.int .i64 0, .string ⟨#[]⟩, .int .i64 0, .slice none 0 0, .slice none 0 0, .slice none 0 0]) (hN : TyN n (fun b => lo ≤ b ∧ b < hi) w (tyCells u.kind u.name u.con Xf u.fields.length xf Xl u.list.length xl Xr u.res.length xr) u)
    (hap : hi ≤ gb ∨ gb < lo) (hg : w0.heap.size ≤ gb) (hc : Chg (fun _ _ => False) w0 w) :
    ∃ W, (((((w.setCell ⟨gb, 0, none⟩ (.int .i64 u.kind)).setCell ⟨gb, 1, none⟩ (.string u.name)).setCell ⟨gb, 2, none⟩ (.int .i64 u.con)).setCell ⟨gb, 3, none⟩ (.slice Xf u.fields.length xf)).setCell ⟨gb, 4, none⟩ (.slice Xl u.list.length xl)).setCell ⟨gb, 5, none⟩ (.slice Xr u.res.length xr) = W ∧ BoxU n W gb u ∧ Chg (fun _ _ => False) w0 W := by
  obtain ⟨hbz, hcz⟩ := blk_set6 hb (.int .i64 u.kind) (.string u.name) (.int .i64 u.con) (.slice Xf u.fields.length xf) (.slice Xl u.list.length xl) (.slice Xr u.res.length xr)
  refine ⟨_, rfl, ⟨_, hbz, rfl, ?_⟩, hc.trans_new hcz fun b t hb h => by have := h.1; omega⟩
  exact TyU.of (Nat.le_refl _) (TyN.tyR (TyN.keep hcz (fun b t hb _ h => by have h1 : lo ≤ b ∧ b < hi := hb; have := h.1; omega) hN))
theorem box_open {n g : Nat} {w : World} {t : Ty} (h : BoxU n w g t) : ∃ D Xf xf Xl xl Xr xr, D ≤ w.heap.size ∧ Blk w g 39 #[.int .i64 t.kind, .string t.name, .int .i64 t.con, .slice Xf t.fields.length xf, .slice Xl t.list.length xl, .slice Xr t.res.length xr] ∧ TyR n D w (tyCells t.kind t.name t.con Xf t.fields.length xf Xl t.list.length xl Xr t.res.length xr) t := by
  obtain ⟨cs, hb, _, D, Xf, xf, Xl, xl, Xr, xr, hD, hv, hR⟩ := h
  injection hv with hv
  subst hv
  exact ⟨D, Xf, xf, Xl, xl, Xr, xr, hD, hb, hR⟩
theorem chg_undrew {M : Nat → Nat → Prop} {w w' : World} (h : Chg M w w'.drew) : Chg M w w' := ⟨h.os, h.tape, h.output, h.size, h.keep⟩
theorem infoSz6 : (Tryd.prog.info? 39).map (·.size) = some 6 := by kernel_rfl

set_option maxRecDepth 100000 in
set_option maxHeartbeats 8000000 in
theorem typesTwice_walk (n B : Nat) (w : World) (t a b : Ty) (m n' : ByteArray) (Af : Option Addr) (cf : Nat) (Al : Option Addr) (cl : Nat) (Ar : Option Addr) (cr : Nat) (Bf : Option Addr) (df : Nat) (Bl : Option Addr) (dl : Nat) (Br : Option Addr) (dr : Nat) (Cf : Option Addr) (ef : Nat) (Cl : Option Addr) (el : Nat) (Cr : Option Addr) (er : Nat) (hB : B ≤ w.heap.size) (hTab : Tabs w)
    (hT : TyR n B w (tyCells t.kind t.name t.con Af t.fields.length cf Al t.list.length cl Ar t.res.length cr) t) (hA : TyR n B w (tyCells a.kind a.name a.con Bf a.fields.length df Bl a.list.length dl Br a.res.length dr) a) (hC : TyR n B w (tyCells b.kind b.name b.con Cf b.fields.length ef Cl b.list.length el Cr b.res.length er) b) (hm : m.size ≤ 1048576) (hn : n'.size ≤ 1048576) :
    Calls Tryd.prog 14 #[.agg #[.int .i64 t.kind, .string t.name, .int .i64 t.con, .slice Af t.fields.length cf, .slice Al t.list.length cl, .slice Ar t.res.length cr], .agg #[.int .i64 a.kind, .string a.name, .int .i64 a.con, .slice Bf a.fields.length df, .slice Bl a.list.length dl, .slice Br a.res.length dr], .agg #[.int .i64 b.kind, .string b.name, .int .i64 b.con, .slice Cf b.fields.length ef, .slice Cl b.list.length el, .slice Cr b.res.length er], .string m, .string n'] w fun e w' => e = .returned (.bool true) ∧ Chg (fun _ _ => False) w w' := by
  have hc0 := ((chg_alloc w (.cells #[.int .i64 t.kind, .string t.name, .int .i64 t.con, .slice Af t.fields.length cf, .slice Al t.list.length cl, .slice Ar t.res.length cr] 39)).alloc (.cells #[.int .i64 a.kind, .string a.name, .int .i64 a.con, .slice Bf a.fields.length df, .slice Bl a.list.length dl, .slice Br a.res.length dr] 39)).alloc (.cells #[.int .i64 b.kind, .string b.name, .int .i64 b.con, .slice Cf b.fields.length ef, .slice Cl b.list.length el, .slice Cr b.res.length er] 39)
  have hb1 := ((Blk.new w 39 #[.int .i64 t.kind, .string t.name, .int .i64 t.con, .slice Af t.fields.length cf, .slice Al t.list.length cl, .slice Ar t.res.length cr]).alloc (.cells #[.int .i64 a.kind, .string a.name, .int .i64 a.con, .slice Bf a.fields.length df, .slice Bl a.list.length dl, .slice Br a.res.length dr] 39)).alloc (.cells #[.int .i64 b.kind, .string b.name, .int .i64 b.con, .slice Cf b.fields.length ef, .slice Cl b.list.length el, .slice Cr b.res.length er] 39)
  have hb2 := (Blk.new (w.alloc (.cells #[.int .i64 t.kind, .string t.name, .int .i64 t.con, .slice Af t.fields.length cf, .slice Al t.list.length cl, .slice Ar t.res.length cr] 39)) 39 #[.int .i64 a.kind, .string a.name, .int .i64 a.con, .slice Bf a.fields.length df, .slice Bl a.list.length dl, .slice Br a.res.length dr]).alloc (.cells #[.int .i64 b.kind, .string b.name, .int .i64 b.con, .slice Cf b.fields.length ef, .slice Cl b.list.length el, .slice Cr b.res.length er] 39)
  have hb3 := Blk.new ((w.alloc (.cells #[.int .i64 t.kind, .string t.name, .int .i64 t.con, .slice Af t.fields.length cf, .slice Al t.list.length cl, .slice Ar t.res.length cr] 39)).alloc (.cells #[.int .i64 a.kind, .string a.name, .int .i64 a.con, .slice Bf a.fields.length df, .slice Bl a.list.length dl, .slice Br a.res.length dr] 39)) 39 #[.int .i64 b.kind, .string b.name, .int .i64 b.con, .slice Cf b.fields.length ef, .slice Cl b.list.length el, .slice Cr b.res.length er]
  simp only [World.size_alloc] at hb2 hb3
  have hBT : BoxU n _ _ t := ⟨_, hb1, rfl, (TyU.of hB hT).keep hc0⟩
  have hBA : BoxU n _ _ a := ⟨_, hb2, rfl, (TyU.of hB hA).keep hc0⟩
  have hBB : BoxU n _ _ b := ⟨_, hb3, rfl, (TyU.of hB hC).keep hc0⟩
  have hans := answers2_any _ (hTab.keep0 hc0)
  have HH := Lib.hid (And.intro (hTab.keep0 hc0) (And.intro hBT (And.intro hBA (And.intro hBB hc0))))
  clear hB hTab hT hA hC hb1 hb2 hb3 hBT hBA hBB hc0
  go_enter Tryd.func14, Tryd.ntmps14
  go_wp2_with fail
  generalize ((w.alloc (.cells #[.int .i64 t.kind, .string t.name, .int .i64 t.con, .slice Af t.fields.length cf, .slice Al t.list.length cl, .slice Ar t.res.length cr] 39)).alloc (.cells #[.int .i64 a.kind, .string a.name, .int .i64 a.con, .slice Bf a.fields.length df, .slice Bl a.list.length dl, .slice Br a.res.length dr] 39)).alloc (.cells #[.int .i64 b.kind, .string b.name, .int .i64 b.con, .slice Cf b.fields.length ef, .slice Cl b.list.length el, .slice Cr b.res.length er] 39) = W at hans HH ⊢
  generalize w.heap.size + 1 + 1 = g7 at HH ⊢
  generalize w.heap.size + 1 = g6 at HH ⊢
  generalize w.heap.size = g5 at HH ⊢
  refine hans.mono fun e w1 h => ?_
  obtain ⟨rfl, hc1⟩ := h
  clear hans
  by_cases hmn : m = n'
  · have q1 := str_eq hmn
    have hans := answers2_any w1 (HH.out.1.keep0 hc1)
    have HC := Lib.hid (HH.out.2.2.2.2.trans hc1)
    clear hmn hc1
    go_wp2_with fail
    refine hans.mono fun e w2 h => ?_
    obtain ⟨rfl, hc2⟩ := h
    go_wp2_with fail
    go_ret
    exact ⟨rfl, HC.out.trans hc2⟩
  · have q1 := str_ne hmn
    have hc1 := hc1.drew
    have HX := Lib.hid (And.intro hmn (HH.out.2.2.2.2.trans hc1))
    have hTab := HH.out.1.keep0 hc1
    have hT := HH.out.2.1.keep hc1
    have hA := HH.out.2.2.1.keep hc1
    have hB := HH.out.2.2.2.1.keep hc1
    clear hmn hc1 HH
    go_wp2_with fail
    refine wp_region_facts1 [(0, 28), (1, 29), (2, 30), (3, 31), (4, 32), (5, 33), (6, 34), (7, 35), (8, 27), (9, 36), (11, 11)] (10, 37) (twF n (n + n) t a m (subT t [m] [a]) (subE t [m] [a])) (by kernel_rfl) (by kernel_rfl) (by kernel_rfl) rfl rfl (fun _ _ _ _ h => h) (twF_dep (by kernel_rfl) (by kernel_rfl) (by kernel_rfl)) twF_mono (ops_cons (OpF.run rfl rfl fun q w H => by
          obtain ⟨cs, hb, hsz, hu⟩ := hT.keep H.chg
          exact ⟨_, w, exec_load 39 (.tmp 5) (H.same 5 (by kernel_rfl)) hb Tryd.underlying39 rfl (by rw [hsz]; exact infoSz6), hu, Chg.refl _ _⟩) (ops_cons (OpF.call rfl rfl fun q w H => by
          obtain ⟨r0, h0⟩ := H.fact 0 (by kernel_rfl)
          have h0 := fact_at (p := fun v => TyU n w v t) (k := 0) (d := 28) h0 (by kernel_rfl)
          exact ⟨_, _, exec_call1 _ _ _ (enters_own2 w), ownU h0⟩) (ops_cons (OpF.run rfl rfl fun q w H => ⟨_, w, exec_move (.tmp 3), H.same 3 (by kernel_rfl), Chg.refl _ _⟩) (ops_cons (OpF.run rfl rfl fun q w H => by
          obtain ⟨r0, h0⟩ := H.fact 2 (by kernel_rfl)
          have h0 := fact_at (p := fun v => v = .string m) (k := 2) (d := 30) h0 (by kernel_rfl)
          exact ⟨_, _, exec_bs1 (.tmp 30) h0, StrsU.built hm, chg_alloc _ _⟩) (ops_cons (OpF.run rfl rfl fun q w H => by
          obtain ⟨cs, hb, hsz, hu⟩ := hA.keep H.chg
          exact ⟨_, w, exec_load 39 (.tmp 6) (H.same 6 (by kernel_rfl)) hb Tryd.underlying39 rfl (by rw [hsz]; exact infoSz6), hu, Chg.refl _ _⟩) (ops_cons (OpF.call rfl rfl fun q w H => by
          obtain ⟨r0, h0⟩ := H.fact 4 (by kernel_rfl)
          have h0 := fact_at (p := fun v => TyU n w v a) (k := 4) (d := 32) h0 (by kernel_rfl)
          exact ⟨_, _, exec_call1 _ _ _ (enters_own2 w), ownU h0⟩) (ops_cons (OpF.run rfl rfl fun q w H => by
          obtain ⟨r0, h0⟩ := H.fact 5 (by kernel_rfl)
          have h0 := fact_at (p := fun v => TyU n w v a) (k := 5) (d := 33) h0 (by kernel_rfl)
          obtain ⟨v0, v1, v2, v3, v4, v5, hv⟩ := tyU_cells h0
          exact ⟨_, _, exec_bt1 (.tmp 33) hv, TysU.built (hv ▸ h0), chg_alloc _ _⟩) (ops_cons (OpF.call rfl rfl fun q w H => by
          obtain ⟨r0, h0⟩ := H.fact 1 (by kernel_rfl)
          have h0 := fact_at (p := fun v => TyU n w v t) (k := 1) (d := 29) h0 (by kernel_rfl)
          obtain ⟨r1, h1⟩ := H.fact 3 (by kernel_rfl)
          have h1 := fact_at (p := fun v => StrsU w v [m]) (k := 3) (d := 31) h1 (by kernel_rfl)
          obtain ⟨r2, h2⟩ := H.fact 6 (by kernel_rfl)
          have h2 := fact_at (p := fun v => TysU n w v [a]) (k := 6) (d := 34) h2 (by kernel_rfl)
          exact ⟨_, _, exec_call3 _ _ _ _ _ (enters_subst w), substU (hTab.keep0 H.chg) h0 h1 h2 (by simp) (by simp)⟩) (ops_cons (OpF.run rfl rfl fun q w H => by
          obtain ⟨r0, h0⟩ := H.fact 7 (by kernel_rfl)
          have h1 := H.val (k := 7) (d := 35) (by kernel_rfl)
          obtain ⟨Xf, xf, Xl, xl, Xr, xr, e, _⟩ := h0
          exact ⟨_, w, exec_move (.tmp 35), ⟨h1, _, _, h1.trans e⟩, Chg.refl _ _⟩) (ops_cons (OpF.run rfl rfl fun q w H => by
          obtain ⟨r0, h0⟩ := H.fact 8 (by kernel_rfl)
          have h1 := H.val (k := 8) (d := 27) (by kernel_rfl)
          obtain ⟨_, x, y, e1⟩ := h0
          exact ⟨_, w, exec_extract (.tmp 27) 0 (h1.trans e1) rfl, ⟨_, e1, rfl⟩, Chg.refl _ _⟩) (ops_cons (OpF.run rfl rfl fun q w H => ⟨_, _, exec_allocT, ⟨_, rfl, Nat.le_refl _, by simp, Blk.new _ _ _⟩, chg_alloc _ _⟩) (ops_cons (OpF.run rfl rfl fun q w H => by
          obtain ⟨r0, h0⟩ := H.fact 8 (by kernel_rfl)
          have h1 := H.val (k := 8) (d := 27) (by kernel_rfl)
          obtain ⟨_, x, y, e1⟩ := h0
          exact ⟨_, w, exec_extract (.tmp 27) 1 (h1.trans e1) rfl, ⟨_, e1, rfl⟩, Chg.refl _ _⟩) (ops_nil))))))))))))) ?_ ?_
    · intro v r w' hv hvals
      have h8 := hv (8, 27) (by simp)
      obtain ⟨_, x, y, e1⟩ := h8
      exact ⟨y, Or.inl ⟨rfl, fun w => exec_extract (vs := #[x, y]) (.tmp 27) 1 ((hvals (8, 27) (by simp)).trans e1) rfl⟩, ⟨#[x, y], e1, rfl⟩⟩
    · intro v r w3 hv hq hr hap hcw
      have f7 := hv (7, 35) (by simp)
      obtain ⟨f8, _⟩ := hv (8, 27) (by simp)
      obtain ⟨vs, f9, f9'⟩ := hv (9, 36) (by simp)
      obtain ⟨vs', f10, f10'⟩ := hq
      obtain ⟨g3, e11, hg1, hg2, hbk⟩ := hv (11, 11) (by simp)
      have hap := hap (7, 35) (by simp) (11, 11) (by simp) (by decide)
      have hr7 := hr (7, 35) (by simp)
      have hr11 := hr (11, 11) (by simp)
      obtain ⟨Xf, xf, Xl, xl, Xr, xr, e7, hN⟩ := f7
      rw [f8, e7] at f9
      injection f9 with f9
      subst f9
      rw [f8, e7] at f10
      injection f10 with f10
      subst f10
      have e10 : v 10 = _ := (Option.some.inj f10').symm
      have e9 : v 9 = _ := (Option.some.inj f9').symm
      have e8 : v 8 = _ := f8.trans e7
      clear f8 e7 f9' f10' hv hr
      simp only [List.cons_append, List.nil_append, putL, Act.put, List.setIfInBounds_toArray, List.set_cons_zero, List.set_cons_succ]
      rw [e8, e9, e10, e11]
      clear e8 e9 e10 e11
      have z0 := hbk.frozen 0
      have z1 := hbk.frozen 1
      have z2 := hbk.frozen 2
      have z3 := hbk.frozen 3
      have z4 := hbk.frozen 4
      have z5 := hbk.frozen 5
      obtain ⟨y0, y1, y2, y3, y4, y5⟩ := hbk.cells6
      refine wpAny_ready (rs := [12]) (by kernel_rfl) (by simp) ?_
      refine AllReady.cons rfl (fun K hK => ?_) AllReady.nil
      go_simp
      refine hK _ _ ?_
      clear hK K
      try simp only [Act.put, List.setIfInBounds_toArray, List.set_cons_zero, List.set_cons_succ]
      refine wpAny_ready (rs := [13]) (by kernel_rfl) (by simp) ?_
      refine AllReady.cons rfl (fun K hK => ?_) AllReady.nil
      go_simp
      refine hK _ _ ?_
      clear hK K
      try simp only [Act.put, List.setIfInBounds_toArray, List.set_cons_zero, List.set_cons_succ]
      refine ⟨by kernel_rfl, ?_⟩
      clear z0 z1 z2 z3 z4 z5 y0 y1 y2 y3 y4 y5
      obtain ⟨W3, hW3, hBX3, hCX3⟩ := box_stored hbk hN (by omega) (by exact Nat.le_trans hr11.1 hg1) hcw
      rw [hW3]
      clear hW3 hbk hN hap hr7 hr11 hcw hg1 hg2
      replace hT := hT.keep hCX3.drew
      replace hA := hA.keep hCX3.drew
      replace hB := hB.keep hCX3.drew
      replace hTab := hTab.keep0 hCX3.drew
      replace HX := Lib.hid (And.intro HX.out.1 (HX.out.2.trans hCX3.drew))
      clear hCX3
      have hx := hBX3.keep (Chg.refl (fun _ _ => False) W3).drew
      have hB2 := hB.deep (Nat.le_add_right n n)
      clear hBX3
      go_wp2_with fail
      refine wp_region_facts1 [(0, 39), (1, 40), (2, 41), (3, 42), (4, 43), (5, 44), (6, 45), (7, 46), (8, 38), (9, 47), (11, 13)] (10, 48) (twF (n + n) (n + n + (n + n)) (subT t [m] [a]) b n' (subT (subT t [m] [a]) [n'] [b]) (subE (subT t [m] [a]) [n'] [b])) (by kernel_rfl) (by kernel_rfl) (by kernel_rfl) rfl rfl (fun _ _ _ _ h => h) (twF_dep (by kernel_rfl) (by kernel_rfl) (by kernel_rfl)) twF_mono (ops_cons (OpF.run rfl rfl fun q w H => by
            obtain ⟨cs, hb, hsz, hu⟩ := hx.keep H.chg
            exact ⟨_, w, exec_load 39 (.tmp 11) (H.same 11 (by kernel_rfl)) hb Tryd.underlying39 rfl (by rw [hsz]; exact infoSz6), hu, Chg.refl _ _⟩) (ops_cons (OpF.call rfl rfl fun q w H => by
            obtain ⟨r0, h0⟩ := H.fact 0 (by kernel_rfl)
            have h0 := fact_at (p := fun v => TyU (n + n) w v (subT t [m] [a])) (k := 0) (d := 39) h0 (by kernel_rfl)
            exact ⟨_, _, exec_call1 _ _ _ (enters_own2 w), ownU h0⟩) (ops_cons (OpF.run rfl rfl fun q w H => ⟨_, w, exec_move (.tmp 4), H.same 4 (by kernel_rfl), Chg.refl _ _⟩) (ops_cons (OpF.run rfl rfl fun q w H => by
            obtain ⟨r0, h0⟩ := H.fact 2 (by kernel_rfl)
            have h0 := fact_at (p := fun v => v = .string n') (k := 2) (d := 41) h0 (by kernel_rfl)
            exact ⟨_, _, exec_bs1 (.tmp 41) h0, StrsU.built hn, chg_alloc _ _⟩) (ops_cons (OpF.run rfl rfl fun q w H => by
            obtain ⟨cs, hb, hsz, hu⟩ := hB2.keep H.chg
            exact ⟨_, w, exec_load 39 (.tmp 7) (H.same 7 (by kernel_rfl)) hb Tryd.underlying39 rfl (by rw [hsz]; exact infoSz6), hu, Chg.refl _ _⟩) (ops_cons (OpF.call rfl rfl fun q w H => by
            obtain ⟨r0, h0⟩ := H.fact 4 (by kernel_rfl)
            have h0 := fact_at (p := fun v => TyU (n + n) w v b) (k := 4) (d := 43) h0 (by kernel_rfl)
            exact ⟨_, _, exec_call1 _ _ _ (enters_own2 w), ownU h0⟩) (ops_cons (OpF.run rfl rfl fun q w H => by
            obtain ⟨r0, h0⟩ := H.fact 5 (by kernel_rfl)
            have h0 := fact_at (p := fun v => TyU (n + n) w v b) (k := 5) (d := 44) h0 (by kernel_rfl)
            obtain ⟨v0, v1, v2, v3, v4, v5, hv⟩ := tyU_cells h0
            exact ⟨_, _, exec_bt1 (.tmp 44) hv, TysU.built (hv ▸ h0), chg_alloc _ _⟩) (ops_cons (OpF.call rfl rfl fun q w H => by
            obtain ⟨r0, h0⟩ := H.fact 1 (by kernel_rfl)
            have h0 := fact_at (p := fun v => TyU (n + n) w v (subT t [m] [a])) (k := 1) (d := 40) h0 (by kernel_rfl)
            obtain ⟨r1, h1⟩ := H.fact 3 (by kernel_rfl)
            have h1 := fact_at (p := fun v => StrsU w v [n']) (k := 3) (d := 42) h1 (by kernel_rfl)
            obtain ⟨r2, h2⟩ := H.fact 6 (by kernel_rfl)
            have h2 := fact_at (p := fun v => TysU (n + n) w v [b]) (k := 6) (d := 45) h2 (by kernel_rfl)
            exact ⟨_, _, exec_call3 _ _ _ _ _ (enters_subst w), substU (hTab.keep0 H.chg) h0 h1 h2 (by simp) (by simp)⟩) (ops_cons (OpF.run rfl rfl fun q w H => by
            obtain ⟨r0, h0⟩ := H.fact 7 (by kernel_rfl)
            have h1 := H.val (k := 7) (d := 46) (by kernel_rfl)
            obtain ⟨Xf, xf, Xl, xl, Xr, xr, e, _⟩ := h0
            exact ⟨_, w, exec_move (.tmp 46), ⟨h1, _, _, h1.trans e⟩, Chg.refl _ _⟩) (ops_cons (OpF.run rfl rfl fun q w H => by
            obtain ⟨r0, h0⟩ := H.fact 8 (by kernel_rfl)
            have h1 := H.val (k := 8) (d := 38) (by kernel_rfl)
            obtain ⟨_, x, y, e1⟩ := h0
            exact ⟨_, w, exec_extract (.tmp 38) 0 (h1.trans e1) rfl, ⟨_, e1, rfl⟩, Chg.refl _ _⟩) (ops_cons (OpF.run rfl rfl fun q w H => ⟨_, _, exec_allocT, ⟨_, rfl, Nat.le_refl _, by simp, Blk.new _ _ _⟩, chg_alloc _ _⟩) (ops_cons (OpF.run rfl rfl fun q w H => by
            obtain ⟨r0, h0⟩ := H.fact 8 (by kernel_rfl)
            have h1 := H.val (k := 8) (d := 38) (by kernel_rfl)
            obtain ⟨_, x, y, e1⟩ := h0
            exact ⟨_, w, exec_extract (.tmp 38) 1 (h1.trans e1) rfl, ⟨_, e1, rfl⟩, Chg.refl _ _⟩) (ops_nil))))))))))))) ?_ ?_
      · intro v r w' hv hvals
        have h8 := hv (8, 38) (by simp)
        obtain ⟨_, x, y, e1⟩ := h8
        exact ⟨y, Or.inl ⟨rfl, fun w => exec_extract (vs := #[x, y]) (.tmp 38) 1 ((hvals (8, 38) (by simp)).trans e1) rfl⟩, ⟨#[x, y], e1, rfl⟩⟩
      · intro v r w4 hv hq hr hap hcw
        have f7 := hv (7, 46) (by simp)
        obtain ⟨f8, _⟩ := hv (8, 38) (by simp)
        obtain ⟨vs, f9, f9'⟩ := hv (9, 47) (by simp)
        obtain ⟨vs', f10, f10'⟩ := hq
        obtain ⟨g4, e11, hg1, hg2, hbk⟩ := hv (11, 13) (by simp)
        have hap := hap (7, 46) (by simp) (11, 13) (by simp) (by decide)
        have hr7 := hr (7, 46) (by simp)
        have hr11 := hr (11, 13) (by simp)
        obtain ⟨Xf, xf, Xl, xl, Xr, xr, e7, hN⟩ := f7
        rw [f8, e7] at f9
        injection f9 with f9
        subst f9
        rw [f8, e7] at f10
        injection f10 with f10
        subst f10
        have e10 : v 10 = _ := (Option.some.inj f10').symm
        have e9 : v 9 = _ := (Option.some.inj f9').symm
        have e8 : v 8 = _ := f8.trans e7
        clear f8 e7 f9' f10' hv hr
        simp only [List.cons_append, List.nil_append, putL, Act.put, List.setIfInBounds_toArray, List.set_cons_zero, List.set_cons_succ]
        rw [e8, e9, e10, e11]
        clear e8 e9 e10 e11
        have z0 := hbk.frozen 0
        have z1 := hbk.frozen 1
        have z2 := hbk.frozen 2
        have z3 := hbk.frozen 3
        have z4 := hbk.frozen 4
        have z5 := hbk.frozen 5
        obtain ⟨y0, y1, y2, y3, y4, y5⟩ := hbk.cells6
        refine wpAny_ready (rs := [12]) (by kernel_rfl) (by simp) ?_
        refine AllReady.cons rfl (fun K hK => ?_) AllReady.nil
        go_simp
        refine hK _ _ ?_
        clear hK K
        try simp only [Act.put, List.setIfInBounds_toArray, List.set_cons_zero, List.set_cons_succ]
        refine wpAny_ready (rs := [13]) (by kernel_rfl) (by simp) ?_
        refine AllReady.cons rfl (fun K hK => ?_) AllReady.nil
        go_simp
        refine hK _ _ ?_
        clear hK K
        try simp only [Act.put, List.setIfInBounds_toArray, List.set_cons_zero, List.set_cons_succ]
        refine ⟨by kernel_rfl, ?_⟩
        clear z0 z1 z2 z3 z4 z5 y0 y1 y2 y3 y4 y5
        obtain ⟨W4, hW4, hBX4, hCX4⟩ := box_stored hbk hN (by omega) (by exact Nat.le_trans hr11.1 hg1) hcw
        rw [hW4]
        clear hW4 hbk hN hap hr7 hr11 hcw hg1 hg2
        replace hT := hT.keep hCX4.drew
        replace hA := hA.keep hCX4.drew
        replace hB := hB.keep hCX4.drew
        replace hTab := hTab.keep0 hCX4.drew
        replace HX := Lib.hid (And.intro HX.out.1 (HX.out.2.trans hCX4.drew))
        replace hx := hx.keep hCX4.drew
        clear hCX4
        have hy := hBX4.keep (Chg.refl (fun _ _ => False) W4).drew
        clear hBX4
        by_cases h1 : subE t [m] [a] = 0
        · by_cases h2 : subE (subT t [m] [a]) [n'] [b] = 0
          · rw [h1, h2]
            have HL := Lib.hid (And.intro h1 h2)
            clear h1 h2 hB2
            go_wp2_with fail
            refine wp_region_facts1 [(0, 56), (1, 57), (2, 58), (3, 59), (4, 60), (5, 61), (6, 62), (7, 63), (8, 55), (9, 64), (11, 15)] (10, 65) (twF n (n + n) a b n' (subT a [n'] [b]) (subE a [n'] [b])) (by kernel_rfl) (by kernel_rfl) (by kernel_rfl) rfl rfl (fun _ _ _ _ h => h) (twF_dep (by kernel_rfl) (by kernel_rfl) (by kernel_rfl)) twF_mono (ops_cons (OpF.run rfl rfl fun q w H => by
                  obtain ⟨cs, hb, hsz, hu⟩ := hA.keep H.chg
                  exact ⟨_, w, exec_load 39 (.tmp 6) (H.same 6 (by kernel_rfl)) hb Tryd.underlying39 rfl (by rw [hsz]; exact infoSz6), hu, Chg.refl _ _⟩) (ops_cons (OpF.call rfl rfl fun q w H => by
                  obtain ⟨r0, h0⟩ := H.fact 0 (by kernel_rfl)
                  have h0 := fact_at (p := fun v => TyU n w v a) (k := 0) (d := 56) h0 (by kernel_rfl)
                  exact ⟨_, _, exec_call1 _ _ _ (enters_own2 w), ownU h0⟩) (ops_cons (OpF.run rfl rfl fun q w H => ⟨_, w, exec_move (.tmp 4), H.same 4 (by kernel_rfl), Chg.refl _ _⟩) (ops_cons (OpF.run rfl rfl fun q w H => by
                  obtain ⟨r0, h0⟩ := H.fact 2 (by kernel_rfl)
                  have h0 := fact_at (p := fun v => v = .string n') (k := 2) (d := 58) h0 (by kernel_rfl)
                  exact ⟨_, _, exec_bs1 (.tmp 58) h0, StrsU.built hn, chg_alloc _ _⟩) (ops_cons (OpF.run rfl rfl fun q w H => by
                  obtain ⟨cs, hb, hsz, hu⟩ := hB.keep H.chg
                  exact ⟨_, w, exec_load 39 (.tmp 7) (H.same 7 (by kernel_rfl)) hb Tryd.underlying39 rfl (by rw [hsz]; exact infoSz6), hu, Chg.refl _ _⟩) (ops_cons (OpF.call rfl rfl fun q w H => by
                  obtain ⟨r0, h0⟩ := H.fact 4 (by kernel_rfl)
                  have h0 := fact_at (p := fun v => TyU n w v b) (k := 4) (d := 60) h0 (by kernel_rfl)
                  exact ⟨_, _, exec_call1 _ _ _ (enters_own2 w), ownU h0⟩) (ops_cons (OpF.run rfl rfl fun q w H => by
                  obtain ⟨r0, h0⟩ := H.fact 5 (by kernel_rfl)
                  have h0 := fact_at (p := fun v => TyU n w v b) (k := 5) (d := 61) h0 (by kernel_rfl)
                  obtain ⟨v0, v1, v2, v3, v4, v5, hv⟩ := tyU_cells h0
                  exact ⟨_, _, exec_bt1 (.tmp 61) hv, TysU.built (hv ▸ h0), chg_alloc _ _⟩) (ops_cons (OpF.call rfl rfl fun q w H => by
                  obtain ⟨r0, h0⟩ := H.fact 1 (by kernel_rfl)
                  have h0 := fact_at (p := fun v => TyU n w v a) (k := 1) (d := 57) h0 (by kernel_rfl)
                  obtain ⟨r1, h1⟩ := H.fact 3 (by kernel_rfl)
                  have h1 := fact_at (p := fun v => StrsU w v [n']) (k := 3) (d := 59) h1 (by kernel_rfl)
                  obtain ⟨r2, h2⟩ := H.fact 6 (by kernel_rfl)
                  have h2 := fact_at (p := fun v => TysU n w v [b]) (k := 6) (d := 62) h2 (by kernel_rfl)
                  exact ⟨_, _, exec_call3 _ _ _ _ _ (enters_subst w), substU (hTab.keep0 H.chg) h0 h1 h2 (by simp) (by simp)⟩) (ops_cons (OpF.run rfl rfl fun q w H => by
                  obtain ⟨r0, h0⟩ := H.fact 7 (by kernel_rfl)
                  have h1 := H.val (k := 7) (d := 63) (by kernel_rfl)
                  obtain ⟨Xf, xf, Xl, xl, Xr, xr, e, _⟩ := h0
                  exact ⟨_, w, exec_move (.tmp 63), ⟨h1, _, _, h1.trans e⟩, Chg.refl _ _⟩) (ops_cons (OpF.run rfl rfl fun q w H => by
                  obtain ⟨r0, h0⟩ := H.fact 8 (by kernel_rfl)
                  have h1 := H.val (k := 8) (d := 55) (by kernel_rfl)
                  obtain ⟨_, x, y, e1⟩ := h0
                  exact ⟨_, w, exec_extract (.tmp 55) 0 (h1.trans e1) rfl, ⟨_, e1, rfl⟩, Chg.refl _ _⟩) (ops_cons (OpF.run rfl rfl fun q w H => ⟨_, _, exec_allocT, ⟨_, rfl, Nat.le_refl _, by simp, Blk.new _ _ _⟩, chg_alloc _ _⟩) (ops_cons (OpF.run rfl rfl fun q w H => by
                  obtain ⟨r0, h0⟩ := H.fact 8 (by kernel_rfl)
                  have h1 := H.val (k := 8) (d := 55) (by kernel_rfl)
                  obtain ⟨_, x, y, e1⟩ := h0
                  exact ⟨_, w, exec_extract (.tmp 55) 1 (h1.trans e1) rfl, ⟨_, e1, rfl⟩, Chg.refl _ _⟩) (ops_nil))))))))))))) ?_ ?_
            · intro v r w' hv hvals
              have h8 := hv (8, 55) (by simp)
              obtain ⟨_, x, y, e1⟩ := h8
              exact ⟨y, Or.inl ⟨rfl, fun w => exec_extract (vs := #[x, y]) (.tmp 55) 1 ((hvals (8, 55) (by simp)).trans e1) rfl⟩, ⟨#[x, y], e1, rfl⟩⟩
            · intro v r w7 hv hq hr hap hcw
              have f7 := hv (7, 63) (by simp)
              obtain ⟨f8, _⟩ := hv (8, 55) (by simp)
              obtain ⟨vs, f9, f9'⟩ := hv (9, 64) (by simp)
              obtain ⟨vs', f10, f10'⟩ := hq
              obtain ⟨g7, e11, hg1, hg2, hbk⟩ := hv (11, 15) (by simp)
              have hap := hap (7, 63) (by simp) (11, 15) (by simp) (by decide)
              have hr7 := hr (7, 63) (by simp)
              have hr11 := hr (11, 15) (by simp)
              obtain ⟨Xf, xf, Xl, xl, Xr, xr, e7, hN⟩ := f7
              rw [f8, e7] at f9
              injection f9 with f9
              subst f9
              rw [f8, e7] at f10
              injection f10 with f10
              subst f10
              have e10 : v 10 = _ := (Option.some.inj f10').symm
              have e9 : v 9 = _ := (Option.some.inj f9').symm
              have e8 : v 8 = _ := f8.trans e7
              clear f8 e7 f9' f10' hv hr
              simp only [List.cons_append, List.nil_append, putL, Act.put, List.setIfInBounds_toArray, List.set_cons_zero, List.set_cons_succ]
              rw [e8, e9, e10, e11]
              clear e8 e9 e10 e11
              have z0 := hbk.frozen 0
              have z1 := hbk.frozen 1
              have z2 := hbk.frozen 2
              have z3 := hbk.frozen 3
              have z4 := hbk.frozen 4
              have z5 := hbk.frozen 5
              obtain ⟨y0, y1, y2, y3, y4, y5⟩ := hbk.cells6
              refine wpAny_ready (rs := [12]) (by kernel_rfl) (by simp) ?_
              refine AllReady.cons rfl (fun K hK => ?_) AllReady.nil
              go_simp
              refine hK _ _ ?_
              clear hK K
              try simp only [Act.put, List.setIfInBounds_toArray, List.set_cons_zero, List.set_cons_succ]
              refine wpAny_ready (rs := [13]) (by kernel_rfl) (by simp) ?_
              refine AllReady.cons rfl (fun K hK => ?_) AllReady.nil
              go_simp
              refine hK _ _ ?_
              clear hK K
              try simp only [Act.put, List.setIfInBounds_toArray, List.set_cons_zero, List.set_cons_succ]
              refine ⟨by kernel_rfl, ?_⟩
              clear z0 z1 z2 z3 z4 z5 y0 y1 y2 y3 y4 y5
              obtain ⟨W7, hW7, hBX7, hCX7⟩ := box_stored hbk hN (by omega) (by exact Nat.le_trans hr11.1 hg1) hcw
              rw [hW7]
              clear hW7 hbk hN hap hr7 hr11 hcw hg1 hg2
              replace hT := hT.keep hCX7.drew
              replace hA := hA.keep hCX7.drew
              replace hB := hB.keep hCX7.drew
              replace hTab := hTab.keep0 hCX7.drew
              replace HX := Lib.hid (And.intro HX.out.1 (HX.out.2.trans hCX7.drew))
              replace hx := hx.keep hCX7.drew
              replace hy := hy.keep hCX7.drew
              clear hCX7
              have hz := hBX7.keep (Chg.refl (fun _ _ => False) W7).drew
              clear hBX7
              have hT2 := hT.deep (Nat.le_add_right n n)
              have hB2 := hB.deep (Nat.le_add_right n n)
              go_wp2_with fail
              refine wp_region_facts1 [(0, 67), (1, 68), (2, 69), (3, 70), (4, 71), (5, 72), (6, 73), (7, 74), (8, 75), (9, 76), (10, 77), (11, 66), (12, 78), (14, 17)] (13, 79) (twF8 (n + n) (n + n + (n + n)) t (subT a [n'] [b]) b m n' (subT t [m, n'] [(subT a [n'] [b]), b]) (subE t [m, n'] [(subT a [n'] [b]), b])) (by kernel_rfl) (by kernel_rfl) (by kernel_rfl) rfl rfl (fun _ _ _ _ h => h) (twF8_dep (by kernel_rfl) (by kernel_rfl) (by kernel_rfl)) twF8_mono (ops_cons (OpF.run rfl rfl fun q w H => by
                    obtain ⟨cs, hb, hsz, hu⟩ := hT2.keep H.chg
                    exact ⟨_, w, exec_load 39 (.tmp 5) (H.same 5 (by kernel_rfl)) hb Tryd.underlying39 rfl (by rw [hsz]; exact infoSz6), hu, Chg.refl _ _⟩) (ops_cons (OpF.call rfl rfl fun q w H => by
                    obtain ⟨r0, h0⟩ := H.fact 0 (by kernel_rfl)
                    have h0 := fact_at (p := fun v => TyU (n + n) w v t) (k := 0) (d := 67) h0 (by kernel_rfl)
                    exact ⟨_, _, exec_call1 _ _ _ (enters_own2 w), ownU h0⟩) (ops_cons (OpF.run rfl rfl fun q w H => ⟨_, w, exec_move (.tmp 3), H.same 3 (by kernel_rfl), Chg.refl _ _⟩) (ops_cons (OpF.run rfl rfl fun q w H => ⟨_, w, exec_move (.tmp 4), H.same 4 (by kernel_rfl), Chg.refl _ _⟩) (ops_cons (OpF.run rfl rfl fun q w H => by
                    obtain ⟨r0, h0⟩ := H.fact 2 (by kernel_rfl)
                    have h0 := fact_at (p := fun v => v = .string m) (k := 2) (d := 69) h0 (by kernel_rfl)
                    obtain ⟨r1, h1⟩ := H.fact 3 (by kernel_rfl)
                    have h1 := fact_at (p := fun v => v = .string n') (k := 3) (d := 70) h1 (by kernel_rfl)
                    exact ⟨_, _, exec_bs2 (.tmp 69) (.tmp 70) h0 h1, StrsU.built2 hm hn, chg_alloc _ _⟩) (ops_cons (OpF.run rfl rfl fun q w H => by
                    obtain ⟨cs, hb, hsz, hu⟩ := hz.keep H.chg
                    exact ⟨_, w, exec_load 39 (.tmp 15) (H.same 15 (by kernel_rfl)) hb Tryd.underlying39 rfl (by rw [hsz]; exact infoSz6), hu, Chg.refl _ _⟩) (ops_cons (OpF.call rfl rfl fun q w H => by
                    obtain ⟨r0, h0⟩ := H.fact 5 (by kernel_rfl)
                    have h0 := fact_at (p := fun v => TyU (n + n) w v (subT a [n'] [b])) (k := 5) (d := 72) h0 (by kernel_rfl)
                    exact ⟨_, _, exec_call1 _ _ _ (enters_own2 w), ownU h0⟩) (ops_cons (OpF.run rfl rfl fun q w H => by
                    obtain ⟨cs, hb, hsz, hu⟩ := hB2.keep H.chg
                    exact ⟨_, w, exec_load 39 (.tmp 7) (H.same 7 (by kernel_rfl)) hb Tryd.underlying39 rfl (by rw [hsz]; exact infoSz6), hu, Chg.refl _ _⟩) (ops_cons (OpF.call rfl rfl fun q w H => by
                    obtain ⟨r0, h0⟩ := H.fact 7 (by kernel_rfl)
                    have h0 := fact_at (p := fun v => TyU (n + n) w v b) (k := 7) (d := 74) h0 (by kernel_rfl)
                    exact ⟨_, _, exec_call1 _ _ _ (enters_own2 w), ownU h0⟩) (ops_cons (OpF.run rfl rfl fun q w H => by
                    obtain ⟨r0, h0⟩ := H.fact 6 (by kernel_rfl)
                    have h0 := fact_at (p := fun v => TyU (n + n) w v (subT a [n'] [b])) (k := 6) (d := 73) h0 (by kernel_rfl)
                    obtain ⟨v0, v1, v2, v3, v4, v5, hv⟩ := tyU_cells h0
                    obtain ⟨r1, h1⟩ := H.fact 8 (by kernel_rfl)
                    have h1 := fact_at (p := fun v => TyU (n + n) w v b) (k := 8) (d := 75) h1 (by kernel_rfl)
                    obtain ⟨u0, u1, u2, u3, u4, u5, hu⟩ := tyU_cells h1
                    exact ⟨_, _, exec_bt2 (.tmp 73) (.tmp 75) hv hu, TysU.built2 (hv ▸ h0) (hu ▸ h1), chg_alloc _ _⟩) (ops_cons (OpF.call rfl rfl fun q w H => by
                    obtain ⟨r0, h0⟩ := H.fact 1 (by kernel_rfl)
                    have h0 := fact_at (p := fun v => TyU (n + n) w v t) (k := 1) (d := 68) h0 (by kernel_rfl)
                    obtain ⟨r1, h1⟩ := H.fact 4 (by kernel_rfl)
                    have h1 := fact_at (p := fun v => StrsU w v [m, n']) (k := 4) (d := 71) h1 (by kernel_rfl)
                    obtain ⟨r2, h2⟩ := H.fact 9 (by kernel_rfl)
                    have h2 := fact_at (p := fun v => TysU (n + n) w v [(subT a [n'] [b]), b]) (k := 9) (d := 76) h2 (by kernel_rfl)
                    exact ⟨_, _, exec_call3 _ _ _ _ _ (enters_subst w), substU (hTab.keep0 H.chg) h0 h1 h2 (by simp) (by simp)⟩) (ops_cons (OpF.run rfl rfl fun q w H => by
                    obtain ⟨r0, h0⟩ := H.fact 10 (by kernel_rfl)
                    have h1 := H.val (k := 10) (d := 77) (by kernel_rfl)
                    obtain ⟨Xf, xf, Xl, xl, Xr, xr, e, _⟩ := h0
                    exact ⟨_, w, exec_move (.tmp 77), ⟨h1, _, _, h1.trans e⟩, Chg.refl _ _⟩) (ops_cons (OpF.run rfl rfl fun q w H => by
                    obtain ⟨r0, h0⟩ := H.fact 11 (by kernel_rfl)
                    have h1 := H.val (k := 11) (d := 66) (by kernel_rfl)
                    obtain ⟨_, x, y, e1⟩ := h0
                    exact ⟨_, w, exec_extract (.tmp 66) 0 (h1.trans e1) rfl, ⟨_, e1, rfl⟩, Chg.refl _ _⟩) (ops_cons (OpF.run rfl rfl fun q w H => ⟨_, _, exec_allocT, ⟨_, rfl, Nat.le_refl _, by simp, Blk.new _ _ _⟩, chg_alloc _ _⟩) (ops_cons (OpF.run rfl rfl fun q w H => by
                    obtain ⟨r0, h0⟩ := H.fact 11 (by kernel_rfl)
                    have h1 := H.val (k := 11) (d := 66) (by kernel_rfl)
                    obtain ⟨_, x, y, e1⟩ := h0
                    exact ⟨_, w, exec_extract (.tmp 66) 1 (h1.trans e1) rfl, ⟨_, e1, rfl⟩, Chg.refl _ _⟩) (ops_nil)))))))))))))))) ?_ ?_
              · intro v r w' hv hvals
                have h8 := hv (11, 66) (by simp)
                obtain ⟨_, x, y, e1⟩ := h8
                exact ⟨y, Or.inl ⟨rfl, fun w => exec_extract (vs := #[x, y]) (.tmp 66) 1 ((hvals (11, 66) (by simp)).trans e1) rfl⟩, ⟨#[x, y], e1, rfl⟩⟩
              · intro v r w8 hv hq hr hap hcw
                have f7 := hv (10, 77) (by simp)
                obtain ⟨f8, _⟩ := hv (11, 66) (by simp)
                obtain ⟨vs, f9, f9'⟩ := hv (12, 78) (by simp)
                obtain ⟨vs', f10, f10'⟩ := hq
                obtain ⟨g8, e11, hg1, hg2, hbk⟩ := hv (14, 17) (by simp)
                have hap := hap (10, 77) (by simp) (14, 17) (by simp) (by decide)
                have hr7 := hr (10, 77) (by simp)
                have hr11 := hr (14, 17) (by simp)
                obtain ⟨Xf, xf, Xl, xl, Xr, xr, e7, hN⟩ := f7
                rw [f8, e7] at f9
                injection f9 with f9
                subst f9
                rw [f8, e7] at f10
                injection f10 with f10
                subst f10
                have e10 : v 13 = _ := (Option.some.inj f10').symm
                have e9 : v 12 = _ := (Option.some.inj f9').symm
                have e8 : v 11 = _ := f8.trans e7
                clear f8 e7 f9' f10' hv hr
                simp only [List.cons_append, List.nil_append, putL, Act.put, List.setIfInBounds_toArray, List.set_cons_zero, List.set_cons_succ]
                rw [e8, e9, e10, e11]
                clear e8 e9 e10 e11
                have z0 := hbk.frozen 0
                have z1 := hbk.frozen 1
                have z2 := hbk.frozen 2
                have z3 := hbk.frozen 3
                have z4 := hbk.frozen 4
                have z5 := hbk.frozen 5
                obtain ⟨y0, y1, y2, y3, y4, y5⟩ := hbk.cells6
                refine wpAny_ready (rs := [15]) (by kernel_rfl) (by simp) ?_
                refine AllReady.cons rfl (fun K hK => ?_) AllReady.nil
                go_simp
                refine hK _ _ ?_
                clear hK K
                try simp only [Act.put, List.setIfInBounds_toArray, List.set_cons_zero, List.set_cons_succ]
                refine wpAny_ready (rs := [16]) (by kernel_rfl) (by simp) ?_
                refine AllReady.cons rfl (fun K hK => ?_) AllReady.nil
                go_simp
                refine hK _ _ ?_
                clear hK K
                try simp only [Act.put, List.setIfInBounds_toArray, List.set_cons_zero, List.set_cons_succ]
                refine ⟨by kernel_rfl, ?_⟩
                clear z0 z1 z2 z3 z4 z5 y0 y1 y2 y3 y4 y5
                obtain ⟨W8, hW8, hBX8, hCX8⟩ := box_stored hbk hN (by omega) (by exact Nat.le_trans hr11.1 hg1) hcw
                rw [hW8]
                clear hW8 hbk hN hap hr7 hr11 hcw hg1 hg2
                replace hT := hT.keep hCX8.drew
                replace hA := hA.keep hCX8.drew
                replace hB := hB.keep hCX8.drew
                replace hTab := hTab.keep0 hCX8.drew
                replace HX := Lib.hid (And.intro HX.out.1 (HX.out.2.trans hCX8.drew))
                replace hx := hx.keep hCX8.drew
                replace hy := hy.keep hCX8.drew
                replace hz := hz.keep hCX8.drew
                clear hCX8
                have hw := hBX8.keep (Chg.refl (fun _ _ => False) W8).drew
                clear hBX8
                by_cases h3 : subE a [n'] [b] = 0
                · obtain ⟨l1, l2⟩ := twice_law HX.out.1 HL.out.1 HL.out.2 h3
                  rw [h3, l1]
                  obtain ⟨D1, Xf, xf, Xl, xl, Xr, xr, hD1, hb1, hR1⟩ := box_open hw
                  obtain ⟨D2, Yf, yf, Yl, yl, Yr, yr, hD2, hb2, hR2⟩ := box_open hy
                  have hb1 : Blk W8 _ _ _ := hb1
                  have hb2 : Blk W8 _ _ _ := hb2
                  have hsm := rsame_any (n + n + (n + n)) W8.heap.size W8 _ _ Xf xf Xl xl Xr xr Yf yf Yl yl Yr yr (Nat.le_refl _) (TyR.keep0 (chg_undrew (Chg.refl (fun _ _ => False) W8.drew)) (TyR.more hD1 hR1)) (TyR.keep0 (chg_undrew (Chg.refl (fun _ _ => False) W8.drew)) (TyR.more hD2 hR2))
                  rw [eqB_true.2 l2] at hsm
                  obtain ⟨x0, x1, x2, x3, x4, x5⟩ := hb1.cells6
                  obtain ⟨y0, y1, y2, y3, y4, y5⟩ := hb2.cells6
                  have HC := Lib.hid (chg_undrew HX.out.2)
                  clear hb1 hb2 hR1 hR2 hD1 hD2 hw hx hy hz hT hA hB hT2 hB2 hTab l1 l2 h3 HL HX
                  go_wp2_with fail
                  refine hsm.mono fun e w9 h => ?_
                  obtain ⟨rfl, hc9⟩ := h
                  go_wp2_with fail
                  go_ret
                  exact ⟨rfl, HC.out.trans hc9⟩
                · have q3 : (subE a [n'] [b] != 0) = true := by simp [h3]
                  generalize subE a [n'] [b] = c3 at q3 ⊢
                  have HC := Lib.hid (chg_undrew HX.out.2)
                  clear hw hx hy hz hT hA hB hT2 hB2 hTab h3 HL HX
                  go_wp2_with fail
                  go_ret
                  exact ⟨rfl, HC.out⟩
          · have q2 : (subE (subT t [m] [a]) [n'] [b] != 0) = true := by simp [h2]
            rw [h1]
            generalize subE (subT t [m] [a]) [n'] [b] = c2 at q2 ⊢
            clear h1 h2
            have HC := Lib.hid (chg_undrew HX.out.2)
            clear hx hy hT hA hB hB2 hTab HX
            go_wp2_with fail
            go_ret
            exact ⟨rfl, HC.out⟩
        · have q2 : (subE t [m] [a] != 0) = true := by simp [h1]
          generalize subE (subT t [m] [a]) [n'] [b] = c2 at ⊢
          generalize subE t [m] [a] = c1 at q2 ⊢
          clear h1
          have HC := Lib.hid (chg_undrew HX.out.2)
          clear hx hy hT hA hB hB2 hTab HX
          go_wp2_with fail
          go_ret
          exact ⟨rfl, HC.out⟩
end Go.Proofs.YtefiefckjoledaaDoor
