/-
  mullionlaw12.answers: a new heap, one object, three cells.
-/
import Derived.Test.YteigopmdhhgnfaaHNil
namespace Go.Proofs.Yteigopmdhhgnfaa
open Go.RowKit
set_option linter.unusedVariables false
set_option linter.unusedSimpArgs false

set_option maxRecDepth 100000 in
theorem hnew_any (w : World) (c : Nat) (hc : c ≤ 65536) : Calls Try.prog 25 #[.int .i64 c] w fun e w' => e = .returned (.tuple #[.pointer (some ⟨w.heap.size + 1, 0, none⟩), .int .i64 0]) ∧ IMap w' w.heap.size 0 0 (fun _ => none) ∧ Blk w' (w.heap.size + 1) 75 #[.map (some w.heap.size), .int .i64 c, .int .i64 0, .int .i64 1] ∧ Chg (fun _ _ => False) w w' := by
  have hmm := @run_makeMap Try.prog
  have hb := Blk.new (w.alloc (.map #[] 0)) 75 #[.map (some w.heap.size), .int .i64 c, .int .i64 0, .int .i64 1]
  have hm := (IMap.made w).keep (chg_alloc _ (.cells #[.map (some w.heap.size), .int .i64 c, .int .i64 0, .int .i64 1] 75)) id
  have hch := (chg_alloc w (.map #[] 0)).alloc (.cells #[.map (some w.heap.size), .int .i64 c, .int .i64 0, .int .i64 1] 75)
  rw [World.size_alloc] at hb
  have q1 : ¬ (c : Int) < 0 := by omega
  have q2 : ¬ (65536 : Int) < (c : Int) := by omega
  have q3 : decide (c > 65536) = false := decide_eq_false (by omega)
  have q4 : decide (65536 < c) = false := decide_eq_false (by omega)
  have HB := Lib.hid (And.intro hm (And.intro hb hch))
  clear hm hb hch hc
  go_enter Try.func25, Try.ntmps25
  go_wp2_with fail
  go_ret2
  exact ⟨rfl, HB.out⟩
theorem infoBool : (Try.prog.info? 4).map (fun i => (i.zero, i.size, i.bytes)) = some (some (.bool false), 1, 1) := by kernel_rfl
def BoolV (_ : World) (cs : List Value) (k : Bool) : Prop := cs = [.bool k]
set_option maxRecDepth 100000 in
theorem cloneB_any (B : Nat) (w : World) (l : List Bool) (a : Addr) (c : Nat) (hl : SlR B 0 1 BoolV w (.slice (some a) l.length c) l) (hn : l.length ≤ 1048576) :
    Calls Try.prog 33 #[.slice (some a) l.length c] w fun e w' => ∃ A' c', e = .returned (.slice A' l.length c') ∧ RowR w.heap.size 4 1 BoolV w' A' c' l ∧ Chg (fun _ _ => False) w w' := by
  obtain ⟨i0, hi0, hz0, hs0, hb0⟩ := info_parts infoBool
  have hnil : ∀ w', (binOp .eql 23 (.slice (some a) l.length c) (.slice none 0 0)).run Try.prog w' = .ok (.bool false) w' := fun w' => Lib.run_eql_slice_nil (P := Try.prog) w' 23 4 (some a) l.length c 0 0 Try.underlying23
  go_enter Try.func33, Try.ntmps33
  go_wp2_with (at_builtin; go_must (refine wpList_copy_slr rfl (.tmp 5) (.tmp 6) 23 rfl 4 i0 _ 1 Try.underlying23 hi0 hz0 hs0 hb0 rfl (by omega) (some a) l.length c rfl (by simp) rfl hl (fun cs y h => by subst h; intro u hu; simp at hu; subst hu; rfl) (by omega) (by omega) ?_))
  intro A3 c3 w2 yss k1 k2 k3 k4 k5
  have HC := Lib.hid (And.intro (show RowR w.heap.size 4 1 BoolV w2 A3 c3 l from ⟨yss, k1, k2, k3, fun k x cs h1 h2 => by
    cases x
    · exact (k4 k).1 cs h1 h2
    · exact (k4 k).2 cs h1 h2⟩) k5)
  clear k1 k2 k3 k4 k5 hl
  go_wp2
  go_ret
  exact ⟨A3, c3, rfl, HC.out.1, HC.out.2⟩
theorem infoU64 : (Try.prog.info? 44).map (fun i => (i.zero, i.size, i.bytes)) = some (some (.int .u64 0), 1, 8) := by kernel_rfl
/-! ## Alloc on a new heap -/
section
variable {a : Act} {w : World} {dst : Option Nat} {ty : TypeId} {pos : String} {af : Array Edge} {g : Option (Nat × Bool)}
theorem exec_mv (x : Operand) : (execOp a.eval { dst := dst, op := .move x, type := ty, pos := pos, after := af, guard := g }).run Try.prog w = .ok (.value (a.eval x)) w := by
  unfold execOp
  go_simp
theorem exec_nc (x : Operand) {p : Addr} (hx : a.eval x = .pointer (some p)) : (execOp a.eval { dst := dst, op := .nilCheck x, type := ty, pos := pos, after := af, guard := g }).run Try.prog w = .ok (.value (.pointer (some p))) w := by
  unfold execOp
  simp only [hx]
  go_simp
theorem exec_fa0 (x : Operand) {b : Nat} (hx : a.eval x = .pointer (some ⟨b, 0, none⟩)) : (execOp a.eval { dst := dst, op := .fieldAddr 75 x 0, type := ty, pos := pos, after := af, guard := g }).run Try.prog w = .ok (.value (.pointer (some ⟨b, 0, none⟩))) w := by
  unfold execOp
  simp only [hx]
  go_simp
theorem exec_fa3 (x : Operand) {b : Nat} (hx : a.eval x = .pointer (some ⟨b, 0, none⟩)) : (execOp a.eval { dst := dst, op := .fieldAddr 75 x 3, type := ty, pos := pos, after := af, guard := g }).run Try.prog w = .ok (.value (.pointer (some ⟨b, 3, none⟩))) w := by
  unfold execOp
  simp only [hx]
  go_simp
theorem exec_ldM (x : Operand) {b k m : Nat} (hx : a.eval x = .pointer (some ⟨b, k, none⟩)) (hc : w.cell? ⟨b, k, none⟩ = some (.map (some m))) : (execOp a.eval { dst := dst, op := .load 73 x, type := ty, pos := pos, after := af, guard := g }).run Try.prog w = .ok (.value (.map (some m))) w := by
  unfold execOp
  simp only [hx]
  go_simp
theorem exec_ldI (x : Operand) {b k : Nat} {v : Int} (hx : a.eval x = .pointer (some ⟨b, k, none⟩)) (hc : w.cell? ⟨b, k, none⟩ = some (.int .i64 v)) : (execOp a.eval { dst := dst, op := .load 3 x, type := ty, pos := pos, after := af, guard := g }).run Try.prog w = .ok (.value (.int .i64 v)) w := by
  unfold execOp
  simp only [hx]
  go_simp
theorem exec_lenB {A : Option Addr} {n c : Nat} (x : Operand) (hx : a.eval x = .slice A n c) : (execOp a.eval { dst := dst, op := Op.call { callee := .builtin .len, args := #[x], argTypes := #[23] }, type := ty, pos := pos, after := af, guard := g }).run Try.prog w = .ok (.value (.int .i64 n)) w := by
  have hu := Try.underlying23
  generalize a.eval = E at hx ⊢
  unfold execOp
  simp [hx, go_sem, Builtin.len_, run_underlying hu]
theorem exec_mk2 {N : Nat} (x y : Operand) (hx : a.eval x = .int .i64 N) (hy : a.eval y = .int .i64 N) (hN : N ≤ 1048576) : ∃ w', (execOp a.eval { dst := dst, op := .makeSlice 37 x y, type := ty, pos := pos, after := af, guard := g }).run Try.prog w = .ok (.value (.slice (some ⟨w.heap.size, 0, none⟩) N N)) w' ∧ Chg (fun _ _ => False) w w' := by
  obtain ⟨i, hi, hz, hs, hb⟩ := info_parts infoU64
  have hr := run_make (P := Try.prog) w 37 44 i _ Try.underlying37 hi hz .i64 .i64 N N (by omega) (by omega) (by rw [hb]; omega) (by omega)
  rw [hs] at hr
  simp only [Int.toNat_natCast] at hr
  refine ⟨w.alloc (.cells (madeCells (Value.int .u64 0).cells (N * 1)) 44), ?_, chg_alloc _ _⟩
  unfold execOp
  simp only [hx, hy, Sem.run_bind, hr, Result.andThen_ok, Sem.run_pure]
theorem exec_bd (x y : Operand) {A B : Option Addr} {n c m d : Nat} (hx : a.eval x = .slice A n c) (hy : a.eval y = .slice B m d) : (execOp a.eval { dst := dst, op := .build 78 #[(0, x), (1, y)], type := ty, pos := pos, after := af, guard := g }).run Try.prog w = .ok (.value (.agg #[.slice A n c, .slice B m d])) w := by
  generalize a.eval = E at hx hy ⊢
  unfold execOp
  simp [hx, hy, go_sem, run_underlying Try.underlying78]
theorem exec_bx (x : Operand) {A B : Option Addr} {n c m d : Nat} (hx : a.eval x = .agg #[.slice A n c, .slice B m d]) : (execOp a.eval { dst := dst, op := .box 78 x, type := ty, pos := pos, after := af, guard := g }).run Try.prog w = .ok (.value (.pointer (some ⟨w.heap.size, 0, none⟩))) (w.alloc (.cells #[.slice A n c, .slice B m d] 78)) := by
  unfold execOp
  simp only [hx]
  go_simp
theorem factH {p : Value → Prop} {ops : Array Oper} {k d : Nat} (h : p (valOf ops a k)) (hd : dstOf ops k = d) : p (a.eval (.tmp d)) := by
  subst hd
  exact h
theorem exec_cl (f : FuncId) (x : Operand) (ts : Array TypeId) (hf : ∀ ys, (callFunc f ys).run Try.prog w = .ok (.enter f ys) w) : (execOp a.eval { dst := dst, op := .call { callee := .value (.func f), args := #[x], argTypes := ts }, type := ty, pos := pos, after := af, guard := g }).run Try.prog w = .ok (.enter f #[a.eval x]) w := by
  rw [exec_call f _ ts hf]; simp
end
theorem cloneB_enters (w : World) (args : Array Value) : (callFunc 33 args).run Try.prog w = .ok (.enter 33 args) w := by
  simp [callFunc, Try.func33, go_sem]
  rw [if_neg (by decide +kernel), if_neg (fun h => by cases h)]
/-- What the operations ahead of the store into the map leave. -/
def hpF (g b b0 : Nat) : Nat → (Nat → Value) → Nat × Nat → World → Prop
  | 0, v, _, _ => v 0 = .pointer (some ⟨g, 0, none⟩)
  | 1, v, _, _ => v 1 = .pointer (some ⟨g, 0, none⟩)
  | 2, v, _, _ => v 2 = .pointer (some ⟨g, 0, none⟩)
  | 3, v, _, _ => v 3 = .map (some b)
  | 4, v, _, _ => v 4 = .pointer (some ⟨g, 0, none⟩)
  | 5, v, _, _ => v 5 = .pointer (some ⟨g, 0, none⟩)
  | 6, v, _, _ => v 6 = .pointer (some ⟨g, 3, none⟩)
  | 7, v, _, _ => v 7 = .int .i64 1
  | 8, v, _, _ => v 8 = .slice (some ⟨b0, 0, none⟩) 2 2
  | 9, v, _, _ => v 9 = .int .i64 (2 : Nat)
  | 10, v, _, _ => ∃ A n c, v 10 = .slice A n c
  | 11, v, _, _ => v 11 = .slice (some ⟨b0, 0, none⟩) 2 2
  | 12, v, _, _ => ∃ A n c, v 12 = .slice A n c
  | 13, v, _, _ => ∃ A n c B m d, v 13 = .agg #[.slice A n c, .slice B m d]
  | 14, v, _, _ => ∃ p, v 14 = .pointer p
  | _, _, _, _ => True
theorem hpF_dep {g b b0 : Nat} {md : Region.Mode} {ops : Array Oper} (j : Nat) (val val' : Nat → Value) (r : Nat × Nat) (w : World) (h : val j = val' j) (hk : ∀ k, waitsB md ops j k = true → val k = val' k) (hF : hpF g b b0 j val r w) : hpF g b b0 j val' r w := by
  unfold hpF at hF ⊢
  split at hF <;> first | (rw [← h]; exact hF) | trivial
theorem hpF_mono {g b b0 : Nat} (j : Nat) (val : Nat → Value) (r : Nat × Nat) (w w' : World) (hc : Chg (fun _ _ => False) w w') (hF : hpF g b b0 j val r w) : hpF g b b0 j val r w' := by
  unfold hpF at hF ⊢
  split at hF <;> first | exact hF | trivial
theorem slB2 {w : World} {b0 : Nat} {x0 x1 : Bool} (h : Blk w b0 4 #[.bool x0, .bool x1]) : SlR w.heap.size 0 1 BoolV w (.slice (some ⟨b0, 0, none⟩) 2 2) [x0, x1] := by
  refine ⟨_, _, rfl, by simp, fun _ => ⟨b0, 0, rfl, .inl h.lt, h.lt, fun k x hk => ?_⟩⟩
  match k, hk with
  | 0, hk =>
    simp at hk
    subst hk
    exact ⟨_, rfl, rfl, fun j u hu => by
      match j, hu with
      | 0, hu => simp at hu; subst hu; simpa using h.cell 0
      | j + 1, hu => simp at hu⟩
  | 1, hk =>
    simp at hk
    subst hk
    exact ⟨_, rfl, rfl, fun j u hu => by
      match j, hu with
      | 0, hu => simp at hu; subst hu; simpa using h.cell 1
      | j + 1, hu => simp at hu⟩
  | k + 2, hk => simp at hk
set_option maxRecDepth 100000 in
set_option maxHeartbeats 4000000 in
theorem halloc_new (w : World) (g b c b0 : Nat) (hm : IMap w b 0 0 (fun _ => none)) (hg : Blk w g 75 #[.map (some b), .int .i64 c, .int .i64 0, .int .i64 1]) (h0 : Blk w b0 4 #[.bool true, .bool false]) (hc : 3 ≤ c ∧ c ≤ 65536) :
    Calls Try.prog 13 #[.pointer (some ⟨g, 0, none⟩), .slice (some ⟨b0, 0, none⟩) 2 2, .slice none 0 0] w fun e w' => e = .returned (.tuple #[.int .i64 1, .int .i64 0]) ∧ Blk w' g 75 #[.map (some b), .int .i64 c, .int .i64 3, .int .i64 1] ∧ Chg (fun x t => (x = g ∧ t = 75) ∨ (x = b ∧ t = 0)) w w' := by
  have x0 : w.cell? ⟨g, 0, none⟩ = some (.map (some b)) := by simpa using hg.cell 0
  have x1 : w.cell? ⟨g, 1, none⟩ = some (.int .i64 c) := by simpa using hg.cell 1
  have x2 : w.cell? ⟨g, 2, none⟩ = some (.int .i64 0) := by simpa using hg.cell 2
  have x3 : w.cell? ⟨g, 3, none⟩ = some (.int .i64 1) := by simpa using hg.cell 3
  have q1 : ¬ (c : Int) < 3 := by omega
  have q2 : decide (c < 3) = false := decide_eq_false (by omega)
  have q3 : decide (3 > c) = false := decide_eq_false (by omega)
  have HW := Lib.hid (And.intro hm (And.intro hg (And.intro h0 hc)))
  clear hm hg h0 hc
  go_enter Try.func13, Try.ntmps13
  go_wp2_with fail
  go_loopw [22] (fun i wr => i = .int .i64 0 ∧ wr = w) (fun _ _ => 0)
  case atStart => exact ⟨rfl, rfl⟩
  case round =>
    obtain ⟨rfl, rfl⟩ := hrel
    go_wp2_with fail
    go_quiet (fail)
    go_wp2_with fail
    have hd1 := (Chg.refl (fun _ _ => False) wr).drewN nq
    generalize wr.drewN nq = w1 at hd1 ⊢
    have hg := hd1.blk HW.out.2.1 id
    have HD1 := Lib.hid hd1
    clear x0 x1 x2 x3 hd1
    have x0 : w1.cell? ⟨g, 0, none⟩ = some (.map (some b)) := by simpa using hg.cell 0
    have x1 : w1.cell? ⟨g, 1, none⟩ = some (.int .i64 c) := by simpa using hg.cell 1
    have x2 : w1.cell? ⟨g, 2, none⟩ = some (.int .i64 0) := by simpa using hg.cell 2
    have x3 : w1.cell? ⟨g, 3, none⟩ = some (.int .i64 1) := by simpa using hg.cell 3
    clear hg
    go_quiet (fail)
    go_wp2_with fail
    have hd2 := HD1.out.trans ((Chg.refl (fun _ _ => False) w1).drewN nq)
    generalize w1.drewN nq = w2 at hd2 ⊢
    have hg := hd2.blk HW.out.2.1 id
    have HD2 := Lib.hid hd2
    clear x0 x1 x2 x3 hd2
    have x0 : w2.cell? ⟨g, 0, none⟩ = some (.map (some b)) := by simpa using hg.cell 0
    have x1 : w2.cell? ⟨g, 1, none⟩ = some (.int .i64 c) := by simpa using hg.cell 1
    have x2 : w2.cell? ⟨g, 2, none⟩ = some (.int .i64 0) := by simpa using hg.cell 2
    have x3 : w2.cell? ⟨g, 3, none⟩ = some (.int .i64 1) := by simpa using hg.cell 3
    clear hg
    have hlk : ∀ n, (Instr.lookup 73 (.map (some b)) (.int .i64 1) false).run Try.prog (w2.drewN n) = .ok (.pointer none) (w2.drewN n) := fun n => (HW.out.1.keep (HD2.out.trans ((Chg.refl (fun _ _ => False) w2).drewN n)) id).look Try.underlying73 rfl (by unfold I64; omega)
    go_loopw [70] (fun _ wr => wr = w2) (fun _ _ => 0)
    case atStart => rfl
    case round =>
      subst hrel
      go_wp2_with fail
      go_quiet (fail)
      go_wp2_with fail
      have hd3 := HD2.out.trans ((Chg.refl (fun _ _ => False) wr).drewN nq)
      generalize wr.drewN nq = w4 at hd3 ⊢
      have hg4 := hd3.blk HW.out.2.1 id
      have h04 := hd3.blk HW.out.2.2.1 id
      have hdr := (Chg.refl (fun _ _ => False) w4).drew
      have HD3 := Lib.hid (hd3.trans hdr)
      have hsl : ∀ w : World, Blk w b0 4 #[.bool true, .bool false] → SlR w.heap.size 0 1 BoolV w (.slice (some ⟨b0, 0, none⟩) [true, false].length 2) [true, false] := fun w h => slB2 h
      clear x0 x1 x2 x3 hlk hd3
      refine wp_region_facts [(0, 87), (1, 88), (2, 89), (3, 90), (4, 91), (5, 92), (6, 93), (7, 94), (8, 95), (9, 96), (10, 97), (11, 98), (12, 99), (13, 100), (14, 101)] [] (hpF g b b0) (by kernel_rfl) (by kernel_rfl) hpF_dep hpF_mono (ops_cons (OpF.run rfl rfl fun q w H => by
        exact ⟨_, w, exec_mv (.tmp 0), H.same 0 (by kernel_rfl), Chg.refl _ _⟩) (ops_cons (OpF.run rfl rfl fun q w H => by
        obtain ⟨r0, h0⟩ := H.fact 0 (by kernel_rfl)
        have h0 := factH (p := fun v => v = .pointer (some ⟨g, 0, none⟩)) (k := 0) (d := 87) h0 (by kernel_rfl)
        exact ⟨_, w, exec_nc (.tmp 87) h0, rfl, Chg.refl _ _⟩) (ops_cons (OpF.run rfl rfl fun q w H => by
        obtain ⟨r1, h1⟩ := H.fact 1 (by kernel_rfl)
        have h1 := factH (p := fun v => v = .pointer (some ⟨g, 0, none⟩)) (k := 1) (d := 88) h1 (by kernel_rfl)
        exact ⟨_, w, exec_fa0 (.tmp 88) h1, rfl, Chg.refl _ _⟩) (ops_cons (OpF.run rfl rfl fun q w H => by
        obtain ⟨r2, h2⟩ := H.fact 2 (by kernel_rfl)
        have h2 := factH (p := fun v => v = .pointer (some ⟨g, 0, none⟩)) (k := 2) (d := 89) h2 (by kernel_rfl)
        exact ⟨_, w, exec_ldM (.tmp 89) h2 (by simpa using ((hdr.trans H.chg).blk hg4 id).cell 0), rfl, Chg.refl _ _⟩) (ops_cons (OpF.run rfl rfl fun q w H => by
        exact ⟨_, w, exec_mv (.tmp 0), H.same 0 (by kernel_rfl), Chg.refl _ _⟩) (ops_cons (OpF.run rfl rfl fun q w H => by
        obtain ⟨r4, h4⟩ := H.fact 4 (by kernel_rfl)
        have h4 := factH (p := fun v => v = .pointer (some ⟨g, 0, none⟩)) (k := 4) (d := 91) h4 (by kernel_rfl)
        exact ⟨_, w, exec_nc (.tmp 91) h4, rfl, Chg.refl _ _⟩) (ops_cons (OpF.run rfl rfl fun q w H => by
        obtain ⟨r5, h5⟩ := H.fact 5 (by kernel_rfl)
        have h5 := factH (p := fun v => v = .pointer (some ⟨g, 0, none⟩)) (k := 5) (d := 92) h5 (by kernel_rfl)
        exact ⟨_, w, exec_fa3 (.tmp 92) h5, rfl, Chg.refl _ _⟩) (ops_cons (OpF.run rfl rfl fun q w H => by
        obtain ⟨r6, h6⟩ := H.fact 6 (by kernel_rfl)
        have h6 := factH (p := fun v => v = .pointer (some ⟨g, 3, none⟩)) (k := 6) (d := 93) h6 (by kernel_rfl)
        exact ⟨_, w, exec_ldI (.tmp 93) h6 (by simpa using ((hdr.trans H.chg).blk hg4 id).cell 3), rfl, Chg.refl _ _⟩) (ops_cons (OpF.run rfl rfl fun q w H => by
        exact ⟨_, w, exec_mv (.tmp 1), H.same 1 (by kernel_rfl), Chg.refl _ _⟩) (ops_cons (OpF.run rfl rfl fun q w H => by
        obtain ⟨r8, h8⟩ := H.fact 8 (by kernel_rfl)
        have h8 := factH (p := fun v => v = .slice (some ⟨b0, 0, none⟩) 2 2) (k := 8) (d := 95) h8 (by kernel_rfl)
        exact ⟨_, w, exec_lenB (.tmp 95) h8, rfl, Chg.refl _ _⟩) (ops_cons (OpF.run rfl rfl fun q w H => by
        obtain ⟨r9, h9⟩ := H.fact 9 (by kernel_rfl)
        have h9 := factH (p := fun v => v = .int .i64 (2 : Nat)) (k := 9) (d := 96) h9 (by kernel_rfl)
        obtain ⟨w', hr, hc⟩ := exec_mk2 (.tmp 96) (.tmp 96) h9 h9 (by omega)
        exact ⟨_, w', hr, ⟨_, _, _, rfl⟩, hc⟩) (ops_cons (OpF.run rfl rfl fun q w H => by
        exact ⟨_, w, exec_mv (.tmp 1), H.same 1 (by kernel_rfl), Chg.refl _ _⟩) (ops_cons (OpF.call rfl rfl fun q w H => by
        obtain ⟨r11, h11⟩ := H.fact 11 (by kernel_rfl)
        have h11 := factH (p := fun v => v = .slice (some ⟨b0, 0, none⟩) 2 2) (k := 11) (d := 98) h11 (by kernel_rfl)
        exact ⟨_, _, exec_cl _ _ _ (cloneB_enters w), by rw [h11]; exact (cloneB_any w.heap.size w [true, false] ⟨b0, 0, none⟩ 2 (hsl w ((hdr.trans H.chg).blk h04 id)) (by simp)).mono fun e w' ⟨A, c, he, _, hc⟩ => ⟨_, he, ⟨_, _, _, rfl⟩, hc⟩⟩) (ops_cons (OpF.run rfl rfl fun q w H => by
        obtain ⟨r10, h10⟩ := H.fact 10 (by kernel_rfl)
        have h10 := factH (p := fun v => ∃ A n c, v = .slice A n c) (k := 10) (d := 97) h10 (by kernel_rfl)
        obtain ⟨r12, h12⟩ := H.fact 12 (by kernel_rfl)
        have h12 := factH (p := fun v => ∃ A n c, v = .slice A n c) (k := 12) (d := 99) h12 (by kernel_rfl)
        obtain ⟨A1, n1, c1, h10⟩ := h10
        obtain ⟨A2, n2, c2, h12⟩ := h12
        exact ⟨_, w, exec_bd (.tmp 97) (.tmp 99) h10 h12, ⟨_, _, _, _, _, _, rfl⟩, Chg.refl _ _⟩) (ops_cons (OpF.run rfl rfl fun q w H => by
        obtain ⟨r13, h13⟩ := H.fact 13 (by kernel_rfl)
        have h13 := factH (p := fun v => ∃ A n c B m d, v = .agg #[.slice A n c, .slice B m d]) (k := 13) (d := 100) h13 (by kernel_rfl)
        obtain ⟨A1, n1, c1, A2, n2, c2, h13⟩ := h13
        exact ⟨_, _, exec_bx (.tmp 100) h13, ⟨_, rfl⟩, chg_alloc _ _⟩) ops_nil))))))))))))))) ?_
      intro p v r w5 hv _ _ hcw
      have e3 : v 3 = _ := hv (3, 90) (by simp)
      have e7 : v 7 = _ := hv (7, 94) (by simp)
      obtain ⟨pp, e14⟩ : ∃ p, v 14 = .pointer p := hv (14, 101) (by simp)
      clear hv
      simp only [List.filter_nil, List.append_nil, putL, Act.put, List.setIfInBounds_toArray, List.set_cons_zero, List.set_cons_succ]
      rw [e3, e7, e14]
      clear e3 e7 e14
      have hd5 := HD3.out.trans hcw
      obtain ⟨w6, hmu, _, hc6⟩ := (HW.out.1.keep hd5 id).put (t := 73) Try.underlying73 (by simp [maxLen]) (s := 1) (by unfold I64; omega) (.pointer pp)
      refine wpAny_ready (rs := [15]) (by kernel_rfl) (by simp) ?_
      refine AllReady.cons rfl (fun K hK => ?_) AllReady.nil
      go_simp
      refine hK _ _ ?_
      clear hK K hmu
      try simp only [Act.put, List.setIfInBounds_toArray, List.set_cons_zero, List.set_cons_succ]
      refine ⟨by kernel_rfl, ?_⟩
      have hg6 := hc6.blk (hd5.blk HW.out.2.1 id) fun h => absurd h.2 (by decide)
      have x2 : w6.cell? ⟨g, 2, none⟩ = some (.int .i64 0) := by simpa using hg6.cell 2
      have x2f := hg6.frozen 2
      have hg7 := hg6.set_ 2 (.int .i64 3)
      have hc7 := chg_set (j := 2) hg6 (.int .i64 3)
      have x3 : (w6.setCell ⟨g, 2, none⟩ (.int .i64 3)).cell? ⟨g, 3, none⟩ = some (.int .i64 1) := by simpa using hg7.cell 3
      have hcf : Chg (fun x t => (x = g ∧ t = 75) ∨ (x = b ∧ t = 0)) _ (w6.setCell ⟨g, 2, none⟩ (.int .i64 3)) := ((hd5.mono fun _ _ _ h => h.elim).trans (hc6.mono fun _ _ _ h => .inr h)).trans (hc7.mono fun _ _ _ h => .inl h)
      have HZ := Lib.hid (And.intro (show Blk (w6.setCell ⟨g, 2, none⟩ (.int .i64 3)) g 75 #[.map (some b), .int .i64 c, .int .i64 3, .int .i64 1] by simpa using hg7) hcf)
      clear hg6 hg7 hc7 hcf hc6 hd5 hcw hg4 h04 hdr hsl
      go_wp2_with fail
      go_ret2
      exact ⟨rfl, HZ.out⟩
set_option maxRecDepth 100000 in
theorem hused_of (w : World) (g b c u l : Nat) (hg : Blk w g 75 #[.map (some b), .int .i64 c, .int .i64 u, .int .i64 l]) : Calls Try.prog 22 #[.pointer (some ⟨g, 0, none⟩)] w fun e w' => e = .returned (.int .i64 u) ∧ Chg (fun _ _ => False) w w' := by
  have x2 : w.cell? ⟨g, 2, none⟩ = some (.int .i64 u) := by simpa using hg.cell 2
  clear hg
  go_enter Try.func22, Try.ntmps22
  go_wp2_with fail
  go_ret
  exact ⟨rfl, Chg.refl _ _⟩
set_option maxRecDepth 100000 in
theorem answers12_any (w : World) : Calls Try.prog 11 #[] w fun e w' => e = .returned (.bool true) ∧ Chg (fun _ _ => False) w w' := by
  have hn := hnew_any w 9 (by omega)
  go_enter Try.func11, Try.ntmps11
  go_wp2_with fail
  refine hn.mono fun e w1 h => ?_
  obtain ⟨rfl, hm, hg, hc1⟩ := h
  clear hn
  have hb0 := Blk.new w1 4 #[.bool true, .bool false]
  have hc2 := chg_alloc w1 (.cells #[.bool true, .bool false] 4)
  have hal := halloc_new (w1.alloc (.cells #[.bool true, .bool false] 4)) (w.heap.size + 1) w.heap.size 9 w1.heap.size (hm.keep hc2 id) (hc2.blk hg id) hb0 (by omega)
  have H1 := Lib.hid (hc1.trans hc2)
  clear hm hg hc1 hb0 hc2
  go_wp2_with fail
  refine hal.mono fun e w2 h => ?_
  obtain ⟨rfl, hg, hc3⟩ := h
  clear hal
  have hu := hused_of w2 (w.heap.size + 1) w.heap.size 9 3 1 hg
  have H2 := Lib.hid hc3
  clear hg hc3
  go_wp2_with fail
  refine hu.mono fun e w3 h => ?_
  obtain ⟨rfl, hc4⟩ := h
  clear hu
  have H3 := Lib.hid hc4
  clear hc4
  go_wp2_with fail
  go_ret
  exact ⟨rfl, (H1.out.trans_new H2.out fun b t hb h => by rcases h with h | h <;> (have := h.1; omega)).trans H3.out⟩
end Go.Proofs.Yteigopmdhhgnfaa
