/-
  Copy of the program's heap: a heap of its own, with the same objects.
-/
import Derived.Test.YteigopmdhhgnfaaHAlike
namespace Go.Proofs.Yteigopmdhhgnfaa
open Go.RowKit Go.Maps Go.ChangeMaps
set_option linter.unusedVariables false
set_option linter.unusedSimpArgs false

set_option maxRecDepth 100000 in
theorem cloneU_any (B : Nat) (w : World) (l : List Nat) (A : Option Addr) (c : Nat) (hl : SlR B 0 1 U64V w (.slice A l.length c) l) (hn : l.length ≤ 1048576) :
    Calls Try.prog 40 #[.slice A l.length c] w fun e w' => ∃ A' c', e = .returned (.slice A' l.length c') ∧ RowR w.heap.size 44 1 U64V w' A' c' l ∧ Chg (fun _ _ => False) w w' := by
  obtain ⟨i0, hi0, hz0, hs0, hb0⟩ := info_parts infoU64
  rcases A with _ | a
  · have h0 : l.length = 0 := by
      obtain ⟨A', c', hv, _, h⟩ := hl
      rcases Nat.eq_zero_or_pos l.length with h0 | h0
      · exact h0
      · obtain ⟨b, o, hA, _⟩ := h h0
        injection hv with hv
        rw [hA] at hv
        cases hv
    have hl0 : l = [] := List.eq_nil_of_length_eq_zero h0
    subst hl0
    have hnil : ∀ w', (binOp .eql 37 (.slice none 0 c) (.slice none 0 0)).run Try.prog w' = .ok (.bool true) w' := fun w' => Lib.run_eql_slice_nil (P := Try.prog) w' 37 44 none 0 c 0 0 Try.underlying37
    go_enter Try.func40, Try.ntmps40
    go_wp2_with fail
    go_ret
    exact ⟨none, 0, rfl, RowR.nil _ _ _ _ _, Chg.refl _ _⟩
  · have hnil : ∀ w', (binOp .eql 37 (.slice (some a) l.length c) (.slice none 0 0)).run Try.prog w' = .ok (.bool false) w' := fun w' => Lib.run_eql_slice_nil (P := Try.prog) w' 37 44 (some a) l.length c 0 0 Try.underlying37
    go_enter Try.func40, Try.ntmps40
    go_wp2_with (at_builtin; go_must (refine wpList_copy_slr rfl (.tmp 5) (.tmp 6) 37 rfl 44 i0 _ 8 Try.underlying37 hi0 hz0 hs0 hb0 rfl (by omega) (some a) l.length c rfl (by simp) rfl hl (fun cs y h => by subst h; intro u hu; simp at hu; subst hu; rfl) (by omega) (by omega) ?_))
    intro A3 c3 w2 yss k1 k2 k3 k4 k5
    have HC := Lib.hid (And.intro (show RowR w.heap.size 44 1 U64V w2 A3 c3 l from ⟨yss, k1, k2, k3, k4⟩) k5)
    clear k1 k2 k3 k4 k5 hl
    go_wp2
    go_ret
    exact ⟨A3, c3, rfl, HC.out.1, HC.out.2⟩
theorem cloneU_enters (w : World) (args : Array Value) : (callFunc 40 args).run Try.prog w = .ok (.enter 40 args) w := by
  simp [callFunc, Try.func40, go_sem]
  rw [if_neg (by decide +kernel), if_neg (fun h => by cases h)]
section
variable {a : Act} {w : World} {dst : Option Nat} {ty : TypeId} {pos : String} {af : Array Edge} {g : Option (Nat × Bool)}
theorem exec_mkM : (execOp a.eval { dst := dst, op := .makeMap 73 none, type := ty, pos := pos, after := af, guard := g }).run Try.prog w = .ok (.value (.map (some w.heap.size))) (w.alloc (.map #[] 0)) := by
  have hmm := @run_makeMap Try.prog
  unfold execOp
  go_simp
theorem exec_fa1 (x : Operand) {b : Nat} (hx : a.eval x = .pointer (some ⟨b, 0, none⟩)) : (execOp a.eval { dst := dst, op := .fieldAddr 75 x 1, type := ty, pos := pos, after := af, guard := g }).run Try.prog w = .ok (.value (.pointer (some ⟨b, 1, none⟩))) w := by
  unfold execOp
  simp only [hx]
  go_simp
theorem exec_fa2 (x : Operand) {b : Nat} (hx : a.eval x = .pointer (some ⟨b, 0, none⟩)) : (execOp a.eval { dst := dst, op := .fieldAddr 75 x 2, type := ty, pos := pos, after := af, guard := g }).run Try.prog w = .ok (.value (.pointer (some ⟨b, 2, none⟩))) w := by
  unfold execOp
  simp only [hx]
  go_simp
theorem exec_faO0 (x : Operand) {b : Nat} (hx : a.eval x = .pointer (some ⟨b, 0, none⟩)) : (execOp a.eval { dst := dst, op := .fieldAddr 78 x 0, type := ty, pos := pos, after := af, guard := g }).run Try.prog w = .ok (.value (.pointer (some ⟨b, 0, none⟩))) w := by
  unfold execOp
  simp only [hx]
  go_simp
theorem exec_faO1' (x : Operand) {b : Nat} (hx : a.eval x = .pointer (some ⟨b, 0, none⟩)) : (execOp a.eval { dst := dst, op := .fieldAddr 78 x 1, type := ty, pos := pos, after := af, guard := g }).run Try.prog w = .ok (.value (.pointer (some ⟨b, 1, none⟩))) w := by
  unfold execOp
  simp only [hx]
  go_simp
theorem exec_bdH (x y z t : Operand) {b : Nat} {i j k : Int} (hx : a.eval x = .map (some b)) (hy : a.eval y = .int .i64 i) (hz : a.eval z = .int .i64 j) (ht : a.eval t = .int .i64 k) : (execOp a.eval { dst := dst, op := .build 75 #[(0, x), (1, y), (2, z), (3, t)], type := ty, pos := pos, after := af, guard := g }).run Try.prog w = .ok (.value (.agg #[.map (some b), .int .i64 i, .int .i64 j, .int .i64 k])) w := by
  generalize a.eval = E at hx hy hz ht ⊢
  unfold execOp
  simp [hx, hy, hz, ht, go_sem, run_underlying Try.underlying75]
theorem exec_bxH (x : Operand) {v0 v1 v2 v3 : Value} (hx : a.eval x = .agg #[v0, v1, v2, v3]) : (execOp a.eval { dst := dst, op := .box 75 x, type := ty, pos := pos, after := af, guard := g }).run Try.prog w = .ok (.value (.pointer (some ⟨w.heap.size, 0, none⟩))) (w.alloc (.cells #[v0, v1, v2, v3] 75)) := by
  generalize a.eval = E at hx ⊢
  unfold execOp
  simp [hx, go_sem, newVar, newRow]
theorem exec_asg (x : Operand) : (execOp a.eval { dst := dst, op := .assign x, type := ty, pos := pos, after := af, guard := g }).run Try.prog w = .ok (.value (a.eval x)) w := by
  unfold execOp
  go_simp
end
/-- What the making of the new heap leaves. -/
def cpF (p bud U least B0 : Nat) : Nat → (Nat → Value) → Nat × Nat → World → Prop
  | 0, u, _, w => ∃ b, u 0 = .map (some b) ∧ B0 ≤ b ∧ IMap w b 0 0 fun _ => none
  | 1, u, _, _ => u 1 = .pointer (some ⟨p, 0, none⟩)
  | 2, u, _, _ => u 2 = .pointer (some ⟨p, 0, none⟩)
  | 3, u, _, _ => u 3 = .pointer (some ⟨p, 1, none⟩)
  | 4, u, _, _ => u 4 = .int .i64 (bud : Int)
  | 5, u, _, _ => u 5 = .pointer (some ⟨p, 0, none⟩)
  | 6, u, _, _ => u 6 = .pointer (some ⟨p, 0, none⟩)
  | 7, u, _, _ => u 7 = .pointer (some ⟨p, 2, none⟩)
  | 8, u, _, _ => u 8 = .int .i64 (U : Int)
  | 9, u, _, _ => u 9 = .pointer (some ⟨p, 0, none⟩)
  | 10, u, _, _ => u 10 = .pointer (some ⟨p, 0, none⟩)
  | 11, u, _, _ => u 11 = .pointer (some ⟨p, 3, none⟩)
  | 12, u, _, _ => u 12 = .int .i64 (least : Int)
  | 13, u, _, w => ∃ b, u 13 = .agg #[.map (some b), .int .i64 (bud : Int), .int .i64 (U : Int), .int .i64 (least : Int)] ∧ B0 ≤ b ∧ IMap w b 0 0 fun _ => none
  | 14, u, _, w => ∃ b g, u 14 = .pointer (some ⟨g, 0, none⟩) ∧ B0 ≤ b ∧ B0 ≤ g ∧ (IMap w b 0 0 fun _ => none) ∧ Blk w g 75 #[.map (some b), .int .i64 (bud : Int), .int .i64 (U : Int), .int .i64 (least : Int)]
  | 15, u, _, w => ∃ b g, u 15 = .pointer (some ⟨g, 0, none⟩) ∧ B0 ≤ b ∧ B0 ≤ g ∧ (IMap w b 0 0 fun _ => none) ∧ Blk w g 75 #[.map (some b), .int .i64 (bud : Int), .int .i64 (U : Int), .int .i64 (least : Int)]
  | _, _, _, _ => True
theorem cpF_dep {p bud U least B0 : Nat} {md : Region.Mode} {ops : Array Oper} (j : Nat) (val val' : Nat → Value) (r : Nat × Nat) (w : World) (h : val j = val' j) (hk : ∀ k, waitsB md ops j k = true → val k = val' k) (hF : cpF p bud U least B0 j val r w) : cpF p bud U least B0 j val' r w := by
  unfold cpF at hF ⊢
  split at hF <;> first | (rw [← h]; exact hF) | trivial
theorem cpF_mono {p bud U least B0 : Nat} (j : Nat) (val : Nat → Value) (r : Nat × Nat) (w w' : World) (hc : Chg (fun _ _ => False) w w') (hF : cpF p bud U least B0 j val r w) : cpF p bud U least B0 j val r w' := by
  unfold cpF at hF ⊢
  split at hF
  case h_1 => obtain ⟨b, h1, h2, h3⟩ := hF; exact ⟨b, h1, h2, h3.keep hc id⟩
  case h_14 => obtain ⟨b, h1, h2, h3⟩ := hF; exact ⟨b, h1, h2, h3.keep hc id⟩
  case h_15 => obtain ⟨b, g, h1, h2, h3, h4, h5⟩ := hF; exact ⟨b, g, h1, h2, h3, h4.keep hc id, hc.blk h5 id⟩
  case h_16 => obtain ⟨b, g, h1, h2, h3, h4, h5⟩ := hF; exact ⟨b, g, h1, h2, h3, h4.keep hc id, hc.blk h5 id⟩
  all_goals exact hF
/-- What the copying of an object leaves. -/
def cyF (p2 b : Nat) (x : Int) (bs : Nat) (o : ObjD) (CA : Option Addr) (cc : Nat) (RA : Option Addr) (rc B0 : Nat) : Nat → (Nat → Value) → Nat × Nat → World → Prop
  | 0, u, _, _ => u 0 = .pointer (some ⟨p2, 0, none⟩)
  | 1, u, _, _ => u 1 = .pointer (some ⟨p2, 0, none⟩)
  | 2, u, _, _ => u 2 = .pointer (some ⟨p2, 0, none⟩)
  | 3, u, _, _ => u 3 = .map (some b)
  | 4, u, _, _ => u 4 = .int .i64 x
  | 5, u, _, _ => u 5 = .pointer (some ⟨bs, 0, none⟩)
  | 6, u, _, _ => u 6 = .pointer (some ⟨bs, 0, none⟩)
  | 7, u, _, _ => u 7 = .pointer (some ⟨bs, 0, none⟩)
  | 8, u, _, _ => u 8 = .slice CA o.cells.length cc
  | 9, u, _, w => ∃ A c, u 9 = .slice A o.cells.length c ∧ RowR B0 44 1 U64V w A c o.cells
  | 10, u, _, _ => u 10 = .pointer (some ⟨bs, 0, none⟩)
  | 11, u, _, _ => u 11 = .pointer (some ⟨bs, 0, none⟩)
  | 12, u, _, _ => u 12 = .pointer (some ⟨bs, 1, none⟩)
  | 13, u, _, _ => u 13 = .slice RA o.refs.length rc
  | 14, u, _, w => ∃ A c, u 14 = .slice A o.refs.length c ∧ RowR B0 4 1 BooV w A c o.refs
  | 15, u, _, w => ∃ A c A' c', u 15 = .agg #[.slice A o.cells.length c, .slice A' o.refs.length c'] ∧ RowR B0 44 1 U64V w A c o.cells ∧ RowR B0 4 1 BooV w A' c' o.refs
  | 16, u, _, w => ∃ g A c A' c', u 16 = .pointer (some ⟨g, 0, none⟩) ∧ B0 ≤ g ∧ Blk w g 78 #[.slice A o.cells.length c, .slice A' o.refs.length c'] ∧ RowR B0 44 1 U64V w A c o.cells ∧ RowR B0 4 1 BooV w A' c' o.refs
  | _, _, _, _ => True
theorem cyF_dep {p2 b : Nat} {x : Int} {bs : Nat} {o : ObjD} {CA : Option Addr} {cc : Nat} {RA : Option Addr} {rc B0 : Nat} {md : Region.Mode} {ops : Array Oper} (j : Nat) (val val' : Nat → Value) (r : Nat × Nat) (w : World) (h : val j = val' j) (hk : ∀ k, waitsB md ops j k = true → val k = val' k) (hF : cyF p2 b x bs o CA cc RA rc B0 j val r w) : cyF p2 b x bs o CA cc RA rc B0 j val' r w := by
  unfold cyF at hF ⊢
  split at hF <;> first | (rw [← h]; exact hF) | trivial
theorem cyF_mono {p2 b : Nat} {x : Int} {bs : Nat} {o : ObjD} {CA : Option Addr} {cc : Nat} {RA : Option Addr} {rc B0 : Nat} (j : Nat) (val : Nat → Value) (r : Nat × Nat) (w w' : World) (hc : Chg (fun _ _ => False) w w') (hF : cyF p2 b x bs o CA cc RA rc B0 j val r w) : cyF p2 b x bs o CA cc RA rc B0 j val r w' := by
  unfold cyF at hF ⊢
  split at hF
  case h_10 => obtain ⟨A, c, h1, h2⟩ := hF; exact ⟨A, c, h1, row_keepF h2 hc fun _ _ h => h⟩
  case h_15 => obtain ⟨A, c, h1, h2⟩ := hF; exact ⟨A, c, h1, row_keepF h2 hc fun _ _ h => h⟩
  case h_16 => obtain ⟨A, c, A', c', h1, h2, h3⟩ := hF; exact ⟨A, c, A', c', h1, row_keepF h2 hc fun _ _ h => h, row_keepF h3 hc fun _ _ h => h⟩
  case h_17 => obtain ⟨g, A, c, A', c', h1, h0, h4, h2, h3⟩ := hF; exact ⟨g, A, c, A', c', h1, h0, hc.blk h4 id, row_keepF h2 hc fun _ _ h => h, row_keepF h3 hc fun _ _ h => h⟩
  all_goals exact hF
/-- The copy so far: it holds the objects of T. -/
structure CpS (w : World) (S : List ObjD) (p2 b bud U least : Nat) (wr : World) (T : List ObjD) (bo : Nat → Nat) (A : Nat → Option Addr) (c : Nat → Nat) (k : Nat) : Prop where
  map : IMap wr b k T.length (fun x => (findO T x).map fun o => .pointer (some ⟨bo o.name, 0, none⟩))
  le : k ≤ T.length
  sub : ∀ o ∈ T, o ∈ S
  nd : (T.map ObjD.name).Nodup
  obj : ∀ o ∈ T, ObjV (fun q => w.heap.size ≤ q ∧ q < wr.heap.size) wr (bo o.name) (A o.name) (c o.name) o
  dist : ∀ o ∈ T, ∀ o' ∈ T, ∀ g, OwnB (A o.name) o.cells.length (c o.name) g → OwnB (A o'.name) o'.cells.length (c o'.name) g → o.name = o'.name
  blk : Blk wr p2 75 #[.map (some b), .int .i64 (bud : Int), .int .i64 (U : Int), .int .i64 (least : Int)]
  ge : w.heap.size ≤ b ∧ w.heap.size ≤ p2
  chg : Chg (fun _ _ => False) w wr
theorem findO_cons (o : ObjD) (T : List ObjD) (x : Int) : findO (o :: T) x = if (o.name : Int) = x then some o else findO T x := by
  unfold findO
  rw [List.find?_cons]
  by_cases h : (o.name : Int) = x
  · rw [decide_eq_true h, if_pos h]
  · rw [decide_eq_false h, if_neg h]
theorem CpS.len {w : World} {S : List ObjD} {p2 b bud U least : Nat} {wr : World} {T : List ObjD} {bo : Nat → Nat} {A : Nat → Option Addr} {c : Nat → Nat} {k : Nat} (h : CpS w S p2 b bud U least wr T bo A c k) : T.length ≤ S.length := by
  have := nodup_le h.nd (M := S.map ObjD.name) fun x hx => by
    obtain ⟨o, ho, rfl⟩ := List.mem_map.1 hx
    exact List.mem_map.2 ⟨o, h.sub o ho, rfl⟩
  simpa using this
theorem CpS.keep {w : World} {S : List ObjD} {p2 b bud U least : Nat} {wr w' : World} {T : List ObjD} {bo : Nat → Nat} {A : Nat → Option Addr} {c : Nat → Nat} {k r : Nat} (h : CpS w S p2 b bud U least wr T bo A c k) (hc : Chg (fun q t => q = r ∧ t = 0) wr w') (hr : r ≠ b) (hrw : w.heap.size ≤ r) : CpS w S p2 b bud U least w' T bo A c k :=
  ⟨h.map.keep hc fun hm => hr hm.1.symm, h.le, h.sub, h.nd, fun o ho => by
    obtain ⟨A', c', k1, k2, k3, k4, k5, k6⟩ := h.obj o ho
    exact ⟨A', c', hc.blk k1 fun hm => absurd hm.2 (by decide), k2.keep1 hc (fun _ _ hm => absurd hm.2 (by decide)) fun _ _ h => h, k3.keep1 hc (fun _ _ hm => absurd hm.2 (by decide)) fun _ _ h => h, fun g hg => ⟨(k4 g hg).1, Nat.lt_of_lt_of_le (k4 g hg).2 hc.size⟩, fun g hg => ⟨(k5 g hg).1, Nat.lt_of_lt_of_le (k5 g hg).2 hc.size⟩, ⟨k6.1, Nat.lt_of_lt_of_le k6.2 hc.size⟩⟩, h.dist, hc.blk h.blk fun hm => absurd hm.2 (by decide), h.ge, h.chg.trans_new hc fun q t hq hm => by have := hm.1; omega⟩
/-- One object more has been copied. -/
theorem CpS.step {w : World} {S : List ObjD} {p2 b bud U least : Nat} {wr w7 w8 : World} {T : List ObjD} {bo : Nat → Nat} {A : Nat → Option Addr} {c : Nat → Nat} {k cnt : Nat} {o : ObjD} {A1 A2 : Option Addr} {c1 c2 bx : Nat} (h : CpS w S p2 b bud U least wr T bo A c k) (ho : o ∈ S) (hT : findO T (o.name : Int) = none) (h7 : Chg (fun _ _ => False) wr w7)
    (hbx : Blk w7 bx 78 #[.slice A1 o.cells.length c1, .slice A2 o.refs.length c2]) (hbg : wr.heap.size ≤ bx) (r1 : RowR wr.heap.size 44 1 U64V w7 A1 c1 o.cells) (r2 : RowR wr.heap.size 4 1 BooV w7 A2 c2 o.refs)
    (hm8 : IMap w8 b (k + 1) cnt (updI (fun x => (findO T x).map fun o => .pointer (some ⟨bo o.name, 0, none⟩)) (o.name : Int) (.pointer (some ⟨bx, 0, none⟩)))) (hcnt : cnt = T.length + 1) (h8 : Chg (fun q t => q = b ∧ t = 0) w7 w8) :
    CpS w S p2 b bud U least w8 (o :: T) (fun n => if n = o.name then bx else bo n) (fun n => if n = o.name then A1 else A n) (fun n => if n = o.name then c1 else c n) (k + 1) := by
  have hne : ∀ x ∈ T, x.name ≠ o.name := fun x hx he => by
    have := findO_isSome.2 ⟨x, hx, show (x.name : Int) = (o.name : Int) by omega⟩
    rw [hT] at this
    cases this
  have hsz := h7.size
  have hsz8 := h8.size
  have hwr := h.chg.size
  have hold : ∀ x ∈ T, ∀ g, OwnB (A x.name) x.cells.length (c x.name) g → g < wr.heap.size := fun x hx g hg => by
    obtain ⟨A', c', _, k2, _⟩ := h.obj x hx
    exact (k2.own_in hg).2
  refine ⟨?_, Nat.succ_le_succ h.le, fun x hx => ?_, ?_, fun x hx => ?_, fun x hx x' hx' g h1 h2 => ?_, ?_, h.ge, ?_⟩
  · subst hcnt
    refine hm8.ext fun s _ => ?_
    rw [findO_cons]
    by_cases he : (o.name : Int) = s
    · subst he
      rw [updI_same, if_pos rfl]
      simp
    · rw [updI_other _ _ (Ne.symm he), if_neg he]
      cases hf : findO T s with
      | none => rfl
      | some x =>
        simp only [Option.map_some]
        rw [if_neg (hne x (findO_mem hf).1)]
  · rcases List.mem_cons.1 hx with rfl | hx
    · exact ho
    · exact h.sub x hx
  · rw [List.map_cons, List.nodup_cons]
    refine ⟨fun hm => ?_, h.nd⟩
    obtain ⟨x, hx, he⟩ := List.mem_map.1 hm
    exact hne x hx he
  · rcases List.mem_cons.1 hx with rfl | hx
    · simp only [if_true]
      exact ⟨A2, c2, h8.blk hbx fun hm => absurd hm.2 (by decide), (r1.keep h8 (fun _ _ hm => absurd hm.2 (by decide)) fun _ _ h => h).rebase (Nat.zero_le _), (r2.keep h8 (fun _ _ hm => absurd hm.2 (by decide)) fun _ _ h => h).rebase (Nat.zero_le _), fun g hg => by have := r1.own_in hg; omega, fun g hg => by have := r2.own_in hg; omega, by have := hbx.lt; omega⟩
    · simp only [if_neg (hne x hx)]
      obtain ⟨A', c', k1, k2, k3, k4, k5, k6⟩ := h.obj x hx
      have hc : Chg (fun q t => q = b ∧ t = 0) wr w8 := h7.no.trans h8
      exact ⟨A', c', hc.blk k1 fun hm => absurd hm.2 (by decide), k2.keep1 hc (fun _ _ hm => absurd hm.2 (by decide)) fun _ _ h => h, k3.keep1 hc (fun _ _ hm => absurd hm.2 (by decide)) fun _ _ h => h, fun g hg => by have := k4 g hg; omega, fun g hg => by have := k5 g hg; omega, by omega⟩
  · rcases List.mem_cons.1 hx with he | hxT <;> rcases List.mem_cons.1 hx' with he' | hxT'
    · rw [he, he']
    · simp only [he, if_true] at h1
      simp only [if_neg (hne x' hxT')] at h2
      have := hold x' hxT' g h2
      have := (r1.own_in h1).1
      omega
    · simp only [he', if_true] at h2
      simp only [if_neg (hne x hxT)] at h1
      have := hold x hxT g h1
      have := (r1.own_in h2).1
      omega
    · simp only [if_neg (hne x hxT)] at h1
      simp only [if_neg (hne x' hxT')] at h2
      exact h.dist x hxT x' hxT' g h1 h2
  · exact h8.blk (h7.blk h.blk id) fun hm => absurd hm.2 (by decide)
  · exact (h.chg.trans h7).trans_new h8 fun q t hq hm => by have := hm.1; have := h.ge.1; omega
/-- All have been copied. -/
theorem CpS.done {w : World} {S : List ObjD} {p2 b bud least : Nat} {wr : World} {T : List ObjD} {bo : Nat → Nat} {A : Nat → Option Addr} {c : Nat → Nat} {k : Nat} (h : CpS w S p2 b bud (usedO S) least wr T bo A c k) (hg : GoodO S) (hroom : usedO S ≤ bud ∧ bud ≤ 65536) (hlow : 1 ≤ least ∧ ∀ i : Nat, 1 ≤ i → i < least → (findO S i).isSome = true)
    (hall : ∀ z, I64 z → (findO S z).isSome = true → (findO T z).isSome = true) : HpI (fun q => w.heap.size ≤ q ∧ q < wr.heap.size) wr p2 b k T.length bo A c S bud least := by
  have hfT : ∀ o ∈ S, findO T (o.name : Int) = some o := fun o ho => by
    have htop := hg.top o ho
    have h1 := hall (o.name : Int) (by unfold I64; omega) (findO_isSome.2 ⟨o, ho, rfl⟩)
    obtain ⟨x, hx⟩ := Option.isSome_iff_exists.1 h1
    obtain ⟨h2, h3⟩ := findO_mem hx
    have h4 := findO_some hg.sorted (h.sub x h2)
    rw [h3, findO_some hg.sorted ho] at h4
    injection h4 with h4
    rw [hx, h4]
  have hmT : ∀ o ∈ S, o ∈ T := fun o ho => (findO_mem (hfT o ho)).1
  refine ⟨h.blk, h.map.ext fun s hs => ?_, fun o ho => h.obj o (hmT o ho), fun o ho o' ho' => h.dist o (hmT o ho) o' (hmT o' ho'), ⟨⟨h.ge.2, h.blk.lt⟩, ⟨h.ge.1, h.map.lt⟩⟩, fun q hq => hq.2, hg, hlow, hroom⟩
  congr 1
  cases hf : findO S s with
  | some o =>
    obtain ⟨h1, h2⟩ := findO_mem hf
    rw [← h2]
    exact hfT o h1
  | none =>
    refine findO_none fun x hx he => ?_
    have := findO_isSome.2 ⟨x, h.sub x hx, he⟩
    rw [hf] at this
    cases this
set_option maxRecDepth 100000 in
set_option maxHeartbeats 8000000 in
theorem hcopy_any (G : Nat → Prop) (w : World) (p m n cnt : Nat) (bo : Nat → Nat) (A : Nat → Option Addr) (c : Nat → Nat) (S : List ObjD) (bud least : Nat) (h : HpI G w p m n cnt bo A c S bud least) :
    Calls Try.prog 27 #[.pointer (some ⟨p, 0, none⟩)] w fun e w' => ∃ p2 G', e = .returned (.pointer (some ⟨p2, 0, none⟩)) ∧ HpR G' w' p2 65536 S bud ∧ (∀ b, G' b → w.heap.size ≤ b) ∧ Chg (fun _ _ => False) w w' := by
  have hS6 : S.length ≤ 65536 := Nat.le_trans (len_le_used S) (Nat.le_trans h.room.1 h.room.2)
  obtain ⟨U, hU⟩ : ∃ U, usedO S = U := ⟨_, rfl⟩
  have HH0 := Lib.hid h
  have HH : Hid (Blk w p 75 #[.map (some m), .int .i64 (bud : Int), .int .i64 (U : Int), .int .i64 (least : Int)]) := by have := h.blk; rw [hU] at this; exact Lib.hid this
  have HU := Lib.hid hU
  clear h hU
  go_enter Try.func27, Try.ntmps27
  go_wp2_with fail
  have hdr := (Chg.refl (fun _ _ => False) w).drew
  refine wp_region_facts [(0, 8), (1, 9), (2, 10), (3, 11), (4, 12), (5, 13), (6, 14), (7, 15), (8, 16), (9, 17), (10, 18), (11, 19), (12, 20), (13, 21), (14, 22), (15, 3)] [] (cpF p bud U least w.heap.size) (by kernel_rfl) (by kernel_rfl) cpF_dep cpF_mono (ops_cons (OpF.run rfl rfl fun _ w' H => by
  exact ⟨_, _, exec_mkM, ⟨_, rfl, Nat.le_trans hdr.size H.chg.size, IMap.made w'⟩, chg_alloc _ _⟩) (ops_cons (OpF.run rfl rfl fun _ w' H => by
  exact ⟨_, w', exec_mv (.tmp 0), H.same 0 (by kernel_rfl), Chg.refl _ _⟩) (ops_cons (OpF.run rfl rfl fun _ w' H => by
  obtain ⟨r1, h1⟩ := H.fact 1 (by kernel_rfl)
  have h1 := factH (p := fun u => u = .pointer (some ⟨p, 0, none⟩)) (k := 1) (d := 9) h1 (by kernel_rfl)
  exact ⟨_, w', exec_nc (.tmp 9) h1, rfl, Chg.refl _ _⟩) (ops_cons (OpF.run rfl rfl fun _ w' H => by
  obtain ⟨r2, h2⟩ := H.fact 2 (by kernel_rfl)
  have h2 := factH (p := fun u => u = .pointer (some ⟨p, 0, none⟩)) (k := 2) (d := 10) h2 (by kernel_rfl)
  exact ⟨_, w', exec_fa1 (.tmp 10) h2, rfl, Chg.refl _ _⟩) (ops_cons (OpF.run rfl rfl fun _ w' H => by
  obtain ⟨r3, h3⟩ := H.fact 3 (by kernel_rfl)
  have h3 := factH (p := fun u => u = .pointer (some ⟨p, 1, none⟩)) (k := 3) (d := 11) h3 (by kernel_rfl)
  exact ⟨_, w', exec_ldI (.tmp 11) h3 (by simpa using ((hdr.trans H.chg).blk HH.out id).cell 1), rfl, Chg.refl _ _⟩) (ops_cons (OpF.run rfl rfl fun _ w' H => by
  exact ⟨_, w', exec_mv (.tmp 0), H.same 0 (by kernel_rfl), Chg.refl _ _⟩) (ops_cons (OpF.run rfl rfl fun _ w' H => by
  obtain ⟨r5, h5⟩ := H.fact 5 (by kernel_rfl)
  have h5 := factH (p := fun u => u = .pointer (some ⟨p, 0, none⟩)) (k := 5) (d := 13) h5 (by kernel_rfl)
  exact ⟨_, w', exec_nc (.tmp 13) h5, rfl, Chg.refl _ _⟩) (ops_cons (OpF.run rfl rfl fun _ w' H => by
  obtain ⟨r6, h6⟩ := H.fact 6 (by kernel_rfl)
  have h6 := factH (p := fun u => u = .pointer (some ⟨p, 0, none⟩)) (k := 6) (d := 14) h6 (by kernel_rfl)
  exact ⟨_, w', exec_fa2 (.tmp 14) h6, rfl, Chg.refl _ _⟩) (ops_cons (OpF.run rfl rfl fun _ w' H => by
  obtain ⟨r7, h7⟩ := H.fact 7 (by kernel_rfl)
  have h7 := factH (p := fun u => u = .pointer (some ⟨p, 2, none⟩)) (k := 7) (d := 15) h7 (by kernel_rfl)
  exact ⟨_, w', exec_ldI (.tmp 15) h7 (by simpa using ((hdr.trans H.chg).blk HH.out id).cell 2), rfl, Chg.refl _ _⟩) (ops_cons (OpF.run rfl rfl fun _ w' H => by
  exact ⟨_, w', exec_mv (.tmp 0), H.same 0 (by kernel_rfl), Chg.refl _ _⟩) (ops_cons (OpF.run rfl rfl fun _ w' H => by
  obtain ⟨r9, h9⟩ := H.fact 9 (by kernel_rfl)
  have h9 := factH (p := fun u => u = .pointer (some ⟨p, 0, none⟩)) (k := 9) (d := 17) h9 (by kernel_rfl)
  exact ⟨_, w', exec_nc (.tmp 17) h9, rfl, Chg.refl _ _⟩) (ops_cons (OpF.run rfl rfl fun _ w' H => by
  obtain ⟨r10, h10⟩ := H.fact 10 (by kernel_rfl)
  have h10 := factH (p := fun u => u = .pointer (some ⟨p, 0, none⟩)) (k := 10) (d := 18) h10 (by kernel_rfl)
  exact ⟨_, w', exec_fa3 (.tmp 18) h10, rfl, Chg.refl _ _⟩) (ops_cons (OpF.run rfl rfl fun _ w' H => by
  obtain ⟨r11, h11⟩ := H.fact 11 (by kernel_rfl)
  have h11 := factH (p := fun u => u = .pointer (some ⟨p, 3, none⟩)) (k := 11) (d := 19) h11 (by kernel_rfl)
  exact ⟨_, w', exec_ldI (.tmp 19) h11 (by simpa using ((hdr.trans H.chg).blk HH.out id).cell 3), rfl, Chg.refl _ _⟩) (ops_cons (OpF.run rfl rfl fun _ w' H => by
  obtain ⟨r0, h0⟩ := H.fact 0 (by kernel_rfl)
  obtain ⟨b, h0, k0, k1⟩ := h0
  have h0 := factH (p := fun u => u = .map (some b)) (k := 0) (d := 8) h0 (by kernel_rfl)
  obtain ⟨r4, h4⟩ := H.fact 4 (by kernel_rfl)
  have h4 := factH (p := fun u => u = .int .i64 (bud : Int)) (k := 4) (d := 12) h4 (by kernel_rfl)
  obtain ⟨r8, h8⟩ := H.fact 8 (by kernel_rfl)
  have h8 := factH (p := fun u => u = .int .i64 (U : Int)) (k := 8) (d := 16) h8 (by kernel_rfl)
  obtain ⟨r12, h12⟩ := H.fact 12 (by kernel_rfl)
  have h12 := factH (p := fun u => u = .int .i64 (least : Int)) (k := 12) (d := 20) h12 (by kernel_rfl)
  exact ⟨_, w', exec_bdH (.tmp 8) (.tmp 12) (.tmp 16) (.tmp 20) h0 h4 h8 h12, ⟨_, rfl, k0, k1⟩, Chg.refl _ _⟩) (ops_cons (OpF.run rfl rfl fun _ w' H => by
  obtain ⟨r13, h13⟩ := H.fact 13 (by kernel_rfl)
  obtain ⟨b, h13, k0, k1⟩ := h13
  have h13 := factH (p := fun u => u = .agg #[.map (some b), .int .i64 (bud : Int), .int .i64 (U : Int), .int .i64 (least : Int)]) (k := 13) (d := 21) h13 (by kernel_rfl)
  exact ⟨_, _, exec_bxH (.tmp 21) h13, ⟨_, _, rfl, k0, Nat.le_trans hdr.size H.chg.size, k1.keep (chg_alloc _ _) id, Blk.new w' 75 _⟩, chg_alloc _ _⟩) (ops_cons (OpF.run rfl rfl fun _ w' H => by
  obtain ⟨r14, h14⟩ := H.fact 14 (by kernel_rfl)
  obtain ⟨b, g, h14, k0, k1, k2, k3⟩ := h14
  have h14 := factH (p := fun u => u = .pointer (some ⟨g, 0, none⟩)) (k := 14) (d := 22) h14 (by kernel_rfl)
  exact ⟨_, w', exec_asg (.tmp 22), ⟨b, g, h14, k0, k1, k2, k3⟩, Chg.refl _ _⟩) ops_nil)))))))))))))))) ?_
  intro pp u r w1 hu _ _ hcw
  obtain ⟨b, p2, e15, hbge, hpge, hm1, hb1⟩ := hu (15, 3) (by simp)
  have e15 : u 15 = _ := e15
  clear hu
  simp only [List.filter_nil, List.append_nil, putL, Act.put, List.setIfInBounds_toArray, List.set_cons_zero, List.set_cons_succ]
  rw [e15]
  clear e15
  have hc1 := hdr.trans hcw
  refine ⟨by kernel_rfl, ?_⟩
  have hst : CpS w S p2 b bud U least w1 [] (fun _ => 0) (fun _ => none) (fun _ => 0) 0 := ⟨hm1.ext fun s _ => rfl, Nat.le_refl _, fun o ho => (by cases ho), List.nodup_nil, fun o ho => (by cases ho), fun o ho => (by cases ho), hb1, ⟨hbge, hpge⟩, hc1⟩
  have hH1 := HH0.out.keep hc1 fun _ _ _ => id
  have x0 : w1.cell? ⟨p, 0, none⟩ = some (.map (some m)) := by simpa using hH1.blk.cell 0
  obtain ⟨D0, hown, hhas, hat0, hsz⟩ := hH1.map
  have hmlt : m < w.heap.size := HH0.out.lt m HH0.out.own.2
  have hblt := hm1.lt
  have HS := Lib.hid (And.intro hst (And.intro hhas (And.intro hat0 (And.intro hmlt hblt))))
  clear hdr hcw hm1 hb1 hc1 hst hH1 hhas hat0 hsz hmlt hblt hbge hpge
  go_wp2_with (at_range; go_must (refine wpList_range_own _ rfl _ 73 rfl 3 _ int_law Try.underlying73 heldE m n D0 rfl hown ?_))
  intro w2 hrg hgr hs2
  have hcr : Chg (fun _ _ => False) w1 w2 := (Chg.refl (fun _ _ => False) w1).grown hgr fun g o hg _ => (by cases hg)
  obtain ⟨r0, hr0⟩ : ∃ r0, w1.heap.size = r0 := ⟨_, rfl⟩
  rw [hr0] at hrg hs2
  have hst2 : CpS w S p2 b bud U least w2 [] (fun _ => 0) (fun _ => none) (fun _ => 0) 0 := HS.out.1.keep (r := r0) hcr.no (by have := HS.out.2.2.2.2; omega) (by have := HS.out.1.chg.size; omega)
  have hlk0 : ∀ z, I64 z → (has D0 (keyI z) = true ↔ (findO S z).isSome = true ∧ findO [] z = none) := fun z hz => by
    rw [HS.out.2.1 z hz]
    simp [findO]
  have hr0' : b < r0 ∧ w.heap.size ≤ r0 ∧ m < w.heap.size := by have := HS.out.2.2.2.2; have := HS.out.1.chg.size; have := HS.out.2.2.2.1; omega
  have H2 := Lib.hid (And.intro hrg (And.intro hst2 (And.intro hlk0 hr0')))
  simp only [hr0]
  clear hrg hgr hs2 hcr hr0 hst2 hlk0 hr0' x0 hown
  go_wp2_with fail
  go_loopw [4] (fun _ wr => ∃ (T : List ObjD) (bo' : Nat → Nat) (A' : Nat → Option Addr) (c' : Nat → Nat) (k : Nat) (left : Lit → Bool) (cn : Nat), wr.ranges Try.prog 3 heldE m r0 n D0 left cn ∧ CpS w S p2 b bud U least wr T bo' A' c' k ∧ ∀ z, I64 z → (left (keyI z) = true ↔ (findO S z).isSome = true ∧ findO T z = none)) (fun _ wr => wr.rangeLeft m r0)
  case atStart => exact ⟨[], _, _, _, 0, _, _, H2.out.1, H2.out.2.1, H2.out.2.2.1⟩
  case round =>
    obtain ⟨T, bo', A', c', k, left, cn, hrg, hcs, hlk⟩ := hrel
    have hmeas := hrg.left_eq
    have H3 := Lib.hid (And.intro hcs (And.intro hlk hmeas))
    clear hcs hlk hmeas
    go_wp2_with (at_next; go_must (refine wpList_next_ranges _ rfl _ rfl 3 int_law heldE (Value.int .i64) id (fun key kl hk => by obtain ⟨x, rfl, _⟩ := Maps.keyOf_int_inv Try.underlying3 hk; exact ⟨x, rfl⟩) (fun v _ _ => ⟨v, rfl⟩) m r0 n D0 left cn rfl hrg ?_ ?_))
    · intro hc0 hl0
      have HE := Lib.hid hl0
      clear hc0 hl0 hrg
      go_wp2_with fail
      go_ret
      have hU := HU.out
      subst hU
      refine ⟨p2, _, rfl, (H3.out.1.done HH0.out.good HH0.out.room HH0.out.low fun z hz hf => ?_).r (Nat.le_trans H3.out.1.le (Nat.le_trans H3.out.1.len hS6)), fun q hq => hq.1, H3.out.1.chg⟩
      cases hfT : findO T z with
      | some x => rfl
      | none =>
        have h1 := (H3.out.2.1 z hz).2 ⟨hf, hfT⟩
        rw [HE.out] at h1
        cases h1
    · intro x v kl y1 y2 w' cn' hkey hlx hv hat hrg' hlt hgs hs hen
      obtain ⟨x', e1, rfl, hwf⟩ := Maps.keyOf_int_inv Try.underlying3 hkey
      cases e1
      have hxI : I64 x := by
        unfold I64
        simp [Lit.wf, IntKind.min, IntKind.max, IntKind.bits, IntKind.signed] at hwf
        omega
      obtain ⟨hfS, hfT⟩ := (H3.out.2.1 x hxI).1 hlx
      obtain ⟨o, hf⟩ := Option.isSome_iff_exists.1 hfS
      obtain ⟨hoS, hox⟩ := findO_mem hf
      -- the element is the object's pointer
      have hvp : v = .pointer (some ⟨bo o.name, 0, none⟩) := by
        have h1 := hat (.held v)
        have h2 := HS.out.2.2.1 x hxI (.held v)
        rw [hf] at h2
        simp only [Option.map_some] at h2
        have h3 := held_inv (v := v) (z := v) (d := y1) (ps := y2) hv
        have h4 : DataW.held (Value.pointer (some ⟨bo o.name, 0, none⟩)) = DataW.held v := h2.symm.trans (h1.trans h3)
        exact (DataW.held.inj h4).symm
      have hch : Chg (fun q t => q = r0 ∧ t = 0) wr w' := (Chg.refl _ wr).grown hgs fun g ob hg hob => by
        injection hg with hg
        subst hg
        obtain ⟨es, clock, since, seen, c0, _, _, _, _, hr, _⟩ := hrg
        rw [hr] at hob
        injection hob with hob
        subst hob
        exact ⟨rfl, rfl⟩
      obtain ⟨q1, q2, q3⟩ := H2.out.2.2.2
      have hcs' := H3.out.1.keep hch (by omega) q2
      have hHw := HH0.out.keep hcs'.chg fun _ _ _ => id
      obtain ⟨RA, rc, hbo, hrc, hrr, _⟩ := hHw.obj o hoS
      have hcl := used_ge hoS
      have hrm := HH0.out.room
      have hoc : o.cells.length ≤ 65536 := by omega
      have hor : o.refs.length ≤ 65536 := by rw [HH0.out.good.len o hoS]; exact hoc
      obtain ⟨bs, hbs⟩ : ∃ bs, bo o.name = bs := ⟨_, rfl⟩
      obtain ⟨CA, hCA⟩ : ∃ CA, A o.name = CA := ⟨_, rfl⟩
      obtain ⟨cc, hcc⟩ : ∃ cc, c o.name = cc := ⟨_, rfl⟩
      rw [hbs] at hvp hbo
      rw [hCA, hcc] at hbo hrc
      subst hvp
      have HB0 := Lib.hid (And.intro hbo (And.intro hrc hrr))
      have H4 := Lib.hid (And.intro hrg' (And.intro hlt (And.intro hcs' (And.intro hoS (And.intro hox (And.intro hfT (And.intro hxI hs)))))))
      clear hkey hlx hv hat hrg' hlt hgs hs hwf hch hcs' hHw hbo hrc hrr hcl hrm hbs hCA hcc hfS hfT hf hoS hox hxI hrg q1 q2 q3
      go_wp2_with fail
      have hdr := (Chg.refl (fun _ _ => False) w').drew
      have HB := Lib.hid (And.intro H4.out.2.2.1.blk HB0.out)
      refine wp_region_facts [(0, 33), (1, 34), (2, 35), (3, 36), (4, 37), (5, 38), (6, 39), (7, 40), (8, 41), (9, 42), (10, 43), (11, 44), (12, 45), (13, 46), (14, 47), (15, 48), (16, 49)] [] (cyF p2 b x bs o CA cc RA rc w'.heap.size) (by kernel_rfl) (by kernel_rfl) cyF_dep cyF_mono (ops_cons (OpF.run rfl rfl fun _ w' H => by
        exact ⟨_, w', exec_mv (.tmp 3), H.same 3 (by kernel_rfl), Chg.refl _ _⟩) (ops_cons (OpF.run rfl rfl fun _ w' H => by
        obtain ⟨r0, h0⟩ := H.fact 0 (by kernel_rfl)
        have h0 := factH (p := fun u => u = .pointer (some ⟨p2, 0, none⟩)) (k := 0) (d := 33) h0 (by kernel_rfl)
        exact ⟨_, w', exec_nc (.tmp 33) h0, rfl, Chg.refl _ _⟩) (ops_cons (OpF.run rfl rfl fun _ w' H => by
        obtain ⟨r1, h1⟩ := H.fact 1 (by kernel_rfl)
        have h1 := factH (p := fun u => u = .pointer (some ⟨p2, 0, none⟩)) (k := 1) (d := 34) h1 (by kernel_rfl)
        exact ⟨_, w', exec_fa0 (.tmp 34) h1, rfl, Chg.refl _ _⟩) (ops_cons (OpF.run rfl rfl fun _ w' H => by
        obtain ⟨r2, h2⟩ := H.fact 2 (by kernel_rfl)
        have h2 := factH (p := fun u => u = .pointer (some ⟨p2, 0, none⟩)) (k := 2) (d := 35) h2 (by kernel_rfl)
        exact ⟨_, w', exec_ldM (.tmp 35) h2 (by simpa using ((hdr.trans H.chg).blk HB.out.1 id).cell 0), rfl, Chg.refl _ _⟩) (ops_cons (OpF.run rfl rfl fun _ w' H => by
        exact ⟨_, w', exec_mv (.tmp 4), H.same 4 (by kernel_rfl), Chg.refl _ _⟩) (ops_cons (OpF.run rfl rfl fun _ w' H => by
        exact ⟨_, w', exec_mv (.tmp 5), H.same 5 (by kernel_rfl), Chg.refl _ _⟩) (ops_cons (OpF.run rfl rfl fun _ w' H => by
        obtain ⟨r5, h5⟩ := H.fact 5 (by kernel_rfl)
        have h5 := factH (p := fun u => u = .pointer (some ⟨bs, 0, none⟩)) (k := 5) (d := 38) h5 (by kernel_rfl)
        exact ⟨_, w', exec_nc (.tmp 38) h5, rfl, Chg.refl _ _⟩) (ops_cons (OpF.run rfl rfl fun _ w' H => by
        obtain ⟨r6, h6⟩ := H.fact 6 (by kernel_rfl)
        have h6 := factH (p := fun u => u = .pointer (some ⟨bs, 0, none⟩)) (k := 6) (d := 39) h6 (by kernel_rfl)
        exact ⟨_, w', exec_faO0 (.tmp 39) h6, rfl, Chg.refl _ _⟩) (ops_cons (OpF.run rfl rfl fun _ w' H => by
        obtain ⟨r7, h7⟩ := H.fact 7 (by kernel_rfl)
        have h7 := factH (p := fun u => u = .pointer (some ⟨bs, 0, none⟩)) (k := 7) (d := 40) h7 (by kernel_rfl)
        exact ⟨_, w', exec_ldU (.tmp 40) h7 (by simpa using ((hdr.trans H.chg).blk HB.out.2.1 id).cell 0), rfl, Chg.refl _ _⟩) (ops_cons (OpF.call rfl rfl fun _ w' H => by
        obtain ⟨r8, h8⟩ := H.fact 8 (by kernel_rfl)
        have h8 := factH (p := fun u => u = .slice CA o.cells.length cc) (k := 8) (d := 41) h8 (by kernel_rfl)
        exact ⟨_, _, exec_cl _ _ _ (cloneU_enters w'), by rw [h8]; exact (cloneU_any w'.heap.size w' o.cells CA cc (((row_keepF HB.out.2.2.1 (hdr.trans H.chg) fun _ _ h => h).slr (by decide) 0).settle fun _ _ h => h) (by omega)).mono fun e w2' ⟨A, c, he, hrow, hc⟩ => ⟨_, he, ⟨_, _, rfl, hrow.rebase (Nat.le_trans hdr.size H.chg.size)⟩, hc⟩⟩) (ops_cons (OpF.run rfl rfl fun _ w' H => by
        exact ⟨_, w', exec_mv (.tmp 5), H.same 5 (by kernel_rfl), Chg.refl _ _⟩) (ops_cons (OpF.run rfl rfl fun _ w' H => by
        obtain ⟨r10, h10⟩ := H.fact 10 (by kernel_rfl)
        have h10 := factH (p := fun u => u = .pointer (some ⟨bs, 0, none⟩)) (k := 10) (d := 43) h10 (by kernel_rfl)
        exact ⟨_, w', exec_nc (.tmp 43) h10, rfl, Chg.refl _ _⟩) (ops_cons (OpF.run rfl rfl fun _ w' H => by
        obtain ⟨r11, h11⟩ := H.fact 11 (by kernel_rfl)
        have h11 := factH (p := fun u => u = .pointer (some ⟨bs, 0, none⟩)) (k := 11) (d := 44) h11 (by kernel_rfl)
        exact ⟨_, w', exec_faO1' (.tmp 44) h11, rfl, Chg.refl _ _⟩) (ops_cons (OpF.run rfl rfl fun _ w' H => by
        obtain ⟨r12, h12⟩ := H.fact 12 (by kernel_rfl)
        have h12 := factH (p := fun u => u = .pointer (some ⟨bs, 1, none⟩)) (k := 12) (d := 45) h12 (by kernel_rfl)
        exact ⟨_, w', exec_ldB (.tmp 45) h12 (by simpa using ((hdr.trans H.chg).blk HB.out.2.1 id).cell 1), rfl, Chg.refl _ _⟩) (ops_cons (OpF.call rfl rfl fun _ w' H => by
        obtain ⟨r13, h13⟩ := H.fact 13 (by kernel_rfl)
        have h13 := factH (p := fun u => u = .slice RA o.refs.length rc) (k := 13) (d := 46) h13 (by kernel_rfl)
        exact ⟨_, _, exec_cl _ _ _ (cloneB_enters w'), by rw [h13]; exact (cloneBB_any w'.heap.size w' o.refs RA rc (((row_keepF HB.out.2.2.2 (hdr.trans H.chg) fun _ _ h => h).slr (by decide) 0).settle fun _ _ h => h) (by omega)).mono fun e w2' ⟨A, c, he, hrow, hc⟩ => ⟨_, he, ⟨_, _, rfl, hrow.rebase (Nat.le_trans hdr.size H.chg.size)⟩, hc⟩⟩) (ops_cons (OpF.run rfl rfl fun _ w' H => by
        obtain ⟨r9, h9⟩ := H.fact 9 (by kernel_rfl)
        obtain ⟨A1, c1, h9, k9⟩ := h9
        have h9 := factH (p := fun v => v = .slice A1 o.cells.length c1) (k := 9) (d := 42) h9 (by kernel_rfl)
        obtain ⟨r14, h14⟩ := H.fact 14 (by kernel_rfl)
        obtain ⟨A2, c2, h14, k14⟩ := h14
        have h14 := factH (p := fun v => v = .slice A2 o.refs.length c2) (k := 14) (d := 47) h14 (by kernel_rfl)
        exact ⟨_, w', exec_bd (.tmp 42) (.tmp 47) h9 h14, ⟨_, _, _, _, rfl, k9, k14⟩, Chg.refl _ _⟩) (ops_cons (OpF.run rfl rfl fun _ w' H => by
        obtain ⟨r15, h15⟩ := H.fact 15 (by kernel_rfl)
        obtain ⟨A1, c1, A2, c2, h15, k9, k14⟩ := h15
        have h15 := factH (p := fun v => v = .agg #[.slice A1 o.cells.length c1, .slice A2 o.refs.length c2]) (k := 15) (d := 48) h15 (by kernel_rfl)
        exact ⟨_, _, exec_bx (.tmp 48) h15, ⟨_, _, _, _, _, rfl, Nat.le_trans hdr.size H.chg.size, Blk.new w' 78 _, row_keepF k9 (chg_alloc _ _) fun _ _ h => h, row_keepF k14 (chg_alloc _ _) fun _ _ h => h⟩, chg_alloc _ _⟩) ops_nil))))))))))))))))) ?_
      intro pp2 u2 r2 w7 hu _ _ hcw
      have e3 : u2 3 = _ := hu (3, 36) (by simp)
      have e4 : u2 4 = _ := hu (4, 37) (by simp)
      obtain ⟨bx, A1, c1, A2, c2, e16, hbx0, hbx, hr1, hr2⟩ := hu (16, 49) (by simp)
      have e16 : u2 16 = _ := e16
      clear hu
      simp only [List.filter_nil, List.append_nil, putL, Act.put, List.setIfInBounds_toArray, List.set_cons_zero, List.set_cons_succ]
      rw [e3, e4, e16]
      clear e3 e4 e16
      have hd7 := hdr.trans hcw
      obtain ⟨w8, hmu, hm8, hc8⟩ := (H4.out.2.2.1.map.keep hd7 id).put (t := 73) Try.underlying73 (by have := H4.out.2.2.1.le; have := H4.out.2.2.1.len; simp only [maxLen]; omega) H4.out.2.2.2.2.2.2.1 (.pointer (some ⟨bx, 0, none⟩))
      refine wpAny_ready (rs := [17]) (by kernel_rfl) (by simp) ?_
      refine AllReady.cons rfl (fun K hK => ?_) AllReady.nil
      go_simp
      refine hK _ _ ?_
      clear hK K hmu
      try simp only [Act.put, List.setIfInBounds_toArray, List.set_cons_zero, List.set_cons_succ]
      refine ⟨by kernel_rfl, ?_⟩
      obtain ⟨hrg', hlt, hcs', hoS, hox, hfT, hxI, hs⟩ := H4.out
      have hox' := hox
      subst hox'
      obtain ⟨q1, q2, q3⟩ := H2.out.2.2.2
      have hnew : CpS w S p2 b bud U least w8 (o :: T) _ _ _ (k + 1) := hcs'.step hoS hfT hd7 hbx hbx0 hr1 hr2 hm8 (by simp [hfT]) hc8
      have hrg8 := ranges_keep (ranges_keep hrg' hd7 id id) hc8 (fun hm => by have := hm.1; have := hcs'.ge.1; omega) (fun hm => by have := hm.1; omega)
      have hlk8 : ∀ z, I64 z → ((left (keyI z) && !(keyI z).sameKey (.int .i64 (o.name : Int))) = true ↔ (findO S z).isSome = true ∧ findO (o :: T) z = none) := fun z hz => by
        have h1 := H3.out.2.1 z hz
        rw [Bool.and_eq_true, h1, findO_cons]
        by_cases he : (o.name : Int) = z
        · subst he
          simp [keyI, Lit.sameKey]
        · have he' : ¬ z = (o.name : Int) := fun h => he h.symm
          simp [keyI, Lit.sameKey, he, he']
      have HZ := Lib.hid (And.intro hrg8 (And.intro hnew (And.intro hlk8 hlt)))
      clear hrg' hlt hcs' hoS hox hfT hxI hs hnew hrg8 hlk8 hm8 hc8 hd7 hcw hdr hbx0 hbx hr1 hr2 hen
      go_wp2_with fail
      go_roundw
      case rel => exact ⟨_, _, _, _, _, _, _, HZ.out.1, HZ.out.2.1, HZ.out.2.2.1⟩
      case measure =>
        rw [HZ.out.1.left_eq, H3.out.2.2]
        exact HZ.out.2.2.2
end Go.Proofs.Yteigopmdhhgnfaa
