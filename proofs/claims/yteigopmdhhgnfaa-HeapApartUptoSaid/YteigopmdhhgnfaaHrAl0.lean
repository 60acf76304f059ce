/-
  The reference's Alloc: its operations, the row of objects with one more.
-/
import Derived.Test.YteigopmdhhgnfaaHrColl
namespace Go.Proofs.Yteigopmdhhgnfaa
open Go.RowKit
set_option linter.unusedVariables false
set_option linter.unusedSimpArgs false

/-- An append onto an empty row without room: what is there stays. -/
theorem run_append_empty {P : Program} (w : World) (base : Nat) (t ty e : TypeId) (i : TypeInfo) (z : Value) (size bytes : Nat) (ht : P.underlying t = some (.slice e)) (hi : P.info? e = some i) (hz : i.zero = some z)
    (hsize : i.size = size) (hby : i.bytes = bytes) (hzs : z.cells.size = size) (hsz : 0 < size) (b5 : Nat) (hb5 : base ≤ b5) (hblk : Blk w b5 e #[])
    (B : Nat) (A : Option Addr) (m c : Nat) (news : List Value) (hr : Reads w B size A m news) (h1 : ∀ u ∈ news, u.oneCell' = true) (h63 : m ≤ 1099511627776) (hb : bytes ≤ 127) (hbase : base ≤ w.heap.size) :
    ∃ v' w', (Builtin.append_ #[t, t] ty #[.slice (some ⟨b5, 0, none⟩) 0 0, .slice A m c]).run P w = .ok v' w' ∧ w'.ownsRow base e size v' m news ∧ Chg (fun _ _ => False) w w' := by
  have hown : w.ownsRow base e size (.slice (some ⟨b5, 0, none⟩) 0 0) 0 [] := ⟨by simp, .inr ⟨b5, 0, #[], rfl, hb5, hblk, Nat.le_refl _, by simp [maxLen], by simp, by simp⟩⟩
  have hbn : m * bytes ≤ 1099511627776 * 127 := Nat.mul_le_mul h63 hb
  obtain ⟨v', w', hrun, h2, _, _⟩ := run_append_any (P := P) w base t ty e i z size bytes ht hi hz hsize hby hzs hsz _ 0 [] hown B A m c news hr h1 (by simp only [maxLen]; omega) (by rw [Nat.zero_add]; omega) hbase
  rw [Nat.zero_add, List.nil_append] at h2
  refine ⟨v', w', hrun, h2, ?_⟩
  rcases Nat.eq_zero_or_pos m with h0 | h0
  · subst h0
    have : (Builtin.append_ #[t, t] ty #[.slice (some ⟨b5, 0, none⟩) 0 0, .slice A 0 c]).run P w = .ok (.slice (some ⟨b5, 0, none⟩) 0 0) w := by
      cases A <;> simp [Builtin.append_, run_underlying ht, sizeOf, typeInfo, hi, Builtin.lenOf, Builtin.firstCells, loadCells, loadCellsFrom, storeCells]
    rw [this] at hrun
    injection hrun with _ hw
    subst hw
    exact Chg.refl _ _
  · obtain ⟨ad, hA, _, hc⟩ := hr.2 h0
    subst hA
    have := run_append_grow (P := P) w t ty e i z ht hi hz ⟨b5, 0, none⟩ 0 0 [] (by simp) (by simp) ad m c news (by rw [hsize]; exact hr.1) hc (by omega) (by omega) (by rw [Nat.zero_add, nextslicecap_zero h0, hby]; omega)
    rw [this] at hrun
    injection hrun with _ hw
    subst hw
    exact ((Chg.refl _ w).drew).alloc _
section
variable {a : Act} {w : World} {dst : Option Nat} {ty : TypeId} {pos : String} {af : Array Edge} {g : Option (Nat × Bool)}
theorem exec_faR1 (x : Operand) {b : Nat} (hx : a.eval x = .pointer (some ⟨b, 0, none⟩)) : (execOp a.eval { dst := dst, op := .fieldAddr 42 x 1, type := ty, pos := pos, after := af, guard := g }).run Try.prog w = .ok (.value (.pointer (some ⟨b, 1, none⟩))) w := by
  unfold execOp
  simp only [hx]
  go_simp
theorem exec_addI (x y : Operand) {i j : Int} (hx : a.eval x = .int .i64 i) (hy : a.eval y = .int .i64 j) (hb : I64 (i + j)) : (execOp a.eval { dst := dst, op := .binOp .add 3 x y 3, type := ty, pos := pos, after := af, guard := g }).run Try.prog w = .ok (.value (.int .i64 (i + j))) w := by
  have q : IntKind.i64.wrap (i + j) = i + j := IntWalk.i64_in _ hb
  clear hb
  unfold execOp
  simp only [hx, hy]
  go_simp
theorem exec_gtrI (x y : Operand) {i j : Int} (hx : a.eval x = .int .i64 i) (hy : a.eval y = .int .i64 j) : (execOp a.eval { dst := dst, op := .binOp .gtr 3 x y 3, type := ty, pos := pos, after := af, guard := g }).run Try.prog w = .ok (.value (.bool (decide (j < i)))) w := by
  unfold execOp
  simp only [hx, hy]
  go_simp
theorem exec_bs0 : (execOp a.eval { dst := dst, op := .buildSlice 23 0 #[], type := ty, pos := pos, after := af, guard := g }).run Try.prog w = .ok (.value (.slice (some ⟨w.heap.size, 0, none⟩) 0 0)) (w.alloc (.cells #[] 4)) := by
  unfold execOp
  go_simp
theorem exec_apB (x y : Operand) {A : Option Addr} {b5 c : Nat} {l : List Bool} (hx : a.eval x = .slice (some ⟨b5, 0, none⟩) 0 0) (hy : a.eval y = .slice A l.length c) {B0 : Nat} (hb5 : B0 ≤ b5) (hblk : Blk w b5 4 #[]) {B e : Nat} (hl : SlR B e 1 BoolV w (.slice A l.length c) l) (hn : l.length ≤ 1048576) (hB0 : B0 ≤ w.heap.size) :
    ∃ A' c' w', (execOp a.eval { dst := dst, op := Op.call { callee := .builtin .append, args := #[x, y], argTypes := #[23, 23] }, type := ty, pos := pos, after := af, guard := g }).run Try.prog w = .ok (.value (.slice A' l.length c')) w' ∧ RowR B0 4 1 BooV w' A' c' l ∧ Chg (fun _ _ => False) w w' := by
  obtain ⟨i0, hi0, hz0, hs0, hb0⟩ := info_parts infoBool
  obtain ⟨xss, h1, h2, h3, h4⟩ := hl.reads
  have honeF : ∀ u ∈ xss.flatten, u.oneCell' = true := by
    intro u hu
    obtain ⟨cs, hcs, hu⟩ := List.mem_flatten.1 hu
    obtain ⟨k, hk, hk2⟩ := List.mem_iff_getElem.1 hcs
    have hkl : k < l.length := by omega
    have := h3 k l[k] cs (List.getElem?_eq_getElem hkl) (by rw [List.getElem?_eq_getElem hk, hk2])
    unfold BoolV at this
    subst this
    simp at hu
    subst hu
    rfl
  obtain ⟨v', w', hrun, hown, hch⟩ := run_append_empty (P := Try.prog) w B0 23 ty 4 i0 _ 1 1 Try.underlying23 hi0 hz0 hs0 hb0 rfl (by omega) b5 hb5 hblk w.heap.size A l.length c xss.flatten h4 honeF (by omega) (by omega) hB0
  obtain ⟨A', c', rfl⟩ := own_form hown
  refine ⟨A', c', w', ?_, ⟨xss, hown, h1, h2, h3⟩, hch⟩
  unfold execOp
  simp only [resolve, invoke, builtin, Sem.run_bind, Sem.run_pure, Result.andThen_ok, List.map_toArray, List.map_cons, List.map_nil, hx, hy, hrun]
theorem exec_bd3 (x y z : Operand) {A B : Option Addr} {n c m d : Nat} {i : Int} (hx : a.eval x = .int .i64 i) (hy : a.eval y = .slice A n c) (hz : a.eval z = .slice B m d) : (execOp a.eval { dst := dst, op := .build 39 #[(0, x), (1, y), (2, z)], type := ty, pos := pos, after := af, guard := g }).run Try.prog w = .ok (.value (.agg #[.int .i64 i, .slice A n c, .slice B m d])) w := by
  generalize a.eval = E at hx hy hz ⊢
  unfold execOp
  simp [hx, hy, hz, go_sem, run_underlying Try.underlying39]
theorem exec_alO : (execOp a.eval { dst := dst, op := .alloc 39, type := ty, pos := pos, after := af, guard := g }).run Try.prog w = .ok (.value (.pointer (some ⟨w.heap.size, 0, none⟩))) (w.alloc (.cells #[.int .i64 0, .slice none 0 0, .slice none 0 0] 39)) := by
  unfold execOp
  go_simp
end
theorem rused_enters (w : World) (args : Array Value) : (callFunc 21 args).run Try.prog w = .ok (.enter 21 args) w := by
  simp [callFunc, Try.func21, go_sem]
  rw [if_neg (by decide +kernel), if_neg (fun h => by cases h)]
/-- What the operations of the test for room leave. -/
def romF (q U N : Nat) (FA : Option Addr) (fc bud : Nat) : Nat → (Nat → Value) → Nat × Nat → World → Prop
  | 0, u, _, _ => u 0 = .pointer (some ⟨q, 0, none⟩)
  | 1, u, _, _ => u 1 = .int .i64 (U : Int)
  | 2, u, _, _ => u 2 = .int .i64 ((U : Int) + 1)
  | 3, u, _, _ => u 3 = .slice FA N fc
  | 4, u, _, _ => u 4 = .int .i64 (N : Int)
  | 5, u, _, _ => u 5 = .int .i64 ((U : Int) + 1 + (N : Int))
  | 6, u, _, _ => u 6 = .pointer (some ⟨q, 0, none⟩)
  | 7, u, _, _ => u 7 = .pointer (some ⟨q, 0, none⟩)
  | 8, u, _, _ => u 8 = .pointer (some ⟨q, 1, none⟩)
  | 9, u, _, _ => u 9 = .int .i64 (bud : Int)
  | 10, u, _, _ => u 10 = .bool (decide ((bud : Int) < (U : Int) + 1 + (N : Int)))
  | _, _, _, _ => True
theorem romF_dep {q U N : Nat} {FA : Option Addr} {fc bud : Nat} {md : Region.Mode} {ops : Array Oper} (j : Nat) (val val' : Nat → Value) (r : Nat × Nat) (w : World) (h : val j = val' j) (hk : ∀ k, waitsB md ops j k = true → val k = val' k) (hF : romF q U N FA fc bud j val r w) : romF q U N FA fc bud j val' r w := by
  unfold romF at hF ⊢
  split at hF <;> first | (rw [← h]; exact hF) | trivial
theorem romF_mono {q U N : Nat} {FA : Option Addr} {fc bud : Nat} (j : Nat) (val : Nat → Value) (r : Nat × Nat) (w w' : World) (hc : Chg (fun _ _ => False) w w') (hF : romF q U N FA fc bud j val r w) : romF q U N FA fc bud j val r w' := by
  unfold romF at hF ⊢
  split at hF <;> first | exact hF | trivial
/-- What the operations that build the object leave. -/
def objF (k : Nat) (FA : Option Addr) (fc : Nat) (refs : List Bool) (B0 : Nat) : Nat → (Nat → Value) → Nat × Nat → World → Prop
  | 0, u, _, _ => u 0 = .int .i64 (k : Int)
  | 1, u, _, _ => u 1 = .int .i64 ((k : Int) + 1)
  | 2, u, _, _ => u 2 = .slice FA refs.length fc
  | 3, u, _, _ => u 3 = .int .i64 (refs.length : Nat)
  | 4, u, _, w => ∃ A c, u 4 = .slice A refs.length c ∧ RowR B0 44 1 U64V w A c (List.replicate refs.length 0)
  | 5, u, _, w => ∃ b, u 5 = .slice (some ⟨b, 0, none⟩) 0 0 ∧ B0 ≤ b ∧ Blk w b 4 #[]
  | 6, u, _, _ => u 6 = .slice FA refs.length fc
  | 7, u, _, w => ∃ A c, u 7 = .slice A refs.length c ∧ RowR B0 4 1 BooV w A c refs
  | 8, u, _, w => ∃ A c A' c', u 8 = .agg #[.int .i64 ((k : Int) + 1), .slice A refs.length c, .slice A' refs.length c'] ∧ RowR B0 44 1 U64V w A c (List.replicate refs.length 0) ∧ RowR B0 4 1 BooV w A' c' refs
  | 9, u, _, w => ∃ b, u 9 = .pointer (some ⟨b, 0, none⟩) ∧ B0 ≤ b ∧ Blk w b 39 #[.int .i64 0, .slice none 0 0, .slice none 0 0]
  | _, _, _, _ => True
theorem objF_dep {k : Nat} {FA : Option Addr} {fc : Nat} {refs : List Bool} {B0 : Nat} {md : Region.Mode} {ops : Array Oper} (j : Nat) (val val' : Nat → Value) (r : Nat × Nat) (w : World) (h : val j = val' j) (hk : ∀ k, waitsB md ops j k = true → val k = val' k) (hF : objF k FA fc refs B0 j val r w) : objF k FA fc refs B0 j val' r w := by
  unfold objF at hF ⊢
  split at hF <;> first | (rw [← h]; exact hF) | trivial
theorem objF_mono {k : Nat} {FA : Option Addr} {fc : Nat} {refs : List Bool} {B0 : Nat} (j : Nat) (val : Nat → Value) (r : Nat × Nat) (w w' : World) (hc : Chg (fun _ _ => False) w w') (hF : objF k FA fc refs B0 j val r w) : objF k FA fc refs B0 j val r w' := by
  unfold objF at hF ⊢
  split at hF
  case h_5 => obtain ⟨A, c, h1, h2⟩ := hF; exact ⟨A, c, h1, row_keepF h2 hc fun _ _ h => h⟩
  case h_6 => obtain ⟨b, h1, h2, h3⟩ := hF; exact ⟨b, h1, h2, hc.blk h3 id⟩
  case h_8 => obtain ⟨A, c, h1, h2⟩ := hF; exact ⟨A, c, h1, row_keepF h2 hc fun _ _ h => h⟩
  case h_9 => obtain ⟨A, c, A', c', h1, h2, h3⟩ := hF; exact ⟨A, c, A', c', h1, row_keepF h2 hc fun _ _ h => h, row_keepF h3 hc fun _ _ h => h⟩
  case h_10 => obtain ⟨b, h1, h2, h3⟩ := hF; exact ⟨b, h1, h2, hc.blk h3 id⟩
  all_goals exact hF
/-- The header of one object more. -/
def HdrT.put (h : HdrT) (n : Nat) (A : Option Addr) (c : Nat) (B : Option Addr) (d : Nat) : HdrT := ⟨fun k => if k = n then A else h.A k, fun k => if k = n then c else h.c k, fun k => if k = n then B else h.B k, fun k => if k = n then d else h.d k⟩
theorem XoR.put {h : HdrT} {n c d : Nat} {A B : Option Addr} {w : World} {cs : List Value} {x : ObjD} (hn : x.name ≠ n) : XoR (h.put n A c B d) w cs x ↔ XoR h w cs x := by
  unfold XoR HdrT.put
  simp only [if_neg hn]
theorem gap_names {S : List ObjD} (h : GoodO S) : ∀ o ∈ S, o.name ≠ gapS S + 1 := fun o ho he => by
  have h1 := gapS_free h.sorted h.pos
  rw [← he, findO_some h.sorted ho] at h1
  cases h1
theorem RDat.alloc {F : Nat → Prop} {w : World} {h : HdrT} {S : List ObjD} {refs : List Bool} {A B : Option Addr} {c d B0 : Nat} (hS : RDat F w h S) (hg : GoodO S) (hF : ∀ b, F b → b < B0) (r1 : RowR B0 44 1 U64V w A c (List.replicate refs.length 0)) (r2 : RowR B0 4 1 BooV w B d refs) :
    RDat (fun b => F b ∨ (B0 ≤ b ∧ b < w.heap.size)) w (h.put (gapS S + 1) A c B d) (allocO S refs) := by
  have hnm := gap_names hg
  refine ⟨fun x hx => ?_, fun o ho o' ho' g h1 h2 => ?_⟩
  · rcases alloc_mem.1 hx with rfl | hx
    · simp only [newX, HdrT.put, if_true]
      refine ⟨r1.rebase (Nat.zero_le _), r2.rebase (Nat.zero_le _), fun g hg => .inr (r1.own_in hg), fun g hg => .inr (r2.own_in hg)⟩
    · simp only [HdrT.put, if_neg (hnm x hx)]
      obtain ⟨k1, k2, k3, k4⟩ := hS.obj x hx
      exact ⟨k1, k2, fun g hg => .inl (k3 g hg), fun g hg => .inl (k4 g hg)⟩
  · have hold : ∀ o ∈ S, ∀ g, OwnB (h.A o.name) o.cells.length (h.c o.name) g → g < B0 := fun o ho g hg => hF g ((hS.obj o ho).2.2.1 g hg)
    rcases alloc_mem.1 ho with rfl | ho <;> rcases alloc_mem.1 ho' with rfl | ho'
    · rfl
    · simp only [newX, HdrT.put, if_true] at h1
      simp only [HdrT.put, if_neg (hnm o' ho')] at h2
      have := hold o' ho' g h2
      have := (r1.own_in h1).1
      omega
    · simp only [newX, HdrT.put, if_true] at h2
      simp only [HdrT.put, if_neg (hnm o ho)] at h1
      have := hold o ho g h1
      have := (r1.own_in h2).1
      omega
    · simp only [HdrT.put, if_neg (hnm o ho)] at h1
      simp only [HdrT.put, if_neg (hnm o' ho')] at h2
      exact hS.dist o ho o' ho' g h1 h2
theorem chg_grown {w w' : World} {base e size n c : Nat} {A : Option Addr} {xs : List Value} (how : w.ownsRow base e size (.slice A n c) n xs) (hg : w.grownBy w' (Value.slice A n c).ownBlock) : Chg (fun b t => OwnB A n c b ∧ t = e) w w' := by
  refine (Chg.refl _ w).grown hg fun g o hg ho => ?_
  obtain ⟨h1, cs, h2⟩ := own_blk how hg
  rw [h2] at ho
  injection ho with ho
  subst ho
  exact ⟨hg, rfl⟩
theorem SlR.take_ {α : Type} {B e size n c i : Nat} {R : World → List Value → α → Prop} {w : World} {A : Option Addr} {l : List α} (h : SlR B e size R w (.slice A n c) l) (hi : i ≤ n) : SlR B e size R w (.slice A i c) (l.take i) := by
  obtain ⟨A', c', hv, hl, h⟩ := h
  injection hv with h1 h2 h3
  subst h1 h2 h3
  have hlen : (l.take i).length = i := by simp; omega
  refine ⟨A, c, by rw [hlen], by omega, fun h0 => ?_⟩
  obtain ⟨b, o, hA, hL, hlt, hk⟩ := h (by omega)
  refine ⟨b, o, hA, hL, hlt, fun k x hx => hk k x ?_⟩
  rw [List.getElem?_take] at hx
  split at hx
  · exact hx
  · cases hx
theorem drop_flat {β : Type} {size : Nat} : ∀ (xss : List (List β)) (_ : ∀ cs ∈ xss, cs.length = size) (k : Nat), xss.flatten.drop (k * size) = (xss.drop k).flatten
  | [], _, k => by simp
  | x :: xss, h, 0 => by simp
  | x :: xss, h, k + 1 => by
    have hx := h x (by simp)
    rw [List.flatten_cons, List.drop_succ_cons, Nat.succ_mul, Nat.add_comm, List.drop_append, List.drop_eq_nil_of_le (by omega), hx, show size + k * size - size = k * size by omega, drop_flat xss (fun cs hc => h cs (by simp [hc])) k]
    rfl
theorem one_xor {h : HdrT} {w : World} (cs : List Value) (x : ObjD) (hx : XoR h w cs x) : ∀ u ∈ cs, u.oneCell' = true := by
  unfold XoR at hx
  subst hx
  intro u hu
  simp at hu
  rcases hu with rfl | rfl | rfl <;> rfl
theorem one_flatX {h : HdrT} {w : World} {l : List ObjD} {xss : List (List Value)} (h2 : xss.length = l.length) (h4 : ∀ (k : Nat) x cs, l[k]? = some x → xss[k]? = some cs → XoR h w cs x) : ∀ u ∈ xss.flatten, u.oneCell' = true := by
  intro u hu
  obtain ⟨cs, hcs, hu⟩ := List.mem_flatten.1 hu
  obtain ⟨k, hk⟩ := List.getElem?_of_mem hcs
  have hkl : k < l.length := by have := (List.getElem?_eq_some_iff.1 hk).1; omega
  exact one_xor cs _ (h4 k _ cs (List.getElem?_eq_getElem hkl) hk) u hu
theorem RowR.app {α : Type} {base e size n m c : Nat} {R : World → List Value → α → Prop} {w : World} {A : Option Addr} {l1 l2 : List α} {xs ys : List (List Value)} (how : w.ownsRow base e size (.slice A (n + m) c) (n + m) (xs.flatten ++ ys.flatten)) (h1 : xs.length = l1.length) (h2 : ys.length = l2.length) (hn : n = l1.length) (hm : m = l2.length)
    (h3 : ∀ cs ∈ xs, cs.length = size) (h4 : ∀ cs ∈ ys, cs.length = size) (h5 : ∀ (k : Nat) x cs, l1[k]? = some x → xs[k]? = some cs → R w cs x) (h6 : ∀ (k : Nat) x cs, l2[k]? = some x → ys[k]? = some cs → R w cs x) : RowR base e size R w A c (l1 ++ l2) := by
  subst hn hm
  refine ⟨xs ++ ys, by rw [List.length_append, List.flatten_append]; exact how, by rw [List.length_append, List.length_append, h1, h2], fun cs hcs => ?_, fun k x cs hx hcs => ?_⟩
  · rcases List.mem_append.1 hcs with h | h
    · exact h3 cs h
    · exact h4 cs h
  · by_cases hk : k < l1.length
    · rw [List.getElem?_append_left hk] at hx
      rw [List.getElem?_append_left (by omega)] at hcs
      exact h5 k x cs hx hcs
    · rw [List.getElem?_append_right (by omega)] at hx hcs
      rw [h1] at hcs
      exact h6 _ x cs hx hcs
theorem RowR.imp' {α : Type} {base e size : Nat} {R R' : World → List Value → α → Prop} {w : World} {A : Option Addr} {c : Nat} {l : List α} (h : RowR base e size R w A c l) (hR : ∀ cs x, x ∈ l → R w cs x → R' w cs x) : RowR base e size R' w A c l := by
  obtain ⟨xss, h1, h2, h3, h4⟩ := h
  exact ⟨xss, h1, h2, h3, fun k x cs hx hcs => hR _ _ (List.mem_of_getElem? hx) (h4 k x cs hx hcs)⟩
end Go.Proofs.Yteigopmdhhgnfaa
