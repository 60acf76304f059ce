/-
  Rows of one's own: one more element, a slice of data behind, made with room.
-/
import Derived.Test.YtgaodjoddfjfmaaDoorGrow
namespace Go.Proofs.YtgaodjoddfjfmaaDoor
open Go.RowKit
set_option linter.unusedVariables false
set_option linter.unusedSimpArgs false

section
variable {α : Type} {P : Program} {base e size : Nat} {R : World → List Value → α → Prop} {w : World} {A : Option Addr} {c : Nat} {l : List α}
theorem RowR.appended {w' : World} {A' : Option Addr} {c' : Nat} {xss yss : List (List Value)} {l2 : List α} (h2 : xss.length = l.length) (h3 : ∀ cs ∈ xss, cs.length = size) (h4 : ∀ (k : Nat) x cs, l[k]? = some x → xss[k]? = some cs → R w cs x)
    (k2 : yss.length = l2.length) (k3 : ∀ cs ∈ yss, cs.length = size) (k4 : ∀ (k : Nat) x cs, l2[k]? = some x → yss[k]? = some cs → R w cs x)
    (hR : ∀ cs x, R w cs x → R w' cs x) (how : w'.ownsRow base e size (.slice A' (l.length + l2.length) c') (l.length + l2.length) (xss.flatten ++ yss.flatten)) : RowR base e size R w' A' c' (l ++ l2) := by
  refine ⟨xss ++ yss, by simpa using how, by simp [h2, k2], ?_, ?_⟩
  · intro cs h
    rcases List.mem_append.1 h with h | h
    · exact h3 _ h
    · exact k3 _ h
  · intro k y ds hy hds
    by_cases hk : k < l.length
    · rw [List.getElem?_append_left hk] at hy
      rw [List.getElem?_append_left (by omega)] at hds
      exact hR _ _ (h4 k y ds hy hds)
    · rw [List.getElem?_append_right (by omega)] at hy
      rw [List.getElem?_append_right (by omega), h2] at hds
      exact hR _ _ (k4 _ y ds hy hds)
/-- append(own, x): one element that has just been built. -/
theorem wpList_push {ops : Array Oper} {rest : List Oper} {o : Oper} {a : Act} {Q : Exit → Act → World → Prop} (hgd : o.guard = none) (s x : Operand) (t : TypeId)
    (ho : o.op = .call { callee := .builtin .append, args := #[s, x], argTypes := #[t, t] })
    (base e : Nat) (i : TypeInfo) (z : Value) (size bytes : Nat) (ht : P.underlying t = some (.slice e)) (hi : P.info? e = some i) (hz : i.zero = some z)
    (hsize : i.size = size) (hby : i.bytes = bytes) (hzs : z.cells.size = size) (hsz : 0 < size) (R : World → List Value → α → Prop) (A : Option Addr) (c : Nat) (l : List α) {n : Nat} (hn : n = l.length)
    (hs : a.eval s = .slice A n c) (hr : RowR base e size R w A c l) (k : Nat) (cs : List Value) (y : α) {b0 : Nat} (hx : a.eval x = .slice (some ⟨b0, 0, none⟩) 1 k) (hW : w.heap.size = b0) (hcs : cs.length = size) (h1 : ∀ u ∈ cs, u.oneCell' = true)
    (hy : R w cs y) (hlen : n ≤ 549755813888) (hb : bytes ≤ 127) (hbase : base ≤ w.heap.size) (hR : ∀ w', Chg (fun b t => base ≤ b ∧ t = e) w w' → ∀ cs x, R w cs x → R w' cs x)
    (h : ∀ A' c' w', RowR base e size R w' A' c' (l ++ [y]) → Chg (fun b t => base ≤ b ∧ t = e) w w' → wpList P ops Q rest (a.put o.dst (.slice A' (n + 1) c')) w') : wpList P ops Q (o :: rest) a (w.alloc (.cells cs.toArray e)) := by
  obtain ⟨xss, how, x2, x3, x4⟩ := hr
  subst hn
  have hbn : l.length * bytes ≤ 549755813888 * 127 := Nat.mul_le_mul hlen hb
  refine wpList_append_new hgd s x t ho base e i z size bytes ht hi hz hsize hby hzs hsz A l.length c xss.flatten hs how 1 k cs hx hW (by simpa using hcs) h1 (by simp only [maxLen]; omega) (by rw [Nat.add_mul]; omega) hbase ?_
  intro A' c' w' hap
  have hch := hap.chg how
  exact h A' c' w' (RowR.snoc x2 x3 x4 (hR w' hch) hap.own hcs (hR w' hch _ _ hy)) hch
/-- append(own, xs...). -/
theorem wpList_pushS {ops : Array Oper} {rest : List Oper} {o : Oper} {a : Act} {Q : Exit → Act → World → Prop} (hgd : o.guard = none) (s x : Operand) (t : TypeId)
    (ho : o.op = .call { callee := .builtin .append, args := #[s, x], argTypes := #[t, t] })
    (base e : Nat) (i : TypeInfo) (z : Value) (size bytes : Nat) (ht : P.underlying t = some (.slice e)) (hi : P.info? e = some i) (hz : i.zero = some z)
    (hsize : i.size = size) (hby : i.bytes = bytes) (hzs : z.cells.size = size) (hsz : 0 < size) (R : World → List Value → α → Prop) (A : Option Addr) (c : Nat) (l : List α) {n : Nat} (hn : n = l.length)
    (hs : a.eval s = .slice A n c) (hr : RowR base e size R w A c l) (B2 e2 : Nat) (A2 : Option Addr) (c2 : Nat) (l2 : List α) {n2 : Nat} (hn2 : n2 = l2.length) (hx : a.eval x = .slice A2 n2 c2) (hr2 : SlR B2 e2 size R w (.slice A2 n2 c2) l2) (hone : ∀ cs y, R w cs y → ∀ u ∈ cs, u.oneCell' = true)
    (hlen : n ≤ 549755813888) (hlen2 : n2 ≤ 549755813888) (hb : bytes ≤ 127) (hbase : base ≤ w.heap.size) (hR : ∀ w', Chg (fun b t => base ≤ b ∧ t = e) w w' → ∀ cs x, R w cs x → R w' cs x)
    (h : ∀ A' c' w', RowR base e size R w' A' c' (l ++ l2) → Chg (fun b t => base ≤ b ∧ t = e) w w' → wpList P ops Q rest (a.put o.dst (.slice A' (n + n2) c')) w') : wpList P ops Q (o :: rest) a w := by
  obtain ⟨xss, how, x2, x3, x4⟩ := hr
  obtain ⟨yss, k2, k3, k4, k5⟩ := hr2.reads
  subst hn
  subst hn2
  have hbn : (l.length + l2.length) * bytes ≤ 1099511627776 * 127 := Nat.mul_le_mul (by omega) hb
  have honeF : ∀ u ∈ yss.flatten, u.oneCell' = true := by
    intro u hu
    obtain ⟨cs, hcs, hu⟩ := List.mem_flatten.1 hu
    obtain ⟨k, hk, hk2⟩ := List.mem_iff_getElem.1 hcs
    have hkl : k < l2.length := by omega
    exact hone cs l2[k] (k4 k _ _ (List.getElem?_eq_getElem hkl) (by rw [List.getElem?_eq_getElem hk, hk2])) u hu
  refine wpList_append_any _ hgd s x t ho base e i z size bytes ht hi hz hsize hby hzs hsz (.slice A l.length c) l.length xss.flatten hs how w.heap.size A2 l2.length c2 yss.flatten hx k5 honeF (by simp only [maxLen]; omega) (by omega) hbase ?_
  intro v' w' h1 h2 h3
  obtain ⟨A', c', rfl⟩ := own_form h1
  have hch : Chg (fun b t => base ≤ b ∧ t = e) w w' := (Chg.refl _ w).grown h2 fun g o hg ho => by
    obtain ⟨g1, cs, g2⟩ := own_blk how hg
    rw [g2] at ho
    injection ho with ho
    subst ho
    exact ⟨g1, rfl⟩
  exact h A' c' w' (RowR.appended x2 x3 x4 k2 k3 k4 (hR w' hch) h1) hch
/-- append(nil, make([]T, n)...): a row with room, of which nothing is taken. -/
theorem run_append_zeros (t u ty : TypeId) (q : IntKind) (i : TypeInfo) (z : Value) (ht : P.underlying t = some (.slice e)) (hu : P.underlying u = some (.int q)) (hi : P.info? e = some i) (hz : i.zero = some z) (n : Nat) (h0 : 0 < n) (h63 : n ≤ 1099511627776) (hb : i.bytes ≤ 127) :
    (Builtin.append_ #[t, u] ty #[.slice none 0 0, .int .i64 n]).run P w =
      .ok (.slice (some ⟨w.heap.size, 0, none⟩) n (grownCap w n 0 e)) (w.drew.alloc (.cells ((if n * i.size = 0 then #[] else Builtin.zeroCells z.cells n) ++ Builtin.zeroCells z.cells (grownCap w n 0 e - n)) e)) := by
  have hn : n ≠ 0 := by omega
  have hbn : n * i.bytes ≤ 1099511627776 * 127 := Nat.mul_le_mul h63 hb
  have hbi : (n : Int) * (i.bytes : Int) ≤ 139637976727552 := by
    rw [← Int.natCast_mul]
    omega
  have h63' : ¬ (9223372036854775807 < (n : Int)) := by omega
  have h48' : ¬ (281474976710656 < Builtin.nextslicecap n 0 * i.bytes) := by rw [nextslicecap_zero h0]; omega
  have h48'' : ¬ (281474976710656 < (n : Int) * (i.bytes : Int)) := by omega
  have hw : IntKind.i64.wrap (n : Int) = n := IntWalk.i64_in _ ⟨by omega, by omega⟩
  have hneg : ¬ ((n : Int) < 0) := by omega
  by_cases hz0 : n * i.size = 0
  · simp [Builtin.append_, run_underlying ht, run_underlying hu, sizeOf, typeInfo, zeroValue, asInt, asIntOf, hi, hz, hn, hw, hneg, h63', h48', h48'', hz0, Question.forced, run_firstCells_none, newRow, grownCap]
  · simp [Builtin.append_, run_underlying ht, run_underlying hu, sizeOf, typeInfo, zeroValue, asInt, asIntOf, hi, hz, hn, hw, hneg, h63', h48', h48'', hz0, Question.forced, run_firstCells_none, newRow, grownCap]
theorem wpList_append_zeros {ops : Array Oper} {rest : List Oper} {o : Oper} {a : Act} {Q : Exit → Act → World → Prop} (hgd : o.guard = none) (s x : Operand) (t u : TypeId)
    (ho : o.op = .call { callee := .builtin .append, args := #[s, x], argTypes := #[t, u] }) (hs : a.eval s = .slice none 0 0) {n : Nat} (hx : a.eval x = .int .i64 n) {v : Value} {w' : World}
    (hr : ∀ ty, (Builtin.append_ #[t, u] ty #[.slice none 0 0, .int .i64 n]).run P w = .ok v w') (h : wpList P ops Q rest (a.put o.dst v) w') : wpList P ops Q (o :: rest) a w := by
  refine wpList_plain hgd fun K hK => ?_
  unfold Oper.wp execOp
  simp only [ho, resolve, invoke, builtin, Sem.run_bind, Sem.run_pure, Result.andThen_ok, List.map_toArray, List.map_cons, List.map_nil, hs, hx, hr]
  exact hK _ _ h
end
end Go.Proofs.YtgaodjoddfjfmaaDoor
