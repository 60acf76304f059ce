/-
  A module among the arguments: its data, and what its bulk bounds.
-/
import Derived.Test.YtfmhedpjkpaohaaOpen
import Derived.Test.YtfmhedpjkpaohaaEnc3
namespace Go.Proofs.Ytfmhedpjkpaohaa
open Go.RowKit Go.ChangeShapes Go.WideShapes Go.Deep
set_option linter.unusedVariables false
set_option linter.unusedSimpArgs false

theorem sum_ten : ∀ l : List Int, (l.map fun _ => 10).sum = 10 * l.length
  | [] => rfl
  | x :: l => by have := sum_ten l; simp only [List.map_cons, List.sum_cons, List.length_cons]; omega
theorem wf_i64 {x : Int} (h : (Lit.int .i64 x).wf = true) : I64 x := by
  simp [Lit.wf, IntKind.min, IntKind.max, IntKind.signed, IntKind.bits] at h
  exact h
theorem wf_u64 {x : Int} (h : (Lit.int .u64 x).wf = true) : ∃ n : Nat, x = n ∧ U64 n := by
  simp [Lit.wf, IntKind.min, IntKind.max, IntKind.signed, IntKind.bits] at h
  exact ⟨x.toNat, by omega, by unfold U64; omega⟩

section
variable {H : Type} {enc : TypeId × Value → H} {W : World} {n : Nat} {u : Value} {y : DataW H × List MemPlace}
theorem open_int_ (h : DataW.trod enc Try.prog W 0 (fun _ => true) true n 3 [u] = some y) : ∃ x, u = .int .i64 x ∧ I64 x := by
  obtain ⟨x, h1, h2, h3⟩ := DataW.trod_int Try.underlying3 h
  exact ⟨x, by simpa using h1, wf_i64 h3⟩
theorem open_u64_ (h : DataW.trod enc Try.prog W 0 (fun _ => true) true n 52 [u] = some y) : ∃ x : Nat, u = .int .u64 x ∧ U64 x := by
  obtain ⟨x, h1, h2, h3⟩ := DataW.trod_int Try.underlying52 h
  obtain ⟨k, rfl, hk⟩ := wf_u64 h3
  exact ⟨k, by simpa using h1, hk⟩
theorem open_bool_ (h : DataW.trod enc Try.prog W 0 (fun _ => true) true n 4 [u] = some y) : ∃ x, u = .bool x := by
  obtain ⟨x, h1, h2⟩ := DataW.trod_bool Try.underlying4 h
  exact ⟨x, by simpa using h1⟩
theorem open_ints_ (h : DataW.trod enc Try.prog W 0 (fun _ => true) true n 36 [u] = some y) : ∃ A c l, u = .slice A l.length c ∧ IntsR W.heap.size W (.slice A l.length c) l ∧ l.length + 1 ≤ Rows.uptoBulk y.1 := by
  rcases open_ints Try.underlying36 Try.underlying3 (by kernel_rfl) h with ⟨h1, h2⟩ | ⟨a, len, cap, zs, h1, _, hl, hm, hz, hx, hcell, hwf⟩
  · exact ⟨none, 0, [], by simpa using h1, SlR.nil _ _ _ _ _ _ _, by rw [h2]; simp [Rows.uptoBulk]⟩
  · simp only [if_true] at hz
    have htl : (zs.take len).length = len := by rw [List.length_take]; omega
    refine ⟨some a, cap, zs.take len, by rw [htl]; simpa using h1, ⟨some a, cap, rfl, by omega, fun h0 => ?_⟩, ?_⟩
    · have h00 := hcell 0 (by omega)
      have ha0 : a.add 0 = a := by simp [Addr.add]
      rw [ha0] at h00
      obtain ⟨b, o, rfl, hb⟩ := flat_of_cell h00
      refine ⟨b, o, rfl, .inl hb, hb, fun k x hx => ⟨[.int .i64 x], rfl, ⟨rfl, ?_⟩, fun j v hj => ?_⟩⟩
      · have hmem := List.mem_of_getElem? hx
        exact wf_i64 (hwf x (List.mem_of_mem_take hmem))
      · have hk : k < (zs.take len).length := (List.getElem?_eq_some_iff.1 hx).1
        have hkz := hcell k (by omega)
        rw [add_flat] at hkz
        match j, hj with
        | 0, hj =>
          simp at hj
          subst hj
          rw [List.getElem?_take] at hx
          rw [if_pos (by omega)] at hx
          rw [show o + k * 1 + 0 = o + k by omega, hkz]
          simp [List.getD, hx]
        | j + 1, hj => simp at hj
    · rw [hx]
      simp only [Rows.uptoBulk]
      have := bulk_len (lits (H := H) .i64 (zs.take len))
      simp only [lits, List.length_map] at this
      simp only [lits]
      omega

/-- A slice of structs, element by element. -/
theorem open_slice_of {α : Type} {t e : TypeId} {fs : Array Field} {R : World → List Value → α → Prop} (ht : Try.prog.underlying t = some (.slice e)) (he : Try.prog.underlying e = some (.struct fs)) (hone : oneCellFields Try.prog fs = true) (hC : Try.prog.cellsOf e = fs.size) (hfs : 0 < fs.size) (c : α → Nat) (K : Nat)
    (hel : ∀ (V : Nat → Value) (Y : Nat → DataW H × List MemPlace) (m : Nat), (∀ (j : Nat) (f : Field), fs[j]? = some f → DataW.trod enc Try.prog W 0 (fun _ => true) true m f.type [V j] = some (Y j)) →
      ∃ x, R W ((List.range fs.size).map V) x ∧ c x ≤ K * Rows.uptoBulk (.agg ((List.range fs.size).map fun j => (Y j).1)))
    (h : DataW.trod enc Try.prog W 0 (fun _ => true) true n t [u] = some y) : ∃ A cp l, u = .slice A l.length cp ∧ SlR W.heap.size 0 fs.size R W (.slice A l.length cp) l ∧ (l.map c).sum + K ≤ K * Rows.uptoBulk y.1 := by
  rcases open_slice_fields ht he hone hC h with ⟨h1, h2⟩ | ⟨a, len, cap, m, D, Pl, h1, _, hl, hm, hmm, hx, hi⟩
  · exact ⟨none, 0, [], by simpa using h1, SlR.nil _ _ _ _ _ _ _, by rw [h2]; simp [Rows.uptoBulk]⟩
  · simp only [if_true] at hmm
    subst hmm
    have hch : ∀ i, i < len → ∃ x : α, ∃ cs : List Value, cs.length = fs.size ∧ R W cs x ∧ (∀ j v, cs[j]? = some v → W.cell? (a.add (i * fs.size + j)) = some v) ∧ c x ≤ K * Rows.uptoBulk (D i) := by
      intro i hil
      obtain ⟨ys, k, hD, _, hys, hf⟩ := hi i (by omega)
      have hV : ∀ j : Nat, ∃ v : Value, j < fs.size → ∃ f, fs[j]? = some f ∧ W.cell? (a.add (i * fs.size + j)) = some v ∧ ∃ yy, ys[j]? = some yy ∧ DataW.trod enc Try.prog W 0 (fun _ => true) true k f.type [v] = some yy := by
        intro j
        by_cases hj : j < fs.size
        · obtain ⟨v, yy, h1, h2, h3⟩ := hf j fs[j] (Array.getElem?_eq_getElem hj)
          exact ⟨v, fun _ => ⟨_, Array.getElem?_eq_getElem hj, h1, yy, h2, h3⟩⟩
        · exact ⟨.bool false, fun h => absurd h hj⟩
      let V : Nat → Value := fun j => Classical.choose (hV j)
      have hVs := fun j => Classical.choose_spec (hV j)
      let Y : Nat → DataW H × List MemPlace := fun j => ys.getD j (.nil, [])
      obtain ⟨x, hx1, hx2⟩ := hel V Y k fun j f hj => by
        have hjl : j < fs.size := (Array.getElem?_eq_some_iff.1 hj).1
        obtain ⟨f', hf', _, yy, hyy, ht'⟩ := hVs j hjl
        have : f' = f := by rw [hf'] at hj; injection hj
        subst this
        have hY : Y j = yy := by show ys.getD j _ = yy; rw [List.getD_eq_getElem?_getD, hyy]; rfl
        rw [hY]
        exact ht'
      refine ⟨x, (List.range fs.size).map V, by simp, hx1, fun j v hj => ?_, ?_⟩
      · rw [List.getElem?_map] at hj
        obtain ⟨j', h1, h2⟩ := Option.map_eq_some_iff.1 hj
        obtain ⟨h3, h4⟩ := List.getElem?_eq_some_iff.1 h1
        rw [List.getElem_range] at h4
        subst h4
        obtain ⟨_, _, hc, _⟩ := hVs j (by simpa using h3)
        rw [← h2]
        exact hc
      · have : (List.range fs.size).map (fun j => (Y j).1) = ys.map (·.1) := by
          apply List.ext_getElem (by simp [hys])
          intro j h1 h2
          simp only [List.getElem_map, List.getElem_range]
          show (ys.getD j _).1 = _
          rw [List.getD_eq_getElem?_getD, List.getElem?_eq_getElem (by simpa using h2)]
          rfl
        rw [this, ← hD] at hx2
        exact hx2
    obtain ⟨l, hll, hlp⟩ := list_of len hch
    subst hll
    refine ⟨some a, m, l, by simpa using h1, ⟨some a, m, rfl, hl, fun h0 => ?_⟩, ?_⟩
    · obtain ⟨cs, h1, _, h3, _⟩ := hlp 0 l[0] (List.getElem?_eq_getElem h0)
      have h4 := h3 0 cs[0] (List.getElem?_eq_getElem (by omega))
      have ha0 : a.add (0 * fs.size + 0) = a := by simp [Addr.add]
      rw [ha0] at h4
      obtain ⟨b, o, rfl, hb⟩ := flat_of_cell h4
      refine ⟨b, o, rfl, .inl hb, hb, fun k x hx => ?_⟩
      obtain ⟨cs, h1, h2, h3, _⟩ := hlp k x hx
      refine ⟨cs, h1, h2, fun j v hj => ?_⟩
      have := h3 j v hj
      rw [add_flat] at this
      rw [Nat.add_assoc]
      exact this
    · have := bulk_sum c K l D fun i x hx => (hlp i x hx).choose_spec.2.2.2
      rw [hx]
      simp only [Rows.uptoBulk]
      rw [Nat.mul_add, Nat.mul_add]
      omega
theorem open_cases_ (h : DataW.trod enc Try.prog W 0 (fun _ => true) true n 53 [u] = some y) : ∃ A c l, u = .slice A l.length c ∧ CasesR W.heap.size W (.slice A l.length c) l ∧ (l.map cCase).sum + 100 ≤ 100 * Rows.uptoBulk y.1 := by
  refine open_slice_of (R := CaseR) Try.underlying53 Try.underlying79 (by kernel_rfl) (by kernel_rfl) (by decide) cCase 100 (fun V Y m hf => ?_) h
  obtain ⟨a, h0⟩ := open_bool_ (hf 0 _ rfl)
  obtain ⟨b, h1, i1⟩ := open_int_ (hf 1 _ rfl)
  obtain ⟨c, h2, i2⟩ := open_int_ (hf 2 _ rfl)
  obtain ⟨d, h3, i3⟩ := open_int_ (hf 3 _ rfl)
  refine ⟨⟨a, b, c, d⟩, ⟨?_, i1, i2, i3⟩, ?_⟩
  · show [V 0, V 1, V 2, V 3] = _
    rw [h0, h1, h2, h3]
  · simp only [Rows.uptoBulk, cCase]; omega
theorem open_shapes_ (h : DataW.trod enc Try.prog W 0 (fun _ => true) true n 22 [u] = some y) : ∃ A c l, u = .slice A l.length c ∧ ShapesR W.heap.size W (.slice A l.length c) l ∧ (l.map cShape).sum + 100 ≤ 100 * Rows.uptoBulk y.1 := by
  refine open_slice_of (R := ShapeR W.heap.size) Try.underlying22 Try.underlying41 (by kernel_rfl) (by kernel_rfl) (by decide) cShape 100 (fun V Y m hf => ?_) h
  obtain ⟨a, h0, i0⟩ := open_int_ (hf 0 _ rfl)
  obtain ⟨A, c, l, h1, hl, hb⟩ := open_ints_ (hf 1 _ rfl)
  obtain ⟨b, h2, i2⟩ := open_int_ (hf 2 _ rfl)
  refine ⟨⟨a, l, b⟩, ⟨A, c, ?_, i0, i2, hl⟩, ?_⟩
  · show [V 0, V 1, V 2] = _
    rw [h0, h1, h2]
  · show _ ≤ 100 * Rows.uptoBulk (.agg [(Y 0).1, (Y 1).1, (Y 2).1])
    have := bulk_one (Y 0).1
    have := bulk_one (Y 2).1
    simp only [Rows.uptoBulk, Rows.uptoBulkAll, cShape, cInts, sum_ten]
    omega
theorem open_instrs_ (h : DataW.trod enc Try.prog W 0 (fun _ => true) true n 49 [u] = some y) : ∃ A c l, u = .slice A l.length c ∧ InstrsR W.heap.size W (.slice A l.length c) l ∧ (l.map cInstr).sum + 100 ≤ 100 * Rows.uptoBulk y.1 := by
  refine open_slice_of (R := InstrR W.heap.size) Try.underlying49 Try.underlying55 (by kernel_rfl) (by kernel_rfl) (by decide) cInstr 100 (fun V Y m hf => ?_) h
  obtain ⟨a, h0, i0⟩ := open_int_ (hf 0 _ rfl)
  obtain ⟨b, h1, i1⟩ := open_int_ (hf 1 _ rfl)
  obtain ⟨c, h2, i2⟩ := open_int_ (hf 2 _ rfl)
  obtain ⟨d, h3, i3⟩ := open_u64_ (hf 3 _ rfl)
  obtain ⟨A, cp, l, h4, hl, hb⟩ := open_cases_ (hf 4 _ rfl)
  refine ⟨⟨a, b, c, d, l⟩, ⟨A, cp, ?_, i0, i1, i2, i3, hl⟩, ?_⟩
  · show [V 0, V 1, V 2, V 3, V 4] = _
    rw [h0, h1, h2, h3, h4]
  · show _ ≤ 100 * Rows.uptoBulk (.agg [(Y 0).1, (Y 1).1, (Y 2).1, (Y 3).1, (Y 4).1])
    simp only [Rows.uptoBulk, Rows.uptoBulkAll, cInstr]
    omega
theorem open_funcs_ (h : DataW.trod enc Try.prog W 0 (fun _ => true) true n 23 [u] = some y) : ∃ A c l, u = .slice A l.length c ∧ FuncsR W.heap.size W (.slice A l.length c) l ∧ (l.map cFunc).sum + 100 ≤ 100 * Rows.uptoBulk y.1 := by
  refine open_slice_of (R := FuncR W.heap.size) Try.underlying23 Try.underlying51 (by kernel_rfl) (by kernel_rfl) (by decide) cFunc 100 (fun V Y m hf => ?_) h
  obtain ⟨a, h0, i0⟩ := open_int_ (hf 0 _ rfl)
  obtain ⟨A1, c1, l1, h1, hl1, hb1⟩ := open_ints_ (hf 1 _ rfl)
  obtain ⟨A2, c2, l2, h2, hl2, hb2⟩ := open_ints_ (hf 2 _ rfl)
  obtain ⟨b, h3, i3⟩ := open_int_ (hf 3 _ rfl)
  obtain ⟨A4, c4, l4, h4, hl4, hb4⟩ := open_instrs_ (hf 4 _ rfl)
  refine ⟨⟨a, l1, l2, b, l4⟩, ⟨A1, c1, A2, c2, A4, c4, ?_, i0, i3, hl1, hl2, hl4⟩, ?_⟩
  · show [V 0, V 1, V 2, V 3, V 4] = _
    rw [h0, h1, h2, h3, h4]
  · show _ ≤ 100 * Rows.uptoBulk (.agg [(Y 0).1, (Y 1).1, (Y 2).1, (Y 3).1, (Y 4).1])
    simp only [Rows.uptoBulk, Rows.uptoBulkAll, cFunc, cInts, sum_ten]
    omega
theorem open_mod_ {v : Value} {d : DataW H} {p : List MemPlace} {r : Reach} {b0 : Nat} (hv : Value.okWide Try.prog W r b0 25 v) (h : DataW.Trod enc Try.prog W 0 (fun _ => true) true 25 v d p) :
    ∃ m, ModR W.heap.size W v m ∧ cMod m ≤ 100 * Rows.uptoBulk d := by
  obtain ⟨v0, v1, y0, y1, n, rfl, rfl, rfl, h0, h1⟩ := Joins.open_agg2 Try.underlying25 (by kernel_rfl) (by kernel_rfl) hv h
  obtain ⟨A, c, l, rfl, hl, hb⟩ := open_shapes_ h0
  obtain ⟨A', c', l', rfl, hl', hb'⟩ := open_funcs_ h1
  refine ⟨⟨l, l'⟩, ⟨A, c, A', c', rfl, hl, hl'⟩, ?_⟩
  simp only [Rows.uptoBulk, Rows.uptoBulkAll, cMod]
  omega
theorem bulk_bound {l : List (DataW H)} (hk : Rows.uptoSmall H l = true) : Rows.uptoBulkAll l ≤ 1048576 := of_decide_eq_true hk
end
end Go.Proofs.Ytfmhedpjkpaohaa
