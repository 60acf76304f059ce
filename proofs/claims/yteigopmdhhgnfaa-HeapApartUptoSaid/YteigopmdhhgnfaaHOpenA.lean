/-
  Acts, marks and numbers among the arguments: their data, and what their bulk bounds.
-/
import Derived.Test.YteigopmdhhgnfaaOpen
import Derived.Test.YteigopmdhhgnfaaHGrown
import Derived.Deep.Grids
namespace Go.Proofs.Yteigopmdhhgnfaa
open Go.RowKit Go.ChangeShapes Go.WideShapes Go.Deep
set_option linter.unusedVariables false
set_option linter.unusedSimpArgs false

theorem wf_i64 {x : Int} (h : (Lit.int .i64 x).wf = true) : I64 x := by
  simp [Lit.wf, IntKind.min, IntKind.max, IntKind.signed, IntKind.bits] at h
  exact h
theorem wf_u64 {x : Int} (h : (Lit.int .u64 x).wf = true) : ∃ n : Nat, x = n ∧ n < 18446744073709551616 := by
  simp [Lit.wf, IntKind.min, IntKind.max, IntKind.signed, IntKind.bits] at h
  exact ⟨x.toNat, by omega, by omega⟩
section
variable {H : Type} {enc : TypeId × Value → H} {W : World} {n : Nat} {u : Value} {y : DataW H × List MemPlace}
theorem open_int_ (h : DataW.trod enc Try.prog W 0 (fun _ => true) true n 3 [u] = some y) : ∃ x, u = .int .i64 x ∧ I64 x := by
  obtain ⟨x, h1, h2, h3⟩ := DataW.trod_int Try.underlying3 h
  exact ⟨x, by simpa using h1, wf_i64 h3⟩
theorem open_u64_ (h : DataW.trod enc Try.prog W 0 (fun _ => true) true n 44 [u] = some y) : ∃ x : Nat, u = .int .u64 x ∧ x < 18446744073709551616 := by
  obtain ⟨x, h1, h2, h3⟩ := DataW.trod_int Try.underlying44 h
  obtain ⟨k, rfl, hk⟩ := wf_u64 h3
  exact ⟨k, by simpa using h1, hk⟩
theorem open_bool_ (h : DataW.trod enc Try.prog W 0 (fun _ => true) true n 4 [u] = some y) : ∃ x, u = .bool x := by
  obtain ⟨x, h1, h2⟩ := DataW.trod_bool Try.underlying4 h
  exact ⟨x, by simpa using h1⟩
/-- A slice of structs, element by element. -/
theorem open_slice_of {α : Type} {t e : TypeId} {fs : Array Field} {R : World → List Value → α → Prop} (ht : Try.prog.underlying t = some (.slice e)) (he : Try.prog.underlying e = some (.struct fs)) (hone : oneCellFields Try.prog fs = true) (hC : Try.prog.cellsOf e = fs.size) (hfs : 0 < fs.size) (c : α → Nat) (K : Nat)
    (hel : ∀ (V : Nat → Value) (Y : Nat → DataW H × List MemPlace) (m : Nat), (∀ (j : Nat) (f : Field), fs[j]? = some f → DataW.trod enc Try.prog W 0 (fun _ => true) true m f.type [V j] = some (Y j)) →
      ∃ x, R W ((List.range fs.size).map V) x ∧ c x ≤ K * Rows.uptoBulk (.agg ((List.range fs.size).map fun j => (Y j).1)))
    (h : DataW.trod enc Try.prog W 0 (fun _ => true) true n t [u] = some y) : ∃ A cp l, u = .slice A l.length cp ∧ SlR W.heap.size 0 fs.size R W (.slice A l.length cp) l ∧ (l.map c).sum + K ≤ K * Rows.uptoBulk y.1 := by
  rcases open_slice_fields ht he hone hC h with ⟨h1, h2⟩ | ⟨a, len, cap, m, D, Pl, h1, _, hl, hm, hmm, hx, hi⟩
  · exact ⟨none, 0, [], by simpa using h1, SlR.nil _ _ _ _ _ _ _, by rw [h2]; simp [Rows.uptoBulk]⟩
  · simp only [if_true] at hmm
    subst hmm
    have hch : ∀ i, i < len → ∃ x : α, ∃ cs : List Value, cs.length = fs.size ∧ R W cs x ∧ (∀ j v, cs[j]? = some v → W.cell? (a.add (i * fs.size + j)) = some v) ∧ c x ≤ K * Rows.uptoBulk (D i) := by
      intro i hil
      obtain ⟨ys, k, hD, _, hys, hf⟩ := hi i (by omega)
      have hV : ∀ j : Nat, ∃ v : Value, j < fs.size → ∃ f, fs[j]? = some f ∧ W.cell? (a.add (i * fs.size + j)) = some v ∧ ∃ yy, ys[j]? = some yy ∧ DataW.trod enc Try.prog W 0 (fun _ => true) true k f.type [v] = some yy := by
        intro j
        by_cases hj : j < fs.size
        · obtain ⟨v, yy, h1, h2, h3⟩ := hf j fs[j] (Array.getElem?_eq_getElem hj)
          exact ⟨v, fun _ => ⟨_, Array.getElem?_eq_getElem hj, h1, yy, h2, h3⟩⟩
        · exact ⟨.bool false, fun h => absurd h hj⟩
      let V : Nat → Value := fun j => Classical.choose (hV j)
      have hVs := fun j => Classical.choose_spec (hV j)
      let Y : Nat → DataW H × List MemPlace := fun j => ys.getD j (.nil, [])
      obtain ⟨x, hx1, hx2⟩ := hel V Y k fun j f hj => by
        have hjl : j < fs.size := (Array.getElem?_eq_some_iff.1 hj).1
        obtain ⟨f', hf', _, yy, hyy, ht'⟩ := hVs j hjl
        have : f' = f := by rw [hf'] at hj; injection hj
        subst this
        have hY : Y j = yy := by show ys.getD j _ = yy; rw [List.getD_eq_getElem?_getD, hyy]; rfl
        rw [hY]
        exact ht'
      refine ⟨x, (List.range fs.size).map V, by simp, hx1, fun j v hj => ?_, ?_⟩
      · rw [List.getElem?_map] at hj
        obtain ⟨j', h1, h2⟩ := Option.map_eq_some_iff.1 hj
        obtain ⟨h3, h4⟩ := List.getElem?_eq_some_iff.1 h1
        rw [List.getElem_range] at h4
        subst h4
        obtain ⟨_, _, hc, _⟩ := hVs j (by simpa using h3)
        rw [← h2]
        exact hc
      · have : (List.range fs.size).map (fun j => (Y j).1) = ys.map (·.1) := by
          apply List.ext_getElem (by simp [hys])
          intro j h1 h2
          simp only [List.getElem_map, List.getElem_range]
          show (ys.getD j _).1 = _
          rw [List.getD_eq_getElem?_getD, List.getElem?_eq_getElem (by simpa using h2)]
          rfl
        rw [this, ← hD] at hx2
        exact hx2
    obtain ⟨l, hll, hlp⟩ := list_of len hch
    subst hll
    refine ⟨some a, m, l, by simpa using h1, ⟨some a, m, rfl, hl, fun h0 => ?_⟩, ?_⟩
    · obtain ⟨cs, h1, _, h3, _⟩ := hlp 0 l[0] (List.getElem?_eq_getElem h0)
      have h4 := h3 0 cs[0] (List.getElem?_eq_getElem (by omega))
      have ha0 : a.add (0 * fs.size + 0) = a := by simp [Addr.add]
      rw [ha0] at h4
      obtain ⟨b, o, rfl, hb⟩ := flat_of_cell h4
      refine ⟨b, o, rfl, .inl hb, hb, fun k x hx => ?_⟩
      obtain ⟨cs, h1, h2, h3, _⟩ := hlp k x hx
      refine ⟨cs, h1, h2, fun j v hj => ?_⟩
      have := h3 j v hj
      rw [add_flat] at this
      rw [Nat.add_assoc]
      exact this
    · have := bulk_sum c K l D fun i x hx => (hlp i x hx).choose_spec.2.2.2
      rw [hx]
      simp only [Rows.uptoBulk]
      rw [Nat.mul_add, Nat.mul_add]
      omega
theorem sum_one {α : Type} : ∀ l : List α, (l.map fun _ => 1).sum = l.length
  | [] => rfl
  | x :: l => by have := sum_one l; simp only [List.map_cons, List.sum_cons, List.length_cons]; omega
theorem sum_mem {α : Type} (f : α → Nat) : ∀ {l : List α} {x : α}, x ∈ l → f x ≤ (l.map f).sum
  | y :: l, x, h => by
    simp only [List.map_cons, List.sum_cons]
    rcases List.mem_cons.1 h with rfl | h
    · omega
    · have := sum_mem f h; omega
theorem wf_listI : ∀ {zs : List Int}, (∀ x ∈ zs, (Lit.int .i64 x).wf = true) → ∀ x ∈ zs, I64 x := fun h x hx => wf_i64 (h x hx)
theorem open_intsA (h : DataW.trod enc Try.prog W 0 (fun _ => true) true n 24 [u] = some y) : ∃ A c l, u = .slice A l.length c ∧ SlR W.heap.size 0 1 IntZ W (.slice A l.length c) l ∧ (∀ r ∈ l, I64 r) ∧ l.length + 1 ≤ Rows.uptoBulk y.1 := by
  rcases open_ints Try.underlying24 Try.underlying3 (by kernel_rfl) h with ⟨h1, h2⟩ | ⟨a, len, cap, zs, h1, _, hl, hm, hz, hx, hcell, hwf⟩
  · exact ⟨none, 0, [], by simpa using h1, SlR.nil _ _ _ _ _ _ _, fun r h => (by cases h), by rw [h2]; simp [Rows.uptoBulk]⟩
  · simp only [if_true] at hz
    have htl : (zs.take len).length = len := by rw [List.length_take]; omega
    refine ⟨some a, cap, zs.take len, by rw [htl]; simpa using h1, ⟨some a, cap, rfl, by omega, fun h0 => ?_⟩, fun r hr => wf_i64 (hwf r (List.mem_of_mem_take hr)), ?_⟩
    · have h00 := hcell 0 (by omega)
      have ha0 : a.add 0 = a := by simp [Addr.add]
      rw [ha0] at h00
      obtain ⟨b, o, rfl, hb⟩ := flat_of_cell h00
      refine ⟨b, o, rfl, .inl hb, hb, fun k x hx => ⟨[.int .i64 x], rfl, rfl, fun j v hj => ?_⟩⟩
      have hk : k < (zs.take len).length := (List.getElem?_eq_some_iff.1 hx).1
      have hkz := hcell k (by omega)
      rw [add_flat] at hkz
      match j, hj with
      | 0, hj =>
        simp at hj
        subst hj
        rw [List.getElem?_take, if_pos (by omega)] at hx
        rw [show o + k * 1 + 0 = o + k by omega, hkz]
        simp [List.getD, hx]
      | j + 1, hj => simp at hj
    · rw [hx]
      simp only [Rows.uptoBulk]
      have := bulk_len (lits (H := H) .i64 (zs.take len))
      simp only [lits, List.length_map, List.length_take] at this
      simp only [lits, List.length_take]
      omega
theorem open_boolsA (h : DataW.trod enc Try.prog W 0 (fun _ => true) true n 23 [u] = some y) : ∃ A c l, u = .slice A l.length c ∧ SlR W.heap.size 0 1 BoolV W (.slice A l.length c) l ∧ l.length + 1 ≤ Rows.uptoBulk y.1 := by
  rcases open_bools Try.underlying23 Try.underlying4 (by kernel_rfl) h with ⟨h1, h2⟩ | ⟨a, len, cap, Z, h1, _, hl, hm, hx, hcell⟩
  · exact ⟨none, 0, [], by simpa using h1, SlR.nil _ _ _ _ _ _ _, by rw [h2]; simp [Rows.uptoBulk]⟩
  · refine ⟨some a, cap, (List.range len).map Z, by simpa using h1, ⟨some a, cap, rfl, by simpa using hl, fun h0 => ?_⟩, ?_⟩
    · have h0' : 0 < len := by simpa using h0
      have h00 := hcell 0 (by omega)
      have ha0 : a.add 0 = a := by simp [Addr.add]
      rw [ha0] at h00
      obtain ⟨b, o, rfl, hb⟩ := flat_of_cell h00
      refine ⟨b, o, rfl, .inl hb, hb, fun k x hx => ⟨[.bool x], rfl, rfl, fun j v hj => ?_⟩⟩
      have hk : k < len := by simpa using (List.getElem?_eq_some_iff.1 hx).1
      have hkz := hcell k (by omega)
      rw [add_flat] at hkz
      match j, hj with
      | 0, hj =>
        simp at hj
        subst hj
        rw [List.getElem?_map, List.getElem?_range hk] at hx
        simp at hx
        rw [show o + k * 1 + 0 = o + k by omega, hkz, hx]
      | j + 1, hj => simp at hj
    · rw [hx]
      simp only [boolRow, Rows.uptoBulk]
      have := bulk_len ((List.range len).map fun i => (DataW.lit (.bool (Z i)) : DataW H))
      simp only [List.length_map, List.length_range] at this
      simp only [List.length_map, List.length_range]
      omega
def cHAct (a : HActD) : Nat := a.refs.length + a.roots.length + 1
set_option maxRecDepth 100000 in
theorem open_hacts_ (hsm : Rows.uptoBulk y.1 ≤ 1048576) (h : DataW.trod enc Try.prog W 0 (fun _ => true) true n 22 [u] = some y) : ∃ A c l, u = .slice A l.length c ∧ HActsA W.heap.size W (.slice A l.length c) l ∧ l.length ≤ 1048576 := by
  obtain ⟨A, c, l, h1, h2, h3⟩ := open_slice_of (R := fun w cs (a : HActD) => ∃ A c B d, cs = (hactV a A c B d).toList ∧ I64 a.o ∧ a.n < 18446744073709551616 ∧ SlR W.heap.size 0 1 BoolV w (.slice A a.refs.length c) a.refs ∧ SlR W.heap.size 0 1 IntZ w (.slice B a.roots.length d) a.roots ∧ ∀ r ∈ a.roots, I64 r) Try.underlying22 Try.underlying62 (by kernel_rfl) (by kernel_rfl) (by decide) cHAct 1 (fun V Y m hf => by
    obtain ⟨a0, h0, i0⟩ := open_int_ (hf 0 _ rfl)
    obtain ⟨a1, h1, i1⟩ := open_int_ (hf 1 _ rfl)
    obtain ⟨a2, h2, i2⟩ := open_int_ (hf 2 _ rfl)
    obtain ⟨a3, h3, i3⟩ := open_u64_ (hf 3 _ rfl)
    obtain ⟨A, cp, l, h4, hl, hb⟩ := open_boolsA (hf 4 _ rfl)
    obtain ⟨B, dp, m, h5, hm, hI, hb5⟩ := open_intsA (hf 5 _ rfl)
    refine ⟨⟨a0, a1, a2, a3, l, m⟩, ⟨A, cp, B, dp, ?_, i1, i3, hl, hm, hI⟩, ?_⟩
    · show [V 0, V 1, V 2, V 3, V 4, V 5] = _
      rw [h0, h1, h2, h3, h4, h5]; rfl
    · show _ ≤ 1 * Rows.uptoBulk (.agg [(Y 0).1, (Y 1).1, (Y 2).1, (Y 3).1, (Y 4).1, (Y 5).1])
      simp only [Rows.uptoBulk, Rows.uptoBulkAll, cHAct]
      omega) h
  rw [Nat.one_mul] at h3
  have hlen : l.length ≤ (l.map cHAct).sum := by
    have := sum_one l
    have hle : ∀ l : List HActD, (l.map fun _ => 1).sum ≤ (l.map cHAct).sum := by
      intro l
      induction l with
      | nil => simp
      | cons x l ih => have hx : cHAct x = x.refs.length + x.roots.length + 1 := rfl; simp only [List.map_cons, List.sum_cons]; omega
    have := hle l
    omega
  have hall : ∀ a ∈ l, a.refs.length ≤ 1048576 ∧ a.roots.length ≤ 1048576 := fun a ha => by
    have h5 : a.refs.length + a.roots.length + 1 ≤ (l.map cHAct).sum := sum_mem cHAct ha
    omega
  refine ⟨A, c, l, h1, ?_, by omega⟩
  obtain ⟨A', c', hv, hc, hk⟩ := h2
  refine ⟨A', c', hv, hc, fun h0 => ?_⟩
  obtain ⟨b, o, hA, hb, hlt, hk⟩ := hk h0
  refine ⟨b, o, hA, hb, hlt, fun k x hx => ?_⟩
  obtain ⟨cs, hs, ⟨A1, c1, B1, d1, hcs, i1, i3, hl, hm, hI⟩, hcell⟩ := hk k x hx
  exact ⟨cs, hs, ⟨A1, c1, B1, d1, hcs, i1, i3, hl, hm, hI, hall x (List.mem_of_getElem? hx)⟩, hcell⟩
set_option maxRecDepth 100000 in
theorem open_hacts_v {v : Value} {d : DataW H} {p : List MemPlace} {r : Reach} {b0 : Nat} (hv : Value.okWide Try.prog W r b0 22 v) (h : DataW.Trod enc Try.prog W 0 (fun _ => true) true 22 v d p) (hsm : Rows.uptoBulk d ≤ 1048576) :
    ∃ A c l, v = .slice A l.length c ∧ HActsA W.heap.size W (.slice A l.length c) l ∧ l.length ≤ 1048576 := by
  obtain ⟨A, n, c, rfl⟩ := okWide_slice Try.underlying22 hv
  obtain ⟨fuel, hf⟩ := h
  have hf' : DataW.trod enc Try.prog W 0 (fun _ => true) true fuel 22 [.slice A n c] = some (d, p) := hf
  clear hf
  obtain ⟨A', c', l, h1, h2, h3⟩ := open_hacts_ hsm hf'
  exact ⟨A', c', l, h1, h2, h3⟩
set_option maxRecDepth 100000 in
theorem open_ints_v {v : Value} {d : DataW H} {p : List MemPlace} {r : Reach} {b0 : Nat} (hv : Value.okWide Try.prog W r b0 24 v) (h : DataW.Trod enc Try.prog W 0 (fun _ => true) true 24 v d p) :
    ∃ A c l, v = .slice A l.length c ∧ SlR W.heap.size 0 1 IntZ W (.slice A l.length c) l ∧ (∀ r ∈ l, I64 r) ∧ l.length + 1 ≤ Rows.uptoBulk d := by
  obtain ⟨A, n, c, rfl⟩ := okWide_slice Try.underlying24 hv
  obtain ⟨fuel, hf⟩ := h
  have hf' : DataW.trod enc Try.prog W 0 (fun _ => true) true fuel 24 [.slice A n c] = some (d, p) := hf
  clear hf
  obtain ⟨A', c', l, h1, h2, h3, h4⟩ := open_intsA hf'
  exact ⟨A', c', l, h1, h2, h3, h4⟩
set_option maxRecDepth 100000 in
theorem open_bools_v {v : Value} {d : DataW H} {p : List MemPlace} {r : Reach} {b0 : Nat} (hv : Value.okWide Try.prog W r b0 23 v) (h : DataW.Trod enc Try.prog W 0 (fun _ => true) true 23 v d p) :
    ∃ A c l, v = .slice A l.length c ∧ SlR W.heap.size 0 1 BoolV W (.slice A l.length c) l ∧ l.length + 1 ≤ Rows.uptoBulk d := by
  obtain ⟨A, n, c, rfl⟩ := okWide_slice Try.underlying23 hv
  obtain ⟨fuel, hf⟩ := h
  have hf' : DataW.trod enc Try.prog W 0 (fun _ => true) true fuel 23 [.slice A n c] = some (d, p) := hf
  clear hf
  obtain ⟨A', c', l, h1, h2, h3⟩ := open_boolsA hf'
  exact ⟨A', c', l, h1, h2, h3⟩
theorem bulk_bound {l : List (DataW H)} (hk : Rows.uptoSmall H l = true) : Rows.uptoBulkAll l ≤ 1048576 := of_decide_eq_true hk
end
end Go.Proofs.Yteigopmdhhgnfaa
