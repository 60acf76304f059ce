/-
  Bytes among the arguments: their data, and what their bulk bounds.
-/
import Derived.Test.YtdegfnejhamejaaBaseZk
import Derived.Deep.Slices
import Derived.Deep.Fields
import Derived.ChangeSame
import Derived.JoinedCond
import Derived.OpenShut
import Derived.Lib.SmallJoins
import Derived.Carry
import Derived.Test.YtdegfnejhamejaaEnc3Zk
import Derived.Test.YtdegfnejhamejaaRead1Zk
namespace Go.Proofs.Ytdegfnejhamejaa
open Go.RowKit Go.ChangeShapes Go.WideShapes Go.Deep
set_option linter.unusedVariables false
set_option linter.unusedSimpArgs false

section
variable {H : Type} {enc : TypeId × Value → H} {P : Program} {w : World} {base : Nat} {spare : Nat → Bool} {held : Bool}
theorem open_slice_fields {t e : TypeId} {fs : Array Field} {fuel : Nat} {cs : List Value} {x : DataW H × List MemPlace} (ht : P.underlying t = some (.slice e)) (he : P.underlying e = some (.struct fs))
    (hone : oneCellFields P fs = true) (hC : P.cellsOf e = fs.size) (h : DataW.trod enc P w base spare held fuel t cs = some x) :
    (cs = [.slice none 0 0] ∧ x = (.nil, [])) ∨
    ∃ (a : Addr) (len cap m : Nat) (D : Nat → DataW H) (Pl : Nat → List MemPlace), cs = [.slice (some a) len cap] ∧ base ≤ a.block ∧ len ≤ cap ∧ cap ≤ maxLen ∧ m = (if spare a.block then cap else len) ∧
      x = (.slice ((List.range len).map D) ((List.range (m - len)).map fun j => D (len + j)), MemPlace.row a (m * fs.size) ++ (List.range m).flatMap Pl) ∧
      ∀ i, i < m → ∃ (ys : List (DataW H × List MemPlace)) (n : Nat), D i = .agg (ys.map (·.1)) ∧ Pl i = ys.flatMap (·.2) ∧ ys.length = fs.size ∧
        ∀ (j : Nat) (f : Field), fs[j]? = some f → ∃ (v : Value) (y : DataW H × List MemPlace), w.cell? (a.add (i * fs.size + j)) = some v ∧ ys[j]? = some y ∧ DataW.trod enc P w base spare held n f.type [v] = some y := by
  rcases open_slice ht h with h0 | ⟨a, len, cap, m, n, D, Pl, hcs, hb, hl, hm, hmm, hx, hi⟩
  · exact .inl h0
  · refine .inr ⟨a, len, cap, m, D, Pl, hcs, hb, hl, hm, hmm, by rw [hC] at hx; exact hx, fun i him => ?_⟩
    obtain ⟨cs', hc, ht'⟩ := hi i him
    rw [hC] at hc
    obtain ⟨ys, n', hn', hy, hlen, hyl, hf⟩ := DataW.trod_struct he ht'
    obtain ⟨_, hcl, hat⟩ := World.cells?_some hc
    simp only [Prod.mk.injEq] at hy
    refine ⟨ys, n', hy.1, hy.2, hyl, fun j f hj => ?_⟩
    obtain ⟨ho, hk⟩ := hone_of hone j f hj
    have hjl : j < fs.size := (Array.getElem?_eq_some_iff.1 hj).1
    have hcell := hat j hjl
    have hv : cs'[j]? = some (cs'[j]'(by omega)) := List.getElem?_eq_getElem (by omega)
    have h1 := hf j f hj
    rw [ho, hk] at h1
    have hone' : (cs'.drop j).take 1 = [cs'[j]'(by omega)] := by
      rw [List.drop_eq_getElem_cons (by omega)]
      rfl
    rw [hone'] at h1
    have hys : ys[j]? = some (ys[j]'(by omega)) := List.getElem?_eq_getElem (by omega)
    refine ⟨_, _, ?_, hys, h1.trans hys⟩
    rw [← Go.Deep.add_add, hcell, hv]
end

theorem flat_of_cell {w : World} {a : Addr} {v : Value} (h : w.cell? a = some v) : ∃ b o, a = ⟨b, o, none⟩ ∧ b < w.heap.size := by
  have hlt := World.block_lt_of_cell? w a h
  obtain ⟨b, o, s⟩ := a
  cases s with
  | none => exact ⟨b, o, rfl, hlt⟩
  | some s => unfold World.cell? at h; split at h <;> simp at h
theorem list_of {α : Type} {P : Nat → α → Prop} : ∀ n : Nat, (∀ i, i < n → ∃ x, P i x) → ∃ l : List α, l.length = n ∧ ∀ i x, l[i]? = some x → P i x
  | 0, _ => ⟨[], rfl, by simp⟩
  | n + 1, h => by
    obtain ⟨l, hl, hp⟩ := list_of n fun i hi => h i (by omega)
    obtain ⟨x, hx⟩ := h n (by omega)
    refine ⟨l ++ [x], by simp [hl], fun i y hy => ?_⟩
    by_cases hi : i < n
    · rw [List.getElem?_append_left (by omega)] at hy
      exact hp i y hy
    · rw [List.getElem?_append_right (by omega)] at hy
      have h0 : i - l.length = 0 := by
        rcases Nat.eq_zero_or_pos (i - l.length) with h1 | h1
        · exact h1
        · rw [List.getElem?_eq_none (by simp; omega)] at hy; cases hy
      rw [h0] at hy
      simp at hy
      subst hy
      have : i = n := by omega
      subst this
      exact hx
theorem bulk_one {H : Type} (d : DataW H) : 1 ≤ Rows.uptoBulk d := by
  cases d with
  | lit l => cases l <;> simp [Rows.uptoBulk]
  | nil => simp [Rows.uptoBulk]
  | ptr d => simp [Rows.uptoBulk]
  | slice elems spare => simp [Rows.uptoBulk]
  | agg parts => simp [Rows.uptoBulk]
  | iface t d => simp [Rows.uptoBulk]
  | map entries => simp [Rows.uptoBulk]
  | held h => simp [Rows.uptoBulk]
theorem bulk_sum {H α : Type} (c : α → Nat) (K : Nat) : ∀ (l : List α) (D : Nat → DataW H), (∀ i x, l[i]? = some x → c x ≤ K * Rows.uptoBulk (D i)) → (l.map c).sum ≤ K * Rows.uptoBulkAll ((List.range l.length).map D)
  | [], D, _ => by simp
  | x :: l, D, h => by
    have h0 := h 0 x rfl
    have ih := bulk_sum c K l (fun i => D (i + 1)) fun i y hy => h (i + 1) y (by simpa using hy)
    rw [List.length_cons, List.range_succ_eq_map, List.map_cons, List.map_cons, List.map_map]
    simp only [Rows.uptoBulkAll, List.map_cons, List.sum_cons]
    have e : (D ∘ Nat.succ) = fun i => D (i + 1) := rfl
    rw [e, Nat.mul_add]
    omega
theorem bulk_len {H : Type} : ∀ l : List (DataW H), l.length ≤ Rows.uptoBulkAll l
  | [] => by simp [Rows.uptoBulkAll]
  | x :: l => by have := bulk_one x; have := bulk_len l; simp only [Rows.uptoBulkAll, List.length_cons]; omega

section
variable {H : Type} {enc : TypeId × Value → H} {P : Program} {W W' : World}
theorem trodAll_stays {sp' : Nat → Bool} (hl : laidOutB P = true) : ∀ {ts : List TypeId} {vs : List Value} {ds : List (DataW H)} {ps : List MemPlace}, (∀ t ∈ ts, P.readableRec t = true ∧ t < P.types.size) →
    DataW.TrodAll enc P W 0 (fun _ => true) true ts vs ds ps → (∀ p ∈ ps, W.sameAt W' p) → (∀ p ∈ ps, sp' p.block = true) → DataW.TrodAll enc P W' 0 sp' true ts vs ds ps
  | [], [], [], ps, _, h, _, _ => h
  | t :: ts, v :: vs, d :: ds, ps, ht, h, hs, hp => by
    obtain ⟨p, q, h1, h2, rfl⟩ := h
    obtain ⟨a, b⟩ := ht t (by simp)
    exact ⟨p, q, WideElems.Trod_stays hl a b h1 (fun x hx => hs x (by simp [hx])) (fun x hx => hp x (by simp [hx])), trodAll_stays hl (fun t h => ht t (by simp [h])) h2 (fun x hx => hs x (by simp [hx])) (fun x hx => hp x (by simp [hx])), rfl⟩
  | [], _ :: _, _, _, _, h, _, _ => h.elim
  | [], [], _ :: _, _, _, h, _, _ => h.elim
  | _ :: _, [], _, _, _, h, _, _ => h.elim
  | _ :: _, _ :: _, [], _, _, h, _, _ => h.elim
/-- THE LAST STEP OF A STATEMENT's ROW: it answered true, and nothing that was there has turned. -/
theorem law_post {f : Func} {s : ChangeSpec} {args : Array Value} {ds gs : List (DataW H)} {before : List MemPlace} (hl : laidOutB P = true) (hts : ∀ t ∈ f.params.toList, P.readableRec t = true ∧ t < P.types.size) {tb : TypeId} (hr : f.resultTypes = #[tb])
    (htb : P.underlying tb = some .bool) (hv : s.vars = []) (hs : s.fn H (ds ++ gs) = { results := [.lit (.bool true)], args := ds }) (hW : DataW.Whole enc P f.params.toList s.vars false W args.toList ds gs before) (hb : Below W.heap.size W W') :
    s.post enc P f false true false false W args (.bool true) W' := by
  have hW' := hW
  obtain ⟨p, q, hA, hV, rfl, hz, hn⟩ := hW
  have hlt : ∀ x ∈ p ++ q, x.block < W.heap.size := fun x hx => hW'.lt x hx
  refine ⟨ds, gs, p ++ q, [], p, [], hW', ?_, ?_, ?_, hb.frame _, fun h => by cases h⟩
  · rw [hr, hs]
    exact trodAll_cons_mk (shut_bool htb _) trodAll_mk0
  · rw [hs]
    exact trodAll_stays hl hts hA (fun x hx => hb.same (hlt x (by simp [hx]))) fun x hx => by simpa using hlt x (by simp [hx])
  · rw [hs, hv]
    rfl
end
end Go.Proofs.Ytdegfnejhamejaa
namespace Go.Proofs.Ytdegfnejhamejaa
open Go.RowKit Go.ChangeShapes Go.WideShapes Go.Deep
set_option linter.unusedVariables false
set_option linter.unusedSimpArgs false

theorem sum_ten : ∀ l : List Int, (l.map fun _ => 10).sum = 10 * l.length
  | [] => rfl
  | x :: l => by have := sum_ten l; simp only [List.map_cons, List.sum_cons, List.length_cons]; omega
theorem wf_i64 {x : Int} (h : (Lit.int .i64 x).wf = true) : I64 x := by
  simp [Lit.wf, IntKind.min, IntKind.max, IntKind.signed, IntKind.bits] at h
  exact h
theorem wf_u64 {x : Int} (h : (Lit.int .u64 x).wf = true) : ∃ n : Nat, x = n ∧ U64 n := by
  simp [Lit.wf, IntKind.min, IntKind.max, IntKind.signed, IntKind.bits] at h
  exact ⟨x.toNat, by omega, by unfold U64; omega⟩

section
variable {H : Type} {enc : TypeId × Value → H} {W : World} {n : Nat} {u : Value} {y : DataW H × List MemPlace}
theorem open_int_ (h : DataW.trod enc Try.prog W 0 (fun _ => true) true n 3 [u] = some y) : ∃ x, u = .int .i64 x ∧ I64 x := by
  obtain ⟨x, h1, h2, h3⟩ := DataW.trod_int Try.underlying3 h
  exact ⟨x, by simpa using h1, wf_i64 h3⟩
theorem open_u64_ (h : DataW.trod enc Try.prog W 0 (fun _ => true) true n 47 [u] = some y) : ∃ x : Nat, u = .int .u64 x ∧ U64 x := by
  obtain ⟨x, h1, h2, h3⟩ := DataW.trod_int Try.underlying47 h
  obtain ⟨k, rfl, hk⟩ := wf_u64 h3
  exact ⟨k, by simpa using h1, hk⟩
theorem open_bool_ (h : DataW.trod enc Try.prog W 0 (fun _ => true) true n 4 [u] = some y) : ∃ x, u = .bool x := by
  obtain ⟨x, h1, h2⟩ := DataW.trod_bool Try.underlying4 h
  exact ⟨x, by simpa using h1⟩
theorem open_ints_ (h : DataW.trod enc Try.prog W 0 (fun _ => true) true n 31 [u] = some y) : ∃ A c l, u = .slice A l.length c ∧ IntsR W.heap.size W (.slice A l.length c) l ∧ l.length + 1 ≤ Rows.uptoBulk y.1 := by
  rcases open_ints Try.underlying31 Try.underlying3 (by kernel_rfl) h with ⟨h1, h2⟩ | ⟨a, len, cap, zs, h1, _, hl, hm, hz, hx, hcell, hwf⟩
  · exact ⟨none, 0, [], by simpa using h1, SlR.nil _ _ _ _ _ _ _, by rw [h2]; simp [Rows.uptoBulk]⟩
  · simp only [if_true] at hz
    have htl : (zs.take len).length = len := by rw [List.length_take]; omega
    refine ⟨some a, cap, zs.take len, by rw [htl]; simpa using h1, ⟨some a, cap, rfl, by omega, fun h0 => ?_⟩, ?_⟩
    · have h00 := hcell 0 (by omega)
      have ha0 : a.add 0 = a := by simp [Addr.add]
      rw [ha0] at h00
      obtain ⟨b, o, rfl, hb⟩ := flat_of_cell h00
      refine ⟨b, o, rfl, .inl hb, hb, fun k x hx => ⟨[.int .i64 x], rfl, ⟨rfl, ?_⟩, fun j v hj => ?_⟩⟩
      · have hmem := List.mem_of_getElem? hx
        exact wf_i64 (hwf x (List.mem_of_mem_take hmem))
      · have hk : k < (zs.take len).length := (List.getElem?_eq_some_iff.1 hx).1
        have hkz := hcell k (by omega)
        rw [add_flat] at hkz
        match j, hj with
        | 0, hj =>
          simp at hj
          subst hj
          rw [List.getElem?_take] at hx
          rw [if_pos (by omega)] at hx
          rw [show o + k * 1 + 0 = o + k by omega, hkz]
          simp [List.getD, hx]
        | j + 1, hj => simp at hj
    · rw [hx]
      simp only [Rows.uptoBulk]
      have := bulk_len (lits (H := H) .i64 (zs.take len))
      simp only [lits, List.length_map] at this
      simp only [lits]
      omega

/-- A slice of structs, element by element. -/
theorem open_slice_of {α : Type} {t e : TypeId} {fs : Array Field} {R : World → List Value → α → Prop} (ht : Try.prog.underlying t = some (.slice e)) (he : Try.prog.underlying e = some (.struct fs)) (hone : oneCellFields Try.prog fs = true) (hC : Try.prog.cellsOf e = fs.size) (hfs : 0 < fs.size) (c : α → Nat) (K : Nat)
    (hel : ∀ (V : Nat → Value) (Y : Nat → DataW H × List MemPlace) (m : Nat), (∀ (j : Nat) (f : Field), fs[j]? = some f → DataW.trod enc Try.prog W 0 (fun _ => true) true m f.type [V j] = some (Y j)) →
      ∃ x, R W ((List.range fs.size).map V) x ∧ c x ≤ K * Rows.uptoBulk (.agg ((List.range fs.size).map fun j => (Y j).1)))
    (h : DataW.trod enc Try.prog W 0 (fun _ => true) true n t [u] = some y) : ∃ A cp l, u = .slice A l.length cp ∧ SlR W.heap.size 0 fs.size R W (.slice A l.length cp) l ∧ (l.map c).sum + K ≤ K * Rows.uptoBulk y.1 := by
  rcases open_slice_fields ht he hone hC h with ⟨h1, h2⟩ | ⟨a, len, cap, m, D, Pl, h1, _, hl, hm, hmm, hx, hi⟩
  · exact ⟨none, 0, [], by simpa using h1, SlR.nil _ _ _ _ _ _ _, by rw [h2]; simp [Rows.uptoBulk]⟩
  · simp only [if_true] at hmm
    subst hmm
    have hch : ∀ i, i < len → ∃ x : α, ∃ cs : List Value, cs.length = fs.size ∧ R W cs x ∧ (∀ j v, cs[j]? = some v → W.cell? (a.add (i * fs.size + j)) = some v) ∧ c x ≤ K * Rows.uptoBulk (D i) := by
      intro i hil
      obtain ⟨ys, k, hD, _, hys, hf⟩ := hi i (by omega)
      have hV : ∀ j : Nat, ∃ v : Value, j < fs.size → ∃ f, fs[j]? = some f ∧ W.cell? (a.add (i * fs.size + j)) = some v ∧ ∃ yy, ys[j]? = some yy ∧ DataW.trod enc Try.prog W 0 (fun _ => true) true k f.type [v] = some yy := by
        intro j
        by_cases hj : j < fs.size
        · obtain ⟨v, yy, h1, h2, h3⟩ := hf j fs[j] (Array.getElem?_eq_getElem hj)
          exact ⟨v, fun _ => ⟨_, Array.getElem?_eq_getElem hj, h1, yy, h2, h3⟩⟩
        · exact ⟨.bool false, fun h => absurd h hj⟩
      let V : Nat → Value := fun j => Classical.choose (hV j)
      have hVs := fun j => Classical.choose_spec (hV j)
      let Y : Nat → DataW H × List MemPlace := fun j => ys.getD j (.nil, [])
      obtain ⟨x, hx1, hx2⟩ := hel V Y k fun j f hj => by
        have hjl : j < fs.size := (Array.getElem?_eq_some_iff.1 hj).1
        obtain ⟨f', hf', _, yy, hyy, ht'⟩ := hVs j hjl
        have : f' = f := by rw [hf'] at hj; injection hj
        subst this
        have hY : Y j = yy := by show ys.getD j _ = yy; rw [List.getD_eq_getElem?_getD, hyy]; rfl
        rw [hY]
        exact ht'
      refine ⟨x, (List.range fs.size).map V, by simp, hx1, fun j v hj => ?_, ?_⟩
      · rw [List.getElem?_map] at hj
        obtain ⟨j', h1, h2⟩ := Option.map_eq_some_iff.1 hj
        obtain ⟨h3, h4⟩ := List.getElem?_eq_some_iff.1 h1
        rw [List.getElem_range] at h4
        subst h4
        obtain ⟨_, _, hc, _⟩ := hVs j (by simpa using h3)
        rw [← h2]
        exact hc
      · have : (List.range fs.size).map (fun j => (Y j).1) = ys.map (·.1) := by
          apply List.ext_getElem (by simp [hys])
          intro j h1 h2
          simp only [List.getElem_map, List.getElem_range]
          show (ys.getD j _).1 = _
          rw [List.getD_eq_getElem?_getD, List.getElem?_eq_getElem (by simpa using h2)]
          rfl
        rw [this, ← hD] at hx2
        exact hx2
    obtain ⟨l, hll, hlp⟩ := list_of len hch
    subst hll
    refine ⟨some a, m, l, by simpa using h1, ⟨some a, m, rfl, hl, fun h0 => ?_⟩, ?_⟩
    · obtain ⟨cs, h1, _, h3, _⟩ := hlp 0 l[0] (List.getElem?_eq_getElem h0)
      have h4 := h3 0 cs[0] (List.getElem?_eq_getElem (by omega))
      have ha0 : a.add (0 * fs.size + 0) = a := by simp [Addr.add]
      rw [ha0] at h4
      obtain ⟨b, o, rfl, hb⟩ := flat_of_cell h4
      refine ⟨b, o, rfl, .inl hb, hb, fun k x hx => ?_⟩
      obtain ⟨cs, h1, h2, h3, _⟩ := hlp k x hx
      refine ⟨cs, h1, h2, fun j v hj => ?_⟩
      have := h3 j v hj
      rw [add_flat] at this
      rw [Nat.add_assoc]
      exact this
    · have := bulk_sum c K l D fun i x hx => (hlp i x hx).choose_spec.2.2.2
      rw [hx]
      simp only [Rows.uptoBulk]
      rw [Nat.mul_add, Nat.mul_add]
      omega
theorem open_cases_ (h : DataW.trod enc Try.prog W 0 (fun _ => true) true n 48 [u] = some y) : ∃ A c l, u = .slice A l.length c ∧ CasesR W.heap.size W (.slice A l.length c) l ∧ (l.map cCase).sum + 100 ≤ 100 * Rows.uptoBulk y.1 := by
  refine open_slice_of (R := CaseR) Try.underlying48 Try.underlying52 (by kernel_rfl) (by kernel_rfl) (by decide) cCase 100 (fun V Y m hf => ?_) h
  obtain ⟨a, h0⟩ := open_bool_ (hf 0 _ rfl)
  obtain ⟨b, h1, i1⟩ := open_int_ (hf 1 _ rfl)
  obtain ⟨c, h2, i2⟩ := open_int_ (hf 2 _ rfl)
  obtain ⟨d, h3, i3⟩ := open_int_ (hf 3 _ rfl)
  refine ⟨⟨a, b, c, d⟩, ⟨?_, i1, i2, i3⟩, ?_⟩
  · show [V 0, V 1, V 2, V 3] = _
    rw [h0, h1, h2, h3]
  · simp only [Rows.uptoBulk, cCase]; omega
theorem open_shapes_ (h : DataW.trod enc Try.prog W 0 (fun _ => true) true n 22 [u] = some y) : ∃ A c l, u = .slice A l.length c ∧ ShapesR W.heap.size W (.slice A l.length c) l ∧ (l.map cShape).sum + 100 ≤ 100 * Rows.uptoBulk y.1 := by
  refine open_slice_of (R := ShapeR W.heap.size) Try.underlying22 Try.underlying37 (by kernel_rfl) (by kernel_rfl) (by decide) cShape 100 (fun V Y m hf => ?_) h
  obtain ⟨a, h0, i0⟩ := open_int_ (hf 0 _ rfl)
  obtain ⟨A, c, l, h1, hl, hb⟩ := open_ints_ (hf 1 _ rfl)
  obtain ⟨b, h2, i2⟩ := open_int_ (hf 2 _ rfl)
  refine ⟨⟨a, l, b⟩, ⟨A, c, ?_, i0, i2, hl⟩, ?_⟩
  · show [V 0, V 1, V 2] = _
    rw [h0, h1, h2]
  · show _ ≤ 100 * Rows.uptoBulk (.agg [(Y 0).1, (Y 1).1, (Y 2).1])
    have := bulk_one (Y 0).1
    have := bulk_one (Y 2).1
    simp only [Rows.uptoBulk, Rows.uptoBulkAll, cShape, cInts, sum_ten]
    omega
theorem open_instrs_ (h : DataW.trod enc Try.prog W 0 (fun _ => true) true n 32 [u] = some y) : ∃ A c l, u = .slice A l.length c ∧ InstrsR W.heap.size W (.slice A l.length c) l ∧ (l.map cInstr).sum + 100 ≤ 100 * Rows.uptoBulk y.1 := by
  refine open_slice_of (R := InstrR W.heap.size) Try.underlying32 Try.underlying50 (by kernel_rfl) (by kernel_rfl) (by decide) cInstr 100 (fun V Y m hf => ?_) h
  obtain ⟨a, h0, i0⟩ := open_int_ (hf 0 _ rfl)
  obtain ⟨b, h1, i1⟩ := open_int_ (hf 1 _ rfl)
  obtain ⟨c, h2, i2⟩ := open_int_ (hf 2 _ rfl)
  obtain ⟨d, h3, i3⟩ := open_u64_ (hf 3 _ rfl)
  obtain ⟨A, cp, l, h4, hl, hb⟩ := open_cases_ (hf 4 _ rfl)
  refine ⟨⟨a, b, c, d, l⟩, ⟨A, cp, ?_, i0, i1, i2, i3, hl⟩, ?_⟩
  · show [V 0, V 1, V 2, V 3, V 4] = _
    rw [h0, h1, h2, h3, h4]
  · show _ ≤ 100 * Rows.uptoBulk (.agg [(Y 0).1, (Y 1).1, (Y 2).1, (Y 3).1, (Y 4).1])
    simp only [Rows.uptoBulk, Rows.uptoBulkAll, cInstr]
    omega
theorem open_funcs_ (h : DataW.trod enc Try.prog W 0 (fun _ => true) true n 23 [u] = some y) : ∃ A c l, u = .slice A l.length c ∧ FuncsR W.heap.size W (.slice A l.length c) l ∧ (l.map cFunc).sum + 100 ≤ 100 * Rows.uptoBulk y.1 := by
  refine open_slice_of (R := FuncR W.heap.size) Try.underlying23 Try.underlying34 (by kernel_rfl) (by kernel_rfl) (by decide) cFunc 100 (fun V Y m hf => ?_) h
  obtain ⟨a, h0, i0⟩ := open_int_ (hf 0 _ rfl)
  obtain ⟨A1, c1, l1, h1, hl1, hb1⟩ := open_ints_ (hf 1 _ rfl)
  obtain ⟨A2, c2, l2, h2, hl2, hb2⟩ := open_ints_ (hf 2 _ rfl)
  obtain ⟨b, h3, i3⟩ := open_int_ (hf 3 _ rfl)
  obtain ⟨A4, c4, l4, h4, hl4, hb4⟩ := open_instrs_ (hf 4 _ rfl)
  refine ⟨⟨a, l1, l2, b, l4⟩, ⟨A1, c1, A2, c2, A4, c4, ?_, i0, i3, hl1, hl2, hl4⟩, ?_⟩
  · show [V 0, V 1, V 2, V 3, V 4] = _
    rw [h0, h1, h2, h3, h4]
  · show _ ≤ 100 * Rows.uptoBulk (.agg [(Y 0).1, (Y 1).1, (Y 2).1, (Y 3).1, (Y 4).1])
    simp only [Rows.uptoBulk, Rows.uptoBulkAll, cFunc, cInts, sum_ten]
    omega
set_option maxRecDepth 100000 in
theorem open_mod_ {v : Value} {d : DataW H} {p : List MemPlace} {r : Reach} {b0 : Nat} (hv : Value.okWide Try.prog W r b0 25 v) (h : DataW.Trod enc Try.prog W 0 (fun _ => true) true 25 v d p) :
    ∃ m, ModR W.heap.size W v m ∧ cMod m ≤ 100 * Rows.uptoBulk d := by
  obtain ⟨v0, v1, y0, y1, n, rfl, rfl, rfl, h0, h1⟩ := Joins.open_agg2 Try.underlying25 (by kernel_rfl) (by kernel_rfl) hv h
  obtain ⟨A, c, l, rfl, hl, hb⟩ := open_shapes_ h0
  obtain ⟨A', c', l', rfl, hl', hb'⟩ := open_funcs_ h1
  refine ⟨⟨l, l'⟩, ⟨A, c, A', c', rfl, hl, hl'⟩, ?_⟩
  simp only [Rows.uptoBulk, Rows.uptoBulkAll, cMod]
  omega
theorem bulk_bound {l : List (DataW H)} (hk : Rows.uptoSmall H l = true) : Rows.uptoBulkAll l ≤ 1048576 := of_decide_eq_true hk
end
end Go.Proofs.Ytdegfnejhamejaa
namespace Go.Proofs.Ytdegfnejhamejaa
open Go.RowKit Go.ChangeShapes Go.WideShapes Go.Deep
set_option linter.unusedVariables false
set_option linter.unusedSimpArgs false

end Go.Proofs.Ytdegfnejhamejaa
