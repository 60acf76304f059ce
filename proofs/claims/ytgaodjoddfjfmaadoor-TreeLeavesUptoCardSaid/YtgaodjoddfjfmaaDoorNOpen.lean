/-
  Trees among the arguments: their data.
-/
import Derived.Test.YtgaodjoddfjfmaaDoorOpen
import Derived.Test.YtgaodjoddfjfmaaDoorNdR
namespace Go.Proofs.YtgaodjoddfjfmaaDoor
open Go.RowKit Go.ChangeShapes Go.WideShapes Go.Deep
set_option linter.unusedVariables false
set_option linter.unusedSimpArgs false

theorem bulk_part {H : Type} {d : DataW H} {l : List (DataW H)} (h : d ∈ l) : Rows.uptoBulk d ≤ Rows.uptoBulkAll l := by
  induction l with
  | nil => cases h
  | cons x r ih =>
    simp only [Rows.uptoBulkAll]
    rcases List.mem_cons.1 h with e | e
    · subst e; omega
    · have := ih e; omega
theorem bulk_fst {H : Type} {l : List (DataW H × List MemPlace)} {i : Nat} {y : DataW H × List MemPlace} (h : l[i]? = some y) : Rows.uptoBulk y.1 ≤ Rows.uptoBulkAll (l.map (·.1)) :=
  bulk_part (List.mem_map_of_mem (f := fun z : DataW H × List MemPlace => z.1) (List.mem_of_getElem? h))
theorem wf_i64' {x : Int} (h : (Lit.int .i64 x).wf = true) : I64 x := by
  simp [Lit.wf, IntKind.min, IntKind.max, IntKind.signed, IntKind.bits] at h
  exact h
theorem wf_u64' {x : Int} (h : (Lit.int .u64 x).wf = true) : 0 ≤ x ∧ x < 18446744073709551616 := by
  simp [Lit.wf, IntKind.min, IntKind.max, IntKind.signed, IntKind.bits] at h
  omega
theorem wf_u8' {x : Int} (h : (Lit.int .u8 x).wf = true) : 0 ≤ x ∧ x < 256 := by
  simp [Lit.wf, IntKind.min, IntKind.max, IntKind.signed, IntKind.bits] at h
  omega
theorem sum_pairs {H α : Type} (c : α → Nat) : ∀ (l : List α) (el : List (DataW H × List MemPlace)), l.length = el.length → (∀ (i : Nat) (x : α) (y : DataW H × List MemPlace), l[i]? = some x → el[i]? = some y → c x ≤ Rows.uptoBulk y.1) → (l.map c).sum ≤ Rows.uptoBulkAll (el.map (·.1))
  | [], [], _, _ => by simp
  | [], _ :: _, h, _ => by simp at h
  | _ :: _, [], h, _ => by simp at h
  | x :: l, y :: el, h, hc => by
    have h1 := hc 0 x y rfl rfl
    have h2 := sum_pairs c l el (by simpa using h) fun i a b ha hb => hc (i + 1) a b (by simpa using ha) (by simpa using hb)
    simp only [List.map_cons, List.sum_cons, Rows.uptoBulkAll]
    omega
theorem sizeL_sum (l : List Nd) : sizeL l = (l.map Nd.size).sum := by
  induction l with
  | nil => rfl
  | cons x l ih => simp [sizeL, ih]
section
variable {H : Type} {enc : TypeId × Value → H} {W : World}
theorem open_rowsC {α : Type} {t e size fuel N : Nat} {u : Value} {x : DataW H × List MemPlace} {R : World → List Value → α → Prop} (C : α → Nat) (ht : Tryd.prog.underlying t = some (.slice e)) (hsz : Tryd.prog.cellsOf e = size) (h0 : 0 < size)
    (h : DataW.trod enc Tryd.prog W 0 (fun _ => true) true fuel t [u] = some x) (hb : Rows.uptoBulk x.1 ≤ N) (hel : ∀ m, m < fuel → ∀ cs y, DataW.trod enc Tryd.prog W 0 (fun _ => true) true m e cs = some y → Rows.uptoBulk y.1 ≤ N → ∃ a, R W cs a ∧ C a ≤ Rows.uptoBulk y.1) :
    ∃ A c l, u = .slice A l.length c ∧ SlR W.heap.size 0 size R W (.slice A l.length c) l ∧ l.length + 1 ≤ Rows.uptoBulk x.1 ∧ (l.map C).sum + 1 ≤ Rows.uptoBulk x.1 := by
  rcases DataW.trod_slice ht h with ⟨h1, h2⟩ | ⟨a, len, cap, elems, rest, n, hf, h1, hx, _, hl, hm, hlen, hi, _, _⟩
  · exact ⟨none, 0, [], by simpa using h1, SlR.nil _ _ _ _ _ _ _, by rw [h2]; simp [Rows.uptoBulk], by rw [h2]; simp [Rows.uptoBulk]⟩
  · have hbe : Rows.uptoBulkAll (elems.map (·.1)) + 1 ≤ Rows.uptoBulk x.1 := by
      rw [hx]
      simp only [Rows.uptoBulk]
      omega
    have hch : ∀ i, i < len → ∃ z : α, (∃ cs : List Value, cs.length = size ∧ R W cs z ∧ ∀ j v, cs[j]? = some v → W.cell? (a.add (i * size + j)) = some v) ∧ ∀ y, elems[i]? = some y → C z ≤ Rows.uptoBulk y.1 := by
      intro i hil
      have hy : elems[i]? = some (elems[i]'(by omega)) := List.getElem?_eq_getElem (by omega)
      have hk := hi i hil
      rw [hy, Option.bind_eq_some_iff] at hk
      obtain ⟨cs, hc, htr⟩ := hk
      rw [hsz] at hc
      obtain ⟨_, hcl, hat⟩ := World.cells?_some hc
      obtain ⟨z, hz, hcz⟩ := hel n (by omega) cs _ htr (Nat.le_trans (Nat.le_trans (bulk_fst hy) (Nat.le_trans (Nat.le_succ _) hbe)) hb)
      refine ⟨z, ⟨cs, hcl, hz, fun j v hj => ?_⟩, fun y hy' => by rw [hy] at hy'; cases hy'; exact hcz⟩
      have hjl : j < size := by have := (List.getElem?_eq_some_iff.1 hj).1; omega
      rw [← Go.Deep.add_add, hat j hjl, hj]
    obtain ⟨l, hll, hlp⟩ := list_of len hch
    subst hll
    refine ⟨some a, cap, l, by simpa using h1, ⟨some a, cap, rfl, hl, fun hpos => ?_⟩, ?_, ?_⟩
    · obtain ⟨cs, k1, _, k3⟩ := (hlp 0 l[0] (List.getElem?_eq_getElem hpos)).1
      have k4 := k3 0 cs[0] (List.getElem?_eq_getElem (by omega))
      have ha0 : a.add (0 * size + 0) = a := by simp [Addr.add]
      rw [ha0] at k4
      obtain ⟨b, o, rfl, hlt⟩ := flat_of_cell k4
      refine ⟨b, o, rfl, .inl hlt, hlt, fun k y hy => ?_⟩
      obtain ⟨cs, k1, k2, k3⟩ := (hlp k y hy).1
      refine ⟨cs, k1, k2, fun j v hj => ?_⟩
      have := k3 j v hj
      rw [add_flat] at this
      rw [Nat.add_assoc]
      exact this
    · have := bulk_len (elems.map (·.1))
      rw [List.length_map] at this
      omega
    · have := sum_pairs C l elems (by omega) fun i z y hz hy => (hlp i z hz).2 y hy
      omega
theorem open_str {fuel : Nat} {cs : List Value} {x : DataW H × List MemPlace} (h : DataW.trod enc Tryd.prog W 0 (fun _ => true) true fuel 9 cs = some x) (hb : Rows.uptoBulk x.1 ≤ 1048576) : ∃ s : ByteArray, cs = [.string s] ∧ s.size ≤ 1048576 := by
  obtain ⟨s, h1, h2, h3⟩ := DataW.trod_string Tryd.underlying9 h
  refine ⟨s, h1, ?_⟩
  rw [h2] at hb
  simp only [Rows.uptoBulk, Array.length_toList] at hb
  have : s.size = s.data.size := rfl
  omega
set_option maxRecDepth 100000 in
theorem open_nd : ∀ (fuel : Nat) (cs : List Value) (x : DataW H × List MemPlace), DataW.trod enc Tryd.prog W 0 (fun _ => true) true fuel 25 cs = some x → Rows.uptoBulk x.1 ≤ 1048576 → ∃ t, NdR fuel W.heap.size W cs t ∧ Nd.size t ≤ Rows.uptoBulk x.1 := by
  intro fuel
  induction fuel using Nat.strongRecOn with
  | ind fuel IH =>
    intro cs x h hb
    obtain ⟨xs, n, hn, hx, hcl, hxl, hf⟩ := DataW.trod_struct Tryd.underlying25 h
    subst hn
    have hc5 : Tryd.prog.cellsOf 25 = 5 := by kernel_rfl
    have hi1 : Tryd.prog.cellsOf 3 = 1 := by kernel_rfl
    have hs1 : Tryd.prog.cellsOf 9 = 1 := by kernel_rfl
    have hu1 : Tryd.prog.cellsOf 22 = 1 := by kernel_rfl
    have hn1 : Tryd.prog.cellsOf 23 = 1 := by kernel_rfl
    rw [hc5] at hcl
    have hbp : ∀ (i : Nat) (y : DataW H × List MemPlace), xs[i]? = some y → Rows.uptoBulk y.1 + 1 ≤ Rows.uptoBulk x.1 := fun i y hy => by
      have h1 := bulk_fst hy
      rw [hx]
      simp only [Rows.uptoBulk]
      omega
    match cs, hcl with
    | [c0, c1, c2, c3, c4], _ =>
      have g0 : DataW.trod enc Tryd.prog W 0 (fun _ => true) true n 3 ((([c0, c1, c2, c3, c4] : List Value).drop 0).take (Tryd.prog.cellsOf 3)) = xs[0]? := hf 0 _ rfl
      have g1 : DataW.trod enc Tryd.prog W 0 (fun _ => true) true n 9 ((([c0, c1, c2, c3, c4] : List Value).drop 1).take (Tryd.prog.cellsOf 9)) = xs[1]? := hf 1 _ rfl
      have g2 : DataW.trod enc Tryd.prog W 0 (fun _ => true) true n 22 ((([c0, c1, c2, c3, c4] : List Value).drop 2).take (Tryd.prog.cellsOf 22)) = xs[2]? := hf 2 _ rfl
      have g3 : DataW.trod enc Tryd.prog W 0 (fun _ => true) true n 3 ((([c0, c1, c2, c3, c4] : List Value).drop 3).take (Tryd.prog.cellsOf 3)) = xs[3]? := hf 3 _ rfl
      have g4 : DataW.trod enc Tryd.prog W 0 (fun _ => true) true n 23 ((([c0, c1, c2, c3, c4] : List Value).drop 4).take (Tryd.prog.cellsOf 23)) = xs[4]? := hf 4 _ rfl
      have hxs : ∀ i, i < 5 → ∃ y, xs[i]? = some y := fun i hi => ⟨_, List.getElem?_eq_getElem (by rw [hxl]; exact hi)⟩
      obtain ⟨y0, e0⟩ := hxs 0 (by decide)
      obtain ⟨y1, e1⟩ := hxs 1 (by decide)
      obtain ⟨y2, e2⟩ := hxs 2 (by decide)
      obtain ⟨y3, e3⟩ := hxs 3 (by decide)
      obtain ⟨y4, e4⟩ := hxs 4 (by decide)
      simp only [hi1, hs1, hu1, hn1, List.drop, List.take, e0, e1, e2, e3, e4] at g0 g1 g2 g3 g4
      obtain ⟨k, hk1, _, hk3⟩ := DataW.trod_int Tryd.underlying3 g0
      obtain ⟨nm, hn1', hn2⟩ := open_str g1 (Nat.le_trans (Nat.le_succ _) (Nat.le_trans (hbp 1 _ e1) hb))
      obtain ⟨un, hu1', _, hu3⟩ := DataW.trod_int Tryd.underlying22 g2
      obtain ⟨cn, hq1, _, hq3⟩ := DataW.trod_int Tryd.underlying3 g3
      obtain ⟨A, c, l, rfl, hL, hLb, hLs⟩ := open_rowsC (R := NdR n W.heap.size) Nd.size Tryd.underlying23 hc5 (by decide) g4 (Nat.le_trans (Nat.le_succ _) (Nat.le_trans (hbp 4 _ e4) hb)) fun m hm cs y hy hyb => by
        obtain ⟨t, ht, hts⟩ := IH m (by omega) cs y hy hyb
        exact ⟨t, NdR.deep ht (by omega), hts⟩
      injection hk1 with hk1
      injection hn1' with hn1'
      injection hu1' with hu1'
      injection hq1 with hq1
      obtain ⟨hu4, hu5⟩ := wf_u64' hu3
      obtain ⟨un', rfl⟩ := Int.eq_ofNat_of_zero_le hu4
      subst hk1 hn1' hu1' hq1
      have b4 := hbp 4 _ e4
      refine ⟨.mk k nm un' cn l, ⟨⟨wf_i64' hk3, wf_i64' hq3, by show un' < _; omega, hn2, ?_⟩, A, c, rfl, hL⟩, ?_⟩
      · show l.length ≤ 1048576; omega
      · rw [size_eq, sizeL_sum]
        show 1 + (l.map Nd.size).sum ≤ _
        omega
set_option maxRecDepth 100000 in
theorem open_nd_v {v : Value} {d : DataW H} {p : List MemPlace} {r : Reach} {b0 : Nat} (hv : Value.okWide Tryd.prog W r b0 25 v) (h : DataW.Trod enc Tryd.prog W 0 (fun _ => true) true 25 v d p) (hb : Rows.uptoBulk d ≤ 1048576) :
    ∃ n t A c, v = .agg #[.int .i64 (Nd.kind t), .string (Nd.text t), .int .u64 (Nd.n t), .int .i64 (Nd.at_ t), .slice A (Nd.list t).length c] ∧
      NdR n W.heap.size W (ndCells (Nd.kind t) (Nd.text t) (Nd.n t) (Nd.at_ t) A (Nd.list t).length c) t ∧ Nd.size t ≤ 1048576 := by
  obtain ⟨cs, rfl, hsz⟩ := okWide_struct Tryd.underlying25 hv
  obtain ⟨fuel, hf⟩ := h
  obtain ⟨t, ht, hts⟩ := open_nd fuel cs.toList (d, p) hf hb
  cases fuel with
  | zero => exact ht.elim
  | succ n =>
    have ht' := ht
    obtain ⟨_, A, c, hcs, _⟩ := ht
    rw [hcs] at ht'
    refine ⟨n + 1, t, A, c, ?_, ht', Nat.le_trans hts hb⟩
    congr 1
    exact Array.ext' hcs
theorem open_int_v {v : Value} {d : DataW H} {p : List MemPlace} {r : Reach} {b0 : Nat} (hv : Value.okWide Tryd.prog W r b0 3 v) (h : DataW.Trod enc Tryd.prog W 0 (fun _ => true) true 3 v d p) :
    ∃ k : Int, v = .int .i64 k ∧ I64 k := by
  obtain ⟨k, rfl⟩ := okWide_int Tryd.underlying3 hv
  obtain ⟨fuel, hf⟩ := h
  obtain ⟨k', h1, h2, h3⟩ := DataW.trod_int Tryd.underlying3 hf
  have h1 : [Value.int .i64 k] = [Value.int .i64 k'] := h1
  injection h1 with h1
  injection h1 with _ h1
  subst h1
  exact ⟨k, rfl, wf_i64' h3⟩
theorem open_u8_v {v : Value} {d : DataW H} {p : List MemPlace} {r : Reach} {b0 : Nat} (hv : Value.okWide Tryd.prog W r b0 5 v) (h : DataW.Trod enc Tryd.prog W 0 (fun _ => true) true 5 v d p) :
    ∃ k : Nat, v = .int .u8 k ∧ k < 256 := by
  obtain ⟨k, rfl⟩ := okWide_int Tryd.underlying5 hv
  obtain ⟨fuel, hf⟩ := h
  obtain ⟨k', h1, h2, h3⟩ := DataW.trod_int Tryd.underlying5 hf
  have h1 : [Value.int .u8 k] = [Value.int .u8 k'] := h1
  injection h1 with h1
  injection h1 with _ h1
  subst h1
  obtain ⟨h4, h5⟩ := wf_u8' h3
  obtain ⟨m, rfl⟩ := Int.eq_ofNat_of_zero_le h4
  exact ⟨m, rfl, by omega⟩
end
theorem bulk_bound {H : Type} {l : List (DataW H)} (hk : Rows.uptoSmall H l = true) : Rows.uptoBulkAll l ≤ 1048576 := of_decide_eq_true hk
end Go.Proofs.YtgaodjoddfjfmaaDoor
