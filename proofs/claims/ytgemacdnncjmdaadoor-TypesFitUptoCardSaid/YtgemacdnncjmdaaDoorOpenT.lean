/-
  Types among the arguments: their data.
-/
import Derived.Test.YtgemacdnncjmdaaDoorOpen
import Derived.Test.YtgemacdnncjmdaaDoorTFill4
namespace Go.Proofs.YtgemacdnncjmdaaDoor
open Go.RowKit Go.ChangeShapes Go.WideShapes Go.Deep
set_option linter.unusedVariables false
set_option linter.unusedSimpArgs false

theorem bulk_part {H : Type} {d : DataW H} {l : List (DataW H)} (h : d ∈ l) : Rows.uptoBulk d ≤ Rows.uptoBulkAll l := by
  induction l with
  | nil => cases h
  | cons x r ih =>
    simp only [Rows.uptoBulkAll]
    rcases List.mem_cons.1 h with e | e
    · subst e; omega
    · have := ih e; omega
theorem bulk_fst {H : Type} {l : List (DataW H × List MemPlace)} {i : Nat} {y : DataW H × List MemPlace} (h : l[i]? = some y) : Rows.uptoBulk y.1 ≤ Rows.uptoBulkAll (l.map (·.1)) :=
  bulk_part (List.mem_map_of_mem (f := fun z : DataW H × List MemPlace => z.1) (List.mem_of_getElem? h))
theorem wf_i64' {x : Int} (h : (Lit.int .i64 x).wf = true) : I64 x := by
  simp [Lit.wf, IntKind.min, IntKind.max, IntKind.signed, IntKind.bits] at h
  exact h
section
variable {H : Type} {enc : TypeId × Value → H} {W : World}
theorem open_rows {α : Type} {t e size fuel N : Nat} {u : Value} {x : DataW H × List MemPlace} {R : World → List Value → α → Prop} (ht : Tryd.prog.underlying t = some (.slice e)) (hsz : Tryd.prog.cellsOf e = size) (h0 : 0 < size)
    (h : DataW.trod enc Tryd.prog W 0 (fun _ => true) true fuel t [u] = some x) (hb : Rows.uptoBulk x.1 ≤ N) (hel : ∀ m, m < fuel → ∀ cs y, DataW.trod enc Tryd.prog W 0 (fun _ => true) true m e cs = some y → Rows.uptoBulk y.1 ≤ N → ∃ a, R W cs a) :
    ∃ A c l, u = .slice A l.length c ∧ SlR W.heap.size 0 size R W (.slice A l.length c) l ∧ l.length + 1 ≤ Rows.uptoBulk x.1 := by
  rcases DataW.trod_slice ht h with ⟨h1, h2⟩ | ⟨a, len, cap, elems, rest, n, hf, h1, hx, _, hl, hm, hlen, hi, _, _⟩
  · exact ⟨none, 0, [], by simpa using h1, SlR.nil _ _ _ _ _ _ _, by rw [h2]; simp [Rows.uptoBulk]⟩
  · have hbe : Rows.uptoBulkAll (elems.map (·.1)) + 1 ≤ Rows.uptoBulk x.1 := by
      rw [hx]
      simp only [Rows.uptoBulk]
      omega
    have hch : ∀ i, i < len → ∃ z : α, ∃ cs : List Value, cs.length = size ∧ R W cs z ∧ ∀ j v, cs[j]? = some v → W.cell? (a.add (i * size + j)) = some v := by
      intro i hil
      have hy : elems[i]? = some (elems[i]'(by omega)) := List.getElem?_eq_getElem (by omega)
      have hk := hi i hil
      rw [hy, Option.bind_eq_some_iff] at hk
      obtain ⟨cs, hc, htr⟩ := hk
      rw [hsz] at hc
      obtain ⟨_, hcl, hat⟩ := World.cells?_some hc
      obtain ⟨z, hz⟩ := hel n (by omega) cs _ htr (Nat.le_trans (Nat.le_trans (bulk_fst hy) (Nat.le_trans (Nat.le_succ _) hbe)) hb)
      refine ⟨z, cs, hcl, hz, fun j v hj => ?_⟩
      have hjl : j < size := by have := (List.getElem?_eq_some_iff.1 hj).1; omega
      rw [← Go.Deep.add_add, hat j hjl, hj]
    obtain ⟨l, hll, hlp⟩ := list_of len hch
    subst hll
    refine ⟨some a, cap, l, by simpa using h1, ⟨some a, cap, rfl, hl, fun hpos => ?_⟩, ?_⟩
    · obtain ⟨cs, k1, _, k3⟩ := hlp 0 l[0] (List.getElem?_eq_getElem hpos)
      have k4 := k3 0 cs[0] (List.getElem?_eq_getElem (by omega))
      have ha0 : a.add (0 * size + 0) = a := by simp [Addr.add]
      rw [ha0] at k4
      obtain ⟨b, o, rfl, hlt⟩ := flat_of_cell k4
      refine ⟨b, o, rfl, .inl hlt, hlt, fun k y hy => ?_⟩
      obtain ⟨cs, k1, k2, k3⟩ := hlp k y hy
      refine ⟨cs, k1, k2, fun j v hj => ?_⟩
      have := k3 j v hj
      rw [add_flat] at this
      rw [Nat.add_assoc]
      exact this
    · have := bulk_len (elems.map (·.1))
      rw [List.length_map] at this
      omega
theorem open_str {fuel : Nat} {cs : List Value} {x : DataW H × List MemPlace} (h : DataW.trod enc Tryd.prog W 0 (fun _ => true) true fuel 9 cs = some x) (hb : Rows.uptoBulk x.1 ≤ 1048576) : ∃ s : ByteArray, cs = [.string s] ∧ s.size ≤ 1048576 := by
  obtain ⟨s, h1, h2, h3⟩ := DataW.trod_string Tryd.underlying9 h
  refine ⟨s, h1, ?_⟩
  rw [h2] at hb
  simp only [Rows.uptoBulk, Array.length_toList] at hb
  have : s.size = s.data.size := rfl
  omega
set_option maxRecDepth 100000 in
theorem open_ty : ∀ (fuel : Nat) (cs : List Value) (x : DataW H × List MemPlace), DataW.trod enc Tryd.prog W 0 (fun _ => true) true fuel 33 cs = some x → Rows.uptoBulk x.1 ≤ 1048576 → ∃ t, TyR fuel W.heap.size W cs t := by
  intro fuel
  induction fuel using Nat.strongRecOn with
  | ind fuel IH =>
    intro cs x h hb
    obtain ⟨xs, n, hn, hx, hcl, hxl, hf⟩ := DataW.trod_struct Tryd.underlying33 h
    subst hn
    have hc6 : Tryd.prog.cellsOf 33 = 6 := by kernel_rfl
    have hc7 : Tryd.prog.cellsOf 35 = 7 := by kernel_rfl
    have hi1 : Tryd.prog.cellsOf 3 = 1 := by kernel_rfl
    have hs1 : Tryd.prog.cellsOf 9 = 1 := by kernel_rfl
    have hf1 : Tryd.prog.cellsOf 31 = 1 := by kernel_rfl
    have ht1 : Tryd.prog.cellsOf 23 = 1 := by kernel_rfl
    rw [hc6] at hcl
    have hbp : ∀ (i : Nat) (y : DataW H × List MemPlace), xs[i]? = some y → Rows.uptoBulk y.1 ≤ 1048576 := fun i y hy => by
      have h1 := bulk_fst hy
      rw [hx] at hb
      simp only [Rows.uptoBulk] at hb
      omega
    match cs, hcl with
    | [c0, c1, c2, c3, c4, c5], _ =>
      have g0 : DataW.trod enc Tryd.prog W 0 (fun _ => true) true n 3 ((([c0, c1, c2, c3, c4, c5] : List Value).drop 0).take (Tryd.prog.cellsOf 3)) = xs[0]? := hf 0 _ rfl
      have g1 : DataW.trod enc Tryd.prog W 0 (fun _ => true) true n 9 ((([c0, c1, c2, c3, c4, c5] : List Value).drop 1).take (Tryd.prog.cellsOf 9)) = xs[1]? := hf 1 _ rfl
      have g2 : DataW.trod enc Tryd.prog W 0 (fun _ => true) true n 3 ((([c0, c1, c2, c3, c4, c5] : List Value).drop 2).take (Tryd.prog.cellsOf 3)) = xs[2]? := hf 2 _ rfl
      have g3 : DataW.trod enc Tryd.prog W 0 (fun _ => true) true n 31 ((([c0, c1, c2, c3, c4, c5] : List Value).drop 3).take (Tryd.prog.cellsOf 31)) = xs[3]? := hf 3 _ rfl
      have g4 : DataW.trod enc Tryd.prog W 0 (fun _ => true) true n 23 ((([c0, c1, c2, c3, c4, c5] : List Value).drop 4).take (Tryd.prog.cellsOf 23)) = xs[4]? := hf 4 _ rfl
      have g5 : DataW.trod enc Tryd.prog W 0 (fun _ => true) true n 23 ((([c0, c1, c2, c3, c4, c5] : List Value).drop 5).take (Tryd.prog.cellsOf 23)) = xs[5]? := hf 5 _ rfl
      have hxs : ∀ i, i < 6 → ∃ y, xs[i]? = some y := fun i hi => ⟨_, List.getElem?_eq_getElem (by rw [hxl]; exact hi)⟩
      obtain ⟨y0, e0⟩ := hxs 0 (by decide)
      obtain ⟨y1, e1⟩ := hxs 1 (by decide)
      obtain ⟨y2, e2⟩ := hxs 2 (by decide)
      obtain ⟨y3, e3⟩ := hxs 3 (by decide)
      obtain ⟨y4, e4⟩ := hxs 4 (by decide)
      obtain ⟨y5, e5⟩ := hxs 5 (by decide)
      simp only [hi1, hs1, hf1, ht1, List.drop, List.take, e0, e1, e2, e3, e4, e5] at g0 g1 g2 g3 g4 g5
      obtain ⟨k, hk1, _, hk3⟩ := DataW.trod_int Tryd.underlying3 g0
      obtain ⟨nm, hn1, hn2⟩ := open_str g1 (hbp 1 _ e1)
      obtain ⟨cn, hq1, _, hq3⟩ := DataW.trod_int Tryd.underlying3 g2
      obtain ⟨Af, cf, lf, rfl, hF, hFb⟩ := open_rows (R := FdR (TyR n W.heap.size)) Tryd.underlying31 hc7 (by decide) g3 (hbp 3 _ e3) fun m hm cs y hy hyb => by
        obtain ⟨zs, p, hp, hyx, hzl, hzs, hzf⟩ := DataW.trod_struct Tryd.underlying35 hy
        subst hp
        rw [hc7] at hzl
        have hbq : ∀ (i : Nat) (z : DataW H × List MemPlace), zs[i]? = some z → Rows.uptoBulk z.1 ≤ 1048576 := fun i z hz => by
          have h1 := bulk_fst hz
          rw [hyx] at hyb
          simp only [Rows.uptoBulk] at hyb
          omega
        match cs, hzl with
        | c :: ds, hdl =>
          have q0 : DataW.trod enc Tryd.prog W 0 (fun _ => true) true p 9 (((c :: ds).drop 0).take (Tryd.prog.cellsOf 9)) = zs[0]? := hzf 0 _ rfl
          have q1 : DataW.trod enc Tryd.prog W 0 (fun _ => true) true p 33 (((c :: ds).drop 1).take (Tryd.prog.cellsOf 33)) = zs[1]? := hzf 1 _ rfl
          have hz : ∀ i, i < 2 → ∃ z, zs[i]? = some z := fun i hi => ⟨_, List.getElem?_eq_getElem (by rw [hzs]; exact hi)⟩
          obtain ⟨z0, w0⟩ := hz 0 (by decide)
          obtain ⟨z1, w1⟩ := hz 1 (by decide)
          simp only [hs1, hc6, List.drop, List.take, w0, w1] at q0 q1
          obtain ⟨s, hs, hs2⟩ := open_str q0 (hbq 0 _ w0)
          have hds : ds.take 6 = ds := List.take_of_length_le (by simp at hdl; omega)
          rw [hds] at q1
          obtain ⟨t, ht⟩ := IH p (by omega) ds _ q1 (hbq 1 _ w1)
          injection hs with hs
          subst hs
          exact ⟨(s, t), ds, rfl, hs2, TyR.deep ht (by omega)⟩
      obtain ⟨Al, cl, ll, rfl, hL, hLb⟩ := open_rows (R := TyR n W.heap.size) Tryd.underlying23 hc6 (by decide) g4 (hbp 4 _ e4) fun m hm cs y hy hyb => by
        obtain ⟨t, ht⟩ := IH m (by omega) cs y hy hyb
        exact ⟨t, TyR.deep ht (by omega)⟩
      obtain ⟨Ar, cr, lr, rfl, hR, hRb⟩ := open_rows (R := TyR n W.heap.size) Tryd.underlying23 hc6 (by decide) g5 (hbp 5 _ e5) fun m hm cs y hy hyb => by
        obtain ⟨t, ht⟩ := IH m (by omega) cs y hy hyb
        exact ⟨t, TyR.deep ht (by omega)⟩
      injection hk1 with hk1
      injection hn1 with hn1
      injection hq1 with hq1
      subst hk1 hn1 hq1
      have b3 := hbp 3 _ e3
      have b4 := hbp 4 _ e4
      have b5 := hbp 5 _ e5
      refine ⟨.mk k nm cn lf ll lr, ⟨wf_i64' hk3, wf_i64' hq3, hn2, ?_, ?_, ?_⟩, Af, cf, Al, cl, Ar, cr, rfl, hF, hL, hR⟩
      · show lf.length ≤ 1048576; omega
      · show ll.length ≤ 1048576; omega
      · show lr.length ≤ 1048576; omega
theorem open_tys {fuel : Nat} {u : Value} {x : DataW H × List MemPlace} (h : DataW.trod enc Tryd.prog W 0 (fun _ => true) true fuel 23 [u] = some x) (hb : Rows.uptoBulk x.1 ≤ 1048576) :
    ∃ A c l, u = .slice A l.length c ∧ TysR fuel W.heap.size W (.slice A l.length c) l ∧ l.length ≤ 1048576 := by
  obtain ⟨A, c, l, h1, h2, h3⟩ := open_rows (size := 6) (R := TyR fuel W.heap.size) Tryd.underlying23 (by kernel_rfl) (by decide) h hb fun m hm cs y hy hyb => by
    obtain ⟨t, ht⟩ := open_ty m cs y hy hyb
    exact ⟨t, TyR.deep ht (by omega)⟩
  exact ⟨A, c, l, h1, h2, by omega⟩
theorem open_strs {fuel : Nat} {u : Value} {x : DataW H × List MemPlace} (h : DataW.trod enc Tryd.prog W 0 (fun _ => true) true fuel 22 [u] = some x) (hb : Rows.uptoBulk x.1 ≤ 1048576) :
    ∃ A c l, u = .slice A l.length c ∧ StrsR W.heap.size W (.slice A l.length c) l ∧ l.length ≤ 1048576 := by
  obtain ⟨A, c, l, h1, h2, h3⟩ := open_rows (size := 1) (R := StrV) Tryd.underlying22 (by kernel_rfl) (by decide) h hb fun m hm cs y hy hyb => by
    obtain ⟨s, hs, hs2⟩ := open_str hy hyb
    exact ⟨s, hs, hs2⟩
  exact ⟨A, c, l, h1, h2, by omega⟩
set_option maxRecDepth 100000 in
theorem open_ty_v {v : Value} {d : DataW H} {p : List MemPlace} {r : Reach} {b0 : Nat} (hv : Value.okWide Tryd.prog W r b0 33 v) (h : DataW.Trod enc Tryd.prog W 0 (fun _ => true) true 33 v d p) (hb : Rows.uptoBulk d ≤ 1048576) :
    ∃ n t Af cf Al cl Ar cr, v = .agg #[.int .i64 (Ty.kind t), .string (Ty.name t), .int .i64 (Ty.con t), .slice Af (Ty.fields t).length cf, .slice Al (Ty.list t).length cl, .slice Ar (Ty.res t).length cr] ∧
      TyR n W.heap.size W (tyCells (Ty.kind t) (Ty.name t) (Ty.con t) Af (Ty.fields t).length cf Al (Ty.list t).length cl Ar (Ty.res t).length cr) t := by
  obtain ⟨cs, rfl, hsz⟩ := okWide_struct Tryd.underlying33 hv
  obtain ⟨fuel, hf⟩ := h
  obtain ⟨t, ht⟩ := open_ty fuel cs.toList (d, p) hf hb
  cases fuel with
  | zero => exact ht.elim
  | succ n =>
    have ht' := ht
    obtain ⟨_, Af, cf, Al, cl, Ar, cr, hcs, _⟩ := ht
    rw [hcs] at ht'
    refine ⟨n + 1, t, Af, cf, Al, cl, Ar, cr, ?_, ht'⟩
    congr 1
    exact Array.ext' hcs
set_option maxRecDepth 100000 in
theorem open_tys_v {v : Value} {d : DataW H} {p : List MemPlace} {r : Reach} {b0 : Nat} (hv : Value.okWide Tryd.prog W r b0 23 v) (h : DataW.Trod enc Tryd.prog W 0 (fun _ => true) true 23 v d p) (hb : Rows.uptoBulk d ≤ 1048576) :
    ∃ n A c l, v = .slice A (l : List Ty).length c ∧ TysR n W.heap.size W (.slice A l.length c) l ∧ l.length ≤ 1048576 := by
  obtain ⟨a0, len, cap, rfl⟩ := okWide_slice Tryd.underlying23 hv
  obtain ⟨fuel, hf⟩ := h
  obtain ⟨A, c, l, h1, h2, h3⟩ := open_tys (u := .slice a0 len cap) hf hb
  exact ⟨fuel, A, c, l, h1, h2, h3⟩
set_option maxRecDepth 100000 in
theorem open_strs_v {v : Value} {d : DataW H} {p : List MemPlace} {r : Reach} {b0 : Nat} (hv : Value.okWide Tryd.prog W r b0 22 v) (h : DataW.Trod enc Tryd.prog W 0 (fun _ => true) true 22 v d p) (hb : Rows.uptoBulk d ≤ 1048576) :
    ∃ A c l, v = .slice A (l : List ByteArray).length c ∧ StrsR W.heap.size W (.slice A l.length c) l ∧ l.length ≤ 1048576 := by
  obtain ⟨a0, len, cap, rfl⟩ := okWide_slice Tryd.underlying22 hv
  obtain ⟨fuel, hf⟩ := h
  obtain ⟨A, c, l, h1, h2, h3⟩ := open_strs (u := .slice a0 len cap) hf hb
  exact ⟨A, c, l, h1, h2, h3⟩
set_option maxRecDepth 100000 in
theorem open_str_v {v : Value} {d : DataW H} {p : List MemPlace} {r : Reach} {b0 : Nat} (hv : Value.okWide Tryd.prog W r b0 9 v) (h : DataW.Trod enc Tryd.prog W 0 (fun _ => true) true 9 v d p) (hb : Rows.uptoBulk d ≤ 1048576) :
    ∃ s : ByteArray, v = .string s ∧ s.size ≤ 1048576 := by
  obtain ⟨s, rfl⟩ := okWide_string Tryd.underlying9 hv
  obtain ⟨fuel, hf⟩ := h
  obtain ⟨s', h1, h2⟩ := open_str hf hb
  have h1 : [Value.string s] = [Value.string s'] := h1
  injection h1 with h1
  injection h1 with h1
  subst h1
  exact ⟨s, rfl, h2⟩
end
theorem bulk_bound {H : Type} {l : List (DataW H)} (hk : Rows.uptoSmall H l = true) : Rows.uptoBulkAll l ≤ 1048576 := of_decide_eq_true hk
end Go.Proofs.YtgemacdnncjmdaaDoor
