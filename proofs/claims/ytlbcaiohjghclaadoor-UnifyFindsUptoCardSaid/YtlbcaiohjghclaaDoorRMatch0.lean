/-
  ref02.Bound: what names stand for, in memory.
-/
import Derived.Test.YtlbcaiohjghclaaDoorUnify
import Derived.Test.YtlbcaiohjghclaaDoorTSpoil
namespace Go.Proofs.YtlbcaiohjghclaaDoor
open Go.RowKit
set_option linter.unusedVariables false
set_option linter.unusedSimpArgs false

def Mq (qT qK : Nat) (b t : Nat) : Prop := (b = qT ∧ t = 42) ∨ (b = qK ∧ t = 4)
def BndR (m B gB qT qK : Nat) (names : List ByteArray) (An : Option Addr) (cn ct ck : Nat) (f : ByteArray → Option Ty) (w : World) : Prop :=
  (Blk w gB 35 #[.slice An names.length cn, .slice (some ⟨qT, 0, none⟩) names.length ct, .slice (some ⟨qK, 0, none⟩) names.length ck] ∧ StrsR B w (.slice An names.length cn) names) ∧
  (∃ ks : Array Value, Blk w qK 4 ks ∧ ∀ (i : Nat) (s : ByteArray), names[i]? = some s → ks[i]? = some (Value.bool (isAt f s))) ∧
  ∃ ts : Array Value, Blk w qT 42 ts ∧ names.length * 6 ≤ ts.size ∧ ∀ (i : Nat) (s : ByteArray), names[i]? = some s → ∃ u, u = tyAt f s ∧ ∃ Xf xf Xl xl Xr xr, TyR (m + 1) B w (tyCells u.kind u.name u.con Xf u.fields.length xf Xl u.list.length xl Xr u.res.length xr) u ∧ ∀ j v, (tyCells u.kind u.name u.con Xf u.fields.length xf Xl u.list.length xl Xr u.res.length xr)[j]? = some v → ts[i * 6 + j]? = some v
section
variable {m B gB qT qK : Nat} {names : List ByteArray} {An : Option Addr} {cn ct ck : Nat} {f : ByteArray → Option Ty} {w w' : World}
theorem mq_lets (hT : B ≤ qT) (hK : B ≤ qK) : LetsM (Mq qT qK) B := fun b t hb h' => by rcases h' with h | h <;> (have := h.1; omega)
theorem Chg.toMq (h : Chg (fun _ _ => False) w w') : Chg (Mq qT qK) w w' := h.mono fun _ _ _ h => h.elim
theorem mq_not {b t : Nat} (h1 : t ≠ 42) (h2 : t ≠ 4) : ¬ Mq qT qK b t := fun h => h.elim (fun h => h1 h.2) fun h => h2 h.2
theorem BndR.keep (h : BndR m B gB qT qK names An cn ct ck f w) (hc : Chg (fun _ _ => False) w w') : BndR m B gB qT qK names An cn ct ck f w' := by
  obtain ⟨⟨h1, h2⟩, ⟨ks, h3, h4⟩, ts, h5, h6, h7⟩ := h
  refine ⟨⟨hc.blk h1 id, SlR.keep h2 hc (no_lets _ _) fun _ _ h => h⟩, ⟨ks, hc.blk h3 id, h4⟩, ts, hc.blk h5 id, h6, fun i s hs => ?_⟩
  obtain ⟨u, hu, Xf, xf, Xl, xl, Xr, xr, h8, h9⟩ := h7 i s hs
  exact ⟨u, hu, Xf, xf, Xl, xl, Xr, xr, TyR.keep0 hc h8, h9⟩
/-- Its own three cells. -/
theorem BndR.own (h : BndR m B gB qT qK names An cn ct ck f w) : w.cell? ⟨gB, 0, none⟩ = some (.slice An names.length cn) ∧ w.cell? ⟨gB, 1, none⟩ = some (.slice (some ⟨qT, 0, none⟩) names.length ct) ∧ w.cell? ⟨gB, 2, none⟩ = some (.slice (some ⟨qK, 0, none⟩) names.length ck) := h.1.1.cells3
theorem BndR.isIt (h : BndR m B gB qT qK names An cn ct ck f w) {i : Nat} {s : ByteArray} (hs : names[i]? = some s) : w.cell? ⟨qK, i, none⟩ = some (.bool (isAt f s)) := by
  obtain ⟨_, ⟨ks, h3, h4⟩, _⟩ := h
  rw [h3.cell]
  exact h4 i s hs
theorem BndR.ty (h : BndR m B gB qT qK names An cn ct ck f w) {i : Nat} {s : ByteArray} (hs : names[i]? = some s) :
    ∃ (u : Ty) (Xf : Option Addr) (xf : Nat) (Xl : Option Addr) (xl : Nat) (Xr : Option Addr) (xr : Nat), u = tyAt f s ∧ TyR (m + 1) B w (tyCells u.kind u.name u.con Xf u.fields.length xf Xl u.list.length xl Xr u.res.length xr) u ∧
      w.cell? ⟨qT, i * 6, none⟩ = some (.int .i64 u.kind) ∧ w.cell? ⟨qT, i * 6 + 1, none⟩ = some (.string u.name) ∧ w.cell? ⟨qT, i * 6 + 2, none⟩ = some (.int .i64 u.con) ∧
      w.cell? ⟨qT, i * 6 + 3, none⟩ = some (.slice Xf u.fields.length xf) ∧ w.cell? ⟨qT, i * 6 + 4, none⟩ = some (.slice Xl u.list.length xl) ∧ w.cell? ⟨qT, i * 6 + 5, none⟩ = some (.slice Xr u.res.length xr) ∧
      w.frozen? ⟨qT, i * 6, none⟩ = false ∧ w.frozen? ⟨qT, i * 6 + 1, none⟩ = false ∧ w.frozen? ⟨qT, i * 6 + 2, none⟩ = false ∧ w.frozen? ⟨qT, i * 6 + 3, none⟩ = false ∧ w.frozen? ⟨qT, i * 6 + 4, none⟩ = false ∧ w.frozen? ⟨qT, i * 6 + 5, none⟩ = false := by
  obtain ⟨_, _, ts, h5, h6, h7⟩ := h
  obtain ⟨u, hu, Xf, xf, Xl, xl, Xr, xr, h8, h9⟩ := h7 i s hs
  refine ⟨u, Xf, xf, Xl, xl, Xr, xr, hu, h8, ?_⟩
  simp only [h5.cell, h5.frozen]
  exact ⟨by simpa using h9 0 _ rfl, h9 1 _ rfl, h9 2 _ rfl, h9 3 _ rfl, h9 4 _ rfl, h9 5 _ rfl, trivial, trivial, trivial, trivial, trivial, trivial⟩
theorem nodup_at {i j : Nat} {s : ByteArray} (hn : names.Nodup) (hi : names[i]? = some s) (hj : names[j]? = some s) : i = j := by
  obtain ⟨h1, h2⟩ := List.getElem?_eq_some_iff.1 hi
  obtain ⟨h3, h4⟩ := List.getElem?_eq_some_iff.1 hj
  rcases Nat.lt_trichotomy i j with h | h | h
  · exact absurd (h2.trans h4.symm) ((List.pairwise_iff_getElem.1 hn) i j h1 h3 h)
  · exact h
  · exact absurd (h4.trans h2.symm) ((List.pairwise_iff_getElem.1 hn) j i h3 h1 h)
theorem upd_is {s x : ByteArray} {u : Ty} : (x = s → isAt (updT f s u) x = true ∧ tyAt (updT f s u) x = u) ∧ (x ≠ s → isAt (updT f s u) x = isAt f x ∧ tyAt (updT f s u) x = tyAt f x) := by
  constructor
  · rintro rfl
    unfold isAt tyAt
    rw [updT_same]
    exact ⟨rfl, rfl⟩
  · intro h
    unfold isAt tyAt
    rw [updT_other _ _ h]
    exact ⟨rfl, rfl⟩
/-- One more is known: two stores. -/
theorem BndR.put (h : BndR m B gB qT qK names An cn ct ck f w) (hT : B ≤ qT) (hK : B ≤ qK) (hn : names.Nodup) {i : Nat} {s : ByteArray} (hs : names[i]? = some s) {u : Ty} {Af : Option Addr} {cf : Nat} {Al : Option Addr} {cl : Nat} {Ar : Option Addr} {cr : Nat} (hu : TyR m B w (tyCells u.kind u.name u.con Af u.fields.length cf Al u.list.length cl Ar u.res.length cr) u) :
    BndR m B gB qT qK names An cn ct ck (updT f s u) (setL (w.setCell ⟨qK, i, none⟩ (.bool true)).drew qT (i * 6) (tyCells u.kind u.name u.con Af u.fields.length cf Al u.list.length cl Ar u.res.length cr)) ∧ Chg (Mq qT qK) w (setL (w.setCell ⟨qK, i, none⟩ (.bool true)).drew qT (i * 6) (tyCells u.kind u.name u.con Af u.fields.length cf Al u.list.length cl Ar u.res.length cr)) := by
  obtain ⟨⟨h1, h2⟩, ⟨ks, h3, h4⟩, ts, h5, h6, h7⟩ := h
  have hi : i < names.length := (List.getElem?_eq_some_iff.1 hs).1
  have hm6 : i * 6 + 6 ≤ ts.size := by omega
  have hki : i < ks.size := (Array.getElem?_eq_some_iff.1 (h4 i s hs)).1
  have c1 : Chg (fun b t => b = qK ∧ t = 4) w (w.setCell ⟨qK, i, none⟩ (.bool true)) := chg_set h3 _
  have h3' := (h3.set_ i (.bool true)).drew
  have h5' := (c1.blk h5 fun h => absurd h.2 (by decide)).drew
  obtain ⟨ts', k1, k2, k3, k4, k5⟩ := setL_blk (tyCells u.kind u.name u.con Af u.fields.length cf Al u.list.length cl Ar u.res.length cr) (i * 6) _ _ h5' hm6
  have hl6 : ((tyCells u.kind u.name u.con Af u.fields.length cf Al u.list.length cl Ar u.res.length cr) : List Value).length = 6 := rfl
  generalize hcs : (tyCells u.kind u.name u.con Af u.fields.length cf Al u.list.length cl Ar u.res.length cr) = cs at hu k1 k3 k4 k5 hl6 ⊢
  have c2 := c1.drew
  generalize hw1 : (w.setCell ⟨qK, i, none⟩ (.bool true)).drew = w1 at h3' h5' c2 k1 k5 ⊢
  generalize hw2 : setL w1 qT (i * 6) cs = w2 at k1 k5 ⊢
  have cm : Chg (Mq qT qK) w w2 := (c2.mono fun _ _ _ h => .inr h).trans (k5.mono fun _ _ _ h => .inl h)
  refine ⟨⟨⟨cm.blk h1 (mq_not (by decide) (by decide)), SlR.keep h2 cm (mq_lets hT hK).lets fun _ _ h => h⟩, ⟨_, k5.blk h3' fun h => absurd h.2 (by decide), fun j x hx => ?_⟩, ts', k1, by omega, fun j x hx => ?_⟩, cm⟩
  · rw [Array.getElem?_setIfInBounds]
    by_cases hij : i = j
    · subst hij
      rw [if_pos rfl, if_pos hki, (upd_is.1 (Option.some.inj (hx.symm.trans hs))).1]
    · rw [if_neg hij, h4 j x hx, (upd_is.2 fun he : x = s => hij (nodup_at hn hs (he ▸ hx))).1]
  · have hj : j < names.length := (List.getElem?_eq_some_iff.1 hx).1
    by_cases hij : i = j
    · subst hij
      refine ⟨u, (upd_is.1 (Option.some.inj (hx.symm.trans hs))).2.symm, Af, cf, Al, cl, Ar, cr, hcs ▸ TyR.deep (TyR.keep cm (mq_lets hT hK) hu) (Nat.le_succ m), fun l v hl => ?_⟩
      rw [hcs] at hl
      rw [k4 l (List.getElem?_eq_some_iff.1 hl).1]
      exact hl
    · obtain ⟨y, hy, Xf, xf, Xl, xl, Xr, xr, h8, h9⟩ := h7 j x hx
      refine ⟨y, hy.trans (upd_is.2 fun he : x = s => hij (nodup_at hn hs (he ▸ hx))).2.symm, Xf, xf, Xl, xl, Xr, xr, TyR.keep cm (mq_lets hT hK) h8, fun l v hl => ?_⟩
      have hl5 : l < 6 := (List.getElem?_eq_some_iff.1 hl).1
      rw [k3 _ (by rw [hl6]; omega)]
      exact h9 l v hl
theorem BndR.lt (h : BndR m B gB qT qK names An cn ct ck f w) : qT < w.heap.size ∧ qK < w.heap.size := by
  obtain ⟨_, ⟨ks, h3, _⟩, ts, h5, _⟩ := h
  exact ⟨h5.lt, h3.lt⟩
/-- Between the two stores. -/
theorem BndR.mid (h : BndR m B gB qT qK names An cn ct ck f w) {i : Nat} {s : ByteArray} (hs : names[i]? = some s) (w' : World) (hw : w' = w.setCell ⟨qK, i, none⟩ (.bool true)) :
    w.frozen? ⟨qK, i, none⟩ = false ∧ Chg (fun b t => b = qK ∧ t = 4) w w' ∧ (w'.cell? ⟨gB, 0, none⟩ = some (.slice An names.length cn) ∧ w'.cell? ⟨gB, 1, none⟩ = some (.slice (some ⟨qT, 0, none⟩) names.length ct) ∧ w'.cell? ⟨gB, 2, none⟩ = some (.slice (some ⟨qK, 0, none⟩) names.length ck)) ∧
    ∃ (u : Ty) (Xf : Option Addr) (xf : Nat) (Xl : Option Addr) (xl : Nat) (Xr : Option Addr) (xr : Nat), 
      w'.drew.cell? ⟨qT, i * 6, none⟩ = some (.int .i64 u.kind) ∧ w'.drew.cell? ⟨qT, i * 6 + 1, none⟩ = some (.string u.name) ∧ w'.drew.cell? ⟨qT, i * 6 + 2, none⟩ = some (.int .i64 u.con) ∧
      w'.drew.cell? ⟨qT, i * 6 + 3, none⟩ = some (.slice Xf u.fields.length xf) ∧ w'.drew.cell? ⟨qT, i * 6 + 4, none⟩ = some (.slice Xl u.list.length xl) ∧ w'.drew.cell? ⟨qT, i * 6 + 5, none⟩ = some (.slice Xr u.res.length xr) ∧
      w'.drew.frozen? ⟨qT, i * 6, none⟩ = false ∧ w'.drew.frozen? ⟨qT, i * 6 + 1, none⟩ = false ∧ w'.drew.frozen? ⟨qT, i * 6 + 2, none⟩ = false ∧ w'.drew.frozen? ⟨qT, i * 6 + 3, none⟩ = false ∧ w'.drew.frozen? ⟨qT, i * 6 + 4, none⟩ = false ∧ w'.drew.frozen? ⟨qT, i * 6 + 5, none⟩ = false := by
  obtain ⟨⟨h1, h2⟩, ⟨ks, h3, h4⟩, ts, h5, h6, h7⟩ := h
  have c1 : Chg (fun b t => b = qK ∧ t = 4) w w' := hw ▸ chg_set h3 _
  obtain ⟨u, hu, Xf, xf, Xl, xl, Xr, xr, h8, h9⟩ := h7 i s hs
  have h5' := (c1.blk h5 fun h => absurd h.2 (by decide)).drew
  refine ⟨h3.frozen i, c1, (c1.blk h1 fun h => absurd h.2 (by decide)).cells3, u, Xf, xf, Xl, xl, Xr, xr, ?_⟩
  simp only [h5'.cell, h5'.frozen]
  exact ⟨by simpa using h9 0 _ rfl, h9 1 _ rfl, h9 2 _ rfl, h9 3 _ rfl, h9 4 _ rfl, h9 5 _ rfl, trivial, trivial, trivial, trivial, trivial, trivial⟩
end
theorem TysR.at2_ {n B D k len c : Nat} {w : World} {A : Option Addr} {l : List Ty} (h : SlR D 0 6 (TyR n B) w (.slice A len c) l) (hk : k < l.length) :
    ∃ b o t Af cf Al cl Ar cr, A = some ⟨b, o, none⟩ ∧ l[k]? = some t ∧ TyR n B w (tyCells t.kind t.name t.con Af t.fields.length cf Al t.list.length cl Ar t.res.length cr) t ∧
      w.cell? ⟨b, o + k * 6, none⟩ = some (.int .i64 t.kind) ∧ w.cell? ⟨b, o + k * 6 + 1, none⟩ = some (.string t.name) ∧ w.cell? ⟨b, o + k * 6 + 2, none⟩ = some (.int .i64 t.con) ∧
      w.cell? ⟨b, o + k * 6 + 3, none⟩ = some (.slice Af t.fields.length cf) ∧ w.cell? ⟨b, o + k * 6 + 4, none⟩ = some (.slice Al t.list.length cl) ∧ w.cell? ⟨b, o + k * 6 + 5, none⟩ = some (.slice Ar t.res.length cr) := by
  obtain ⟨b, o, t, cs, hA, ht, hl, hR, hc⟩ := SlR.at2 h hk
  cases n with
  | zero => exact hR.elim
  | succ n =>
    have hR' := hR
    obtain ⟨hs, Af, cf, Al, cl, Ar, cr, rfl, _⟩ := hR
    exact ⟨b, o, t, Af, cf, Al, cl, Ar, cr, hA, ht, hR', by simpa using hc 0 _ rfl, hc 1 _ rfl, hc 2 _ rfl, hc 3 _ rfl, hc 4 _ rfl, hc 5 _ rfl⟩
theorem BndR.tys {m B gB qT qK : Nat} {names : List ByteArray} {An : Option Addr} {cn ck : Nat} {f : ByteArray → Option Ty} {w : World} (h : BndR m B gB qT qK names An cn names.length ck f w) (hB : B ≤ w.heap.size) : TysR (m + 1) w.heap.size w (.slice (some ⟨qT, 0, none⟩) (names.map (tyAt f)).length names.length) (names.map (tyAt f)) := by
  obtain ⟨_, _, ts, h5, h6, h7⟩ := h
  refine ⟨_, _, rfl, by simp, fun _ => ⟨qT, 0, rfl, .inl h5.lt, h5.lt, fun k x hx => ?_⟩⟩
  rw [List.getElem?_map] at hx
  cases hs : names[k]? with
  | none => rw [hs] at hx; cases hx
  | some s =>
    rw [hs] at hx
    obtain ⟨u, hu, Xf, xf, Xl, xl, Xr, xr, h8, h9⟩ := h7 k s hs
    obtain rfl : u = x := hu.trans (Option.some.inj hx)
    refine ⟨_, rfl, TyR.more hB h8, fun j v hj => ?_⟩
    rw [h5.cell, Nat.zero_add]
    exact h9 j v hj
end Go.Proofs.YtlbcaiohjghclaaDoor
