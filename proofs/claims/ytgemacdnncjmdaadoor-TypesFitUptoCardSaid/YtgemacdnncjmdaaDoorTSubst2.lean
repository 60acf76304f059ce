/-
  The map of types.Subst: what it holds; Put with it.
-/
import Derived.Test.YtgemacdnncjmdaaDoorTFactsA
import Derived.Test.YtgemacdnncjmdaaDoorTCopy
namespace Go.Proofs.YtgemacdnncjmdaaDoor
open Go.RowKit
set_option linter.unusedVariables false
set_option linter.unusedSimpArgs false

def MapT (ma B b : Nat) (f : ByteArray → Option Ty) (w : World) : Prop := ∃ N m g, SMap w b N m g ∧ ∀ s : ByteArray, s.size ≤ 1048576 → (f s = none ∧ g s = none) ∨
  ∃ u Af cf Al cl Ar cr, f s = some u ∧ g s = some (.agg #[.int .i64 u.kind, .string u.name, .int .i64 u.con, .slice Af u.fields.length cf, .slice Al u.list.length cl, .slice Ar u.res.length cr]) ∧ TyR ma B w (tyCells u.kind u.name u.con Af u.fields.length cf Al u.list.length cl Ar u.res.length cr) u
theorem mapT_stays (ma B b : Nat) (f : ByteArray → Option Ty) : Stays (MapT ma B b f) := fun w w' hc ⟨N, m, g, h1, h2⟩ => ⟨N, m, g, h1.keep hc id, fun s hs => (h2 s hs).imp id fun ⟨u, Af, cf, Al, cl, Ar, cr, h3, h4, h5⟩ => ⟨u, Af, cf, Al, cl, Ar, cr, h3, h4, TyR.keep0 hc h5⟩⟩
theorem mapT_by (ma B b : Nat) (f : ByteArray → Option Ty) (w : World) (h : MapT ma B b f w) : ByC ma B f (.map (some b)) w := by
  obtain ⟨N, m, g, h1, h2⟩ := h
  intro s hs
  have hl := h1.look_ok (t := 62) (e := 33) Tryd.underlying62 (zero_ty w) (s := s) (by simp only [maxLen]; omega)
  rcases h2 s hs with ⟨h3, h4⟩ | ⟨u, Af, cf, Al, cl, Ar, cr, h3, h4, h5⟩
  · rw [h4] at hl
    exact .inl ⟨h3, hl⟩
  · rw [h4] at hl
    exact .inr ⟨u, Af, cf, Al, cl, Ar, cr, h3, hl, h5⟩
theorem put_map (B ma b : Nat) (f : ByteArray → Option Ty) : ∀ n, PutC n (n + ma) B f (.map (some b)) (MapT ma B b f)
  | 0 => fun w t Af cf Al cl Ar cr hB hP hT => hT.elim
  | n + 1 => by
    rw [Nat.add_right_comm]
    exact put_step n (n + ma) ma B f _ _ (mapT_stays ma B b f) (by omega) (mapT_by ma B b f) (.inr (clone_any ma B)) (put_map B ma b f n)
/-- What the map holds of the first j names. -/
def SubI (ma B : Nat) (names : List ByteArray) (args : List Ty) (j m : Nat) (g : ByteArray → Option Value) (W : World) : Prop :=
  (∀ s, (g s).isSome = true ↔ s ∈ names.take j) ∧ m ≤ j ∧ (m = j ↔ (names.take j).Nodup) ∧ ∀ s v, g s = some v → ∃ (i : Nat) (u : Ty) (Af : Option Addr) (cf : Nat) (Al : Option Addr) (cl : Nat) (Ar : Option Addr) (cr : Nat), names[i]? = some s ∧ args[i]? = some u ∧ v = .agg #[.int .i64 u.kind, .string u.name, .int .i64 u.con, .slice Af u.fields.length cf, .slice Al u.list.length cl, .slice Ar u.res.length cr] ∧ TyR ma B W (tyCells u.kind u.name u.con Af u.fields.length cf Al u.list.length cl Ar u.res.length cr) u
theorem SubI.zero (ma B : Nat) (names : List ByteArray) (args : List Ty) (W : World) : SubI ma B names args 0 0 (fun _ => none) W :=
  ⟨fun s => by simp, Nat.le_refl _, by simp, fun s v h => by cases h⟩
theorem SubI.succ {ma B j m : Nat} {names : List ByteArray} {args : List Ty} {g : ByteArray → Option Value} {W : World} (h : SubI ma B names args j m g W) {x : ByteArray} {u : Ty} {Af : Option Addr} {cf : Nat} {Al : Option Addr} {cl : Nat} {Ar : Option Addr} {cr : Nat} (hx : names[j]? = some x) (hu : args[j]? = some u) (hT : TyR ma B W (tyCells u.kind u.name u.con Af u.fields.length cf Al u.list.length cl Ar u.res.length cr) u) :
    SubI ma B names args (j + 1) (if (g x).isSome then m else m + 1) (upd g x (.agg #[.int .i64 u.kind, .string u.name, .int .i64 u.con, .slice Af u.fields.length cf, .slice Al u.list.length cl, .slice Ar u.res.length cr])) W := by
  obtain ⟨h1, h2, h3, h4⟩ := h
  obtain ⟨hj, hjx⟩ := List.getElem?_eq_some_iff.1 hx
  have htk : names.take (j + 1) = names.take j ++ [x] := by rw [List.take_succ_eq_append_getElem hj, hjx]
  refine ⟨fun s => ?_, ?_, ?_, fun s v hv => ?_⟩
  · rw [htk, List.mem_append, List.mem_singleton]
    by_cases hs : s = x
    · subst hs
      simp [upd_same]
    · rw [upd_other g _ hs, h1 s]
      simp [hs]
  · split <;> omega
  · rw [htk, nodup_snoc]
    have hx1 := h1 x
    by_cases hm : (g x).isSome = true
    · rw [if_pos hm]
      exact ⟨fun h => by omega, fun h => absurd (hx1.1 hm) h.2⟩
    · rw [if_neg hm]
      rw [← h3]
      exact ⟨fun h => ⟨by omega, fun hc => hm (hx1.2 hc)⟩, fun h => by omega⟩
  · by_cases hs : s = x
    · subst hs
      rw [upd_same] at hv
      injection hv with hv
      exact ⟨j, u, Af, cf, Al, cl, Ar, cr, hx, hu, hv.symm, hT⟩
    · rw [upd_other g _ hs] at hv
      exact h4 s v hv
theorem SubI.mapT {ma B m N b : Nat} {names : List ByteArray} {args : List Ty} {g : ByteArray → Option Value} {W w : World} (h : SubI ma B names args names.length m g W) (hnd : names.Nodup) (hm : SMap w b N m g) (hc : ∀ cs u, TyR ma B W cs u → TyR ma B w cs u) : MapT ma B b (assoc names args) w := by
  obtain ⟨h1, h2, h3, h4⟩ := h
  rw [List.take_length] at h1
  refine ⟨N, m, g, hm, fun s hs => ?_⟩
  cases hg : g s with
  | none =>
    refine .inl ⟨assoc_none fun y hy hxy => ?_, rfl⟩
    have := (h1 s).2 (hxy ▸ hy)
    rw [hg] at this
    cases this
  | some v =>
    obtain ⟨i, u, Af, cf, Al, cl, Ar, cr, k1, k2, rfl, k4⟩ := h4 s v hg
    refine .inr ⟨u, Af, cf, Al, cl, Ar, cr, assoc_at (k := i) (fun j hj y hy hxy => ?_) k1 k2 rfl, rfl, hc _ _ k4⟩
    obtain ⟨hi, hi2⟩ := List.getElem?_eq_some_iff.1 k1
    obtain ⟨hjl, hj2⟩ := List.getElem?_eq_some_iff.1 hy
    have := (List.pairwise_iff_getElem.1 hnd) j i hjl hi hj
    rw [hi2, hj2] at this
    exact this hxy.symm
end Go.Proofs.YtgemacdnncjmdaaDoor
