/-
  A map whose keys are texts: which value stands at which text.
-/
import Derived.Test.YtgaodjoddfjfmaaDoorNdR
import Derived.Test.YtgaodjoddfjfmaaDoorRowK
import Derived.Maps.Own
import Derived.Maps.OwnSet
import Derived.StringKeys
namespace Go.Proofs.YtgaodjoddfjfmaaDoor
open Go.RowKit Go.ChangeMaps Go.Maps
set_option linter.unusedVariables false
set_option linter.unusedSimpArgs false

/-- An element is told by itself. -/
def heldE (v : Value) : Option (DataW Value × List MemPlace) := some (.held v, [])
def keyL8 (s : ByteArray) : Lit := .string s.data.toList
/-- Block b is a map: text s stands there with the value f s; it has m entries. -/
def SMap (w : World) (b n m : Nat) (f : ByteArray → Option Value) : Prop :=
  ∃ D : DataW Value, w.ownsMap Tryd.prog 9 heldE b n D ∧ (∀ s, s.size ≤ maxLen → Maps.has D (keyL8 s) = (f s).isSome) ∧ (∀ s, s.size ≤ maxLen → ∀ z, D.atKey (keyL8 s) z = match f s with | some v => .held v | none => z) ∧ Maps.size D = m
noncomputable def upd (f : ByteArray → Option Value) (s : ByteArray) (v : Value) : ByteArray → Option Value := fun x => if eqB x s then some v else f x
theorem upd_same (f : ByteArray → Option Value) (s : ByteArray) (v : Value) : upd f s v s = some v := by simp [upd, eqB_self]
theorem upd_other (f : ByteArray → Option Value) {s x : ByteArray} (v : Value) (h : x ≠ s) : upd f s v x = f x := by simp [upd, eqB_false.2 h]
theorem str_law : Keyed Tryd.prog 9 := string_keyed Tryd.underlying9
theorem str_key {s : ByteArray} (hs : s.size ≤ maxLen) : keyOf Tryd.prog 9 (.string s) = some (keyL8 s) := WideMaps.keyOf_string_mk Tryd.underlying9 hs
theorem keyL8_ne {s x : ByteArray} (h : x ≠ s) : keyL8 x ≠ keyL8 s := by
  intro he
  unfold keyL8 at he
  injection he with he
  refine h ?_
  cases x
  cases s
  congr 1
  exact Array.ext' he
theorem held_inv {v z : Value} {ps : List MemPlace} {d : DataW Value} (h : heldE v = some (d, ps)) : d = .held v := by
  unfold heldE at h
  injection h with h
  injection h with h _
  exact h.symm
section
variable {w w' : World} {b n m : Nat} {f : ByteArray → Option Value}
theorem SMap.made (w : World) : SMap (w.alloc (.map #[] 0)) w.heap.size 0 0 (fun _ => none) :=
  ⟨_, World.ownsMap_made _ _ _ _, fun s _ => rfl, fun s _ z => by simp [DataW.atKey], rfl⟩
theorem SMap.blk (h : SMap w b n m f) : ∃ es clock, w.heap[b]? = some (.map es clock) := by
  obtain ⟨D, ⟨es, clock, hb, _⟩, _⟩ := h
  exact ⟨es, clock, hb⟩
theorem SMap.lt (h : SMap w b n m f) : b < w.heap.size := by obtain ⟨D, h1, _⟩ := h; exact h1.lt
theorem SMap.of_block (h : SMap w b n m f) (hb : w'.heap[b]? = w.heap[b]?) : SMap w' b n m f := by
  obtain ⟨D, ⟨es, clock, hbk, F, hs, hD⟩, h2⟩ := h
  exact ⟨D, ⟨es, clock, hb.trans hbk, F, hs, hD⟩, h2⟩
theorem SMap.keep {M : Nat → Nat → Prop} (h : SMap w b n m f) (hc : Chg M w w') (hm : ¬ M b 0) : SMap w' b n m f := by
  obtain ⟨es, clock, hb⟩ := h.blk
  exact h.of_block ((hc.keep b _ hb hm).trans hb.symm)
theorem SMap.mono {n' : Nat} (h : SMap w b n m f) (hn : n ≤ n') : SMap w b n' m f := by
  obtain ⟨D, h1, h2⟩ := h
  exact ⟨D, h1.mono hn, h2⟩
theorem SMap.ext {g : ByteArray → Option Value} (h : SMap w b n m f) (hg : ∀ s, s.size ≤ maxLen → f s = g s) : SMap w b n m g := by
  obtain ⟨D, h1, h2, h3, h4⟩ := h
  exact ⟨D, h1, fun s hs => by rw [← hg s hs]; exact h2 s hs, fun s hs z => by rw [← hg s hs]; exact h3 s hs z, h4⟩
theorem SMap.look {t e : TypeId} (h : SMap w b n m f) (ht : Tryd.prog.underlying t = some (.map 9 e)) {z : Value} (hz : (zeroValue e).run Tryd.prog w = .ok z w) {s : ByteArray} (hs : s.size ≤ maxLen) :
    (Instr.lookup t (.map (some b)) (.string s) false).run Tryd.prog w = .ok ((f s).getD z) w := by
  obtain ⟨D, h1, h2, h3, h4⟩ := h
  obtain ⟨v, ps, hrun, hv⟩ := h1.lookup str_law ht hz (zd := .held z) (zp := []) rfl (str_key hs)
  have hv := held_inv (z := z) hv
  rw [h3 s hs] at hv
  rw [hrun]
  cases hf : f s with
  | none => rw [hf] at hv; have hv := DataW.held.inj hv; subst hv; rfl
  | some u => rw [hf] at hv; have hv := DataW.held.inj hv; subst hv; rfl
theorem SMap.look_ok {t e : TypeId} (h : SMap w b n m f) (ht : Tryd.prog.underlying t = some (.map 9 e)) {z : Value} (hz : (zeroValue e).run Tryd.prog w = .ok z w) {s : ByteArray} (hs : s.size ≤ maxLen) :
    (Instr.lookup t (.map (some b)) (.string s) true).run Tryd.prog w = .ok (.tuple #[(f s).getD z, .bool (f s).isSome]) w := by
  obtain ⟨D, h1, h2, h3, h4⟩ := h
  obtain ⟨v, ps, hrun, hv⟩ := h1.look_ok str_law ht hz (zd := .held z) (zp := []) rfl (str_key hs)
  have hv := held_inv (z := z) hv
  rw [h3 s hs] at hv
  rw [h2 s hs] at hrun
  rw [hrun]
  cases hf : f s with
  | none => rw [hf] at hv; have hv := DataW.held.inj hv; subst hv; rfl
  | some u => rw [hf] at hv; have hv := DataW.held.inj hv; subst hv; rfl
theorem look_nil_ok {t e : TypeId} (w : World) (ht : Tryd.prog.underlying t = some (.map 9 e)) {z : Value} (hz : (zeroValue e).run Tryd.prog w = .ok z w) {s : ByteArray} (hs : s.size ≤ maxLen) :
    (Instr.lookup t (.map none) (.string s) true).run Tryd.prog w = .ok (.tuple #[z, .bool false]) w := Maps.look_nil true str_law ht hz (str_key hs)
theorem SMap.put {t e : TypeId} (h : SMap w b n m f) (ht : Tryd.prog.underlying t = some (.map 9 e)) (hn : n < maxLen) {s : ByteArray} (hs : s.size ≤ maxLen) (v : Value) :
    ∃ w', (Instr.mapUpdate t (.map (some b)) (.string s) v).run Tryd.prog w = .ok () w' ∧ SMap w' b (n + 1) (if (f s).isSome then m else m + 1) (upd f s v) ∧ Chg (fun b' t => b' = b ∧ t = 0) w w' := by
  obtain ⟨D, h1, h2, h3, h4⟩ := h
  obtain ⟨w', hrun, k1, k2⟩ := h1.update str_law ht hn (str_key hs) (d := .held v) (ps := []) (val := v) rfl
  have hkl : WideAt.IsKeyLit (keyL8 s) := str_law.key (str_key hs)
  refine ⟨w', hrun, ⟨_, k1, fun x hx => ?_, fun x hx z => ?_, ?_⟩, ?_⟩
  · by_cases he : x = s
    · subst he
      rw [Maps.has_put_same h1.isMap hkl, upd_same]
      rfl
    · rw [Maps.has_put_other (keyL8_ne he), upd_other f v he]
      exact h2 x hx
  · by_cases he : x = s
    · subst he
      rw [atKey_put_same h1.isMap hkl, upd_same]
    · rw [atKey_put_other (keyL8_ne he), upd_other f v he]
      exact h3 x hx z
  · rw [Maps.size_put (h1.tidy str_law), h2 s hs, h4]
  · obtain ⟨es, clock, hb, _⟩ := h1
    refine (Chg.refl _ w).grown k2 fun g o hg ho => ?_
    injection hg with hg
    subst hg
    rw [hb] at ho
    injection ho with ho
    subst ho
    exact ⟨rfl, rfl⟩
theorem SMap.len {t e : TypeId} (h : SMap w b n m f) (ht : Tryd.prog.underlying t = some (.map 9 e)) (ty : TypeId) : (Builtin.len_ #[t] ty #[.map (some b)]).run Tryd.prog w = .ok (.int .i64 m) w := by
  obtain ⟨D, h1, h2, h3, h4⟩ := h
  rw [← h4]
  exact h1.len ht ty
end
noncomputable def setF (ks : List ByteArray) : ByteArray → Option Value := fun s => @ite _ (s ∈ ks) (Classical.propDecidable _) (some (.bool true)) none
theorem setF_in {ks : List ByteArray} {s : ByteArray} (h : s ∈ ks) : setF ks s = some (.bool true) := by unfold setF; rw [if_pos h]
theorem setF_out {ks : List ByteArray} {s : ByteArray} (h : s ∉ ks) : setF ks s = none := by unfold setF; rw [if_neg h]
theorem setF_snoc (ks : List ByteArray) (s : ByteArray) : upd (setF ks) s (.bool true) = setF (ks ++ [s]) := by
  funext x
  by_cases h : x = s
  · subst h; rw [upd_same, setF_in (by simp)]
  · rw [upd_other _ _ h]
    by_cases hk : x ∈ ks
    · rw [setF_in hk, setF_in (by simp [hk])]
    · rw [setF_out hk, setF_out (by simp [hk, h])]
end Go.Proofs.YtgaodjoddfjfmaaDoor
