/-
  A map whose keys are numbers (int): which value stands at which number.
-/
import Derived.Test.YtdegfnejhamejaaGrowZk
import Derived.Maps.Own
import Derived.Maps.OwnSet
namespace Go.Proofs.Ytdegfnejhamejaa
open Go.RowKit Go.ChangeMaps Go.Maps
set_option linter.unusedVariables false
set_option linter.unusedSimpArgs false

/-- An element is told by itself. -/
def heldE (v : Value) : Option (DataW Value × List MemPlace) := some (.held v, [])
def keyI (s : Int) : Lit := .int .i64 s
/-- Block b is a map: text s stands there with the value f s; it has m entries. -/
def IMap (w : World) (b n m : Nat) (f : Int → Option Value) : Prop :=
  ∃ D : DataW Value, w.ownsMap Try.prog 3 heldE b n D ∧ (∀ s, I64 s → Maps.has D (keyI s) = (f s).isSome) ∧ (∀ s, I64 s → ∀ z, D.atKey (keyI s) z = match f s with | some v => .held v | none => z) ∧ Maps.size D = m
def updI (f : Int → Option Value) (s : Int) (v : Value) : Int → Option Value := fun x => if x = s then some v else f x
theorem updI_same (f : Int → Option Value) (s : Int) (v : Value) : updI f s v s = some v := by simp [updI]
theorem updI_other (f : Int → Option Value) {s x : Int} (v : Value) (h : x ≠ s) : updI f s v x = f x := by simp [updI, h]
theorem int_law : Keyed Try.prog 3 := int_keyed Try.underlying3
theorem wfI {s : Int} (hs : I64 s) : (Lit.int .i64 s).wf = true := by
  unfold I64 at hs
  simp [Lit.wf, IntKind.min, IntKind.max, IntKind.bits, IntKind.signed]
  omega
theorem int_key {s : Int} (hs : I64 s) : keyOf Try.prog 3 (.int .i64 s) = some (keyI s) := keyOf_int_mk Try.underlying3 (wfI hs)
theorem keyI_ne {s x : Int} (h : x ≠ s) : keyI x ≠ keyI s := by
  intro he
  unfold keyI at he
  injection he with _ he
  exact h he
theorem held_inv {v z : Value} {ps : List MemPlace} {d : DataW Value} (h : heldE v = some (d, ps)) : d = .held v := by
  unfold heldE at h
  injection h with h
  injection h with h _
  exact h.symm
section
variable {w w' : World} {b n m : Nat} {f : Int → Option Value}
theorem IMap.made (w : World) : IMap (w.alloc (.map #[] 0)) w.heap.size 0 0 (fun _ => none) :=
  ⟨_, World.ownsMap_made _ _ _ _, fun s _ => rfl, fun s _ z => by simp [DataW.atKey], rfl⟩
theorem IMap.blk (h : IMap w b n m f) : ∃ es clock, w.heap[b]? = some (.map es clock) := by
  obtain ⟨D, ⟨es, clock, hb, _⟩, _⟩ := h
  exact ⟨es, clock, hb⟩
theorem IMap.lt (h : IMap w b n m f) : b < w.heap.size := by obtain ⟨D, h1, _⟩ := h; exact h1.lt
theorem IMap.of_block (h : IMap w b n m f) (hb : w'.heap[b]? = w.heap[b]?) : IMap w' b n m f := by
  obtain ⟨D, ⟨es, clock, hbk, F, hs, hD⟩, h2⟩ := h
  exact ⟨D, ⟨es, clock, hb.trans hbk, F, hs, hD⟩, h2⟩
theorem IMap.keep {M : Nat → Nat → Prop} (h : IMap w b n m f) (hc : Chg M w w') (hm : ¬ M b 0) : IMap w' b n m f := by
  obtain ⟨es, clock, hb⟩ := h.blk
  exact h.of_block ((hc.keep b _ hb hm).trans hb.symm)
theorem IMap.look {t e : TypeId} (h : IMap w b n m f) (ht : Try.prog.underlying t = some (.map 3 e)) {z : Value} (hz : (zeroValue e).run Try.prog w = .ok z w) {s : Int} (hs : I64 s) :
    (Instr.lookup t (.map (some b)) (.int .i64 s) false).run Try.prog w = .ok ((f s).getD z) w := by
  obtain ⟨D, h1, h2, h3, h4⟩ := h
  obtain ⟨v, ps, hrun, hv⟩ := h1.lookup int_law ht hz (zd := .held z) (zp := []) rfl (int_key hs)
  have hv := held_inv (z := z) hv
  rw [h3 s hs] at hv
  rw [hrun]
  cases hf : f s with
  | none => rw [hf] at hv; have hv := DataW.held.inj hv; subst hv; rfl
  | some u => rw [hf] at hv; have hv := DataW.held.inj hv; subst hv; rfl
theorem IMap.look_ok {t e : TypeId} (h : IMap w b n m f) (ht : Try.prog.underlying t = some (.map 3 e)) {z : Value} (hz : (zeroValue e).run Try.prog w = .ok z w) {s : Int} (hs : I64 s) :
    (Instr.lookup t (.map (some b)) (.int .i64 s) true).run Try.prog w = .ok (.tuple #[(f s).getD z, .bool (f s).isSome]) w := by
  obtain ⟨D, h1, h2, h3, h4⟩ := h
  obtain ⟨v, ps, hrun, hv⟩ := h1.look_ok int_law ht hz (zd := .held z) (zp := []) rfl (int_key hs)
  have hv := held_inv (z := z) hv
  rw [h3 s hs] at hv
  rw [h2 s hs] at hrun
  rw [hrun]
  cases hf : f s with
  | none => rw [hf] at hv; have hv := DataW.held.inj hv; subst hv; rfl
  | some u => rw [hf] at hv; have hv := DataW.held.inj hv; subst hv; rfl
theorem IMap.put {t e : TypeId} (h : IMap w b n m f) (ht : Try.prog.underlying t = some (.map 3 e)) (hn : n < maxLen) {s : Int} (hs : I64 s) (v : Value) :
    ∃ w', (Instr.mapUpdate t (.map (some b)) (.int .i64 s) v).run Try.prog w = .ok () w' ∧ IMap w' b (n + 1) (if (f s).isSome then m else m + 1) (updI f s v) ∧ Chg (fun b' t => b' = b ∧ t = 0) w w' := by
  obtain ⟨D, h1, h2, h3, h4⟩ := h
  obtain ⟨w', hrun, k1, k2⟩ := h1.update int_law ht hn (int_key hs) (d := .held v) (ps := []) (val := v) rfl
  have hkl : WideAt.IsKeyLit (keyI s) := int_law.key (int_key hs)
  refine ⟨w', hrun, ⟨_, k1, fun x hx => ?_, fun x hx z => ?_, ?_⟩, ?_⟩
  · by_cases he : x = s
    · subst he
      rw [Maps.has_put_same h1.isMap hkl, updI_same]
      rfl
    · rw [Maps.has_put_other (keyI_ne he), updI_other f v he]
      exact h2 x hx
  · by_cases he : x = s
    · subst he
      rw [atKey_put_same h1.isMap hkl, updI_same]
    · rw [atKey_put_other (keyI_ne he), updI_other f v he]
      exact h3 x hx z
  · rw [Maps.size_put (h1.tidy int_law), h2 s hs, h4]
  · obtain ⟨es, clock, hb, _⟩ := h1
    refine (Chg.refl _ w).grown k2 fun g o hg ho => ?_
    injection hg with hg
    subst hg
    rw [hb] at ho
    injection ho with ho
    subst ho
    exact ⟨rfl, rfl⟩
end
end Go.Proofs.Ytdegfnejhamejaa
