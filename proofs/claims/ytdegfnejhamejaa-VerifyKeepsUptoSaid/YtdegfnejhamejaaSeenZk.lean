/-
  The set of shapes that were seen: a map whose keys are rows of 19 numbers.
-/
import Derived.Test.YtdegfnejhamejaaFormNZk
import Derived.Test.YtdegfnejhamejaaDataZk
import Derived.Maps.Own
import Derived.Maps.OwnSet
import Derived.DeepKeys4
namespace Go.Proofs.Ytdegfnejhamejaa
open Go.RowKit Go.ChangeMaps Go.Maps
set_option linter.unusedVariables false
set_option linter.unusedSimpArgs false

def keyV (k : List Int) : Value := .agg (k.map (Value.int .i64)).toArray
theorem mapM_all {α β : Type} (f : α → Option β) : ∀ l : List α, (∀ x ∈ l, ∃ y, f x = some y) → ∃ ys, l.mapM f = some ys
  | [], _ => ⟨[], rfl⟩
  | x :: l, h => by
    obtain ⟨y, hy⟩ := h x (by simp)
    obtain ⟨ys, hys⟩ := mapM_all f l fun z hz => h z (by simp [hz])
    exact ⟨y :: ys, by simp [List.mapM_cons, hy, hys]⟩
theorem key_law : Keyed Try.prog 99 := by
  refine Keyed.of_law (deep_law_laid (m := 2) (by kernel_rfl) (by omega) (of_decide_eq_true (by kernel_rfl)) (by kernel_rfl) (by kernel_rfl))
theorem i64_wf {x : Int} (h : I64 x) : (Lit.int .i64 x).wf = true := by
  simp [Lit.wf, IntKind.min, IntKind.max, IntKind.signed, IntKind.bits]
  exact h
theorem key_of {k : List Int} (hk : k.length = 19) (hw : ∀ x ∈ k, I64 x) : ∃ kl, keyOf Try.prog 99 (keyV k) = some kl := by
  have hcell : Try.prog.cellsOf 99 = 19 := by kernel_rfl
  have hcell3 : Try.prog.cellsOf 3 = 1 := by kernel_rfl
  have hkt : Try.prog.keyType 99 = true := by kernel_rfl
  obtain ⟨d, hd⟩ : ∃ d, Try.prog.types.size + 1 = d + 2 := ⟨Try.prog.types.size - 1, by have : 0 < Try.prog.types.size := of_decide_eq_true (by kernel_rfl); omega⟩
  have hlits : ∃ ls, Try.prog.keyLits (d + 2) 99 (k.map (Value.int .i64)) = some ls := by
    unfold Program.keyLits
    rw [Try.underlying99]
    simp only [List.length_map, hk, hcell, if_true]
    obtain ⟨ys, hys⟩ := mapM_all (fun i => Try.prog.keyLits (d + 1) 3 (((k.map (Value.int .i64)).drop (i * Try.prog.cellsOf 3)).take (Try.prog.cellsOf 3))) (List.range 19) fun i hi => by
      have hi : i < k.length := by simpa [hk] using hi
      refine ⟨[.int .i64 k[i]], ?_⟩
      have h1 : (((k.map (Value.int .i64)).drop (i * Try.prog.cellsOf 3)).take (Try.prog.cellsOf 3)) = [Value.int .i64 k[i]] := by
        rw [hcell3, Nat.mul_one, List.drop_eq_getElem_cons (by simpa using hi)]
        simp
      rw [h1]
      unfold Program.keyLits
      rw [Try.underlying3]
      simp [i64_wf (hw _ (List.getElem_mem hi))]
    rw [hys]
    exact ⟨_, rfl⟩
  obtain ⟨ls, hls⟩ := hlits
  refine ⟨.string (keyBytes ls), ?_⟩
  have hls' : Try.prog.keyLits (Try.prog.types.size + 1) 99 (k.map (Value.int .i64)) = some ls := hd ▸ hls
  have hc : (keyV k).cells.toList = k.map (Value.int .i64) := by simp [keyV, Value.cells]
  have hf : (keyV k).formed Try.prog 99 = true := by simp [keyV, Value.formed, Try.underlying99, hcell, hk]
  unfold keyOf
  rw [Try.underlying99]
  simp only [hkt, hf, Bool.and_self, if_true, hc, hls', Option.map_some]

/-- Block b is the set of these keys; of at most n entries. -/
def Seen (w : World) (b n : Nat) (ks : List (List Int)) : Prop :=
  ∃ D : DataW Unit, w.ownsMap Try.prog 99 (plainElem Try.prog 4) b n D ∧ ∀ k kl, keyOf Try.prog 99 (keyV k) = some kl → D.atKey kl (.lit (.bool false)) = .lit (.bool (ks.contains k))
theorem plainElem_bool_inv {P : Program} {e : TypeId} (he : P.underlying e = some .bool) {v : Value} {z : DataW Unit × List MemPlace} (h : plainElem P e v = some z) : ∃ a, v = .bool a ∧ z = (.lit (.bool a), []) := by
  unfold plainElem at h
  rw [he] at h
  cases v <;> simp at h
  exact ⟨_, rfl, h.symm⟩
theorem map_int_inj : ∀ {k k' : List Int}, k.map (Value.int .i64) = k'.map (Value.int .i64) → k = k'
  | [], [], _ => rfl
  | [], _ :: _, h => by simp at h
  | _ :: _, [], h => by simp at h
  | x :: k, y :: k', h => by rw [List.map_cons, List.map_cons] at h; injection h with h1 h2; injection h1 with _ h1; rw [h1, map_int_inj h2]
theorem keyV_inj {k k' : List Int} (h : keyV k = keyV k') : k = k' := by
  unfold keyV at h
  injection h with h
  have h := congrArg Array.toList h
  simp only [List.toList_toArray] at h
  exact map_int_inj h
section
variable {w w' : World} {b n : Nat} {ks : List (List Int)}
theorem Seen.made (w : World) : Seen (w.alloc (.map #[] 0)) w.heap.size 0 [] := ⟨_, World.ownsMap_made _ _ _ _, fun k kl _ => by simp [DataW.atKey]⟩
theorem Seen.of_block (h : Seen w b n ks) (hb : w'.heap[b]? = w.heap[b]?) : Seen w' b n ks := by
  obtain ⟨D, ⟨es, clock, hbk, F, hs, hD⟩, h2⟩ := h
  exact ⟨D, ⟨es, clock, hb.trans hbk, F, hs, hD⟩, h2⟩
theorem Seen.lt (h : Seen w b n ks) : b < w.heap.size := by obtain ⟨D, h1, _⟩ := h; exact h1.lt
theorem Seen.mono {n' : Nat} (h : Seen w b n ks) (hn : n ≤ n') : Seen w b n' ks := by
  obtain ⟨D, h1, h2⟩ := h
  exact ⟨D, h1.mono hn, h2⟩
theorem Seen.look (h : Seen w b n ks) {k : List Int} (hk : k.length = 19) (hw : ∀ x ∈ k, I64 x) : (Instr.lookup 92 (.map (some b)) (keyV k) false).run Try.prog w = .ok (.bool (ks.contains k)) w := by
  obtain ⟨D, h1, h2⟩ := h
  obtain ⟨kl, hkl⟩ := key_of hk hw
  obtain ⟨v, ps, hrun, hv⟩ := h1.lookup key_law Try.underlying92 (z := .bool false) (by kernel_rfl) (plainElem_bool Try.underlying4 false) hkl
  rw [h2 k kl hkl] at hv
  obtain ⟨a, rfl, ha⟩ := plainElem_bool_inv Try.underlying4 hv
  simp at ha
  rw [hrun, ← ha.1]
  simp
theorem Seen.put (h : Seen w b n ks) (hn : n < maxLen) {k : List Int} (hk : k.length = 19) (hw : ∀ x ∈ k, I64 x) :
    ∃ w', (Instr.mapUpdate 92 (.map (some b)) (keyV k) (.bool true)).run Try.prog w = .ok () w' ∧ Seen w' b (n + 1) (ks ++ [k]) ∧ w.grownBy w' (some b) := by
  obtain ⟨D, h1, h2⟩ := h
  obtain ⟨kl, hkl⟩ := key_of hk hw
  obtain ⟨w', hrun, h3, h4⟩ := h1.update key_law Try.underlying92 hn hkl (plainElem_bool Try.underlying4 true)
  refine ⟨w', hrun, ⟨_, h3, fun k' kl' hkl' => ?_⟩, h4⟩
  by_cases he : kl' = kl
  · subst he
    rw [atKey_put_same h1.isMap (key_law.key hkl)]
    have : k' = k := keyV_inj (key_law.inj hkl' hkl)
    simp [this]
  · rw [atKey_put_other he, h2 k' kl' hkl']
    have : k' ≠ k := fun e => he (by rw [e, hkl] at hkl'; exact (Option.some.inj hkl').symm)
    simp [this]
end
end Go.Proofs.Ytdegfnejhamejaa
