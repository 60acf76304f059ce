/-
  Bytes among the arguments: their data, and what their bulk bounds.
-/
import Derived.Test.YtfmhedpjkpaohaaOpenM
import Derived.Test.YtfmhedpjkpaohaaRead1
namespace Go.Proofs.Ytfmhedpjkpaohaa
open Go.RowKit Go.ChangeShapes Go.WideShapes Go.Deep
set_option linter.unusedVariables false
set_option linter.unusedSimpArgs false

theorem wf_u8 {x : Int} (h : (Lit.int .u8 x).wf = true) : ∃ n : Nat, x = n ∧ n < 256 := by
  simp [Lit.wf, IntKind.min, IntKind.max, IntKind.signed, IntKind.bits] at h
  exact ⟨x.toNat, by omega, by omega⟩
theorem wf_u16 {x : Int} (h : (Lit.int .u16 x).wf = true) : ∃ n : Nat, x = n ∧ n < 65536 := by
  simp [Lit.wf, IntKind.min, IntKind.max, IntKind.signed, IntKind.bits] at h
  exact ⟨x.toNat, by omega, by omega⟩
theorem wf_bytes : ∀ {zs : List Int}, (∀ x ∈ zs, (Lit.int .u8 x).wf = true) → ∃ l : List Nat, zs = l.map (fun x : Nat => (x : Int)) ∧ ∀ x ∈ l, x < 256
  | [], _ => ⟨[], rfl, by simp⟩
  | z :: zs, h => by
    obtain ⟨k, rfl, hk⟩ := wf_u8 (h z (by simp))
    obtain ⟨l, hl1, hl⟩ := wf_bytes (zs := zs) fun x hx => h x (List.mem_cons_of_mem _ hx)
    exact ⟨k :: l, by rw [hl1]; rfl, fun x hx => by rcases List.mem_cons.1 hx with rfl | hx; exact hk; exact hl x hx⟩
section
variable {H : Type} {enc : TypeId × Value → H} {W : World} {n : Nat} {u : Value} {y : DataW H × List MemPlace}
theorem open_bytes_ (h : DataW.trod enc Try.prog W 0 (fun _ => true) true n 26 [u] = some y) : ∃ A c l, u = .slice A l.length c ∧ SlR W.heap.size 0 1 ByteV W (.slice A l.length c) l ∧ l.length + 1 ≤ Rows.uptoBulk y.1 := by
  rcases open_ints Try.underlying26 Try.underlying5 (by kernel_rfl) h with ⟨h1, h2⟩ | ⟨a, len, cap, zs, h1, _, hl, hm, hz, hx, hcell, hwf⟩
  · exact ⟨none, 0, [], by simpa using h1, SlR.nil _ _ _ _ _ _ _, by rw [h2]; simp [Rows.uptoBulk]⟩
  · simp only [if_true] at hz
    obtain ⟨ns, rfl, hns⟩ := wf_bytes hwf
    rw [List.length_map] at hz
    have htl : (ns.take len).length = len := by rw [List.length_take]; omega
    refine ⟨some a, cap, ns.take len, by rw [htl]; simpa using h1, ⟨some a, cap, rfl, by omega, fun h0 => ?_⟩, ?_⟩
    · have h00 := hcell 0 (by rw [List.length_map]; omega)
      have ha0 : a.add 0 = a := by simp [Addr.add]
      rw [ha0] at h00
      obtain ⟨b, o, rfl, hb⟩ := flat_of_cell h00
      refine ⟨b, o, rfl, .inl hb, hb, fun k x hx => ⟨[.int .u8 (x : Int)], rfl, ⟨rfl, ?_⟩, fun j v hj => ?_⟩⟩
      · exact hns x (List.mem_of_mem_take (List.mem_of_getElem? hx))
      · have hk : k < (ns.take len).length := (List.getElem?_eq_some_iff.1 hx).1
        have hkz := hcell k (by rw [List.length_map]; omega)
        rw [add_flat] at hkz
        match j, hj with
        | 0, hj =>
          simp at hj
          subst hj
          rw [List.getElem?_take, if_pos (by omega)] at hx
          rw [show o + k * 1 + 0 = o + k by omega, hkz]
          simp [List.getD, hx]
        | j + 1, hj => simp at hj
    · rw [hx]
      simp only [Rows.uptoBulk]
      have := bulk_len (lits (H := H) .u8 ((ns.map fun x : Nat => (x : Int)).take len))
      simp only [lits, List.length_map, List.length_take] at this
      simp only [lits, List.length_take]
      omega
set_option maxRecDepth 100000 in
theorem open_bytes_v {v : Value} {d : DataW H} {p : List MemPlace} {r : Reach} {b0 : Nat} (hv : Value.okWide Try.prog W r b0 26 v) (h : DataW.Trod enc Try.prog W 0 (fun _ => true) true 26 v d p) :
    ∃ A c l, v = .slice A l.length c ∧ SlR W.heap.size 0 1 ByteV W (.slice A l.length c) l ∧ l.length + 1 ≤ Rows.uptoBulk d := by
  obtain ⟨A, n, c, rfl⟩ := okWide_slice Try.underlying26 hv
  obtain ⟨fuel, hf⟩ := h
  have hf' : DataW.trod enc Try.prog W 0 (fun _ => true) true fuel 26 [.slice A n c] = some (d, p) := hf
  clear hf
  obtain ⟨A', c', l, h1, h2, h3⟩ := open_bytes_ hf'
  exact ⟨A', c', l, h1, h2, h3⟩
end
end Go.Proofs.Ytfmhedpjkpaohaa
