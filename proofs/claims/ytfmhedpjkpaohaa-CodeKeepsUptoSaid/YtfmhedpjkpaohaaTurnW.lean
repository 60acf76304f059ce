/-
  What reading answers, in one form for the program and the reference; what a module that was read costs.
-/
import Derived.Test.YtfmhedpjkpaohaaTurnN
import Derived.Test.YtfmhedpjkpaohaaIn5
import Derived.Test.YtfmhedpjkpaohaaSame4
import Derived.Test.YtfmhedpjkpaohaaAns
namespace Go.Proofs.Ytfmhedpjkpaohaa
open Go.RowKit
set_option linter.unusedVariables false
set_option linter.unusedSimpArgs false

/-! ## What was read lies in memory as any module does -/
theorem RowR.settleT {α : Type} {D e size : Nat} {R R' : World → List Value → α → Prop} {w : World} {A : Option Addr} {c : Nat} {l : List α} (he : e ≠ 0) (h : RowR D e size R w A c l) (hR : ∀ cs x, R w cs x → R' w cs x) : SlR w.heap.size 0 size R' w (.slice A l.length c) l := (h.slr he D).settle hR
theorem intsR_of {D : Nat} {w : World} {A : Option Addr} {c : Nat} {l : List Int} (h : RowR D 3 1 intP w A c l) : IntsR w.heap.size w (.slice A l.length c) l := h.settleT (by decide) fun _ _ h => h
theorem ShapeP.shapeR {D : Nat} {w : World} {cs : List Value} {s : ShapeD} (h : ShapeP D w cs s) : ShapeR w.heap.size w cs s := by
  obtain ⟨A, c, h1, h2, h3, h4⟩ := h
  exact ⟨A, c, h1, h2, h3, intsR_of h4⟩
theorem InstrP.instrR {D : Nat} {w : World} {cs : List Value} {s : InstrD} (h : InstrP D w cs s) : InstrR w.heap.size w cs s := by
  obtain ⟨A, c, h1, h2, h3, h4, h5, h6⟩ := h
  exact ⟨A, c, h1, h2, h3, h4, h5, h6.settleT (by decide) fun _ _ h => h⟩
theorem FuncP.funcR {D : Nat} {w : World} {cs : List Value} {s : FuncD} (h : FuncP D w cs s) : FuncR w.heap.size w cs s := by
  obtain ⟨A, c, A', c', A'', c'', a1, a2, a3, a4, a5, a6⟩ := h
  exact ⟨A, c, A', c', A'', c'', a1, a2, a3, intsR_of a4, intsR_of a5, a6.settleT (by decide) fun _ _ h => h.instrR⟩
theorem DecP.modR {D : Nat} {w : World} {v : Value} {m : ModD} (h : DecP D w v m) : ∃ A c A' c', v = .agg #[.slice A m.types.length c, .slice A' m.funcs.length c'] ∧ ModR w.heap.size w (.agg #[.slice A m.types.length c, .slice A' m.funcs.length c']) m := by
  obtain ⟨A, c, A', c', h1, h2, h3⟩ := h
  exact ⟨A, c, A', c', h1, A, c, A', c', rfl, h2.settleT (by decide) fun _ _ h => h.shapeR, h3.settleT (by decide) fun _ _ h => h.funcR⟩
def noMod : ModD := ⟨[], []⟩
theorem noMod_R (B : Nat) (w : World) : ModR B w zeroM noMod := ⟨none, 0, none, 0, rfl, SlR.nil _ _ _ _ _ _ _, SlR.nil _ _ _ _ _ _ _⟩
/-- What reading answers: the module, the place, the kind of the error. -/
def decAns (bs : List Nat) : ModD × Nat × Nat :=
  if 1048576 < bs.length then (noMod, 0, 6) else match readP bs with
    | .error f => (noMod, f, 5)
    | .ok m => (m, 0, 0)
theorem decAns_error {bs : List Nat} {f : Nat} (hl : bs.length ≤ 1048576) (h : readP bs = .error f) : decAns bs = (noMod, f, 5) := by
  unfold decAns; rw [if_neg (by omega), h]
theorem decAns_ok {bs : List Nat} {m : ModD} (hl : bs.length ≤ 1048576) (h : readP bs = .ok m) : decAns bs = (m, 0, 0) := by
  unfold decAns; rw [if_neg (by omega), h]
theorem decAns_large {bs : List Nat} (hl : 1048576 < bs.length) : decAns bs = (noMod, 0, 6) := by
  unfold decAns; rw [if_pos hl]
theorem DecRes.ans {bs : List Nat} {w w' : World} {e : Ending} (h : DecRes bs w e w') :
    ∃ A c A' c', e = .returned (.tuple #[.agg #[.slice A (decAns bs).1.types.length c, .slice A' (decAns bs).1.funcs.length c'], .int .i64 ((decAns bs).2.1 : Int), .int .i64 ((decAns bs).2.2 : Int)]) ∧ Chg (fun _ _ => False) w w' ∧
      ModR w'.heap.size w' (.agg #[.slice A (decAns bs).1.types.length c, .slice A' (decAns bs).1.funcs.length c']) (decAns bs).1 := by
  obtain ⟨v, z, y, rfl, hc, h⟩ := h
  rcases h with ⟨hl, rfl, rfl, rfl⟩ | ⟨hl, ⟨f, hf, rfl, rfl, rfl⟩ | ⟨m, hm, rfl, rfl, h⟩⟩
  · rw [decAns_large hl]
    exact ⟨none, 0, none, 0, rfl, hc, noMod_R _ _⟩
  · rw [decAns_error hl hf]
    exact ⟨none, 0, none, 0, rfl, hc, noMod_R _ _⟩
  · rw [decAns_ok hl hm]
    obtain ⟨A, c, A', c', rfl, h'⟩ := h.modR
    exact ⟨A, c, A', c', rfl, hc, h'⟩

/-! ## What was read is no bigger than ten times its bytes -/
theorem encI_pos {a n : Int} {l : List Nat} (h : encI a n = some l) : 1 ≤ l.length := by
  unfold encI at h
  split at h
  · injection h with h
    subst h
    exact encN_pos _
  · cases h
theorem all_cost {α : Type} {enc : α → Option (List Nat)} {c : α → Nat} (h : ∀ x l, enc x = some l → c x ≤ 10 * l.length) : ∀ (xs : List α) (l : List Nat), allO enc xs = some l → (xs.map c).sum ≤ 10 * l.length
  | [], l, _ => by simp
  | x :: xs, l, hl => by
    obtain ⟨l1, l2, h1, h2, rfl⟩ := seqO_some hl
    have := h x l1 h1
    have := all_cost h xs l2 h2
    simp only [List.map_cons, List.sum_cons, List.length_append]
    omega
theorem list_cost {α : Type} {enc : α → Option (List Nat)} {c : α → Nat} (h : ∀ x l, enc x = some l → c x ≤ 10 * l.length) {xs : List α} {l : List Nat} (hl : encL enc xs = some l) : (xs.map c).sum + 10 ≤ 10 * l.length := by
  obtain ⟨l1, l2, h1, h2, rfl⟩ := seqO_some hl
  have := all_cost h xs l2 h2
  have := encI_pos h1
  simp only [List.length_append]
  omega
theorem ints_cost {xs : List Int} {l : List Nat} (hl : encL (encI 0) xs = some l) : cInts xs ≤ 10 * l.length := by
  have := list_cost (c := fun _ => 10) (fun x l h => by have := encI_pos h; omega) hl
  unfold cInts
  omega
theorem shape_cost (s : ShapeD) (l : List Nat) (h : encShape s = some l) : cShape s ≤ 10 * l.length := by
  obtain ⟨l1, r1, h1, k1, rfl⟩ := seqO_some h
  obtain ⟨l2, l3, h2, h3, rfl⟩ := seqO_some k1
  have := encI_pos h1
  have := ints_cost h2
  have := encI_pos h3
  unfold cShape
  simp only [List.length_append]
  omega
theorem case_cost (s : CaseD) (l : List Nat) (h : encCase s = some l) : cCase s ≤ 10 * l.length := by
  obtain ⟨l1, r1, h1, k1, rfl⟩ := seqO_some h
  obtain ⟨l2, r2, h2, k2, rfl⟩ := seqO_some k1
  obtain ⟨l3, l4, h3, h4, rfl⟩ := seqO_some k2
  have : l1.length = 1 := by
    unfold encFlag at h1
    injection h1 with h1
    subst h1
    split <;> rfl
  have := encI_pos h2
  have := encI_pos h3
  have := encI_pos h4
  unfold cCase
  simp only [List.length_append]
  omega
theorem instr_cost (s : InstrD) (l : List Nat) (h : encInstr s = some l) : cInstr s ≤ 10 * l.length := by
  obtain ⟨l1, r1, h1, k1, rfl⟩ := seqO_some h
  obtain ⟨l2, r2, h2, k2, rfl⟩ := seqO_some k1
  obtain ⟨l3, r3, h3, k3, rfl⟩ := seqO_some k2
  obtain ⟨l4, l5, h4, h5, rfl⟩ := seqO_some k3
  have := encI_pos h1
  have := encI_pos h2
  have := encI_pos h3
  have : 1 ≤ l4.length := by injection h4 with h4; subst h4; exact encN_pos _
  have := list_cost case_cost h5
  unfold cInstr
  simp only [List.length_append]
  omega
theorem func_cost (s : FuncD) (l : List Nat) (h : encFunc s = some l) : cFunc s ≤ 10 * l.length := by
  obtain ⟨l1, r1, h1, k1, rfl⟩ := seqO_some h
  obtain ⟨l2, r2, h2, k2, rfl⟩ := seqO_some k1
  obtain ⟨l3, r3, h3, k3, rfl⟩ := seqO_some k2
  obtain ⟨l4, l5, h4, h5, rfl⟩ := seqO_some k3
  have := encI_pos h1
  have := ints_cost h2
  have := ints_cost h3
  have := encI_pos h4
  have := list_cost instr_cost h5
  unfold cFunc
  simp only [List.length_append]
  omega
theorem mod_cost {m : ModD} {l : List Nat} (h : encMod m = some l) : cMod m ≤ 10 * l.length := by
  obtain ⟨l1, l2, h1, h2, rfl⟩ := seqO_some h
  have := list_cost shape_cost h1
  have := list_cost func_cost h2
  unfold cMod
  simp only [List.length_append]
  omega
theorem decAns_cost {bs : List Nat} (hb : ∀ c ∈ bs, c < 256) : cMod (decAns bs).1 ≤ 1099511627776 := by
  by_cases hl : 1048576 < bs.length
  · rw [decAns_large hl]; show cMod noMod ≤ _; decide
  · cases h : readP bs with
    | error f => rw [decAns_error (by omega) h]; show cMod noMod ≤ _; decide
    | ok m =>
      rw [decAns_ok (by omega) h]
      have := mod_cost (read_enc hb h)
      show cMod m ≤ _
      omega

/-! ## The numbers of a module in memory are numbers of 64 bits -/
theorem ModR.okMod {B : Nat} {w : World} {v : Value} {m : ModD} (h : ModR B w v m) : okMod m := by
  obtain ⟨A, c, A', c', rfl, _, h⟩ := h
  intro f hf x hx
  obtain ⟨k, hk, rfl⟩ := List.mem_iff_getElem.1 hf
  obtain ⟨_, _, _, cs, hv, _, _, _, _, ⟨A1, c1, A2, c2, A3, c3, _, _, _, _, _, h6⟩, _⟩ := SlR.at_ h hk
  obtain ⟨j, hj, rfl⟩ := List.mem_iff_getElem.1 hx
  obtain ⟨_, _, _, cs', _, _, _, _, _, ⟨A4, c4, _, _, _, _, h7, _⟩, _⟩ := SlR.at_ h6 hj
  exact h7
theorem byteV_lt {B : Nat} {w : World} {v : Value} {bs : List Nat} (h : SlR B 0 1 ByteV w v bs) : ∀ c ∈ bs, c < 256 := by
  intro c hc
  obtain ⟨k, hk, rfl⟩ := List.mem_iff_getElem.1 hc
  obtain ⟨_, _, _, cs, _, _, _, _, _, ⟨_, h1⟩, _⟩ := SlR.at_ h hk
  exact h1
theorem byteV_take {B : Nat} {w : World} {A : Option Addr} {c : Nat} {bs : List Nat} (h : SlR B 0 1 ByteV w (.slice A bs.length c) bs) {k : Nat} (hk : k ≤ bs.length) : SlR B 0 1 ByteV w (.slice A (bs.take k).length c) (bs.take k) := by
  obtain ⟨A', c', hv, hl, h⟩ := h
  injection hv with h1 _ h3
  subst h1 h3
  have htl : (bs.take k).length = k := by rw [List.length_take]; omega
  refine ⟨A, c, rfl, by omega, fun h0 => ?_⟩
  obtain ⟨b, o, h1, h2, h3, h4⟩ := h (by omega)
  refine ⟨b, o, h1, h2, h3, fun j x hx => h4 j x ?_⟩
  rw [List.getElem?_take] at hx
  split at hx
  · exact hx
  · cases hx
/-- Bytes in a row of their own. -/
theorem byteV_own {W : World} {base n c : Nat} {A : Option Addr} {l : List Nat} (h : W.ownsRow base 5 1 (.slice A n c) n (u8s l)) (hl : l.length = n) (hb : ∀ c ∈ l, c < 256) : SlR W.heap.size 0 1 ByteV W (.slice A l.length c) l := by
  subst hl
  have hlen : (l.map fun x : Nat => [Value.int .u8 (x : Int)]).length = l.length := by simp
  have : ∀ l : List Nat, u8s l = (l.map fun x : Nat => [Value.int .u8 (x : Int)]).flatten := by
    intro l
    unfold u8s
    induction l with
    | nil => rfl
    | cons x l ih => simp only [List.map_cons, List.flatten_cons, ← ih]; rfl
  rw [this] at h
  refine SlR.settle (SlR.of_own (B := 0) (R := ByteV) (l := l) (by decide) h hlen rfl (by intro cs hcs; obtain ⟨x, _, rfl⟩ := List.mem_map.1 hcs; rfl) (fun k x cs hx hcs => ?_)) fun _ _ h => h
  rw [List.getElem?_map, hx] at hcs
  injection hcs with hcs
  exact ⟨hcs.symm, hb x (List.mem_of_getElem? hx)⟩
theorem byteV_copied {W w' : World} {base c : Nat} {A : Option Addr} {l : List Nat} {xss : List (List Value)} (h : w'.ownsRow base 5 1 (.slice A l.length c) l.length xss.flatten) (h1 : xss.length = l.length) (h2 : ∀ cs ∈ xss, cs.length = 1)
    (h3 : ∀ (k : Nat) x cs, l[k]? = some x → xss[k]? = some cs → ByteV W cs x) : SlR w'.heap.size 0 1 ByteV w' (.slice A l.length c) l :=
  SlR.settle (SlR.of_own (B := 0) (R := ByteV) (by decide) h h1 rfl h2 h3) fun _ _ h => h
end Go.Proofs.Ytfmhedpjkpaohaa
