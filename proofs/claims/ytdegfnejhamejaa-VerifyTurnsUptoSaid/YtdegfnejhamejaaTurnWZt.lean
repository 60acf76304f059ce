/-
  What reading answers, in one form for the program and the reference; what a module that was read costs.
-/
import Derived.Test.YtdegfnejhamejaaTurnNZt
import Derived.Test.YtdegfnejhamejaaRead10Zt
import Derived.Test.YtdegfnejhamejaaGrowZt
import Derived.Test.YtdegfnejhamejaaSame4Zt
namespace Go.Proofs.Ytdegfnejhamejaa
open Go.RowKit
set_option linter.unusedVariables false
set_option linter.unusedSimpArgs false

/-! ## What was read lies in memory as any module does -/
theorem intsR_of {D : Nat} {w : World} {A : Option Addr} {c : Nat} {l : List Int} (h : RowR D 3 1 intP w A c l) : IntsR w.heap.size w (.slice A l.length c) l := h.settleT (by decide) fun _ _ h => h
theorem ShapeP.shapeR {D : Nat} {w : World} {cs : List Value} {s : ShapeD} (h : ShapeP D w cs s) : ShapeR w.heap.size w cs s := by
  obtain ⟨A, c, h1, h2, h3, h4⟩ := h
  exact ⟨A, c, h1, h2, h3, intsR_of h4⟩
theorem InstrP.instrR {D : Nat} {w : World} {cs : List Value} {s : InstrD} (h : InstrP D w cs s) : InstrR w.heap.size w cs s := by
  obtain ⟨A, c, h1, h2, h3, h4, h5, h6⟩ := h
  exact ⟨A, c, h1, h2, h3, h4, h5, h6.settleT (by decide) fun _ _ h => h⟩
theorem FuncP.funcR {D : Nat} {w : World} {cs : List Value} {s : FuncD} (h : FuncP D w cs s) : FuncR w.heap.size w cs s := by
  obtain ⟨A, c, A', c', A'', c'', a1, a2, a3, a4, a5, a6⟩ := h
  exact ⟨A, c, A', c', A'', c'', a1, a2, a3, intsR_of a4, intsR_of a5, a6.settleT (by decide) fun _ _ h => h.instrR⟩
theorem DecP.modR {D : Nat} {w : World} {v : Value} {m : ModD} (h : DecP D w v m) : ∃ A c A' c', v = .agg #[.slice A m.types.length c, .slice A' m.funcs.length c'] ∧ ModR w.heap.size w (.agg #[.slice A m.types.length c, .slice A' m.funcs.length c']) m := by
  obtain ⟨A, c, A', c', h1, h2, h3⟩ := h
  exact ⟨A, c, A', c', h1, A, c, A', c', rfl, h2.settleT (by decide) fun _ _ h => h.shapeR, h3.settleT (by decide) fun _ _ h => h.funcR⟩
def noMod : ModD := ⟨[], []⟩
theorem noMod_R (B : Nat) (w : World) : ModR B w zeroM noMod := ⟨none, 0, none, 0, rfl, SlR.nil _ _ _ _ _ _ _, SlR.nil _ _ _ _ _ _ _⟩
/-- What reading answers: the module, the place, the kind of the error. -/
def decAns (bs : List Nat) : ModD × Nat × Nat :=
  if 1048576 < bs.length then (noMod, 0, 6) else match readP bs with
    | .error f => (noMod, f, 5)
    | .ok m => (m, 0, 0)
theorem decAns_error {bs : List Nat} {f : Nat} (hl : bs.length ≤ 1048576) (h : readP bs = .error f) : decAns bs = (noMod, f, 5) := by
  unfold decAns; rw [if_neg (by omega), h]
theorem decAns_ok {bs : List Nat} {m : ModD} (hl : bs.length ≤ 1048576) (h : readP bs = .ok m) : decAns bs = (m, 0, 0) := by
  unfold decAns; rw [if_neg (by omega), h]
theorem decAns_large {bs : List Nat} (hl : 1048576 < bs.length) : decAns bs = (noMod, 0, 6) := by
  unfold decAns; rw [if_pos hl]
theorem DecRes.ans {bs : List Nat} {w w' : World} {e : Ending} (h : DecRes bs w e w') :
    ∃ A c A' c', e = .returned (.tuple #[.agg #[.slice A (decAns bs).1.types.length c, .slice A' (decAns bs).1.funcs.length c'], .int .i64 ((decAns bs).2.1 : Int), .int .i64 ((decAns bs).2.2 : Int)]) ∧ Chg (fun _ _ => False) w w' ∧
      ModR w'.heap.size w' (.agg #[.slice A (decAns bs).1.types.length c, .slice A' (decAns bs).1.funcs.length c']) (decAns bs).1 := by
  obtain ⟨v, z, y, rfl, hc, h⟩ := h
  rcases h with ⟨hl, rfl, rfl, rfl⟩ | ⟨hl, ⟨f, hf, rfl, rfl, rfl⟩ | ⟨m, hm, rfl, rfl, h⟩⟩
  · rw [decAns_large hl]
    exact ⟨none, 0, none, 0, rfl, hc, noMod_R _ _⟩
  · rw [decAns_error hl hf]
    exact ⟨none, 0, none, 0, rfl, hc, noMod_R _ _⟩
  · rw [decAns_ok hl hm]
    obtain ⟨A, c, A', c', rfl, h'⟩ := h.modR
    exact ⟨A, c, A', c', rfl, hc, h'⟩

/-! ## What was read is no bigger than ten times its bytes -/

/-! ## The numbers of a module in memory are numbers of 64 bits -/
theorem ModR.okMod {B : Nat} {w : World} {v : Value} {m : ModD} (h : ModR B w v m) : okMod m := by
  obtain ⟨A, c, A', c', rfl, _, h⟩ := h
  intro f hf x hx
  obtain ⟨k, hk, rfl⟩ := List.mem_iff_getElem.1 hf
  obtain ⟨_, _, _, cs, hv, _, _, _, _, ⟨A1, c1, A2, c2, A3, c3, _, _, _, _, _, h6⟩, _⟩ := SlR.at_ h hk
  obtain ⟨j, hj, rfl⟩ := List.mem_iff_getElem.1 hx
  obtain ⟨_, _, _, cs', _, _, _, _, _, ⟨A4, c4, _, _, _, _, h7, _⟩, _⟩ := SlR.at_ h6 hj
  exact h7
/-- Bytes in a row of their own. -/
theorem byteV_own {W : World} {base n c : Nat} {A : Option Addr} {l : List Nat} (h : W.ownsRow base 5 1 (.slice A n c) n (u8s l)) (hl : l.length = n) (hb : ∀ c ∈ l, c < 256) : SlR W.heap.size 0 1 ByteV W (.slice A l.length c) l := by
  subst hl
  have hlen : (l.map fun x : Nat => [Value.int .u8 (x : Int)]).length = l.length := by simp
  have : ∀ l : List Nat, u8s l = (l.map fun x : Nat => [Value.int .u8 (x : Int)]).flatten := by
    intro l
    unfold u8s
    induction l with
    | nil => rfl
    | cons x l ih => simp only [List.map_cons, List.flatten_cons, ← ih]; rfl
  rw [this] at h
  refine SlR.settle (SlR.of_own (B := 0) (R := ByteV) (l := l) (by decide) h hlen rfl (by intro cs hcs; obtain ⟨x, _, rfl⟩ := List.mem_map.1 hcs; rfl) (fun k x cs hx hcs => ?_)) fun _ _ h => h
  rw [List.getElem?_map, hx] at hcs
  injection hcs with hcs
  exact ⟨hcs.symm, hb x (List.mem_of_getElem? hx)⟩
end Go.Proofs.Ytdegfnejhamejaa
