/-
  The program's hub and the reference's, side by side.
-/
import Derived.Test.YtclllnoohoonoaaLawB
namespace Go.Proofs.Ytclllnoohoonoaa
open Go.RowKit
set_option linter.unusedVariables false
set_option linter.unusedSimpArgs false

/-- What calls on hubs may turn: blocks of the law's own, of these types. -/
def ML (base b t : Nat) : Prop := base ≤ b ∧ (t = 75 ∨ t = 78 ∨ t = 80 ∨ t = 41 ∨ t = 33 ∨ t = 3 ∨ t = 34 ∨ t = 4 ∨ t = 40)
def Two (base : Nat) (w : World) (p q : Nat) (H1 H2 : HubD) : Prop := ∃ G F : Nat → Prop, HubR G w p H1 ∧ HubFR F w q H2 ∧ (∀ b, G b → ¬ F b) ∧ (∀ b, G b → base ≤ b) ∧ (∀ b, F b → base ≤ b)
section
variable {base p q : Nat} {w w' : World} {H1 H2 : HubD}
theorem Two.same (h : Two base w p q H1 H2) (hc : Chg (fun _ _ => False) w w') : Two base w' p q H1 H2 := by
  obtain ⟨G, F, h1, h2, h3⟩ := h
  exact ⟨G, F, h1.keep hc (fun _ _ _ => id) fun _ => id, h2.keep hc (fun _ _ _ => id) fun _ => id, h3⟩
theorem Two.left (h : Two base w p q H1 H2) (hs : base ≤ w.heap.size) : ∃ G, HubR G w p H1 ∧ ∀ w' H1', HubP G w w' p H1' → Two base w' p q H1' H2 ∧ Chg (ML base) w w' := by
  obtain ⟨G, F, h1, h2, h3, h4, h5⟩ := h
  refine ⟨G, h1, fun w' H1' hP => ?_⟩
  have hch := hP.chg
  obtain ⟨G', k1, k2, _⟩ := hP
  refine ⟨⟨G', F, k1, h2.keep hch (fun b t hF hM => h3 b hM.1 hF) fun b hM => absurd hM.2 (by decide), fun b hG hF => ?_, fun b hG => ?_, h5⟩, hch.mono fun b t _ hM => ⟨h4 b hM.1, ?_⟩⟩
  · rcases k2 b hG with h | h
    · exact h3 b h hF
    · have := h2.lt hF; omega
  · rcases k2 b hG with h | h
    · exact h4 b h
    · omega
  · rcases hM.2 with h | h | h | h <;> simp [h]
theorem Two.right (h : Two base w p q H1 H2) (hs : base ≤ w.heap.size) : ∃ F, HubFR F w q H2 ∧ (∀ b, F b → base ≤ b) ∧ ∀ w' H2', HubQ F w w' q H2' → Two base w' p q H1 H2' ∧ Chg (ML base) w w' := by
  obtain ⟨G, F, h1, h2, h3, h4, h5⟩ := h
  refine ⟨F, h2, h5, fun w' H2' hP => ?_⟩
  have hch := hP.chg
  obtain ⟨F', k1, k2, _⟩ := hP
  refine ⟨⟨G, F', h1.keep hch (fun b t hG hM => h3 b hG hM.1) fun b hM => absurd hM.2 (by decide), k1, fun b hG hF => ?_, h4, fun b hF => ?_⟩, hch.mono fun b t _ hM => ⟨h5 b hM.1, ?_⟩⟩
  · rcases k2 b hF with h | h
    · exact h3 b hG h
    · have := h1.lt hG; omega
  · rcases k2 b hF with h | h
    · exact h5 b h
    · omega
  · rcases hM.2 with h | h | h | h | h <;> simp [h]
theorem Two.hub (h : Two base w p q H1 H2) : ∃ G, HubR G w p H1 := ⟨_, h.choose_spec.choose_spec.1⟩
theorem Two.ref (h : Two base w p q H1 H2) : ∃ F, HubFR F w q H2 := ⟨_, h.choose_spec.choose_spec.2.1⟩
end
theorem Chg.no {M : Nat → Nat → Prop} {w w' : World} (h : Chg (fun _ _ => False) w w') : Chg M w w' := h.mono fun _ _ _ h => h.elim
theorem ML_no {base b t : Nat} (h : decide (t = 75 ∨ t = 78 ∨ t = 80 ∨ t = 41 ∨ t = 33 ∨ t = 3 ∨ t = 34 ∨ t = 4 ∨ t = 40) = false) : ¬ ML base b t := fun hm => of_decide_eq_false h hm.2
/-- Cases as the arguments hold them: below the law's own memory. -/
def CasesA (base : Nat) (w : World) (v : Value) (l : List CaseC) : Prop := SlR base 0 3 CaseV w v l
theorem CasesA.keep {base : Nat} {w w' : World} {v : Value} {l : List CaseC} (h : CasesA base w v l) (hc : Chg (ML base) w w') : CasesA base w' v l := SlR.keep h hc ⟨fun b t hb hm => absurd hm.1 (by omega), fun h => absurd rfl h⟩ fun _ _ h => h
theorem CasesA.x {base : Nat} {w : World} {v : Value} {l : List CaseC} (h : CasesA base w v l) : CasesX base w v l := SlR.imp h (fun b _ hl => hl.elim .inl fun h => absurd rfl h.1) fun _ _ h => h
/-- Behind a step of the law: the answer; both hubs; what turned. -/
def StepRes (base : Nat) (v : Value) (p q : Nat) (H' : HubD) (w : World) (e : Ending) (w' : World) : Prop := e = .returned v ∧ Two base w' p q H' H' ∧ Chg (ML base) w w'
def actV (a : ActD) (A : Option Addr) (c : Nat) : Array Value := #[.int .i64 a.kind, .int .i64 a.who, .int .i64 a.chan, .int .i64 a.pick, .slice A a.cases.length c, .bool a.wait]
theorem Blk.cells6 {w : World} {g t : Nat} {a b c d e f : Value} (h : Blk w g t #[a, b, c, d, e, f]) :
    w.cell? ⟨g, 0, none⟩ = some a ∧ w.cell? ⟨g, 1, none⟩ = some b ∧ w.cell? ⟨g, 2, none⟩ = some c ∧ w.cell? ⟨g, 3, none⟩ = some d ∧ w.cell? ⟨g, 4, none⟩ = some e ∧ w.cell? ⟨g, 5, none⟩ = some f :=
  ⟨by simpa using h.cell 0, by simpa using h.cell 1, by simpa using h.cell 2, by simpa using h.cell 3, by simpa using h.cell 4, by simpa using h.cell 5⟩
structure ActOk (base : Nat) (w : World) (a : ActD) (A : Option Addr) (c : Nat) : Prop where
  who : I64 a.who
  chan : I64 a.chan
  pick : I64 a.pick
  cases : CasesA base w (.slice A a.cases.length c) a.cases
  small : a.cases.length ≤ 1099511627776
end Go.Proofs.Ytclllnoohoonoaa
