/-
  HeapNil answers true: a nil heap is refused. Conditions: none (the first form of the statement; there are no arguments).
-/
import Derived.Test.YtodbhalgcfmnkaaHeapNilW
import Derived.Test.YtodbhalgcfmnkaaOpen
import Derived.ProofKit
import Derived.SizedLaws
namespace Go.Proofs.Ytodbhalgcfmnkaa.heapNilS
open Go.ChangeShapes Go.WideShapes Go.ChangeAt Go.RowKit
set_option linter.unusedVariables false

theorem own : ownKnob Try.prog.godebug = none := by kernel_rfl
theorem laid : laidOutB Try.prog = true := by kernel_rfl

theorem contract (H : Type) (enc : TypeId × Value → H) (W : World) (base : Nat) (args : Array Value) (ds gs : List (DataW H)) (before : List MemPlace)
    (hval : ∀ (j : Nat) t v, Try.f3.params[j]? = some t → args[j]? = some v → Value.okWide Try.prog W .any base t v)
    (hW : DataW.Whole enc Try.prog Try.f3.params.toList Rows.heapNilSpec.vars false W args.toList ds gs before) :
    Calls Try.prog 3 args W fun e W' => ∃ v, e = .returned v ∧ Rows.heapNilSpec.post enc Try.prog Try.f3 false true false false W args v W' := by
  have hW' := hW
  obtain ⟨p, q, hA0, hV, rfl, hfz, hnd⟩ := hW
  have hA : DataW.TrodAll enc Try.prog W 0 (fun _ => true) true Try.f3.params.toList args.toList ds p := hA0
  rw [Try.params3] at hA hval
  have hA1 : DataW.TrodAll enc Try.prog W 0 (fun _ => true) true [] args.toList ds p := hA
  obtain ⟨hargs, rfl, rfl⟩ : args.toList = [] ∧ ds = [] ∧ p = [] := by
    cases hl : args.toList with
    | nil =>
      rw [hl] at hA1
      cases ds with
      | nil => exact ⟨rfl, rfl, hA1⟩
      | cons d ds => exact hA1.elim
    | cons v vs => rw [hl] at hA1; exact hA1.elim
  obtain rfl : args = #[] := by cases args; simp_all
  obtain ⟨rfl, rfl⟩ := trodVars_none hV
  clear hA0
  refine (heapNil_walk W).mono fun e W' ⟨he, hg⟩ => ?_
  exact ⟨_, he, law_post laid (by rw [Try.params3]; intro t ht; simp at ht) (tb := 4) rfl Try.underlying4 rfl rfl hW' (hg.below (fun _ _ h => h.elim) (Nat.le_refl _))⟩

set_option maxRecDepth 100000 in
theorem lifted (os : Os) (started : os.Started) (H : Type) (enc : TypeId × Value → H) :
    ReturnsInHanded {} Try.checked os 3 .any (Rows.heapNilSpec.pre6 enc Try.prog Try.f3 Rows.heapNilRow.domain false) (Rows.heapNilSpec.post enc Try.prog Try.f3 false true false false) := by
  refine returnsInHanded_of_change (C := Try.checked) own started (by kernel_rfl) Try.func3
    (ChangeSpec.witness6 (enc := enc) (C := Try.checked) false ⟨#[], #[], []⟩ 8 (by kernel_rfl) (by kernel_rfl) (by kernel_rfl) (by kernel_rfl)) ?_
  intro W base args ds gs before hval hW _ _
  exact contract H enc W base args ds gs before hval hW

theorem proved : Rows.HeapNilSaid :=
  OpenClaim.holds_of_wide 3 Try.f3 rfl rfl rfl rfl rfl rfl rfl ⟨rfl, rfl, rfl, rfl, rfl⟩ rfl rfl rfl rfl rfl (by kernel_rfl) Try.func3 (by kernel_rfl)
    (of_decide_eq_true (by kernel_rfl)) (by unfold Func.isWrapper; first | (rw [if_pos (by decide +kernel)]; kernel_rfl) | (rw [if_neg (by decide +kernel)]; exact ⟨rfl, rfl⟩))
    (fun os started H enc _ => lifted os started H enc)
end Go.Proofs.Ytodbhalgcfmnkaa.heapNilS
