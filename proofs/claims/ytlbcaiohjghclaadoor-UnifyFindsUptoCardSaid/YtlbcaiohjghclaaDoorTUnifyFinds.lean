/-
  What names stand for, or why they stand for nothing: so says UnifyFinds of the program.
-/
import Derived.Test.YtlbcaiohjghclaaDoorTUnifyFindsW
import Derived.Test.YtlbcaiohjghclaaDoorLaidT
namespace Go.Proofs.YtlbcaiohjghclaaDoor.unifyFinds
open Go.ChangeShapes Go.WideShapes Go.ChangeAt Go.RowKit
set_option linter.unusedVariables false

set_option maxRecDepth 100000 in
theorem contract (H : Type) (enc : TypeId × Value → H) (W : World) (base : Nat) (args : Array Value) (ds gs : List (DataW H)) (before : List MemPlace)
    (hval : ∀ (j : Nat) t v, Tryd.f3.params[j]? = some t → args[j]? = some v → Value.okWide Tryd.prog W .any base t v)
    (hW : DataW.Whole enc Tryd.prog Tryd.f3.params.toList Rows.unifyFindsSpec.vars false W args.toList ds gs before) (hL : laidMetH Tryd.prog laidL W) (hk : Rows.uptoSmall H (ds ++ gs) = true) :
    Calls Tryd.prog 3 args W fun e W' => ∃ v, e = .returned v ∧ Rows.unifyFindsSpec.post enc Tryd.prog Tryd.f3 false true false false W args v W' := by
  have hW' := hW
  have htab := tabs_of hL
  obtain ⟨p, q, hA0, hV, rfl, hfz, hnd⟩ := hW
  have hA : DataW.TrodAll enc Tryd.prog W 0 (fun _ => true) true Tryd.f3.params.toList args.toList ds p := hA0
  rw [Tryd.params3] at hA hval
  obtain ⟨v0, vs0, d0, ds0, p0, q0, hargs, rfl, rfl, h0, r0⟩ := trodAll_cons hA
  obtain ⟨v1, vs1, d1, ds1, p1, q1, rfl, rfl, rfl, h1, r1⟩ := trodAll_cons r0
  obtain ⟨v2, vs2, d2, ds2, p2, q2, rfl, rfl, rfl, h2, r2⟩ := trodAll_cons r1
  obtain ⟨rfl, rfl, rfl⟩ := trodAll_nil r2
  obtain rfl : args = #[v0, v1, v2] := by cases args; simp_all
  obtain ⟨rfl, rfl⟩ := trodVars_none hV
  have hbb := bulk_bound hk
  simp only [List.append_nil, Rows.uptoBulkAll] at hbb
  obtain ⟨A0, c0, l0, rfl, hT0, hl0⟩ := open_strs_v (hval 0 22 v0 rfl rfl) h0 (by omega)
  obtain ⟨n1, A1, c1, l1, rfl, hT1, hl1⟩ := open_tys_v (hval 1 23 v1 rfl rfl) h1 (by omega)
  obtain ⟨n2, A2, c2, l2, rfl, hT2, hl2⟩ := open_tys_v (hval 2 23 v2 rfl rfl) h2 (by omega)
  clear hA0
  refine (unifyFinds_walk (n1 + n2) W.heap.size W l0 l1 l2 A0 c0 A1 c1 A2 c2 (Nat.le_refl _) htab hT0 hl0 (SlR.imp hT1 (fun _ _ h => h) fun _ _ h => TyR.deep h (by omega)) hl1 (SlR.imp hT2 (fun _ _ h => h) fun _ _ h => TyR.deep h (by omega)) hl2).mono fun e W' ⟨he, hg⟩ => ?_
  exact ⟨_, he, law_post laidB (by rw [Tryd.params3]; intro t ht; simp at ht; rcases ht with rfl | rfl <;> first | exact readT | exact readTs | exact readSs | exact readS) (tb := 4) rfl Tryd.underlying4 rfl rfl hW' (hg.below (B := W.heap.size) (fun _ _ h => h.elim) (Nat.le_refl _))⟩
set_option maxRecDepth 100000 in
theorem reads (os : Os) {H : Type} (enc : TypeId × Value → H) : ∃ places, DataW.whole enc Tryd.prog ((laidWorld os).forCall (fun _ _ => 0) ⟨#[], #[.slice none 0 0, .slice none 0 0, .slice none 0 0], []⟩).memory Tryd.f3.params.toList Rows.unifyFindsSpec.vars false (#[.slice none 0 0, .slice none 0 0, .slice none 0 0] : Array Value).toList 8 = some ([.nil, .nil, .nil], [], places) :=
  ⟨[], by kernel_rfl⟩
set_option maxRecDepth 100000 in
theorem lifted (os : Os) (started : os.Started) (H : Type) (enc : TypeId × Value → H) (F : Stop.Interp) :
    ReturnsInHanded {} Tryd.checked os 3 .any ((Rows.OpenSpec.upto Rows.unifyFindsSpec).preRow enc Tryd.prog Tryd.f3 Rows.unifyFindsUptoRow.domain false Rows.unifyFindsUptoRow.laid) (((Rows.OpenSpec.upto Rows.unifyFindsSpec).at F).post enc Tryd.prog Tryd.f3 false true false false) := by
  obtain ⟨places, hx⟩ := reads os enc
  refine returnsInHanded_of_row (C := Tryd.checked) (s := Rows.OpenSpec.upto Rows.unifyFindsSpec) own started (by kernel_rfl) Tryd.func3
    (witness_row_at (enc := enc) (C := Tryd.checked) false (laidWorld os) #[.slice none 0 0, .slice none 0 0, .slice none 0 0] rfl (by kernel_rfl) (by kernel_rfl) (by kernel_rfl)
      (OpenSpec.preRow_of_cond 8 hx (by kernel_rfl) (fun k hk => by cases hk; kernel_rfl) (by kernel_rfl) (laid_met os _))) ?_
  intro W base args ds gs before hval hW _ hcond _ hL _ _
  exact contract H enc W base args ds gs before hval hW hL (hcond _ rfl)
theorem said : Rows.UnifyFindsUptoSaid :=
  OpenClaim.holds_of_cond 3 Tryd.f3 rfl rfl rfl rfl rfl rfl rfl ⟨rfl, rfl, rfl, rfl, rfl⟩ rfl rfl rfl rfl rfl (by kernel_rfl) Tryd.func3 (by kernel_rfl)
    (of_decide_eq_true (by kernel_rfl)) (by unfold Func.isWrapper; first | (rw [if_pos (by decide +kernel)]; kernel_rfl) | (rw [if_neg (by decide +kernel)]; exact ⟨rfl, rfl⟩))
    (fun os started H enc _ F => by rw [OpenClaim.pre_eq_preRow]; exact lifted os started H enc F)
theorem plain (f : FuncId) (fn : Func) (hf : Tryd.pinned.checked.prog.funcNamed "mullion/mullionlaw08.UnifyFinds" = some f) (hfn : Tryd.pinned.checked.prog.funcs[f]? = some fn) :
    false = Tryd.pinned.checked.prog.looks [] ∧ ∀ (j : Nat) t, fn.params[j]? = some t → Tryd.pinned.checked.prog.wantsStandIn t = false := by
  obtain rfl : f = 3 := Option.some.inj ((show Tryd.prog.funcNamed "mullion/mullionlaw08.UnifyFinds" = some 3 by kernel_rfl).symm.trans hf) |>.symm
  obtain rfl : fn = Tryd.f3 := (Option.some.inj (Tryd.func3.symm.trans hfn)).symm
  refine ⟨(show false = Tryd.prog.looks [] by kernel_rfl), fun j t ht => ?_⟩
  rw [Tryd.params3] at ht
  have hm := Array.mem_of_getElem? ht
  simp at hm
  rcases hm with rfl | rfl <;> exact (show Tryd.prog.wantsStandIn _ = false by kernel_rfl)
theorem proved : Rows.UnifyFindsUptoCardSaid :=
  Claim7.holds_tied_plain_at .later [] _ _ _ _ said (fun _ h => by cases h) (by kernel_rfl) (fun _ h => by cases h) unifyFindsUpto_row_tie rfl ⟨rfl, rfl⟩ (by kernel_rfl) rfl plain (by kernel_rfl)
end Go.Proofs.YtlbcaiohjghclaaDoor.unifyFinds
