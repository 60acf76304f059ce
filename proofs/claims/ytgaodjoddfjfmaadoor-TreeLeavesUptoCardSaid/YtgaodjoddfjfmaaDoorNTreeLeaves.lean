/-
  TreeLeaves: its row.
-/
import Derived.Test.YtgaodjoddfjfmaaDoorNTreeLeavesW
import Derived.Test.YtgaodjoddfjfmaaDoorNLaid
namespace Go.Proofs.YtgaodjoddfjfmaaDoor.treeLeaves
open Go.ChangeShapes Go.WideShapes Go.ChangeAt Go.RowKit
set_option linter.unusedVariables false

set_option maxRecDepth 100000 in
theorem contract (H : Type) (enc : TypeId × Value → H) (W : World) (base : Nat) (args : Array Value) (ds gs : List (DataW H)) (before : List MemPlace)
    (hval : ∀ (j : Nat) t v, Tryd.f10.params[j]? = some t → args[j]? = some v → Value.okWide Tryd.prog W .any base t v)
    (hW : DataW.Whole enc Tryd.prog Tryd.f10.params.toList Rows.treeLeavesSpec.vars false W args.toList ds gs before) (hL : laidMetH Tryd.prog laidL W) (hk : Rows.uptoSmall H (ds ++ gs) = true) :
    Calls Tryd.prog 10 args W fun e W' => ∃ v, e = .returned v ∧ Rows.treeLeavesSpec.post enc Tryd.prog Tryd.f10 false true false false W args v W' := by
  have hW' := hW
  obtain ⟨p, q, hA0, hV, rfl, hfz, hnd⟩ := hW
  have hA : DataW.TrodAll enc Tryd.prog W 0 (fun _ => true) true Tryd.f10.params.toList args.toList ds p := hA0
  rw [Tryd.params10] at hA hval
  obtain ⟨v0, vs0, d0, ds0, p0, q0, hargs, rfl, rfl, h0, r0⟩ := trodAll_cons hA
  obtain ⟨v1, vs1, d1, ds1, p1, q1, rfl, rfl, rfl, h1, r1⟩ := trodAll_cons r0
  obtain ⟨rfl, rfl, rfl⟩ := trodAll_nil r1
  obtain rfl : args = #[v0, v1] := by cases args; simp_all
  obtain ⟨rfl, rfl⟩ := trodVars_none hV
  have hbb := bulk_bound hk
  simp only [List.append_nil, Rows.uptoBulkAll] at hbb
  obtain ⟨n0, t0, A0, c0, rfl, hT0, hs0⟩ := open_nd_v (hval 0 25 v0 rfl rfl) h0 (by omega)
  obtain ⟨k1, rfl, hk1⟩ := open_u8_v (hval 1 5 v1 rfl rfl) h1
  clear hA0
  refine (treeLeaves_walk (n0) W.heap.size W t0 k1 A0 c0 (Nat.le_refl _) (NdR.deep hT0 (by omega)) hk1 hs0).mono fun e W' ⟨he, hg⟩ => ?_
  exact ⟨_, he, law_post laidB (by rw [Tryd.params10]; intro t ht; simp at ht; rcases ht with rfl | rfl <;> first | exact readNd | exact readInt | exact readU8) (tb := 4) rfl Tryd.underlying4 rfl rfl hW' (hg.below (B := W.heap.size) (fun _ _ h => h.elim) (Nat.le_refl _))⟩
set_option maxRecDepth 100000 in
theorem reads (os : Os) {H : Type} (enc : TypeId × Value → H) : ∃ places, DataW.whole enc Tryd.prog ((laidWorld os).forCall (fun _ _ => 0) ⟨#[], #[.agg #[.int .i64 0, .string ⟨#[]⟩, .int .u64 0, .int .i64 0, .slice none 0 0], .int .u8 0], []⟩).memory Tryd.f10.params.toList Rows.treeLeavesSpec.vars false (#[.agg #[.int .i64 0, .string ⟨#[]⟩, .int .u64 0, .int .i64 0, .slice none 0 0], .int .u8 0] : Array Value).toList 8 = some ([.agg [.lit (.int .i64 0), .lit (.string []), .lit (.int .u64 0), .lit (.int .i64 0), .nil], .lit (.int .u8 0)], [], places) :=
  ⟨[], by kernel_rfl⟩
set_option maxRecDepth 100000 in
theorem lifted (os : Os) (started : os.Started) (H : Type) (enc : TypeId × Value → H) (F : Stop.Interp) :
    ReturnsInHanded {} Tryd.checked os 10 .any ((Rows.OpenSpec.upto Rows.treeLeavesSpec).preRow enc Tryd.prog Tryd.f10 Rows.treeLeavesUptoRow.domain false Rows.treeLeavesUptoRow.laid) (((Rows.OpenSpec.upto Rows.treeLeavesSpec).at F).post enc Tryd.prog Tryd.f10 false true false false) := by
  obtain ⟨places, hx⟩ := reads os enc
  refine returnsInHanded_of_row (C := Tryd.checked) (s := Rows.OpenSpec.upto Rows.treeLeavesSpec) own started (by kernel_rfl) Tryd.func10
    (witness_row_atRef (enc := enc) (C := Tryd.checked) false (laidWorld os) #[.agg #[.int .i64 0, .string ⟨#[]⟩, .int .u64 0, .int .i64 0, .slice none 0 0], .int .u8 0] rfl (by kernel_rfl) (by kernel_rfl) (by kernel_rfl)
      (OpenSpec.preRow_of_cond 8 hx (by kernel_rfl) (fun k hk => by cases hk; kernel_rfl) (by kernel_rfl) (laid_met os _))) ?_
  intro W base args ds gs before hval hW _ hcond _ hL _ _
  exact contract H enc W base args ds gs before hval hW hL (hcond _ rfl)
theorem said : Rows.TreeLeavesUptoSaid :=
  OpenClaim.holds_of_cond 10 Tryd.f10 rfl rfl rfl rfl rfl rfl rfl ⟨rfl, rfl, rfl, rfl, rfl⟩ rfl rfl rfl rfl rfl (by kernel_rfl) Tryd.func10 (by kernel_rfl)
    (of_decide_eq_true (by kernel_rfl)) (by unfold Func.isWrapper; first | (rw [if_pos (by decide +kernel)]; kernel_rfl) | (rw [if_neg (by decide +kernel)]; exact ⟨rfl, rfl⟩))
    (fun os started H enc _ F => by rw [OpenClaim.pre_eq_preRow]; exact lifted os started H enc F)
theorem plain (f : FuncId) (fn : Func) (hf : Tryd.pinned.checked.prog.funcNamed "mullion/mullionlaw04.TreeLeaves" = some f) (hfn : Tryd.pinned.checked.prog.funcs[f]? = some fn) :
    false = Tryd.pinned.checked.prog.looks [] ∧ ∀ (j : Nat) t, fn.params[j]? = some t → Tryd.pinned.checked.prog.wantsStandIn t = false := by
  obtain rfl : f = 10 := Option.some.inj ((show Tryd.prog.funcNamed "mullion/mullionlaw04.TreeLeaves" = some 10 by kernel_rfl).symm.trans hf) |>.symm
  obtain rfl : fn = Tryd.f10 := (Option.some.inj (Tryd.func10.symm.trans hfn)).symm
  refine ⟨(show false = Tryd.prog.looks [] by kernel_rfl), fun j t ht => ?_⟩
  rw [Tryd.params10] at ht
  have hm := Array.mem_of_getElem? ht
  simp at hm
  rcases hm with rfl | rfl <;> exact (show Tryd.prog.wantsStandIn _ = false by kernel_rfl)
theorem proved : Rows.TreeLeavesUptoCardSaid :=
  Claim7.holds_tied_plain_at .later [] _ _ _ _ said (fun _ h => by cases h) (by kernel_rfl) (fun _ h => by cases h) treeLeavesUpto_row_tie rfl ⟨rfl, rfl⟩ (by kernel_rfl) rfl plain (by kernel_rfl)
end Go.Proofs.YtgaodjoddfjfmaaDoor.treeLeaves
