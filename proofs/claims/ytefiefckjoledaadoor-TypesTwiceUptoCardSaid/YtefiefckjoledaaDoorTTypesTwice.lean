/-
  To put one type in and then another is to put in the first with the second in it, when the second name stands in the type no more: so says TypesTwice of the program.
-/
import Derived.Test.YtefiefckjoledaaDoorTTypesTwiceW
import Derived.Test.YtefiefckjoledaaDoorLaidT
namespace Go.Proofs.YtefiefckjoledaaDoor.typesTwice
open Go.ChangeShapes Go.WideShapes Go.ChangeAt Go.RowKit
set_option linter.unusedVariables false

set_option maxRecDepth 100000 in
theorem contract (H : Type) (enc : TypeId × Value → H) (W : World) (base : Nat) (args : Array Value) (ds gs : List (DataW H)) (before : List MemPlace)
    (hval : ∀ (j : Nat) t v, Tryd.f14.params[j]? = some t → args[j]? = some v → Value.okWide Tryd.prog W .any base t v)
    (hW : DataW.Whole enc Tryd.prog Tryd.f14.params.toList Rows.typesTwiceSpec.vars false W args.toList ds gs before) (hL : laidMetH Tryd.prog laidL W) (hk : Rows.uptoSmall H (ds ++ gs) = true) :
    Calls Tryd.prog 14 args W fun e W' => ∃ v, e = .returned v ∧ Rows.typesTwiceSpec.post enc Tryd.prog Tryd.f14 false true false false W args v W' := by
  have hW' := hW
  have htab := tabs_of hL
  obtain ⟨p, q, hA0, hV, rfl, hfz, hnd⟩ := hW
  have hA : DataW.TrodAll enc Tryd.prog W 0 (fun _ => true) true Tryd.f14.params.toList args.toList ds p := hA0
  rw [Tryd.params14] at hA hval
  obtain ⟨v0, vs0, d0, ds0, p0, q0, hargs, rfl, rfl, h0, r0⟩ := trodAll_cons hA
  obtain ⟨v1, vs1, d1, ds1, p1, q1, rfl, rfl, rfl, h1, r1⟩ := trodAll_cons r0
  obtain ⟨v2, vs2, d2, ds2, p2, q2, rfl, rfl, rfl, h2, r2⟩ := trodAll_cons r1
  obtain ⟨v3, vs3, d3, ds3, p3, q3, rfl, rfl, rfl, h3, r3⟩ := trodAll_cons r2
  obtain ⟨v4, vs4, d4, ds4, p4, q4, rfl, rfl, rfl, h4, r4⟩ := trodAll_cons r3
  obtain ⟨rfl, rfl, rfl⟩ := trodAll_nil r4
  obtain rfl : args = #[v0, v1, v2, v3, v4] := by cases args; simp_all
  obtain ⟨rfl, rfl⟩ := trodVars_none hV
  have hbb := bulk_bound hk
  simp only [List.append_nil, Rows.uptoBulkAll] at hbb
  obtain ⟨n0, t0, A0f, c0f, A0l, c0l, A0r, c0r, rfl, hT0⟩ := open_ty_v (hval 0 39 v0 rfl rfl) h0 (by omega)
  obtain ⟨n1, t1, A1f, c1f, A1l, c1l, A1r, c1r, rfl, hT1⟩ := open_ty_v (hval 1 39 v1 rfl rfl) h1 (by omega)
  obtain ⟨n2, t2, A2f, c2f, A2l, c2l, A2r, c2r, rfl, hT2⟩ := open_ty_v (hval 2 39 v2 rfl rfl) h2 (by omega)
  obtain ⟨s3, rfl, hl3⟩ := open_str_v (hval 3 9 v3 rfl rfl) h3 (by omega)
  obtain ⟨s4, rfl, hl4⟩ := open_str_v (hval 4 9 v4 rfl rfl) h4 (by omega)
  clear hA0
  refine (typesTwice_walk (n0 + n1 + n2) W.heap.size W t0 t1 t2 s3 s4 A0f c0f A0l c0l A0r c0r A1f c1f A1l c1l A1r c1r A2f c2f A2l c2l A2r c2r (Nat.le_refl _) htab (TyR.deep hT0 (by omega)) (TyR.deep hT1 (by omega)) (TyR.deep hT2 (by omega)) hl3 hl4).mono fun e W' ⟨he, hg⟩ => ?_
  exact ⟨_, he, law_post laidB (by rw [Tryd.params14]; intro t ht; simp at ht; rcases ht with rfl | rfl <;> first | exact readT | exact readTs | exact readSs | exact readS) (tb := 4) rfl Tryd.underlying4 rfl rfl hW' (hg.below (B := W.heap.size) (fun _ _ h => h.elim) (Nat.le_refl _))⟩
set_option maxRecDepth 100000 in
theorem reads (os : Os) {H : Type} (enc : TypeId × Value → H) : ∃ places, DataW.whole enc Tryd.prog ((laidWorld os).forCall (fun _ _ => 0) ⟨#[], #[.agg #[.int .i64 0, .string ⟨#[]⟩, .int .i64 0, .slice none 0 0, .slice none 0 0, .slice none 0 0], .agg #[.int .i64 0, .string ⟨#[]⟩, .int .i64 0, .slice none 0 0, .slice none 0 0, .slice none 0 0], .agg #[.int .i64 0, .string ⟨#[]⟩, .int .i64 0, .slice none 0 0, .slice none 0 0, .slice none 0 0], .string ⟨#[]⟩, .string ⟨#[]⟩], []⟩).memory Tryd.f14.params.toList Rows.typesTwiceSpec.vars false (#[.agg #[.int .i64 0, .string ⟨#[]⟩, .int .i64 0, .slice none 0 0, .slice none 0 0, .slice none 0 0], .agg #[.int .i64 0, .string ⟨#[]⟩, .int .i64 0, .slice none 0 0, .slice none 0 0, .slice none 0 0], .agg #[.int .i64 0, .string ⟨#[]⟩, .int .i64 0, .slice none 0 0, .slice none 0 0, .slice none 0 0], .string ⟨#[]⟩, .string ⟨#[]⟩] : Array Value).toList 8 = some ([.agg [.lit (.int .i64 0), .lit (.string []), .lit (.int .i64 0), .nil, .nil, .nil], .agg [.lit (.int .i64 0), .lit (.string []), .lit (.int .i64 0), .nil, .nil, .nil], .agg [.lit (.int .i64 0), .lit (.string []), .lit (.int .i64 0), .nil, .nil, .nil], .lit (.string []), .lit (.string [])], [], places) :=
  ⟨[], by kernel_rfl⟩
set_option maxRecDepth 100000 in
theorem lifted (os : Os) (started : os.Started) (H : Type) (enc : TypeId × Value → H) (F : Stop.Interp) :
    ReturnsInHanded {} Tryd.checked os 14 .any ((Rows.OpenSpec.upto Rows.typesTwiceSpec).preRow enc Tryd.prog Tryd.f14 Rows.typesTwiceUptoRow.domain false Rows.typesTwiceUptoRow.laid) (((Rows.OpenSpec.upto Rows.typesTwiceSpec).at F).post enc Tryd.prog Tryd.f14 false true false false) := by
  obtain ⟨places, hx⟩ := reads os enc
  refine returnsInHanded_of_row (C := Tryd.checked) (s := Rows.OpenSpec.upto Rows.typesTwiceSpec) own started (by kernel_rfl) Tryd.func14
    (witness_row_at (enc := enc) (C := Tryd.checked) false (laidWorld os) #[.agg #[.int .i64 0, .string ⟨#[]⟩, .int .i64 0, .slice none 0 0, .slice none 0 0, .slice none 0 0], .agg #[.int .i64 0, .string ⟨#[]⟩, .int .i64 0, .slice none 0 0, .slice none 0 0, .slice none 0 0], .agg #[.int .i64 0, .string ⟨#[]⟩, .int .i64 0, .slice none 0 0, .slice none 0 0, .slice none 0 0], .string ⟨#[]⟩, .string ⟨#[]⟩] rfl (by kernel_rfl) (by kernel_rfl) (by kernel_rfl)
      (OpenSpec.preRow_of_cond 8 hx (by kernel_rfl) (fun k hk => by cases hk; kernel_rfl) (by kernel_rfl) (laid_met os _))) ?_
  intro W base args ds gs before hval hW _ hcond _ hL _ _
  exact contract H enc W base args ds gs before hval hW hL (hcond _ rfl)
theorem said : Rows.TypesTwiceUptoSaid :=
  OpenClaim.holds_of_cond 14 Tryd.f14 rfl rfl rfl rfl rfl rfl rfl ⟨rfl, rfl, rfl, rfl, rfl⟩ rfl rfl rfl rfl rfl (by kernel_rfl) Tryd.func14 (by kernel_rfl)
    (of_decide_eq_true (by kernel_rfl)) (by unfold Func.isWrapper; first | (rw [if_pos (by decide +kernel)]; kernel_rfl) | (rw [if_neg (by decide +kernel)]; exact ⟨rfl, rfl⟩))
    (fun os started H enc _ F => by rw [OpenClaim.pre_eq_preRow]; exact lifted os started H enc F)
theorem plain (f : FuncId) (fn : Func) (hf : Tryd.pinned.checked.prog.funcNamed "mullion/mullionlaw02.TypesTwice" = some f) (hfn : Tryd.pinned.checked.prog.funcs[f]? = some fn) :
    false = Tryd.pinned.checked.prog.looks [] ∧ ∀ (j : Nat) t, fn.params[j]? = some t → Tryd.pinned.checked.prog.wantsStandIn t = false := by
  obtain rfl : f = 14 := Option.some.inj ((show Tryd.prog.funcNamed "mullion/mullionlaw02.TypesTwice" = some 14 by kernel_rfl).symm.trans hf) |>.symm
  obtain rfl : fn = Tryd.f14 := (Option.some.inj (Tryd.func14.symm.trans hfn)).symm
  refine ⟨(show false = Tryd.prog.looks [] by kernel_rfl), fun j t ht => ?_⟩
  rw [Tryd.params14] at ht
  have hm := Array.mem_of_getElem? ht
  simp at hm
  rcases hm with rfl | rfl <;> exact (show Tryd.prog.wantsStandIn _ = false by kernel_rfl)
theorem proved : Rows.TypesTwiceUptoCardSaid :=
  Claim7.holds_tied_plain_at .later [] _ _ _ _ said (fun _ h => by cases h) (by kernel_rfl) (fun _ h => by cases h) typesTwiceUpto_row_tie rfl ⟨rfl, rfl⟩ (by kernel_rfl) rfl plain (by kernel_rfl)
end Go.Proofs.YtefiefckjoledaaDoor.typesTwice
