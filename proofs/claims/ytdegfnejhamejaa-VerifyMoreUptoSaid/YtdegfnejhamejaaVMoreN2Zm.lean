/-
  A module with a further shape and a further function is verified if it was: plain.
-/
import Derived.Test.YtdegfnejhamejaaVMoreNZm
namespace Go.Proofs.Ytdegfnejhamejaa
open Go.RowKit
set_option linter.unusedVariables false
set_option linter.unusedSimpArgs false

section
variable {m : ModD} {f : FuncD} {x : InstrD} {s r : VSt}
theorem case_more {k : CaseD} (h : caseN m f s k = some r) : caseN (moreM m) f s k = some r := by
  unfold caseN at h ⊢
  simp only [Option.bind_eq_some_iff] at h ⊢
  obtain ⟨s1, h1, s2, h2, s3, h3, h4⟩ := h
  refine ⟨s1, h1, s2, is_more h2 (by decide), s3, h3, ?_⟩
  rw [head_more (is_valid h2 (by decide))]
  exact h4
theorem cases_more : ∀ {l : List CaseD} {s : VSt}, casesN m f l s = some r → casesN (moreM m) f l s = some r
  | [], s, h => h
  | k :: l, s, h => by
    rw [casesN] at h ⊢
    obtain ⟨s1, h1, h2⟩ := Option.bind_eq_some_iff.1 h
    rw [case_more h1, Option.bind_some]
    exact cases_more h2
theorem op32_more (h : op32 m f x s = some r) : op32 (moreM m) f x s = some r := by
  simp only [op32, Option.bind_eq_some_iff] at h ⊢
  obtain ⟨s1, h1, s2, h2, h3⟩ := h
  exact ⟨s1, h1, s2, h2, cases_more h3⟩
theorem map_more {o o' : Option VSt} {b : Bool × VSt} (ho : ∀ r, o = some r → o' = some r) (h : o.map (true, ·) = some b) : o'.map (true, ·) = some b := by
  obtain ⟨r, h1, h2⟩ := Option.map_eq_some_iff.1 h
  rw [ho r h1]
  exact congrArg some h2
theorem bind_more {o o' : Option VSt} (ho : ∀ r, o = some r → o' = some r) {r : VSt} (h : o.bind endN = some r) : o'.bind endN = some r := by
  obtain ⟨s, h1, h2⟩ := Option.bind_eq_some_iff.1 h
  rw [ho s h1]
  exact h2
theorem nums_more {b : Bool × VSt} (h : numsN m x s = some b) : numsN (moreM m) x s = some b := by
  unfold numsN at h ⊢
  by_cases h1 : x.op = 1
  · rw [if_pos h1] at h ⊢
    exact map_more (fun _ => op1_more) h
  rw [if_neg h1] at h ⊢
  by_cases h2 : x.op = 2
  · rw [if_pos h2] at h ⊢
    exact map_more (fun _ => op2_more) h
  rw [if_neg h2] at h ⊢
  by_cases h7 : x.op = 7
  · rw [if_pos h7] at h ⊢
    exact map_more (fun _ => op7_more) h
  rw [if_neg h7] at h ⊢
  by_cases h8 : x.op = 8
  · rw [if_pos h8] at h ⊢
    exact map_more (fun _ => op8_more) h
  rw [if_neg h8] at h ⊢
  by_cases h9 : x.op = 9
  · rw [if_pos h9] at h ⊢
    exact map_more (fun _ => op9_more) h
  rw [if_neg h9] at h ⊢
  by_cases h10 : x.op = 10
  · rw [if_pos h10] at h ⊢
    exact map_more (fun _ => op10_more) h
  rw [if_neg h10] at h ⊢
  by_cases h11 : x.op = 11
  · rw [if_pos h11] at h ⊢
    exact map_more (fun _ => op11_more) h
  rw [if_neg h11] at h ⊢
  by_cases h12 : x.op = 12
  · rw [if_pos h12] at h ⊢
    exact map_more (fun _ => op12_more) h
  rw [if_neg h12] at h ⊢
  exact h
theorem vals_more {b : Bool × VSt} (h : valsN m f x s = some b) : valsN (moreM m) f x s = some b := by
  unfold valsN at h ⊢
  by_cases h3 : x.op = 3
  · rw [if_pos h3] at h ⊢
    exact map_more (fun _ => op3_more) h
  rw [if_neg h3] at h ⊢
  by_cases h4 : x.op = 4
  · rw [if_pos h4] at h ⊢
    exact h
  rw [if_neg h4] at h ⊢
  by_cases h5 : x.op = 5
  · rw [if_pos h5] at h ⊢
    exact h
  rw [if_neg h5] at h ⊢
  by_cases h6 : x.op = 6
  · rw [if_pos h6] at h ⊢
    exact h
  rw [if_neg h6] at h ⊢
  by_cases h13 : x.op = 13
  · rw [if_pos h13] at h ⊢
    exact map_more (fun _ => op13_more) h
  rw [if_neg h13] at h ⊢
  by_cases h14 : x.op = 14
  · rw [if_pos h14] at h ⊢
    exact map_more (fun _ => op14_more) h
  rw [if_neg h14] at h ⊢
  by_cases h15 : x.op = 15
  · rw [if_pos h15] at h ⊢
    exact map_more (fun _ => op15_more) h
  rw [if_neg h15] at h ⊢
  by_cases h16 : x.op = 16
  · rw [if_pos h16] at h ⊢
    exact map_more (fun _ => op16_more) h
  rw [if_neg h16] at h ⊢
  by_cases h17 : x.op = 17
  · rw [if_pos h17] at h ⊢
    exact map_more (fun _ => op17_more) h
  rw [if_neg h17] at h ⊢
  by_cases h18 : x.op = 18
  · rw [if_pos h18] at h ⊢
    exact map_more (fun _ => op18_more) h
  rw [if_neg h18] at h ⊢
  by_cases h19 : x.op = 19
  · rw [if_pos h19] at h ⊢
    exact map_more (fun _ => op19_more) h
  rw [if_neg h19] at h ⊢
  by_cases h21 : x.op = 21
  · rw [if_pos h21] at h ⊢
    exact map_more (fun _ => op21_more) h
  rw [if_neg h21] at h ⊢
  by_cases h22 : x.op = 22
  · rw [if_pos h22] at h ⊢
    exact map_more (fun _ => op22_more) h
  rw [if_neg h22] at h ⊢
  by_cases h23 : x.op = 23
  · rw [if_pos h23] at h ⊢
    exact map_more (fun _ => op23_more) h
  rw [if_neg h23] at h ⊢
  by_cases h24 : x.op = 24
  · rw [if_pos h24] at h ⊢
    exact h
  rw [if_neg h24] at h ⊢
  exact h
theorem calls_more {b : Bool × VSt} (h : callsN m x s = some b) : callsN (moreM m) x s = some b := by
  unfold callsN at h ⊢
  by_cases h20 : x.op = 20
  · rw [if_pos h20] at h ⊢
    exact map_more (fun _ => op20_more) h
  rw [if_neg h20] at h ⊢
  by_cases h25 : x.op = 25
  · rw [if_pos h25] at h ⊢
    exact map_more (fun _ => op25_more) h
  rw [if_neg h25] at h ⊢
  by_cases h26 : x.op = 26
  · rw [if_pos h26] at h ⊢
    exact map_more (fun _ => op26_more) h
  rw [if_neg h26] at h ⊢
  by_cases h27 : x.op = 27
  · rw [if_pos h27] at h ⊢
    exact map_more (fun _ => op27_more) h
  rw [if_neg h27] at h ⊢
  by_cases h28 : x.op = 28
  · rw [if_pos h28] at h ⊢
    exact map_more (fun _ => op27_more) h
  rw [if_neg h28] at h ⊢
  by_cases h29 : x.op = 29
  · rw [if_pos h29] at h ⊢
    exact map_more (fun _ => op29_more) h
  rw [if_neg h29] at h ⊢
  by_cases h30 : x.op = 30
  · rw [if_pos h30] at h ⊢
    exact map_more (fun _ => op30_more) h
  rw [if_neg h30] at h ⊢
  by_cases h31 : x.op = 31
  · rw [if_pos h31] at h ⊢
    exact map_more (fun _ => op31_more) h
  rw [if_neg h31] at h ⊢
  by_cases h37 : x.op = 37
  · rw [if_pos h37] at h ⊢
    exact map_more (fun _ => op37_more) h
  rw [if_neg h37] at h ⊢
  by_cases h38 : x.op = 38
  · rw [if_pos h38] at h ⊢
    exact map_more (fun _ => op38_more) h
  rw [if_neg h38] at h ⊢
  exact h
theorem flow_more {b : Bool × VSt} (h : flowN m f x s = some b) : flowN (moreM m) f x s = some b := by
  unfold flowN at h ⊢
  by_cases h33 : x.op = 33
  · rw [if_pos h33] at h ⊢
    exact h
  rw [if_neg h33] at h ⊢
  by_cases h34 : x.op = 34
  · rw [if_pos h34] at h ⊢
    exact map_more (fun _ => bind_more fun _ => op34_more) h
  rw [if_neg h34] at h ⊢
  by_cases h35 : x.op = 35
  · rw [if_pos h35] at h ⊢
    exact h
  rw [if_neg h35] at h ⊢
  by_cases h36 : x.op = 36
  · rw [if_pos h36] at h ⊢
    exact map_more (fun _ => bind_more fun _ => op36_more) h
  rw [if_neg h36] at h ⊢
  by_cases h32 : x.op = 32
  · rw [if_pos h32] at h ⊢
    exact map_more (fun _ => bind_more fun _ => op32_more) h
  rw [if_neg h32] at h ⊢
  exact h
theorem orN_more {o o' : Option (Bool × VSt)} {n n' : VSt → Option (Bool × VSt)} (ho : ∀ b, o = some b → o' = some b) (hn : ∀ s b, n s = some b → n' s = some b) {b : Bool × VSt} (h : orN o n = some b) : orN o' n' = some b := by
  unfold orN at h ⊢
  obtain ⟨c, h1, h2⟩ := Option.bind_eq_some_iff.1 h
  rw [ho c h1, Option.bind_some]
  split at h2
  · rename_i hc; rw [if_pos hc]; exact h2
  · rename_i hc; rw [if_neg hc]; exact hn _ _ h2
theorem ops_more {b : Bool × VSt} (h : opsN m f x s = some b) : opsN (moreM m) f x s = some b :=
  orN_more (fun _ => orN_more (fun _ => orN_more (fun _ => nums_more) fun _ _ => vals_more) fun _ _ => calls_more) (fun _ _ => flow_more) h
theorem step_more {k : Nat} {st : List Int} (h : stepN m f k x st = some r) : stepN (moreM m) f k x st = some r := by
  unfold stepN at h ⊢
  obtain ⟨s1, h1, h2⟩ := Option.bind_eq_some_iff.1 h
  obtain ⟨b, h3, h4⟩ := Option.bind_eq_some_iff.1 h2
  rw [h1, Option.bind_some, ops_more h3]
  exact h4
theorem from_more : ∀ (n k : Nat) (st : List Int), fromN m f n k st = -1 → fromN (moreM m) f n k st = -1
  | 0, _, _, h => h
  | n + 1, k, st, h => by
    rw [fromN] at h ⊢
    cases hx : f.code[k]? with
    | none => rw [hx] at h; exact h
    | some x =>
      rw [hx, Option.bind_some] at h
      rw [Option.bind_some]
      cases hs : stepN m f k x st with
      | none => rw [hs] at h; simp only at h; omega
      | some s =>
        rw [hs] at h
        rw [step_more hs]
        exact from_more n (k + 1) s.stack h
theorem funcAt_more (h : funcAt m f = -1) : funcAt (moreM m) f = -1 := by
  unfold funcAt at h ⊢
  split at h
  · omega
  · rename_i hn
    rw [if_neg hn]
    exact from_more _ _ _ h
theorem idle_right (m : ModD) : funcAt m idleF = -1 := by
  have h : stepN m idleF 0 ⟨35, 0, 0, 0, []⟩ [] = some ⟨[], [], []⟩ := rfl
  unfold funcAt
  rw [if_neg (by decide)]
  show fromN m idleF 1 0 [] = -1
  rw [fromN]
  show (match (some (⟨35, 0, 0, 0, []⟩ : InstrD)).bind (fun x => stepN m idleF 0 x []) with | some s => fromN m idleF 0 1 s.stack | none => (0 : Int)) = -1
  rw [Option.bind_some, h]
  rfl
theorem firstBad_all {m : ModD} : ∀ {l : List FuncD} {i : Nat}, (∀ f ∈ l, funcAt m f = -1) → firstBad m l i = none
  | [], _, _ => rfl
  | g :: l, i, h => by
    rw [firstBad, if_neg (by rw [h g (by simp)]; omega)]
    exact firstBad_all fun f hf => h f (by simp [hf])
theorem widths_more (h : (widths m.types).isSome = true) : (widths (moreM m).types).isSome = true := by
  unfold widths at h ⊢
  obtain ⟨pc, hpc⟩ : ∃ pc, wid m.types = some pc := by
    cases hw : wid m.types with
    | none => rw [hw] at h; cases h
    | some pc => exact ⟨pc, rfl⟩
  obtain ⟨p, c⟩ := pc
  have hp := wid_eq hpc
  subst hp
  have h1 : wid (moreM m).types = wStep (some (m.types, c)) newS := by unfold moreM; rw [wid_append, hpc]; rfl
  have h2 : soundS m.types c newS = true := by
    unfold soundS headOk partsIn kindOk dupOf newS
    simp [sumAt]
  rw [h1]
  simp only [wStep, Option.bind_some, h2, if_true]
  rfl
theorem formed_more (h : formedMod m = true) (h1 : m.types.length < 256) (h2 : m.funcs.length < 256) (h3 : codeAll m.funcs < 65536) : formedMod (moreM m) = true := by
  unfold formedMod at h ⊢
  simp only [Bool.and_eq_true, decide_eq_true_eq, List.all_eq_true] at h ⊢
  obtain ⟨⟨⟨⟨⟨a1, a2⟩, a3⟩, a4⟩, a5⟩, a6⟩ := h
  have hl : (moreM m).types.length = m.types.length + 1 := by unfold moreM; simp
  have hfl : (moreM m).funcs.length = m.funcs.length + 1 := by unfold moreM; simp
  have hc : codeAll (moreM m).funcs = codeAll m.funcs + 1 := by unfold moreM codeAll idleF; simp
  refine ⟨⟨⟨⟨⟨widths_more a1, by omega⟩, fun f hf => ?_⟩, by omega⟩, by omega⟩, by omega⟩
  rw [hl]
  rcases List.mem_append.1 hf with hf | hf
  · have := a3 f hf
    simp only [funcOk, idsOk, partsIn, Bool.and_eq_true, decide_eq_true_eq, List.all_eq_true] at this ⊢
    obtain ⟨⟨⟨⟨⟨b1, b2⟩, b3⟩, b4⟩, b5⟩, b6⟩ := this
    refine ⟨⟨⟨⟨⟨⟨b1.1, fun t ht => ?_⟩, b2.1, fun t ht => ?_⟩, b3⟩, b4⟩, b5⟩, by omega⟩
    · have := b1.2 t ht; simp at this ⊢; omega
    · have := b2.2 t ht; simp at this ⊢; omega
  · have hf : f = idleF := by simpa using hf
    subst hf
    simp [funcOk, idsOk, partsIn, idleF]
    exact decide_eq_true (by omega)
theorem chk_more (h : (chkN m).2.2 = 0) (hf : formedMod (moreM m) = true) : (chkN (moreM m)).2.2 = 0 := by
  obtain ⟨h1, h2, h3⟩ := chk_ok h
  have hs : soloB (moreM m) = true := by
    unfold soloB moreM at *
    cases hl : m.funcs with
    | nil => rw [hl] at h2; cases h2
    | cons a l => rw [hl] at h2; exact h2
  have hb : firstBad (moreM m) (moreM m).funcs 0 = none := firstBad_all fun f hf => by
    rcases List.mem_append.1 hf with hf | hf
    · exact funcAt_more (h3 f hf)
    · have hf : f = idleF := by simpa using hf
      subst hf
      exact idle_right _
  unfold chkN
  rw [hf, hs, hb]
  rfl
end
end Go.Proofs.Ytdegfnejhamejaa

