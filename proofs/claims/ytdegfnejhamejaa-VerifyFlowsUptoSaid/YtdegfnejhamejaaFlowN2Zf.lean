/-
  Whither the instructions of a right function jump (plain).
-/
import Derived.Test.YtdegfnejhamejaaFlowNZf
namespace Go.Proofs.Ytdegfnejhamejaa
set_option linter.unusedVariables false
set_option linter.unusedSimpArgs false

def NC (x : InstrD) : Prop := x.op = 32 ∨ x.cases = []
theorem first_ {α β : Type} {P : Prop} {o : Option α} {k : α → Option β} (h : ∀ a, o = some a → P) : OKo (fun _ => P) (o.bind k) := fun b hb => by
  obtain ⟨a, ha, _⟩ := Option.bind_eq_some_iff.1 hb
  exact h a ha
section
variable {m : ModD} {f : FuncD} {x : InstrD} {s : VSt}
theorem fields_nc {a b n : Bool} : ∀ s', fieldsN x a b n s = some s' → NC x := fun s' h => by
  unfold fieldsN needN at h
  split at h
  · rename_i hb
    simp only [Bool.and_eq_true, Bool.or_eq_true, beq_iff_eq] at hb
    rcases hb.2 with h1 | h1
    · exact .inl h1
    · exact .inr (List.eq_nil_of_length_eq_zero (by omega))
  · cases h
def NB (x : InstrD) (bs : Bool × VSt) : Prop := bs.1 = true → NC x
theorem NB.t {o : Option VSt} (h : OKo (fun _ => NC x) o) : OKo (NB x) (o.map (true, ·)) := OKo.map h fun _ h _ => h
theorem NB.no : OKo (NB x) (some (false, s)) := OKo.some fun h => by cases h
theorem NB.ite {c : Prop} [Decidable c] {a b : Option (Bool × VSt)} (ha : OKo (NB x) a) (hb : OKo (NB x) b) : OKo (NB x) (if c then a else b) := by split <;> assumption
theorem orN_nb {r : Option (Bool × VSt)} {next : VSt → Option (Bool × VSt)} (h : OKo (NB x) r) (hn : ∀ s, OKo (NB x) (next s)) : OKo (NB x) (orN r next) := by
  refine OKo.bind h fun bs hb => ?_
  split
  · exact OKo.some hb
  · exact hn _
theorem op1_nc : OKo (fun _ => NC x) (op1 m x s) := first_ fields_nc
theorem op2_nc : OKo (fun _ => NC x) (op2 m x s) := first_ fields_nc
theorem op7_nc : OKo (fun _ => NC x) (op7 m x s) := first_ fields_nc
theorem op8_nc : OKo (fun _ => NC x) (op8 m x s) := first_ fields_nc
theorem op9_nc : OKo (fun _ => NC x) (op9 m x s) := first_ fields_nc
theorem op10_nc : OKo (fun _ => NC x) (op10 m x s) := first_ fields_nc
theorem op11_nc : OKo (fun _ => NC x) (op11 m x s) := first_ fields_nc
theorem op12_nc : OKo (fun _ => NC x) (op12 m x s) := first_ fields_nc
theorem op3_nc : OKo (fun _ => NC x) (op3 m x s) := first_ fields_nc
theorem op4_nc : OKo (fun _ => NC x) (op4 f x s) := first_ fields_nc
theorem op5_nc : OKo (fun _ => NC x) (op5 f x s) := first_ fields_nc
theorem op6_nc : OKo (fun _ => NC x) (op6 x s) := first_ fields_nc
theorem op13_nc : OKo (fun _ => NC x) (op13 m x s) := first_ fields_nc
theorem op14_nc : OKo (fun _ => NC x) (op14 m x s) := first_ fields_nc
theorem op15_nc : OKo (fun _ => NC x) (op15 m x s) := first_ fields_nc
theorem op16_nc : OKo (fun _ => NC x) (op16 m x s) := first_ fields_nc
theorem op17_nc : OKo (fun _ => NC x) (op17 m x s) := first_ fields_nc
theorem op18_nc : OKo (fun _ => NC x) (op18 m x s) := first_ fields_nc
theorem op19_nc : OKo (fun _ => NC x) (op19 m x s) := first_ fields_nc
theorem op21_nc : OKo (fun _ => NC x) (op21 m x s) := first_ fields_nc
theorem op22_nc : OKo (fun _ => NC x) (op22 m x s) := first_ fields_nc
theorem op23_nc : OKo (fun _ => NC x) (op23 m x s) := first_ fields_nc
theorem op24_nc : OKo (fun _ => NC x) (op24 f x s) := first_ fields_nc
theorem op20_nc : OKo (fun _ => NC x) (op20 m x s) := first_ fields_nc
theorem op25_nc : OKo (fun _ => NC x) (op25 m x s) := first_ fields_nc
theorem op26_nc : OKo (fun _ => NC x) (op26 m x s) := first_ fields_nc
theorem op27_nc : OKo (fun _ => NC x) (op27 m x s) := first_ fields_nc
theorem op29_nc : OKo (fun _ => NC x) (op29 m x s) := first_ fields_nc
theorem op30_nc : OKo (fun _ => NC x) (op30 m x s) := first_ fields_nc
theorem op31_nc : OKo (fun _ => NC x) (op31 m x s) := first_ fields_nc
theorem op37_nc : OKo (fun _ => NC x) (op37 m x s) := first_ fields_nc
theorem op38_nc : OKo (fun _ => NC x) (op38 m x s) := first_ fields_nc
theorem op33_nc : OKo (fun _ => NC x) (op33 f x s) := first_ fields_nc
theorem op34_nc : OKo (fun _ => NC x) (op34 m f x s) := first_ fields_nc
theorem op35_nc : OKo (fun _ => NC x) (op35 f x s) := first_ fields_nc
theorem op36_nc : OKo (fun _ => NC x) (op36 m x s) := first_ fields_nc
theorem op32_nc : OKo (fun _ => NC x) (op32 m f x s) := first_ fields_nc
theorem numsN_nb : OKo (NB x) (numsN m x s) := by
  unfold numsN
  exact NB.ite (NB.t (op1_nc)) (NB.ite (NB.t (op2_nc)) (NB.ite (NB.t (op7_nc)) (NB.ite (NB.t (op8_nc)) (NB.ite (NB.t (op9_nc)) (NB.ite (NB.t (op10_nc)) (NB.ite (NB.t (op11_nc)) (NB.ite (NB.t (op12_nc)) (NB.no))))))))
theorem valsN_nb : OKo (NB x) (valsN m f x s) := by
  unfold valsN
  exact NB.ite (NB.t (op3_nc)) (NB.ite (NB.t (op4_nc)) (NB.ite (NB.t (op5_nc)) (NB.ite (NB.t (op6_nc)) (NB.ite (NB.t (op13_nc)) (NB.ite (NB.t (op14_nc)) (NB.ite (NB.t (op15_nc)) (NB.ite (NB.t (op16_nc)) (NB.ite (NB.t (op17_nc)) (NB.ite (NB.t (op18_nc)) (NB.ite (NB.t (op19_nc)) (NB.ite (NB.t (op21_nc)) (NB.ite (NB.t (op22_nc)) (NB.ite (NB.t (op23_nc)) (NB.ite (NB.t (op24_nc)) (NB.no)))))))))))))))
theorem callsN_nb : OKo (NB x) (callsN m x s) := by
  unfold callsN
  exact NB.ite (NB.t (op20_nc)) (NB.ite (NB.t (op25_nc)) (NB.ite (NB.t (op26_nc)) (NB.ite (NB.t (op27_nc)) (NB.ite (NB.t (op27_nc)) (NB.ite (NB.t (op29_nc)) (NB.ite (NB.t (op30_nc)) (NB.ite (NB.t (op31_nc)) (NB.ite (NB.t (op37_nc)) (NB.ite (NB.t (op38_nc)) (NB.no))))))))))
theorem flowN_nb : OKo (NB x) (flowN m f x s) := by
  unfold flowN
  exact NB.ite (NB.t (OKo.bind op33_nc fun _ h => OKo.mono (OKo.any _) fun _ _ => h)) (NB.ite (NB.t (OKo.bind op34_nc fun _ h => OKo.mono (OKo.any _) fun _ _ => h)) (NB.ite (NB.t (OKo.bind op35_nc fun _ h => OKo.mono (OKo.any _) fun _ _ => h)) (NB.ite (NB.t (OKo.bind op36_nc fun _ h => OKo.mono (OKo.any _) fun _ _ => h)) (NB.ite (NB.t (OKo.bind op32_nc fun _ h => OKo.mono (OKo.any _) fun _ _ => h)) (NB.no)))))
theorem ops_nb : OKo (NB x) (opsN m f x s) := orN_nb (orN_nb (orN_nb numsN_nb fun _ => valsN_nb) fun _ => callsN_nb) fun _ => flowN_nb
theorem place_in {i : Int} {s' : VSt} (h : placeN f i s = some s') : 0 ≤ i ∧ i < (f.code.length : Int) := by
  unfold placeN needN inB at h
  split at h
  · rename_i hb
    simpa using hb
  · cases h
theorem case_in {k : CaseD} : OKo (fun _ => 0 ≤ k.to ∧ k.to < (f.code.length : Int)) (caseN m f s k) := fun b hb => by
  unfold caseN at hb
  obtain ⟨s1, _, hb⟩ := Option.bind_eq_some_iff.1 hb
  obtain ⟨s2, _, hb⟩ := Option.bind_eq_some_iff.1 hb
  obtain ⟨s3, h3, _⟩ := Option.bind_eq_some_iff.1 hb
  exact place_in h3
theorem cases_in : ∀ {l : List CaseD} {s s' : VSt}, casesN m f l s = some s' → ∀ k ∈ l, 0 ≤ k.to ∧ k.to < (f.code.length : Int)
  | [], _, _, _, k, hk => by cases hk
  | c :: l, s, s', h, k, hk => by
    rw [casesN] at h
    obtain ⟨s1, h1, h2⟩ := Option.bind_eq_some_iff.1 h
    rcases List.mem_cons.1 hk with rfl | hk
    · exact case_in _ h1
    · exact cases_in h2 k hk
variable {st : List Int} {k : Nat} {s' : VSt}
theorem step_ops1 (h : stepN m f k x st = some s') : ∃ s0 bs, opsN m f x s0 = some bs ∧ bs.1 = true := by
  unfold stepN at h
  obtain ⟨s0, h0, h⟩ := Option.bind_eq_some_iff.1 h
  obtain ⟨bs, h1, h⟩ := Option.bind_eq_some_iff.1 h
  obtain ⟨s2, h2, h3⟩ := Option.bind_eq_some_iff.1 h
  refine ⟨s0, bs, h1, ?_⟩
  unfold needN at h2
  split at h2
  · assumption
  · cases h2
theorem step_nc (h : stepN m f k x st = some s') : NC x := by
  obtain ⟨s0, bs, h1, h2⟩ := step_ops1 h
  exact ops_nb bs h1 h2
theorem step_jump (h : stepN m f k x st = some s') (ho : x.op = 33 ∨ x.op = 34) : 0 ≤ x.a ∧ x.a < (f.code.length : Int) := by
  obtain ⟨s0, bs, h1, h2⟩ := step_ops1 h
  rcases ho with ho | ho
  · have : opsN m f x s0 = ((op33 f x s0).bind endN).map (true, ·) := by
      simp [opsN, orN, numsN, valsN, callsN, flowN, ho]
    rw [this] at h1
    obtain ⟨s1, h1, _⟩ := Option.map_eq_some_iff.1 h1
    obtain ⟨s2, h1, _⟩ := Option.bind_eq_some_iff.1 h1
    obtain ⟨s3, _, h1⟩ := Option.bind_eq_some_iff.1 h1
    exact place_in h1
  · have : opsN m f x s0 = ((op34 m f x s0).bind endN).map (true, ·) := by
      simp [opsN, orN, numsN, valsN, callsN, flowN, ho]
    rw [this] at h1
    obtain ⟨s1, h1, _⟩ := Option.map_eq_some_iff.1 h1
    obtain ⟨s2, h1, _⟩ := Option.bind_eq_some_iff.1 h1
    obtain ⟨s3, _, h1⟩ := Option.bind_eq_some_iff.1 h1
    obtain ⟨s4, h1, _⟩ := Option.bind_eq_some_iff.1 h1
    exact place_in h1
theorem step_case (h : stepN m f k x st = some s') {c : CaseD} (hc : c ∈ x.cases) : 0 ≤ c.to ∧ c.to < (f.code.length : Int) ∧ x.op = 32 := by
  have ho : x.op = 32 := (step_nc h).elim id fun h0 => by rw [h0] at hc; cases hc
  obtain ⟨s0, bs, h1, h2⟩ := step_ops1 h
  have : opsN m f x s0 = ((op32 m f x s0).bind endN).map (true, ·) := by
    simp [opsN, orN, numsN, valsN, callsN, flowN, ho]
  rw [this] at h1
  obtain ⟨s1, h1, _⟩ := Option.map_eq_some_iff.1 h1
  obtain ⟨s2, h1, _⟩ := Option.bind_eq_some_iff.1 h1
  obtain ⟨s3, _, h1⟩ := Option.bind_eq_some_iff.1 h1
  obtain ⟨s4, _, h1⟩ := Option.bind_eq_some_iff.1 h1
  exact ⟨(cases_in h1 c hc).1, (cases_in h1 c hc).2, ho⟩
/-- Whither an instruction jumps, nothing lies on the stack. -/
theorem jump_at (h : funcAt m f = -1) (hx : f.code[k]? = some x) (hs : stepN m f k x st = some s') (ho : x.op = 33 ∨ x.op = 34) {l : List Int} (hl : atN m f x.a.toNat = some l) : l = [] :=
  jump_empty h (mem_places (List.mem_of_getElem? hx) (by unfold jumpsOf; rw [if_pos ho]; simp)) (step_jump hs ho).1 (step_jump hs ho).2 hl
theorem case_at (h : funcAt m f = -1) (hx : f.code[k]? = some x) (hs : stepN m f k x st = some s') {c : CaseD} (hc : c ∈ x.cases) {l : List Int} (hl : atN m f c.to.toNat = some l) : l = [] := by
  obtain ⟨h1, h2, h3⟩ := step_case hs hc
  refine jump_empty h (mem_places (List.mem_of_getElem? hx) ?_) h1 h2 hl
  unfold jumpsOf
  rw [if_neg (by omega), if_pos h3]
  exact List.mem_append.2 (.inr (List.mem_map.2 ⟨c, hc, rfl⟩))
end
end Go.Proofs.Ytdegfnejhamejaa

