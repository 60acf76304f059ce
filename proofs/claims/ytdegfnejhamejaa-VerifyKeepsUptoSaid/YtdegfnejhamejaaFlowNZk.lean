/-
  What an instruction takes lies on top of the stack, the rest stays, and what it leaves is put on it (plain).
-/
import Derived.Test.YtdegfnejhamejaaVAnsZk
namespace Go.Proofs.Ytdegfnejhamejaa
set_option linter.unusedVariables false
set_option linter.unusedSimpArgs false

/-- Ahead of what is left, at the end. -/
def FI (st0 : List Int) (s : VSt) : Prop := s.left = [] ∧ st0 = s.stack ++ s.taken.reverse
def FE (st0 : List Int) (s : VSt) : Prop := ∃ pre, st0 = pre ++ s.taken.reverse ∧ s.stack = pre ++ s.left ∧ (s.left = [] ∨ (s.left.length ≤ 1 ∧ s.stack.length ≤ 64))
def OKo {α : Type} (Q : α → Prop) (o : Option α) : Prop := ∀ a, o = some a → Q a
theorem OKo.bind {α β : Type} {Q : α → Prop} {R : β → Prop} {o : Option α} {k : α → Option β} (h : OKo Q o) (hk : ∀ a, Q a → OKo R (k a)) : OKo R (o.bind k) := fun b hb => by
  obtain ⟨a, ha, hb⟩ := Option.bind_eq_some_iff.1 hb
  exact hk a (h a ha) b hb
theorem OKo.map {α β : Type} {Q : α → Prop} {R : β → Prop} {o : Option α} {k : α → β} (h : OKo Q o) (hk : ∀ a, Q a → R (k a)) : OKo R (o.map k) := fun b hb => by
  obtain ⟨a, ha, rfl⟩ := Option.map_eq_some_iff.1 hb
  exact hk a (h a ha)
theorem OKo.some {α : Type} {Q : α → Prop} {a : α} (h : Q a) : OKo Q (some a) := fun b hb => by cases hb; exact h
theorem OKo.any {α : Type} (o : Option α) : OKo (fun _ => True) o := fun _ _ => trivial
theorem OKo.mono {α : Type} {Q R : α → Prop} {o : Option α} (h : OKo Q o) (hR : ∀ a, Q a → R a) : OKo R o := fun a ha => hR a (h a ha)
section
variable {st0 : List Int} {s : VSt}
theorem FI.fe (H : FI st0 s) : FE st0 s := ⟨s.stack, H.2, by rw [H.1]; simp, .inl H.1⟩
theorem need_fi {Q : VSt → Prop} {b : Bool} (H : Q s) : OKo Q (needN b s) := fun a ha => by
  unfold needN at ha
  split at ha
  · cases ha; exact H
  · cases ha
theorem pop_fi (H : FI st0 s) : OKo (fun r => FI st0 r.2) (popN s) := by
  unfold popN
  intro a ha
  obtain ⟨t, ht, rfl⟩ := Option.map_eq_some_iff.1 ha
  obtain ⟨ys, hy⟩ := List.getLast?_eq_some_iff.1 ht
  refine ⟨H.1, ?_⟩
  have h2 := H.2
  rw [hy] at h2
  simp only [hy, List.dropLast_concat, List.reverse_append, List.reverse_cons, List.reverse_nil, List.nil_append, List.singleton_append] at h2 ⊢
  rw [h2]; simp
theorem want_fi {t : Int} (H : FI st0 s) : OKo (FI st0) (wantN t s) := OKo.bind (pop_fi H) fun _ h => need_fi h
theorem wantsR_fi : ∀ {l : List Int} {s : VSt}, FI st0 s → OKo (FI st0) (wantsR l s)
  | [], _, H => OKo.some H
  | t :: l, _, H => OKo.bind (want_fi H) fun _ h => wantsR_fi h
theorem wants_fi {l : List Int} (H : FI st0 s) : OKo (FI st0) (wantsN l s) := wantsR_fi H
theorem pops_fi {T : List ShapeD} {k : Int} (H : FI st0 s) : OKo (fun r => FI st0 r.2) (popsN T k s) := OKo.bind (pop_fi H) fun _ h => OKo.map (need_fi (Q := FI st0) h) fun _ h => h
theorem push_fi {t : Int} (H : FI st0 s) : OKo (FE st0) (pushN t s) := fun a ha => by
  unfold pushN needN at ha
  split at ha
  · rename_i hb
    cases ha
    have hb := of_decide_eq_true hb
    exact ⟨s.stack, H.2, by simp [H.1], .inr ⟨by simp [H.1], by simp; omega⟩⟩
  · cases ha
theorem res_fi {t : Int} (H : FI st0 s) : OKo (FE st0) (resS t s) := by
  unfold resS
  split
  · exact push_fi H
  · exact OKo.some H.fe
theorem end_fe (H : FE st0 s) : OKo (FE st0) (endN s) := need_fi H
variable {m : ModD} {f : FuncD} {x : InstrD}
theorem case_fi {k : CaseD} (H : FI st0 s) : OKo (FI st0) (caseN m f s k) := by
  refine OKo.bind (need_fi H) fun s H => OKo.bind (need_fi H) fun s H => OKo.bind (need_fi H) fun s H => ?_
  split
  · exact OKo.bind (need_fi H) fun s H => need_fi H
  · exact OKo.some H
theorem cases_fi : ∀ {l : List CaseD} {s : VSt}, FI st0 s → OKo (FI st0) (casesN m f l s)
  | [], _, H => OKo.some H
  | k :: l, _, H => OKo.bind (case_fi H) fun _ h => cases_fi h
theorem op1_fe (H : FI st0 s) : OKo (FE st0) (op1 m x s) := OKo.bind (need_fi H) fun s H => OKo.bind (need_fi H) fun s H => OKo.bind (need_fi H) fun s H => push_fi H
theorem op2_fe (H : FI st0 s) : OKo (FE st0) (op2 m x s) := OKo.bind (need_fi H) fun s H => OKo.bind (need_fi H) fun s H => OKo.bind (need_fi H) fun s H => push_fi H
theorem op7_fe (H : FI st0 s) : OKo (FE st0) (op7 m x s) := OKo.bind (need_fi H) fun s H => OKo.bind (need_fi H) fun s H => OKo.bind (pop_fi H) fun r H => OKo.bind (need_fi H) fun s H => OKo.bind (want_fi H) fun s H => push_fi H
theorem op8_fe (H : FI st0 s) : OKo (FE st0) (op8 m x s) := OKo.bind (need_fi H) fun s H => OKo.bind (need_fi H) fun s H => OKo.bind (pop_fi H) fun r H => OKo.bind (need_fi H) fun s H => OKo.bind (pop_fi H) fun q H => OKo.bind (need_fi H) fun s H => push_fi H
theorem op9_fe (H : FI st0 s) : OKo (FE st0) (op9 m x s) := OKo.bind (need_fi H) fun s H => OKo.bind (need_fi H) fun s H => OKo.bind (pop_fi H) fun r H => OKo.bind (need_fi H) fun s H => OKo.bind (want_fi H) fun s H => push_fi H
theorem op10_fe (H : FI st0 s) : OKo (FE st0) (op10 m x s) := OKo.bind (need_fi H) fun s H => OKo.bind (need_fi H) fun s H => OKo.bind (pop_fi H) fun r H => OKo.bind (need_fi H) fun s H => OKo.bind (want_fi H) fun s H => push_fi H
theorem op11_fe (H : FI st0 s) : OKo (FE st0) (op11 m x s) := OKo.bind (need_fi H) fun s H => OKo.bind (pop_fi H) fun r H => OKo.bind (need_fi H) fun s H => push_fi H
theorem op12_fe (H : FI st0 s) : OKo (FE st0) (op12 m x s) := OKo.bind (need_fi H) fun s H => OKo.bind (need_fi H) fun s H => OKo.bind (pop_fi H) fun r H => OKo.bind (need_fi H) fun s H => push_fi H
theorem op3_fe (H : FI st0 s) : OKo (FE st0) (op3 m x s) := OKo.bind (need_fi H) fun s H => OKo.bind (need_fi H) fun s H => push_fi H
theorem op4_fe (H : FI st0 s) : OKo (FE st0) (op4 f x s) := OKo.bind (need_fi H) fun s H => OKo.bind (need_fi H) fun s H => push_fi H
theorem op5_fe (H : FI st0 s) : OKo (FE st0) (op5 f x s) := OKo.bind (need_fi H) fun s H => OKo.bind (need_fi H) fun s H => OKo.mono (want_fi H) fun _ h => h.fe
theorem op6_fe (H : FI st0 s) : OKo (FE st0) (op6 x s) := OKo.bind (need_fi H) fun s H => OKo.bind (pop_fi H) fun r H => OKo.some H.fe
theorem op13_fe (H : FI st0 s) : OKo (FE st0) (op13 m x s) := OKo.bind (need_fi H) fun s H => OKo.bind (need_fi H) fun s H => OKo.bind (wants_fi H) fun s H => push_fi H
theorem op14_fe (H : FI st0 s) : OKo (FE st0) (op14 m x s) := OKo.bind (need_fi H) fun s H => OKo.bind (pops_fi H) fun r H => OKo.bind (need_fi H) fun s H => push_fi H
theorem op15_fe (H : FI st0 s) : OKo (FE st0) (op15 m x s) := OKo.bind (need_fi H) fun s H => OKo.bind (pop_fi H) fun r H => OKo.bind (pop_fi H) fun q H => OKo.bind (need_fi H) fun s H => OKo.bind (need_fi H) fun s H => push_fi H
theorem op16_fe (H : FI st0 s) : OKo (FE st0) (op16 m x s) := OKo.bind (need_fi H) fun s H => OKo.bind (need_fi H) fun s H => OKo.bind (need_fi H) fun s H => OKo.bind (want_fi H) fun s H => push_fi H
theorem op17_fe (H : FI st0 s) : OKo (FE st0) (op17 m x s) := OKo.bind (need_fi H) fun s H => OKo.bind (need_fi H) fun s H => OKo.bind (pops_fi H) fun r H => push_fi H
theorem op18_fe (H : FI st0 s) : OKo (FE st0) (op18 m x s) := OKo.bind (need_fi H) fun s H => OKo.bind (pop_fi H) fun r H => OKo.bind (need_fi H) fun s H => OKo.bind (pops_fi H) fun q H => push_fi H
theorem op19_fe (H : FI st0 s) : OKo (FE st0) (op19 m x s) := OKo.bind (need_fi H) fun s H => OKo.bind (pop_fi H) fun r H => OKo.bind (pop_fi H) fun q H => OKo.bind (need_fi H) fun s H => OKo.bind (pops_fi H) fun u H => OKo.mono (need_fi H) fun _ h => h.fe
theorem op21_fe (H : FI st0 s) : OKo (FE st0) (op21 m x s) := OKo.bind (need_fi H) fun s H => OKo.bind (need_fi H) fun s H => OKo.bind (want_fi H) fun s H => push_fi H
theorem op22_fe (H : FI st0 s) : OKo (FE st0) (op22 m x s) := OKo.bind (need_fi H) fun s H => OKo.bind (pops_fi H) fun r H => push_fi H
theorem op23_fe (H : FI st0 s) : OKo (FE st0) (op23 m x s) := OKo.bind (need_fi H) fun s H => OKo.bind (pop_fi H) fun r H => OKo.bind (pops_fi H) fun u H => OKo.mono (need_fi H) fun _ h => h.fe
theorem op24_fe (H : FI st0 s) : OKo (FE st0) (op24 f x s) := OKo.bind (need_fi H) fun s H => OKo.bind (need_fi H) fun s H => push_fi H
theorem op20_fe (H : FI st0 s) : OKo (FE st0) (op20 m x s) := OKo.bind (need_fi H) fun s H => OKo.bind (need_fi H) fun s H => OKo.bind (need_fi H) fun s H => OKo.bind (OKo.any _) fun g _ => OKo.bind (need_fi H) fun s H => OKo.bind (wants_fi H) fun s H => push_fi H
theorem op25_fe (H : FI st0 s) : OKo (FE st0) (op25 m x s) := OKo.bind (need_fi H) fun s H => OKo.bind (need_fi H) fun s H => OKo.bind (OKo.any _) fun g _ => OKo.bind (need_fi H) fun s H => OKo.bind (wants_fi H) fun s H => res_fi H
theorem op26_fe (H : FI st0 s) : OKo (FE st0) (op26 m x s) := OKo.bind (need_fi H) fun s H => OKo.bind (need_fi H) fun s H => OKo.bind (wants_fi H) fun s H => OKo.bind (want_fi H) fun s H => res_fi H
theorem op27_fe (H : FI st0 s) : OKo (FE st0) (op27 m x s) := OKo.bind (need_fi H) fun s H => OKo.bind (need_fi H) fun s H => OKo.bind (wants_fi H) fun s H => OKo.mono (want_fi H) fun _ h => h.fe
theorem op29_fe (H : FI st0 s) : OKo (FE st0) (op29 m x s) := OKo.bind (need_fi H) fun s H => OKo.bind (pop_fi H) fun r H => OKo.bind (pops_fi H) fun u H => OKo.mono (need_fi H) fun _ h => h.fe
theorem op30_fe (H : FI st0 s) : OKo (FE st0) (op30 m x s) := OKo.bind (need_fi H) fun s H => OKo.bind (pops_fi H) fun r H => push_fi H
theorem op31_fe (H : FI st0 s) : OKo (FE st0) (op31 m x s) := OKo.bind (need_fi H) fun s H => OKo.bind (pops_fi H) fun r H => OKo.some H.fe
theorem op37_fe (H : FI st0 s) : OKo (FE st0) (op37 m x s) := OKo.bind (need_fi H) fun s H => OKo.bind (need_fi H) fun s H => push_fi H
theorem op38_fe (H : FI st0 s) : OKo (FE st0) (op38 m x s) := OKo.bind (need_fi H) fun s H => OKo.bind (pop_fi H) fun r H => OKo.mono (need_fi H) fun _ h => h.fe
theorem op33_fe (H : FI st0 s) : OKo (FE st0) (op33 f x s) := OKo.bind (need_fi H) fun s H => OKo.mono (need_fi H) fun _ h => h.fe
theorem op34_fe (H : FI st0 s) : OKo (FE st0) (op34 m f x s) := OKo.bind (need_fi H) fun s H => OKo.bind (need_fi H) fun s H => OKo.bind (pop_fi H) fun r H => OKo.mono (need_fi H) fun _ h => h.fe
theorem op35_fe (H : FI st0 s) : OKo (FE st0) (op35 f x s) := by
  refine OKo.bind (need_fi H) fun s H => ?_
  split
  · exact OKo.mono (want_fi H) fun _ h => h.fe
  · exact OKo.some H.fe
theorem op36_fe (H : FI st0 s) : OKo (FE st0) (op36 m x s) := OKo.bind (need_fi H) fun s H => OKo.bind (pop_fi H) fun r H => OKo.mono (need_fi H) fun _ h => h.fe
theorem op32_fe (H : FI st0 s) : OKo (FE st0) (op32 m f x s) := OKo.bind (need_fi H) fun s H => OKo.bind (need_fi H) fun s H => OKo.mono (cases_fi H) fun _ h => h.fe
/-- What is said of an instruction of this sort or another. -/
def FB (st0 : List Int) (s : VSt) (bs : Bool × VSt) : Prop := if bs.1 = true then FE st0 bs.2 else bs.2 = s
theorem FB.t {o : Option VSt} (h : OKo (FE st0) o) : OKo (FB st0 s) (o.map (true, ·)) := OKo.map h fun _ h => by unfold FB; rw [if_pos rfl]; exact h
theorem FB.ite {c : Prop} [Decidable c] {a b : Option (Bool × VSt)} (ha : OKo (FB st0 s) a) (hb : OKo (FB st0 s) b) : OKo (FB st0 s) (if c then a else b) := by split <;> assumption
theorem FB.no : OKo (FB st0 s) (some (false, s)) := OKo.some (by unfold FB; simp)
theorem numsN_fb (H : FI st0 s) : OKo (FB st0 s) (numsN m x s) := by
  unfold numsN
  exact FB.ite (FB.t (op1_fe H)) (FB.ite (FB.t (op2_fe H)) (FB.ite (FB.t (op7_fe H)) (FB.ite (FB.t (op8_fe H)) (FB.ite (FB.t (op9_fe H)) (FB.ite (FB.t (op10_fe H)) (FB.ite (FB.t (op11_fe H)) (FB.ite (FB.t (op12_fe H)) (FB.no))))))))
theorem valsN_fb (H : FI st0 s) : OKo (FB st0 s) (valsN m f x s) := by
  unfold valsN
  exact FB.ite (FB.t (op3_fe H)) (FB.ite (FB.t (op4_fe H)) (FB.ite (FB.t (op5_fe H)) (FB.ite (FB.t (op6_fe H)) (FB.ite (FB.t (op13_fe H)) (FB.ite (FB.t (op14_fe H)) (FB.ite (FB.t (op15_fe H)) (FB.ite (FB.t (op16_fe H)) (FB.ite (FB.t (op17_fe H)) (FB.ite (FB.t (op18_fe H)) (FB.ite (FB.t (op19_fe H)) (FB.ite (FB.t (op21_fe H)) (FB.ite (FB.t (op22_fe H)) (FB.ite (FB.t (op23_fe H)) (FB.ite (FB.t (op24_fe H)) (FB.no)))))))))))))))
theorem callsN_fb (H : FI st0 s) : OKo (FB st0 s) (callsN m x s) := by
  unfold callsN
  exact FB.ite (FB.t (op20_fe H)) (FB.ite (FB.t (op25_fe H)) (FB.ite (FB.t (op26_fe H)) (FB.ite (FB.t (op27_fe H)) (FB.ite (FB.t (op27_fe H)) (FB.ite (FB.t (op29_fe H)) (FB.ite (FB.t (op30_fe H)) (FB.ite (FB.t (op31_fe H)) (FB.ite (FB.t (op37_fe H)) (FB.ite (FB.t (op38_fe H)) (FB.no))))))))))
theorem flowN_fb (H : FI st0 s) : OKo (FB st0 s) (flowN m f x s) := by
  unfold flowN
  exact FB.ite (FB.t (OKo.bind (op33_fe H) fun _ h => end_fe h)) (FB.ite (FB.t (OKo.bind (op34_fe H) fun _ h => end_fe h)) (FB.ite (FB.t (OKo.bind (op35_fe H) fun _ h => end_fe h)) (FB.ite (FB.t (OKo.bind (op36_fe H) fun _ h => end_fe h)) (FB.ite (FB.t (OKo.bind (op32_fe H) fun _ h => end_fe h)) (FB.no)))))
theorem orN_fb {r : Option (Bool × VSt)} {next : VSt → Option (Bool × VSt)} (h : OKo (FB st0 s) r) (hn : OKo (FB st0 s) (next s)) : OKo (FB st0 s) (orN r next) := by
  refine OKo.bind h fun bs hb => ?_
  unfold FB at hb
  split
  · rename_i hb1; rw [if_pos hb1] at hb; exact OKo.some (by unfold FB; rw [if_pos hb1]; exact hb)
  · rename_i hb1; rw [if_neg hb1] at hb; rw [hb]; exact hn
theorem ops_fb (H : FI st0 s) : OKo (FB st0 s) (opsN m f x s) := orN_fb (orN_fb (orN_fb (numsN_fb H) (valsN_fb H)) (callsN_fb H)) (flowN_fb H)
end
section
variable {m : ModD} {f : FuncD} {x : InstrD} {st : List Int} {k : Nat} {s : VSt}
theorem step_fe (h : stepN m f k x st = some s) : FE st s ∧ ((placesOf f.code).contains (k : Int) = true → st = []) := by
  unfold stepN at h
  obtain ⟨s0, h0, h⟩ := Option.bind_eq_some_iff.1 h
  obtain ⟨bs, h1, h⟩ := Option.bind_eq_some_iff.1 h
  obtain ⟨s2, h2, h3⟩ := Option.bind_eq_some_iff.1 h
  have hi : FI st s0 := need_fi (Q := FI st) (s := ⟨st, [], []⟩) ⟨rfl, by simp⟩ s0 h0
  have hb := ops_fb hi bs h1
  refine ⟨?_, fun hp => ?_⟩
  · unfold needN at h2 h3
    split at h2
    · rename_i hb1
      cases h2
      split at h3
      · cases h3
        unfold FB at hb
        rw [if_pos hb1] at hb
        exact hb
      · cases h3
    · cases h2
  · unfold needN at h0
    split at h0
    · rename_i hc
      rw [hp] at hc
      simpa using hc
    · cases h0
theorem at_small : ∀ {k : Nat} {st : List Int}, atN m f k = some st → st.length ≤ 64
  | 0, st, h => by cases h; simp
  | k + 1, st, h => by
    rw [atN] at h
    obtain ⟨st', h1, h⟩ := Option.bind_eq_some_iff.1 h
    obtain ⟨x, hx, h⟩ := Option.bind_eq_some_iff.1 h
    obtain ⟨s, hs, rfl⟩ := Option.map_eq_some_iff.1 h
    have ih := at_small h1
    obtain ⟨⟨pre, h2, h3, h4⟩, _⟩ := step_fe hs
    rcases h4 with h4 | h4
    · rw [h3, h4]
      rw [h2] at ih
      simp at ih ⊢
      omega
    · exact h4.2
end
end Go.Proofs.Ytdegfnejhamejaa

