/-
  Acts on a hub in plain words, and what every hub keeps to on which acts were done.
-/
import Derived.Test.YtclllnoohoonoaaDo
namespace Go.Proofs.Ytclllnoohoonoaa
set_option linter.unusedVariables false
set_option linter.unusedSimpArgs false

structure ActD where
  kind : Int
  who : Int
  chan : Int
  pick : Int
  cases : List CaseC
  wait : Bool
def actC (h : HubD) (a : ActD) : HubD :=
  if a.kind = 1 then (makeC h a.who).1
  else if a.kind = 2 then (shutC h a.chan).1
  else if a.kind = 3 then (dropC h a.who).1
  else if a.kind = 4 ∨ a.kind = 5 ∨ a.kind = 6 then h
  else (doC h a.who a.cases a.pick a.wait).1
def emptyH : HubD := ⟨[], []⟩
def grownC (l : List ActD) : HubD := l.foldl actC emptyH

/-- A case that cannot go on by its channel alone. -/
def freeX (l : List ChanD) (x : CaseC) : Prop := x.chan = 0 ∨ ∃ (k : Nat) (ch : ChanD), x.chan = (k : Int) + 1 ∧ l[k]? = some ch ∧ ch.shut = false ∧ roomC ch x.send = false
/-- Two who wait could not serve one another. -/
def farW (a b : WaitD) : Prop := ∀ x ∈ a.cases, ∀ y ∈ b.cases, x.chan = y.chan → x.chan ≠ 0 → x.send = y.send
structure GoodH (k m : Nat) (H : HubD) : Prop where
  ok : okH H
  list : H.list.length ≤ k
  wait : H.wait.length ≤ k
  cases : ∀ x ∈ H.wait, x.cases.length ≤ m
  free : ∀ x ∈ H.wait, ∀ y ∈ x.cases, freeX H.list y
  far : H.wait.Pairwise farW
theorem GoodH.empty (m : Nat) : GoodH 0 m emptyH := ⟨by intro k ch h; simp [emptyH] at h, by simp [emptyH], by simp [emptyH], by simp [emptyH], by simp [emptyH], by simp [emptyH]⟩
section
variable {k m : Nat} {H : HubD}
theorem GoodH.small (h : GoodH k m H) (hk : k ≤ 1099511627776) (hm : m ≤ 1099511627776) : SmallH H := ⟨Nat.le_trans h.list hk, Nat.le_trans h.wait hk, fun x hx => Nat.le_trans (h.cases x hx) hm⟩
theorem GoodH.more (h : GoodH k m H) {k' : Nat} (hk : k ≤ k') : GoodH k' m H := ⟨h.ok, Nat.le_trans h.list hk, Nat.le_trans h.wait hk, h.cases, h.free, h.far⟩
theorem GoodH.sub (h : GoodH k m H) {l' : List WaitD} (hs : l'.Sublist H.wait) : GoodH k m { H with wait := l' } :=
  ⟨h.ok, h.list, Nat.le_trans hs.length_le h.wait, fun x hx => h.cases x (hs.subset hx), fun x hx => h.free x (hs.subset hx), h.far.sublist hs⟩
theorem GoodH.unwait (h : GoodH k m H) (i : Nat) : GoodH k m (unwait H i) := h.sub (List.eraseIdx_sublist _ _)
theorem GoodH.setCh (h : GoodH k m H) {j : Nat} {ch ch' : ChanD} (hj : H.list[j]? = some ch) (hok : 0 ≤ ch'.size ∧ ch'.size ≤ 1024 ∧ (ch'.buf.length : Int) ≤ ch'.size) (hs : ch'.shut = ch.shut) (hr : ∀ x ∈ H.wait, ∀ y ∈ x.cases, y.chan = (j : Int) + 1 → roomC ch' y.send = false) : GoodH k m (setCh H j ch') := by
  have hjl := (List.getElem?_eq_some_iff.1 hj).1
  refine ⟨fun i c hc => ?_, by simpa [Go.Proofs.Ytclllnoohoonoaa.setCh] using h.list, h.wait, h.cases, fun x hx y hy => ?_, h.far⟩
  · simp only [Go.Proofs.Ytclllnoohoonoaa.setCh] at hc
    by_cases hij : j = i
    · subst hij
      rw [List.getElem?_set_self hjl] at hc
      injection hc with hc
      subst hc
      exact hok
    · rw [List.getElem?_set_ne hij] at hc
      exact h.ok i c hc
  · rcases h.free x hx y hy with h0 | ⟨i, c, h1, h2, h3, h4⟩
    · exact .inl h0
    · by_cases hij : j = i
      · subst hij
        rw [hj] at h2
        injection h2 with h2
        subst h2
        exact .inr ⟨j, ch', h1, by simp only [Go.Proofs.Ytclllnoohoonoaa.setCh]; rw [List.getElem?_set_self hjl], by rw [hs]; exact h3, hr x hx y hy h1⟩
      · exact .inr ⟨i, c, h1, by simp only [Go.Proofs.Ytclllnoohoonoaa.setCh]; rw [List.getElem?_set_ne hij]; exact h2, h3, h4⟩
theorem GoodH.at_ (h : GoodH k m H) {j : Nat} {ch : ChanD} (hj : H.list[j]? = some ch) {x : WaitD} (hx : x ∈ H.wait) {y : CaseC} (hy : y ∈ x.cases) (hc : y.chan = (j : Int) + 1) : ch.shut = false ∧ roomC ch y.send = false := by
  rcases h.free x hx y hy with h0 | ⟨i, c, h1, h2, h3, h4⟩
  · omega
  · obtain rfl : i = j := by omega
    rw [hj] at h2
    injection h2 with h2
    subst h2
    exact ⟨h3, h4⟩
theorem roomC_len {a b : ChanD} (h1 : a.size = b.size) (h2 : a.buf.length = b.buf.length) (s : Bool) : roomC a s = roomC b s := by unfold roomC; rw [h1, h2]
theorem GoodH.recv (h : GoodH k m H) (j : Nat) : GoodH k m (recvC H ((j : Int) + 1)).1 := by
  unfold recvC
  rw [show ((j : Int) + 1 - 1).toNat = j by omega]
  cases hj : H.list[j]? with
  | none => exact h
  | some ch =>
    obtain ⟨size, buf, shut⟩ := ch
    have hok := h.ok j _ hj
    simp only
    cases buf with
    | nil =>
      cases hf : findW ((j : Int) + 1) true H.wait with
      | none => exact h
      | some p => exact h.unwait p.1
    | cons x r =>
      cases hf : findW ((j : Int) + 1) true H.wait with
      | none =>
        refine h.setCh hj ⟨hok.1, hok.2.1, by have := hok.2.2; simp only [List.length_cons] at this; simp only; omega⟩ rfl fun w hw y hy hc => ?_
        have h1 := (h.at_ hj hw hy hc).2
        have h2 := caseAt_none (findW_none hf w hw) y hy
        cases hs : y.send
        · rw [hs] at h1; simp [roomC] at h1
        · exact absurd ⟨hc, hs⟩ h2
      | some p =>
        obtain ⟨pi, pk⟩ := p
        refine GoodH.unwait (h.setCh (ch' := ⟨size, r ++ [valOf H pi pk], shut⟩) hj ⟨hok.1, hok.2.1, by have := hok.2.2; simp only [List.length_cons] at this; simp only [List.length_append, List.length_singleton]; omega⟩ rfl fun w hw y hy hc => ?_) pi
        have h1 := (h.at_ hj hw hy hc).2
        rw [roomC_len (a := ⟨size, r ++ [valOf H pi pk], shut⟩) (b := ⟨size, x :: r, shut⟩) rfl (by simp)]
        exact h1
theorem GoodH.send (h : GoodH k m H) {x : CaseC} {j : Nat} (hx : x.chan = (j : Int) + 1) (hs : x.send = true) (hsh : shutOf H x.chan = false) (hcan : canC H x = true) : GoodH k m (sendC H x).1 := by
  unfold sendC
  cases hf : findW x.chan false H.wait with
  | some p => exact h.unwait p.1
  | none =>
    simp only
    rw [hx, show ((j : Int) + 1 - 1).toNat = j by omega]
    cases hj : H.list[j]? with
    | none => exact h
    | some ch =>
      have hok := h.ok j _ hj
      simp only [shutOf, hx, show ((j : Int) + 1 - 1).toNat = j by omega, hj] at hsh
      rw [canC_at hx hj, hs, show (!true) = false from rfl, hf, hsh] at hcan
      have hroom : roomC ch true = true := by simpa using hcan
      have hlt : (ch.buf.length : Int) < ch.size := by simpa [roomC] using hroom
      refine h.setCh hj ⟨hok.1, hok.2.1, by simp only [List.length_append, List.length_singleton]; omega⟩ rfl fun w hw y hy hc => ?_
      have h1 := (h.at_ hj hw hy hc).2
      have h2 := caseAt_none (findW_none hf w hw) y hy
      cases hs' : y.send
      · exact absurd ⟨by rw [hc, hx], hs'⟩ h2
      · rw [hs', hroom] at h1; cases h1
theorem ready_nil (h : HubD) : ∀ (l : List CaseC) (i : Nat), readyFrom h i l = [] → ∀ x ∈ l, canC h x = false
  | [], _, _ => by simp
  | y :: l, i, hr => by
    rw [readyFrom] at hr
    split at hr
    · cases hr
    · rename_i hy
      intro x hx
      rcases List.mem_cons.1 hx with rfl | hx
      · simpa using hy
      · exact ready_nil h l (i + 1) hr x hx
theorem GoodH.wait_ (h : GoodH k m H) {who : Int} {cases : List CaseC} (hn : cases.length ≤ m) (hk : knownC H.list.length cases = true) (hr : readyC H cases = []) : GoodH (k + 1) m { H with wait := H.wait ++ [⟨who, cases⟩] } := by
  have hall : ∀ x ∈ cases, x.chan = 0 ∨ ∃ (j : Nat) (ch : ChanD), x.chan = (j : Int) + 1 ∧ H.list[j]? = some ch ∧ ch.shut = false ∧ roomC ch x.send = false ∧ findW x.chan (!x.send) H.wait = none := by
    intro x hx
    obtain ⟨i, hi⟩ := List.getElem?_of_mem hx
    obtain ⟨h0, h1⟩ := known_in hk hi
    have hc := ready_nil H cases 0 hr x hx
    by_cases hz : x.chan = 0
    · exact .inl hz
    · obtain ⟨j, hj⟩ : ∃ j : Nat, x.chan = (j : Int) + 1 := ⟨(x.chan - 1).toNat, by omega⟩
      have hjl : j < H.list.length := by omega
      have hg := List.getElem?_eq_getElem hjl
      rw [canC_at hj hg] at hc
      simp only [Bool.or_eq_false_iff, Option.isSome_eq_false_iff, Option.isNone_iff_eq_none] at hc
      exact .inr ⟨j, _, hj, hg, hc.2, hc.1.1, hc.1.2⟩
  refine ⟨h.ok, Nat.le_succ_of_le h.list, by simp only [List.length_append, List.length_singleton]; have := h.wait; omega, fun x hx => ?_, fun x hx y hy => ?_, ?_⟩
  · rcases List.mem_append.1 hx with hx | hx
    · exact h.cases x hx
    · simp at hx; subst hx; exact hn
  · rcases List.mem_append.1 hx with hx | hx
    · exact h.free x hx y hy
    · simp at hx
      subst hx
      rcases hall y hy with h0 | ⟨j, ch, h1, h2, h3, h4, _⟩
      · exact .inl h0
      · exact .inr ⟨j, ch, h1, h2, h3, h4⟩
  · rw [List.pairwise_append]
    refine ⟨h.far, by simp, fun a ha b hb x hx y hy hc hz => ?_⟩
    simp at hb
    subst hb
    rcases hall y hy with h0 | ⟨j, ch, _, _, _, _, h5⟩
    · rw [hc] at hz; exact absurd h0 hz
    · have h2 := caseAt_none (findW_none h5 a ha) x hx
      cases hs : x.send <;> cases hs' : y.send
      · rfl
      · exact absurd ⟨hc, by rw [hs, hs']; rfl⟩ h2
      · exact absurd ⟨hc, by rw [hs, hs']; rfl⟩ h2
      · rfl
theorem ready_sub {a : Int} {r : List Int} {cases : List CaseC} (hrc : readyC H cases = a :: r) (pn : Nat) : ∃ (j : Nat) (x : CaseC), (a :: r).getD (pn % (r.length + 1)) 0 = (j : Int) ∧ cases[j]? = some x ∧ canC H x = true := by
  have hml : pn % (r.length + 1) < (a :: r).length := Nat.mod_lt _ (by simp)
  have hg : (readyFrom H 0 cases)[pn % (r.length + 1)]? = some (a :: r)[pn % (r.length + 1)] := by rw [show readyFrom H 0 cases = a :: r from hrc]; exact List.getElem?_eq_getElem hml
  obtain ⟨j, x, hj, hx, hcan⟩ := ready_mem H cases 0 _ _ hg
  refine ⟨j, x, ?_, hx, hcan⟩
  rw [List.getD_eq_getElem?_getD, List.getElem?_eq_getElem hml]
  simpa using hj
theorem GoodH.do_ (h : GoodH k m H) (who : Int) {cases : List CaseC} (hn : cases.length ≤ m) (pick : Int) (wait : Bool) : GoodH (k + 1) m (doC H who cases pick wait).1 := by
  by_cases hp : pick < 0
  · rw [doC_neg hp]; exact h.more (by omega)
  cases htw : (whos H).any (eqI who)
  case true => rw [doC_twice (by omega) htw]; exact h.more (by omega)
  cases hk : knownC H.list.length cases
  case false => rw [doC_none (by omega) htw hk]; exact h.more (by omega)
  cases hrc : readyC H cases with
  | nil =>
    rw [doC_wait (by omega) htw hk hrc]
    cases wait
    · exact h.more (by omega)
    · exact h.wait_ hn hk hrc
  | cons a r =>
    obtain ⟨pn, rfl⟩ : ∃ pn : Nat, pick = (pn : Int) := ⟨pick.toNat, by omega⟩
    obtain ⟨j, x, h1, hx, hcan⟩ := ready_sub hrc pn
    rw [doC_at rfl htw hk hrc h1 hx]
    obtain ⟨h0, _⟩ := known_in hk hx
    have hz : x.chan ≠ 0 := fun hz => by rw [canC_zero hz] at hcan; cases hcan
    obtain ⟨i, hi⟩ : ∃ i : Nat, x.chan = (i : Int) + 1 := ⟨(x.chan - 1).toNat, by omega⟩
    cases hs : x.send
    · simp only [if_true]
      rw [hi]
      exact (h.recv i).more (by omega)
    · simp only [Bool.true_eq_false, if_false]
      cases hsh : shutOf H x.chan
      · simp only [Bool.false_eq_true, if_false]
        exact (h.send hi hs hsh hcan).more (by omega)
      · simp only [if_true]
        exact h.more (by omega)
theorem GoodH.make (h : GoodH k m H) (size : Int) : GoodH (k + 1) m (makeC H size).1 := by
  unfold makeC
  split
  · exact h.more (by omega)
  · refine ⟨fun i c hc => ?_, by simp only [List.length_append, List.length_singleton]; have := h.list; omega, Nat.le_succ_of_le h.wait, h.cases, fun x hx y hy => ?_, h.far⟩
    · simp only at hc
      rcases Nat.lt_or_ge i H.list.length with hl | hl
      · rw [List.getElem?_append_left hl] at hc
        exact h.ok i c hc
      · rw [List.getElem?_append_right hl] at hc
        have h1 := (List.getElem?_eq_some_iff.1 hc).1
        simp only [List.length_singleton] at h1
        rw [show i - H.list.length = 0 by omega] at hc
        simp at hc
        subst hc
        simp only [List.length_nil]
        omega
    · rcases h.free x hx y hy with h0 | ⟨i, c, h1, h2, h3, h4⟩
      · exact .inl h0
      · exact .inr ⟨i, c, h1, by simp only; rw [List.getElem?_append_left (List.getElem?_eq_some_iff.1 h2).1]; exact h2, h3, h4⟩
theorem anyAt_none {c : Int} : ∀ {l : List CaseC}, anyAt c l = none → ∀ x ∈ l, x.chan ≠ c
  | [], _ => by simp
  | x :: l, h => by
    unfold anyAt at h
    split at h
    · cases h
    · rename_i h1
      intro y hy
      rcases List.mem_cons.1 hy with rfl | hy
      · exact h1
      · exact anyAt_none (by simpa using h) y hy
theorem GoodH.shut (h : GoodH k m H) (c : Int) : GoodH k m (shutC H c).1 := by
  unfold shutC
  split
  · exact h
  split
  · exact h
  cases hj : H.list[(c - 1).toNat]? with
  | none => exact h
  | some ch =>
    simp only
    split
    · exact h
    have hjl := (List.getElem?_eq_some_iff.1 hj).1
    have hok := h.ok _ _ hj
    have hsub : (leave c H.wait).Sublist H.wait := List.filter_sublist
    refine ⟨fun i d hd => ?_, by simpa using h.list, Nat.le_trans hsub.length_le h.wait, fun x hx => h.cases x (hsub.subset hx), fun x hx y hy => ?_, h.far.sublist hsub⟩
    · simp only at hd
      by_cases hij : (c - 1).toNat = i
      · subst hij
        rw [List.getElem?_set_self hjl] at hd
        injection hd with hd
        subst hd
        exact hok
      · rw [List.getElem?_set_ne hij] at hd
        exact h.ok i d hd
    · simp only [leave, List.mem_filter, Option.isNone_iff_eq_none] at hx
      have hne := anyAt_none hx.2 y hy
      rcases h.free x hx.1 y hy with h0 | ⟨i, d, h1, h2, h3, h4⟩
      · exact .inl h0
      · exact .inr ⟨i, d, h1, by simp only; rw [List.getElem?_set_ne (by omega)]; exact h2, h3, h4⟩
theorem GoodH.drop (h : GoodH k m H) (who : Int) : GoodH k m (dropC H who).1 := by
  unfold dropC
  split
  · exact h
  · exact h.unwait _
theorem GoodH.act (h : GoodH k m H) {a : ActD} (hn : a.cases.length ≤ m) : GoodH (k + 1) m (actC H a) := by
  unfold actC
  split
  · exact h.make _
  split
  · exact (h.shut _).more (by omega)
  split
  · exact (h.drop _).more (by omega)
  split
  · exact h.more (by omega)
  · exact h.do_ _ hn _ _
end
theorem grownC_good {m : Nat} {l : List ActD} (hm : ∀ a ∈ l, a.cases.length ≤ m) : ∀ j, j ≤ l.length → GoodH j m (grownC (l.take j)) := by
  intro j
  induction j with
  | zero => intro _; exact GoodH.empty m
  | succ j ih =>
    intro hj
    have hjl : j < l.length := by omega
    rw [List.take_succ_eq_append_getElem hjl]
    unfold grownC
    rw [List.foldl_append]
    exact (ih (by omega)).act (hm _ (List.getElem_mem hjl))
theorem grownC_succ {l : List ActD} {j : Nat} {a : ActD} (h : l[j]? = some a) : grownC (l.take (j + 1)) = actC (grownC (l.take j)) a := by
  obtain ⟨h1, h2⟩ := List.getElem?_eq_some_iff.1 h
  rw [List.take_succ_eq_append_getElem h1, h2]
  unfold grownC
  rw [List.foldl_append]
  rfl
end Go.Proofs.Ytclllnoohoonoaa
