/-
  A new channel with room, nobody waiting anywhere, in plain words: what is put in comes out in order; and which case is picked.
-/
import Derived.Test.YtclllnoohoonoaaMeetsN
namespace Go.Proofs.Ytclllnoohoonoaa
set_option linter.unusedVariables false
set_option linter.unusedSimpArgs false

section
variable {H : HubD} {n : Nat} {buf r : List Nat} {v x : Nat} {s : Bool}
theorem newH_set (H : HubD) (size size' : Int) (buf buf' : List Nat) (s s' : Bool) : setCh (newH H size buf s) H.list.length ⟨size', buf', s'⟩ = newH H size' buf' s' := by
  simp [setCh, newH]
theorem newH_ok {k m : Nat} (h : GoodH k m H) (hn : n ≤ 1024) (hb : buf.length ≤ n) : okH (newH H n buf s) := by
  intro i ch hi
  simp only [newH] at hi
  rcases Nat.lt_or_ge i H.list.length with hl | hl
  · rw [List.getElem?_append_left hl] at hi
    exact h.ok i ch hi
  · rw [List.getElem?_append_right hl] at hi
    have h1 := (List.getElem?_eq_some_iff.1 hi).1
    simp only [List.length_singleton] at h1
    rw [show i - H.list.length = 0 by omega] at hi
    simp at hi
    subst hi
    simp only
    omega
theorem newH_small {k m : Nat} (h : GoodH k m H) (hk : k + 1 ≤ 1099511627776) (hm : m ≤ 1099511627776) : SmallH (newH H n buf s) :=
  ⟨by simp only [newH, List.length_append, List.length_singleton]; have := h.list; omega, by have := h.wait; simp only [newH]; omega, fun y hy => Nat.le_trans (h.cases y hy) hm⟩
theorem find_nil (hw : H.wait = []) (c : Int) (t : Bool) : findW c t (newH H n buf s).wait = none := by
  rw [show (newH H n buf s).wait = H.wait from rfl, hw]; rfl
theorem whos_nil (hw : H.wait = []) (a : Int) : (whos (newH H n buf s)).any (eqI a) = false := by
  rw [show whos (newH H n buf s) = [] by simp [whos, newH, hw]]; rfl
theorem can_at (hw : H.wait = []) (t : Bool) (v : Nat) : canC (newH H n buf s) ⟨t, nextC H, v⟩ = (roomC ⟨n, buf, s⟩ t || s) := by
  have hc := can_new (H := H) (W := H.wait) (size := n) (buf := buf) (shut := s) (send := t) (v := v)
  rw [show (newH H n buf s) = { newH H n buf s with wait := H.wait } from rfl, hc, hw]
  simp [findW]
theorem next_at : (nextC H - 1).toNat = H.list.length := by unfold nextC; omega
theorem put_one (hw : H.wait = []) (hb : buf.length < n) : doC (newH H n buf false) 1 [⟨true, nextC H, v⟩] 0 false = (newH H n (buf ++ [v]) false, ⟨0, 0, true, [], 0⟩) := by
  have hk := known_new (H := H) (W := H.wait) (size := n) (buf := buf) (shut := false) (send := true) (v := v)
  have hc : canC (newH H n buf false) ⟨true, nextC H, v⟩ = true := by rw [can_at hw]; simp [roomC]; omega
  rw [doC_at (pick := 0) (H := newH H n buf false) (pn := 0) (j := 0) (x := ⟨true, nextC H, v⟩) (a := 0) (r := []) rfl (whos_nil hw 1) hk (by rw [ready_one, hc]; rfl) rfl rfl]
  have hs : shutOf (newH H n buf false) (nextC H) = false := by unfold shutOf; rw [next_at, newH_at]
  have hr : sendC (newH H n buf false) ⟨true, nextC H, v⟩ = (newH H n (buf ++ [v]) false, []) := by
    unfold sendC
    simp only [find_nil hw]
    rw [next_at, newH_at]
    simp only [newH_set]
  simp only [Bool.true_eq_false, if_false, hs, Bool.false_eq_true, hr]
  rfl
theorem put_full (hw : H.wait = []) (hb : n ≤ buf.length) : doC (newH H n buf false) 1 [⟨true, nextC H, v⟩] 0 false = (newH H n buf false, bad 22) := by
  have hk := known_new (H := H) (W := H.wait) (size := n) (buf := buf) (shut := false) (send := true) (v := v)
  have hc : canC (newH H n buf false) ⟨true, nextC H, v⟩ = false := by rw [can_at hw]; simp [roomC]; omega
  rw [doC_wait (H := newH H n buf false) (by omega) (whos_nil hw 1) hk (by rw [ready_one, hc]; rfl)]
  rfl
theorem get_one (hw : H.wait = []) : doC (newH H n (x :: r) s) 2 [⟨false, nextC H, 0⟩] 0 false = (newH H n r s, ⟨0, x, true, [], 0⟩) := by
  have hk := known_new (H := H) (W := H.wait) (size := n) (buf := x :: r) (shut := s) (send := false) (v := 0)
  have hc : canC (newH H n (x :: r) s) ⟨false, nextC H, 0⟩ = true := by rw [can_at hw]; simp [roomC]
  rw [doC_at (pick := 0) (H := newH H n (x :: r) s) (pn := 0) (j := 0) (x := ⟨false, nextC H, 0⟩) (a := 0) (r := []) rfl (whos_nil hw 2) hk (by rw [ready_one, hc]; rfl) rfl rfl]
  have hr : recvC (newH H n (x :: r) s) (nextC H) = (newH H n r s, x, true, []) := by
    unfold recvC
    rw [next_at, newH_at]
    simp only [find_nil hw, newH_set]
  simp only [if_true, hr]
  rfl
theorem get_none (hw : H.wait = []) : doC (newH H n [] true) 2 [⟨false, nextC H, 0⟩] 0 false = (newH H n [] true, ⟨0, 0, false, [], 0⟩) := by
  have hk := known_new (H := H) (W := H.wait) (size := n) (buf := []) (shut := true) (send := false) (v := 0)
  have hc : canC (newH H n [] true) ⟨false, nextC H, 0⟩ = true := by rw [can_at hw]; simp
  rw [doC_at (pick := 0) (H := newH H n [] true) (pn := 0) (j := 0) (x := ⟨false, nextC H, 0⟩) (a := 0) (r := []) rfl (whos_nil hw 2) hk (by rw [ready_one, hc]; rfl) rfl rfl]
  have hr : recvC (newH H n [] true) (nextC H) = (newH H n [] true, 0, false, []) := by
    unfold recvC
    rw [next_at, newH_at]
    simp only [find_nil hw]
  simp only [if_true, hr]
  rfl
theorem put_shut (hw : H.wait = []) : doC (newH H n buf true) 1 [⟨true, nextC H, v⟩] 0 false = (newH H n buf true, ⟨0, 0, false, [], 21⟩) := by
  have hk := known_new (H := H) (W := H.wait) (size := n) (buf := buf) (shut := true) (send := true) (v := v)
  have hc : canC (newH H n buf true) ⟨true, nextC H, v⟩ = true := by rw [can_at hw]; simp
  rw [doC_at (pick := 0) (H := newH H n buf true) (pn := 0) (j := 0) (x := ⟨true, nextC H, v⟩) (a := 0) (r := []) rfl (whos_nil hw 1) hk (by rw [ready_one, hc]; rfl) rfl rfl]
  have hs : shutOf (newH H n buf true) (nextC H) = true := by unfold shutOf; rw [next_at, newH_at]
  simp only [Bool.true_eq_false, if_false, hs, if_true]
  rfl
theorem shut_new (hw : H.wait = []) : shutC (newH H n buf false) (nextC H) = (newH H n buf true, [], 0) := by
  unfold shutC
  rw [if_neg (by unfold nextC; omega), if_neg (by unfold nextC; simp only [newH, List.length_append, List.length_singleton]; omega), next_at, newH_at]
  simp only [Bool.false_eq_true, if_false]
  have h1 : (newH H n buf false).list.set H.list.length ⟨n, buf, true⟩ = (newH H n buf true).list := by simp [newH]
  rw [h1, show (newH H n buf false).wait = [] from hw]
  simp [leave, told, newH, hw]
/-- Which case is picked. -/
theorem pick_at {who : Int} {cases : List CaseC} {pn : Nat} {a : Int} {l : List Int} (htw : (whos H).any (eqI who) = false) (hk : knownC H.list.length cases = true) (hrc : readyC H cases = a :: l) :
    ∃ d, (doC H who cases (pn : Int) false).2 = d ∧ d.at_ = (a :: l).getD (pn % (l.length + 1)) 0 ∧ (d.e = 0 ∨ d.e = 21) := by
  obtain ⟨j, y, h1, hx, hcan⟩ := ready_sub hrc pn
  rw [doC_at rfl htw hk hrc h1 hx]
  refine ⟨_, rfl, ?_, ?_⟩
  · rw [h1]
    split
    · rfl
    · split <;> rfl
  · split
    · exact .inl rfl
    · split
      · exact .inr rfl
      · exact .inl rfl
end
end Go.Proofs.Ytclllnoohoonoaa
