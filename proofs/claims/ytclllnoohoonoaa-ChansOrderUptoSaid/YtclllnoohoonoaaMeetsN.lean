/-
  A new channel in plain words: nobody waits at it; what is sent and received there.
-/
import Derived.Test.YtclllnoohoonoaaActN
namespace Go.Proofs.Ytclllnoohoonoaa
set_option linter.unusedVariables false
set_option linter.unusedSimpArgs false

def newH (H : HubD) (size : Int) (buf : List Nat) (shut : Bool) : HubD := { H with list := H.list ++ [⟨size, buf, shut⟩] }
section
variable {k m : Nat} {H : HubD}
/-- The number of the channel behind all others. -/
def nextC (H : HubD) : Int := (H.list.length : Int) + 1
theorem newH_at (H : HubD) (size : Int) (buf : List Nat) (shut : Bool) : (newH H size buf shut).list[H.list.length]? = some ⟨size, buf, shut⟩ := by
  simp [newH]
theorem caseAt_far {c : Int} {s : Bool} : ∀ {l : List CaseC}, (∀ x ∈ l, x.chan ≠ c) → caseAt c s l = none
  | [], _ => rfl
  | x :: l, h => by
    unfold caseAt
    have hx := h x (by simp)
    rw [show decide (x.chan = c) = false from decide_eq_false hx]
    rw [caseAt_far fun y hy => h y (by simp [hy])]
    rfl
theorem findW_far {c : Int} {s : Bool} : ∀ {l : List WaitD}, (∀ x ∈ l, ∀ y ∈ x.cases, y.chan ≠ c) → findW c s l = none
  | [], _ => rfl
  | x :: l, h => by
    unfold findW
    rw [caseAt_far (h x (by simp)), findW_far fun y hy => h y (by simp [hy])]
    rfl
theorem findW_snoc {c : Int} {s : Bool} {x : WaitD} {i : Nat} (hx : caseAt c s x.cases = some i) : ∀ {l : List WaitD}, findW c s l = none → findW c s (l ++ [x]) = some (l.length, i)
  | [], _ => by simp [findW, hx]
  | y :: l, h => by
    unfold findW at h
    split at h
    · cases h
    · rename_i h1
      have h2 : findW c s l = none := by simpa using h
      rw [List.cons_append]
      unfold findW
      rw [h1, findW_snoc hx h2]
      rfl
theorem GoodH.far_new (h : GoodH k m H) : ∀ x ∈ H.wait, ∀ y ∈ x.cases, y.chan ≠ nextC H := by
  intro x hx y hy hc
  unfold nextC at hc
  rcases h.free x hx y hy with h0 | ⟨j, ch, h1, h2, _⟩
  · omega
  · have := (List.getElem?_eq_some_iff.1 h2).1; omega
theorem GoodH.find_new (h : GoodH k m H) (s : Bool) : findW (nextC H) s H.wait = none := findW_far h.far_new
theorem can_new {W : List WaitD} {size : Int} {buf : List Nat} {shut : Bool} {send : Bool} {v : Nat} : canC { newH H size buf shut with wait := W } ⟨send, nextC H, v⟩ = (roomC ⟨size, buf, shut⟩ send || (findW (nextC H) (!send) W).isSome || shut) :=
  canC_at (h := { newH H size buf shut with wait := W }) (x := ⟨send, nextC H, v⟩) (k := H.list.length) rfl (newH_at H size buf shut)
theorem known_new {W : List WaitD} {size : Int} {buf : List Nat} {shut : Bool} {send : Bool} {v : Nat} : knownC ({ newH H size buf shut with wait := W } : HubD).list.length [⟨send, nextC H, v⟩] = true := by
  simp [knownC, newH, nextC]
  omega
theorem ready_one {h : HubD} {x : CaseC} : readyC h [x] = if canC h x then [0] else [] := by
  unfold readyC readyFrom
  split <;> simp [readyFrom]
def heldH (H : HubD) (a : Int) (x : CaseC) : HubD := { newH H 0 [] false with wait := H.wait ++ [⟨a, [x]⟩] }
theorem make_new (H : HubD) {size : Int} (h0 : 0 ≤ size) (h1 : size ≤ 1024) : makeC H size = (newH H size [] false, nextC H, 0) := by
  unfold makeC
  rw [if_neg (by omega)]
  rfl
theorem meets_wait (h : GoodH k m H) {a : Int} {s : Bool} {v : Nat} (ha : (whos H).any (eqI a) = false) : doC (newH H 0 [] false) a [⟨s, nextC H, v⟩] 0 true = (heldH H a ⟨s, nextC H, v⟩, bad 22) := by
  have hk := known_new (H := H) (W := H.wait) (size := 0) (buf := []) (shut := false) (send := s) (v := v)
  have hc := can_new (H := H) (W := H.wait) (size := 0) (buf := []) (shut := false) (send := s) (v := v)
  rw [h.find_new] at hc
  have hc' : canC (newH H 0 [] false) ⟨s, nextC H, v⟩ = false := by
    rw [show (newH H 0 [] false) = { newH H 0 [] false with wait := H.wait } from rfl, hc]
    cases s <;> simp [roomC]
  rw [doC_wait (H := newH H 0 [] false) (by omega) ha hk (by rw [ready_one, hc']; rfl)]
  rfl
theorem whos_held {H : HubD} {a b : Int} {x : CaseC} (hab : b ≠ a) (hb : (whos H).any (eqI b) = false) : (whos (heldH H a x)).any (eqI b) = false := by
  have : whos (heldH H a x) = whos H ++ [a] := by simp [whos, heldH, newH]
  rw [this, List.any_append, hb]
  simp [eqI, hab]
theorem held_find (h : GoodH k m H) {a : Int} {s : Bool} {v : Nat} : findW (nextC H) s (heldH H a ⟨s, nextC H, v⟩).wait = some (H.wait.length, 0) :=
  findW_snoc (x := ⟨a, [⟨s, nextC H, v⟩]⟩) (by unfold caseAt; simp) (h.find_new s)
theorem held_can (h : GoodH k m H) {a : Int} {s : Bool} {v v' : Nat} : canC (heldH H a ⟨s, nextC H, v⟩) ⟨!s, nextC H, v'⟩ = true := by
  have hc := can_new (H := H) (W := (heldH H a ⟨s, nextC H, v⟩).wait) (size := 0) (buf := []) (shut := false) (send := !s) (v := v')
  rw [Bool.not_not, held_find h] at hc
  rw [show (heldH H a ⟨s, nextC H, v⟩) = { newH H 0 [] false with wait := (heldH H a ⟨s, nextC H, v⟩).wait } from rfl, hc]
  simp
theorem held_at {H : HubD} {a : Int} {x : CaseC} : (heldH H a x).wait[H.wait.length]? = some ⟨a, [x]⟩ := by simp [heldH]
theorem held_chan {H : HubD} {a : Int} {x : CaseC} : (heldH H a x).list[H.list.length]? = some ⟨0, [], false⟩ := newH_at H 0 [] false
theorem meets_get (h : GoodH k m H) {a b : Int} {v : Nat} (hab : b ≠ a) (hb : (whos H).any (eqI b) = false) : (doC (heldH H a ⟨true, nextC H, v⟩) b [⟨false, nextC H, 0⟩] 0 true).2 = ⟨0, v, true, [⟨a, 0, 0, true⟩], 0⟩ := by
  have hk := known_new (H := H) (W := (heldH H a ⟨true, nextC H, v⟩).wait) (size := 0) (buf := []) (shut := false) (send := false) (v := 0)
  have hc := held_can h (a := a) (s := true) (v := v) (v' := 0)
  rw [doC_at (pick := 0) (H := heldH H a ⟨true, nextC H, v⟩) (pn := 0) (j := 0) (x := ⟨false, nextC H, 0⟩) (a := 0) (r := []) rfl (whos_held hab hb) hk (by rw [ready_one, show (⟨false, nextC H, 0⟩ : CaseC) = ⟨!true, nextC H, 0⟩ from rfl, hc]; rfl) rfl rfl]
  simp only [if_true]
  have hr : recvC (heldH H a ⟨true, nextC H, v⟩) (nextC H) = (unwait (heldH H a ⟨true, nextC H, v⟩) H.wait.length, v, true, [⟨a, 0, 0, true⟩]) := by
    unfold recvC
    rw [show (nextC H - 1).toNat = H.list.length by unfold nextC; omega, held_chan]
    simp only [held_find h (a := a) (s := true) (v := v)]
    have h1 : valOf (heldH H a ⟨true, nextC H, v⟩) H.wait.length 0 = v := by simp [valOf, held_at]
    have h2 : srvOf (heldH H a ⟨true, nextC H, v⟩) H.wait.length 0 0 true = ⟨a, 0, 0, true⟩ := by simp [srvOf, held_at]
    rw [h1, h2]
  rw [hr]
  rfl
theorem meets_give (h : GoodH k m H) {a b : Int} {v : Nat} (hab : a ≠ b) (ha : (whos H).any (eqI a) = false) : (doC (heldH H b ⟨false, nextC H, 0⟩) a [⟨true, nextC H, v⟩] 0 true).2 = ⟨0, 0, true, [⟨b, 0, v, true⟩], 0⟩ := by
  have hk := known_new (H := H) (W := (heldH H b ⟨false, nextC H, 0⟩).wait) (size := 0) (buf := []) (shut := false) (send := true) (v := v)
  have hc := held_can h (a := b) (s := false) (v := 0) (v' := v)
  rw [doC_at (pick := 0) (H := heldH H b ⟨false, nextC H, 0⟩) (pn := 0) (j := 0) (x := ⟨true, nextC H, v⟩) (a := 0) (r := []) rfl (whos_held hab ha) hk (by rw [ready_one, show (⟨true, nextC H, v⟩ : CaseC) = ⟨!false, nextC H, v⟩ from rfl, hc]; rfl) rfl rfl]
  have hs : shutOf (heldH H b ⟨false, nextC H, 0⟩) (nextC H) = false := by
    unfold shutOf
    rw [show (nextC H - 1).toNat = H.list.length by unfold nextC; omega, held_chan]
  have hr : (sendC (heldH H b ⟨false, nextC H, 0⟩) ⟨true, nextC H, v⟩).2 = [⟨b, 0, v, true⟩] := by
    unfold sendC
    simp only [held_find h (a := b) (s := false) (v := 0)]
    have h2 : srvOf (heldH H b ⟨false, nextC H, 0⟩) H.wait.length 0 v true = ⟨b, 0, v, true⟩ := by simp [srvOf, held_at]
    rw [h2]
  simp only [Bool.true_eq_false, if_false, hs, Bool.false_eq_true, hr]
  rfl
/-! How many of some numbers are at least so great: what falls as one looks for a free one. -/
def cntI (l : List Int) (n : Int) : Nat := (l.filter fun x => decide (n ≤ x)).length
theorem cntI_mono {l : List Int} {n m : Int} (h : n ≤ m) : cntI l m ≤ cntI l n := by
  unfold cntI
  induction l with
  | nil => simp
  | cons x l ih =>
    simp only [List.filter_cons]
    by_cases h1 : m ≤ x
    · rw [if_pos (by simpa using h1), if_pos (by simp; omega)]; simp only [List.length_cons]; omega
    · rw [if_neg (by simpa using h1)]
      split
      · simp only [List.length_cons]; omega
      · exact ih
theorem cntI_lt {l : List Int} {n m : Int} (h : (l.any (eqI n)) = true) (hm : n < m) : cntI l m < cntI l n := by
  induction l with
  | nil => cases h
  | cons x l ih =>
    unfold cntI
    simp only [List.filter_cons]
    rw [List.any_cons, Bool.or_eq_true] at h
    rcases h with h | h
    · have hx : n = x := by simpa [eqI] using h
      have := cntI_mono (l := l) (Int.le_of_lt hm)
      unfold cntI at this
      rw [if_neg (by simp; omega), if_pos (by simp; omega)]
      simp only [List.length_cons]
      omega
    · have h2 := ih h
      unfold cntI at h2
      by_cases h1 : m ≤ x
      · rw [if_pos (by simpa using h1), if_pos (by simp; omega)]; simp only [List.length_cons]; omega
      · rw [if_neg (by simpa using h1)]
        split
        · simp only [List.length_cons]; omega
        · exact h2
theorem cntI_le (l : List Int) (n : Int) : cntI l n ≤ l.length := List.length_filter_le _ _
end
end Go.Proofs.Ytclllnoohoonoaa
