/-
  Plain laws of heaps for the statements; how slices of the arguments are kept.
-/
import Derived.Test.YteigopmdhhgnfaaHGrown
namespace Go.Proofs.Yteigopmdhhgnfaa
open Go.RowKit
set_option linter.unusedVariables false
set_option linter.unusedSimpArgs false

theorem live_live {S : List ObjD} (h : GoodO S) (roots : List Int) : liveO (liveO S roots) roots = liveO S roots := by
  unfold liveO
  refine List.filter_eq_self.2 fun o ho => ?_
  have hm : o ∈ liveO S roots := ho
  exact rchB_iff.2 ((Rch.live h).2 (liveO_mem.1 hm).2)
theorem live_known {S : List ObjD} (h : GoodO S) {roots : List Int} (hk : knownO S roots = true) : knownO (liveO S roots) roots = true := by
  refine knownO_iff.2 fun r hr => ?_
  rcases knownO_iff.1 hk r hr with h0 | h0
  · exact .inl h0
  · obtain ⟨o, ho, he⟩ := findO_isSome.1 h0
    exact .inr (findO_isSome.2 ⟨o, liveO_mem.2 ⟨ho, .root _ (by rw [he]; exact hr) (by rw [he]; exact h0)⟩, he⟩)
theorem live_names (S : List ObjD) (roots : List Int) : (liveO S roots).map (fun o => (o.name : Int)) = reachL S roots := rfl
theorem live_len (S : List ObjD) (roots : List Int) : (liveO S roots).length ≤ S.length := List.length_filter_le _ _
theorem reach_len (S : List ObjD) (roots : List Int) : (reachL S roots).length = (liveO S roots).length := by unfold reachL; rw [List.length_map]
theorem coll_two {S : List ObjD} (h : GoodO S) {roots : List Int} (hk : knownO S roots = true) : collT S roots = liveO S roots ∧ collE S roots = (((S.length - (liveO S roots).length : Nat) : Int), 0) ∧ collT (liveO S roots) roots = liveO S roots ∧ collE (liveO S roots) roots = (0, 0) := by
  refine ⟨by unfold collT; rw [if_pos hk], by unfold collE; rw [if_pos hk], by unfold collT; rw [if_pos (live_known h hk), live_live h], ?_⟩
  unfold collE
  rw [if_pos (live_known h hk), live_live h, Nat.sub_self]
  rfl
theorem coll_none {S : List ObjD} {roots : List Int} (hk : knownO S roots = false) : collT S roots = S ∧ collE S roots = (0, 15) := by
  unfold collT collE
  rw [if_neg (by rw [hk]; decide), if_neg (by rw [hk]; decide)]
  exact ⟨rfl, rfl⟩
theorem mem_reach {S : List ObjD} {roots : List Int} {v : Int} : v ∈ reachL S roots ↔ ∃ o ∈ S, (o.name : Int) = v ∧ Rch S roots o.name := by
  unfold reachL
  rw [List.mem_map]
  constructor
  · rintro ⟨o, ho, rfl⟩
    obtain ⟨h1, h2⟩ := liveO_mem.1 ho
    exact ⟨o, h1, rfl, h2⟩
  · rintro ⟨o, h1, rfl, h2⟩
    exact ⟨o, liveO_mem.2 ⟨h1, h2⟩, rfl⟩
theorem reach_known (S : List ObjD) (roots : List Int) : knownO S (reachL S roots) = true := knownO_iff.2 fun r hr => by
  obtain ⟨o, ho, he, _⟩ := mem_reach.1 hr
  exact .inr (findO_isSome.2 ⟨o, ho, he⟩)
theorem known_append (S : List ObjD) (a b : List Int) : knownO S (a ++ b) = (knownO S a && knownO S b) := by simp [knownO, List.all_append]
/-- What is reached reaches nothing else. -/
theorem reach_reach (S : List ObjD) (roots : List Int) : reachL S (reachL S roots) = reachL S roots := by
  have h : ∀ x, Rch S (reachL S roots) x ↔ Rch S roots x := fun x => by
    constructor
    · intro h
      refine h.least (K := fun x => Rch S roots x) (fun x hx hs => ?_) fun x y o hx ho hy hs => .step x y o hx ho hy hs
      obtain ⟨o, _, he, hr⟩ := mem_reach.1 hx
      rw [show x = o.name by omega]
      exact hr
    · intro h
      obtain ⟨o, ho, he⟩ := findO_isSome.1 h.known
      have hn : o.name = x := by omega
      exact .root x (mem_reach.2 ⟨o, ho, he, by rw [hn]; exact h⟩) h.known
  unfold reachL liveO
  congr 1
  refine List.filter_congr fun o ho => ?_
  have := h o.name
  cases h1 : rchB S roots o.name with
  | true => exact rchB_iff.2 (this.2 (rchB_iff.1 h1))
  | false =>
    cases h2 : rchB S (List.map (fun o => (o.name : Int)) (List.filter (fun o => rchB S roots o.name) S)) o.name with
    | false => rfl
    | true =>
      have h3 := this.1 (rchB_iff.1 h2)
      rw [rchB_iff.2 h3] at h1
      cases h1
theorem reach_app {S : List ObjD} {a b : List Int} {v : Int} (h : v ∈ reachL S (a ++ b)) : v ∈ reachL S a ∨ v ∈ reachL S b := by
  obtain ⟨o, ho, he, hr⟩ := mem_reach.1 h
  rcases Rch.append.1 hr with h | h
  · exact .inl (mem_reach.2 ⟨o, ho, he, h⟩)
  · exact .inr (mem_reach.2 ⟨o, ho, he, h⟩)
theorem reach_l {S : List ObjD} {a b : List Int} {v : Int} (h : v ∈ reachL S a) : v ∈ reachL S (a ++ b) := by
  obtain ⟨o, ho, he, hr⟩ := mem_reach.1 h
  exact mem_reach.2 ⟨o, ho, he, Rch.append.2 (.inl hr)⟩
theorem reach_r {S : List ObjD} {a b : List Int} {v : Int} (h : v ∈ reachL S b) : v ∈ reachL S (a ++ b) := by
  obtain ⟨o, ho, he, hr⟩ := mem_reach.1 h
  exact mem_reach.2 ⟨o, ho, he, Rch.append.2 (.inr hr)⟩
theorem reach_rises {S : List ObjD} (h : GoodO S) (roots : List Int) {i j : Nat} (hij : i < j) (hj : j < (reachL S roots).length) : (reachL S roots).getD i 0 < (reachL S roots).getD j 0 := by
  have hp : (reachL S roots).Pairwise fun x y => x < y := by
    unfold reachL
    rw [List.pairwise_map]
    exact (liveO_good h roots).sorted.imp fun h => by omega
  have := List.pairwise_iff_getElem.1 hp i j (by omega) hj hij
  rw [List.getD_eq_getElem?_getD, List.getD_eq_getElem?_getD, List.getElem?_eq_getElem hj, List.getElem?_eq_getElem (by omega)]
  exact this
theorem getD_mem {l : List Int} {k : Nat} (h : k < l.length) : l.getD k 0 ∈ l := by
  rw [List.getD_eq_getElem?_getD, List.getElem?_eq_getElem h]
  exact List.getElem_mem h
set_option maxRecDepth 100000 in
/-- has, as a call that leaves the world as it was. -/
theorem has12_q (B : Nat) (w : World) (A : Option Addr) (c : Nat) (l : List Int) (n : Int) (h : SlR B 0 1 IntZ w (.slice A l.length c) l) (hn : l.length ≤ 1048576) :
    Calls Try.prog 20 #[.slice A l.length c, .int .i64 n] w fun e w' => e = .returned (.bool (decide (n ∈ l))) ∧ w' = w := by
  obtain ⟨R, hR⟩ : ∃ R, decide (n ∈ l) = R := ⟨_, rfl⟩
  rw [hR]
  have HH := Lib.hid (And.intro h hR)
  clear h hR
  go_enter Try.func20, Try.ntmps20
  go_wp2_with fail
  go_loopw [5] (fun i wr => ∃ k : Nat, k ≤ l.length ∧ i = .int .i64 (k : Int) ∧ (∀ j, j < k → l.getD j 0 ≠ n) ∧ wr = w) (fun i _ => l.length - (intOf i).toNat)
  case atStart => exact ⟨0, Nat.zero_le _, rfl, fun j hj => absurd hj (Nat.not_lt_zero _), rfl⟩
  case round =>
    obtain ⟨k, hk, rfl, hno, rfl⟩ := hrel
    have q3 : IntKind.i64.wrap ((k : Int) + 1) = (k : Int) + 1 := IntWalk.i64_in _ ⟨by omega, by omega⟩
    by_cases hlt : k < l.length
    · have q1 : decide (k < l.length) = true := decide_eq_true hlt
      have q2 : (k : Int) < (l.length : Int) := by omega
      obtain ⟨b1, o1, rfl, y0⟩ := int_at HH.out.1 hlt
      obtain ⟨v, hv⟩ : ∃ v, l.getD k 0 = v := ⟨_, rfl⟩
      rw [hv] at y0
      have hvm : v ∈ l := by rw [← hv]; exact getD_mem hlt
      by_cases he : v = n
      · have q4 : (v == n) = true := by simp [he]
        have HR := Lib.hid (show R = true by rw [← HH.out.2]; exact decide_eq_true (he ▸ hvm))
        clear hv hno hvm he
        go_wp2_with fail
        go_ret
        exact ⟨by rw [HR.out]; rfl, rfl⟩
      · have q4 : (v == n) = false := by simp [he]
        have HR := Lib.hid (show ∀ j, j < k + 1 → l.getD j 0 ≠ n from fun j hj => by
          rcases Nat.lt_or_ge j k with h1 | h1
          · exact hno j h1
          · rw [show j = k by omega, hv]; exact he)
        clear hv hno hvm he
        go_wp2_with fail
        go_roundw
        case rel => exact ⟨k + 1, hlt, by simp, HR.out, by first | rfl | trivial⟩
        case measure => simp [intOf]; omega
    · have q1 : decide (k < l.length) = false := decide_eq_false hlt
      obtain rfl : k = l.length := by omega
      have HR := Lib.hid (show R = false by
        rw [← HH.out.2]
        refine decide_eq_false fun hm => ?_
        obtain ⟨j, hj, he⟩ := List.mem_iff_getElem.1 hm
        exact hno j hj (by rw [List.getD_eq_getElem?_getD, List.getElem?_eq_getElem hj, he]; rfl))
      clear hno
      go_wp2_with fail
      go_ret
      exact ⟨by rw [HR.out]; rfl, rfl⟩
theorem slr_ml2 {α : Type} {R : World → List Value → α → Prop} {base n : Nat} {w w' : World} {v : Value} {l : List α} (h : SlR base 0 n R w v l) (hc : Chg (ML2 base) w w') (hR : ∀ cs x, R w cs x → R w' cs x) : SlR base 0 n R w' v l := SlR.keep h hc (ml2_lets base) hR
theorem below_ml2 {w w' : World} (h : Chg (ML2 w.heap.size) w w') : Below w.heap.size w w' := h.below (fun _ _ hm => hm.1) (Nat.le_refl _)
end Go.Proofs.Yteigopmdhhgnfaa
