/-
  slices.Clone of cases and of numbers.
-/
import Derived.Test.YtclllnoohoonoaaRecv
namespace Go.Proofs.Ytclllnoohoonoaa
open Go.RowKit
set_option linter.unusedVariables false
set_option linter.unusedSimpArgs false

def CloneCRes (l : List CaseC) (w : World) (e : Ending) (w' : World) : Prop := ∃ A c, e = .returned (.slice A l.length c) ∧ CasesC w' (.slice A l.length c) l ∧ Chg (fun _ _ => False) w w'
def CloneURes (l : List Nat) (w : World) (e : Ending) (w' : World) : Prop := ∃ A c, e = .returned (.slice A l.length c) ∧ QR w' 41 (.slice A l.length c) (u64V l) ∧ (∀ b, (Value.slice A l.length c).ownBlock = some b → w.heap.size ≤ b) ∧ Chg (fun _ _ => False) w w'
theorem one_caseC (cs : List Value) (y : CaseC) (h : ∀ W, CaseV W cs y) : ∀ u ∈ cs, u.oneCell' = true := by
  obtain ⟨rfl, _⟩ := h default
  intro u hu; simp at hu; rcases hu with rfl | rfl | rfl <;> rfl
theorem casesC_own {base n c : Nat} {w' W : World} {A : Option Addr} {l : List CaseC} {xss : List (List Value)} (h : w'.ownsRow base 52 3 (.slice A n c) n xss.flatten) (hn : n = l.length) (h1 : xss.length = l.length) (h2 : ∀ cs ∈ xss, cs.length = 3)
    (h3 : ∀ (k : Nat) x cs, l[k]? = some x → xss[k]? = some cs → CaseV W cs x) : CasesC w' (.slice A n c) l := SlR.of_own (by decide) h h1 hn h2 fun k x cs a b => h3 k x cs a b
set_option maxRecDepth 100000 in
set_option maxHeartbeats 1000000 in
theorem cloneC_any (w : World) (A : Option Addr) (n c : Nat) (l : List CaseC) (hnl : n = l.length) (hl : CasesC w (.slice A n c) l) (hn : l.length ≤ 1099511627776) :
    Calls Try.prog 29 #[.slice A n c] w (CloneCRes l w) := by
  subst hnl
  obtain ⟨i0, hi0, hz0, hs0, hb0⟩ := info_parts infoCaseC
  rcases A with _ | ad
  · have h0 : l.length = 0 := by
      obtain ⟨A', c', hv, _, h⟩ := hl
      rcases Nat.eq_zero_or_pos l.length with h0 | h0
      · exact h0
      · obtain ⟨b, o, hA, _⟩ := h h0
        injection hv with hv
        rw [hA] at hv
        cases hv
    have hl0 : l = [] := List.eq_nil_of_length_eq_zero h0
    subst hl0
    have hnil : ∀ w', (binOp .eql 53 (.slice none 0 c) (.slice none 0 0)).run Try.prog w' = .ok (.bool true) w' := fun w' => Lib.run_eql_slice_nil (P := Try.prog) w' 53 52 none 0 c 0 0 Try.underlying53
    go_enter Try.func29, Try.ntmps29
    go_wp2_with fail
    go_ret
    exact ⟨none, 0, rfl, SlR.nil _ _ _ _ _ _ _, Chg.refl _ _⟩
  · have HL := Lib.hid hl
    have hnil : ∀ w', (binOp .eql 53 (.slice (some ad) l.length c) (.slice none 0 0)).run Try.prog w' = .ok (.bool false) w' := fun w' => Lib.run_eql_slice_nil (P := Try.prog) w' 53 52 (some ad) l.length c 0 0 Try.underlying53
    go_enter Try.func29, Try.ntmps29
    go_wp2_with (at_builtin; go_must (refine wpList_copy_slr rfl (.tmp 5) (.tmp 6) 53 rfl 52 i0 _ 24 Try.underlying53 hi0 hz0 hs0 hb0 rfl (by omega) (some ad) l.length c rfl (by simp) rfl hl (fun cs y h => one_caseC cs y fun _ => h) hn (by omega) ?_))
    intro A3 c3 w2 yss k1 k2 k3 k4 k5
    have HC := Lib.hid (And.intro (casesC_own k1 rfl k2 k3 k4) k5)
    clear k1 k2 k3 k4 k5 hl
    go_wp2
    go_ret
    exact ⟨A3, c3, rfl, HC.out.1, HC.out.2⟩
def u64E (_ : World) (cs : List Value) (x : Nat) : Prop := cs = [.int .u64 (x : Int)]
theorem QR.slr {w : World} {v : Value} {l : List Nat} (h : QR w 41 v (u64V l)) : SlR 0 41 1 u64E w v l := by
  rcases h with ⟨rfl, h⟩ | ⟨g, o, cap, cur, rfl, hb, h1, _, h3, h4⟩
  · have : l = [] := by simpa [u64V] using h
    subst this
    exact SlR.nil _ _ _ _ _ _ _
  · rw [u64V_len] at h1 ⊢
    refine ⟨_, _, rfl, h1, fun _ => ⟨g, o, rfl, .inr ⟨by decide, _, _, hb⟩, hb.lt, fun k x hx => ⟨[.int .u64 (x : Int)], rfl, rfl, fun j u hu => ?_⟩⟩⟩
    match j, hu with
    | 0, hu =>
      simp at hu
      subst hu
      rw [hb.cell, show o + k * 1 + 0 = o + k by omega]
      exact h4 k _ (by simp [u64V, hx])
    | j + 1, hu => simp at hu
theorem QR.of_own {w : World} {base n c : Nat} {e : TypeId} {A : Option Addr} {xs : List Value} (h : w.ownsRow base e 1 (.slice A n c) n xs) : QR w e (.slice A n c) xs ∧ ∀ b, (Value.slice A n c).ownBlock = some b → base ≤ b := by
  obtain ⟨h1, h2⟩ := h
  rcases h2 with ⟨hv, h0⟩ | ⟨g, cap, cur, hv, hg, hh, hnc, hm, hs, ht⟩
  · rw [hv]
    have : xs = [] := List.eq_nil_of_length_eq_zero (by omega)
    exact ⟨.inl ⟨rfl, this⟩, fun b hb => by simp [Value.ownBlock] at hb⟩
  · rw [hv]
    have hx : xs.length = n := by omega
    subst hx
    refine ⟨.inr ⟨g, 0, cap, cur, rfl, hh, hnc, hm, by omega, fun i u hu => ?_⟩, fun b hb => ?_⟩
    · rw [← ht, List.getElem?_take] at hu
      split at hu
      · simpa using hu
      · cases hu
    · have : g = b := by simpa [Value.ownBlock] using hb
      subst this
      exact hg
theorem u64_rows : ∀ {l : List Nat} {xss : List (List Value)} (_ : xss.length = l.length) (_ : ∀ (k : Nat) x cs, l[k]? = some x → xss[k]? = some cs → cs = [Value.int .u64 (x : Int)]), xss.flatten = u64V l
  | [], [], _, _ => rfl
  | x :: l, cs :: xss, h, h2 => by
    have h0 := h2 0 x cs rfl rfl
    subst h0
    rw [List.flatten_cons, u64_rows (l := l) (xss := xss) (by simpa using h) fun k y ds a b => h2 (k + 1) y ds (by simpa using a) (by simpa using b)]
    rfl
  | [], _ :: _, h, _ => by simp at h
  | _ :: _, [], h, _ => by simp at h
set_option maxRecDepth 100000 in
set_option maxHeartbeats 1000000 in
theorem cloneU_any (w : World) (A : Option Addr) (n c : Nat) (l : List Nat) (hnl : n = l.length) (hl : QR w 41 (.slice A n c) (u64V l)) (hn : l.length ≤ 1099511627776) :
    Calls Try.prog 27 #[.slice A n c] w (CloneURes l w) := by
  subst hnl
  obtain ⟨i0, hi0, hz0, hs0, hb0⟩ := info_parts infoU64
  rcases A with _ | ad
  · have hl0 : l = [] := by
      rcases hl with ⟨_, h⟩ | ⟨g, o, cap, cur, hv, _⟩
      · simpa [u64V] using h
      · cases hv
    subst hl0
    have hnil : ∀ w', (binOp .eql 34 (.slice none 0 c) (.slice none 0 0)).run Try.prog w' = .ok (.bool true) w' := fun w' => Lib.run_eql_slice_nil (P := Try.prog) w' 34 41 none 0 c 0 0 Try.underlying34
    go_enter Try.func27, Try.ntmps27
    go_wp2_with fail
    go_ret
    exact ⟨none, 0, rfl, QR.nil _ _, fun b hb => by simp [Value.ownBlock] at hb, Chg.refl _ _⟩
  · have hsl := hl.slr
    clear hl
    have hnil : ∀ w', (binOp .eql 34 (.slice (some ad) l.length c) (.slice none 0 0)).run Try.prog w' = .ok (.bool false) w' := fun w' => Lib.run_eql_slice_nil (P := Try.prog) w' 34 41 (some ad) l.length c 0 0 Try.underlying34
    go_enter Try.func27, Try.ntmps27
    go_wp2_with (at_builtin; go_must (refine wpList_copy_slr rfl (.tmp 5) (.tmp 6) 34 rfl 41 i0 _ 8 Try.underlying34 hi0 hz0 hs0 hb0 rfl (by omega) (some ad) l.length c rfl (by simp) rfl hsl (fun cs y h => by rw [h]; intro u hu; simp at hu; subst hu; rfl) hn (by omega) ?_))
    intro A3 c3 w2 yss k1 k2 k3 k4 k5
    rw [u64_rows k2 fun k x cs a b => k4 k x cs a b] at k1
    obtain ⟨q1, q2⟩ := QR.of_own k1
    have HC := Lib.hid (And.intro q1 (And.intro q2 k5))
    clear k1 k2 k3 k4 k5 q1 q2 hsl
    go_wp2
    go_ret
    exact ⟨A3, c3, rfl, HC.out.1, HC.out.2.1, HC.out.2.2⟩
end Go.Proofs.Ytclllnoohoonoaa
