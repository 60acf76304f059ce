/-
  The walk of the statement ChansActs.
-/
import Derived.Test.YtclllnoohoonoaaCopy
namespace Go.Proofs.Ytclllnoohoonoaa
open Go.RowKit
set_option linter.unusedVariables false
set_option linter.unusedSimpArgs false

theorem Two.copy {base p p' q : Nat} {w w' : World} {H1 H2 : HubD} {G' : Nat → Prop} (h : Two base w p q H1 H2) (hR : HubR G' w' p' H1) (hG : ∀ b, G' b → w.heap.size ≤ b) (hc : Chg (fun _ _ => False) w w') (hs : base ≤ w.heap.size) : Two base w' p' q H1 H2 := by
  obtain ⟨G, F, h1, h2, h3, h4, h5⟩ := h
  exact ⟨G', F, hR, h2.keep hc (fun _ _ _ => id) fun _ => id, fun b hg hf => by have := hG b hg; have := h2.lt hf; omega, fun b hg => Nat.le_trans hs (hG b hg), h5⟩
def caRel (base q : Nat) (w : World) (l : List ActD) (v i : Value) (wr : World) : Prop := ∃ k p : Nat, k ≤ l.length ∧ v = .pointer (some ⟨p, 0, none⟩) ∧ i = .int .i64 k ∧ Two base wr p q (grownC (l.take k)) (grownC (l.take k)) ∧ Chg (ML base) w wr
set_option maxRecDepth 100000 in
set_option maxHeartbeats 4000000 in
theorem chansActs_walk (w : World) (A : Option Addr) (c : Nat) (l : List ActD) (hl : ActsA w.heap.size w (.slice A l.length c) l) (hn : l.length ≤ 1099511627776 - 1) (hm : ∀ a ∈ l, a.cases.length ≤ 1099511627776) :
    Calls Try.prog 6 #[.slice A l.length c] w fun e w' => e = .returned (.bool true) ∧ Below w.heap.size w w' := by
  have HH := Lib.hid (And.intro hl hm)
  clear hl hm
  go_enter Try.func6, Try.ntmps6
  go_wp2_with fail
  refine (new_any w).mono fun e w1 hh => ?_
  obtain ⟨p, G, rfl, hH, hG, hc⟩ := hh
  have hc2 := chg_alloc w1 (.cells #[.slice none 0 0, .slice none 0 0, .slice none 0 0, .slice none 0 0] 33)
  have h2 : Two w.heap.size (w1.alloc (.cells #[.slice none 0 0, .slice none 0 0, .slice none 0 0, .slice none 0 0] 33)) p w1.heap.size emptyH emptyH :=
    ⟨G, _, hH.keep hc2 (fun _ _ _ => id) fun _ => id, ⟨_, _, _, _, _, _, _, _, HubF.empty w1⟩, fun b hg hf => by have := hH.lt hg; rw [hf] at this; omega, hG, fun b hf => by rw [hf]; exact hc.size⟩
  have H1 := Lib.hid (And.intro h2 (hc.trans hc2))
  clear h2 hc2 hH hG hc
  go_wp2_with fail
  generalize w1.heap.size = q at H1 ⊢
  generalize w1.alloc (.cells #[.slice none 0 0, .slice none 0 0, .slice none 0 0, .slice none 0 0] 33) = w2 at H1 ⊢
  refine (hanswers_any w2).mono fun e w3 hh => ?_
  obtain ⟨rfl, hc3⟩ := hh
  have H3 := Lib.hid (And.intro (H1.out.1.same hc3) (H1.out.2.trans hc3))
  clear hc3
  go_wp2_with fail
  go_loopw [3, 5] (fun v i wr => caRel w.heap.size q w l v i wr) (fun _ i _ => l.length - (intOf i).toNat)
  case atStart => exact ⟨0, p, Nat.zero_le _, rfl, rfl, H3.out.1, H3.out.2.no⟩
  case round =>
    obtain ⟨k, p, hkl, rfl, rfl, h2, hch⟩ := hrel
    obtain ⟨wo, rfl⟩ : ∃ wo : World, wo = wr := ⟨_, rfl⟩
    by_cases hlt : k < l.length
    · obtain ⟨b, o, a, A', c', rfl, hx, ha, z0, z1, z2, z3, z4, z5⟩ := (HH.out.1.keep hch).at_ hlt
      have hgo := grownC_good HH.out.2 k hkl
      have hgo2 := grownC_good HH.out.2 (k + 1) hlt
      rw [grownC_succ hx] at hgo2
      have hk0 : (0 : Int) ≤ (k : Int) := by omega
      have hk1 : (k : Int) < (l.length : Int) := by omega
      obtain ⟨H, hH⟩ : ∃ H, grownC (l.take k) = H := ⟨_, rfl⟩
      rw [hH] at h2 hgo hgo2
      have HE := Lib.hid hH
      clear hH
      obtain ⟨G, hG⟩ := h2.hub
      have HR := Lib.hid (And.intro h2 (And.intro hch (And.intro hx (And.intro ha (And.intro hgo (And.intro hgo2 hG))))))
      have hsz := hch.size
      clear h2 hch hx ha hgo hgo2 hG
      by_cases h6 : a.kind = 6
      · have h6' : (a.kind == 6) = true := by simpa using h6
        clear h6
        go_wp2_with fail
        refine (copy_any wo G p H HR.out.2.2.2.2.2.2 (HR.out.2.2.2.2.1.small (by omega) (Nat.le_refl _)) HR.out.2.2.2.2.1.ok).mono fun e w4 hh => ?_
        obtain ⟨p', G', rfl, hR', hG', hc4⟩ := hh
        have h24 := HR.out.1.copy hR' hG' hc4 hsz
        have y0 := hc4.cell z0 fun _ => id
        have y1 := hc4.cell z1 fun _ => id
        have y2 := hc4.cell z2 fun _ => id
        have y3 := hc4.cell z3 fun _ => id
        have y4 := hc4.cell z4 fun _ => id
        have y5 := hc4.cell z5 fun _ => id
        have H4 := Lib.hid (And.intro h24 (And.intro hc4 (Nat.le_trans hsz hc4.size)))
        clear hR' hG' hc4 h24 z0 z1 z2 z3 z4 z5
        go_wp2_with fail
        refine (act_any w4 w.heap.size p' q H H4.out.2.2 H4.out.1 (HR.out.2.2.2.2.1.small (by omega) (Nat.le_refl _)) HR.out.2.2.2.2.1.ok a A' c' (HR.out.2.2.2.1.keep H4.out.2.1.no)).mono fun e w5 hh => ?_
        obtain ⟨rfl, h5, hc5⟩ := hh
        have H5 := Lib.hid (And.intro h5 hc5)
        clear h5 hc5 y0 y1 y2 y3 y4 y5
        go_wp2_with fail
        refine (alike_any w5 w.heap.size p' q _ H5.out.1 (HR.out.2.2.2.2.2.1.small (by omega) (Nat.le_refl _)) HR.out.2.2.2.2.2.1.ok).mono fun e w6 hh => ?_
        obtain ⟨rfl, hc6⟩ := hh
        have H6 := Lib.hid hc6
        clear hc6
        go_wp2_with fail
        go_roundw
        case rel => exact ⟨k + 1, p', hlt, rfl, by simp, by rw [grownC_succ HR.out.2.2.1, HE.out]; exact H5.out.1.same H6.out, ((HR.out.2.1.trans H4.out.2.1.no).trans H5.out.2).trans H6.out.no⟩
        case measure => simp [intOf]; omega
      · have h6' : (a.kind == 6) = false := by simpa using h6
        clear h6
        go_wp2_with fail
        refine (act_any wo w.heap.size p q H hsz HR.out.1 (HR.out.2.2.2.2.1.small (by omega) (Nat.le_refl _)) HR.out.2.2.2.2.1.ok a A' c' HR.out.2.2.2.1).mono fun e w5 hh => ?_
        obtain ⟨rfl, h5, hc5⟩ := hh
        have H5 := Lib.hid (And.intro h5 hc5)
        clear h5 hc5 z0 z1 z2 z3 z4 z5
        go_wp2_with fail
        refine (alike_any w5 w.heap.size p q _ H5.out.1 (HR.out.2.2.2.2.2.1.small (by omega) (Nat.le_refl _)) HR.out.2.2.2.2.2.1.ok).mono fun e w6 hh => ?_
        obtain ⟨rfl, hc6⟩ := hh
        have H6 := Lib.hid hc6
        clear hc6
        go_wp2_with fail
        go_roundw
        case rel => exact ⟨k + 1, p, hlt, rfl, by simp, by rw [grownC_succ HR.out.2.2.1, HE.out]; exact H5.out.1.same H6.out, (HR.out.2.1.trans H5.out.2).trans H6.out.no⟩
        case measure => simp [intOf]; omega
    · obtain rfl : k = l.length := by omega
      have HR := Lib.hid hch
      clear h2 hch
      go_wp2_with fail
      go_ret
      exact ⟨rfl, HR.out.below (fun b t h => h.1) (Nat.le_refl _)⟩
end Go.Proofs.Ytclllnoohoonoaa
