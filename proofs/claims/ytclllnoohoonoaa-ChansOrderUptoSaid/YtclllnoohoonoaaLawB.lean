/-
  The cases of the reference made cases of the program (cases).
-/
import Derived.Test.YtclllnoohoonoaaLawA
namespace Go.Proofs.Ytclllnoohoonoaa
open Go.RowKit
set_option linter.unusedVariables false
set_option linter.unusedSimpArgs false

def casRel (w : World) (l : List CaseC) (v i : Value) (wr : World) : Prop :=
  ∃ (k : Nat) (row : List CaseC) (A : Option Addr) (c : Nat), k ≤ l.length ∧ v = .slice A row.length c ∧ i = .int .i64 k ∧ row = l.take k ∧ RowR w.heap.size 52 3 CaseV wr A c row ∧ Chg (fun _ _ => False) w wr
theorem cas_push {w wr W w6 : World} {row : List CaseC} {A2 A6 : Option Addr} {c2 c6 : Nat} {xss : List (List Value)} {x : CaseC} (hch : Chg (fun _ _ => False) w wr) (hc : Chg (fun _ _ => False) wr W) (h2 : xss.length = row.length) (h3 : ∀ cs ∈ xss, cs.length = 3) (h4 : ∀ (k : Nat) x cs, row[k]? = some x → xss[k]? = some cs → CaseV wr cs x)
    (how : wr.ownsRow w.heap.size 52 3 (.slice A2 row.length c2) row.length xss.flatten) (hown6 : w6.ownsRow w.heap.size 52 3 (.slice A6 (row.length + 1) c6) (row.length + 1) (xss.flatten ++ [.bool x.send, .int .i64 x.chan, .int .u64 x.val])) (hg : W.grownBy w6 (Value.slice A2 row.length c2).ownBlock) (hi : I64 x.chan) (hu : U64 x.val) :
    RowR w.heap.size 52 3 CaseV w6 A6 c6 (row ++ [x]) ∧ Chg (fun _ _ => False) w w6 := by
  refine ⟨RowR.snoc (w := wr) h2 h3 h4 (fun _ _ h => h) hown6 rfl ⟨rfl, hi, hu⟩, ?_⟩
  have h5 := own_chg (hc.own how fun _ _ => id) hg
  refine (hch.trans hc).trans_le h5 fun b t hb h => ?_
  have := (own_blk (hc.own how fun _ _ => id) h.1).1
  omega
set_option maxRecDepth 100000 in
set_option maxHeartbeats 4000000 in
theorem cases_any (w : World) (B : Nat) (A1 : Option Addr) (c1 : Nat) (l : List CaseC) (hl : CasesX B w (.slice A1 l.length c1) l) (hn : l.length ≤ 1099511627776) : Calls Try.prog 24 #[.slice A1 l.length c1] w (CloneCRes l w) := by
  obtain ⟨i0, hi0, hz0, hs0, hb0⟩ := info_parts infoCaseC
  have HH := Lib.hid hl
  clear hl
  go_enter Try.func24, Try.ntmps24
  go_wp2_with fail
  go_loopw [3, 4] (fun v i wr => casRel w l v i wr) (fun _ i _ => l.length - (intOf i).toNat)
  case atStart => exact ⟨0, [], none, 0, Nat.zero_le _, rfl, rfl, rfl, RowR.nil _ _ _ _ _, Chg.refl _ _⟩
  case round =>
    obtain ⟨k, row, A2, c2, hkl, rfl, rfl, hrow, hown, hch⟩ := hrel
    have hrl : row.length ≤ l.length := by rw [hrow]; exact List.length_take_le' _ _
    obtain ⟨wo, rfl⟩ : ∃ wo : World, wo = wr := ⟨_, rfl⟩
    by_cases hlt : k < l.length
    · obtain ⟨b, o, x, rfl, hkx, hxi, hxu, z0, z1, z2⟩ := (HH.out.keep hch (fun _ _ _ => id) fun _ => id).at_ hlt
      obtain ⟨xss, how, h2, h3, h4⟩ := hown
      have hk0 : (0 : Int) ≤ (k : Int) := by omega
      have hk1 : (k : Int) < (l.length : Int) := by omega
      have hsz := hch.size
      obtain ⟨send, chan, val⟩ := x
      simp only at z0 z1 z2 hxi hxu
      have HR := Lib.hid (And.intro hkx (And.intro hrow (And.intro hch (And.intro how (And.intro h2 (And.intro h3 (And.intro h4 (And.intro hxi hxu))))))))
      have a0 := fun o' => (chg_alloc wo o').cell z0 fun _ => id
      have a1 := fun o' => (chg_alloc wo o').cell z1 fun _ => id
      have a2 := fun o' => (chg_alloc wo o').cell z2 fun _ => id
      clear hkx hrow hch how h2 h3 h4 hxi hxu
      go_wp2_with fail
      go_region_held3 (fun w' => w'.cell? ⟨b, o + k * 3, none⟩ = some (.bool send) ∧ w'.cell? ⟨b, o + k * 3 + 1, none⟩ = some (.int .i64 chan) ∧ w'.cell? ⟨b, o + k * 3 + 2, none⟩ = some (.int .u64 val)) (first | exact ⟨z0, z1, z2⟩ | exact ⟨a0 _, a1 _, a2 _⟩ | exact ⟨g0, g1, g2⟩) (
        first
          | (refine step_append_blk _ rfl (.tmp 11) (.tmp 28) 53 rfl w.heap.size 52 i0 _ 3 24 Try.underlying53 hi0 hz0 hs0 hb0 rfl (by omega) A2 row.length c2 xss.flatten (by rfl) (HR.out.2.2.2.1.alloc _) 1 1 [.bool send, .int .i64 chan, .int .u64 val] _ (by rfl) (Blk.new _ _ _) rfl (by intro u hu; simp at hu; rcases hu with rfl | rfl | rfl <;> rfl) (by unfold maxLen; omega) (by omega) (by simp; omega) ?_
             intro A6 c6 w6 hown6 hg6 hp6
             obtain ⟨hr6, hc6⟩ := cas_push (x := ⟨send, chan, val⟩) HR.out.2.2.1 (chg_alloc wo _).drew HR.out.2.2.2.2.1 HR.out.2.2.2.2.2.1 HR.out.2.2.2.2.2.2.1 HR.out.2.2.2.1 hown6 hg6 HR.out.2.2.2.2.2.2.2.1 HR.out.2.2.2.2.2.2.2.2
             obtain ⟨b', o', x', hA', hx', _, _, g0, g1, g2⟩ := (HH.out.keep hc6 (fun _ _ _ => id) fun _ => id).at_ hlt
             obtain rfl : x' = ⟨send, chan, val⟩ := by have := HR.out.1; rw [this] at hx'; injection hx' with h; exact h.symm
             injection hA' with hA'
             injection hA' with hA1 hA2
             subst hA1 hA2
             simp only at g0 g1 g2
             clear hx'
             have HP := Lib.hid (And.intro hr6 hc6)
             clear hown6 hg6 hp6 hr6 hc6))
      go_wp2_with fail
      go_roundw
      case rel => exact ⟨k + 1, row ++ [⟨send, chan, val⟩], A6, c6, hlt, by simp, by simp, by rw [HR.out.2.1]; obtain ⟨h3, h4⟩ := List.getElem?_eq_some_iff.1 HR.out.1; rw [List.take_succ_eq_append_getElem h3, h4], HP.out.1, HP.out.2⟩
      case measure => simp [intOf]; omega
    · obtain rfl : k = l.length := by omega
      rw [List.take_length] at hrow
      subst hrow
      have HR := Lib.hid (And.intro hown hch)
      clear hown hch
      go_wp2_with fail
      go_ret
      exact ⟨A2, c2, rfl, HR.out.1.slr (by decide) 0, HR.out.2⟩
end Go.Proofs.Ytclllnoohoonoaa
