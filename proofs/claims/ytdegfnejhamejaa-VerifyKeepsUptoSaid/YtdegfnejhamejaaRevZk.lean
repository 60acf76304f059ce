/-
  slices.Reverse over a row of ints of our own.
-/
import Derived.Test.YtdegfnejhamejaaFlowNZk
import Derived.Shelf.RegionOpenPlain
import Derived.Deep.LoopGhost
import Derived.Lib.Walk
import Derived.Sort.WalkB12
import Derived.Lib.SlicesMore
import Derived.Sort.OwnSortedInts
namespace Go.Proofs.Ytdegfnejhamejaa
open Go.RowKit
set_option linter.unusedVariables false
set_option linter.unusedSimpArgs false

theorem flat_ones {α β : Type} (g : α → β) (l : List α) : (l.map fun x => [g x]).flatten = l.map g := by induction l <;> simp_all
theorem rowV {D c : Nat} {w : World} {A : Option Addr} {l : List Int} : RowR D 3 1 IntV w A c l ↔ w.ownsRow D 3 1 (.slice A l.length c) l.length (l.map (Value.int .i64)) ∧ ∀ x ∈ l, I64 x := by
  constructor
  · rintro ⟨xss, h1, h2, h3, h4⟩
    have hv : ∀ k (k3 : k < l.length), xss[k]'(by omega) = [Value.int .i64 l[k]] ∧ I64 l[k] := fun k k3 => h4 k l[k] (xss[k]'(by omega)) (List.getElem?_eq_getElem k3) (List.getElem?_eq_getElem (by omega))
    have : xss = l.map fun x : Int => [Value.int .i64 x] := by
      apply List.ext_getElem (by simpa using h2)
      intro k k1 k2
      have k3 : k < l.length := by simpa using k2
      rw [(hv k k3).1]
      simp
    rw [this, flat_ones] at h1
    refine ⟨h1, fun x hx => ?_⟩
    obtain ⟨k, k3, rfl⟩ := List.getElem_of_mem hx
    exact (hv k k3).2
  · rintro ⟨h, hx⟩
    refine ⟨l.map fun x : Int => [Value.int .i64 x], by rw [flat_ones]; exact h, by simp, fun cs hcs => ?_, fun k x cs hk hcs => ?_⟩
    · obtain ⟨x, _, rfl⟩ := List.mem_map.1 hcs
      rfl
    · rw [List.getElem?_map, hk] at hcs
      simp at hcs
      exact ⟨hcs.symm, hx x (List.mem_of_getElem? hk)⟩
theorem grow_nil (w : World) : Go.Sort.grow w #[] = w := by
  unfold Go.Sort.grow
  simp
open Go.Sort Go.Lib in
set_option maxHeartbeats 1600000 in
set_option maxRecDepth 1000000 in
theorem vrev_arr (blk off cap : Nat) (d : Array Int) (w : World) (hH : Holds (Value.int .i64) w blk off d) (hsz : d.size ≤ 9223372036854775807) :
    Calls Try.prog 29 #[.slice (some ⟨blk, off, none⟩) d.size cap] w fun e w' => e = .returned (.tuple #[]) ∧ ∃ n, w' = putRow (Value.int .i64) (Sort.ahead w n) blk off d.reverse := by
  have mixed : Try.prog.follows .mixedOrders = true := by kernel_rfl
  go_enter Try.func29, Try.ntmps29
  go_wp2
  go_loopg [2, 3] d.size (fun k s2 s3 wr => ∃ (i jn : Nat) (jz : Int) (dk : Array Int) (n : Nat), s2 = .int .i64 i ∧ s3 = .int .i64 jz ∧ ((i : Int) < jz → jz = jn ∧ jn < d.size) ∧ (¬ (i : Int) < jz → ¬ i < jn) ∧ jn - i ≤ k ∧
    dk.size = d.size ∧ wr = putRow (Value.int .i64) (Sort.ahead w n) blk off dk ∧ reverseLoop i jn dk = reverseLoop 0 (d.size - 1) d)
  case atStart => exact ⟨0, d.size - 1, (d.size : Int) - 1, d, 0, rfl, rfl, fun h => ⟨by omega, by omega⟩, fun h => by omega, by omega, rfl, (putRow_self (Value.int .i64) w blk off d hH).symm, rfl⟩
  case round =>
    obtain ⟨i, jn, jz, dk, n, rfl, rfl, h1, h2, hk, hds, hwr, heq⟩ := hrel
    by_cases hlt : (i : Int) < jz
    · obtain ⟨rfl, hjn⟩ := h1 hlt
      have hij : i < jn := by omega
      have hHk : Holds (Value.int .i64) wr blk off dk := by rw [hwr]; exact holds_putRow (Value.int .i64) _ blk off d dk (holds_ahead (Value.int .i64) w n blk off d hH) hds
      obtain ⟨ci, fi⟩ := hHk i (by omega)
      obtain ⟨cj, fj⟩ := hHk jn (by omega)
      have A : Aside (wr = putRow (Value.int .i64) (Sort.ahead w n) blk off dk) := hwr
      clear hwr hHk hH h1 h2
      go_wp2_with fail
      go_region_o
      go_wp2
      go_roundg (jn - 1 - (i + 1))
      case measure => omega
      case rel =>
        rw [reverseLoop, if_pos hij] at heq
        exact ⟨i + 1, jn - 1, (jn : Int) - 1, swp dk i jn, n + 1, by simp, rfl, fun h => ⟨by omega, by omega⟩, fun h => by omega, Nat.le_refl _, by rw [size_swp]; exact hds,
          swap_world (Value.int .i64) (by omega) (by omega) A.out (by first | rfl | simp [getElem!_pos, show jn < dk.size by omega]) (by first | rfl | simp [getElem!_pos, show i < dk.size by omega]), heq⟩
    · have hnot := h2 hlt
      go_wp2
      go_end0
      refine ⟨rfl, n, ?_⟩
      rw [reverseLoop, if_neg hnot] at heq
      rw [← Lib.reverseLoop_reverse, ← heq]
open Go.Sort Go.Lib in
set_option maxHeartbeats 1000000 in
theorem vrev_empty (a : Option Addr) (cap : Nat) (w : World) : Calls Try.prog 29 #[.slice a 0 cap] w fun e w' => e = .returned (.tuple #[]) ∧ w' = w := by
  have mixed : Try.prog.follows .mixedOrders = true := by kernel_rfl
  go_enter Try.func29, Try.ntmps29
  go_wp2
  go_loopg [2, 3] 0 (fun _ s2 s3 wr => s2 = .int .i64 0 ∧ s3 = .int .i64 (-1) ∧ wr = w)
  case atStart => exact ⟨rfl, rfl, rfl⟩
  case round =>
    obtain ⟨rfl, rfl, rfl⟩ := hrel
    go_wp2
    go_end0
    exact ⟨rfl, rfl⟩
open Go.Sort Go.Lib in
theorem vrev_any {w : World} {D c : Nat} {A : Option Addr} {l : List Int} (H : RowR D 3 1 IntV w A c l) (hl : l.length ≤ 9223372036854775807) :
    Calls Try.prog 29 #[.slice A l.length c] w fun e w' => e = .returned (.tuple #[]) ∧ RowR D 3 1 IntV w' A c l.reverse ∧ Chg (fun b t => OwnB A l.length c b ∧ t = 3) w w' := by
  rcases Nat.eq_zero_or_pos l.length with h0 | hpos
  · obtain rfl := List.eq_nil_of_length_eq_zero h0
    refine (vrev_empty A c w).mono fun e w' h => ?_
    obtain ⟨rfl, rfl⟩ := h
    exact ⟨rfl, by simpa using H, Chg.refl _ _⟩
  · obtain ⟨⟨hl0, h2⟩, hx⟩ := rowV.1 H
    rcases h2 with ⟨_, hz⟩ | ⟨g, cap, cur, hv, hg, hb, hnc, hm, hs, ht⟩
    · omega
    · injection hv with hA _ hc
      subst hA hc
      rw [Nat.mul_one] at ht
      refine (vrev_arr g 0 c l.toArray w (holds_of_blockI hb ht) (by simpa using hl)).mono fun e w' h => ?_
      obtain ⟨rfl, n, hw⟩ := h
      refine ⟨rfl, rowV.2 ⟨?_, fun x hx' => hx x (by simpa using hx')⟩, ?_⟩
      · have := ownsRow_sortedI (n := n) (os := #[]) (ts := l.reverse) (ss := l) (by simp) hg hb hnc hm hs
        rw [grow_nil] at this
        rw [hw]
        simpa using this
      · rw [hw]
        have hgr := grownBy_sortedI (w := w) (g := g) (n := n) (os := #[]) l.toArray.reverse
        rw [grow_nil] at hgr
        refine (Chg.refl _ w).grown hgr fun q o hq ho => ?_
        injection hq with hq
        subst hq
        rw [hb] at ho
        injection ho with ho
        subst ho
        exact ⟨by simp [OwnB, Value.ownBlock], rfl⟩
end Go.Proofs.Ytdegfnejhamejaa
