/-
  Plain laws for HeapNames; Used of the reference's heap as a quiet call.
-/
import Derived.Test.YteigopmdhhgnfaaHLaw
namespace Go.Proofs.Yteigopmdhhgnfaa
open Go.RowKit
set_option linter.unusedVariables false
set_option linter.unusedSimpArgs false

theorem names_known (S : List ObjD) : knownO S (nmI S) = true := knownO_iff.2 fun r hr => by
  unfold nmI at hr
  obtain ⟨o, ho, he⟩ := List.mem_map.1 hr
  exact .inr (findO_isSome.2 ⟨o, ho, he⟩)
theorem nmI_mem {S : List ObjD} {v : Int} : v ∈ nmI S ↔ (findO S v).isSome = true := by
  unfold nmI
  rw [List.mem_map, findO_isSome]
theorem live_all (S : List ObjD) : liveO S (nmI S) = S := by
  unfold liveO
  refine List.filter_eq_self.2 fun o ho => rchB_iff.2 (.root o.name ?_ (findO_isSome.2 ⟨o, ho, rfl⟩))
  unfold nmI
  exact List.mem_map.2 ⟨o, ho, rfl⟩
theorem alloc_all {S : List ObjD} {bud : Nat} {refs : List Bool} (hr : refs.length ≤ 1000) :
    (bud < usedO S + (1 + refs.length) → allocV S bud refs (nmI S) = (0, 20)) ∧ (¬ bud < usedO S + (1 + refs.length) → allocV S bud refs (nmI S) = (((gapS S + 1 : Nat) : Int), 0) ∧ allocT S bud refs (nmI S) = allocO S refs) := by
  have hin : allocIn S bud refs (nmI S) = S := by
    unfold allocIn
    rw [live_all]
    split <;> rfl
  constructor
  · intro h
    exact (allocE_full (by omega) (names_known S) (by rw [hin]; exact h)).1
  · intro h
    have := allocE_ok (S := S) (bud := bud) (refs := refs) (roots := nmI S) (by omega) (names_known S) (by rw [hin]; exact h)
    rw [hin] at this
    exact this
theorem alloc_get {S : List ObjD} (hg : GoodO S) {refs : List Bool} {i : Nat} (hi : i < refs.length) : getV (allocO S refs) ((gapS S + 1 : Nat) : Int) (i : Int) = (0, refs.getD i false, 0) := by
  have hf : findO (allocO S refs) ((gapS S + 1 : Nat) : Int) = some (newX S refs) := by rw [alloc_find hg.sorted hg.pos, if_pos rfl]
  rw [getV_in hf ⟨by omega, by simp only [newX, List.length_replicate]; omega⟩]
  simp only [newX, Int.toNat_natCast]
  congr 1
  rw [List.getD_eq_getElem?_getD, List.getElem?_replicate, if_pos hi]
  rfl
theorem alloc_unreached {S : List ObjD} (hg : GoodO S) (refs : List Bool) : ((gapS S + 1 : Nat) : Int) ∉ reachL (allocO S refs) (nmI S) := by
  intro h
  obtain ⟨o, ho, he, hr⟩ := mem_reach.1 h
  have hn : o.name = gapS S + 1 := by omega
  have hfree := gapS_free hg.sorted hg.pos
  have key := hr.least (K := fun x => x ≠ gapS S + 1) (fun x hx hs => ?_) fun x y ob hx hob hy hs => ?_
  · exact key hn
  · rintro rfl
    have := nmI_mem.1 hx
    rw [hfree] at this
    cases this
  · rw [alloc_find hg.sorted hg.pos, if_neg (by omega)] at hob
    rintro rfl
    rcases hg.closed ob (findO_mem hob).1 _ hy with h0 | h0
    · omega
    · rw [hfree] at h0
      cases h0
theorem alloc_known {S : List ObjD} (hg : GoodO S) (refs : List Bool) : knownO (allocO S refs) (nmI S) = true := knownO_iff.2 fun r hr => by
  have := nmI_mem.1 hr
  obtain ⟨o, ho, he⟩ := findO_isSome.1 this
  exact .inr (findO_isSome.2 ⟨o, alloc_mem.2 (.inr ho), he⟩)
theorem alloc_len (S : List ObjD) (refs : List Bool) : (allocO S refs).length = S.length + 1 := by
  unfold allocO
  have := gapS_le S
  rw [List.length_append, List.length_cons, List.length_take, List.length_drop]
  omega
set_option maxRecDepth 100000 in
set_option maxHeartbeats 1000000 in
theorem rused_q (F : Nat → Prop) (w : World) (q : Nat) (A : Option Addr) (c : Nat) (S : List ObjD) (bud : Nat) (h : RhI F w q A c S bud) :
    Calls Try.prog 21 #[.pointer (some ⟨q, 0, none⟩)] w fun e w' => e = .returned (.int .i64 ((usedO S : Nat) : Int)) ∧ w' = w := by
  have x0 : w.cell? ⟨q, 0, none⟩ = some (.slice A S.length c) := by simpa using h.blk.cell 0
  have hS := Nat.le_trans (len_le_used S) (Nat.le_trans h.room.1 h.room.2)
  obtain ⟨R, hR⟩ : ∃ R, usedO S = R := ⟨_, rfl⟩
  rw [hR]
  have HH := Lib.hid (And.intro h.objs (And.intro hR (Nat.le_trans h.room.1 h.room.2)))
  clear h hR
  go_enter Try.func21, Try.ntmps21
  go_wp2_with fail
  go_loopw [3, 4] (fun vn i wr => ∃ k u : Nat, k ≤ S.length ∧ i = .int .i64 k ∧ vn = .int .i64 (u : Int) ∧ u = usedO (S.take k) ∧ wr = w) (fun _ i _ => S.length - (intOf i).toNat)
  case atStart => exact ⟨0, 0, Nat.zero_le _, rfl, rfl, by simp [usedO], rfl⟩
  case round =>
    obtain ⟨k, u, hk, rfl, rfl, hu, rfl⟩ := hrel
    have hub : u ≤ 65536 := by have h1 := used_take S k; have h2 := HH.out.2.2; omega
    have q3 : IntKind.i64.wrap ((k : Int) + 1) = (k : Int) + 1 := IntWalk.i64_in _ ⟨by omega, by omega⟩
    by_cases hlt : k < S.length
    · have q1 : decide (k < S.length) = true := decide_eq_true hlt
      have q2 : (k : Int) < (S.length : Int) := by omega
      obtain ⟨b, o, A1, c1, A2, c2, rfl, hko, _, _, z1, _⟩ := HH.out.1.at_ hlt
      have hsn := used_snoc hko
      have hle := used_take S (k + 1)
      have hl := HH.out.2.2
      have q4 : IntKind.i64.wrap ((u : Int) + 1) = (u : Int) + 1 := IntWalk.i64_in _ ⟨by omega, by omega⟩
      have q5 : IntKind.i64.wrap ((u : Int) + 1 + (o.cells.length : Int)) = (u : Int) + 1 + (o.cells.length : Int) := IntWalk.i64_in _ ⟨by omega, by omega⟩
      have HN := Lib.hid (show u + 1 + o.cells.length = usedO (S.take (k + 1)) by rw [hsn, ← hu])
      clear hu hub hko hsn hle hl
      go_wp2_with fail
      go_roundw
      case rel => exact ⟨k + 1, u + 1 + o.cells.length, hlt, by simp, by simp, HN.out, by first | rfl | trivial⟩
      case measure => simp [intOf]; omega
    · have q1 : decide (k < S.length) = false := decide_eq_false hlt
      obtain rfl : k = S.length := by omega
      have HF := Lib.hid (show u = R by rw [hu, List.take_length]; exact HH.out.2.1)
      clear hu hub
      go_wp2_with fail
      go_ret
      exact ⟨by rw [← HF.out]; rfl, rfl⟩
end Go.Proofs.Yteigopmdhhgnfaa
