/-
  Reach of the reference's heap.
-/
import Derived.Test.YteigopmdhhgnfaaHrX
namespace Go.Proofs.Yteigopmdhhgnfaa
open Go.RowKit
set_option linter.unusedVariables false
set_option linter.unusedSimpArgs false

def nmI (l : List ObjD) : List Int := l.map fun o => (o.name : Int)
theorem nmI_snoc (l : List ObjD) (o : ObjD) : nmI (l ++ [o]) = nmI l ++ [(o.name : Int)] := by simp [nmI]
theorem nmI_len (l : List ObjD) : (nmI l).length = l.length := by simp [nmI]
def rrR (S : List ObjD) (p : ObjD → Bool) (D : Nat) (w : World) (v i : Value) (wr : World) : Prop :=
  ∃ (k : Nat) (A : Option Addr) (c : Nat), k ≤ S.length ∧ i = .int .i64 (k : Int) ∧ v = .slice A ((S.take k).filter p).length c ∧ RowR D 3 1 IntZ wr A c (nmI ((S.take k).filter p)) ∧ Chg (fun _ _ => False) w wr
set_option maxRecDepth 100000 in
set_option maxHeartbeats 4000000 in
theorem rreach_any (F : Nat → Prop) (B : Nat) (w : World) (q : Nat) (A : Option Addr) (c : Nat) (S : List ObjD) (bud : Nat) (roots : List Int) (RA : Option Addr) (rc : Nat) (h : RhI F w q A c S bud) (hr : SlR B 0 1 IntZ w (.slice RA roots.length rc) roots) (hl : roots.length ≤ 1048576) :
    Calls Try.prog 12 #[.pointer (some ⟨q, 0, none⟩), .slice RA roots.length rc] w fun e w' => ∃ zs A' c', e = .returned (.tuple #[.slice A' zs.length c', .int .i64 (if knownO S roots = true then 0 else 15)]) ∧ RowR w.heap.size 3 1 IntZ w' A' c' zs ∧ zs = (if knownO S roots = true then reachL S roots else []) ∧ Chg (fun _ _ => False) w w' := by
  obtain ⟨i0, hi0, hz0, hs0, hb0⟩ := info_parts infoInt
  have hS := Nat.le_trans (len_le_used S) (Nat.le_trans h.room.1 h.room.2)
  have hkn := rknown_any F B w q A c S bud roots RA rc h hr hl
  have HH := Lib.hid (And.intro h hr)
  clear h hr
  cases hk : knownO S roots with
  | false =>
    rw [hk] at hkn
    simp only [Bool.false_eq_true, if_false]
    go_enter Try.func12, Try.ntmps12
    go_wp2_with fail
    refine hkn.mono fun e w1 h => ?_
    obtain ⟨rfl, hc1⟩ := h
    have HC := Lib.hid hc1
    clear hkn hc1
    go_wp2_with fail
    go_ret2
    exact ⟨[], none, 0, rfl, RowR.nil _ _ _ _ _, rfl, HC.out⟩
  | true =>
    rw [hk] at hkn
    simp only [if_true]
    go_enter Try.func12, Try.ntmps12
    go_wp2_with fail
    refine hkn.mono fun e w1 h => ?_
    obtain ⟨rfl, hc1⟩ := h
    have hre := rreached_any F B w1 q A c S bud roots RA rc (HH.out.1.keep hc1 fun _ _ _ => id) (SlR.keep HH.out.2 hc1 (no_letsH _ _) fun _ _ h => h) hl
    have HC := Lib.hid hc1
    clear hkn hc1
    go_wp2_with fail
    refine hre.mono fun e w2 h => ?_
    obtain ⟨b, rfl, hb, hbk, hc2⟩ := h
    have hcc := HC.out.trans hc2
    have HB := Lib.hid (And.intro hb (And.intro hbk hcc))
    clear hre hb hbk hc2 hcc hk
    have hsz := HB.out.2.2.size
    go_wp2_with fail
    go_loopw [7, 8] (fun v i wr => rrR S (fun o => rchB S roots o.name) w2.heap.size w2 v i wr) (fun _ i _ => S.length - (intOf i).toNat)
    case atStart => exact ⟨0, none, 0, Nat.zero_le _, rfl, by simp, by simpa [nmI] using RowR.nil _ _ _ _ _, Chg.refl _ _⟩
    case round =>
      obtain ⟨k, LA, lc, hk, rfl, rfl, hrow, hch⟩ := hrel
      have q3 : IntKind.i64.wrap ((k : Int) + 1) = (k : Int) + 1 := IntWalk.i64_in _ ⟨by omega, by omega⟩
      have hcw := HB.out.2.2.trans hch
      have hH := HH.out.1.keep hcw fun _ _ _ => id
      have x0 : wr.cell? ⟨q, 0, none⟩ = some (.slice A S.length c) := by simpa using hH.blk.cell 0
      by_cases hlt : k < S.length
      · have q1 : decide (k < S.length) = true := decide_eq_true hlt
        have q2 : (k : Int) < (S.length : Int) := by omega
        obtain ⟨gb, o, A1, c1, A2, c2, rfl, hko, _, z0, _, _⟩ := hH.objs.at_ hlt
        have hst := filt_step hko (fun o => rchB S roots o.name)
        have y0 := on_cell (hch.blk HB.out.2.1 id) (mark_at (roots := roots) hko)
        cases hrb : rchB S roots o.name with
        | false =>
          rw [hrb] at y0
          simp only [hrb] at hst
          have HR := Lib.hid (And.intro hst (And.intro hrow hch))
          clear hst hrow hch hcw hH hko hrb
          go_wp2_with fail
          go_roundw
          case rel => exact ⟨k + 1, LA, lc, hlt, by simp, by rw [HR.out.1]; simp, by rw [HR.out.1]; simpa using HR.out.2.1, HR.out.2.2⟩
          case measure => simp [intOf]; omega
        | true =>
          rw [hrb] at y0
          simp only [hrb, if_true] at hst
          have hfl := filt_len S k (fun o => rchB S roots o.name)
          have hwz : w2.heap.size ≤ wr.heap.size := hch.size
          have HR := Lib.hid (And.intro hst (And.intro hrow (And.intro hch (And.intro hwz hfl))))
          clear hst hrow hch hcw hH hko hrb hwz hfl
          obtain ⟨Lk, hLk⟩ : ∃ L, (S.take k).filter (fun o => rchB S roots o.name) = L := ⟨_, rfl⟩
          rw [hLk] at HR
          simp only [hLk]
          go_wp2_with (at_builtin; go_must (refine wpList_push1 rfl (.tmp 29) (.tmp 38) 24 rfl w2.heap.size 3 i0 _ 1 8 Try.underlying24 hi0 hz0 hs0 hb0 rfl (by omega) IntZ LA lc (nmI Lk) (by rw [nmI_len]) (by first | rfl | simp) HR.out.2.1 1 [.int .i64 (o.name : Int)] (o.name : Int) (by first | rfl | simp) (by first | rfl | simp) rfl (by intro u hu; simp at hu; subst hu; rfl) rfl (by have := HR.out.2.2.2.2; omega) (by omega) HR.out.2.2.2.1 (fun _ _ _ _ h => h) ?_))
          intro A8 c8 w8 hr8 hc8 hp8
          have hc9 : Chg (fun _ _ => False) w2 w8 := HR.out.2.2.1.trans_new hc8 fun b t hb h => by
            have := (HR.out.2.1.own_in (g := b) (by rw [nmI_len]; exact h.1)).1
            omega
          have HW := Lib.hid (And.intro hr8 hc9)
          clear hr8 hc8 hp8 hc9
          go_wp2_with fail
          go_roundw
          case rel => exact ⟨k + 1, A8, c8, hlt, by simp, by rw [HR.out.1]; simp, by rw [HR.out.1, nmI_snoc]; exact HW.out.1, HW.out.2⟩
          case measure => simp [intOf]; omega
      · have q1 : decide (k < S.length) = false := decide_eq_false hlt
        obtain rfl : k = S.length := by omega
        rw [List.take_length] at hrow ⊢
        have HF := Lib.hid (And.intro hrow hcw)
        clear hrow hch hcw hH
        go_wp2_with fail
        go_ret2
        exact ⟨nmI (liveO S roots), LA, lc, by rw [nmI_len]; rfl, HF.out.1.rebase HB.out.2.2.size, rfl, HF.out.2⟩
end Go.Proofs.Yteigopmdhhgnfaa
