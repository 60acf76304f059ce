/-
  Collect of the reference's heap.
-/
import Derived.Test.YteigopmdhhgnfaaHrReach
namespace Go.Proofs.Yteigopmdhhgnfaa
open Go.RowKit
set_option linter.unusedVariables false
set_option linter.unusedSimpArgs false

/-- The reference's heap with another row of objects, whose rows are there. -/
theorem RhI.setRow {F : Nat → Prop} {w w' : World} {q : Nat} {A A' : Option Addr} {c c' : Nat} {S S' : List ObjD} {bud B0 : Nat} {hd : HdrT} {F0 : Nat → Prop} (h : RhI F w q A c S bud) (hc : Chg (fun _ _ => False) w w') (hrow : RowR B0 39 3 (XoR hd) w' A' c' S') (hB0 : w.heap.size ≤ B0)
    (hdat : RDat F0 w' hd S') (hF0 : ∀ b, F0 b → F b ∨ (w.heap.size ≤ b ∧ b < w'.heap.size)) (hg : GoodO S') (hroom : usedO S' ≤ bud) :
    Blk w' q 42 #[.slice A S.length c, .int .i64 (bud : Int)] ∧ RhI (fun b => F b ∨ (w.heap.size ≤ b ∧ b < w'.heap.size)) (w'.setCell ⟨q, 0, none⟩ (.slice A' S'.length c')) q A' c' S' bud ∧ Chg (MR F) w (w'.setCell ⟨q, 0, none⟩ (.slice A' S'.length c')) := by
  have hb := hc.blk h.blk id
  have hs := chg_set (j := 0) hb (.slice A' S'.length c')
  have hlt := h.lt q h.own
  refine ⟨hb, ⟨by simpa using hb.set_ 0 (.slice A' S'.length c'), ?_, .inl h.own, fun b hb' => ?_, hg, ⟨hroom, h.room.2⟩⟩, (hc.mono fun _ _ _ h => h.elim).trans (hs.mono fun b t _ hm => ⟨hm.1 ▸ h.own, .inl hm.2⟩)⟩
  · refine RObjs.of_x ((hrow.rebase (Nat.zero_le _)).keep1 hs (fun g hg hm => absurd hm.2 (by decide)) fun _ _ h => h) ((hdat.more hF0).keepT hs fun b => ⟨fun hm => absurd hm.2 (by decide), fun hm => absurd hm.2 (by decide)⟩) (fun g hg => ?_) hg.sorted
    have := hrow.own_in hg
    exact .inr ⟨by omega, this.2⟩
  · have := hc.size
    have : b < w'.heap.size := by
      rcases hb' with h1 | h1
      · exact Nat.lt_of_lt_of_le (h.lt b h1) hc.size
      · exact h1.2
    simpa [World.setCell] using this
def rcR (S : List ObjD) (hd : HdrT) (p : ObjD → Bool) (D : Nat) (w : World) (v i : Value) (wr : World) : Prop :=
  ∃ (k : Nat) (A : Option Addr) (c : Nat), k ≤ S.length ∧ i = .int .i64 (k : Int) ∧ v = .slice A ((S.take k).filter p).length c ∧ RowR D 39 3 (XoR hd) wr A c ((S.take k).filter p) ∧ Chg (fun _ _ => False) w wr
theorem RowR.at3 {h : HdrT} {w : World} {A : Option Addr} {c k : Nat} {S : List ObjD} (hr : RowR 0 39 3 (XoR h) w A c S) (hk : k < S.length) : ∃ b x, A = some ⟨b, 0, none⟩ ∧ S[k]? = some x ∧
    w.cell? ⟨b, k * 3, none⟩ = some (.int .i64 (x.name : Int)) ∧ w.cell? ⟨b, k * 3 + 1, none⟩ = some (.slice (h.A x.name) x.cells.length (h.c x.name)) ∧ w.cell? ⟨b, k * 3 + 2, none⟩ = some (.slice (h.B x.name) x.refs.length (h.d x.name)) := by
  obtain ⟨b, o, x, cs, hA, hx, _, hV, hcl⟩ := SlR.at2 (hr.slr (by decide) 0) hk
  have ho : o = 0 := by
    rcases hr.choose_spec.1.2 with ⟨_, h0⟩ | ⟨g, cap, cur, hv, _⟩
    · omega
    · injection hv with hv
      rw [hA] at hv
      injection hv with hv
      injection hv
  subst ho
  unfold XoR at hV
  subst hV
  exact ⟨b, x, hA, hx, by simpa using hcl 0 _ rfl, by simpa using hcl 1 _ rfl, by simpa using hcl 2 _ rfl⟩
set_option maxRecDepth 100000 in
set_option maxHeartbeats 4000000 in
theorem rcollect_any (F : Nat → Prop) (B : Nat) (w : World) (q : Nat) (A : Option Addr) (c : Nat) (S : List ObjD) (bud : Nat) (roots : List Int) (RA : Option Addr) (rc : Nat) (h : RhI F w q A c S bud) (hr : SlR B 0 1 IntZ w (.slice RA roots.length rc) roots) (hl : roots.length ≤ 1048576) :
    Calls Try.prog 43 #[.pointer (some ⟨q, 0, none⟩), .slice RA roots.length rc] w fun e w' => e = .returned (.tuple #[.int .i64 (if knownO S roots = true then ((S.length - (liveO S roots).length : Nat) : Int) else 0), .int .i64 (if knownO S roots = true then 0 else 15)]) ∧ Chg (MR F) w w' ∧
      ∃ (F' : Nat → Prop) (A' : Option Addr) (c' : Nat), RhI F' w' q A' c' (if knownO S roots = true then liveO S roots else S) bud ∧ ∀ b, F' b → F b ∨ w.heap.size ≤ b := by
  obtain ⟨i0, hi0, hz0, hs0, hb0⟩ := info_parts infoRObj
  have hS := Nat.le_trans (len_le_used S) (Nat.le_trans h.room.1 h.room.2)
  have hkn := rknown_any F B w q A c S bud roots RA rc h hr hl
  have HH := Lib.hid (And.intro h hr)
  clear h hr
  cases hk : knownO S roots with
  | false =>
    rw [hk] at hkn
    simp only [Bool.false_eq_true, if_false]
    go_enter Try.func43, Try.ntmps43
    go_wp2_with fail
    refine hkn.mono fun e w1 h => ?_
    obtain ⟨rfl, hc1⟩ := h
    have HC := Lib.hid hc1
    clear hkn hc1
    go_wp2_with fail
    go_ret2
    exact ⟨rfl, HC.out.mono fun _ _ _ h => h.elim, F, A, c, HH.out.1.keep HC.out fun _ _ _ => id, fun b hb => .inl hb⟩
  | true =>
    rw [hk] at hkn
    simp only [if_true]
    go_enter Try.func43, Try.ntmps43
    go_wp2_with fail
    refine hkn.mono fun e w1 h => ?_
    obtain ⟨rfl, hc1⟩ := h
    have hre := rreached_any F B w1 q A c S bud roots RA rc (HH.out.1.keep hc1 fun _ _ _ => id) (SlR.keep HH.out.2 hc1 (no_letsH _ _) fun _ _ h => h) hl
    have HC := Lib.hid hc1
    clear hkn hc1
    go_wp2_with fail
    refine hre.mono fun e w2 h => ?_
    obtain ⟨b, rfl, hb, hbk, hc2⟩ := h
    have hcc := HC.out.trans hc2
    have HB := Lib.hid (And.intro hb (And.intro hbk hcc))
    clear hre hb hbk hc2 hcc hk
    have hsz := HB.out.2.2.size
    go_wp2_with fail
    obtain ⟨hd, hx1, hx2, hx3⟩ := RObjs.hdr (HH.out.1.keep HB.out.2.2 fun _ _ _ => id).objs HH.out.1.good.sorted
    have HX := Lib.hid (And.intro hx1 (And.intro hx2 hx3))
    clear hx1 hx2 hx3
    go_loopw [7, 8] (fun v i wr => rcR S hd (fun o => rchB S roots o.name) w2.heap.size w2 v i wr) (fun _ i _ => S.length - (intOf i).toNat)
    case atStart => exact ⟨0, none, 0, Nat.zero_le _, rfl, by simp, by simpa using RowR.nil _ _ _ _ _, Chg.refl _ _⟩
    case round =>
      obtain ⟨k, LA, lc, hk, rfl, rfl, hrow, hch⟩ := hrel
      have q3 : IntKind.i64.wrap ((k : Int) + 1) = (k : Int) + 1 := IntWalk.i64_in _ ⟨by omega, by omega⟩
      have hcw := HB.out.2.2.trans hch
      have hH := HH.out.1.keep hcw fun _ _ _ => id
      have x0 : wr.cell? ⟨q, 0, none⟩ = some (.slice A S.length c) := by simpa using hH.blk.cell 0
      by_cases hlt : k < S.length
      · have q1 : decide (k < S.length) = true := decide_eq_true hlt
        have q2 : (k : Int) < (S.length : Int) := by omega
        obtain ⟨gb, o, rfl, hko, z0, z1, z2⟩ := (HX.out.1.keep hch (fun _ _ => id) fun _ _ h => h).at3 hlt
        have hst := filt_step hko (fun o => rchB S roots o.name)
        have y0 := on_cell (hch.blk HB.out.2.1 id) (mark_at (roots := roots) hko)
        cases hrb : rchB S roots o.name with
        | false =>
          rw [hrb] at y0
          simp only [hrb] at hst
          have HR := Lib.hid (And.intro hst (And.intro hrow hch))
          clear hst hrow hch hcw hH hko hrb
          go_wp2_with fail
          go_roundw
          case rel => exact ⟨k + 1, LA, lc, hlt, by simp, by rw [HR.out.1]; simp, by rw [HR.out.1]; simpa using HR.out.2.1, HR.out.2.2⟩
          case measure => simp [intOf]; omega
        | true =>
          rw [hrb] at y0
          simp only [hrb, if_true] at hst
          have hfl := filt_len S k (fun o => rchB S roots o.name)
          have hwz : w2.heap.size ≤ wr.heap.size := hch.size
          have HR := Lib.hid (And.intro hst (And.intro hrow (And.intro hch (And.intro hwz hfl))))
          clear hst hrow hch hcw hH hko hrb hwz hfl
          obtain ⟨Lk, hLk⟩ : ∃ L, (S.take k).filter (fun o => rchB S roots o.name) = L := ⟨_, rfl⟩
          rw [hLk] at HR
          simp only [hLk]
          go_wp2_with (at_builtin; go_must (refine wpList_push1 rfl (.tmp 30) (.tmp 38) 40 rfl w2.heap.size 39 i0 _ 3 56 Try.underlying40 hi0 hz0 hs0 hb0 rfl (by omega) (XoR hd) LA lc Lk rfl (by first | rfl | simp) HR.out.2.1 1 [.int .i64 (o.name : Int), .slice (hd.A o.name) o.cells.length (hd.c o.name), .slice (hd.B o.name) o.refs.length (hd.d o.name)] o (by first | rfl | simp) (by first | rfl | simp) rfl (by intro u hu; simp at hu; rcases hu with rfl | rfl | rfl <;> rfl) rfl (by have := HR.out.2.2.2.2; omega) (by omega) HR.out.2.2.2.1 (fun _ _ _ _ h => h) ?_))
          intro A8 c8 w8 hr8 hc8 hp8
          have hc9 : Chg (fun _ _ => False) w2 w8 := HR.out.2.2.1.trans_new hc8 fun b t hb h => by
            have := (HR.out.2.1.own_in h.1).1
            omega
          have HW := Lib.hid (And.intro hr8 hc9)
          clear hr8 hc8 hp8 hc9
          go_wp2_with fail
          go_roundw
          case rel => exact ⟨k + 1, A8, c8, hlt, by simp, by rw [HR.out.1]; simp, by rw [HR.out.1]; exact HW.out.1, HW.out.2⟩
          case measure => simp [intOf]; omega
      · have q1 : decide (k < S.length) = false := decide_eq_false hlt
        obtain rfl : k = S.length := by omega
        rw [List.take_length] at hrow ⊢
        have hrow : RowR w2.heap.size 39 3 (XoR hd) wr LA lc (liveO S roots) := hrow
        obtain ⟨hbq, hRh, hcR⟩ := (HH.out.1.keep HB.out.2.2 fun _ _ _ => id).setRow hch hrow (Nat.le_refl _) ((HX.out.2.1.keep hch fun _ _ _ => id).sub fun x hx => (liveO_mem.1 hx).1) (fun b hb => .inl hb) (liveO_good HH.out.1.good roots) (Nat.le_trans (used_filter _ _) HH.out.1.room.1)
        have hle : (liveO S roots).length ≤ S.length := List.length_filter_le _ _
        have qd : IntKind.i64.wrap ((S.length : Int) - ((S.filter fun o => rchB S roots o.name).length : Int)) = ((S.length - (liveO S roots).length : Nat) : Int) := by
          rw [show (S.length : Int) - ((S.filter fun o => rchB S roots o.name).length : Int) = ((S.length - (liveO S roots).length : Nat) : Int) by have : (S.filter fun o => rchB S roots o.name).length = (liveO S roots).length := rfl; omega]
          exact IntWalk.i64_in _ ⟨by omega, by omega⟩
        have x0f := hbq.frozen 0
        have HF := Lib.hid (And.intro hRh ((HB.out.2.2.mono fun _ _ _ h => h.elim).trans hcR))
        clear hrow hch hcw hH hbq hRh hcR
        go_wp2_with fail
        go_ret2
        exact ⟨rfl, HF.out.2, _, _, _, HF.out.1, fun b hb => hb.imp id fun h => Nat.le_trans HB.out.2.2.size h.1⟩
end Go.Proofs.Yteigopmdhhgnfaa
