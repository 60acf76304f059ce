/-
  slices.Grow of no slice; slices.Concat of three slices of types; types.parts.
-/
import Derived.Test.YtgemacdnncjmdaaDoorTMap
namespace Go.Proofs.YtgemacdnncjmdaaDoor
open Go.RowKit
set_option linter.unusedVariables false
set_option linter.unusedSimpArgs false

theorem own_zeros {w : World} {e size cap : Nat} {cells : Array Value} (base : Nat) (hb : base ≤ w.heap.size) (hs : cells.size = cap * size) (hc : cap ≤ maxLen) :
    ((w.drew.alloc (.cells cells e)).ownsRow base e size (.slice (some ⟨w.heap.size, 0, none⟩) 0 cap) 0 []) :=
  ⟨by simp, .inr ⟨w.heap.size, cap, cells, rfl, hb, heap_alloc_new w.drew _, Nat.zero_le _, hc, hs, by simp⟩⟩
set_option maxRecDepth 100000 in
set_option maxHeartbeats 1000000 in
theorem grow_any (n : Nat) (hn : n ≤ 4000000) (R : World → List Value → Ty → Prop) (w : World) :
    Calls Tryd.prog 70 #[.slice none 0 0, .int .i64 n] w fun e w' => ∃ A c, e = .returned (.slice A 0 c) ∧ RowR w.heap.size 33 6 R w' A c [] ∧ Chg (fun _ _ => False) w w' := by
  obtain ⟨i39, hi39, hz39, hs39, hb39⟩ := info_parts infoType
  by_cases h0 : n = 0
  · subst h0
    go_enter Tryd.func70, Tryd.ntmps70
    go_wp2_with fail
    go_ret
    exact ⟨none, 0, rfl, RowR.nil _ _ _ _ _, by repeat' (first | exact Chg.refl (fun _ _ => False) _ | apply Chg.drew | apply Chg.drewN)⟩
  · have hz := fun ty => run_append_zeros (P := Tryd.prog) (w := w) 23 3 ty .i64 i39 _ Tryd.underlying23 Tryd.underlying3 hi39 hz39 n (by omega) (by omega) (by omega)
    have hpos : (0 : Int) < (n : Int) := by omega
    have hnn : ¬ ((n : Int) < 0) := by omega
    have q3 : IntKind.i64.wrap (n : Int) = n := IntWalk.i64_in _ ⟨by omega, by omega⟩
    obtain ⟨cap, hcap⟩ : ∃ cap, cap = grownCap w n 0 33 := ⟨_, rfl⟩
    have hge : n ≤ cap := hcap ▸ grownCap_ge w n 0 33
    have hle : cap ≤ maxLen := hcap ▸ grownCap_le_maxLen w n 0 33 (by unfold maxLen; omega)
    simp only [← hcap] at hz
    obtain ⟨cells, hce⟩ : ∃ cells, cells = (if n * i39.size = 0 then #[] else Builtin.zeroCells (Value.agg #[.int .i64 0, .string ByteArray.empty, .int .i64 0, .slice none 0 0, .slice none 0 0, .slice none 0 0]).cells n) ++ Builtin.zeroCells (Value.agg #[.int .i64 0, .string ByteArray.empty, .int .i64 0, .slice none 0 0, .slice none 0 0, .slice none 0 0]).cells (cap - n) := ⟨_, rfl⟩
    have hsz : cells.size = cap * 6 := by
      rw [hce, hs39, if_neg (by omega), Array.size_append, size_zeroCells, size_zeroCells]
      show n * 6 + (cap - n) * 6 = cap * 6
      omega
    simp only [← hce] at hz
    replace hz := Lib.hid hz
    have H := Lib.hid (And.intro hsz (And.intro hge hle))
    clear hce hsz hcap hle
    go_enter Tryd.func70, Tryd.ntmps70
    go_wp2_with (at_builtin; go_must (refine wpList_append_zeros rfl (.tmp 20) (.tmp 21) 23 3 rfl rfl rfl hz.out ?_))
    go_ret
    exact ⟨_, cap, rfl, ⟨[], own_zeros _ (Nat.le_refl _) H.out.1 H.out.2.2, rfl, by simp, by simp⟩, ((Chg.refl (fun _ _ => False) w).drew).alloc _⟩
/-- How many there are in the first rows. -/
def sumL (rows : List (Value × List Ty)) : Nat := (rows.map fun p => p.2.length).sum
theorem sumL_take (rows : List (Value × List Ty)) (k : Nat) : sumL (rows.take k) ≤ sumL rows := by
  unfold sumL
  rw [List.map_take]
  have h := List.take_append_drop k (rows.map fun p => p.2.length)
  have h2 : ((rows.map fun p => p.2.length).take k).sum + ((rows.map fun p => p.2.length).drop k).sum = (rows.map fun p => p.2.length).sum := by rw [← List.sum_append, h]
  omega
theorem sumL_succ {rows : List (Value × List Ty)} {k : Nat} {p : Value × List Ty} (h : rows[k]? = some p) : sumL (rows.take (k + 1)) = sumL (rows.take k) + p.2.length := by
  obtain ⟨h1, h2⟩ := List.getElem?_eq_some_iff.1 h
  unfold sumL
  rw [List.take_succ_eq_append_getElem h1, h2]
  simp
def flatL (rows : List (Value × List Ty)) : List Ty := (rows.map fun p => p.2).flatten
theorem flatL_len (rows : List (Value × List Ty)) : (flatL rows).length = sumL rows := by
  unfold flatL sumL
  rw [List.length_flatten, List.map_map]
  rfl
theorem flatL_succ {rows : List (Value × List Ty)} {k : Nat} {p : Value × List Ty} (h : rows[k]? = some p) : flatL (rows.take (k + 1)) = flatL (rows.take k) ++ p.2 := by
  obtain ⟨h1, h2⟩ := List.getElem?_eq_some_iff.1 h
  unfold flatL
  rw [List.take_succ_eq_append_getElem h1, h2]
  simp
def catRel1 (rows : List (Value × List Ty)) (w : World) (s i : Value) (wr : World) : Prop := ∃ k : Nat, k ≤ rows.length ∧ i = .int .i64 k ∧ s = .int .i64 (sumL (rows.take k)) ∧ wr = w
def catRel2 (n B D : Nat) (rows : List (Value × List Ty)) (w : World) (s i : Value) (wr : World) : Prop :=
  ∃ (k : Nat) (A : Option Addr) (c : Nat), k ≤ rows.length ∧ i = .int .i64 k ∧ s = .slice A (sumL (rows.take k)) c ∧ RowR D 33 6 (TyR n B) wr A c (flatL (rows.take k)) ∧ Chg (fun _ _ => False) w wr
set_option maxRecDepth 100000 in
set_option maxHeartbeats 4000000 in
theorem concat_any (n B : Nat) (w : World) (g m cap : Nat) (rows : List (Value × List Ty)) (hm : m = rows.length) (hm3 : m ≤ 1000) (hB : B ≤ w.heap.size)
    (hcells : ∀ k p, rows[k]? = some p → w.cell? ⟨g, k, none⟩ = some p.1) (hread : ∀ (k : Nat) (p : Value × List Ty), rows[k]? = some p → TysR n B w p.1 p.2) (hsum : sumL rows ≤ 4000000) :
    Calls Tryd.prog 53 #[.slice (some ⟨g, 0, none⟩) m cap] w fun e w' => ∃ A c, e = .returned (.slice A (sumL rows) c) ∧ RowR w.heap.size 33 6 (TyR n B) w' A c (flatL rows) ∧ Chg (fun _ _ => False) w w' := by
  obtain ⟨i39, hi39, hz39, hs39, hb39⟩ := info_parts infoType
  subst hm
  have H := Lib.hid (And.intro hB (And.intro hcells (And.intro hread hsum)))
  clear hB hcells hread hsum
  go_enter Tryd.func53, Tryd.ntmps53
  go_wp2_with fail
  go_loopw [3, 5, 11] (fun s _ i wr => catRel1 rows w s i wr) (fun _ _ i _ => rows.length - (intOf i).toNat)
  case atStart => exact ⟨0, Nat.zero_le _, rfl, rfl, rfl⟩
  case round =>
    obtain ⟨k, hk, rfl, rfl, rfl⟩ := hrel
    rename World => w0
    have q3 : IntKind.i64.wrap ((k : Int) + 1) = (k : Int) + 1 := IntWalk.i64_in _ ⟨by omega, by omega⟩
    have hsm := sumL_take rows k
    have hsum := H.out.2.2.2
    by_cases hlt : k < rows.length
    · have q1 : decide (k < rows.length) = true := decide_eq_true hlt
      have q2 : (k : Int) < (rows.length : Int) := by omega
      obtain ⟨p, hp⟩ : ∃ p, rows[k]? = some p := ⟨_, List.getElem?_eq_getElem hlt⟩
      obtain ⟨A, c, hv, _⟩ := H.out.2.2.1 k p hp
      have hcell := H.out.2.1 k p hp
      rw [hv] at hcell
      have hs1 := sumL_succ hp
      have hs2 := sumL_take rows (k + 1)
      generalize sumL (rows.take k) = s0 at hsm hs1 ⊢
      generalize hl : p.2.length = l0 at hcell hs1
      have q4 : IntKind.i64.wrap ((s0 : Int) + (l0 : Int)) = (s0 : Int) + (l0 : Int) := IntWalk.i64_in _ ⟨by omega, by omega⟩
      have q5 : ¬ ((s0 : Int) + (l0 : Int) < 0) := by omega
      have HS := Lib.hid hs1
      clear hs1 hs2 hsm hv hp hsum
      go_wp2_with fail
      go_roundw
      case rel => exact ⟨k + 1, hlt, by simp, by rw [HS.out]; simp, rfl⟩
      case measure => simp [intOf]; omega
    · have q1 : decide (k < rows.length) = false := decide_eq_false hlt
      obtain rfl : k = rows.length := by omega
      rw [List.take_length]
      clear hsm
      go_wp2_with fail
      refine (grow_any (sumL rows) hsum (TyR n B) w0).mono fun e w1 h => ?_
      obtain ⟨A, c, rfl, hr, hc⟩ := h
      have H1 := Lib.hid (And.intro hr hc)
      clear hr hc
      go_wp2_with fail
      go_loopw [6, 8, 27] (fun s _ i wr => catRel2 n B w0.heap.size rows w0 s i wr) (fun _ _ i _ => rows.length - (intOf i).toNat)
      case atStart => exact ⟨0, A, c, Nat.zero_le _, rfl, rfl, H1.out.1, H1.out.2⟩
      case round =>
        obtain ⟨k, A2, c2, hk, rfl, rfl, hr, hch⟩ := hrel
        have q3 : IntKind.i64.wrap ((k : Int) + 1) = (k : Int) + 1 := IntWalk.i64_in _ ⟨by omega, by omega⟩
        have hsm := sumL_take rows k
        by_cases hlt : k < rows.length
        · have q1 : decide (k < rows.length) = true := decide_eq_true hlt
          have q2 : (k : Int) < (rows.length : Int) := by omega
          obtain ⟨p, hp⟩ : ∃ p, rows[k]? = some p := ⟨_, List.getElem?_eq_getElem hlt⟩
          have hrd := H.out.2.2.1 k p hp
          obtain ⟨A3, c3, hv, _⟩ := hrd
          have hcell := hch.cell (H.out.2.1 k p hp) fun _ => id
          have hrd : TysR n B wr p.1 p.2 := TysR.keep0 hch (H.out.2.2.1 k p hp)
          rw [hv] at hcell hrd
          have hs1 := sumL_succ hp
          have hs2 := sumL_take rows (k + 1)
          have hfl := flatL_succ hp
          have hlen : sumL (rows.take k) = (flatL (rows.take k)).length := (flatL_len _).symm
          have hDw : w0.heap.size ≤ wr.heap.size := hch.size
          generalize sumL (rows.take k) = s0 at hsm hs1 hlen ⊢
          generalize hl : p.2.length = l0 at hcell hs1 hrd
          have HR := Lib.hid (And.intro hr (And.intro hch (And.intro hrd (And.intro hlen (And.intro hs1 (And.intro hfl hl.symm))))))
          have hl20 : l0 ≤ 4000000 := by omega
          clear hr hch hrd hlen hs1 hfl hl hv hp hs2
          go_wp2_with (at_builtin; go_must (refine wpList_pushS rfl (.tmp 31) (.tmp 32) 23 rfl w0.heap.size 33 i39 _ 6 104 Tryd.underlying23 hi39 hz39 hs39 hb39 rfl (by omega) (TyR n B) A2 c2 _ HR.out.2.2.2.1 (by first | rfl | simp) HR.out.1 B 0 A3 c3 p.2 HR.out.2.2.2.2.2.2 (by first | rfl | simp) HR.out.2.2.1 TyR.oneCell (by omega) (by omega) (by omega) hDw (fun _ hc => TyR.keepD H.out.1 hc) ?_))
          intro A4 c4 w4 hr4 hc4
          have HP := Lib.hid (show catRel2 n B w0.heap.size rows w0 (.slice A4 (s0 + l0) c4) (.int .i64 ((k : Int) + 1)) w4 from ⟨k + 1, A4, c4, hlt, by simp, by rw [HR.out.2.2.2.2.1], by rw [HR.out.2.2.2.2.2.1]; exact hr4, HR.out.2.1.trans_new hc4 fun b t hb h => by have := h.1; omega⟩)
          clear hr4 hc4 hcell
          go_wp2_with fail
          go_roundw
          case rel => exact HP.out
          case measure => simp [intOf]; omega
        · have q1 : decide (k < rows.length) = false := decide_eq_false hlt
          obtain rfl : k = rows.length := by omega
          rw [List.take_length] at hr ⊢
          have HR := Lib.hid (And.intro hr hch)
          clear hr hch hsm
          go_wp2_with fail
          go_ret
          exact ⟨A2, c2, rfl, HR.out.1, HR.out.2⟩
end Go.Proofs.YtgemacdnncjmdaaDoor
