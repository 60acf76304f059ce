/-
  tree.Names: what names stand in a tree.
-/
import Derived.Test.YtgaodjoddfjfmaaDoorNFlat
import Derived.Test.YtgaodjoddfjfmaaDoorNMap
namespace Go.Proofs.YtgaodjoddfjfmaaDoor
open Go.RowKit
set_option linter.unusedVariables false
set_option linter.unusedSimpArgs false

def StrV (_ : World) (cs : List Value) (s : ByteArray) : Prop := cs = [.string s] ∧ s.size ≤ 1048576
abbrev StrsR (B : Nat) (w : World) (v : Value) (l : List ByteArray) : Prop := SlR B 0 1 StrV w v l
theorem infoStr : (Tryd.prog.info? 9).map (fun i => (i.zero, i.size, i.bytes)) = some (some (.string ByteArray.empty), 1, 16) := by kernel_rfl
/-- One more name, if it is new. -/
noncomputable def nmStep (acc : List ByteArray) (t : Nd) : List ByteArray := @ite _ ((t.kind = 30 ∨ t.kind = 10) ∧ t.text ∉ acc) (Classical.propDecidable _) (acc ++ [t.text]) acc
noncomputable def nmF (acc : List ByteArray) (l : List Nd) : List ByteArray := l.foldl nmStep acc
theorem nmStep_add {acc : List ByteArray} {t : Nd} (h : t.kind = 30 ∨ t.kind = 10) (hn : t.text ∉ acc) : nmStep acc t = acc ++ [t.text] := by unfold nmStep; rw [if_pos ⟨h, hn⟩]
theorem nmStep_other {acc : List ByteArray} {t : Nd} (h : ¬ (t.kind = 30 ∨ t.kind = 10)) : nmStep acc t = acc := by unfold nmStep; rw [if_neg fun h' => h h'.1]
theorem nmStep_in {acc : List ByteArray} {t : Nd} (h : t.text ∈ acc) : nmStep acc t = acc := by unfold nmStep; rw [if_neg fun h' => h'.2 h]
theorem nmF_cons (acc : List ByteArray) (t : Nd) (l : List Nd) : nmF acc (t :: l) = nmF (nmStep acc t) l := rfl
theorem nmF_append (acc : List ByteArray) (l m : List Nd) : nmF acc (l ++ m) = nmF (nmF acc l) m := List.foldl_append ..
theorem nmStep_len (acc : List ByteArray) (t : Nd) : (nmStep acc t).length ≤ acc.length + 1 := by
  unfold nmStep
  split <;> simp
theorem nmF_len (acc : List ByteArray) (l : List Nd) : (nmF acc l).length ≤ acc.length + l.length := by
  induction l generalizing acc with
  | nil => simp [nmF]
  | cons t l ih =>
    rw [nmF_cons]
    have h1 := ih (nmStep acc t)
    have h2 := nmStep_len acc t
    simp only [List.length_cons]
    omega
/-- What a look may turn. -/
def MN (B gL gm : Nat) : Nat → Nat → Prop := fun b t => (b = gL ∧ t = 36) ∨ (b = gm ∧ t = 0) ∨ (B ≤ b ∧ t = 9)
theorem mn_node (B gL gm b : Nat) : ¬ MN B gL gm b 25 := fun h => by rcases h with h | h | h <;> exact absurd h.2 (by decide)
theorem mn_lets {B gL gm : Nat} (h1 : B ≤ gL) (h2 : B ≤ gm) : LetsM (MN B gL gm) B := fun b t hb h => by rcases h with h | h | h <;> (have := h.1; omega)
theorem Chg.toMN {B gL gm : Nat} {w w' : World} (h : Chg (fun _ _ => False) w w') : Chg (MN B gL gm) w w' := h.mono fun _ _ _ h => h.elim
/-- The names so far: a map of them, a row of them, the closure that looks. -/
def LkS (B gS gL gF gm : Nat) (acc : List ByteArray) (w : World) : Prop := Blk w gS 50 #[.map (some gm)] ∧ Blk w gF 51 #[.func (.func 35) #[] #[.pointer (some ⟨gS, 0, none⟩), .pointer (some ⟨gL, 0, none⟩), .pointer (some ⟨gF, 0, none⟩)]] ∧ (∃ m, SMap w gm acc.length m (setF acc)) ∧
  ∃ A c, Blk w gL 36 #[.slice A acc.length c] ∧ RowR B 9 1 StrV w A c acc
section
variable {B gS gL gF gm : Nat} {acc : List ByteArray} {w w' : World}
theorem LkS.keep0 (h : LkS B gS gL gF gm acc w) (hc : Chg (fun _ _ => False) w w') : LkS B gS gL gF gm acc w' := by
  obtain ⟨h1, h2, ⟨m, h3⟩, A, c, h4, h5⟩ := h
  exact ⟨hc.blk h1 id, hc.blk h2 id, ⟨m, h3.keep hc id⟩, A, c, hc.blk h4 id, h5.keep hc (fun _ _ h => h) fun cs x h => h⟩
theorem LkS.fn (h : LkS B gS gL gF gm acc w) : w.cell? ⟨gF, 0, none⟩ = some (.func (.func 35) #[] #[.pointer (some ⟨gS, 0, none⟩), .pointer (some ⟨gL, 0, none⟩), .pointer (some ⟨gF, 0, none⟩)]) := by simpa using h.2.1.cell 0
theorem LkS.mp (h : LkS B gS gL gF gm acc w) : w.cell? ⟨gS, 0, none⟩ = some (.map (some gm)) := by simpa using h.1.cell 0
end
def LookC (n : Nat) : Prop := ∀ (B gS gL gF gm : Nat) (w : World) (t : Nd) (A : Option Addr) (c : Nat) (acc : List ByteArray), B ≤ w.heap.size → B ≤ gL → B ≤ gm → NdR n B w (ndCells t.kind t.text t.n t.at_ A t.list.length c) t → LkS B gS gL gF gm acc w → acc.length + t.size ≤ 1048576 →
  Calls Tryd.prog 35 #[.agg #[.int .i64 t.kind, .string t.text, .int .u64 t.n, .int .i64 t.at_, .slice A t.list.length c], .pointer (some ⟨gS, 0, none⟩), .pointer (some ⟨gL, 0, none⟩), .pointer (some ⟨gF, 0, none⟩)] w fun e w' => e = .returned (.tuple #[]) ∧ LkS B gS gL gF gm (nmF acc t.flat) w' ∧ Chg (MN B gL gm) w w'
def lkRel (B gS gL gF gm : Nat) (t : Nd) (acc : List ByteArray) (W : World) (i : Value) (wr : World) : Prop :=
  ∃ k : Nat, k ≤ t.list.length ∧ i = .int .i64 k ∧ LkS B gS gL gF gm (nmF acc (flatL (t.list.take k))) wr ∧ Chg (MN B gL gm) W wr
set_option maxRecDepth 100000 in
set_option maxHeartbeats 8000000 in
theorem look_step (n : Nat) (IH : LookC n) : LookC (n + 1) := by
  intro B gS gL gF gm w t A c acc hB hL hM hT hS hlen
  obtain ⟨i9, hi9, hz9, hs9, hb9⟩ := info_parts infoStr
  obtain ⟨hsm, hLl⟩ := NdR.open_ hT
  have hts : t.text.size ≤ 1048576 := hsm.2.2.2.1
  have hll : t.list.length ≤ 1048576 := hsm.2.2.2.2
  have hb1 := Blk.new w 25 #[.int .i64 t.kind, .string t.text, .int .u64 t.n, .int .i64 t.at_, .slice A t.list.length c]
  have hc1 := chg_alloc w (.cells #[.int .i64 t.kind, .string t.text, .int .u64 t.n, .int .i64 t.at_, .slice A t.list.length c] 25)
  have hS1 := hS.keep0 hc1
  have m0 := hS1.mp
  have HP := Lib.hid (And.intro hB (And.intro hL (And.intro hM (And.intro hLl (And.intro hlen IH)))))
  have H1 := Lib.hid (And.intro hb1 (And.intro hc1 hS1))
  obtain ⟨c0, c1, c2, c3, c4⟩ := hb1.cells5
  clear hB hL hM hT hS hlen hLl hsm IH
  by_cases hk : t.kind = 30 ∨ t.kind = 10
  · obtain ⟨m, hmap⟩ := hS1.2.2.1
    have hlook := hmap.look (t := 50) (e := 4) Tryd.underlying50 (z := .bool false) (by kernel_rfl) (s := t.text) (by unfold maxLen; omega)
    clear hmap hS1 hb1 hc1
    have HC := Lib.hid hk
    by_cases hin : t.text ∈ acc
    · rw [setF_in hin] at hlook
      have HI := Lib.hid hin
      clear hin
      by_cases h30 : t.kind = 30
      · have q30 : (t.kind == 30) = true := by simp [h30]
        replace h30 := Lib.hid h30
        clear hk
        go_enter Tryd.func35, Tryd.ntmps35
        go_wp2_with fail
        generalize w.alloc (.cells #[.int .i64 t.kind, .string t.text, .int .u64 t.n, .int .i64 t.at_, .slice A t.list.length c] 25) = W at H1 ⊢
        generalize w.heap.size = g1 at H1 ⊢
        have HS := Lib.hid (And.intro H1.out.2.2 (And.intro H1.out.1 (Chg.toMN (B := B) (gL := gL) (gm := gm) H1.out.2.1)))
        clear c0 c1 c2 c3 c4 H1
        try clear hlook
        go_loopw [33] (fun i wr => lkRel B gS gL gF gm t acc W i wr ∧ Blk wr g1 25 #[.int .i64 t.kind, .string t.text, .int .u64 t.n, .int .i64 t.at_, .slice A t.list.length c]) (fun i _ => t.list.length - (intOf i).toNat)
        case atStart => exact ⟨⟨0, Nat.zero_le _, rfl, by simpa [nmF, flatL] using HS.out.1, Chg.refl _ _⟩, HS.out.2.1⟩
        case round =>
          obtain ⟨⟨k, hk, rfl, hS, hch⟩, hb⟩ := hrel
          have q3 : IntKind.i64.wrap ((k : Int) + 1) = (k : Int) + 1 := IntWalk.i64_in _ ⟨by omega, by omega⟩
          have hwW := HS.out.2.2
          by_cases hlt : k < t.list.length
          · have q1 : decide (k < t.list.length) = true := decide_eq_true hlt
            have q2 : (k : Int) < (t.list.length : Int) := by omega
            have hcw := hwW.trans hch
            have hlm := mn_lets HP.out.2.1 HP.out.2.2.1
            obtain ⟨bb, oo, x, X, cx, rfl, hkx, hRx, z0, z1, z2, z3, z4⟩ := NdsR.at_ (SlR.keep HP.out.2.2.2.1 hcw hlm.lets fun _ _ h => NdR.keep hcw hlm h) hlt
            have htk : t.list.take (k + 1) = t.list.take k ++ [x] := by
              obtain ⟨h1, h2⟩ := List.getElem?_eq_some_iff.1 hkx
              rw [List.take_succ_eq_append_getElem h1, h2]
            have hca := chg_alloc wr (.cells #[.int .i64 x.kind, .string x.text, .int .u64 x.n, .int .i64 x.at_, .slice X x.list.length cx] 25)
            have hS' := hS.keep0 hca
            have f0 := hS'.fn
            have hlen : (nmF acc (flatL (t.list.take k))).length + x.size ≤ 1048576 := by
              have h1 := nmF_len acc (flatL (t.list.take k))
              have h2 := nmStep_len acc t
              have h3 := sizeL_take t.list (k + 1)
              rw [htk, sizeL_snoc] at h3
              have h4 := HP.out.2.2.2.2.1
              rw [size_eq] at h4
              rw [flatL_len] at h1
              have h5 : acc.length ≤ acc.length + 1 := by omega
              omega
            have hcall := HP.out.2.2.2.2.2 B gS gL gF gm (wr.alloc (.cells #[.int .i64 x.kind, .string x.text, .int .u64 x.n, .int .i64 x.at_, .slice X x.list.length cx] 25)) x X cx (nmF acc (flatL (t.list.take k))) (Nat.le_trans HP.out.1 (hcw.trans hca.toMN).size) HP.out.2.1 HP.out.2.2.1 (NdR.keep0 hca hRx) hS' hlen
            have HK := Lib.hid (And.intro (hch.trans hca.toMN) (And.intro (hca.blk hb id) htk))
            clear hS hS' hch hkx hRx hb hca htk hlen hcw hlm hwW
            go_wp2_with fail
            refine hcall.mono fun e w8 h => ?_
            obtain ⟨rfl, hS8, hc8⟩ := h
            clear hcall f0
            have HZ := Lib.hid (And.intro hS8 hc8)
            clear hS8 hc8 z0 z1 z2 z3 z4
            go_wp2_with fail
            go_roundw
            case rel =>
              obtain ⟨hS8, hc8⟩ := HZ.out
              obtain ⟨hch, hb, htk⟩ := HK.out
              refine ⟨⟨k + 1, hlt, by simp, ?_, hch.trans hc8⟩, hc8.blk hb (mn_node _ _ _ _)⟩
              rw [htk, flatL_snoc, nmF_append]
              exact hS8
            case measure => simp [intOf]; omega
          · have q1 : decide (k < t.list.length) = false := decide_eq_false hlt
            obtain rfl : k = t.list.length := by omega
            rw [List.take_length] at hS
            have HZ := Lib.hid (And.intro hS (hwW.trans hch))
            clear hS hch hb hwW
            go_wp2_with fail
            go_end0
            refine ⟨rfl, ?_, HZ.out.2⟩
            rw [flat_eq, nmF_cons]
            rw [nmStep_in HI.out]
            exact HZ.out.1
      · have q30 : (t.kind == 30) = false := by simp [h30]
        have q10 : (t.kind == 10) = true := by simp; omega
        replace h30 := Lib.hid h30
        clear hk
        go_enter Tryd.func35, Tryd.ntmps35
        go_wp2_with fail
        generalize w.alloc (.cells #[.int .i64 t.kind, .string t.text, .int .u64 t.n, .int .i64 t.at_, .slice A t.list.length c] 25) = W at H1 ⊢
        generalize w.heap.size = g1 at H1 ⊢
        have HS := Lib.hid (And.intro H1.out.2.2 (And.intro H1.out.1 (Chg.toMN (B := B) (gL := gL) (gm := gm) H1.out.2.1)))
        clear c0 c1 c2 c3 c4 H1
        try clear hlook
        go_loopw [33] (fun i wr => lkRel B gS gL gF gm t acc W i wr ∧ Blk wr g1 25 #[.int .i64 t.kind, .string t.text, .int .u64 t.n, .int .i64 t.at_, .slice A t.list.length c]) (fun i _ => t.list.length - (intOf i).toNat)
        case atStart => exact ⟨⟨0, Nat.zero_le _, rfl, by simpa [nmF, flatL] using HS.out.1, Chg.refl _ _⟩, HS.out.2.1⟩
        case round =>
          obtain ⟨⟨k, hk, rfl, hS, hch⟩, hb⟩ := hrel
          have q3 : IntKind.i64.wrap ((k : Int) + 1) = (k : Int) + 1 := IntWalk.i64_in _ ⟨by omega, by omega⟩
          have hwW := HS.out.2.2
          by_cases hlt : k < t.list.length
          · have q1 : decide (k < t.list.length) = true := decide_eq_true hlt
            have q2 : (k : Int) < (t.list.length : Int) := by omega
            have hcw := hwW.trans hch
            have hlm := mn_lets HP.out.2.1 HP.out.2.2.1
            obtain ⟨bb, oo, x, X, cx, rfl, hkx, hRx, z0, z1, z2, z3, z4⟩ := NdsR.at_ (SlR.keep HP.out.2.2.2.1 hcw hlm.lets fun _ _ h => NdR.keep hcw hlm h) hlt
            have htk : t.list.take (k + 1) = t.list.take k ++ [x] := by
              obtain ⟨h1, h2⟩ := List.getElem?_eq_some_iff.1 hkx
              rw [List.take_succ_eq_append_getElem h1, h2]
            have hca := chg_alloc wr (.cells #[.int .i64 x.kind, .string x.text, .int .u64 x.n, .int .i64 x.at_, .slice X x.list.length cx] 25)
            have hS' := hS.keep0 hca
            have f0 := hS'.fn
            have hlen : (nmF acc (flatL (t.list.take k))).length + x.size ≤ 1048576 := by
              have h1 := nmF_len acc (flatL (t.list.take k))
              have h2 := nmStep_len acc t
              have h3 := sizeL_take t.list (k + 1)
              rw [htk, sizeL_snoc] at h3
              have h4 := HP.out.2.2.2.2.1
              rw [size_eq] at h4
              rw [flatL_len] at h1
              have h5 : acc.length ≤ acc.length + 1 := by omega
              omega
            have hcall := HP.out.2.2.2.2.2 B gS gL gF gm (wr.alloc (.cells #[.int .i64 x.kind, .string x.text, .int .u64 x.n, .int .i64 x.at_, .slice X x.list.length cx] 25)) x X cx (nmF acc (flatL (t.list.take k))) (Nat.le_trans HP.out.1 (hcw.trans hca.toMN).size) HP.out.2.1 HP.out.2.2.1 (NdR.keep0 hca hRx) hS' hlen
            have HK := Lib.hid (And.intro (hch.trans hca.toMN) (And.intro (hca.blk hb id) htk))
            clear hS hS' hch hkx hRx hb hca htk hlen hcw hlm hwW
            go_wp2_with fail
            refine hcall.mono fun e w8 h => ?_
            obtain ⟨rfl, hS8, hc8⟩ := h
            clear hcall f0
            have HZ := Lib.hid (And.intro hS8 hc8)
            clear hS8 hc8 z0 z1 z2 z3 z4
            go_wp2_with fail
            go_roundw
            case rel =>
              obtain ⟨hS8, hc8⟩ := HZ.out
              obtain ⟨hch, hb, htk⟩ := HK.out
              refine ⟨⟨k + 1, hlt, by simp, ?_, hch.trans hc8⟩, hc8.blk hb (mn_node _ _ _ _)⟩
              rw [htk, flatL_snoc, nmF_append]
              exact hS8
            case measure => simp [intOf]; omega
          · have q1 : decide (k < t.list.length) = false := decide_eq_false hlt
            obtain rfl : k = t.list.length := by omega
            rw [List.take_length] at hS
            have HZ := Lib.hid (And.intro hS (hwW.trans hch))
            clear hS hch hb hwW
            go_wp2_with fail
            go_end0
            refine ⟨rfl, ?_, HZ.out.2⟩
            rw [flat_eq, nmF_cons]
            rw [nmStep_in HI.out]
            exact HZ.out.1
    · rw [setF_out hin] at hlook
      by_cases h30 : t.kind = 30
      · have q30 : (t.kind == 30) = true := by simp [h30]
        replace h30 := Lib.hid h30
        clear hk
        obtain ⟨m, hmap⟩ := H1.out.2.2.2.2.1
        obtain ⟨Al, cl, hbL, hrL⟩ := H1.out.2.2.2.2.2
        obtain ⟨w2, hput, hm2, hc2⟩ := hmap.put (t := 50) (e := 4) Tryd.underlying50 (by have := HP.out.2.2.2.2.1; unfold maxLen; omega) (s := t.text) (by unfold maxLen; omega) (.bool true)
        rw [setF_snoc, setF_out hin] at hm2
        have hbL2 := hc2.blk hbL fun h => absurd h.2 (by decide)
        have l0 : w2.cell? ⟨gL, 0, none⟩ = some (.slice Al acc.length cl) := by simpa using hbL2.cell 0
        obtain ⟨d0, d1, d2, d3, d4⟩ := (hc2.blk H1.out.1 fun h => absurd h.2 (by decide)).cells5
        have hr2 := hrL.keep1 hc2 (fun b _ h => absurd h.2 (by decide)) fun cs x h => h
        have hB2 : B ≤ w2.heap.size := Nat.le_trans HP.out.1 (Nat.le_trans H1.out.2.1.size hc2.size)
        have hal : acc.length ≤ 1048576 := by have := HP.out.2.2.2.2.1; omega
        have HA := Lib.hid (And.intro hc2 (And.intro hm2 (And.intro hbL2 (And.intro hr2 hin))))
        clear hc2 hm2 hbL2 hr2 hmap hbL hrL
        go_enter Tryd.func35, Tryd.ntmps35
        go_wp2_with (at_builtin; go_must (refine wpList_push rfl (.tmp 25) (.tmp 28) 36 rfl B 9 i9 _ 1 16 Tryd.underlying36 hi9 hz9 hs9 hb9 rfl (by omega) StrV Al cl acc rfl (by first | rfl | simp) HA.out.2.2.2.1 1 [.string t.text] t.text (by first | rfl | simp) (by first | rfl | simp) rfl (by intro u hu; simp at hu; subst hu; rfl) ⟨rfl, hts⟩ (by omega) (by omega) hB2 (fun _ _ _ _ h => h) ?_))
        intro A7 c7 w7 hr7 hc7
        have hbL7 := hc7.blk HA.out.2.2.1 fun h => absurd h.2 (by decide)
        have l7 : w7.cell? ⟨gL, 0, none⟩ = some (.slice Al acc.length cl) := by simpa using hbL7.cell 0
        have fz := hbL7.frozen 0
        have hset := chg_set (j := 0) hbL7 (.slice A7 (acc.length + 1) c7)
        have hb7 : Blk (w7.setCell ⟨gL, 0, none⟩ (.slice A7 (acc.length + 1) c7)) w.heap.size 25 #[.int .i64 t.kind, .string t.text, .int .u64 t.n, .int .i64 t.at_, .slice A t.list.length c] := hset.blk (hc7.blk (HA.out.1.blk H1.out.1 fun h => absurd h.2 (by decide)) fun h => absurd h.2 (by decide)) fun h => absurd h.2 (by decide)
        obtain ⟨y0, y1, y2, y3, y4⟩ := hb7.cells5
        have hchg : Chg (MN B gL gm) w (w7.setCell ⟨gL, 0, none⟩ (.slice A7 (acc.length + 1) c7)) := ((H1.out.2.1.toMN.trans_le HA.out.1 fun b t _ h => .inr (.inl h)).trans_le hc7 fun b t _ h => .inr (.inr h)).trans_le hset fun b t _ h => .inl h
        have hSn : LkS B gS gL gF gm (acc ++ [t.text]) (w7.setCell ⟨gL, 0, none⟩ (.slice A7 (acc.length + 1) c7)) := by
          refine ⟨hset.blk (hc7.blk (HA.out.1.blk H1.out.2.2.1 fun h => absurd h.2 (by decide)) fun h => absurd h.2 (by decide)) fun h => absurd h.2 (by decide), hset.blk (hc7.blk (HA.out.1.blk H1.out.2.2.2.1 fun h => absurd h.2 (by decide)) fun h => absurd h.2 (by decide)) fun h => absurd h.2 (by decide), ?_, A7, c7, ?_, ?_⟩
          · rw [List.length_append]
            exact ⟨_, (HA.out.2.1.keep hc7 (fun h => absurd h.2 (by decide))).keep hset (fun h => absurd h.2 (by decide))⟩
          · rw [List.length_append]
            simpa using hbL7.set_ 0 (.slice A7 (acc.length + 1) c7)
          · exact hr7.keep1 hset (fun b _ h => absurd h.2 (by decide)) fun cs x h => h
        have HS := Lib.hid (And.intro hSn (And.intro hb7 hchg))
        clear hSn hb7 hchg hset hbL7 hr7 hc7 c0 c1 c2 c3 c4 d0 d1 d2 d3 d4 hlook hput l0
        go_wp2_with fail
        generalize w7.setCell ⟨gL, 0, none⟩ (.slice A7 (acc.length + 1) c7) = W at HS y0 y1 y2 y3 y4 ⊢
        generalize w.heap.size = g1 at HS y0 y1 y2 y3 y4 ⊢
        clear l7 fz
        go_loopw [33] (fun i wr => lkRel B gS gL gF gm t (acc ++ [t.text]) W i wr ∧ Blk wr g1 25 #[.int .i64 t.kind, .string t.text, .int .u64 t.n, .int .i64 t.at_, .slice A t.list.length c]) (fun i _ => t.list.length - (intOf i).toNat)
        case atStart => exact ⟨⟨0, Nat.zero_le _, rfl, by simpa [nmF, flatL] using HS.out.1, Chg.refl _ _⟩, HS.out.2.1⟩
        case round =>
          obtain ⟨⟨k, hk, rfl, hS, hch⟩, hb⟩ := hrel
          have q3 : IntKind.i64.wrap ((k : Int) + 1) = (k : Int) + 1 := IntWalk.i64_in _ ⟨by omega, by omega⟩
          have hwW := HS.out.2.2
          by_cases hlt : k < t.list.length
          · have q1 : decide (k < t.list.length) = true := decide_eq_true hlt
            have q2 : (k : Int) < (t.list.length : Int) := by omega
            have hcw := hwW.trans hch
            have hlm := mn_lets HP.out.2.1 HP.out.2.2.1
            obtain ⟨bb, oo, x, X, cx, rfl, hkx, hRx, z0, z1, z2, z3, z4⟩ := NdsR.at_ (SlR.keep HP.out.2.2.2.1 hcw hlm.lets fun _ _ h => NdR.keep hcw hlm h) hlt
            have htk : t.list.take (k + 1) = t.list.take k ++ [x] := by
              obtain ⟨h1, h2⟩ := List.getElem?_eq_some_iff.1 hkx
              rw [List.take_succ_eq_append_getElem h1, h2]
            have hca := chg_alloc wr (.cells #[.int .i64 x.kind, .string x.text, .int .u64 x.n, .int .i64 x.at_, .slice X x.list.length cx] 25)
            have hS' := hS.keep0 hca
            have f0 := hS'.fn
            have hlen : (nmF (acc ++ [t.text]) (flatL (t.list.take k))).length + x.size ≤ 1048576 := by
              have h1 := nmF_len (acc ++ [t.text]) (flatL (t.list.take k))
              have h2 := nmStep_len acc t
              have h3 := sizeL_take t.list (k + 1)
              rw [htk, sizeL_snoc] at h3
              have h4 := HP.out.2.2.2.2.1
              rw [size_eq] at h4
              rw [flatL_len] at h1
              have h5 : (acc ++ [t.text]).length ≤ acc.length + 1 := by simp
              omega
            have hcall := HP.out.2.2.2.2.2 B gS gL gF gm (wr.alloc (.cells #[.int .i64 x.kind, .string x.text, .int .u64 x.n, .int .i64 x.at_, .slice X x.list.length cx] 25)) x X cx (nmF (acc ++ [t.text]) (flatL (t.list.take k))) (Nat.le_trans HP.out.1 (hcw.trans hca.toMN).size) HP.out.2.1 HP.out.2.2.1 (NdR.keep0 hca hRx) hS' hlen
            have HK := Lib.hid (And.intro (hch.trans hca.toMN) (And.intro (hca.blk hb id) htk))
            clear hS hS' hch hkx hRx hb hca htk hlen hcw hlm hwW
            go_wp2_with fail
            refine hcall.mono fun e w8 h => ?_
            obtain ⟨rfl, hS8, hc8⟩ := h
            clear hcall f0
            have HZ := Lib.hid (And.intro hS8 hc8)
            clear hS8 hc8 z0 z1 z2 z3 z4
            go_wp2_with fail
            go_roundw
            case rel =>
              obtain ⟨hS8, hc8⟩ := HZ.out
              obtain ⟨hch, hb, htk⟩ := HK.out
              refine ⟨⟨k + 1, hlt, by simp, ?_, hch.trans hc8⟩, hc8.blk hb (mn_node _ _ _ _)⟩
              rw [htk, flatL_snoc, nmF_append]
              exact hS8
            case measure => simp [intOf]; omega
          · have q1 : decide (k < t.list.length) = false := decide_eq_false hlt
            obtain rfl : k = t.list.length := by omega
            rw [List.take_length] at hS
            have HZ := Lib.hid (And.intro hS (hwW.trans hch))
            clear hS hch hb hwW
            go_wp2_with fail
            go_end0
            refine ⟨rfl, ?_, HZ.out.2⟩
            rw [flat_eq, nmF_cons]
            rw [nmStep_add (HC.out) HA.out.2.2.2.2]
            exact HZ.out.1
      · have q30 : (t.kind == 30) = false := by simp [h30]
        have q10 : (t.kind == 10) = true := by simp; omega
        replace h30 := Lib.hid h30
        clear hk
        obtain ⟨m, hmap⟩ := H1.out.2.2.2.2.1
        obtain ⟨Al, cl, hbL, hrL⟩ := H1.out.2.2.2.2.2
        obtain ⟨w2, hput, hm2, hc2⟩ := hmap.put (t := 50) (e := 4) Tryd.underlying50 (by have := HP.out.2.2.2.2.1; unfold maxLen; omega) (s := t.text) (by unfold maxLen; omega) (.bool true)
        rw [setF_snoc, setF_out hin] at hm2
        have hbL2 := hc2.blk hbL fun h => absurd h.2 (by decide)
        have l0 : w2.cell? ⟨gL, 0, none⟩ = some (.slice Al acc.length cl) := by simpa using hbL2.cell 0
        obtain ⟨d0, d1, d2, d3, d4⟩ := (hc2.blk H1.out.1 fun h => absurd h.2 (by decide)).cells5
        have hr2 := hrL.keep1 hc2 (fun b _ h => absurd h.2 (by decide)) fun cs x h => h
        have hB2 : B ≤ w2.heap.size := Nat.le_trans HP.out.1 (Nat.le_trans H1.out.2.1.size hc2.size)
        have hal : acc.length ≤ 1048576 := by have := HP.out.2.2.2.2.1; omega
        have HA := Lib.hid (And.intro hc2 (And.intro hm2 (And.intro hbL2 (And.intro hr2 hin))))
        clear hc2 hm2 hbL2 hr2 hmap hbL hrL
        go_enter Tryd.func35, Tryd.ntmps35
        go_wp2_with (at_builtin; go_must (refine wpList_push rfl (.tmp 25) (.tmp 28) 36 rfl B 9 i9 _ 1 16 Tryd.underlying36 hi9 hz9 hs9 hb9 rfl (by omega) StrV Al cl acc rfl (by first | rfl | simp) HA.out.2.2.2.1 1 [.string t.text] t.text (by first | rfl | simp) (by first | rfl | simp) rfl (by intro u hu; simp at hu; subst hu; rfl) ⟨rfl, hts⟩ (by omega) (by omega) hB2 (fun _ _ _ _ h => h) ?_))
        intro A7 c7 w7 hr7 hc7
        have hbL7 := hc7.blk HA.out.2.2.1 fun h => absurd h.2 (by decide)
        have l7 : w7.cell? ⟨gL, 0, none⟩ = some (.slice Al acc.length cl) := by simpa using hbL7.cell 0
        have fz := hbL7.frozen 0
        have hset := chg_set (j := 0) hbL7 (.slice A7 (acc.length + 1) c7)
        have hb7 : Blk (w7.setCell ⟨gL, 0, none⟩ (.slice A7 (acc.length + 1) c7)) w.heap.size 25 #[.int .i64 t.kind, .string t.text, .int .u64 t.n, .int .i64 t.at_, .slice A t.list.length c] := hset.blk (hc7.blk (HA.out.1.blk H1.out.1 fun h => absurd h.2 (by decide)) fun h => absurd h.2 (by decide)) fun h => absurd h.2 (by decide)
        obtain ⟨y0, y1, y2, y3, y4⟩ := hb7.cells5
        have hchg : Chg (MN B gL gm) w (w7.setCell ⟨gL, 0, none⟩ (.slice A7 (acc.length + 1) c7)) := ((H1.out.2.1.toMN.trans_le HA.out.1 fun b t _ h => .inr (.inl h)).trans_le hc7 fun b t _ h => .inr (.inr h)).trans_le hset fun b t _ h => .inl h
        have hSn : LkS B gS gL gF gm (acc ++ [t.text]) (w7.setCell ⟨gL, 0, none⟩ (.slice A7 (acc.length + 1) c7)) := by
          refine ⟨hset.blk (hc7.blk (HA.out.1.blk H1.out.2.2.1 fun h => absurd h.2 (by decide)) fun h => absurd h.2 (by decide)) fun h => absurd h.2 (by decide), hset.blk (hc7.blk (HA.out.1.blk H1.out.2.2.2.1 fun h => absurd h.2 (by decide)) fun h => absurd h.2 (by decide)) fun h => absurd h.2 (by decide), ?_, A7, c7, ?_, ?_⟩
          · rw [List.length_append]
            exact ⟨_, (HA.out.2.1.keep hc7 (fun h => absurd h.2 (by decide))).keep hset (fun h => absurd h.2 (by decide))⟩
          · rw [List.length_append]
            simpa using hbL7.set_ 0 (.slice A7 (acc.length + 1) c7)
          · exact hr7.keep1 hset (fun b _ h => absurd h.2 (by decide)) fun cs x h => h
        have HS := Lib.hid (And.intro hSn (And.intro hb7 hchg))
        clear hSn hb7 hchg hset hbL7 hr7 hc7 c0 c1 c2 c3 c4 d0 d1 d2 d3 d4 hlook hput l0
        go_wp2_with fail
        generalize w7.setCell ⟨gL, 0, none⟩ (.slice A7 (acc.length + 1) c7) = W at HS y0 y1 y2 y3 y4 ⊢
        generalize w.heap.size = g1 at HS y0 y1 y2 y3 y4 ⊢
        clear l7 fz
        go_loopw [33] (fun i wr => lkRel B gS gL gF gm t (acc ++ [t.text]) W i wr ∧ Blk wr g1 25 #[.int .i64 t.kind, .string t.text, .int .u64 t.n, .int .i64 t.at_, .slice A t.list.length c]) (fun i _ => t.list.length - (intOf i).toNat)
        case atStart => exact ⟨⟨0, Nat.zero_le _, rfl, by simpa [nmF, flatL] using HS.out.1, Chg.refl _ _⟩, HS.out.2.1⟩
        case round =>
          obtain ⟨⟨k, hk, rfl, hS, hch⟩, hb⟩ := hrel
          have q3 : IntKind.i64.wrap ((k : Int) + 1) = (k : Int) + 1 := IntWalk.i64_in _ ⟨by omega, by omega⟩
          have hwW := HS.out.2.2
          by_cases hlt : k < t.list.length
          · have q1 : decide (k < t.list.length) = true := decide_eq_true hlt
            have q2 : (k : Int) < (t.list.length : Int) := by omega
            have hcw := hwW.trans hch
            have hlm := mn_lets HP.out.2.1 HP.out.2.2.1
            obtain ⟨bb, oo, x, X, cx, rfl, hkx, hRx, z0, z1, z2, z3, z4⟩ := NdsR.at_ (SlR.keep HP.out.2.2.2.1 hcw hlm.lets fun _ _ h => NdR.keep hcw hlm h) hlt
            have htk : t.list.take (k + 1) = t.list.take k ++ [x] := by
              obtain ⟨h1, h2⟩ := List.getElem?_eq_some_iff.1 hkx
              rw [List.take_succ_eq_append_getElem h1, h2]
            have hca := chg_alloc wr (.cells #[.int .i64 x.kind, .string x.text, .int .u64 x.n, .int .i64 x.at_, .slice X x.list.length cx] 25)
            have hS' := hS.keep0 hca
            have f0 := hS'.fn
            have hlen : (nmF (acc ++ [t.text]) (flatL (t.list.take k))).length + x.size ≤ 1048576 := by
              have h1 := nmF_len (acc ++ [t.text]) (flatL (t.list.take k))
              have h2 := nmStep_len acc t
              have h3 := sizeL_take t.list (k + 1)
              rw [htk, sizeL_snoc] at h3
              have h4 := HP.out.2.2.2.2.1
              rw [size_eq] at h4
              rw [flatL_len] at h1
              have h5 : (acc ++ [t.text]).length ≤ acc.length + 1 := by simp
              omega
            have hcall := HP.out.2.2.2.2.2 B gS gL gF gm (wr.alloc (.cells #[.int .i64 x.kind, .string x.text, .int .u64 x.n, .int .i64 x.at_, .slice X x.list.length cx] 25)) x X cx (nmF (acc ++ [t.text]) (flatL (t.list.take k))) (Nat.le_trans HP.out.1 (hcw.trans hca.toMN).size) HP.out.2.1 HP.out.2.2.1 (NdR.keep0 hca hRx) hS' hlen
            have HK := Lib.hid (And.intro (hch.trans hca.toMN) (And.intro (hca.blk hb id) htk))
            clear hS hS' hch hkx hRx hb hca htk hlen hcw hlm hwW
            go_wp2_with fail
            refine hcall.mono fun e w8 h => ?_
            obtain ⟨rfl, hS8, hc8⟩ := h
            clear hcall f0
            have HZ := Lib.hid (And.intro hS8 hc8)
            clear hS8 hc8 z0 z1 z2 z3 z4
            go_wp2_with fail
            go_roundw
            case rel =>
              obtain ⟨hS8, hc8⟩ := HZ.out
              obtain ⟨hch, hb, htk⟩ := HK.out
              refine ⟨⟨k + 1, hlt, by simp, ?_, hch.trans hc8⟩, hc8.blk hb (mn_node _ _ _ _)⟩
              rw [htk, flatL_snoc, nmF_append]
              exact hS8
            case measure => simp [intOf]; omega
          · have q1 : decide (k < t.list.length) = false := decide_eq_false hlt
            obtain rfl : k = t.list.length := by omega
            rw [List.take_length] at hS
            have HZ := Lib.hid (And.intro hS (hwW.trans hch))
            clear hS hch hb hwW
            go_wp2_with fail
            go_end0
            refine ⟨rfl, ?_, HZ.out.2⟩
            rw [flat_eq, nmF_cons]
            rw [nmStep_add (HC.out) HA.out.2.2.2.2]
            exact HZ.out.1
  · have q30 : (t.kind == 30) = false := by simp; omega
    have q10 : (t.kind == 10) = false := by simp; omega
    have HC := Lib.hid hk
    clear hk hb1 hc1 hS1
    go_enter Tryd.func35, Tryd.ntmps35
    go_wp2_with fail
    generalize w.alloc (.cells #[.int .i64 t.kind, .string t.text, .int .u64 t.n, .int .i64 t.at_, .slice A t.list.length c] 25) = W at H1 ⊢
    generalize w.heap.size = g1 at H1 ⊢
    have HS := Lib.hid (And.intro H1.out.2.2 (And.intro H1.out.1 (Chg.toMN (B := B) (gL := gL) (gm := gm) H1.out.2.1)))
    clear c0 c1 c2 c3 c4 H1
    try clear hlook
    go_loopw [33] (fun i wr => lkRel B gS gL gF gm t acc W i wr ∧ Blk wr g1 25 #[.int .i64 t.kind, .string t.text, .int .u64 t.n, .int .i64 t.at_, .slice A t.list.length c]) (fun i _ => t.list.length - (intOf i).toNat)
    case atStart => exact ⟨⟨0, Nat.zero_le _, rfl, by simpa [nmF, flatL] using HS.out.1, Chg.refl _ _⟩, HS.out.2.1⟩
    case round =>
      obtain ⟨⟨k, hk, rfl, hS, hch⟩, hb⟩ := hrel
      have q3 : IntKind.i64.wrap ((k : Int) + 1) = (k : Int) + 1 := IntWalk.i64_in _ ⟨by omega, by omega⟩
      have hwW := HS.out.2.2
      by_cases hlt : k < t.list.length
      · have q1 : decide (k < t.list.length) = true := decide_eq_true hlt
        have q2 : (k : Int) < (t.list.length : Int) := by omega
        have hcw := hwW.trans hch
        have hlm := mn_lets HP.out.2.1 HP.out.2.2.1
        obtain ⟨bb, oo, x, X, cx, rfl, hkx, hRx, z0, z1, z2, z3, z4⟩ := NdsR.at_ (SlR.keep HP.out.2.2.2.1 hcw hlm.lets fun _ _ h => NdR.keep hcw hlm h) hlt
        have htk : t.list.take (k + 1) = t.list.take k ++ [x] := by
          obtain ⟨h1, h2⟩ := List.getElem?_eq_some_iff.1 hkx
          rw [List.take_succ_eq_append_getElem h1, h2]
        have hca := chg_alloc wr (.cells #[.int .i64 x.kind, .string x.text, .int .u64 x.n, .int .i64 x.at_, .slice X x.list.length cx] 25)
        have hS' := hS.keep0 hca
        have f0 := hS'.fn
        have hlen : (nmF acc (flatL (t.list.take k))).length + x.size ≤ 1048576 := by
          have h1 := nmF_len acc (flatL (t.list.take k))
          have h2 := nmStep_len acc t
          have h3 := sizeL_take t.list (k + 1)
          rw [htk, sizeL_snoc] at h3
          have h4 := HP.out.2.2.2.2.1
          rw [size_eq] at h4
          rw [flatL_len] at h1
          have h5 : acc.length ≤ acc.length + 1 := by omega
          omega
        have hcall := HP.out.2.2.2.2.2 B gS gL gF gm (wr.alloc (.cells #[.int .i64 x.kind, .string x.text, .int .u64 x.n, .int .i64 x.at_, .slice X x.list.length cx] 25)) x X cx (nmF acc (flatL (t.list.take k))) (Nat.le_trans HP.out.1 (hcw.trans hca.toMN).size) HP.out.2.1 HP.out.2.2.1 (NdR.keep0 hca hRx) hS' hlen
        have HK := Lib.hid (And.intro (hch.trans hca.toMN) (And.intro (hca.blk hb id) htk))
        clear hS hS' hch hkx hRx hb hca htk hlen hcw hlm hwW
        go_wp2_with fail
        refine hcall.mono fun e w8 h => ?_
        obtain ⟨rfl, hS8, hc8⟩ := h
        clear hcall f0
        have HZ := Lib.hid (And.intro hS8 hc8)
        clear hS8 hc8 z0 z1 z2 z3 z4
        go_wp2_with fail
        go_roundw
        case rel =>
          obtain ⟨hS8, hc8⟩ := HZ.out
          obtain ⟨hch, hb, htk⟩ := HK.out
          refine ⟨⟨k + 1, hlt, by simp, ?_, hch.trans hc8⟩, hc8.blk hb (mn_node _ _ _ _)⟩
          rw [htk, flatL_snoc, nmF_append]
          exact hS8
        case measure => simp [intOf]; omega
      · have q1 : decide (k < t.list.length) = false := decide_eq_false hlt
        obtain rfl : k = t.list.length := by omega
        rw [List.take_length] at hS
        have HZ := Lib.hid (And.intro hS (hwW.trans hch))
        clear hS hch hb hwW
        go_wp2_with fail
        go_end0
        refine ⟨rfl, ?_, HZ.out.2⟩
        rw [flat_eq, nmF_cons]
        rw [nmStep_other HC.out]
        exact HZ.out.1
theorem look_any : ∀ n, LookC n
  | 0 => fun B gS gL gF gm w t A c acc hB hL hM hT => hT.elim
  | n + 1 => look_step n (look_any n)
end Go.Proofs.YtgaodjoddfjfmaaDoor
