/-
  ref02.shape: is a type what its kind says, but for what is in it?
-/
import Derived.Test.YtgemacdnncjmdaaDoorTBare
namespace Go.Proofs.YtgemacdnncjmdaaDoor
open Go.RowKit
set_option linter.unusedVariables false
set_option linter.unusedSimpArgs false

def names (t : Ty) : List ByteArray := t.fields.map fun p => p.1
theorem shape8 {t : Ty} (h : t.kind = 8) : shapeT t = (bare t true false true false false && nameOK t.name && decide (t.fields.length ≤ 16) && t.fields.all (fun p => nameOK p.1) && decide ((t.fields.map fun p => p.1).Nodup)) := by
  unfold shapeT; rw [if_pos h]
theorem shape9 {t : Ty} (h : t.kind = 9 ∨ t.kind = 10) : shapeT t = (bare t false false false true false && decide (t.list.length = 1)) := by
  unfold shapeT; rw [if_neg (by omega), if_pos h]
theorem shape11 {t : Ty} (h : t.kind = 11) : shapeT t = (bare t false false false true true && decide (t.list.length ≤ 16) && decide (t.res.length ≤ 1)) := by
  unfold shapeT; rw [if_neg (by omega), if_neg (by omega), if_pos h]
theorem shape12 {t : Ty} (h : t.kind = 12) : shapeT t = (bare t true true false false false && nameOK t.name && decide (1 ≤ t.con ∧ t.con ≤ 3)) := by
  unfold shapeT; rw [if_neg (by omega), if_neg (by omega), if_neg (by omega), if_pos h]
theorem shape0 {t : Ty} (h8 : ¬ t.kind = 8) (h9 : ¬ t.kind = 9) (h10 : ¬ t.kind = 10) (h11 : ¬ t.kind = 11) (h12 : ¬ t.kind = 12) : shapeT t = (decide (1 ≤ t.kind ∧ t.kind ≤ 7) && bare t false false false false false) := by
  unfold shapeT; rw [if_neg h8, if_neg (by omega), if_neg h11, if_neg h12]
theorem shape_dup {t : Ty} (h : t.kind = 8) {i k : Nat} {p q : ByteArray × Ty} (hp : t.fields[k]? = some p) (hq : t.fields[i]? = some q) (hk : k < i) (he : p.1 = q.1) : shapeT t = false := by
  rw [shape8 h, decide_eq_false (p := (t.fields.map fun p => p.1).Nodup), Bool.and_false]
  intro hn
  obtain ⟨h1, h2⟩ := List.getElem?_eq_some_iff.1 hp
  obtain ⟨h3, h4⟩ := List.getElem?_eq_some_iff.1 hq
  have := (List.pairwise_iff_getElem.1 hn) k i (by simpa using h1) (by simpa using h3) hk
  simp only [List.getElem_map, h2, h4] at this
  exact this he
theorem shape_bad {t : Ty} (h : t.kind = 8) {i : Nat} {q : ByteArray × Ty} (hq : t.fields[i]? = some q) (hn : nameOK q.1 = false) : shapeT t = false := by
  rw [shape8 h]
  have : t.fields.all (fun p => nameOK p.1) = false := by
    rw [← Bool.not_eq_true, List.all_eq_true]
    intro ha
    have := ha q (List.mem_of_getElem? hq)
    rw [hn] at this
    cases this
  rw [this, Bool.and_false, Bool.false_and]
/-- The first names are names, and apart. -/
def NmOK (t : Ty) (n : Nat) : Prop := (t.fields.take n).all (fun p => nameOK p.1) = true ∧ ((t.fields.take n).map (fun p => p.1)).Nodup
theorem NmOK.zero (t : Ty) : NmOK t 0 := by simp [NmOK]
theorem NmOK.succ {t : Ty} {n : Nat} {q : ByteArray × Ty} (h : NmOK t n) (hq : t.fields[n]? = some q) (hn : nameOK q.1 = true) (hd : ∀ j < n, ∀ p, t.fields[j]? = some p → p.1 ≠ q.1) : NmOK t (n + 1) := by
  obtain ⟨h1, h2⟩ := List.getElem?_eq_some_iff.1 hq
  unfold NmOK
  rw [List.take_succ_eq_append_getElem h1, h2]
  refine ⟨by simp [h.1, hn], ?_⟩
  rw [List.map_append]
  refine List.nodup_append.2 ⟨h.2, by simp, ?_⟩
  intro a ha b hb
  simp only [List.map_cons, List.map_nil, List.mem_singleton] at hb
  subst hb
  obtain ⟨p, hp, rfl⟩ := List.mem_map.1 ha
  obtain ⟨j, hj, rfl⟩ := List.mem_iff_getElem.1 hp
  have hj2 : j < n := by have := hj; rw [List.length_take] at this; omega
  have hj3 : j < t.fields.length := by omega
  have := hd j hj2 t.fields[j] (List.getElem?_eq_getElem hj3)
  simpa using this
theorem NmOK.all {t : Ty} (h : t.kind = 8) (hn : NmOK t t.fields.length) : shapeT t = (bare t true false true false false && nameOK t.name && decide (t.fields.length ≤ 16)) := by
  unfold NmOK at hn
  rw [List.take_length] at hn
  rw [shape8 h, hn.1, decide_eq_true hn.2, Bool.and_true, Bool.and_true]
def shapeRel1 (t : Ty) (W : World) (i : Value) (wr : World) : Prop := ∃ n : Nat, n ≤ t.fields.length ∧ i = .int .i64 n ∧ NmOK t n ∧ Chg (fun _ _ => False) W wr
def shapeRel2 (t : Ty) (i : Nat) (nm : ByteArray) (W : World) (v : Value) (wr : World) : Prop := ∃ k : Nat, k ≤ i ∧ v = .int .i64 k ∧ (∀ j < k, ∀ p, t.fields[j]? = some p → p.1 ≠ nm) ∧ Chg (fun _ _ => False) W wr
theorem int_eq1 (n : Nat) : (((n : Nat) : Int) == 1) = decide (n = 1) := by
  by_cases h : n = 1
  · subst h; rfl
  · rw [decide_eq_false h]; simp; omega
theorem int_dec (n m : Nat) : decide (((n : Nat) : Int) ≤ (m : Int)) = decide (n ≤ m) := by
  by_cases h : n ≤ m
  · rw [decide_eq_true h, decide_eq_true (by omega)]
  · rw [decide_eq_false h, decide_eq_false (by omega)]
set_option maxRecDepth 100000 in
set_option maxHeartbeats 4000000 in
theorem shape_any (n B : Nat) (w : World) (t : Ty) (Af : Option Addr) (cf : Nat) (Al : Option Addr) (cl : Nat) (Ar : Option Addr) (cr : Nat) (hB : B ≤ w.heap.size)
    (hT : TyR (n + 1) B w (tyCells t.kind t.name t.con Af t.fields.length cf Al t.list.length cl Ar t.res.length cr) t) :
    Calls Tryd.prog 69 #[.agg #[.int .i64 t.kind, .string t.name, .int .i64 t.con, .slice Af t.fields.length cf, .slice Al t.list.length cl, .slice Ar t.res.length cr]] w fun e w' => e = .returned (.bool (shapeT t)) ∧ Chg (fun _ _ => False) w w' := by
  obtain ⟨hsm, hFl, hLl, hRl⟩ := TyR.open_ hT
  have hb1 := Blk.new w 33 #[.int .i64 t.kind, .string t.name, .int .i64 t.con, .slice Af t.fields.length cf, .slice Al t.list.length cl, .slice Ar t.res.length cr]
  have hc1 := chg_alloc w (.cells #[.int .i64 t.kind, .string t.name, .int .i64 t.con, .slice Af t.fields.length cf, .slice Al t.list.length cl, .slice Ar t.res.length cr] 33)
  have HT := Lib.hid (And.intro hFl (And.intro hsm hB))
  clear hB hFl hLl hRl hsm hT
  by_cases h8 : t.kind = 8
  · have q8 : (t.kind == 8) = true := by simp [h8]
    have p8 : decide (t.kind = 8) = true := decide_eq_true h8
    have H8 := Lib.hid h8
    clear h8
    go_enter Tryd.func69, Tryd.ntmps69
    go_wp2_with fail
    generalize w.alloc (.cells #[.int .i64 t.kind, .string t.name, .int .i64 t.con, .slice Af t.fields.length cf, .slice Al t.list.length cl, .slice Ar t.res.length cr] 33) = W at hb1 hc1 ⊢
    generalize hg : w.heap.size = g at hb1 ⊢
    obtain ⟨y0, y1, y2, y3, y4, y5⟩ := hb1.cells6
    have H0 := Lib.hid (And.intro hb1 (And.intro hc1 hg))
    clear hb1 hc1 hg
    have hf20 : t.fields.length ≤ 1048576 := HT.out.2.1.2.2.2.1
    clear y0 y1 y2 y3 y4 y5
    go_loopw [3, 4] (fun i _ wr => shapeRel1 t W i wr) (fun i _ _ => t.fields.length - (intOf i).toNat)
    case atStart => exact ⟨0, Nat.zero_le _, rfl, NmOK.zero t, Chg.refl _ _⟩
    case round =>
      obtain ⟨i, hi, rfl, hok, hch⟩ := hrel
      have hbr := hch.blk H0.out.1 id
      obtain ⟨y0, y1, y2, y3, y4, y5⟩ := hbr.cells6
      have hcw := H0.out.2.1.trans hch
      have q3 : IntKind.i64.wrap ((i : Int) + 1) = (i : Int) + 1 := IntWalk.i64_in _ ⟨by omega, by omega⟩
      by_cases hlt : i < t.fields.length
      · have q1 : decide (i < t.fields.length) = true := decide_eq_true hlt
        have q2 : (i : Int) < (t.fields.length : Int) := by omega
        obtain ⟨b, o, nm, x, Xf, xf, Xl, xl, Xr, xr, rfl, hbB, hix, hnms, hRx, z0, z1, z2, z3, z4, z5, z6⟩ := fld_at (SlR.keep HT.out.1 hcw (no_lets _ _) fun _ _ h => h.imp fun _ _ h => TyR.keep0 hcw h) hlt
        have HR := Lib.hid (And.intro hok (And.intro hch (And.intro hcw (And.intro hix (And.intro hbr z0)))))
        clear hok hch hcw hix hbr hnms hRx hbB z0 z1 z2 z3 z4 z5 z6 y0 y1 y2 y4 y5
        go_wp2_with fail
        clear y3
        go_loopw [4] (fun k wr2 => shapeRel2 t i nm wr k wr2) (fun k _ => i - (intOf k).toNat)
        case atStart => exact ⟨0, Nat.zero_le _, rfl, fun j hj => absurd hj (by omega), Chg.refl _ _⟩
        case round =>
          rename_i wr2
          obtain ⟨k, hk, rfl, hne, hch2⟩ := hrel
          have hcw2 := HR.out.2.2.1.trans hch2
          have hbr2 := hch2.blk HR.out.2.2.2.2.1 id
          obtain ⟨y0, y1, y2, y3, y4, y5⟩ := hbr2.cells6
          have zi := hch2.cell HR.out.2.2.2.2.2 fun _ => id
          by_cases hkl : k < i
          · have r1 : decide (k < i) = true := decide_eq_true hkl
            have r2 : (k : Int) < (t.fields.length : Int) := by omega
            have r3 : IntKind.i64.wrap ((k : Int) + 1) = (k : Int) + 1 := IntWalk.i64_in _ ⟨by omega, by omega⟩
            obtain ⟨b', o', nm', x', Yf, yf, Yl, yl, Yr, yr, hA', hbB', hkx, hnms', hRx', z0, z1, z2, z3, z4, z5, z6⟩ := fld_at (SlR.keep HT.out.1 hcw2 (no_lets _ _) fun _ _ h => h.imp fun _ _ h => TyR.keep0 hcw2 h) (show k < t.fields.length by omega)
            injection hA' with hA'
            injection hA' with h1 h2
            subst h1 h2
            have HK := Lib.hid (And.intro hne (And.intro hch2 (And.intro hcw2 (And.intro hkx hbr2))))
            clear hne hch2 hcw2 hkx hbr2 hnms' hRx' hbB' z1 z2 z3 z4 z5 z6 y0 y1 y2 y4 y5
            by_cases he : nm' = nm
            · have q5 := str_eq he
              replace he := Lib.hid he
              go_wp2_with fail
              go_quiet (fail)
              go_wp2_with fail
              go_ret
              refine ⟨?_, by repeat' (first | exact HK.out.2.2.1 | apply Chg.drew | apply Chg.drewN)⟩
              rw [shape_dup H8.out HK.out.2.2.2.1 HR.out.2.2.2.1 hkl he.out]
              rfl
            · have q5 := str_ne he
              replace he := Lib.hid he
              go_wp2_with fail
              go_quiet (fail)
              go_wp2_with fail
              go_roundw
              case rel =>
                refine ⟨k + 1, hkl, by simp, fun j hj p hp => ?_, by repeat' (first | exact HK.out.2.1 | apply Chg.drew | apply Chg.drewN)⟩
                rcases Nat.lt_or_ge j k with hjk | hjk
                · exact HK.out.1 j hjk p hp
                · obtain rfl : j = k := by omega
                  rw [HK.out.2.2.2.1] at hp
                  injection hp with hp
                  rw [← hp]
                  exact he.out
              case measure => simp [intOf]; omega
          · have r1 : decide (k < i) = false := decide_eq_false hkl
            obtain rfl : k = i := by omega
            have HK := Lib.hid (And.intro hne (And.intro hch2 (And.intro hcw2 hbr2)))
            clear hne hch2 hcw2 hbr2 y0 y1 y2 y4 y5
            have hnm := rname_any nm
            cases hn : nameOK nm with
            | true =>
              rw [hn] at hnm
              have HN := Lib.hid hn
              clear hn
              go_wp2_with fail
              refine (hnm _).mono fun e w2 h => ?_
              obtain ⟨rfl, hc2⟩ := h
              go_wp2_with fail
              go_roundw
              case rel => exact ⟨k + 1, hlt, by simp, HR.out.1.succ HR.out.2.2.2.1 HN.out HK.out.1, (HR.out.2.1.trans HK.out.2.1).trans hc2⟩
              case measure => simp [intOf]; omega
            | false =>
              rw [hn] at hnm
              have HN := Lib.hid hn
              clear hn
              go_wp2_with fail
              refine (hnm _).mono fun e w2 h => ?_
              obtain ⟨rfl, hc2⟩ := h
              go_wp2_with fail
              go_ret
              refine ⟨?_, HK.out.2.2.1.trans hc2⟩
              rw [shape_bad H8.out HR.out.2.2.2.1 HN.out]
              rfl
      · have q1 : decide (i < t.fields.length) = false := decide_eq_false hlt
        obtain rfl : i = t.fields.length := by omega
        have HS := Lib.hid (NmOK.all H8.out hok)
        have HC := Lib.hid hcw
        clear hok hch hcw hbr
        go_wp2_with fail
        have hbare := bareS t Af cf Al cl Ar cr
        cases hb : bare t true false true false false with
        | true =>
          rw [hb] at hbare
          have HB := Lib.hid hb
          clear hb
          refine (hbare _).mono fun e w1 h => ?_
          obtain ⟨rfl, hc1⟩ := h
          have z1 := hc1.cell y1 fun _ => id
          have z2 := hc1.cell y2 fun _ => id
          have z3 := hc1.cell y3 fun _ => id
          have hnm := rname_any t.name
          cases hn : nameOK t.name with
          | true =>
            rw [hn] at hnm
            have HN := Lib.hid hn
            clear hn
            go_wp2_with fail
            refine (hnm _).mono fun e w2 h => ?_
            obtain ⟨rfl, hc2⟩ := h
            have v1 := hc2.cell z1 fun _ => id
            have v2 := hc2.cell z2 fun _ => id
            have v3 := hc2.cell z3 fun _ => id
            by_cases hl : t.fields.length ≤ 16
            · have hl2 : (t.fields.length : Int) ≤ 16 := by omega
              go_wp2_with fail
              go_ret
              refine ⟨?_, (HC.out.trans hc1).trans hc2⟩
              rw [HS.out, HB.out, HN.out, decide_eq_true hl]
              first
                | rfl
                | (simp; done)
                | (simp; omega)
            · have hl2 : ¬ (t.fields.length : Int) ≤ 16 := by omega
              go_wp2_with fail
              go_ret
              refine ⟨?_, (HC.out.trans hc1).trans hc2⟩
              rw [HS.out, HB.out, HN.out, decide_eq_false hl]
              first
                | rfl
                | (simp; done)
                | (simp; omega)
          | false =>
            rw [hn] at hnm
            have HN := Lib.hid hn
            clear hn
            go_wp2_with fail
            refine (hnm _).mono fun e w2 h => ?_
            obtain ⟨rfl, hc2⟩ := h
            go_wp2_with fail
            go_ret
            refine ⟨?_, (HC.out.trans hc1).trans hc2⟩
            rw [HS.out, HB.out, HN.out]
            first
              | rfl
              | simp
        | false =>
          rw [hb] at hbare
          have HB := Lib.hid hb
          clear hb
          refine (hbare _).mono fun e w1 h => ?_
          obtain ⟨rfl, hc1⟩ := h
          go_wp2_with fail
          all_goals
            go_ret
            refine ⟨?_, HC.out.trans hc1⟩
            rw [HS.out, HB.out]
            first
              | rfl
              | simp
  · have q8 : (t.kind == 8) = false := by simp [h8]
    have p8 : decide (t.kind = 8) = false := decide_eq_false h8
    by_cases h9 : t.kind = 9
    · have q9 : (t.kind == 9) = true := by simp [h9]
      have p9 : decide (t.kind = 9) = true := decide_eq_true h9
      have HS := Lib.hid (shape9 (.inl h9))
      clear h9 h8
      go_enter Tryd.func69, Tryd.ntmps69
      go_wp2_with fail
      generalize w.alloc (.cells #[.int .i64 t.kind, .string t.name, .int .i64 t.con, .slice Af t.fields.length cf, .slice Al t.list.length cl, .slice Ar t.res.length cr] 33) = W at hb1 hc1 ⊢
      generalize hg : w.heap.size = g at hb1 ⊢
      obtain ⟨y0, y1, y2, y3, y4, y5⟩ := hb1.cells6
      have H0 := Lib.hid (And.intro hb1 (And.intro hc1 hg))
      clear hb1 hc1 hg
      have hbare := bareL t Af cf Al cl Ar cr
      cases hb : bare t false false false true false with
      | true =>
        rw [hb] at hbare
        have HB := Lib.hid hb
        clear hb
        refine (hbare _).mono fun e w1 h => ?_
        obtain ⟨rfl, hc1⟩ := h
        have z4 := hc1.cell y4 fun _ => id
        go_wp2_with fail
        go_ret
        refine ⟨?_, H0.out.2.1.trans hc1⟩
        rw [HS.out, HB.out, ← int_eq1]
        rfl
      | false =>
        rw [hb] at hbare
        have HB := Lib.hid hb
        clear hb
        refine (hbare _).mono fun e w1 h => ?_
        obtain ⟨rfl, hc1⟩ := h
        go_wp2_with fail
        all_goals
          go_ret
          refine ⟨?_, H0.out.2.1.trans hc1⟩
          rw [HS.out, HB.out]
          first
            | rfl
            | simp
    · have q9 : (t.kind == 9) = false := by simp [h9]
      have p9 : decide (t.kind = 9) = false := decide_eq_false h9
      by_cases h10 : t.kind = 10
      · have q10 : (t.kind == 10) = true := by simp [h10]
        have p10 : decide (t.kind = 10) = true := decide_eq_true h10
        have HS := Lib.hid (shape9 (.inr h10))
        clear h10 h9 h8
        go_enter Tryd.func69, Tryd.ntmps69
        go_wp2_with fail
        generalize w.alloc (.cells #[.int .i64 t.kind, .string t.name, .int .i64 t.con, .slice Af t.fields.length cf, .slice Al t.list.length cl, .slice Ar t.res.length cr] 33) = W at hb1 hc1 ⊢
        generalize hg : w.heap.size = g at hb1 ⊢
        obtain ⟨y0, y1, y2, y3, y4, y5⟩ := hb1.cells6
        have H0 := Lib.hid (And.intro hb1 (And.intro hc1 hg))
        clear hb1 hc1 hg
        have hbare := bareL t Af cf Al cl Ar cr
        cases hb : bare t false false false true false with
        | true =>
          rw [hb] at hbare
          have HB := Lib.hid hb
          clear hb
          refine (hbare _).mono fun e w1 h => ?_
          obtain ⟨rfl, hc1⟩ := h
          have z4 := hc1.cell y4 fun _ => id
          go_wp2_with fail
          go_ret
          refine ⟨?_, H0.out.2.1.trans hc1⟩
          rw [HS.out, HB.out, ← int_eq1]
          rfl
        | false =>
          rw [hb] at hbare
          have HB := Lib.hid hb
          clear hb
          refine (hbare _).mono fun e w1 h => ?_
          obtain ⟨rfl, hc1⟩ := h
          go_wp2_with fail
          all_goals
            go_ret
            refine ⟨?_, H0.out.2.1.trans hc1⟩
            rw [HS.out, HB.out]
            first
              | rfl
              | simp
      · have q10 : (t.kind == 10) = false := by simp [h10]
        have p10 : decide (t.kind = 10) = false := decide_eq_false h10
        by_cases h11 : t.kind = 11
        · have q11 : (t.kind == 11) = true := by simp [h11]
          have p11 : decide (t.kind = 11) = true := decide_eq_true h11
          have HS := Lib.hid (shape11 h11)
          clear h11 h10 h9 h8
          go_enter Tryd.func69, Tryd.ntmps69
          go_wp2_with fail
          generalize w.alloc (.cells #[.int .i64 t.kind, .string t.name, .int .i64 t.con, .slice Af t.fields.length cf, .slice Al t.list.length cl, .slice Ar t.res.length cr] 33) = W at hb1 hc1 ⊢
          generalize hg : w.heap.size = g at hb1 ⊢
          obtain ⟨y0, y1, y2, y3, y4, y5⟩ := hb1.cells6
          have H0 := Lib.hid (And.intro hb1 (And.intro hc1 hg))
          clear hb1 hc1 hg
          have hbare := bareF t Af cf Al cl Ar cr
          cases hb : bare t false false false true true with
          | true =>
            rw [hb] at hbare
            have HB := Lib.hid hb
            clear hb
            refine (hbare _).mono fun e w1 h => ?_
            obtain ⟨rfl, hc1⟩ := h
            have z4 := hc1.cell y4 fun _ => id
            have z5 := hc1.cell y5 fun _ => id
            by_cases hl : t.list.length ≤ 16
            · have hl2 : (t.list.length : Int) ≤ 16 := by omega
              go_wp2_with fail
              go_ret
              refine ⟨?_, H0.out.2.1.trans hc1⟩
              rw [HS.out, HB.out, decide_eq_true hl, ← int_dec t.res.length 1]
              rfl
            · have hl2 : ¬ (t.list.length : Int) ≤ 16 := by omega
              go_wp2_with fail
              go_ret
              refine ⟨?_, H0.out.2.1.trans hc1⟩
              rw [HS.out, HB.out, decide_eq_false hl]
              rfl
          | false =>
            rw [hb] at hbare
            have HB := Lib.hid hb
            clear hb
            refine (hbare _).mono fun e w1 h => ?_
            obtain ⟨rfl, hc1⟩ := h
            go_wp2_with fail
            all_goals
              go_ret
              refine ⟨?_, H0.out.2.1.trans hc1⟩
              rw [HS.out, HB.out]
              first
                | rfl
                | simp
        · have q11 : (t.kind == 11) = false := by simp [h11]
          have p11 : decide (t.kind = 11) = false := decide_eq_false h11
          by_cases h12 : t.kind = 12
          · have q12 : (t.kind == 12) = true := by simp [h12]
            have p12 : decide (t.kind = 12) = true := decide_eq_true h12
            have HS := Lib.hid (shape12 h12)
            clear h12 h11 h10 h9 h8
            go_enter Tryd.func69, Tryd.ntmps69
            go_wp2_with fail
            generalize w.alloc (.cells #[.int .i64 t.kind, .string t.name, .int .i64 t.con, .slice Af t.fields.length cf, .slice Al t.list.length cl, .slice Ar t.res.length cr] 33) = W at hb1 hc1 ⊢
            generalize hg : w.heap.size = g at hb1 ⊢
            obtain ⟨y0, y1, y2, y3, y4, y5⟩ := hb1.cells6
            have H0 := Lib.hid (And.intro hb1 (And.intro hc1 hg))
            clear hb1 hc1 hg
            have hbare := bareP t Af cf Al cl Ar cr
            cases hb : bare t true true false false false with
            | true =>
              rw [hb] at hbare
              have HB := Lib.hid hb
              clear hb
              refine (hbare _).mono fun e w1 h => ?_
              obtain ⟨rfl, hc1⟩ := h
              have z1 := hc1.cell y1 fun _ => id
              have z2 := hc1.cell y2 fun _ => id
              have z3 := hc1.cell y3 fun _ => id
              have hnm := rname_any t.name
              cases hn : nameOK t.name with
              | true =>
                rw [hn] at hnm
                have HN := Lib.hid hn
                clear hn
                go_wp2_with fail
                refine (hnm _).mono fun e w2 h => ?_
                obtain ⟨rfl, hc2⟩ := h
                have v1 := hc2.cell z1 fun _ => id
                have v2 := hc2.cell z2 fun _ => id
                have v3 := hc2.cell z3 fun _ => id
                by_cases ha : 1 ≤ t.con
                · by_cases hb : t.con ≤ 3
                  · go_wp2_with fail
                    go_ret
                    refine ⟨?_, (H0.out.2.1.trans hc1).trans hc2⟩
                    rw [HS.out, HB.out, HN.out, decide_eq_true (p := 1 ≤ t.con ∧ t.con ≤ 3) ⟨ha, hb⟩]
                    first
                      | rfl
                      | simp [hb]
                  · go_wp2_with fail
                    go_ret
                    refine ⟨?_, (H0.out.2.1.trans hc1).trans hc2⟩
                    rw [HS.out, HB.out, HN.out, decide_eq_false (p := 1 ≤ t.con ∧ t.con ≤ 3) (by omega)]
                    first
                      | rfl
                      | simp [hb]
                · go_wp2_with fail
                  go_ret
                  refine ⟨?_, (H0.out.2.1.trans hc1).trans hc2⟩
                  rw [HS.out, HB.out, HN.out, decide_eq_false (p := 1 ≤ t.con ∧ t.con ≤ 3) (by omega)]
                  rfl
              | false =>
                rw [hn] at hnm
                have HN := Lib.hid hn
                clear hn
                go_wp2_with fail
                refine (hnm _).mono fun e w2 h => ?_
                obtain ⟨rfl, hc2⟩ := h
                go_wp2_with fail
                go_ret
                refine ⟨?_, (H0.out.2.1.trans hc1).trans hc2⟩
                rw [HS.out, HB.out, HN.out]
                first
                  | rfl
                  | simp
            | false =>
              rw [hb] at hbare
              have HB := Lib.hid hb
              clear hb
              refine (hbare _).mono fun e w1 h => ?_
              obtain ⟨rfl, hc1⟩ := h
              go_wp2_with fail
              all_goals
                go_ret
                refine ⟨?_, H0.out.2.1.trans hc1⟩
                rw [HS.out, HB.out]
                first
                  | rfl
                  | simp
          · have q12 : (t.kind == 12) = false := by simp [h12]
            have p12 : decide (t.kind = 12) = false := decide_eq_false h12
            have HS := Lib.hid (shape0 h8 h9 h10 h11 h12)
            clear h12 h11 h10 h9 h8
            have hbare := bareN t Af cf Al cl Ar cr
            by_cases ha : 1 ≤ t.kind
            · by_cases hb : t.kind ≤ 7
              · go_enter Tryd.func69, Tryd.ntmps69
                go_wp2_with fail
                generalize w.alloc (.cells #[.int .i64 t.kind, .string t.name, .int .i64 t.con, .slice Af t.fields.length cf, .slice Al t.list.length cl, .slice Ar t.res.length cr] 33) = W at hb1 hc1 ⊢
                generalize hg : w.heap.size = g at hb1 ⊢
                obtain ⟨y0, y1, y2, y3, y4, y5⟩ := hb1.cells6
                have H0 := Lib.hid (And.intro hb1 (And.intro hc1 hg))
                clear hb1 hc1 hg
                refine (hbare _).mono fun e w1 h => ?_
                obtain ⟨rfl, hc1⟩ := h
                go_wp2_with fail
                go_ret
                refine ⟨?_, H0.out.2.1.trans hc1⟩
                rw [HS.out, decide_eq_true (p := 1 ≤ t.kind ∧ t.kind ≤ 7) ⟨ha, hb⟩, Bool.true_and]
                rfl
              · go_enter Tryd.func69, Tryd.ntmps69
                go_wp2_with fail
                generalize w.alloc (.cells #[.int .i64 t.kind, .string t.name, .int .i64 t.con, .slice Af t.fields.length cf, .slice Al t.list.length cl, .slice Ar t.res.length cr] 33) = W at hb1 hc1 ⊢
                generalize hg : w.heap.size = g at hb1 ⊢
                obtain ⟨y0, y1, y2, y3, y4, y5⟩ := hb1.cells6
                have H0 := Lib.hid (And.intro hb1 (And.intro hc1 hg))
                clear hb1 hc1 hg
                go_ret
                refine ⟨?_, H0.out.2.1⟩
                rw [HS.out, decide_eq_false (p := 1 ≤ t.kind ∧ t.kind ≤ 7) (by omega)]
                first
                  | rfl
                  | simp [hb]
            · go_enter Tryd.func69, Tryd.ntmps69
              go_wp2_with fail
              generalize w.alloc (.cells #[.int .i64 t.kind, .string t.name, .int .i64 t.con, .slice Af t.fields.length cf, .slice Al t.list.length cl, .slice Ar t.res.length cr] 33) = W at hb1 hc1 ⊢
              generalize hg : w.heap.size = g at hb1 ⊢
              obtain ⟨y0, y1, y2, y3, y4, y5⟩ := hb1.cells6
              have H0 := Lib.hid (And.intro hb1 (And.intro hc1 hg))
              clear hb1 hc1 hg
              go_ret
              refine ⟨?_, H0.out.2.1⟩
              rw [HS.out, decide_eq_false (p := 1 ≤ t.kind ∧ t.kind ≤ 7) (by omega)]
              rfl
end Go.Proofs.YtgemacdnncjmdaaDoor
