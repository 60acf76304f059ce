/-
  The writer's methods, onwards: lists of numbers, flags, instructions.
-/
import Derived.Test.YtfmhedpjkpaohaaEnc1
namespace Go.Proofs.Ytfmhedpjkpaohaa
open Go.RowKit
set_option linter.unusedVariables false
set_option linter.unusedSimpArgs false

theorem letsM_MW {T base B : Nat} (hB : B ≤ base) : LetsM (MW T base) B := fun b t h1 h2 => by have := h2.1; omega

set_option maxRecDepth 100000 in
theorem ints_any (g base B : Nat) (w : World) (bs : List Nat) (form : Bool) (A : Option Addr) (n c : Nat) (l : List Int) (hB : B ≤ base) (hl : IntsR B w (.slice A n c) l) (hwr : Wr 59 w g base form bs) (hlen : bs.length + (10 + (l.map fun _ => 10).sum) ≤ 1099511627776) (hn : n ≤ 1099511627776) :
   Calls Try.prog 23 #[.pointer (some ⟨g, 0, none⟩), .slice A n c] w (EmitE 59 g base form bs (10 + (l.map fun _ => 10).sum) (encL (encI 0) l) w) := by
  have hlenl := hl.len.1
  have Hn := Lib.hid hlenl
  clear hlenl
  go_enter Try.func23, Try.ntmps23
  go_wp2_with fail
  refine (int_any g base _ bs form _ _ (by omega) (by unfold I64; omega) hwr (by omega)).mono fun e w1 h1 => ?_
  obtain ⟨rfl, h1⟩ := h1
  rw [Hn.out] at h1
  have H1 := Lib.hid h1
  clear h1
  go_wp2_with fail
  go_loopw [12] (fun i wr => EmitRel 59 g base form w bs 10 (fun _ => 10) (encI 0 l.length) (encI 0) l i wr) (fun i _ => n - (intOf i).toNat)
  case atStart => exact EmitRel.start H1.out
  case round =>
    clear H1
    obtain ⟨k, hk, rfl, form', ys, hx⟩ := hrel
    have Hx := Lib.hid hx
    by_cases hlt : k < n
    · obtain ⟨b, o, x, rfl, hkx, hi, hcell⟩ := (hl.keep hx.chg (letsM_MW hB)).at_ (k := k) (by have := Hn.out; omega)
      have hsum := sum_take (fun _ : Int => 10) l k
      have hll := hx.length
      have Hkx := Lib.hid hkx
      clear hx hkx hk
      go_wp2_with fail
      refine (int_any g base _ (bs ++ ys) form' x 0 (by omega) hi Hx.out.wr (by omega)).mono fun e w2 h2 => ?_
      obtain ⟨rfl, h2⟩ := h2
      have H2 := Lib.hid h2
      clear h2
      go_wp2_with fail
      go_roundw
      case rel => exact Hx.out.step Hkx.out H2.out
      case measure => simp [intOf]; omega
    · clear hx
      go_wp2_with fail
      go_end0
      have h3 : l.take k = l := List.take_of_length_le (by have := Hn.out; omega)
      have h4 := Hx.out
      rw [h3] at h4
      exact ⟨rfl, form', ys, h4⟩

theorem NumPost.emit {T g base : Nat} {form : Bool} {bs ys : List Nat} {w w' : World} {e : Ending} {most : Nat} (h : NumPost T g base form bs ys w e w') (hm : ys.length ≤ most) : EmitE T g base form bs most (some ys) w e w' :=
  ⟨h.1, form, ys, h.2.1, hm, ⟨rfl, rfl⟩, id, h.2.2⟩

set_option maxRecDepth 100000 in
theorem flag_any (g base : Nat) (w : World) (bs : List Nat) (form b : Bool) (hwr : Wr 59 w g base form bs) (hlen : bs.length ≤ 1099511627776) :
   Calls Try.prog 60 #[.pointer (some ⟨g, 0, none⟩), .bool b] w (EmitE 59 g base form bs 10 (encFlag b) w) := by
  cases b
  · go_enter Try.func60, Try.ntmps60
    go_wp2_with fail
    refine (num_z g base _ bs form _ (by omega) (by unfold U64; omega) hwr hlen).mono fun e w' h => ?_
    have hH := Lib.hid (h.emit (most := 10) (encN_u64 (by unfold U64; omega)))
    obtain ⟨rfl, _, _⟩ := h
    go_wp2_with fail
    go_end0
    have := hH.out
    rw [encN_lt (by omega)] at this
    exact this
  · go_enter Try.func60, Try.ntmps60
    go_wp2_with fail
    refine (num_z g base _ bs form _ (by omega) (by unfold U64; omega) hwr hlen).mono fun e w' h => ?_
    have hH := Lib.hid (h.emit (most := 10) (encN_u64 (by unfold U64; omega)))
    obtain ⟨rfl, _, _⟩ := h
    go_wp2_with fail
    go_end0
    have := hH.out
    rw [encN_lt (by omega)] at this
    exact this

def cCase (_ : CaseD) : Nat := 40
def cInstr (x : InstrD) : Nat := 50 + (x.cases.map cCase).sum

theorem Chg.to_none {M : Nat → Nat → Prop} {w w' : World} (h : Chg M w w') (hM : ∀ b t, ¬ M b t) : Chg (fun _ _ => False) w w' := h.mono fun b t _ h => hM b t h
theorem chg_alloc (w : World) (o : Obj) : Chg (fun _ _ => False) w (w.alloc o) := (Chg.refl _ w).alloc o

theorem Blk.cells4 {w : World} {g t : Nat} {a b c d : Value} (h : Blk w g t #[a, b, c, d]) : w.cell? ⟨g, 0, none⟩ = some a ∧ w.cell? ⟨g, 1, none⟩ = some b ∧ w.cell? ⟨g, 2, none⟩ = some c ∧ w.cell? ⟨g, 3, none⟩ = some d :=
  ⟨by simpa using h.cell 0, by simpa using h.cell 1, by simpa using h.cell 2, by simpa using h.cell 3⟩
theorem Blk.cells5 {w : World} {g t : Nat} {a b c d e : Value} (h : Blk w g t #[a, b, c, d, e]) :
    w.cell? ⟨g, 0, none⟩ = some a ∧ w.cell? ⟨g, 1, none⟩ = some b ∧ w.cell? ⟨g, 2, none⟩ = some c ∧ w.cell? ⟨g, 3, none⟩ = some d ∧ w.cell? ⟨g, 4, none⟩ = some e :=
  ⟨by simpa using h.cell 0, by simpa using h.cell 1, by simpa using h.cell 2, by simpa using h.cell 3, by simpa using h.cell 4⟩
theorem Blk.cells3 {w : World} {g t : Nat} {a b c : Value} (h : Blk w g t #[a, b, c]) : w.cell? ⟨g, 0, none⟩ = some a ∧ w.cell? ⟨g, 1, none⟩ = some b ∧ w.cell? ⟨g, 2, none⟩ = some c :=
  ⟨by simpa using h.cell 0, by simpa using h.cell 1, by simpa using h.cell 2⟩
theorem Blk.cells2 {w : World} {g t : Nat} {a b : Value} (h : Blk w g t #[a, b]) : w.cell? ⟨g, 0, none⟩ = some a ∧ w.cell? ⟨g, 1, none⟩ = some b :=
  ⟨by simpa using h.cell 0, by simpa using h.cell 1⟩

set_option maxRecDepth 100000 in
theorem instr_any (g base B : Nat) (w : World) (bs : List Nat) (form : Bool) (x : InstrD) (A : Option Addr) (c : Nat) (hB : B ≤ base) (hi1 : I64 x.op) (hi2 : I64 x.a) (hi3 : I64 x.b) (hi4 : U64 x.n) (hl : CasesR B w (.slice A x.cases.length c) x.cases)
   (hwr : Wr 59 w g base form bs) (hlen : bs.length + cInstr x ≤ 1099511627776) :
   Calls Try.prog 24 #[.pointer (some ⟨g, 0, none⟩), .agg #[.int .i64 x.op, .int .i64 x.a, .int .i64 x.b, .int .u64 x.n, .slice A x.cases.length c]] w (EmitE 59 g base form bs (cInstr x) (encInstr x) w) := by
  obtain ⟨op, a, b, n, cases⟩ := x
  simp only at hi1 hi2 hi3 hi4 hl ⊢
  unfold cInstr at hlen ⊢
  simp only at hlen ⊢
  have hnl : cases.length ≤ 1099511627776 := by
    have : cases.length ≤ (cases.map cCase).sum := by
      clear hlen hl
      induction cases with
      | nil => simp
      | cons y ys ih => simp [cCase] at ih ⊢; omega
    omega
  have hb := Blk.new w 55 #[.int .i64 op, .int .i64 a, .int .i64 b, .int .u64 n, .slice A cases.length c]
  have hc0 := chg_alloc w (.cells #[.int .i64 op, .int .i64 a, .int .i64 b, .int .u64 n, .slice A cases.length c] 55)
  have hx0 := (EmitX.refl hwr).old hc0
  have hlw := hl
  replace hl := hl.keep hc0 (fun _ _ _ => id)
  clear hwr hc0
  have Hm := Lib.hid (letsM_MW (T := 59) hB)
  go_enter Try.func24, Try.ntmps24
  go_wp2_with fail
  refine (int_any g base _ _ _ op 0 (by omega) hi1 hx0.wr (by have := hx0.length; omega)).mono fun e w1 h => ?_
  obtain ⟨rfl, h⟩ := h
  obtain ⟨f1, y1, hx1⟩ := hx0.then h
  obtain ⟨_, _, hch⟩ := h
  replace hch := hch.chg
  replace hb := hch.blk hb (by rintro ⟨_, h | h⟩ <;> exact absurd h (by decide))
  obtain ⟨c0, c1, c2, c3, c4⟩ := hb.cells5
  replace hl := hl.keep hch Hm.out
  clear hch hx0
  go_wp2_with fail
  refine (int_any g base _ _ _ a (-1) (by omega) hi2 hx1.wr (by have := hx1.length; omega)).mono fun e w2 h => ?_
  obtain ⟨rfl, h⟩ := h
  obtain ⟨f2, y2, hx2⟩ := hx1.then h
  obtain ⟨_, _, hch⟩ := h
  replace hch := hch.chg
  clear c0 c1 c2 c3 c4
  replace hb := hch.blk hb (by rintro ⟨_, h | h⟩ <;> exact absurd h (by decide))
  obtain ⟨c0, c1, c2, c3, c4⟩ := hb.cells5
  replace hl := hl.keep hch Hm.out
  clear hch hx1
  go_wp2_with fail
  refine (int_any g base _ _ _ b (-1) (by omega) hi3 hx2.wr (by have := hx2.length; omega)).mono fun e w3 h => ?_
  obtain ⟨rfl, h⟩ := h
  obtain ⟨f3, y3, hx3⟩ := hx2.then h
  obtain ⟨_, _, hch⟩ := h
  replace hch := hch.chg
  clear c0 c1 c2 c3 c4
  replace hb := hch.blk hb (by rintro ⟨_, h | h⟩ <;> exact absurd h (by decide))
  obtain ⟨c0, c1, c2, c3, c4⟩ := hb.cells5
  replace hl := hl.keep hch Hm.out
  clear hch hx2
  go_wp2_with fail
  refine (num_any g base _ _ _ n hi4 hx3.wr (by have := hx3.length; omega)).mono fun e w4 h => ?_
  replace h := h.emit (most := 10) (encN_u64 hi4)
  obtain ⟨rfl, h⟩ := h
  obtain ⟨f4, y4, hx4⟩ := hx3.then h
  obtain ⟨_, _, hch⟩ := h
  replace hch := hch.chg
  clear c0 c1 c2 c3 c4
  replace hb := hch.blk hb (by rintro ⟨_, h | h⟩ <;> exact absurd h (by decide))
  obtain ⟨c0, c1, c2, c3, c4⟩ := hb.cells5
  replace hl := hl.keep hch Hm.out
  clear hch hx3
  go_wp2_with fail
  refine (int_any g base _ _ _ _ 0 (by omega) (by unfold I64; omega) hx4.wr (by have := hx4.length; omega)).mono fun e w5 h => ?_
  obtain ⟨rfl, h⟩ := h
  obtain ⟨f5, y5, hx5⟩ := hx4.then h
  obtain ⟨_, _, hch⟩ := h
  replace hch := hch.chg
  clear c0 c1 c2 c3 c4
  replace hb := hch.blk hb (by rintro ⟨_, h | h⟩ <;> exact absurd h (by decide))
  obtain ⟨c0, c1, c2, c3, c4⟩ := hb.cells5
  replace hl := hl.keep hch Hm.out
  clear hch hx4
  clear hb hi1 hi2 hi3 hi4 c0 c1 c2 c3
  have Hx5 := Lib.hid hx5
  clear hx5
  go_wp2_with fail
  go_loopw [30] (fun i wr => EmitRel 59 g base form w bs (0 + 10 + 10 + 10 + 10 + 10) cCase (seqO (seqO (seqO (seqO (seqO (some []) (encI 0 op)) (encI (-1) a)) (encI (-1) b)) (some (encN n))) (encI 0 cases.length)) encCase cases i wr) (fun i _ => cases.length - (intOf i).toNat)
  case atStart => exact EmitRel.start ⟨_, _, Hx5.out⟩
  case round =>
    clear Hx5 hl
    obtain ⟨k, hk, rfl, f0, y0, hx⟩ := hrel
    by_cases hlt : k < cases.length
    · obtain ⟨bb, o, x, rfl, hkx, hj1, hj2, hj3, d0, d1, d2, d3⟩ := (hlw.keep hx.chg Hm.out).at_ hlt
      have hsum := sum_at cCase hkx
      rw [show cCase x = 40 from rfl] at hsum
      have Hkx := Lib.hid hkx
      have Hx := Lib.hid hx
      have hb := Blk.new wr 79 #[.bool x.send, .int .i64 x.chan, .int .i64 x.val, .int .i64 x.to]
      have hc0 := chg_alloc wr (.cells #[.bool x.send, .int .i64 x.chan, .int .i64 x.val, .int .i64 x.to] 79)
      have hxl := hx.length
      have hx0 := (EmitX.refl hx.wr).old hc0
      clear hkx hk hx hc0
      go_wp2_with fail
      refine (flag_any g base _ _ _ x.send hx0.wr (by have := hx0.length; omega)).mono fun e w1 h => ?_
      obtain ⟨rfl, h⟩ := h
      obtain ⟨f1, y1, hx1⟩ := hx0.then h
      obtain ⟨_, _, hch⟩ := h
      replace hch := hch.chg
      replace hb := hch.blk hb (by rintro ⟨_, h | h⟩ <;> exact absurd h (by decide))
      obtain ⟨c0, c1, c2, c3⟩ := hb.cells4
      clear hch hx0
      go_wp2_with fail
      refine (int_any g base _ _ _ x.chan 0 (by omega) hj1 hx1.wr (by have := hx1.length; omega)).mono fun e w2 h => ?_
      obtain ⟨rfl, h⟩ := h
      obtain ⟨f2, y2, hx2⟩ := hx1.then h
      obtain ⟨_, _, hch⟩ := h
      replace hch := hch.chg
      clear c0 c1 c2 c3
      replace hb := hch.blk hb (by rintro ⟨_, h | h⟩ <;> exact absurd h (by decide))
      obtain ⟨c0, c1, c2, c3⟩ := hb.cells4
      clear hch hx1
      go_wp2_with fail
      refine (int_any g base _ _ _ x.val (-1) (by omega) hj2 hx2.wr (by have := hx2.length; omega)).mono fun e w3 h => ?_
      obtain ⟨rfl, h⟩ := h
      obtain ⟨f3, y3, hx3⟩ := hx2.then h
      obtain ⟨_, _, hch⟩ := h
      replace hch := hch.chg
      clear c0 c1 c2 c3
      replace hb := hch.blk hb (by rintro ⟨_, h | h⟩ <;> exact absurd h (by decide))
      obtain ⟨c0, c1, c2, c3⟩ := hb.cells4
      clear hch hx2
      go_wp2_with fail
      refine (int_any g base _ _ _ x.to 0 (by omega) hj3 hx3.wr (by have := hx3.length; omega)).mono fun e w4 h => ?_
      obtain ⟨rfl, h⟩ := h
      obtain ⟨f4, y4, hx4⟩ := hx3.then h
      obtain ⟨_, _, hch⟩ := h
      replace hch := hch.chg
      clear c0 c1 c2 c3
      replace hb := hch.blk hb (by rintro ⟨_, h | h⟩ <;> exact absurd h (by decide))
      obtain ⟨c0, c1, c2, c3⟩ := hb.cells4
      clear hch hx3
      clear c0 c1 c2 c3 hb
      have Hx4 := Lib.hid hx4
      clear hx4
      go_wp2_with fail
      go_roundw
      case rel => exact Hx.out.step Hkx.out (Emit.mono ⟨_, _, Hx4.out⟩ (by unfold cCase; omega) (by simp [encCase, seqO_assoc, seqO_nil_l]))
      case measure => simp [intOf]; omega
    · have Hx := Lib.hid hx
      clear hx
      go_wp2_with fail
      go_end0
      have h3 : cases.take k = cases := List.take_of_length_le (by omega)
      have h4 := Hx.out
      rw [h3] at h4
      exact ⟨rfl, f0, y0, h4.mono (by omega) (by simp [encInstr, encL, seqO_assoc, seqO_nil_l])⟩
end Go.Proofs.Ytfmhedpjkpaohaa
