/-
  code.Encode: the bytes of a module, or why there are none.
-/
import Derived.Test.YtfmhedpjkpaohaaEnc2
namespace Go.Proofs.Ytfmhedpjkpaohaa
open Go.RowKit
set_option linter.unusedVariables false
set_option linter.unusedSimpArgs false

def cInts (l : List Int) : Nat := 10 + (l.map fun _ => 10).sum
def cShape (s : ShapeD) : Nat := 20 + cInts s.list
def cFunc (f : FuncD) : Nat := 30 + cInts f.locals + cInts f.caps + (f.code.map cInstr).sum
def cMod (m : ModD) : Nat := 20 + (m.types.map cShape).sum + (m.funcs.map cFunc).sum
theorem len_le_sum {α : Type} (c : α → Nat) (h : ∀ x, 1 ≤ c x) : ∀ l : List α, l.length ≤ (l.map c).sum
  | [] => by simp
  | x :: l => by have := len_le_sum c h l; have := h x; simp only [List.length_cons, List.map_cons, List.sum_cons]; omega

/-- What Encode answers. -/
def encAns (m : ModD) : Int × List Nat := match encMod m with
  | none => (1, [])
  | some l => if 1048576 < l.length then (6, []) else (0, l)
def EncRes (m : ModD) (w : World) (e : Ending) (w' : World) : Prop :=
  ∃ A n c, e = .returned (.tuple #[.slice A n c, .int .i64 (encAns m).1]) ∧ Below w.heap.size w w' ∧ w'.ownsRow w.heap.size 5 1 (.slice A n c) n (u8s (encAns m).2) ∧ (encAns m).2.length = n

theorem enc_end {T : Nat} {m : ModD} {w w0 w' : World} {e : Ending} {g : Nat} {bs ys : List Nat} {form' : Bool} {most : Nat} (hw : Below w.heap.size w w0) (hx : EmitX T g w.heap.size false [] form' ys most (encMod m) w0 w')
   (he : (form' = true → e = .returned (.tuple #[.slice none 0 0, .int .i64 1])) ∧ (form' = false → 1048576 < ys.length → e = .returned (.tuple #[.slice none 0 0, .int .i64 6])) ∧
     (form' = false → ¬ 1048576 < ys.length → ∀ A c, w'.cell? ⟨g, 0, none⟩ = some (.slice A ys.length c) → e = .returned (.tuple #[.slice A ys.length c, .int .i64 0]))) : EncRes m w e w' := by
  have hb : Below w.heap.size w w' := hw.trans (hx.chg.below (fun b t h => h.1) hw.size)
  obtain ⟨hg, A, c, h1, h2⟩ := hx.wr
  simp only [List.nil_append] at h1 h2
  have c0 : w'.cell? ⟨g, 0, none⟩ = some (.slice A ys.length c) := by simpa using h1.cell 0
  have hwant := hx.want
  unfold EncRes encAns
  cases hm : encMod m with
  | none =>
    rw [hm] at hwant
    exact ⟨none, 0, 0, he.1 hwant, hb, World.ownsRow_nil _ _ _ _, rfl⟩
  | some l =>
    rw [hm] at hwant
    obtain ⟨rfl, rfl⟩ := hwant
    by_cases hl : 1048576 < ys.length
    · simp only [hl, if_true]
      exact ⟨none, 0, 0, he.2.1 rfl hl, hb, World.ownsRow_nil _ _ _ _, rfl⟩
    · simp only [hl, if_false]
      exact ⟨A, ys.length, c, he.2.2 rfl hl A c c0, hb, h2, rfl⟩

set_option maxRecDepth 100000 in
set_option maxHeartbeats 1000000 in
theorem encode_any (w : World) (B : Nat) (v : Value) (m : ModD) (hBw : B ≤ w.heap.size) (hm : ModR B w v m) (hlen : cMod m ≤ 1099511627776) :
   Calls Try.prog 10 #[v] w (EncRes m w) := by
  obtain ⟨types, funcs⟩ := m
  obtain ⟨A, c, A', c', rfl, hT, hF⟩ := hm
  simp only at hT hF ⊢
  unfold cMod at hlen
  simp only at hlen
  have hnT := len_le_sum cShape (fun _ => by unfold cShape cInts; omega) types
  have hnF := len_le_sum cFunc (fun _ => by unfold cFunc cInts; omega) funcs
  have hw00 := chg_alloc w (.cells #[.slice A types.length c, .slice A' funcs.length c'] 25)
  have hw0 := hw00.alloc (.cells #[.slice none 0 0, .bool false] 59)
  have hbel : Below w.heap.size w ((w.alloc (.cells #[.slice A types.length c, .slice A' funcs.length c'] 25)).alloc (.cells #[.slice none 0 0, .bool false] 59)) := hw0.below (fun _ _ h => h.elim) (Nat.le_refl _)
  have hb := (Blk.new w 25 #[.slice A types.length c, .slice A' funcs.length c']).alloc (.cells #[.slice none 0 0, .bool false] 59)
  obtain ⟨bs0, hbs, hbl⟩ : ∃ l : List Nat, l = [] ∧ l.length ≤ 0 := ⟨[], rfl, by simp⟩
  have hwr : Wr 59 ((w.alloc (.cells #[.slice A types.length c, .slice A' funcs.length c'] 25)).alloc (.cells #[.slice none 0 0, .bool false] 59)) (w.heap.size + 1) w.heap.size false bs0 := by
    rw [hbs]
    have h := Blk.new (w.alloc (.cells #[.slice A types.length c, .slice A' funcs.length c'] 25)) 59 #[.slice none 0 0, .bool false]
    exact ⟨by omega, none, 0, by simpa using h, World.ownsRow_nil _ _ _ _⟩
  replace hT := hT.keep hw0 (fun _ _ _ => id)
  replace hF := hF.keep hw0 (fun _ _ _ => id)
  have hx0 := EmitX.refl hwr
  have Hbs := Lib.hid hbs
  clear hbs
  have Hm := Lib.hid (letsM_MW (T := 59) hBw)
  have hB := hBw
  go_enter Try.func10, Try.ntmps10
  go_wp2_with fail
  clear hw00 hw0 hwr
  generalize hw0e : (w.alloc (.cells #[.slice A types.length c, .slice A' funcs.length c'] 25)).alloc (.cells #[.slice none 0 0, .bool false] 59) = w0 at hb hT hF hx0 hbel ⊢
  generalize hg : w.heap.size + 1 = g at hx0 ⊢
  generalize hbase : w.heap.size = base at hb hx0 Hm hB hbel ⊢
  obtain ⟨c0, c1⟩ := hb.cells2
  have Hbel := Lib.hid hbel
  have HW := Lib.hid hbase
  clear hbel hbase hg hw0e
  refine (int_any g base _ _ _ _ 0 (by omega) (by unfold I64; omega) hx0.wr (by have := hx0.length; omega)).mono fun e w1 h => ?_
  obtain ⟨rfl, h⟩ := h
  obtain ⟨f1, y1, hx1⟩ := hx0.then h
  obtain ⟨_, _, hch⟩ := h
  replace hch := hch.chg
  have hb1 := hch.blk hb (by rintro ⟨_, h | h⟩ <;> exact absurd h (by decide))
  clear c0 c1
  obtain ⟨c0, c1⟩ := hb1.cells2
  clear hch hx0
  clear hb1
  have Hx1 := Lib.hid hx1
  clear hx1
  go_wp2_with fail
  go_loopw [21] (fun i wr => EmitRel 59 g base false w0 bs0 (0 + 10) cShape (seqO (some []) (encI 0 types.length)) encShape types i wr) (fun i _ => types.length - (intOf i).toNat)
  case atStart => exact EmitRel.start ⟨_, _, Hx1.out⟩
  case round =>
    clear Hx1 c0 c1
    obtain ⟨k, hk, rfl, f0, y0, hx⟩ := hrel
    have hxl := hx.length
    by_cases hlt : k < types.length
    · obtain ⟨bb, o, x, A2, c2, rfl, hkx, hj1, hj2, hl2, d0, d1, d2⟩ := (hT.keep hx.chg Hm.out).at_ hlt
      have hsum := sum_at cShape hkx
      unfold cShape at hsum
      rw [show (List.map (fun s : ShapeD => 20 + cInts s.list) types) = types.map cShape from rfl, show (List.map (fun s : ShapeD => 20 + cInts s.list) (types.take k)) = (types.take k).map cShape from rfl] at hsum
      unfold cInts at hsum
      have hnl : x.list.length ≤ 1099511627776 := by have := len_le_sum (fun _ : Int => 10) (fun _ => by omega) x.list; omega
      have Hkx := Lib.hid hkx
      have Hx := Lib.hid hx
      have hbx := Blk.new wr 41 #[.int .i64 x.kind, .slice A2 x.list.length c2, .int .i64 x.res]
      have hc0 := chg_alloc wr (.cells #[.int .i64 x.kind, .slice A2 x.list.length c2, .int .i64 x.res] 41)
      have hx0 := (EmitX.refl hx.wr).old hc0
      replace hl2 := hl2.keep hc0 (fun _ _ _ => id)
      clear hkx hk hx hc0 hT hF hb
      go_wp2_with fail
      refine (int_any g base _ _ _ x.kind 0 (by omega) hj1 hx0.wr (by have := hx0.length; omega)).mono fun e w1 h => ?_
      obtain ⟨rfl, h⟩ := h
      obtain ⟨f1, y1, hx1⟩ := hx0.then h
      obtain ⟨_, _, hch⟩ := h
      replace hch := hch.chg
      replace hbx := hch.blk hbx (by rintro ⟨_, h | h⟩ <;> exact absurd h (by decide))
      obtain ⟨e0, e1, e2⟩ := hbx.cells3
      replace hl2 := hl2.keep hch Hm.out
      clear hch hx0
      go_wp2_with fail
      refine (ints_any g base B _ _ _ _ _ _ _ hB hl2 hx1.wr (by have := hx1.length; omega) (by omega)).mono fun e w2 h => ?_
      obtain ⟨rfl, h⟩ := h
      obtain ⟨f2, y2, hx2⟩ := hx1.then h
      obtain ⟨_, _, hch⟩ := h
      replace hch := hch.chg
      clear e0 e1 e2
      replace hbx := hch.blk hbx (by rintro ⟨_, h | h⟩ <;> exact absurd h (by decide))
      obtain ⟨e0, e1, e2⟩ := hbx.cells3
      replace hl2 := hl2.keep hch Hm.out
      clear hch hx1
      go_wp2_with fail
      refine (int_any g base _ _ _ x.res 0 (by omega) hj2 hx2.wr (by have := hx2.length; omega)).mono fun e w3 h => ?_
      obtain ⟨rfl, h⟩ := h
      obtain ⟨f3, y3, hx3⟩ := hx2.then h
      obtain ⟨_, _, hch⟩ := h
      replace hch := hch.chg
      clear e0 e1 e2
      replace hbx := hch.blk hbx (by rintro ⟨_, h | h⟩ <;> exact absurd h (by decide))
      obtain ⟨e0, e1, e2⟩ := hbx.cells3
      replace hl2 := hl2.keep hch Hm.out
      clear hch hx2
      clear e0 e1 e2 hbx hl2
      have Hx3 := Lib.hid hx3
      clear hx3
      go_wp2_with fail
      go_roundw
      case rel => exact Hx.out.step Hkx.out (Emit.mono ⟨_, _, Hx3.out⟩ (by unfold cShape cInts; omega) (by simp [encShape, seqO_assoc, seqO_nil_l]))
      case measure => simp [intOf]; omega
    · have h3 : types.take k = types := List.take_of_length_le (by omega)
      rw [h3] at hx hxl
      clear hT
      replace hb := hx.chg.blk hb (by rintro ⟨_, h | h⟩ <;> exact absurd h (by decide))
      obtain ⟨c0, c1⟩ := hb.cells2
      obtain ⟨hx1, hq⟩ : (EmitX 59 g base false bs0 f0 y0 (0 + 10 + (types.map cShape).sum) (seqO (seqO (some []) (encI 0 types.length)) (allO encShape types)) w0 wr) ∧ True := ⟨hx, trivial⟩
      clear hx hq hk h3
      go_wp2_with fail
      refine (int_any g base _ _ _ _ 0 (by omega) (by unfold I64; omega) hx1.wr (by have := hx1.length; omega)).mono fun e w2 h => ?_
      obtain ⟨rfl, h⟩ := h
      obtain ⟨f2, y2, hx2⟩ := hx1.then h
      obtain ⟨_, _, hch⟩ := h
      replace hch := hch.chg
      replace hb := hch.blk hb (by rintro ⟨_, h | h⟩ <;> exact absurd h (by decide))
      clear c0 c1
      obtain ⟨c0, c1⟩ := hb.cells2
      clear hch hx1
      clear hb
      have Hx2 := Lib.hid hx2
      clear hx2
      go_wp2_with fail
      go_loopw [46] (fun i wr => EmitRel 59 g base false w0 bs0 (0 + 10 + (types.map cShape).sum + 10) cFunc (seqO (seqO (seqO (some []) (encI 0 types.length)) (allO encShape types)) (encI 0 funcs.length)) encFunc funcs i wr) (fun i _ => funcs.length - (intOf i).toNat)
      case atStart => exact EmitRel.start ⟨_, _, Hx2.out⟩
      case round =>
        clear Hx2 c0 c1
        obtain ⟨k, hk, rfl, f0, y0, hx⟩ := hrel
        have hxl := hx.length
        by_cases hlt : k < funcs.length
        · obtain ⟨bb, o, x, A1, c1, A2, c2, A3, c3, rfl, hkx, hj1, hj2, hl1, hl2, hl3, d0, d1, d2, d3, d4⟩ := (hF.keep hx.chg Hm.out).at_ hlt
          have hsum := sum_at cFunc hkx
          have hcx : cFunc x = 30 + (10 + (x.locals.map fun _ => 10).sum) + (10 + (x.caps.map fun _ => 10).sum) + (x.code.map cInstr).sum := rfl
          rw [hcx] at hsum
          have hn1 : x.locals.length ≤ 1099511627776 := by have := len_le_sum (fun _ : Int => 10) (fun _ => by omega) x.locals; omega
          have hn2 : x.caps.length ≤ 1099511627776 := by have := len_le_sum (fun _ : Int => 10) (fun _ => by omega) x.caps; omega
          have hn3 : x.code.length ≤ 1099511627776 := by have := len_le_sum cInstr (fun _ => by unfold cInstr; omega) x.code; omega
          have Hkx := Lib.hid hkx
          have Hx := Lib.hid hx
          have Hcx := Lib.hid hcx
          have hbx := Blk.new wr 51 #[.int .i64 x.params, .slice A1 x.locals.length c1, .slice A2 x.caps.length c2, .int .i64 x.res, .slice A3 x.code.length c3]
          have hc0 := chg_alloc wr (.cells #[.int .i64 x.params, .slice A1 x.locals.length c1, .slice A2 x.caps.length c2, .int .i64 x.res, .slice A3 x.code.length c3] 51)
          have hx0 := (EmitX.refl hx.wr).old hc0
          have hl3w := hl3
          replace hl1 := hl1.keep hc0 (fun _ _ _ => id)
          replace hl2 := hl2.keep hc0 (fun _ _ _ => id)
          replace hl3 := hl3.keep hc0 (fun _ _ _ => id)
          clear hkx hk hx hc0 hF hcx
          obtain ⟨wo, rfl⟩ : ∃ wo : World, wo = wr := ⟨_, rfl⟩
          go_wp2_with fail
          refine (int_any g base _ _ _ x.params 0 (by omega) hj1 hx0.wr (by have := hx0.length; omega)).mono fun e w1 h => ?_
          obtain ⟨rfl, h⟩ := h
          obtain ⟨f1, y1, hx1⟩ := hx0.then h
          obtain ⟨_, _, hch⟩ := h
          replace hch := hch.chg
          replace hbx := hch.blk hbx (by rintro ⟨_, h | h⟩ <;> exact absurd h (by decide))
          obtain ⟨e0, e1, e2, e3, e4⟩ := hbx.cells5
          replace hl1 := hl1.keep hch Hm.out
          replace hl2 := hl2.keep hch Hm.out
          replace hl3 := hl3.keep hch Hm.out
          clear hch hx0
          go_wp2_with fail
          refine (ints_any g base B _ _ _ _ _ _ _ hB hl1 hx1.wr (by have := hx1.length; omega) (by omega)).mono fun e w2 h => ?_
          obtain ⟨rfl, h⟩ := h
          obtain ⟨f2, y2, hx2⟩ := hx1.then h
          obtain ⟨_, _, hch⟩ := h
          replace hch := hch.chg
          clear e0 e1 e2 e3 e4
          replace hbx := hch.blk hbx (by rintro ⟨_, h | h⟩ <;> exact absurd h (by decide))
          obtain ⟨e0, e1, e2, e3, e4⟩ := hbx.cells5
          replace hl1 := hl1.keep hch Hm.out
          replace hl2 := hl2.keep hch Hm.out
          replace hl3 := hl3.keep hch Hm.out
          clear hch hx1
          go_wp2_with fail
          refine (ints_any g base B _ _ _ _ _ _ _ hB hl2 hx2.wr (by have := hx2.length; omega) (by omega)).mono fun e w3 h => ?_
          obtain ⟨rfl, h⟩ := h
          obtain ⟨f3, y3, hx3⟩ := hx2.then h
          obtain ⟨_, _, hch⟩ := h
          replace hch := hch.chg
          clear e0 e1 e2 e3 e4
          replace hbx := hch.blk hbx (by rintro ⟨_, h | h⟩ <;> exact absurd h (by decide))
          obtain ⟨e0, e1, e2, e3, e4⟩ := hbx.cells5
          replace hl1 := hl1.keep hch Hm.out
          replace hl2 := hl2.keep hch Hm.out
          replace hl3 := hl3.keep hch Hm.out
          clear hch hx2
          go_wp2_with fail
          refine (int_any g base _ _ _ x.res 0 (by omega) hj2 hx3.wr (by have := hx3.length; omega)).mono fun e w4 h => ?_
          obtain ⟨rfl, h⟩ := h
          obtain ⟨f4, y4, hx4⟩ := hx3.then h
          obtain ⟨_, _, hch⟩ := h
          replace hch := hch.chg
          clear e0 e1 e2 e3 e4
          replace hbx := hch.blk hbx (by rintro ⟨_, h | h⟩ <;> exact absurd h (by decide))
          obtain ⟨e0, e1, e2, e3, e4⟩ := hbx.cells5
          replace hl1 := hl1.keep hch Hm.out
          replace hl2 := hl2.keep hch Hm.out
          replace hl3 := hl3.keep hch Hm.out
          clear hch hx3
          go_wp2_with fail
          refine (int_any g base _ _ _ _ 0 (by omega) (by unfold I64; omega) hx4.wr (by have := hx4.length; omega)).mono fun e w5 h => ?_
          obtain ⟨rfl, h⟩ := h
          obtain ⟨f5, y5, hx5⟩ := hx4.then h
          obtain ⟨_, _, hch⟩ := h
          replace hch := hch.chg
          clear e0 e1 e2 e3 e4
          replace hbx := hch.blk hbx (by rintro ⟨_, h | h⟩ <;> exact absurd h (by decide))
          obtain ⟨e0, e1, e2, e3, e4⟩ := hbx.cells5
          replace hl1 := hl1.keep hch Hm.out
          replace hl2 := hl2.keep hch Hm.out
          replace hl3 := hl3.keep hch Hm.out
          clear hch hx4
          have Hx5 := Lib.hid hx5
          clear hx5 e0 e1 e2 e3 hbx hl1 hl2 hl3 hj1 hj2
          go_wp2_with fail
          go_loopw [74] (fun i wr => EmitRel 59 g base f0 wo (bs0 ++ y0) (0 + 10 + (10 + (x.locals.map fun _ => 10).sum) + (10 + (x.caps.map fun _ => 10).sum) + 10 + 10) cInstr (seqO (seqO (seqO (seqO (seqO (some []) (encI 0 x.params)) (encL (encI 0) x.locals)) (encL (encI 0) x.caps)) (encI 0 x.res)) (encI 0 x.code.length)) encInstr x.code i wr) (fun i _ => x.code.length - (intOf i).toNat)
          case atStart => exact EmitRel.start ⟨_, _, Hx5.out⟩
          case round =>
            clear Hx5 e4
            obtain ⟨q, hq, rfl, f6, y6, hx6⟩ := hrel
            have hxl6 := hx6.length
            by_cases hltq : q < x.code.length
            · obtain ⟨bb, o, z, A4, c4, rfl, hqz, hz1, hz2, hz3, hz4, hz5, z0, z1, z2, z3, z4⟩ := (hl3w.keep hx6.chg Hm.out).at_ hltq
              have hsumz := sum_at cInstr hqz
              have hb0 := Blk.new wr 55 #[.int .i64 z.op, .int .i64 z.a, .int .i64 z.b, .int .u64 z.n, .slice A4 z.cases.length c4]
              obtain ⟨e0, e1, e2, e3, e4⟩ := hb0.cells5
              have hc0 := chg_alloc wr (.cells #[.int .i64 z.op, .int .i64 z.a, .int .i64 z.b, .int .u64 z.n, .slice A4 z.cases.length c4] 55)
              have hx0 := (EmitX.refl hx6.wr).old hc0
              replace hz5 := hz5.keep hc0 (fun _ _ _ => id)
              have Hqz := Lib.hid hqz
              have Hx6 := Lib.hid hx6
              clear hqz hx6 hq hc0 hb0 hl3w
              go_wp2_with fail
              refine (instr_any g base B _ _ _ z _ _ hB hz1 hz2 hz3 hz4 hz5 hx0.wr (by have := hx0.length; omega)).mono fun e w7 h => ?_
              obtain ⟨rfl, h⟩ := h
              obtain ⟨f7, y7, hx7⟩ := hx0.then h
              have Hx7 := Lib.hid hx7
              clear h hx7 hx0 hz1 hz2 hz3 hz4 hz5
              go_wp2_with fail
              go_roundw
              case rel => exact Hx6.out.step Hqz.out (Emit.mono ⟨_, _, Hx7.out⟩ (by omega) (by rw [seqO_nil_l]))
              case measure => simp [intOf]; omega
            · have h3 : x.code.take q = x.code := List.take_of_length_le (by omega)
              rw [h3] at hx6
              have Hx6 := Lib.hid hx6
              clear hx6 hl3w hq h3
              go_wp2_with fail
              go_roundw
              case rel => exact Hx.out.step Hkx.out (Emit.mono ⟨_, _, Hx6.out⟩ (by rw [Hcx.out]; omega) (by simp [encFunc, encL, seqO_assoc, seqO_nil_l]))
              case measure => simp [intOf]; omega
        · have h3 : funcs.take k = funcs := List.take_of_length_le (by omega)
          rw [h3] at hx hxl
          have hx := hx.mono (Nat.le_refl _) (show _ = encMod ⟨types, funcs⟩ by simp [encMod, encL, seqO_assoc, seqO_nil_l])
          rw [Hbs.out] at hx
          obtain ⟨hbg, A5, c5, h5, _⟩ := hx.wr
          simp only [List.nil_append] at h5
          have hyl : y0.length ≤ 1099511627776 := by have := hx.len; omega
          obtain ⟨e0, e1⟩ := h5.cells2
          have Hfin := Lib.hid (fun e => enc_end (e := e) (g := g) (bs := []) (by rw [HW.out]; exact Hbel.out) (by rw [HW.out]; exact hx))
          clear hF h3 hk hx h5
          cases f0
          · by_cases hbig : 1048576 < y0.length
            · go_wp2_with fail
              go_ret2
              exact Hfin.out _ ⟨(fun h => by cases h), fun _ _ => rfl, fun _ h => absurd hbig h⟩
            · go_wp2_with fail
              go_ret2
              refine Hfin.out _ ⟨(fun h => by cases h), fun _ h => absurd h hbig, fun _ _ A6 c6 h6 => ?_⟩
              have h7 := e0.symm.trans h6
              injection h7 with h7
              injection h7 with h7 _ h8
              subst h7 h8
              rfl
          · go_wp2_with fail
            go_ret2
            exact Hfin.out _ ⟨fun _ => rfl, (fun h => by cases h), (fun h => by cases h)⟩
end Go.Proofs.Ytfmhedpjkpaohaa
