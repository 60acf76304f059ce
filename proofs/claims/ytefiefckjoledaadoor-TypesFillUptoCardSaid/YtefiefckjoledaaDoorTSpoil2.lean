/-
  The walk of spoil.
-/
import Derived.Test.YtefiefckjoledaaDoorTSpoil
namespace Go.Proofs.YtefiefckjoledaaDoor
open Go.RowKit
set_option linter.unusedVariables false
set_option linter.unusedSimpArgs false

def SpC (n : Nat) : Prop := ∀ (G : Nat → Prop) (w : World) (x0 : Int) (x1 : ByteArray) (x2 : Int) (Xf : Option Addr) (nf xf : Nat) (Xl : Option Addr) (nl xl : Nat) (Xr : Option Addr) (nr xr : Nat), (∀ b, G b → b < w.heap.size) → ShR n G w (six x0 x1 x2 Xf nf xf Xl nl xl Xr nr xr) →
    Calls Tryd.prog 31 #[.agg #[.int .i64 x0, .string x1, .int .i64 x2, .slice Xf nf xf, .slice Xl nl xl, .slice Xr nr xr]] w fun e w' => e = .returned (.tuple #[]) ∧ Sp G w w'
def spRel (G : Nat → Prop) (W : World) (g : Nat) (cells : Array Value) (nn : Nat) (i : Value) (wr : World) : Prop :=
  ∃ k : Nat, k ≤ nn ∧ i = .int .i64 k ∧ Blk wr g 39 cells ∧ Sp G W wr
set_option maxRecDepth 100000 in
set_option maxHeartbeats 8000000 in
theorem spoil_step (n : Nat) (IH : SpC n) : SpC (n + 1) := by
  intro G w x0 x1 x2 Xf nf xf Xl nl xl Xr nr xr hG hS
  have hb := Blk.new w 39 #[.int .i64 x0, .string x1, .int .i64 x2, .slice Xf nf xf, .slice Xl nl xl, .slice Xr nr xr]
  have hc := chg_alloc w (.cells #[.int .i64 x0, .string x1, .int .i64 x2, .slice Xf nf xf, .slice Xl nl xl, .slice Xr nr xr] 39)
  have hnf := hS.open_.1.1
  have hnl := hS.open_.2.1.1
  have hnr := hS.open_.2.2.1
  have hS1 := (Sp.of0 (G := G) hc).1 _ _ hS
  have hL : ∀ b, G b → b < (w.alloc (.cells #[.int .i64 x0, .string x1, .int .i64 x2, .slice Xf nf xf, .slice Xl nl xl, .slice Xr nr xr] 39)).heap.size := fun b h => Nat.lt_of_lt_of_le (hG b h) hc.size
  have hN : ¬ G w.heap.size := fun h => Nat.lt_irrefl _ (hG _ h)
  have H := Lib.hid (And.intro hb (And.intro hc (And.intro hS1 (And.intro hL (And.intro hN IH)))))
  clear hG hS hb hc hS1 hL hN IH
  go_enter Tryd.func31, Tryd.ntmps31
  go_wp2_with fail
  generalize w.alloc (.cells #[.int .i64 x0, .string x1, .int .i64 x2, .slice Xf nf xf, .slice Xl nl xl, .slice Xr nr xr] 39) = W at H ⊢
  generalize w.heap.size = g at H ⊢
  go_loopw [2] (fun i wr => spRel G W g #[.int .i64 x0, .string x1, .int .i64 x2, .slice Xf nf xf, .slice Xl nl xl, .slice Xr nr xr] nf i wr) (fun i _ => nf - (intOf i).toNat)
  case atStart => exact ⟨0, Nat.zero_le _, rfl, H.out.1, ⟨fun _ _ h => h, Chg.refl _ _⟩⟩
  case round =>
    obtain ⟨k, hk, rfl, hb1, hsp⟩ := hrel
    obtain ⟨c0, c1, c2, c3, c4, c5⟩ := hb1.cells6
    have q3 : IntKind.i64.wrap ((k : Int) + 1) = (k : Int) + 1 := IntWalk.i64_in _ ⟨by omega, by omega⟩
    have hsh := (hsp.1 _ _ H.out.2.2.1).open_.1
    by_cases hlt : k < nf
    · have q1 : decide (k < nf) = true := decide_eq_true hlt
      have q2 : (k : Int) < (nf : Int) := by omega
      obtain ⟨b, o, hA⟩ := hsh.addr hlt
      subst hA
      obtain ⟨ho, hGb, cs, nm, y0, y1, y2, Yf, mf, yf, Yl, ml, yl, Yr, mr, yr, hB, hsz, hX, z0, z1, z2, z3, z4, z5, z6⟩ := sh_field hsh hlt
      have hcall := H.out.2.2.2.2.2 G wr y0 y1 y2 Yf mf yf Yl ml yl Yr mr yr (fun b h => Nat.lt_of_lt_of_le (H.out.2.2.2.1 b h) hsp.2.size) hX
      have HX := Lib.hid (And.intro hb1 (And.intro hsp ho))
      clear hb1 hsp ho hB hsz hX hsh hGb
      go_wp2_with fail
      refine hcall.mono fun e w4 h => ?_
      obtain ⟨rfl, hs4⟩ := h
      clear hcall z0 z1 z2 z3 z4 z5 z6 c0 c1 c2 c3 c4 c5
      have hsp4 := HX.out.2.1.trans hs4
      have hb4 := hs4.2.blk HX.out.1 (fun h => H.out.2.2.2.2.1 h.1)
      obtain ⟨c0, c1, c2, c3, c4, c5⟩ := hb4.cells6
      obtain ⟨ho2, hGb, cs, nm, y0, y1, y2, Yf, mf, yf, Yl, ml, yl, Yr, mr, yr, hB, hsz, _, z0, z1, z2, z3, z4, z5, z6⟩ := sh_field ((hsp4.1 _ _ H.out.2.2.1).open_.1) hlt
      have e0 := hB.frozen (o + k * 7)
      have e1 := hB.frozen (o + k * 7 + 1)
      have e2 := hB.frozen (o + k * 7 + 2)
      have e3 := hB.frozen (o + k * 7 + 3)
      have e4 := hB.frozen (o + k * 7 + 4)
      have e5 := hB.frozen (o + k * 7 + 5)
      have e6 := hB.frozen (o + k * 7 + 6)
      have HZ := Lib.hid (And.intro hsp4 (And.intro hb4 (And.intro hGb (And.intro hB hsz))))
      clear hsp4 hs4 hb4 hGb hB hsz ho2
      go_wp2_with fail
      clear z0 z1 z2 z3 z4 z5 z6 e0 e1 e2 e3 e4 e5 e6 c0 c1 c2 c3 c4 c5
      go_roundw
      case rel =>
        obtain ⟨hsp4, hb4, hGb, hB, hsz⟩ := HZ.out
        have ho := HX.out.2.2
        have hl := sp_field (G := G) (i := k) ⟨#[103, 111, 110, 101]⟩ 0 hGb hB hsz
        have hl1 := hl.2.blk hb4 (fun h => H.out.2.2.2.2.1 h.1)
        have hl2 := hsp4.trans hl
        simp only [setL, leaf6, six, Nat.add_assoc, Nat.reduceAdd] at hl1 hl2
        subst ho
        refine ⟨k + 1, hlt, by simp, ?_, ?_⟩
        · simpa only [Nat.zero_add] using hl1
        · simpa only [Nat.zero_add] using hl2
      case measure => simp [intOf]; omega
    · have q1 : decide (k < nf) = false := decide_eq_false hlt
      have HXf := Lib.hid (And.intro hb1 hsp)
      clear hb1 hsp hsh
      go_wp2_with fail
      go_loopw [3] (fun i wr => spRel G W g #[.int .i64 x0, .string x1, .int .i64 x2, .slice Xf nf xf, .slice Xl nl xl, .slice Xr nr xr] nl i wr) (fun i _ => nl - (intOf i).toNat)
      case atStart => exact ⟨0, Nat.zero_le _, rfl, HXf.out.1, HXf.out.2⟩
      case round =>
        obtain ⟨k, hk, rfl, hb1, hsp⟩ := hrel
        obtain ⟨c0, c1, c2, c3, c4, c5⟩ := hb1.cells6
        have q3 : IntKind.i64.wrap ((k : Int) + 1) = (k : Int) + 1 := IntWalk.i64_in _ ⟨by omega, by omega⟩
        have hsh := (hsp.1 _ _ H.out.2.2.1).open_.2.1
        by_cases hlt : k < nl
        · have q1 : decide (k < nl) = true := decide_eq_true hlt
          have q2 : (k : Int) < (nl : Int) := by omega
          obtain ⟨b, o, hA⟩ := hsh.addr hlt
          subst hA
          obtain ⟨ho, hGb, cs, y0, y1, y2, Yf, mf, yf, Yl, ml, yl, Yr, mr, yr, hB, hsz, hX, z0, z1, z2, z3, z4, z5⟩ := sh_type hsh hlt
          have hcall := H.out.2.2.2.2.2 G wr y0 y1 y2 Yf mf yf Yl ml yl Yr mr yr (fun b h => Nat.lt_of_lt_of_le (H.out.2.2.2.1 b h) hsp.2.size) hX
          have HX := Lib.hid (And.intro hb1 (And.intro hsp ho))
          clear hb1 hsp ho hB hsz hX hsh hGb
          go_wp2_with fail
          refine hcall.mono fun e w4 h => ?_
          obtain ⟨rfl, hs4⟩ := h
          clear hcall z0 z1 z2 z3 z4 z5 c0 c1 c2 c3 c4 c5
          have hsp4 := HX.out.2.1.trans hs4
          have hb4 := hs4.2.blk HX.out.1 (fun h => H.out.2.2.2.2.1 h.1)
          obtain ⟨c0, c1, c2, c3, c4, c5⟩ := hb4.cells6
          obtain ⟨ho2, hGb, cs, y0, y1, y2, Yf, mf, yf, Yl, ml, yl, Yr, mr, yr, hB, hsz, _, z0, z1, z2, z3, z4, z5⟩ := sh_type ((hsp4.1 _ _ H.out.2.2.1).open_.2.1) hlt
          have e0 := hB.frozen (o + k * 6)
          have e1 := hB.frozen (o + k * 6 + 1)
          have e2 := hB.frozen (o + k * 6 + 2)
          have e3 := hB.frozen (o + k * 6 + 3)
          have e4 := hB.frozen (o + k * 6 + 4)
          have e5 := hB.frozen (o + k * 6 + 5)
          have HZ := Lib.hid (And.intro hsp4 (And.intro hb4 (And.intro hGb (And.intro hB hsz))))
          clear hsp4 hs4 hb4 hGb hB hsz ho2
          go_wp2_with fail
          clear z0 z1 z2 z3 z4 z5 e0 e1 e2 e3 e4 e5 c0 c1 c2 c3 c4 c5
          go_roundw
          case rel =>
            obtain ⟨hsp4, hb4, hGb, hB, hsz⟩ := HZ.out
            have ho := HX.out.2.2
            have hl := sp_type (G := G) (i := k) 99 hGb hB hsz
            have hl1 := hl.2.blk hb4 (fun h => H.out.2.2.2.2.1 h.1)
            have hl2 := hsp4.trans hl
            simp only [setL, leaf6, six, Nat.add_assoc, Nat.reduceAdd] at hl1 hl2
            subst ho
            refine ⟨k + 1, hlt, by simp, ?_, ?_⟩
            · simpa only [Nat.zero_add] using hl1
            · simpa only [Nat.zero_add] using hl2
          case measure => simp [intOf]; omega
        · have q1 : decide (k < nl) = false := decide_eq_false hlt
          have HXl := Lib.hid (And.intro hb1 hsp)
          clear hb1 hsp hsh
          go_wp2_with fail
          go_loopw [4] (fun i wr => spRel G W g #[.int .i64 x0, .string x1, .int .i64 x2, .slice Xf nf xf, .slice Xl nl xl, .slice Xr nr xr] nr i wr) (fun i _ => nr - (intOf i).toNat)
          case atStart => exact ⟨0, Nat.zero_le _, rfl, HXl.out.1, HXl.out.2⟩
          case round =>
            obtain ⟨k, hk, rfl, hb1, hsp⟩ := hrel
            obtain ⟨c0, c1, c2, c3, c4, c5⟩ := hb1.cells6
            have q3 : IntKind.i64.wrap ((k : Int) + 1) = (k : Int) + 1 := IntWalk.i64_in _ ⟨by omega, by omega⟩
            have hsh := (hsp.1 _ _ H.out.2.2.1).open_.2.2
            by_cases hlt : k < nr
            · have q1 : decide (k < nr) = true := decide_eq_true hlt
              have q2 : (k : Int) < (nr : Int) := by omega
              obtain ⟨b, o, hA⟩ := hsh.addr hlt
              subst hA
              obtain ⟨ho, hGb, cs, y0, y1, y2, Yf, mf, yf, Yl, ml, yl, Yr, mr, yr, hB, hsz, hX, z0, z1, z2, z3, z4, z5⟩ := sh_type hsh hlt
              have hcall := H.out.2.2.2.2.2 G wr y0 y1 y2 Yf mf yf Yl ml yl Yr mr yr (fun b h => Nat.lt_of_lt_of_le (H.out.2.2.2.1 b h) hsp.2.size) hX
              have HX := Lib.hid (And.intro hb1 (And.intro hsp ho))
              clear hb1 hsp ho hB hsz hX hsh hGb
              go_wp2_with fail
              refine hcall.mono fun e w4 h => ?_
              obtain ⟨rfl, hs4⟩ := h
              clear hcall z0 z1 z2 z3 z4 z5 c0 c1 c2 c3 c4 c5
              have hsp4 := HX.out.2.1.trans hs4
              have hb4 := hs4.2.blk HX.out.1 (fun h => H.out.2.2.2.2.1 h.1)
              obtain ⟨c0, c1, c2, c3, c4, c5⟩ := hb4.cells6
              obtain ⟨ho2, hGb, cs, y0, y1, y2, Yf, mf, yf, Yl, ml, yl, Yr, mr, yr, hB, hsz, _, z0, z1, z2, z3, z4, z5⟩ := sh_type ((hsp4.1 _ _ H.out.2.2.1).open_.2.2) hlt
              have e0 := hB.frozen (o + k * 6)
              have e1 := hB.frozen (o + k * 6 + 1)
              have e2 := hB.frozen (o + k * 6 + 2)
              have e3 := hB.frozen (o + k * 6 + 3)
              have e4 := hB.frozen (o + k * 6 + 4)
              have e5 := hB.frozen (o + k * 6 + 5)
              have HZ := Lib.hid (And.intro hsp4 (And.intro hb4 (And.intro hGb (And.intro hB hsz))))
              clear hsp4 hs4 hb4 hGb hB hsz ho2
              go_wp2_with fail
              clear z0 z1 z2 z3 z4 z5 e0 e1 e2 e3 e4 e5 c0 c1 c2 c3 c4 c5
              go_roundw
              case rel =>
                obtain ⟨hsp4, hb4, hGb, hB, hsz⟩ := HZ.out
                have ho := HX.out.2.2
                have hl := sp_type (G := G) (i := k) 99 hGb hB hsz
                have hl1 := hl.2.blk hb4 (fun h => H.out.2.2.2.2.1 h.1)
                have hl2 := hsp4.trans hl
                simp only [setL, leaf6, six, Nat.add_assoc, Nat.reduceAdd] at hl1 hl2
                subst ho
                refine ⟨k + 1, hlt, by simp, ?_, ?_⟩
                · simpa only [Nat.zero_add] using hl1
                · simpa only [Nat.zero_add] using hl2
              case measure => simp [intOf]; omega
            · have q1 : decide (k < nr) = false := decide_eq_false hlt
              have HXr := Lib.hid (And.intro hb1 hsp)
              clear hb1 hsp hsh
              go_wp2_with fail
              go_end0
              exact ⟨rfl, (Sp.of0 H.out.2.1).trans HXr.out.2⟩
theorem spoil_any : ∀ n, SpC n
  | 0 => fun G w _ _ _ _ _ _ _ _ _ _ _ _ hG hS => False.elim hS
  | n + 1 => spoil_step n (spoil_any n)
end Go.Proofs.YtefiefckjoledaaDoor
