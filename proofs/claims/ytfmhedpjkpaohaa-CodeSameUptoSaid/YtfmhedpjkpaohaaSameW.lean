/-
  The walk of the statement CodeSame: the program's comparison and the reference's agree, and a copy is the same as its original.
-/
import Derived.Test.YtfmhedpjkpaohaaSame4
import Derived.Test.YtfmhedpjkpaohaaAns
import Derived.Deep.RegionHeld3
namespace Go.Proofs.Ytfmhedpjkpaohaa
open Go.RowKit
set_option linter.unusedVariables false
set_option linter.unusedSimpArgs false

theorem held_next {w0 w1 w2 : World} {g h : Nat} {a b c d : Value} (k : (w1.cell? ⟨g, 0, none⟩ = some a ∧ w1.cell? ⟨g, 1, none⟩ = some b ∧ w1.cell? ⟨h, 0, none⟩ = some c ∧ w1.cell? ⟨h, 1, none⟩ = some d ∧ Chg (fun _ _ => False) w0 w1))
    (hc : Chg (fun _ _ => False) w1 w2) : w2.cell? ⟨g, 0, none⟩ = some a ∧ w2.cell? ⟨g, 1, none⟩ = some b ∧ w2.cell? ⟨h, 0, none⟩ = some c ∧ w2.cell? ⟨h, 1, none⟩ = some d ∧ Chg (fun _ _ => False) w0 w2 :=
  ⟨hc.cell k.1 fun _ h => h, hc.cell k.2.1 fun _ h => h, hc.cell k.2.2.1 fun _ h => h, hc.cell k.2.2.2.1 fun _ h => h, k.2.2.2.2.trans hc⟩
theorem held_chg {w0 w1 : World} {g h : Nat} {a b c d : Value} (k : (w1.cell? ⟨g, 0, none⟩ = some a ∧ w1.cell? ⟨g, 1, none⟩ = some b ∧ w1.cell? ⟨h, 0, none⟩ = some c ∧ w1.cell? ⟨h, 1, none⟩ = some d ∧ Chg (fun _ _ => False) w0 w1)) : Chg (fun _ _ => False) w0 w1 := k.2.2.2.2

theorem mod_next {w1 w2 : World} {v : Value} {m : ModD} (h : ModR w1.heap.size w1 v m) (hc : Chg (fun _ _ => False) w1 w2) : ModR w2.heap.size w2 v m := (h.keep hc (fun _ _ _ => id)).more hc.size

set_option maxRecDepth 100000 in
set_option maxHeartbeats 4000000 in
theorem codeSame_walk (w : World) (B : Nat) (va vb : Value) (a b : ModD) (hBw : B ≤ w.heap.size) (ha : ModR B w va a) (hb : ModR B w vb b) (hn : cMod a ≤ 1099511627776) (hn' : cMod b ≤ 1099511627776) :
    Calls Try.prog 6 #[va, vb] w fun e w' => e = .returned (.bool true) ∧ Below w.heap.size w w' := by
  obtain ⟨A1, c1, A2, c2, rfl, h1, h2⟩ := ha
  obtain ⟨A3, c3, A4, c4, rfl, h3, h4⟩ := hb
  have ha0 : ModR B w (.agg #[.slice A1 a.types.length c1, .slice A2 a.funcs.length c2]) a := ⟨A1, c1, A2, c2, rfl, h1, h2⟩
  have hb0 : ModR B w (.agg #[.slice A3 b.types.length c3, .slice A4 b.funcs.length c4]) b := ⟨A3, c3, A4, c4, rfl, h3, h4⟩
  clear h1 h2 h3 h4
  have hc0 := (chg_alloc w (.cells #[.slice A1 a.types.length c1, .slice A2 a.funcs.length c2] 25)).alloc (.cells #[.slice A3 b.types.length c3, .slice A4 b.funcs.length c4] 25)
  have hb1 := (Blk.new w 25 #[.slice A1 a.types.length c1, .slice A2 a.funcs.length c2]).alloc (.cells #[.slice A3 b.types.length c3, .slice A4 b.funcs.length c4] 25)
  have hb2 := Blk.new (w.alloc (.cells #[.slice A1 a.types.length c1, .slice A2 a.funcs.length c2] 25)) 25 #[.slice A3 b.types.length c3, .slice A4 b.funcs.length c4]
  simp only [World.size_alloc] at hb2
  have HA := Lib.hid (And.intro ha0 hb0)
  have HN := Lib.hid (And.intro hn hn')
  have HW := Lib.hid hBw
  clear ha0 hb0 hn hn' hBw
  go_enter Try.func6, Try.ntmps6
  go_wp2_with fail
  generalize hw0 : (w.alloc (.cells #[.slice A1 a.types.length c1, .slice A2 a.funcs.length c2] 25)).alloc (.cells #[.slice A3 b.types.length c3, .slice A4 b.funcs.length c4] 25) = w0 at hc0 hb1 hb2 ⊢
  obtain ⟨d0, d1⟩ := hb1.cells2
  obtain ⟨e0, e1⟩ := hb2.cells2
  have hK : w0.cell? ⟨w.heap.size, 0, none⟩ = some (.slice A1 a.types.length c1) ∧ w0.cell? ⟨w.heap.size, 1, none⟩ = some (.slice A2 a.funcs.length c2) ∧ w0.cell? ⟨w.heap.size + 1, 0, none⟩ = some (.slice A3 b.types.length c3) ∧ w0.cell? ⟨w.heap.size + 1, 1, none⟩ = some (.slice A4 b.funcs.length c4) ∧ Chg (fun _ _ => False) w w0 := ⟨d0, d1, e0, e1, hc0⟩
  have hKd := held_next hK ((Chg.refl (fun _ _ => False) w0).drew)
  clear hw0 hc0 hb1 hb2 d0 d1 e0 e1 hK
  go_region_held3 (fun w' => w'.cell? ⟨w.heap.size, 0, none⟩ = some (.slice A1 a.types.length c1) ∧ w'.cell? ⟨w.heap.size, 1, none⟩ = some (.slice A2 a.funcs.length c2) ∧ w'.cell? ⟨w.heap.size + 1, 0, none⟩ = some (.slice A3 b.types.length c3) ∧ w'.cell? ⟨w.heap.size + 1, 1, none⟩ = some (.slice A4 b.funcs.length c4) ∧ Chg (fun _ _ => False) w w')
    (assumption)
    (first
      | (go_at_call 13
         refine (answers_any _).mono ?_
         rintro e w' ⟨rfl, hb⟩
         have hS := held_next (by assumption) (Chg.of_below hb (fun _ _ => False))
         clear hb)
      | (go_at_call 18
         refine (csame_any _ _ _ _ _ _ (by assumption) (by assumption) HN.out.1 (by first | exact HN.out.2 | exact HN.out.1)).mono ?_
         rintro e w' ⟨rfl, hb⟩
         have hS := held_next (by assumption) hb
         clear hb)
      | (go_at_call 19
         refine (rsame_any _ B _ _ a b (HA.out.1.keep (held_chg (by assumption)) (fun _ _ _ => id)) (HA.out.2.keep (held_chg (by assumption)) (fun _ _ _ => id)) HN.out.1 HN.out.2).mono ?_
         rintro e w' ⟨rfl, hb⟩
         have hS := held_next (by assumption) hb
         clear hb)
      | (go_at_call_of 11 (Value.agg #[.slice A1 a.types.length c1, .slice A2 a.funcs.length c2])
         refine (own_any _ B _ a (by exact Nat.le_trans HW.out (held_chg (by assumption)).size) (HA.out.1.keep (held_chg (by assumption)) (fun _ _ _ => id)) HN.out.1).mono ?_
         intro e w' hr
         obtain ⟨v1, rfl, hv1⟩ := hr.modR
         have hb := hr.choose_spec.choose_spec.choose_spec.choose_spec.2.1
         have hcb := Chg.of_below hb (fun _ _ => False)
         have hS := held_next (by assumption) hcb
         try have hk := mod_next (by assumption) hcb
         clear hr hb hcb)
      | (go_at_call_of 11 (Value.agg #[.slice A3 b.types.length c3, .slice A4 b.funcs.length c4])
         refine (own_any _ B _ b (by exact Nat.le_trans HW.out (held_chg (by assumption)).size) (HA.out.2.keep (held_chg (by assumption)) (fun _ _ _ => id)) HN.out.2).mono ?_
         intro e w' hr
         obtain ⟨v1, rfl, hv1⟩ := hr.modR
         have hb := hr.choose_spec.choose_spec.choose_spec.choose_spec.2.1
         have hcb := Chg.of_below hb (fun _ _ => False)
         have hS := held_next (by assumption) hcb
         try have hk := mod_next (by assumption) hcb
         clear hr hb hcb))
  have hS := held_chg (by assumption)
  go_wp2_with fail
  go_ret
  exact ⟨by simp [sameMod_refl], hS.below (B := w.heap.size) (fun _ _ h => h.elim) (Nat.le_refl _)⟩
end Go.Proofs.Ytfmhedpjkpaohaa
