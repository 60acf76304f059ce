/-
  Get, Len and Set of the program's heap.
-/
import Derived.Test.YteigopmdhhgnfaaHpR
namespace Go.Proofs.Yteigopmdhhgnfaa
open Go.RowKit
set_option linter.unusedVariables false
set_option linter.unusedSimpArgs false

theorem u64_at {w : World} {A : Option Addr} {c k D : Nat} {l : List Nat} (h : RowR D 44 1 U64V w A c l) (hk : k < l.length) : ∃ b o, A = some ⟨b, o, none⟩ ∧ w.cell? ⟨b, o + k, none⟩ = some (.int .u64 ((l.getD k 0 : Nat) : Int)) := by
  obtain ⟨b, o, x, cs, hA, hx, _, rfl, h3⟩ := SlR.at2 (h.slr (by decide) D) hk
  refine ⟨b, o, hA, ?_⟩
  rw [List.getD_eq_getElem?_getD, hx]
  simpa using h3 0 _ rfl
theorem boo_at {w : World} {A : Option Addr} {c k D : Nat} {l : List Bool} (h : RowR D 4 1 BooV w A c l) (hk : k < l.length) : ∃ b o, A = some ⟨b, o, none⟩ ∧ w.cell? ⟨b, o + k, none⟩ = some (.bool (l.getD k false)) := by
  obtain ⟨b, o, x, cs, hA, hx, _, rfl, h3⟩ := SlR.at2 (h.slr (by decide) D) hk
  refine ⟨b, o, hA, ?_⟩
  rw [List.getD_eq_getElem?_getD, hx]
  simpa using h3 0 _ rfl
/-- What Get answers. -/
def getV (S : List ObjD) (o i : Int) : Nat × Bool × Int :=
  match findO S o with
  | none => (0, false, 15)
  | some x => if 0 ≤ i ∧ i < (x.cells.length : Int) then (x.cells.getD i.toNat 0, x.refs.getD i.toNat false, 0) else (0, false, 16)
theorem cellV_none {bo : Nat → Nat} {S : List ObjD} {o i : Int} (h : findO S o = none) : cellV bo S o i = (.pointer none, 15) := by unfold cellV; rw [h]
theorem cellV_out {bo : Nat → Nat} {S : List ObjD} {o i : Int} {x : ObjD} (h : findO S o = some x) (hi : ¬ (0 ≤ i ∧ i < (x.cells.length : Int))) : cellV bo S o i = (.pointer none, 16) := by unfold cellV; rw [h]; exact if_neg hi
theorem cellV_in {bo : Nat → Nat} {S : List ObjD} {o i : Int} {x : ObjD} (h : findO S o = some x) (hi : 0 ≤ i ∧ i < (x.cells.length : Int)) : cellV bo S o i = (.pointer (some ⟨bo x.name, 0, none⟩), 0) := by unfold cellV; rw [h]; exact if_pos hi
theorem getV_none {S : List ObjD} {o i : Int} (h : findO S o = none) : getV S o i = (0, false, 15) := by unfold getV; rw [h]
theorem getV_out {S : List ObjD} {o i : Int} {x : ObjD} (h : findO S o = some x) (hi : ¬ (0 ≤ i ∧ i < (x.cells.length : Int))) : getV S o i = (0, false, 16) := by unfold getV; rw [h]; exact if_neg hi
theorem getV_in {S : List ObjD} {o i : Int} {x : ObjD} (h : findO S o = some x) (hi : 0 ≤ i ∧ i < (x.cells.length : Int)) : getV S o i = (x.cells.getD i.toNat 0, x.refs.getD i.toNat false, 0) := by unfold getV; rw [h]; exact if_pos hi
set_option maxRecDepth 100000 in
set_option maxHeartbeats 1000000 in
theorem hget_any (G : Nat → Prop) (w : World) (p m n cnt : Nat) (bo : Nat → Nat) (A : Nat → Option Addr) (c : Nat → Nat) (S : List ObjD) (bud least : Nat) (o i : Int) (h : HpI G w p m n cnt bo A c S bud least) (ho : I64 o) :
    Calls Try.prog 17 #[.pointer (some ⟨p, 0, none⟩), .int .i64 o, .int .i64 i] w fun e w' => e = .returned (.tuple #[.int .u64 ((getV S o i).1 : Int), .bool (getV S o i).2.1, .int .i64 (getV S o i).2.2]) ∧ Chg (fun _ _ => False) w w' := by
  have hc := hcell_any G w p m n cnt bo A c S bud least o i h ho
  cases hf : findO S o with
  | none =>
    rw [getV_none hf]
    rw [cellV_none hf] at hc
    clear hf h
    go_enter Try.func17, Try.ntmps17
    go_wp2_with fail
    refine hc.mono fun e w1 h => ?_
    obtain ⟨rfl, hc1⟩ := h
    clear hc
    have HC := Lib.hid hc1
    clear hc1
    go_wp2_with fail
    go_ret3
    exact ⟨rfl, HC.out⟩
  | some x =>
    by_cases hi : 0 ≤ i ∧ i < (x.cells.length : Int)
    · rw [getV_in hf hi]
      rw [cellV_in hf hi] at hc
      obtain ⟨hx, hxo⟩ := findO_mem hf
      obtain ⟨A', c', hb, hr, hm, _⟩ := h.obj x hx
      obtain ⟨k, rfl⟩ : ∃ k : Nat, i = (k : Int) := ⟨i.toNat, by omega⟩
      have hk : k < x.cells.length := by omega
      have hk2 : k < x.refs.length := by rw [h.good.len x hx]; exact hk
      have HX := Lib.hid (And.intro hb (And.intro hr hm))
      have q1 : (k : Int) < (x.cells.length : Int) := by omega
      have q2 : (k : Int) < (x.refs.length : Int) := by omega
      rw [Int.toNat_natCast]
      obtain ⟨v1, hv1⟩ : ∃ v, x.cells.getD k 0 = v := ⟨_, rfl⟩
      obtain ⟨v2, hv2⟩ : ∃ v, x.refs.getD k false = v := ⟨_, rfl⟩
      rw [hv1, hv2]
      have HV := Lib.hid (And.intro hv1 hv2)
      clear hf h hi hx hxo hb hr hm hv1 hv2
      go_enter Try.func17, Try.ntmps17
      go_wp2_with fail
      refine hc.mono fun e w1 h => ?_
      obtain ⟨rfl, hc1⟩ := h
      clear hc
      have HC := Lib.hid hc1
      clear hc1
      obtain ⟨hb, hr, hm⟩ := HX.out
      obtain ⟨gb, go, hA, z0⟩ := u64_at (hr.keep HC.out (fun _ _ h => h) fun _ _ h => h) hk
      obtain ⟨gb', go', hA', z1⟩ := boo_at (hm.keep HC.out (fun _ _ h => h) fun _ _ h => h) hk2
      rw [HV.out.1] at z0
      rw [HV.out.2] at z1
      have y0 : w1.cell? ⟨bo x.name, 0, none⟩ = some (.slice (some ⟨gb, go, none⟩) x.cells.length (c x.name)) := by rw [← hA]; simpa using (HC.out.blk hb id).cell 0
      have y1 : w1.cell? ⟨bo x.name, 1, none⟩ = some (.slice (some ⟨gb', go', none⟩) x.refs.length c') := by rw [← hA']; simpa using (HC.out.blk hb id).cell 1
      clear hb hr hm hA hA'
      go_wp2_with fail
      go_quiet (fail)
      go_wp2_with fail
      go_ret3
      exact ⟨rfl, by repeat' (first | exact HC.out | apply Chg.drew | apply Chg.drewN)⟩
    · rw [getV_out hf hi]
      rw [cellV_out hf hi] at hc
      clear hf h hi
      go_enter Try.func17, Try.ntmps17
      go_wp2_with fail
      refine hc.mono fun e w1 h => ?_
      obtain ⟨rfl, hc1⟩ := h
      clear hc
      have HC := Lib.hid hc1
      clear hc1
      go_wp2_with fail
      go_ret3
      exact ⟨rfl, HC.out⟩
/-- What Len answers. -/
def lenV (S : List ObjD) (o : Int) : Nat × Int :=
  match findO S o with
  | none => (0, 15)
  | some x => (x.cells.length, 0)
set_option maxRecDepth 100000 in
set_option maxHeartbeats 1000000 in
theorem hlen_any (G : Nat → Prop) (w : World) (p m n cnt : Nat) (bo : Nat → Nat) (A : Nat → Option Addr) (c : Nat → Nat) (S : List ObjD) (bud least : Nat) (o : Int) (h : HpI G w p m n cnt bo A c S bud least) (ho : I64 o) :
    Calls Try.prog 16 #[.pointer (some ⟨p, 0, none⟩), .int .i64 o] w fun e w' => e = .returned (.tuple #[.int .i64 ((lenV S o).1 : Int), .int .i64 (lenV S o).2]) ∧ Chg (fun _ _ => False) w w' := by
  have hc := hcell_any G w p m n cnt bo A c S bud least o 0 h ho
  cases hf : findO S o with
  | none =>
    rw [show lenV S o = (0, 15) by unfold lenV; rw [hf]]
    rw [cellV_none hf] at hc
    clear hf h
    go_enter Try.func16, Try.ntmps16
    go_wp2_with fail
    refine hc.mono fun e w1 h => ?_
    obtain ⟨rfl, hc1⟩ := h
    clear hc
    have HC := Lib.hid hc1
    clear hc1
    go_wp2_with fail
    go_ret2
    exact ⟨rfl, HC.out⟩
  | some x =>
    rw [show lenV S o = (x.cells.length, 0) by unfold lenV; rw [hf]]
    by_cases hi : (0 : Int) ≤ 0 ∧ (0 : Int) < (x.cells.length : Int)
    · rw [cellV_in hf hi] at hc
      obtain ⟨hx, hxo⟩ := findO_mem hf
      obtain ⟨A', c', hb, _⟩ := h.obj x hx
      have HX := Lib.hid hb
      clear hf h hi hx hxo hb
      go_enter Try.func16, Try.ntmps16
      go_wp2_with fail
      refine hc.mono fun e w1 h => ?_
      obtain ⟨rfl, hc1⟩ := h
      clear hc
      have HC := Lib.hid hc1
      clear hc1
      have y0 : w1.cell? ⟨bo x.name, 0, none⟩ = some (.slice (A x.name) x.cells.length (c x.name)) := by simpa using (HC.out.blk HX.out id).cell 0
      go_wp2_with fail
      go_ret2
      exact ⟨rfl, HC.out⟩
    · rw [cellV_out hf hi] at hc
      have h0 : x.cells.length = 0 := by omega
      rw [h0]
      clear hf h hi h0
      go_enter Try.func16, Try.ntmps16
      go_wp2_with fail
      refine hc.mono fun e w1 h => ?_
      obtain ⟨rfl, hc1⟩ := h
      clear hc
      have HC := Lib.hid hc1
      clear hc1
      go_wp2_with fail
      go_ret2
      exact ⟨rfl, HC.out⟩
end Go.Proofs.Yteigopmdhhgnfaa
