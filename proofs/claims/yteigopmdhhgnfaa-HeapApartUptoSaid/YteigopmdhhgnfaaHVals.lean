/-
  slices.Values over a row of ints: what its iterator hands out.
-/
import Derived.Test.YteigopmdhhgnfaaHpNames
import Derived.Test.YteigopmdhhgnfaaHNil
namespace Go.Proofs.Yteigopmdhhgnfaa
open Go.RowKit
attribute [local go_sem] Oper.semAt_some
set_option linter.unusedVariables false
set_option linter.unusedSimpArgs false

/-- Round k is handed element k. -/
def ValG (zs : List Int) (k : Nat) (args : Array Value) (A B : World) : Prop := args = #[.int .i64 (zs.getD k 0)]
set_option maxRecDepth 100000 in
set_option maxHeartbeats 4000000 in
theorem values1_walks (gb D : Nat) (w : World) (R : Option Addr) (c : Nat) (zs : List Int) (hb : Blk w gb 24 #[.slice R zs.length c]) (hr : SlR D 0 1 IntZ w (.slice R zs.length c) zs) (hN : zs.length ≤ 1048576) (hD : D ≤ w.heap.size) : WalksN Try.prog 55 #[.pointer (some ⟨gb, 0, none⟩)] zs.length D (ValG zs) w := by
  intro l J Jx O W hc hJ hJx hJO hY h0
  have y0 : W.cell? ⟨gb, 0, none⟩ = some (.slice R zs.length c) := by simpa using (hc.blk hb id).cell 0
  have hrW : SlR D 0 1 IntZ W (.slice R zs.length c) zs := SlR.keep hr hc (no_letsH _ _) fun _ _ h => h
  have HJ := Lib.hid (And.intro h0 (And.intro hJO (And.intro hY (And.intro hrW (And.intro hJ (Nat.le_trans hD hc.size))))))
  clear hb hr hc hJ hJx hJO hY h0 hrW hD
  have hdd : ∀ k : Nat, (Fence.wide.depth.isSome = true → 1 ≤ k) := fun k h => (by cases h)
  show Calls Try.prog 55 #[.func (.yield l) #[] #[], .pointer (some ⟨gb, 0, none⟩)] W _
  refine (callsIn_wide (n := 3)).1 ?_
  refine callsIn_of_wp Try.func55 rfl trivial ?_ rfl
  simp only [Try.ntmps55, List.size_toArray, List.length_cons, List.length_nil, Nat.reduceAdd, Nat.reduceSub, Array.replicate_succ, Array.replicate_zero, List.push_toArray, List.append_toArray, List.nil_append, List.cons_append]
  gi_wp2_with fail
  clear y0
  gi_loopw [7] (fun i wr => ∃ (k : Nat) (O' : Nat → Prop), k ≤ zs.length ∧ i = .int .i64 (k : Int) ∧ J k O' wr ∧ Chg (fun b _ => O b ∨ W.heap.size ≤ b) W wr ∧ ∀ b, O' b → O b ∨ W.heap.size ≤ b) (fun i _ => zs.length - (intOf i).toNat)
  case atStart => exact ⟨0, O, Nat.zero_le _, rfl, HJ.out.1, Chg.refl _ _, fun b h => .inl h⟩
  case round =>
    obtain ⟨k, O1, hk, rfl, hJ1, hch, hO1⟩ := hrel
    have hOD : ∀ b, O b → D ≤ b := fun b hb => (HJ.out.2.1 0 O W HJ.out.1 b hb).1
    have q3 : IntKind.i64.wrap ((k : Int) + 1) = (k : Int) + 1 := IntWalk.i64_in _ ⟨by omega, by omega⟩
    by_cases hlt : k < zs.length
    · have q1 : decide (k < zs.length) = true := decide_eq_true hlt
      have q2 : (k : Int) < (zs.length : Int) := by omega
      have hlets : Lets (fun b _ => O b ∨ W.heap.size ≤ b) D 0 := ⟨fun b _ hb h => h.elim (fun h => by have := hOD b h; omega) fun h => by have := HJ.out.2.2.2.2.2; omega, fun h => absurd rfl h⟩
      obtain ⟨rb, ro, rfl, z0⟩ := int_at (SlR.keep HJ.out.2.2.2.1 hch hlets fun _ _ h => h) hlt
      obtain ⟨y, hy⟩ : ∃ y, zs.getD k 0 = y := ⟨_, rfl⟩
      rw [hy] at z0
      obtain ⟨fn, tmps, assign, body, hyy, hR⟩ := HJ.out.2.2.1 2 k O1 #[.int .i64 y] wr wr hJ1 (Chg.refl _ _) hlt (by unfold ValG; rw [hy])
      have HK := Lib.hid (And.intro hch hO1)
      clear hch hO1 hJ1 hlets hOD hy
      gi_wp2_with fail
      refine hR.mono fun e W3 h3 => ?_
      rcases h3 with ⟨rfl, O3, hJ3, hc3, hO3⟩ | ⟨rfl, hx3⟩
      · have hto : ∀ b, (O1 b ∨ wr.heap.size ≤ b) → O b ∨ W.heap.size ≤ b := fun b h => h.elim (HK.out.2 b) fun h => .inr (Nat.le_trans HK.out.1.size h)
        have HZ := Lib.hid (And.intro hJ3 (And.intro (HK.out.1.trans (hc3.mono fun b _ _ h => hto b h)) fun b h => hto b (hO3 b h)))
        clear hJ3 hc3 hO3 hto hR hyy z0
        gi_wp2_with fail
        go_roundw
        case rel => exact ⟨k + 1, O3, hlt, by simp, HZ.out.1, HZ.out.2.1, HZ.out.2.2⟩
        case measure => simp [intOf]; omega
      · clear hR hyy z0
        gi_wp2_with fail
        refine bodyPost_ret (results_none rfl _ _ _) rfl ?_
        exact ⟨⟨_, rfl⟩, .inr ⟨_, hlt, hx3⟩⟩
    · have q1 : decide (k < zs.length) = false := decide_eq_false hlt
      obtain rfl : k = zs.length := by omega
      have HF := Lib.hid hJ1
      clear hJ1 hch hO1 hOD
      gi_wp2_with fail
      go_end0
      exact ⟨⟨_, rfl⟩, .inl ⟨O1, HF.out⟩⟩
end Go.Proofs.Yteigopmdhhgnfaa
