/-
  The reference's writer: its methods write what the plain side says.
-/
import Derived.Test.YtfmhedpjkpaohaaEnc3
namespace Go.Proofs.Ytfmhedpjkpaohaa
open Go.RowKit
set_option linter.unusedVariables false
set_option linter.unusedSimpArgs false

theorem u64_quo {y : Nat} (h : U64 y) : IntKind.u64.wrap ((y : Int) / 128) = ((y / 128 : Nat) : Int) := by
  have h1 : IntKind.u64.wrap ((y : Int) / 128) = ((y : Int) / 128) % 18446744073709551616 := by simp [IntKind.wrap, IntKind.signed, IntKind.bits]
  rw [h1]; unfold U64 at h; omega
set_option maxRecDepth 100000 in
theorem onum_any (g base : Nat) (w : World) (bs : List Nat) (form : Bool) (x : Nat) (hx : U64 x) (hwr : Wr 65 w g base form bs) (hlen : bs.length ≤ 1099511627776) :
   Calls Try.prog 61 #[.pointer (some ⟨g, 0, none⟩), .int .u64 x] w (NumPost 65 g base form bs (encN x) w) := by
  obtain ⟨i0, hi0, hz0, hz1, hz2⟩ := info_parts infoU8
  have hmax : 1099511627776 + 11 ≤ maxLen := by unfold maxLen; omega
  have Hmax := Lib.hid hmax
  clear hmax
  go_enter Try.func61, Try.ntmps61
  go_wp2_with fail
  go_loopw [1] (fun i wr => NumRel 65 g base form w bs (encN x) i wr) (fun i _ => (intOf i).toNat)
  case atStart => exact ⟨x, [], rfl, hx, rfl, by simpa using encN_u64 hx, by simpa using hwr, Chg.refl _ _⟩
  case round =>
    obtain ⟨y, ys, rfl, hy, he, hl, ⟨hbg, A', c', hb', how'⟩, hchg⟩ := hrel
    have He := Lib.hid he; clear he
    obtain ⟨cur, hcur⟩ : ∃ cur, bs ++ ys = cur := ⟨_, rfl⟩
    have hcl : cur.length ≤ 1099511627776 + 10 := by rw [← hcur, List.length_append]; omega
    rw [hcur] at hb' how'
    have Hcur := Lib.hid hcur; clear hcur
    have c0 : wr.cell? ⟨g, 0, none⟩ = some (.slice A' cur.length c') := by simpa using hb'.cell 0
    have hwrb : base ≤ wr.heap.size := by have := hb'.lt; omega
    have hyp := encN_pos y
    by_cases hge : 128 ≤ y
    · go_wp2_with (at_builtin; go_must (refine wpList_append_new rfl (.tmp 10) (.tmp 15) 26 rfl base 5 i0 _ 1 1 Try.underlying26 hi0 hz0 hz1 hz2 rfl (by omega) A' cur.length c' (u8s cur) rfl how' 1 1 [_] rfl rfl rfl (by simp; rfl) (by have := Hmax.out; omega) (by omega) hwrb ?_))
      intro A1 c1' w1 hap
      rw [show ((y : Int) % 128 + 128) = ((y % 128 + 128 : Nat) : Int) by omega] at hap
      obtain ⟨p1, p2, c0', f0'⟩ := Wr.push (y % 128 + 128) (by decide) hbg hb' how' hap
      have HH := Lib.hid (And.intro p1 (And.intro p2 hchg))
      clear hap hb' how' hchg c0 p1 p2
      go_wp2
      go_roundw
      case rel =>
        obtain ⟨p1, p2, hchg⟩ := HH.out
        refine ⟨y / 128, ys ++ [y % 128 + 128], by rw [u64_quo hy], by unfold U64 at hy ⊢; omega, by rw [← He.out, encN_ge hge]; simp, by rw [encN_ge hge] at hl; simp at hl ⊢; omega, by rw [← List.append_assoc, Hcur.out]; exact p1, hchg.trans p2⟩
      case measure => rw [u64_quo hy]; simp [intOf]; omega
    · go_wp2_with (at_builtin; go_must (refine wpList_append_new rfl (.tmp 25) (.tmp 28) 26 rfl base 5 i0 _ 1 1 Try.underlying26 hi0 hz0 hz1 hz2 rfl (by omega) A' cur.length c' (u8s cur) rfl how' 1 1 [_] rfl rfl rfl (by simp; rfl) (by have := Hmax.out; omega) (by omega) hwrb ?_))
      intro A1 c1' w1 hap
      obtain ⟨p1, p2, c0', f0'⟩ := Wr.push y (by decide) hbg hb' how' hap
      have HH := Lib.hid (And.intro p1 (And.intro p2 hchg))
      clear hap hb' how' hchg c0 p1 p2
      go_wp2
      go_end0
      obtain ⟨p1, p2, hchg⟩ := HH.out
      refine ⟨rfl, ?_, hchg.trans p2⟩
      rw [← He.out, encN_lt (by omega), ← List.append_assoc, Hcur.out]
      exact p1

theorem onum_z (g base : Nat) (w : World) (bs : List Nat) (form : Bool) (z : Int) (h0 : 0 ≤ z) (hx : U64 z.toNat) (hwr : Wr 65 w g base form bs) (hlen : bs.length ≤ 1099511627776) :
   Calls Try.prog 61 #[.pointer (some ⟨g, 0, none⟩), .int .u64 z] w (NumPost 65 g base form bs (encN z.toNat) w) := by
  have h := onum_any g base w bs form z.toNat hx hwr hlen
  rwa [Int.toNat_of_nonneg h0] at h


set_option maxRecDepth 100000 in
theorem osmall_any (g base : Nat) (w : World) (bs : List Nat) (form : Bool) (n least : Int) (hl : -1 ≤ least ∧ least ≤ 0) (hn : I64 n) (hwr : Wr 65 w g base form bs) (hlen : bs.length ≤ 1099511627776) :
   Calls Try.prog 25 #[.pointer (some ⟨g, 0, none⟩), .int .i64 n, .int .i64 least] w (EmitE 65 g base form bs 10 (encI least n) w) := by
  have hwt := hwr.flag (by decide) true
  have hwr0 := hwr
  obtain ⟨hbg, A, c, hb, how⟩ := hwr
  have c0 : w.cell? ⟨g, 0, none⟩ = some (.slice A bs.length c) := by simpa using hb.cell 0
  have c1 : w.cell? ⟨g, 1, none⟩ = some (.bool form) := by simpa using hb.cell 1
  have f1 := hb.frozen 1
  obtain ⟨hl1, hl2⟩ := hl
  clear hb how
  have HT := Lib.hid hwt
  clear hwt
  by_cases hgood : least ≤ n ∧ n ≤ 2147483647
  · obtain ⟨g1, g2⟩ := hgood
    have hz : U64 (n - least).toNat := by unfold U64; omega
    have d1 : decide (n < least) = false := by simpa using g1
    have d2 : decide (2147483647 < n) = false := by simpa using g2
    go_enter Try.func25, Try.ntmps25
    go_wp2_with fail
    refine (onum_z g base _ bs form _ (by omega) hz hwr0 hlen).mono fun e w' h => ?_
    have hH := Lib.hid (int_end (form := form) (least := least) (n := n) (Chg.refl _ _) h (encN_u64 hz) (fun _ _ => ⟨rfl, rfl⟩) (fun h => absurd ⟨g1, g2⟩ h))
    obtain ⟨rfl, _, _⟩ := h
    go_wp2_with fail
    go_end0
    exact hH.out
  · have Hbad := Lib.hid hgood
    clear hgood hwr0
    by_cases h1 : n < least
    all_goals
      have h2 : 2147483647 < n ∨ n < least := by have := Hbad.out; omega
      first | (have h3 : 2147483647 < n := by omega) | skip
      clear h2
      go_enter Try.func25, Try.ntmps25
      go_wp2_with fail
      refine (onum_z g base _ bs true _ (by omega) (by unfold U64; omega) HT.out.1 hlen).mono fun e w' h => ?_
      have hH := Lib.hid (int_end (form := form) (least := least) (n := n) HT.out.2 h (encN_u64 (by unfold U64; omega)) (fun a b => absurd ⟨a, b⟩ Hbad.out) (fun _ => rfl))
      obtain ⟨rfl, _, _⟩ := h
      go_wp2_with fail
      go_end0
      exact hH.out
end Go.Proofs.Ytfmhedpjkpaohaa
