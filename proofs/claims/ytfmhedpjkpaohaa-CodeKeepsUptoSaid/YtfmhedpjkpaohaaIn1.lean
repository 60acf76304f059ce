/-
  Reading in the reference: its state (In), a number (In.num).
-/
import Derived.Test.YtfmhedpjkpaohaaRead10
import Derived.BigQuiet
namespace Go.Proofs.Ytfmhedpjkpaohaa
open Go.RowKit
set_option linter.unusedVariables false
set_option linter.unusedSimpArgs false

/-- Where the reader lies: its block, and the bytes. -/
structure InB where
  p : Nat
  A : Option Addr
  c : Nat
structure InAt (R : InB) (B : Nat) (bs : List Nat) (w : World) (a : Nat) (bad : Int) : Prop where
  blk : Blk w R.p 90 #[.slice R.A bs.length R.c, .int .i64 (a : Int), .int .i64 bad]
  bytes : SlR B 0 1 ByteV w (.slice R.A bs.length R.c) bs
  low : B ≤ R.p ∧ B ≤ w.heap.size
def InS (R : InB) (B : Nat) (bs : List Nat) (w : World) (st : Except Nat Nat) : Prop := ∃ a : Nat, InAt R B bs w a (badI st) ∧ a ≤ bs.length ∧ (∀ a', st = .ok a' → a' = a) ∧ ∀ f, st = .error f → f ≤ bs.length
/-- What the reader turns. -/
def MI (R : InB) (b t : Nat) : Prop := b = R.p ∧ t = 90
section
variable {R : InB} {B : Nat} {bs : List Nat} {w w' : World} {a : Nat} {bad : Int} {st : Except Nat Nat} {M : Nat → Nat → Prop}
theorem InAt.keep (h : InAt R B bs w a bad) (hc : Chg M w w') (hm : ∀ b t, b < B → ¬ M b t) (hp : ¬ M R.p 90) : InAt R B bs w' a bad :=
  ⟨hc.blk h.blk hp, SlR.keep h.bytes hc ⟨hm, fun h => absurd rfl h⟩ fun _ _ h => h, h.low.1, Nat.le_trans h.low.2 hc.size⟩
theorem InS.keep (h : InS R B bs w st) (hc : Chg M w w') (hm : ∀ b t, b < B → ¬ M b t) (hp : ¬ M R.p 90) : InS R B bs w' st := by
  obtain ⟨a, h1, h2⟩ := h
  exact ⟨a, h1.keep hc hm hp, h2⟩
theorem InAt.setAt (h : InAt R B bs w a bad) (a' : Nat) : InAt R B bs (w.setCell ⟨R.p, 1, none⟩ (.int .i64 (a' : Int))) a' bad ∧ Chg (MI R) w (w.setCell ⟨R.p, 1, none⟩ (.int .i64 (a' : Int))) := by
  have hc := chg_set (j := 1) h.blk (.int .i64 (a' : Int))
  exact ⟨⟨by simpa using h.blk.set_ 1 (.int .i64 (a' : Int)), SlR.keep h.bytes hc ⟨fun b t hb h' => by have := h.low.1; have := h'.1; omega, fun h => absurd rfl h⟩ fun _ _ h => h, h.low.1, Nat.le_trans h.low.2 hc.size⟩, hc⟩
theorem InAt.setBad (h : InAt R B bs w a bad) (bad' : Int) : InAt R B bs (w.setCell ⟨R.p, 2, none⟩ (.int .i64 bad')) a bad' ∧ Chg (MI R) w (w.setCell ⟨R.p, 2, none⟩ (.int .i64 bad')) := by
  have hc := chg_set (j := 2) h.blk (.int .i64 bad')
  exact ⟨⟨by simpa using h.blk.set_ 2 (.int .i64 bad'), SlR.keep h.bytes hc ⟨fun b t hb h' => by have := h.low.1; have := h'.1; omega, fun h => absurd rfl h⟩ fun _ _ h => h, h.low.1, Nat.le_trans h.low.2 hc.size⟩, hc⟩
theorem InAt.byte (h : InAt R B bs w a bad) {k : Nat} (hk : k < bs.length) : ∃ b o x, R.A = some ⟨b, o, none⟩ ∧ bs[k]? = some x ∧ x < 256 ∧ w.cell? ⟨b, o + k, none⟩ = some (.int .u8 (x : Int)) := by
  obtain ⟨b, o, c', cs, hv, _, _, _, h1, ⟨rfl, h2⟩, h4⟩ := SlR.at_ h.bytes hk
  injection hv with hA
  exact ⟨b, o, bs[k], hA, List.getElem?_eq_getElem hk, h2, by simpa using h4 0 _ rfl⟩
end
def InNum (R : InB) (B : Nat) (bs : List Nat) (st : Except Nat Nat) (w : World) (e : Ending) (w' : World) : Prop :=
  ∃ n : Nat, e = .returned (.int .u64 (n : Int)) ∧ U64 n ∧ (∀ v a', runS (numP bs) st = .ok (v, a') → n = v) ∧ InS R B bs w' (endS (runS (numP bs) st)) ∧ Chg (MI R) w w'
theorem inNone {R : InB} {B : Nat} {bs : List Nat} {a : Nat} {w wx : World} (hI : InAt R B bs wx a (-1)) (ha : a ≤ bs.length) (h : numFrom 10 0 (bs.drop a) = none) (hc : Chg (fun _ _ => False) w wx) : InNum R B bs (.ok a) w (.returned (.int .u64 0)) (wx.setCell ⟨R.p, 2, none⟩ (.int .i64 (a : Int))) := by
  have hp : runS (numP bs) (.ok a) = .error a := by show numP bs a = _; unfold numP; rw [h]
  obtain ⟨h3, h4⟩ := hI.setBad (a : Int)
  exact ⟨0, rfl, by unfold U64; omega, (fun v a' h => by rw [hp] at h; cases h), by rw [hp]; exact ⟨a, h3, ha, (fun a' h => by cases h), fun f h => by injection h with h; omega⟩, (hc.mono fun _ _ _ h => h.elim).trans h4⟩
theorem InAt.small_bytes {R : InB} {B : Nat} {bs : List Nat} {w : World} {a : Nat} {bad : Int} (h : InAt R B bs w a bad) : ∀ c ∈ bs, c < 256 := by
  intro c hc
  obtain ⟨k, hk⟩ := List.getElem?_of_mem hc
  obtain ⟨hkl, _⟩ := List.getElem?_eq_some_iff.1 hk
  obtain ⟨_, _, x, _, hx, h2, _⟩ := h.byte hkl
  rw [hk] at hx
  injection hx with hx
  omega
theorem inSome {R : InB} {B : Nat} {bs : List Nat} {a n k : Nat} {v z : Int} {w wx : World} (hI : InAt R B bs wx a (-1)) (h : numFrom 10 0 (bs.drop a) = some (n, k)) (hv : v = (n : Int)) (hz : z = ((a + k : Nat) : Int)) (hc : Chg (fun _ _ => False) w wx) :
    InNum R B bs (.ok a) w (.returned (.int .u64 v)) (wx.setCell ⟨R.p, 1, none⟩ (.int .i64 z)) := by
  subst hv hz
  have hp : runS (numP bs) (.ok a) = .ok (n, a + k) := by show numP bs a = _; unfold numP; rw [h]
  obtain ⟨h3, h4⟩ := hI.setAt (a + k)
  have h5 := numP_ok (show numP bs a = .ok (n, a + k) from hp)
  refine ⟨n, rfl, numP_u64 hI.small_bytes (show numP bs a = .ok (n, a + k) from hp), (fun v a' h => by rw [hp] at h; injection h with h; injection h), ?_, (hc.mono fun _ _ _ h => h.elim).trans h4⟩
  rw [hp]
  exact ⟨a + k, h3, h5.2, (fun a' h => by injection h with h; exact h.symm), fun f h => by cases h⟩
theorem add_step {N c k : Nat} (hN : N < 128 ^ k) (hk : k ≤ 9) (hc : c < 256) (h9 : k = 9 → c ≤ 1) : IntKind.u64.wrap ((N : Int) + IntKind.u64.wrap ((c : Int) % 128 * 2 ^ (7 * k))) = ((N + c % 128 * 128 ^ k : Nat) : Int) := by
  have hp : (128 : Nat) ^ k = 2 ^ (7 * k) := by rw [show (128 : Nat) = 2 ^ 7 from rfl, ← Nat.pow_mul]
  have hx : N + c % 128 * 128 ^ k < 18446744073709551616 := by
    rcases Nat.lt_or_ge k 9 with h | h
    · have := numFrom_next (c := c) hN
      have h8 : 128 ^ (k + 1) ≤ 128 ^ 9 := Nat.pow_le_pow_right (by omega) (by omega)
      omega
    · have h' : k = 9 := by omega
      subst h'
      have := h9 rfl
      have : c % 128 * 128 ^ 9 ≤ 1 * 128 ^ 9 := Nat.mul_le_mul_right _ (by omega)
      omega
  have e1 : (c : Int) % 128 * 2 ^ (7 * k) = ((c % 128 * 128 ^ k : Nat) : Int) := by rw [hp]; push_cast; rfl
  rw [e1]
  generalize c % 128 * 128 ^ k = y at hx
  have e2 : IntKind.u64.wrap (y : Int) = y := IntWalk.u64_in _ ⟨by omega, by omega⟩
  rw [e2, ← Int.natCast_add]
  exact IntWalk.u64_in _ ⟨by omega, by omega⟩
def inLoop (bs : List Nat) (a : Nat) (w : World) (n i : Value) (wr : World) : Prop :=
  ∃ k N : Nat, k ≤ 10 ∧ n = .int .u64 (N : Int) ∧ i = .int .i64 (k : Int) ∧ N < 128 ^ k ∧ numFrom 10 0 (bs.drop a) = (numFrom (10 - k) k (bs.drop (a + k))).map (fun p => (N + p.1, p.2 + k)) ∧ Chg (fun _ _ => False) w wr
set_option maxRecDepth 100000 in
set_option maxHeartbeats 4000000 in
theorem innum_any (R : InB) (B : Nat) (bs : List Nat) (w : World) (st : Except Nat Nat) (h : InS R B bs w st) (hn : bs.length ≤ 1048576) :
    Calls Try.prog 65 #[ptr R.p] w (InNum R B bs st w) := by
  have HE := Lib.hid h
  obtain ⟨a, hb, ha, h1, h2⟩ := h
  obtain ⟨c0, c1, c2⟩ := hb.blk.cells3
  have z1 := hb.blk.frozen 1
  have z2 := hb.blk.frozen 2
  have HB := Lib.hid (And.intro hb (And.intro ha (And.intro h1 h2)))
  have ha0 : (0 : Int) ≤ (a : Int) := by omega
  have hai : (a : Int) ≤ 1048576 := by omega
  clear hb h1 h2
  cases st with
  | error f =>
    rw [show badI (.error f) = (f : Int) from rfl] at c2
    have hlt : decide (0 ≤ (f : Int)) = true := decide_eq_true (by omega)
    go_enter Try.func65, Try.ntmps65
    go_wp2_with fail
    go_ret
    exact ⟨0, rfl, by unfold U64; omega, (fun v a' h => by cases h), HE.out, Chg.refl _ _⟩
  | ok a' =>
    obtain rfl : a' = a := HB.out.2.2.1 a' rfl
    rw [show badI (.ok a') = -1 from rfl] at c2
    go_enter Try.func65, Try.ntmps65
    go_wp2_with fail
    clear c0 c1 c2 z1 z2
    go_loopw [3, 4] (fun n i wr => inLoop bs a' w n i wr) (fun _ i _ => 11 - (intOf i).toNat)
    case atStart => exact ⟨0, 0, by omega, rfl, rfl, by simp, by simp, Chg.refl _ _⟩
    case round =>
      obtain ⟨k, N, hk, rfl, rfl, hN, hnum, hch⟩ := hrel
      obtain ⟨wo, rfl⟩ : ∃ wo : World, wo = wr := ⟨_, rfl⟩
      have hI := HB.out.1.keep hch (fun _ _ _ => id) id
      rw [show badI (.ok a') = -1 from rfl] at hI
      obtain ⟨c0, c1, c2⟩ := hI.blk.cells3
      have z1 := hI.blk.frozen 1
      have z2 := hI.blk.frozen 2
      have HI := Lib.hid (And.intro hI hch)
      clear hI hch
      by_cases hkl : a' + k < bs.length
      · obtain ⟨b, o, c, hA, hx, hc, y0⟩ := HI.out.1.byte hkl
        rw [hA] at c0
        have hk0 : (0 : Int) ≤ (k : Int) := by omega
        have hki : (k : Int) ≤ 10 := by omega
        have hs1 : (a' : Int) + (k : Int) < (bs.length : Int) := by omega
        by_cases h10 : k = 10
        · subst h10
          clear hki hs1 hx hc
          have HN := Lib.hid (show numFrom 10 0 (bs.drop a') = none by rw [hnum]; rfl)
          go_wp2_with fail
          go_quiet (fail)
          go_wp2_with fail
          go_quiet (fail)
          go_wp2_with fail
          go_ret
          exact inNone (HI.out.1.keep (by repeat' (first | exact Chg.refl (fun _ _ => False) _ | apply Chg.drew | apply Chg.drewN)) (fun _ _ _ => id) id) ha HN.out (HI.out.2.trans (by repeat' (first | exact Chg.refl (fun _ _ => False) _ | apply Chg.drew | apply Chg.drewN)))
        · have hk10 : k < 10 := by omega
          rw [numFrom_step hk10 hx] at hnum
          have HX := Lib.hid (And.intro hnum hN)
          clear hnum hN hx h10
          have p9 : decide ((9 : Int) < (k : Int)) = false := decide_eq_false (by omega)
          have p9' : decide (9 < k) = false := decide_eq_false (by omega)
          by_cases h9 : k = 9
          · subst h9
            clear p9 p9'
            by_cases h1 : 1 < c
            · have q1 : decide ((1 : Int) < (c : Int)) = true := decide_eq_true (by omega)
              have q1' : decide (1 < c) = true := decide_eq_true (by omega)
              have HN := Lib.hid (show numFrom 10 0 (bs.drop a') = none by rw [HX.out.1, if_pos (.inl ⟨rfl, h1⟩)]; rfl)
              go_wp2_with fail
              go_quiet (fail)
              go_wp2_with fail
              go_quiet (fail)
              go_wp2_with fail
              go_ret
              exact inNone (HI.out.1.keep (by repeat' (first | exact Chg.refl (fun _ _ => False) _ | apply Chg.drew | apply Chg.drewN)) (fun _ _ _ => id) id) ha HN.out (HI.out.2.trans (by repeat' (first | exact Chg.refl (fun _ _ => False) _ | apply Chg.drew | apply Chg.drewN)))
            · by_cases h0 : c = 0
              · subst h0
                clear h1
                have HN := Lib.hid (show numFrom 10 0 (bs.drop a') = none by rw [HX.out.1, if_pos (.inr ⟨rfl, by omega⟩)]; rfl)
                go_wp2_with fail
                go_quiet (fail)
                go_wp2_with fail
                go_quiet (fail)
                go_wp2_with fail
                go_ret
                exact inNone (HI.out.1.keep (by repeat' (first | exact Chg.refl (fun _ _ => False) _ | apply Chg.drew | apply Chg.drewN)) (fun _ _ _ => id) id) ha HN.out (HI.out.2.trans (by repeat' (first | exact Chg.refl (fun _ _ => False) _ | apply Chg.drew | apply Chg.drewN)))
              · obtain rfl : c = 1 := by omega
                have hor : IntKind.u64.wrap ((N : Int) + 9223372036854775808) = ((N + 1 * 128 ^ 9 : Nat) : Int) := by rw [IntWalk.u64_in _ ⟨by omega, by have := HX.out.2; omega⟩]; rfl
                have HO := Lib.hid hor
                clear hor h0 h1
                have HN := Lib.hid (show numFrom 10 0 (bs.drop a') = some (N + 1 * 128 ^ 9, 1 + 9) by rw [HX.out.1, if_neg (by omega), if_pos (by omega)]; rfl)
                go_wp2_with fail
                go_quiet (fail)
                go_wp2_with fail
                go_quiet (fail)
                go_wp2_with fail
                all_goals go_ret
                all_goals exact inSome (HI.out.1.keep (by repeat' (first | exact Chg.refl (fun _ _ => False) _ | apply Chg.drew | apply Chg.drewN)) (fun _ _ _ => id) id) HN.out HO.out (by omega) (HI.out.2.trans (by repeat' (first | exact Chg.refl (fun _ _ => False) _ | apply Chg.drew | apply Chg.drewN)))
          · have q9 : ((k : Int) == 9) = false := by simp; omega
            have q9' : (k == 9) = false := by simp; omega
            by_cases h0 : c = 0
            · subst h0
              by_cases h1 : 0 < k
              · have qk : decide ((0 : Int) < (k : Int)) = true := decide_eq_true (by omega)
                have qk' : decide (0 < k) = true := decide_eq_true (by omega)
                have HN := Lib.hid (show numFrom 10 0 (bs.drop a') = none by rw [HX.out.1, if_pos (.inr ⟨rfl, h1⟩)]; rfl)
                go_wp2_with fail
                go_quiet (fail)
                go_wp2_with fail
                go_quiet (fail)
                go_wp2_with fail
                go_ret
                exact inNone (HI.out.1.keep (by repeat' (first | exact Chg.refl (fun _ _ => False) _ | apply Chg.drew | apply Chg.drewN)) (fun _ _ _ => id) id) ha HN.out (HI.out.2.trans (by repeat' (first | exact Chg.refl (fun _ _ => False) _ | apply Chg.drew | apply Chg.drewN)))
              · obtain rfl : k = 0 := by omega
                have hor : (N : Int) = ((N + 0 * 128 ^ 0 : Nat) : Int) := by simp
                have hs2 : (a' : Int) < (bs.length : Int) := by omega
                have y1 : wo.cell? ⟨b, o + a', none⟩ = some (.int .u8 0) := by simpa using y0
                have hwa : IntKind.i64.wrap (a' : Int) = (a' : Int) := IntWalk.i64_in _ ⟨by omega, by omega⟩
                have hw : IntKind.u64.wrap (N : Int) = (N : Int) := IntWalk.u64_in _ ⟨by omega, by have := HX.out.2; omega⟩
                have HO := Lib.hid hor
                clear hor h1 q9 q9'
                have HN := Lib.hid (show numFrom 10 0 (bs.drop a') = some (N + 0 * 128 ^ 0, 1 + 0) by rw [HX.out.1, if_neg (by omega), if_pos (by omega)]; rfl)
                go_wp2_with fail
                go_quiet (fail)
                go_wp2_with fail
                go_quiet (fail)
                go_wp2_with fail
                all_goals go_ret
                all_goals exact inSome (HI.out.1.keep (by repeat' (first | exact Chg.refl (fun _ _ => False) _ | apply Chg.drew | apply Chg.drewN)) (fun _ _ _ => id) id) HN.out HO.out (by omega) (HI.out.2.trans (by repeat' (first | exact Chg.refl (fun _ _ => False) _ | apply Chg.drew | apply Chg.drewN)))
            · have q0 : ((c : Int) == 0) = false := by simp; omega
              have q0' : (c == 0) = false := by simp; omega
              by_cases h1 : c < 128
              · have q128 : decide ((c : Int) < 128) = true := decide_eq_true (by omega)
                have q128' : decide (c < 128) = true := decide_eq_true (by omega)
                have HO := Lib.hid (add_step HX.out.2 (by omega) hc (by omega))
                have hmod : c % 128 = c := Nat.mod_eq_of_lt h1
                rw [hmod] at HO
                clear hmod
                have HN := Lib.hid (show numFrom 10 0 (bs.drop a') = some (N + c * 128 ^ k, 1 + k) by rw [HX.out.1, if_neg (by omega), if_pos (by omega)]; rfl)
                go_wp2_with fail
                go_quiet (fail)
                go_wp2_with fail
                go_quiet (fail)
                go_wp2_with fail
                all_goals go_ret
                all_goals exact inSome (HI.out.1.keep (by repeat' (first | exact Chg.refl (fun _ _ => False) _ | apply Chg.drew | apply Chg.drewN)) (fun _ _ _ => id) id) HN.out HO.out (by omega) (HI.out.2.trans (by repeat' (first | exact Chg.refl (fun _ _ => False) _ | apply Chg.drew | apply Chg.drewN)))
              · have q128 : decide ((c : Int) < 128) = false := decide_eq_false (by omega)
                have q128' : decide (c < 128) = false := decide_eq_false (by omega)
                have HO := Lib.hid (add_step HX.out.2 (by omega) hc (by omega))
                have HN := Lib.hid (show numFrom 10 0 (bs.drop a') = (numFrom (10 - (k + 1)) (k + 1) (bs.drop (a' + (k + 1)))).map (fun p => (N + c % 128 * 128 ^ k + p.1, p.2 + (k + 1))) by
                  rw [HX.out.1, if_neg (by omega), if_neg (by omega), Option.map_map]
                  congr 1
                  funext p
                  simp only [Function.comp, Prod.mk.injEq]
                  omega)
                go_wp2_with fail
                go_quiet (fail)
                go_wp2_with fail
                go_quiet (fail)
                go_wp2_with fail
                all_goals go_roundw
                all_goals first | (simp [intOf]; omega) | exact ⟨k + 1, N + c % 128 * 128 ^ k, by omega, by rw [HO.out], by simp, numFrom_next HX.out.2, HN.out, HI.out.2.trans (by repeat' (first | exact Chg.refl (fun _ _ => False) _ | apply Chg.drew | apply Chg.drewN))⟩
      · have HN := Lib.hid (show numFrom 10 0 (bs.drop a') = none by rw [hnum, numFrom_end (fun h => hkl h.2) hk]; rfl)
        clear hnum
        have q1 : decide ((a' : Int) + (k : Int) < (bs.length : Int)) = false := decide_eq_false (by omega)
        go_wp2_with fail
        go_quiet (fail)
        go_wp2_with fail
        go_ret
        exact inNone (HI.out.1.keep (by repeat' (first | exact Chg.refl (fun _ _ => False) _ | apply Chg.drew | apply Chg.drewN)) (fun _ _ _ => id) id) ha HN.out (HI.out.2.trans (by repeat' (first | exact Chg.refl (fun _ _ => False) _ | apply Chg.drew | apply Chg.drewN)))
end Go.Proofs.Ytfmhedpjkpaohaa
