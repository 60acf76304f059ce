/-
  Reading in the program: a number (Decode$2).
-/
import Derived.Test.YtdegfnejhamejaaRead1Zt
import Derived.Lib.EndianBits
namespace Go.Proofs.Ytdegfnejhamejaa
open Go.RowKit
set_option linter.unusedVariables false
set_option linter.unusedSimpArgs false

def EntersC (fid : Nat) : Prop := ∀ (xs : Array Value) (w' : World), (callFunc fid xs).run Try.prog w' = .ok (.enter fid xs) w'
theorem entersR1 : EntersC 37 := by
  intro xs w'; show (callFunc _ _).run _ _ = _
  simp [callFunc, Try.func37, go_sem]
  rw [if_neg (by decide +kernel), if_neg (fun h => by cases h)]
theorem enters2 : EntersC 38 := by
  intro xs w'; show (callFunc _ _).run _ _ = _
  simp [callFunc, Try.func38, go_sem]
  rw [if_neg (by decide +kernel), if_neg (fun h => by cases h)]
theorem enters3 : EntersC 39 := by
  intro xs w'; show (callFunc _ _).run _ _ = _
  simp [callFunc, Try.func39, go_sem]
  rw [if_neg (by decide +kernel), if_neg (fun h => by cases h)]
theorem enters4 : EntersC 40 := by
  intro xs w'; show (callFunc _ _).run _ _ = _
  simp [callFunc, Try.func40, go_sem]
  rw [if_neg (by decide +kernel), if_neg (fun h => by cases h)]
theorem enters5 : EntersC 41 := by
  intro xs w'; show (callFunc _ _).run _ _ = _
  simp [callFunc, Try.func41, go_sem]
  rw [if_neg (by decide +kernel), if_neg (fun h => by cases h)]
theorem enters6 : EntersC 43 := by
  intro xs w'; show (callFunc _ _).run _ _ = _
  simp [callFunc, Try.func43, go_sem]
  rw [if_neg (by decide +kernel), if_neg (fun h => by cases h)]
theorem Boxes.byte {E : EnvB} {B : Nat} {bs : List Nat} {w : World} {a : Nat} {bad : Int} (h : Boxes E B bs w a bad) {k : Nat} (hk : k < bs.length) : ∃ b o x, E.A = some ⟨b, o, none⟩ ∧ bs[k]? = some x ∧ x < 256 ∧ w.cell? ⟨b, o + k, none⟩ = some (.int .u8 (x : Int)) := by
  obtain ⟨b, o, c', cs, hv, _, _, _, h1, ⟨rfl, h2⟩, h4⟩ := SlR.at_ h.bytes hk
  injection hv with hA
  exact ⟨b, o, bs[k], hA, List.getElem?_eq_getElem hk, h2, by simpa using h4 0 _ rfl⟩
theorem numFrom_step {bs : List Nat} {a k c : Nat} (hk : k < 10) (hx : bs[a + k]? = some c) : numFrom (10 - k) k (bs.drop (a + k)) = if (k = 9 ∧ 1 < c) ∨ (c = 0 ∧ 0 < k) then none else if c < 128 then some (c * 128 ^ k, 1) else (numFrom (10 - (k + 1)) (k + 1) (bs.drop (a + (k + 1)))).map fun p => (c % 128 * 128 ^ k + p.1, p.2 + 1) := by
  obtain ⟨h1, h2⟩ := List.getElem?_eq_some_iff.1 hx
  rw [List.drop_eq_getElem_cons h1, h2, show 10 - k = (10 - (k + 1)) + 1 by omega]
  rfl
theorem numFrom_end {bs : List Nat} {a k : Nat} (h : ¬ (k < 10 ∧ a + k < bs.length)) (hk : k ≤ 10) : numFrom (10 - k) k (bs.drop (a + k)) = none := by
  rcases Nat.lt_or_ge k 10 with hk' | hk'
  · rw [List.drop_eq_nil_of_le (by omega), show 10 - k = (10 - (k + 1)) + 1 by omega]
    rfl
  · rw [show 10 - k = 0 by omega]
    rfl
theorem and127 : ∀ b : Fin 256, bits .and .u8 ((b.val : Nat) : Int) 127 = ((b.val % 128 : Nat) : Int) := by decide +kernel
theorem or_step {N c k : Nat} (hN : N < 128 ^ k) (hk : k ≤ 9) (hc : c < 256) (h9 : k = 9 → c ≤ 1) : bits .or .u64 (N : Int) (IntKind.u64.wrap (IntKind.u64.wrap (bits .and .u8 (c : Int) 127) * 2 ^ (7 * k))) = ((N + c % 128 * 128 ^ k : Nat) : Int) := by
  rw [and127 ⟨c, hc⟩]
  simp only
  have hp : (128 : Nat) ^ k = 2 ^ (7 * k) := by rw [show (128 : Nat) = 2 ^ 7 from rfl, ← Nat.pow_mul]
  have hx : c % 128 * 128 ^ k < 18446744073709551616 := by
    rcases Nat.lt_or_ge k 9 with h | h
    · have hp8 : 128 ^ k ≤ 128 ^ 8 := Nat.pow_le_pow_right (by omega) (by omega)
      have : c % 128 * 128 ^ k ≤ 127 * 128 ^ 8 := Nat.mul_le_mul (by omega) hp8
      omega
    · have h' : k = 9 := by omega
      have hc1 := h9 h'
      subst h'
      have : c % 128 * 128 ^ 9 ≤ 1 * 128 ^ 9 := Nat.mul_le_mul_right _ (by omega)
      omega
  have hN64 : N < 18446744073709551616 := by
    have hp9 : 128 ^ k ≤ 128 ^ 9 := Nat.pow_le_pow_right (by omega) hk
    omega
  have h1 : IntKind.u64.wrap ((c % 128 : Nat) : Int) = ((c % 128 : Nat) : Int) := wraps_u64 _ (by omega) (by omega)
  have h2 : ((c % 128 : Nat) : Int) * 2 ^ (7 * k) = ((c % 128 * 128 ^ k : Nat) : Int) := by rw [hp]; push_cast; rfl
  have h3 : IntKind.u64.wrap ((c % 128 * 128 ^ k : Nat) : Int) = ((c % 128 * 128 ^ k : Nat) : Int) := wraps_u64 _ (by omega) (by omega)
  rw [h1, h2, h3]
  have h4 := bits_join_low .u64 64 (by decide) (fun n h0 h1 => wraps_u64 n h0 h1) (7 * k) (N : Int) ((c % 128 * 128 ^ k : Nat) : Int) (by omega) (by rw [hp] at hN; exact_mod_cast hN) (by omega) (by omega) (by rw [hp]; exact_mod_cast Nat.mul_mod_left _ _) (by omega)
  rw [h4]
  push_cast
  rfl
def NumRes (E : EnvB) (B : Nat) (bs : List Nat) (st : Except Nat Nat) (w : World) (e : Ending) (w' : World) : Prop :=
  ∃ n : Nat, e = .returned (.int .u64 (n : Int)) ∧ U64 n ∧ (∀ v a', runS (numP bs) st = .ok (v, a') → n = v) ∧ Env E B bs w' (endS (runS (numP bs) st)) ∧ Chg (ME E) w w'
theorem numRes_none {E : EnvB} {B : Nat} {bs : List Nat} {a : Nat} {w w' : World} (h : numFrom 10 0 (bs.drop a) = none) (h1 : Env E B bs w' (failS (.ok a) a)) (h2 : Chg (ME E) w w') : NumRes E B bs (.ok a) w (.returned (.int .u64 0)) w' := by
  have hp : runS (numP bs) (.ok a) = .error a := by show numP bs a = _; unfold numP; rw [h]
  exact ⟨0, rfl, by unfold U64; omega, (fun v a' h => by rw [hp] at h; cases h), by rw [hp]; exact h1, h2⟩
theorem numRes_some {E : EnvB} {B : Nat} {bs : List Nat} {a n k at' : Nat} {z : Int} {w : World} (hb : Boxes E B bs w a (badI (.ok a))) (hl : ∀ c ∈ bs, c < 256) (h : numFrom 10 0 (bs.drop a) = some (n, k)) (hat : at' = a + k) (hz : z = (at' : Int)) :
    NumRes E B bs (.ok a) w (.returned (.int .u64 (n : Int))) (w.setCell ⟨E.ba, 0, none⟩ (.int .i64 z)) := by
  subst hz hat
  have hp : runS (numP bs) (.ok a) = .ok (n, a + k) := by show numP bs a = _; unfold numP; rw [h]
  obtain ⟨h3, h4⟩ := hb.setAt (a + k)
  have h5 := numP_ok (show numP bs a = .ok (n, a + k) from hp)
  refine ⟨n, rfl, numP_u64 hl (show numP bs a = .ok (n, a + k) from hp), (fun v a' h => by rw [hp] at h; injection h with h; injection h), ?_, h4⟩
  rw [hp]
  exact ⟨a + k, h3, h5.2, (fun a' h => by injection h with h; exact h.symm), fun f h => by cases h⟩
theorem Boxes.small_bytes {E : EnvB} {B : Nat} {bs : List Nat} {w : World} {a : Nat} {bad : Int} (h : Boxes E B bs w a bad) : ∀ c ∈ bs, c < 256 := by
  intro c hc
  obtain ⟨k, hk⟩ := List.getElem?_of_mem hc
  obtain ⟨hkl, _⟩ := List.getElem?_eq_some_iff.1 hk
  obtain ⟨_, _, x, _, hx, h2, _⟩ := h.byte hkl
  rw [hk] at hx
  injection hx with hx
  omega
theorem numFrom_next {N c k : Nat} (hN : N < 128 ^ k) : N + c % 128 * 128 ^ k < 128 ^ (k + 1) := by
  have h1 : c % 128 * 128 ^ k ≤ 127 * 128 ^ k := Nat.mul_le_mul_right _ (by omega)
  rw [Nat.pow_succ]
  omega
def numLoop (bs : List Nat) (a : Nat) (w : World) (n i : Value) (wr : World) : Prop :=
  ∃ k N : Nat, k ≤ 10 ∧ n = .int .u64 (N : Int) ∧ i = .int .i64 (k : Int) ∧ N < 128 ^ k ∧ numFrom 10 0 (bs.drop a) = (numFrom (10 - k) k (bs.drop (a + k))).map (fun p => (N + p.1, p.2 + k)) ∧ wr = w
set_option maxRecDepth 100000 in
set_option maxHeartbeats 4000000 in
theorem number_any (E : EnvB) (B : Nat) (bs : List Nat) (w : World) (st : Except Nat Nat) (h : Env E B bs w st) (hn : bs.length ≤ 1048576) :
    Calls Try.prog 38 #[ptr E.bb, ptr E.ba, ptr E.bs, ptr E.bf] w (NumRes E B bs st w) := by
  have HE := Lib.hid h
  obtain ⟨a, hb, ha, h1, h2⟩ := h
  have c0 := hb.bad.cell 0
  have c1 := hb.at_.cell 0
  have z1 := hb.at_.frozen 0
  have c2 := hb.text.cell 0
  have c3 := hb.fail.cell 0
  have HB := Lib.hid (And.intro hb (And.intro ha (And.intro h1 h2)))
  have ha0 : (0 : Int) ≤ (a : Int) := by omega
  have hai : (a : Int) ≤ 1048576 := by omega
  clear hb h1 h2
  simp only [List.getElem?_toArray, List.getElem?_cons_zero] at c0 c1 c2 c3
  cases st with
  | error f =>
    have hbi : badI (.error f) = (f : Int) := rfl
    rw [hbi] at c0
    have hlt : decide ((f : Int) < 0) = false := decide_eq_false (by omega)
    clear hbi
    go_enter Try.func38, Try.ntmps38
    have e1 : ∀ (xs : Array Value) (w' : World), (callFunc 37 xs).run Try.prog w' = .ok (.enter 37 xs) w' := entersR1
    go_wp2_with fail
    go_loopw [6] (fun i wr => i = .int .i64 0 ∧ wr = w) (fun _ _ => 0)
    case atStart => exact ⟨rfl, rfl⟩
    case round =>
      obtain ⟨rfl, rfl⟩ := hrel
      go_wp2_with fail
      refine (fail_any E B bs _ _ HE.out a ha).mono fun e w1 hh => ?_
      obtain ⟨rfl, h3, h4⟩ := hh
      have H1 := Lib.hid (And.intro h3 h4)
      clear h3 h4
      go_wp2_with fail
      go_ret
      exact ⟨0, rfl, by unfold U64; omega, (fun v a' h => by cases h), H1.out.1, H1.out.2⟩
  | ok a' =>
    obtain rfl : a' = a := HB.out.2.2.1 a' rfl
    have hbi : badI (.ok a') = -1 := rfl
    rw [hbi] at c0
    clear hbi
    go_enter Try.func38, Try.ntmps38
    go_wp2_with fail
    go_loopw [5, 6] (fun n i wr => numLoop bs a' w n i wr) (fun _ i _ => 10 - (intOf i).toNat)
    case atStart => exact ⟨0, 0, by omega, rfl, rfl, by simp, by simp, rfl⟩
    case round =>
      obtain ⟨k, N, hk, rfl, rfl, hN, hnum, rfl⟩ := hrel
      by_cases hgo : k < 10 ∧ a' + k < bs.length
      · obtain ⟨hk10, hkl⟩ := hgo
        obtain ⟨b, o, c, hA, hx, hc, y0⟩ := HB.out.1.byte hkl
        rw [hA] at c2
        rw [numFrom_step hk10 hx] at hnum
        have HX := Lib.hid (And.intro hnum hN)
        clear hnum hN hx hA
        have hk0 : (0 : Int) ≤ (k : Int) := by omega
        have hki : (k : Int) < 10 := by omega
        have hs1 : (a' : Int) + (k : Int) < (bs.length : Int) := by omega
        by_cases h9 : k = 9
        · subst h9
          by_cases h1 : 1 < c
          · have q1 : decide ((1 : Int) < (c : Int)) = true := by simp; omega
            have q1' : decide (1 < c) = true := by simp; omega
            have HN := Lib.hid (show numFrom 10 0 (bs.drop a') = none by rw [HX.out.1, if_pos (.inl ⟨rfl, h1⟩)]; rfl)
            go_wp2_with fail
            refine (fail_any E B bs _ _ HE.out a' ha).mono fun e w1 hh => ?_
            obtain ⟨rfl, h3, h4⟩ := hh
            have H1 := Lib.hid (And.intro h3 h4)
            clear h3 h4
            go_wp2_with fail
            go_ret
            exact numRes_none HN.out H1.out.1 H1.out.2
          · by_cases h0 : c = 0
            · have q1 : decide ((1 : Int) < (c : Int)) = false := by simp; omega
              have q1' : decide (1 < c) = false := by simp; omega
              have q0 : ((c : Int) == 0) = true := by simp; omega
              have q0' : (c == 0) = true := by simp; omega
              have HN := Lib.hid (show numFrom 10 0 (bs.drop a') = none by rw [HX.out.1, if_pos (.inr ⟨h0, by omega⟩)]; rfl)
              go_wp2_with fail
              refine (fail_any E B bs _ _ HE.out a' ha).mono fun e w1 hh => ?_
              obtain ⟨rfl, h3, h4⟩ := hh
              have H1 := Lib.hid (And.intro h3 h4)
              clear h3 h4
              go_wp2_with fail
              go_ret
              exact numRes_none HN.out H1.out.1 H1.out.2
            · have q1 : decide ((1 : Int) < (c : Int)) = false := by simp; omega
              have q1' : decide (1 < c) = false := by simp; omega
              have q0 : ((c : Int) == 0) = false := by simp; omega
              have q0' : (c == 0) = false := by simp; omega
              have q128 : decide ((c : Int) < 128) = true := by simp; omega
              have q128' : decide (c < 128) = true := by simp; omega
              have HN := Lib.hid (show numFrom 10 0 (bs.drop a') = some (N + c * 128 ^ 9, 1 + 9) by rw [HX.out.1, if_neg (by omega), if_pos (by omega)]; rfl)
              have hor := or_step HX.out.2 (by omega) hc (by omega)
              rw [Nat.mod_eq_of_lt (by omega : c < 128), show (2 : Int) ^ (7 * 9) = 9223372036854775808 by simp] at hor
              have HO := Lib.hid hor
              clear hor
              go_wp2_with fail
              go_ret
              rw [HO.out]
              exact numRes_some HB.out.1 HB.out.1.small_bytes HN.out rfl (by omega)
        · by_cases h0 : c = 0
          · by_cases h1 : 0 < k
            · have q9 : ((k : Int) == 9) = false := by simp; omega
              have q9' : (k == 9) = false := by simp; omega
              have q0 : ((c : Int) == 0) = true := by simp; omega
              have q0' : (c == 0) = true := by simp; omega
              have qk : decide ((0 : Int) < (k : Int)) = true := by simp; omega
              have qk' : decide (0 < k) = true := by simp; omega
              have HN := Lib.hid (show numFrom 10 0 (bs.drop a') = none by rw [HX.out.1, if_pos (by omega)]; rfl)
              go_wp2_with fail
              refine (fail_any E B bs _ _ HE.out a' ha).mono fun e w1 hh => ?_
              obtain ⟨rfl, h3, h4⟩ := hh
              have H1 := Lib.hid (And.intro h3 h4)
              clear h3 h4
              go_wp2_with fail
              go_ret
              exact numRes_none HN.out H1.out.1 H1.out.2
            · have q9 : ((k : Int) == 9) = false := by simp; omega
              have q9' : (k == 9) = false := by simp; omega
              have q0 : ((c : Int) == 0) = true := by simp; omega
              have q0' : (c == 0) = true := by simp; omega
              have qk : decide ((0 : Int) < (k : Int)) = false := by simp; omega
              have qk' : decide (0 < k) = false := by simp; omega
              have q128 : decide ((c : Int) < 128) = true := by simp; omega
              have q128' : decide (c < 128) = true := by simp; omega
              have HN := Lib.hid (show numFrom 10 0 (bs.drop a') = some (N + 0 * 128 ^ k, 1 + k) by rw [HX.out.1, if_neg (by omega), if_pos (by omega), h0]; rfl)
              have hor := or_step HX.out.2 (by omega) hc (by omega)
              rw [Nat.mod_eq_of_lt (by omega : c < 128), h0, show ((0 : Nat) : Int) = 0 from rfl] at hor
              have HO := Lib.hid hor
              clear hor
              go_wp2_with fail
              go_ret
              rw [HO.out]
              exact numRes_some HB.out.1 HB.out.1.small_bytes HN.out rfl (by omega)
          · by_cases h1 : c < 128
            · have q9 : ((k : Int) == 9) = false := by simp; omega
              have q9' : (k == 9) = false := by simp; omega
              have q0 : ((c : Int) == 0) = false := by simp; omega
              have q0' : (c == 0) = false := by simp; omega
              have q128 : decide ((c : Int) < 128) = true := by simp; omega
              have q128' : decide (c < 128) = true := by simp; omega
              have HN := Lib.hid (show numFrom 10 0 (bs.drop a') = some (N + c * 128 ^ k, 1 + k) by rw [HX.out.1, if_neg (by omega), if_pos (by omega)]; rfl)
              have hor := or_step HX.out.2 (by omega) hc (by omega)
              rw [Nat.mod_eq_of_lt (by omega : c < 128)] at hor
              have HO := Lib.hid hor
              clear hor
              go_wp2_with fail
              go_ret
              rw [HO.out]
              exact numRes_some HB.out.1 HB.out.1.small_bytes HN.out rfl (by omega)
            · have q9 : ((k : Int) == 9) = false := by simp; omega
              have q9' : (k == 9) = false := by simp; omega
              have q0 : ((c : Int) == 0) = false := by simp; omega
              have q0' : (c == 0) = false := by simp; omega
              have q128 : decide ((c : Int) < 128) = false := by simp; omega
              have q128' : decide (c < 128) = false := by simp; omega
              have hor := or_step HX.out.2 (by omega) hc (by omega)
              have HO := Lib.hid hor
              have HN := Lib.hid (show numFrom 10 0 (bs.drop a') = (numFrom (10 - (k + 1)) (k + 1) (bs.drop (a' + (k + 1)))).map (fun p => (N + c % 128 * 128 ^ k + p.1, p.2 + (k + 1))) by
                rw [HX.out.1, if_neg (by omega), if_neg (by omega), Option.map_map]
                congr 1
                funext p
                simp only [Function.comp, Prod.mk.injEq]
                omega)
              clear hor
              go_wp2_with fail
              go_roundw
              case rel => exact ⟨k + 1, N + c % 128 * 128 ^ k, by omega, by rw [HO.out], by simp, numFrom_next HX.out.2, HN.out, rfl⟩
              case measure => simp [intOf]; omega
      · have HN := Lib.hid (show numFrom 10 0 (bs.drop a') = none by rw [hnum, numFrom_end hgo hk]; rfl)
        clear hnum
        by_cases h10 : k < 10
        · have q1 : decide ((a' : Int) + (k : Int) < (bs.length : Int)) = false := decide_eq_false (by omega)
          have q2 : decide ((k : Int) < 10) = true := decide_eq_true (by omega)
          clear hgo
          go_wp2_with fail
          refine (fail_any E B bs _ _ HE.out a' ha).mono fun e w1 hh => ?_
          obtain ⟨rfl, h3, h4⟩ := hh
          have H1 := Lib.hid (And.intro h3 h4)
          clear h3 h4
          go_wp2_with fail
          go_ret
          exact numRes_none HN.out H1.out.1 H1.out.2
        · obtain rfl : k = 10 := by omega
          clear hgo h10
          go_wp2_with fail
          refine (fail_any E B bs _ _ HE.out a' ha).mono fun e w1 hh => ?_
          obtain ⟨rfl, h3, h4⟩ := hh
          have H1 := Lib.hid (And.intro h3 h4)
          clear h3 h4
          go_wp2_with fail
          go_ret
          exact numRes_none HN.out H1.out.1 H1.out.2
end Go.Proofs.Ytdegfnejhamejaa
