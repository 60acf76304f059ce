/-
  The program's heap and the reference's, side by side; the law's small functions.
-/
import Derived.Test.YteigopmdhhgnfaaHAll
import Derived.Test.YteigopmdhhgnfaaHrAlloc
namespace Go.Proofs.Yteigopmdhhgnfaa
open Go.RowKit
set_option linter.unusedVariables false
set_option linter.unusedSimpArgs false

def RhR (F : Nat → Prop) (w : World) (q : Nat) (S : List ObjD) (bud : Nat) : Prop := ∃ A c, RhI F w q A c S bud
def RhP (F : Nat → Prop) (w w' : World) (q : Nat) (S : List ObjD) (bud : Nat) : Prop := ∃ F' : Nat → Prop, RhR F' w' q S bud ∧ (∀ b, F' b → F b ∨ w.heap.size ≤ b) ∧ Chg (MR F) w w'
/-- What calls on heaps may turn: blocks of the law's own, of these types. -/
def ML2 (base b t : Nat) : Prop := base ≤ b ∧ (t = 75 ∨ t = 44 ∨ t = 0 ∨ t = 42)
def HTwo (base : Nat) (w : World) (p q bud N : Nat) (S1 S2 : List ObjD) : Prop :=
  ∃ G F : Nat → Prop, HpR G w p N S1 bud ∧ RhR F w q S2 bud ∧ (∀ b, G b → ¬ F b) ∧ (∀ b, G b → base ≤ b) ∧ (∀ b, F b → base ≤ b)
theorem ML2_no {base b t : Nat} (h : decide (t = 75 ∨ t = 44 ∨ t = 0 ∨ t = 42) = false) : ¬ ML2 base b t := fun hm => of_decide_eq_false h hm.2
theorem Chg.no {M : Nat → Nat → Prop} {w w' : World} (h : Chg (fun _ _ => False) w w') : Chg M w w' := h.mono fun _ _ _ h => h.elim
section
variable {base p q bud N N' : Nat} {w w' : World} {S S1 S2 : List ObjD} {G F : Nat → Prop} {M : Nat → Nat → Prop}
theorem RhR.keep (h : RhR F w q S bud) (hc : Chg M w w') (hm : ∀ b t, F b → ¬ M b t) : RhR F w' q S bud := by
  obtain ⟨A, c, h⟩ := h
  exact ⟨A, c, h.keep hc hm⟩
theorem RhR.lt (h : RhR F w q S bud) {b : Nat} (hb : F b) : b < w.heap.size := by
  obtain ⟨A, c, h⟩ := h
  exact h.lt b hb
theorem HpR.mono (h : HpR G w p N S bud) (hn : N ≤ N') : HpR G w p N' S bud := by
  obtain ⟨m, n, cnt, bo, A, c, least, h, h2⟩ := h
  exact ⟨m, n, cnt, bo, A, c, least, h, Nat.le_trans h2 hn⟩
theorem HTwo.same (h : HTwo base w p q bud N S1 S2) (hc : Chg (fun _ _ => False) w w') : HTwo base w' p q bud N S1 S2 := by
  obtain ⟨G, F, h1, h2, h3⟩ := h
  exact ⟨G, F, h1.keep hc (fun _ _ _ => id), h2.keep hc (fun _ _ _ => id), h3⟩
theorem HTwo.left (h : HTwo base w p q bud N S1 S2) (hs : base ≤ w.heap.size) : ∃ G, HpR G w p N S1 bud ∧ (∀ b, G b → base ≤ b) ∧ ∀ w' N' S', HpP G w w' p N' S' bud → HTwo base w' p q bud N' S' S2 ∧ Chg (ML2 base) w w' := by
  obtain ⟨G, F, h1, h2, h3, h4, h5⟩ := h
  refine ⟨G, h1, h4, fun w' N' S' hP => ?_⟩
  have hch := hP.chg
  obtain ⟨G', k1, k2, _⟩ := hP
  refine ⟨⟨G', F, k1, h2.keep hch (fun b t hF hM => h3 b hM.1 hF), fun b hG hF => ?_, fun b hG => ?_, h5⟩, hch.mono fun b t _ hM => ⟨h4 b hM.1, ?_⟩⟩
  · rcases k2 b hG with h | h
    · exact h3 b h hF
    · have := h2.lt hF; omega
  · rcases k2 b hG with h | h
    · exact h4 b h
    · omega
  · rcases hM.2 with h | h | h <;> simp [h]
theorem HTwo.right (h : HTwo base w p q bud N S1 S2) (hs : base ≤ w.heap.size) : ∃ F, RhR F w q S2 bud ∧ (∀ b, F b → base ≤ b) ∧ ∀ w' S', RhP F w w' q S' bud → HTwo base w' p q bud N S1 S' ∧ Chg (ML2 base) w w' := by
  obtain ⟨G, F, h1, h2, h3, h4, h5⟩ := h
  refine ⟨F, h2, h5, fun w' S' hP => ?_⟩
  obtain ⟨F', k1, k2, hch⟩ := hP
  refine ⟨⟨G, F', h1.keep hch (fun b t hG hM => h3 b hG hM.1), k1, fun b hG hF => ?_, h4, fun b hF => ?_⟩, hch.mono fun b t _ hM => ⟨h5 b hM.1, ?_⟩⟩
  · rcases k2 b hF with h | h
    · exact h3 b hG h
    · have := h1.lt hG; omega
  · rcases k2 b hF with h | h
    · exact h5 b h
    · omega
  · rcases hM.2 with h | h <;> simp [h]
theorem HTwo.good (h : HTwo base w p q bud N S1 S2) : GoodO S1 ∧ usedO S1 ≤ bud ∧ bud ≤ 65536 := by
  obtain ⟨G, F, ⟨m, n, cnt, bo, A, c, least, h1, _⟩, _⟩ := h
  exact ⟨h1.good, h1.room⟩
/-! ## The heap's calls, with what lies where left open -/
theorem hget_P (h : HpR G w p N S bud) (o i : Int) (ho : I64 o) : Calls Try.prog 17 #[.pointer (some ⟨p, 0, none⟩), .int .i64 o, .int .i64 i] w fun e w' => e = .returned (.tuple #[.int .u64 ((getV S o i).1 : Int), .bool (getV S o i).2.1, .int .i64 (getV S o i).2.2]) ∧ Chg (fun _ _ => False) w w' := by
  obtain ⟨m, n, cnt, bo, A, c, least, h1, h2⟩ := h
  exact hget_any G w p m n cnt bo A c S bud least o i h1 ho
theorem hlen_P (h : HpR G w p N S bud) (o : Int) (ho : I64 o) : Calls Try.prog 16 #[.pointer (some ⟨p, 0, none⟩), .int .i64 o] w fun e w' => e = .returned (.tuple #[.int .i64 ((lenV S o).1 : Int), .int .i64 (lenV S o).2]) ∧ Chg (fun _ _ => False) w w' := by
  obtain ⟨m, n, cnt, bo, A, c, least, h1, h2⟩ := h
  exact hlen_any G w p m n cnt bo A c S bud least o h1 ho
theorem hset_P (h : HpR G w p N S bud) (o i : Int) (v : Nat) (ho : I64 o) (hv : v < 18446744073709551616) : Calls Try.prog 30 #[.pointer (some ⟨p, 0, none⟩), .int .i64 o, .int .i64 i, .int .u64 (v : Int)] w fun e w' => e = .returned (.int .i64 (setE S o i v)) ∧ HpP G w w' p N (setS S o i v) bud := by
  obtain ⟨m, n, cnt, bo, A, c, least, h1, h2⟩ := h
  exact (hset_any G w p m n cnt bo A c S bud least o i v h1 ho hv).mono fun e w' hh => ⟨hh.1, G, hh.2.1.r h2, fun b hb => .inl hb, hh.2.2⟩
theorem hused_P (h : HpR G w p N S bud) : Calls Try.prog 22 #[.pointer (some ⟨p, 0, none⟩)] w fun e w' => e = .returned (.int .i64 ((usedO S : Nat) : Int)) ∧ Chg (fun _ _ => False) w w' := by
  obtain ⟨m, n, cnt, bo, A, c, least, h1, h2⟩ := h
  exact hused_of w p m bud (usedO S) least h1.blk
theorem hreach_P (h : HpR G w p N S bud) {B : Nat} {roots : List Int} {RA : Option Addr} {rc : Nat} (hr : SlR B 0 1 IntZ w (.slice RA roots.length rc) roots) (hB : B ≤ w.heap.size) (hI : ∀ r ∈ roots, I64 r) (hl : roots.length ≤ 1048576) :
    Calls Try.prog 18 #[.pointer (some ⟨p, 0, none⟩), .slice RA roots.length rc] w fun e w' => ∃ zs A' c', e = .returned (.tuple #[.slice A' zs.length c', .int .i64 (if knownO S roots = true then 0 else 15)]) ∧ RowR w.heap.size 3 1 IntZ w' A' c' zs ∧ zs = (if knownO S roots = true then reachL S roots else []) ∧ Chg (fun _ _ => False) w w' := by
  obtain ⟨m, n, cnt, bo, A, c, least, h1, h2⟩ := h
  exact hreach_any G B w p m n cnt bo A c S bud least roots RA rc h1 hr hB hI hl
noncomputable def collE (S : List ObjD) (roots : List Int) : Int × Int := if knownO S roots = true then (((S.length - (liveO S roots).length : Nat) : Int), 0) else (0, 15)
noncomputable def collT (S : List ObjD) (roots : List Int) : List ObjD := if knownO S roots = true then liveO S roots else S
theorem hcoll_P (h : HpR G w p N S bud) {B : Nat} {roots : List Int} {RA : Option Addr} {rc : Nat} (hr : SlR B 0 1 IntZ w (.slice RA roots.length rc) roots) (hB : B ≤ w.heap.size) (hI : ∀ r ∈ roots, I64 r) (hl : roots.length ≤ 1048576) :
    Calls Try.prog 23 #[.pointer (some ⟨p, 0, none⟩), .slice RA roots.length rc] w fun e w' => e = .returned (.tuple #[.int .i64 (collE S roots).1, .int .i64 (collE S roots).2]) ∧ HpP G w w' p N (collT S roots) bud := by
  obtain ⟨m, n, cnt, bo, A, c, least, h1, h2⟩ := h
  refine (hcollect_any G B w p m n cnt bo A c S bud least roots RA rc h1 hr hB hI hl (Nat.le_trans h1.le (by decide))).mono fun e w' hh => ?_
  unfold collE collT
  cases hk : knownO S roots with
  | false =>
    obtain ⟨rfl, hc⟩ := hh.1 hk
    simp only [Bool.false_eq_true, if_false]
    exact ⟨trivial, HpP.same ⟨m, n, cnt, bo, A, c, least, h1, h2⟩ hc⟩
  | true =>
    obtain ⟨lx, ct, rfl, _, hi, hc⟩ := hh.2 hk
    simp only [if_true]
    exact ⟨trivial, G, hi.r h2, fun b hb => .inl hb, hc⟩
theorem halloc_P (h : HpR G w p N S bud) {refs : List Bool} {FA RA : Option Addr} {fc rc : Nat} {roots : List Int} (hf : SlR 0 4 1 BoolV w (.slice FA refs.length fc) refs) (hr : SlR 0 3 1 IntZ w (.slice RA roots.length rc) roots) (hI : ∀ r ∈ roots, I64 r) (hl : roots.length ≤ 1048576) (hfl : refs.length ≤ 1048576) (hn : N < maxLen) :
    Calls Try.prog 13 #[.pointer (some ⟨p, 0, none⟩), .slice FA refs.length fc, .slice RA roots.length rc] w fun e w' => e = .returned (.tuple #[.int .i64 (allocV S bud refs roots).1, .int .i64 (allocV S bud refs roots).2]) ∧ HpP G w w' p (N + 1) (allocT S bud refs roots) bud := by
  obtain ⟨m, n, cnt, bo, A, c, least, h1, h2⟩ := h
  refine (halloc_any G w p m n cnt bo A c S bud least refs FA fc roots RA rc h1 hf hr hI hl hfl (Nat.lt_of_le_of_lt h2 hn)).mono fun e w' hh => ?_
  obtain ⟨he, hch, G', m', n', ct, bo', A', c', l', hi, hn', hG⟩ := hh
  exact ⟨he, G', hi.r (Nat.le_trans hn' (Nat.succ_le_succ h2)), hG, hch⟩
theorem names_P (h : HpR G w p N S bud) : Calls Try.prog 24 #[.pointer (some ⟨p, 0, none⟩)] w fun e w' => ∃ A' c', e = .returned (.tuple #[.slice A' S.length c', .bool true]) ∧ RowR w.heap.size 3 1 IntZ w' A' c' (S.map fun o => (o.name : Int)) ∧ Chg (fun _ _ => False) w w' := by
  obtain ⟨m, n, cnt, bo, A, c, least, h1, h2⟩ := h
  exact names12_any G w p m n cnt bo A c S bud least h1
theorem rat_P (h : RhR F w q S bud) (x : Int) : Calls Try.prog 15 #[.pointer (some ⟨q, 0, none⟩), .int .i64 x] w fun e w' => e = .returned (.int .i64 (atO S x 0)) ∧ Chg (fun _ _ => False) w w' := by
  obtain ⟨A, c, h1⟩ := h
  exact rat_any F w q A c S bud x h1
theorem rused_P (h : RhR F w q S bud) : Calls Try.prog 21 #[.pointer (some ⟨q, 0, none⟩)] w fun e w' => e = .returned (.int .i64 ((usedO S : Nat) : Int)) ∧ Chg (fun _ _ => False) w w' := by
  obtain ⟨A, c, h1⟩ := h
  exact rused_any F w q A c S bud h1
theorem rcell_P (h : RhR F w q S bud) (o i : Int) : Calls Try.prog 41 #[.pointer (some ⟨q, 0, none⟩), .int .i64 o, .int .i64 i] w fun e w' => e = .returned (.tuple #[.int .u64 ((getV S o i).1 : Int), .bool (getV S o i).2.1, .int .i64 (getV S o i).2.2]) ∧ Chg (fun _ _ => False) w w' := by
  obtain ⟨A, c, h1⟩ := h
  exact rcell_any F w q A c S bud o i h1
theorem rput_P (h : RhR F w q S bud) (o i : Int) (v : Nat) (hv : v < 18446744073709551616) : Calls Try.prog 42 #[.pointer (some ⟨q, 0, none⟩), .int .i64 o, .int .i64 i, .int .u64 (v : Int)] w fun e w' => e = .returned (.int .i64 (setE S o i v)) ∧ RhP F w w' q (setS S o i v) bud := by
  obtain ⟨A, c, h1⟩ := h
  exact (rput_any F w q A c S bud o i v h1 hv).mono fun e w' hh => ⟨hh.1, F, ⟨A, c, hh.2.1⟩, fun b hb => .inl hb, hh.2.2⟩
theorem rreach_P (h : RhR F w q S bud) {B : Nat} {roots : List Int} {RA : Option Addr} {rc : Nat} (hr : SlR B 0 1 IntZ w (.slice RA roots.length rc) roots) (hl : roots.length ≤ 1048576) :
    Calls Try.prog 12 #[.pointer (some ⟨q, 0, none⟩), .slice RA roots.length rc] w fun e w' => ∃ zs A' c', e = .returned (.tuple #[.slice A' zs.length c', .int .i64 (if knownO S roots = true then 0 else 15)]) ∧ RowR w.heap.size 3 1 IntZ w' A' c' zs ∧ zs = (if knownO S roots = true then reachL S roots else []) ∧ Chg (fun _ _ => False) w w' := by
  obtain ⟨A, c, h1⟩ := h
  exact rreach_any F B w q A c S bud roots RA rc h1 hr hl
theorem rcoll_P (h : RhR F w q S bud) {B : Nat} {roots : List Int} {RA : Option Addr} {rc : Nat} (hr : SlR B 0 1 IntZ w (.slice RA roots.length rc) roots) (hl : roots.length ≤ 1048576) :
    Calls Try.prog 43 #[.pointer (some ⟨q, 0, none⟩), .slice RA roots.length rc] w fun e w' => e = .returned (.tuple #[.int .i64 (collE S roots).1, .int .i64 (collE S roots).2]) ∧ RhP F w w' q (collT S roots) bud := by
  obtain ⟨A, c, h1⟩ := h
  refine (rcollect_any F B w q A c S bud roots RA rc h1 hr hl).mono fun e w' hh => ?_
  obtain ⟨he, hch, F', A', c', hi, hF⟩ := hh
  unfold collE collT
  refine ⟨?_, F', ⟨A', c', hi⟩, hF, hch⟩
  rw [he]
  cases knownO S roots <;> rfl
theorem ralloc_P (h : RhR F w q S bud) {Bf ef Br er : Nat} {refs : List Bool} {FA RA : Option Addr} {fc rc : Nat} {roots : List Int} (hf : SlR Bf ef 1 BoolV w (.slice FA refs.length fc) refs) (hr : SlR Br er 1 IntZ w (.slice RA roots.length rc) roots) (hLf : Lets (MR F) Bf ef) (hl : roots.length ≤ 1048576) (hfl : refs.length ≤ 1048576) :
    Calls Try.prog 44 #[.pointer (some ⟨q, 0, none⟩), .slice FA refs.length fc, .slice RA roots.length rc] w fun e w' => e = .returned (.tuple #[.int .i64 (allocV S bud refs roots).1, .int .i64 (allocV S bud refs roots).2]) ∧ RhP F w w' q (allocT S bud refs roots) bud := by
  obtain ⟨A, c, h1⟩ := h
  refine (ralloc_any F Bf ef Br er w q A c S bud refs FA fc roots RA rc h1 hf hr hLf hl hfl).mono fun e w' hh => ?_
  obtain ⟨he, hch, F', A', c', hi, hF⟩ := hh
  exact ⟨he, F', ⟨A', c', hi⟩, hF, hch⟩
end
set_option maxRecDepth 100000 in
theorem ints12_any (B : Nat) (w : World) (l : List Int) (A : Option Addr) (c : Nat) (hl : SlR B 0 1 IntZ w (.slice A l.length c) l) (hn : l.length ≤ 1048576) :
    Calls Try.prog 14 #[.slice A l.length c] w fun e w' => ∃ A' c', e = .returned (.slice A' l.length c') ∧ RowR w.heap.size 3 1 IntZ w' A' c' l ∧ Chg (fun _ _ => False) w w' := by
  obtain ⟨i0, hi0, hz0, hs0, hb0⟩ := info_parts infoInt
  go_enter Try.func14, Try.ntmps14
  go_wp2_with (at_builtin; go_must (refine wpList_copy_slr rfl (.tmp 3) (.tmp 4) 24 rfl 3 i0 _ 8 Try.underlying24 hi0 hz0 hs0 hb0 rfl (by omega) A l.length c rfl (by simp) rfl hl (fun cs y h => by subst h; intro u hu; simp at hu; subst hu; rfl) (by omega) (by omega) ?_))
  intro A3 c3 w2 yss k1 k2 k3 k4 k5
  have HC := Lib.hid (And.intro (show RowR w.heap.size 3 1 IntZ w2 A3 c3 l from ⟨yss, k1, k2, k3, k4⟩) k5)
  clear k1 k2 k3 k4 k5 hl
  go_wp2
  go_ret
  exact ⟨A3, c3, rfl, HC.out.1, HC.out.2⟩
set_option maxRecDepth 100000 in
theorem sameI12 (B1 B2 : Nat) (w : World) (A1 A2 : Option Addr) (c1 c2 : Nat) (l : List Int) (h1 : SlR B1 0 1 IntZ w (.slice A1 l.length c1) l) (h2 : SlR B2 0 1 IntZ w (.slice A2 l.length c2) l) (hn : l.length ≤ 1048576) :
    Calls Try.prog 19 #[.slice A1 l.length c1, .slice A2 l.length c2] w fun e w' => e = .returned (.bool true) ∧ Chg (fun _ _ => False) w w' := by
  have HH := Lib.hid (And.intro h1 h2)
  clear h1 h2
  go_enter Try.func19, Try.ntmps19
  go_wp2_with fail
  go_loopw [5] (fun i wr => ∃ k : Nat, k ≤ l.length ∧ i = .int .i64 (k : Int) ∧ Chg (fun _ _ => False) w wr) (fun i _ => l.length - (intOf i).toNat)
  case atStart => exact ⟨0, Nat.zero_le _, rfl, Chg.refl _ _⟩
  case round =>
    obtain ⟨k, hk, rfl, hch⟩ := hrel
    have q3 : IntKind.i64.wrap ((k : Int) + 1) = (k : Int) + 1 := IntWalk.i64_in _ ⟨by omega, by omega⟩
    by_cases hlt : k < l.length
    · have q1 : decide (k < l.length) = true := decide_eq_true hlt
      have q2 : (k : Int) < (l.length : Int) := by omega
      obtain ⟨b1, o1, rfl, y0⟩ := int_at (SlR.keep HH.out.1 hch (no_letsH _ _) fun _ _ h => h) hlt
      obtain ⟨b2, o2, rfl, z0⟩ := int_at (SlR.keep HH.out.2 hch (no_letsH _ _) fun _ _ h => h) hlt
      obtain ⟨v, hv⟩ : ∃ v, l.getD k 0 = v := ⟨_, rfl⟩
      rw [hv] at y0 z0
      have HR := Lib.hid hch
      clear hch hv
      go_wp2_with fail
      go_quiet (fail)
      go_wp2_with fail
      go_roundw
      case rel => exact ⟨k + 1, hlt, by simp, HR.out.drewN nq⟩
      case measure => simp [intOf]; omega
    · have q1 : decide (k < l.length) = false := decide_eq_false hlt
      obtain rfl : k = l.length := by omega
      have HR := Lib.hid hch
      clear hch
      go_wp2_with fail
      go_ret
      exact ⟨rfl, HR.out⟩
set_option maxRecDepth 100000 in
theorem has12_any (B : Nat) (w : World) (A : Option Addr) (c : Nat) (l : List Int) (n : Int) (h : SlR B 0 1 IntZ w (.slice A l.length c) l) (hn : l.length ≤ 1048576) :
    Calls Try.prog 20 #[.slice A l.length c, .int .i64 n] w fun e w' => e = .returned (.bool (decide (n ∈ l))) ∧ Chg (fun _ _ => False) w w' := by
  obtain ⟨R, hR⟩ : ∃ R, decide (n ∈ l) = R := ⟨_, rfl⟩
  rw [hR]
  have HH := Lib.hid (And.intro h hR)
  clear h hR
  go_enter Try.func20, Try.ntmps20
  go_wp2_with fail
  go_loopw [5] (fun i wr => ∃ k : Nat, k ≤ l.length ∧ i = .int .i64 (k : Int) ∧ (∀ j, j < k → l.getD j 0 ≠ n) ∧ Chg (fun _ _ => False) w wr) (fun i _ => l.length - (intOf i).toNat)
  case atStart => exact ⟨0, Nat.zero_le _, rfl, fun j hj => absurd hj (Nat.not_lt_zero _), Chg.refl _ _⟩
  case round =>
    obtain ⟨k, hk, rfl, hno, hch⟩ := hrel
    have q3 : IntKind.i64.wrap ((k : Int) + 1) = (k : Int) + 1 := IntWalk.i64_in _ ⟨by omega, by omega⟩
    by_cases hlt : k < l.length
    · have q1 : decide (k < l.length) = true := decide_eq_true hlt
      have q2 : (k : Int) < (l.length : Int) := by omega
      obtain ⟨b1, o1, rfl, y0⟩ := int_at (SlR.keep HH.out.1 hch (no_letsH _ _) fun _ _ h => h) hlt
      obtain ⟨v, hv⟩ : ∃ v, l.getD k 0 = v := ⟨_, rfl⟩
      rw [hv] at y0
      have hvm : v ∈ l := by rw [← hv, List.getD_eq_getElem?_getD, List.getElem?_eq_getElem hlt]; exact List.getElem_mem hlt
      by_cases he : v = n
      · have q4 : (v == n) = true := by simp [he]
        have HR := Lib.hid (And.intro (show R = true by rw [← HH.out.2]; exact decide_eq_true (he ▸ hvm)) hch)
        clear hch hv hno hvm he
        go_wp2_with fail
        go_ret
        exact ⟨by rw [HR.out.1]; rfl, HR.out.2⟩
      · have q4 : (v == n) = false := by simp [he]
        have HR := Lib.hid (And.intro (show ∀ j, j < k + 1 → l.getD j 0 ≠ n from fun j hj => by
          rcases Nat.lt_or_ge j k with h1 | h1
          · exact hno j h1
          · rw [show j = k by omega, hv]; exact he) hch)
        clear hch hv hno hvm he
        go_wp2_with fail
        go_roundw
        case rel => exact ⟨k + 1, hlt, by simp, HR.out.1, HR.out.2⟩
        case measure => simp [intOf]; omega
    · have q1 : decide (k < l.length) = false := decide_eq_false hlt
      obtain rfl : k = l.length := by omega
      have HR := Lib.hid (And.intro (show R = false by
        rw [← HH.out.2]
        refine decide_eq_false fun hm => ?_
        obtain ⟨j, hj, he⟩ := List.mem_iff_getElem.1 hm
        exact hno j hj (by rw [List.getD_eq_getElem?_getD, List.getElem?_eq_getElem hj, he]; rfl)) hch)
      clear hch hno
      go_wp2_with fail
      go_ret
      exact ⟨by rw [HR.out.1]; rfl, HR.out.2⟩
end Go.Proofs.Yteigopmdhhgnfaa
