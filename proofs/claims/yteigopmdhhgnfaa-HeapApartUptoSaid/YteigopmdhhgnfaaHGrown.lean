/-
  Heaps on which acts were done.
-/
import Derived.Test.YteigopmdhhgnfaaHAct
import Derived.Test.YteigopmdhhgnfaaHrMake
namespace Go.Proofs.Yteigopmdhhgnfaa
open Go.RowKit
set_option linter.unusedVariables false
set_option linter.unusedSimpArgs false

/-- Acts as the arguments hold them. -/
def HActE (base : Nat) (w : World) (cs : List Value) (a : HActD) : Prop := ∃ A c B d, cs = (hactV a A c B d).toList ∧ HActOk base w a A c B d
def HActsA (base : Nat) (w : World) (v : Value) (l : List HActD) : Prop := SlR base 0 6 (HActE base) w v l
theorem HActsA.keep {base : Nat} {w w' : World} {v : Value} {l : List HActD} (h : HActsA base w v l) (hc : Chg (ML2 base) w w') : HActsA base w' v l :=
  SlR.keep h hc (ml2_lets base) fun cs x ⟨A, c, B, d, h1, h2⟩ => ⟨A, c, B, d, h1, h2.keep hc⟩
theorem HActsA.at_ {base : Nat} {w : World} {A : Option Addr} {n c k : Nat} {l : List HActD} (h : HActsA base w (.slice A n c) l) (hk : k < l.length) : ∃ b o a A' c' B' d', A = some ⟨b, o, none⟩ ∧ l[k]? = some a ∧ HActOk base w a A' c' B' d' ∧
    w.cell? ⟨b, o + k * 6, none⟩ = some (.int .i64 a.kind) ∧ w.cell? ⟨b, o + k * 6 + 1, none⟩ = some (.int .i64 a.o) ∧ w.cell? ⟨b, o + k * 6 + 2, none⟩ = some (.int .i64 a.i) ∧ w.cell? ⟨b, o + k * 6 + 3, none⟩ = some (.int .u64 (a.n : Int)) ∧ w.cell? ⟨b, o + k * 6 + 4, none⟩ = some (.slice A' a.refs.length c') ∧ w.cell? ⟨b, o + k * 6 + 5, none⟩ = some (.slice B' a.roots.length d') := by
  obtain ⟨b, o, c', cs, hv, _, _, _, h1, ⟨A', c'', B', d', rfl, h3⟩, h4⟩ := SlR.at_ h hk
  injection hv with hA
  exact ⟨b, o, l[k], A', c'', B', d', hA, List.getElem?_eq_getElem hk, h3, by simpa [hactV] using h4 0 _ rfl, h4 1 _ rfl, h4 2 _ rfl, h4 3 _ rfl, h4 4 _ rfl, h4 5 _ rfl⟩
noncomputable def grownS (bud : Nat) (l : List HActD) : List ObjD := l.foldl (fun S a => actT S bud a) []
theorem grownS_succ {bud k : Nat} {l : List HActD} {a : HActD} (h : l[k]? = some a) : grownS bud (l.take (k + 1)) = actT (grownS bud (l.take k)) bud a := by
  obtain ⟨h1, h2⟩ := List.getElem?_eq_some_iff.1 h
  unfold grownS
  rw [List.take_succ_eq_append_getElem h1, h2, List.foldl_append]
  rfl
def capC (cells : Int) : Nat := if cells < 0 ∨ 65536 < cells then 60 else cells.toNat
def HTwoRes (base bud N : Nat) (S : List ObjD) (w : World) (e : Ending) (w' : World) : Prop := ∃ p q, e = .returned (.tuple #[.pointer (some ⟨p, 0, none⟩), .pointer (some ⟨q, 0, none⟩)]) ∧ HTwo base w' p q bud N S S ∧ Chg (ML2 base) w w'
def hgrRel (base p q bud : Nat) (w : World) (l : List HActD) (i : Value) (wr : World) : Prop := ∃ k : Nat, k ≤ l.length ∧ i = .int .i64 (k : Int) ∧ HTwo base wr p q bud k (grownS bud (l.take k)) (grownS bud (l.take k)) ∧ Chg (ML2 base) w wr
/-- Two new heaps, side by side. -/
theorem HTwo.fresh {base : Nat} {w w1 w2 : World} {c b p : Nat} (hb : base ≤ w.heap.size) (hbe : b = w.heap.size) (hpe : p = w.heap.size + 1) (hm : IMap w1 b 0 0 fun _ => none) (hg : Blk w1 p 75 #[.map (some b), .int .i64 (c : Int), .int .i64 0, .int .i64 1]) (hc : c ≤ 65536) (h1 : Chg (fun _ _ => False) w w1)
    (hr : RhI (fun q => q = w1.heap.size) w2 w1.heap.size none 0 [] c) (h2 : Chg (fun _ _ => False) w1 w2) : HTwo base w2 p w1.heap.size c 0 [] [] := by
  have hi := HpI.fresh hm hg hc (fun _ => 0) (fun _ => none) (fun _ => 0)
  refine ⟨fun q => q = b ∨ q = p, fun q => q = w1.heap.size, (hi.keep h2 fun _ _ _ => id).r (Nat.le_refl _), ⟨none, 0, hr⟩, fun q hq he => ?_, fun q hq => ?_, fun q hq => ?_⟩
  · have := hi.lt q hq; omega
  · rcases hq with rfl | rfl <;> omega
  · rw [hq]; exact Nat.le_trans hb h1.size
set_option maxRecDepth 100000 in
set_option maxHeartbeats 8000000 in
theorem hgrown_any (w : World) (base : Nat) (hb : base ≤ w.heap.size) (cells : Int) (A : Option Addr) (c : Nat) (l : List HActD) (hl : HActsA base w (.slice A l.length c) l) (hn : l.length ≤ 1048576) :
    Calls Try.prog 10 #[.int .i64 cells, .slice A l.length c] w (HTwoRes base (capC cells) l.length (grownS (capC cells) l) w) := by
  have HH := Lib.hid (And.intro hl hb)
  clear hl hb
  by_cases h0 : cells < 0
  · have hcap : capC cells = 60 := by unfold capC; rw [if_pos (.inl h0)]
    rw [hcap]
    obtain ⟨C, hC, hC6⟩ : ∃ C : Nat, C = 60 ∧ C ≤ 65536 := ⟨60, rfl, by omega⟩
    rw [← hC]
    have c1 := hnew_any w C hC6
    have HC := Lib.hid (And.intro hC hC6)
    have hC' : (60 : Int) = (C : Int) := by omega
    clear hcap hC hC6
    go_enter Try.func10, Try.ntmps10
    go_wp2_with fail
    try rw [hC']
    clear hC' h0
    refine c1.mono fun e w1 hh => ?_
    obtain ⟨rfl, hm, hg, hc1⟩ := hh
    have c2 := rmake_any w1 C HC.out.2
    have H1 := Lib.hid (And.intro hm (And.intro hg hc1))
    clear c1 hm hg hc1
    go_wp2_with fail
    refine c2.mono fun e w2 hh => ?_
    obtain ⟨rfl, hr, hc2⟩ := hh
    have h2 := HTwo.fresh HH.out.2 rfl rfl H1.out.1 H1.out.2.1 HC.out.2 H1.out.2.2 hr hc2
    have H2 := Lib.hid (And.intro h2 (H1.out.2.2.trans hc2))
    clear c2 h2 hr hc2
    obtain ⟨p, hp⟩ : ∃ p, w.heap.size + 1 = p := ⟨_, rfl⟩
    obtain ⟨q, hq⟩ : ∃ q, w1.heap.size = q := ⟨_, rfl⟩
    rw [hp, hq] at H2
    simp only [hp, hq]
    clear hp hq
    go_wp2_with fail
    go_loopw [10] (fun i wr => hgrRel base p q C w l i wr) (fun i _ => l.length - (intOf i).toNat)
    case atStart => exact ⟨0, Nat.zero_le _, rfl, H2.out.1, H2.out.2.no⟩
    case round =>
      obtain ⟨k, hkl, rfl, h2, hch⟩ := hrel
      have q5 : IntKind.i64.wrap ((k : Int) + 1) = (k : Int) + 1 := IntWalk.i64_in _ ⟨by omega, by omega⟩
      by_cases hlt : k < l.length
      · obtain ⟨b, o, a, A', c', B', d', rfl, hx, ha, z0, z1, z2, z3, z4, z5⟩ := (HH.out.1.keep hch).at_ hlt
        have q6 : decide (k < l.length) = true := decide_eq_true hlt
        have q7 : (k : Int) < (l.length : Int) := by omega
        have c3 := hact_any wr base p q C k _ (Nat.le_trans HH.out.2 hch.size) h2 (by simp only [maxLen]; omega) a A' c' B' d' ha
        have HR := Lib.hid (And.intro hch hx)
        clear h2 hch hx ha
        unfold hactV at c3
        go_wp2_with fail
        refine c3.mono fun e w3 hh => ?_
        obtain ⟨rfl, h3, hc3⟩ := hh
        have H3 := Lib.hid (And.intro h3 hc3)
        clear c3 h3 hc3 z0 z1 z2 z3 z4 z5
        go_wp2_with fail
        go_roundw
        case rel => exact ⟨k + 1, hlt, by simp, by rw [grownS_succ HR.out.2]; exact H3.out.1, HR.out.1.trans H3.out.2⟩
        case measure => simp [intOf]; omega
      · have q6 : decide (k < l.length) = false := decide_eq_false hlt
        obtain rfl : k = l.length := by omega
        rw [List.take_length] at h2
        have HR := Lib.hid (And.intro h2 hch)
        clear h2 hch
        go_wp2_with fail
        try go_quiet (fail)
        try go_wp2_with fail
        go_ret2
        first
          | exact ⟨p, q, rfl, HR.out.1, HR.out.2⟩
          | exact ⟨p, q, rfl, HR.out.1.same ((Chg.refl _ _).drewN _), HR.out.2.drewN _⟩
  · by_cases h1 : 65536 < cells
    · have hcap : capC cells = 60 := by unfold capC; rw [if_pos (.inr h1)]
      rw [hcap]
      obtain ⟨C, hC, hC6⟩ : ∃ C : Nat, C = 60 ∧ C ≤ 65536 := ⟨60, rfl, by omega⟩
      rw [← hC]
      have c1 := hnew_any w C hC6
      have HC := Lib.hid (And.intro hC hC6)
      have hC' : (60 : Int) = (C : Int) := by omega
      clear hcap hC hC6
      go_enter Try.func10, Try.ntmps10
      go_wp2_with fail
      try rw [hC']
      clear hC' h0 h1
      refine c1.mono fun e w1 hh => ?_
      obtain ⟨rfl, hm, hg, hc1⟩ := hh
      have c2 := rmake_any w1 C HC.out.2
      have H1 := Lib.hid (And.intro hm (And.intro hg hc1))
      clear c1 hm hg hc1
      go_wp2_with fail
      refine c2.mono fun e w2 hh => ?_
      obtain ⟨rfl, hr, hc2⟩ := hh
      have h2 := HTwo.fresh HH.out.2 rfl rfl H1.out.1 H1.out.2.1 HC.out.2 H1.out.2.2 hr hc2
      have H2 := Lib.hid (And.intro h2 (H1.out.2.2.trans hc2))
      clear c2 h2 hr hc2
      obtain ⟨p, hp⟩ : ∃ p, w.heap.size + 1 = p := ⟨_, rfl⟩
      obtain ⟨q, hq⟩ : ∃ q, w1.heap.size = q := ⟨_, rfl⟩
      rw [hp, hq] at H2
      simp only [hp, hq]
      clear hp hq
      go_wp2_with fail
      go_loopw [10] (fun i wr => hgrRel base p q C w l i wr) (fun i _ => l.length - (intOf i).toNat)
      case atStart => exact ⟨0, Nat.zero_le _, rfl, H2.out.1, H2.out.2.no⟩
      case round =>
        obtain ⟨k, hkl, rfl, h2, hch⟩ := hrel
        have q5 : IntKind.i64.wrap ((k : Int) + 1) = (k : Int) + 1 := IntWalk.i64_in _ ⟨by omega, by omega⟩
        by_cases hlt : k < l.length
        · obtain ⟨b, o, a, A', c', B', d', rfl, hx, ha, z0, z1, z2, z3, z4, z5⟩ := (HH.out.1.keep hch).at_ hlt
          have q6 : decide (k < l.length) = true := decide_eq_true hlt
          have q7 : (k : Int) < (l.length : Int) := by omega
          have c3 := hact_any wr base p q C k _ (Nat.le_trans HH.out.2 hch.size) h2 (by simp only [maxLen]; omega) a A' c' B' d' ha
          have HR := Lib.hid (And.intro hch hx)
          clear h2 hch hx ha
          unfold hactV at c3
          go_wp2_with fail
          refine c3.mono fun e w3 hh => ?_
          obtain ⟨rfl, h3, hc3⟩ := hh
          have H3 := Lib.hid (And.intro h3 hc3)
          clear c3 h3 hc3 z0 z1 z2 z3 z4 z5
          go_wp2_with fail
          go_roundw
          case rel => exact ⟨k + 1, hlt, by simp, by rw [grownS_succ HR.out.2]; exact H3.out.1, HR.out.1.trans H3.out.2⟩
          case measure => simp [intOf]; omega
        · have q6 : decide (k < l.length) = false := decide_eq_false hlt
          obtain rfl : k = l.length := by omega
          rw [List.take_length] at h2
          have HR := Lib.hid (And.intro h2 hch)
          clear h2 hch
          go_wp2_with fail
          try go_quiet (fail)
          try go_wp2_with fail
          go_ret2
          first
            | exact ⟨p, q, rfl, HR.out.1, HR.out.2⟩
            | exact ⟨p, q, rfl, HR.out.1.same ((Chg.refl _ _).drewN _), HR.out.2.drewN _⟩
    · have hcap : capC cells = cells.toNat := by unfold capC; rw [if_neg (by omega)]
      rw [hcap]
      obtain ⟨C, rfl⟩ : ∃ C : Nat, cells = (C : Int) := ⟨cells.toNat, by omega⟩
      rw [Int.toNat_natCast]
      have hC6 : C ≤ 65536 := by omega
      have c1 := hnew_any w C hC6
      have HC := Lib.hid (And.intro (Eq.refl C) hC6)
      have q3 : decide (C > 65536) = false := decide_eq_false (by omega)
      have q4 : decide (65536 < C) = false := decide_eq_false (by omega)
      clear hcap hC6
      go_enter Try.func10, Try.ntmps10
      go_wp2_with fail
      clear h0 h1 q3 q4
      refine c1.mono fun e w1 hh => ?_
      obtain ⟨rfl, hm, hg, hc1⟩ := hh
      have c2 := rmake_any w1 C HC.out.2
      have H1 := Lib.hid (And.intro hm (And.intro hg hc1))
      clear c1 hm hg hc1
      go_wp2_with fail
      refine c2.mono fun e w2 hh => ?_
      obtain ⟨rfl, hr, hc2⟩ := hh
      have h2 := HTwo.fresh HH.out.2 rfl rfl H1.out.1 H1.out.2.1 HC.out.2 H1.out.2.2 hr hc2
      have H2 := Lib.hid (And.intro h2 (H1.out.2.2.trans hc2))
      clear c2 h2 hr hc2
      obtain ⟨p, hp⟩ : ∃ p, w.heap.size + 1 = p := ⟨_, rfl⟩
      obtain ⟨q, hq⟩ : ∃ q, w1.heap.size = q := ⟨_, rfl⟩
      rw [hp, hq] at H2
      simp only [hp, hq]
      clear hp hq
      go_wp2_with fail
      go_loopw [10] (fun i wr => hgrRel base p q C w l i wr) (fun i _ => l.length - (intOf i).toNat)
      case atStart => exact ⟨0, Nat.zero_le _, rfl, H2.out.1, H2.out.2.no⟩
      case round =>
        obtain ⟨k, hkl, rfl, h2, hch⟩ := hrel
        have q5 : IntKind.i64.wrap ((k : Int) + 1) = (k : Int) + 1 := IntWalk.i64_in _ ⟨by omega, by omega⟩
        by_cases hlt : k < l.length
        · obtain ⟨b, o, a, A', c', B', d', rfl, hx, ha, z0, z1, z2, z3, z4, z5⟩ := (HH.out.1.keep hch).at_ hlt
          have q6 : decide (k < l.length) = true := decide_eq_true hlt
          have q7 : (k : Int) < (l.length : Int) := by omega
          have c3 := hact_any wr base p q C k _ (Nat.le_trans HH.out.2 hch.size) h2 (by simp only [maxLen]; omega) a A' c' B' d' ha
          have HR := Lib.hid (And.intro hch hx)
          clear h2 hch hx ha
          unfold hactV at c3
          go_wp2_with fail
          refine c3.mono fun e w3 hh => ?_
          obtain ⟨rfl, h3, hc3⟩ := hh
          have H3 := Lib.hid (And.intro h3 hc3)
          clear c3 h3 hc3 z0 z1 z2 z3 z4 z5
          go_wp2_with fail
          go_roundw
          case rel => exact ⟨k + 1, hlt, by simp, by rw [grownS_succ HR.out.2]; exact H3.out.1, HR.out.1.trans H3.out.2⟩
          case measure => simp [intOf]; omega
        · have q6 : decide (k < l.length) = false := decide_eq_false hlt
          obtain rfl : k = l.length := by omega
          rw [List.take_length] at h2
          have HR := Lib.hid (And.intro h2 hch)
          clear h2 hch
          go_wp2_with fail
          try go_quiet (fail)
          try go_wp2_with fail
          go_ret2
          first
            | exact ⟨p, q, rfl, HR.out.1, HR.out.2⟩
            | exact ⟨p, q, rfl, HR.out.1.same ((Chg.refl _ _).drewN _), HR.out.2.drewN _⟩
end Go.Proofs.Yteigopmdhhgnfaa
