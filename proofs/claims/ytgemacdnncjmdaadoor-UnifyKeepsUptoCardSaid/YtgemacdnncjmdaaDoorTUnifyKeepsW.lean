/-
  The walk of UnifyKeeps.
-/
import Derived.Test.YtgemacdnncjmdaaDoorUniU
import Derived.Test.YtgemacdnncjmdaaDoorTSpoil
namespace Go.Proofs.YtgemacdnncjmdaaDoor
open Go.RowKit
set_option linter.unusedVariables false
set_option linter.unusedSimpArgs false

/-- The types that Unify hands back. -/
noncomputable def uniL (n : Nat) (names : List ByteArray) (want have_ : List Ty) : List Ty :=
  if uniE n names want have_ = 0 then (match matchL (matchT names n) (noNm want) (noNm have_) (fun _ => none) with | some g => names.map (tyAt g) | none => []) else []
theorem uniL_len (n : Nat) (names : List ByteArray) (want have_ : List Ty) : (uniL n names want have_).length ≤ names.length := by
  unfold uniL
  split
  · split <;> simp
  · simp
/-- What Unify answers, as rows of its own. -/
theorem unifyK {n B : Nat} {w : World} {names : List ByteArray} {want have_ : List Ty} {An : Option Addr} {cn : Nat} {Aw : Option Addr} {cw : Nat} {Ah : Option Addr} {ch : Nat} (hB : B ≤ w.heap.size) (hTab : Tabs w)
    (hN : StrsR B w (.slice An names.length cn) names) (hnl : names.length ≤ 1048576) (hW : TysR n B w (.slice Aw want.length cw) want) (hwl : want.length ≤ 1048576) (hH : TysR n B w (.slice Ah have_.length ch) have_) (hhl : have_.length ≤ 1048576) :
    Calls Tryd.prog 10 #[.slice An names.length cn, .slice Aw want.length cw, .slice Ah have_.length ch] w fun e w' => ∃ A c vb, e = .returned (.tuple #[.slice A (uniL n names want have_).length c, vb, .int .i64 (uniE n names want have_)]) ∧
      RowG (fun b => w.heap.size ≤ b) 33 6 (TyN (n + 1) fun b => w.heap.size ≤ b) w' A c (uniL n names want have_) ∧ Chg (fun _ _ => False) w w' := by
  refine (unify_any n n B w names want have_ An cn Aw cw Ah ch hB hTab hN hnl hW hwl hH hhl).mono fun e w' h => ?_
  have hu := uni_of h
  obtain ⟨v, hv, ⟨v1, v2, hv', hbad, hok⟩, _⟩ := hu
  obtain ⟨hc, ⟨c, he, h⟩ | ⟨g, A, c, A', c', ⟨h1, h2, h3⟩, he, h4, h5⟩⟩ := h
  · have hE : ¬ uniE n names want have_ = 0 := by
      unfold uniE
      rcases h with ⟨h1, rfl⟩ | ⟨h1, h2, rfl⟩ | ⟨h1, h2, h3, rfl⟩
      · rw [h1, if_neg (by decide)]; decide
      · rw [if_pos h1, if_neg h2]; decide
      · rw [if_pos h1, if_pos h2, if_neg (by rw [h3]; decide)]; decide
    obtain ⟨e1, e2⟩ := hbad hE
    have hL : uniL n names want have_ = [] := by unfold uniL; rw [if_neg hE]
    refine ⟨none, 0, v2, ?_, ?_, hc⟩
    · rw [hv, hv', e1, hL]; rfl
    · rw [hL]
      exact ⟨RowR.nil _ _ _ _ _, fun g h => by cases h⟩
  · have hE : uniE n names want have_ = 0 := by unfold uniE; rw [if_pos h1, if_pos h2, if_pos (by rw [h3]; rfl)]
    have hL : uniL n names want have_ = names.map (tyAt g) := by unfold uniL; rw [if_pos hE, h3]
    refine ⟨A, c, .slice A' names.length c', ?_, ?_, hc⟩
    · rw [he, hE, hL, List.length_map]
    · rw [hL]; exact h4
def kiRel (G : Nat → Prop) (W : World) (i : Value) (wr : World) : Prop := ∃ k : Nat, k ≤ 1048576 ∧ i = .int .i64 k ∧ Sp G W wr
def koRel (G : Nat → Prop) (N : Nat) (W : World) (i : Value) (wr : World) : Prop := ∃ k : Nat, k ≤ N ∧ i = .int .i64 k ∧ Sp G W wr
set_option maxRecDepth 100000 in
set_option maxHeartbeats 8000000 in
theorem unifyKeeps_walk (n B : Nat) (w : World) (names : List ByteArray) (want have_ : List Ty) (An : Option Addr) (cn : Nat) (Aw : Option Addr) (cw : Nat) (Ah : Option Addr) (ch : Nat) (hB : B ≤ w.heap.size) (hTab : Tabs w)
    (hN : StrsR B w (.slice An names.length cn) names) (hnl : names.length ≤ 1048576) (hW : TysR n B w (.slice Aw want.length cw) want) (hwl : want.length ≤ 1048576) (hH : TysR n B w (.slice Ah have_.length ch) have_) (hhl : have_.length ≤ 1048576) :
    Calls Tryd.prog 3 #[.slice An names.length cn, .slice Aw want.length cw, .slice Ah have_.length ch] w fun e w' => e = .returned (.bool true) ∧ Chg (fun _ _ => False) w w' := by
  obtain ⟨i9, hi9, hz9, hs9, hb9⟩ := info_parts infoStr
  have how := owns8U (TysU.of hB hW) hwl
  have HP := Lib.hid (And.intro hB (And.intro hTab (And.intro hN (And.intro hW hH))))
  clear hB hTab hN hW hH
  go_enter Tryd.func3, Tryd.ntmps3
  go_wp2_with fail
  refine how.mono fun e w1 h => ?_
  obtain ⟨v1, rfl, hv1, hc1⟩ := h
  clear how
  have how := owns8U (TysU.of (Nat.le_trans HP.out.1 hc1.size) (TysR.keep0 hc1 HP.out.2.2.2.2)) hhl
  have H1 := Lib.hid (And.intro hv1 hc1)
  clear hv1 hc1
  go_wp2_with fail
  refine how.mono fun e w2 h => ?_
  obtain ⟨v2, rfl, ⟨D2, Ao, co, hD2, rfl, hO⟩, hc2⟩ := h
  clear how
  obtain ⟨D1, Ai, ci, hD1, rfl, hI⟩ := H1.out.1.keep hc2
  have hcw := H1.out.2.trans hc2
  have hl1 : StrsR B w2 (.slice An names.length cn) names := SlR.keep HP.out.2.2.1 hcw (no_lets _ _) fun _ _ h => h
  have hca := chg_alloc w2 (.cells #[] 9)
  have hr0 : RowR w2.heap.size 9 1 StrV (w2.alloc (.cells #[] 9)) (some ⟨w2.heap.size, 0, none⟩) 0 ([] : List ByteArray) :=
    ⟨[], ⟨by simp, .inr ⟨w2.heap.size, 0, #[], rfl, Nat.le_refl _, Blk.new w2 9 #[], Nat.le_refl _, by simp [maxLen], by simp, by simp⟩⟩, rfl, by simp, by simp⟩
  have HR := Lib.hid (And.intro hr0 (And.intro (SlR.keep hl1 hca (no_lets _ _) fun _ _ h => h) (hcw.trans hca)))
  have H2 := Lib.hid (And.intro (TysR.more hD1 hI) (And.intro (TysR.more hD2 hO) hcw))
  clear hr0 hl1 hca hcw hI hO hc2 hD1 hD2
  go_wp2_with (at_builtin; go_must (refine wpList_pushS rfl (.tmp 24) (.tmp 25) 22 rfl w2.heap.size 9 i9 _ 1 16 Tryd.underlying22 hi9 hz9 hs9 hb9 rfl (by omega) StrV (some ⟨w2.heap.size, 0, none⟩) 0 [] rfl (by first | rfl | simp) HR.out.1 B 0 An cn names rfl (by first | rfl | simp) HR.out.2.1 (StrV.one _) (by simp) (by omega) (by omega) (by simp) (fun _ _ _ _ h => h) ?_))
  intro A3 c3 w3 hr3 hc3
  have hc23 : Chg (fun _ _ => False) w2 w3 := (chg_alloc w2 (.cells #[] 9)).trans_new hc3 fun b t hb h => by have := h.1; omega
  have hns3 : StrsR w3.heap.size w3 (.slice A3 names.length c3) names := by have := hr3.settleT (R' := StrV) (by decide) fun _ _ h => h; simpa using this
  have hcw3 := H2.out.2.2.trans hc23
  have hun := unifyK (n := n) (names := names) (want := want) (have_ := have_) (Nat.le_refl _) (HP.out.2.1.keep0 hcw3) hns3 hnl (TysR.more hc23.size (TysR.keep0 hc23 H2.out.1)) hwl (TysR.more hc23.size (TysR.keep0 hc23 H2.out.2.1)) hhl
  have H3 := Lib.hid (And.intro hc23 hcw3)
  try simp only [Nat.zero_add]
  clear hr3 hc3 hc23 hns3 hcw3 HR
  go_wp2_with fail
  refine hun.mono fun e w4 h => ?_
  obtain ⟨AU, cU, vb, rfl, hrU, hc4⟩ := h
  clear hun
  have hul := uniL_len n names want have_
  generalize hUL : uniL n names want have_ = UL at hrU hul ⊢
  generalize hEE : uniE n names want have_ = EE
  have HE := Lib.hid (And.intro hUL hEE)
  clear hUL hEE
  have hcw4 := H3.out.2.trans hc4
  have hl1 : StrsR B w4 (.slice An names.length cn) names := SlR.keep HP.out.2.2.1 hcw4 (no_lets _ _) fun _ _ h => h
  have hca := chg_alloc w4 (.cells #[] 9)
  have hr0 : RowR w4.heap.size 9 1 StrV (w4.alloc (.cells #[] 9)) (some ⟨w4.heap.size, 0, none⟩) 0 ([] : List ByteArray) :=
    ⟨[], ⟨by simp, .inr ⟨w4.heap.size, 0, #[], rfl, Nat.le_refl _, Blk.new w4 9 #[], Nat.le_refl _, by simp [maxLen], by simp, by simp⟩⟩, rfl, by simp, by simp⟩
  have HR := Lib.hid (And.intro hr0 (And.intro (SlR.keep hl1 hca (no_lets _ _) fun _ _ h => h) (hcw4.trans hca)))
  have H4 := Lib.hid (And.intro hrU (And.intro hc4 hcw4))
  clear hr0 hl1 hca hcw4 hrU hc4
  go_wp2_with (at_builtin; go_must (refine wpList_pushS rfl (.tmp 34) (.tmp 35) 22 rfl w4.heap.size 9 i9 _ 1 16 Tryd.underlying22 hi9 hz9 hs9 hb9 rfl (by omega) StrV (some ⟨w4.heap.size, 0, none⟩) 0 [] rfl (by first | rfl | simp) HR.out.1 B 0 An cn names rfl (by first | rfl | simp) HR.out.2.1 (StrV.one _) (by simp) (by omega) (by omega) (by simp) (fun _ _ _ _ h => h) ?_))
  intro A5 c5 w5 hr5 hc5
  have hc45 : Chg (fun _ _ => False) w4 w5 := (chg_alloc w4 (.cells #[] 9)).trans_new hc5 fun b t hb h => by have := h.1; omega
  have hns5 : StrsR w5.heap.size w5 (.slice A5 names.length c5) names := by have := hr5.settleT (R' := StrV) (by decide) fun _ _ h => h; simpa using this
  have hc25 := (H3.out.1.trans H4.out.2.1).trans hc45
  have hcw5 := H4.out.2.2.trans hc45
  have hun := unifyK (n := n) (names := names) (want := want) (have_ := have_) (Nat.le_refl _) (HP.out.2.1.keep0 hcw5) hns5 hnl (TysR.more hc25.size (TysR.keep0 hc25 H2.out.1)) hwl (TysR.more hc25.size (TysR.keep0 hc25 H2.out.2.1)) hhl
  rw [HE.out.1, HE.out.2] at hun
  have H5 := Lib.hid (And.intro hc45 (And.intro hc25 hcw5))
  try simp only [Nat.zero_add]
  clear hr5 hc5 hc45 hns5 hcw5 hc25 HR
  go_wp2_with fail
  refine hun.mono fun e w6 h => ?_
  obtain ⟨Ab, cb, vb6, rfl, hrB, hc6⟩ := h
  clear hun
  have hcw6 := H5.out.2.2.trans hc6
  have hc26 := H5.out.2.1.trans hc6
  have hc46 := H5.out.1.trans hc6
  have hans := answers8_any w6 (HP.out.2.1.keep0 hcw6)
  have q1 : (EE != EE) = false := by simp
  have H6 := Lib.hid (And.intro hrB (And.intro hc6 (And.intro hcw6 (And.intro hc26 hc46))))
  clear hrB hc6 hcw6 hc26 hc46
  go_wp2_with fail
  refine hans.mono fun e w7 h => ?_
  obtain ⟨rfl, hc7⟩ := h
  clear hans
  have hU7 : TysR (n + 1) w7.heap.size w7 (.slice AU UL.length cU) UL := TysR.more hc7.size (TysR.keep0 hc7 (TysR.more H6.out.2.2.2.2.size (TysR.keep0 H6.out.2.2.2.2 (H4.out.1.1.settleT (by decide) fun _ _ h => TyN.tyR h))))
  have hB7 : TysR (n + 1) w7.heap.size w7 (.slice Ab UL.length cb) UL := TysR.more hc7.size (TysR.keep0 hc7 (H6.out.1.1.settleT (by decide) fun _ _ h => TyN.tyR h))
  have hsm := rsameAll_any (n + 1) w7.heap.size w7 UL UL AU cU Ab cb (Nat.le_refl _) hU7 hB7 (by omega) (by omega)
  rw [eqB_self] at hsm
  have H7 := Lib.hid hc7
  clear hc7 hU7 hB7
  go_wp2_with fail
  refine hsm.mono fun e w8 h => ?_
  obtain ⟨rfl, hc8⟩ := h
  clear hsm
  have hc28 := H6.out.2.2.2.1.trans (H7.out.trans hc8)
  have hcw8 := H6.out.2.2.1.trans (H7.out.trans hc8)
  have hsm := rsameAll_any n w8.heap.size w8 want want Ai ci Aw cw (Nat.le_refl _) (TysR.more hc28.size (TysR.keep0 hc28 H2.out.1)) (TysR.more (Nat.le_trans HP.out.1 hcw8.size) (TysR.keep0 hcw8 HP.out.2.2.2.1)) (by omega) (by omega)
  rw [eqB_self] at hsm
  have H8 := Lib.hid (And.intro hc8 (And.intro hc28 hcw8))
  clear hc8 hc28 hcw8
  go_wp2_with fail
  refine hsm.mono fun e w9 h => ?_
  obtain ⟨rfl, hc9⟩ := h
  clear hsm
  have hc29 := H8.out.2.1.trans hc9
  have hcw9 := H8.out.2.2.trans hc9
  have hsm := rsameAll_any n w9.heap.size w9 have_ have_ Ao co Ah ch (Nat.le_refl _) (TysR.more hc29.size (TysR.keep0 hc29 H2.out.2.1)) (TysR.more (Nat.le_trans HP.out.1 hcw9.size) (TysR.keep0 hcw9 HP.out.2.2.2.2)) (by omega) (by omega)
  rw [eqB_self] at hsm
  have H9 := Lib.hid (And.intro hc9 (And.intro hc29 hcw9))
  clear hc9 hc29 hcw9
  go_wp2_with fail
  refine hsm.mono fun e w10 h => ?_
  obtain ⟨rfl, hc10⟩ := h
  clear hsm
  have hc6X := ((H7.out.trans H8.out.1).trans H9.out.1).trans hc10
  have hBX : TysR (n + 1) w10.heap.size w10 (.slice Ab UL.length cb) UL := TysR.more hc6X.size (TysR.keep0 hc6X (H6.out.1.1.settleT (by decide) fun _ _ h => TyN.tyR h))
  have how := owns8_any (n + 1) w10.heap.size w10 UL Ab cb (Nat.le_refl _) (by omega) hBX
  have HX := Lib.hid (And.intro hc6X (H9.out.2.1.trans hc10))
  have HXw := Lib.hid (H9.out.2.2.trans hc10)
  clear hc10 hc6X hBX
  go_wp2_with fail
  refine how.mono fun e W h => ?_
  obtain ⟨Ak, ck, rfl, hrK, hcK⟩ := h
  clear how
  have hc6W := HX.out.1.trans hcK
  have hc4W := H6.out.2.2.2.2.trans hc6W
  obtain ⟨G, hG⟩ : ∃ G : Nat → Prop, ∀ b, G b ↔ w3.heap.size ≤ b ∧ b < w4.heap.size := ⟨_, fun b => Iff.rfl⟩
  have hdum : ShR (n + 2) G w4 (six 0 ⟨#[]⟩ 0 none 0 0 AU UL.length cU none 0 0) :=
    ⟨_, _, _, _, _, _, _, _, _, _, _, _, rfl, ⟨by omega, fun h => absurd h (Nat.lt_irrefl _)⟩, (RowG.imp (R' := TyN (n + 1) G) H4.out.1 (fun b hb h => (hG b).2 ⟨h, hb⟩) fun cs x h => TyN.sub (fun b hb h => (hG b).2 ⟨h, hb⟩) h).sh (by omega) (fun cs x h => TyN.sh h), ⟨by omega, fun h => absurd h (Nat.lt_irrefl _)⟩⟩
  have hdW := (Sp.of0 (G := G) hc4W).1 _ _ hdum
  have HD := Lib.hid (And.intro hdW hG)
  have HB := Lib.hid (And.intro hrK (And.intro hc6W (And.intro (HX.out.2.trans hcK) (And.intro (HXw.out.trans hcK) H5.out.1.size))))
  have HS := Lib.hid (And.intro hcK.size (And.intro HX.out.1.size (And.intro H6.out.2.1.size (And.intro H3.out.1.size H4.out.2.1.size))))
  clear hrK hcK hc6W hc4W hdum hdW hG
  go_wp2_with fail
  go_loopw [16] (fun i wr => koRel G UL.length W i wr) (fun i _ => UL.length - (intOf i).toNat)
  case atStart => exact ⟨0, Nat.zero_le _, rfl, ⟨fun _ _ h => h, Chg.refl _ _⟩⟩
  case round =>
    obtain ⟨i, hi, rfl, hso⟩ := hrel
    have p3 : IntKind.i64.wrap ((i : Int) + 1) = (i : Int) + 1 := IntWalk.i64_in _ ⟨by omega, by omega⟩
    by_cases hlt : i < UL.length
    · have p1 : decide (i < UL.length) = true := decide_eq_true hlt
      have p2 : (i : Int) < (UL.length : Int) := by omega
      obtain ⟨bA, oA, hA⟩ := (hso.1 _ _ HD.out.1).open_.2.1.addr hlt
      subst hA
      have HO := Lib.hid hso
      clear hso
      go_wp2_with fail
      go_loopw [17] (fun i wr => kiRel G W i wr) (fun i _ => 1048577 - (intOf i).toNat)
      case atStart => exact ⟨0, by omega, rfl, HO.out⟩
      case round =>
        obtain ⟨k, hk, rfl, hsp⟩ := hrel
        have q3 : IntKind.i64.wrap ((k : Int) + 1) = (k : Int) + 1 := IntWalk.i64_in _ ⟨by omega, by omega⟩
        have hsh := (hsp.1 _ _ HD.out.1).open_.2.1
        obtain ⟨hoA, hGA, csA, x0, x1, x2, Xf, nf, xf, Xl, nl, xl, Xr, nr, xr, hBA, hszA, hXA, z0, z1, z2, z3, z4, z5⟩ := sh_type hsh hlt
        have hin := hXA.open_.2.1
        have hnn := hin.1
        by_cases hkl : k < nl
        · have q4 : decide (k < nl) = true := decide_eq_true hkl
          have q5 : (k : Int) < (nl : Int) := by omega
          obtain ⟨b2, o2, hA2⟩ := hin.addr hkl
          subst hA2
          obtain ⟨ho2, hG2, cs2, y0, y1, y2, Yf, mf, yf, Yl, ml, yl, Yr, mr, yr, hB, hsz, _, v0, v1, v2, v3, v4, v5⟩ := sh_type hin hkl
          have e0 := hB.frozen (o2 + k * 6)
          have e1 := hB.frozen (o2 + k * 6 + 1)
          have e2 := hB.frozen (o2 + k * 6 + 2)
          have e3 := hB.frozen (o2 + k * 6 + 3)
          have e4 := hB.frozen (o2 + k * 6 + 4)
          have e5 := hB.frozen (o2 + k * 6 + 5)
          have HZ := Lib.hid (And.intro hsp (And.intro hG2 (And.intro hB (And.intro hsz ho2))))
          clear hsp hsh hin hG2 hB hsz ho2 hBA hszA hXA hGA hoA
          go_wp2_with fail
          clear z0 z1 z2 z3 z4 z5 v0 v1 v2 v3 v4 v5 e0 e1 e2 e3 e4 e5
          go_roundw
          case rel =>
            obtain ⟨hsp, hG2, hB, hsz, ho2⟩ := HZ.out
            have hl := sp_type (G := G) (i := k) 99 hG2 hB hsz
            have hl2 := hsp.trans hl
            simp only [setL, leaf6, six, Nat.add_assoc, Nat.reduceAdd] at hl2
            subst ho2
            exact ⟨k + 1, by omega, by simp, by simpa only [Nat.zero_add] using hl2⟩
          case measure => simp [intOf]; omega
        · have q4 : decide (k < nl) = false := decide_eq_false hkl
          have HZ17 := Lib.hid hsp
          clear hsp hsh hin hnn hBA hszA hXA hGA hoA
          go_wp2_with fail
          go_loopw [18] (fun i wr => kiRel G W i wr) (fun i _ => 1048577 - (intOf i).toNat)
          case atStart => exact ⟨0, by omega, rfl, HZ17.out⟩
          case round =>
            obtain ⟨k, hk, rfl, hsp⟩ := hrel
            have q3 : IntKind.i64.wrap ((k : Int) + 1) = (k : Int) + 1 := IntWalk.i64_in _ ⟨by omega, by omega⟩
            have hsh := (hsp.1 _ _ HD.out.1).open_.2.1
            obtain ⟨hoA, hGA, csA, x0, x1, x2, Xf, nf, xf, Xl, nl, xl, Xr, nr, xr, hBA, hszA, hXA, z0, z1, z2, z3, z4, z5⟩ := sh_type hsh hlt
            have hin := hXA.open_.1
            have hnn := hin.1
            by_cases hkl : k < nf
            · have q4 : decide (k < nf) = true := decide_eq_true hkl
              have q5 : (k : Int) < (nf : Int) := by omega
              obtain ⟨b2, o2, hA2⟩ := hin.addr hkl
              subst hA2
              obtain ⟨ho2, hG2, cs2, nm, y0, y1, y2, Yf, mf, yf, Yl, ml, yl, Yr, mr, yr, hB, hsz, _, v0, v1, v2, v3, v4, v5, v6⟩ := sh_field hin hkl
              have e0 := hB.frozen (o2 + k * 7)
              have e1 := hB.frozen (o2 + k * 7 + 1)
              have e2 := hB.frozen (o2 + k * 7 + 2)
              have e3 := hB.frozen (o2 + k * 7 + 3)
              have e4 := hB.frozen (o2 + k * 7 + 4)
              have e5 := hB.frozen (o2 + k * 7 + 5)
              have e6 := hB.frozen (o2 + k * 7 + 6)
              have HZ := Lib.hid (And.intro hsp (And.intro hG2 (And.intro hB (And.intro hsz ho2))))
              clear hsp hsh hin hG2 hB hsz ho2 hBA hszA hXA hGA hoA
              go_wp2_with fail
              clear z0 z1 z2 z3 z4 z5 v0 v1 v2 v3 v4 v5 v6 e0 e1 e2 e3 e4 e5 e6
              go_roundw
              case rel =>
                obtain ⟨hsp, hG2, hB, hsz, ho2⟩ := HZ.out
                have hl := sp_field (G := G) (i := k) ⟨#[103, 111, 110, 101]⟩ 0 hG2 hB hsz
                have hl2 := hsp.trans hl
                simp only [setL, leaf6, six, Nat.add_assoc, Nat.reduceAdd] at hl2
                subst ho2
                exact ⟨k + 1, by omega, by simp, by simpa only [Nat.zero_add] using hl2⟩
              case measure => simp [intOf]; omega
            · have q4 : decide (k < nf) = false := decide_eq_false hkl
              have HZ18 := Lib.hid hsp
              clear hsp hsh hin hnn hBA hszA hXA hGA hoA
              go_wp2_with fail
              go_roundw
              case rel => exact ⟨i + 1, hlt, by simp, HZ18.out⟩
              case measure => simp [intOf]; omega
    · have p1 : decide (i < UL.length) = false := decide_eq_false hlt
      obtain rfl : i = UL.length := by omega
      have hcs := hso.2
      have hB6 := (H6.out.1.keep HB.out.2.1 (fun _ _ => id) fun cs x h => TyN.keep HB.out.2.1 (fun _ _ _ _ => id) h)
      have hBr := hB6.keep hcs (fun b hb h => by have := (HD.out.2 b).1 h.1; have := HB.out.2.2.2.2; omega) fun cs x h => TyN.keep hcs (fun b t hb _ h => by have := (HD.out.2 b).1 h.1; have := HB.out.2.2.2.2; have hb' : w5.heap.size ≤ b := hb; omega) h
      have hKr := HB.out.1.keep hcs (fun b hb h => by have := (HD.out.2 b).1 h.1; have hb' : w10.heap.size ≤ b := hb; have := HS.out; have := HB.out.2.2.2.2; omega) fun cs x h => TyN.keep hcs (fun b t hb _ h => by have := (HD.out.2 b).1 h.1; have hb' : w10.heap.size ≤ b := hb; have := HS.out; have := HB.out.2.2.2.2; omega) h
      have hOW : TysR n w2.heap.size W (.slice Ao have_.length co) have_ := TysR.keep0 HB.out.2.2.1 H2.out.2.1
      have hmo : LetsM (fun b t => G b ∧ (t = 35 ∨ t = 33)) w2.heap.size := fun b t hb h => by have := (HD.out.2 b).1 h.1; have := HS.out; omega
      have hOr : TysR n w2.heap.size wr (.slice Ao have_.length co) have_ := SlR.keep hOW hcs hmo.lets fun _ _ h => TyR.keep hcs hmo h
      have hmh : LetsM (fun b t => G b ∧ (t = 35 ∨ t = 33)) B := fun b t hb h => by have := (HD.out.2 b).1 h.1; have := HS.out; have := HP.out.1; have := H2.out.2.2.size; omega
      have hHr : TysR n B wr (.slice Ah have_.length ch) have_ := SlR.keep (TysR.keep0 HB.out.2.2.2.1 HP.out.2.2.2.2) hcs hmh.lets fun _ _ h => TyR.keep hcs hmh h
      have hfr : Chg (fun _ _ => False) w wr := HB.out.2.2.2.1.trans_new hcs fun b t hb h => by have := (HD.out.2 b).1 h.1; have := HS.out; have := H2.out.2.2.size; omega
      have hsm := rsameAll_any (n + 1) wr.heap.size wr UL UL Ab cb Ak ck (Nat.le_refl _) (hBr.1.settleT (by decide) fun _ _ h => TyN.tyR h) (hKr.1.settleT (by decide) fun _ _ h => TyN.tyR h) (by omega) (by omega)
      rw [eqB_self] at hsm
      have HF := Lib.hid (And.intro hOr (And.intro hHr hfr))
      have HLs := Lib.hid (And.intro HB.out.2.2.1.size hcs.size)
      clear hso hcs hB6 hBr hKr hOW hmo hOr hmh hHr hfr
      go_wp2_with fail
      refine hsm.mono fun e w11 h => ?_
      obtain ⟨rfl, hc11⟩ := h
      clear hsm
      have hsm := rsameAll_any n w11.heap.size w11 have_ have_ Ao co Ah ch (Nat.le_refl _) (TysR.more (by have := HLs.out; have := hc11.size; omega) (TysR.keep0 hc11 HF.out.1)) (TysR.more (Nat.le_trans HP.out.1 (HF.out.2.2.trans hc11).size) (TysR.keep0 hc11 HF.out.2.1)) (by omega) (by omega)
      rw [eqB_self] at hsm
      have HG := Lib.hid hc11
      clear hc11
      go_wp2_with fail
      refine hsm.mono fun e w12 h => ?_
      obtain ⟨rfl, hc12⟩ := h
      clear hsm
      go_wp2_with fail
      go_ret
      exact ⟨rfl, (HF.out.2.2.trans HG.out).trans hc12⟩
end Go.Proofs.YtgemacdnncjmdaaDoor
