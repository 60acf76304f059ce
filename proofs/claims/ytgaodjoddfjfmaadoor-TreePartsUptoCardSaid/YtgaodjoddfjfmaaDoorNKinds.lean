/-
  tree.kinds, only, cases; the predicates on kinds as function values.
-/
import Derived.Test.YtgaodjoddfjfmaaDoorNKind
namespace Go.Proofs.YtgaodjoddfjfmaaDoor
open Go.RowKit
set_option linter.unusedVariables false
set_option linter.unusedSimpArgs false

theorem isExpr_fn : KindF 33 #[] isExprK (fun _ => True) := by
  refine ⟨fun xs w => ?_, fun _ _ _ h => h, fun w k _ => ?_⟩
  · show (callFunc _ _).run _ _ = _
    simp [callFunc, Tryd.func33, go_sem]
    try rw [if_neg (by decide +kernel), if_neg (fun h => by cases h)]
  · exact isExpr_any w k
theorem isType_fn : KindF 34 #[] isTypeK (fun _ => True) := by
  refine ⟨fun xs w => ?_, fun _ _ _ h => h, fun w k _ => ?_⟩
  · show (callFunc _ _).run _ _ = _
    simp [callFunc, Tryd.func34, go_sem]
    try rw [if_neg (by decide +kernel), if_neg (fun h => by cases h)]
  · exact isType_any w k
theorem isStmt_fn : KindF 32 #[] isStmtK (fun _ => True) := by
  refine ⟨fun xs w => ?_, fun _ _ _ h => h, fun w k _ => ?_⟩
  · show (callFunc _ _).run _ _ = _
    simp [callFunc, Tryd.func32, go_sem]
    try rw [if_neg (by decide +kernel), if_neg (fun h => by cases h)]
  · exact isStmt_any w k
theorem isTop_fn : KindF 58 #[] isTopK (fun _ => True) := by
  refine ⟨fun xs w => ?_, fun _ _ _ h => h, fun w k _ => ?_⟩
  · show (callFunc _ _).run _ _ = _
    simp [callFunc, Tryd.func58, go_sem]
    try rw [if_neg (by decide +kernel), if_neg (fun h => by cases h)]
  · exact isTop_any w k
theorem isCase_fn : KindF 75 #[] isCaseK (fun _ => True) := by
  refine ⟨fun xs w => ?_, fun _ _ _ h => h, fun w k _ => ?_⟩
  · show (callFunc _ _).run _ _ = _
    simp [callFunc, Tryd.func75, go_sem]
    try rw [if_neg (by decide +kernel), if_neg (fun h => by cases h)]
  · exact isCase_any w k
theorem isArg_fn : KindF 62 #[] isArgK (fun _ => True) := by
  refine ⟨fun xs w => ?_, fun _ _ _ h => h, fun w k _ => ?_⟩
  · show (callFunc _ _).run _ _ = _
    simp [callFunc, Tryd.func62, go_sem]
    try rw [if_neg (by decide +kernel), if_neg (fun h => by cases h)]
  · exact isArg_any w k
/-- Is a kind what is wanted (a number below 0 stands for a sort)? -/
def kind1 (k want : Int) : Bool := if want = -1 then isExprK k else if want = -2 then isTypeK k else if want = -3 then isStmtK k else decide (k = want)
def KindsP (l : List Nd) (m : List Int) : Prop := l.length = m.length ∧ ∀ (j : Nat) x k, l[j]? = some x → m[j]? = some k → kind1 x.kind k = true
noncomputable def kindsF (l : List Nd) (m : List Int) : Bool := @decide (KindsP l m) (Classical.propDecidable _)
theorem kindsF_true {l : List Nd} {m : List Int} : kindsF l m = true ↔ KindsP l m := @decide_eq_true_iff _ (Classical.propDecidable _)
theorem kindsF_false {l : List Nd} {m : List Int} (h : ¬ KindsP l m) : kindsF l m = false := Bool.eq_false_iff.2 fun h' => h (kindsF_true.1 h')
set_option maxRecDepth 100000 in
theorem kinds1_any (w : World) (x : Nd) (X : Option Addr) (cx : Nat) (k : Int) : Calls Tryd.prog 73 #[.agg #[.int .i64 x.kind, .string x.text, .int .u64 x.n, .int .i64 x.at_, .slice X x.list.length cx], .int .i64 k] w fun e w' => e = .returned (.bool (kind1 x.kind k)) ∧ Chg (fun _ _ => False) w w' := by
  by_cases h1 : k = -1
  · have HK := Lib.hid (show kind1 x.kind k = isExprK x.kind by unfold kind1; rw [if_pos h1])
    have q1 : (k == -1) = true := by simp [h1]
    clear h1
    go_enter Tryd.func73, Tryd.ntmps73
    go_wp2_with fail
    refine (isExpr_any _ x.kind).mono fun e w1 h => ?_
    obtain ⟨rfl, hc2⟩ := h
    have hc1 := chg_alloc w (.cells #[.int .i64 x.kind, .string x.text, .int .u64 x.n, .int .i64 x.at_, .slice X x.list.length cx] 25)
    go_wp2_with fail
    go_ret
    exact ⟨by rw [HK.out]; rfl, hc1.trans hc2⟩
  · have q1 : (k == -1) = false := by simp [h1]
    by_cases h2 : k = -2
    · have HK := Lib.hid (show kind1 x.kind k = isTypeK x.kind by unfold kind1; rw [if_neg h1, if_pos h2])
      have q2 : (k == -2) = true := by simp [h2]
      clear h1 h2
      go_enter Tryd.func73, Tryd.ntmps73
      go_wp2_with fail
      refine (isType_any _ x.kind).mono fun e w1 h => ?_
      obtain ⟨rfl, hc2⟩ := h
      have hc1 := chg_alloc w (.cells #[.int .i64 x.kind, .string x.text, .int .u64 x.n, .int .i64 x.at_, .slice X x.list.length cx] 25)
      go_wp2_with fail
      go_ret
      exact ⟨by rw [HK.out]; rfl, hc1.trans hc2⟩
    · have q2 : (k == -2) = false := by simp [h2]
      by_cases h3 : k = -3
      · have HK := Lib.hid (show kind1 x.kind k = isStmtK x.kind by unfold kind1; rw [if_neg h1, if_neg h2, if_pos h3])
        have q3 : (k == -3) = true := by simp [h3]
        clear h1 h2 h3
        go_enter Tryd.func73, Tryd.ntmps73
        go_wp2_with fail
        refine (isStmt_any _ x.kind).mono fun e w1 h => ?_
        obtain ⟨rfl, hc2⟩ := h
        have hc1 := chg_alloc w (.cells #[.int .i64 x.kind, .string x.text, .int .u64 x.n, .int .i64 x.at_, .slice X x.list.length cx] 25)
        go_wp2_with fail
        go_ret
        exact ⟨by rw [HK.out]; rfl, hc1.trans hc2⟩
      · have HK := Lib.hid (show kind1 x.kind k = (x.kind == k) by unfold kind1; rw [if_neg h1, if_neg h2, if_neg h3]; by_cases h : x.kind = k <;> simp [h])
        have q3 : (k == -3) = false := by simp [h3]
        have hc1 := chg_alloc w (.cells #[.int .i64 x.kind, .string x.text, .int .u64 x.n, .int .i64 x.at_, .slice X x.list.length cx] 25)
        clear h1 h2 h3
        go_enter Tryd.func73, Tryd.ntmps73
        go_wp2_with fail
        go_ret
        exact ⟨by rw [HK.out]; rfl, hc1⟩
def kdRel (l : List Nd) (m : List Int) (W : World) (i : Value) (wr : World) : Prop := ∃ k : Nat, k ≤ l.length ∧ i = .int .i64 k ∧ (∀ (j : Nat) x y, j < k → l[j]? = some x → m[j]? = some y → kind1 x.kind y = true) ∧ Chg (fun _ _ => False) W wr
set_option maxRecDepth 100000 in
set_option maxHeartbeats 2000000 in
theorem eqfI_of (n B : Nat) (w : World) (l : List Nd) (m : List Int) (A : Option Addr) (c g c' : Nat) (hl : NdsR n B w (.slice A l.length c) l) (hm : ∀ i k, m[i]? = some k → w.cell? ⟨g, i, none⟩ = some (.int .i64 k)) (hl20 : l.length ≤ 1048576) (hm20 : m.length ≤ 1048576) :
    Calls Tryd.prog 72 #[.slice A l.length c, .slice (some ⟨g, 0, none⟩) m.length c', .func (.func 73) #[] #[]] w fun e w' => e = .returned (.bool (kindsF l m)) ∧ Chg (fun _ _ => False) w w' := by
  by_cases hlm : l.length = m.length
  · have q4 : ((l.length : Int) != (m.length : Int)) = false := by simp [hlm]
    have p4 : (l.length != m.length) = false := by simp [hlm]
    have H0 := Lib.hid (And.intro hl (And.intro hm hlm))
    clear hl hm hlm
    go_enter Tryd.func72, Tryd.ntmps72
    go_wp2_with fail
    go_loopw [17] (fun i wr => kdRel l m w i wr) (fun i _ => l.length - (intOf i).toNat)
    case atStart => exact ⟨0, Nat.zero_le _, rfl, fun j x y hj => by omega, Chg.refl _ _⟩
    case round =>
      obtain ⟨k, hk, rfl, hs, hch⟩ := hrel
      have q3 : IntKind.i64.wrap ((k : Int) + 1) = (k : Int) + 1 := IntWalk.i64_in _ ⟨by omega, by omega⟩
      by_cases hlt : k < l.length
      · have q1 : decide (k < l.length) = true := decide_eq_true hlt
        have q2 : (k : Int) < (l.length : Int) := by omega
        have q2m : (k : Int) < (m.length : Int) := by have := H0.out.2.2; omega
        obtain ⟨bb, oo, x, X, cx, rfl, hkx, hRx, z0, z1, z2, z3, z4⟩ := NdsR.at_ (NdsR.keep0 hch H0.out.1) hlt
        obtain ⟨y, hky⟩ : ∃ y, m[k]? = some y := ⟨_, List.getElem?_eq_getElem (by have := H0.out.2.2; omega)⟩
        have v0 := hch.cell (H0.out.2.1 k y hky) fun _ => id
        have hca := chg_alloc wr (.cells #[.int .i64 x.kind, .string x.text, .int .u64 x.n, .int .i64 x.at_, .slice X x.list.length cx] 25)
        have u0 := hca.cell v0 fun _ => id
        have hcall := kinds1_any (wr.alloc (.cells #[.int .i64 x.kind, .string x.text, .int .u64 x.n, .int .i64 x.at_, .slice X x.list.length cx] 25)) x X cx y
        have HK := Lib.hid (And.intro hs (And.intro (hch.trans hca) (And.intro hkx hky)))
        clear hs hch hkx hky hRx hca v0
        go_wp2_with fail
        generalize wr.alloc (.cells #[.int .i64 x.kind, .string x.text, .int .u64 x.n, .int .i64 x.at_, .slice X x.list.length cx] 25) = w4 at hcall HK ⊢
        cases he : kind1 x.kind y with
        | true =>
          rw [he] at hcall
          have HEq := Lib.hid he
          clear he
          refine hcall.mono fun e w5 h => ?_
          obtain ⟨rfl, hc5⟩ := h
          clear hcall
          go_wp2_with fail
          go_roundw
          case rel =>
            refine ⟨k + 1, hlt, by simp, fun j x' y' hj hx hy => ?_, HK.out.2.1.trans hc5⟩
            by_cases hjk : j = k
            · subst hjk
              rw [HK.out.2.2.1] at hx
              rw [HK.out.2.2.2] at hy
              cases hx
              cases hy
              exact HEq.out
            · exact HK.out.1 j x' y' (by omega) hx hy
          case measure => simp [intOf]; omega
        | false =>
          rw [he] at hcall
          have HEq := Lib.hid he
          clear he
          refine hcall.mono fun e w5 h => ?_
          obtain ⟨rfl, hc5⟩ := h
          clear hcall
          go_wp2_with fail
          go_ret
          refine ⟨?_, HK.out.2.1.trans hc5⟩
          rw [kindsF_false fun h => by have := h.2 k _ _ HK.out.2.2.1 HK.out.2.2.2; rw [HEq.out] at this; cases this]
          rfl
      · have q1 : decide (k < l.length) = false := decide_eq_false hlt
        obtain rfl : k = l.length := by omega
        have HC := Lib.hid hch
        have HS := Lib.hid (show kindsF l m = true from kindsF_true.2 ⟨H0.out.2.2, fun j x y hx hy => hs j x y (List.getElem?_eq_some_iff.1 hx).1 hx hy⟩)
        clear hs hch
        go_wp2_with fail
        go_ret
        refine ⟨?_, HC.out⟩
        rw [HS.out]
        rfl
  · have q4 : ((l.length : Int) != (m.length : Int)) = true := by simp; omega
    have p4 : (l.length != m.length) = true := by simp; omega
    have HS := Lib.hid (show kindsF l m = false from kindsF_false fun h => hlm h.1)
    clear hl hm hlm
    go_enter Tryd.func72, Tryd.ntmps72
    go_wp2_with fail
    go_ret
    refine ⟨?_, Chg.refl _ _⟩
    rw [HS.out]
    rfl
set_option maxRecDepth 100000 in
theorem kinds_any (n B : Nat) (w : World) (l : List Nd) (m : List Int) (A : Option Addr) (c g c' : Nat) (hl : NdsR n B w (.slice A l.length c) l) (hm : ∀ i k, m[i]? = some k → w.cell? ⟨g, i, none⟩ = some (.int .i64 k)) (hl20 : l.length ≤ 1048576) (hm20 : m.length ≤ 1048576) :
    Calls Tryd.prog 60 #[.slice A l.length c, .slice (some ⟨g, 0, none⟩) m.length c'] w fun e w' => e = .returned (.bool (kindsF l m)) ∧ Chg (fun _ _ => False) w w' := by
  have hcall := eqfI_of n B w l m A c g c' hl hm hl20 hm20
  clear hl hm hl20 hm20
  go_enter Tryd.func60, Tryd.ntmps60
  go_wp2_with fail
  refine hcall.mono fun e w1 h => ?_
  obtain ⟨rfl, hc1⟩ := h
  clear hcall
  go_wp2_with fail
  go_ret
  exact ⟨rfl, hc1⟩
set_option maxRecDepth 100000 in
theorem only1_any (w : World) (k m : Int) (g : Nat) (hg : w.cell? ⟨g, 0, none⟩ = some (.int .i64 m)) : Calls Tryd.prog 71 #[.int .i64 k, .pointer (some ⟨g, 0, none⟩)] w fun e w' => e = .returned (.bool (k == m)) ∧ Chg (fun _ _ => False) w w' := by
  go_enter Tryd.func71, Tryd.ntmps71
  go_wp2_with fail
  go_ret
  exact ⟨rfl, Chg.refl _ _⟩
theorem only_fn (m : Int) (g : Nat) : KindF 71 #[.pointer (some ⟨g, 0, none⟩)] (fun k => k == m) (fun w => w.cell? ⟨g, 0, none⟩ = some (.int .i64 m)) := by
  refine ⟨fun xs w => ?_, fun _ _ hc h => hc.cell h fun _ => id, fun w k h => ?_⟩
  · show (callFunc _ _).run _ _ = _
    simp [callFunc, Tryd.func71, go_sem]
    try rw [if_neg (by decide +kernel), if_neg (fun h => by cases h)]
  · exact only1_any w k m g h
set_option maxRecDepth 100000 in
theorem only_any (w : World) (m : Int) : Calls Tryd.prog 59 #[.int .i64 m] w fun e w' => ∃ g, e = .returned (.func (.func 71) #[] #[.pointer (some ⟨g, 0, none⟩)]) ∧ w'.cell? ⟨g, 0, none⟩ = some (.int .i64 m) ∧ Chg (fun _ _ => False) w w' := by
  have hc1 := chg_alloc w (.cells #[.int .i64 m] 3)
  have hb1 := (Blk.new w 3 #[.int .i64 m]).cell 0
  go_enter Tryd.func59, Tryd.ntmps59
  go_wp2_with fail
  go_ret
  exact ⟨_, rfl, by simp, hc1⟩
def csRel (l : List Nd) (W : World) (v i : Value) (wr : World) : Prop := ∃ k : Nat, k ≤ l.length ∧ i = .int .i64 k ∧ v = .int .i64 ((l.take k).countP fun x => x.kind == 45 : Nat) ∧ Chg (fun _ _ => False) W wr
def casesF (l : List Nd) : Bool := decide ((l.countP fun x => x.kind == 45) ≤ 1) && l.all fun x => isCaseK x.kind
set_option maxRecDepth 100000 in
set_option maxHeartbeats 2000000 in
theorem cases_any (n B : Nat) (w : World) (l : List Nd) (A : Option Addr) (c : Nat) (hB : B ≤ w.heap.size) (hl : NdsR n B w (.slice A l.length c) l) (hll : l.length ≤ 1048576) :
    Calls Tryd.prog 63 #[.slice A l.length c] w fun e w' => e = .returned (.bool (casesF l)) ∧ Chg (fun _ _ => False) w w' := by
  have HH := Lib.hid (And.intro hB hl)
  clear hB hl
  go_enter Tryd.func63, Tryd.ntmps63
  go_wp2_with fail
  go_loopw [3, 8] (fun v i wr => csRel l w v i wr) (fun _ i _ => l.length - (intOf i).toNat)
  case atStart => exact ⟨0, Nat.zero_le _, rfl, rfl, Chg.refl _ _⟩
  case round =>
    obtain ⟨k, hk, rfl, rfl, hch⟩ := hrel
    have hcl : (l.take k).countP (fun x => x.kind == 45) ≤ k := Nat.le_trans List.countP_le_length (by rw [List.length_take]; omega)
    have q3 : IntKind.i64.wrap ((k : Int) + 1) = (k : Int) + 1 := IntWalk.i64_in _ ⟨by omega, by omega⟩
    by_cases hlt : k < l.length
    · have q1 : decide (k < l.length) = true := decide_eq_true hlt
      have q2 : (k : Int) < (l.length : Int) := by omega
      obtain ⟨bb, oo, x, X, cx, rfl, hkx, hRx, z0, z1, z2, z3, z4⟩ := NdsR.at_ (NdsR.keep0 hch HH.out.2) hlt
      have hca := hch.trans (chg_alloc wr (.cells #[.int .i64 x.kind, .string x.text, .int .u64 x.n, .int .i64 x.at_, .slice X x.list.length cx] 25))
      have hct : (l.take (k + 1)).countP (fun x => x.kind == 45) = (l.take k).countP (fun x => x.kind == 45) + (if x.kind == 45 then 1 else 0) := by
        obtain ⟨h1, h2⟩ := List.getElem?_eq_some_iff.1 hkx
        rw [List.take_succ_eq_append_getElem h1, h2, List.countP_append, List.countP_cons, List.countP_nil, Nat.zero_add]
      have HK := Lib.hid (And.intro hct hca)
      generalize (l.take k).countP (fun x => x.kind == 45) = s0 at hcl HK ⊢
      have q4 : IntKind.i64.wrap ((s0 : Int) + 1) = (s0 : Int) + 1 := IntWalk.i64_in _ ⟨by omega, by omega⟩
      clear hct hca hch hkx hRx
      by_cases h45 : x.kind = 45
      · have q5 : (x.kind == 45) = true := by simp [h45]
        have H45 := Lib.hid h45
        clear h45
        go_wp2_with fail
        go_roundw
        case rel => exact ⟨k + 1, hlt, by simp, by rw [HK.out.1, H45.out]; simp, HK.out.2⟩
        case measure => simp [intOf]; omega
      · have q5 : (x.kind == 45) = false := by simp [h45]
        have H45 := Lib.hid q5
        clear h45
        go_wp2_with fail
        go_roundw
        case rel => exact ⟨k + 1, hlt, by simp, by rw [HK.out.1, H45.out]; simp, HK.out.2⟩
        case measure => simp [intOf]; omega
    · have q1 : decide (k < l.length) = false := decide_eq_false hlt
      obtain rfl : k = l.length := by omega
      rw [List.take_length] at hcl ⊢
      have hcall := all_of n B wr l A c 75 #[] isCaseK (fun _ => True) (Nat.le_trans HH.out.1 hch.size) (NdsR.keep0 hch HH.out.2) hll isCase_fn trivial
      have HC := Lib.hid hch
      have HF := Lib.hid (show casesF l = (decide ((l.countP fun x => x.kind == 45) ≤ 1) && l.all fun x => isCaseK x.kind) from rfl)
      generalize (l.countP fun x => x.kind == 45) = s0 at hcl HF ⊢
      clear hch
      by_cases h1 : s0 ≤ 1
      · have q5 : decide (s0 ≤ 1) = true := decide_eq_true h1
        have q6 : decide ((s0 : Int) ≤ 1) = true := decide_eq_true (by omega)
        rw [q5, Bool.true_and] at HF
        clear h1
        go_wp2_with fail
        refine hcall.mono fun e w1 h => ?_
        obtain ⟨rfl, hc1⟩ := h
        clear hcall
        go_wp2_with fail
        go_ret
        exact ⟨by rw [HF.out]; rfl, HC.out.trans hc1⟩
      · have q5 : decide (s0 ≤ 1) = false := decide_eq_false h1
        have q6 : decide ((s0 : Int) ≤ 1) = false := decide_eq_false (by omega)
        rw [q5, Bool.false_and] at HF
        clear h1 hcall
        go_wp2_with fail
        go_ret
        exact ⟨by rw [HF.out]; rfl, HC.out⟩
end Go.Proofs.YtgaodjoddfjfmaaDoor
