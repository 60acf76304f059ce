/-
  Predicates on kinds; nodes of a list looked for; all nodes of a list.
-/
import Derived.Test.YtgaodjoddfjfmaaDoorNAns
import Derived.Test.YtgaodjoddfjfmaaDoorNSame
namespace Go.Proofs.YtgaodjoddfjfmaaDoor
open Go.RowKit
set_option linter.unusedVariables false
set_option linter.unusedSimpArgs false

def isExprK (k : Int) : Bool := decide (30 ≤ k ∧ k ≤ 40)
set_option maxRecDepth 100000 in
theorem isExpr_any (w : World) (k : Int) : Calls Tryd.prog 33 #[.int .i64 k] w fun e w' => e = .returned (.bool (isExprK k)) ∧ Chg (fun _ _ => False) w w' := by
  by_cases h0 : 30 ≤ k <;> by_cases h1 : k ≤ 40 <;> try omega
  all_goals
    go_enter Tryd.func33, Tryd.ntmps33
    go_wp2
    go_ret
    refine ⟨?_, Chg.refl _ _⟩
    unfold isExprK
    first
      | rw [decide_eq_true (by omega)]
      | rw [decide_eq_false (by omega)]
    first
      | rfl
      | simp_all
      | (simp; omega)
def isTypeK (k : Int) : Bool := decide (10 ≤ k ∧ k ≤ 13)
set_option maxRecDepth 100000 in
theorem isType_any (w : World) (k : Int) : Calls Tryd.prog 34 #[.int .i64 k] w fun e w' => e = .returned (.bool (isTypeK k)) ∧ Chg (fun _ _ => False) w w' := by
  by_cases h0 : 10 ≤ k <;> by_cases h1 : k ≤ 13 <;> try omega
  all_goals
    go_enter Tryd.func34, Tryd.ntmps34
    go_wp2
    go_ret
    refine ⟨?_, Chg.refl _ _⟩
    unfold isTypeK
    first
      | rw [decide_eq_true (by omega)]
      | rw [decide_eq_false (by omega)]
    first
      | rfl
      | simp_all
      | (simp; omega)
def isStmtK (k : Int) : Bool := decide ((20 ≤ k ∧ k ≤ 29) ∨ k = 41 ∨ k = 42)
set_option maxRecDepth 100000 in
theorem isStmt_any (w : World) (k : Int) : Calls Tryd.prog 32 #[.int .i64 k] w fun e w' => e = .returned (.bool (isStmtK k)) ∧ Chg (fun _ _ => False) w w' := by
  by_cases h0 : 20 ≤ k <;> by_cases h1 : k ≤ 29 <;> by_cases h2 : k = 41 <;> by_cases h3 : k = 42 <;> try omega
  all_goals
    go_enter Tryd.func32, Tryd.ntmps32
    go_wp2
    go_ret
    refine ⟨?_, Chg.refl _ _⟩
    unfold isStmtK
    first
      | rw [decide_eq_true (by omega)]
      | rw [decide_eq_false (by omega)]
    first
      | rfl
      | simp_all
      | (simp; omega)
def isTopK (k : Int) : Bool := decide (k = 2 ∨ k = 3)
set_option maxRecDepth 100000 in
theorem isTop_any (w : World) (k : Int) : Calls Tryd.prog 58 #[.int .i64 k] w fun e w' => e = .returned (.bool (isTopK k)) ∧ Chg (fun _ _ => False) w w' := by
  by_cases h0 : k = 2 <;> by_cases h1 : k = 3 <;> try omega
  all_goals
    go_enter Tryd.func58, Tryd.ntmps58
    go_wp2
    go_ret
    refine ⟨?_, Chg.refl _ _⟩
    unfold isTopK
    first
      | rw [decide_eq_true (by omega)]
      | rw [decide_eq_false (by omega)]
    first
      | rfl
      | simp_all
      | (simp; omega)
def isCaseK (k : Int) : Bool := decide (43 ≤ k ∧ k ≤ 45)
set_option maxRecDepth 100000 in
theorem isCase_any (w : World) (k : Int) : Calls Tryd.prog 75 #[.int .i64 k] w fun e w' => e = .returned (.bool (isCaseK k)) ∧ Chg (fun _ _ => False) w w' := by
  by_cases h0 : 43 ≤ k <;> by_cases h1 : k ≤ 45 <;> try omega
  all_goals
    go_enter Tryd.func75, Tryd.ntmps75
    go_wp2
    go_ret
    refine ⟨?_, Chg.refl _ _⟩
    unfold isCaseK
    first
      | rw [decide_eq_true (by omega)]
      | rw [decide_eq_false (by omega)]
    first
      | rfl
      | simp_all
      | (simp; omega)
def isArgK (k : Int) : Bool := isExprK k || decide (k = 11 ∨ k = 12)
set_option maxRecDepth 100000 in
theorem isArg_any (w : World) (k : Int) : Calls Tryd.prog 62 #[.int .i64 k] w fun e w' => e = .returned (.bool (isArgK k)) ∧ Chg (fun _ _ => False) w w' := by
  have hcall := isExpr_any w k
  have HA := Lib.hid (show isArgK k = (isExprK k || decide (k = 11 ∨ k = 12)) from rfl)
  generalize isArgK k = r at HA ⊢
  generalize isExprK k = b at hcall HA
  cases b with
  | true =>
    go_enter Tryd.func62, Tryd.ntmps62
    go_wp2_with fail
    refine hcall.mono fun e w1 h => ?_
    obtain ⟨rfl, hc1⟩ := h
    clear hcall
    go_wp2_with fail
    go_ret
    exact ⟨by rw [HA.out]; rfl, hc1⟩
  | false =>
    by_cases h11 : k = 11
    · have q1 : (k == 11) = true := by simp [h11]
      have HE := Lib.hid h11
      clear h11
      go_enter Tryd.func62, Tryd.ntmps62
      go_wp2_with fail
      refine hcall.mono fun e w1 h => ?_
      obtain ⟨rfl, hc1⟩ := h
      clear hcall
      go_wp2_with fail
      go_ret
      exact ⟨by rw [HA.out, HE.out]; rfl, hc1⟩
    · have q1 : (k == 11) = false := by simp [h11]
      by_cases h12 : k = 12
      · have q2 : (k == 12) = true := by simp [h12]
        have HE := Lib.hid h12
        clear h11 h12
        go_enter Tryd.func62, Tryd.ntmps62
        go_wp2_with fail
        refine hcall.mono fun e w1 h => ?_
        obtain ⟨rfl, hc1⟩ := h
        clear hcall
        go_wp2_with fail
        go_ret
        exact ⟨by rw [HA.out, HE.out]; rfl, hc1⟩
      · have q2 : (k == 12) = false := by simp [h12]
        have HE := Lib.hid (show decide (k = 11 ∨ k = 12) = false from decide_eq_false (by omega))
        clear h11 h12
        go_enter Tryd.func62, Tryd.ntmps62
        go_wp2_with fail
        refine hcall.mono fun e w1 h => ?_
        obtain ⟨rfl, hc1⟩ := h
        clear hcall
        go_wp2_with fail
        go_ret
        exact ⟨by rw [HA.out, HE.out]; rfl, hc1⟩
/-- A function value of one kind, told in plain words, as long as Pre holds. -/
def KindF (fid : FuncId) (caps : Array Value) (p : Int → Bool) (Pre : World → Prop) : Prop :=
  (∀ xs w, (callFunc fid xs).run Tryd.prog w = .ok (.enter fid xs) w) ∧ (∀ w w', Chg (fun _ _ => False) w w' → Pre w → Pre w') ∧
  ∀ w k, Pre w → Calls Tryd.prog fid (#[.int .i64 k] ++ caps) w fun e w' => e = .returned (.bool (p k)) ∧ Chg (fun _ _ => False) w w'
def NodeF (fid : FuncId) (caps : Array Value) (n B : Nat) (q : Nd → Bool) (Pre : World → Prop) : Prop :=
  (∀ xs w, (callFunc fid xs).run Tryd.prog w = .ok (.enter fid xs) w) ∧ (∀ w w', Chg (fun _ _ => False) w w' → Pre w → Pre w') ∧
  ∀ w (x : Nd) X cx, Pre w → B ≤ w.heap.size → NdR n B w (ndCells x.kind x.text x.n x.at_ X x.list.length cx) x → Calls Tryd.prog fid (#[.agg #[.int .i64 x.kind, .string x.text, .int .u64 x.n, .int .i64 x.at_, .slice X x.list.length cx]] ++ caps) w fun e w' => e = .returned (.bool (q x)) ∧ Chg (fun _ _ => False) w w'
def ixRel (l : List Nd) (q : Nd → Bool) (W : World) (i : Value) (wr : World) : Prop := ∃ k : Nat, k ≤ l.length ∧ i = .int .i64 k ∧ (l.take k).any q = false ∧ Chg (fun _ _ => False) W wr
theorem any_at {l : List Nd} {q : Nd → Bool} {k : Nat} {x : Nd} (h : l[k]? = some x) (hq : q x = true) : l.any q = true := List.any_eq_true.2 ⟨x, List.mem_of_getElem? h, hq⟩
theorem any_succ {l : List Nd} {q : Nd → Bool} {k : Nat} {x : Nd} (h : l[k]? = some x) (hq : q x = false) (ha : (l.take k).any q = false) : (l.take (k + 1)).any q = false := by
  obtain ⟨h1, h2⟩ := List.getElem?_eq_some_iff.1 h
  rw [List.take_succ_eq_append_getElem h1, h2, List.any_append, ha]
  simp [hq]
set_option maxRecDepth 100000 in
set_option maxHeartbeats 1000000 in
theorem idxN_of (n B : Nat) (w : World) (l : List Nd) (A : Option Addr) (c : Nat) (fid : FuncId) (caps : Array Value) (q : Nd → Bool) (Pre : World → Prop) (hB : B ≤ w.heap.size) (hl : NdsR n B w (.slice A l.length c) l) (hll : l.length ≤ 1048576) (hF : NodeF fid caps n B q Pre) (hP : Pre w) :
    Calls Tryd.prog 64 #[.slice A l.length c, .func (.func fid) #[] caps] w fun e w' => ∃ r : Int, e = .returned (.int .i64 r) ∧ (0 ≤ r ↔ l.any q = true) ∧ Chg (fun _ _ => False) w w' := by
  have hent := hF.1
  have HH := Lib.hid (And.intro hB (And.intro hl (And.intro hF.2 hP)))
  clear hB hl hF hP
  go_enter Tryd.func64, Tryd.ntmps64
  go_wp2_with fail
  go_loopw [8] (fun i wr => ixRel l q w i wr) (fun i _ => l.length - (intOf i).toNat)
  case atStart => exact ⟨0, Nat.zero_le _, rfl, by simp, Chg.refl _ _⟩
  case round =>
    obtain ⟨k, hk, rfl, ha, hch⟩ := hrel
    have q3 : IntKind.i64.wrap ((k : Int) + 1) = (k : Int) + 1 := IntWalk.i64_in _ ⟨by omega, by omega⟩
    by_cases hlt : k < l.length
    · have q1 : decide (k < l.length) = true := decide_eq_true hlt
      have q2 : (k : Int) < (l.length : Int) := by omega
      obtain ⟨bb, oo, x, X, cx, rfl, hkx, hRx, z0, z1, z2, z3, z4⟩ := NdsR.at_ (NdsR.keep0 hch HH.out.2.1) hlt
      have hcall := HH.out.2.2.1.2 wr x X cx (HH.out.2.2.1.1 _ _ hch HH.out.2.2.2) (Nat.le_trans HH.out.1 hch.size) hRx
      have HK := Lib.hid (And.intro ha (And.intro hch hkx))
      clear ha hch hkx hRx
      go_wp2_with fail
      refine hcall.mono fun e w5 h => ?_
      obtain ⟨rfl, hc5⟩ := h
      clear hcall
      cases hq : q x with
      | true =>
        have HQ := Lib.hid hq
        clear hq
        go_wp2_with fail
        go_ret
        exact ⟨_, rfl, ⟨fun _ => any_at HK.out.2.2 HQ.out, fun _ => by omega⟩, HK.out.2.1.trans hc5⟩
      | false =>
        have HQ := Lib.hid hq
        clear hq
        go_wp2_with fail
        go_roundw
        case rel => exact ⟨k + 1, hlt, by simp, any_succ HK.out.2.2 HQ.out HK.out.1, HK.out.2.1.trans hc5⟩
        case measure => simp [intOf]; omega
    · have q1 : decide (k < l.length) = false := decide_eq_false hlt
      obtain rfl : k = l.length := by omega
      rw [List.take_length] at ha
      have HK := Lib.hid (And.intro ha hch)
      clear ha hch
      go_wp2_with fail
      go_ret
      exact ⟨-1, rfl, ⟨fun h => absurd h (by decide), fun h => by rw [HK.out.1] at h; cases h⟩, HK.out.2⟩
set_option maxRecDepth 100000 in
theorem contN_of (n B : Nat) (w : World) (l : List Nd) (A : Option Addr) (c : Nat) (fid : FuncId) (caps : Array Value) (q : Nd → Bool) (Pre : World → Prop) (hB : B ≤ w.heap.size) (hl : NdsR n B w (.slice A l.length c) l) (hll : l.length ≤ 1048576) (hF : NodeF fid caps n B q Pre) (hP : Pre w) :
    Calls Tryd.prog 50 #[.slice A l.length c, .func (.func fid) #[] caps] w fun e w' => e = .returned (.bool (l.any q)) ∧ Chg (fun _ _ => False) w w' := by
  have hcall := idxN_of n B w l A c fid caps q Pre hB hl hll hF hP
  clear hB hl hF hP
  go_enter Tryd.func50, Tryd.ntmps50
  go_wp2_with fail
  refine hcall.mono fun e w1 h => ?_
  obtain ⟨r, rfl, hr, hc1⟩ := h
  clear hcall
  by_cases h0 : 0 ≤ r
  · have HR := Lib.hid (hr.1 h0)
    clear hr
    go_wp2_with fail
    go_ret
    exact ⟨by rw [HR.out]; rfl, hc1⟩
  · have HR := Lib.hid (show l.any q = false by
      cases h : l.any q with
      | true => exact absurd (hr.2 h) h0
      | false => rfl)
    clear hr
    go_wp2_with fail
    go_ret
    exact ⟨by rw [HR.out]; first | rfl | simp; omega, hc1⟩
set_option maxRecDepth 100000 in
theorem all1_of (fid : FuncId) (caps : Array Value) (p : Int → Bool) (Pre : World → Prop) (g : Nat) (hF : KindF fid caps p Pre) (n B : Nat) : NodeF 70 #[.pointer (some ⟨g, 0, none⟩)] n B (fun x => !p x.kind) (fun w => Pre w ∧ w.cell? ⟨g, 0, none⟩ = some (.func (.func fid) #[] caps)) := by
  refine ⟨fun xs w => ?_, fun w w' hc h => ⟨hF.2.1 _ _ hc h.1, hc.cell h.2 fun _ => id⟩, fun w x X cx hP hB hx => ?_⟩
  · show (callFunc _ _).run _ _ = _
    simp [callFunc, Tryd.func70, go_sem]
    rw [if_neg (by decide +kernel), if_neg (fun h => by cases h)]
  · have hent := hF.1
    have hc1 := chg_alloc w (.cells #[.int .i64 x.kind, .string x.text, .int .u64 x.n, .int .i64 x.at_, .slice X x.list.length cx] 25)
    have hcall := hF.2.2 (w.alloc (.cells #[.int .i64 x.kind, .string x.text, .int .u64 x.n, .int .i64 x.at_, .slice X x.list.length cx] 25)) x.kind (hF.2.1 _ _ hc1 hP.1)
    have y0 := hc1.cell hP.2 fun _ => id
    have HC := Lib.hid hc1
    clear hF hP hB hx hc1
    generalize hb : p x.kind = b at hcall
    have HB := Lib.hid hb
    clear hb
    show Calls Tryd.prog 70 #[.agg #[.int .i64 x.kind, .string x.text, .int .u64 x.n, .int .i64 x.at_, .slice X x.list.length cx], .pointer (some ⟨g, 0, none⟩)] w _
    go_enter Tryd.func70, Tryd.ntmps70
    go_wp2_with fail
    refine hcall.mono fun e w1 h => ?_
    obtain ⟨rfl, hc2⟩ := h
    clear hcall
    go_wp2_with fail
    go_ret
    exact ⟨by simp only [HB.out]; rfl, HC.out.trans hc2⟩
set_option maxRecDepth 100000 in
theorem all_of (n B : Nat) (w : World) (l : List Nd) (A : Option Addr) (c : Nat) (fid : FuncId) (caps : Array Value) (p : Int → Bool) (Pre : World → Prop) (hB : B ≤ w.heap.size) (hl : NdsR n B w (.slice A l.length c) l) (hll : l.length ≤ 1048576) (hF : KindF fid caps p Pre) (hP : Pre w) :
    Calls Tryd.prog 57 #[.slice A l.length c, .func (.func fid) #[] caps] w fun e w' => e = .returned (.bool (l.all fun x => p x.kind)) ∧ Chg (fun _ _ => False) w w' := by
  have hst : ∀ (w' : World) (a : Addr), (store a (.func (.func fid) #[] caps)).run Tryd.prog w' = stored Tryd.prog w' a (.func (.func fid) #[] caps) .plain := fun w' a => run_store Tryd.prog w' a _ .plain rfl
  have hc1 := chg_alloc w (.cells #[.func (.func fid) #[] caps] 49)
  have hb1 := Blk.new w 49 #[.func (.func fid) #[] caps]
  have hcall := contN_of n B (w.alloc (.cells #[.func (.func fid) #[] caps] 49)) l A c 70 #[.pointer (some ⟨w.heap.size, 0, none⟩)] _ _ (Nat.le_trans hB hc1.size) (NdsR.keep0 hc1 hl) hll (all1_of fid caps p Pre w.heap.size hF n B) ⟨hF.2.1 _ _ hc1 hP, by simp⟩
  have HC := Lib.hid hc1
  have HL := Lib.hid (show (l.all fun x => p x.kind) = !(l.any fun x => !p x.kind) by simp [List.all_eq_not_any_not])
  generalize (l.any fun x => !p x.kind) = b at hcall HL
  clear hB hl hF hP hc1 hb1
  go_enter Tryd.func57, Tryd.ntmps57
  go_wp2_with fail
  refine hcall.mono fun e w1 h => ?_
  obtain ⟨rfl, hc2⟩ := h
  clear hcall
  go_wp2_with fail
  go_ret
  exact ⟨by rw [HL.out]; rfl, HC.out.trans hc2⟩
end Go.Proofs.YtgaodjoddfjfmaaDoor
