/-
  A block that the checker's calls leave (a variable of the caller's); pops.
-/
import Derived.Test.YtdegfnejhamejaaCkZk
namespace Go.Proofs.Ytdegfnejhamejaa
open Go.RowKit
set_option linter.unusedVariables false
set_option linter.unusedSimpArgs false

theorem inB_of {i : Int} {n : Nat} {a b : Bool} (h0 : decide (0 ≤ i) = a) (h1 : decide (i < (n : Int)) = b) : inB i n = (a && b) := by unfold inB; rw [h0, h1]
set_option maxRecDepth 100000 in
theorem whole_any (h : Hd) (w : World) (t : Int) (H : CkF h w) : Calls Try.prog 63 #[.pointer (some ⟨h.p, 0, none⟩), .int .i64 t] w (Pure h w (wholeB (kindN h.m.types t)) (.int .i64 t)) := by
  go_enter Try.func63, Try.ntmps63
  go_wp2_with fail
  refine (kind_any h w t H).mono ?_
  rintro e w1 ⟨rfl, rfl⟩
  go_wp2_with fail
  refine (wwhole_any w1 _).mono ?_
  rintro e w2 ⟨rfl, rfl⟩
  cases hb : wholeB (kindN h.m.types t)
  · have HB := Lib.hid hb
    clear hb
    go_wp2_with fail
    refine (need_bad h w2 H.d7).mono ?_
    rintro e w3 ⟨rfl, rfl⟩
    go_wp2_with fail
    exact ⟨rfl, Pure.of_bad HB.out⟩
  · have HB := Lib.hid hb
    clear hb
    go_wp2_with fail
    refine (need_ok h w2).mono ?_
    rintro e w3 ⟨rfl, rfl⟩
    go_wp2_with fail
    go_ret
    exact Pure.of_ok HB.out
set_option maxRecDepth 100000 in
theorem local_any (h : Hd) (w : World) (t : Int) (H : CkF h w) : Calls Try.prog 69 #[.pointer (some ⟨h.p, 0, none⟩), .int .i64 t] w (Pure h w (inB t h.f.locals.length) (.int .i64 (locV h.f t))) := by
  have d := H.d3
  by_cases h0 : 0 ≤ t
  · by_cases h1 : t < (h.f.locals.length : Int)
    · have q0 : decide (0 ≤ t) = true := decide_eq_true h0
      have q1 : decide (t < (h.f.locals.length : Int)) = true := decide_eq_true h1
      have HB := Lib.hid (inB_of q0 q1)
      obtain ⟨n, rfl⟩ : ∃ n : Nat, t = (n : Int) := ⟨t.toNat, by omega⟩
      have hn : n < h.f.locals.length := by omega
      obtain ⟨b, o, x, hA, hx, _, e0⟩ := H.mod.locals.at_ hn
      rw [hA] at d
      have hv : locV h.f (n : Int) = x := by unfold locV; rw [List.getD_eq_getElem?_getD, Int.toNat_natCast, hx]; rfl
      rw [hv]
      have HS := Lib.hid (And.intro hx hA)
      clear hx hA hv
      go_enter Try.func69, Try.ntmps69
      go_wp2_with fail
      refine (need_ok h w).mono ?_
      rintro e w3 ⟨rfl, rfl⟩
      go_wp2_with fail
      go_ret
      exact Pure.of_ok (by rw [HB.out]; rfl)
    · have q0 : decide (0 ≤ t) = true := decide_eq_true h0
      have q1 : decide (t < (h.f.locals.length : Int)) = false := decide_eq_false h1
      have HB := Lib.hid (inB_of q0 q1)
      go_enter Try.func69, Try.ntmps69
      go_wp2_with fail
      refine (need_bad h w H.d7).mono ?_
      rintro e w3 ⟨rfl, rfl⟩
      go_wp2_with fail
      exact ⟨rfl, Pure.of_bad (by rw [HB.out]; rfl)⟩
  · have q0 : decide (0 ≤ t) = false := decide_eq_false h0
    have HB := Lib.hid (show inB t h.f.locals.length = false by unfold inB; rw [q0]; rfl)
    go_enter Try.func69, Try.ntmps69
    go_wp2_with fail
    refine (need_bad h w H.d7).mono ?_
    rintro e w3 ⟨rfl, rfl⟩
    go_wp2_with fail
    exact ⟨rfl, Pure.of_bad (by exact HB.out)⟩
set_option maxRecDepth 100000 in
theorem place_any (h : Hd) (w : World) (t : Int) (H : CkF h w) : Calls Try.prog 75 #[.pointer (some ⟨h.p, 0, none⟩), .int .i64 t] w (Pure h w (inB t h.f.code.length) (.tuple #[])) := by
  have d := H.d6
  by_cases h0 : 0 ≤ t
  · by_cases h1 : t < (h.f.code.length : Int)
    · have q0 : decide (0 ≤ t) = true := decide_eq_true h0
      have q1 : decide (t < (h.f.code.length : Int)) = true := decide_eq_true h1
      have HB := Lib.hid (inB_of q0 q1)
      go_enter Try.func75, Try.ntmps75
      go_wp2_with fail
      refine (need_ok h w).mono ?_
      rintro e w3 ⟨rfl, rfl⟩
      go_wp2_with fail
      go_end0
      exact Pure.of_ok (by rw [HB.out]; rfl)
    · have q0 : decide (0 ≤ t) = true := decide_eq_true h0
      have q1 : decide (t < (h.f.code.length : Int)) = false := decide_eq_false h1
      have HB := Lib.hid (inB_of q0 q1)
      go_enter Try.func75, Try.ntmps75
      go_wp2_with fail
      refine (need_bad h w H.d7).mono ?_
      rintro e w3 ⟨rfl, rfl⟩
      go_wp2_with fail
      exact ⟨rfl, Pure.of_bad (by rw [HB.out]; rfl)⟩
  · have q0 : decide (0 ≤ t) = false := decide_eq_false h0
    have HB := Lib.hid (show inB t h.f.code.length = false by unfold inB; rw [q0]; rfl)
    go_enter Try.func75, Try.ntmps75
    go_wp2_with fail
    refine (need_bad h w H.d7).mono ?_
    rintro e w3 ⟨rfl, rfl⟩
    go_wp2_with fail
    exact ⟨rfl, Pure.of_bad (by exact HB.out)⟩
/-- A call that turns nothing that was there: it goes on, or it is wrong. -/
def PureC (h : Hd) (w : World) (b : Bool) (v : Value) (e : Ending) (w' : World) : Prop := Chg (fun _ _ => False) w w' ∧ match b with
  | true => e = .returned v
  | false => e = wrongE h
theorem PureC.of_ok {h : Hd} {w w' : World} {b : Bool} {v : Value} (hc : Chg (fun _ _ => False) w w') (hb : b = true) : PureC h w b v (.returned v) w' := by subst hb; exact ⟨hc, rfl⟩
theorem PureC.of_bad {h : Hd} {w w' : World} {b : Bool} {v : Value} (hc : Chg (fun _ _ => False) w w') (hb : b = false) : PureC h w b v (wrongE h) w' := by subst hb; exact ⟨hc, rfl⟩
theorem PureC.ok {h : Hd} {w w' : World} {b : Bool} {v : Value} {e : Ending} (H : PureC h w b v e w') (hb : b = true) : e = .returned v ∧ Chg (fun _ _ => False) w w' := by subst hb; exact ⟨H.2, H.1⟩
theorem PureC.bad {h : Hd} {w w' : World} {b : Bool} {v : Value} {e : Ending} (H : PureC h w b v e w') (hb : b = false) : e = wrongE h ∧ Chg (fun _ _ => False) w w' := by subst hb; exact ⟨H.2, H.1⟩
def fieldsB (x : InstrD) (a b n : Bool) : Bool := ((a || (x.a == 0)) && (b || (x.b == 0))) && (n || ((x.n : Int) == 0)) && ((x.op == 32) || ((x.cases.length : Int) == 0))
theorem fieldsN_eq (x : InstrD) (a b n : Bool) (s : VSt) : fieldsN x a b n s = needN (fieldsB x a b n) s := rfl
def instrV (x : InstrD) (A : Option Addr) (c : Nat) : Value := .agg #[.int .i64 x.op, .int .i64 x.a, .int .i64 x.b, .int .u64 (x.n : Int), .slice A x.cases.length c]
set_option maxRecDepth 100000 in
set_option maxHeartbeats 4000000 in
theorem fields_any (h : Hd) (w : World) (x : InstrD) (A : Option Addr) (c : Nat) (a b n : Bool) (H : CkF h w) : Calls Try.prog 60 #[.pointer (some ⟨h.p, 0, none⟩), instrV x A c, .bool a, .bool b, .bool n] w (PureC h w (fieldsB x a b n) (.tuple #[])) := by
  obtain ⟨op, xa, xb, xn, cases⟩ := x
  obtain ⟨cn, hcn⟩ : ∃ cn : Nat, cases.length = cn := ⟨_, rfl⟩
  simp only [instrV, fieldsB]
  rw [hcn]
  clear hcn
  have hc1 := chg_alloc w (.cells #[.int .i64 op, .int .i64 xa, .int .i64 xb, .int .u64 (xn : Int), .slice A cn c] 50)
  have H7 := Lib.hid (hc1.cell H.d7 fun _ => id)
  have HC1 := Lib.hid hc1
  clear hc1 H
  cases a
  · cases qa : (xa == 0)
    · have HF := Lib.hid (show (((false || (xa == 0)) && (b || (xb == 0))) && (n || ((xn : Int) == 0)) && ((op == 32) || ((cn : Int) == 0))) = false by simp only [qa, Bool.true_or, Bool.false_or, Bool.or_true, Bool.or_false, Bool.true_and, Bool.false_and, Bool.and_true, Bool.and_false])
      go_enter Try.func60, Try.ntmps60
      go_wp2_with fail
      refine (need_bad h _ H7.out).mono ?_
      rintro e w3 ⟨rfl, rfl⟩
      go_wp2_with fail
      exact ⟨rfl, PureC.of_bad HC1.out (by first | rfl | exact HF.out)⟩
    · cases b
      · cases qb : (xb == 0)
        · have HF := Lib.hid (show (((false || (xa == 0)) && (false || (xb == 0))) && (n || ((xn : Int) == 0)) && ((op == 32) || ((cn : Int) == 0))) = false by simp only [qa, qb, Bool.true_or, Bool.false_or, Bool.or_true, Bool.or_false, Bool.true_and, Bool.false_and, Bool.and_true, Bool.and_false])
          go_enter Try.func60, Try.ntmps60
          go_wp2_with fail
          refine (need_bad h _ H7.out).mono ?_
          rintro e w3 ⟨rfl, rfl⟩
          go_wp2_with fail
          exact ⟨rfl, PureC.of_bad HC1.out (by first | rfl | exact HF.out)⟩
        · cases n
          · cases qn : ((xn : Int) == 0)
            · have HF := Lib.hid (show (((false || (xa == 0)) && (false || (xb == 0))) && (false || ((xn : Int) == 0)) && ((op == 32) || ((cn : Int) == 0))) = false by simp only [qa, qb, qn, Bool.true_or, Bool.false_or, Bool.or_true, Bool.or_false, Bool.true_and, Bool.false_and, Bool.and_true, Bool.and_false])
              go_enter Try.func60, Try.ntmps60
              go_wp2_with fail
              refine (need_bad h _ H7.out).mono ?_
              rintro e w3 ⟨rfl, rfl⟩
              go_wp2_with fail
              exact ⟨rfl, PureC.of_bad HC1.out (by first | rfl | exact HF.out)⟩
            · cases qo : (op == 32)
              · cases qc : ((cn : Int) == 0)
                · have HF := Lib.hid (show (((false || (xa == 0)) && (false || (xb == 0))) && (false || ((xn : Int) == 0)) && ((op == 32) || ((cn : Int) == 0))) = false by simp only [qa, qb, qn, qo, qc, Bool.true_or, Bool.false_or, Bool.or_true, Bool.or_false, Bool.true_and, Bool.false_and, Bool.and_true, Bool.and_false])
                  go_enter Try.func60, Try.ntmps60
                  go_wp2_with fail
                  refine (need_bad h _ H7.out).mono ?_
                  rintro e w3 ⟨rfl, rfl⟩
                  go_wp2_with fail
                  exact ⟨rfl, PureC.of_bad HC1.out (by first | rfl | exact HF.out)⟩
                · have HF := Lib.hid (show (((false || (xa == 0)) && (false || (xb == 0))) && (false || ((xn : Int) == 0)) && ((op == 32) || ((cn : Int) == 0))) = true by simp only [qa, qb, qn, qo, qc, Bool.true_or, Bool.false_or, Bool.or_true, Bool.or_false, Bool.true_and, Bool.false_and, Bool.and_true, Bool.and_false])
                  go_enter Try.func60, Try.ntmps60
                  go_wp2_with fail
                  refine (need_ok h _).mono ?_
                  rintro e w3 ⟨rfl, rfl⟩
                  go_wp2_with fail
                  go_end0
                  exact PureC.of_ok HC1.out (by first | rfl | exact HF.out)
              · have HF := Lib.hid (show (((false || (xa == 0)) && (false || (xb == 0))) && (false || ((xn : Int) == 0)) && ((op == 32) || ((cn : Int) == 0))) = true by simp only [qa, qb, qn, qo, Bool.true_or, Bool.false_or, Bool.or_true, Bool.or_false, Bool.true_and, Bool.false_and, Bool.and_true, Bool.and_false])
                go_enter Try.func60, Try.ntmps60
                go_wp2_with fail
                refine (need_ok h _).mono ?_
                rintro e w3 ⟨rfl, rfl⟩
                go_wp2_with fail
                go_end0
                exact PureC.of_ok HC1.out (by first | rfl | exact HF.out)
          · cases qo : (op == 32)
            · cases qc : ((cn : Int) == 0)
              · have HF := Lib.hid (show (((false || (xa == 0)) && (false || (xb == 0))) && (true || ((xn : Int) == 0)) && ((op == 32) || ((cn : Int) == 0))) = false by simp only [qa, qb, qo, qc, Bool.true_or, Bool.false_or, Bool.or_true, Bool.or_false, Bool.true_and, Bool.false_and, Bool.and_true, Bool.and_false])
                go_enter Try.func60, Try.ntmps60
                go_wp2_with fail
                refine (need_bad h _ H7.out).mono ?_
                rintro e w3 ⟨rfl, rfl⟩
                go_wp2_with fail
                exact ⟨rfl, PureC.of_bad HC1.out (by first | rfl | exact HF.out)⟩
              · have HF := Lib.hid (show (((false || (xa == 0)) && (false || (xb == 0))) && (true || ((xn : Int) == 0)) && ((op == 32) || ((cn : Int) == 0))) = true by simp only [qa, qb, qo, qc, Bool.true_or, Bool.false_or, Bool.or_true, Bool.or_false, Bool.true_and, Bool.false_and, Bool.and_true, Bool.and_false])
                go_enter Try.func60, Try.ntmps60
                go_wp2_with fail
                refine (need_ok h _).mono ?_
                rintro e w3 ⟨rfl, rfl⟩
                go_wp2_with fail
                go_end0
                exact PureC.of_ok HC1.out (by first | rfl | exact HF.out)
            · have HF := Lib.hid (show (((false || (xa == 0)) && (false || (xb == 0))) && (true || ((xn : Int) == 0)) && ((op == 32) || ((cn : Int) == 0))) = true by simp only [qa, qb, qo, Bool.true_or, Bool.false_or, Bool.or_true, Bool.or_false, Bool.true_and, Bool.false_and, Bool.and_true, Bool.and_false])
              go_enter Try.func60, Try.ntmps60
              go_wp2_with fail
              refine (need_ok h _).mono ?_
              rintro e w3 ⟨rfl, rfl⟩
              go_wp2_with fail
              go_end0
              exact PureC.of_ok HC1.out (by first | rfl | exact HF.out)
      · cases n
        · cases qn : ((xn : Int) == 0)
          · have HF := Lib.hid (show (((false || (xa == 0)) && (true || (xb == 0))) && (false || ((xn : Int) == 0)) && ((op == 32) || ((cn : Int) == 0))) = false by simp only [qa, qn, Bool.true_or, Bool.false_or, Bool.or_true, Bool.or_false, Bool.true_and, Bool.false_and, Bool.and_true, Bool.and_false])
            go_enter Try.func60, Try.ntmps60
            go_wp2_with fail
            refine (need_bad h _ H7.out).mono ?_
            rintro e w3 ⟨rfl, rfl⟩
            go_wp2_with fail
            exact ⟨rfl, PureC.of_bad HC1.out (by first | rfl | exact HF.out)⟩
          · cases qo : (op == 32)
            · cases qc : ((cn : Int) == 0)
              · have HF := Lib.hid (show (((false || (xa == 0)) && (true || (xb == 0))) && (false || ((xn : Int) == 0)) && ((op == 32) || ((cn : Int) == 0))) = false by simp only [qa, qn, qo, qc, Bool.true_or, Bool.false_or, Bool.or_true, Bool.or_false, Bool.true_and, Bool.false_and, Bool.and_true, Bool.and_false])
                go_enter Try.func60, Try.ntmps60
                go_wp2_with fail
                refine (need_bad h _ H7.out).mono ?_
                rintro e w3 ⟨rfl, rfl⟩
                go_wp2_with fail
                exact ⟨rfl, PureC.of_bad HC1.out (by first | rfl | exact HF.out)⟩
              · have HF := Lib.hid (show (((false || (xa == 0)) && (true || (xb == 0))) && (false || ((xn : Int) == 0)) && ((op == 32) || ((cn : Int) == 0))) = true by simp only [qa, qn, qo, qc, Bool.true_or, Bool.false_or, Bool.or_true, Bool.or_false, Bool.true_and, Bool.false_and, Bool.and_true, Bool.and_false])
                go_enter Try.func60, Try.ntmps60
                go_wp2_with fail
                refine (need_ok h _).mono ?_
                rintro e w3 ⟨rfl, rfl⟩
                go_wp2_with fail
                go_end0
                exact PureC.of_ok HC1.out (by first | rfl | exact HF.out)
            · have HF := Lib.hid (show (((false || (xa == 0)) && (true || (xb == 0))) && (false || ((xn : Int) == 0)) && ((op == 32) || ((cn : Int) == 0))) = true by simp only [qa, qn, qo, Bool.true_or, Bool.false_or, Bool.or_true, Bool.or_false, Bool.true_and, Bool.false_and, Bool.and_true, Bool.and_false])
              go_enter Try.func60, Try.ntmps60
              go_wp2_with fail
              refine (need_ok h _).mono ?_
              rintro e w3 ⟨rfl, rfl⟩
              go_wp2_with fail
              go_end0
              exact PureC.of_ok HC1.out (by first | rfl | exact HF.out)
        · cases qo : (op == 32)
          · cases qc : ((cn : Int) == 0)
            · have HF := Lib.hid (show (((false || (xa == 0)) && (true || (xb == 0))) && (true || ((xn : Int) == 0)) && ((op == 32) || ((cn : Int) == 0))) = false by simp only [qa, qo, qc, Bool.true_or, Bool.false_or, Bool.or_true, Bool.or_false, Bool.true_and, Bool.false_and, Bool.and_true, Bool.and_false])
              go_enter Try.func60, Try.ntmps60
              go_wp2_with fail
              refine (need_bad h _ H7.out).mono ?_
              rintro e w3 ⟨rfl, rfl⟩
              go_wp2_with fail
              exact ⟨rfl, PureC.of_bad HC1.out (by first | rfl | exact HF.out)⟩
            · have HF := Lib.hid (show (((false || (xa == 0)) && (true || (xb == 0))) && (true || ((xn : Int) == 0)) && ((op == 32) || ((cn : Int) == 0))) = true by simp only [qa, qo, qc, Bool.true_or, Bool.false_or, Bool.or_true, Bool.or_false, Bool.true_and, Bool.false_and, Bool.and_true, Bool.and_false])
              go_enter Try.func60, Try.ntmps60
              go_wp2_with fail
              refine (need_ok h _).mono ?_
              rintro e w3 ⟨rfl, rfl⟩
              go_wp2_with fail
              go_end0
              exact PureC.of_ok HC1.out (by first | rfl | exact HF.out)
          · have HF := Lib.hid (show (((false || (xa == 0)) && (true || (xb == 0))) && (true || ((xn : Int) == 0)) && ((op == 32) || ((cn : Int) == 0))) = true by simp only [qa, qo, Bool.true_or, Bool.false_or, Bool.or_true, Bool.or_false, Bool.true_and, Bool.false_and, Bool.and_true, Bool.and_false])
            go_enter Try.func60, Try.ntmps60
            go_wp2_with fail
            refine (need_ok h _).mono ?_
            rintro e w3 ⟨rfl, rfl⟩
            go_wp2_with fail
            go_end0
            exact PureC.of_ok HC1.out (by first | rfl | exact HF.out)
  · cases b
    · cases qb : (xb == 0)
      · have HF := Lib.hid (show (((true || (xa == 0)) && (false || (xb == 0))) && (n || ((xn : Int) == 0)) && ((op == 32) || ((cn : Int) == 0))) = false by simp only [qb, Bool.true_or, Bool.false_or, Bool.or_true, Bool.or_false, Bool.true_and, Bool.false_and, Bool.and_true, Bool.and_false])
        go_enter Try.func60, Try.ntmps60
        go_wp2_with fail
        refine (need_bad h _ H7.out).mono ?_
        rintro e w3 ⟨rfl, rfl⟩
        go_wp2_with fail
        exact ⟨rfl, PureC.of_bad HC1.out (by first | rfl | exact HF.out)⟩
      · cases n
        · cases qn : ((xn : Int) == 0)
          · have HF := Lib.hid (show (((true || (xa == 0)) && (false || (xb == 0))) && (false || ((xn : Int) == 0)) && ((op == 32) || ((cn : Int) == 0))) = false by simp only [qb, qn, Bool.true_or, Bool.false_or, Bool.or_true, Bool.or_false, Bool.true_and, Bool.false_and, Bool.and_true, Bool.and_false])
            go_enter Try.func60, Try.ntmps60
            go_wp2_with fail
            refine (need_bad h _ H7.out).mono ?_
            rintro e w3 ⟨rfl, rfl⟩
            go_wp2_with fail
            exact ⟨rfl, PureC.of_bad HC1.out (by first | rfl | exact HF.out)⟩
          · cases qo : (op == 32)
            · cases qc : ((cn : Int) == 0)
              · have HF := Lib.hid (show (((true || (xa == 0)) && (false || (xb == 0))) && (false || ((xn : Int) == 0)) && ((op == 32) || ((cn : Int) == 0))) = false by simp only [qb, qn, qo, qc, Bool.true_or, Bool.false_or, Bool.or_true, Bool.or_false, Bool.true_and, Bool.false_and, Bool.and_true, Bool.and_false])
                go_enter Try.func60, Try.ntmps60
                go_wp2_with fail
                refine (need_bad h _ H7.out).mono ?_
                rintro e w3 ⟨rfl, rfl⟩
                go_wp2_with fail
                exact ⟨rfl, PureC.of_bad HC1.out (by first | rfl | exact HF.out)⟩
              · have HF := Lib.hid (show (((true || (xa == 0)) && (false || (xb == 0))) && (false || ((xn : Int) == 0)) && ((op == 32) || ((cn : Int) == 0))) = true by simp only [qb, qn, qo, qc, Bool.true_or, Bool.false_or, Bool.or_true, Bool.or_false, Bool.true_and, Bool.false_and, Bool.and_true, Bool.and_false])
                go_enter Try.func60, Try.ntmps60
                go_wp2_with fail
                refine (need_ok h _).mono ?_
                rintro e w3 ⟨rfl, rfl⟩
                go_wp2_with fail
                go_end0
                exact PureC.of_ok HC1.out (by first | rfl | exact HF.out)
            · have HF := Lib.hid (show (((true || (xa == 0)) && (false || (xb == 0))) && (false || ((xn : Int) == 0)) && ((op == 32) || ((cn : Int) == 0))) = true by simp only [qb, qn, qo, Bool.true_or, Bool.false_or, Bool.or_true, Bool.or_false, Bool.true_and, Bool.false_and, Bool.and_true, Bool.and_false])
              go_enter Try.func60, Try.ntmps60
              go_wp2_with fail
              refine (need_ok h _).mono ?_
              rintro e w3 ⟨rfl, rfl⟩
              go_wp2_with fail
              go_end0
              exact PureC.of_ok HC1.out (by first | rfl | exact HF.out)
        · cases qo : (op == 32)
          · cases qc : ((cn : Int) == 0)
            · have HF := Lib.hid (show (((true || (xa == 0)) && (false || (xb == 0))) && (true || ((xn : Int) == 0)) && ((op == 32) || ((cn : Int) == 0))) = false by simp only [qb, qo, qc, Bool.true_or, Bool.false_or, Bool.or_true, Bool.or_false, Bool.true_and, Bool.false_and, Bool.and_true, Bool.and_false])
              go_enter Try.func60, Try.ntmps60
              go_wp2_with fail
              refine (need_bad h _ H7.out).mono ?_
              rintro e w3 ⟨rfl, rfl⟩
              go_wp2_with fail
              exact ⟨rfl, PureC.of_bad HC1.out (by first | rfl | exact HF.out)⟩
            · have HF := Lib.hid (show (((true || (xa == 0)) && (false || (xb == 0))) && (true || ((xn : Int) == 0)) && ((op == 32) || ((cn : Int) == 0))) = true by simp only [qb, qo, qc, Bool.true_or, Bool.false_or, Bool.or_true, Bool.or_false, Bool.true_and, Bool.false_and, Bool.and_true, Bool.and_false])
              go_enter Try.func60, Try.ntmps60
              go_wp2_with fail
              refine (need_ok h _).mono ?_
              rintro e w3 ⟨rfl, rfl⟩
              go_wp2_with fail
              go_end0
              exact PureC.of_ok HC1.out (by first | rfl | exact HF.out)
          · have HF := Lib.hid (show (((true || (xa == 0)) && (false || (xb == 0))) && (true || ((xn : Int) == 0)) && ((op == 32) || ((cn : Int) == 0))) = true by simp only [qb, qo, Bool.true_or, Bool.false_or, Bool.or_true, Bool.or_false, Bool.true_and, Bool.false_and, Bool.and_true, Bool.and_false])
            go_enter Try.func60, Try.ntmps60
            go_wp2_with fail
            refine (need_ok h _).mono ?_
            rintro e w3 ⟨rfl, rfl⟩
            go_wp2_with fail
            go_end0
            exact PureC.of_ok HC1.out (by first | rfl | exact HF.out)
    · cases n
      · cases qn : ((xn : Int) == 0)
        · have HF := Lib.hid (show (((true || (xa == 0)) && (true || (xb == 0))) && (false || ((xn : Int) == 0)) && ((op == 32) || ((cn : Int) == 0))) = false by simp only [qn, Bool.true_or, Bool.false_or, Bool.or_true, Bool.or_false, Bool.true_and, Bool.false_and, Bool.and_true, Bool.and_false])
          go_enter Try.func60, Try.ntmps60
          go_wp2_with fail
          refine (need_bad h _ H7.out).mono ?_
          rintro e w3 ⟨rfl, rfl⟩
          go_wp2_with fail
          exact ⟨rfl, PureC.of_bad HC1.out (by first | rfl | exact HF.out)⟩
        · cases qo : (op == 32)
          · cases qc : ((cn : Int) == 0)
            · have HF := Lib.hid (show (((true || (xa == 0)) && (true || (xb == 0))) && (false || ((xn : Int) == 0)) && ((op == 32) || ((cn : Int) == 0))) = false by simp only [qn, qo, qc, Bool.true_or, Bool.false_or, Bool.or_true, Bool.or_false, Bool.true_and, Bool.false_and, Bool.and_true, Bool.and_false])
              go_enter Try.func60, Try.ntmps60
              go_wp2_with fail
              refine (need_bad h _ H7.out).mono ?_
              rintro e w3 ⟨rfl, rfl⟩
              go_wp2_with fail
              exact ⟨rfl, PureC.of_bad HC1.out (by first | rfl | exact HF.out)⟩
            · have HF := Lib.hid (show (((true || (xa == 0)) && (true || (xb == 0))) && (false || ((xn : Int) == 0)) && ((op == 32) || ((cn : Int) == 0))) = true by simp only [qn, qo, qc, Bool.true_or, Bool.false_or, Bool.or_true, Bool.or_false, Bool.true_and, Bool.false_and, Bool.and_true, Bool.and_false])
              go_enter Try.func60, Try.ntmps60
              go_wp2_with fail
              refine (need_ok h _).mono ?_
              rintro e w3 ⟨rfl, rfl⟩
              go_wp2_with fail
              go_end0
              exact PureC.of_ok HC1.out (by first | rfl | exact HF.out)
          · have HF := Lib.hid (show (((true || (xa == 0)) && (true || (xb == 0))) && (false || ((xn : Int) == 0)) && ((op == 32) || ((cn : Int) == 0))) = true by simp only [qn, qo, Bool.true_or, Bool.false_or, Bool.or_true, Bool.or_false, Bool.true_and, Bool.false_and, Bool.and_true, Bool.and_false])
            go_enter Try.func60, Try.ntmps60
            go_wp2_with fail
            refine (need_ok h _).mono ?_
            rintro e w3 ⟨rfl, rfl⟩
            go_wp2_with fail
            go_end0
            exact PureC.of_ok HC1.out (by first | rfl | exact HF.out)
      · cases qo : (op == 32)
        · cases qc : ((cn : Int) == 0)
          · have HF := Lib.hid (show (((true || (xa == 0)) && (true || (xb == 0))) && (true || ((xn : Int) == 0)) && ((op == 32) || ((cn : Int) == 0))) = false by simp only [qo, qc, Bool.true_or, Bool.false_or, Bool.or_true, Bool.or_false, Bool.true_and, Bool.false_and, Bool.and_true, Bool.and_false])
            go_enter Try.func60, Try.ntmps60
            go_wp2_with fail
            refine (need_bad h _ H7.out).mono ?_
            rintro e w3 ⟨rfl, rfl⟩
            go_wp2_with fail
            exact ⟨rfl, PureC.of_bad HC1.out (by first | rfl | exact HF.out)⟩
          · have HF := Lib.hid (show (((true || (xa == 0)) && (true || (xb == 0))) && (true || ((xn : Int) == 0)) && ((op == 32) || ((cn : Int) == 0))) = true by simp only [qo, qc, Bool.true_or, Bool.false_or, Bool.or_true, Bool.or_false, Bool.true_and, Bool.false_and, Bool.and_true, Bool.and_false])
            go_enter Try.func60, Try.ntmps60
            go_wp2_with fail
            refine (need_ok h _).mono ?_
            rintro e w3 ⟨rfl, rfl⟩
            go_wp2_with fail
            go_end0
            exact PureC.of_ok HC1.out (by first | rfl | exact HF.out)
        · have HF := Lib.hid (show (((true || (xa == 0)) && (true || (xb == 0))) && (true || ((xn : Int) == 0)) && ((op == 32) || ((cn : Int) == 0))) = true by simp only [qo, Bool.true_or, Bool.false_or, Bool.or_true, Bool.or_false, Bool.true_and, Bool.false_and, Bool.and_true, Bool.and_false])
          go_enter Try.func60, Try.ntmps60
          go_wp2_with fail
          refine (need_ok h _).mono ?_
          rintro e w3 ⟨rfl, rfl⟩
          go_wp2_with fail
          go_end0
          exact PureC.of_ok HC1.out (by first | rfl | exact HF.out)
set_option maxRecDepth 100000 in
theorem last_any (w : World) (op : Int) : Calls Try.prog 57 #[.int .i64 op] w fun e w' => e = .returned (.bool (endsB op)) ∧ w' = w := by
  unfold endsB
  cases q1 : (op == 33)
  · cases q2 : (op == 35)
    · cases q3 : (op == 36)
      · go_enter Try.func57, Try.ntmps57
        go_wp2_with fail
        go_ret
        exact ⟨rfl, rfl⟩
      · go_enter Try.func57, Try.ntmps57
        go_wp2_with fail
        go_ret
        exact ⟨rfl, rfl⟩
    · go_enter Try.func57, Try.ntmps57
      go_wp2_with fail
      go_ret
      exact ⟨rfl, rfl⟩
  · go_enter Try.func57, Try.ntmps57
    go_wp2_with fail
    go_ret
    exact ⟨rfl, rfl⟩
end Go.Proofs.Ytdegfnejhamejaa
namespace Go.Proofs.Ytdegfnejhamejaa
open Go.RowKit
set_option linter.unusedVariables false
set_option linter.unusedSimpArgs false

theorem Chg.trans_size {M M' : Nat → Nat → Prop} {w w1 w2 : World} (h : Chg M w w1) (k : Chg M' w1 w2) : w.heap.size ≤ w2.heap.size := Nat.le_trans h.size k.size
theorem RowR.ownIn {α : Type} {base e size : Nat} {R : World → List Value → α → Prop} {w : World} {A : Option Addr} {c : Nat} {l : List α} (h : RowR base e size R w A c l) {b : Nat} (hb : OwnB A l.length c b) : base ≤ b ∧ b < w.heap.size := by
  obtain ⟨xss, h1, _⟩ := h
  obtain ⟨h2, cs, h3⟩ := own_blk h1 hb
  exact ⟨h2, h3.lt⟩
theorem ModH.far {h : Hd} {M : Nat → Nat → Prop} {w w' : World} (H : ModH h w) (hc : Chg M w w') (hl : LetsM M h.B) : ModH h w' :=
  ⟨H.types.keep hc hl, H.funcs.keep hc hl, H.locals.keep hc hl, H.caps.keep hc hl, H.code.keep hc hl, H.le, H.formed, H.func⟩
/-- A row of one's own, its last element taken away. -/
theorem RowR.pop {α : Type} {base e size : Nat} {R : World → List Value → α → Prop} {w : World} {A : Option Addr} {c : Nat} {l : List α} {x : α} (h : RowR base e size R w A c (l ++ [x])) : RowR base e size R w A c l := by
  obtain ⟨xss, ⟨h0, h1⟩, h2, h3, h4⟩ := h
  have hlen : (l ++ [x]).length = l.length + 1 := by simp
  rw [hlen] at h0 h1 h2
  obtain ⟨yss, y, rfl⟩ : ∃ yss y, xss = yss ++ [y] := by
    rcases List.eq_nil_or_concat xss with h | ⟨ys, y, h⟩
    · rw [h] at h2; simp at h2
    · exact ⟨ys, y, by simpa using h⟩
  have h2' : yss.length = l.length := by simpa using h2
  have hy : y.length = size := h3 y (by simp)
  have hf : (yss ++ [y]).flatten = yss.flatten ++ y := by simp
  rw [hf] at h0 h1
  have hyl : yss.flatten.length = l.length * size := by
    rw [List.length_append, hy, Nat.add_mul, Nat.one_mul] at h0
    omega
  refine ⟨yss, ⟨hyl, ?_⟩, h2', fun cs hcs => h3 cs (List.mem_append_left _ hcs), fun k z cs hz hcs => h4 k z cs ?_ ?_⟩
  · rcases h1 with ⟨_, h1⟩ | ⟨g, cap, cur, hv, hg, hb, hnc, hm, hs, ht⟩
    · exact absurd h1 (Nat.succ_ne_zero _)
    · injection hv with hA _ hc
      subst hA hc
      refine .inr ⟨g, c, cur, rfl, hg, hb, by omega, hm, hs, ?_⟩
      have := congrArg (List.take (l.length * size)) ht
      rw [List.take_take, Nat.min_eq_left (Nat.mul_le_mul_right _ (Nat.le_succ _)), List.take_left' hyl] at this
      exact this
  · rw [List.getElem?_append_left (List.getElem?_eq_some_iff.1 hz).1]; exact hz
  · rw [List.getElem?_append_left (List.getElem?_eq_some_iff.1 hcs).1]; exact hcs
theorem CkR.addS {h : Hd} {k : Nat} {w w2 : World} {s : VSt} {As : Option Addr} {cs : Nat} {At : Option Addr} {ct : Nat} {Al : Option Addr} {cl : Nat} {kn : Value} {A2 : Option Addr} {c2 : Nat} {x : Int} (H : CkR h (k + 1) w s As cs At ct Al cl kn)
    (hr : RowR h.base 3 1 IntV w2 A2 c2 (s.stack ++ [x])) (hc : Chg (fun b t => OwnB As s.stack.length cs b ∧ t = 3) w w2) (ho : ∀ b, OwnB A2 (s.stack.length + 1) c2 b → OwnB As s.stack.length cs b ∨ w.heap.size ≤ b) :
    CkR h k (w2.setCell ⟨h.p, 8, none⟩ (.slice A2 (s.stack.length + 1) c2)) { s with stack := s.stack ++ [x] } A2 c2 At ct Al cl kn ∧ Chg (MC h) w (w2.setCell ⟨h.p, 8, none⟩ (.slice A2 (s.stack.length + 1) c2)) := by
  have hln : (s.stack ++ [x]).length = s.stack.length + 1 := by simp
  have hbg : ∀ b, OwnB As s.stack.length cs b → h.base ≤ b ∧ b < w.heap.size := fun b hb => H.stack.ownIn hb
  have hb2 := hc.blk H.blk fun hh => absurd hh.2 (by decide)
  have hset := chg_set (j := 8) hb2 (.slice A2 (s.stack.length + 1) c2)
  have hB := H.mod.le
  have hp := H.place
  have hl1 : LetsM (fun b t => OwnB As s.stack.length cs b ∧ t = 3) h.B := fun b t hb hh => by have := (hbg b hh.1).1; omega
  have hl2 : LetsM (fun b t => b = h.p ∧ t = 74) h.B := fun b t hb hh => by have := hh.1; omega
  have hnew : ∀ b, OwnB A2 (s.stack.length + 1) c2 b → ¬ h.K b := fun b hb hK => (ho b hb).elim (fun h1 => H.ks b h1 hK) fun h1 => by have := H.low b hK; omega
  refine ⟨{
    blk := by have := hb2.set_ 8 (.slice A2 (s.stack.length + 1) c2); rw [hln]; simpa using this
    stack := hr.keep hset (fun _ _ hh => absurd hh.2 (by decide)) fun _ _ h => h
    taken := (H.taken.keep1 hc (fun b hb hh => H.dst b hh.1 hb) fun _ _ h => h).keep hset (fun _ _ hh => absurd hh.2 (by decide)) fun _ _ h => h
    left := (H.left.keep1 hc (fun b hb hh => H.dsl b hh.1 hb) fun _ _ h => h).keep hset (fun _ _ hh => absurd hh.2 (by decide)) fun _ _ h => h
    ks := fun b hb => hnew b (by rw [hln] at hb; exact hb)
    kt := H.kt
    kl := H.kl
    dst := fun b hb hh => (ho b (by rw [hln] at hb; exact hb)).elim (fun h1 => H.dst b h1 hh) fun h1 => by have := (H.taken.ownIn hh).2; omega
    dsl := fun b hb hh => (ho b (by rw [hln] at hb; exact hb)).elim (fun h1 => H.dsl b h1 hh) fun h1 => by have := (H.left.ownIn hh).2; omega
    dtl := H.dtl
    known := (H.known.far hc fun b _ _ hh => absurd hh.2 (by decide)).far hset fun b _ _ hh => absurd hh.2 (by decide)
    mod := (H.mod.far hc hl1).far hset hl2
    ps := by have := H.ps; rw [hln]; omega
    pt := by have := H.pt; simp only at this ⊢; omega
    plf := by have := H.plf; simp only at this ⊢; omega
    place := H.place
    low := fun b hb => Nat.lt_of_lt_of_le (H.low b hb) (hc.trans_size hset)
    bw := Nat.le_trans H.bw (hc.trans_size hset) }, ?_⟩
  exact (hc.mono fun b t _ hh => ⟨(hbg b hh.1).1, H.ks b hh.1⟩ : Chg (MC h) w w2).trans (hset.mono fun b t _ hh => by rw [hh.1]; exact hp)
theorem CkR.addT {h : Hd} {k : Nat} {w w2 : World} {s : VSt} {As : Option Addr} {cs : Nat} {At : Option Addr} {ct : Nat} {Al : Option Addr} {cl : Nat} {kn : Value} {A2 : Option Addr} {c2 : Nat} {x : Int} (H : CkR h (k + 1) w s As cs At ct Al cl kn)
    (hr : RowR h.base 3 1 IntV w2 A2 c2 (s.taken ++ [x])) (hc : Chg (fun b t => OwnB At s.taken.length ct b ∧ t = 3) w w2) (ho : ∀ b, OwnB A2 (s.taken.length + 1) c2 b → OwnB At s.taken.length ct b ∨ w.heap.size ≤ b) :
    CkR h k (w2.setCell ⟨h.p, 9, none⟩ (.slice A2 (s.taken.length + 1) c2)) { s with taken := s.taken ++ [x] } As cs A2 c2 Al cl kn ∧ Chg (MC h) w (w2.setCell ⟨h.p, 9, none⟩ (.slice A2 (s.taken.length + 1) c2)) := by
  have hln : (s.taken ++ [x]).length = s.taken.length + 1 := by simp
  have hbg : ∀ b, OwnB At s.taken.length ct b → h.base ≤ b ∧ b < w.heap.size := fun b hb => H.taken.ownIn hb
  have hb2 := hc.blk H.blk fun hh => absurd hh.2 (by decide)
  have hset := chg_set (j := 9) hb2 (.slice A2 (s.taken.length + 1) c2)
  have hB := H.mod.le
  have hp := H.place
  have hl1 : LetsM (fun b t => OwnB At s.taken.length ct b ∧ t = 3) h.B := fun b t hb hh => by have := (hbg b hh.1).1; omega
  have hl2 : LetsM (fun b t => b = h.p ∧ t = 74) h.B := fun b t hb hh => by have := hh.1; omega
  have hnew : ∀ b, OwnB A2 (s.taken.length + 1) c2 b → ¬ h.K b := fun b hb hK => (ho b hb).elim (fun h1 => H.kt b h1 hK) fun h1 => by have := H.low b hK; omega
  refine ⟨{
    blk := by have := hb2.set_ 9 (.slice A2 (s.taken.length + 1) c2); rw [hln]; simpa using this
    stack := (H.stack.keep1 hc (fun b hb hh => H.dst b hb hh.1) fun _ _ h => h).keep hset (fun _ _ hh => absurd hh.2 (by decide)) fun _ _ h => h
    taken := hr.keep hset (fun _ _ hh => absurd hh.2 (by decide)) fun _ _ h => h
    left := (H.left.keep1 hc (fun b hb hh => H.dtl b hh.1 hb) fun _ _ h => h).keep hset (fun _ _ hh => absurd hh.2 (by decide)) fun _ _ h => h
    ks := H.ks
    kt := fun b hb => hnew b (by rw [hln] at hb; exact hb)
    kl := H.kl
    dst := fun b hb hh => (ho b (by rw [hln] at hh; exact hh)).elim (fun h1 => H.dst b hb h1) fun h1 => by have := (H.stack.ownIn hb).2; omega
    dsl := H.dsl
    dtl := fun b hb hh => (ho b (by rw [hln] at hb; exact hb)).elim (fun h1 => H.dtl b h1 hh) fun h1 => by have := (H.left.ownIn hh).2; omega
    known := (H.known.far hc fun b _ _ hh => absurd hh.2 (by decide)).far hset fun b _ _ hh => absurd hh.2 (by decide)
    mod := (H.mod.far hc hl1).far hset hl2
    ps := by have := H.ps; simp only at this ⊢; omega
    pt := by have := H.pt; rw [hln]; omega
    plf := by have := H.plf; simp only at this ⊢; omega
    place := H.place
    low := fun b hb => Nat.lt_of_lt_of_le (H.low b hb) (hc.trans_size hset)
    bw := Nat.le_trans H.bw (hc.trans_size hset) }, ?_⟩
  exact (hc.mono fun b t _ hh => ⟨(hbg b hh.1).1, H.kt b hh.1⟩ : Chg (MC h) w w2).trans (hset.mono fun b t _ hh => by rw [hh.1]; exact hp)
theorem CkR.addL {h : Hd} {k : Nat} {w w2 : World} {s : VSt} {As : Option Addr} {cs : Nat} {At : Option Addr} {ct : Nat} {Al : Option Addr} {cl : Nat} {kn : Value} {A2 : Option Addr} {c2 : Nat} {x : Int} (H : CkR h (k + 1) w s As cs At ct Al cl kn)
    (hr : RowR h.base 3 1 IntV w2 A2 c2 (s.left ++ [x])) (hc : Chg (fun b t => OwnB Al s.left.length cl b ∧ t = 3) w w2) (ho : ∀ b, OwnB A2 (s.left.length + 1) c2 b → OwnB Al s.left.length cl b ∨ w.heap.size ≤ b) :
    CkR h k (w2.setCell ⟨h.p, 10, none⟩ (.slice A2 (s.left.length + 1) c2)) { s with left := s.left ++ [x] } As cs At ct A2 c2 kn ∧ Chg (MC h) w (w2.setCell ⟨h.p, 10, none⟩ (.slice A2 (s.left.length + 1) c2)) := by
  have hln : (s.left ++ [x]).length = s.left.length + 1 := by simp
  have hbg : ∀ b, OwnB Al s.left.length cl b → h.base ≤ b ∧ b < w.heap.size := fun b hb => H.left.ownIn hb
  have hb2 := hc.blk H.blk fun hh => absurd hh.2 (by decide)
  have hset := chg_set (j := 10) hb2 (.slice A2 (s.left.length + 1) c2)
  have hB := H.mod.le
  have hp := H.place
  have hl1 : LetsM (fun b t => OwnB Al s.left.length cl b ∧ t = 3) h.B := fun b t hb hh => by have := (hbg b hh.1).1; omega
  have hl2 : LetsM (fun b t => b = h.p ∧ t = 74) h.B := fun b t hb hh => by have := hh.1; omega
  have hnew : ∀ b, OwnB A2 (s.left.length + 1) c2 b → ¬ h.K b := fun b hb hK => (ho b hb).elim (fun h1 => H.kl b h1 hK) fun h1 => by have := H.low b hK; omega
  refine ⟨{
    blk := by have := hb2.set_ 10 (.slice A2 (s.left.length + 1) c2); rw [hln]; simpa using this
    stack := (H.stack.keep1 hc (fun b hb hh => H.dsl b hb hh.1) fun _ _ h => h).keep hset (fun _ _ hh => absurd hh.2 (by decide)) fun _ _ h => h
    taken := (H.taken.keep1 hc (fun b hb hh => H.dtl b hb hh.1) fun _ _ h => h).keep hset (fun _ _ hh => absurd hh.2 (by decide)) fun _ _ h => h
    left := hr.keep hset (fun _ _ hh => absurd hh.2 (by decide)) fun _ _ h => h
    ks := H.ks
    kt := H.kt
    kl := fun b hb => hnew b (by rw [hln] at hb; exact hb)
    dst := H.dst
    dsl := fun b hb hh => (ho b (by rw [hln] at hh; exact hh)).elim (fun h1 => H.dsl b hb h1) fun h1 => by have := (H.stack.ownIn hb).2; omega
    dtl := fun b hb hh => (ho b (by rw [hln] at hh; exact hh)).elim (fun h1 => H.dtl b hb h1) fun h1 => by have := (H.taken.ownIn hb).2; omega
    known := (H.known.far hc fun b _ _ hh => absurd hh.2 (by decide)).far hset fun b _ _ hh => absurd hh.2 (by decide)
    mod := (H.mod.far hc hl1).far hset hl2
    ps := by have := H.ps; simp only at this ⊢; omega
    pt := by have := H.pt; simp only at this ⊢; omega
    plf := by have := H.plf; rw [hln]; omega
    place := H.place
    low := fun b hb => Nat.lt_of_lt_of_le (H.low b hb) (hc.trans_size hset)
    bw := Nat.le_trans H.bw (hc.trans_size hset) }, ?_⟩
  exact (hc.mono fun b t _ hh => ⟨(hbg b hh.1).1, H.kl b hh.1⟩ : Chg (MC h) w w2).trans (hset.mono fun b t _ hh => by rw [hh.1]; exact hp)
theorem own_cut {A : Option Addr} {n n' c b : Nat} (h : OwnB A n c b) : OwnB A n' c b := by cases A <;> simp_all [OwnB, Value.ownBlock]
/-- The stack is cut by one. -/
theorem CkR.cut {h : Hd} {k : Nat} {w : World} {s : VSt} {l : List Int} {t : Int} {As : Option Addr} {cs : Nat} {At : Option Addr} {ct : Nat} {Al : Option Addr} {cl : Nat} {kn : Value} (H : CkR h k w s As cs At ct Al cl kn) (hl : s.stack = l ++ [t]) :
    CkR h k (w.setCell ⟨h.p, 8, none⟩ (.slice As l.length cs)) { s with stack := l } As cs At ct Al cl kn ∧ Chg (fun b t => b = h.p ∧ t = 74) w (w.setCell ⟨h.p, 8, none⟩ (.slice As l.length cs)) := by
  have hset := chg_set (j := 8) H.blk (.slice As l.length cs)
  have hB := H.mod.le
  have hp := H.place
  have hl2 : LetsM (fun b t => b = h.p ∧ t = 74) h.B := fun b t hb hh => by have := hh.1; omega
  have hst := H.stack
  rw [hl] at hst
  have hps := H.ps
  rw [hl, List.length_append] at hps
  exact ⟨{
    blk := by have := H.blk.set_ 8 (.slice As l.length cs); simpa using this
    stack := hst.pop.keep hset (fun _ _ hh => absurd hh.2 (by decide)) fun _ _ h => h
    taken := H.taken.keep hset (fun _ _ hh => absurd hh.2 (by decide)) fun _ _ h => h
    left := H.left.keep hset (fun _ _ hh => absurd hh.2 (by decide)) fun _ _ h => h
    ks := fun b hb => H.ks b (own_cut hb), kt := H.kt, kl := H.kl, dst := fun b hb => H.dst b (own_cut hb), dsl := fun b hb => H.dsl b (own_cut hb), dtl := H.dtl
    known := H.known.far hset fun b _ _ hh => absurd hh.2 (by decide)
    mod := H.mod.far hset hl2
    ps := by rw [List.length_singleton] at hps; show l.length + k ≤ 100000; omega
    pt := H.pt, plf := H.plf, place := H.place
    low := fun b hb => Nat.lt_of_lt_of_le (H.low b hb) hset.size
    bw := Nat.le_trans H.bw hset.size }, hset⟩
theorem popN_nil {s : VSt} (h : s.stack = []) : popN s = none := by simp [popN, h]
theorem popN_snoc {s : VSt} {l : List Int} {t : Int} (h : s.stack = l ++ [t]) : popN s = some (t, { stack := l, taken := s.taken ++ [t], left := s.left }) := by simp [popN, h]
set_option maxRecDepth 100000 in
set_option maxHeartbeats 2000000 in
theorem pop_any (h : Hd) (k : Nat) (w : World) (s : VSt) (H : CkI h (k + 1) w s) : Calls Try.prog 66 #[.pointer (some ⟨h.p, 0, none⟩)] w (OutI h k w (popN s)) := by
  obtain ⟨i0, hi0, hz0, hs0, hb0⟩ := info_parts infoInt
  have HX := Lib.hid H.fix
  obtain ⟨As, cs, At, ct, Al, cl, kn, H⟩ := H
  have d8 : w.cell? ⟨h.p, 8, none⟩ = some (.slice As s.stack.length cs) := by simpa using H.blk.cell 8
  have f8 := H.blk.frozen 8
  rcases List.eq_nil_or_concat s.stack with hn | ⟨l, t, hl⟩
  · rw [hn] at d8
    have HO := Lib.hid (popN_nil hn)
    have q0 : IntKind.i64.wrap ((0 : Int) - 1) = -1 := by decide
    have q1 : IntKind.i64.wrap (((0 : Nat) : Int) - 1) = -1 := by decide
    clear H hn
    simp only [List.length_nil] at d8
    go_enter Try.func66, Try.ntmps66
    go_wp2_with fail
    refine (need_bad h w HX.out.d7).mono ?_
    rintro e w2 ⟨rfl, rfl⟩
    go_wp2_with fail
    exact ⟨rfl, OutI.bad (Chg.refl _ _) HO.out⟩
  · rw [List.concat_eq_append] at hl
    have HO := Lib.hid (popN_snoc hl)
    obtain ⟨H1, hc1⟩ := H.cut hl
    have hlen : s.stack.length = l.length + 1 := by rw [hl]; simp
    rw [hlen] at d8
    have hsl := H.stack.slr (by decide) 0
    rw [hl, List.length_append, List.length_singleton] at hsl
    obtain ⟨gb, go, y, cy, hA, hy, _, ⟨hcy, hI⟩, hcell⟩ := SlR.at2 hsl (show l.length < (l ++ [t]).length by simp)
    obtain rfl : t = y := by simpa using hy
    subst hA
    subst hcy
    have z0 : w.cell? ⟨gb, go + l.length, none⟩ = some (.int .i64 t) := by simpa using hcell 0 _ rfl
    have hcap : l.length + 1 ≤ cs := (SlR.len hsl).2
    have hps := H.ps
    rw [hlen] at hps
    have q1 : IntKind.i64.wrap (((l.length + 1 : Nat) : Int) - 1) = (l.length : Int) := by rw [show (((l.length + 1 : Nat) : Int) - 1) = (l.length : Int) by omega]; exact IntWalk.i64_in _ ⟨by omega, by omega⟩
    have q2 : IntKind.i64.wrap ((l.length : Int) + 1 - 1) = (l.length : Int) := by rw [show ((l.length : Int) + 1 - 1) = (l.length : Int) by omega]; exact IntWalk.i64_in _ ⟨by omega, by omega⟩
    have q3 : IntKind.i64.wrap (l.length : Int) = (l.length : Int) := IntWalk.i64_in _ ⟨by omega, by omega⟩
    have q4 : (l.length : Int) < ((l.length + 1 : Nat) : Int) := by omega
    have q5 : l.length ≤ cs := by omega
    have q6 : (l.length : Int) ≤ (cs : Int) := by omega
    have q7 : decide ((0 : Int) ≤ (l.length : Int)) = true := decide_eq_true (by omega)
    have d9 : (w.setCell ⟨h.p, 8, none⟩ (.slice (some ⟨gb, go, none⟩) l.length cs)).cell? ⟨h.p, 9, none⟩ = some (.slice At s.taken.length ct) := by simpa using H1.blk.cell 9
    have HZ := Lib.hid (And.intro H1 (And.intro hc1 (And.intro hI hlen)))
    clear H H1 hc1 hI hlen hsl hy hcell hcap hps hl
    go_enter Try.func66, Try.ntmps66
    go_wp2_with fail
    refine (need_ok h w).mono ?_
    rintro e w2 ⟨rfl, rfl⟩
    go_wp2_with (at_builtin; go_must (refine wpList_push1 rfl (.tmp 35) (.tmp 37) 31 rfl h.base 3 i0 _ 1 8 Try.underlying31 hi0 hz0 hs0 hb0 rfl (by omega) IntV At ct s.taken (n := s.taken.length) rfl (by first | rfl | simp) HZ.out.1.taken 1 [.int .i64 t] t (by first | rfl | simp) (by first | rfl | simp) rfl (by intro u hu; simp at hu; subst hu; rfl) ⟨rfl, HZ.out.2.2.1⟩ (by have : s.taken.length + (k + 1) ≤ 100000 := HZ.out.1.pt; omega) (by omega) HZ.out.1.bw (fun _ _ _ _ h => h) ?_))
    intro A2 c2 w3 k1 k2 k3
    obtain ⟨H3, hc3⟩ := CkR.addT HZ.out.1 k1 k2 (fun b hb => by have := k3 b hb; simpa using this)
    have hb3 := (k2.blk HZ.out.1.blk fun hh => absurd hh.2 (by decide))
    have f9 := hb3.frozen 9
    have e9 : w3.cell? ⟨h.p, 9, none⟩ = some (.slice At s.taken.length ct) := by simpa using hb3.cell 9
    have hcc : Chg (MC h) w2 (w3.setCell ⟨h.p, 9, none⟩ (.slice A2 (s.taken.length + 1) c2)) := (HZ.out.2.1.mono fun b t _ hh => by rw [hh.1]; exact HZ.out.1.place).trans hc3
    have HE := Lib.hid (And.intro H3 hcc)
    have HK := Lib.hid hb3
    clear H3 hc3 hb3 hcc k1 k2 k3
    go_wp2_with fail
    go_ret
    exact OutI.good HE.out.2 HO.out HZ.out.2.2.1 ⟨_, _, _, _, _, _, _, HE.out.1⟩
set_option maxRecDepth 100000 in
set_option maxHeartbeats 2000000 in
theorem push_any (h : Hd) (k : Nat) (w : World) (s : VSt) (t : Int) (ht : I64 t) (H : CkI h (k + 2) w s) : Calls Try.prog 64 #[.pointer (some ⟨h.p, 0, none⟩), .int .i64 t] w (OutU h k w (pushN t s) (.tuple #[])) := by
  obtain ⟨i0, hi0, hz0, hs0, hb0⟩ := info_parts infoInt
  obtain ⟨As, cs, At, ct, Al, cl, kn, H⟩ := H
  have d8 : w.cell? ⟨h.p, 8, none⟩ = some (.slice As s.stack.length cs) := by simpa using H.blk.cell 8
  have HH := Lib.hid (And.intro H ht)
  clear H ht
  go_enter Try.func64, Try.ntmps64
  go_wp2_with (at_builtin; go_must (refine wpList_push1 rfl (.tmp 8) (.tmp 10) 31 rfl h.base 3 i0 _ 1 8 Try.underlying31 hi0 hz0 hs0 hb0 rfl (by omega) IntV As cs s.stack (n := s.stack.length) rfl (by first | rfl | simp) HH.out.1.stack 1 [.int .i64 t] t (by first | rfl | simp) (by first | rfl | simp) rfl (by intro u hu; simp at hu; subst hu; rfl) ⟨rfl, HH.out.2⟩ (by have := HH.out.1.ps; omega) (by omega) HH.out.1.bw (fun _ _ _ _ h => h) ?_))
  intro A2 c2 w3 k1 k2 k3
  obtain ⟨H3, hc3⟩ := CkR.addS (k := k + 1) HH.out.1 k1 k2 k3
  have hb3 := (k2.blk HH.out.1.blk fun hh => absurd hh.2 (by decide))
  have f8 := hb3.frozen 8
  have e8 : w3.cell? ⟨h.p, 8, none⟩ = some (.slice As s.stack.length cs) := by simpa using hb3.cell 8
  have e10 : w3.cell? ⟨h.p, 10, none⟩ = some (.slice Al s.left.length cl) := by simpa using hb3.cell 10
  have HE := Lib.hid (And.intro H3 hc3)
  clear H3 hc3 hb3 k1 k2 k3 d8
  go_wp2_with (at_builtin; go_must (refine wpList_push1 rfl (.tmp 18) (.tmp 20) 31 rfl h.base 3 i0 _ 1 8 Try.underlying31 hi0 hz0 hs0 hb0 rfl (by omega) IntV Al cl s.left (n := s.left.length) rfl (by first | rfl | simp) HE.out.1.left 1 [.int .i64 t] t (by first | rfl | simp) (by first | rfl | simp) rfl (by intro u hu; simp at hu; subst hu; rfl) ⟨rfl, HH.out.2⟩ (by have := HH.out.1.plf; omega) (by omega) HE.out.1.bw (fun _ _ _ _ h => h) ?_))
  intro A4 c4 w4 k1 k2 k3
  obtain ⟨H4, hc4⟩ := CkR.addL HE.out.1 k1 k2 (fun b hb => by have := k3 b hb; simpa using this)
  have hb4 := (k2.blk HE.out.1.blk fun hh => absurd hh.2 (by decide))
  have f10 := hb4.frozen 10
  have g10 : w4.cell? ⟨h.p, 10, none⟩ = some (.slice Al s.left.length cl) := by simpa using hb4.cell 10
  have hst : (w4.setCell ⟨h.p, 10, none⟩ (.slice A4 (s.left.length + 1) c4)).cell? ⟨h.p, 8, none⟩ = some (.slice A2 (s.stack.length + 1) c2) := by have := H4.blk.cell 8; simpa using this
  have h7 := CkI.pos_at ⟨_, _, _, _, _, _, _, H4⟩
  have HF := Lib.hid (And.intro H4 (HE.out.2.trans hc4))
  clear H4 hc4 hb4 k1 k2 k3 e8 e10
  obtain ⟨n, hn⟩ : ∃ n, s.stack.length + 1 = n := ⟨_, rfl⟩
  rw [hn] at hst
  have hni : (s.stack.length : Int) + 1 = (n : Int) := by omega
  have HN := Lib.hid hni
  clear hn hni
  cases hq : decide ((n : Int) ≤ 64)
  · have HQ := Lib.hid hq
    go_wp2_with fail
    refine (need_bad h _ h7).mono ?_
    rintro e w5 ⟨rfl, rfl⟩
    go_wp2_with fail
    exact ⟨rfl, OutU.bad HF.out.2 (needN_bad (by rw [HN.out]; exact HQ.out))⟩
  · have HQ := Lib.hid hq
    go_wp2_with fail
    refine (need_ok h _).mono ?_
    rintro e w5 ⟨rfl, rfl⟩
    go_wp2_with fail
    go_end0
    exact OutU.good HF.out.2 (needN_ok (by rw [HN.out]; exact HQ.out)) ⟨_, _, _, _, _, _, _, HF.out.1⟩
set_option maxRecDepth 100000 in
theorem want_any (h : Hd) (k : Nat) (w : World) (s : VSt) (t : Int) (H : CkI h (k + 1) w s) : Calls Try.prog 67 #[.pointer (some ⟨h.p, 0, none⟩), .int .i64 t] w (OutU h k w (wantN t s) (.tuple #[])) := by
  go_enter Try.func67, Try.ntmps67
  go_wp2_with fail
  refine (pop_any h k w s H).mono fun e w1 hh => ?_
  clear H
  rcases hq : popN s with _ | ⟨u, s1⟩
  · obtain ⟨rfl, hc⟩ := hh.none_ hq
    have HQ := Lib.hid (And.intro hq hc)
    clear hh hq hc
    go_wp2_with fail
    exact ⟨rfl, OutU.bad HQ.out.2 (by simp only [wantN, HQ.out.1, Option.bind_none])⟩
  · obtain ⟨rfl, hu, hk, hc⟩ := hh.some_ hq
    have h7 := hk.pos_at
    have HQ := Lib.hid (And.intro hq (And.intro hk hc))
    clear hh hq hk hc
    cases hb : (u == t)
    · have HB := Lib.hid hb
      go_wp2_with fail
      refine (need_bad h _ h7).mono ?_
      rintro e w2 ⟨rfl, rfl⟩
      go_wp2_with fail
      exact ⟨rfl, OutU.bad HQ.out.2.2 (by simp only [wantN, HQ.out.1, Option.bind_some, needN_bad HB.out])⟩
    · have HB := Lib.hid hb
      go_wp2_with fail
      refine (need_ok h _).mono ?_
      rintro e w2 ⟨rfl, rfl⟩
      go_wp2_with fail
      go_end0
      exact OutU.good HQ.out.2.2 (by simp only [wantN, HQ.out.1, Option.bind_some, needN_ok HB.out]) HQ.out.2.1
set_option maxRecDepth 100000 in
theorem res_any (h : Hd) (k : Nat) (w : World) (s : VSt) (t : Int) (ht : 0 ≤ t ∧ t ≤ 100000) (H : CkI h (k + 2) w s) : Calls Try.prog 73 #[.pointer (some ⟨h.p, 0, none⟩), .int .i64 t] w (OutU h k w (resS t s) (.tuple #[])) := by
  have q1 : IntKind.i64.wrap (t - 1) = t - 1 := IntWalk.i64_in _ ⟨by omega, by omega⟩
  have hi : I64 (t - 1) := by unfold I64; omega
  cases hb : decide (0 < t)
  · have HB := Lib.hid (And.intro hb H)
    clear H
    go_enter Try.func73, Try.ntmps73
    go_wp2_with fail
    go_end0
    exact OutU.good (Chg.refl _ _) (by have := of_decide_eq_false HB.out.1; simp only [resS, if_neg this]) (HB.out.2.less (by omega))
  · have HB := Lib.hid (And.intro hb H)
    have hp := push_any h k w s (t - 1) hi H
    clear H
    go_enter Try.func73, Try.ntmps73
    go_wp2_with fail
    refine hp.mono fun e w1 hh => ?_
    have ho : resS t s = pushN (t - 1) s := by have := of_decide_eq_true HB.out.1; simp only [resS, if_pos this]
    rw [← ho] at hh
    rcases hq : resS t s with _ | s1
    · obtain ⟨rfl, hc⟩ := hh.none_ hq
      have HQ := Lib.hid (And.intro hq hc)
      clear hh hq hc ho
      go_wp2_with fail
      exact ⟨rfl, OutU.bad HQ.out.2 (by first | rfl | exact HQ.out.1)⟩
    · obtain ⟨rfl, hk, hc⟩ := hh.some_ hq
      have HQ := Lib.hid (And.intro hq (And.intro hk hc))
      clear hh hq hc ho hk
      go_wp2_with fail
      go_end0
      exact OutU.good HQ.out.2.2 (by first | rfl | exact HQ.out.1) HQ.out.2.1
end Go.Proofs.Ytdegfnejhamejaa
namespace Go.Proofs.Ytdegfnejhamejaa
open Go.RowKit
set_option linter.unusedVariables false
set_option linter.unusedSimpArgs false

/-- One block more that the calls do not touch. -/
def Hd.zone (h : Hd) (g : Nat) : Hd := { h with K := fun b => h.K b ∨ b = g }
section
variable {h : Hd} {k g : Nat} {w w' : World} {s : VSt}
theorem ModH.zone (H : ModH h w) : ModH (h.zone g) w := ⟨H.types, H.funcs, H.locals, H.caps, H.code, H.le, H.formed, H.func⟩
theorem ModH.unzone (H : ModH (h.zone g) w) : ModH h w := ⟨H.types, H.funcs, H.locals, H.caps, H.code, H.le, H.formed, H.func⟩
theorem CkF.unzone (H : CkF (h.zone g) w) : CkF h w := ⟨H.d0, H.d1, H.d2, H.d3, H.d4, H.d5, H.d6, H.d7, H.mod.unzone⟩
theorem KnF.zone {kn : Value} {f : Int → Option Value} (H : KnF h w kn f) (o : Obj) : KnF (h.zone w.heap.size) (w.alloc o) kn f := by
  rcases H with h1 | ⟨b, mm, h1, h2, h3, h4, h5⟩
  · exact .inl h1
  · exact .inr ⟨b, mm, h1, h2.keep (chg_alloc w o) id, h3, fun hh => hh.elim h4 fun e => by have := h2.lt; omega, h5⟩
theorem KnF.unzone {kn : Value} {f : Int → Option Value} (H : KnF (h.zone g) w kn f) : KnF h w kn f := by
  rcases H with h1 | ⟨b, mm, h1, h2, h3, h4, h5⟩
  · exact .inl h1
  · exact .inr ⟨b, mm, h1, h2, h3, fun hh => h4 (.inl hh), h5⟩
theorem CkR.zone {As : Option Addr} {cs : Nat} {At : Option Addr} {ct : Nat} {Al : Option Addr} {cl : Nat} {kn : Value} (H : CkR h k w s As cs At ct Al cl kn) (o : Obj) : CkR (h.zone w.heap.size) k (w.alloc o) s As cs At ct Al cl kn := by
  have hS : ∀ b, OwnB As s.stack.length cs b → ¬ (h.zone w.heap.size).K b := fun b hb hh => hh.elim (H.ks b hb) fun e => by have := (H.stack.ownIn hb).2; omega
  have hT : ∀ b, OwnB At s.taken.length ct b → ¬ (h.zone w.heap.size).K b := fun b hb hh => hh.elim (H.kt b hb) fun e => by have := (H.taken.ownIn hb).2; omega
  have hL : ∀ b, OwnB Al s.left.length cl b → ¬ (h.zone w.heap.size).K b := fun b hb hh => hh.elim (H.kl b hb) fun e => by have := (H.left.ownIn hb).2; omega
  have hc := chg_alloc w o
  have hlp := H.blk.lt
  exact {
    blk := hc.blk H.blk id
    stack := H.stack.keep hc (fun _ _ => id) fun _ _ h => h
    taken := H.taken.keep hc (fun _ _ => id) fun _ _ h => h
    left := H.left.keep hc (fun _ _ => id) fun _ _ h => h
    ks := hS, kt := hT, kl := hL, dst := H.dst, dsl := H.dsl, dtl := H.dtl
    known := by obtain ⟨f, hf⟩ := H.known; exact ⟨f, hf.zone o⟩
    mod := (H.mod.far hc fun _ _ _ h => h).zone
    ps := H.ps, pt := H.pt, plf := H.plf
    place := ⟨H.place.1, fun hh => hh.elim H.place.2 fun e => by have e : h.p = w.heap.size := e; omega⟩
    low := fun b hb => by
      rw [World.size_alloc]
      rcases hb with hb | hb
      · have := H.low b hb; omega
      · omega
    bw := by rw [World.size_alloc]; have := H.bw; exact Nat.le_succ_of_le this }
theorem CkI.zone (H : CkI h k w s) (o : Obj) : CkI (h.zone w.heap.size) k (w.alloc o) s := by
  obtain ⟨As, cs, At, ct, Al, cl, kn, H⟩ := H
  exact ⟨As, cs, At, ct, Al, cl, kn, H.zone o⟩
theorem CkR.unzone {As : Option Addr} {cs : Nat} {At : Option Addr} {ct : Nat} {Al : Option Addr} {cl : Nat} {kn : Value} (H : CkR (h.zone g) k w s As cs At ct Al cl kn) : CkR h k w s As cs At ct Al cl kn :=
  {
    blk := H.blk, stack := H.stack, taken := H.taken, left := H.left
    ks := fun b hb hh => H.ks b hb (.inl hh), kt := fun b hb hh => H.kt b hb (.inl hh), kl := fun b hb hh => H.kl b hb (.inl hh), dst := H.dst, dsl := H.dsl, dtl := H.dtl
    known := by obtain ⟨f, hf⟩ := H.known; exact ⟨f, hf.unzone⟩
    mod := H.mod.unzone, ps := H.ps, pt := H.pt, plf := H.plf
    place := ⟨H.place.1, fun hh => H.place.2 (.inl hh)⟩
    low := fun b hb => H.low b (.inl hb), bw := H.bw }
theorem CkI.unzone (H : CkI (h.zone g) k w s) : CkI h k w s := by
  obtain ⟨As, cs, At, ct, Al, cl, kn, H⟩ := H
  exact ⟨As, cs, At, ct, Al, cl, kn, H.unzone⟩
theorem mc_zone {b t : Nat} (hm : MC (h.zone g) b t) : MC h b t := ⟨hm.1, fun hh => hm.2 (.inl hh)⟩
theorem Chg.unzone (hc : Chg (MC (h.zone g)) w w') : Chg (MC h) w w' := hc.mono fun _ _ _ => mc_zone
theorem Chg.zoned {o : Obj} (hc : Chg (MC (h.zone g)) (w.alloc o) w') : Chg (MC h) w w' := ((chg_alloc w o).mono fun _ _ _ h => h.elim : Chg (MC h) w (w.alloc o)).trans hc.unzone
theorem Chg.zblk {t : TypeId} {cs : Array Value} (hc : Chg (MC (h.zone g)) w w') (hb : Blk w g t cs) : Blk w' g t cs := hc.blk hb fun hm => hm.2 (.inr rfl)
theorem Chg.toMC (hc : Chg (fun _ _ => False) w w') : Chg (MC h) w w' := hc.mono fun _ _ _ h => h.elim
end
/-- What turns only blocks that the calls do not touch leaves the checker. -/
theorem CkI.far {h : Hd} {k : Nat} {M : Nat → Nat → Prop} {w w' : World} {s : VSt} (H : CkI h k w s) (hc : Chg M w w') (hM : ∀ b t, M b t → h.K b ∧ h.B ≤ b) : CkI h k w' s := by
  obtain ⟨As, cs, At, ct, Al, cl, kn, H⟩ := H
  have hl : LetsM M h.B := fun b t hb hm => by have := (hM b t hm).2; omega
  exact ⟨As, cs, At, ct, Al, cl, kn, {
    blk := hc.blk H.blk fun hm => H.place.2 (hM _ _ hm).1
    stack := H.stack.keep1 hc (fun b hb hm => H.ks b hb (hM _ _ hm).1) fun _ _ h => h
    taken := H.taken.keep1 hc (fun b hb hm => H.kt b hb (hM _ _ hm).1) fun _ _ h => h
    left := H.left.keep1 hc (fun b hb hm => H.kl b hb (hM _ _ hm).1) fun _ _ h => h
    ks := H.ks, kt := H.kt, kl := H.kl, dst := H.dst, dsl := H.dsl, dtl := H.dtl
    known := H.known.far hc fun b _ hk hm => hk (hM _ _ hm).1
    mod := H.mod.far hc hl
    ps := H.ps, pt := H.pt, plf := H.plf, place := H.place, low := fun b hb => Nat.lt_of_lt_of_le (H.low b hb) hc.size, bw := Nat.le_trans H.bw hc.size }⟩
theorem CkI.base_le {h : Hd} {k : Nat} {w : World} {s : VSt} (H : CkI h k w s) : h.B ≤ h.base ∧ h.base ≤ w.heap.size := by
  obtain ⟨As, cs, At, ct, Al, cl, kn, H⟩ := H
  exact ⟨H.mod.le, H.bw⟩
def OutP (h : Hd) (k : Nat) (w : World) (kk : Int) (o : Option (Int × VSt)) (e : Ending) (w' : World) : Prop :=
  Chg (MC h) w w' ∧ match o with
    | some r => (∃ A c rs, e = .returned (.agg #[.int .i64 kk, .slice A (listN h.m.types r.1).length c, .int .i64 rs]) ∧ IntsR h.B w' (.slice A (listN h.m.types r.1).length c) (listN h.m.types r.1)) ∧ (0 ≤ r.1 ∧ r.1 < (h.m.types.length : Int)) ∧ CkI h k w' r.2
    | none => e = wrongE h
theorem OutP.bad {h : Hd} {k : Nat} {w w' : World} {kk : Int} {o : Option (Int × VSt)} (hc : Chg (MC h) w w') (ho : o = none) : OutP h k w kk o (wrongE h) w' := by subst ho; exact ⟨hc, rfl⟩
theorem OutP.none_ {h : Hd} {k : Nat} {w w' : World} {kk : Int} {o : Option (Int × VSt)} {e : Ending} (H : OutP h k w kk o e w') (ho : o = none) : e = wrongE h ∧ Chg (MC h) w w' := by subst ho; exact ⟨H.2, H.1⟩
theorem OutP.some_ {h : Hd} {k : Nat} {w w' : World} {kk : Int} {o : Option (Int × VSt)} {e : Ending} {t : Int} {s : VSt} (H : OutP h k w kk o e w') (ho : o = some (t, s)) :
    ∃ A c rs, e = .returned (.agg #[.int .i64 kk, .slice A (listN h.m.types t).length c, .int .i64 rs]) ∧ IntsR h.B w' (.slice A (listN h.m.types t).length c) (listN h.m.types t) ∧ (0 ≤ t ∧ t < (h.m.types.length : Int)) ∧ CkI h k w' s ∧ Chg (MC h) w w' := by
  subst ho
  obtain ⟨A, c, rs, h1, h2⟩ := H.2.1
  exact ⟨A, c, rs, h1, h2, H.2.2.1, H.2.2.2, H.1⟩
theorem kind_in {T : List ShapeD} {t k : Int} (h : (kindN T t == k) = true) (hk : k ≠ 0) : 0 ≤ t ∧ t < (T.length : Int) := by
  have h : kindN T t = k := by simpa using h
  rcases Int.lt_or_le t 0 with h0 | h0
  · rw [kindN_neg h0] at h; exact absurd h.symm hk
  · refine ⟨h0, ?_⟩
    rcases Int.lt_or_le t T.length with h1 | h1
    · exact h1
    · rw [kindN_out h1] at h; exact absurd h.symm hk
/-- A shape's cells, in every later world. -/
theorem ModH.shape {h : Hd} {w : World} (H : ModH h w) {t : Int} (ht : 0 ≤ t ∧ t < (h.m.types.length : Int)) :
    ∃ b o A c, h.A1 = some ⟨b, o, none⟩ ∧ IntsR h.B w (.slice A (listN h.m.types t).length c) (listN h.m.types t) ∧ I64 (kindN h.m.types t) ∧ I64 (resN h.m.types t) ∧ ∀ M w', Chg M w w' → LetsM M h.B →
      w'.cell? ⟨b, o + t.toNat * 3, none⟩ = some (.int .i64 (kindN h.m.types t)) ∧ w'.cell? ⟨b, o + t.toNat * 3 + 1, none⟩ = some (.slice A (listN h.m.types t).length c) ∧ w'.cell? ⟨b, o + t.toNat * 3 + 2, none⟩ = some (.int .i64 (resN h.m.types t)) := by
  obtain ⟨b, o, s, A', c', hA, hs, hk, hr, hl, hcell⟩ := H.types.at3 (show t.toNat < h.m.types.length by omega)
  have h1 : kindN h.m.types t = s.kind := kindN_in ht.1 hs
  have h2 : listN h.m.types t = s.list := by simp [listN, hs]
  have h3 : resN h.m.types t = s.res := by simp [resN, hs]
  rw [h1, h2, h3]
  exact ⟨b, o, A', c', hA, hl, hk, hr, hcell⟩
set_option maxRecDepth 100000 in
set_option maxHeartbeats 2000000 in
theorem pops_any (h : Hd) (k : Nat) (w : World) (s : VSt) (kk : Int) (hkk : kk ≠ 0) (H : CkI h (k + 1) w s) : Calls Try.prog 71 #[.pointer (some ⟨h.p, 0, none⟩), .int .i64 kk] w (OutP h k w kk (popsN h.m.types kk s)) := by
  have HBW := Lib.hid H.base_le
  have HZ := Lib.hid (H.zone (.cells #[.int .i64 0, .slice none 0 0, .int .i64 0] 37))
  have HK0 := Lib.hid hkk
  clear H hkk
  go_enter Try.func71, Try.ntmps71
  go_wp2_with fail
  refine (pop_any (h.zone w.heap.size) k _ s HZ.out).mono fun e w1 hh => ?_
  have hb0 := Blk.new w 37 #[.int .i64 0, .slice none 0 0, .int .i64 0]
  rcases hq : popN s with _ | ⟨t, s1⟩
  · obtain ⟨rfl, hc⟩ := hh.none_ hq
    have HQ := Lib.hid (And.intro hq hc)
    clear hh hq hc hb0
    go_wp2_with fail
    exact ⟨rfl, OutP.bad HQ.out.2.zoned (by simp only [popsN, HQ.out.1, Option.bind_none])⟩
  · obtain ⟨rfl, ht, hk, hc⟩ := hh.some_ hq
    have hb1 := hc.zblk hb0
    have HQ := Lib.hid (And.intro hq (And.intro hk (And.intro hc.zoned (And.intro ht hb1))))
    clear hh hq hk hc hb0 hb1 ht
    go_wp2_with fail
    refine (is_any (h.zone w.heap.size) w1 t kk HQ.out.2.1.fix).mono fun e w2 hh => ?_
    cases hb : (kindN h.m.types t == kk)
    · obtain ⟨rfl, rfl⟩ := hh.bad hb
      have HB := Lib.hid hb
      clear hb hh
      go_wp2_with fail
      exact ⟨rfl, OutP.bad HQ.out.2.2.1 (by simp only [popsN, HQ.out.1, Option.bind_some, isKN, needN_bad HB.out, Option.map_none])⟩
    · obtain ⟨rfl, rfl⟩ := hh.ok hb
      have htr := kind_in hb HK0.out
      have HB := Lib.hid (And.intro hb htr)
      clear hb hh htr
      have hF : CkF h w2 := HQ.out.2.1.fix.unzone
      obtain ⟨b, o, A', c', hA, hl, _, _, hcell⟩ := hF.mod.shape HB.out.2
      obtain ⟨e0, e1, e2⟩ := hcell _ _ (Chg.refl (fun _ _ => False) w2) (fun _ _ _ h => h)
      have hk' : kindN h.m.types t = kk := by have := HB.out.1; simpa using this
      rw [hk'] at e0
      have d0 := hF.d0
      rw [hA] at d0
      obtain ⟨n, rfl⟩ : ∃ n : Nat, t = (n : Int) := ⟨t.toNat, by have := HB.out.2.1; omega⟩
      have q1 : (n : Int) < (h.m.types.length : Int) := HB.out.2.2
      have q2 : n < h.m.types.length := by omega
      rw [Int.toNat_natCast] at e0 e1 e2
      obtain ⟨LL, hLL⟩ : ∃ LL, listN h.m.types (n : Int) = LL := ⟨_, rfl⟩
      obtain ⟨rs, hrs⟩ : ∃ rs, resN h.m.types (n : Int) = rs := ⟨_, rfl⟩
      rw [hLL] at e1 hl
      rw [hrs] at e2
      have z0 : w2.cell? ⟨w.heap.size, 0, none⟩ = some (.int .i64 0) := by simpa using HQ.out.2.2.2.2.cell 0
      have z1 : w2.cell? ⟨w.heap.size, 1, none⟩ = some (.slice none 0 0) := by simpa using HQ.out.2.2.2.2.cell 1
      have z2 : w2.cell? ⟨w.heap.size, 2, none⟩ = some (.int .i64 0) := by simpa using HQ.out.2.2.2.2.cell 2
      have fz := fun i => HQ.out.2.2.2.2.frozen i
      have HR := Lib.hid (And.intro hA (And.intro hl (And.intro hk' (And.intro hLL hF))))
      clear hA hl hk' hLL hcell hF hrs
      go_wp2_with fail
      have hs1 := chg_set (j := 0) HQ.out.2.2.2.2 (.int .i64 kk)
      have hb1 := HQ.out.2.2.2.2.set_ 0 (.int .i64 kk)
      have hs2 := chg_set (j := 1) hb1 (.slice A' LL.length c')
      have hb2 := hb1.set_ 1 (.slice A' LL.length c')
      have hs3 := chg_set (j := 2) hb2 (.int .i64 rs)
      have hb3 := hb2.set_ 2 (.int .i64 rs)
      have hall := (hs1.trans hs2).trans hs3
      generalize ((w2.setCell _ _).setCell _ _).setCell _ _ = w3 at hall hb3 ⊢
      have y0 : w3.cell? ⟨w.heap.size, 0, none⟩ = some (.int .i64 kk) := by simpa using hb3.cell 0
      have y1 : w3.cell? ⟨w.heap.size, 1, none⟩ = some (.slice A' LL.length c') := by simpa using hb3.cell 1
      have y2 : w3.cell? ⟨w.heap.size, 2, none⟩ = some (.int .i64 rs) := by simpa using hb3.cell 2
      have hM : ∀ b t, (b = w.heap.size ∧ t = 37) → (h.zone w.heap.size).K b ∧ (h.zone w.heap.size).B ≤ b := fun b t hm => ⟨.inr hm.1, by have := HBW.out; show h.B ≤ b; omega⟩
      refine bodyPost_ret (v := .agg #[.int .i64 kk, .slice A' LL.length c', .int .i64 rs]) (by simp [results, Try.results71, go_sem, y0, y1, y2]) rfl ?_
      refine ⟨HQ.out.2.2.1.trans_le hall (fun b t hb hm => absurd hb (by have := hm.1; omega)), ?_⟩
      simp only [popsN, HQ.out.1, Option.bind_some, isKN, needN_ok HB.out.1, Option.map_some]
      rw [HR.out.2.2.2.1]
      exact ⟨⟨A', c', rs, rfl, HR.out.2.1.keep hall fun b t hb hm => by have := (hM b t hm).2; have h9 : h.B ≤ b := this; omega⟩, HB.out.2, (HQ.out.2.1.far hall hM).unzone⟩
set_option maxRecDepth 100000 in
theorem wwrap_any (w : World) (k : Int) (n : Nat) : Calls Try.prog 76 #[.int .i64 k, .int .u64 (n : Int)] w fun e w' => e = .returned (.int .u64 (wrapN k n)) ∧ w' = w := by
  unfold wrapN
  by_cases h2 : k = 2
  · subst h2
    go_enter Try.func76, Try.ntmps76
    go_wp2_with fail
    go_ret
    exact ⟨rfl, rfl⟩
  · by_cases h3 : k = 3
    · subst h3
      go_enter Try.func76, Try.ntmps76
      go_wp2_with fail
      go_ret
      exact ⟨rfl, rfl⟩
    · by_cases h4 : k = 4
      · subst h4
        go_enter Try.func76, Try.ntmps76
        go_wp2_with fail
        go_ret
        exact ⟨by simp [IntKind.wrap_i32, wrap32], rfl⟩
      · by_cases h5 : k = 5
        · subst h5
          go_enter Try.func76, Try.ntmps76
          go_wp2_with fail
          go_ret
          exact ⟨rfl, rfl⟩
        · rw [if_neg h2, if_neg h3, if_neg h4, if_neg h5]
          have g2 : (k == 2) = false := by simpa using h2
          have g3 : (k == 3) = false := by simpa using h3
          have g4 : (k == 4) = false := by simpa using h4
          have g5 : (k == 5) = false := by simpa using h5
          clear h2 h3 h4 h5
          go_enter Try.func76, Try.ntmps76
          go_wp2_with fail
          go_ret
          exact ⟨rfl, rfl⟩
set_option maxRecDepth 100000 in
theorem wis_any (w : World) (k : Int) (n : Nat) : Calls Try.prog 61 #[.int .i64 k, .int .u64 (n : Int)] w fun e w' => e = .returned (.bool (isB k n)) ∧ w' = w := by
  unfold isB
  go_enter Try.func61, Try.ntmps61
  go_wp2_with fail
  refine (wwhole_any w k).mono ?_
  rintro e w1 ⟨rfl, rfl⟩
  cases hb : wholeB k
  · have HB := Lib.hid hb
    clear hb
    go_wp2_with fail
    go_ret
    exact ⟨by first | rfl | (rw [HB.out]; rfl), rfl⟩
  · have HB := Lib.hid hb
    clear hb
    go_wp2_with fail
    refine (wwrap_any w1 k n).mono ?_
    rintro e w2 ⟨rfl, rfl⟩
    obtain ⟨v, hv⟩ : ∃ v, wrapN k n = v := ⟨_, rfl⟩
    rw [hv]
    have HV := Lib.hid hv
    clear hv
    cases hq : (v == (n : Int))
    · have HQ := Lib.hid hq
      go_wp2_with fail
      go_ret
      exact ⟨by rw [HB.out, HV.out, HQ.out]; rfl, rfl⟩
    · have HQ := Lib.hid hq
      go_wp2_with fail
      go_ret
      exact ⟨by rw [HB.out, HV.out, HQ.out]; rfl, rfl⟩
end Go.Proofs.Ytdegfnejhamejaa
