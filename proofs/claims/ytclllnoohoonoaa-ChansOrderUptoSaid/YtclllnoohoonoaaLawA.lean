/-
  The small functions of the statements on channels: cases, served, same, has; and the same numbers (SameInts): where both lists are the same, the answer is yes.
-/
import Derived.Test.YtclllnoohoonoaaRDo
import Derived.Test.YtclllnoohoonoaaActN
namespace Go.Proofs.Ytclllnoohoonoaa
open Go.RowKit
set_option linter.unusedVariables false
set_option linter.unusedSimpArgs false

def QuietRes (v : Value) (w : World) (e : Ending) (w' : World) : Prop := e = .returned v ∧ ∃ n, w' = w.drewN n
theorem QuietRes.chg {v : Value} {w w' : World} {e : Ending} (h : QuietRes v w e w') : e = .returned v ∧ Chg (fun _ _ => False) w w' := by
  obtain ⟨h1, n, rfl⟩ := h
  exact ⟨h1, (Chg.refl _ w).drewN n⟩
def qRel (n : Nat) (w : World) (i : Value) (wr : World) : Prop := ∃ k m : Nat, k ≤ n ∧ i = .int .i64 k ∧ wr = w.drewN m
theorem SrvsT.form {w : World} {v : Value} {l : List SrvD} (h : SrvsT w v l) : ∃ A c, v = .slice A l.length c ∧ l.length ≤ c := by
  obtain ⟨A, c, hv, hc, _⟩ := h
  exact ⟨A, c, hv, hc⟩
theorem RSrvsT.form {w : World} {v : Value} {l : List SrvD} (h : RSrvsT w v l) : ∃ A c, v = .slice A l.length c ∧ l.length ≤ c := by
  obtain ⟨A, c, hv, hc, _⟩ := h
  exact ⟨A, c, hv, hc⟩
theorem SrvsT.at_ {w : World} {A : Option Addr} {n c k : Nat} {l : List SrvD} (h : SrvsT w (.slice A n c) l) (hk : k < l.length) : ∃ b o x, A = some ⟨b, o, none⟩ ∧ l[k]? = some x ∧
    w.cell? ⟨b, o + k * 4, none⟩ = some (.int .i64 x.who) ∧ w.cell? ⟨b, o + k * 4 + 1, none⟩ = some (.int .i64 x.at_) ∧ w.cell? ⟨b, o + k * 4 + 2, none⟩ = some (.int .u64 (x.val : Int)) ∧ w.cell? ⟨b, o + k * 4 + 3, none⟩ = some (.bool x.ok) := by
  obtain ⟨b, o, c', cs, hv, _, _, _, h1, rfl, h4⟩ := SlR.at_ h hk
  injection hv with hA
  exact ⟨b, o, l[k], hA, List.getElem?_eq_getElem hk, by simpa using h4 0 _ rfl, h4 1 _ rfl, h4 2 _ rfl, h4 3 _ rfl⟩
theorem RSrvsT.at_ {w : World} {A : Option Addr} {n c k : Nat} {l : List SrvD} (h : RSrvsT w (.slice A n c) l) (hk : k < l.length) : ∃ b o x, A = some ⟨b, o, none⟩ ∧ l[k]? = some x ∧
    w.cell? ⟨b, o + k * 4, none⟩ = some (.int .i64 x.who) ∧ w.cell? ⟨b, o + k * 4 + 1, none⟩ = some (.int .i64 x.at_) ∧ w.cell? ⟨b, o + k * 4 + 2, none⟩ = some (.int .u64 (x.val : Int)) ∧ w.cell? ⟨b, o + k * 4 + 3, none⟩ = some (.bool x.ok) := by
  obtain ⟨b, o, c', cs, hv, _, _, _, h1, rfl, h4⟩ := SlR.at_ h hk
  injection hv with hA
  exact ⟨b, o, l[k], hA, List.getElem?_eq_getElem hk, by simpa using h4 0 _ rfl, h4 1 _ rfl, h4 2 _ rfl, h4 3 _ rfl⟩
set_option maxRecDepth 100000 in
set_option maxHeartbeats 4000000 in
theorem served_any (w : World) (v1 v2 : Value) (l : List SrvD) (h1 : SrvsT w v1 l) (h2 : RSrvsT w v2 l) (hn : l.length ≤ 1099511627776) : Calls Try.prog 37 #[v1, v2] w (QuietRes (.bool true) w) := by
  obtain ⟨A1, c1, rfl, _⟩ := h1.form
  obtain ⟨A2, c2, rfl, _⟩ := h2.form
  have HH := Lib.hid (And.intro h1 h2)
  clear h1 h2
  go_enter Try.func37, Try.ntmps37
  go_wp2_with fail
  go_loopw [5] (fun i wr => qRel l.length w i wr) (fun i _ => l.length - (intOf i).toNat)
  case atStart => exact ⟨0, 0, Nat.zero_le _, rfl, rfl⟩
  case round =>
    obtain ⟨k, m, hkl, rfl, rfl⟩ := hrel
    by_cases hlt : k < l.length
    · obtain ⟨b1, o1, x, rfl, hx, y0, y1, y2, y3⟩ := HH.out.1.at_ hlt
      obtain ⟨b2, o2, x', rfl, hx', z0, z1, z2, z3⟩ := HH.out.2.at_ hlt
      obtain rfl : x' = x := by rw [hx] at hx'; injection hx' with h; exact h.symm
      clear hx hx'
      obtain ⟨who, at_, val, ok⟩ := x'
      simp only at y0 y1 y2 y3 z0 z1 z2 z3
      have hk0 : (0 : Int) ≤ (k : Int) := by omega
      have hk1 : (k : Int) < (l.length : Int) := by omega
      have f0 : (who != who) = false := by simp
      have f1 : (at_ != at_) = false := by simp
      go_wp2_with fail
      go_quiet (fail)
      go_wp2_with fail
      go_roundw
      case rel => exact ⟨k + 1, _, hlt, by simp, rfl⟩
      case measure => simp [intOf]; omega
    · obtain rfl : k = l.length := by omega
      go_wp2_with fail
      go_ret
      exact ⟨by simp, m, rfl⟩
set_option maxRecDepth 100000 in
set_option maxHeartbeats 2000000 in
theorem same_any (w : World) (v1 v2 : Value) (l : List Nat) (h1 : QR w 41 v1 (u64V l)) (h2 : QR w 41 v2 (u64V l)) (hn : l.length ≤ 1099511627776) : Calls Try.prog 40 #[v1, v2] w (QuietRes (.bool true) w) := by
  obtain ⟨A1, c1, rfl, _⟩ := h1.form
  obtain ⟨A2, c2, rfl, _⟩ := h2.form
  have HH := Lib.hid (And.intro h1 h2)
  clear h1 h2
  rw [u64V_len]
  go_enter Try.func40, Try.ntmps40
  go_wp2_with fail
  go_loopw [5] (fun i wr => qRel l.length w i wr) (fun i _ => l.length - (intOf i).toNat)
  case atStart => exact ⟨0, 0, Nat.zero_le _, rfl, rfl⟩
  case round =>
    obtain ⟨k, m, hkl, rfl, rfl⟩ := hrel
    by_cases hlt : k < l.length
    · obtain ⟨b1, o1, e1, hv1, _, y0⟩ := HH.out.1.at_ (k := k) (by rw [u64V_len]; exact hlt)
      obtain ⟨b2, o2, e2, hv2, _, z0⟩ := HH.out.2.at_ (k := k) (by rw [u64V_len]; exact hlt)
      injection hv1 with hv1 hx1 hc1
      injection hv2 with hv2 hx2 hc2
      subst hv1 hv2 hc1 hc2
      clear hx1 hx2
      have hx : (u64V l)[k]'(by rw [u64V_len]; exact hlt) = .int .u64 ((l[k] : Nat) : Int) := by simp [u64V]
      rw [hx] at y0 z0
      clear hx
      generalize l[k] = x at y0 z0
      have hk0 : (0 : Int) ≤ (k : Int) := by omega
      have hk1 : (k : Int) < (l.length : Int) := by omega
      go_wp2_with fail
      go_quiet (fail)
      go_wp2_with fail
      go_roundw
      case rel => exact ⟨k + 1, _, hlt, by simp, rfl⟩
      case measure => simp [intOf]; omega
    · obtain rfl : k = l.length := by omega
      go_wp2_with fail
      go_ret
      exact ⟨by simp, m, rfl⟩
set_option maxRecDepth 100000 in
set_option maxHeartbeats 2000000 in
theorem sameI_any (w : World) (A1 A2 : Option Addr) (n1 n2 c1 c2 : Nat) (l : List Int) (h1 : IntsT w (.slice A1 n1 c1) l) (h2 : IntsT w (.slice A2 n2 c2) l) (hn : l.length ≤ 1099511627776) : Calls Try.prog 39 #[.slice A1 n1 c1, .slice A2 n2 c2] w (QuietRes (.bool true) w) := by
  obtain rfl : n1 = l.length := by obtain ⟨_, _, hv, _⟩ := h1; injection hv
  obtain rfl : n2 = l.length := by obtain ⟨_, _, hv, _⟩ := h2; injection hv
  have HH := Lib.hid (And.intro h1 h2)
  clear h1 h2
  go_enter Try.func39, Try.ntmps39
  go_wp2_with fail
  go_loopw [5] (fun i wr => qRel l.length w i wr) (fun i _ => l.length - (intOf i).toNat)
  case atStart => exact ⟨0, 0, Nat.zero_le _, rfl, rfl⟩
  case round =>
    obtain ⟨k, m, hkl, rfl, rfl⟩ := hrel
    by_cases hlt : k < l.length
    · obtain ⟨b1, o1, x, rfl, hx, y0⟩ := HH.out.1.at_ hlt
      obtain ⟨b2, o2, x', rfl, hx', z0⟩ := HH.out.2.at_ hlt
      obtain rfl : x' = x := by rw [hx] at hx'; injection hx' with h; exact h.symm
      clear hx hx'
      have hk0 : (0 : Int) ≤ (k : Int) := by omega
      have hk1 : (k : Int) < (l.length : Int) := by omega
      go_wp2_with fail
      go_quiet (fail)
      go_wp2_with fail
      go_roundw
      case rel => exact ⟨k + 1, _, hlt, by simp, rfl⟩
      case measure => simp [intOf]; omega
    · obtain rfl : k = l.length := by omega
      go_wp2_with fail
      go_ret
      exact ⟨rfl, m, rfl⟩
def hasI (l : List Int) (n : Int) : Bool := l.any (eqI n)
def hasRel (l : List Int) (n : Int) (w : World) (i : Value) (wr : World) : Prop := ∃ k : Nat, k ≤ l.length ∧ i = .int .i64 k ∧ (l.take k).any (eqI n) = false ∧ wr = w
def HasRes (b : Bool) (w : World) (e : Ending) (w' : World) : Prop := e = .returned (.bool b) ∧ w' = w
set_option maxRecDepth 100000 in
set_option maxHeartbeats 2000000 in
theorem has_any (w : World) (A1 : Option Addr) (n1 c1 : Nat) (l : List Int) (h1 : IntsT w (.slice A1 n1 c1) l) (hn : l.length ≤ 1099511627776) (n : Int) : Calls Try.prog 17 #[.slice A1 n1 c1, .int .i64 n] w (HasRes (hasI l n) w) := by
  obtain rfl : n1 = l.length := by obtain ⟨_, _, hv, _⟩ := h1; injection hv
  have HH := Lib.hid h1
  clear h1
  go_enter Try.func17, Try.ntmps17
  go_wp2_with fail
  go_loopw [5] (fun i wr => hasRel l n w i wr) (fun i _ => l.length - (intOf i).toNat)
  case atStart => exact ⟨0, Nat.zero_le _, rfl, rfl, rfl⟩
  case round =>
    obtain ⟨k, hkl, rfl, hb, rfl⟩ := hrel
    by_cases hlt : k < l.length
    · obtain ⟨b1, o1, x, rfl, hx, y0⟩ := HH.out.at_ hlt
      have HX := Lib.hid (And.intro hx hb)
      clear hx hb
      by_cases hp : x = n
      · have hp' : (x == n) = true := by simpa using hp
        have HP := Lib.hid hp
        clear hp
        go_wp2_with fail
        go_ret
        refine ⟨?_, rfl⟩
        have : hasI l n = true := by
          unfold hasI
          rw [List.any_eq_true]
          exact ⟨x, List.mem_of_getElem? HX.out.1, by simp [eqI, HP.out]⟩
        rw [this]
        rfl
      · have hp' : (x == n) = false := by simpa using hp
        have HP := Lib.hid hp
        clear hp
        go_wp2_with fail
        go_roundw
        case rel =>
          refine ⟨k + 1, hlt, by simp, ?_, rfl⟩
          obtain ⟨h3, h4⟩ := List.getElem?_eq_some_iff.1 HX.out.1
          rw [List.take_succ_eq_append_getElem h3, h4, List.any_append, HX.out.2]
          simp only [eqI, List.any_cons, List.any_nil, Bool.or_false, Bool.false_or, decide_eq_false_iff_not]
          exact fun h => HP.out h.symm
        case measure => simp [intOf]; omega
    · obtain rfl : k = l.length := by omega
      rw [List.take_length] at hb
      have HX := Lib.hid hb
      clear hb
      go_wp2_with fail
      go_ret
      exact ⟨by rw [show hasI l n = false from HX.out]; rfl, rfl⟩
end Go.Proofs.Ytclllnoohoonoaa
