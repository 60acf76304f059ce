/-
  The reference's heap in memory: a row of objects, each with two rows. All blocks that its calls may turn are in the set F. At and Used.
-/
import Derived.Test.YteigopmdhhgnfaaHpColl
import Derived.Test.YteigopmdhhgnfaaHpAl
namespace Go.Proofs.Yteigopmdhhgnfaa
open Go.RowKit
set_option linter.unusedVariables false
set_option linter.unusedSimpArgs false

def cellOf (cs : List Value) : Option Nat := (cs.getD 1 default).ownBlock
def RObjV (F : Nat → Prop) (w : World) (cs : List Value) (x : ObjD) : Prop :=
  ∃ A c A' c', cs = [.int .i64 (x.name : Int), .slice A x.cells.length c, .slice A' x.refs.length c'] ∧ RowR 0 44 1 U64V w A c x.cells ∧ RowR 0 4 1 BooV w A' c' x.refs ∧ (∀ g, OwnB A x.cells.length c g → F g) ∧ (∀ g, OwnB A' x.refs.length c' g → F g)
/-- The row of objects: their rows of cells lie apart. -/
def RObjs (F : Nat → Prop) (w : World) (A : Option Addr) (c : Nat) (S : List ObjD) : Prop :=
  ∃ xss : List (List Value), w.ownsRow 0 39 3 (.slice A S.length c) S.length xss.flatten ∧ xss.length = S.length ∧ (∀ cs ∈ xss, cs.length = 3) ∧ (∀ (k : Nat) x cs, S[k]? = some x → xss[k]? = some cs → RObjV F w cs x) ∧
    (∀ (i j : Nat) ci cj g, xss[i]? = some ci → xss[j]? = some cj → cellOf ci = some g → cellOf cj = some g → i = j) ∧ (∀ g, OwnB A S.length c g → F g)
structure RhI (F : Nat → Prop) (w : World) (q : Nat) (A : Option Addr) (c : Nat) (S : List ObjD) (bud : Nat) : Prop where
  blk : Blk w q 42 #[.slice A S.length c, .int .i64 (bud : Int)]
  objs : RObjs F w A c S
  own : F q
  lt : ∀ b, F b → b < w.heap.size
  good : GoodO S
  room : usedO S ≤ bud ∧ bud ≤ 65536
/-- What a call on the reference's heap may turn. -/
def MR (F : Nat → Prop) (b t : Nat) : Prop := F b ∧ (t = 42 ∨ t = 44)
section
variable {M : Nat → Nat → Prop} {F : Nat → Prop} {w w' : World} {A : Option Addr} {c q bud k n : Nat} {S : List ObjD} {cs : List Value} {x : ObjD}
theorem RObjV.keep (h : RObjV F w cs x) (hc : Chg M w w') (hm : ∀ b t, F b → ¬ M b t) : RObjV F w' cs x := by
  obtain ⟨A, c, A', c', h1, h2, h3, h4, h5⟩ := h
  exact ⟨A, c, A', c', h1, h2.keep1 hc (fun g hg => hm g _ (h4 g hg)) fun _ _ h => h, h3.keep1 hc (fun g hg => hm g _ (h5 g hg)) fun _ _ h => h, h4, h5⟩
theorem RObjs.keep (h : RObjs F w A c S) (hc : Chg M w w') (hm : ∀ b t, F b → ¬ M b t) : RObjs F w' A c S := by
  obtain ⟨xss, h1, h2, h3, h4, h5, h6⟩ := h
  exact ⟨xss, hc.own h1 fun g hg => hm g _ (h6 g hg), h2, h3, fun k x cs a b => (h4 k x cs a b).keep hc hm, h5, h6⟩
theorem RhI.keep (h : RhI F w q A c S bud) (hc : Chg M w w') (hm : ∀ b t, F b → ¬ M b t) : RhI F w' q A c S bud :=
  ⟨hc.blk h.blk (hm q _ h.own), h.objs.keep hc hm, h.own, fun b hb => Nat.lt_of_lt_of_le (h.lt b hb) hc.size, h.good, h.room⟩
/-- An object of the row: its three cells. -/
theorem RObjs.at_ (h : RObjs F w A c S) (hk : k < S.length) : ∃ b x A1 c1 A2 c2, A = some ⟨b, 0, none⟩ ∧ S[k]? = some x ∧ RObjV F w [.int .i64 (x.name : Int), .slice A1 x.cells.length c1, .slice A2 x.refs.length c2] x ∧
    w.cell? ⟨b, k * 3, none⟩ = some (.int .i64 (x.name : Int)) ∧ w.cell? ⟨b, k * 3 + 1, none⟩ = some (.slice A1 x.cells.length c1) ∧ w.cell? ⟨b, k * 3 + 2, none⟩ = some (.slice A2 x.refs.length c2) := by
  obtain ⟨xss, h1, h2, h3, h4, h5, h6⟩ := h
  have hr : RowR 0 39 3 (RObjV F) w A c S := ⟨xss, h1, h2, h3, h4⟩
  obtain ⟨b, o, x, cs, hA, hx, _, hV, hcl⟩ := SlR.at2 (hr.slr (by decide) 0) hk
  have ho : o = 0 := by
    rcases h1.2 with ⟨_, h0⟩ | ⟨g, cap, cur, hv, _⟩
    · omega
    · injection hv with hv
      rw [hA] at hv
      injection hv with hv
      injection hv
  subst ho
  obtain ⟨A1, c1, A2, c2, rfl, r⟩ := hV
  exact ⟨b, x, A1, c1, A2, c2, hA, hx, ⟨A1, c1, A2, c2, rfl, r⟩, by simpa using hcl 0 _ rfl, by simpa using hcl 1 _ rfl, by simpa using hcl 2 _ rfl⟩
end
/-- Where an object stands. -/
def atO : List ObjD → Int → Nat → Int
  | [], _, _ => -1
  | o :: S, x, k => if (o.name : Int) = x then (k : Int) else atO S x (k + 1)
theorem atO_at {x : Int} : ∀ {S : List ObjD} {k j : Nat} {o : ObjD}, S[j]? = some o → (o.name : Int) = x → (∀ i y, i < j → S[i]? = some y → (y.name : Int) ≠ x) → atO S x k = ((k + j : Nat) : Int)
  | [], k, j, o, h, _, _ => by simp at h
  | a :: S, k, 0, o, h, he, _ => by
    simp at h
    subst h
    unfold atO
    rw [if_pos he]
    simp
  | a :: S, k, j + 1, o, h, he, hn => by
    unfold atO
    rw [if_neg (hn 0 a (by omega) (by simp)), atO_at (k := k + 1) (j := j) (by simpa using h) he fun i y hi hy => hn (i + 1) y (by omega) (by simpa using hy)]
    congr 1
    omega
theorem atO_none {x : Int} : ∀ {S : List ObjD} {k : Nat}, (∀ y ∈ S, (y.name : Int) ≠ x) → atO S x k = -1
  | [], k, _ => rfl
  | a :: S, k, h => by
    unfold atO
    rw [if_neg (h a (by simp)), atO_none fun y hy => h y (List.mem_cons_of_mem _ hy)]
set_option maxRecDepth 100000 in
set_option maxHeartbeats 1000000 in
theorem rat_any (F : Nat → Prop) (w : World) (q : Nat) (A : Option Addr) (c : Nat) (S : List ObjD) (bud : Nat) (x : Int) (h : RhI F w q A c S bud) :
    Calls Try.prog 15 #[.pointer (some ⟨q, 0, none⟩), .int .i64 x] w fun e w' => e = .returned (.int .i64 (atO S x 0)) ∧ Chg (fun _ _ => False) w w' := by
  have x0 : w.cell? ⟨q, 0, none⟩ = some (.slice A S.length c) := by simpa using h.blk.cell 0
  have hS := Nat.le_trans (len_le_used S) (Nat.le_trans h.room.1 h.room.2)
  obtain ⟨R, hR⟩ : ∃ R, atO S x 0 = R := ⟨_, rfl⟩
  rw [hR]
  have HH := Lib.hid (And.intro h.objs hR)
  clear h hR
  go_enter Try.func15, Try.ntmps15
  go_wp2_with fail
  go_loopw [5] (fun i wr => ∃ k : Nat, k ≤ S.length ∧ i = .int .i64 k ∧ (∀ j y, j < k → S[j]? = some y → (y.name : Int) ≠ x) ∧ wr = w) (fun i _ => S.length - (intOf i).toNat)
  case atStart => exact ⟨0, Nat.zero_le _, rfl, fun j y hj => absurd hj (Nat.not_lt_zero _), rfl⟩
  case round =>
    obtain ⟨k, hk, rfl, hkn, rfl⟩ := hrel
    have q3 : IntKind.i64.wrap ((k : Int) + 1) = (k : Int) + 1 := IntWalk.i64_in _ ⟨by omega, by omega⟩
    by_cases hlt : k < S.length
    · have q1 : decide (k < S.length) = true := decide_eq_true hlt
      have q2 : (k : Int) < (S.length : Int) := by omega
      obtain ⟨b, o, A1, c1, A2, c2, rfl, hko, _, z0, _, _⟩ := HH.out.1.at_ hlt
      by_cases he : (o.name : Int) = x
      · have q4 : ((o.name : Int) == x) = true := by simp [he]
        have HF := Lib.hid (show R = (k : Int) by rw [← HH.out.2, atO_at (k := 0) hko he hkn]; simp)
        clear hkn hko he
        go_wp2_with fail
        go_ret
        exact ⟨by rw [HF.out]; rfl, Chg.refl _ _⟩
      · have q4 : ((o.name : Int) == x) = false := by simp [he]
        have HN := Lib.hid (show ∀ j y, j < k + 1 → S[j]? = some y → (y.name : Int) ≠ x from fun j y hj hy => by
          rcases Nat.lt_or_ge j k with h1 | h1
          · exact hkn j y h1 hy
          · have : j = k := by omega
            subst this
            rw [hko] at hy
            injection hy with hy
            subst hy
            exact he)
        clear hkn hko he
        go_wp2_with fail
        go_roundw
        case rel => exact ⟨k + 1, hlt, by simp, HN.out, by first | rfl | trivial⟩
        case measure => simp [intOf]; omega
    · have q1 : decide (k < S.length) = false := decide_eq_false hlt
      obtain rfl : k = S.length := by omega
      have HF := Lib.hid (show R = -1 by
        rw [← HH.out.2]
        refine atO_none fun y hy => ?_
        obtain ⟨j, hj⟩ := List.getElem?_of_mem hy
        exact hkn j y (List.getElem?_eq_some_iff.1 hj).1 hj)
      clear hkn
      go_wp2_with fail
      go_ret
      exact ⟨by rw [HF.out]; rfl, Chg.refl _ _⟩
end Go.Proofs.Yteigopmdhhgnfaa
