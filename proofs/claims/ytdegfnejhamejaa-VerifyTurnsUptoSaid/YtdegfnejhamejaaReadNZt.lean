/-
  The plain side of reading: what number, list, instruction, module bytes begin with, or where the first fault is.
-/
import Derived.Test.YtdegfnejhamejaaEncNZt
namespace Go.Proofs.Ytdegfnejhamejaa
set_option linter.unusedVariables false

/-- What is read from a place on: the value and the place behind it, or the place of the fault. -/
def Pr (α : Type) : Type := Nat → Except Nat (α × Nat)
def Pr.bind_ {α β : Type} (p : Pr α) (f : α → Pr β) : Pr β := fun at_ => match p at_ with
  | .error e => .error e
  | .ok (a, at') => f a at'
def Pr.pure_ {α : Type} (a : α) : Pr α := fun at_ => .ok (a, at_)
/-- From a state on: a fault stays. -/
def runS {α : Type} (p : Pr α) (st : Except Nat Nat) : Except Nat (α × Nat) := match st with
  | .error e => .error e
  | .ok at_ => p at_
def endS {α : Type} (r : Except Nat (α × Nat)) : Except Nat Nat := match r with
  | .error e => .error e
  | .ok (_, at') => .ok at'
theorem runS_bind {α β : Type} (p : Pr α) (f : α → Pr β) (st : Except Nat Nat) : runS (p.bind_ f) st = match runS p st with
    | .error e => .error e
    | .ok (a, at') => f a at' := by
  cases st with
  | error e => rfl
  | ok a => rfl
/-- The number's value, from digit i on, and how many bytes; none: no number. -/
def numFrom : Nat → Nat → List Nat → Option (Nat × Nat)
  | 0, _, _ => none
  | _ + 1, _, [] => none
  | fuel + 1, i, c :: l =>
    if (i = 9 ∧ 1 < c) ∨ (c = 0 ∧ 0 < i) then none
    else if c < 128 then some (c * 128 ^ i, 1)
    else (numFrom fuel (i + 1) l).map fun p => (c % 128 * 128 ^ i + p.1, p.2 + 1)
def numP (bs : List Nat) : Pr Nat := fun at_ => match numFrom 10 0 (bs.drop at_) with
  | none => .error at_
  | some (n, k) => .ok (n, at_ + k)
/-- A number up to so much. -/
def uptoP (bs : List Nat) (most : Nat) : Pr Nat := fun at_ => match numP bs at_ with
  | .error e => .error e
  | .ok (n, at') => if most < n then .error at_ else .ok (n, at')
def smallP (bs : List Nat) (least : Int) : Pr Int := fun at_ => match uptoP bs (2147483647 - least).toNat at_ with
  | .error e => .error e
  | .ok (n, at') => .ok ((n : Int) + least, at')
def flagP (bs : List Nat) : Pr Bool := fun at_ => match uptoP bs 1 at_ with
  | .error e => .error e
  | .ok (n, at') => .ok (decide (n = 1), at')
def repP {α : Type} (p : Pr α) : Nat → Pr (List α)
  | 0 => Pr.pure_ []
  | n + 1 => p.bind_ fun a => (repP p n).bind_ fun l => Pr.pure_ (a :: l)
def listP {α : Type} (bs : List Nat) (p : Pr α) : Pr (List α) := (smallP bs 0).bind_ fun n => repP p n.toNat
def shapeP (bs : List Nat) : Pr ShapeD := (smallP bs 0).bind_ fun k => (listP bs (smallP bs 0)).bind_ fun l => (smallP bs 0).bind_ fun r => Pr.pure_ ⟨k, l, r⟩
def caseP (bs : List Nat) : Pr CaseD := (flagP bs).bind_ fun s => (smallP bs 0).bind_ fun c => (smallP bs (-1)).bind_ fun v => (smallP bs 0).bind_ fun t => Pr.pure_ ⟨s, c, v, t⟩
def instrP (bs : List Nat) : Pr InstrD := (smallP bs 0).bind_ fun o => (smallP bs (-1)).bind_ fun a => (smallP bs (-1)).bind_ fun b => (numP bs).bind_ fun n => (listP bs (caseP bs)).bind_ fun l => Pr.pure_ ⟨o, a, b, n, l⟩
def funcP (bs : List Nat) : Pr FuncD := (smallP bs 0).bind_ fun p => (listP bs (smallP bs 0)).bind_ fun l => (listP bs (smallP bs 0)).bind_ fun c => (smallP bs 0).bind_ fun r => (listP bs (instrP bs)).bind_ fun k => Pr.pure_ ⟨p, l, c, r, k⟩
def modP (bs : List Nat) : Pr ModD := (listP bs (shapeP bs)).bind_ fun t => (listP bs (funcP bs)).bind_ fun f => Pr.pure_ ⟨t, f⟩
/-- All bytes: the module, or the place of the fault. -/
def readP (bs : List Nat) : Except Nat ModD := match modP bs 0 with
  | .error e => .error e
  | .ok (m, at') => if at' < bs.length then .error at' else .ok m

theorem numFrom_len : ∀ (fuel i : Nat) (l : List Nat) (n k : Nat), numFrom fuel i l = some (n, k) → 1 ≤ k ∧ k ≤ l.length
  | 0, _, _, _, _, h => by cases h
  | _ + 1, _, [], _, _, h => by cases h
  | fuel + 1, i, c :: l, n, k, h => by
    unfold numFrom at h
    split at h
    · cases h
    split at h
    · injection h with h; injection h with h1 h2; subst h2; simp
    · obtain ⟨⟨n', k'⟩, h1, h2⟩ := Option.map_eq_some_iff.1 h
      injection h2 with h2 h3
      subst h3
      have := numFrom_len fuel (i + 1) l n' k' h1
      simp only [List.length_cons]; omega
theorem numP_ok {bs : List Nat} {at_ n at' : Nat} (h : numP bs at_ = .ok (n, at')) : at_ < at' ∧ at' ≤ bs.length := by
  unfold numP at h
  split at h
  · cases h
  · rename_i n' k' hk
    injection h with h; injection h with h1 h2
    have h3 := numFrom_len _ _ _ _ _ hk
    rw [List.length_drop] at h3
    omega
theorem numFrom_lt : ∀ (fuel i : Nat) (l : List Nat) (n k : Nat), (∀ c ∈ l, c < 256) → fuel + i = 10 → numFrom fuel i l = some (n, k) → n < 18446744073709551616 ∧ n % 128 ^ i = 0
  | 0, _, _, _, _, _, _, h => by cases h
  | _ + 1, _, [], _, _, _, _, h => by cases h
  | fuel + 1, i, c :: l, n, k, hl, hf, h => by
    unfold numFrom at h
    split at h
    · cases h
    rename_i hno
    have hi : i ≤ 9 := by omega
    have hc := hl c (by simp)
    have hp : 128 ^ i ≤ 128 ^ 9 := Nat.pow_le_pow_right (by omega) hi
    split at h
    · rename_i hlt
      injection h with h; injection h with h1 h2
      subst h1
      refine ⟨?_, by simp⟩
      by_cases h9 : i = 9
      · subst h9
        have : c ≤ 1 := by omega
        have : c * 128 ^ 9 ≤ 1 * 128 ^ 9 := Nat.mul_le_mul_right _ this
        omega
      · have hp8 : 128 ^ i ≤ 128 ^ 8 := Nat.pow_le_pow_right (by omega) (by omega)
        have : c * 128 ^ i ≤ 127 * 128 ^ 8 := Nat.mul_le_mul (by omega) hp8
        omega
    · rename_i hge
      obtain ⟨⟨n', k'⟩, h1, h2⟩ := Option.map_eq_some_iff.1 h
      injection h2 with h2 h3
      subst h2
      have h9 : i ≤ 8 := by
        rcases Nat.lt_or_ge i 9 with h | h
        · omega
        · have : i = 9 := by omega
          omega
      obtain ⟨h4, h5⟩ := numFrom_lt fuel (i + 1) l n' k' (fun c hc => hl c (by simp [hc])) (by omega) h1
      obtain ⟨m, hm⟩ : ∃ m, n' = 128 ^ (i + 1) * m := ⟨n' / 128 ^ (i + 1), by have := Nat.div_add_mod n' (128 ^ (i + 1)); rw [h5] at this; omega⟩
      have hpp : 128 ^ (i + 1) = 128 * 128 ^ i := by rw [Nat.pow_succ, Nat.mul_comm]
      have hcm : c % 128 ≤ 127 := by omega
      have hq : c % 128 * 128 ^ i ≤ 127 * 128 ^ i := Nat.mul_le_mul_right _ hcm
      have hpos : 0 < 128 ^ i := Nat.pow_pos (by omega)
      refine ⟨?_, ?_⟩
      · show c % 128 * 128 ^ i + n' < _
        -- n' is a multiple of 128^(i+1), and so is 2^64
        have h64 : ∃ q, 18446744073709551616 = 128 ^ (i + 1) * q := by
          refine ⟨2 ^ (64 - 7 * (i + 1)), ?_⟩
          rw [show (128 : Nat) = 2 ^ 7 from rfl, ← Nat.pow_mul, ← Nat.pow_add, show 7 * (i + 1) + (64 - 7 * (i + 1)) = 64 by omega]
        obtain ⟨q, hq64⟩ := h64
        have hmq : m < q := by
          rw [hm, hq64] at h4
          exact Nat.lt_of_mul_lt_mul_left h4
        have h6 : 128 ^ (i + 1) * (m + 1) ≤ 128 ^ (i + 1) * q := Nat.mul_le_mul_left _ hmq
        rw [Nat.mul_add, Nat.mul_one, ← hm, ← hq64] at h6
        omega
      · show (c % 128 * 128 ^ i + n') % 128 ^ i = 0
        rw [hm, hpp, show 128 * 128 ^ i * m = 128 ^ i * (128 * m) by rw [Nat.mul_comm 128, Nat.mul_assoc]]
        simp
theorem numP_u64 {bs : List Nat} (hl : ∀ c ∈ bs, c < 256) {at_ n at' : Nat} (h : numP bs at_ = .ok (n, at')) : n < 18446744073709551616 := by
  unfold numP at h
  split at h
  · cases h
  · rename_i n' k' hk
    injection h with h; injection h with h1 h2
    subst h1
    exact (numFrom_lt 10 0 _ _ _ (fun c hc => hl c (List.mem_of_mem_drop hc)) rfl hk).1
end Go.Proofs.Ytdegfnejhamejaa
