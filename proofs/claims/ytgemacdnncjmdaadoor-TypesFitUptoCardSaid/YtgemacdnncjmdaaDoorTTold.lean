/-
  types.Basic, Told, Text: what a type is called.
-/
import Derived.Lib.Join
import Derived.Test.YtgemacdnncjmdaaDoorTEqual
namespace Go.Proofs.YtgemacdnncjmdaaDoor
open Go.RowKit
set_option linter.unusedVariables false
set_option linter.unusedSimpArgs false

def basicB (k : Int) : ByteArray := (([⟨#[]⟩, ⟨#[98, 111, 111, 108]⟩, ⟨#[105, 110, 116, 56]⟩, ⟨#[117, 105, 110, 116, 56]⟩, ⟨#[105, 110, 116, 51, 50]⟩, ⟨#[117, 105, 110, 116, 51, 50]⟩, ⟨#[105, 110, 116, 54, 52]⟩, ⟨#[117, 105, 110, 116, 54, 52]⟩] : List ByteArray)[k.toNat]?).getD ⟨#[]⟩
def joinB (xs : List ByteArray) : ByteArray := ⟨(Lib.join (xs.map (·.data.toList)) [44, 32]).toArray⟩
/-- What a type is called, so deep. -/
def toldF : Nat → Ty → ByteArray
  | 0, _ => ⟨#[]⟩
  | f + 1, t => if t.kind = 8 ∨ t.kind = 12 then t.name
    else if t.kind = 9 then ⟨#[91, 93]⟩ ++ joinB (t.list.map (toldF f))
    else if t.kind = 10 then ⟨#[99, 104, 97, 110, 32]⟩ ++ joinB (t.list.map (toldF f))
    else if t.kind = 11 then (if t.res.length = 0 then ⟨#[102, 117, 110, 99, 40]⟩ ++ joinB (t.list.map (toldF f)) ++ ⟨#[41]⟩ else (⟨#[102, 117, 110, 99, 40]⟩ ++ joinB (t.list.map (toldF f)) ++ ⟨#[41]⟩) ++ (⟨#[32]⟩ ++ joinB (t.res.map (toldF f))))
    else basicB t.kind
def szT : Nat → Nat
  | 0 => 64
  | f + 1 => 17 * szT f + 100
theorem szT_mono {f g : Nat} (h : f ≤ g) : szT f ≤ szT g := by
  induction h with
  | refl => exact Nat.le_refl _
  | @step m _ ih =>
    have h1 : szT (m + 1) = 17 * szT m + 100 := rfl
    show szT f ≤ szT (m + 1)
    rw [h1]
    omega
theorem szT_9 {f : Nat} (h : f ≤ 9) : szT f ≤ 70368744177664 := Nat.le_trans (szT_mono h) (by decide)
theorem joinTail_len (sep : List UInt8) (r : List (List UInt8)) : (Lib.joinTail sep r).length = r.length * sep.length + (r.map List.length).sum := by
  unfold Lib.joinTail
  rw [List.length_flatten, List.map_map]
  induction r with
  | nil => simp
  | cons x r ih =>
    simp only [List.map_cons, List.sum_cons, Function.comp, List.length_append, List.length_cons] at ih ⊢
    rw [ih, Nat.succ_mul]
    omega
theorem joinB_size (xs : List ByteArray) (S : Nat) (h : ∀ x ∈ xs, x.size ≤ S) : (joinB xs).size ≤ xs.length * (S + 2) := by
  unfold joinB
  show (Lib.join (xs.map (·.data.toList)) [44, 32]).toArray.size ≤ _
  rw [List.size_toArray]
  cases xs with
  | nil => simp [Lib.join_nil]
  | cons x r =>
    rw [List.map_cons, Lib.join_cons, List.length_append, joinTail_len, List.length_map]
    have h1 : x.data.toList.length ≤ S := by rw [Array.length_toList]; exact h x (by simp)
    have h2 : ∀ r : List ByteArray, (∀ x ∈ r, x.size ≤ S) → ((r.map (·.data.toList)).map List.length).sum ≤ r.length * S := by
      intro r
      induction r with
      | nil => intro _; simp
      | cons y r ih =>
        intro hr
        have k1 : y.data.toList.length ≤ S := by rw [Array.length_toList]; exact hr y (by simp)
        have k2 := ih fun z hz => hr z (by simp [hz])
        simp only [List.map_cons, List.sum_cons, List.length_cons, Nat.succ_mul]
        omega
    have h3 := h2 r fun y hy => h y (by simp [hy])
    simp only [List.length_cons, List.length_nil, Nat.succ_mul, Nat.mul_add]
    simp only [List.map_map] at h3 ⊢
    omega
theorem lookL_all {g : Ty → Option (Nat × Nat)} : ∀ {l : List Ty} {p : Nat × Nat}, lookL g l = some p → ∀ x ∈ l, (g x).isSome = true
  | [], p, h, x, hx => by cases hx
  | t :: l, p, h, x, hx => by
    simp only [lookL] at h
    cases h1 : g t with
    | none => rw [h1] at h; cases h
    | some q =>
      cases h2 : lookL g l with
      | none => rw [h1, h2] at h; cases h
      | some q' =>
        rcases List.mem_cons.1 hx with rfl | hx
        · rw [h1]; rfl
        · exact lookL_all h2 x hx
theorem lookT_open {f : Nat} {t : Ty} (h : (lookT (f + 1) t).isSome = true) : shapeT t = true ∧ ∀ x ∈ t.inner, (lookT f x).isSome = true := by
  have hs : shapeT t = true := by
    cases hs : shapeT t with
    | true => rfl
    | false => rw [lookT_shape hs] at h; cases h
  refine ⟨hs, ?_⟩
  cases hl : lookL (lookT f) t.inner with
  | none => rw [lookT_bad hl] at h; cases h
  | some p => exact lookL_all hl
theorem mem_list {t x : Ty} (h : x ∈ t.list) : x ∈ t.inner := by simp [Ty.inner, h]
theorem mem_res {t x : Ty} (h : x ∈ t.res) : x ∈ t.inner := by simp [Ty.inner, h]
/-- What a shape says of kinds and lengths. -/
theorem shape_kind {t : Ty} (h : shapeT t = true) : (t.kind = 8 ∧ t.name.size ≤ 64) ∨ ((t.kind = 9 ∨ t.kind = 10) ∧ t.list.length = 1) ∨ (t.kind = 11 ∧ t.list.length ≤ 16 ∧ t.res.length ≤ 1) ∨ (t.kind = 12 ∧ t.name.size ≤ 64) ∨ (1 ≤ t.kind ∧ t.kind ≤ 7) := by
  have hn : nameOK t.name = true → t.name.size ≤ 64 := by
    intro h
    unfold nameOK at h
    simp only [Bool.and_eq_true, decide_eq_true_eq] at h
    exact h.1.2
  by_cases h8 : t.kind = 8
  · rw [shape8 h8] at h
    simp only [Bool.and_eq_true] at h
    exact .inl ⟨h8, hn h.1.1.1.2⟩
  · by_cases h9 : t.kind = 9 ∨ t.kind = 10
    · rw [shape9 h9] at h
      simp only [Bool.and_eq_true, decide_eq_true_eq] at h
      exact .inr (.inl ⟨h9, h.2⟩)
    · by_cases h11 : t.kind = 11
      · rw [shape11 h11] at h
        simp only [Bool.and_eq_true, decide_eq_true_eq] at h
        exact .inr (.inr (.inl ⟨h11, h.1.2, h.2⟩))
      · by_cases h12 : t.kind = 12
        · rw [shape12 h12] at h
          simp only [Bool.and_eq_true] at h
          exact .inr (.inr (.inr (.inl ⟨h12, hn h.1.2⟩)))
        · rw [shape0 h8 (fun h => h9 (.inl h)) (fun h => h9 (.inr h)) h11 h12] at h
          simp only [Bool.and_eq_true, decide_eq_true_eq] at h
          exact .inr (.inr (.inr (.inr h.1)))
theorem basicB_size (k : Int) (h : 1 ≤ k ∧ k ≤ 7) : (basicB k).size ≤ 64 := by
  obtain ⟨n, rfl⟩ : ∃ n : Nat, k = n := ⟨k.toNat, by omega⟩
  have hn : n = 1 ∨ n = 2 ∨ n = 3 ∨ n = 4 ∨ n = 5 ∨ n = 6 ∨ n = 7 := by omega
  rcases hn with rfl | rfl | rfl | rfl | rfl | rfl | rfl <;> decide
theorem toldF_size : ∀ {f : Nat} {t : Ty}, (lookT f t).isSome = true → (toldF f t).size ≤ szT f
  | 0, t, h => by cases h
  | f + 1, t, h => by
    obtain ⟨hs, hin⟩ := lookT_open h
    have hl : ∀ x ∈ t.list.map (toldF f), x.size ≤ szT f := by
      intro x hx
      obtain ⟨y, hy, rfl⟩ := List.mem_map.1 hx
      exact toldF_size (hin y (mem_list hy))
    have hr : ∀ x ∈ t.res.map (toldF f), x.size ≤ szT f := by
      intro x hx
      obtain ⟨y, hy, rfl⟩ := List.mem_map.1 hx
      exact toldF_size (hin y (mem_res hy))
    have kl := joinB_size _ _ hl
    have kr := joinB_size _ _ hr
    rw [List.length_map] at kl kr
    have h64 : szT (f + 1) = 17 * szT f + 100 := rfl
    unfold toldF
    rcases shape_kind hs with ⟨hk, hn⟩ | ⟨hk, hn⟩ | ⟨hk, h1, h2⟩ | ⟨hk, hn⟩ | hk
    · rw [if_pos (.inl hk)]; omega
    · rw [hn] at kl
      rw [if_neg (by omega)]
      by_cases h9 : t.kind = 9
      · rw [if_pos h9, ByteArray.size_append]
        show 2 + _ ≤ _
        omega
      · rw [if_neg h9, if_pos (by omega), ByteArray.size_append]
        show 5 + _ ≤ _
        omega
    · have k1 : t.list.length * (szT f + 2) ≤ 16 * (szT f + 2) := Nat.mul_le_mul_right _ h1
      have k2 : t.res.length * (szT f + 2) ≤ 1 * (szT f + 2) := Nat.mul_le_mul_right _ h2
      rw [if_neg (by omega), if_neg (by omega), if_neg (by omega), if_pos hk]
      split
      · rw [ByteArray.size_append, ByteArray.size_append]
        show 5 + _ + 1 ≤ _
        omega
      · rw [ByteArray.size_append, ByteArray.size_append, ByteArray.size_append, ByteArray.size_append]
        show 5 + _ + 1 + (1 + _) ≤ _
        omega
    · rw [if_pos (.inr hk)]; omega
    · have := basicB_size t.kind hk
      rw [if_neg (by omega), if_neg (by omega), if_neg (by omega), if_neg (by omega)]
      omega

set_option maxRecDepth 100000 in
set_option maxHeartbeats 1000000 in
theorem basic_any (k : Int) (h : 1 ≤ k ∧ k ≤ 7) (w : World) : Calls Tryd.prog 61 #[.int .i64 k] w fun e w' => e = .returned (.string (basicB k)) ∧ w' = w := by
  obtain ⟨n, rfl⟩ : ∃ n : Nat, k = n := ⟨k.toNat, by omega⟩
  have hn : n = 1 ∨ n = 2 ∨ n = 3 ∨ n = 4 ∨ n = 5 ∨ n = 6 ∨ n = 7 := by omega
  clear h
  rcases hn with hn | hn
  · subst hn
    have hix : ∀ w, (Instr.index 109 (.agg #[.string ⟨#[]⟩, .string ⟨#[98, 111, 111, 108]⟩, .string ⟨#[105, 110, 116, 56]⟩, .string ⟨#[117, 105, 110, 116, 56]⟩, .string ⟨#[105, 110, 116, 51, 50]⟩, .string ⟨#[117, 105, 110, 116, 51, 50]⟩, .string ⟨#[105, 110, 116, 54, 52]⟩, .string ⟨#[117, 105, 110, 116, 54, 52]⟩]) (.int .i64 1)).run Tryd.prog w = .ok (.string (basicB 1)) w := fun w => by
      simp [Instr.index, run_underlying Tryd.underlying109, asIntOf, go_sem, part, basicB]
    go_enter Tryd.func61, Tryd.ntmps61
    go_wp2_with fail
    go_ret
    exact ⟨rfl, rfl⟩
  · rcases hn with hn | hn
    · subst hn
      have hix : ∀ w, (Instr.index 109 (.agg #[.string ⟨#[]⟩, .string ⟨#[98, 111, 111, 108]⟩, .string ⟨#[105, 110, 116, 56]⟩, .string ⟨#[117, 105, 110, 116, 56]⟩, .string ⟨#[105, 110, 116, 51, 50]⟩, .string ⟨#[117, 105, 110, 116, 51, 50]⟩, .string ⟨#[105, 110, 116, 54, 52]⟩, .string ⟨#[117, 105, 110, 116, 54, 52]⟩]) (.int .i64 2)).run Tryd.prog w = .ok (.string (basicB 2)) w := fun w => by
        simp [Instr.index, run_underlying Tryd.underlying109, asIntOf, go_sem, part, basicB]
      go_enter Tryd.func61, Tryd.ntmps61
      go_wp2_with fail
      go_ret
      exact ⟨rfl, rfl⟩
    · rcases hn with hn | hn
      · subst hn
        have hix : ∀ w, (Instr.index 109 (.agg #[.string ⟨#[]⟩, .string ⟨#[98, 111, 111, 108]⟩, .string ⟨#[105, 110, 116, 56]⟩, .string ⟨#[117, 105, 110, 116, 56]⟩, .string ⟨#[105, 110, 116, 51, 50]⟩, .string ⟨#[117, 105, 110, 116, 51, 50]⟩, .string ⟨#[105, 110, 116, 54, 52]⟩, .string ⟨#[117, 105, 110, 116, 54, 52]⟩]) (.int .i64 3)).run Tryd.prog w = .ok (.string (basicB 3)) w := fun w => by
          simp [Instr.index, run_underlying Tryd.underlying109, asIntOf, go_sem, part, basicB]
        go_enter Tryd.func61, Tryd.ntmps61
        go_wp2_with fail
        go_ret
        exact ⟨rfl, rfl⟩
      · rcases hn with hn | hn
        · subst hn
          have hix : ∀ w, (Instr.index 109 (.agg #[.string ⟨#[]⟩, .string ⟨#[98, 111, 111, 108]⟩, .string ⟨#[105, 110, 116, 56]⟩, .string ⟨#[117, 105, 110, 116, 56]⟩, .string ⟨#[105, 110, 116, 51, 50]⟩, .string ⟨#[117, 105, 110, 116, 51, 50]⟩, .string ⟨#[105, 110, 116, 54, 52]⟩, .string ⟨#[117, 105, 110, 116, 54, 52]⟩]) (.int .i64 4)).run Tryd.prog w = .ok (.string (basicB 4)) w := fun w => by
            simp [Instr.index, run_underlying Tryd.underlying109, asIntOf, go_sem, part, basicB]
          go_enter Tryd.func61, Tryd.ntmps61
          go_wp2_with fail
          go_ret
          exact ⟨rfl, rfl⟩
        · rcases hn with hn | hn
          · subst hn
            have hix : ∀ w, (Instr.index 109 (.agg #[.string ⟨#[]⟩, .string ⟨#[98, 111, 111, 108]⟩, .string ⟨#[105, 110, 116, 56]⟩, .string ⟨#[117, 105, 110, 116, 56]⟩, .string ⟨#[105, 110, 116, 51, 50]⟩, .string ⟨#[117, 105, 110, 116, 51, 50]⟩, .string ⟨#[105, 110, 116, 54, 52]⟩, .string ⟨#[117, 105, 110, 116, 54, 52]⟩]) (.int .i64 5)).run Tryd.prog w = .ok (.string (basicB 5)) w := fun w => by
              simp [Instr.index, run_underlying Tryd.underlying109, asIntOf, go_sem, part, basicB]
            go_enter Tryd.func61, Tryd.ntmps61
            go_wp2_with fail
            go_ret
            exact ⟨rfl, rfl⟩
          · rcases hn with hn | hn
            · subst hn
              have hix : ∀ w, (Instr.index 109 (.agg #[.string ⟨#[]⟩, .string ⟨#[98, 111, 111, 108]⟩, .string ⟨#[105, 110, 116, 56]⟩, .string ⟨#[117, 105, 110, 116, 56]⟩, .string ⟨#[105, 110, 116, 51, 50]⟩, .string ⟨#[117, 105, 110, 116, 51, 50]⟩, .string ⟨#[105, 110, 116, 54, 52]⟩, .string ⟨#[117, 105, 110, 116, 54, 52]⟩]) (.int .i64 6)).run Tryd.prog w = .ok (.string (basicB 6)) w := fun w => by
                simp [Instr.index, run_underlying Tryd.underlying109, asIntOf, go_sem, part, basicB]
              go_enter Tryd.func61, Tryd.ntmps61
              go_wp2_with fail
              go_ret
              exact ⟨rfl, rfl⟩
            · subst hn
              have hix : ∀ w, (Instr.index 109 (.agg #[.string ⟨#[]⟩, .string ⟨#[98, 111, 111, 108]⟩, .string ⟨#[105, 110, 116, 56]⟩, .string ⟨#[117, 105, 110, 116, 56]⟩, .string ⟨#[105, 110, 116, 51, 50]⟩, .string ⟨#[117, 105, 110, 116, 51, 50]⟩, .string ⟨#[105, 110, 116, 54, 52]⟩, .string ⟨#[117, 105, 110, 116, 54, 52]⟩]) (.int .i64 7)).run Tryd.prog w = .ok (.string (basicB 7)) w := fun w => by
                simp [Instr.index, run_underlying Tryd.underlying109, asIntOf, go_sem, part, basicB]
              go_enter Tryd.func61, Tryd.ntmps61
              go_wp2_with fail
              go_ret
              exact ⟨rfl, rfl⟩
end Go.Proofs.YtgemacdnncjmdaaDoor
