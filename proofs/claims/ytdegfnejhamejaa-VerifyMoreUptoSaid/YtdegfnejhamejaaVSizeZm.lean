/-
  size: how many instructions a module has.
-/
import Derived.Test.YtdegfnejhamejaaVMoreN2Zm
namespace Go.Proofs.Ytdegfnejhamejaa
open Go.RowKit
set_option linter.unusedVariables false
set_option linter.unusedSimpArgs false

def sizeRel (m : ModD) (w1 : World) (n i : Value) (wr : World) : Prop := ∃ j : Nat, j ≤ m.funcs.length ∧ n = .int .i64 (codeAll (m.funcs.take j) : Int) ∧ i = .int .i64 j ∧ wr = w1
theorem codeAll_more1 {l : List FuncD} {j : Nat} {f : FuncD} (hf : l[j]? = some f) : codeAll (l.take (j + 1)) = codeAll (l.take j) + f.code.length := by
  unfold codeAll
  rw [List.take_add_one, hf, List.map_append, List.sum_append]
  simp
theorem codeAll_upto (l : List FuncD) (j : Nat) : codeAll (l.take j) ≤ codeAll l := by
  unfold codeAll
  conv => rhs; rw [← List.take_append_drop j l, List.map_append, List.sum_append]
  omega
theorem codeAll_sum : ∀ l : List FuncD, codeAll l ≤ (l.map cFunc).sum ∧ l.length ≤ (l.map cFunc).sum
  | [] => ⟨Nat.le_refl _, Nat.le_refl _⟩
  | f :: l => by
    have h := codeAll_sum l
    have h2 : f.code.length ≤ (f.code.map cInstr).sum := len_le_sum cInstr (fun _ => by unfold cInstr; omega) _
    have h3 : (f.code.map cInstr).sum + 1 ≤ cFunc f := by unfold cFunc; omega
    unfold codeAll at h ⊢
    simp only [List.map_cons, List.sum_cons, List.length_cons]
    omega
theorem codeAll_cost (m : ModD) : codeAll m.funcs ≤ cMod m ∧ m.funcs.length ≤ cMod m := by
  have := codeAll_sum m.funcs
  unfold cMod
  omega
set_option maxRecDepth 100000 in
set_option maxHeartbeats 4000000 in
theorem vsize_any (w : World) (B : Nat) (v : Value) (m : ModD) (hm : ModR B w v m) (hn : cMod m ≤ 1099511627776) :
    Calls Try.prog 12 #[v] w fun e w' => e = .returned (.int .i64 (codeAll m.funcs : Int)) ∧ Chg (fun _ _ => False) w w' := by
  obtain ⟨A, c, A', c', rfl, hT, hF⟩ := hm
  have hb0 := Blk.new w 25 #[.slice A m.types.length c, .slice A' m.funcs.length c']
  have hc0 := chg_alloc w (.cells #[.slice A m.types.length c, .slice A' m.funcs.length c'] 25)
  have hF0 := hF.keep hc0 (fun _ _ _ h => h)
  have y1 : (w.alloc (.cells #[.slice A m.types.length c, .slice A' m.funcs.length c'] 25)).cell? ⟨w.heap.size, 1, none⟩ = some (.slice A' m.funcs.length c') := by simp
  have hcost := codeAll_cost m
  clear hT hF hb0
  go_enter Try.func12, Try.ntmps12
  go_wp2_with fail
  generalize (w.alloc (.cells #[.slice A m.types.length c, .slice A' m.funcs.length c'] 25)) = W at y1 hF0 hc0 ⊢
  have HC := Lib.hid (And.intro hc0 (And.intro hF0 (And.intro hcost hn)))
  clear hc0 hF0 hcost hn
  go_loopw [3, 4] (fun n i wr => sizeRel m W n i wr) (fun _ i _ => m.funcs.length - (intOf i).toNat)
  case atStart => exact ⟨0, Nat.zero_le _, rfl, rfl, rfl⟩
  case round =>
    obtain ⟨j, hj, rfl, rfl, rfl⟩ := hrel
    have hl1 := codeAll_upto m.funcs j
    have q3 : IntKind.i64.wrap ((j : Int) + 1) = (j : Int) + 1 := IntWalk.i64_in _ ⟨by omega, by have := HC.out.2.2; omega⟩
    by_cases hlt : j < m.funcs.length
    · have q1 : decide (j < m.funcs.length) = true := decide_eq_true hlt
      have q2 : (j : Int) < (m.funcs.length : Int) := by omega
      obtain ⟨fb, fo, f, F1, f1, F2, f2, F3, f3, rfl, hf, _, _, _, _, _, _, _, _, _, g4⟩ := HC.out.2.1.at_ (k := j) hlt
      have hsn := codeAll_more1 hf
      have hl2 := codeAll_upto m.funcs (j + 1)
      have q4 : IntKind.i64.wrap ((codeAll (m.funcs.take j) : Int) + (f.code.length : Int)) = (codeAll (m.funcs.take (j + 1)) : Int) := by rw [show (codeAll (m.funcs.take j) : Int) + (f.code.length : Int) = (codeAll (m.funcs.take (j + 1)) : Int) by omega]; exact IntWalk.i64_in _ ⟨by omega, by have := HC.out.2.2; omega⟩
      clear hsn hl2 hf hl1
      go_wp2_with fail
      go_roundw
      case rel => exact ⟨j + 1, hlt, rfl, by simp, rfl⟩
      case measure => simp [intOf]; omega
    · have q1 : decide (j < m.funcs.length) = false := decide_eq_false hlt
      have hall : codeAll (m.funcs.take j) = codeAll m.funcs := by rw [List.take_of_length_le (by omega)]
      have HA := Lib.hid hall
      clear hall hl1
      go_wp2_with fail
      go_ret
      exact ⟨by rw [← HA.out]; rfl, HC.out.1⟩
end Go.Proofs.Ytdegfnejhamejaa
