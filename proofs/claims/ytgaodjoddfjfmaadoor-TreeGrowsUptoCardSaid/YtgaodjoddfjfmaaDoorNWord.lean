/-
  Words of the language: scan.Word, ref03.Word; names that are no words.
-/
import Derived.Test.YtgaodjoddfjfmaaDoorNName2
import Derived.Test.YtgaodjoddfjfmaaDoorNNames
import Derived.Lib.IndexMore
namespace Go.Proofs.YtgaodjoddfjfmaaDoor
open Go.RowKit
set_option linter.unusedVariables false
set_option linter.unusedSimpArgs false

def wordsS : List UInt8 := [32, 102, 117, 110, 99, 32, 116, 121, 112, 101, 32, 115, 116, 114, 117, 99, 116, 32, 105, 102, 32, 101, 108, 115, 101, 32, 102, 111, 114, 32, 98, 114, 101, 97, 107, 32, 99, 111, 110, 116, 105, 110, 117, 101, 32, 114, 101, 116, 117, 114, 110, 32, 103, 111, 32, 100, 101, 102, 101, 114, 32, 115, 101, 108, 101, 99, 116, 32, 99, 97, 115, 101, 32, 100, 101, 102, 97, 117, 108, 116, 32, 99, 104, 97, 110, 32, 118, 97, 114, 32, 116, 114, 117, 101, 32, 102, 97, 108, 115, 101, 32]
def wordsB : List ByteArray := [⟨#[102, 117, 110, 99]⟩, ⟨#[116, 121, 112, 101]⟩, ⟨#[115, 116, 114, 117, 99, 116]⟩, ⟨#[105, 102]⟩, ⟨#[101, 108, 115, 101]⟩, ⟨#[102, 111, 114]⟩, ⟨#[98, 114, 101, 97, 107]⟩, ⟨#[99, 111, 110, 116, 105, 110, 117, 101]⟩, ⟨#[114, 101, 116, 117, 114, 110]⟩, ⟨#[103, 111]⟩, ⟨#[100, 101, 102, 101, 114]⟩, ⟨#[115, 101, 108, 101, 99, 116]⟩, ⟨#[99, 97, 115, 101]⟩, ⟨#[100, 101, 102, 97, 117, 108, 116]⟩, ⟨#[99, 104, 97, 110]⟩, ⟨#[118, 97, 114]⟩, ⟨#[116, 114, 117, 101]⟩, ⟨#[102, 97, 108, 115, 101]⟩]
noncomputable def wordB (s : ByteArray) : Bool := @decide (s ∈ wordsB) (Classical.propDecidable _)
def nextW (i : Nat) : List UInt8 := ((wordsS.drop i).drop 1).takeWhile (· != 32)
theorem words_all : (List.range 102).all (fun i => wordsS[i]? != some 32 || (nextW i).isEmpty || wordsB.any (fun s => s.data.toList == nextW i)) = true := by kernel_rfl
theorem words_in : wordsB.all (fun s => !s.data.toList.isEmpty && !Lib.contains s.data.toList [32] && Lib.contains wordsS (32 :: s.data.toList ++ [32])) = true := by kernel_rfl
theorem no_space : ∀ {s : List UInt8}, Lib.contains s [32] = false → ∀ b ∈ s, b ≠ 32 := by
  intro s h b hb hb2
  subst hb2
  unfold Lib.contains at h
  have h0 := of_decide_eq_false h
  rcases Lib.index_spec s [32] with ⟨_, hn⟩ | ⟨i, hi, _⟩
  · obtain ⟨l, r, rfl⟩ := List.append_of_mem hb
    have := hn l.length (by simp)
    rw [Lib.occAt] at this
    simp at this
  · omega
theorem take_word {s rest : List UInt8} (h : ∀ b ∈ s, b ≠ 32) : (s ++ 32 :: rest).takeWhile (· != 32) = s := by
  induction s with
  | nil => simp
  | cons b s ih =>
    have hb : (b != 32) = true := by simpa using h b (by simp)
    rw [List.cons_append, List.takeWhile_cons, hb, if_pos rfl, ih fun c hc => h c (by simp [hc])]
/-- A text without a blank that stands between blanks in the row of the words is one of them. -/
theorem word_law (s : ByteArray) : wordB s = (!s.data.toList.isEmpty && !Lib.contains s.data.toList [32] && Lib.contains wordsS (32 :: s.data.toList ++ [32])) := by
  by_cases hw : s ∈ wordsB
  · rw [show wordB s = true by unfold wordB; simp [hw]]
    exact (List.all_eq_true.1 words_in s hw).symm
  · rw [show wordB s = false by unfold wordB; simp [hw]]
    cases he : s.data.toList.isEmpty with
    | true => rfl
    | false =>
      cases hc : Lib.contains s.data.toList [32] with
      | true => rfl
      | false =>
        cases hi : Lib.contains wordsS (32 :: s.data.toList ++ [32]) with
        | false => rfl
        | true =>
          exfalso
          unfold Lib.contains at hi
          have h0 := of_decide_eq_true hi
          rcases Lib.index_spec wordsS (32 :: s.data.toList ++ [32]) with ⟨h1, _⟩ | ⟨i, _, hil, hocc, _⟩
          · omega
          · have hl : wordsS.length = 101 := by kernel_rfl
            unfold Lib.occAt at hocc
            have hpre := hocc
            simp only [beq_iff_eq, List.isPrefixOf_iff_prefix] at hpre
            obtain ⟨r, hr⟩ := hpre
            have hi32 : wordsS[i]? = some 32 := by
              have : (wordsS.drop i)[0]? = some 32 := by rw [← hr]; simp
              rw [List.getElem?_drop] at this
              simpa using this
            have hnx : nextW i = s.data.toList := by
              unfold nextW
              rw [← hr]
              simp only [List.cons_append, List.drop_succ_cons, List.drop_zero, List.append_assoc, List.nil_append]
              exact take_word (no_space hc)
            have hall := List.all_eq_true.1 words_all i (List.mem_range.2 (by omega))
            rw [hi32, hnx, he] at hall
            simp only [bne_self_eq_false, Bool.false_or, List.any_eq_true, beq_iff_eq] at hall
            obtain ⟨x, hx, hxs⟩ := hall
            refine hw ?_
            have : x = s := by
              cases x; cases s
              congr 1
              exact Array.ext' hxs
            exact this ▸ hx
end Go.Proofs.YtgaodjoddfjfmaaDoor
