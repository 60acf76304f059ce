/-
  scan.Word, ref03.Word; scan.Name, ref03.Name.
-/
import Derived.Test.YtgaodjoddfjfmaaDoorNWord
import Derived.Great.BuildSlice
namespace Go.Proofs.YtgaodjoddfjfmaaDoor
open Go.RowKit
set_option linter.unusedVariables false
set_option linter.unusedSimpArgs false

/-- The two tables of utf8, and the number that bytealg keeps. -/
def TabW (w : World) : Prop := Tabs w ∧ ∃ m, w.cell? ⟨3, 0, none⟩ = some (.int .i64 m)
theorem TabW.keep0 {w w' : World} (h : TabW w) (hc : Chg (fun _ _ => False) w w') : TabW w' := ⟨h.1.keep0 hc, by obtain ⟨m, hm⟩ := h.2; exact ⟨m, hc.cell hm fun _ => id⟩⟩
set_option maxRecDepth 100000 in
set_option maxHeartbeats 1000000 in
theorem sword_any (s : ByteArray) (w : World) (hs : s.size ≤ 1048576) (hT : TabW w) : Calls Tryd.prog 68 #[.string s] w fun e w' => e = .returned (.bool (wordB s)) ∧ w' = w := by
  obtain ⟨_, m, hm⟩ := hT
  have HW := Lib.hid (word_law s)
  by_cases he : s = ⟨#[]⟩
  · have q1 : s.toList.isEmpty = true := strE_true he
    have HE := Lib.hid (show s.data.toList.isEmpty = true by rw [he]; rfl)
    clear he
    go_enter Tryd.func68, Tryd.ntmps68
    go_wp2_with fail
    go_ret
    exact ⟨by rw [HW.out, HE.out]; rfl, rfl⟩
  · have q1 : s.toList.isEmpty = false := strE_false he
    have HE := Lib.hid (show s.data.toList.isEmpty = false from by
      cases h : s.data.toList with
      | nil => exact absurd (by cases s; congr 1; exact Array.ext' h) he
      | cons b l => rfl)
    clear he
    have h1 := Tryd.strings_Contains_one s 32 w
    have h2 := Tryd.strings_Contains ⟨wordsS.toArray⟩ (⟨#[32]⟩ ++ s ++ ⟨#[32]⟩) m w (by decide) hm
    rw [show decide (0 ≤ Lib.indexByte s.data.toList 32) = Lib.contains s.data.toList [32] by unfold Lib.contains; rw [Lib.index_one]] at h1
    rw [show (⟨#[32]⟩ ++ s ++ ⟨#[32]⟩ : ByteArray).data.toList = 32 :: s.data.toList ++ [32] by simp [ByteArray.data_append]] at h2
    rw [show (⟨wordsS.toArray⟩ : ByteArray).data.toList = wordsS from rfl] at h2
    generalize Lib.contains s.data.toList [32] = b1 at h1 HW
    generalize Lib.contains wordsS (32 :: s.data.toList ++ [32]) = b2 at h2 HW
    go_enter Tryd.func68, Tryd.ntmps68
    cases b1 with
    | true =>
      go_wp2_with (go_at_call 79; refine h1.mono ?_; rintro e w' ⟨rfl, rfl⟩)
      go_ret
      exact ⟨by rw [HW.out, HE.out]; rfl, rfl⟩
    | false =>
      go_wp2_with fail
      refine h1.mono fun e w' h => ?_
      obtain ⟨rfl, rfl⟩ := h
      clear h1
      go_wp2_with fail
      refine h2.mono fun e w' h => ?_
      obtain ⟨rfl, rfl⟩ := h
      clear h2
      go_wp2_with fail
      go_ret
      exact ⟨by rw [HW.out, HE.out]; rfl, rfl⟩
def inRel (l : List ByteArray) (s : ByteArray) (W : World) (i : Value) (wr : World) : Prop := ∃ k : Nat, k ≤ l.length ∧ i = .int .i64 k ∧ s ∉ l.take k ∧ wr = W
set_option maxRecDepth 100000 in
theorem in3_any (w : World) (l : List ByteArray) (s : ByteArray) (g c : Nat) (hb : ∀ k x, l[k]? = some x → w.cell? ⟨g, k, none⟩ = some (.string x)) (hlen : l.length ≤ 2097152) :
    Calls Tryd.prog 66 #[.slice (some ⟨g, 0, none⟩) l.length c, .string s] w fun e w' => ∃ b, e = .returned (.bool b) ∧ (b = true ↔ s ∈ l) ∧ w' = w := by
  have HL := Lib.hid hb
  clear hb
  go_enter Tryd.func66, Tryd.ntmps66
  go_wp2_with fail
  go_loopw [5] (fun i wr => inRel l s w i wr) (fun i _ => l.length - (intOf i).toNat)
  case atStart => exact ⟨0, Nat.zero_le _, rfl, by simp, rfl⟩
  case round =>
    obtain ⟨k, hk, rfl, hs, rfl⟩ := hrel
    have q3 : IntKind.i64.wrap ((k : Int) + 1) = (k : Int) + 1 := IntWalk.i64_in _ ⟨by omega, by omega⟩
    by_cases hlt : k < l.length
    · have q1 : decide (k < l.length) = true := decide_eq_true hlt
      have q2 : (k : Int) < (l.length : Int) := by omega
      obtain ⟨x, hkx⟩ : ∃ x, l[k]? = some x := ⟨_, List.getElem?_eq_getElem hlt⟩
      have z0 := HL.out k x hkx
      have HK := Lib.hid (And.intro hs hkx)
      clear hs hkx
      by_cases he : x = s
      · have q5 := str_eq he
        replace he := Lib.hid he
        go_wp2_with fail
        go_ret
        exact ⟨true, rfl, ⟨fun _ => he.out ▸ List.mem_of_getElem? HK.out.2, fun _ => rfl⟩, rfl⟩
      · have q5 := str_ne he
        replace he := Lib.hid he
        go_wp2_with fail
        go_roundw
        case rel =>
          obtain ⟨h1, h2⟩ := List.getElem?_eq_some_iff.1 HK.out.2
          refine ⟨k + 1, hlt, by simp, ?_, rfl⟩
          rw [List.take_succ_eq_append_getElem h1, h2, List.mem_append]
          rintro (h | h)
          · exact HK.out.1 h
          · simp at h; exact he.out h.symm
        case measure => simp [intOf]; omega
    · have q1 : decide (k < l.length) = false := decide_eq_false hlt
      obtain rfl : k = l.length := by omega
      rw [List.take_length] at hs
      have HK := Lib.hid hs
      clear hs
      go_wp2_with fail
      go_ret
      exact ⟨false, rfl, ⟨fun h => absurd h (by decide), fun h => absurd h HK.out⟩, rfl⟩
set_option maxRecDepth 100000 in
set_option maxHeartbeats 1000000 in
theorem rword_any (s : ByteArray) (w : World) : Calls Tryd.prog 53 #[.string s] w fun e w' => e = .returned (.bool (wordB s)) ∧ Chg (fun _ _ => False) w w' := by
  have hb := Blk.new w 9 #[.string ⟨#[102, 117, 110, 99]⟩, .string ⟨#[116, 121, 112, 101]⟩, .string ⟨#[115, 116, 114, 117, 99, 116]⟩, .string ⟨#[105, 102]⟩, .string ⟨#[101, 108, 115, 101]⟩, .string ⟨#[102, 111, 114]⟩, .string ⟨#[98, 114, 101, 97, 107]⟩, .string ⟨#[99, 111, 110, 116, 105, 110, 117, 101]⟩, .string ⟨#[114, 101, 116, 117, 114, 110]⟩, .string ⟨#[103, 111]⟩, .string ⟨#[100, 101, 102, 101, 114]⟩, .string ⟨#[115, 101, 108, 101, 99, 116]⟩, .string ⟨#[99, 97, 115, 101]⟩, .string ⟨#[100, 101, 102, 97, 117, 108, 116]⟩, .string ⟨#[99, 104, 97, 110]⟩, .string ⟨#[118, 97, 114]⟩, .string ⟨#[116, 114, 117, 101]⟩, .string ⟨#[102, 97, 108, 115, 101]⟩]
  have hc := chg_alloc w (.cells #[.string ⟨#[102, 117, 110, 99]⟩, .string ⟨#[116, 121, 112, 101]⟩, .string ⟨#[115, 116, 114, 117, 99, 116]⟩, .string ⟨#[105, 102]⟩, .string ⟨#[101, 108, 115, 101]⟩, .string ⟨#[102, 111, 114]⟩, .string ⟨#[98, 114, 101, 97, 107]⟩, .string ⟨#[99, 111, 110, 116, 105, 110, 117, 101]⟩, .string ⟨#[114, 101, 116, 117, 114, 110]⟩, .string ⟨#[103, 111]⟩, .string ⟨#[100, 101, 102, 101, 114]⟩, .string ⟨#[115, 101, 108, 101, 99, 116]⟩, .string ⟨#[99, 97, 115, 101]⟩, .string ⟨#[100, 101, 102, 97, 117, 108, 116]⟩, .string ⟨#[99, 104, 97, 110]⟩, .string ⟨#[118, 97, 114]⟩, .string ⟨#[116, 114, 117, 101]⟩, .string ⟨#[102, 97, 108, 115, 101]⟩] 9)
  have hcall := in3_any (w.alloc (.cells #[.string ⟨#[102, 117, 110, 99]⟩, .string ⟨#[116, 121, 112, 101]⟩, .string ⟨#[115, 116, 114, 117, 99, 116]⟩, .string ⟨#[105, 102]⟩, .string ⟨#[101, 108, 115, 101]⟩, .string ⟨#[102, 111, 114]⟩, .string ⟨#[98, 114, 101, 97, 107]⟩, .string ⟨#[99, 111, 110, 116, 105, 110, 117, 101]⟩, .string ⟨#[114, 101, 116, 117, 114, 110]⟩, .string ⟨#[103, 111]⟩, .string ⟨#[100, 101, 102, 101, 114]⟩, .string ⟨#[115, 101, 108, 101, 99, 116]⟩, .string ⟨#[99, 97, 115, 101]⟩, .string ⟨#[100, 101, 102, 97, 117, 108, 116]⟩, .string ⟨#[99, 104, 97, 110]⟩, .string ⟨#[118, 97, 114]⟩, .string ⟨#[116, 114, 117, 101]⟩, .string ⟨#[102, 97, 108, 115, 101]⟩] 9)) wordsB s w.heap.size 18 (fun k x hk => by
    rw [hb.cell]
    have hk18 : k < 18 := (List.getElem?_eq_some_iff.1 hk).1
    match k, hk18 with
    | 0, _ => rw [← Option.some.inj (show wordsB[0]? = some _ from rfl |>.symm.trans hk)]; rfl
    | 1, _ => rw [← Option.some.inj (show wordsB[1]? = some _ from rfl |>.symm.trans hk)]; rfl
    | 2, _ => rw [← Option.some.inj (show wordsB[2]? = some _ from rfl |>.symm.trans hk)]; rfl
    | 3, _ => rw [← Option.some.inj (show wordsB[3]? = some _ from rfl |>.symm.trans hk)]; rfl
    | 4, _ => rw [← Option.some.inj (show wordsB[4]? = some _ from rfl |>.symm.trans hk)]; rfl
    | 5, _ => rw [← Option.some.inj (show wordsB[5]? = some _ from rfl |>.symm.trans hk)]; rfl
    | 6, _ => rw [← Option.some.inj (show wordsB[6]? = some _ from rfl |>.symm.trans hk)]; rfl
    | 7, _ => rw [← Option.some.inj (show wordsB[7]? = some _ from rfl |>.symm.trans hk)]; rfl
    | 8, _ => rw [← Option.some.inj (show wordsB[8]? = some _ from rfl |>.symm.trans hk)]; rfl
    | 9, _ => rw [← Option.some.inj (show wordsB[9]? = some _ from rfl |>.symm.trans hk)]; rfl
    | 10, _ => rw [← Option.some.inj (show wordsB[10]? = some _ from rfl |>.symm.trans hk)]; rfl
    | 11, _ => rw [← Option.some.inj (show wordsB[11]? = some _ from rfl |>.symm.trans hk)]; rfl
    | 12, _ => rw [← Option.some.inj (show wordsB[12]? = some _ from rfl |>.symm.trans hk)]; rfl
    | 13, _ => rw [← Option.some.inj (show wordsB[13]? = some _ from rfl |>.symm.trans hk)]; rfl
    | 14, _ => rw [← Option.some.inj (show wordsB[14]? = some _ from rfl |>.symm.trans hk)]; rfl
    | 15, _ => rw [← Option.some.inj (show wordsB[15]? = some _ from rfl |>.symm.trans hk)]; rfl
    | 16, _ => rw [← Option.some.inj (show wordsB[16]? = some _ from rfl |>.symm.trans hk)]; rfl
    | 17, _ => rw [← Option.some.inj (show wordsB[17]? = some _ from rfl |>.symm.trans hk)]; rfl) (by decide)
  have HC := Lib.hid hc
  clear hb hc
  go_enter Tryd.func53, Tryd.ntmps53
  go_wp2_with fail
  refine hcall.mono fun e w' h => ?_
  obtain ⟨b, rfl, hb, rfl⟩ := h
  clear hcall
  have HB := Lib.hid hb
  clear hb
  go_wp2_with fail
  go_ret
  refine ⟨?_, HC.out⟩
  have : wordB s = b := by
    unfold wordB
    by_cases h : s ∈ wordsB
    · rw [HB.out.2 h]; simp [h]
    · cases b with
      | true => exact absurd (HB.out.1 rfl) h
      | false => simp [h]
  rw [this]
  rfl
/-- A name that is no word. -/
noncomputable def nameW (s : ByteArray) : Bool := nameOK s && !wordB s
set_option maxRecDepth 100000 in
theorem sname_any (s : ByteArray) (w : World) (hs : s.size ≤ 1048576) (hT : TabW w) : Calls Tryd.prog 54 #[.string s] w fun e w' => e = .returned (.bool (nameW s)) ∧ Chg (fun _ _ => False) w w' := by
  have h1 := name_any s w (by omega) hT.1
  have HW := Lib.hid (show nameW s = (nameOK s && !wordB s) from rfl)
  generalize nameW s = r at HW ⊢
  have HT := Lib.hid hT
  clear hT
  go_enter Tryd.func54, Tryd.ntmps54
  cases hn : nameOK s with
  | true =>
    rw [hn] at h1
    have HN := Lib.hid hn
    clear hn
    go_wp2_with fail
    refine h1.mono fun e w1 h => ?_
    obtain ⟨rfl, hc1⟩ := h
    clear h1
    have h2 := sword_any s w1 hs (HT.out.keep0 hc1)
    have HC := Lib.hid hc1
    clear hc1
    go_wp2_with fail
    refine h2.mono fun e w2 h => ?_
    obtain ⟨rfl, rfl⟩ := h
    clear h2
    go_wp2_with fail
    go_ret
    exact ⟨by rw [HW.out, HN.out]; simp, HC.out⟩
  | false =>
    rw [hn] at h1
    have HN := Lib.hid hn
    clear hn
    go_wp2_with fail
    refine h1.mono fun e w1 h => ?_
    obtain ⟨rfl, hc1⟩ := h
    clear h1
    go_wp2_with fail
    go_ret
    exact ⟨by rw [HW.out, HN.out]; rfl, hc1⟩
set_option maxRecDepth 100000 in
theorem rname3_any (s : ByteArray) (w : World) : Calls Tryd.prog 42 #[.string s] w fun e w' => e = .returned (.bool (nameW s)) ∧ Chg (fun _ _ => False) w w' := by
  have h1 := rname_any s w
  have HW := Lib.hid (show nameW s = (nameOK s && !wordB s) from rfl)
  generalize nameW s = r at HW ⊢
  go_enter Tryd.func42, Tryd.ntmps42
  cases hn : nameOK s with
  | true =>
    rw [hn] at h1
    have HN := Lib.hid hn
    clear hn
    go_wp2_with fail
    refine h1.mono fun e w1 h => ?_
    obtain ⟨rfl, hc1⟩ := h
    clear h1
    have h2 := rword_any s w1
    have HC := Lib.hid hc1
    clear hc1
    go_wp2_with fail
    refine h2.mono fun e w2 h => ?_
    obtain ⟨rfl, hc2⟩ := h
    clear h2
    go_wp2_with fail
    go_ret
    exact ⟨by rw [HW.out, HN.out]; simp, HC.out.trans hc2⟩
  | false =>
    rw [hn] at h1
    have HN := Lib.hid hn
    clear hn
    go_wp2_with fail
    refine h1.mono fun e w1 h => ?_
    obtain ⟨rfl, hc1⟩ := h
    clear h1
    go_wp2_with fail
    go_ret
    exact ⟨by rw [HW.out, HN.out]; rfl, hc1⟩
end Go.Proofs.YtgaodjoddfjfmaaDoor
