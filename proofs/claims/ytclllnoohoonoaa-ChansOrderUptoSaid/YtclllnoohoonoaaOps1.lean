/-
  chans: New, Make, Buffer, Drop.
-/
import Derived.Test.YtclllnoohoonoaaDo
namespace Go.Proofs.Ytclllnoohoonoaa
open Go.RowKit
set_option linter.unusedVariables false
set_option linter.unusedSimpArgs false

def NewRes (w : World) (e : Ending) (w' : World) : Prop := ∃ (p : Nat) (G : Nat → Prop), e = .returned (.pointer (some ⟨p, 0, none⟩)) ∧ HubR G w' p ⟨[], []⟩ ∧ (∀ b, G b → w.heap.size ≤ b) ∧ Chg (fun _ _ => False) w w'
theorem ChansI.nil (G : Nat → Prop) (w : World) : ChansI G w none 0 [] := ⟨[], World.ownsRow_nil _ _ _ _, rfl, by simp, by simp, by simp, by simp, by simp [Value.ownBlock]⟩
set_option maxRecDepth 100000 in
theorem new_any (w : World) : Calls Try.prog 19 #[] w (NewRes w) := by
  go_enter Try.func19, Try.ntmps19
  go_wp2_with fail
  go_ret
  refine ⟨_, fun b => b = w.heap.size, rfl, ⟨none, 0, none, 0, Blk.new w 75 #[.slice none 0 0, .slice none 0 0], ChansI.nil _ _, RowR.nil _ _ _ _ _, fun b hb => by simp [Value.ownBlock] at hb, rfl, fun b hb => by rw [hb]; simp⟩, fun b hb => by rw [hb]; exact Nat.le_refl _, chg_alloc _ _⟩
theorem ChansI.push {G : Nat → Prop} {w W w6 : World} {A A6 : Option Addr} {c c6 : Nat} {l : List ChanD} {x : ChanD} {v : Value} {xss : List (List Value)} (how : w.ownsRow 0 78 3 (.slice A l.length c) l.length xss.flatten) (h2 : xss.length = l.length) (h3 : ∀ cs ∈ xss, cs.length = 3) (h4 : ∀ (k : Nat) x cs, l[k]? = some x → xss[k]? = some cs → ChanV w cs x)
    (h5 : ∀ (i j : Nat) ci cj g, xss[i]? = some ci → xss[j]? = some cj → bufOf ci = some g → bufOf cj = some g → i = j) (h6 : ∀ (i : Nat) ci g, xss[i]? = some ci → bufOf ci = some g → G g) (h7 : ∀ g, (Value.slice A l.length c).ownBlock = some g → G g)
    (hc : Chg (fun _ _ => False) w W) (hg : W.grownBy w6 (Value.slice A l.length c).ownBlock) (how6 : w6.ownsRow 0 78 3 (.slice A6 (l.length + 1) c6) (l.length + 1) (xss.flatten ++ [.int .i64 x.size, v, .bool x.shut])) (hi : I64 x.size) (hq : QR W 41 v (u64V x.buf)) (hu : ∀ y ∈ x.buf, U64 y) (hv : ∀ b, v.ownBlock = some b → ¬ G b) :
    ChansI (fun b => G b ∨ v.ownBlock = some b ∨ (Value.slice A6 (l.length + 1) c6).ownBlock = some b) w6 A6 c6 (l ++ [x]) ∧ Chg (fun b t => (Value.slice A l.length c).ownBlock = some b ∧ t = 78) w w6 := by
  have hcW := own_chg (hc.own how fun _ _ => id) hg
  have hget : ∀ (i : Nat) ci, (xss ++ [[Value.int .i64 x.size, v, .bool x.shut]])[i]? = some ci → (i = l.length ∧ ci = [.int .i64 x.size, v, .bool x.shut]) ∨ (i < l.length ∧ xss[i]? = some ci) := by
    intro i ci hi
    by_cases hil : i < l.length
    · rw [List.getElem?_append_left (by omega)] at hi
      exact .inr ⟨hil, hi⟩
    · rw [List.getElem?_append_right (by omega)] at hi
      have h0 : i - xss.length = 0 := by
        rcases Nat.eq_zero_or_pos (i - xss.length) with h | h
        · exact h
        · rw [List.getElem?_eq_none (by simp; omega)] at hi; cases hi
      rw [h0] at hi
      simp at hi
      exact .inl ⟨by omega, hi.symm⟩
  refine ⟨⟨xss ++ [[.int .i64 x.size, v, .bool x.shut]], by simpa using how6, by simp [h2], ?_, ?_, ?_, ?_, fun g hb => .inr (.inr (by simpa using hb))⟩, (hc.mono fun _ _ _ h => h.elim).trans hcW⟩
  · intro cs hcs
    rcases List.mem_append.1 hcs with h | h
    · exact h3 _ h
    · simp at h; subst h; rfl
  · intro i y ci hy hci
    rcases hget i ci hci with ⟨rfl, rfl⟩ | ⟨hil, hci⟩
    · rw [List.getElem?_append_right (Nat.le_refl _)] at hy
      simp at hy
      subst hy
      exact ⟨v, rfl, hi, hq.keep hcW fun b hb h => absurd h.2 (by decide), hu⟩
    · rw [List.getElem?_append_left hil] at hy
      exact ((h4 i y ci hy hci).keep hc fun _ _ => id).keep hcW fun b hb h => absurd h.2 (by decide)
  · intro i j ci cj b hi' hj' hb1 hb2
    rcases hget i ci hi' with ⟨rfl, rfl⟩ | ⟨hil, hci⟩ <;> rcases hget j cj hj' with ⟨rfl, rfl⟩ | ⟨hjl, hcj⟩
    · rfl
    · exact absurd (h6 j cj b hcj hb2) (hv b hb1)
    · exact absurd (h6 i ci b hci hb1) (hv b hb2)
    · exact h5 i j ci cj b hci hcj hb1 hb2
  · intro i ci b hi' hb
    rcases hget i ci hi' with ⟨rfl, rfl⟩ | ⟨hil, hci⟩
    · exact .inr (.inl hb)
    · exact .inl (h6 i ci b hci hb)
def PairRes (a b : Int) (G : Nat → Prop) (p : Nat) (H' : HubD) (w : World) (e : Ending) (w' : World) : Prop := e = .returned (.tuple #[.int .i64 a, .int .i64 b]) ∧ HubP G w w' p H'
set_option maxRecDepth 100000 in
set_option maxHeartbeats 4000000 in
theorem make_any (w : World) (G : Nat → Prop) (p : Nat) (H : HubD) (hH : HubR G w p H) (hs : SmallH H) (size : Int) :
    Calls Try.prog 13 #[.pointer (some ⟨p, 0, none⟩), .int .i64 size] w (PairRes (makeC H size).2.1 (makeC H size).2.2 G p (makeC H size).1 w) := by
  obtain ⟨i0, hi0, hz0, hs0, hb0⟩ := info_parts infoChan
  by_cases h1 : size < 0
  · have HE := Lib.hid (show makeC H size = (H, 0, 2) by simp [makeC, h1])
    have HH := Lib.hid hH
    have h1' : decide (size < 0) = true := decide_eq_true h1
    clear h1 hH
    go_enter Try.func13, Try.ntmps13
    go_wp2_with fail
    go_ret2
    rw [HE.out]
    exact ⟨rfl, HubP.same HH.out (Chg.refl _ _)⟩
  · by_cases h2 : 1024 < size
    · have HE := Lib.hid (show makeC H size = (H, 0, 2) by simp [makeC, h2])
      have HH := Lib.hid hH
      have h1' : decide (size < 0) = false := decide_eq_false h1
      have h2' : decide (1024 < size) = true := decide_eq_true h2
      clear h1 h2 hH
      go_enter Try.func13, Try.ntmps13
      go_wp2_with fail
      go_ret2
      rw [HE.out]
      exact ⟨rfl, HubP.same HH.out (Chg.refl _ _)⟩
    · have HE := Lib.hid (show makeC H size = ({ H with list := H.list ++ [⟨size, [], false⟩] }, ((H.list.length : Int) + 1, 0)) by unfold makeC; rw [if_neg (by omega)])
      have hnl := hs.list
      have hsi : I64 size := by unfold I64; omega
      have h1' : decide (size < 0) = false := decide_eq_false h1
      have h2' : decide (1024 < size) = false := decide_eq_false h2
      obtain ⟨A, cc, A', c', hI⟩ := hH
      obtain ⟨d0, d1⟩ := hI.blk.cells2
      obtain ⟨xss, how, g2, g3, g4, g5, g6, g7⟩ := hI.chans
      have HI := Lib.hid (And.intro hI (And.intro g2 (And.intro g3 (And.intro g4 (And.intro g5 (And.intro g6 (And.intro g7 hsi)))))))
      clear h1 h2 hI g2 g3 g4 g5 g6 g7 hs hsi
      go_enter Try.func13, Try.ntmps13
      go_wp2_with (at_builtin; go_must (refine wpList_append_new rfl (.tmp 20) (.tmp 23) 72 rfl 0 78 i0 _ 3 40 Try.underlying72 hi0 hz0 hs0 hb0 rfl (by omega) A H.list.length cc xss.flatten rfl how 1 1 [.int .i64 size, .slice none 0 0, .bool false] rfl (by first | rfl | simp) rfl (by intro u hu; simp at hu; rcases hu with rfl | rfl | rfl <;> rfl) (by simp only [maxLen]; omega) (by omega) (Nat.zero_le _) ?_))
      intro A6 c6 w6 hap
      obtain ⟨hch, hcg⟩ := ChansI.push (x := ⟨size, [], false⟩) (v := .slice none 0 0) how HI.out.2.1 HI.out.2.2.1 HI.out.2.2.2.1 HI.out.2.2.2.2.1 HI.out.2.2.2.2.2.1 HI.out.2.2.2.2.2.2.1 (chg_alloc w (.cells #[.int .i64 size, .slice none 0 0, .bool false] 78)) hap.grown hap.own HI.out.2.2.2.2.2.2.2 (QR.nil _ _) (by simp) (by simp [Value.ownBlock])
      have hset := HI.out.1.setList (l' := H.list ++ [⟨size, [], false⟩]) (hcg.mono fun b t _ h => ⟨HI.out.2.2.2.2.2.2.1 b h.1, h.2⟩) hch (fun b hb => by
        rcases hb with h | h | h
        · exact ⟨.inl h, Nat.lt_of_lt_of_le (HI.out.1.lt b h) hcg.size⟩
        · simp [Value.ownBlock] at h
        · refine ⟨?_, (own_blk hap.own h).2.choose_spec.lt⟩
          rcases hap.place with h' | h'
          · rw [h] at h'; exact .inl (HI.out.2.2.2.2.2.2.1 b h'.symm)
          · rw [h] at h'; injection h' with h'; exact .inr (by rw [h']; simp))
      simp only [List.length_append, List.length_singleton] at hset
      obtain ⟨hP, hb6⟩ := hset
      obtain ⟨e0, e1⟩ := hb6.cells2
      have ez := hb6.frozen 0
      have hbl := Blk.set_ hb6 0 (.slice A6 (H.list.length + 1) c6)
      have t0 := (hbl.cell 0)
      have HP := Lib.hid hP
      clear hP hb6 hbl hch hcg hap how
      simp at t0
      go_wp2_with fail
      go_ret2
      rw [HE.out]
      exact ⟨by simp, HP.out⟩
end Go.Proofs.Ytclllnoohoonoaa
