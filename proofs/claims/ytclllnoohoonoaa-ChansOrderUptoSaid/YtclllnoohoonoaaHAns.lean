/-
  What the statements on channels ask first: that the program answers at all (answers); and what a nil hub answers.
-/
import Derived.Test.YtclllnoohoonoaaShut
namespace Go.Proofs.Ytclllnoohoonoaa
open Go.RowKit
set_option linter.unusedVariables false
set_option linter.unusedSimpArgs false

theorem CasesC.one {w : World} {b : Nat} {s : CaseC} (hc : I64 s.chan) (hv : U64 s.val) (h : Blk w b 52 #[.bool s.send, .int .i64 s.chan, .int .u64 s.val]) : CasesC w (.slice (some ⟨b, 0, none⟩) 1 1) [s] := by
  refine ⟨_, _, rfl, Nat.le_refl _, fun _ => ⟨b, 0, rfl, .inr ⟨by decide, _, _, h⟩, h.lt, fun k x hx => ?_⟩⟩
  match k, hx with
  | 0, hx =>
    simp at hx
    subst hx
    refine ⟨_, rfl, ⟨rfl, hc, hv⟩, fun j u hu => ?_⟩
    rw [h.cell]
    simpa using hu
  | k + 1, hx => simp at hx
def ansH : HubD := ⟨[⟨1, [], false⟩], []⟩
theorem ans_make : makeC ⟨[], []⟩ 1 = (ansH, 1, 0) := by rfl
theorem ans_do : (doC ansH 7 [⟨true, 1, 5⟩] 0 false).2 = ⟨0, 0, true, [], 0⟩ := by rfl
def AnsRes (w : World) (e : Ending) (w' : World) : Prop := e = .returned (.bool true) ∧ Chg (fun _ _ => False) w w'
set_option maxRecDepth 100000 in
set_option maxHeartbeats 2000000 in
theorem hanswers_any (w : World) : Calls Try.prog 10 #[] w (AnsRes w) := by
  go_enter Try.func10, Try.ntmps10
  go_wp2_with fail
  refine (new_any w).mono fun e w1 hh => ?_
  obtain ⟨p, G, rfl, hH, hG, hc⟩ := hh
  have H1 := Lib.hid (And.intro hH (And.intro hG hc))
  clear hH hG hc
  go_wp2_with fail
  refine (make_any _ G p _ H1.out.1 ⟨by simp, by simp, by simp⟩ 1).mono fun e w2 hh => ?_
  rw [ans_make] at hh
  obtain ⟨rfl, G2, hH2, hsub, hch⟩ := hh
  have H2 := Lib.hid (And.intro hH2 (And.intro hsub hch))
  clear hH2 hsub hch
  simp only
  go_wp2_with fail
  have hb2 := Blk.new w2 52 #[.bool true, .int .i64 1, .int .u64 5]
  have hc2 := chg_alloc w2 (.cells #[.bool true, .int .i64 1, .int .u64 5] 52)
  refine (do_any _ G2 p ansH (H2.out.1.keep hc2 (fun _ _ _ => id) (fun _ => id)) ⟨by simp [ansH], by simp [ansH], by simp [ansH]⟩ (by
    intro k ch hk
    match k, hk with
    | 0, hk => simp [ansH] at hk; subst hk; simp
    | k + 1, hk => simp [ansH] at hk) 7 (by unfold I64; omega) [⟨true, 1, 5⟩] _ _ (CasesC.one (by unfold I64; simp) (by unfold U64; simp) hb2) (by simp) 0 (by unfold I64; omega) false).mono fun e w3 hh => ?_
  rw [ans_do] at hh
  obtain ⟨v, rfl, hsv, hP⟩ := hh
  simp only
  have H3 := Lib.hid (And.intro hc2 hP.chg)
  clear hb2 hc2 hsv hP
  go_wp2
  go_ret
  refine ⟨rfl, ?_⟩
  refine H1.out.2.2.trans_le ((H2.out.2.2.mono (M' := fun b t => G b ∨ G2 b) fun b t _ h => .inl h.1).trans ((H3.out.1.mono fun _ _ _ h => h.elim).trans (H3.out.2.mono fun b t _ h => .inr h.1))) fun b t hb h => ?_
  rcases h with h | h
  · have := H1.out.2.1 b h; omega
  · rcases H2.out.2.1 b h with h | h
    · have := H1.out.2.1 b h; omega
    · have := H1.out.2.2.size; omega
end Go.Proofs.Ytclllnoohoonoaa
