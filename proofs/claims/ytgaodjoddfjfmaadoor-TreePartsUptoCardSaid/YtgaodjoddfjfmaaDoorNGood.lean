/-
  tree.good, sound, Check, Sound: is a tree sound?
-/
import Derived.Test.YtgaodjoddfjfmaaDoorNText
import Derived.Test.YtgaodjoddfjfmaaDoorNList5
import Derived.Test.YtgaodjoddfjfmaaDoorNMeas
namespace Go.Proofs.YtgaodjoddfjfmaaDoor
open Go.RowKit
set_option linter.unusedVariables false
set_option linter.unusedSimpArgs false

/-- Are the text and the number of a node what its kind says? -/
noncomputable def labelF (t : Nd) : Bool := textF t.kind t.text t.list.length && numF t.kind t.n
/-- Is a tree right, for so many levels? -/
noncomputable def rightF : Nat → Nd → Bool
  | 0, _ => false
  | m + 1, t => (labelF t && listF t.kind t.n t.list) && t.list.all (rightF m)
noncomputable def soundF (t : Nd) : Bool := rightF 65 t && decide (t.size ≤ 16384)
theorem numF_13 {k : Int} {n : Nat} (h : numF k n = true) (hk : k = 13) : n ≤ 1 := by
  subst hk
  unfold numF at h
  simpa using h
theorem textF_33 {k : Int} {s : ByteArray} {m : Nat} (h : textF k s m = true) (hk : k = 33) : m = 1 ∨ m = 2 := by
  subst hk
  unfold textF namedK at h
  simp at h
  rcases h with h | h
  · exact .inl h.1
  · exact .inr h.1
def goodC (n : Nat) : Prop := ∀ (B : Nat) (w : World) (t : Nd) (A : Option Addr) (c : Nat) (m : Nat) (d : Int), B ≤ w.heap.size → NdR n B w (ndCells t.kind t.text t.n t.at_ A t.list.length c) t → m ≤ 65 → d = 65 - (m : Int) → TabW w → OpsR w →
    Calls Tryd.prog 41 #[.agg #[.int .i64 t.kind, .string t.text, .int .u64 t.n, .int .i64 t.at_, .slice A t.list.length c], .int .i64 d] w fun e w' => e = .returned (.bool (rightF m t)) ∧ Chg (fun _ _ => False) w w'
set_option maxRecDepth 100000 in
theorem good1_fn (n : Nat) (IH : goodC n) (B g m : Nat) (d : Int) (hd : d = 64 - (m : Int)) (hm : m ≤ 64) : NodeF 51 #[.pointer (some ⟨g, 0, none⟩)] n B (fun x => !rightF m x) (fun w => w.cell? ⟨g, 0, none⟩ = some (.int .i64 d) ∧ TabW w ∧ OpsR w) := by
  refine ⟨fun xs w => ?_, fun w w' hc h => ⟨hc.cell h.1 fun _ => id, h.2.1.keep0 hc, h.2.2.keep0 hc⟩, fun w x X cx hP hB hx => ?_⟩
  · show (callFunc _ _).run _ _ = _
    simp [callFunc, Tryd.func51, go_sem]
    rw [if_neg (by decide +kernel), if_neg (fun h => by cases h)]
  · have hc1 := chg_alloc w (.cells #[.int .i64 x.kind, .string x.text, .int .u64 x.n, .int .i64 x.at_, .slice X x.list.length cx] 25)
    have hcall := IH B (w.alloc (.cells #[.int .i64 x.kind, .string x.text, .int .u64 x.n, .int .i64 x.at_, .slice X x.list.length cx] 25)) x X cx m (d + 1) (Nat.le_trans hB hc1.size) (NdR.keep0 hc1 hx) (by omega) (by omega) (hP.2.1.keep0 hc1) (hP.2.2.keep0 hc1)
    have y0 := hc1.cell hP.1 fun _ => id
    have q3 : IntKind.i64.wrap (d + 1) = d + 1 := IntWalk.i64_in _ ⟨by omega, by omega⟩
    have HC := Lib.hid hc1
    generalize hb : rightF m x = b at hcall
    have HB := Lib.hid hb
    clear hP hB hx hc1 hd hm hb
    show Calls Tryd.prog 51 #[.agg #[.int .i64 x.kind, .string x.text, .int .u64 x.n, .int .i64 x.at_, .slice X x.list.length cx], .pointer (some ⟨g, 0, none⟩)] w _
    go_enter Tryd.func51, Tryd.ntmps51
    go_wp2_with fail
    refine hcall.mono fun e w1 h => ?_
    obtain ⟨rfl, hc2⟩ := h
    clear hcall
    go_wp2_with fail
    go_ret
    exact ⟨by simp only [HB.out]; rfl, HC.out.trans hc2⟩
set_option maxRecDepth 100000 in
set_option maxHeartbeats 4000000 in
theorem good_step (n : Nat) (IH : goodC n) : goodC (n + 1) := by
  intro B w t A c m d hB hT hm hd hTW hO
  obtain ⟨hsm, hLl⟩ := NdR.open_ hT
  cases m with
  | zero =>
    have hc1 := (chg_alloc w (.cells #[.int .i64 t.kind, .string t.text, .int .u64 t.n, .int .i64 t.at_, .slice A t.list.length c] 25)).alloc (.cells #[.int .i64 d] 3)
    have q1 : decide (d > 64) = true := decide_eq_true (by omega)
    have q2 : decide (64 < d) = true := decide_eq_true (by omega)
    have q3 : 64 < d := by omega
    have HC := Lib.hid hc1
    clear hB hT hm hd hTW hO hsm hLl hc1
    go_enter Tryd.func41, Tryd.ntmps41
    go_wp2_with fail
    go_ret
    exact ⟨rfl, HC.out⟩
  | succ m =>
    have hb1 := (Blk.new w 25 #[.int .i64 t.kind, .string t.text, .int .u64 t.n, .int .i64 t.at_, .slice A t.list.length c]).alloc (.cells #[.int .i64 d] 3)
    have hb2 := Blk.new (w.alloc (.cells #[.int .i64 t.kind, .string t.text, .int .u64 t.n, .int .i64 t.at_, .slice A t.list.length c] 25)) 3 #[.int .i64 d]
    have hc1 := (chg_alloc w (.cells #[.int .i64 t.kind, .string t.text, .int .u64 t.n, .int .i64 t.at_, .slice A t.list.length c] 25)).alloc (.cells #[.int .i64 d] 3)
    simp only [World.size_alloc] at hb2
    have q1 : decide (d > 64) = false := decide_eq_false (by omega)
    have q2 : decide (64 < d) = false := decide_eq_false (by omega)
    have q3 : ¬ 64 < d := by omega
    have HP := Lib.hid (And.intro hB (And.intro hLl (And.intro hTW (And.intro hO (And.intro hsm (And.intro hd hm))))))
    clear hB hT hLl hTW hO hsm hd hm
    go_enter Tryd.func41, Tryd.ntmps41
    go_wp2_with fail
    generalize (w.alloc (.cells #[.int .i64 t.kind, .string t.text, .int .u64 t.n, .int .i64 t.at_, .slice A t.list.length c] 25)).alloc (.cells #[.int .i64 d] 3) = W at hb1 hb2 hc1 ⊢
    generalize w.heap.size + 1 = g2 at hb2 ⊢
    generalize w.heap.size = g1 at hb1 ⊢
    obtain ⟨c0, c1, c2, c3, c4⟩ := hb1.cells5
    have d0 : W.cell? ⟨g2, 0, none⟩ = some (.int .i64 d) := by simpa using hb2.cell 0
    have HB0 := Lib.hid (And.intro hb1 (And.intro hb2 hc1))
    have hcall := text_any W t.kind t.text t.n t.at_ A t.list.length c HP.out.2.2.2.2.1.2.2.2.1 (HP.out.2.2.1.keep0 hc1) (HP.out.2.2.2.1.keep0 hc1)
    clear hb1 hb2 hc1
    cases htx : textF t.kind t.text t.list.length with
    | false =>
      rw [htx] at hcall
      have HX := Lib.hid htx
      clear htx
      refine hcall.mono fun e w1 h => ?_
      obtain ⟨rfl, hc1⟩ := h
      clear hcall
      have hb1 := hc1.blk HB0.out.1 id
      have hb2 := hc1.blk HB0.out.2.1 id
      have hcw := HB0.out.2.2.trans hc1
      have HB1 := Lib.hid (And.intro hb1 (And.intro hb2 hcw))
      clear c0 c1 c2 c3 c4 d0
      obtain ⟨c0, c1, c2, c3, c4⟩ := hb1.cells5
      have d0 : w1.cell? ⟨g2, 0, none⟩ = some (.int .i64 d) := by simpa using hb2.cell 0
      clear hb1 hb2 hcw hc1
      go_wp2_with fail
      go_ret
      exact ⟨by rw [show rightF (m + 1) t = ((labelF t && listF t.kind t.n t.list) && t.list.all (rightF m)) from rfl, show labelF t = (textF t.kind t.text t.list.length && numF t.kind t.n) from rfl, HX.out]; rfl, HB1.out.2.2⟩
    | true =>
      rw [htx] at hcall
      have HX := Lib.hid htx
      clear htx
      refine hcall.mono fun e w1 h => ?_
      obtain ⟨rfl, hc1⟩ := h
      clear hcall
      have hb1 := hc1.blk HB0.out.1 id
      have hb2 := hc1.blk HB0.out.2.1 id
      have hcw := HB0.out.2.2.trans hc1
      have HB1 := Lib.hid (And.intro hb1 (And.intro hb2 hcw))
      clear c0 c1 c2 c3 c4 d0
      obtain ⟨c0, c1, c2, c3, c4⟩ := hb1.cells5
      have d0 : w1.cell? ⟨g2, 0, none⟩ = some (.int .i64 d) := by simpa using hb2.cell 0
      have hcall := number_any w1 t.kind t.text t.n t.at_ A t.list.length c
      clear hb1 hb2 hcw hc1
      go_wp2_with fail
      cases hnu : numF t.kind t.n with
      | false =>
        rw [hnu] at hcall
        have HN := Lib.hid hnu
        clear hnu
        refine hcall.mono fun e w2 h => ?_
        obtain ⟨rfl, hc2⟩ := h
        clear hcall
        have hb1 := hc2.blk HB1.out.1 id
        have hb2 := hc2.blk HB1.out.2.1 id
        have hcw := HB1.out.2.2.trans hc2
        have HB2 := Lib.hid (And.intro hb1 (And.intro hb2 hcw))
        clear c0 c1 c2 c3 c4 d0
        obtain ⟨c0, c1, c2, c3, c4⟩ := hb1.cells5
        have d0 : w2.cell? ⟨g2, 0, none⟩ = some (.int .i64 d) := by simpa using hb2.cell 0
        clear hb1 hb2 hcw hc2
        go_wp2_with fail
        go_ret
        exact ⟨by rw [show rightF (m + 1) t = ((labelF t && listF t.kind t.n t.list) && t.list.all (rightF m)) from rfl, show labelF t = (textF t.kind t.text t.list.length && numF t.kind t.n) from rfl, HN.out, Bool.and_false, Bool.false_and, Bool.false_and]; rfl, HB2.out.2.2⟩
      | true =>
        rw [hnu] at hcall
        have HN := Lib.hid hnu
        clear hnu
        refine hcall.mono fun e w2 h => ?_
        obtain ⟨rfl, hc2⟩ := h
        clear hcall
        have hb1 := hc2.blk HB1.out.1 id
        have hb2 := hc2.blk HB1.out.2.1 id
        have hcw := HB1.out.2.2.trans hc2
        have HB2 := Lib.hid (And.intro hb1 (And.intro hb2 hcw))
        clear c0 c1 c2 c3 c4 d0
        obtain ⟨c0, c1, c2, c3, c4⟩ := hb1.cells5
        have d0 : w2.cell? ⟨g2, 0, none⟩ = some (.int .i64 d) := by simpa using hb2.cell 0
        have hcall := list_any t.kind n B w2 t.text t.n t.at_ A c t.list (Nat.le_trans HP.out.1 hcw.size) (NdsR.keep0 hcw HP.out.2.1) HP.out.2.2.2.2.1.2.2.2.2 (fun h => numF_13 HN.out h)
        clear hb1 hb2 hcw hc2
        go_wp2_with fail
        cases hli : listF t.kind t.n t.list with
        | false =>
          rw [hli] at hcall
          have HL := Lib.hid hli
          clear hli
          refine hcall.mono fun e w3 h => ?_
          obtain ⟨rfl, hc3⟩ := h
          clear hcall
          have hb1 := hc3.blk HB2.out.1 id
          have hb2 := hc3.blk HB2.out.2.1 id
          have hcw := HB2.out.2.2.trans hc3
          have HB3 := Lib.hid (And.intro hb1 (And.intro hb2 hcw))
          clear c0 c1 c2 c3 c4 d0
          obtain ⟨c0, c1, c2, c3, c4⟩ := hb1.cells5
          have d0 : w3.cell? ⟨g2, 0, none⟩ = some (.int .i64 d) := by simpa using hb2.cell 0
          clear hb1 hb2 hcw hc3
          go_wp2_with fail
          go_ret
          exact ⟨by rw [show rightF (m + 1) t = ((labelF t && listF t.kind t.n t.list) && t.list.all (rightF m)) from rfl, show labelF t = (textF t.kind t.text t.list.length && numF t.kind t.n) from rfl, HL.out, Bool.and_false, Bool.false_and]; rfl, HB3.out.2.2⟩
        | true =>
          rw [hli] at hcall
          have HL := Lib.hid hli
          clear hli
          refine hcall.mono fun e w3 h => ?_
          obtain ⟨rfl, hc3⟩ := h
          clear hcall
          have hb1 := hc3.blk HB2.out.1 id
          have hb2 := hc3.blk HB2.out.2.1 id
          have hcw := HB2.out.2.2.trans hc3
          have HB3 := Lib.hid (And.intro hb1 (And.intro hb2 hcw))
          clear c0 c1 c2 c3 c4 d0
          obtain ⟨c0, c1, c2, c3, c4⟩ := hb1.cells5
          have d0 : w3.cell? ⟨g2, 0, none⟩ = some (.int .i64 d) := by simpa using hb2.cell 0
          have hcall := contN_of n B w3 t.list A c 51 #[.pointer (some ⟨g2, 0, none⟩)] _ _ (Nat.le_trans HP.out.1 hcw.size) (NdsR.keep0 hcw HP.out.2.1) HP.out.2.2.2.2.1.2.2.2.2 (good1_fn n IH B g2 m d (by have := HP.out.2.2.2.2.2.1; omega) (by have := HP.out.2.2.2.2.2.2; omega)) ⟨d0, HP.out.2.2.1.keep0 hcw, HP.out.2.2.2.1.keep0 hcw⟩
          have HA := Lib.hid (show (t.list.all (rightF m)) = !(t.list.any fun x => !rightF m x) by simp [List.all_eq_not_any_not])
          generalize (t.list.any fun x => !rightF m x) = b at hcall HA
          clear hb1 hb2 hcw hc3
          go_wp2_with fail
          refine hcall.mono fun e w4 h => ?_
          obtain ⟨rfl, hc4⟩ := h
          clear hcall
          go_wp2_with fail
          go_ret
          exact ⟨by rw [show rightF (m + 1) t = ((labelF t && listF t.kind t.n t.list) && t.list.all (rightF m)) from rfl, show labelF t = (textF t.kind t.text t.list.length && numF t.kind t.n) from rfl, HX.out, HN.out, HL.out, HA.out]; rfl, HB3.out.2.2.trans hc4⟩
theorem good_any : ∀ n, goodC n
  | 0 => fun B w t A c m d hB hT => hT.elim
  | n + 1 => good_step n (good_any n)
set_option maxRecDepth 100000 in
theorem sound_any (n : Nat) (B : Nat) (w : World) (t : Nd) (A : Option Addr) (c : Nat) (hB : B ≤ w.heap.size) (hT : NdR n B w (ndCells t.kind t.text t.n t.at_ A t.list.length c) t) (hS : t.size ≤ 1048576) (hTW : TabW w) (hO : OpsR w) :
    Calls Tryd.prog 31 #[.agg #[.int .i64 t.kind, .string t.text, .int .u64 t.n, .int .i64 t.at_, .slice A t.list.length c]] w fun e w' => e = .returned (.bool (soundF t)) ∧ Chg (fun _ _ => False) w w' := by
  have hb1 := Blk.new w 25 #[.int .i64 t.kind, .string t.text, .int .u64 t.n, .int .i64 t.at_, .slice A t.list.length c]
  have hc1 := chg_alloc w (.cells #[.int .i64 t.kind, .string t.text, .int .u64 t.n, .int .i64 t.at_, .slice A t.list.length c] 25)
  have HP := Lib.hid (And.intro hB (And.intro hT (And.intro hTW hO)))
  clear hB hT hTW hO
  go_enter Tryd.func31, Tryd.ntmps31
  go_wp2_with fail
  generalize w.alloc (.cells #[.int .i64 t.kind, .string t.text, .int .u64 t.n, .int .i64 t.at_, .slice A t.list.length c] 25) = W at hb1 hc1 ⊢
  generalize w.heap.size = g1 at hb1 ⊢
  obtain ⟨c0, c1, c2, c3, c4⟩ := hb1.cells5
  have HB := Lib.hid (And.intro hb1 hc1)
  have hcall := good_any n B W t A c 65 0 (Nat.le_trans HP.out.1 hc1.size) (NdR.keep0 hc1 HP.out.2.1) (by omega) (by omega) (HP.out.2.2.1.keep0 hc1) (HP.out.2.2.2.keep0 hc1)
  clear hb1 hc1
  cases hr : rightF 65 t with
  | false =>
    rw [hr] at hcall
    have HR := Lib.hid hr
    clear hr
    refine hcall.mono fun e w1 h => ?_
    obtain ⟨rfl, hc2⟩ := h
    clear hcall
    go_wp2_with fail
    go_ret
    exact ⟨by unfold soundF; rw [HR.out]; rfl, HB.out.2.trans hc2⟩
  | true =>
    rw [hr] at hcall
    have HR := Lib.hid hr
    clear hr
    refine hcall.mono fun e w1 h => ?_
    obtain ⟨rfl, hc2⟩ := h
    clear hcall c0 c1 c2 c3 c4
    obtain ⟨c0, c1, c2, c3, c4⟩ := (hc2.blk HB.out.1 id).cells5
    have hcw := HB.out.2.trans hc2
    have hcall := nsize_any n B w1 t A c (Nat.le_trans HP.out.1 hcw.size) (NdR.keep0 hcw HP.out.2.1) hS
    have HW := Lib.hid hcw
    clear hcw hc2
    have HF := Lib.hid (show soundF t = decide (t.size ≤ 16384) by unfold soundF; rw [HR.out, Bool.true_and])
    generalize t.size = sz at hcall hS HF
    go_wp2_with fail
    refine hcall.mono fun e w2 h => ?_
    obtain ⟨rfl, hc3⟩ := h
    clear hcall
    by_cases hz : sz ≤ 16384
    · have q1 : decide (sz ≤ 16384) = true := decide_eq_true hz
      have q2 : decide ((sz : Int) ≤ 16384) = true := decide_eq_true (by omega)
      rw [q1] at HF
      clear hz
      go_wp2_with fail
      go_ret
      exact ⟨by rw [HF.out]; rfl, HW.out.trans hc3⟩
    · have q1 : decide (sz ≤ 16384) = false := decide_eq_false hz
      have q2 : decide ((sz : Int) ≤ 16384) = false := decide_eq_false (by omega)
      rw [q1] at HF
      clear hz
      go_wp2_with fail
      go_ret
      exact ⟨by rw [HF.out]; rfl, HW.out.trans hc3⟩
def checkE (b : Bool) : Int := if b then 0 else 1
set_option maxRecDepth 100000 in
theorem check4_any (n : Nat) (B : Nat) (w : World) (t : Nd) (A : Option Addr) (c : Nat) (hB : B ≤ w.heap.size) (hT : NdR n B w (ndCells t.kind t.text t.n t.at_ A t.list.length c) t) (hS : t.size ≤ 1048576) (hTW : TabW w) (hO : OpsR w) :
    Calls Tryd.prog 16 #[.agg #[.int .i64 t.kind, .string t.text, .int .u64 t.n, .int .i64 t.at_, .slice A t.list.length c]] w fun e w' => e = .returned (.int .i64 (checkE (t.kind == 1 && soundF t))) ∧ Chg (fun _ _ => False) w w' := by
  have hb1 := Blk.new w 25 #[.int .i64 t.kind, .string t.text, .int .u64 t.n, .int .i64 t.at_, .slice A t.list.length c]
  have hc1 := chg_alloc w (.cells #[.int .i64 t.kind, .string t.text, .int .u64 t.n, .int .i64 t.at_, .slice A t.list.length c] 25)
  have hcall := sound_any n B (w.alloc (.cells #[.int .i64 t.kind, .string t.text, .int .u64 t.n, .int .i64 t.at_, .slice A t.list.length c] 25)) t A c (Nat.le_trans hB hc1.size) (NdR.keep0 hc1 hT) hS (hTW.keep0 hc1) (hO.keep0 hc1)
  generalize soundF t = b at hcall ⊢
  clear hB hT hTW hO
  by_cases h1 : t.kind = 1
  · have q1 : (t.kind != 1) = false := by simp [h1]
    have HK := Lib.hid (show (t.kind == 1) = true by simp [h1])
    clear h1
    go_enter Tryd.func16, Tryd.ntmps16
    go_wp2_with fail
    generalize w.alloc (.cells #[.int .i64 t.kind, .string t.text, .int .u64 t.n, .int .i64 t.at_, .slice A t.list.length c] 25) = W at hb1 hc1 hcall ⊢
    have HB := Lib.hid (And.intro hb1 hc1)
    clear hb1 hc1
    cases b with
    | true =>
      refine hcall.mono fun e w1 h => ?_
      obtain ⟨rfl, hc2⟩ := h
      clear hcall
      go_wp2_with fail
      go_ret
      exact ⟨by rw [HK.out]; rfl, HB.out.2.trans hc2⟩
    | false =>
      refine hcall.mono fun e w1 h => ?_
      obtain ⟨rfl, hc2⟩ := h
      clear hcall
      go_wp2_with fail
      go_ret
      exact ⟨by rw [HK.out]; rfl, HB.out.2.trans hc2⟩
  · have q1 : (t.kind != 1) = true := by simp [h1]
    have HK := Lib.hid (show (t.kind == 1) = false by simp [h1])
    have HC := Lib.hid hc1
    clear h1 hcall hb1 hc1
    go_enter Tryd.func16, Tryd.ntmps16
    go_wp2_with fail
    go_ret
    exact ⟨by rw [HK.out]; rfl, HC.out⟩
def sortP (s : Int) (k : Int) : Bool := if s = 1 then isStmtK k else if s = 2 then isExprK k else isTypeK k
def soundE (s : Int) (b : Bool) : Int := if 1 ≤ s ∧ s ≤ 3 then checkE b else 2

set_option maxRecDepth 100000 in
theorem nSound_1 (n : Nat) (B : Nat) (w : World) (t : Nd) (A : Option Addr) (c : Nat) (hB : B ≤ w.heap.size) (hT : NdR n B w (ndCells t.kind t.text t.n t.at_ A t.list.length c) t) (hS : t.size ≤ 1048576) (hTW : TabW w) (hO : OpsR w) :
    Calls Tryd.prog 17 #[.agg #[.int .i64 t.kind, .string t.text, .int .u64 t.n, .int .i64 t.at_, .slice A t.list.length c], .int .i64 1] w fun e w' => e = .returned (.int .i64 (checkE (isStmtK t.kind && soundF t))) ∧ Chg (fun _ _ => False) w w' := by
  have hb1 := Blk.new w 25 #[.int .i64 t.kind, .string t.text, .int .u64 t.n, .int .i64 t.at_, .slice A t.list.length c]
  have hc1 := chg_alloc w (.cells #[.int .i64 t.kind, .string t.text, .int .u64 t.n, .int .i64 t.at_, .slice A t.list.length c] 25)
  have HP := Lib.hid (And.intro hB (And.intro hT (And.intro hTW hO)))
  clear hB hT hTW hO
  go_enter Tryd.func17, Tryd.ntmps17
  go_wp2_with fail
  generalize w.alloc (.cells #[.int .i64 t.kind, .string t.text, .int .u64 t.n, .int .i64 t.at_, .slice A t.list.length c] 25) = W at hb1 hc1 ⊢
  generalize w.heap.size = g1 at hb1 ⊢
  obtain ⟨c0, c1, c2, c3, c4⟩ := hb1.cells5
  have HB := Lib.hid (And.intro hb1 hc1)
  have hcall := isStmt_any W t.kind
  clear hb1 hc1
  cases hk : isStmtK t.kind with
  | false =>
    rw [hk] at hcall
    have HK := Lib.hid hk
    clear hk
    refine hcall.mono fun e w1 h => ?_
    obtain ⟨rfl, hc2⟩ := h
    clear hcall
    go_wp2_with fail
    go_ret
    exact ⟨by rw [HK.out]; rfl, HB.out.2.trans hc2⟩
  | true =>
    rw [hk] at hcall
    have HK := Lib.hid hk
    clear hk
    refine hcall.mono fun e w1 h => ?_
    obtain ⟨rfl, hc2⟩ := h
    clear hcall c0 c1 c2 c3 c4
    obtain ⟨c0, c1, c2, c3, c4⟩ := (hc2.blk HB.out.1 id).cells5
    have hcw := HB.out.2.trans hc2
    have hcall := sound_any n B w1 t A c (Nat.le_trans HP.out.1 hcw.size) (NdR.keep0 hcw HP.out.2.1) hS (HP.out.2.2.1.keep0 hcw) (HP.out.2.2.2.keep0 hcw)
    have HW := Lib.hid hcw
    clear hcw hc2
    generalize hsb : soundF t = b at hcall
    have HSB := Lib.hid hsb
    clear hsb
    go_wp2_with fail
    cases b with
    | true =>
      refine hcall.mono fun e w2 h => ?_
      obtain ⟨rfl, hc3⟩ := h
      clear hcall
      go_wp2_with fail
      go_ret
      exact ⟨by rw [HK.out, HSB.out]; rfl, HW.out.trans hc3⟩
    | false =>
      refine hcall.mono fun e w2 h => ?_
      obtain ⟨rfl, hc3⟩ := h
      clear hcall
      go_wp2_with fail
      go_ret
      exact ⟨by rw [HK.out, HSB.out]; rfl, HW.out.trans hc3⟩
set_option maxRecDepth 100000 in
theorem nSound_2 (n : Nat) (B : Nat) (w : World) (t : Nd) (A : Option Addr) (c : Nat) (hB : B ≤ w.heap.size) (hT : NdR n B w (ndCells t.kind t.text t.n t.at_ A t.list.length c) t) (hS : t.size ≤ 1048576) (hTW : TabW w) (hO : OpsR w) :
    Calls Tryd.prog 17 #[.agg #[.int .i64 t.kind, .string t.text, .int .u64 t.n, .int .i64 t.at_, .slice A t.list.length c], .int .i64 2] w fun e w' => e = .returned (.int .i64 (checkE (isExprK t.kind && soundF t))) ∧ Chg (fun _ _ => False) w w' := by
  have hb1 := Blk.new w 25 #[.int .i64 t.kind, .string t.text, .int .u64 t.n, .int .i64 t.at_, .slice A t.list.length c]
  have hc1 := chg_alloc w (.cells #[.int .i64 t.kind, .string t.text, .int .u64 t.n, .int .i64 t.at_, .slice A t.list.length c] 25)
  have HP := Lib.hid (And.intro hB (And.intro hT (And.intro hTW hO)))
  clear hB hT hTW hO
  go_enter Tryd.func17, Tryd.ntmps17
  go_wp2_with fail
  generalize w.alloc (.cells #[.int .i64 t.kind, .string t.text, .int .u64 t.n, .int .i64 t.at_, .slice A t.list.length c] 25) = W at hb1 hc1 ⊢
  generalize w.heap.size = g1 at hb1 ⊢
  obtain ⟨c0, c1, c2, c3, c4⟩ := hb1.cells5
  have HB := Lib.hid (And.intro hb1 hc1)
  have hcall := isExpr_any W t.kind
  clear hb1 hc1
  cases hk : isExprK t.kind with
  | false =>
    rw [hk] at hcall
    have HK := Lib.hid hk
    clear hk
    refine hcall.mono fun e w1 h => ?_
    obtain ⟨rfl, hc2⟩ := h
    clear hcall
    go_wp2_with fail
    go_ret
    exact ⟨by rw [HK.out]; rfl, HB.out.2.trans hc2⟩
  | true =>
    rw [hk] at hcall
    have HK := Lib.hid hk
    clear hk
    refine hcall.mono fun e w1 h => ?_
    obtain ⟨rfl, hc2⟩ := h
    clear hcall c0 c1 c2 c3 c4
    obtain ⟨c0, c1, c2, c3, c4⟩ := (hc2.blk HB.out.1 id).cells5
    have hcw := HB.out.2.trans hc2
    have hcall := sound_any n B w1 t A c (Nat.le_trans HP.out.1 hcw.size) (NdR.keep0 hcw HP.out.2.1) hS (HP.out.2.2.1.keep0 hcw) (HP.out.2.2.2.keep0 hcw)
    have HW := Lib.hid hcw
    clear hcw hc2
    generalize hsb : soundF t = b at hcall
    have HSB := Lib.hid hsb
    clear hsb
    go_wp2_with fail
    cases b with
    | true =>
      refine hcall.mono fun e w2 h => ?_
      obtain ⟨rfl, hc3⟩ := h
      clear hcall
      go_wp2_with fail
      go_ret
      exact ⟨by rw [HK.out, HSB.out]; rfl, HW.out.trans hc3⟩
    | false =>
      refine hcall.mono fun e w2 h => ?_
      obtain ⟨rfl, hc3⟩ := h
      clear hcall
      go_wp2_with fail
      go_ret
      exact ⟨by rw [HK.out, HSB.out]; rfl, HW.out.trans hc3⟩
set_option maxRecDepth 100000 in
theorem nSound_3 (n : Nat) (B : Nat) (w : World) (t : Nd) (A : Option Addr) (c : Nat) (hB : B ≤ w.heap.size) (hT : NdR n B w (ndCells t.kind t.text t.n t.at_ A t.list.length c) t) (hS : t.size ≤ 1048576) (hTW : TabW w) (hO : OpsR w) :
    Calls Tryd.prog 17 #[.agg #[.int .i64 t.kind, .string t.text, .int .u64 t.n, .int .i64 t.at_, .slice A t.list.length c], .int .i64 3] w fun e w' => e = .returned (.int .i64 (checkE (isTypeK t.kind && soundF t))) ∧ Chg (fun _ _ => False) w w' := by
  have hb1 := Blk.new w 25 #[.int .i64 t.kind, .string t.text, .int .u64 t.n, .int .i64 t.at_, .slice A t.list.length c]
  have hc1 := chg_alloc w (.cells #[.int .i64 t.kind, .string t.text, .int .u64 t.n, .int .i64 t.at_, .slice A t.list.length c] 25)
  have HP := Lib.hid (And.intro hB (And.intro hT (And.intro hTW hO)))
  clear hB hT hTW hO
  go_enter Tryd.func17, Tryd.ntmps17
  go_wp2_with fail
  generalize w.alloc (.cells #[.int .i64 t.kind, .string t.text, .int .u64 t.n, .int .i64 t.at_, .slice A t.list.length c] 25) = W at hb1 hc1 ⊢
  generalize w.heap.size = g1 at hb1 ⊢
  obtain ⟨c0, c1, c2, c3, c4⟩ := hb1.cells5
  have HB := Lib.hid (And.intro hb1 hc1)
  have hcall := isType_any W t.kind
  clear hb1 hc1
  cases hk : isTypeK t.kind with
  | false =>
    rw [hk] at hcall
    have HK := Lib.hid hk
    clear hk
    refine hcall.mono fun e w1 h => ?_
    obtain ⟨rfl, hc2⟩ := h
    clear hcall
    go_wp2_with fail
    go_ret
    exact ⟨by rw [HK.out]; rfl, HB.out.2.trans hc2⟩
  | true =>
    rw [hk] at hcall
    have HK := Lib.hid hk
    clear hk
    refine hcall.mono fun e w1 h => ?_
    obtain ⟨rfl, hc2⟩ := h
    clear hcall c0 c1 c2 c3 c4
    obtain ⟨c0, c1, c2, c3, c4⟩ := (hc2.blk HB.out.1 id).cells5
    have hcw := HB.out.2.trans hc2
    have hcall := sound_any n B w1 t A c (Nat.le_trans HP.out.1 hcw.size) (NdR.keep0 hcw HP.out.2.1) hS (HP.out.2.2.1.keep0 hcw) (HP.out.2.2.2.keep0 hcw)
    have HW := Lib.hid hcw
    clear hcw hc2
    generalize hsb : soundF t = b at hcall
    have HSB := Lib.hid hsb
    clear hsb
    go_wp2_with fail
    cases b with
    | true =>
      refine hcall.mono fun e w2 h => ?_
      obtain ⟨rfl, hc3⟩ := h
      clear hcall
      go_wp2_with fail
      go_ret
      exact ⟨by rw [HK.out, HSB.out]; rfl, HW.out.trans hc3⟩
    | false =>
      refine hcall.mono fun e w2 h => ?_
      obtain ⟨rfl, hc3⟩ := h
      clear hcall
      go_wp2_with fail
      go_ret
      exact ⟨by rw [HK.out, HSB.out]; rfl, HW.out.trans hc3⟩
set_option maxRecDepth 100000 in
theorem nSound_any (n : Nat) (B : Nat) (w : World) (t : Nd) (A : Option Addr) (c : Nat) (s : Int) (hB : B ≤ w.heap.size) (hT : NdR n B w (ndCells t.kind t.text t.n t.at_ A t.list.length c) t) (hS : t.size ≤ 1048576) (hTW : TabW w) (hO : OpsR w) :
    Calls Tryd.prog 17 #[.agg #[.int .i64 t.kind, .string t.text, .int .u64 t.n, .int .i64 t.at_, .slice A t.list.length c], .int .i64 s] w fun e w' => e = .returned (.int .i64 (soundE s (sortP s t.kind && soundF t))) ∧ Chg (fun _ _ => False) w w' := by
  by_cases h1 : s = 1
  · subst h1; exact nSound_1 n B w t A c hB hT hS hTW hO
  · by_cases h2 : s = 2
    · subst h2; exact nSound_2 n B w t A c hB hT hS hTW hO
    · by_cases h3 : s = 3
      · subst h3; exact nSound_3 n B w t A c hB hT hS hTW hO
      · have q1 : (s == 1) = false := by simp [h1]
        have q2 : (s == 2) = false := by simp [h2]
        have q3 : (s == 3) = false := by simp [h3]
        have hc1 := chg_alloc w (.cells #[.int .i64 t.kind, .string t.text, .int .u64 t.n, .int .i64 t.at_, .slice A t.list.length c] 25)
        have HS := Lib.hid (show ∀ b, soundE s b = 2 from fun b => by unfold soundE; rw [if_neg (by omega)])
        have HC := Lib.hid hc1
        clear h1 h2 h3 hB hT hTW hO hc1
        go_enter Tryd.func17, Tryd.ntmps17
        go_wp2_with fail
        go_ret
        exact ⟨by rw [HS.out]; rfl, HC.out⟩
end Go.Proofs.YtgaodjoddfjfmaaDoor
