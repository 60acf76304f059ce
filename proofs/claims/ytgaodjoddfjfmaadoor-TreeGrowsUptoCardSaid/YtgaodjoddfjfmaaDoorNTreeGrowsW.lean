/-
  The walk of TreeGrows.
-/
import Derived.Test.YtgaodjoddfjfmaaDoorNTreePartsW
import Derived.Test.YtgaodjoddfjfmaaDoorNChild3
namespace Go.Proofs.YtgaodjoddfjfmaaDoor
open Go.RowKit
set_option linter.unusedVariables false
set_option linter.unusedSimpArgs false

theorem depthL_mem {l : List Nd} {x : Nd} (h : x ∈ l) : x.depth + 1 ≤ depthL l := by
  induction l with
  | nil => cases h
  | cons y l ih =>
    simp only [depthL]
    rcases List.mem_cons.1 h with rfl | h
    · omega
    · have := ih h; omega
/-- Right as deep as it is. -/
theorem right_depth : ∀ (k m : Nat) (t : Nd), rightF m t = true → t.depth + 1 ≤ k → rightF k t = true
  | 0, _, _, _, h => by omega
  | k + 1, 0, _, h, _ => by cases h
  | k + 1, m + 1, t, h, hk => by
    rw [right_eq] at h ⊢
    obtain ⟨h1, h2⟩ := Bool.and_eq_true_iff.1 h
    refine Bool.and_eq_true_iff.2 ⟨h1, List.all_eq_true.2 fun x hx => right_depth k m x (List.all_eq_true.1 h2 x hx) ?_⟩
    have := depthL_mem hx
    rw [depth_eq] at hk
    omega
theorem grows_plain {t : Nd} (h : (isExprK t.kind && soundF t) = true) (hd : t.depth < 64) (hz : t.size + 2 ≤ 16384) :
    (isExprK ((Nd.mk 33 ⟨#[45]⟩ 0 0 [t]) : Nd).kind && soundF (Nd.mk 33 ⟨#[45]⟩ 0 0 [t])) = true ∧ (isExprK ((Nd.mk 39 ⟨#[]⟩ 0 0 [t]) : Nd).kind && soundF (Nd.mk 39 ⟨#[]⟩ 0 0 [t])) = true ∧ (isExprK ((Nd.mk 36 ⟨#[]⟩ 0 0 [t, .mk 31 ⟨#[]⟩ 0 0 []]) : Nd).kind && soundF (Nd.mk 36 ⟨#[]⟩ 0 0 [t, .mk 31 ⟨#[]⟩ 0 0 []])) = true := by
  obtain ⟨he, hs⟩ := Bool.and_eq_true_iff.1 h
  unfold soundF at hs
  have h64 := right_depth 64 65 t (Bool.and_eq_true_iff.1 hs).1 (by omega)
  have h31 : rightF 64 (.mk 31 ⟨#[]⟩ 0 0 []) = true := by
    rw [right_eq]
    have hl : labelF (.mk 31 ⟨#[]⟩ 0 0 []) = true := by unfold labelF textF numF namedK; simp [Nd.kind, Nd.text, Nd.n, Nd.list]
    have hli : listF 31 0 [] = true := by unfold listF; simp
    rw [hl]
    simp only [Nd.kind, Nd.n, Nd.list, hli, List.all_nil, Bool.and_self]
  refine ⟨?_, ?_, ?_⟩
  · refine Bool.and_eq_true_iff.2 ⟨rfl, ?_⟩
    unfold soundF
    refine Bool.and_eq_true_iff.2 ⟨?_, decide_eq_true (by simp [size_eq, Nd.list, sizeL] at hz ⊢; omega)⟩
    rw [right_eq]
    have hl : labelF (Nd.mk 33 ⟨#[45]⟩ 0 0 [t]) = true := by
      unfold labelF textF numF namedK
      simp [Nd.kind, Nd.text, Nd.n, Nd.list]
      exact (Lib.containsS_iff _ _).2 (by simp [unL])
    have hli : listF 33 0 [t] = true := by unfold listF; simp [he]
    rw [hl]
    simp only [Nd.kind, Nd.n, Nd.list, hli, List.all_cons, List.all_nil, h64, Bool.and_self]
  · refine Bool.and_eq_true_iff.2 ⟨rfl, ?_⟩
    unfold soundF
    refine Bool.and_eq_true_iff.2 ⟨?_, decide_eq_true (by simp [size_eq, Nd.list, sizeL] at hz ⊢; omega)⟩
    rw [right_eq]
    have hl : labelF (Nd.mk 39 ⟨#[]⟩ 0 0 [t]) = true := by unfold labelF textF numF namedK; simp [Nd.kind, Nd.text, Nd.n, Nd.list]
    have hli : listF 39 0 [t] = true := by unfold listF; simp [kinds_one, he]
    rw [hl]
    simp only [Nd.kind, Nd.n, Nd.list, hli, List.all_cons, List.all_nil, h64, Bool.and_self]
  · refine Bool.and_eq_true_iff.2 ⟨rfl, ?_⟩
    unfold soundF
    refine Bool.and_eq_true_iff.2 ⟨?_, decide_eq_true (by simp [size_eq, Nd.list, sizeL] at hz ⊢; omega)⟩
    rw [right_eq]
    have hl : labelF (Nd.mk 36 ⟨#[]⟩ 0 0 [t, .mk 31 ⟨#[]⟩ 0 0 []]) = true := by unfold labelF textF numF namedK; simp [Nd.kind, Nd.text, Nd.n, Nd.list]
    have hli : listF 36 0 [t, .mk 31 ⟨#[]⟩ 0 0 []] = true := by
      have HR : ∀ l, listF 36 0 l = (decide (2 ≤ l.length) && decide (l.length ≤ 17) && (firstK l isExprK) && l.tail.all fun x => isArgK x.kind) := fun l => by unfold listF; simp only [reduceIte, Int.reduceEq]
      rw [HR, show firstK [t, .mk 31 ⟨#[]⟩ 0 0 []] isExprK = isExprK t.kind from rfl, he]
      rfl
    rw [hl]
    simp only [Nd.kind, Nd.n, Nd.list, hli, List.all_cons, List.all_nil, h64, h31, Bool.and_self]
theorem NdR.box1 {n g cx : Nat} {w : World} {t : Nd} {A : Option Addr} (k : Int) (tx : ByteArray) (m : Nat) (p : Int) (h1 : I64 k) (h2 : I64 p) (h3 : U64 m) (h4 : tx.size ≤ 1048576) (ht : NdR n w.heap.size w (ndCells t.kind t.text t.n t.at_ A t.list.length cx) t) (hb : Blk w g 25 #[.int .i64 t.kind, .string t.text, .int .u64 t.n, .int .i64 t.at_, .slice A t.list.length cx]) :
    NdR (n + 1) w.heap.size w (ndCells (Nd.mk k tx m p [t]).kind (Nd.mk k tx m p [t]).text (Nd.mk k tx m p [t]).n (Nd.mk k tx m p [t]).at_ (some ⟨g, 0, none⟩) (Nd.mk k tx m p [t]).list.length 1) (.mk k tx m p [t]) :=
  ⟨⟨h1, h2, h3, h4, by simp [Nd.list]⟩, some ⟨g, 0, none⟩, 1, rfl, ⟨_, _, rfl, Nat.le_refl _, fun _ => ⟨g, 0, rfl, .inl hb.lt, hb.lt, fun j x hj => by
    match j, hj with
    | 0, hj =>
      injection hj with hj
      subst hj
      refine ⟨_, rfl, ht, fun i u hu => ?_⟩
      rw [show 0 + 0 * 5 + i = i by omega, hb.cell]
      unfold ndCells at hu
      simpa using hu
    | j + 1, hj => simp [Nd.list] at hj⟩⟩⟩
theorem NdR.box2 {n g cx : Nat} {w : World} {t : Nd} {A : Option Addr} (k : Int) (tx : ByteArray) (m : Nat) (p : Int) (h1 : I64 k) (h2 : I64 p) (h3 : U64 m) (h4 : tx.size ≤ 1048576) (ht : NdR n w.heap.size w (ndCells t.kind t.text t.n t.at_ A t.list.length cx) t) (hb : Blk w g 25 #[.int .i64 t.kind, .string t.text, .int .u64 t.n, .int .i64 t.at_, .slice A t.list.length cx, .int .i64 31, .string ⟨#[]⟩, .int .u64 0, .int .i64 0, .slice none 0 0]) :
    NdR (n + 1) w.heap.size w (ndCells (Nd.mk k tx m p [t, .mk 31 ⟨#[]⟩ 0 0 []]).kind (Nd.mk k tx m p [t, .mk 31 ⟨#[]⟩ 0 0 []]).text (Nd.mk k tx m p [t, .mk 31 ⟨#[]⟩ 0 0 []]).n (Nd.mk k tx m p [t, .mk 31 ⟨#[]⟩ 0 0 []]).at_ (some ⟨g, 0, none⟩) (Nd.mk k tx m p [t, .mk 31 ⟨#[]⟩ 0 0 []]).list.length 2) (.mk k tx m p [t, .mk 31 ⟨#[]⟩ 0 0 []]) :=
  ⟨⟨h1, h2, h3, h4, by simp [Nd.list]⟩, some ⟨g, 0, none⟩, 2, rfl, ⟨_, _, rfl, Nat.le_refl _, fun _ => ⟨g, 0, rfl, .inl hb.lt, hb.lt, fun j x hj => by
    match j, hj with
    | 0, hj =>
      injection hj with hj
      subst hj
      refine ⟨_, rfl, ht, fun i u hu => ?_⟩
      rw [show 0 + 0 * 5 + i = i by omega, hb.cell]
      unfold ndCells at hu
      match i, hu with
      | 0, hu => simpa using hu
      | 1, hu => simpa using hu
      | 2, hu => simpa using hu
      | 3, hu => simpa using hu
      | 4, hu => simpa using hu
      | i + 5, hu => simp at hu
    | 1, hj =>
      injection hj with hj
      subst hj
      refine ⟨_, rfl, NdR.deep (nd31 w 0 (by unfold U64; omega)) (by cases n with | zero => exact ht.elim | succ n => omega), fun i u hu => ?_⟩
      rw [show 0 + 1 * 5 + i = 5 + i by omega, hb.cell]
      unfold ndCells at hu
      match i, hu with
      | 0, hu => simpa [Nd.kind] using hu
      | 1, hu => simpa [Nd.text] using hu
      | 2, hu => simpa [Nd.n] using hu
      | 3, hu => simpa [Nd.at_] using hu
      | 4, hu => simpa [Nd.list] using hu
      | i + 5, hu => simp at hu
    | j + 2, hj => simp [Nd.list] at hj⟩⟩⟩
theorem heldG_next {w0 w1 w2 : World} {g1 g2 g3 : Nat} {v0 v1 v2 v3 v4 v5 v6 v7 v8 v9 v10 v11 v12 v13 v14 : Value} (k : w1.cell? ⟨g1, 0, none⟩ = some v0 ∧ w1.cell? ⟨g1, 1, none⟩ = some v1 ∧ w1.cell? ⟨g1, 2, none⟩ = some v2 ∧ w1.cell? ⟨g1, 3, none⟩ = some v3 ∧ w1.cell? ⟨g1, 4, none⟩ = some v4 ∧ w1.cell? ⟨g2, 0, none⟩ = some v5 ∧ w1.cell? ⟨g2, 1, none⟩ = some v6 ∧ w1.cell? ⟨g2, 2, none⟩ = some v7 ∧ w1.cell? ⟨g2, 3, none⟩ = some v8 ∧ w1.cell? ⟨g2, 4, none⟩ = some v9 ∧ w1.cell? ⟨g3, 0, none⟩ = some v10 ∧ w1.cell? ⟨g3, 1, none⟩ = some v11 ∧ w1.cell? ⟨g3, 2, none⟩ = some v12 ∧ w1.cell? ⟨g3, 3, none⟩ = some v13 ∧ w1.cell? ⟨g3, 4, none⟩ = some v14 ∧ Chg (fun _ _ => False) w0 w1) (hc : Chg (fun _ _ => False) w1 w2) :
    w2.cell? ⟨g1, 0, none⟩ = some v0 ∧ w2.cell? ⟨g1, 1, none⟩ = some v1 ∧ w2.cell? ⟨g1, 2, none⟩ = some v2 ∧ w2.cell? ⟨g1, 3, none⟩ = some v3 ∧ w2.cell? ⟨g1, 4, none⟩ = some v4 ∧ w2.cell? ⟨g2, 0, none⟩ = some v5 ∧ w2.cell? ⟨g2, 1, none⟩ = some v6 ∧ w2.cell? ⟨g2, 2, none⟩ = some v7 ∧ w2.cell? ⟨g2, 3, none⟩ = some v8 ∧ w2.cell? ⟨g2, 4, none⟩ = some v9 ∧ w2.cell? ⟨g3, 0, none⟩ = some v10 ∧ w2.cell? ⟨g3, 1, none⟩ = some v11 ∧ w2.cell? ⟨g3, 2, none⟩ = some v12 ∧ w2.cell? ⟨g3, 3, none⟩ = some v13 ∧ w2.cell? ⟨g3, 4, none⟩ = some v14 ∧ Chg (fun _ _ => False) w0 w2 :=
  ⟨hc.cell k.1 fun _ h => h, hc.cell k.2.1 fun _ h => h, hc.cell k.2.2.1 fun _ h => h, hc.cell k.2.2.2.1 fun _ h => h, hc.cell k.2.2.2.2.1 fun _ h => h, hc.cell k.2.2.2.2.2.1 fun _ h => h, hc.cell k.2.2.2.2.2.2.1 fun _ h => h, hc.cell k.2.2.2.2.2.2.2.1 fun _ h => h, hc.cell k.2.2.2.2.2.2.2.2.1 fun _ h => h, hc.cell k.2.2.2.2.2.2.2.2.2.1 fun _ h => h, hc.cell k.2.2.2.2.2.2.2.2.2.2.1 fun _ h => h, hc.cell k.2.2.2.2.2.2.2.2.2.2.2.1 fun _ h => h, hc.cell k.2.2.2.2.2.2.2.2.2.2.2.2.1 fun _ h => h, hc.cell k.2.2.2.2.2.2.2.2.2.2.2.2.2.1 fun _ h => h, hc.cell k.2.2.2.2.2.2.2.2.2.2.2.2.2.2.1 fun _ h => h, k.2.2.2.2.2.2.2.2.2.2.2.2.2.2.2.trans hc⟩
theorem heldG_chg {w0 w1 : World} {g1 g2 g3 : Nat} {v0 v1 v2 v3 v4 v5 v6 v7 v8 v9 v10 v11 v12 v13 v14 : Value} (k : w1.cell? ⟨g1, 0, none⟩ = some v0 ∧ w1.cell? ⟨g1, 1, none⟩ = some v1 ∧ w1.cell? ⟨g1, 2, none⟩ = some v2 ∧ w1.cell? ⟨g1, 3, none⟩ = some v3 ∧ w1.cell? ⟨g1, 4, none⟩ = some v4 ∧ w1.cell? ⟨g2, 0, none⟩ = some v5 ∧ w1.cell? ⟨g2, 1, none⟩ = some v6 ∧ w1.cell? ⟨g2, 2, none⟩ = some v7 ∧ w1.cell? ⟨g2, 3, none⟩ = some v8 ∧ w1.cell? ⟨g2, 4, none⟩ = some v9 ∧ w1.cell? ⟨g3, 0, none⟩ = some v10 ∧ w1.cell? ⟨g3, 1, none⟩ = some v11 ∧ w1.cell? ⟨g3, 2, none⟩ = some v12 ∧ w1.cell? ⟨g3, 3, none⟩ = some v13 ∧ w1.cell? ⟨g3, 4, none⟩ = some v14 ∧ Chg (fun _ _ => False) w0 w1) : Chg (fun _ _ => False) w0 w1 := k.2.2.2.2.2.2.2.2.2.2.2.2.2.2.2
set_option maxRecDepth 100000 in
set_option maxHeartbeats 8000000 in
theorem treeGrows_walk (n B : Nat) (w : World) (t : Nd) (A : Option Addr) (c : Nat) (hB : B ≤ w.heap.size) (hT : NdR n B w (ndCells t.kind t.text t.n t.at_ A t.list.length c) t) (hTW : TabW w) (hO : OpsR w) (hS : t.size ≤ 1048576) :
    Calls Tryd.prog 7 #[.agg #[.int .i64 t.kind, .string t.text, .int .u64 t.n, .int .i64 t.at_, .slice A t.list.length c]] w fun e w' => e = .returned (.bool true) ∧ Chg (fun _ _ => False) w w' := by
  have hb1 := Blk.new w 25 #[.int .i64 t.kind, .string t.text, .int .u64 t.n, .int .i64 t.at_, .slice A t.list.length c]
  have hc1 := chg_alloc w (.cells #[.int .i64 t.kind, .string t.text, .int .u64 t.n, .int .i64 t.at_, .slice A t.list.length c] 25)
  have HP := Lib.hid (And.intro hB (And.intro hT (And.intro hTW hO)))
  clear hB hT hTW hO
  go_enter Tryd.func7, Tryd.ntmps7
  go_wp2_with fail
  generalize w.alloc (.cells #[.int .i64 t.kind, .string t.text, .int .u64 t.n, .int .i64 t.at_, .slice A t.list.length c] 25) = W at hb1 hc1 ⊢
  generalize w.heap.size = g1 at hb1 ⊢
  have H0 := Lib.hid (And.intro hb1 hc1)
  clear hb1 hc1
  refine (answers4_any _).mono fun e w1 h => ?_
  obtain ⟨rfl, hcw⟩ := h
  obtain ⟨c0, c1, c2, c3, c4⟩ := (hcw.blk H0.out.1 id).cells5
  go_wp2_with fail
  refine (own_any n B w1 t A c (Nat.le_trans HP.out.1 (H0.out.2.trans hcw).size) (NdR.keep0 (H0.out.2.trans hcw) HP.out.2.1)).mono fun e w2 h => ?_
  obtain ⟨A2, c2x, rfl, hN, hc2⟩ := h
  have hv2 := hN.ndR
  replace hcw := hcw.trans hc2
  clear hN hc2
  clear c0 c1 c2 c3 c4
  obtain ⟨c0, c1, c2, c3, c4⟩ := (hcw.blk H0.out.1 id).cells5
  go_wp2_with fail
  have hcall := nSound_2 n _ w2 t A2 c2x (Nat.le_refl _) hv2 hS (HP.out.2.2.1.keep0 (H0.out.2.trans hcw)) (HP.out.2.2.2.keep0 (H0.out.2.trans hcw))
  clear hv2
  have HW0 := Lib.hid hcw
  cases hb : (isExprK t.kind && soundF t) with
  | false =>
    rw [hb] at hcall
    rw [show checkE false = 1 from rfl] at hcall
    refine hcall.mono fun e w3 h => ?_
    obtain ⟨rfl, hc3⟩ := h
    clear hcall
    have hcw := HW0.out.trans hc3
    go_wp2_with fail
    refine (answers4_any _).mono fun e w9 h => ?_
    obtain ⟨rfl, hc9⟩ := h
    go_wp2_with fail
    go_ret
    exact ⟨rfl, (H0.out.2.trans hcw).trans hc9⟩
  | true =>
    rw [hb] at hcall
    rw [show checkE true = 0 from rfl] at hcall
    have HB := Lib.hid hb
    have HSZ := Lib.hid hS
    have HSZ2 := Lib.hid (show t.size ≤ 16384 by have h := (Bool.and_eq_true_iff.1 hb).2; unfold soundF at h; exact of_decide_eq_true (Bool.and_eq_true_iff.1 h).2)
    have hz1 := depth_lt t
    have hz2 := HSZ2.out
    clear hb
    refine hcall.mono fun e w3 h => ?_
    obtain ⟨rfl, hc3⟩ := h
    clear hcall
    have hcw := HW0.out.trans hc3
    clear hc3
    clear c0 c1 c2 c3 c4
    obtain ⟨c0, c1, c2, c3, c4⟩ := (hcw.blk H0.out.1 id).cells5
    go_wp2_with fail
    have hcall := rndepth_any n B w3 t A c (Nat.le_trans HP.out.1 (H0.out.2.trans hcw).size) (NdR.keep0 (H0.out.2.trans hcw) HP.out.2.1) hS
    refine hcall.mono fun e w4 h => ?_
    obtain ⟨rfl, hc4⟩ := h
    clear hcall
    replace hcw := hcw.trans hc4
    clear hc4
    clear c0 c1 c2 c3 c4
    obtain ⟨c0, c1, c2, c3, c4⟩ := (hcw.blk H0.out.1 id).cells5
    by_cases hd : t.depth < 64
    · have q1 : decide (t.depth < 64) = true := decide_eq_true hd
      have q2 : (t.depth : Int) < 64 := by omega
      have q3 : decide ((t.depth : Int) < 64) = true := decide_eq_true q2
      have HD := Lib.hid hd
      clear hd
      go_wp2_with fail
      have hcall := rnsize_any n B w4 t A c (Nat.le_trans HP.out.1 (H0.out.2.trans hcw).size) (NdR.keep0 (H0.out.2.trans hcw) HP.out.2.1) hS
      refine hcall.mono fun e w5 h => ?_
      obtain ⟨rfl, hc5⟩ := h
      clear hcall
      replace hcw := hcw.trans hc5
      clear hc5
      clear c0 c1 c2 c3 c4
      obtain ⟨c0, c1, c2, c3, c4⟩ := (hcw.blk H0.out.1 id).cells5
      have m2 : IntKind.i64.wrap ((t.size : Int) + 2) = (t.size : Int) + 2 := IntWalk.i64_in _ ⟨by omega, by omega⟩
      by_cases hz : t.size + 2 ≤ 16384
      · have q4 : decide (t.size + 2 ≤ 16384) = true := decide_eq_true hz
        have q5 : decide ((t.size : Int) + 2 ≤ 16384) = true := decide_eq_true (by omega)
        have q6 : (t.size : Int) + 2 ≤ 16384 := by omega
        have HF := Lib.hid (And.intro hz (grows_plain HB.out HD.out hz))
        clear hz
        go_wp2_with fail
        refine (own_any n B w5 t A c (Nat.le_trans HP.out.1 (H0.out.2.trans hcw).size) (NdR.keep0 (H0.out.2.trans hcw) HP.out.2.1)).mono fun e w6 h => ?_
        obtain ⟨A6, c6x, rfl, hN, hc6⟩ := h
        have hv6 := hN.ndR
        replace hcw := hcw.trans hc6
        clear hN hc6
        have hra := Blk.new w6 25 #[.int .i64 t.kind, .string t.text, .int .u64 t.n, .int .i64 t.at_, .slice A6 t.list.length c6x]
        have hxa := Blk.new (w6.alloc (.cells #[.int .i64 t.kind, .string t.text, .int .u64 t.n, .int .i64 t.at_, .slice A6 t.list.length c6x] 25)) 25 #[.int .i64 33, .string ⟨#[45]⟩, .int .u64 0, .int .i64 0, .slice (some ⟨w6.heap.size, 0, none⟩) 1 1]
        simp only [World.size_alloc] at hxa
        have hcaa := (chg_alloc w6 (.cells #[.int .i64 t.kind, .string t.text, .int .u64 t.n, .int .i64 t.at_, .slice A6 t.list.length c6x] 25)).alloc (.cells #[.int .i64 33, .string ⟨#[45]⟩, .int .u64 0, .int .i64 0, .slice (some ⟨w6.heap.size, 0, none⟩) 1 1] 25)
        have hna := NdR.box1 33 ⟨#[45]⟩ 0 0 (by unfold I64; omega) (by unfold I64; omega) (by unfold U64; omega) (by decide) (NdR.keep0 (chg_alloc w6 (.cells #[.int .i64 t.kind, .string t.text, .int .u64 t.n, .int .i64 t.at_, .slice A6 t.list.length c6x] 25)) (NdR.more (chg_alloc w6 (.cells #[.int .i64 t.kind, .string t.text, .int .u64 t.n, .int .i64 t.at_, .slice A6 t.list.length c6x] 25)).size hv6)) hra
        have hna := NdR.keep0 (chg_alloc _ (.cells #[.int .i64 33, .string ⟨#[45]⟩, .int .u64 0, .int .i64 0, .slice (some ⟨w6.heap.size, 0, none⟩) 1 1] 25)) (NdR.more (chg_alloc _ (.cells #[.int .i64 33, .string ⟨#[45]⟩, .int .u64 0, .int .i64 0, .slice (some ⟨w6.heap.size, 0, none⟩) 1 1] 25)).size hna)
        replace hcw := hcw.trans hcaa
        clear hra hv6
        clear c0 c1 c2 c3 c4
        obtain ⟨c0, c1, c2, c3, c4⟩ := (hcw.blk H0.out.1 id).cells5
        go_wp2_with fail
        generalize (w6.alloc (.cells #[.int .i64 t.kind, .string t.text, .int .u64 t.n, .int .i64 t.at_, .slice A6 t.list.length c6x] 25)).alloc (.cells #[.int .i64 33, .string ⟨#[45]⟩, .int .u64 0, .int .i64 0, .slice (some ⟨w6.heap.size, 0, none⟩) 1 1] 25) = w6b at hxa hcaa hcw hna c0 c1 c2 c3 c4 ⊢
        generalize w6.heap.size + 1 = ga at hxa ⊢
        generalize w6.heap.size = ra at hxa hna ⊢
        clear hcaa
        have hab0 := hcw
        have hcs : Chg (fun _ _ => False) w6b w6b := Chg.refl _ _
        refine (own_any n B w6b t A c (Nat.le_trans HP.out.1 (H0.out.2.trans hcw).size) (NdR.keep0 (H0.out.2.trans hcw) HP.out.2.1)).mono fun e w8 h => ?_
        obtain ⟨A8, c8x, rfl, hN, hc8⟩ := h
        have hv8 := hN.ndR
        replace hcw := hcw.trans hc8
        replace hcs := hcs.trans hc8
        clear hN hc8
        have hrb := Blk.new w8 25 #[.int .i64 t.kind, .string t.text, .int .u64 t.n, .int .i64 t.at_, .slice A8 t.list.length c8x]
        have hxb := Blk.new (w8.alloc (.cells #[.int .i64 t.kind, .string t.text, .int .u64 t.n, .int .i64 t.at_, .slice A8 t.list.length c8x] 25)) 25 #[.int .i64 39, .string ⟨#[]⟩, .int .u64 0, .int .i64 0, .slice (some ⟨w8.heap.size, 0, none⟩) 1 1]
        simp only [World.size_alloc] at hxb
        have hcab := (chg_alloc w8 (.cells #[.int .i64 t.kind, .string t.text, .int .u64 t.n, .int .i64 t.at_, .slice A8 t.list.length c8x] 25)).alloc (.cells #[.int .i64 39, .string ⟨#[]⟩, .int .u64 0, .int .i64 0, .slice (some ⟨w8.heap.size, 0, none⟩) 1 1] 25)
        have hnb := NdR.box1 39 ⟨#[]⟩ 0 0 (by unfold I64; omega) (by unfold I64; omega) (by unfold U64; omega) (by decide) (NdR.keep0 (chg_alloc w8 (.cells #[.int .i64 t.kind, .string t.text, .int .u64 t.n, .int .i64 t.at_, .slice A8 t.list.length c8x] 25)) (NdR.more (chg_alloc w8 (.cells #[.int .i64 t.kind, .string t.text, .int .u64 t.n, .int .i64 t.at_, .slice A8 t.list.length c8x] 25)).size hv8)) hrb
        have hnb := NdR.keep0 (chg_alloc _ (.cells #[.int .i64 39, .string ⟨#[]⟩, .int .u64 0, .int .i64 0, .slice (some ⟨w8.heap.size, 0, none⟩) 1 1] 25)) (NdR.more (chg_alloc _ (.cells #[.int .i64 39, .string ⟨#[]⟩, .int .u64 0, .int .i64 0, .slice (some ⟨w8.heap.size, 0, none⟩) 1 1] 25)).size hnb)
        replace hcw := hcw.trans hcab
        replace hcs := hcs.trans hcab
        clear hrb hv8
        clear c0 c1 c2 c3 c4
        obtain ⟨c0, c1, c2, c3, c4⟩ := (hcw.blk H0.out.1 id).cells5
        go_wp2_with fail
        generalize (w8.alloc (.cells #[.int .i64 t.kind, .string t.text, .int .u64 t.n, .int .i64 t.at_, .slice A8 t.list.length c8x] 25)).alloc (.cells #[.int .i64 39, .string ⟨#[]⟩, .int .u64 0, .int .i64 0, .slice (some ⟨w8.heap.size, 0, none⟩) 1 1] 25) = w8b at hxb hcab hcw hcs hnb c0 c1 c2 c3 c4 ⊢
        generalize w8.heap.size + 1 = gb at hxb ⊢
        generalize w8.heap.size = rb at hxb hnb ⊢
        clear hcab
        clear c0 c1 c2 c3 c4
        obtain ⟨c0, c1, c2, c3, c4⟩ := (hcw.blk H0.out.1 id).cells5
        have hct : Chg (fun _ _ => False) w8b w8b := Chg.refl _ _
        refine (own_any n B w8b t A c (Nat.le_trans HP.out.1 (H0.out.2.trans hcw).size) (NdR.keep0 (H0.out.2.trans hcw) HP.out.2.1)).mono fun e w10 h => ?_
        obtain ⟨A10, c10x, rfl, hN, hc10⟩ := h
        have hv10 := hN.ndR
        replace hcw := hcw.trans hc10
        replace hcs := hcs.trans hc10
        replace hct := hct.trans hc10
        clear hN hc10
        have hrc := Blk.new w10 25 #[.int .i64 t.kind, .string t.text, .int .u64 t.n, .int .i64 t.at_, .slice A10 t.list.length c10x, .int .i64 31, .string ⟨#[]⟩, .int .u64 0, .int .i64 0, .slice none 0 0]
        have hxc := Blk.new (w10.alloc (.cells #[.int .i64 t.kind, .string t.text, .int .u64 t.n, .int .i64 t.at_, .slice A10 t.list.length c10x, .int .i64 31, .string ⟨#[]⟩, .int .u64 0, .int .i64 0, .slice none 0 0] 25)) 25 #[.int .i64 36, .string ⟨#[]⟩, .int .u64 0, .int .i64 0, .slice (some ⟨w10.heap.size, 0, none⟩) 2 2]
        simp only [World.size_alloc] at hxc
        have hcac := (chg_alloc w10 (.cells #[.int .i64 t.kind, .string t.text, .int .u64 t.n, .int .i64 t.at_, .slice A10 t.list.length c10x, .int .i64 31, .string ⟨#[]⟩, .int .u64 0, .int .i64 0, .slice none 0 0] 25)).alloc (.cells #[.int .i64 36, .string ⟨#[]⟩, .int .u64 0, .int .i64 0, .slice (some ⟨w10.heap.size, 0, none⟩) 2 2] 25)
        have hnc := NdR.box2 36 ⟨#[]⟩ 0 0 (by unfold I64; omega) (by unfold I64; omega) (by unfold U64; omega) (by decide) (NdR.keep0 (chg_alloc w10 (.cells #[.int .i64 t.kind, .string t.text, .int .u64 t.n, .int .i64 t.at_, .slice A10 t.list.length c10x, .int .i64 31, .string ⟨#[]⟩, .int .u64 0, .int .i64 0, .slice none 0 0] 25)) (NdR.more (chg_alloc w10 (.cells #[.int .i64 t.kind, .string t.text, .int .u64 t.n, .int .i64 t.at_, .slice A10 t.list.length c10x, .int .i64 31, .string ⟨#[]⟩, .int .u64 0, .int .i64 0, .slice none 0 0] 25)).size hv10)) hrc
        have hnc := NdR.keep0 (chg_alloc _ (.cells #[.int .i64 36, .string ⟨#[]⟩, .int .u64 0, .int .i64 0, .slice (some ⟨w10.heap.size, 0, none⟩) 2 2] 25)) (NdR.more (chg_alloc _ (.cells #[.int .i64 36, .string ⟨#[]⟩, .int .u64 0, .int .i64 0, .slice (some ⟨w10.heap.size, 0, none⟩) 2 2] 25)).size hnc)
        replace hcw := hcw.trans hcac
        replace hcs := hcs.trans hcac
        replace hct := hct.trans hcac
        clear hrc hv10
        clear c0 c1 c2 c3 c4
        obtain ⟨c0, c1, c2, c3, c4⟩ := (hcw.blk H0.out.1 id).cells5
        go_wp2_with fail
        generalize (w10.alloc (.cells #[.int .i64 t.kind, .string t.text, .int .u64 t.n, .int .i64 t.at_, .slice A10 t.list.length c10x, .int .i64 31, .string ⟨#[]⟩, .int .u64 0, .int .i64 0, .slice none 0 0] 25)).alloc (.cells #[.int .i64 36, .string ⟨#[]⟩, .int .u64 0, .int .i64 0, .slice (some ⟨w10.heap.size, 0, none⟩) 2 2] 25) = w10b at hxc hcac hcw hcs hct hnc c0 c1 c2 c3 c4 ⊢
        generalize w10.heap.size + 1 = gc at hxc ⊢
        generalize w10.heap.size = rc at hxc hnc ⊢
        clear hcac
        clear c0 c1 c2 c3 c4
        obtain ⟨c0, c1, c2, c3, c4⟩ := (hcw.blk H0.out.1 id).cells5
        have HW := Lib.hid (H0.out.2.trans hcw)
        have HNa := Lib.hid (NdR.keep0 hcs (NdR.more hcs.size hna))
        have HNb := Lib.hid (NdR.keep0 hct (NdR.more hct.size hnb))
        have HNc := Lib.hid hnc
        have HXb := Lib.hid (hct.blk hxb id)
        obtain ⟨d0, d1, d2, d3, d4⟩ := (hcs.blk hxa id).cells5
        obtain ⟨e0, e1, e2, e3, e4⟩ := hxc.cells5
        have hK : w10b.cell? ⟨g1, 0, none⟩ = some (.int .i64 t.kind) ∧ w10b.cell? ⟨g1, 1, none⟩ = some (.string t.text) ∧ w10b.cell? ⟨g1, 2, none⟩ = some (.int .u64 t.n) ∧ w10b.cell? ⟨g1, 3, none⟩ = some (.int .i64 t.at_) ∧ w10b.cell? ⟨g1, 4, none⟩ = some (.slice A t.list.length c) ∧ w10b.cell? ⟨ga, 0, none⟩ = some (.int .i64 33) ∧ w10b.cell? ⟨ga, 1, none⟩ = some (.string ⟨#[45]⟩) ∧ w10b.cell? ⟨ga, 2, none⟩ = some (.int .u64 0) ∧ w10b.cell? ⟨ga, 3, none⟩ = some (.int .i64 0) ∧ w10b.cell? ⟨ga, 4, none⟩ = some (.slice (some ⟨ra, 0, none⟩) 1 1) ∧ w10b.cell? ⟨gc, 0, none⟩ = some (.int .i64 36) ∧ w10b.cell? ⟨gc, 1, none⟩ = some (.string ⟨#[]⟩) ∧ w10b.cell? ⟨gc, 2, none⟩ = some (.int .u64 0) ∧ w10b.cell? ⟨gc, 3, none⟩ = some (.int .i64 0) ∧ w10b.cell? ⟨gc, 4, none⟩ = some (.slice (some ⟨rc, 0, none⟩) 2 2) ∧ Chg (fun _ _ => False) w10b w10b := ⟨c0, c1, c2, c3, c4, d0, d1, d2, d3, d4, e0, e1, e2, e3, e4, Chg.refl _ _⟩
        have hKd := heldG_next hK ((Chg.refl (fun _ _ => False) w10b).drew)
        have HQ := Lib.hid (And.intro
          (show ∀ w', Chg (fun _ _ => False) w10b w' → Calls Tryd.prog 20 #[.agg #[.int .i64 33, .string ⟨#[45]⟩, .int .u64 0, .int .i64 0, .slice (some ⟨ra, 0, none⟩) 1 1]] w' fun e w'' => e = .returned (.int .i64 ((t.depth : Int) + 1)) ∧ Chg (fun _ _ => False) w' w'' from fun w' hc => by
            have h := ndepth_any (n + 1) _ w' (Nd.mk 33 ⟨#[45]⟩ 0 0 [t]) (some ⟨ra, 0, none⟩) 1 (Nat.le_refl _) (NdR.keep0 hc (NdR.more hc.size HNa.out)) (by have := HSZ2.out; simp [size_eq, Nd.list, sizeL] at this ⊢; omega)
            rw [show (((Nd.mk 33 ⟨#[45]⟩ 0 0 [t]) : Nd).depth : Int) = (t.depth : Int) + 1 by simp [depth_eq, Nd.list, depthL]] at h
            exact h)
          (show ∀ w', Chg (fun _ _ => False) w10b w' → Calls Tryd.prog 18 #[.agg #[.int .i64 36, .string ⟨#[]⟩, .int .u64 0, .int .i64 0, .slice (some ⟨rc, 0, none⟩) 2 2]] w' fun e w'' => e = .returned (.int .i64 ((t.size : Int) + 2)) ∧ Chg (fun _ _ => False) w' w'' from fun w' hc => by
            have h := nsize_any (n + 1) _ w' (Nd.mk 36 ⟨#[]⟩ 0 0 [t, .mk 31 ⟨#[]⟩ 0 0 []]) (some ⟨rc, 0, none⟩) 2 (Nat.le_refl _) (NdR.keep0 hc (NdR.more hc.size HNc.out)) (by have := HSZ2.out; simp [size_eq, Nd.list, sizeL] at this ⊢; omega)
            rw [show (((Nd.mk 36 ⟨#[]⟩ 0 0 [t, .mk 31 ⟨#[]⟩ 0 0 []]) : Nd).size : Int) = (t.size : Int) + 2 by simp [size_eq, Nd.list, sizeL]; omega] at h
            exact h))
        have m1 : IntKind.i64.wrap ((t.depth : Int) + 1) = (t.depth : Int) + 1 := IntWalk.i64_in _ ⟨by omega, by omega⟩
        have m2 : IntKind.i64.wrap ((t.size : Int) + 2) = (t.size : Int) + 2 := IntWalk.i64_in _ ⟨by omega, by omega⟩
        clear hcw hcs hct hxa hxb hxc hna hnb hnc hK hab0
        go_region_held3 (fun w' => w'.cell? ⟨g1, 0, none⟩ = some (.int .i64 t.kind) ∧ w'.cell? ⟨g1, 1, none⟩ = some (.string t.text) ∧ w'.cell? ⟨g1, 2, none⟩ = some (.int .u64 t.n) ∧ w'.cell? ⟨g1, 3, none⟩ = some (.int .i64 t.at_) ∧ w'.cell? ⟨g1, 4, none⟩ = some (.slice A t.list.length c) ∧ w'.cell? ⟨ga, 0, none⟩ = some (.int .i64 33) ∧ w'.cell? ⟨ga, 1, none⟩ = some (.string ⟨#[45]⟩) ∧ w'.cell? ⟨ga, 2, none⟩ = some (.int .u64 0) ∧ w'.cell? ⟨ga, 3, none⟩ = some (.int .i64 0) ∧ w'.cell? ⟨ga, 4, none⟩ = some (.slice (some ⟨ra, 0, none⟩) 1 1) ∧ w'.cell? ⟨gc, 0, none⟩ = some (.int .i64 36) ∧ w'.cell? ⟨gc, 1, none⟩ = some (.string ⟨#[]⟩) ∧ w'.cell? ⟨gc, 2, none⟩ = some (.int .u64 0) ∧ w'.cell? ⟨gc, 3, none⟩ = some (.int .i64 0) ∧ w'.cell? ⟨gc, 4, none⟩ = some (.slice (some ⟨rc, 0, none⟩) 2 2) ∧ Chg (fun _ _ => False) w10b w')
          (assumption)
          (first
            | (go_at_call 20
               refine (HQ.out.1 _ (heldG_chg (by assumption))).mono ?_
               rintro e w' ⟨rfl, hb⟩
               have hS := heldG_next (by assumption) hb
               clear hb)
            | (go_at_call 21
               refine (rndepth_any n B _ t A c (by exact Nat.le_trans HP.out.1 (HW.out.trans (heldG_chg (by assumption))).size) (NdR.keep0 (HW.out.trans (heldG_chg (by assumption))) HP.out.2.1) HSZ.out).mono ?_
               rintro e w' ⟨rfl, hb⟩
               have hS := heldG_next (by assumption) hb
               clear hb)
            | (go_at_call 18
               refine (HQ.out.2 _ (heldG_chg (by assumption))).mono ?_
               rintro e w' ⟨rfl, hb⟩
               have hS := heldG_next (by assumption) hb
               clear hb)
            | (go_at_call 19
               refine (rnsize_any n B _ t A c (by exact Nat.le_trans HP.out.1 (HW.out.trans (heldG_chg (by assumption))).size) (NdR.keep0 (HW.out.trans (heldG_chg (by assumption))) HP.out.2.1) HSZ.out).mono ?_
               rintro e w' ⟨rfl, hb⟩
               have hS := heldG_next (by assumption) hb
               clear hb))
        have hcz := heldG_chg (by assumption)
        clear c0 c1 c2 c3 c4 d0 d1 d2 d3 d4 e0 e1 e2 e3 e4 hKd
        obtain ⟨c0, c1, c2, c3, c4, d0, d1, d2, d3, d4, e0, e1, e2, e3, e4, hch⟩ := hS
        obtain ⟨f0, f1, f2, f3, f4⟩ := (hcz.blk HXb.out id).cells5
        go_wp2_with fail
        have hcall := nSound_2 (n + 1) _ _ (Nd.mk 33 ⟨#[45]⟩ 0 0 [t]) (some ⟨ra, 0, none⟩) 1 (Nat.le_refl _) (NdR.keep0 hcz (NdR.more hcz.size HNa.out)) (by have := HF.out.1; simp [size_eq, Nd.list, sizeL] at this ⊢; omega) (HP.out.2.2.1.keep0 (HW.out.trans hcz)) (HP.out.2.2.2.keep0 (HW.out.trans hcz))
        rw [show (isExprK ((Nd.mk 33 ⟨#[45]⟩ 0 0 [t]) : Nd).kind && soundF (Nd.mk 33 ⟨#[45]⟩ 0 0 [t])) = true from HF.out.2.1] at hcall
        rw [show checkE true = 0 from rfl] at hcall
        refine hcall.mono fun e w20 h => ?_
        obtain ⟨rfl, hc20⟩ := h
        clear hcall
        replace d0 := hc20.cell d0 fun _ => id
        replace d1 := hc20.cell d1 fun _ => id
        replace d2 := hc20.cell d2 fun _ => id
        replace d3 := hc20.cell d3 fun _ => id
        replace d4 := hc20.cell d4 fun _ => id
        replace e0 := hc20.cell e0 fun _ => id
        replace e1 := hc20.cell e1 fun _ => id
        replace e2 := hc20.cell e2 fun _ => id
        replace e3 := hc20.cell e3 fun _ => id
        replace e4 := hc20.cell e4 fun _ => id
        replace f0 := hc20.cell f0 fun _ => id
        replace f1 := hc20.cell f1 fun _ => id
        replace f2 := hc20.cell f2 fun _ => id
        replace f3 := hc20.cell f3 fun _ => id
        replace f4 := hc20.cell f4 fun _ => id
        replace hcz := hcz.trans hc20
        clear hc20
        go_wp2_with fail
        have hcall := nSound_2 (n + 1) _ _ (Nd.mk 39 ⟨#[]⟩ 0 0 [t]) (some ⟨rb, 0, none⟩) 1 (Nat.le_refl _) (NdR.keep0 hcz (NdR.more hcz.size HNb.out)) (by have := HF.out.1; simp [size_eq, Nd.list, sizeL] at this ⊢; omega) (HP.out.2.2.1.keep0 (HW.out.trans hcz)) (HP.out.2.2.2.keep0 (HW.out.trans hcz))
        rw [show (isExprK ((Nd.mk 39 ⟨#[]⟩ 0 0 [t]) : Nd).kind && soundF (Nd.mk 39 ⟨#[]⟩ 0 0 [t])) = true from HF.out.2.2.1] at hcall
        rw [show checkE true = 0 from rfl] at hcall
        refine hcall.mono fun e w21 h => ?_
        obtain ⟨rfl, hc21⟩ := h
        clear hcall
        replace d0 := hc21.cell d0 fun _ => id
        replace d1 := hc21.cell d1 fun _ => id
        replace d2 := hc21.cell d2 fun _ => id
        replace d3 := hc21.cell d3 fun _ => id
        replace d4 := hc21.cell d4 fun _ => id
        replace e0 := hc21.cell e0 fun _ => id
        replace e1 := hc21.cell e1 fun _ => id
        replace e2 := hc21.cell e2 fun _ => id
        replace e3 := hc21.cell e3 fun _ => id
        replace e4 := hc21.cell e4 fun _ => id
        replace f0 := hc21.cell f0 fun _ => id
        replace f1 := hc21.cell f1 fun _ => id
        replace f2 := hc21.cell f2 fun _ => id
        replace f3 := hc21.cell f3 fun _ => id
        replace f4 := hc21.cell f4 fun _ => id
        replace hcz := hcz.trans hc21
        clear hc21
        go_wp2_with fail
        have hcall := nSound_2 (n + 1) _ _ (Nd.mk 36 ⟨#[]⟩ 0 0 [t, .mk 31 ⟨#[]⟩ 0 0 []]) (some ⟨rc, 0, none⟩) 2 (Nat.le_refl _) (NdR.keep0 hcz (NdR.more hcz.size HNc.out)) (by have := HF.out.1; simp [size_eq, Nd.list, sizeL] at this ⊢; omega) (HP.out.2.2.1.keep0 (HW.out.trans hcz)) (HP.out.2.2.2.keep0 (HW.out.trans hcz))
        rw [show (isExprK ((Nd.mk 36 ⟨#[]⟩ 0 0 [t, .mk 31 ⟨#[]⟩ 0 0 []]) : Nd).kind && soundF (Nd.mk 36 ⟨#[]⟩ 0 0 [t, .mk 31 ⟨#[]⟩ 0 0 []])) = true from HF.out.2.2.2] at hcall
        rw [show checkE true = 0 from rfl] at hcall
        refine hcall.mono fun e w22 h => ?_
        obtain ⟨rfl, hc22⟩ := h
        clear hcall
        replace hcz := hcz.trans hc22
        clear hc22
        go_wp2_with fail
        go_ret
        exact ⟨rfl, HW.out.trans hcz⟩
      · have q4 : decide (t.size + 2 ≤ 16384) = false := decide_eq_false hz
        have q5 : decide ((t.size : Int) + 2 ≤ 16384) = false := decide_eq_false (by omega)
        have q6 : ¬ (t.size : Int) + 2 ≤ 16384 := by omega
        clear hz
        go_wp2_with fail
        refine (own_any n B w5 t A c (Nat.le_trans HP.out.1 (H0.out.2.trans hcw).size) (NdR.keep0 (H0.out.2.trans hcw) HP.out.2.1)).mono fun e w6 h => ?_
        obtain ⟨A6, c6x, rfl, hN, hc6⟩ := h
        have hv6 := hN.ndR
        replace hcw := hcw.trans hc6
        clear hN hc6
        have hra := Blk.new w6 25 #[.int .i64 t.kind, .string t.text, .int .u64 t.n, .int .i64 t.at_, .slice A6 t.list.length c6x]
        have hxa := Blk.new (w6.alloc (.cells #[.int .i64 t.kind, .string t.text, .int .u64 t.n, .int .i64 t.at_, .slice A6 t.list.length c6x] 25)) 25 #[.int .i64 33, .string ⟨#[45]⟩, .int .u64 0, .int .i64 0, .slice (some ⟨w6.heap.size, 0, none⟩) 1 1]
        simp only [World.size_alloc] at hxa
        have hcaa := (chg_alloc w6 (.cells #[.int .i64 t.kind, .string t.text, .int .u64 t.n, .int .i64 t.at_, .slice A6 t.list.length c6x] 25)).alloc (.cells #[.int .i64 33, .string ⟨#[45]⟩, .int .u64 0, .int .i64 0, .slice (some ⟨w6.heap.size, 0, none⟩) 1 1] 25)
        have hna := NdR.box1 33 ⟨#[45]⟩ 0 0 (by unfold I64; omega) (by unfold I64; omega) (by unfold U64; omega) (by decide) (NdR.keep0 (chg_alloc w6 (.cells #[.int .i64 t.kind, .string t.text, .int .u64 t.n, .int .i64 t.at_, .slice A6 t.list.length c6x] 25)) (NdR.more (chg_alloc w6 (.cells #[.int .i64 t.kind, .string t.text, .int .u64 t.n, .int .i64 t.at_, .slice A6 t.list.length c6x] 25)).size hv6)) hra
        have hna := NdR.keep0 (chg_alloc _ (.cells #[.int .i64 33, .string ⟨#[45]⟩, .int .u64 0, .int .i64 0, .slice (some ⟨w6.heap.size, 0, none⟩) 1 1] 25)) (NdR.more (chg_alloc _ (.cells #[.int .i64 33, .string ⟨#[45]⟩, .int .u64 0, .int .i64 0, .slice (some ⟨w6.heap.size, 0, none⟩) 1 1] 25)).size hna)
        replace hcw := hcw.trans hcaa
        clear hra hv6
        clear c0 c1 c2 c3 c4
        obtain ⟨c0, c1, c2, c3, c4⟩ := (hcw.blk H0.out.1 id).cells5
        go_wp2_with fail
        generalize (w6.alloc (.cells #[.int .i64 t.kind, .string t.text, .int .u64 t.n, .int .i64 t.at_, .slice A6 t.list.length c6x] 25)).alloc (.cells #[.int .i64 33, .string ⟨#[45]⟩, .int .u64 0, .int .i64 0, .slice (some ⟨w6.heap.size, 0, none⟩) 1 1] 25) = w6b at hxa hcaa hcw hna c0 c1 c2 c3 c4 ⊢
        generalize w6.heap.size + 1 = ga at hxa ⊢
        generalize w6.heap.size = ra at hxa hna ⊢
        clear hcaa
        have hab0 := hcw
        have hcs : Chg (fun _ _ => False) w6b w6b := Chg.refl _ _
        refine (own_any n B w6b t A c (Nat.le_trans HP.out.1 (H0.out.2.trans hcw).size) (NdR.keep0 (H0.out.2.trans hcw) HP.out.2.1)).mono fun e w8 h => ?_
        obtain ⟨A8, c8x, rfl, hN, hc8⟩ := h
        have hv8 := hN.ndR
        replace hcw := hcw.trans hc8
        replace hcs := hcs.trans hc8
        clear hN hc8
        have hrb := Blk.new w8 25 #[.int .i64 t.kind, .string t.text, .int .u64 t.n, .int .i64 t.at_, .slice A8 t.list.length c8x]
        have hxb := Blk.new (w8.alloc (.cells #[.int .i64 t.kind, .string t.text, .int .u64 t.n, .int .i64 t.at_, .slice A8 t.list.length c8x] 25)) 25 #[.int .i64 39, .string ⟨#[]⟩, .int .u64 0, .int .i64 0, .slice (some ⟨w8.heap.size, 0, none⟩) 1 1]
        simp only [World.size_alloc] at hxb
        have hcab := (chg_alloc w8 (.cells #[.int .i64 t.kind, .string t.text, .int .u64 t.n, .int .i64 t.at_, .slice A8 t.list.length c8x] 25)).alloc (.cells #[.int .i64 39, .string ⟨#[]⟩, .int .u64 0, .int .i64 0, .slice (some ⟨w8.heap.size, 0, none⟩) 1 1] 25)
        have hnb := NdR.box1 39 ⟨#[]⟩ 0 0 (by unfold I64; omega) (by unfold I64; omega) (by unfold U64; omega) (by decide) (NdR.keep0 (chg_alloc w8 (.cells #[.int .i64 t.kind, .string t.text, .int .u64 t.n, .int .i64 t.at_, .slice A8 t.list.length c8x] 25)) (NdR.more (chg_alloc w8 (.cells #[.int .i64 t.kind, .string t.text, .int .u64 t.n, .int .i64 t.at_, .slice A8 t.list.length c8x] 25)).size hv8)) hrb
        have hnb := NdR.keep0 (chg_alloc _ (.cells #[.int .i64 39, .string ⟨#[]⟩, .int .u64 0, .int .i64 0, .slice (some ⟨w8.heap.size, 0, none⟩) 1 1] 25)) (NdR.more (chg_alloc _ (.cells #[.int .i64 39, .string ⟨#[]⟩, .int .u64 0, .int .i64 0, .slice (some ⟨w8.heap.size, 0, none⟩) 1 1] 25)).size hnb)
        replace hcw := hcw.trans hcab
        replace hcs := hcs.trans hcab
        clear hrb hv8
        clear c0 c1 c2 c3 c4
        obtain ⟨c0, c1, c2, c3, c4⟩ := (hcw.blk H0.out.1 id).cells5
        go_wp2_with fail
        generalize (w8.alloc (.cells #[.int .i64 t.kind, .string t.text, .int .u64 t.n, .int .i64 t.at_, .slice A8 t.list.length c8x] 25)).alloc (.cells #[.int .i64 39, .string ⟨#[]⟩, .int .u64 0, .int .i64 0, .slice (some ⟨w8.heap.size, 0, none⟩) 1 1] 25) = w8b at hxb hcab hcw hcs hnb c0 c1 c2 c3 c4 ⊢
        generalize w8.heap.size + 1 = gb at hxb ⊢
        generalize w8.heap.size = rb at hxb hnb ⊢
        clear hcab
        clear c0 c1 c2 c3 c4
        obtain ⟨c0, c1, c2, c3, c4⟩ := (hcw.blk H0.out.1 id).cells5
        have hct : Chg (fun _ _ => False) w8b w8b := Chg.refl _ _
        refine (own_any n B w8b t A c (Nat.le_trans HP.out.1 (H0.out.2.trans hcw).size) (NdR.keep0 (H0.out.2.trans hcw) HP.out.2.1)).mono fun e w10 h => ?_
        obtain ⟨A10, c10x, rfl, hN, hc10⟩ := h
        have hv10 := hN.ndR
        replace hcw := hcw.trans hc10
        replace hcs := hcs.trans hc10
        replace hct := hct.trans hc10
        clear hN hc10
        have hrc := Blk.new w10 25 #[.int .i64 t.kind, .string t.text, .int .u64 t.n, .int .i64 t.at_, .slice A10 t.list.length c10x, .int .i64 31, .string ⟨#[]⟩, .int .u64 0, .int .i64 0, .slice none 0 0]
        have hxc := Blk.new (w10.alloc (.cells #[.int .i64 t.kind, .string t.text, .int .u64 t.n, .int .i64 t.at_, .slice A10 t.list.length c10x, .int .i64 31, .string ⟨#[]⟩, .int .u64 0, .int .i64 0, .slice none 0 0] 25)) 25 #[.int .i64 36, .string ⟨#[]⟩, .int .u64 0, .int .i64 0, .slice (some ⟨w10.heap.size, 0, none⟩) 2 2]
        simp only [World.size_alloc] at hxc
        have hcac := (chg_alloc w10 (.cells #[.int .i64 t.kind, .string t.text, .int .u64 t.n, .int .i64 t.at_, .slice A10 t.list.length c10x, .int .i64 31, .string ⟨#[]⟩, .int .u64 0, .int .i64 0, .slice none 0 0] 25)).alloc (.cells #[.int .i64 36, .string ⟨#[]⟩, .int .u64 0, .int .i64 0, .slice (some ⟨w10.heap.size, 0, none⟩) 2 2] 25)
        have hnc := NdR.box2 36 ⟨#[]⟩ 0 0 (by unfold I64; omega) (by unfold I64; omega) (by unfold U64; omega) (by decide) (NdR.keep0 (chg_alloc w10 (.cells #[.int .i64 t.kind, .string t.text, .int .u64 t.n, .int .i64 t.at_, .slice A10 t.list.length c10x, .int .i64 31, .string ⟨#[]⟩, .int .u64 0, .int .i64 0, .slice none 0 0] 25)) (NdR.more (chg_alloc w10 (.cells #[.int .i64 t.kind, .string t.text, .int .u64 t.n, .int .i64 t.at_, .slice A10 t.list.length c10x, .int .i64 31, .string ⟨#[]⟩, .int .u64 0, .int .i64 0, .slice none 0 0] 25)).size hv10)) hrc
        have hnc := NdR.keep0 (chg_alloc _ (.cells #[.int .i64 36, .string ⟨#[]⟩, .int .u64 0, .int .i64 0, .slice (some ⟨w10.heap.size, 0, none⟩) 2 2] 25)) (NdR.more (chg_alloc _ (.cells #[.int .i64 36, .string ⟨#[]⟩, .int .u64 0, .int .i64 0, .slice (some ⟨w10.heap.size, 0, none⟩) 2 2] 25)).size hnc)
        replace hcw := hcw.trans hcac
        replace hcs := hcs.trans hcac
        replace hct := hct.trans hcac
        clear hrc hv10
        clear c0 c1 c2 c3 c4
        obtain ⟨c0, c1, c2, c3, c4⟩ := (hcw.blk H0.out.1 id).cells5
        go_wp2_with fail
        generalize (w10.alloc (.cells #[.int .i64 t.kind, .string t.text, .int .u64 t.n, .int .i64 t.at_, .slice A10 t.list.length c10x, .int .i64 31, .string ⟨#[]⟩, .int .u64 0, .int .i64 0, .slice none 0 0] 25)).alloc (.cells #[.int .i64 36, .string ⟨#[]⟩, .int .u64 0, .int .i64 0, .slice (some ⟨w10.heap.size, 0, none⟩) 2 2] 25) = w10b at hxc hcac hcw hcs hct hnc c0 c1 c2 c3 c4 ⊢
        generalize w10.heap.size + 1 = gc at hxc ⊢
        generalize w10.heap.size = rc at hxc hnc ⊢
        clear hcac
        clear c0 c1 c2 c3 c4
        obtain ⟨c0, c1, c2, c3, c4⟩ := (hcw.blk H0.out.1 id).cells5
        have HW := Lib.hid (H0.out.2.trans hcw)
        have HNa := Lib.hid (NdR.keep0 hcs (NdR.more hcs.size hna))
        have HNb := Lib.hid (NdR.keep0 hct (NdR.more hct.size hnb))
        have HNc := Lib.hid hnc
        have HXb := Lib.hid (hct.blk hxb id)
        obtain ⟨d0, d1, d2, d3, d4⟩ := (hcs.blk hxa id).cells5
        obtain ⟨e0, e1, e2, e3, e4⟩ := hxc.cells5
        have hK : w10b.cell? ⟨g1, 0, none⟩ = some (.int .i64 t.kind) ∧ w10b.cell? ⟨g1, 1, none⟩ = some (.string t.text) ∧ w10b.cell? ⟨g1, 2, none⟩ = some (.int .u64 t.n) ∧ w10b.cell? ⟨g1, 3, none⟩ = some (.int .i64 t.at_) ∧ w10b.cell? ⟨g1, 4, none⟩ = some (.slice A t.list.length c) ∧ w10b.cell? ⟨ga, 0, none⟩ = some (.int .i64 33) ∧ w10b.cell? ⟨ga, 1, none⟩ = some (.string ⟨#[45]⟩) ∧ w10b.cell? ⟨ga, 2, none⟩ = some (.int .u64 0) ∧ w10b.cell? ⟨ga, 3, none⟩ = some (.int .i64 0) ∧ w10b.cell? ⟨ga, 4, none⟩ = some (.slice (some ⟨ra, 0, none⟩) 1 1) ∧ w10b.cell? ⟨gc, 0, none⟩ = some (.int .i64 36) ∧ w10b.cell? ⟨gc, 1, none⟩ = some (.string ⟨#[]⟩) ∧ w10b.cell? ⟨gc, 2, none⟩ = some (.int .u64 0) ∧ w10b.cell? ⟨gc, 3, none⟩ = some (.int .i64 0) ∧ w10b.cell? ⟨gc, 4, none⟩ = some (.slice (some ⟨rc, 0, none⟩) 2 2) ∧ Chg (fun _ _ => False) w10b w10b := ⟨c0, c1, c2, c3, c4, d0, d1, d2, d3, d4, e0, e1, e2, e3, e4, Chg.refl _ _⟩
        have hKd := heldG_next hK ((Chg.refl (fun _ _ => False) w10b).drew)
        have HQ := Lib.hid (And.intro
          (show ∀ w', Chg (fun _ _ => False) w10b w' → Calls Tryd.prog 20 #[.agg #[.int .i64 33, .string ⟨#[45]⟩, .int .u64 0, .int .i64 0, .slice (some ⟨ra, 0, none⟩) 1 1]] w' fun e w'' => e = .returned (.int .i64 ((t.depth : Int) + 1)) ∧ Chg (fun _ _ => False) w' w'' from fun w' hc => by
            have h := ndepth_any (n + 1) _ w' (Nd.mk 33 ⟨#[45]⟩ 0 0 [t]) (some ⟨ra, 0, none⟩) 1 (Nat.le_refl _) (NdR.keep0 hc (NdR.more hc.size HNa.out)) (by have := HSZ2.out; simp [size_eq, Nd.list, sizeL] at this ⊢; omega)
            rw [show (((Nd.mk 33 ⟨#[45]⟩ 0 0 [t]) : Nd).depth : Int) = (t.depth : Int) + 1 by simp [depth_eq, Nd.list, depthL]] at h
            exact h)
          (show ∀ w', Chg (fun _ _ => False) w10b w' → Calls Tryd.prog 18 #[.agg #[.int .i64 36, .string ⟨#[]⟩, .int .u64 0, .int .i64 0, .slice (some ⟨rc, 0, none⟩) 2 2]] w' fun e w'' => e = .returned (.int .i64 ((t.size : Int) + 2)) ∧ Chg (fun _ _ => False) w' w'' from fun w' hc => by
            have h := nsize_any (n + 1) _ w' (Nd.mk 36 ⟨#[]⟩ 0 0 [t, .mk 31 ⟨#[]⟩ 0 0 []]) (some ⟨rc, 0, none⟩) 2 (Nat.le_refl _) (NdR.keep0 hc (NdR.more hc.size HNc.out)) (by have := HSZ2.out; simp [size_eq, Nd.list, sizeL] at this ⊢; omega)
            rw [show (((Nd.mk 36 ⟨#[]⟩ 0 0 [t, .mk 31 ⟨#[]⟩ 0 0 []]) : Nd).size : Int) = (t.size : Int) + 2 by simp [size_eq, Nd.list, sizeL]; omega] at h
            exact h))
        have m1 : IntKind.i64.wrap ((t.depth : Int) + 1) = (t.depth : Int) + 1 := IntWalk.i64_in _ ⟨by omega, by omega⟩
        have m2 : IntKind.i64.wrap ((t.size : Int) + 2) = (t.size : Int) + 2 := IntWalk.i64_in _ ⟨by omega, by omega⟩
        clear hcw hcs hct hxa hxb hxc hna hnb hnc hK hab0
        go_region_held3 (fun w' => w'.cell? ⟨g1, 0, none⟩ = some (.int .i64 t.kind) ∧ w'.cell? ⟨g1, 1, none⟩ = some (.string t.text) ∧ w'.cell? ⟨g1, 2, none⟩ = some (.int .u64 t.n) ∧ w'.cell? ⟨g1, 3, none⟩ = some (.int .i64 t.at_) ∧ w'.cell? ⟨g1, 4, none⟩ = some (.slice A t.list.length c) ∧ w'.cell? ⟨ga, 0, none⟩ = some (.int .i64 33) ∧ w'.cell? ⟨ga, 1, none⟩ = some (.string ⟨#[45]⟩) ∧ w'.cell? ⟨ga, 2, none⟩ = some (.int .u64 0) ∧ w'.cell? ⟨ga, 3, none⟩ = some (.int .i64 0) ∧ w'.cell? ⟨ga, 4, none⟩ = some (.slice (some ⟨ra, 0, none⟩) 1 1) ∧ w'.cell? ⟨gc, 0, none⟩ = some (.int .i64 36) ∧ w'.cell? ⟨gc, 1, none⟩ = some (.string ⟨#[]⟩) ∧ w'.cell? ⟨gc, 2, none⟩ = some (.int .u64 0) ∧ w'.cell? ⟨gc, 3, none⟩ = some (.int .i64 0) ∧ w'.cell? ⟨gc, 4, none⟩ = some (.slice (some ⟨rc, 0, none⟩) 2 2) ∧ Chg (fun _ _ => False) w10b w')
          (assumption)
          (first
            | (go_at_call 20
               refine (HQ.out.1 _ (heldG_chg (by assumption))).mono ?_
               rintro e w' ⟨rfl, hb⟩
               have hS := heldG_next (by assumption) hb
               clear hb)
            | (go_at_call 21
               refine (rndepth_any n B _ t A c (by exact Nat.le_trans HP.out.1 (HW.out.trans (heldG_chg (by assumption))).size) (NdR.keep0 (HW.out.trans (heldG_chg (by assumption))) HP.out.2.1) HSZ.out).mono ?_
               rintro e w' ⟨rfl, hb⟩
               have hS := heldG_next (by assumption) hb
               clear hb)
            | (go_at_call 18
               refine (HQ.out.2 _ (heldG_chg (by assumption))).mono ?_
               rintro e w' ⟨rfl, hb⟩
               have hS := heldG_next (by assumption) hb
               clear hb)
            | (go_at_call 19
               refine (rnsize_any n B _ t A c (by exact Nat.le_trans HP.out.1 (HW.out.trans (heldG_chg (by assumption))).size) (NdR.keep0 (HW.out.trans (heldG_chg (by assumption))) HP.out.2.1) HSZ.out).mono ?_
               rintro e w' ⟨rfl, hb⟩
               have hS := heldG_next (by assumption) hb
               clear hb))
        have hcz := heldG_chg (by assumption)
        clear c0 c1 c2 c3 c4 d0 d1 d2 d3 d4 e0 e1 e2 e3 e4
        go_wp2_with fail
        go_ret
        exact ⟨rfl, HW.out.trans hcz⟩
    · have q1 : decide (t.depth < 64) = false := decide_eq_false hd
      have q2 : ¬ (t.depth : Int) < 64 := by omega
      have q3 : decide ((t.depth : Int) < 64) = false := decide_eq_false q2
      clear hd
      go_wp2_with fail
      refine (own_any n B w4 t A c (Nat.le_trans HP.out.1 (H0.out.2.trans hcw).size) (NdR.keep0 (H0.out.2.trans hcw) HP.out.2.1)).mono fun e w6 h => ?_
      obtain ⟨A6, c6x, rfl, hN, hc6⟩ := h
      have hv6 := hN.ndR
      replace hcw := hcw.trans hc6
      clear hN hc6
      have hra := Blk.new w6 25 #[.int .i64 t.kind, .string t.text, .int .u64 t.n, .int .i64 t.at_, .slice A6 t.list.length c6x]
      have hxa := Blk.new (w6.alloc (.cells #[.int .i64 t.kind, .string t.text, .int .u64 t.n, .int .i64 t.at_, .slice A6 t.list.length c6x] 25)) 25 #[.int .i64 33, .string ⟨#[45]⟩, .int .u64 0, .int .i64 0, .slice (some ⟨w6.heap.size, 0, none⟩) 1 1]
      simp only [World.size_alloc] at hxa
      have hcaa := (chg_alloc w6 (.cells #[.int .i64 t.kind, .string t.text, .int .u64 t.n, .int .i64 t.at_, .slice A6 t.list.length c6x] 25)).alloc (.cells #[.int .i64 33, .string ⟨#[45]⟩, .int .u64 0, .int .i64 0, .slice (some ⟨w6.heap.size, 0, none⟩) 1 1] 25)
      have hna := NdR.box1 33 ⟨#[45]⟩ 0 0 (by unfold I64; omega) (by unfold I64; omega) (by unfold U64; omega) (by decide) (NdR.keep0 (chg_alloc w6 (.cells #[.int .i64 t.kind, .string t.text, .int .u64 t.n, .int .i64 t.at_, .slice A6 t.list.length c6x] 25)) (NdR.more (chg_alloc w6 (.cells #[.int .i64 t.kind, .string t.text, .int .u64 t.n, .int .i64 t.at_, .slice A6 t.list.length c6x] 25)).size hv6)) hra
      have hna := NdR.keep0 (chg_alloc _ (.cells #[.int .i64 33, .string ⟨#[45]⟩, .int .u64 0, .int .i64 0, .slice (some ⟨w6.heap.size, 0, none⟩) 1 1] 25)) (NdR.more (chg_alloc _ (.cells #[.int .i64 33, .string ⟨#[45]⟩, .int .u64 0, .int .i64 0, .slice (some ⟨w6.heap.size, 0, none⟩) 1 1] 25)).size hna)
      replace hcw := hcw.trans hcaa
      clear hra hv6
      clear c0 c1 c2 c3 c4
      obtain ⟨c0, c1, c2, c3, c4⟩ := (hcw.blk H0.out.1 id).cells5
      go_wp2_with fail
      generalize (w6.alloc (.cells #[.int .i64 t.kind, .string t.text, .int .u64 t.n, .int .i64 t.at_, .slice A6 t.list.length c6x] 25)).alloc (.cells #[.int .i64 33, .string ⟨#[45]⟩, .int .u64 0, .int .i64 0, .slice (some ⟨w6.heap.size, 0, none⟩) 1 1] 25) = w6b at hxa hcaa hcw hna c0 c1 c2 c3 c4 ⊢
      generalize w6.heap.size + 1 = ga at hxa ⊢
      generalize w6.heap.size = ra at hxa hna ⊢
      clear hcaa
      have hab0 := hcw
      have hcs : Chg (fun _ _ => False) w6b w6b := Chg.refl _ _
      refine (own_any n B w6b t A c (Nat.le_trans HP.out.1 (H0.out.2.trans hcw).size) (NdR.keep0 (H0.out.2.trans hcw) HP.out.2.1)).mono fun e w8 h => ?_
      obtain ⟨A8, c8x, rfl, hN, hc8⟩ := h
      have hv8 := hN.ndR
      replace hcw := hcw.trans hc8
      replace hcs := hcs.trans hc8
      clear hN hc8
      have hrb := Blk.new w8 25 #[.int .i64 t.kind, .string t.text, .int .u64 t.n, .int .i64 t.at_, .slice A8 t.list.length c8x]
      have hxb := Blk.new (w8.alloc (.cells #[.int .i64 t.kind, .string t.text, .int .u64 t.n, .int .i64 t.at_, .slice A8 t.list.length c8x] 25)) 25 #[.int .i64 39, .string ⟨#[]⟩, .int .u64 0, .int .i64 0, .slice (some ⟨w8.heap.size, 0, none⟩) 1 1]
      simp only [World.size_alloc] at hxb
      have hcab := (chg_alloc w8 (.cells #[.int .i64 t.kind, .string t.text, .int .u64 t.n, .int .i64 t.at_, .slice A8 t.list.length c8x] 25)).alloc (.cells #[.int .i64 39, .string ⟨#[]⟩, .int .u64 0, .int .i64 0, .slice (some ⟨w8.heap.size, 0, none⟩) 1 1] 25)
      have hnb := NdR.box1 39 ⟨#[]⟩ 0 0 (by unfold I64; omega) (by unfold I64; omega) (by unfold U64; omega) (by decide) (NdR.keep0 (chg_alloc w8 (.cells #[.int .i64 t.kind, .string t.text, .int .u64 t.n, .int .i64 t.at_, .slice A8 t.list.length c8x] 25)) (NdR.more (chg_alloc w8 (.cells #[.int .i64 t.kind, .string t.text, .int .u64 t.n, .int .i64 t.at_, .slice A8 t.list.length c8x] 25)).size hv8)) hrb
      have hnb := NdR.keep0 (chg_alloc _ (.cells #[.int .i64 39, .string ⟨#[]⟩, .int .u64 0, .int .i64 0, .slice (some ⟨w8.heap.size, 0, none⟩) 1 1] 25)) (NdR.more (chg_alloc _ (.cells #[.int .i64 39, .string ⟨#[]⟩, .int .u64 0, .int .i64 0, .slice (some ⟨w8.heap.size, 0, none⟩) 1 1] 25)).size hnb)
      replace hcw := hcw.trans hcab
      replace hcs := hcs.trans hcab
      clear hrb hv8
      clear c0 c1 c2 c3 c4
      obtain ⟨c0, c1, c2, c3, c4⟩ := (hcw.blk H0.out.1 id).cells5
      go_wp2_with fail
      generalize (w8.alloc (.cells #[.int .i64 t.kind, .string t.text, .int .u64 t.n, .int .i64 t.at_, .slice A8 t.list.length c8x] 25)).alloc (.cells #[.int .i64 39, .string ⟨#[]⟩, .int .u64 0, .int .i64 0, .slice (some ⟨w8.heap.size, 0, none⟩) 1 1] 25) = w8b at hxb hcab hcw hcs hnb c0 c1 c2 c3 c4 ⊢
      generalize w8.heap.size + 1 = gb at hxb ⊢
      generalize w8.heap.size = rb at hxb hnb ⊢
      clear hcab
      clear c0 c1 c2 c3 c4
      obtain ⟨c0, c1, c2, c3, c4⟩ := (hcw.blk H0.out.1 id).cells5
      have hct : Chg (fun _ _ => False) w8b w8b := Chg.refl _ _
      refine (own_any n B w8b t A c (Nat.le_trans HP.out.1 (H0.out.2.trans hcw).size) (NdR.keep0 (H0.out.2.trans hcw) HP.out.2.1)).mono fun e w10 h => ?_
      obtain ⟨A10, c10x, rfl, hN, hc10⟩ := h
      have hv10 := hN.ndR
      replace hcw := hcw.trans hc10
      replace hcs := hcs.trans hc10
      replace hct := hct.trans hc10
      clear hN hc10
      have hrc := Blk.new w10 25 #[.int .i64 t.kind, .string t.text, .int .u64 t.n, .int .i64 t.at_, .slice A10 t.list.length c10x, .int .i64 31, .string ⟨#[]⟩, .int .u64 0, .int .i64 0, .slice none 0 0]
      have hxc := Blk.new (w10.alloc (.cells #[.int .i64 t.kind, .string t.text, .int .u64 t.n, .int .i64 t.at_, .slice A10 t.list.length c10x, .int .i64 31, .string ⟨#[]⟩, .int .u64 0, .int .i64 0, .slice none 0 0] 25)) 25 #[.int .i64 36, .string ⟨#[]⟩, .int .u64 0, .int .i64 0, .slice (some ⟨w10.heap.size, 0, none⟩) 2 2]
      simp only [World.size_alloc] at hxc
      have hcac := (chg_alloc w10 (.cells #[.int .i64 t.kind, .string t.text, .int .u64 t.n, .int .i64 t.at_, .slice A10 t.list.length c10x, .int .i64 31, .string ⟨#[]⟩, .int .u64 0, .int .i64 0, .slice none 0 0] 25)).alloc (.cells #[.int .i64 36, .string ⟨#[]⟩, .int .u64 0, .int .i64 0, .slice (some ⟨w10.heap.size, 0, none⟩) 2 2] 25)
      have hnc := NdR.box2 36 ⟨#[]⟩ 0 0 (by unfold I64; omega) (by unfold I64; omega) (by unfold U64; omega) (by decide) (NdR.keep0 (chg_alloc w10 (.cells #[.int .i64 t.kind, .string t.text, .int .u64 t.n, .int .i64 t.at_, .slice A10 t.list.length c10x, .int .i64 31, .string ⟨#[]⟩, .int .u64 0, .int .i64 0, .slice none 0 0] 25)) (NdR.more (chg_alloc w10 (.cells #[.int .i64 t.kind, .string t.text, .int .u64 t.n, .int .i64 t.at_, .slice A10 t.list.length c10x, .int .i64 31, .string ⟨#[]⟩, .int .u64 0, .int .i64 0, .slice none 0 0] 25)).size hv10)) hrc
      have hnc := NdR.keep0 (chg_alloc _ (.cells #[.int .i64 36, .string ⟨#[]⟩, .int .u64 0, .int .i64 0, .slice (some ⟨w10.heap.size, 0, none⟩) 2 2] 25)) (NdR.more (chg_alloc _ (.cells #[.int .i64 36, .string ⟨#[]⟩, .int .u64 0, .int .i64 0, .slice (some ⟨w10.heap.size, 0, none⟩) 2 2] 25)).size hnc)
      replace hcw := hcw.trans hcac
      replace hcs := hcs.trans hcac
      replace hct := hct.trans hcac
      clear hrc hv10
      clear c0 c1 c2 c3 c4
      obtain ⟨c0, c1, c2, c3, c4⟩ := (hcw.blk H0.out.1 id).cells5
      go_wp2_with fail
      generalize (w10.alloc (.cells #[.int .i64 t.kind, .string t.text, .int .u64 t.n, .int .i64 t.at_, .slice A10 t.list.length c10x, .int .i64 31, .string ⟨#[]⟩, .int .u64 0, .int .i64 0, .slice none 0 0] 25)).alloc (.cells #[.int .i64 36, .string ⟨#[]⟩, .int .u64 0, .int .i64 0, .slice (some ⟨w10.heap.size, 0, none⟩) 2 2] 25) = w10b at hxc hcac hcw hcs hct hnc c0 c1 c2 c3 c4 ⊢
      generalize w10.heap.size + 1 = gc at hxc ⊢
      generalize w10.heap.size = rc at hxc hnc ⊢
      clear hcac
      clear c0 c1 c2 c3 c4
      obtain ⟨c0, c1, c2, c3, c4⟩ := (hcw.blk H0.out.1 id).cells5
      have HW := Lib.hid (H0.out.2.trans hcw)
      have HNa := Lib.hid (NdR.keep0 hcs (NdR.more hcs.size hna))
      have HNb := Lib.hid (NdR.keep0 hct (NdR.more hct.size hnb))
      have HNc := Lib.hid hnc
      have HXb := Lib.hid (hct.blk hxb id)
      obtain ⟨d0, d1, d2, d3, d4⟩ := (hcs.blk hxa id).cells5
      obtain ⟨e0, e1, e2, e3, e4⟩ := hxc.cells5
      have hK : w10b.cell? ⟨g1, 0, none⟩ = some (.int .i64 t.kind) ∧ w10b.cell? ⟨g1, 1, none⟩ = some (.string t.text) ∧ w10b.cell? ⟨g1, 2, none⟩ = some (.int .u64 t.n) ∧ w10b.cell? ⟨g1, 3, none⟩ = some (.int .i64 t.at_) ∧ w10b.cell? ⟨g1, 4, none⟩ = some (.slice A t.list.length c) ∧ w10b.cell? ⟨ga, 0, none⟩ = some (.int .i64 33) ∧ w10b.cell? ⟨ga, 1, none⟩ = some (.string ⟨#[45]⟩) ∧ w10b.cell? ⟨ga, 2, none⟩ = some (.int .u64 0) ∧ w10b.cell? ⟨ga, 3, none⟩ = some (.int .i64 0) ∧ w10b.cell? ⟨ga, 4, none⟩ = some (.slice (some ⟨ra, 0, none⟩) 1 1) ∧ w10b.cell? ⟨gc, 0, none⟩ = some (.int .i64 36) ∧ w10b.cell? ⟨gc, 1, none⟩ = some (.string ⟨#[]⟩) ∧ w10b.cell? ⟨gc, 2, none⟩ = some (.int .u64 0) ∧ w10b.cell? ⟨gc, 3, none⟩ = some (.int .i64 0) ∧ w10b.cell? ⟨gc, 4, none⟩ = some (.slice (some ⟨rc, 0, none⟩) 2 2) ∧ Chg (fun _ _ => False) w10b w10b := ⟨c0, c1, c2, c3, c4, d0, d1, d2, d3, d4, e0, e1, e2, e3, e4, Chg.refl _ _⟩
      have hKd := heldG_next hK ((Chg.refl (fun _ _ => False) w10b).drew)
      have HQ := Lib.hid (And.intro
        (show ∀ w', Chg (fun _ _ => False) w10b w' → Calls Tryd.prog 20 #[.agg #[.int .i64 33, .string ⟨#[45]⟩, .int .u64 0, .int .i64 0, .slice (some ⟨ra, 0, none⟩) 1 1]] w' fun e w'' => e = .returned (.int .i64 ((t.depth : Int) + 1)) ∧ Chg (fun _ _ => False) w' w'' from fun w' hc => by
          have h := ndepth_any (n + 1) _ w' (Nd.mk 33 ⟨#[45]⟩ 0 0 [t]) (some ⟨ra, 0, none⟩) 1 (Nat.le_refl _) (NdR.keep0 hc (NdR.more hc.size HNa.out)) (by have := HSZ2.out; simp [size_eq, Nd.list, sizeL] at this ⊢; omega)
          rw [show (((Nd.mk 33 ⟨#[45]⟩ 0 0 [t]) : Nd).depth : Int) = (t.depth : Int) + 1 by simp [depth_eq, Nd.list, depthL]] at h
          exact h)
        (show ∀ w', Chg (fun _ _ => False) w10b w' → Calls Tryd.prog 18 #[.agg #[.int .i64 36, .string ⟨#[]⟩, .int .u64 0, .int .i64 0, .slice (some ⟨rc, 0, none⟩) 2 2]] w' fun e w'' => e = .returned (.int .i64 ((t.size : Int) + 2)) ∧ Chg (fun _ _ => False) w' w'' from fun w' hc => by
          have h := nsize_any (n + 1) _ w' (Nd.mk 36 ⟨#[]⟩ 0 0 [t, .mk 31 ⟨#[]⟩ 0 0 []]) (some ⟨rc, 0, none⟩) 2 (Nat.le_refl _) (NdR.keep0 hc (NdR.more hc.size HNc.out)) (by have := HSZ2.out; simp [size_eq, Nd.list, sizeL] at this ⊢; omega)
          rw [show (((Nd.mk 36 ⟨#[]⟩ 0 0 [t, .mk 31 ⟨#[]⟩ 0 0 []]) : Nd).size : Int) = (t.size : Int) + 2 by simp [size_eq, Nd.list, sizeL]; omega] at h
          exact h))
      have m1 : IntKind.i64.wrap ((t.depth : Int) + 1) = (t.depth : Int) + 1 := IntWalk.i64_in _ ⟨by omega, by omega⟩
      have m2 : IntKind.i64.wrap ((t.size : Int) + 2) = (t.size : Int) + 2 := IntWalk.i64_in _ ⟨by omega, by omega⟩
      clear hcw hcs hct hxa hxb hxc hna hnb hnc hK hab0
      go_region_held3 (fun w' => w'.cell? ⟨g1, 0, none⟩ = some (.int .i64 t.kind) ∧ w'.cell? ⟨g1, 1, none⟩ = some (.string t.text) ∧ w'.cell? ⟨g1, 2, none⟩ = some (.int .u64 t.n) ∧ w'.cell? ⟨g1, 3, none⟩ = some (.int .i64 t.at_) ∧ w'.cell? ⟨g1, 4, none⟩ = some (.slice A t.list.length c) ∧ w'.cell? ⟨ga, 0, none⟩ = some (.int .i64 33) ∧ w'.cell? ⟨ga, 1, none⟩ = some (.string ⟨#[45]⟩) ∧ w'.cell? ⟨ga, 2, none⟩ = some (.int .u64 0) ∧ w'.cell? ⟨ga, 3, none⟩ = some (.int .i64 0) ∧ w'.cell? ⟨ga, 4, none⟩ = some (.slice (some ⟨ra, 0, none⟩) 1 1) ∧ w'.cell? ⟨gc, 0, none⟩ = some (.int .i64 36) ∧ w'.cell? ⟨gc, 1, none⟩ = some (.string ⟨#[]⟩) ∧ w'.cell? ⟨gc, 2, none⟩ = some (.int .u64 0) ∧ w'.cell? ⟨gc, 3, none⟩ = some (.int .i64 0) ∧ w'.cell? ⟨gc, 4, none⟩ = some (.slice (some ⟨rc, 0, none⟩) 2 2) ∧ Chg (fun _ _ => False) w10b w')
        (assumption)
        (first
          | (go_at_call 20
             refine (HQ.out.1 _ (heldG_chg (by assumption))).mono ?_
             rintro e w' ⟨rfl, hb⟩
             have hS := heldG_next (by assumption) hb
             clear hb)
          | (go_at_call 21
             refine (rndepth_any n B _ t A c (by exact Nat.le_trans HP.out.1 (HW.out.trans (heldG_chg (by assumption))).size) (NdR.keep0 (HW.out.trans (heldG_chg (by assumption))) HP.out.2.1) HSZ.out).mono ?_
             rintro e w' ⟨rfl, hb⟩
             have hS := heldG_next (by assumption) hb
             clear hb)
          | (go_at_call 18
             refine (HQ.out.2 _ (heldG_chg (by assumption))).mono ?_
             rintro e w' ⟨rfl, hb⟩
             have hS := heldG_next (by assumption) hb
             clear hb)
          | (go_at_call 19
             refine (rnsize_any n B _ t A c (by exact Nat.le_trans HP.out.1 (HW.out.trans (heldG_chg (by assumption))).size) (NdR.keep0 (HW.out.trans (heldG_chg (by assumption))) HP.out.2.1) HSZ.out).mono ?_
             rintro e w' ⟨rfl, hb⟩
             have hS := heldG_next (by assumption) hb
             clear hb))
      have hcz := heldG_chg (by assumption)
      clear c0 c1 c2 c3 c4 d0 d1 d2 d3 d4 e0 e1 e2 e3 e4
      go_wp2_with fail
      go_ret
      exact ⟨rfl, HW.out.trans hcz⟩
end Go.Proofs.YtgaodjoddfjfmaaDoor
