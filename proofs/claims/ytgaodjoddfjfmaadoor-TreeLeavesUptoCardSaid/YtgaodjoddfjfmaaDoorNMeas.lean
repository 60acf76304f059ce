/-
  How many nodes, how deep: the program's and the reference's.
-/
import Derived.Test.YtgaodjoddfjfmaaDoorNOwn
namespace Go.Proofs.YtgaodjoddfjfmaaDoor
open Go.RowKit
set_option linter.unusedVariables false
set_option linter.unusedSimpArgs false

theorem depthL_take (l : List Nd) (k : Nat) : depthL (l.take k) ≤ depthL l := by
  induction l generalizing k with
  | nil => simp
  | cons x l ih =>
    cases k with
    | zero => simp [depthL]
    | succ k => simp only [List.take_succ_cons, depthL]; have := ih k; omega
def szRel (t : Nd) (W : World) (v i : Value) (wr : World) : Prop := ∃ k : Nat, k ≤ t.list.length ∧ i = .int .i64 k ∧ v = .int .i64 ((1 + sizeL (t.list.take k) : Nat)) ∧ Chg (fun _ _ => False) W wr
def dpRel (t : Nd) (W : World) (v i : Value) (wr : World) : Prop := ∃ k : Nat, k ≤ t.list.length ∧ i = .int .i64 k ∧ v = .int .i64 ((depthL (t.list.take k) : Nat)) ∧ Chg (fun _ _ => False) W wr
def nsizeC (n : Nat) : Prop := ∀ (B : Nat) (w : World) (t : Nd) (A : Option Addr) (c : Nat), B ≤ w.heap.size → NdR n B w (ndCells t.kind t.text t.n t.at_ A t.list.length c) t → t.size ≤ 1048576 →
    Calls Tryd.prog 18 #[.agg #[.int .i64 t.kind, .string t.text, .int .u64 t.n, .int .i64 t.at_, .slice A t.list.length c]] w fun e w' => e = .returned (.int .i64 (t.size : Nat)) ∧ Chg (fun _ _ => False) w w'
set_option maxRecDepth 100000 in
set_option maxHeartbeats 4000000 in
theorem nsize_step (n : Nat) (IH : nsizeC n) : nsizeC (n + 1) := by
  intro B w t A c hB hT hS
  obtain ⟨hsm, hLl⟩ := NdR.open_ hT
  have hb1 := Blk.new w 25 #[.int .i64 t.kind, .string t.text, .int .u64 t.n, .int .i64 t.at_, .slice A t.list.length c]
  have hc1 := chg_alloc w (.cells #[.int .i64 t.kind, .string t.text, .int .u64 t.n, .int .i64 t.at_, .slice A t.list.length c] 25)
  have hll : t.list.length ≤ 1048576 := hsm.2.2.2.2
  have HP := Lib.hid (And.intro hB (And.intro hLl (And.intro hS IH)))
  clear hB hT hLl hsm IH hS
  go_enter Tryd.func18, Tryd.ntmps18
  go_wp2_with fail
  generalize hW0 : w.alloc (.cells #[.int .i64 t.kind, .string t.text, .int .u64 t.n, .int .i64 t.at_, .slice A t.list.length c] 25) = W1 at hb1 hc1 ⊢
  generalize hg1 : w.heap.size = g1 at hb1 ⊢
  have H1 := Lib.hid (And.intro hb1 hc1)
  obtain ⟨c0, c1, c2, c3, c4⟩ := hb1.cells5
  clear hb1 hc1 hW0 hg1
  go_wp2_with fail
  go_loopw [3, 9] (fun v i wr => szRel t W1 v i wr) (fun _ i _ => t.list.length - (intOf i).toNat)
  case atStart => exact ⟨0, Nat.zero_le _, rfl, by first | rfl | simp [sizeL, depthL], Chg.refl _ _⟩
  case round =>
    obtain ⟨k, hk, rfl, rfl, hch⟩ := hrel
    clear c0 c1 c2 c3 c4
    obtain ⟨c0, c1, c2, c3, c4⟩ := (hch.blk H1.out.1 id).cells5
    have hcw := H1.out.2.trans hch
    have q3 : IntKind.i64.wrap ((k : Int) + 1) = (k : Int) + 1 := IntWalk.i64_in _ ⟨by omega, by omega⟩
    by_cases hlt : k < t.list.length
    · have q1 : decide (k < t.list.length) = true := decide_eq_true hlt
      have q2 : (k : Int) < (t.list.length : Int) := by omega
      obtain ⟨b, o, x, X, cx, rfl, hkx, hRx, z0, z1, z2, z3, z4⟩ := NdsR.at_ (NdsR.keep0 hcw HP.out.2.1) hlt
      have hxs : x.size ≤ 1048576 := by
        have h1 := sizeL_mem (List.mem_of_getElem? hkx)
        have h2 := HP.out.2.2.1
        rw [size_eq] at h2
        omega
      have htk : sizeL (t.list.take (k + 1)) = sizeL (t.list.take k) + x.size := by
        obtain ⟨h1, h2⟩ := List.getElem?_eq_some_iff.1 hkx
        rw [List.take_succ_eq_append_getElem h1, h2, sizeL_snoc]
      have hle : 1 + sizeL (t.list.take (k + 1)) ≤ 1048576 := by
        have h1 := sizeL_take t.list (k + 1)
        have h2 := HP.out.2.2.1
        rw [size_eq] at h2
        omega
      have hca := chg_alloc wr (.cells #[.int .i64 x.kind, .string x.text, .int .u64 x.n, .int .i64 x.at_, .slice X x.list.length cx] 25)
      have hcall := HP.out.2.2.2 B (wr.alloc (.cells #[.int .i64 x.kind, .string x.text, .int .u64 x.n, .int .i64 x.at_, .slice X x.list.length cx] 25)) x X cx (Nat.le_trans HP.out.1 (hcw.trans hca).size) (NdR.keep0 hca hRx) hxs
      have HK := Lib.hid (And.intro (hch.trans hca) htk)
      clear hch hcw hkx hRx hxs hca htk
      go_wp2_with fail
      refine hcall.mono fun e w5 h => ?_
      obtain ⟨rfl, hc5⟩ := h
      clear hcall
      have q4 : IntKind.i64.wrap (1 + (sizeL (t.list.take k) : Int) + (x.size : Int)) = 1 + (sizeL (t.list.take k) : Int) + (x.size : Int) := IntWalk.i64_in _ ⟨by omega, by have := HK.out.2; omega⟩
      have HQ := Lib.hid q4
      go_wp2_with fail
      go_roundw
      case rel => exact ⟨k + 1, hlt, by simp, by rw [HK.out.2]; simp; omega, HK.out.1.trans hc5⟩
      case measure => simp [intOf]; omega
    · have q1 : decide (k < t.list.length) = false := decide_eq_false hlt
      obtain rfl : k = t.list.length := by omega
      have HR := Lib.hid hcw
      rw [List.take_length]
      clear hch hcw
      go_wp2_with fail
      go_ret
      exact ⟨by rw [size_eq]; rfl, HR.out⟩
theorem nsize_any : ∀ n, nsizeC n
  | 0 => fun B w t A c hB hT => hT.elim
  | n + 1 => nsize_step n (nsize_any n)
def rnsizeC (n : Nat) : Prop := ∀ (B : Nat) (w : World) (t : Nd) (A : Option Addr) (c : Nat), B ≤ w.heap.size → NdR n B w (ndCells t.kind t.text t.n t.at_ A t.list.length c) t → t.size ≤ 1048576 →
    Calls Tryd.prog 19 #[.agg #[.int .i64 t.kind, .string t.text, .int .u64 t.n, .int .i64 t.at_, .slice A t.list.length c]] w fun e w' => e = .returned (.int .i64 (t.size : Nat)) ∧ Chg (fun _ _ => False) w w'
set_option maxRecDepth 100000 in
set_option maxHeartbeats 4000000 in
theorem rnsize_step (n : Nat) (IH : rnsizeC n) : rnsizeC (n + 1) := by
  intro B w t A c hB hT hS
  obtain ⟨hsm, hLl⟩ := NdR.open_ hT
  have hb1 := Blk.new w 25 #[.int .i64 t.kind, .string t.text, .int .u64 t.n, .int .i64 t.at_, .slice A t.list.length c]
  have hc1 := chg_alloc w (.cells #[.int .i64 t.kind, .string t.text, .int .u64 t.n, .int .i64 t.at_, .slice A t.list.length c] 25)
  have hll : t.list.length ≤ 1048576 := hsm.2.2.2.2
  have HP := Lib.hid (And.intro hB (And.intro hLl (And.intro hS IH)))
  clear hB hT hLl hsm IH hS
  go_enter Tryd.func19, Tryd.ntmps19
  go_wp2_with fail
  generalize hW0 : w.alloc (.cells #[.int .i64 t.kind, .string t.text, .int .u64 t.n, .int .i64 t.at_, .slice A t.list.length c] 25) = W1 at hb1 hc1 ⊢
  generalize hg1 : w.heap.size = g1 at hb1 ⊢
  have H1 := Lib.hid (And.intro hb1 hc1)
  obtain ⟨c0, c1, c2, c3, c4⟩ := hb1.cells5
  clear hb1 hc1 hW0 hg1
  skip
  go_loopw [3, 4] (fun v i wr => szRel t W1 v i wr) (fun _ i _ => t.list.length - (intOf i).toNat)
  case atStart => exact ⟨0, Nat.zero_le _, rfl, by first | rfl | simp [sizeL, depthL], Chg.refl _ _⟩
  case round =>
    obtain ⟨k, hk, rfl, rfl, hch⟩ := hrel
    clear c0 c1 c2 c3 c4
    obtain ⟨c0, c1, c2, c3, c4⟩ := (hch.blk H1.out.1 id).cells5
    have hcw := H1.out.2.trans hch
    have q3 : IntKind.i64.wrap ((k : Int) + 1) = (k : Int) + 1 := IntWalk.i64_in _ ⟨by omega, by omega⟩
    by_cases hlt : k < t.list.length
    · have q1 : decide (k < t.list.length) = true := decide_eq_true hlt
      have q2 : (k : Int) < (t.list.length : Int) := by omega
      obtain ⟨b, o, x, X, cx, rfl, hkx, hRx, z0, z1, z2, z3, z4⟩ := NdsR.at_ (NdsR.keep0 hcw HP.out.2.1) hlt
      have hxs : x.size ≤ 1048576 := by
        have h1 := sizeL_mem (List.mem_of_getElem? hkx)
        have h2 := HP.out.2.2.1
        rw [size_eq] at h2
        omega
      have htk : sizeL (t.list.take (k + 1)) = sizeL (t.list.take k) + x.size := by
        obtain ⟨h1, h2⟩ := List.getElem?_eq_some_iff.1 hkx
        rw [List.take_succ_eq_append_getElem h1, h2, sizeL_snoc]
      have hle : 1 + sizeL (t.list.take (k + 1)) ≤ 1048576 := by
        have h1 := sizeL_take t.list (k + 1)
        have h2 := HP.out.2.2.1
        rw [size_eq] at h2
        omega
      have hcall := HP.out.2.2.2 B wr x X cx (Nat.le_trans HP.out.1 hcw.size) (NdR.keep0 (Chg.refl _ _) hRx) hxs
      have HK := Lib.hid (And.intro hch htk)
      clear hch hcw hkx hRx hxs htk
      go_wp2_with fail
      refine hcall.mono fun e w5 h => ?_
      obtain ⟨rfl, hc5⟩ := h
      clear hcall
      have q4 : IntKind.i64.wrap (1 + (sizeL (t.list.take k) : Int) + (x.size : Int)) = 1 + (sizeL (t.list.take k) : Int) + (x.size : Int) := IntWalk.i64_in _ ⟨by omega, by have := HK.out.2; omega⟩
      have HQ := Lib.hid q4
      go_wp2_with fail
      go_roundw
      case rel => exact ⟨k + 1, hlt, by simp, by rw [HK.out.2]; simp; omega, HK.out.1.trans hc5⟩
      case measure => simp [intOf]; omega
    · have q1 : decide (k < t.list.length) = false := decide_eq_false hlt
      obtain rfl : k = t.list.length := by omega
      have HR := Lib.hid hcw
      rw [List.take_length]
      clear hch hcw
      go_wp2_with fail
      go_ret
      exact ⟨by rw [size_eq]; rfl, HR.out⟩
theorem rnsize_any : ∀ n, rnsizeC n
  | 0 => fun B w t A c hB hT => hT.elim
  | n + 1 => rnsize_step n (rnsize_any n)
def ndepthC (n : Nat) : Prop := ∀ (B : Nat) (w : World) (t : Nd) (A : Option Addr) (c : Nat), B ≤ w.heap.size → NdR n B w (ndCells t.kind t.text t.n t.at_ A t.list.length c) t → t.size ≤ 1048576 →
    Calls Tryd.prog 20 #[.agg #[.int .i64 t.kind, .string t.text, .int .u64 t.n, .int .i64 t.at_, .slice A t.list.length c]] w fun e w' => e = .returned (.int .i64 (t.depth : Nat)) ∧ Chg (fun _ _ => False) w w'
set_option maxRecDepth 100000 in
set_option maxHeartbeats 4000000 in
theorem ndepth_step (n : Nat) (IH : ndepthC n) : ndepthC (n + 1) := by
  intro B w t A c hB hT hS
  obtain ⟨hsm, hLl⟩ := NdR.open_ hT
  have hb1 := Blk.new w 25 #[.int .i64 t.kind, .string t.text, .int .u64 t.n, .int .i64 t.at_, .slice A t.list.length c]
  have hc1 := chg_alloc w (.cells #[.int .i64 t.kind, .string t.text, .int .u64 t.n, .int .i64 t.at_, .slice A t.list.length c] 25)
  have hll : t.list.length ≤ 1048576 := hsm.2.2.2.2
  have HP := Lib.hid (And.intro hB (And.intro hLl (And.intro hS IH)))
  clear hB hT hLl hsm IH hS
  go_enter Tryd.func20, Tryd.ntmps20
  go_wp2_with fail
  generalize hW0 : w.alloc (.cells #[.int .i64 t.kind, .string t.text, .int .u64 t.n, .int .i64 t.at_, .slice A t.list.length c] 25) = W1 at hb1 hc1 ⊢
  generalize hg1 : w.heap.size = g1 at hb1 ⊢
  have H1 := Lib.hid (And.intro hb1 hc1)
  obtain ⟨c0, c1, c2, c3, c4⟩ := hb1.cells5
  clear hb1 hc1 hW0 hg1
  go_wp2_with fail
  go_loopw [3, 9] (fun v i wr => dpRel t W1 v i wr) (fun _ i _ => t.list.length - (intOf i).toNat)
  case atStart => exact ⟨0, Nat.zero_le _, rfl, by first | rfl | simp [sizeL, depthL], Chg.refl _ _⟩
  case round =>
    obtain ⟨k, hk, rfl, rfl, hch⟩ := hrel
    clear c0 c1 c2 c3 c4
    obtain ⟨c0, c1, c2, c3, c4⟩ := (hch.blk H1.out.1 id).cells5
    have hcw := H1.out.2.trans hch
    have q3 : IntKind.i64.wrap ((k : Int) + 1) = (k : Int) + 1 := IntWalk.i64_in _ ⟨by omega, by omega⟩
    by_cases hlt : k < t.list.length
    · have q1 : decide (k < t.list.length) = true := decide_eq_true hlt
      have q2 : (k : Int) < (t.list.length : Int) := by omega
      obtain ⟨b, o, x, X, cx, rfl, hkx, hRx, z0, z1, z2, z3, z4⟩ := NdsR.at_ (NdsR.keep0 hcw HP.out.2.1) hlt
      have hxs : x.size ≤ 1048576 := by
        have h1 := sizeL_mem (List.mem_of_getElem? hkx)
        have h2 := HP.out.2.2.1
        rw [size_eq] at h2
        omega
      have htk : depthL (t.list.take (k + 1)) = max (depthL (t.list.take k)) (x.depth + 1) := by
        obtain ⟨h1, h2⟩ := List.getElem?_eq_some_iff.1 hkx
        rw [List.take_succ_eq_append_getElem h1, h2, depthL_snoc]
      have hle : depthL (t.list.take k) ≤ 1048576 := by
        have h1 := depthL_take t.list k
        have h2 := HP.out.2.2.1
        have h3 := depth_lt t
        rw [depth_eq] at h3
        omega
      have hle2 : x.depth + 1 ≤ 1048576 := by
        have h3 := depth_lt x
        omega
      have hca := chg_alloc wr (.cells #[.int .i64 x.kind, .string x.text, .int .u64 x.n, .int .i64 x.at_, .slice X x.list.length cx] 25)
      have hcall := HP.out.2.2.2 B (wr.alloc (.cells #[.int .i64 x.kind, .string x.text, .int .u64 x.n, .int .i64 x.at_, .slice X x.list.length cx] 25)) x X cx (Nat.le_trans HP.out.1 (hcw.trans hca).size) (NdR.keep0 hca hRx) hxs
      have HK := Lib.hid (And.intro (hch.trans hca) htk)
      clear hch hcw hkx hRx hxs hca htk
      go_wp2_with fail
      refine hcall.mono fun e w5 h => ?_
      obtain ⟨rfl, hc5⟩ := h
      clear hcall
      have q4 : IntKind.i64.wrap (1 + (x.depth : Int)) = (x.depth : Int) + 1 := by rw [Int.add_comm]; exact IntWalk.i64_in _ ⟨by omega, by omega⟩
      go_wp2_with fail
      go_roundw
      case rel => exact ⟨k + 1, hlt, by simp, by rw [HK.out.2]; simp; omega, HK.out.1.trans hc5⟩
      case measure => simp [intOf]; omega
    · have q1 : decide (k < t.list.length) = false := decide_eq_false hlt
      obtain rfl : k = t.list.length := by omega
      have HR := Lib.hid hcw
      rw [List.take_length]
      clear hch hcw
      go_wp2_with fail
      go_ret
      exact ⟨by rw [depth_eq]; rfl, HR.out⟩
theorem ndepth_any : ∀ n, ndepthC n
  | 0 => fun B w t A c hB hT => hT.elim
  | n + 1 => ndepth_step n (ndepth_any n)
def rndepthC (n : Nat) : Prop := ∀ (B : Nat) (w : World) (t : Nd) (A : Option Addr) (c : Nat), B ≤ w.heap.size → NdR n B w (ndCells t.kind t.text t.n t.at_ A t.list.length c) t → t.size ≤ 1048576 →
    Calls Tryd.prog 21 #[.agg #[.int .i64 t.kind, .string t.text, .int .u64 t.n, .int .i64 t.at_, .slice A t.list.length c]] w fun e w' => e = .returned (.int .i64 (t.depth : Nat)) ∧ Chg (fun _ _ => False) w w'
set_option maxRecDepth 100000 in
set_option maxHeartbeats 4000000 in
theorem rndepth_step (n : Nat) (IH : rndepthC n) : rndepthC (n + 1) := by
  intro B w t A c hB hT hS
  obtain ⟨hsm, hLl⟩ := NdR.open_ hT
  have hb1 := Blk.new w 25 #[.int .i64 t.kind, .string t.text, .int .u64 t.n, .int .i64 t.at_, .slice A t.list.length c]
  have hc1 := chg_alloc w (.cells #[.int .i64 t.kind, .string t.text, .int .u64 t.n, .int .i64 t.at_, .slice A t.list.length c] 25)
  have hll : t.list.length ≤ 1048576 := hsm.2.2.2.2
  have HP := Lib.hid (And.intro hB (And.intro hLl (And.intro hS IH)))
  clear hB hT hLl hsm IH hS
  go_enter Tryd.func21, Tryd.ntmps21
  go_wp2_with fail
  generalize hW0 : w.alloc (.cells #[.int .i64 t.kind, .string t.text, .int .u64 t.n, .int .i64 t.at_, .slice A t.list.length c] 25) = W1 at hb1 hc1 ⊢
  generalize hg1 : w.heap.size = g1 at hb1 ⊢
  have H1 := Lib.hid (And.intro hb1 hc1)
  obtain ⟨c0, c1, c2, c3, c4⟩ := hb1.cells5
  clear hb1 hc1 hW0 hg1
  skip
  go_loopw [3, 4, 5] (fun v i _ wr => dpRel t W1 v i wr) (fun _ i _ _ => t.list.length - (intOf i).toNat)
  case atStart => exact ⟨0, Nat.zero_le _, rfl, by first | rfl | simp [sizeL, depthL], Chg.refl _ _⟩
  case round =>
    obtain ⟨k, hk, rfl, rfl, hch⟩ := hrel
    clear c0 c1 c2 c3 c4
    obtain ⟨c0, c1, c2, c3, c4⟩ := (hch.blk H1.out.1 id).cells5
    have hcw := H1.out.2.trans hch
    have q3 : IntKind.i64.wrap ((k : Int) + 1) = (k : Int) + 1 := IntWalk.i64_in _ ⟨by omega, by omega⟩
    by_cases hlt : k < t.list.length
    · have q1 : decide (k < t.list.length) = true := decide_eq_true hlt
      have q2 : (k : Int) < (t.list.length : Int) := by omega
      obtain ⟨b, o, x, X, cx, rfl, hkx, hRx, z0, z1, z2, z3, z4⟩ := NdsR.at_ (NdsR.keep0 hcw HP.out.2.1) hlt
      have hxs : x.size ≤ 1048576 := by
        have h1 := sizeL_mem (List.mem_of_getElem? hkx)
        have h2 := HP.out.2.2.1
        rw [size_eq] at h2
        omega
      have htk : depthL (t.list.take (k + 1)) = max (depthL (t.list.take k)) (x.depth + 1) := by
        obtain ⟨h1, h2⟩ := List.getElem?_eq_some_iff.1 hkx
        rw [List.take_succ_eq_append_getElem h1, h2, depthL_snoc]
      have hle : depthL (t.list.take k) ≤ 1048576 := by
        have h1 := depthL_take t.list k
        have h2 := HP.out.2.2.1
        have h3 := depth_lt t
        rw [depth_eq] at h3
        omega
      have hle2 : x.depth + 1 ≤ 1048576 := by
        have h3 := depth_lt x
        omega
      have hcall := HP.out.2.2.2 B wr x X cx (Nat.le_trans HP.out.1 hcw.size) (NdR.keep0 (Chg.refl _ _) hRx) hxs
      have HK := Lib.hid (And.intro hch htk)
      clear hch hcw hkx hRx hxs htk
      go_wp2_with fail
      refine hcall.mono fun e w5 h => ?_
      obtain ⟨rfl, hc5⟩ := h
      clear hcall
      have q4 : IntKind.i64.wrap ((x.depth : Int) + 1) = (x.depth : Int) + 1 := IntWalk.i64_in _ ⟨by omega, by omega⟩
      by_cases hgt : depthL (t.list.take k) < x.depth + 1
      · have q5 : decide ((depthL (t.list.take k) : Int) < (x.depth : Int) + 1) = true := decide_eq_true (by omega)
        have q6 : decide ((x.depth : Int) + 1 > (depthL (t.list.take k) : Int)) = true := decide_eq_true (by omega)
        go_wp2_with fail
        go_roundw
        case rel => exact ⟨k + 1, hlt, by simp, by rw [HK.out.2, Nat.max_eq_right (by omega)]; simp, HK.out.1.trans hc5⟩
        case measure => simp [intOf]; omega
      · have q5 : decide ((depthL (t.list.take k) : Int) < (x.depth : Int) + 1) = false := decide_eq_false (by omega)
        have q6 : decide ((x.depth : Int) + 1 > (depthL (t.list.take k) : Int)) = false := decide_eq_false (by omega)
        go_wp2_with fail
        go_roundw
        case rel => exact ⟨k + 1, hlt, by simp, by rw [HK.out.2, Nat.max_eq_left (by omega)], HK.out.1.trans hc5⟩
        case measure => simp [intOf]; omega
    · have q1 : decide (k < t.list.length) = false := decide_eq_false hlt
      obtain rfl : k = t.list.length := by omega
      have HR := Lib.hid hcw
      rw [List.take_length]
      clear hch hcw
      go_wp2_with fail
      go_ret
      exact ⟨by rw [depth_eq]; rfl, HR.out⟩
theorem rndepth_any : ∀ n, rndepthC n
  | 0 => fun B w t A c hB hT => hT.elim
  | n + 1 => rndepth_step n (rndepth_any n)
end Go.Proofs.YtgaodjoddfjfmaaDoor
