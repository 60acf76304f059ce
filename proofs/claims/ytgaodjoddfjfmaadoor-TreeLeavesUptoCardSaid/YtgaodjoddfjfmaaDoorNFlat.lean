/-
  ref04.Flat: all nodes, each ahead of those in it, and how deep they stand.
-/
import Derived.Test.YtgaodjoddfjfmaaDoorNMeas
import Derived.Test.YtgaodjoddfjfmaaDoorRowP
namespace Go.Proofs.YtgaodjoddfjfmaaDoor
open Go.RowKit
set_option linter.unusedVariables false
set_option linter.unusedSimpArgs false

mutual
def Nd.flat : Nd → List Nd
  | .mk k t n a l => .mk k t n a l :: flatL l
def flatL : List Nd → List Nd
  | [] => []
  | x :: l => x.flat ++ flatL l
end
mutual
def Nd.flatD (d : Nat) : Nd → List Nat
  | .mk _ _ _ _ l => d :: flatDL (d + 1) l
def flatDL (d : Nat) : List Nd → List Nat
  | [] => []
  | x :: l => x.flatD d ++ flatDL d l
end
theorem flat_eq (t : Nd) : t.flat = t :: flatL t.list := by cases t; simp [Nd.flat, Nd.list]
theorem flatD_eq (d : Nat) (t : Nd) : t.flatD d = d :: flatDL (d + 1) t.list := by cases t; simp [Nd.flatD, Nd.list]
theorem flatL_snoc (l : List Nd) (x : Nd) : flatL (l ++ [x]) = flatL l ++ x.flat := by
  induction l with
  | nil => simp [flatL]
  | cons y l ih => simp [flatL, ih]
theorem flatDL_snoc (d : Nat) (l : List Nd) (x : Nd) : flatDL d (l ++ [x]) = flatDL d l ++ x.flatD d := by
  induction l with
  | nil => simp [flatDL]
  | cons y l ih => simp [flatDL, ih]
theorem flat_len (t : Nd) : t.flat.length = t.size := by
  induction t using Nd.ind with
  | h k tx n a l ih =>
    rw [flat_eq, size_eq]
    simp only [Nd.list, List.length_cons]
    have key : ∀ l : List Nd, (∀ x ∈ l, x.flat.length = x.size) → (flatL l).length = sizeL l := by
      intro l
      induction l with
      | nil => intro _; simp [flatL, sizeL]
      | cons x l ihl =>
        intro h
        simp only [flatL, sizeL, List.length_append]
        rw [h x (by simp), ihl fun y hy => h y (by simp [hy])]
    rw [key l ih]
    omega
theorem flatL_len (l : List Nd) : (flatL l).length = sizeL l := by
  induction l with
  | nil => simp [flatL, sizeL]
  | cons x l ih => simp [flatL, sizeL, ih, flat_len]
theorem flatD_len (t : Nd) : ∀ d, (t.flatD d).length = t.size := by
  induction t using Nd.ind with
  | h k tx n a l ih =>
    intro d
    rw [flatD_eq, size_eq]
    simp only [Nd.list, List.length_cons]
    have key : ∀ l : List Nd, (∀ x ∈ l, ∀ d, (x.flatD d).length = x.size) → ∀ d, (flatDL d l).length = sizeL l := by
      intro l
      induction l with
      | nil => intro _ d; simp [flatDL, sizeL]
      | cons x l ihl =>
        intro h d
        simp only [flatDL, sizeL, List.length_append]
        rw [h x (by simp), ihl fun y hy => h y (by simp [hy])]
    rw [key l ih]
    omega
theorem flatDL_len (d : Nat) (l : List Nd) : (flatDL d l).length = sizeL l := by
  induction l with
  | nil => simp [flatDL, sizeL]
  | cons x l ih => simp [flatDL, sizeL, ih, flatD_len]
theorem infoInt : (Tryd.prog.info? 3).map (fun i => (i.zero, i.size, i.bytes)) = some (some (.int .i64 0), 1, 8) := by kernel_rfl
def IntV (_ : World) (cs : List Value) (k : Nat) : Prop := cs = [.int .i64 (k : Int)]
/-- What Flat may turn: the two rows' own blocks. -/
def MF (A1 : Option Addr) (n1 c1 : Nat) (A2 : Option Addr) (n2 c2 : Nat) : Nat → Nat → Prop := fun b t => (OwnB A1 n1 c1 b ∧ t = 25) ∨ (OwnB A2 n2 c2 b ∧ t = 3)
def FlatC (n : Nat) : Prop := ∀ (m B d : Nat) (w : World) (t : Nd) (A : Option Addr) (c : Nat) (ns : List Nd) (ds : List Nat) (A1 : Option Addr) (c1 : Nat) (A2 : Option Addr) (c2 : Nat), n ≤ m → B ≤ w.heap.size → NdR n B w (ndCells t.kind t.text t.n t.at_ A t.list.length c) t →
    RowR 0 25 5 (NdR m B) w A1 c1 ns → RowR 0 3 1 IntV w A2 c2 ds → (∀ b, OwnB A1 ns.length c1 b → B ≤ b) → (∀ b, OwnB A2 ds.length c2 b → B ≤ b) → d + t.size ≤ 1048577 → ns.length + t.size ≤ 1048576 → ds.length = ns.length →
    Calls Tryd.prog 23 #[.agg #[.int .i64 t.kind, .string t.text, .int .u64 t.n, .int .i64 t.at_, .slice A t.list.length c], .int .i64 d, .slice A1 ns.length c1, .slice A2 ds.length c2] w fun e w' =>
      ∃ A1' c1' A2' c2', e = .returned (.tuple #[.slice A1' (ns.length + t.size) c1', .slice A2' (ns.length + t.size) c2']) ∧ RowR 0 25 5 (NdR m B) w' A1' c1' (ns ++ t.flat) ∧ RowR 0 3 1 IntV w' A2' c2' (ds ++ t.flatD d) ∧
        (∀ b, OwnB A1' (ns.length + t.size) c1' b → OwnB A1 ns.length c1 b ∨ w.heap.size ≤ b) ∧ (∀ b, OwnB A2' (ns.length + t.size) c2' b → OwnB A2 ds.length c2 b ∨ w.heap.size ≤ b) ∧ Chg (MF A1 ns.length c1 A2 ds.length c2) w w'
def flRel (m B d : Nat) (t : Nd) (ns : List Nd) (ds : List Nat) (A1 : Option Addr) (n1 c1 : Nat) (A2 : Option Addr) (n2 c2 : Nat) (W : World) (Bd : Nat) (v v' i : Value) (wr : World) : Prop :=
  ∃ (k : Nat) (A1' : Option Addr) (c1' : Nat) (A2' : Option Addr) (c2' : Nat), k ≤ t.list.length ∧ i = .int .i64 k ∧ v = .slice A1' (ns.length + 1 + sizeL (t.list.take k)) c1' ∧ v' = .slice A2' (ns.length + 1 + sizeL (t.list.take k)) c2' ∧
    RowR 0 25 5 (NdR m B) wr A1' c1' (ns ++ t :: flatL (t.list.take k)) ∧ RowR 0 3 1 IntV wr A2' c2' (ds ++ d :: flatDL (d + 1) (t.list.take k)) ∧
    (∀ b, OwnB A1' (ns.length + 1 + sizeL (t.list.take k)) c1' b → OwnB A1 n1 c1 b ∨ Bd ≤ b) ∧ (∀ b, OwnB A2' (ns.length + 1 + sizeL (t.list.take k)) c2' b → OwnB A2 n2 c2 b ∨ Bd ≤ b) ∧ Chg (MF A1 n1 c1 A2 n2 c2) W wr
set_option maxRecDepth 100000 in
set_option maxHeartbeats 8000000 in
theorem flat_step (n : Nat) (IH : FlatC n) : FlatC (n + 1) := by
  intro m B d w t A c ns ds A1 c1 A2 c2 hnm hB hT hr1 hr2 hB1 hB2 hd hsz hlen
  obtain ⟨i25, hi25, hz25, hs25, hb25⟩ := info_parts infoNode
  obtain ⟨i3, hi3, hz3, hs3, hb3⟩ := info_parts infoInt
  have hT' := NdR.deep hT hnm
  obtain ⟨hsm, hLl⟩ := NdR.open_ hT
  have hb1 := Blk.new w 25 #[.int .i64 t.kind, .string t.text, .int .u64 t.n, .int .i64 t.at_, .slice A t.list.length c]
  have hc1 := chg_alloc w (.cells #[.int .i64 t.kind, .string t.text, .int .u64 t.n, .int .i64 t.at_, .slice A t.list.length c] 25)
  have hll : t.list.length ≤ 1048576 := hsm.2.2.2.2
  have hns : ns.length ≤ 1048576 := by omega
  rw [hlen] at hB2 ⊢
  have hlt1 : ∀ b, OwnB A1 ns.length c1 b → b < w.heap.size := fun b h => (hr1.lt h).1
  have hlt2 : ∀ b, OwnB A2 ns.length c2 b → b < w.heap.size := fun b h => (hr2.lt (by rw [hlen]; exact h)).1
  have hr1' := hr1.keep hc1 (fun _ _ => id) fun cs x h => NdR.keep0 hc1 h
  have hr2' := hr2.keep hc1 (fun _ _ => id) fun cs x h => h
  have HP := Lib.hid (And.intro hB (And.intro hLl (And.intro hsz (And.intro IH (And.intro hnm (And.intro hd hlen))))))
  have HQ := Lib.hid (And.intro hB1 (And.intro hB2 (And.intro hlt1 hlt2)))
  have H1 := Lib.hid (And.intro hb1 (And.intro hc1 (And.intro hr1' (And.intro hr2' (NdR.keep0 hc1 hT')))))
  obtain ⟨z0, z1, z2, z3, z4⟩ := hb1.cells5
  have hone := one_nd t.kind t.text t.n t.at_ A t.list.length c
  clear hB hT hT' hr1 hr2 hB1 hB2 hLl hsm IH hb1 hc1 hsz hnm hd hlen hlt1 hlt2 hr1' hr2'
  go_enter Tryd.func23, Tryd.ntmps23
  go_wp2_with (at_builtin; go_must (refine wpList_push1 rfl (.tmp 11) (.tmp 13) 23 rfl 0 25 i25 _ 5 64 Tryd.underlying23 hi25 hz25 hs25 hb25 rfl (by omega) (NdR m B) A1 c1 ns rfl (by first | rfl | simp) H1.out.2.2.1 1 (ndCells t.kind t.text t.n t.at_ A t.list.length c) t (by first | rfl | simp) (by first | rfl | simp) rfl hone H1.out.2.2.2.2 (by omega) (by omega) (Nat.zero_le _) (fun w' hc _ _ h => NdR.keep hc (fun b t hb h => by have := HQ.out.1 b h.1; omega) h) ?_))
  intro A3 c3 w3 hr3 hc3 hp3
  generalize hW : w.alloc (.cells #[.int .i64 t.kind, .string t.text, .int .u64 t.n, .int .i64 t.at_, .slice A t.list.length c] 25) = W1 at H1 z0 z1 z2 z3 z4 hc3 hp3 ⊢
  have hW1 : W1.heap.size = w.heap.size + 1 := by rw [← hW]; simp
  generalize hg1 : w.heap.size = g1 at H1 hW1 HQ z0 z1 z2 z3 z4 hc3 hp3 ⊢
  clear hW
  have HG := Lib.hid (And.intro hg1 hW1)
  clear hg1 hW1
  have hlt3 := HG.out.2
  have hb3' := hc3.blk H1.out.1 fun h => by have := HQ.out.2.2.1 _ h.1; omega
  obtain ⟨y0, y1, y2, y3, y4⟩ := hb3'.cells5
  have hr4 := H1.out.2.2.2.1.keep1 hc3 (fun b _ h => absurd h.2 (by decide)) fun cs x h => h
  have H3 := Lib.hid (And.intro hr3 (And.intro hc3 (And.intro hp3 (And.intro hb3' hr4))))
  have hln := Lib.hid HP.out.2.2.2.2.2.2.symm
  clear hr3 hc3 hp3 hb3' hr4 z0 z1 z2 z3 z4 hone
  go_wp2_with (at_builtin; go_must (refine wpList_push1 rfl (.tmp 15) (.tmp 17) 38 rfl 0 3 i3 _ 1 8 Tryd.underlying38 hi3 hz3 hs3 hb3 rfl (by omega) IntV A2 c2 ds hln.out (by first | rfl | simp) H3.out.2.2.2.2 1 [.int .i64 (d : Int)] d (by first | rfl | simp) (by first | rfl | simp) rfl (by intro u hu; simp at hu; subst hu; rfl) rfl (by omega) (by omega) (Nat.zero_le _) (fun w' hc _ _ h => h) ?_))
  intro A5 c5 w5 hr5 hc5 hp5
  have hb5' := hc5.blk H3.out.2.2.2.1 fun h => absurd h.2 (by decide)
  have hr3 := H3.out.1.keep1 hc5 (fun b _ h => absurd h.2 (by decide)) fun cs x h => NdR.keep hc5 (fun b t hb h => by have := HQ.out.2.1 b h.1; omega) h
  have hchg : Chg (MF A1 ns.length c1 A2 ns.length c2) w w5 := (((H1.out.2.1.mono fun _ _ _ h => h.elim : Chg (MF A1 ns.length c1 A2 ns.length c2) w W1).trans_le H3.out.2.1 fun b t _ h => .inl h).trans_le hc5 fun b t _ h => .inr h)
  have h35 := (H3.out.2.1.size)
  have h5 := hc5.size
  have hrel : flRel m B d t ns ds A1 ns.length c1 A2 ns.length c2 w (g1 + 1) (.slice A3 (ns.length + 1) c3) (.slice A5 (ns.length + 1) c5) (.int .i64 0) w5 := by
    have hg := HG.out
    refine ⟨0, A3, c3, A5, c5, Nat.zero_le _, rfl, by simp [sizeL], by simp [sizeL], by simpa [flatL] using hr3, by simpa [flatDL] using hr5, fun b h => ?_, fun b h => ?_, hchg⟩
    · rcases H3.out.2.2.1 b (by simpa [sizeL] using h) with h | h
      · exact .inl h
      · exact .inr (by omega)
    · rcases hp5 b (by simpa [sizeL] using h) with h | h
      · exact .inl h
      · exact .inr (by omega)
  have H5 := Lib.hid hb5'
  have HR0 := Lib.hid hrel
  clear hr5 hc5 hp5 hb5' hr3 hchg hrel y0 y1 y2 y3 y4 h35 h5 hln
  go_wp2_with fail
  go_loopw [2, 3, 10] (fun v v' i wr => flRel m B d t ns ds A1 ns.length c1 A2 ns.length c2 w (g1 + 1) v v' i wr ∧ Blk wr g1 25 #[.int .i64 t.kind, .string t.text, .int .u64 t.n, .int .i64 t.at_, .slice A t.list.length c]) (fun _ _ i _ => t.list.length - (intOf i).toNat)
  case atStart => exact ⟨HR0.out, H5.out⟩
  case round =>
    obtain ⟨⟨k, A6, c6, A7, c7, hk, rfl, rfl, rfl, hr6, hr7, hp6, hp7, hch⟩, hb⟩ := hrel
    obtain ⟨y0, y1, y2, y3, y4⟩ := hb.cells5
    have q3 : IntKind.i64.wrap ((k : Int) + 1) = (k : Int) + 1 := IntWalk.i64_in _ ⟨by omega, by omega⟩
    have q4 : IntKind.i64.wrap ((d : Int) + 1) = (d : Int) + 1 := IntWalk.i64_in _ ⟨by omega, by have := HP.out.2.2.2.2.2.1; omega⟩
    have hwr := hch.size
    have hlm : LetsM (MF A1 ns.length c1 A2 ns.length c2) B := fun b t hb h => by rcases h with h | h <;> first | (have := HQ.out.1 b h.1; omega) | (have := HQ.out.2.1 b h.1; omega)
    by_cases hlt : k < t.list.length
    · have q1 : decide (k < t.list.length) = true := decide_eq_true hlt
      have q2 : (k : Int) < (t.list.length : Int) := by omega
      obtain ⟨bb, oo, x, X, cx, rfl, hkx, hRx, z0, z1, z2, z3, z4⟩ := NdsR.at_ (SlR.keep HP.out.2.1 hch hlm.lets fun _ _ h => NdR.keep hch hlm h) hlt
      have htk : t.list.take (k + 1) = t.list.take k ++ [x] := by
        obtain ⟨h1, h2⟩ := List.getElem?_eq_some_iff.1 hkx
        rw [List.take_succ_eq_append_getElem h1, h2]
      have hsk : sizeL (t.list.take (k + 1)) = sizeL (t.list.take k) + x.size := by rw [htk, sizeL_snoc]
      have hle : 1 + sizeL (t.list.take (k + 1)) ≤ t.size := by
        have h1 := sizeL_take t.list (k + 1)
        rw [size_eq t]
        omega
      have hl6 : (ns ++ t :: flatL (t.list.take k)).length = ns.length + 1 + sizeL (t.list.take k) := by simp [flatL_len]; omega
      have hl7 : (ds ++ d :: flatDL (d + 1) (t.list.take k)).length = ns.length + 1 + sizeL (t.list.take k) := by simp [flatDL_len, HP.out.2.2.2.2.2.2]; omega
      have hcall := HP.out.2.2.2.1 m B (d + 1) wr x X cx (ns ++ t :: flatL (t.list.take k)) (ds ++ d :: flatDL (d + 1) (t.list.take k)) A6 c6 A7 c7 (Nat.le_trans (Nat.le_succ _) HP.out.2.2.2.2.1) (Nat.le_trans HP.out.1 hwr) hRx hr6 hr7
        (by rw [hl6]; intro b h; rcases hp6 b h with h | h <;> first | exact HQ.out.1 b h | (have := HP.out.1; have := HG.out; omega)) (by rw [hl7]; intro b h; rcases hp7 b h with h | h <;> first | exact HQ.out.2.1 b h | (have := HP.out.1; have := HG.out; omega))
        (by have := HP.out.2.2.2.2.2.1; have := size_pos x; omega) (by rw [hl6]; have := HP.out.2.2.1; omega) (by rw [hl6, hl7])
      rw [hl6, hl7] at hcall
      have hcd : ((d + 1 : Nat) : Int) = (d : Int) + 1 := by omega
      rw [hcd] at hcall
      have HK := Lib.hid (And.intro hch (And.intro hp6 (And.intro hp7 (And.intro hb (And.intro htk (And.intro hsk hle))))))
      clear hr6 hr7 hp6 hp7 hch hkx hRx hb htk hsk hle hl6 hl7 hlm hcd
      go_wp2_with fail
      refine hcall.mono fun e w8 h => ?_
      obtain ⟨A8, c8, A9, c9, rfl, hr8, hr9, hp8, hp9, hc8⟩ := h
      clear hcall
      have HZ := Lib.hid (And.intro hr8 (And.intro hr9 (And.intro hp8 (And.intro hp9 hc8))))
      clear hr8 hr9 hp8 hp9 hc8 z0 z1 z2 z3 z4 y0 y1 y2 y3 y4
      go_wp2_with fail
      go_roundw
      case rel =>
        obtain ⟨hr8, hr9, hp8, hp9, hc8⟩ := HZ.out
        obtain ⟨hch, hp6, hp7, hb, htk, hsk, hle⟩ := HK.out
        have hg := HG.out
        refine ⟨⟨k + 1, A8, c8, A9, c9, hlt, by simp, by rw [hsk]; congr 1; omega, by rw [hsk]; congr 1; omega, ?_, ?_, ?_, ?_, ?_⟩, ?_⟩
        · rw [htk, flatL_snoc, ← List.cons_append, ← List.append_assoc]; exact hr8
        · rw [htk, flatDL_snoc, ← List.cons_append, ← List.append_assoc]; exact hr9
        · intro b' h
          rw [hsk, ← Nat.add_assoc] at h
          rcases hp8 b' h with h | h
          · exact hp6 b' h
          · exact .inr (by have := hb.lt; omega)
        · intro b' h
          rw [hsk, ← Nat.add_assoc] at h
          rcases hp9 b' h with h | h
          · exact hp7 b' h
          · exact .inr (by have := hb.lt; omega)
        · refine hch.trans_le hc8 fun b' t hb' h => ?_
          rcases h with h | h
          · rcases hp6 b' h.1 with h' | h'
            · exact .inl ⟨h', h.2⟩
            · omega
          · rcases hp7 b' h.1 with h' | h'
            · exact .inr ⟨h', h.2⟩
            · omega
        · refine hc8.blk hb fun h => ?_
          rcases h with h | h
          · rcases hp6 _ h.1 with h' | h'
            · have := HQ.out.2.2.1 _ h'; omega
            · omega
          · exact absurd h.2 (by decide)
      case measure => simp [intOf]; omega
    · have q1 : decide (k < t.list.length) = false := decide_eq_false hlt
      obtain rfl : k = t.list.length := by omega
      rw [List.take_length] at hr6 hr7 hp6 hp7 ⊢
      have hts : ns.length + 1 + sizeL t.list = ns.length + t.size := by rw [size_eq]; omega
      have HZ := Lib.hid (And.intro hr6 (And.intro hr7 (And.intro hp6 (And.intro hp7 hch))))
      clear hr6 hr7 hp6 hp7 hch hb hlm
      go_wp2_with fail
      go_ret2
      obtain ⟨hr6, hr7, hp6, hp7, hch⟩ := HZ.out
      rw [hts] at hp6 hp7 ⊢
      have hg := HG.out
      exact ⟨A6, c6, A7, c7, rfl, by rw [flat_eq]; exact hr6, by rw [flatD_eq]; exact hr7, fun b h => (hp6 b h).imp id fun h => by omega, fun b h => (hp7 b h).imp id fun h => by omega, hch⟩
theorem flat_any : ∀ n, FlatC n
  | 0 => fun m B d w t A c ns ds A1 c1 A2 c2 hnm hB hT => hT.elim
  | n + 1 => flat_step n (flat_any n)
end Go.Proofs.YtgaodjoddfjfmaaDoor
