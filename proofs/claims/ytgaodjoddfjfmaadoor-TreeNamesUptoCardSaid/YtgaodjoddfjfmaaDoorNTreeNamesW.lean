/-
  The walk of TreeNames.
-/
import Derived.Test.YtgaodjoddfjfmaaDoorNAns
import Derived.Test.YtgaodjoddfjfmaaDoorNNames
namespace Go.Proofs.YtgaodjoddfjfmaaDoor
open Go.RowKit
set_option linter.unusedVariables false
set_option linter.unusedSimpArgs false

set_option maxRecDepth 100000 in
set_option maxHeartbeats 4000000 in
theorem names_any (n B : Nat) (w : World) (t : Nd) (A : Option Addr) (c : Nat) (hB : B ≤ w.heap.size) (hT : NdR n B w (ndCells t.kind t.text t.n t.at_ A t.list.length c) t) (hs : t.size ≤ 1048576) :
    Calls Tryd.prog 22 #[.agg #[.int .i64 t.kind, .string t.text, .int .u64 t.n, .int .i64 t.at_, .slice A t.list.length c]] w fun e w' => ∃ A' c', e = .returned (.slice A' (nmF [] t.flat).length c') ∧ StrsR w'.heap.size w' (.slice A' (nmF [] t.flat).length c') (nmF [] t.flat) ∧ Chg (fun _ _ => False) w w' := by
  have hst : ∀ (w' : World) (a : Addr) (f : Nat) (cs : Array Value), (store a (.func (.func f) #[] cs)).run Tryd.prog w' = stored Tryd.prog w' a (.func (.func f) #[] cs) .plain := fun w' a f cs => run_store Tryd.prog w' a _ .plain rfl
  have hmm := @run_makeMap Tryd.prog
  have hbN := (((Blk.new w 25 #[.int .i64 t.kind, .string t.text, .int .u64 t.n, .int .i64 t.at_, .slice A t.list.length c]).alloc (.cells #[.slice none 0 0] 36)).alloc (.map #[] 0)).alloc (.cells #[.map (some (w.heap.size + 1 + 1))] 50) |>.alloc (.cells #[.func (.func 35) #[] #[.pointer (some ⟨w.heap.size + 1 + 1 + 1, 0, none⟩), .pointer (some ⟨w.heap.size + 1, 0, none⟩), .pointer (some ⟨w.heap.size + 1 + 1 + 1 + 1, 0, none⟩)]] 51)
  have hbL := (((Blk.new (w.alloc (.cells #[.int .i64 t.kind, .string t.text, .int .u64 t.n, .int .i64 t.at_, .slice A t.list.length c] 25)) 36 #[.slice none 0 0]).alloc (.map #[] 0)).alloc (.cells #[.map (some (w.heap.size + 1 + 1))] 50)).alloc (.cells #[.func (.func 35) #[] #[.pointer (some ⟨w.heap.size + 1 + 1 + 1, 0, none⟩), .pointer (some ⟨w.heap.size + 1, 0, none⟩), .pointer (some ⟨w.heap.size + 1 + 1 + 1 + 1, 0, none⟩)]] 51)
  have hm0 := SMap.made ((w.alloc (.cells #[.int .i64 t.kind, .string t.text, .int .u64 t.n, .int .i64 t.at_, .slice A t.list.length c] 25)).alloc (.cells #[.slice none 0 0] 36))
  have hbS := (Blk.new (((w.alloc (.cells #[.int .i64 t.kind, .string t.text, .int .u64 t.n, .int .i64 t.at_, .slice A t.list.length c] 25)).alloc (.cells #[.slice none 0 0] 36)).alloc (.map #[] 0)) 50 #[.map (some (w.heap.size + 1 + 1))]).alloc (.cells #[.func (.func 35) #[] #[.pointer (some ⟨w.heap.size + 1 + 1 + 1, 0, none⟩), .pointer (some ⟨w.heap.size + 1, 0, none⟩), .pointer (some ⟨w.heap.size + 1 + 1 + 1 + 1, 0, none⟩)]] 51)
  have hbF := Blk.new ((((w.alloc (.cells #[.int .i64 t.kind, .string t.text, .int .u64 t.n, .int .i64 t.at_, .slice A t.list.length c] 25)).alloc (.cells #[.slice none 0 0] 36)).alloc (.map #[] 0)).alloc (.cells #[.map (some (w.heap.size + 1 + 1))] 50)) 51 #[.func (.func 35) #[] #[.pointer (some ⟨w.heap.size + 1 + 1 + 1, 0, none⟩), .pointer (some ⟨w.heap.size + 1, 0, none⟩), .pointer (some ⟨w.heap.size + 1 + 1 + 1 + 1, 0, none⟩)]]
  have hm1 := (hm0.keep (chg_alloc _ (.cells #[.map (some (w.heap.size + 1 + 1))] 50)) id).keep (chg_alloc _ (.cells #[.func (.func 35) #[] #[.pointer (some ⟨w.heap.size + 1 + 1 + 1, 0, none⟩), .pointer (some ⟨w.heap.size + 1, 0, none⟩), .pointer (some ⟨w.heap.size + 1 + 1 + 1 + 1, 0, none⟩)]] 51)) id
  have hc := ((((chg_alloc w (.cells #[.int .i64 t.kind, .string t.text, .int .u64 t.n, .int .i64 t.at_, .slice A t.list.length c] 25)).alloc (.cells #[.slice none 0 0] 36)).alloc (.map #[] 0)).alloc (.cells #[.map (some (w.heap.size + 1 + 1))] 50)).alloc (.cells #[.func (.func 35) #[] #[.pointer (some ⟨w.heap.size + 1 + 1 + 1, 0, none⟩), .pointer (some ⟨w.heap.size + 1, 0, none⟩), .pointer (some ⟨w.heap.size + 1 + 1 + 1 + 1, 0, none⟩)]] 51)
  simp only [World.size_alloc] at hbL hm1 hbS hbF
  have hS : LkS w.heap.size (w.heap.size + 1 + 1 + 1) (w.heap.size + 1) (w.heap.size + 1 + 1 + 1 + 1) (w.heap.size + 1 + 1) [] (((((w.alloc (.cells #[.int .i64 t.kind, .string t.text, .int .u64 t.n, .int .i64 t.at_, .slice A t.list.length c] 25)).alloc (.cells #[.slice none 0 0] 36)).alloc (.map #[] 0)).alloc (.cells #[.map (some (w.heap.size + 1 + 1))] 50)).alloc (.cells #[.func (.func 35) #[] #[.pointer (some ⟨w.heap.size + 1 + 1 + 1, 0, none⟩), .pointer (some ⟨w.heap.size + 1, 0, none⟩), .pointer (some ⟨w.heap.size + 1 + 1 + 1 + 1, 0, none⟩)]] 51)) :=
    ⟨hbS, hbF, ⟨0, hm1.ext fun s _ => (setF_out (by simp)).symm⟩, none, 0, hbL, RowR.nil _ _ _ _ _⟩
  have f0 := hS.fn
  obtain ⟨c0, c1, c2, c3, c4⟩ := hbN.cells5
  have hcall := look_any n w.heap.size (w.heap.size + 1 + 1 + 1) (w.heap.size + 1) (w.heap.size + 1 + 1 + 1 + 1) (w.heap.size + 1 + 1) (((((w.alloc (.cells #[.int .i64 t.kind, .string t.text, .int .u64 t.n, .int .i64 t.at_, .slice A t.list.length c] 25)).alloc (.cells #[.slice none 0 0] 36)).alloc (.map #[] 0)).alloc (.cells #[.map (some (w.heap.size + 1 + 1))] 50)).alloc (.cells #[.func (.func 35) #[] #[.pointer (some ⟨w.heap.size + 1 + 1 + 1, 0, none⟩), .pointer (some ⟨w.heap.size + 1, 0, none⟩), .pointer (some ⟨w.heap.size + 1 + 1 + 1 + 1, 0, none⟩)]] 51)) t A c [] hc.size (by omega) (by omega) (NdR.keep0 hc (NdR.more hB hT)) hS (by simpa using hs)
  have HC := Lib.hid hc
  clear hbN hbL hm0 hbS hbF hm1 hc hS hT hB
  go_enter Tryd.func22, Tryd.ntmps22
  go_wp2_with fail
  refine hcall.mono fun e w6 h => ?_
  obtain ⟨rfl, ⟨_, _, _, A6, c6, hbL, hr⟩, hc6⟩ := h
  clear hcall c0 c1 c2 c3 c4 f0
  have l0 : w6.cell? ⟨w.heap.size + 1, 0, none⟩ = some (.slice A6 (nmF [] t.flat).length c6) := by simpa using hbL.cell 0
  have HZ := Lib.hid (And.intro hr hc6)
  clear hr hc6 hbL
  go_wp2_with fail
  go_ret
  exact ⟨A6, c6, rfl, HZ.out.1.settleT (by decide) fun _ _ h => h, HC.out.trans_new HZ.out.2 fun b t hb h => by rcases h with h | h | h <;> (have := h.1; omega)⟩
def hasRel (l : List ByteArray) (s : ByteArray) (W : World) (i : Value) (wr : World) : Prop := ∃ k : Nat, k ≤ l.length ∧ i = .int .i64 k ∧ s ∉ l.take k ∧ Chg (fun _ _ => False) W wr
set_option maxRecDepth 100000 in
theorem has4_any (w : World) (l : List ByteArray) (s : ByteArray) (A : Option Addr) (c : Nat) (hl : StrsR w.heap.size w (.slice A l.length c) l) (hlen : l.length ≤ 2097152) :
    Calls Tryd.prog 24 #[.slice A l.length c, .string s] w fun e w' => ∃ b, e = .returned (.bool b) ∧ (b = true ↔ s ∈ l) ∧ Chg (fun _ _ => False) w w' := by
  have HL := Lib.hid hl
  clear hl
  go_enter Tryd.func24, Tryd.ntmps24
  go_wp2_with fail
  go_loopw [5] (fun i wr => hasRel l s w i wr) (fun i _ => l.length - (intOf i).toNat)
  case atStart => exact ⟨0, Nat.zero_le _, rfl, by simp, Chg.refl _ _⟩
  case round =>
    obtain ⟨k, hk, rfl, hs, hch⟩ := hrel
    have q3 : IntKind.i64.wrap ((k : Int) + 1) = (k : Int) + 1 := IntWalk.i64_in _ ⟨by omega, by omega⟩
    by_cases hlt : k < l.length
    · have q1 : decide (k < l.length) = true := decide_eq_true hlt
      have q2 : (k : Int) < (l.length : Int) := by omega
      obtain ⟨b, o, x, cs, rfl, hkx, _, ⟨rfl, _⟩, hcell⟩ := SlR.at2 (SlR.keep HL.out hch (no_lets _ _) fun _ _ h => h) hlt
      have z0 : wr.cell? ⟨b, o + k, none⟩ = some (.string x) := by simpa using hcell 0 _ rfl
      have HK := Lib.hid (And.intro hs (And.intro hch hkx))
      clear hs hch hkx hcell
      by_cases he : x = s
      · have q5 := str_eq he
        replace he := Lib.hid he
        go_wp2_with fail
        go_ret
        exact ⟨true, rfl, ⟨fun _ => he.out ▸ List.mem_of_getElem? HK.out.2.2, fun _ => rfl⟩, HK.out.2.1⟩
      · have q5 := str_ne he
        replace he := Lib.hid he
        go_wp2_with fail
        go_roundw
        case rel =>
          obtain ⟨h1, h2⟩ := List.getElem?_eq_some_iff.1 HK.out.2.2
          refine ⟨k + 1, hlt, by simp, ?_, HK.out.2.1⟩
          rw [List.take_succ_eq_append_getElem h1, h2, List.mem_append]
          rintro (h | h)
          · exact HK.out.1 h
          · simp at h; exact he.out h.symm
        case measure => simp [intOf]; omega
    · have q1 : decide (k < l.length) = false := decide_eq_false hlt
      obtain rfl : k = l.length := by omega
      rw [List.take_length] at hs
      have HK := Lib.hid (And.intro hs hch)
      clear hs hch
      go_wp2_with fail
      go_ret
      exact ⟨false, rfl, ⟨fun h => absurd h (by decide), fun h => absurd h HK.out.1⟩, HK.out.2⟩
theorem nmF_snoc (acc : List ByteArray) (l : List Nd) (x : Nd) : nmF acc (l ++ [x]) = nmStep (nmF acc l) x := by rw [nmF_append]; rfl
theorem nmF_pre (acc : List ByteArray) (l : List Nd) : ∃ r, nmF acc l = acc ++ r := by
  induction l generalizing acc with
  | nil => exact ⟨[], by simp [nmF]⟩
  | cons t l ih =>
    obtain ⟨r, hr⟩ := ih (nmStep acc t)
    rw [nmF_cons, hr]
    unfold nmStep
    split
    · exact ⟨[t.text] ++ r, by simp⟩
    · exact ⟨r, rfl⟩
theorem nmF_at {a : List Nd} {k : Nat} {x : Nd} (h : a.take (k + 1) = a.take k ++ [x]) : ∃ r, nmF [] a = nmStep (nmF [] (a.take k)) x ++ r := by
  have h1 : a = a.take (k + 1) ++ a.drop (k + 1) := (List.take_append_drop _ _).symm
  obtain ⟨r, hr⟩ := nmF_pre (nmF [] (a.take (k + 1))) (a.drop (k + 1))
  refine ⟨r, ?_⟩
  rw [← nmF_snoc, ← h, ← hr, ← nmF_append, ← h1]
def tnRel (D : Nat) (a : List Nd) (W : World) (vk vs i : Value) (wr : World) : Prop :=
  ∃ (k : Nat) (A : Option Addr) (c : Nat), k ≤ a.length ∧ i = .int .i64 k ∧ vk = .int .i64 ((nmF [] (a.take k)).length : Nat) ∧ vs = .slice A (nmF [] (a.take k)).length c ∧ RowR D 9 1 StrV wr A c (nmF [] (a.take k)) ∧ Chg (fun _ _ => False) W wr
set_option maxRecDepth 100000 in
set_option maxHeartbeats 8000000 in
theorem treeNames_walk (n B : Nat) (w : World) (t : Nd) (A : Option Addr) (c : Nat) (hB : B ≤ w.heap.size) (hT : NdR n B w (ndCells t.kind t.text t.n t.at_ A t.list.length c) t) (hs : t.size ≤ 1048576) :
    Calls Tryd.prog 8 #[.agg #[.int .i64 t.kind, .string t.text, .int .u64 t.n, .int .i64 t.at_, .slice A t.list.length c]] w fun e w' => e = .returned (.bool true) ∧ Chg (fun _ _ => False) w w' := by
  obtain ⟨i9, hi9, hz9, hs9, hb9⟩ := info_parts infoStr
  have hb1 := Blk.new w 25 #[.int .i64 t.kind, .string t.text, .int .u64 t.n, .int .i64 t.at_, .slice A t.list.length c]
  have hc1 := chg_alloc w (.cells #[.int .i64 t.kind, .string t.text, .int .u64 t.n, .int .i64 t.at_, .slice A t.list.length c] 25)
  have how := own_any n B (w.alloc (.cells #[.int .i64 t.kind, .string t.text, .int .u64 t.n, .int .i64 t.at_, .slice A t.list.length c] 25)) t A c (Nat.le_trans hB hc1.size) (NdR.keep0 hc1 hT)
  have HP := Lib.hid (And.intro hB (And.intro hT hs))
  have H1 := Lib.hid (And.intro hb1 hc1)
  clear hB hT hb1 hc1
  go_enter Tryd.func8, Tryd.ntmps8
  go_wp2_with fail
  generalize w.alloc (.cells #[.int .i64 t.kind, .string t.text, .int .u64 t.n, .int .i64 t.at_, .slice A t.list.length c] 25) = W at how H1 ⊢
  generalize w.heap.size = g1 at H1 ⊢
  refine how.mono fun e w2 h => ?_
  obtain ⟨A2, c2, rfl, hN2, hc2⟩ := h
  clear how
  have hnm := names_any n w2.heap.size w2 t A2 c2 (Nat.le_refl _) hN2.ndR hs
  have H2 := Lib.hid hc2
  clear hN2 hc2
  go_wp2_with fail
  refine hnm.mono fun e w3 h => ?_
  obtain ⟨A3, c3, rfl, hL, hc3⟩ := h
  clear hnm
  have hcw := H1.out.2.trans (H2.out.trans hc3)
  have hfl := flat_any n n B 0 w3 t A c [] [] none 0 none 0 (Nat.le_refl _) (Nat.le_trans HP.out.1 hcw.size) (NdR.keep0 hcw HP.out.2.1) (RowR.nil _ _ _ _ _) (RowR.nil _ _ _ _ _) (fun b h => absurd h OwnB.none_) (fun b h => absurd h OwnB.none_) (by omega) (by simpa using hs) rfl
  obtain ⟨c0, c1, c2', c3', c4⟩ := ((H2.out.trans hc3).blk H1.out.1 id).cells5
  have H3 := Lib.hid (And.intro hL (And.intro hcw ((H2.out.trans hc3).blk H1.out.1 id)))
  clear hL hcw hc3
  simp only [List.length_nil, List.nil_append, Nat.zero_add] at hfl
  go_wp2_with fail
  refine hfl.mono fun e w4 h => ?_
  obtain ⟨A4, c4', A5, c5', rfl, hr4, hr5, _, _, hc4⟩ := h
  clear hfl c0 c1 c2' c3' c4
  have hc4 : Chg (fun _ _ => False) w3 w4 := hc4.mono fun b t _ h => by rcases h with h | h <;> exact OwnB.none_ h.1
  have hfln := flat_len t
  generalize hLL : nmF [] t.flat = L at H3 ⊢
  generalize hD : w4.heap.size = D
  have HD := Lib.hid hD
  have HA := Lib.hid (show NdsR n w4.heap.size w4 (.slice A4 t.flat.length c4') t.flat from hr4.settleT (by decide) fun _ _ h => NdR.more (Nat.le_trans HP.out.1 (H3.out.2.1.trans hc4).size) h)
  have HL := Lib.hid (show StrsR w3.heap.size w4 (.slice A3 L.length c3) L from SlR.keep H3.out.1 hc4 (no_lets _ _) fun _ _ h => h)
  have H4 := Lib.hid (H3.out.2.1.trans hc4)
  rw [← hfln]
  rw [← hfln] at hs
  have hLlen : L.length ≤ t.flat.length := by rw [← hLL]; have := nmF_len [] t.flat; simpa using this
  generalize t.flat = a at hLL hs HA hLlen ⊢
  have HLL := Lib.hid hLL
  clear hr4 hr5 hc4 hLL hD hfln
  go_wp2_with fail
  go_loopw [6, 7, 8] (fun vk vs i wr => tnRel D a w4 vk vs i wr) (fun _ _ i _ => a.length - (intOf i).toNat)
  case atStart => exact ⟨0, none, 0, Nat.zero_le _, rfl, by simp [nmF], by simp [nmF], by simpa [nmF] using RowR.nil _ _ _ _ _, Chg.refl _ _⟩
  case round =>
    obtain ⟨k, A6, c6, hk, rfl, rfl, rfl, hr6, hch⟩ := hrel
    have q3 : IntKind.i64.wrap ((k : Int) + 1) = (k : Int) + 1 := IntWalk.i64_in _ ⟨by omega, by omega⟩
    by_cases hlt : k < a.length
    · have q1 : decide (k < a.length) = true := decide_eq_true hlt
      have q2 : (k : Int) < (a.length : Int) := by omega
      obtain ⟨bb, oo, x, X, cx, rfl, hkx, hRx, z0, z1, z2, z3, z4⟩ := NdsR.at_ (NdsR.keep0 hch HA.out) hlt
      have hxs := (NdR.small hRx).2.2.2.1
      have htk : a.take (k + 1) = a.take k ++ [x] := by
        obtain ⟨h1, h2⟩ := List.getElem?_eq_some_iff.1 hkx
        rw [List.take_succ_eq_append_getElem h1, h2]
      have hL6 : ∃ r, L = nmStep (nmF [] (a.take k)) x ++ r := by rw [← HLL.out]; exact nmF_at htk
      have hSs : StrsR wr.heap.size wr (.slice A6 (nmF [] (a.take k)).length c6) (nmF [] (a.take k)) := hr6.settleT (by decide) fun _ _ h => h
      by_cases hkd : x.kind = 30 ∨ x.kind = 10
      · by_cases h30 : x.kind = 30
        · have q30 : (x.kind != 30) = false := by simp [h30]
          replace h30 := Lib.hid h30
          skip
          have hcall := has4_any wr (nmF [] (a.take k)) x.text A6 c6 hSs (by have := nmF_len [] (a.take k); simp at this; omega)
          have HK := Lib.hid (And.intro hch (And.intro hr6 (And.intro htk (And.intro hkx hkd))))
          clear hch hr6 htk hkx hRx hSs hkd
          go_wp2_with fail
          refine hcall.mono fun e w5 h => ?_
          obtain ⟨b, rfl, hb, hc5⟩ := h
          clear hcall
          cases b with
          | true =>
            have HI := Lib.hid (hb.1 rfl)
            have hr7 := HK.out.2.1.keep hc5 (fun _ _ h => h) fun cs x h => h
            have HR := Lib.hid (show tnRel D a w4 (.int .i64 ((nmF [] (a.take k)).length : Nat)) (.slice A6 (nmF [] (a.take k)).length c6) (.int .i64 ((k : Int) + 1)) w5 from ⟨k + 1, A6, c6, hlt, by simp, by rw [HK.out.2.2.1, nmF_snoc, nmStep_in HI.out], by rw [HK.out.2.2.1, nmF_snoc, nmStep_in HI.out], by rw [HK.out.2.2.1, nmF_snoc, nmStep_in HI.out]; exact hr7, HK.out.1.trans hc5⟩)
            clear hb hc5 hr7
            go_wp2_with fail
            go_roundw
            case rel => exact HR.out
            case measure => simp [intOf]; omega
          | false =>
            have hni : x.text ∉ nmF [] (a.take k) := fun h => absurd (hb.2 h) (by decide)
            have z1' := hc5.cell z1 fun _ => id
            have hr7 := HK.out.2.1.keep hc5 (fun _ _ h => h) fun cs x h => h
            have hD5 : D ≤ w5.heap.size := by have h1 := HD.out; have h2 := (HK.out.1.trans hc5).size; omega
            have hsl : (nmF [] (a.take k)).length ≤ 1048576 := by have := nmF_len [] (a.take k); simp at this; omega
            have HI := Lib.hid (And.intro hni (And.intro hr7 (And.intro hc5 hL6)))
            clear hb hc5 hr7 hni z0 z1 z2 z3 z4 hL6
            go_wp2_with (at_builtin; go_must (refine wpList_push rfl (.tmp 46) (.tmp 52) 36 rfl D 9 i9 _ 1 16 Tryd.underlying36 hi9 hz9 hs9 hb9 rfl (by omega) StrV A6 c6 _ rfl (by first | rfl | simp) HI.out.2.1 1 [.string x.text] x.text (by first | rfl | simp) (by first | rfl | simp) rfl (by intro u hu; simp at hu; subst hu; rfl) ⟨rfl, hxs⟩ (by omega) (by omega) hD5 (fun _ _ _ _ h => h) ?_))
            intro A8 c8 w8 hr8 hc8
            have hcw : Chg (fun _ _ => False) w4 w8 := (HK.out.1.trans HI.out.2.2.1).trans_new hc8 fun b t hb h => by have := h.1; have := HD.out; omega
            obtain ⟨r, hLr⟩ := HI.out.2.2.2
            rw [nmStep_add HK.out.2.2.2.2 HI.out.1, List.append_assoc] at hLr
            have hlt2 : (nmF [] (a.take k)).length < L.length := by rw [hLr]; simp
            have hget : L[(nmF [] (a.take k)).length]? = some x.text := by rw [hLr]; simp
            obtain ⟨bl, ol, y, csl, hAl, hly, _, ⟨rfl, _⟩, hcl⟩ := SlR.at2 (SlR.keep HL.out hcw (no_lets _ _) fun _ _ h => h) hlt2
            obtain rfl : y = x.text := by rw [hget] at hly; exact (Option.some.inj hly).symm
            subst hAl
            have l0 : w8.cell? ⟨bl, ol + (nmF [] (a.take k)).length, none⟩ = some (.string x.text) := by simpa using hcl 0 _ rfl
            obtain ⟨b9, o9, x', X', cx', hAx, hkx', hRx', z0', z1'', z2', z3', z4'⟩ := NdsR.at_ (NdsR.keep0 hcw HA.out) hlt
            obtain rfl : x' = x := by rw [HK.out.2.2.2.1] at hkx'; exact (Option.some.inj hkx').symm
            injection hAx with hAx
            injection hAx with hAx1 hAx2
            subst hAx1 hAx2
            have g1 : decide ((nmF [] (a.take k)).length ≥ L.length) = false := decide_eq_false (by omega)
            have g2 : decide (L.length ≤ (nmF [] (a.take k)).length) = false := decide_eq_false (by omega)
            have g3 : ((nmF [] (a.take k)).length : Int) < (L.length : Int) := by omega
            have g4 : IntKind.i64.wrap (((nmF [] (a.take k)).length : Int) + 1) = ((nmF [] (a.take k)).length : Int) + 1 := IntWalk.i64_in _ ⟨by omega, by omega⟩
            have HR := Lib.hid (show tnRel D a w4 (.int .i64 (((nmF [] (a.take k)).length : Int) + 1)) (.slice A8 ((nmF [] (a.take k)).length + 1) c8) (.int .i64 ((k : Int) + 1)) (w8.drewN 0) from ⟨k + 1, A8, c8, hlt, by simp, by rw [HK.out.2.2.1, nmF_snoc, nmStep_add HK.out.2.2.2.2 HI.out.1]; simp, by rw [HK.out.2.2.1, nmF_snoc, nmStep_add HK.out.2.2.2.2 HI.out.1]; simp, by rw [HK.out.2.2.1, nmF_snoc, nmStep_add HK.out.2.2.2.2 HI.out.1]; exact hr8, hcw.drewN 0⟩)
            have HR' := Lib.hid (And.intro hr8 hcw)
            clear hr8 hc8 hcw hLr hget hly hcl z0' z2' z3' z4' z1' hRx' hkx'
            go_wp2_with fail
            go_quiet (fail)
            go_wp2_with fail
            go_roundw
            case rel => exact ⟨k + 1, A8, c8, hlt, by simp, by rw [HK.out.2.2.1, nmF_snoc, nmStep_add HK.out.2.2.2.2 HI.out.1]; simp, by rw [HK.out.2.2.1, nmF_snoc, nmStep_add HK.out.2.2.2.2 HI.out.1]; simp, by rw [HK.out.2.2.1, nmF_snoc, nmStep_add HK.out.2.2.2.2 HI.out.1]; exact HR'.out.1, by repeat' (first | exact HR'.out.2 | apply Chg.drew | apply Chg.drewN)⟩
            case measure => simp [intOf]; omega
        · have q30 : (x.kind != 30) = true := by simp [h30]
          have q10 : (x.kind != 10) = false := by simp; omega
          replace h30 := Lib.hid h30
          skip
          have hcall := has4_any wr (nmF [] (a.take k)) x.text A6 c6 hSs (by have := nmF_len [] (a.take k); simp at this; omega)
          have HK := Lib.hid (And.intro hch (And.intro hr6 (And.intro htk (And.intro hkx hkd))))
          clear hch hr6 htk hkx hRx hSs hkd
          go_wp2_with fail
          refine hcall.mono fun e w5 h => ?_
          obtain ⟨b, rfl, hb, hc5⟩ := h
          clear hcall
          cases b with
          | true =>
            have HI := Lib.hid (hb.1 rfl)
            have hr7 := HK.out.2.1.keep hc5 (fun _ _ h => h) fun cs x h => h
            have HR := Lib.hid (show tnRel D a w4 (.int .i64 ((nmF [] (a.take k)).length : Nat)) (.slice A6 (nmF [] (a.take k)).length c6) (.int .i64 ((k : Int) + 1)) w5 from ⟨k + 1, A6, c6, hlt, by simp, by rw [HK.out.2.2.1, nmF_snoc, nmStep_in HI.out], by rw [HK.out.2.2.1, nmF_snoc, nmStep_in HI.out], by rw [HK.out.2.2.1, nmF_snoc, nmStep_in HI.out]; exact hr7, HK.out.1.trans hc5⟩)
            clear hb hc5 hr7
            go_wp2_with fail
            go_roundw
            case rel => exact HR.out
            case measure => simp [intOf]; omega
          | false =>
            have hni : x.text ∉ nmF [] (a.take k) := fun h => absurd (hb.2 h) (by decide)
            have z1' := hc5.cell z1 fun _ => id
            have hr7 := HK.out.2.1.keep hc5 (fun _ _ h => h) fun cs x h => h
            have hD5 : D ≤ w5.heap.size := by have h1 := HD.out; have h2 := (HK.out.1.trans hc5).size; omega
            have hsl : (nmF [] (a.take k)).length ≤ 1048576 := by have := nmF_len [] (a.take k); simp at this; omega
            have HI := Lib.hid (And.intro hni (And.intro hr7 (And.intro hc5 hL6)))
            clear hb hc5 hr7 hni z0 z1 z2 z3 z4 hL6
            go_wp2_with (at_builtin; go_must (refine wpList_push rfl (.tmp 46) (.tmp 52) 36 rfl D 9 i9 _ 1 16 Tryd.underlying36 hi9 hz9 hs9 hb9 rfl (by omega) StrV A6 c6 _ rfl (by first | rfl | simp) HI.out.2.1 1 [.string x.text] x.text (by first | rfl | simp) (by first | rfl | simp) rfl (by intro u hu; simp at hu; subst hu; rfl) ⟨rfl, hxs⟩ (by omega) (by omega) hD5 (fun _ _ _ _ h => h) ?_))
            intro A8 c8 w8 hr8 hc8
            have hcw : Chg (fun _ _ => False) w4 w8 := (HK.out.1.trans HI.out.2.2.1).trans_new hc8 fun b t hb h => by have := h.1; have := HD.out; omega
            obtain ⟨r, hLr⟩ := HI.out.2.2.2
            rw [nmStep_add HK.out.2.2.2.2 HI.out.1, List.append_assoc] at hLr
            have hlt2 : (nmF [] (a.take k)).length < L.length := by rw [hLr]; simp
            have hget : L[(nmF [] (a.take k)).length]? = some x.text := by rw [hLr]; simp
            obtain ⟨bl, ol, y, csl, hAl, hly, _, ⟨rfl, _⟩, hcl⟩ := SlR.at2 (SlR.keep HL.out hcw (no_lets _ _) fun _ _ h => h) hlt2
            obtain rfl : y = x.text := by rw [hget] at hly; exact (Option.some.inj hly).symm
            subst hAl
            have l0 : w8.cell? ⟨bl, ol + (nmF [] (a.take k)).length, none⟩ = some (.string x.text) := by simpa using hcl 0 _ rfl
            obtain ⟨b9, o9, x', X', cx', hAx, hkx', hRx', z0', z1'', z2', z3', z4'⟩ := NdsR.at_ (NdsR.keep0 hcw HA.out) hlt
            obtain rfl : x' = x := by rw [HK.out.2.2.2.1] at hkx'; exact (Option.some.inj hkx').symm
            injection hAx with hAx
            injection hAx with hAx1 hAx2
            subst hAx1 hAx2
            have g1 : decide ((nmF [] (a.take k)).length ≥ L.length) = false := decide_eq_false (by omega)
            have g2 : decide (L.length ≤ (nmF [] (a.take k)).length) = false := decide_eq_false (by omega)
            have g3 : ((nmF [] (a.take k)).length : Int) < (L.length : Int) := by omega
            have g4 : IntKind.i64.wrap (((nmF [] (a.take k)).length : Int) + 1) = ((nmF [] (a.take k)).length : Int) + 1 := IntWalk.i64_in _ ⟨by omega, by omega⟩
            have HR := Lib.hid (show tnRel D a w4 (.int .i64 (((nmF [] (a.take k)).length : Int) + 1)) (.slice A8 ((nmF [] (a.take k)).length + 1) c8) (.int .i64 ((k : Int) + 1)) (w8.drewN 0) from ⟨k + 1, A8, c8, hlt, by simp, by rw [HK.out.2.2.1, nmF_snoc, nmStep_add HK.out.2.2.2.2 HI.out.1]; simp, by rw [HK.out.2.2.1, nmF_snoc, nmStep_add HK.out.2.2.2.2 HI.out.1]; simp, by rw [HK.out.2.2.1, nmF_snoc, nmStep_add HK.out.2.2.2.2 HI.out.1]; exact hr8, hcw.drewN 0⟩)
            have HR' := Lib.hid (And.intro hr8 hcw)
            clear hr8 hc8 hcw hLr hget hly hcl z0' z2' z3' z4' z1' hRx' hkx'
            go_wp2_with fail
            go_quiet (fail)
            go_wp2_with fail
            go_roundw
            case rel => exact ⟨k + 1, A8, c8, hlt, by simp, by rw [HK.out.2.2.1, nmF_snoc, nmStep_add HK.out.2.2.2.2 HI.out.1]; simp, by rw [HK.out.2.2.1, nmF_snoc, nmStep_add HK.out.2.2.2.2 HI.out.1]; simp, by rw [HK.out.2.2.1, nmF_snoc, nmStep_add HK.out.2.2.2.2 HI.out.1]; exact HR'.out.1, by repeat' (first | exact HR'.out.2 | apply Chg.drew | apply Chg.drewN)⟩
            case measure => simp [intOf]; omega
      · have q30 : (x.kind != 30) = true := by simp; omega
        have q10 : (x.kind != 10) = true := by simp; omega
        have HR := Lib.hid (show tnRel D a w4 (.int .i64 ((nmF [] (a.take k)).length : Nat)) (.slice A6 (nmF [] (a.take k)).length c6) (.int .i64 ((k : Int) + 1)) wr from ⟨k + 1, A6, c6, hlt, by simp, by rw [htk, nmF_snoc, nmStep_other hkd], by rw [htk, nmF_snoc, nmStep_other hkd], by rw [htk, nmF_snoc, nmStep_other hkd]; exact hr6, hch⟩)
        clear hr6 hch hkx hRx htk hL6 hSs hkd
        go_wp2_with fail
        go_roundw
        case rel => exact HR.out
        case measure => simp [intOf]; omega
    · have q1 : decide (k < a.length) = false := decide_eq_false hlt
      obtain rfl : k = a.length := by omega
      rw [List.take_length, HLL.out]
      have hcw := H4.out.trans hch
      have hans := answers4_any wr
      have q5 : ((L.length : Int) == (L.length : Int)) = true := by simp
      have q6 : (L.length == L.length) = true := by simp
      have HZ := Lib.hid hcw
      clear hr6 hch hcw
      go_wp2_with fail
      refine hans.mono fun e w9 h => ?_
      obtain ⟨rfl, hc9⟩ := h
      clear hans
      go_wp2_with fail
      go_ret
      exact ⟨rfl, HZ.out.trans hc9⟩
end Go.Proofs.YtgaodjoddfjfmaaDoor
