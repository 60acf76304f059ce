/-
  Same: the program's and the reference's.
-/
import Derived.Test.YtgaodjoddfjfmaaDoorNOwn
import Derived.StillTailTactics
namespace Go.Proofs.YtgaodjoddfjfmaaDoor
open Go.RowKit
set_option linter.unusedVariables false
set_option linter.unusedSimpArgs false

theorem take_same {α : Type} {l m : List α} {k : Nat} {x y : α} (h : l.take k = m.take k) (hx : l[k]? = some x) (hy : m[k]? = some y) (he : x = y) : l.take (k + 1) = m.take (k + 1) := by
  obtain ⟨h1, h2⟩ := List.getElem?_eq_some_iff.1 hx
  obtain ⟨h3, h4⟩ := List.getElem?_eq_some_iff.1 hy
  rw [List.take_succ_eq_append_getElem h1, List.take_succ_eq_append_getElem h3, h, h2, h4, he]
theorem not_same_at {α : Type} {l m : List α} {k : Nat} {x y : α} (hx : l[k]? = some x) (hy : m[k]? = some y) (he : x ≠ y) : l ≠ m := by
  rintro rfl
  rw [hx] at hy
  exact he (Option.some.inj hy)
noncomputable def samL (l m : List Nd) : Bool := eqB (l.map Nd.strip) (m.map Nd.strip)
def samRel (l m : List Nd) (W : World) (i : Value) (wr : World) : Prop := ∃ k : Nat, k ≤ l.length ∧ i = .int .i64 k ∧ (l.map Nd.strip).take k = (m.map Nd.strip).take k ∧ Chg (fun _ _ => False) W wr
theorem samL_of {l m : List Nd} (hlm : l.length = m.length) (hs : (l.map Nd.strip).take l.length = (m.map Nd.strip).take l.length) : samL l m = true := eqB_true.2 (by
  have h1 : (l.map Nd.strip).take l.length = l.map Nd.strip := List.take_of_length_le (by simp)
  have h2 : (m.map Nd.strip).take l.length = m.map Nd.strip := List.take_of_length_le (by simp; omega)
  rw [← h1, ← h2]
  exact hs)
theorem sameN_of {a b : Nd} (h1 : a.kind = b.kind) (h2 : a.text = b.text) (h3 : a.n = b.n) : sameN a b = samL a.list b.list := by
  unfold samL
  by_cases h : a.list.map Nd.strip = b.list.map Nd.strip
  · rw [eqB_true.2 h]; exact sameN_true.2 ⟨h1, h2, h3, h⟩
  · rw [eqB_false.2 h]
    exact Bool.eq_false_iff.2 fun he => h (sameN_true.1 he).2.2.2
/-- The contract of a Same at trees no deeper than n. -/
def SameC (f n : Nat) : Prop := ∀ (B : Nat) (w : World) (a b : Nd) (A : Option Addr) (c : Nat) (A2 : Option Addr) (c2 : Nat), B ≤ w.heap.size → NdR n B w (ndCells a.kind a.text a.n a.at_ A a.list.length c) a → NdR n B w (ndCells b.kind b.text b.n b.at_ A2 b.list.length c2) b →
    Calls Tryd.prog f #[.agg #[.int .i64 a.kind, .string a.text, .int .u64 a.n, .int .i64 a.at_, .slice A a.list.length c], .agg #[.int .i64 b.kind, .string b.text, .int .u64 b.n, .int .i64 b.at_, .slice A2 b.list.length c2]] w fun e w' => e = .returned (.bool (sameN a b)) ∧ Chg (fun _ _ => False) w w'
set_option maxRecDepth 100000 in
set_option maxHeartbeats 2000000 in
theorem eqfN_of (n : Nat) (IH : SameC 12 n) (B : Nat) (w : World) (l m : List Nd) (A : Option Addr) (c : Nat) (A' : Option Addr) (c' : Nat) (hB : B ≤ w.heap.size) (hl : NdsR n B w (.slice A l.length c) l) (hm : NdsR n B w (.slice A' m.length c') m) (hl20 : l.length ≤ 1048576) (hm20 : m.length ≤ 1048576) :
    Calls Tryd.prog 28 #[.slice A l.length c, .slice A' m.length c', .func (.func 12) #[] #[]] w fun e w' => e = .returned (.bool (samL l m)) ∧ Chg (fun _ _ => False) w w' := by
  by_cases hlm : l.length = m.length
  · have q4 : ((l.length : Int) != (m.length : Int)) = false := by simp [hlm]
    have p4 : (l.length != m.length) = false := by simp [hlm]
    have H0 := Lib.hid (And.intro hB (And.intro hl (And.intro hm hlm)))
    clear hB hl hm hlm
    go_enter Tryd.func28, Tryd.ntmps28
    go_wp2_with fail
    go_loopw [17] (fun i wr => samRel l m w i wr) (fun i _ => l.length - (intOf i).toNat)
    case atStart => exact ⟨0, Nat.zero_le _, rfl, rfl, Chg.refl _ _⟩
    case round =>
      obtain ⟨k, hk, rfl, hs, hch⟩ := hrel
      have hcw := hch
      have q3 : IntKind.i64.wrap ((k : Int) + 1) = (k : Int) + 1 := IntWalk.i64_in _ ⟨by omega, by omega⟩
      by_cases hlt : k < l.length
      · have q1 : decide (k < l.length) = true := decide_eq_true hlt
        have q2 : (k : Int) < (l.length : Int) := by omega
        have q2m : (k : Int) < (m.length : Int) := by have := H0.out.2.2.2; omega
        obtain ⟨bb, oo, x, X, cx, rfl, hkx, hRx, z0, z1, z2, z3, z4⟩ := NdsR.at_ (NdsR.keep0 hcw H0.out.2.1) hlt
        obtain ⟨bb', oo', y, Y, cy, rfl, hky, hRy, v0, v1, v2, v3, v4⟩ := NdsR.at_ (NdsR.keep0 hcw H0.out.2.2.1) (k := k) (by have := H0.out.2.2.2; omega)
        have hkx' : (l.map Nd.strip)[k]? = some x.strip := by rw [List.getElem?_map, hkx]; rfl
        have hky' : (m.map Nd.strip)[k]? = some y.strip := by rw [List.getElem?_map, hky]; rfl
        have u0 := (chg_alloc wr (.cells #[.int .i64 x.kind, .string x.text, .int .u64 x.n, .int .i64 x.at_, .slice X x.list.length cx] 25)).cell v0 fun _ => id
        have u1 := (chg_alloc wr (.cells #[.int .i64 x.kind, .string x.text, .int .u64 x.n, .int .i64 x.at_, .slice X x.list.length cx] 25)).cell v1 fun _ => id
        have u2 := (chg_alloc wr (.cells #[.int .i64 x.kind, .string x.text, .int .u64 x.n, .int .i64 x.at_, .slice X x.list.length cx] 25)).cell v2 fun _ => id
        have u3 := (chg_alloc wr (.cells #[.int .i64 x.kind, .string x.text, .int .u64 x.n, .int .i64 x.at_, .slice X x.list.length cx] 25)).cell v3 fun _ => id
        have u4 := (chg_alloc wr (.cells #[.int .i64 x.kind, .string x.text, .int .u64 x.n, .int .i64 x.at_, .slice X x.list.length cx] 25)).cell v4 fun _ => id
        have hca2 := (chg_alloc wr (.cells #[.int .i64 x.kind, .string x.text, .int .u64 x.n, .int .i64 x.at_, .slice X x.list.length cx] 25)).alloc (.cells #[.int .i64 y.kind, .string y.text, .int .u64 y.n, .int .i64 y.at_, .slice Y y.list.length cy] 25)
        have hca := hch.trans hca2
        have hcall := IH B _ x y X cx Y cy (Nat.le_trans H0.out.1 hca.size) (NdR.keep0 hca2 hRx) (NdR.keep0 hca2 hRy)
        have HK := Lib.hid (And.intro hs (And.intro hca (And.intro hkx' hky')))
        clear hs hch hkx hky hkx' hky' hca hca2 hRx hRy hcw
        go_wp2_with fail
        generalize (wr.alloc (.cells #[.int .i64 x.kind, .string x.text, .int .u64 x.n, .int .i64 x.at_, .slice X x.list.length cx] 25)).alloc (.cells #[.int .i64 y.kind, .string y.text, .int .u64 y.n, .int .i64 y.at_, .slice Y y.list.length cy] 25) = w4 at hcall HK ⊢
        cases he : sameN x y with
        | true =>
          rw [he] at hcall
          have HEq := Lib.hid (eqB_true.1 he)
          clear he
          refine hcall.mono fun e w5 h => ?_
          obtain ⟨rfl, hc5⟩ := h
          clear hcall
          go_wp2_with fail
          go_roundw
          case rel => exact ⟨k + 1, hlt, by simp, take_same HK.out.1 HK.out.2.2.1 HK.out.2.2.2 HEq.out, HK.out.2.1.trans hc5⟩
          case measure => simp [intOf]; omega
        | false =>
          rw [he] at hcall
          have HEq := Lib.hid (eqB_false.1 he)
          clear he
          refine hcall.mono fun e w5 h => ?_
          obtain ⟨rfl, hc5⟩ := h
          clear hcall
          go_wp2_with fail
          go_ret
          refine ⟨?_, HK.out.2.1.trans hc5⟩
          have hne : samL l m = false := eqB_false.2 (not_same_at HK.out.2.2.1 HK.out.2.2.2 HEq.out)
          rw [hne]
          first
            | rfl
            | simp
      · have q1 : decide (k < l.length) = false := decide_eq_false hlt
        obtain rfl : k = l.length := by omega
        have HC := Lib.hid hch
        have HS := Lib.hid (show samL l m = true from samL_of H0.out.2.2.2 hs)
        clear hs hch hcw
        go_wp2_with fail
        go_ret
        refine ⟨?_, HC.out⟩
        rw [HS.out]
        first
          | rfl
          | simp
  · have q4 : ((l.length : Int) != (m.length : Int)) = true := by simp; omega
    have p4 : (l.length != m.length) = true := by simp; omega
    have HS := Lib.hid (show samL l m = false from eqB_false.2 fun h => hlm (by have := congrArg List.length h; simpa using this))
    clear hB hl hm hlm
    go_enter Tryd.func28, Tryd.ntmps28
    go_wp2_with fail
    go_ret
    refine ⟨?_, Chg.refl _ _⟩
    rw [HS.out]
    first
      | rfl
      | simp
set_option maxRecDepth 100000 in
set_option maxHeartbeats 4000000 in
theorem nsame_step (n : Nat) (IH : SameC 12 n) : SameC 12 (n + 1) := by
  intro B w a b A c A2 c2 hB hA hC
  obtain ⟨hsa, hLa⟩ := NdR.open_ hA
  obtain ⟨hsb, hLb⟩ := NdR.open_ hC
  have s5a := hsa.2.2.2.2
  have s5b := hsb.2.2.2.2
  have hb1 := (Blk.new w 25 #[.int .i64 a.kind, .string a.text, .int .u64 a.n, .int .i64 a.at_, .slice A a.list.length c]).alloc (.cells #[.int .i64 b.kind, .string b.text, .int .u64 b.n, .int .i64 b.at_, .slice A2 b.list.length c2] 25)
  have hb2 := Blk.new (w.alloc (.cells #[.int .i64 a.kind, .string a.text, .int .u64 a.n, .int .i64 a.at_, .slice A a.list.length c] 25)) 25 #[.int .i64 b.kind, .string b.text, .int .u64 b.n, .int .i64 b.at_, .slice A2 b.list.length c2]
  have hc1 := (chg_alloc w (.cells #[.int .i64 a.kind, .string a.text, .int .u64 a.n, .int .i64 a.at_, .slice A a.list.length c] 25)).alloc (.cells #[.int .i64 b.kind, .string b.text, .int .u64 b.n, .int .i64 b.at_, .slice A2 b.list.length c2] 25)
  simp only [World.size_alloc] at hb2
  have HT := Lib.hid (And.intro hB (And.intro hLa hLb))
  have IH := Lib.hid IH
  have H0 := Lib.hid (And.intro hb1 (And.intro hb2 hc1))
  clear hB hA hC hLa hLb hb1 hb2 hc1 hsa hsb
  by_cases h1 : a.kind = b.kind
  · have q1 : (a.kind == b.kind) = true := by simp [h1]
    replace h1 := Lib.hid h1
    by_cases h2 : a.text = b.text
    · have q2 := str_eq h2
      replace h2 := Lib.hid h2
      by_cases h3 : a.n = b.n
      · have q3 : ((a.n : Int) == (b.n : Int)) = true := by simp [h3]
        have p3 : (a.n == b.n) = true := by simp [h3]
        replace h3 := Lib.hid h3
        go_enter Tryd.func12, Tryd.ntmps12
        go_wp2_with fail
        generalize (w.alloc (.cells #[.int .i64 a.kind, .string a.text, .int .u64 a.n, .int .i64 a.at_, .slice A a.list.length c] 25)).alloc (.cells #[.int .i64 b.kind, .string b.text, .int .u64 b.n, .int .i64 b.at_, .slice A2 b.list.length c2] 25) = W at H0 ⊢
        generalize w.heap.size + 1 = g2 at H0 ⊢
        generalize w.heap.size = g1 at H0 ⊢
        have hq0 := eqfN_of n IH.out B W a.list b.list A c A2 c2 (Nat.le_trans HT.out.1 H0.out.2.2.size) (NdsR.keep0 H0.out.2.2 HT.out.2.1) (NdsR.keep0 H0.out.2.2 HT.out.2.2) s5a s5b
        refine hq0.mono fun e w1 h => ?_
        obtain ⟨rfl, hc1⟩ := h
        clear hq0
        go_wp2_with fail
        go_ret
        refine ⟨?_, H0.out.2.2.trans hc1⟩
        rw [sameN_of h1.out h2.out h3.out]
        first
          | rfl
          | simp
      · have q3 : ((a.n : Int) == (b.n : Int)) = false := by simp; omega
        have p3 : (a.n == b.n) = false := by simp [h3]
        have HS := Lib.hid (show sameN a b = false from eqB_false.2 fun he => h3 (by rw [strip_eq a, strip_eq b, Nd.mk.injEq] at he; exact he.2.2.1))
        clear h3
        go_enter Tryd.func12, Tryd.ntmps12
        go_wp2_with fail
        go_ret
        refine ⟨?_, H0.out.2.2⟩
        rw [HS.out]
        first
          | rfl
          | simp
    · have q2 := str_ne h2
      have HS := Lib.hid (show sameN a b = false from eqB_false.2 fun he => h2 (by rw [strip_eq a, strip_eq b, Nd.mk.injEq] at he; exact he.2.1))
      clear h2
      go_enter Tryd.func12, Tryd.ntmps12
      go_wp2_with fail
      go_ret
      refine ⟨?_, H0.out.2.2⟩
      rw [HS.out]
      first
        | rfl
        | simp
  · have q1 : (a.kind == b.kind) = false := by simp [h1]
    have HS := Lib.hid (show sameN a b = false from eqB_false.2 fun he => h1 (by rw [strip_eq a, strip_eq b, Nd.mk.injEq] at he; exact he.1))
    clear h1
    go_enter Tryd.func12, Tryd.ntmps12
    go_wp2_with fail
    go_ret
    refine ⟨?_, H0.out.2.2⟩
    rw [HS.out]
    first
      | rfl
      | simp
theorem nsame_any : ∀ n, SameC 12 n
  | 0 => fun B w a b A c A2 c2 hB hA hC => hA.elim
  | n + 1 => nsame_step n (nsame_any n)
set_option maxRecDepth 100000 in
set_option maxHeartbeats 4000000 in
theorem rnsame_step (n : Nat) (IH : SameC 14 n) : SameC 14 (n + 1) := by
  intro B w a b A c A2 c2 hB hA hC
  obtain ⟨hsa, hLa⟩ := NdR.open_ hA
  obtain ⟨hsb, hLb⟩ := NdR.open_ hC
  have s5a := hsa.2.2.2.2
  have s5b := hsb.2.2.2.2
  have hb1 := (Blk.new w 25 #[.int .i64 a.kind, .string a.text, .int .u64 a.n, .int .i64 a.at_, .slice A a.list.length c]).alloc (.cells #[.int .i64 b.kind, .string b.text, .int .u64 b.n, .int .i64 b.at_, .slice A2 b.list.length c2] 25)
  have hb2 := Blk.new (w.alloc (.cells #[.int .i64 a.kind, .string a.text, .int .u64 a.n, .int .i64 a.at_, .slice A a.list.length c] 25)) 25 #[.int .i64 b.kind, .string b.text, .int .u64 b.n, .int .i64 b.at_, .slice A2 b.list.length c2]
  have hc1 := (chg_alloc w (.cells #[.int .i64 a.kind, .string a.text, .int .u64 a.n, .int .i64 a.at_, .slice A a.list.length c] 25)).alloc (.cells #[.int .i64 b.kind, .string b.text, .int .u64 b.n, .int .i64 b.at_, .slice A2 b.list.length c2] 25)
  simp only [World.size_alloc] at hb2
  have HT := Lib.hid (And.intro hB (And.intro hLa hLb))
  have IH := Lib.hid IH
  have H0 := Lib.hid (And.intro hb1 (And.intro hb2 hc1))
  clear hB hA hC hLa hLb hb1 hb2 hc1 hsa hsb
  by_cases h1 : a.kind = b.kind
  · have q1 : (a.kind != b.kind) = false := by simp [h1]
    replace h1 := Lib.hid h1
    by_cases h2 : a.text = b.text
    · have q2 := str_eq h2
      replace h2 := Lib.hid h2
      by_cases h3 : a.n = b.n
      · have q3 : ((a.n : Int) != (b.n : Int)) = false := by simp [h3]
        have p3 : (a.n != b.n) = false := by simp [h3]
        replace h3 := Lib.hid h3
        by_cases h4 : a.list.length = b.list.length
        · have q4 : ((a.list.length : Int) != (b.list.length : Int)) = false := by simp [h4]
          have p4 : (a.list.length != b.list.length) = false := by simp [h4]
          have HE := Lib.hid h4
          clear h4
          go_enter Tryd.func14, Tryd.ntmps14
          go_wp2_with fail
          generalize (w.alloc (.cells #[.int .i64 a.kind, .string a.text, .int .u64 a.n, .int .i64 a.at_, .slice A a.list.length c] 25)).alloc (.cells #[.int .i64 b.kind, .string b.text, .int .u64 b.n, .int .i64 b.at_, .slice A2 b.list.length c2] 25) = W at H0 ⊢
          generalize w.heap.size + 1 = g2 at H0 ⊢
          generalize w.heap.size = g1 at H0 ⊢
          go_loopw [5] (fun i wr => samRel a.list b.list W i wr) (fun i _ => a.list.length - (intOf i).toNat)
          case atStart => exact ⟨0, Nat.zero_le _, rfl, rfl, Chg.refl _ _⟩
          case round =>
            obtain ⟨k, hk, rfl, hs, hch⟩ := hrel
            have hcw := H0.out.2.2.trans hch
            obtain ⟨y0, y1, y2, y3, y4⟩ := (hch.blk H0.out.1 id).cells5
            obtain ⟨x0, x1, x2, x3, x4⟩ := (hch.blk H0.out.2.1 id).cells5
            have q3' : IntKind.i64.wrap ((k : Int) + 1) = (k : Int) + 1 := IntWalk.i64_in _ ⟨by omega, by omega⟩
            by_cases hlt : k < a.list.length
            · have q1' : decide (k < a.list.length) = true := decide_eq_true hlt
              have q2' : (k : Int) < (a.list.length : Int) := by omega
              have q2m : (k : Int) < (b.list.length : Int) := by have := HE.out; omega
              obtain ⟨bb, oo, x, X, cx, rfl, hkx, hRx, z0, z1, z2, z3, z4⟩ := NdsR.at_ (NdsR.keep0 hcw HT.out.2.1) hlt
              obtain ⟨bb', oo', y, Y, cy, rfl, hky, hRy, v0, v1, v2, v3, v4⟩ := NdsR.at_ (NdsR.keep0 hcw HT.out.2.2) (k := k) (by have := HE.out; omega)
              have hkx' : (a.list.map Nd.strip)[k]? = some x.strip := by rw [List.getElem?_map, hkx]; rfl
              have hky' : (b.list.map Nd.strip)[k]? = some y.strip := by rw [List.getElem?_map, hky]; rfl
              have hdr := (Chg.refl (fun _ _ => False) wr).drew
              have hcall := IH.out B wr.drew x y X cx Y cy (Nat.le_trans HT.out.1 (hcw.trans hdr).size) (NdR.keep0 hdr hRx) (NdR.keep0 hdr hRy)
              have HK := Lib.hid (And.intro hs (And.intro (hch.trans hdr) (And.intro hkx' hky')))
              clear hs hch hkx hky hkx' hky' hRx hRy hdr hcw
              go_wp2_with fail
              refine wp_region_still_tail 10 (by kernel_rfl) (by kernel_rfl) ?_
              simp only [List.take_succ_cons, List.take_zero, List.drop_succ_cons, List.drop_zero]
              repeat (with_reducible refine wpStill_step (fun K hK => ?_); go_simp; with_reducible refine hK _ ?_; clear hK K)
              try with_reducible refine wpStill_nil ?_
              clear z0 z1 z2 z3 z4 v0 v1 v2 v3 v4 x0 x1 x2 x3 x4 y0 y1 y2 y3 y4
              change wpList _ _ _ _ _ wr.drew
              generalize wr.drew = w6 at hcall HK ⊢
              go_wp2_with fail
              cases he : sameN x y with
              | true =>
                rw [he] at hcall
                have HEq := Lib.hid (eqB_true.1 he)
                clear he
                refine hcall.mono fun e w5 h => ?_
                obtain ⟨rfl, hc5⟩ := h
                clear hcall
                go_wp2_with fail
                go_roundw
                case rel => exact ⟨k + 1, hlt, by simp, take_same HK.out.1 HK.out.2.2.1 HK.out.2.2.2 HEq.out, HK.out.2.1.trans hc5⟩
                case measure => simp [intOf]; omega
              | false =>
                rw [he] at hcall
                have HEq := Lib.hid (eqB_false.1 he)
                clear he
                refine hcall.mono fun e w5 h => ?_
                obtain ⟨rfl, hc5⟩ := h
                clear hcall
                go_wp2_with fail
                go_ret
                refine ⟨?_, (H0.out.2.2.trans HK.out.2.1).trans hc5⟩
                rw [sameN_of h1.out h2.out h3.out]
                have hne : samL a.list b.list = false := eqB_false.2 (not_same_at HK.out.2.2.1 HK.out.2.2.2 HEq.out)
                rw [hne]
                first
                  | rfl
                  | simp
            · have q1' : decide (k < a.list.length) = false := decide_eq_false hlt
              obtain rfl : k = a.list.length := by omega
              have HC := Lib.hid hcw
              have HS := Lib.hid (show samL a.list b.list = true from samL_of HE.out hs)
              clear hs hch hcw
              go_wp2_with fail
              go_ret
              refine ⟨?_, HC.out⟩
              rw [sameN_of h1.out h2.out h3.out, HS.out]
              first
                | rfl
                | simp
        · have q4 : ((a.list.length : Int) != (b.list.length : Int)) = true := by simp; omega
          have p4 : (a.list.length != b.list.length) = true := by simp; omega
          have HS := Lib.hid (show samL a.list b.list = false from eqB_false.2 fun h => h4 (by have := congrArg List.length h; simpa using this))
          clear h4
          go_enter Tryd.func14, Tryd.ntmps14
          go_wp2_with fail
          go_ret
          refine ⟨?_, H0.out.2.2⟩
          rw [sameN_of h1.out h2.out h3.out, HS.out]
          first
            | rfl
            | simp
      · have q3 : ((a.n : Int) != (b.n : Int)) = true := by simp; omega
        have p3 : (a.n != b.n) = true := by simp [h3]
        have HS := Lib.hid (show sameN a b = false from eqB_false.2 fun he => h3 (by rw [strip_eq a, strip_eq b, Nd.mk.injEq] at he; exact he.2.2.1))
        clear h3
        go_enter Tryd.func14, Tryd.ntmps14
        go_wp2_with fail
        go_ret
        refine ⟨?_, H0.out.2.2⟩
        rw [HS.out]
        first
          | rfl
          | simp
    · have q2 := str_ne h2
      have HS := Lib.hid (show sameN a b = false from eqB_false.2 fun he => h2 (by rw [strip_eq a, strip_eq b, Nd.mk.injEq] at he; exact he.2.1))
      clear h2
      go_enter Tryd.func14, Tryd.ntmps14
      go_wp2_with fail
      go_ret
      refine ⟨?_, H0.out.2.2⟩
      rw [HS.out]
      first
        | rfl
        | simp
  · have q1 : (a.kind != b.kind) = true := by simp [h1]
    have HS := Lib.hid (show sameN a b = false from eqB_false.2 fun he => h1 (by rw [strip_eq a, strip_eq b, Nd.mk.injEq] at he; exact he.1))
    clear h1
    go_enter Tryd.func14, Tryd.ntmps14
    go_wp2_with fail
    go_ret
    refine ⟨?_, H0.out.2.2⟩
    rw [HS.out]
    first
      | rfl
      | simp
theorem rnsame_any : ∀ n, SameC 14 n
  | 0 => fun B w a b A c A2 c2 hB hA hC => hA.elim
  | n + 1 => rnsame_step n (rnsame_any n)
end Go.Proofs.YtgaodjoddfjfmaaDoor
