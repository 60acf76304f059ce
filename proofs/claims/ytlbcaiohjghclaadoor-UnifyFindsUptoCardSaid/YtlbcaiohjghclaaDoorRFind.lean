/-
  ref02.Find.
-/
import Derived.Test.YtlbcaiohjghclaaDoorRMatch
import Derived.Test.YtlbcaiohjghclaaDoorUniU
import Derived.Test.YtlbcaiohjghclaaDoorTExec
import Derived.Laws.MakeOwn
namespace Go.Proofs.YtlbcaiohjghclaaDoor
open Go.RowKit
set_option linter.unusedVariables false
set_option linter.unusedSimpArgs false

theorem rmatch_any {m B gB qT qK : Nat} {names : List ByteArray} {An : Option Addr} {cn ct ck : Nat} (hT : B ≤ qT) (hK : B ≤ qK) (hnl : names.length ≤ 1048576) (hnd : names.Nodup) : ∀ n, RMatchC n m B gB qT qK names An cn ct ck
  | 0 => fun w a b Af cf Al cl Ar cr Bf df Bl dl Br dr f hB hBd hA hC => hA.elim
  | n + 1 => rmatch_step n m B gB qT qK names An cn ct ck hT hK hnl hnd (rmatch_any hT hK hnl hnd n)
section
variable {a : Act} {w : World} {dst : Option Nat} {ty : TypeId} {pos : String} {af : Array Edge} {g : Option (Nat × Bool)}
theorem exec_lenS {A : Option Addr} {n c : Nat} (x : Operand) (hx : a.eval x = .slice A n c) : (execOp a.eval { dst := dst, op := Op.call { callee := .builtin .len, args := #[x], argTypes := #[22] }, type := ty, pos := pos, after := af, guard := g }).run Tryd.prog w = .ok (.value (.int .i64 n)) w := by
  have hu := Tryd.underlying22
  generalize a.eval = E at hx ⊢
  unfold execOp
  simp [hx, go_sem, Builtin.len_, run_underlying hu]
theorem exec_mkT {N : Nat} (x y : Operand) (hx : a.eval x = .int .i64 N) (hy : a.eval y = .int .i64 N) (hN : N ≤ 1048576) : (execOp a.eval { dst := dst, op := Op.makeSlice 23 x y, type := ty, pos := pos, after := af, guard := g }).run Tryd.prog w = .ok (.value (.slice (some ⟨w.heap.size, 0, none⟩) N N)) (w.alloc (.cells (madeCells #[.int .i64 0, .string ⟨#[]⟩, .int .i64 0, .slice none 0 0, .slice none 0 0, .slice none 0 0] (N * 6)) 42)) := by
  obtain ⟨i, hi, hz, hs, hb⟩ := info_parts infoType
  have hr := run_make (P := Tryd.prog) w 23 42 i _ Tryd.underlying23 hi hz .i64 .i64 N N (by omega) (by omega) (by rw [hb]; omega) (by omega)
  rw [hs] at hr
  simp only [Int.toNat_natCast] at hr
  unfold execOp
  simp only [hx, hy, Sem.run_bind, hr, Result.andThen_ok, Sem.run_pure]
  rfl
theorem exec_mkB {N : Nat} (x y : Operand) (hx : a.eval x = .int .i64 N) (hy : a.eval y = .int .i64 N) (hN : N ≤ 1048576) : (execOp a.eval { dst := dst, op := Op.makeSlice 24 x y, type := ty, pos := pos, after := af, guard := g }).run Tryd.prog w = .ok (.value (.slice (some ⟨w.heap.size, 0, none⟩) N N)) (w.alloc (.cells (madeCells #[.bool false] (N * 1)) 4)) := by
  obtain ⟨i, hi, hz, hs, hb⟩ := info_parts infoBool
  have hr := run_make (P := Tryd.prog) w 24 4 i _ Tryd.underlying24 hi hz .i64 .i64 N N (by omega) (by omega) (by rw [hb]; omega) (by omega)
  rw [hs] at hr
  simp only [Int.toNat_natCast] at hr
  unfold execOp
  simp only [hx, hy, Sem.run_bind, hr, Result.andThen_ok, Sem.run_pure]
  rfl
theorem exec_build3 {A0 A1 A2 : Option Addr} {n0 c0 n1 c1 n2 c2 : Nat} (x y z : Operand) (hx : a.eval x = .slice A0 n0 c0) (hy : a.eval y = .slice A1 n1 c1) (hz : a.eval z = .slice A2 n2 c2) : (execOp a.eval { dst := dst, op := Op.build 35 #[(0, x), (1, y), (2, z)], type := ty, pos := pos, after := af, guard := g }).run Tryd.prog w = .ok (.value (.agg #[.slice A0 n0 c0, .slice A1 n1 c1, .slice A2 n2 c2])) w := by
  generalize a.eval = E at hx hy hz ⊢
  unfold execOp
  simp [hx, hy, hz, go_sem, run_underlying Tryd.underlying35]
theorem exec_box3 {v0 v1 v2 : Value} (x : Operand) (hx : a.eval x = .agg #[v0, v1, v2]) : (execOp a.eval { dst := dst, op := Op.box 35 x, type := ty, pos := pos, after := af, guard := g }).run Tryd.prog w = .ok (.value (.pointer (some ⟨w.heap.size, 0, none⟩))) (w.alloc (.cells #[v0, v1, v2] 35)) := by
  generalize a.eval = E at hx ⊢
  unfold execOp
  simp [hx, go_sem, newVar, newRow]
end
theorem arr3 {a b c a' b' c' : Value} (h1 : a' = a) (h2 : b' = b) (h3 : c' = c) : #[a, b, c] = #[a', b', c'] := by rw [h1, h2, h3]
def fndF (N : Nat) (S : Value) (base : Nat) : Nat → (Nat → Value) → Nat × Nat → World → Prop
  | 0, v, _, _ => v 0 = S
  | 1, v, _, _ => v 1 = S
  | 2, v, _, _ => v 2 = .int .i64 N
  | 3, v, _, w => ∃ q, v 3 = .slice (some ⟨q, 0, none⟩) N N ∧ base ≤ q ∧ Blk w q 42 (madeCells #[.int .i64 0, .string ⟨#[]⟩, .int .i64 0, .slice none 0 0, .slice none 0 0, .slice none 0 0] (N * 6))
  | 4, v, _, _ => v 4 = S
  | 5, v, _, _ => v 5 = .int .i64 N
  | 6, v, _, w => ∃ q, v 6 = .slice (some ⟨q, 0, none⟩) N N ∧ base ≤ q ∧ Blk w q 4 (madeCells #[.bool false] (N * 1))
  | 7, v, _, _ => v 7 = .agg #[v 0, v 3, v 6]
  | 8, v, _, w => ∃ g cs, v 8 = .pointer (some ⟨g, 0, none⟩) ∧ v 7 = .agg cs ∧ Blk w g 35 cs
  | 9, v, _, _ => v 9 = v 8
  | _, _, _, _ => True
theorem fndF_dep {N base : Nat} {S : Value} {md : Region.Mode} {ops : Array Oper} (h70 : waitsB md ops 7 0 = true) (h73 : waitsB md ops 7 3 = true) (h76 : waitsB md ops 7 6 = true) (h87 : waitsB md ops 8 7 = true) (h98 : waitsB md ops 9 8 = true)
    (j : Nat) (val val' : Nat → Value) (r : Nat × Nat) (w : World) (h : val j = val' j) (hk : ∀ k, waitsB md ops j k = true → val k = val' k) (hF : fndF N S base j val r w) : fndF N S base j val' r w := by
  unfold fndF at hF ⊢
  split at hF <;> first | (rw [← hk 0 h70, ← hk 3 h73, ← hk 6 h76, ← h]; exact hF) | (rw [← hk 7 h87, ← h]; exact hF) | (rw [← hk 8 h98, ← h]; exact hF) | (rw [← h]; exact hF) | trivial
theorem fndF_mono {N base : Nat} {S : Value} (j : Nat) (val : Nat → Value) (r : Nat × Nat) (w w' : World) (hc : Chg (fun _ _ => False) w w') (hF : fndF N S base j val r w) : fndF N S base j val r w' := by
  unfold fndF at hF ⊢
  split at hF <;> first | exact hF | (obtain ⟨q, h1, h2, h3⟩ := hF; exact ⟨q, h1, h2, hc.blk h3 id⟩) | (obtain ⟨q, q', h1, h2, h3⟩ := hF; exact ⟨q, q', h1, h2, hc.blk h3 id⟩)
def RFindRes (n m : Nat) (names : List ByteArray) (want have_ : List Ty) (An : Option Addr) (cn : Nat) (w : World) (e : Ending) (w' : World) : Prop := Chg (fun _ _ => False) w w' ∧
  (((want ++ have_).all soundT = false ∧ e = .returned (.tuple #[.pointer none, .int .i64 0, .int .i64 1])) ∨
   ((want ++ have_).all soundT = true ∧ ¬ (names.Nodup ∧ want.length = have_.length) ∧ e = .returned (.tuple #[.pointer none, .int .i64 0, .int .i64 2])) ∨
   ((want ++ have_).all soundT = true ∧ (names.Nodup ∧ want.length = have_.length) ∧ ((∃ (k : Nat) (g : ByteArray → Option Ty) (x y : Ty), want[k]? = some x ∧ have_[k]? = some y ∧ matchL (matchT names n) ((noNm want).take k) ((noNm have_).take k) (fun _ => none) = some g ∧ matchT names n x y g = none ∧ e = .returned (.tuple #[.pointer none, .int .i64 k, .int .i64 9])) ∨
     ∃ (gB qT qK : Nat) (g : ByteArray → Option Ty), matchL (matchT names n) (noNm want) (noNm have_) (fun _ => none) = some g ∧ e = .returned (.tuple #[.pointer (some ⟨gB, 0, none⟩), .int .i64 0, .int .i64 0]) ∧ BndR m w.heap.size gB qT qK names An cn names.length names.length g w')))
theorem made_at {z : Array Value} {n i : Nat} (h : i < n) : (madeCells z n)[i]? = some (z[i % z.size]!) := by
  unfold madeCells
  simp [h]
/-- Nothing is known at first. -/
theorem BndR.fresh {m B gB qT qK : Nat} {names : List ByteArray} {An : Option Addr} {cn : Nat} {w : World} (h1 : Blk w gB 35 #[.slice An names.length cn, .slice (some ⟨qT, 0, none⟩) names.length names.length, .slice (some ⟨qK, 0, none⟩) names.length names.length]) (h2 : StrsR B w (.slice An names.length cn) names)
    (h3 : Blk w qT 42 (madeCells #[.int .i64 0, .string ⟨#[]⟩, .int .i64 0, .slice none 0 0, .slice none 0 0, .slice none 0 0] (names.length * 6))) (h4 : Blk w qK 4 (madeCells #[.bool false] (names.length * 1))) : BndR m B gB qT qK names An cn names.length names.length (fun _ => none) w := by
  refine ⟨⟨h1, h2⟩, ⟨_, h4, fun i s hs => ?_⟩, _, h3, by simp [madeCells], fun i s hs => ?_⟩
  · have hi := (List.getElem?_eq_some_iff.1 hs).1
    rw [made_at (by omega)]
    simp only [List.size_toArray, List.length_cons, List.length_nil, Nat.zero_add, Nat.mod_one]
    rfl
  · have hi := (List.getElem?_eq_some_iff.1 hs).1
    refine ⟨zeroT, rfl, none, 0, none, 0, none, 0, ⟨⟨by unfold I64; decide, by unfold I64; decide, by decide, by decide, by decide, by decide⟩, none, 0, none, 0, none, 0, rfl, SlR.nil _ _ _ _ _ _ _, SlR.nil _ _ _ _ _ _ _, SlR.nil _ _ _ _ _ _ _⟩, fun j v hj => ?_⟩
    have hj6 : j < 6 := (List.getElem?_eq_some_iff.1 hj).1
    rw [made_at (by omega)]
    rw [← hj]
    have hm : (i * 6 + j) % 6 = j := by omega
    show some ((#[.int .i64 0, .string ⟨#[]⟩, .int .i64 0, .slice none 0 0, .slice none 0 0, .slice none 0 0] : Array Value)[(i * 6 + j) % 6]!) = _
    rw [hm]
    match j, hj6 with
    | 0, _ => rfl
    | 1, _ => rfl
    | 2, _ => rfl
    | 3, _ => rfl
    | 4, _ => rfl
    | 5, _ => rfl

set_option maxRecDepth 100000 in
set_option maxHeartbeats 4000000 in
theorem rfind_any (n m B : Nat) (w : World) (names : List ByteArray) (want have_ : List Ty) (An : Option Addr) (cn : Nat) (Aw : Option Addr) (cw : Nat) (Ah : Option Addr) (ch : Nat) (hB : B ≤ w.heap.size)
    (hN : StrsR B w (.slice An names.length cn) names) (hnl : names.length ≤ 1048576) (hW : TysR n B w (.slice Aw want.length cw) want) (hwl : want.length ≤ 1048576) (hH : TysR m B w (.slice Ah have_.length ch) have_) (hhl : have_.length ≤ 1048576) :
    Calls Tryd.prog 6 #[.slice An names.length cn, .slice Aw want.length cw, .slice Ah have_.length ch] w (RFindRes n m names want have_ An cn w) := by
  have HP := Lib.hid (And.intro hB (And.intro hN (And.intro hW hH)))
  clear hB hN hW hH
  go_enter Tryd.func6, Tryd.ntmps6
  go_wp2_with fail
  go_loopw [9] (fun i wr => allRel want w i wr) (fun i _ => want.length - (intOf i).toNat)
  case atStart => exact ⟨0, Nat.zero_le _, rfl, by simp, Chg.refl _ _⟩
  case round =>
    obtain ⟨k, hk, rfl, hs, hch⟩ := hrel
    have q3 : IntKind.i64.wrap ((k : Int) + 1) = (k : Int) + 1 := IntWalk.i64_in _ ⟨by omega, by omega⟩
    by_cases hlt : k < want.length
    · have q1 : decide (k < want.length) = true := decide_eq_true hlt
      have q2 : (k : Int) < (want.length : Int) := by omega
      have hcw := hch
      obtain ⟨bb, oo, x, Xf, xf, Xl, xl, Xr, xr, rfl, hkx, hRx, z0, z1, z2, z3, z4, z5⟩ := TysR.at_ (TysR.keep0 hcw HP.out.2.2.1) hlt
      have hcall := rsound_any n B wr x Xf xf Xl xl Xr xr (Nat.le_trans HP.out.1 hcw.size) hRx
      have HK := Lib.hid (And.intro hs (And.intro hch (And.intro hkx hcw)))
      clear hs hch hkx hRx hcw
      cases he : soundT x with
      | true =>
        rw [he] at hcall
        have HE := Lib.hid he
        clear he
        go_wp2_with fail
        refine hcall.mono fun e w5 h => ?_
        obtain ⟨rfl, hc5⟩ := h
        clear hcall
        go_wp2_with fail
        go_roundw
        case rel =>
          obtain ⟨h1, h2⟩ := List.getElem?_eq_some_iff.1 HK.out.2.2.1
          refine ⟨k + 1, hlt, by simp, ?_, HK.out.2.1.trans hc5⟩
          rw [List.take_succ_eq_append_getElem h1, h2, List.all_append, HK.out.1]
          simp [HE.out]
        case measure => simp [intOf]; omega
      | false =>
        rw [he] at hcall
        have HE := Lib.hid he
        clear he
        go_wp2_with fail
        refine hcall.mono fun e w5 h => ?_
        obtain ⟨rfl, hc5⟩ := h
        clear hcall
        go_wp2_with fail
        go_ret3
        exact ⟨HK.out.2.2.2.trans hc5, .inl ⟨by rw [List.all_append]; simp only [all_bad HK.out.2.2.1 HE.out, Bool.false_and, Bool.and_false], rfl⟩⟩
    · have q1 : decide (k < want.length) = false := decide_eq_false hlt
      obtain rfl : k = want.length := by omega
      rw [List.take_length] at hs
      have HS := Lib.hid (And.intro hs hch)
      rename World => w2
      clear hs hch q1 q3 hk hlt
      go_wp2_with fail
      go_loopw [10] (fun i wr => allRel have_ w2 i wr) (fun i _ => have_.length - (intOf i).toNat)
      case atStart => exact ⟨0, Nat.zero_le _, rfl, by simp, Chg.refl _ _⟩
      case round =>
        obtain ⟨k, hk, rfl, hs, hch⟩ := hrel
        have q3 : IntKind.i64.wrap ((k : Int) + 1) = (k : Int) + 1 := IntWalk.i64_in _ ⟨by omega, by omega⟩
        by_cases hlt : k < have_.length
        · have q1 : decide (k < have_.length) = true := decide_eq_true hlt
          have q2 : (k : Int) < (have_.length : Int) := by omega
          have hcw := HS.out.2.trans hch
          obtain ⟨bb, oo, x, Xf, xf, Xl, xl, Xr, xr, rfl, hkx, hRx, z0, z1, z2, z3, z4, z5⟩ := TysR.at_ (TysR.keep0 hcw HP.out.2.2.2) hlt
          have hcall := rsound_any m B wr x Xf xf Xl xl Xr xr (Nat.le_trans HP.out.1 hcw.size) hRx
          have HK := Lib.hid (And.intro hs (And.intro hch (And.intro hkx hcw)))
          clear hs hch hkx hRx hcw
          cases he : soundT x with
          | true =>
            rw [he] at hcall
            have HE := Lib.hid he
            clear he
            go_wp2_with fail
            refine hcall.mono fun e w5 h => ?_
            obtain ⟨rfl, hc5⟩ := h
            clear hcall
            go_wp2_with fail
            go_roundw
            case rel =>
              obtain ⟨h1, h2⟩ := List.getElem?_eq_some_iff.1 HK.out.2.2.1
              refine ⟨k + 1, hlt, by simp, ?_, HK.out.2.1.trans hc5⟩
              rw [List.take_succ_eq_append_getElem h1, h2, List.all_append, HK.out.1]
              simp [HE.out]
            case measure => simp [intOf]; omega
          | false =>
            rw [he] at hcall
            have HE := Lib.hid he
            clear he
            go_wp2_with fail
            refine hcall.mono fun e w5 h => ?_
            obtain ⟨rfl, hc5⟩ := h
            clear hcall
            go_wp2_with fail
            go_ret3
            exact ⟨HK.out.2.2.2.trans hc5, .inl ⟨by rw [List.all_append]; simp only [all_bad HK.out.2.2.1 HE.out, Bool.false_and, Bool.and_false], rfl⟩⟩
        · have q1 : decide (k < have_.length) = false := decide_eq_false hlt
          obtain rfl : k = have_.length := by omega
          rw [List.take_length] at hs
          have HS2 := Lib.hid (And.intro (show (want ++ have_).all soundT = true by rw [List.all_append, HS.out.1, hs]; rfl) (HS.out.2.trans hch))
          rename World => w3
          clear hs hch q1 q3
          have hcall := twice_any B w3 names An cn (SlR.keep HP.out.2.1 HS2.out.2 (no_lets _ _) fun _ _ h => h) hnl
          go_wp2_with fail
          refine hcall.mono fun e w4 h => ?_
          obtain ⟨b, rfl, hb, hc4⟩ := h
          clear hcall
          have hcw := HS2.out.2.trans hc4
          cases b with
          | true =>
            have hnn : ¬ names.Nodup := hb.1 rfl
            have HT := Lib.hid (And.intro hnn hcw)
            clear hb hcw hc4 hnn
            go_wp2_with fail
            go_ret3
            exact ⟨HT.out.2, .inr (.inl ⟨HS2.out.1, fun h => HT.out.1 h.1, rfl⟩)⟩
          | false =>
            have hnd : names.Nodup := Classical.byContradiction fun h => absurd (hb.2 h) (by decide)
            by_cases hl : want.length = have_.length
            · have s1 : ((want.length : Int) != (have_.length : Int)) = false := by simp [hl]
              have s2 : (want.length != have_.length) = false := by simp [hl]
              have HT := Lib.hid (And.intro hnd (And.intro hl hcw))
              clear hb hcw hc4 hl hnd
              go_wp2_with fail
              refine wp_region_facts [(0, 46), (1, 47), (2, 48), (3, 49), (4, 50), (5, 51), (6, 52), (7, 53), (8, 54), (9, 11)] [] (fndF names.length (.slice An names.length cn) w4.heap.size) (by kernel_rfl) (by kernel_rfl) (fndF_dep (by kernel_rfl) (by kernel_rfl) (by kernel_rfl) (by kernel_rfl) (by kernel_rfl)) fndF_mono (ops_cons (OpF.run rfl rfl fun q w H => ⟨_, w, exec_move (.tmp 0), H.same 0 (by kernel_rfl), Chg.refl _ _⟩) (ops_cons (OpF.run rfl rfl fun q w H => ⟨_, w, exec_move (.tmp 0), H.same 0 (by kernel_rfl), Chg.refl _ _⟩) (ops_cons (OpF.run rfl rfl fun q w H => by
              obtain ⟨r1, h1⟩ := H.fact 1 (by kernel_rfl)
              have h1 := fact_at (p := fun v => v = .slice An names.length cn) (k := 1) (d := 47) h1 (by kernel_rfl)
              exact ⟨_, w, exec_lenS (.tmp 47) h1, rfl, Chg.refl _ _⟩) (ops_cons (OpF.run rfl rfl fun q w H => by
              obtain ⟨r2, h2⟩ := H.fact 2 (by kernel_rfl)
              have h2 := fact_at (p := fun v => v = .int .i64 names.length) (k := 2) (d := 48) h2 (by kernel_rfl)
              exact ⟨_, _, exec_mkT (.tmp 48) (.tmp 48) h2 h2 hnl, ⟨_, rfl, H.chg.size, Blk.new _ _ _⟩, chg_alloc _ _⟩) (ops_cons (OpF.run rfl rfl fun q w H => ⟨_, w, exec_move (.tmp 0), H.same 0 (by kernel_rfl), Chg.refl _ _⟩) (ops_cons (OpF.run rfl rfl fun q w H => by
              obtain ⟨r4, h4⟩ := H.fact 4 (by kernel_rfl)
              have h4 := fact_at (p := fun v => v = .slice An names.length cn) (k := 4) (d := 50) h4 (by kernel_rfl)
              exact ⟨_, w, exec_lenS (.tmp 50) h4, rfl, Chg.refl _ _⟩) (ops_cons (OpF.run rfl rfl fun q w H => by
              obtain ⟨r5, h5⟩ := H.fact 5 (by kernel_rfl)
              have h5 := fact_at (p := fun v => v = .int .i64 names.length) (k := 5) (d := 51) h5 (by kernel_rfl)
              exact ⟨_, _, exec_mkB (.tmp 51) (.tmp 51) h5 h5 hnl, ⟨_, rfl, H.chg.size, Blk.new _ _ _⟩, chg_alloc _ _⟩) (ops_cons (OpF.run rfl rfl fun q w H => by
              have h0 := H.val (k := 0) (d := 46) (by kernel_rfl)
              have h3 := H.val (k := 3) (d := 49) (by kernel_rfl)
              have h6 := H.val (k := 6) (d := 52) (by kernel_rfl)
              obtain ⟨r0, f0⟩ := H.fact 0 (by kernel_rfl)
              obtain ⟨r3, q3, f3, _⟩ := H.fact 3 (by kernel_rfl)
              obtain ⟨r6, q6, f6, _⟩ := H.fact 6 (by kernel_rfl)
              exact ⟨_, w, exec_build3 (.tmp 46) (.tmp 49) (.tmp 52) (h0.trans f0) (h3.trans f3) (h6.trans f6), congrArg Value.agg (arr3 f0 f3 f6), Chg.refl _ _⟩) (ops_cons (OpF.run rfl rfl fun q w H => by
              obtain ⟨r7, h7⟩ := H.fact 7 (by kernel_rfl)
              have hv := H.val (k := 7) (d := 53) (by kernel_rfl)
              exact ⟨_, _, exec_box3 (.tmp 53) (hv.trans h7), ⟨_, _, rfl, h7, Blk.new _ _ _⟩, chg_alloc _ _⟩) (ops_cons (OpF.run rfl rfl fun q w H => ⟨_, w, exec_assign (.tmp 54), H.val (k := 8) (d := 54) (by kernel_rfl), Chg.refl _ _⟩) (ops_nil))))))))))) ?_
              intro p v r W7 hv _ _ hcw
              obtain ⟨q3, e3, hq3, hb3⟩ := hv (3, 49) (by simp)
              obtain ⟨q6, e6, hq6, hb6⟩ := hv (6, 52) (by simp)
              obtain ⟨gB, cs, e8, e7, hb8⟩ := hv (8, 54) (by simp)
              have e9 : v 9 = v 8 := hv (9, 11) (by simp)
              have e0 : v 0 = .slice An names.length cn := hv (0, 46) (by simp)
              have e7' : v 7 = .agg #[v 0, v 3, v 6] := hv (7, 53) (by simp)
              rw [e7', e0, e3, e6] at e7
              injection e7 with e7
              subst e7
              have hBd := BndR.fresh (m := m) (B := w.heap.size) hb8 (SlR.imp (SlR.keep HP.out.2.1 (HT.out.2.2.trans hcw.drewl) (no_lets _ _) fun _ _ h => h) (fun b _ hl => hl.imp (fun h => Nat.lt_of_lt_of_le h HP.out.1) id) fun _ _ h => h) hb3 hb6
              have HF := Lib.hid (And.intro hBd (And.intro (HT.out.2.2.trans hcw.drewl) (And.intro (Nat.le_trans HT.out.2.2.size hq3) (Nat.le_trans HT.out.2.2.size hq6))))
              clear hv hcw hBd hb8 hb3 hb6 hq3 hq6
              simp only [List.filter_nil, List.append_nil, putL, Act.put, List.setIfInBounds_toArray, List.set_cons_zero, List.set_cons_succ]
              refine ⟨by kernel_rfl, ?_⟩
              rw [e9, e8]
              clear e0 e3 e6 e7' e8 e9
              go_wp2_with fail
              go_loopw [12] (fun i wr => rmRel2 n m w.heap.size gB q3 q6 names An cn names.length names.length (noNm want) (noNm have_) (fun _ => none) W7 i wr) (fun i _ => want.length - (intOf i).toNat)
              case atStart => exact ⟨0, Nat.zero_le _, rfl, ⟨_, by simp [matchL], HF.out.1⟩, Chg.refl _ _⟩
              case round =>
                obtain ⟨k, hk, rfl, ⟨g, hg, hMg⟩, hch⟩ := hrel
                rw [noNm_len] at hk
                have q3' : IntKind.i64.wrap ((k : Int) + 1) = (k : Int) + 1 := IntWalk.i64_in _ ⟨by omega, by omega⟩
                have hle := HP.out.1
                have hl3 := mq_lets (B := B) (Nat.le_trans hle HF.out.2.2.1) (Nat.le_trans hle HF.out.2.2.2)
                have hcw := HF.out.2.1.toMq.trans hch
                by_cases hlt : k < want.length
                · have q1 : decide (k < want.length) = true := decide_eq_true hlt
                  have q2 : (k : Int) < (want.length : Int) := by omega
                  have hlth : k < have_.length := by have := HT.out.2.1; omega
                  have q2h : (k : Int) < (have_.length : Int) := by omega
                  obtain ⟨bb, oo, x, Xf, xf, Xl, xl, Xr, xr, rfl, hkx, hRx, z0, z1, z2, z3, z4, z5⟩ := TysR.at_ (SlR.keep HP.out.2.2.1 hcw hl3.lets fun _ _ h => TyR.keep hcw hl3 h) hlt
                  obtain ⟨bb', oo', y, Yf, yf, Yl, yl, Yr, yr, rfl, hky, hRy, v0, v1, v2, v3, v4, v5⟩ := TysR.at_ (SlR.keep HP.out.2.2.2 hcw hl3.lets fun _ _ h => TyR.keep hcw hl3 h) hlth
                  have hdr := (Chg.refl (fun _ _ => False) wr).drew
                  have hcall := rmatch_any (m := m) (B := w.heap.size) HF.out.2.2.1 HF.out.2.2.2 hnl HT.out.1 n wr.drew x y Xf xf Xl xl Xr xr Yf yf Yl yl Yr yr g (hcw.trans hdr.toMq).size (hMg.keep hdr) (TyR.more HP.out.1 (TyR.keep0 hdr hRx)) (TyR.more HP.out.1 (TyR.keep0 hdr hRy))
                  have hstep := (matchL_take hg (noNm_get hkx) (noNm_get hky)).trans (stepM_bare _ _ _ _ _)
                  have HK := Lib.hid (And.intro hstep (And.intro (hch.trans hdr.toMq) (And.intro hkx (And.intro hky hg))))
                  clear hstep hch hkx hky hg hMg hRx hRy hdr hcw hl3 hle
                  go_wp2_with fail
                  refine wp_region_still_tail 9 (by kernel_rfl) (by kernel_rfl) ?_
                  simp only [List.take_succ_cons, List.take_zero, List.drop_succ_cons, List.drop_zero]
                  repeat (with_reducible refine wpStill_step (fun K hK => ?_); go_simp; with_reducible refine hK _ ?_; clear hK K)
                  try with_reducible refine wpStill_nil ?_
                  clear z0 z1 z2 z3 z4 z5 v0 v1 v2 v3 v4 v5
                  change wpList _ _ _ _ _ wr.drew
                  generalize wr.drew = w6 at hcall HK ⊢
                  generalize hrr : matchT names n x y g = rr at hcall
                  have HRR := Lib.hid hrr
                  clear hrr
                  go_wp2_with fail
                  refine hcall.mono fun e w7 h => ?_
                  obtain ⟨rfl, hm7, hc7⟩ := h
                  clear hcall
                  cases rr with
                  | some g' =>
                    have HM7 := Lib.hid (hm7 g' rfl)
                    clear hm7
                    go_wp2_with fail
                    go_roundw
                    case rel => exact ⟨k + 1, by rw [noNm_len]; exact hlt, by simp, ⟨g', HK.out.1.trans HRR.out, HM7.out⟩, HK.out.2.1.trans hc7⟩
                    case measure => simp [intOf]; omega
                  | none =>
                    clear hm7
                    go_wp2_with fail
                    go_ret3
                    exact ⟨HF.out.2.1.trans_new (HK.out.2.1.trans hc7) fun b t hb h => by rcases h with h | h <;> (have h1 := h.1; have h2 := HF.out.2.2; omega), .inr (.inr ⟨HS2.out.1, ⟨HT.out.1, HT.out.2.1⟩, .inl ⟨k, g, x, y, HK.out.2.2.1, HK.out.2.2.2.1, HK.out.2.2.2.2, HRR.out, rfl⟩⟩)⟩
                · have q1 : decide (k < want.length) = false := decide_eq_false hlt
                  obtain rfl : k = want.length := by omega
                  have hall : matchL (matchT names n) (noNm want) (noNm have_) (fun _ => none) = some g := by
                    rw [← hg, List.take_of_length_le (by rw [noNm_len]; exact Nat.le_refl _), List.take_of_length_le (by rw [noNm_len]; have := HT.out.2.1; omega)]
                  have HK := Lib.hid (And.intro hall (And.intro hMg hch))
                  clear hall hMg hch hg hcw hl3 hle
                  go_wp2_with fail
                  go_ret3
                  exact ⟨HF.out.2.1.trans_new HK.out.2.2 fun b t hb h => by rcases h with h | h <;> (have h1 := h.1; have h2 := HF.out.2.2; omega), .inr (.inr ⟨HS2.out.1, ⟨HT.out.1, HT.out.2.1⟩, .inr ⟨gB, q3, q6, g, HK.out.1, rfl, HK.out.2.1⟩⟩)⟩
            · have s1 : ((want.length : Int) != (have_.length : Int)) = true := by simp only [bne_iff_ne, ne_eq]; omega
              have s2 : (want.length != have_.length) = true := by simp only [bne_iff_ne, ne_eq]; omega
              have HT := Lib.hid (And.intro hl hcw)
              clear hb hcw hc4 hl hnd
              go_wp2_with fail
              go_ret3
              exact ⟨HT.out.2, .inr (.inl ⟨HS2.out.1, fun h => HT.out.1 h.2, rfl⟩)⟩
end Go.Proofs.YtlbcaiohjghclaaDoor
