/-
  types.Params: the names of parameters in a type.
-/
import Derived.Test.YtgemacdnncjmdaaDoorHoles
import Derived.Test.YtgemacdnncjmdaaDoorTPartsR
import Derived.Test.YtgemacdnncjmdaaDoorTFactsA
namespace Go.Proofs.YtgemacdnncjmdaaDoor
open Go.RowKit
set_option linter.unusedVariables false
set_option linter.unusedSimpArgs false

set_option maxRecDepth 100000 in
set_option maxHeartbeats 1000000 in
theorem idxP_any (B : Nat) (w : World) (l : List ByteArray) (s : ByteArray) (A : Option Addr) (c : Nat) (hl : StrsR B w (.slice A l.length c) l) (hl20 : l.length ≤ 549755813888) :
    Calls Tryd.prog 68 #[.slice A l.length c, .string s] w fun e w' => ∃ r : Int, e = .returned (.int .i64 r) ∧ (0 ≤ r ↔ s ∈ l) ∧ Chg (fun _ _ => False) w w' := by
  have HP := Lib.hid hl
  clear hl
  go_enter Tryd.func68, Tryd.ntmps68
  go_wp2_with fail
  go_loopw [5, 8] (fun _ i wr => hasRel l s w i wr) (fun _ i _ => l.length - (intOf i).toNat)
  case atStart => exact ⟨0, Nat.zero_le _, rfl, by simp, Chg.refl _ _⟩
  case round =>
    obtain ⟨k, hk, rfl, hn, hch⟩ := hrel
    have q3 : IntKind.i64.wrap ((k : Int) + 1) = (k : Int) + 1 := IntWalk.i64_in _ ⟨by omega, by omega⟩
    by_cases hlt : k < l.length
    · have q1 : decide (k < l.length) = true := decide_eq_true hlt
      have q2 : (k : Int) < (l.length : Int) := by omega
      obtain ⟨b, o, x, cs, rfl, hkx, _, ⟨rfl, hxs⟩, hcell⟩ := SlR.at2 (SlR.keep HP.out hch (no_lets _ _) fun _ _ h => h) hlt
      have z0 : wr.cell? ⟨b, o + k, none⟩ = some (.string x) := by simpa using hcell 0 _ rfl
      by_cases hxs' : s = x
      · have q5 := str_eq hxs'
        have HX := Lib.hid (And.intro hxs' (And.intro hkx hch))
        clear hxs' hkx hch hn hcell hxs
        go_wp2_with fail
        go_ret
        exact ⟨k, rfl, ⟨fun _ => HX.out.1 ▸ List.mem_of_getElem? HX.out.2.1, fun _ => by omega⟩, HX.out.2.2⟩
      · have q5 := str_ne hxs'
        have HX := Lib.hid (And.intro hxs' (And.intro hkx (And.intro hch hn)))
        clear hxs' hkx hch hn hcell hxs
        go_wp2_with fail
        go_roundw
        case rel =>
          obtain ⟨hne, hkx, hch, hn⟩ := HX.out
          obtain ⟨h1, h2⟩ := List.getElem?_eq_some_iff.1 hkx
          refine ⟨k + 1, hlt, by simp, ?_, hch⟩
          rw [List.take_succ_eq_append_getElem h1, h2, List.mem_append, List.mem_singleton]
          exact fun h => h.elim hn fun h => hne h
        case measure => simp [intOf]; omega
    · have q1 : decide (k < l.length) = false := decide_eq_false hlt
      obtain rfl : k = l.length := by omega
      rw [List.take_length] at hn
      have HX := Lib.hid (And.intro hn hch)
      clear hn hch
      go_wp2_with fail
      go_ret
      exact ⟨-1, rfl, ⟨fun h => absurd h (by decide), fun h => absurd h HX.out.1⟩, HX.out.2⟩
set_option maxRecDepth 100000 in
set_option maxHeartbeats 1000000 in
theorem contP_any (B : Nat) (w : World) (l : List ByteArray) (s : ByteArray) (A : Option Addr) (c : Nat) (hl : StrsR B w (.slice A l.length c) l) (hl20 : l.length ≤ 549755813888) :
    Calls Tryd.prog 48 #[.slice A l.length c, .string s] w fun e w' => ∃ r : Bool, e = .returned (.bool r) ∧ (r = true ↔ s ∈ l) ∧ Chg (fun _ _ => False) w w' := by
  have hcall := idxP_any B w l s A c hl hl20
  clear hl
  go_enter Tryd.func48, Tryd.ntmps48
  go_wp2_with fail
  refine hcall.mono fun e w5 h => ?_
  obtain ⟨r, rfl, hr, hc5⟩ := h
  have HR := Lib.hid hr
  clear hcall hr
  go_wp2_with fail
  go_ret
  exact ⟨_, rfl, by rw [← HR.out]; simp, hc5⟩

/-- What a look may turn. -/
def MP (B gL : Nat) : Nat → Nat → Prop := fun b t => (b = gL ∧ t = 22) ∨ (B ≤ b ∧ t = 9)
theorem mp_type (B gL b : Nat) : ¬ MP B gL b 33 := fun h => by rcases h with h | h <;> exact absurd h.2 (by decide)
theorem mp_lets {B gL : Nat} (h1 : B ≤ gL) : LetsM (MP B gL) B := fun b t hb h => by rcases h with h | h <;> (have := h.1; omega)
theorem Chg.toMP {B gL : Nat} {w w' : World} (h : Chg (fun _ _ => False) w w') : Chg (MP B gL) w w' := h.mono fun _ _ _ h => h.elim
/-- The names so far in a row of their own, and the closure that looks. -/
def PaS (B gL gF : Nat) (acc : List ByteArray) (w : World) : Prop := Blk w gF 79 #[.func (.func 47) #[] #[.pointer (some ⟨gL, 0, none⟩), .pointer (some ⟨gF, 0, none⟩)]] ∧ ∃ A c, Blk w gL 22 #[.slice A acc.length c] ∧ RowR B 9 1 StrV w A c acc
theorem PaS.keep0 {B gL gF : Nat} {acc : List ByteArray} {w w' : World} (h : PaS B gL gF acc w) (hc : Chg (fun _ _ => False) w w') : PaS B gL gF acc w' := by
  obtain ⟨h1, A, c, h4, h5⟩ := h
  exact ⟨hc.blk h1 id, A, c, hc.blk h4 id, h5.keep hc (fun _ _ h => h) fun cs x h => h⟩
theorem PaS.fn {B gL gF : Nat} {acc : List ByteArray} {w : World} (h : PaS B gL gF acc w) : w.cell? ⟨gF, 0, none⟩ = some (.func (.func 47) #[] #[.pointer (some ⟨gL, 0, none⟩), .pointer (some ⟨gF, 0, none⟩)]) := by simpa using h.1.cell 0
def ParC (n : Nat) : Prop := ∀ (f B gL gF : Nat) (w : World) (t : Ty) (Af : Option Addr) (cf : Nat) (Al : Option Addr) (cl : Nat) (Ar : Option Addr) (cr : Nat) (acc : List ByteArray), (lookT f t).isSome = true → acc.length + nodesB f ≤ 549755813888 → B ≤ w.heap.size → B ≤ gL → TyR n B w (tyCells t.kind t.name t.con Af t.fields.length cf Al t.list.length cl Ar t.res.length cr) t → PaS B gL gF acc w →
  Calls Tryd.prog 47 #[.agg #[.int .i64 t.kind, .string t.name, .int .i64 t.con, .slice Af t.fields.length cf, .slice Al t.list.length cl, .slice Ar t.res.length cr], .pointer (some ⟨gL, 0, none⟩), .pointer (some ⟨gF, 0, none⟩)] w fun e w' => e = .returned (.tuple #[]) ∧ PaS B gL gF (holesT n t acc) w' ∧ Chg (MP B gL) w w'
def paRel (B gL gF n : Nat) (ts : List Ty) (acc : List ByteArray) (W : World) (i : Value) (wr : World) : Prop :=
  ∃ k : Nat, k ≤ ts.length ∧ i = .int .i64 k ∧ PaS B gL gF ((ts.take k).foldl (fun l x => holesT n x l) acc) wr ∧ Chg (MP B gL) W wr
set_option maxRecDepth 100000 in
set_option maxHeartbeats 8000000 in
theorem params_step (n : Nat) (IH : ParC n) : ParC (n + 1) := by
  intro f B gL gF w t Af cf Al cl Ar cr acc hlk hln hB hL hT hS
  obtain ⟨i9, hi9, hz9, hs9, hb9⟩ := info_parts infoStr
  cases f with
  | zero => rw [lookT] at hlk; cases hlk
  | succ f =>
  obtain ⟨hsh, hin⟩ := look_shape hlk
  have hil := shape_inner hsh
  have hnm := hT.small.2.2.1
  have hb1 := Blk.new w 33 #[.int .i64 t.kind, .string t.name, .int .i64 t.con, .slice Af t.fields.length cf, .slice Al t.list.length cl, .slice Ar t.res.length cr]
  have hc1 := chg_alloc w (.cells #[.int .i64 t.kind, .string t.name, .int .i64 t.con, .slice Af t.fields.length cf, .slice Al t.list.length cl, .slice Ar t.res.length cr] 33)
  have hS1 := hS.keep0 hc1
  have hT1 := TyR.keep0 hc1 hT
  rw [nodesB] at hln
  obtain ⟨A0, c0, hbL, hrL⟩ := hS1.2
  have hcont := contP_any _ (w.alloc (.cells #[.int .i64 t.kind, .string t.name, .int .i64 t.con, .slice Af t.fields.length cf, .slice Al t.list.length cl, .slice Ar t.res.length cr] 33)) acc t.name A0 c0 (hrL.settleT (by decide) fun _ _ h => h) (by omega)
  have l0 : (w.alloc (.cells #[.int .i64 t.kind, .string t.name, .int .i64 t.con, .slice Af t.fields.length cf, .slice Al t.list.length cl, .slice Ar t.res.length cr] 33)).cell? ⟨gL, 0, none⟩ = some (.slice A0 acc.length c0) := by simpa using hbL.cell 0
  have HP := Lib.hid (And.intro hB (And.intro hL (And.intro IH hin)))
  have HT := Lib.hid (And.intro hT1 (And.intro hc1 (And.intro hb1 (And.intro hS1 (And.intro hbL hrL)))))
  have hlen : acc.length ≤ 549755813887 := by omega
  obtain ⟨y0, y1, y2, y3, y4, y5⟩ := hb1.cells6
  clear hsh hin hlk hB hL IH hT hS hS1 hT1 hbL hrL hb1 hc1
  by_cases hk : t.kind = 12
  · have q12 : (t.kind == 12) = true := by simp [hk]
    have HK := Lib.hid hk
    clear hk
    go_enter Tryd.func47, Tryd.ntmps47
    go_wp2_with fail
    generalize w.alloc (.cells #[.int .i64 t.kind, .string t.name, .int .i64 t.con, .slice Af t.fields.length cf, .slice Al t.list.length cl, .slice Ar t.res.length cr] 33) = W at hcont HT l0 y0 y1 y2 y3 y4 y5 ⊢
    generalize w.heap.size = g2 at HT y0 y1 y2 y3 y4 y5 ⊢
    refine hcont.mono fun e Wk h => ?_
    obtain ⟨b, rfl, hb, hck⟩ := h
    clear hcont q12 l0 y0 y1 y2 y3 y4 y5
    have hbk := hck.blk HT.out.2.2.1 id
    have hBk : B ≤ Wk.heap.size := Nat.le_trans HP.out.1 (Nat.le_trans HT.out.2.1.size hck.size)
    cases b with
    | true =>
      have hmem := hb.1 rfl
      have HL := Lib.hid (show acc = (if t.kind = 12 then addT acc t.name else acc) by rw [if_pos HK.out]; exact (addT_in hmem).symm)
      have HW := Lib.hid (And.intro (HT.out.2.2.2.1.keep0 hck) (And.intro hbk (And.intro ((HT.out.2.1.trans hck).toMP (B := B) (gL := gL)) (And.intro (TyR.keep0 hck HT.out.1) hBk))))
      obtain ⟨y0, y1, y2, y3, y4, y5⟩ := hbk.cells6
      clear hmem hb hck hbk hBk HT
      have hpt := partsR_any n B (Wk) t Af cf Al cl Ar cr HW.out.2.2.2.2 HW.out.2.2.2.1
      go_wp2_with fail
      refine hpt.mono fun e w2 h => ?_
      obtain ⟨A2, c2, rfl, hr2, hc2⟩ := h
      clear hpt y0 y1 y2 y3 y4 y5
      try clear l7 fz
      have H2 := Lib.hid (And.intro hr2 (And.intro (HW.out.1.keep0 hc2) (And.intro (HW.out.2.2.1.trans hc2.toMP) (And.intro (TyR.keep0 hc2 HW.out.2.2.2.1) (Nat.le_trans HW.out.2.2.2.2 hc2.size)))))
      clear hr2 hc2
      go_wp2_with fail
      go_loopw [24] (fun i wr => paRel B gL gF n t.inner acc w2 i wr) (fun i _ => t.inner.length - (intOf i).toNat)
      case atStart => exact ⟨0, Nat.zero_le _, rfl, by simpa using H2.out.2.1, Chg.refl _ _⟩
      case round =>
        obtain ⟨k, hk, rfl, hS, hch⟩ := hrel
        have q3 : IntKind.i64.wrap ((k : Int) + 1) = (k : Int) + 1 := IntWalk.i64_in _ ⟨by omega, by omega⟩
        by_cases hlt : k < t.inner.length
        · have q1 : decide (k < t.inner.length) = true := decide_eq_true hlt
          have q2 : (k : Int) < (t.inner.length : Int) := by omega
          have hlm := mp_lets HP.out.2.1
          obtain ⟨b, o, x, Xf, xf, Xl, xl, Xr, xr, rfl, hkx, hRx, z0, z1, z2, z3, z4, z5⟩ := row_at ((H2.out.1.keep hch (fun b _ => mp_type _ _ b) fun cs x h => TyR.keep hch hlm h).settleT (by decide) fun _ _ h => h) hlt
          have hlx := HP.out.2.2.2 x (List.mem_of_getElem? hkx)
          have hfl := fold_len (n := n) HP.out.2.2.2 (k := k) acc
          have hl0 : acc.length ≤ acc.length + 1 := by omega
          have hmul : (min k t.inner.length + 1) * nodesB f ≤ 17 * nodesB f := Nat.mul_le_mul_right _ (by omega)
          rw [Nat.add_mul, Nat.one_mul] at hmul
          have hca := chg_alloc wr (.cells #[.int .i64 x.kind, .string x.name, .int .i64 x.con, .slice Xf x.fields.length xf, .slice Xl x.list.length xl, .slice Xr x.res.length xr] 33)
          have hS' := hS.keep0 hca
          have f0 := hS'.fn
          have hcall := HP.out.2.2.1 f B gL gF (wr.alloc (.cells #[.int .i64 x.kind, .string x.name, .int .i64 x.con, .slice Xf x.fields.length xf, .slice Xl x.list.length xl, .slice Xr x.res.length xr] 33)) x Xf xf Xl xl Xr xr ((t.inner.take k).foldl (fun l x => holesT n x l) acc) hlx (by omega) (Nat.le_trans H2.out.2.2.2.2 (Nat.le_trans hch.size hca.size)) HP.out.2.1 (TyR.keep0 hca hRx) hS'
          have HK := Lib.hid (And.intro (hch.trans hca.toMP) hkx)
          clear hS hS' hch hkx hRx hca hlx hfl hl0 hmul hlm
          go_wp2_with fail
          refine hcall.mono fun e w8 h => ?_
          obtain ⟨rfl, hS8, hc8⟩ := h
          have htk : (t.inner.take (k + 1)).foldl (fun l x => holesT n x l) acc = holesT n x ((t.inner.take k).foldl (fun l x => holesT n x l) acc) := by
            obtain ⟨h1, h2⟩ := List.getElem?_eq_some_iff.1 HK.out.2
            rw [List.take_succ_eq_append_getElem h1, h2, List.foldl_append]
            rfl
          clear hcall f0
          have HZ := Lib.hid (show paRel B gL gF n t.inner acc w2 (.int .i64 ((k : Int) + 1)) w8 from ⟨k + 1, hlt, by simp, by rw [htk]; exact hS8, HK.out.1.trans hc8⟩)
          clear hS8 hc8 htk z0 z1 z2 z3 z4 z5
          go_wp2_with fail
          go_roundw
          case rel => exact HZ.out
          case measure => simp [intOf]; omega
        · have q1 : decide (k < t.inner.length) = false := decide_eq_false hlt
          obtain rfl : k = t.inner.length := by omega
          rw [List.take_length] at hS
          have hfin : holesT (n + 1) t acc = t.inner.foldl (fun l x => holesT n x l) acc := by rw [holesT, ← HL.out]
          have HZ := Lib.hid (And.intro hS (H2.out.2.2.1.trans hch))
          have HFN := Lib.hid hfin
          clear hS hch hfin
          go_wp2_with fail
          go_end0
          refine ⟨rfl, ?_, HZ.out.2⟩
          rw [HFN.out]
          exact HZ.out.1
    | false =>
      have hmem : t.name ∉ acc := fun h => absurd (hb.2 h) (by decide)
      have HL := Lib.hid (show (acc ++ [t.name]) = (if t.kind = 12 then addT acc t.name else acc) by rw [if_pos HK.out]; exact (addT_out hmem).symm)
      have hbLk := hck.blk HT.out.2.2.2.2.1 id
      have l0 : Wk.cell? ⟨gL, 0, none⟩ = some (.slice A0 acc.length c0) := by simpa using hbLk.cell 0
      obtain ⟨y0, y1, y2, y3, y4, y5⟩ := hbk.cells6
      have hrk := HT.out.2.2.2.2.2.keep hck (fun _ _ h => h) fun _ _ h => h
      have HA := Lib.hid (And.intro hck (And.intro hbLk (And.intro hrk hbk)))
      clear hmem hb hck hbk hbLk hrk
      go_wp2_with (at_builtin; go_must (refine wpList_push rfl (.tmp 16) (.tmp 19) 22 rfl B 9 i9 _ 1 16 Tryd.underlying22 hi9 hz9 hs9 hb9 rfl (by omega) StrV A0 c0 acc rfl (by first | rfl | simp) HA.out.2.2.1 1 [.string t.name] t.name (by first | rfl | simp) (by first | rfl | simp) rfl (by intro u hu; simp at hu; subst hu; rfl) ⟨rfl, hnm⟩ (by omega) (by omega) hBk (fun _ _ _ _ h => h) ?_))
      intro A7 c7 w7 hr7 hc7
      have hbL7 := hc7.blk HA.out.2.1 fun h => absurd h.2 (by decide)
      have l7 : w7.cell? ⟨gL, 0, none⟩ = some (.slice A0 acc.length c0) := by simpa using hbL7.cell 0
      have fz := hbL7.frozen 0
      have hset := chg_set (j := 0) hbL7 (.slice A7 (acc.length + 1) c7)
      have hb7 : Blk (w7.setCell ⟨gL, 0, none⟩ (.slice A7 (acc.length + 1) c7)) g2 33 #[.int .i64 t.kind, .string t.name, .int .i64 t.con, .slice Af t.fields.length cf, .slice Al t.list.length cl, .slice Ar t.res.length cr] := hset.blk (hc7.blk HA.out.2.2.2 fun h => absurd h.2 (by decide)) fun h => absurd h.2 (by decide)
      have hchg : Chg (MP B gL) w (w7.setCell ⟨gL, 0, none⟩ (.slice A7 (acc.length + 1) c7)) := (((HT.out.2.1.trans HA.out.1).toMP).trans_le hc7 fun b t _ h => .inr h).trans_le hset fun b t _ h => .inl h
      have hT7 := TyR.keep0 HA.out.1 HT.out.1
      have hSn : PaS B gL gF (acc ++ [t.name]) (w7.setCell ⟨gL, 0, none⟩ (.slice A7 (acc.length + 1) c7)) := by
        refine ⟨hset.blk (hc7.blk (HA.out.1.blk HT.out.2.2.2.1.1 id) fun h => absurd h.2 (by decide)) fun h => absurd h.2 (by decide), A7, c7, ?_, ?_⟩
        · rw [List.length_append]
          simpa using hbL7.set_ 0 (.slice A7 (acc.length + 1) c7)
        · exact hr7.keep1 hset (fun b _ h => absurd h.2 (by decide)) fun cs x h => h
      have hTs : TyR (n + 1) B (w7.setCell ⟨gL, 0, none⟩ (.slice A7 (acc.length + 1) c7)) (tyCells t.kind t.name t.con Af t.fields.length cf Al t.list.length cl Ar t.res.length cr) t := TyR.keep hset (fun b t hb h => by have := h.1; have := HP.out.2.1; omega) (TyR.keep hc7 (fun b t hb h => by have := h.1; omega) hT7)
      have HW := Lib.hid (And.intro hSn (And.intro hb7 (And.intro hchg (And.intro hTs (Nat.le_trans hBk (Nat.le_trans hc7.size hset.size))))))
      clear y0 y1 y2 y3 y4 y5 l0
      obtain ⟨y0, y1, y2, y3, y4, y5⟩ := hb7.cells6
      clear hSn hb7 hchg hset hbL7 hr7 hc7 hT7 hTs hBk HA HT
      have hpt := partsR_any n B (w7.setCell ⟨gL, 0, none⟩ (.slice A7 (acc.length + 1) c7)) t Af cf Al cl Ar cr HW.out.2.2.2.2 HW.out.2.2.2.1
      go_wp2_with fail
      refine hpt.mono fun e w2 h => ?_
      obtain ⟨A2, c2, rfl, hr2, hc2⟩ := h
      clear hpt y0 y1 y2 y3 y4 y5
      try clear l7 fz
      have H2 := Lib.hid (And.intro hr2 (And.intro (HW.out.1.keep0 hc2) (And.intro (HW.out.2.2.1.trans hc2.toMP) (And.intro (TyR.keep0 hc2 HW.out.2.2.2.1) (Nat.le_trans HW.out.2.2.2.2 hc2.size)))))
      clear hr2 hc2
      go_wp2_with fail
      go_loopw [24] (fun i wr => paRel B gL gF n t.inner (acc ++ [t.name]) w2 i wr) (fun i _ => t.inner.length - (intOf i).toNat)
      case atStart => exact ⟨0, Nat.zero_le _, rfl, by simpa using H2.out.2.1, Chg.refl _ _⟩
      case round =>
        obtain ⟨k, hk, rfl, hS, hch⟩ := hrel
        have q3 : IntKind.i64.wrap ((k : Int) + 1) = (k : Int) + 1 := IntWalk.i64_in _ ⟨by omega, by omega⟩
        by_cases hlt : k < t.inner.length
        · have q1 : decide (k < t.inner.length) = true := decide_eq_true hlt
          have q2 : (k : Int) < (t.inner.length : Int) := by omega
          have hlm := mp_lets HP.out.2.1
          obtain ⟨b, o, x, Xf, xf, Xl, xl, Xr, xr, rfl, hkx, hRx, z0, z1, z2, z3, z4, z5⟩ := row_at ((H2.out.1.keep hch (fun b _ => mp_type _ _ b) fun cs x h => TyR.keep hch hlm h).settleT (by decide) fun _ _ h => h) hlt
          have hlx := HP.out.2.2.2 x (List.mem_of_getElem? hkx)
          have hfl := fold_len (n := n) HP.out.2.2.2 (k := k) (acc ++ [t.name])
          have hl0 : (acc ++ [t.name]).length ≤ acc.length + 1 := by simp
          have hmul : (min k t.inner.length + 1) * nodesB f ≤ 17 * nodesB f := Nat.mul_le_mul_right _ (by omega)
          rw [Nat.add_mul, Nat.one_mul] at hmul
          have hca := chg_alloc wr (.cells #[.int .i64 x.kind, .string x.name, .int .i64 x.con, .slice Xf x.fields.length xf, .slice Xl x.list.length xl, .slice Xr x.res.length xr] 33)
          have hS' := hS.keep0 hca
          have f0 := hS'.fn
          have hcall := HP.out.2.2.1 f B gL gF (wr.alloc (.cells #[.int .i64 x.kind, .string x.name, .int .i64 x.con, .slice Xf x.fields.length xf, .slice Xl x.list.length xl, .slice Xr x.res.length xr] 33)) x Xf xf Xl xl Xr xr ((t.inner.take k).foldl (fun l x => holesT n x l) (acc ++ [t.name])) hlx (by omega) (Nat.le_trans H2.out.2.2.2.2 (Nat.le_trans hch.size hca.size)) HP.out.2.1 (TyR.keep0 hca hRx) hS'
          have HK := Lib.hid (And.intro (hch.trans hca.toMP) hkx)
          clear hS hS' hch hkx hRx hca hlx hfl hl0 hmul hlm
          go_wp2_with fail
          refine hcall.mono fun e w8 h => ?_
          obtain ⟨rfl, hS8, hc8⟩ := h
          have htk : (t.inner.take (k + 1)).foldl (fun l x => holesT n x l) (acc ++ [t.name]) = holesT n x ((t.inner.take k).foldl (fun l x => holesT n x l) (acc ++ [t.name])) := by
            obtain ⟨h1, h2⟩ := List.getElem?_eq_some_iff.1 HK.out.2
            rw [List.take_succ_eq_append_getElem h1, h2, List.foldl_append]
            rfl
          clear hcall f0
          have HZ := Lib.hid (show paRel B gL gF n t.inner (acc ++ [t.name]) w2 (.int .i64 ((k : Int) + 1)) w8 from ⟨k + 1, hlt, by simp, by rw [htk]; exact hS8, HK.out.1.trans hc8⟩)
          clear hS8 hc8 htk z0 z1 z2 z3 z4 z5
          go_wp2_with fail
          go_roundw
          case rel => exact HZ.out
          case measure => simp [intOf]; omega
        · have q1 : decide (k < t.inner.length) = false := decide_eq_false hlt
          obtain rfl : k = t.inner.length := by omega
          rw [List.take_length] at hS
          have hfin : holesT (n + 1) t acc = t.inner.foldl (fun l x => holesT n x l) (acc ++ [t.name]) := by rw [holesT, ← HL.out]
          have HZ := Lib.hid (And.intro hS (H2.out.2.2.1.trans hch))
          have HFN := Lib.hid hfin
          clear hS hch hfin
          go_wp2_with fail
          go_end0
          refine ⟨rfl, ?_, HZ.out.2⟩
          rw [HFN.out]
          exact HZ.out.1
  · have q12 : (t.kind == 12) = false := by simp [hk]
    have HK := Lib.hid hk
    have HL := Lib.hid (show acc = (if t.kind = 12 then addT acc t.name else acc) by rw [if_neg HK.out])
    have HW := Lib.hid (And.intro HT.out.2.2.2.1 (And.intro HT.out.2.2.1 (And.intro (HT.out.2.1.toMP (B := B) (gL := gL)) (And.intro HT.out.1 (Nat.le_trans HP.out.1 HT.out.2.1.size)))))
    clear hk hcont l0 HT
    go_enter Tryd.func47, Tryd.ntmps47
    have hpt := partsR_any n B (w.alloc (.cells #[.int .i64 t.kind, .string t.name, .int .i64 t.con, .slice Af t.fields.length cf, .slice Al t.list.length cl, .slice Ar t.res.length cr] 33)) t Af cf Al cl Ar cr HW.out.2.2.2.2 HW.out.2.2.2.1
    go_wp2_with fail
    refine hpt.mono fun e w2 h => ?_
    obtain ⟨A2, c2, rfl, hr2, hc2⟩ := h
    clear hpt y0 y1 y2 y3 y4 y5
    try clear l7 fz
    have H2 := Lib.hid (And.intro hr2 (And.intro (HW.out.1.keep0 hc2) (And.intro (HW.out.2.2.1.trans hc2.toMP) (And.intro (TyR.keep0 hc2 HW.out.2.2.2.1) (Nat.le_trans HW.out.2.2.2.2 hc2.size)))))
    clear hr2 hc2
    go_wp2_with fail
    go_loopw [24] (fun i wr => paRel B gL gF n t.inner acc w2 i wr) (fun i _ => t.inner.length - (intOf i).toNat)
    case atStart => exact ⟨0, Nat.zero_le _, rfl, by simpa using H2.out.2.1, Chg.refl _ _⟩
    case round =>
      obtain ⟨k, hk, rfl, hS, hch⟩ := hrel
      have q3 : IntKind.i64.wrap ((k : Int) + 1) = (k : Int) + 1 := IntWalk.i64_in _ ⟨by omega, by omega⟩
      by_cases hlt : k < t.inner.length
      · have q1 : decide (k < t.inner.length) = true := decide_eq_true hlt
        have q2 : (k : Int) < (t.inner.length : Int) := by omega
        have hlm := mp_lets HP.out.2.1
        obtain ⟨b, o, x, Xf, xf, Xl, xl, Xr, xr, rfl, hkx, hRx, z0, z1, z2, z3, z4, z5⟩ := row_at ((H2.out.1.keep hch (fun b _ => mp_type _ _ b) fun cs x h => TyR.keep hch hlm h).settleT (by decide) fun _ _ h => h) hlt
        have hlx := HP.out.2.2.2 x (List.mem_of_getElem? hkx)
        have hfl := fold_len (n := n) HP.out.2.2.2 (k := k) acc
        have hl0 : acc.length ≤ acc.length + 1 := by omega
        have hmul : (min k t.inner.length + 1) * nodesB f ≤ 17 * nodesB f := Nat.mul_le_mul_right _ (by omega)
        rw [Nat.add_mul, Nat.one_mul] at hmul
        have hca := chg_alloc wr (.cells #[.int .i64 x.kind, .string x.name, .int .i64 x.con, .slice Xf x.fields.length xf, .slice Xl x.list.length xl, .slice Xr x.res.length xr] 33)
        have hS' := hS.keep0 hca
        have f0 := hS'.fn
        have hcall := HP.out.2.2.1 f B gL gF (wr.alloc (.cells #[.int .i64 x.kind, .string x.name, .int .i64 x.con, .slice Xf x.fields.length xf, .slice Xl x.list.length xl, .slice Xr x.res.length xr] 33)) x Xf xf Xl xl Xr xr ((t.inner.take k).foldl (fun l x => holesT n x l) acc) hlx (by omega) (Nat.le_trans H2.out.2.2.2.2 (Nat.le_trans hch.size hca.size)) HP.out.2.1 (TyR.keep0 hca hRx) hS'
        have HK := Lib.hid (And.intro (hch.trans hca.toMP) hkx)
        clear hS hS' hch hkx hRx hca hlx hfl hl0 hmul hlm
        go_wp2_with fail
        refine hcall.mono fun e w8 h => ?_
        obtain ⟨rfl, hS8, hc8⟩ := h
        have htk : (t.inner.take (k + 1)).foldl (fun l x => holesT n x l) acc = holesT n x ((t.inner.take k).foldl (fun l x => holesT n x l) acc) := by
          obtain ⟨h1, h2⟩ := List.getElem?_eq_some_iff.1 HK.out.2
          rw [List.take_succ_eq_append_getElem h1, h2, List.foldl_append]
          rfl
        clear hcall f0
        have HZ := Lib.hid (show paRel B gL gF n t.inner acc w2 (.int .i64 ((k : Int) + 1)) w8 from ⟨k + 1, hlt, by simp, by rw [htk]; exact hS8, HK.out.1.trans hc8⟩)
        clear hS8 hc8 htk z0 z1 z2 z3 z4 z5
        go_wp2_with fail
        go_roundw
        case rel => exact HZ.out
        case measure => simp [intOf]; omega
      · have q1 : decide (k < t.inner.length) = false := decide_eq_false hlt
        obtain rfl : k = t.inner.length := by omega
        rw [List.take_length] at hS
        have hfin : holesT (n + 1) t acc = t.inner.foldl (fun l x => holesT n x l) acc := by rw [holesT, ← HL.out]
        have HZ := Lib.hid (And.intro hS (H2.out.2.2.1.trans hch))
        have HFN := Lib.hid hfin
        clear hS hch hfin
        go_wp2_with fail
        go_end0
        refine ⟨rfl, ?_, HZ.out.2⟩
        rw [HFN.out]
        exact HZ.out.1
theorem params1_any : ∀ n, ParC n
  | 0 => fun f B gL gF w t Af cf Al cl Ar cr acc hlk hln hB hL hT => hT.elim
  | n + 1 => params_step n (params1_any n)
end Go.Proofs.YtgemacdnncjmdaaDoor
