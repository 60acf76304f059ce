/-
  The walk of types.Subst: its outcomes.
-/
import Derived.Test.YtgemacdnncjmdaaDoorTSubst1
import Derived.Test.YtgemacdnncjmdaaDoorTSubst2
namespace Go.Proofs.YtgemacdnncjmdaaDoor
open Go.RowKit
set_option linter.unusedVariables false
set_option linter.unusedSimpArgs false

def SubBad (c : Int) (w : World) (e : Ending) (w' : World) : Prop := e = .returned (.tuple #[.agg #[.int .i64 0, .string ⟨#[]⟩, .int .i64 0, .slice none 0 0, .slice none 0 0, .slice none 0 0], .int .i64 c]) ∧ Chg (fun _ _ => False) w w'
def SubGood (n : Nat) (u : Ty) (w : World) (e : Ending) (w' : World) : Prop :=
  ∃ Af cf Al cl Ar cr, e = .returned (.tuple #[.agg #[.int .i64 u.kind, .string u.name, .int .i64 u.con, .slice Af u.fields.length cf, .slice Al u.list.length cl, .slice Ar u.res.length cr], .int .i64 0]) ∧ TyN n (fun b => w.heap.size ≤ b) w' (tyCells u.kind u.name u.con Af u.fields.length cf Al u.list.length cl Ar u.res.length cr) u ∧ Chg (fun _ _ => False) w w'
def subRel (ma B : Nat) (names : List ByteArray) (args : List Ty) (gm : Nat) (w0 W : World) (i : Value) (wr : World) : Prop :=
  ∃ (k N m : Nat) (g : ByteArray → Option Value), k ≤ names.length ∧ i = .int .i64 k ∧ SubI ma B names args (min k args.length) m g w0 ∧ N ≤ k ∧ SMap wr gm N m g ∧ Chg (fun b t => b = gm ∧ t = 0) W wr
set_option maxRecDepth 100000 in
set_option maxHeartbeats 8000000 in
theorem subst_form1 (n ma B : Nat) (w : World) (t : Ty) (names : List ByteArray) (args : List Ty) (Af : Option Addr) (cf : Nat) (Al : Option Addr) (cl : Nat) (Ar : Option Addr) (cr : Nat) (An : Option Addr) (cn : Nat) (Aa : Option Addr) (ca : Nat) (hB : B ≤ w.heap.size) (hTab : Tabs w)
    (hT : TyR n B w (tyCells t.kind t.name t.con Af t.fields.length cf Al t.list.length cl Ar t.res.length cr) t) (hN : StrsR B w (.slice An names.length cn) names) (hnl : names.length ≤ 1048576) (hA : TysR ma B w (.slice Aa args.length ca) args) (hal : args.length ≤ 1048576) (hs : soundT t = false) :
    Calls Tryd.prog 13 #[.agg #[.int .i64 t.kind, .string t.name, .int .i64 t.con, .slice Af t.fields.length cf, .slice Al t.list.length cl, .slice Ar t.res.length cr], .slice An names.length cn, .slice Aa args.length ca] w (SubBad 1 w) := by
  have hb1 := (Blk.new w 33 #[.int .i64 t.kind, .string t.name, .int .i64 t.con, .slice Af t.fields.length cf, .slice Al t.list.length cl, .slice Ar t.res.length cr]).alloc (.cells #[.int .i64 0, .string ⟨#[]⟩, .int .i64 0, .slice none 0 0, .slice none 0 0, .slice none 0 0] 33)
  have hb2 := Blk.new (w.alloc (.cells #[.int .i64 t.kind, .string t.name, .int .i64 t.con, .slice Af t.fields.length cf, .slice Al t.list.length cl, .slice Ar t.res.length cr] 33)) 33 #[.int .i64 0, .string ⟨#[]⟩, .int .i64 0, .slice none 0 0, .slice none 0 0, .slice none 0 0]
  have hc1 := (chg_alloc w (.cells #[.int .i64 t.kind, .string t.name, .int .i64 t.con, .slice Af t.fields.length cf, .slice Al t.list.length cl, .slice Ar t.res.length cr] 33)).alloc (.cells #[.int .i64 0, .string ⟨#[]⟩, .int .i64 0, .slice none 0 0, .slice none 0 0, .slice none 0 0] 33)
  simp only [World.size_alloc] at hb2
  have hso := sound_any n B _ t Af cf Al cl Ar cr (Nat.le_trans hB hc1.size) (hTab.keep0 hc1) (TyR.keep0 hc1 hT)
  rw [hs] at hso
  have HP := Lib.hid (And.intro hB (And.intro hTab (And.intro hT (And.intro hN hA))))
  have HH := Lib.hid (And.intro hb1 (And.intro hb2 hc1))
  clear hB hTab hT hN hA hb1 hb2 hc1
  go_enter Tryd.func13, Tryd.ntmps13
  go_wp2_with fail
  generalize (w.alloc (.cells #[.int .i64 t.kind, .string t.name, .int .i64 t.con, .slice Af t.fields.length cf, .slice Al t.list.length cl, .slice Ar t.res.length cr] 33)).alloc (.cells #[.int .i64 0, .string ⟨#[]⟩, .int .i64 0, .slice none 0 0, .slice none 0 0, .slice none 0 0] 33) = W at hso HH ⊢
  generalize hg2 : w.heap.size + 1 = g2 at HH ⊢
  generalize hg1 : w.heap.size = g1 at HH ⊢
  have HG := Lib.hid (show g1 = w.heap.size ∧ g2 = g1 + 1 from ⟨hg1.symm, by omega⟩)
  clear hg1 hg2
  refine hso.mono fun e w1 h => ?_
  obtain ⟨rfl, hc2⟩ := h
  clear hso hs
  have hb2 := hc2.blk HH.out.2.1 id
  obtain ⟨d0, d1, d2, d3, d4, d5⟩ := hb2.cells6
  have e0 := hb2.frozen 0
  have e1 := hb2.frozen 1
  have e2 := hb2.frozen 2
  have e3 := hb2.frozen 3
  have e4 := hb2.frozen 4
  have e5 := hb2.frozen 5
  have HB := Lib.hid hb2
  clear hb2
  have HC := Lib.hid (HH.out.2.2.trans hc2)
  clear hc2
  go_wp2_with fail
  clear d0 d1 d2 d3 d4 d5 e0 e1 e2 e3 e4 e5
  obtain ⟨hbz, hcz⟩ := blk_set6 HB.out (.int .i64 0) (.string ⟨#[]⟩) (.int .i64 0) (.slice none 0 0) (.slice none 0 0) (.slice none 0 0)
  obtain ⟨d0, d1, d2, d3, d4, d5⟩ := hbz.cells6
  refine bodyPost_ret (v := .tuple #[.agg #[.int .i64 0, .string ⟨#[]⟩, .int .i64 0, .slice none 0 0, .slice none 0 0, .slice none 0 0], .int .i64 1]) (by simp [results, Tryd.results13, go_sem, d0, d1, d2, d3, d4, d5]) rfl ?_
  exact ⟨rfl, HC.out.trans_new hcz fun b t hb h => by have := h.1; have := HG.out; omega⟩
set_option maxRecDepth 100000 in
set_option maxHeartbeats 8000000 in
theorem subst_form2 (n ma B : Nat) (w : World) (t : Ty) (names : List ByteArray) (args : List Ty) (Af : Option Addr) (cf : Nat) (Al : Option Addr) (cl : Nat) (Ar : Option Addr) (cr : Nat) (An : Option Addr) (cn : Nat) (Aa : Option Addr) (ca : Nat) (hB : B ≤ w.heap.size) (hTab : Tabs w)
    (hT : TyR n B w (tyCells t.kind t.name t.con Af t.fields.length cf Al t.list.length cl Ar t.res.length cr) t) (hN : StrsR B w (.slice An names.length cn) names) (hnl : names.length ≤ 1048576) (hA : TysR ma B w (.slice Aa args.length ca) args) (hal : args.length ≤ 1048576) (hs : soundT t = true) (hs2 : args.all soundT = false) :
    Calls Tryd.prog 13 #[.agg #[.int .i64 t.kind, .string t.name, .int .i64 t.con, .slice Af t.fields.length cf, .slice Al t.list.length cl, .slice Ar t.res.length cr], .slice An names.length cn, .slice Aa args.length ca] w (SubBad 1 w) := by
  have hb1 := (Blk.new w 33 #[.int .i64 t.kind, .string t.name, .int .i64 t.con, .slice Af t.fields.length cf, .slice Al t.list.length cl, .slice Ar t.res.length cr]).alloc (.cells #[.int .i64 0, .string ⟨#[]⟩, .int .i64 0, .slice none 0 0, .slice none 0 0, .slice none 0 0] 33)
  have hb2 := Blk.new (w.alloc (.cells #[.int .i64 t.kind, .string t.name, .int .i64 t.con, .slice Af t.fields.length cf, .slice Al t.list.length cl, .slice Ar t.res.length cr] 33)) 33 #[.int .i64 0, .string ⟨#[]⟩, .int .i64 0, .slice none 0 0, .slice none 0 0, .slice none 0 0]
  have hc1 := (chg_alloc w (.cells #[.int .i64 t.kind, .string t.name, .int .i64 t.con, .slice Af t.fields.length cf, .slice Al t.list.length cl, .slice Ar t.res.length cr] 33)).alloc (.cells #[.int .i64 0, .string ⟨#[]⟩, .int .i64 0, .slice none 0 0, .slice none 0 0, .slice none 0 0] 33)
  simp only [World.size_alloc] at hb2
  have hso := sound_any n B _ t Af cf Al cl Ar cr (Nat.le_trans hB hc1.size) (hTab.keep0 hc1) (TyR.keep0 hc1 hT)
  rw [hs] at hso
  clear hs
  have HP := Lib.hid (And.intro hB (And.intro hTab (And.intro hT (And.intro hN hA))))
  have HH := Lib.hid (And.intro hb1 (And.intro hb2 hc1))
  clear hB hTab hT hN hA hb1 hb2 hc1
  go_enter Tryd.func13, Tryd.ntmps13
  go_wp2_with fail
  generalize (w.alloc (.cells #[.int .i64 t.kind, .string t.name, .int .i64 t.con, .slice Af t.fields.length cf, .slice Al t.list.length cl, .slice Ar t.res.length cr] 33)).alloc (.cells #[.int .i64 0, .string ⟨#[]⟩, .int .i64 0, .slice none 0 0, .slice none 0 0, .slice none 0 0] 33) = W at hso HH ⊢
  generalize hg2 : w.heap.size + 1 = g2 at HH ⊢
  generalize hg1 : w.heap.size = g1 at HH ⊢
  have HG := Lib.hid (show g1 = w.heap.size ∧ g2 = g1 + 1 from ⟨hg1.symm, by omega⟩)
  clear hg1 hg2
  refine hso.mono fun e w1 h => ?_
  obtain ⟨rfl, hc2⟩ := h
  clear hso
  have hcw := HH.out.2.2.trans hc2
  have hco := contT_of ma B w1 args Aa ca (Nat.le_trans HP.out.1 hcw.size) (HP.out.2.1.keep0 hcw) (TysR.keep0 hcw HP.out.2.2.2.2) hal
  rw [hs2] at hco
  have H1 := Lib.hid (And.intro hc2 hcw)
  clear hc2 hcw hs2
  go_wp2_with fail
  refine hco.mono fun e w2 h => ?_
  obtain ⟨rfl, hc3⟩ := h
  clear hco
  have hb2 := (H1.out.1.trans hc3).blk HH.out.2.1 id
  obtain ⟨d0, d1, d2, d3, d4, d5⟩ := hb2.cells6
  have e0 := hb2.frozen 0
  have e1 := hb2.frozen 1
  have e2 := hb2.frozen 2
  have e3 := hb2.frozen 3
  have e4 := hb2.frozen 4
  have e5 := hb2.frozen 5
  have HB := Lib.hid hb2
  clear hb2
  have HC := Lib.hid (H1.out.2.trans hc3)
  clear hc3
  go_wp2_with fail
  clear d0 d1 d2 d3 d4 d5 e0 e1 e2 e3 e4 e5
  obtain ⟨hbz, hcz⟩ := blk_set6 HB.out (.int .i64 0) (.string ⟨#[]⟩) (.int .i64 0) (.slice none 0 0) (.slice none 0 0) (.slice none 0 0)
  obtain ⟨d0, d1, d2, d3, d4, d5⟩ := hbz.cells6
  refine bodyPost_ret (v := .tuple #[.agg #[.int .i64 0, .string ⟨#[]⟩, .int .i64 0, .slice none 0 0, .slice none 0 0, .slice none 0 0], .int .i64 1]) (by simp [results, Tryd.results13, go_sem, d0, d1, d2, d3, d4, d5]) rfl ?_
  exact ⟨rfl, HC.out.trans_new hcz fun b t hb h => by have := h.1; have := HG.out; omega⟩
set_option maxRecDepth 100000 in
set_option maxHeartbeats 8000000 in
theorem subst_arg (n ma B : Nat) (w : World) (t : Ty) (names : List ByteArray) (args : List Ty) (Af : Option Addr) (cf : Nat) (Al : Option Addr) (cl : Nat) (Ar : Option Addr) (cr : Nat) (An : Option Addr) (cn : Nat) (Aa : Option Addr) (ca : Nat) (hB : B ≤ w.heap.size) (hTab : Tabs w)
    (hT : TyR n B w (tyCells t.kind t.name t.con Af t.fields.length cf Al t.list.length cl Ar t.res.length cr) t) (hN : StrsR B w (.slice An names.length cn) names) (hnl : names.length ≤ 1048576) (hA : TysR ma B w (.slice Aa args.length ca) args) (hal : args.length ≤ 1048576) (hs : soundT t = true) (hs2 : args.all soundT = true) (hbad : ¬ (names.length = args.length ∧ names.Nodup)) :
    Calls Tryd.prog 13 #[.agg #[.int .i64 t.kind, .string t.name, .int .i64 t.con, .slice Af t.fields.length cf, .slice Al t.list.length cl, .slice Ar t.res.length cr], .slice An names.length cn, .slice Aa args.length ca] w (SubBad 2 w) := by
  have hb1 := (Blk.new w 33 #[.int .i64 t.kind, .string t.name, .int .i64 t.con, .slice Af t.fields.length cf, .slice Al t.list.length cl, .slice Ar t.res.length cr]).alloc (.cells #[.int .i64 0, .string ⟨#[]⟩, .int .i64 0, .slice none 0 0, .slice none 0 0, .slice none 0 0] 33)
  have hb2 := Blk.new (w.alloc (.cells #[.int .i64 t.kind, .string t.name, .int .i64 t.con, .slice Af t.fields.length cf, .slice Al t.list.length cl, .slice Ar t.res.length cr] 33)) 33 #[.int .i64 0, .string ⟨#[]⟩, .int .i64 0, .slice none 0 0, .slice none 0 0, .slice none 0 0]
  have hc1 := (chg_alloc w (.cells #[.int .i64 t.kind, .string t.name, .int .i64 t.con, .slice Af t.fields.length cf, .slice Al t.list.length cl, .slice Ar t.res.length cr] 33)).alloc (.cells #[.int .i64 0, .string ⟨#[]⟩, .int .i64 0, .slice none 0 0, .slice none 0 0, .slice none 0 0] 33)
  simp only [World.size_alloc] at hb2
  have hso := sound_any n B _ t Af cf Al cl Ar cr (Nat.le_trans hB hc1.size) (hTab.keep0 hc1) (TyR.keep0 hc1 hT)
  rw [hs] at hso
  clear hs
  have HP := Lib.hid (And.intro hB (And.intro hTab (And.intro hT (And.intro hN hA))))
  have HH := Lib.hid (And.intro hb1 (And.intro hb2 hc1))
  clear hB hTab hT hN hA hb1 hb2 hc1
  go_enter Tryd.func13, Tryd.ntmps13
  go_wp2_with fail
  generalize (w.alloc (.cells #[.int .i64 t.kind, .string t.name, .int .i64 t.con, .slice Af t.fields.length cf, .slice Al t.list.length cl, .slice Ar t.res.length cr] 33)).alloc (.cells #[.int .i64 0, .string ⟨#[]⟩, .int .i64 0, .slice none 0 0, .slice none 0 0, .slice none 0 0] 33) = W at hso HH ⊢
  generalize hg2 : w.heap.size + 1 = g2 at HH ⊢
  generalize hg1 : w.heap.size = g1 at HH ⊢
  have HG := Lib.hid (show g1 = w.heap.size ∧ g2 = g1 + 1 from ⟨hg1.symm, by omega⟩)
  clear hg1 hg2
  refine hso.mono fun e w1 h => ?_
  obtain ⟨rfl, hc2⟩ := h
  clear hso
  have hcw := HH.out.2.2.trans hc2
  have hco := contT_of ma B w1 args Aa ca (Nat.le_trans HP.out.1 hcw.size) (HP.out.2.1.keep0 hcw) (TysR.keep0 hcw HP.out.2.2.2.2) hal
  rw [hs2] at hco
  have H1 := Lib.hid (And.intro hc2 hcw)
  clear hc2 hcw hs2
  have hmm := @run_makeMap Tryd.prog
  go_wp2_with fail
  refine hco.mono fun e w2 h => ?_
  obtain ⟨rfl, hc3⟩ := h
  clear hco
  go_wp2_with fail
  have hmk := SMap.made w2
  have hcm := chg_alloc w2 (.map #[] 0)
  generalize w2.alloc (.map #[] 0) = W2 at hmk hcm ⊢
  generalize hgm : w2.heap.size = gm at hmk ⊢
  have hgw : w.heap.size ≤ gm := by have := (H1.out.2.trans hc3).size; omega
  have hc4 := (H1.out.1.trans hc3).trans hcm
  have H2 := Lib.hid (And.intro (H1.out.2.trans (hc3.trans hcm)) (And.intro hgw (And.intro (hc4.blk HH.out.1 id) (hc4.blk HH.out.2.1 id))))
  clear hgm hc3 hcm hgw hc4 hmm
  go_loopw [9, 10, 23] (fun _ _ i wr => subRel ma B names args gm w W2 i wr) (fun _ _ i _ => names.length - (intOf i).toNat)
  case atStart => exact ⟨0, 0, 0, _, Nat.zero_le _, rfl, by rw [Nat.zero_min]; exact SubI.zero ma B names args w, Nat.le_refl _, hmk, Chg.refl _ _⟩
  case round =>
    clear hmk
    obtain ⟨k, N, m, g, hk, rfl, hI, hNk, hmap, hch⟩ := hrel
    have q3 : IntKind.i64.wrap ((k : Int) + 1) = (k : Int) + 1 := IntWalk.i64_in _ ⟨by omega, by omega⟩
    have hcw : Chg (fun _ _ => False) w wr := H2.out.1.trans_new hch fun b t hb h => by have := h.1; have := H2.out.2.1; omega
    by_cases hlt : k < names.length
    · have q1 : decide (k < names.length) = true := decide_eq_true hlt
      have q2 : (k : Int) < (names.length : Int) := by omega
      obtain ⟨b, o, x, cs, rfl, hkx, _, ⟨rfl, hxs⟩, hcell⟩ := SlR.at2 (SlR.keep HP.out.2.2.2.1 hcw (no_lets _ _) fun _ _ h => h) hlt
      have z0 : wr.cell? ⟨b, o + k, none⟩ = some (.string x) := by simpa using hcell 0 _ rfl
      clear hcell
      by_cases hka : k < args.length
      · have q5 : decide (k < args.length) = true := decide_eq_true hka
        have q6 : (k : Int) < (args.length : Int) := by omega
        obtain ⟨ba, oa, u, Ef, ef, El, el, Er, er, rfl, hku, hRu, v0, v1, v2, v3, v4, v5⟩ := HP.out.2.2.2.2.at_ hka
        have y0 := hcw.cell v0 fun _ => id
        have y1 := hcw.cell v1 fun _ => id
        have y2 := hcw.cell v2 fun _ => id
        have y3 := hcw.cell v3 fun _ => id
        have y4 := hcw.cell v4 fun _ => id
        have y5 := hcw.cell v5 fun _ => id
        clear v0 v1 v2 v3 v4 v5
        obtain ⟨w5, hput, hm5, hc5⟩ := hmap.put (t := 62) (e := 33) Tryd.underlying62 (by unfold maxLen; omega) (s := x) (by unfold maxLen; omega) (.agg #[.int .i64 u.kind, .string u.name, .int .i64 u.con, .slice Ef u.fields.length ef, .slice El u.list.length el, .slice Er u.res.length er])
        have HR := Lib.hid (And.intro hI (And.intro hNk (And.intro hm5 (And.intro hch (And.intro hc5 (And.intro hkx (And.intro hku hRu)))))))
        clear hI hNk hmap hch hcw hkx hku hRu hm5 hc5 hxs
        go_wp2_with fail
        go_roundw
        case rel =>
          obtain ⟨hI, hNk, hm5, hch, hc5, hkx, hku, hRu⟩ := HR.out
          rw [Nat.min_eq_left (Nat.le_of_lt hka)] at hI
          refine ⟨k + 1, N + 1, _, _, hlt, by simp, ?_, by omega, hm5, hch.trans_le hc5 fun b t _ h => h⟩
          rw [Nat.min_eq_left (show k + 1 ≤ args.length from hka)]
          exact hI.succ hkx hku hRu
        case measure => simp [intOf]; omega
      · have q5 : decide (k < args.length) = false := decide_eq_false hka
        have HR := Lib.hid (And.intro hI (And.intro hNk (And.intro hmap hch)))
        clear hI hNk hmap hch hcw hkx hxs
        go_wp2_with fail
        go_roundw
        case rel =>
          obtain ⟨hI, hNk, hmap, hch⟩ := HR.out
          exact ⟨k + 1, N, m, g, hlt, by simp, by rw [Nat.min_eq_right (by omega)] at hI ⊢; exact hI, by omega, hmap, hch⟩
        case measure => simp [intOf]; omega
    · have q1 : decide (k < names.length) = false := decide_eq_false hlt
      obtain rfl : k = names.length := by omega
      have hlen := hmap.len (t := 62) (e := 33) Tryd.underlying62
      have hm9 : (names.length == args.length) = true → decide (m < names.length) = true := fun h => by
        have h : names.length = args.length := by simpa using h
        obtain ⟨_, h2, h3, _⟩ := hI
        rw [← h, Nat.min_self] at h2 h3
        rw [List.take_length] at h3
        exact decide_eq_true (Nat.lt_of_le_of_ne h2 fun hm => hbad ⟨h, h3.1 hm⟩)
      have hc9 : Chg (fun _ _ => False) w wr := hcw
      have hb2 := hch.blk H2.out.2.2.2 (fun h => absurd h.2 (by decide))
      obtain ⟨d0, d1, d2, d3, d4, d5⟩ := hb2.cells6
      have e0 := hb2.frozen 0
      have e1 := hb2.frozen 1
      have e2 := hb2.frozen 2
      have e3 := hb2.frozen 3
      have e4 := hb2.frozen 4
      have e5 := hb2.frozen 5
      have HB := Lib.hid hb2
      clear hb2
      have HC := Lib.hid hcw
      clear hI hNk hmap hch hcw hc9
      by_cases hle : names.length = args.length
      · have q8 := hm9 (by simp [hle])
        have q7 : (((names.length : Nat) : Int) != ((args.length : Nat) : Int)) = false := by simp [hle]
        clear hm9
        have HLE := Lib.hid hle
        clear hle
        go_wp2_with fail
        clear d0 d1 d2 d3 d4 d5 e0 e1 e2 e3 e4 e5
        obtain ⟨hbz, hcz⟩ := blk_set6 HB.out (.int .i64 0) (.string ⟨#[]⟩) (.int .i64 0) (.slice none 0 0) (.slice none 0 0) (.slice none 0 0)
        obtain ⟨d0, d1, d2, d3, d4, d5⟩ := hbz.cells6
        refine bodyPost_ret (v := .tuple #[.agg #[.int .i64 0, .string ⟨#[]⟩, .int .i64 0, .slice none 0 0, .slice none 0 0, .slice none 0 0], .int .i64 2]) (by simp [results, Tryd.results13, go_sem, d0, d1, d2, d3, d4, d5]) rfl ?_
        exact ⟨rfl, HC.out.trans_new hcz fun b t hb h => by have := h.1; have := HG.out; omega⟩
      · have q7 : (((names.length : Nat) : Int) != ((args.length : Nat) : Int)) = true := by simp; omega
        clear hm9
        have HLE := Lib.hid hle
        clear hle
        go_wp2_with fail
        clear d0 d1 d2 d3 d4 d5 e0 e1 e2 e3 e4 e5
        obtain ⟨hbz, hcz⟩ := blk_set6 HB.out (.int .i64 0) (.string ⟨#[]⟩) (.int .i64 0) (.slice none 0 0) (.slice none 0 0) (.slice none 0 0)
        obtain ⟨d0, d1, d2, d3, d4, d5⟩ := hbz.cells6
        refine bodyPost_ret (v := .tuple #[.agg #[.int .i64 0, .string ⟨#[]⟩, .int .i64 0, .slice none 0 0, .slice none 0 0, .slice none 0 0], .int .i64 2]) (by simp [results, Tryd.results13, go_sem, d0, d1, d2, d3, d4, d5]) rfl ?_
        exact ⟨rfl, HC.out.trans_new hcz fun b t hb h => by have := h.1; have := HG.out; omega⟩
set_option maxRecDepth 100000 in
set_option maxHeartbeats 8000000 in
theorem subst_large (n ma B : Nat) (w : World) (t : Ty) (names : List ByteArray) (args : List Ty) (Af : Option Addr) (cf : Nat) (Al : Option Addr) (cl : Nat) (Ar : Option Addr) (cr : Nat) (An : Option Addr) (cn : Nat) (Aa : Option Addr) (ca : Nat) (hB : B ≤ w.heap.size) (hTab : Tabs w)
    (hT : TyR n B w (tyCells t.kind t.name t.con Af t.fields.length cf Al t.list.length cl Ar t.res.length cr) t) (hN : StrsR B w (.slice An names.length cn) names) (hnl : names.length ≤ 1048576) (hA : TysR ma B w (.slice Aa args.length ca) args) (hal : args.length ≤ 1048576) (hs : soundT t = true) (hs2 : args.all soundT = true) (hok : names.length = args.length ∧ names.Nodup) (hso2 : soundT (t.fill (assoc names args)) = false) :
    Calls Tryd.prog 13 #[.agg #[.int .i64 t.kind, .string t.name, .int .i64 t.con, .slice Af t.fields.length cf, .slice Al t.list.length cl, .slice Ar t.res.length cr], .slice An names.length cn, .slice Aa args.length ca] w (SubBad 6 w) := by
  have HOK := Lib.hid hok
  clear hok
  have hb1 := (Blk.new w 33 #[.int .i64 t.kind, .string t.name, .int .i64 t.con, .slice Af t.fields.length cf, .slice Al t.list.length cl, .slice Ar t.res.length cr]).alloc (.cells #[.int .i64 0, .string ⟨#[]⟩, .int .i64 0, .slice none 0 0, .slice none 0 0, .slice none 0 0] 33)
  have hb2 := Blk.new (w.alloc (.cells #[.int .i64 t.kind, .string t.name, .int .i64 t.con, .slice Af t.fields.length cf, .slice Al t.list.length cl, .slice Ar t.res.length cr] 33)) 33 #[.int .i64 0, .string ⟨#[]⟩, .int .i64 0, .slice none 0 0, .slice none 0 0, .slice none 0 0]
  have hc1 := (chg_alloc w (.cells #[.int .i64 t.kind, .string t.name, .int .i64 t.con, .slice Af t.fields.length cf, .slice Al t.list.length cl, .slice Ar t.res.length cr] 33)).alloc (.cells #[.int .i64 0, .string ⟨#[]⟩, .int .i64 0, .slice none 0 0, .slice none 0 0, .slice none 0 0] 33)
  simp only [World.size_alloc] at hb2
  have hso := sound_any n B _ t Af cf Al cl Ar cr (Nat.le_trans hB hc1.size) (hTab.keep0 hc1) (TyR.keep0 hc1 hT)
  rw [hs] at hso
  clear hs
  have HP := Lib.hid (And.intro hB (And.intro hTab (And.intro hT (And.intro hN hA))))
  have HH := Lib.hid (And.intro hb1 (And.intro hb2 hc1))
  clear hB hTab hT hN hA hb1 hb2 hc1
  go_enter Tryd.func13, Tryd.ntmps13
  go_wp2_with fail
  generalize (w.alloc (.cells #[.int .i64 t.kind, .string t.name, .int .i64 t.con, .slice Af t.fields.length cf, .slice Al t.list.length cl, .slice Ar t.res.length cr] 33)).alloc (.cells #[.int .i64 0, .string ⟨#[]⟩, .int .i64 0, .slice none 0 0, .slice none 0 0, .slice none 0 0] 33) = W at hso HH ⊢
  generalize hg2 : w.heap.size + 1 = g2 at HH ⊢
  generalize hg1 : w.heap.size = g1 at HH ⊢
  have HG := Lib.hid (show g1 = w.heap.size ∧ g2 = g1 + 1 from ⟨hg1.symm, by omega⟩)
  clear hg1 hg2
  refine hso.mono fun e w1 h => ?_
  obtain ⟨rfl, hc2⟩ := h
  clear hso
  have hcw := HH.out.2.2.trans hc2
  have hco := contT_of ma B w1 args Aa ca (Nat.le_trans HP.out.1 hcw.size) (HP.out.2.1.keep0 hcw) (TysR.keep0 hcw HP.out.2.2.2.2) hal
  rw [hs2] at hco
  have H1 := Lib.hid (And.intro hc2 hcw)
  clear hc2 hcw hs2
  have hmm := @run_makeMap Tryd.prog
  go_wp2_with fail
  refine hco.mono fun e w2 h => ?_
  obtain ⟨rfl, hc3⟩ := h
  clear hco
  go_wp2_with fail
  have hmk := SMap.made w2
  have hcm := chg_alloc w2 (.map #[] 0)
  generalize w2.alloc (.map #[] 0) = W2 at hmk hcm ⊢
  generalize hgm : w2.heap.size = gm at hmk ⊢
  have hgw : w.heap.size ≤ gm := by have := (H1.out.2.trans hc3).size; omega
  have hc4 := (H1.out.1.trans hc3).trans hcm
  have H2 := Lib.hid (And.intro (H1.out.2.trans (hc3.trans hcm)) (And.intro hgw (And.intro (hc4.blk HH.out.1 id) (hc4.blk HH.out.2.1 id))))
  clear hgm hc3 hcm hgw hc4 hmm
  go_loopw [9, 10, 23] (fun _ _ i wr => subRel ma B names args gm w W2 i wr) (fun _ _ i _ => names.length - (intOf i).toNat)
  case atStart => exact ⟨0, 0, 0, _, Nat.zero_le _, rfl, by rw [Nat.zero_min]; exact SubI.zero ma B names args w, Nat.le_refl _, hmk, Chg.refl _ _⟩
  case round =>
    clear hmk
    obtain ⟨k, N, m, g, hk, rfl, hI, hNk, hmap, hch⟩ := hrel
    have q3 : IntKind.i64.wrap ((k : Int) + 1) = (k : Int) + 1 := IntWalk.i64_in _ ⟨by omega, by omega⟩
    have hcw : Chg (fun _ _ => False) w wr := H2.out.1.trans_new hch fun b t hb h => by have := h.1; have := H2.out.2.1; omega
    by_cases hlt : k < names.length
    · have q1 : decide (k < names.length) = true := decide_eq_true hlt
      have q2 : (k : Int) < (names.length : Int) := by omega
      obtain ⟨b, o, x, cs, rfl, hkx, _, ⟨rfl, hxs⟩, hcell⟩ := SlR.at2 (SlR.keep HP.out.2.2.2.1 hcw (no_lets _ _) fun _ _ h => h) hlt
      have z0 : wr.cell? ⟨b, o + k, none⟩ = some (.string x) := by simpa using hcell 0 _ rfl
      clear hcell
      by_cases hka : k < args.length
      · have q5 : decide (k < args.length) = true := decide_eq_true hka
        have q6 : (k : Int) < (args.length : Int) := by omega
        obtain ⟨ba, oa, u, Ef, ef, El, el, Er, er, rfl, hku, hRu, v0, v1, v2, v3, v4, v5⟩ := HP.out.2.2.2.2.at_ hka
        have y0 := hcw.cell v0 fun _ => id
        have y1 := hcw.cell v1 fun _ => id
        have y2 := hcw.cell v2 fun _ => id
        have y3 := hcw.cell v3 fun _ => id
        have y4 := hcw.cell v4 fun _ => id
        have y5 := hcw.cell v5 fun _ => id
        clear v0 v1 v2 v3 v4 v5
        obtain ⟨w5, hput, hm5, hc5⟩ := hmap.put (t := 62) (e := 33) Tryd.underlying62 (by unfold maxLen; omega) (s := x) (by unfold maxLen; omega) (.agg #[.int .i64 u.kind, .string u.name, .int .i64 u.con, .slice Ef u.fields.length ef, .slice El u.list.length el, .slice Er u.res.length er])
        have HR := Lib.hid (And.intro hI (And.intro hNk (And.intro hm5 (And.intro hch (And.intro hc5 (And.intro hkx (And.intro hku hRu)))))))
        clear hI hNk hmap hch hcw hkx hku hRu hm5 hc5 hxs
        go_wp2_with fail
        go_roundw
        case rel =>
          obtain ⟨hI, hNk, hm5, hch, hc5, hkx, hku, hRu⟩ := HR.out
          rw [Nat.min_eq_left (Nat.le_of_lt hka)] at hI
          refine ⟨k + 1, N + 1, _, _, hlt, by simp, ?_, by omega, hm5, hch.trans_le hc5 fun b t _ h => h⟩
          rw [Nat.min_eq_left (show k + 1 ≤ args.length from hka)]
          exact hI.succ hkx hku hRu
        case measure => simp [intOf]; omega
      · have q5 : decide (k < args.length) = false := decide_eq_false hka
        have HR := Lib.hid (And.intro hI (And.intro hNk (And.intro hmap hch)))
        clear hI hNk hmap hch hcw hkx hxs
        go_wp2_with fail
        go_roundw
        case rel =>
          obtain ⟨hI, hNk, hmap, hch⟩ := HR.out
          exact ⟨k + 1, N, m, g, hlt, by simp, by rw [Nat.min_eq_right (by omega)] at hI ⊢; exact hI, by omega, hmap, hch⟩
        case measure => simp [intOf]; omega
    · have q1 : decide (k < names.length) = false := decide_eq_false hlt
      obtain rfl : k = names.length := by omega
      have hlen := hmap.len (t := 62) (e := 33) Tryd.underlying62
      obtain ⟨hle, hnd⟩ := HOK.out
      have hj : min names.length args.length = names.length := by omega
      rw [hj] at hI
      have hmp := hI.mapT hnd hmap (fun cs u h => TyR.keep0 hcw h)
      have hm8 : decide (m < names.length) = false := by
        have h := hI.2.2.1
        rw [List.take_length] at h
        have := h.2 hnd
        exact decide_eq_false (by omega)
      have q7 : (((names.length : Nat) : Int) != ((args.length : Nat) : Int)) = false := by simp [hle]
      obtain ⟨y0, y1, y2, y3, y4, y5⟩ := (hch.blk H2.out.2.2.1 (fun h => absurd h.2 (by decide))).cells6
      have hput := put_map B ma gm (assoc names args) n wr t Af cf Al cl Ar cr (Nat.le_trans HP.out.1 hcw.size) hmp (TyR.keep0 hcw HP.out.2.2.1)
      have HX := Lib.hid (And.intro hcw (hch.blk H2.out.2.2.2 (fun h => absurd h.2 (by decide))))
      have HLE := Lib.hid hle
      clear hI hNk hmap hch hcw hle hnd hmp hj
      go_wp2_with fail
      refine hput.mono fun e w5 h => ?_
      obtain ⟨Bf, bf, Bl, bl, Br, br, rfl, hN5, hc5⟩ := h
      clear hput y0 y1 y2 y3 y4 y5 hlen
      generalize hu : (t.fill (assoc names args)) = u at hN5 hso2 ⊢
      have hcv := hc5.alloc (.cells #[.int .i64 u.kind, .string u.name, .int .i64 u.con, .slice Bf u.fields.length bf, .slice Bl u.list.length bl, .slice Br u.res.length br] 33)
      have hN6 := TyN.keep (chg_alloc w5 (.cells #[.int .i64 u.kind, .string u.name, .int .i64 u.con, .slice Bf u.fields.length bf, .slice Bl u.list.length bl, .slice Br u.res.length br] 33)) (fun _ _ _ _ => id) hN5
      have hb7 := Blk.new w5 33 #[.int .i64 u.kind, .string u.name, .int .i64 u.con, .slice Bf u.fields.length bf, .slice Bl u.list.length bl, .slice Br u.res.length br]
      have hcw := HX.out.1.trans hcv
      have hso := sound_any (n + ma) _ _ u Bf bf Bl bl Br br (Nat.le_refl _) (HP.out.2.1.keep0 hcw) (TyN.tyR hN6)
      rw [hso2] at hso
      have H5 := Lib.hid (And.intro hcv (And.intro hN6 (And.intro hb7 hcw)))
      clear hc5 hcv hN6 hb7 hcw hN5 hso2
      go_wp2_with fail
      generalize w5.alloc (.cells #[.int .i64 u.kind, .string u.name, .int .i64 u.con, .slice Bf u.fields.length bf, .slice Bl u.list.length bl, .slice Br u.res.length br] 33) = W6 at hso H5 ⊢
      generalize w5.heap.size = g7 at H5 ⊢
      refine hso.mono fun e w7 h => ?_
      obtain ⟨rfl, hc7⟩ := h
      clear hso
      have hb2 := (H5.out.1.trans hc7).blk HX.out.2 id
      obtain ⟨d0, d1, d2, d3, d4, d5⟩ := hb2.cells6
      have e0 := hb2.frozen 0
      have e1 := hb2.frozen 1
      have e2 := hb2.frozen 2
      have e3 := hb2.frozen 3
      have e4 := hb2.frozen 4
      have e5 := hb2.frozen 5
      have HB := Lib.hid hb2
      clear hb2
      obtain ⟨y0, y1, y2, y3, y4, y5⟩ := (hc7.blk H5.out.2.2.1 id).cells6
      have HC := Lib.hid (And.intro hc7 (H5.out.2.2.2.trans hc7))
      clear hc7
      go_wp2_with fail
      clear y0 y1 y2 y3 y4 y5
      clear d0 d1 d2 d3 d4 d5 e0 e1 e2 e3 e4 e5
      obtain ⟨hbz, hcz⟩ := blk_set6 HB.out (.int .i64 0) (.string ⟨#[]⟩) (.int .i64 0) (.slice none 0 0) (.slice none 0 0) (.slice none 0 0)
      obtain ⟨d0, d1, d2, d3, d4, d5⟩ := hbz.cells6
      refine bodyPost_ret (v := .tuple #[.agg #[.int .i64 0, .string ⟨#[]⟩, .int .i64 0, .slice none 0 0, .slice none 0 0, .slice none 0 0], .int .i64 6]) (by simp [results, Tryd.results13, go_sem, d0, d1, d2, d3, d4, d5]) rfl ?_
      exact ⟨rfl, HC.out.2.trans_new hcz fun b t hb h => by have := h.1; have := HG.out; omega⟩
set_option maxRecDepth 100000 in
set_option maxHeartbeats 8000000 in
theorem subst_ok (n ma B : Nat) (w : World) (t : Ty) (names : List ByteArray) (args : List Ty) (Af : Option Addr) (cf : Nat) (Al : Option Addr) (cl : Nat) (Ar : Option Addr) (cr : Nat) (An : Option Addr) (cn : Nat) (Aa : Option Addr) (ca : Nat) (hB : B ≤ w.heap.size) (hTab : Tabs w)
    (hT : TyR n B w (tyCells t.kind t.name t.con Af t.fields.length cf Al t.list.length cl Ar t.res.length cr) t) (hN : StrsR B w (.slice An names.length cn) names) (hnl : names.length ≤ 1048576) (hA : TysR ma B w (.slice Aa args.length ca) args) (hal : args.length ≤ 1048576) (hs : soundT t = true) (hs2 : args.all soundT = true) (hok : names.length = args.length ∧ names.Nodup) (hso2 : soundT (t.fill (assoc names args)) = true) :
    Calls Tryd.prog 13 #[.agg #[.int .i64 t.kind, .string t.name, .int .i64 t.con, .slice Af t.fields.length cf, .slice Al t.list.length cl, .slice Ar t.res.length cr], .slice An names.length cn, .slice Aa args.length ca] w (SubGood (n + ma) (t.fill (assoc names args)) w) := by
  have HOK := Lib.hid hok
  clear hok
  have hb1 := (Blk.new w 33 #[.int .i64 t.kind, .string t.name, .int .i64 t.con, .slice Af t.fields.length cf, .slice Al t.list.length cl, .slice Ar t.res.length cr]).alloc (.cells #[.int .i64 0, .string ⟨#[]⟩, .int .i64 0, .slice none 0 0, .slice none 0 0, .slice none 0 0] 33)
  have hb2 := Blk.new (w.alloc (.cells #[.int .i64 t.kind, .string t.name, .int .i64 t.con, .slice Af t.fields.length cf, .slice Al t.list.length cl, .slice Ar t.res.length cr] 33)) 33 #[.int .i64 0, .string ⟨#[]⟩, .int .i64 0, .slice none 0 0, .slice none 0 0, .slice none 0 0]
  have hc1 := (chg_alloc w (.cells #[.int .i64 t.kind, .string t.name, .int .i64 t.con, .slice Af t.fields.length cf, .slice Al t.list.length cl, .slice Ar t.res.length cr] 33)).alloc (.cells #[.int .i64 0, .string ⟨#[]⟩, .int .i64 0, .slice none 0 0, .slice none 0 0, .slice none 0 0] 33)
  simp only [World.size_alloc] at hb2
  have hso := sound_any n B _ t Af cf Al cl Ar cr (Nat.le_trans hB hc1.size) (hTab.keep0 hc1) (TyR.keep0 hc1 hT)
  rw [hs] at hso
  clear hs
  have HP := Lib.hid (And.intro hB (And.intro hTab (And.intro hT (And.intro hN hA))))
  have HH := Lib.hid (And.intro hb1 (And.intro hb2 hc1))
  clear hB hTab hT hN hA hb1 hb2 hc1
  go_enter Tryd.func13, Tryd.ntmps13
  go_wp2_with fail
  generalize (w.alloc (.cells #[.int .i64 t.kind, .string t.name, .int .i64 t.con, .slice Af t.fields.length cf, .slice Al t.list.length cl, .slice Ar t.res.length cr] 33)).alloc (.cells #[.int .i64 0, .string ⟨#[]⟩, .int .i64 0, .slice none 0 0, .slice none 0 0, .slice none 0 0] 33) = W at hso HH ⊢
  generalize hg2 : w.heap.size + 1 = g2 at HH ⊢
  generalize hg1 : w.heap.size = g1 at HH ⊢
  have HG := Lib.hid (show g1 = w.heap.size ∧ g2 = g1 + 1 from ⟨hg1.symm, by omega⟩)
  clear hg1 hg2
  refine hso.mono fun e w1 h => ?_
  obtain ⟨rfl, hc2⟩ := h
  clear hso
  have hcw := HH.out.2.2.trans hc2
  have hco := contT_of ma B w1 args Aa ca (Nat.le_trans HP.out.1 hcw.size) (HP.out.2.1.keep0 hcw) (TysR.keep0 hcw HP.out.2.2.2.2) hal
  rw [hs2] at hco
  have H1 := Lib.hid (And.intro hc2 hcw)
  clear hc2 hcw hs2
  have hmm := @run_makeMap Tryd.prog
  go_wp2_with fail
  refine hco.mono fun e w2 h => ?_
  obtain ⟨rfl, hc3⟩ := h
  clear hco
  go_wp2_with fail
  have hmk := SMap.made w2
  have hcm := chg_alloc w2 (.map #[] 0)
  generalize w2.alloc (.map #[] 0) = W2 at hmk hcm ⊢
  generalize hgm : w2.heap.size = gm at hmk ⊢
  have hgw : w.heap.size ≤ gm := by have := (H1.out.2.trans hc3).size; omega
  have hc4 := (H1.out.1.trans hc3).trans hcm
  have H2 := Lib.hid (And.intro (H1.out.2.trans (hc3.trans hcm)) (And.intro hgw (And.intro (hc4.blk HH.out.1 id) (hc4.blk HH.out.2.1 id))))
  clear hgm hc3 hcm hgw hc4 hmm
  go_loopw [9, 10, 23] (fun _ _ i wr => subRel ma B names args gm w W2 i wr) (fun _ _ i _ => names.length - (intOf i).toNat)
  case atStart => exact ⟨0, 0, 0, _, Nat.zero_le _, rfl, by rw [Nat.zero_min]; exact SubI.zero ma B names args w, Nat.le_refl _, hmk, Chg.refl _ _⟩
  case round =>
    clear hmk
    obtain ⟨k, N, m, g, hk, rfl, hI, hNk, hmap, hch⟩ := hrel
    have q3 : IntKind.i64.wrap ((k : Int) + 1) = (k : Int) + 1 := IntWalk.i64_in _ ⟨by omega, by omega⟩
    have hcw : Chg (fun _ _ => False) w wr := H2.out.1.trans_new hch fun b t hb h => by have := h.1; have := H2.out.2.1; omega
    by_cases hlt : k < names.length
    · have q1 : decide (k < names.length) = true := decide_eq_true hlt
      have q2 : (k : Int) < (names.length : Int) := by omega
      obtain ⟨b, o, x, cs, rfl, hkx, _, ⟨rfl, hxs⟩, hcell⟩ := SlR.at2 (SlR.keep HP.out.2.2.2.1 hcw (no_lets _ _) fun _ _ h => h) hlt
      have z0 : wr.cell? ⟨b, o + k, none⟩ = some (.string x) := by simpa using hcell 0 _ rfl
      clear hcell
      by_cases hka : k < args.length
      · have q5 : decide (k < args.length) = true := decide_eq_true hka
        have q6 : (k : Int) < (args.length : Int) := by omega
        obtain ⟨ba, oa, u, Ef, ef, El, el, Er, er, rfl, hku, hRu, v0, v1, v2, v3, v4, v5⟩ := HP.out.2.2.2.2.at_ hka
        have y0 := hcw.cell v0 fun _ => id
        have y1 := hcw.cell v1 fun _ => id
        have y2 := hcw.cell v2 fun _ => id
        have y3 := hcw.cell v3 fun _ => id
        have y4 := hcw.cell v4 fun _ => id
        have y5 := hcw.cell v5 fun _ => id
        clear v0 v1 v2 v3 v4 v5
        obtain ⟨w5, hput, hm5, hc5⟩ := hmap.put (t := 62) (e := 33) Tryd.underlying62 (by unfold maxLen; omega) (s := x) (by unfold maxLen; omega) (.agg #[.int .i64 u.kind, .string u.name, .int .i64 u.con, .slice Ef u.fields.length ef, .slice El u.list.length el, .slice Er u.res.length er])
        have HR := Lib.hid (And.intro hI (And.intro hNk (And.intro hm5 (And.intro hch (And.intro hc5 (And.intro hkx (And.intro hku hRu)))))))
        clear hI hNk hmap hch hcw hkx hku hRu hm5 hc5 hxs
        go_wp2_with fail
        go_roundw
        case rel =>
          obtain ⟨hI, hNk, hm5, hch, hc5, hkx, hku, hRu⟩ := HR.out
          rw [Nat.min_eq_left (Nat.le_of_lt hka)] at hI
          refine ⟨k + 1, N + 1, _, _, hlt, by simp, ?_, by omega, hm5, hch.trans_le hc5 fun b t _ h => h⟩
          rw [Nat.min_eq_left (show k + 1 ≤ args.length from hka)]
          exact hI.succ hkx hku hRu
        case measure => simp [intOf]; omega
      · have q5 : decide (k < args.length) = false := decide_eq_false hka
        have HR := Lib.hid (And.intro hI (And.intro hNk (And.intro hmap hch)))
        clear hI hNk hmap hch hcw hkx hxs
        go_wp2_with fail
        go_roundw
        case rel =>
          obtain ⟨hI, hNk, hmap, hch⟩ := HR.out
          exact ⟨k + 1, N, m, g, hlt, by simp, by rw [Nat.min_eq_right (by omega)] at hI ⊢; exact hI, by omega, hmap, hch⟩
        case measure => simp [intOf]; omega
    · have q1 : decide (k < names.length) = false := decide_eq_false hlt
      obtain rfl : k = names.length := by omega
      have hlen := hmap.len (t := 62) (e := 33) Tryd.underlying62
      obtain ⟨hle, hnd⟩ := HOK.out
      have hj : min names.length args.length = names.length := by omega
      rw [hj] at hI
      have hmp := hI.mapT hnd hmap (fun cs u h => TyR.keep0 hcw h)
      have hm8 : decide (m < names.length) = false := by
        have h := hI.2.2.1
        rw [List.take_length] at h
        have := h.2 hnd
        exact decide_eq_false (by omega)
      have q7 : (((names.length : Nat) : Int) != ((args.length : Nat) : Int)) = false := by simp [hle]
      obtain ⟨y0, y1, y2, y3, y4, y5⟩ := (hch.blk H2.out.2.2.1 (fun h => absurd h.2 (by decide))).cells6
      have hput := put_map B ma gm (assoc names args) n wr t Af cf Al cl Ar cr (Nat.le_trans HP.out.1 hcw.size) hmp (TyR.keep0 hcw HP.out.2.2.1)
      have HX := Lib.hid (And.intro hcw (hch.blk H2.out.2.2.2 (fun h => absurd h.2 (by decide))))
      have HLE := Lib.hid hle
      clear hI hNk hmap hch hcw hle hnd hmp hj
      go_wp2_with fail
      refine hput.mono fun e w5 h => ?_
      obtain ⟨Bf, bf, Bl, bl, Br, br, rfl, hN5, hc5⟩ := h
      clear hput y0 y1 y2 y3 y4 y5 hlen
      generalize hu : (t.fill (assoc names args)) = u at hN5 hso2 ⊢
      have hcv := hc5.alloc (.cells #[.int .i64 u.kind, .string u.name, .int .i64 u.con, .slice Bf u.fields.length bf, .slice Bl u.list.length bl, .slice Br u.res.length br] 33)
      have hN6 := TyN.keep (chg_alloc w5 (.cells #[.int .i64 u.kind, .string u.name, .int .i64 u.con, .slice Bf u.fields.length bf, .slice Bl u.list.length bl, .slice Br u.res.length br] 33)) (fun _ _ _ _ => id) hN5
      have hb7 := Blk.new w5 33 #[.int .i64 u.kind, .string u.name, .int .i64 u.con, .slice Bf u.fields.length bf, .slice Bl u.list.length bl, .slice Br u.res.length br]
      have hcw := HX.out.1.trans hcv
      have hso := sound_any (n + ma) _ _ u Bf bf Bl bl Br br (Nat.le_refl _) (HP.out.2.1.keep0 hcw) (TyN.tyR hN6)
      rw [hso2] at hso
      have H5 := Lib.hid (And.intro hcv (And.intro hN6 (And.intro hb7 hcw)))
      clear hc5 hcv hN6 hb7 hcw hN5 hso2
      go_wp2_with fail
      generalize w5.alloc (.cells #[.int .i64 u.kind, .string u.name, .int .i64 u.con, .slice Bf u.fields.length bf, .slice Bl u.list.length bl, .slice Br u.res.length br] 33) = W6 at hso H5 ⊢
      generalize w5.heap.size = g7 at H5 ⊢
      refine hso.mono fun e w7 h => ?_
      obtain ⟨rfl, hc7⟩ := h
      clear hso
      have hb2 := (H5.out.1.trans hc7).blk HX.out.2 id
      obtain ⟨d0, d1, d2, d3, d4, d5⟩ := hb2.cells6
      have e0 := hb2.frozen 0
      have e1 := hb2.frozen 1
      have e2 := hb2.frozen 2
      have e3 := hb2.frozen 3
      have e4 := hb2.frozen 4
      have e5 := hb2.frozen 5
      have HB := Lib.hid hb2
      clear hb2
      obtain ⟨y0, y1, y2, y3, y4, y5⟩ := (hc7.blk H5.out.2.2.1 id).cells6
      have HC := Lib.hid (And.intro hc7 (H5.out.2.2.2.trans hc7))
      clear hc7
      go_wp2_with fail
      clear y0 y1 y2 y3 y4 y5
      clear d0 d1 d2 d3 d4 d5 e0 e1 e2 e3 e4 e5
      obtain ⟨hbz, hcz⟩ := blk_set6 HB.out (.int .i64 u.kind) (.string u.name) (.int .i64 u.con) (.slice Bf u.fields.length bf) (.slice Bl u.list.length bl) (.slice Br u.res.length br)
      obtain ⟨d0, d1, d2, d3, d4, d5⟩ := hbz.cells6
      refine bodyPost_ret (v := .tuple #[.agg #[.int .i64 u.kind, .string u.name, .int .i64 u.con, .slice Bf u.fields.length bf, .slice Bl u.list.length bl, .slice Br u.res.length br], .int .i64 0]) (by simp [results, Tryd.results13, go_sem, d0, d1, d2, d3, d4, d5]) rfl ?_
      rw [hu]
      have hgw : g2 < wr.heap.size := HX.out.2.lt
      have hww := HX.out.1.size
      refine ⟨Bf, bf, Bl, bl, Br, br, rfl, ?_, HC.out.2.trans_new hcz fun b t hb h => by have := h.1; have := HG.out; omega⟩
      exact TyN.sub (fun b _ h => Nat.le_trans hww h) (TyN.keep hcz (fun b t hb _ h => by have h1 : wr.heap.size ≤ b := hb; have := h.1; omega) (TyN.keep HC.out.1 (fun _ _ _ _ => id) H5.out.2.1))
end Go.Proofs.YtgemacdnncjmdaaDoor
