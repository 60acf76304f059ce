/-
  The walk of TypesCopies.
-/
import Derived.Test.YtefiefckjoledaaDoorTFill4
import Derived.Test.YtefiefckjoledaaDoorTCopy
import Derived.Test.YtefiefckjoledaaDoorTRTold
import Derived.Test.YtefiefckjoledaaDoorTSpoil2
namespace Go.Proofs.YtefiefckjoledaaDoor
open Go.RowKit
set_option linter.unusedVariables false
set_option linter.unusedSimpArgs false

def tyZ : Ty := .mk 0 ⟨#[]⟩ 0 [] [] []
theorem zero_same (w : World) : Calls Tryd.prog 22 #[.agg #[.int .i64 0, .string ⟨#[]⟩, .int .i64 0, .slice none 0 0, .slice none 0 0, .slice none 0 0], .agg #[.int .i64 0, .string ⟨#[]⟩, .int .i64 0, .slice none 0 0, .slice none 0 0, .slice none 0 0]] w fun e w' => e = .returned (.bool true) ∧ Chg (fun _ _ => False) w w' := by
  have hT : TyR 1 w.heap.size w (tyCells tyZ.kind tyZ.name tyZ.con none tyZ.fields.length 0 none tyZ.list.length 0 none tyZ.res.length 0) tyZ :=
    ⟨⟨by unfold I64; decide, by unfold I64; decide, by decide, by decide, by decide, by decide⟩, _, _, _, _, _, _, rfl, SlR.nil _ _ _ _ _ _ _, SlR.nil _ _ _ _ _ _ _, SlR.nil _ _ _ _ _ _ _⟩
  have h := rsame_any 1 w.heap.size w tyZ tyZ none 0 none 0 none 0 none 0 none 0 none 0 (Nat.le_refl _) hT hT
  rw [eqB_self] at h
  exact h
set_option maxRecDepth 100000 in
set_option maxHeartbeats 8000000 in
theorem typesCopies_bad (n B : Nat) (w : World) (t : Ty) (Af : Option Addr) (cf : Nat) (Al : Option Addr) (cl : Nat) (Ar : Option Addr) (cr : Nat) (hB : B ≤ w.heap.size) (hTab : Tabs w) (hT : TyR n B w (tyCells t.kind t.name t.con Af t.fields.length cf Al t.list.length cl Ar t.res.length cr) t) (hs : soundT t = false) :
    Calls Tryd.prog 9 #[.agg #[.int .i64 t.kind, .string t.name, .int .i64 t.con, .slice Af t.fields.length cf, .slice Al t.list.length cl, .slice Ar t.res.length cr]] w fun e w' => e = .returned (.bool true) ∧ Chg (fun _ _ => False) w w' := by
  have hb1 := Blk.new w 39 #[.int .i64 t.kind, .string t.name, .int .i64 t.con, .slice Af t.fields.length cf, .slice Al t.list.length cl, .slice Ar t.res.length cr]
  have hc1 := chg_alloc w (.cells #[.int .i64 t.kind, .string t.name, .int .i64 t.con, .slice Af t.fields.length cf, .slice Al t.list.length cl, .slice Ar t.res.length cr] 39)
  have hown := own2_any n B _ t Af cf Al cl Ar cr (Nat.le_trans hB hc1.size) (TyR.keep0 hc1 hT)
  have hl := hb1.lt
  have H := Lib.hid (And.intro hB (And.intro hTab (And.intro hT hs)))
  have HH := Lib.hid (And.intro hb1 (And.intro hc1 hl))
  clear hB hTab hT hb1 hc1 hs hl
  go_enter Tryd.func9, Tryd.ntmps9
  go_wp2_with fail
  generalize w.alloc (.cells #[.int .i64 t.kind, .string t.name, .int .i64 t.con, .slice Af t.fields.length cf, .slice Al t.list.length cl, .slice Ar t.res.length cr] 39) = W at hown HH ⊢
  generalize hg1 : w.heap.size = g1 at HH ⊢
  refine hown.mono fun e w2 h => ?_
  obtain ⟨Bf, bf, Bl, bl, Br, br, rfl, hN, hc2⟩ := h
  clear hown
  have hb1 := (hc2.blk HH.out.1 id).alloc (.cells #[.int .i64 t.kind, .string t.name, .int .i64 t.con, .slice Bf t.fields.length bf, .slice Bl t.list.length bl, .slice Br t.res.length br] 39)
  have hb3 := Blk.new w2 39 #[.int .i64 t.kind, .string t.name, .int .i64 t.con, .slice Bf t.fields.length bf, .slice Bl t.list.length bl, .slice Br t.res.length br]
  have hc3 := chg_alloc w2 (.cells #[.int .i64 t.kind, .string t.name, .int .i64 t.con, .slice Bf t.fields.length bf, .slice Bl t.list.length bl, .slice Br t.res.length br] 39)
  have hI := TyR.keep0 hc3 (TyN.tyR hN)
  have hcw := (HH.out.2.1.trans hc2).trans hc3
  have hcp := copy_bad n w2.heap.size _ t Bf bf Bl bl Br br hc3.size (H.out.2.1.keep0 hcw) hI H.out.2.2.2
  have hl3 := hb3.lt
  have hl2 := hc2.size
  have HI := Lib.hid (And.intro hb1 (And.intro hb3 (And.intro hI (And.intro hcw (And.intro hl3 hl2)))))
  clear hb1 hb3 hI hcw hl3 hl2 hN hc3 hc2
  go_wp2_with fail
  generalize w2.alloc (.cells #[.int .i64 t.kind, .string t.name, .int .i64 t.con, .slice Bf t.fields.length bf, .slice Bl t.list.length bl, .slice Br t.res.length br] 39) = W3 at hcp HI ⊢
  generalize hg3 : w2.heap.size = g3 at HI ⊢
  refine hcp.mono fun e w4 h => ?_
  obtain ⟨rfl, hc4⟩ := h
  clear hcp
  have hb1 := (hc4.blk HI.out.1 id).alloc (.cells #[.int .i64 0, .string ⟨#[]⟩, .int .i64 0, .slice none 0 0, .slice none 0 0, .slice none 0 0] 39)
  have hb3 := (hc4.blk HI.out.2.1 id).alloc (.cells #[.int .i64 0, .string ⟨#[]⟩, .int .i64 0, .slice none 0 0, .slice none 0 0, .slice none 0 0] 39)
  have hb4 := Blk.new w4 39 #[.int .i64 0, .string ⟨#[]⟩, .int .i64 0, .slice none 0 0, .slice none 0 0, .slice none 0 0]
  have hc5 := hc4.alloc (.cells #[.int .i64 0, .string ⟨#[]⟩, .int .i64 0, .slice none 0 0, .slice none 0 0, .slice none 0 0] 39)
  have hcw := HI.out.2.2.2.1.trans hc5
  have hans := answers2_any _ (H.out.2.1.keep0 hcw)
  have hsz4 := hc4.size
  have hl4 := hb4.lt
  have HM := Lib.hid (And.intro hb1 (And.intro hb3 (And.intro hb4 (And.intro hc5 hcw))))
  clear hb1 hb3 hb4 hc5 hcw hc4 hsz4 hl4
  go_wp2_with fail
  generalize w4.alloc (.cells #[.int .i64 0, .string ⟨#[]⟩, .int .i64 0, .slice none 0 0, .slice none 0 0, .slice none 0 0] 39) = W5 at hans HM ⊢
  generalize w4.heap.size = g4 at HM ⊢
  refine hans.mono fun e w6 h => ?_
  obtain ⟨rfl, hc6⟩ := h
  clear hans
  obtain ⟨y0, y1, y2, y3, y4, y5⟩ := (hc6.blk HM.out.1 id).cells6
  obtain ⟨x0, x1, x2, x3, x4, x5⟩ := (hc6.blk HM.out.2.1 id).cells6
  have hcw := HM.out.2.2.2.2.trans hc6
  have hsm := rsame_any n w6.heap.size w6 t t Bf bf Bl bl Br br Af cf Al cl Ar cr (Nat.le_refl _) (TyR.more (Nat.le_trans (by have := HI.out.2.2.2.2.1; omega) (HM.out.2.2.2.1.trans hc6).size) (TyR.keep0 (HM.out.2.2.2.1.trans hc6) HI.out.2.2.1)) (TyR.more (Nat.le_trans H.out.1 hcw.size) (TyR.keep0 hcw H.out.2.2.1))
  rw [eqB_self] at hsm
  have H6 := Lib.hid (And.intro hc6 hcw)
  clear hcw hc6
  go_wp2_with fail
  refine hsm.mono fun e w7 h => ?_
  obtain ⟨rfl, hc7⟩ := h
  clear hsm
  clear y0 y1 y2 y3 y4 y5 x0 x1 x2 x3 x4 x5
  obtain ⟨y0, y1, y2, y3, y4, y5⟩ := ((H6.out.1.trans hc7).blk HM.out.1 id).cells6
  have hcw := H6.out.2.trans hc7
  have hso := rsound_any n B w7 t Af cf Al cl Ar cr (Nat.le_trans H.out.1 hcw.size) (TyR.keep0 hcw H.out.2.2.1)
  rw [H.out.2.2.2] at hso
  have H7 := Lib.hid (And.intro hc7 hcw)
  clear hcw hc7
  go_wp2_with fail
  refine hso.mono fun e w8 h => ?_
  obtain ⟨rfl, hc8⟩ := h
  clear hso
  clear y0 y1 y2 y3 y4 y5
  obtain ⟨y0, y1, y2, y3, y4, y5⟩ := (((H6.out.1.trans H7.out.1).trans hc8).blk HM.out.2.2.1 id).cells6
  have hz := zero_same w8
  have H8 := Lib.hid (H7.out.2.trans hc8)
  clear hc8
  go_wp2_with fail
  refine hz.mono fun e w9 h => ?_
  obtain ⟨rfl, hc9⟩ := h
  clear hz
  go_wp2_with fail
  go_ret
  exact ⟨rfl, H8.out.trans hc9⟩
set_option maxRecDepth 100000 in
set_option maxHeartbeats 8000000 in
theorem typesCopies_good (n B : Nat) (w : World) (t : Ty) (Af : Option Addr) (cf : Nat) (Al : Option Addr) (cl : Nat) (Ar : Option Addr) (cr : Nat) (hB : B ≤ w.heap.size) (hTab : Tabs w) (hT : TyR n B w (tyCells t.kind t.name t.con Af t.fields.length cf Al t.list.length cl Ar t.res.length cr) t) (hs : soundT t = true) :
    Calls Tryd.prog 9 #[.agg #[.int .i64 t.kind, .string t.name, .int .i64 t.con, .slice Af t.fields.length cf, .slice Al t.list.length cl, .slice Ar t.res.length cr]] w fun e w' => e = .returned (.bool true) ∧ Chg (fun _ _ => False) w w' := by
  have hb1 := Blk.new w 39 #[.int .i64 t.kind, .string t.name, .int .i64 t.con, .slice Af t.fields.length cf, .slice Al t.list.length cl, .slice Ar t.res.length cr]
  have hc1 := chg_alloc w (.cells #[.int .i64 t.kind, .string t.name, .int .i64 t.con, .slice Af t.fields.length cf, .slice Al t.list.length cl, .slice Ar t.res.length cr] 39)
  have hown := own2_any n B _ t Af cf Al cl Ar cr (Nat.le_trans hB hc1.size) (TyR.keep0 hc1 hT)
  have hl := hb1.lt
  have H := Lib.hid (And.intro hB (And.intro hTab (And.intro hT hs)))
  have HH := Lib.hid (And.intro hb1 (And.intro hc1 hl))
  clear hB hTab hT hb1 hc1 hs hl
  go_enter Tryd.func9, Tryd.ntmps9
  go_wp2_with fail
  generalize w.alloc (.cells #[.int .i64 t.kind, .string t.name, .int .i64 t.con, .slice Af t.fields.length cf, .slice Al t.list.length cl, .slice Ar t.res.length cr] 39) = W at hown HH ⊢
  generalize hg1 : w.heap.size = g1 at HH ⊢
  refine hown.mono fun e w2 h => ?_
  obtain ⟨Bf, bf, Bl, bl, Br, br, rfl, hN, hc2⟩ := h
  clear hown
  have hb1 := (hc2.blk HH.out.1 id).alloc (.cells #[.int .i64 t.kind, .string t.name, .int .i64 t.con, .slice Bf t.fields.length bf, .slice Bl t.list.length bl, .slice Br t.res.length br] 39)
  have hb3 := Blk.new w2 39 #[.int .i64 t.kind, .string t.name, .int .i64 t.con, .slice Bf t.fields.length bf, .slice Bl t.list.length bl, .slice Br t.res.length br]
  have hc3 := chg_alloc w2 (.cells #[.int .i64 t.kind, .string t.name, .int .i64 t.con, .slice Bf t.fields.length bf, .slice Bl t.list.length bl, .slice Br t.res.length br] 39)
  have hI := TyR.keep0 hc3 (TyN.tyR hN)
  have hcw := (HH.out.2.1.trans hc2).trans hc3
  have hcp := copy_good n w2.heap.size _ t Bf bf Bl bl Br br hc3.size (H.out.2.1.keep0 hcw) hI H.out.2.2.2
  have hl3 := hb3.lt
  have hl2 := hc2.size
  have HI := Lib.hid (And.intro hb1 (And.intro hb3 (And.intro hI (And.intro hcw (And.intro hl3 hl2)))))
  clear hb1 hb3 hI hcw hl3 hl2 hN hc3 hc2
  go_wp2_with fail
  generalize w2.alloc (.cells #[.int .i64 t.kind, .string t.name, .int .i64 t.con, .slice Bf t.fields.length bf, .slice Bl t.list.length bl, .slice Br t.res.length br] 39) = W3 at hcp HI ⊢
  generalize hg3 : w2.heap.size = g3 at HI ⊢
  refine hcp.mono fun e w4 h => ?_
  obtain ⟨Cf, df, Cl, dl, Cr, dr, rfl, hX, hc4⟩ := h
  clear hcp
  have hb1 := (hc4.blk HI.out.1 id).alloc (.cells #[.int .i64 t.kind, .string t.name, .int .i64 t.con, .slice Cf t.fields.length df, .slice Cl t.list.length dl, .slice Cr t.res.length dr] 39)
  have hb3 := (hc4.blk HI.out.2.1 id).alloc (.cells #[.int .i64 t.kind, .string t.name, .int .i64 t.con, .slice Cf t.fields.length df, .slice Cl t.list.length dl, .slice Cr t.res.length dr] 39)
  have hb4 := Blk.new w4 39 #[.int .i64 t.kind, .string t.name, .int .i64 t.con, .slice Cf t.fields.length df, .slice Cl t.list.length dl, .slice Cr t.res.length dr]
  have hc5 := hc4.alloc (.cells #[.int .i64 t.kind, .string t.name, .int .i64 t.con, .slice Cf t.fields.length df, .slice Cl t.list.length dl, .slice Cr t.res.length dr] 39)
  have hcw := HI.out.2.2.2.1.trans hc5
  have hans := answers2_any _ (H.out.2.1.keep0 hcw)
  have hsz4 := hc4.size
  have hl4 := hb4.lt
  have hX5 := TyN.keep (chg_alloc w4 (.cells #[.int .i64 t.kind, .string t.name, .int .i64 t.con, .slice Cf t.fields.length df, .slice Cl t.list.length dl, .slice Cr t.res.length dr] 39)) (fun _ _ _ _ => id) (TyN.sub (G' := fun b => W3.heap.size ≤ b ∧ b < w4.heap.size) (fun b hb h => ⟨h, hb⟩) hX)
  have HM := Lib.hid (And.intro hb1 (And.intro hb3 (And.intro hb4 (And.intro hc5 (And.intro hcw (And.intro hX5 (And.intro hsz4 hl4)))))))
  clear hb1 hb3 hb4 hc5 hcw hc4 hsz4 hl4 hX hX5
  go_wp2_with fail
  generalize w4.alloc (.cells #[.int .i64 t.kind, .string t.name, .int .i64 t.con, .slice Cf t.fields.length df, .slice Cl t.list.length dl, .slice Cr t.res.length dr] 39) = W5 at hans HM ⊢
  generalize hg4 : w4.heap.size = g4 at HM ⊢
  refine hans.mono fun e w6 h => ?_
  obtain ⟨rfl, hc6⟩ := h
  clear hans
  obtain ⟨y0, y1, y2, y3, y4, y5⟩ := (hc6.blk HM.out.1 id).cells6
  obtain ⟨x0, x1, x2, x3, x4, x5⟩ := (hc6.blk HM.out.2.1 id).cells6
  have hcw := HM.out.2.2.2.2.1.trans hc6
  have hsm := rsame_any n w6.heap.size w6 t t Bf bf Bl bl Br br Af cf Al cl Ar cr (Nat.le_refl _) (TyR.more (Nat.le_trans (by have := HI.out.2.2.2.2.1; omega) (HM.out.2.2.2.1.trans hc6).size) (TyR.keep0 (HM.out.2.2.2.1.trans hc6) HI.out.2.2.1)) (TyR.more (Nat.le_trans H.out.1 hcw.size) (TyR.keep0 hcw H.out.2.2.1))
  rw [eqB_self] at hsm
  have H6 := Lib.hid (And.intro hc6 hcw)
  clear hcw hc6
  go_wp2_with fail
  refine hsm.mono fun e w7 h => ?_
  obtain ⟨rfl, hc7⟩ := h
  clear hsm
  clear y0 y1 y2 y3 y4 y5 x0 x1 x2 x3 x4 x5
  have hc57 := H6.out.1.trans hc7
  obtain ⟨x0, x1, x2, x3, x4, x5⟩ := (hc57.blk HM.out.2.1 id).cells6
  have hcw := H6.out.2.trans hc7
  have hcy := copy_good n w7.heap.size w7 t Bf bf Bl bl Br br (Nat.le_refl _) (H.out.2.1.keep0 hcw) (TyR.more (Nat.le_trans (by have := HI.out.2.2.2.2.1; omega) (HM.out.2.2.2.1.trans hc57).size) (TyR.keep0 (HM.out.2.2.2.1.trans hc57) HI.out.2.2.1)) H.out.2.2.2
  have H7 := Lib.hid (And.intro hc57 hcw)
  clear hcw hc57 hc7
  go_wp2_with fail
  refine hcy.mono fun e w8 h => ?_
  obtain ⟨Df, ef, Dl, el, Dr, er, rfl, hY, hc8⟩ := h
  clear hcy
  clear x0 x1 x2 x3 x4 x5
  have hc58 := (H7.out.1.trans hc8).alloc (.cells #[.int .i64 t.kind, .string t.name, .int .i64 t.con, .slice Df t.fields.length ef, .slice Dl t.list.length el, .slice Dr t.res.length er] 39)
  have hb6 := Blk.new w8 39 #[.int .i64 t.kind, .string t.name, .int .i64 t.con, .slice Df t.fields.length ef, .slice Dl t.list.length el, .slice Dr t.res.length er]
  have hb4 := hc58.blk HM.out.2.2.1 id
  obtain ⟨x0, x1, x2, x3, x4, x5⟩ := (hb4).cells6
  have hcw := H7.out.2.trans (hc8.alloc (.cells #[.int .i64 t.kind, .string t.name, .int .i64 t.con, .slice Df t.fields.length ef, .slice Dl t.list.length el, .slice Dr t.res.length er] 39))
  have hY9 := TyN.keep (chg_alloc w8 (.cells #[.int .i64 t.kind, .string t.name, .int .i64 t.con, .slice Df t.fields.length ef, .slice Dl t.list.length el, .slice Dr t.res.length er] 39)) (fun _ _ _ _ => id) hY
  have hX9 := TyN.keep hc58 (fun _ _ _ _ => id) HM.out.2.2.2.2.2.1
  have htx := text_any n _ _ t Cf df Cl dl Cr dr (Nat.le_refl _) (H.out.2.1.keep0 hcw) (TyN.tyR hX9)
  rw [H.out.2.2.2, if_pos rfl, show errOf true = 0 from rfl] at htx
  have hlo := Nat.le_trans HM.out.2.2.2.2.2.2.2 H7.out.1.size
  have hc8s := hc8.size
  have H8 := Lib.hid (And.intro hc58 (And.intro hb6 (And.intro hcw (And.intro hY9 (And.intro hX9 (And.intro hlo hc8s))))))
  clear hc58 hb6 hb4 hcw hY9 hX9 hY hc8 hlo hc8s
  generalize hS : toldF 9 t = S at htx
  go_wp2_with fail
  generalize w8.alloc (.cells #[.int .i64 t.kind, .string t.name, .int .i64 t.con, .slice Df t.fields.length ef, .slice Dl t.list.length el, .slice Dr t.res.length er] 39) = W9 at htx H8 x0 x1 x2 x3 x4 x5 ⊢
  generalize hg6 : w8.heap.size = g6 at H8 ⊢
  refine htx.mono fun e w10 h => ?_
  obtain ⟨rfl, hc10⟩ := h
  clear htx
  clear x0 x1 x2 x3 x4 x5
  obtain ⟨x0, x1, x2, x3, x4, x5⟩ := ((H8.out.1.trans hc10).blk HM.out.2.2.1 id).cells6
  have hsp := spoil_any n (fun b => W3.heap.size ≤ b ∧ b < g4) w10 t.kind t.name t.con Cf t.fields.length df Cl t.list.length dl Cr t.res.length dr (fun b h => Nat.lt_trans h.2 ((H8.out.1.trans hc10).blk HM.out.2.2.1 id).lt) (TyN.sh (TyN.keep hc10 (fun _ _ _ _ => id) H8.out.2.2.2.2.1))
  have H10 := Lib.hid hc10
  clear hc10
  go_wp2_with fail
  refine hsp.mono fun e w11 h => ?_
  obtain ⟨rfl, hs11⟩ := h
  clear hsp
  clear x0 x1 x2 x3 x4 x5
  have hc11 := hs11.2
  have hn1 : ¬ (fun b => W3.heap.size ≤ b ∧ b < g4) g1 := fun h => by have h1 := HI.out.2.2.2.2.1; have h2 := HI.out.2.2.2.2.2; have h3 := HH.out.2.2; have h4 := h.1; omega
  have hn3 : ¬ (fun b => W3.heap.size ≤ b ∧ b < g4) g3 := fun h => by have h1 := HI.out.2.2.2.2.1; have h4 := h.1; omega
  have hn6 : ¬ (fun b => W3.heap.size ≤ b ∧ b < g4) g6 := fun h => by have h4 := h.2; have h5 := H8.out.2.2.2.2.2.1; have h6 := H8.out.2.2.2.2.2.2; omega
  have hb1 := hc11.blk ((H8.out.1.trans H10.out).blk HM.out.1 id) (fun h => hn1 h.1)
  have hb3 := hc11.blk ((H8.out.1.trans H10.out).blk HM.out.2.1 id) (fun h => hn3 h.1)
  have hb6 := hc11.blk (H10.out.blk H8.out.2.1 id) (fun h => hn6 h.1)
  have hcw10 := H8.out.2.2.1.trans H10.out
  have hTl : TyR n w11.heap.size w11 (tyCells t.kind t.name t.con Af t.fields.length cf Al t.list.length cl Ar t.res.length cr) t := TyR.more (Nat.le_trans H.out.1 (Nat.le_trans hcw10.size hc11.size)) (TyR.keep hc11 (fun b t hb h => by have h1 := h.1.1; have h2 := HI.out.2.2.2.1.size; have h3 := H.out.1; omega) (TyR.keep0 hcw10 H.out.2.2.1))
  have hc310 := (HM.out.2.2.2.1.trans H8.out.1).trans H10.out
  have hIl : TyR n w11.heap.size w11 (tyCells t.kind t.name t.con Bf t.fields.length bf Bl t.list.length bl Br t.res.length br) t := TyR.more (Nat.le_trans (by have := HI.out.2.2.2.2.1; omega) (Nat.le_trans hc310.size hc11.size)) (TyR.keep hc11 (fun b t hb h => by have h1 := h.1.1; have h2 := HI.out.2.2.2.2.1; omega) (TyR.keep0 hc310 HI.out.2.2.1))
  have hYl : TyR n w11.heap.size w11 (tyCells t.kind t.name t.con Df t.fields.length ef Dl t.list.length el Dr t.res.length er) t := TyN.tyR (TyN.keep hc11 (fun b t hb _ h => by have h1 : w7.heap.size ≤ b := hb; have h2 := h.1.2; have h3 := H8.out.2.2.2.2.2.1; omega) (TyN.keep H10.out (fun _ _ _ _ => id) H8.out.2.2.2.1))
  have hcw11 : Chg (fun _ _ => False) w w11 := hcw10.trans_new hc11 fun b t hb h => by have h1 := h.1.1; have h2 := HI.out.2.2.2.1.size; omega
  have htd := rtold_any 9 (by omega) n w11.heap.size w11 t Af cf Al cl Ar cr (Nat.le_refl _) hTl H.out.2.2.2
  rw [hS] at htd
  obtain ⟨y0, y1, y2, y3, y4, y5⟩ := (hb1).cells6
  have H11 := Lib.hid (And.intro hb1 (And.intro hb3 (And.intro hb6 (And.intro hTl (And.intro hIl (And.intro hYl hcw11))))))
  have hq : (S.toList == S.toList) = true := str_eq rfl
  clear hb1 hb3 hb6 hTl hIl hYl hcw11 hc310 hcw10 hn1 hn3 hn6 hc11 hs11 hS
  go_wp2_with fail
  refine htd.mono fun e w12 h => ?_
  obtain ⟨rfl, hc12⟩ := h
  clear htd
  clear y0 y1 y2 y3 y4 y5
  obtain ⟨y0, y1, y2, y3, y4, y5⟩ := (hc12.blk H11.out.1 id).cells6
  obtain ⟨x0, x1, x2, x3, x4, x5⟩ := (hc12.blk H11.out.2.1 id).cells6
  have hsm := rsame_any n w12.heap.size w12 t t Bf bf Bl bl Br br Af cf Al cl Ar cr (Nat.le_refl _) (TyR.more hc12.size (TyR.keep0 hc12 H11.out.2.2.2.2.1)) (TyR.more hc12.size (TyR.keep0 hc12 H11.out.2.2.2.1))
  rw [eqB_self] at hsm
  have H12 := Lib.hid hc12
  clear hc12
  go_wp2_with fail
  refine hsm.mono fun e w13 h => ?_
  obtain ⟨rfl, hc13⟩ := h
  clear hsm
  clear y0 y1 y2 y3 y4 y5 x0 x1 x2 x3 x4 x5
  have hc1113 := H12.out.trans hc13
  obtain ⟨y0, y1, y2, y3, y4, y5⟩ := (hc1113.blk H11.out.1 id).cells6
  obtain ⟨x0, x1, x2, x3, x4, x5⟩ := (hc1113.blk H11.out.2.2.1 id).cells6
  have hsm := rsame_any n w13.heap.size w13 t t Df ef Dl el Dr er Af cf Al cl Ar cr (Nat.le_refl _) (TyR.more hc1113.size (TyR.keep0 hc1113 H11.out.2.2.2.2.2.1)) (TyR.more hc1113.size (TyR.keep0 hc1113 H11.out.2.2.2.1))
  rw [eqB_self] at hsm
  have H13 := Lib.hid (H11.out.2.2.2.2.2.2.trans hc1113)
  clear hc1113 hc13
  go_wp2_with fail
  refine hsm.mono fun e w14 h => ?_
  obtain ⟨rfl, hc14⟩ := h
  clear hsm
  go_wp2_with fail
  go_ret
  refine ⟨?_, H13.out.trans hc14⟩
  first | rfl | simp
theorem typesCopies_walk (n B : Nat) (w : World) (t : Ty) (Af : Option Addr) (cf : Nat) (Al : Option Addr) (cl : Nat) (Ar : Option Addr) (cr : Nat) (hB : B ≤ w.heap.size) (hTab : Tabs w) (hT : TyR n B w (tyCells t.kind t.name t.con Af t.fields.length cf Al t.list.length cl Ar t.res.length cr) t) :
    Calls Tryd.prog 9 #[.agg #[.int .i64 t.kind, .string t.name, .int .i64 t.con, .slice Af t.fields.length cf, .slice Al t.list.length cl, .slice Ar t.res.length cr]] w fun e w' => e = .returned (.bool true) ∧ Chg (fun _ _ => False) w w' := by
  cases hs : soundT t with
  | false => exact typesCopies_bad n B w t Af cf Al cl Ar cr hB hTab hT hs
  | true => exact typesCopies_good n B w t Af cf Al cl Ar cr hB hTab hT hs
end Go.Proofs.YtefiefckjoledaaDoor
