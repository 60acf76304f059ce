/-
  ref02.Fill at every type; own, owns; types.Same; answers of layer 2.
-/
import Derived.Test.YtgemacdnncjmdaaDoorTTold2
namespace Go.Proofs.YtgemacdnncjmdaaDoor
open Go.RowKit
set_option linter.unusedVariables false
set_option linter.unusedSimpArgs false

theorem assoc_nil : assoc [] [] = fun _ => none := by funext x; simp [assoc]
theorem FillC.weak {n m B : Nat} {f g : ByteArray → Option Ty} {vn va : Value} {P Q : World → Prop} (h : FillC n m B f vn va P) (hf : f = g) (hP : ∀ W, Q W → P W) : FillC n m B g vn va Q := by
  subst hf
  exact fun w t Af cf Al cl Ar cr hB hq hT => h w t Af cf Al cl Ar cr hB (hP _ hq) hT
/-- Fill without names: the same type, in new memory. -/
theorem fill_plain (B : Nat) : ∀ n, FillC n n B (fun _ => none) (.slice none 0 0) (.slice none 0 0) (fun _ => True)
  | 0 => fun w t Af cf Al cl Ar cr hB hP hT => hT.elim
  | n + 1 => (fill_step n n n B [] [] none 0 none 0 (Nat.le_refl _) (by simp) (Nat.le_succ _) (.inl rfl) ((fill_plain B n).weak assoc_nil.symm fun _ _ => trivial)).weak assoc_nil fun W _ => ⟨SlR.nil _ _ _ _ _ _ _, SlR.nil _ _ _ _ _ _ _⟩
/-- Fill with names. -/
theorem fill_names (B ma : Nat) (names : List ByteArray) (args : List Ty) (An : Option Addr) (cn : Nat) (Aa : Option Addr) (ca : Nat) (hlen : names.length ≤ args.length) (hal : args.length ≤ 1048576) :
    ∀ n, FillC n (n + ma) B (assoc names args) (.slice An names.length cn) (.slice Aa args.length ca) (fun W => StrsR B W (.slice An names.length cn) names ∧ TysR ma B W (.slice Aa args.length ca) args)
  | 0 => fun w t Af cf Al cl Ar cr hB hP hT => hT.elim
  | n + 1 => by
    rw [Nat.add_right_comm]
    exact fill_step n (n + ma) ma B names args An cn Aa ca hlen hal (by omega) (.inr (fill_plain B ma)) (fill_names B ma names args An cn Aa ca hlen hal n)
set_option maxRecDepth 100000 in
set_option maxHeartbeats 1000000 in
theorem own2_any (n B : Nat) (w : World) (t : Ty) (Af : Option Addr) (cf : Nat) (Al : Option Addr) (cl : Nat) (Ar : Option Addr) (cr : Nat) (hB : B ≤ w.heap.size)
    (hT : TyR n B w (tyCells t.kind t.name t.con Af t.fields.length cf Al t.list.length cl Ar t.res.length cr) t) :
    Calls Tryd.prog 18 #[.agg #[.int .i64 t.kind, .string t.name, .int .i64 t.con, .slice Af t.fields.length cf, .slice Al t.list.length cl, .slice Ar t.res.length cr]] w (FillRes n t w) := by
  have hb1 := (Blk.new w 33 #[.int .i64 t.kind, .string t.name, .int .i64 t.con, .slice Af t.fields.length cf, .slice Al t.list.length cl, .slice Ar t.res.length cr]).alloc (.cells #[.int .i64 0, .string ⟨#[]⟩, .int .i64 0, .slice none 0 0, .slice none 0 0, .slice none 0 0] 33)
  have hb2 := Blk.new (w.alloc (.cells #[.int .i64 t.kind, .string t.name, .int .i64 t.con, .slice Af t.fields.length cf, .slice Al t.list.length cl, .slice Ar t.res.length cr] 33)) 33 #[.int .i64 0, .string ⟨#[]⟩, .int .i64 0, .slice none 0 0, .slice none 0 0, .slice none 0 0]
  have hc1 := (chg_alloc w (.cells #[.int .i64 t.kind, .string t.name, .int .i64 t.con, .slice Af t.fields.length cf, .slice Al t.list.length cl, .slice Ar t.res.length cr] 33)).alloc (.cells #[.int .i64 0, .string ⟨#[]⟩, .int .i64 0, .slice none 0 0, .slice none 0 0, .slice none 0 0] 33)
  simp only [World.size_alloc] at hb2
  have hcall := fill_plain B n _ t Af cf Al cl Ar cr (Nat.le_trans hB hc1.size) trivial (TyR.keep0 hc1 hT)
  rw [Ty.fill_none] at hcall
  have HH := Lib.hid (And.intro hb2 hc1)
  clear hB hT hb1 hb2 hc1
  go_enter Tryd.func18, Tryd.ntmps18
  go_wp2_with fail
  generalize (w.alloc (.cells #[.int .i64 t.kind, .string t.name, .int .i64 t.con, .slice Af t.fields.length cf, .slice Al t.list.length cl, .slice Ar t.res.length cr] 33)).alloc (.cells #[.int .i64 0, .string ⟨#[]⟩, .int .i64 0, .slice none 0 0, .slice none 0 0, .slice none 0 0] 33) = W at hcall HH ⊢
  generalize hg2 : w.heap.size + 1 = g2 at HH ⊢
  refine hcall.mono fun e w1 h => ?_
  obtain ⟨Bf, bf, Bl, bl, Br, br, rfl, hN, hc2⟩ := h
  clear hcall
  have hb2 := hc2.blk HH.out.1 id
  obtain ⟨d0, d1, d2, d3, d4, d5⟩ := hb2.cells6
  have e0 := hb2.frozen 0
  have e1 := hb2.frozen 1
  have e2 := hb2.frozen 2
  have e3 := hb2.frozen 3
  have e4 := hb2.frozen 4
  have e5 := hb2.frozen 5
  have HN := Lib.hid (And.intro hN (And.intro hc2 hb2))
  clear hN hc2 hb2
  go_wp2_with fail
  clear d0 d1 d2 d3 d4 d5 e0 e1 e2 e3 e4 e5
  obtain ⟨hbz, hcz⟩ := blk_set6 HN.out.2.2 (.int .i64 t.kind) (.string t.name) (.int .i64 t.con) (.slice Bf t.fields.length bf) (.slice Bl t.list.length bl) (.slice Br t.res.length br)
  obtain ⟨d0, d1, d2, d3, d4, d5⟩ := hbz.cells6
  refine bodyPost_ret (v := .agg #[.int .i64 t.kind, .string t.name, .int .i64 t.con, .slice Bf t.fields.length bf, .slice Bl t.list.length bl, .slice Br t.res.length br]) (by simp [results, Tryd.results18, go_sem, d0, d1, d2, d3, d4, d5]) rfl ?_
  have hgW : g2 < W.heap.size := HH.out.1.lt
  have hwW := HH.out.2.size
  refine ⟨Bf, bf, Bl, bl, Br, br, rfl, ?_, (HH.out.2.trans HN.out.2.1).trans_new hcz fun b t hb h => by have := h.1; omega⟩
  exact TyN.sub (fun b _ h => Nat.le_trans hwW h) (TyN.keep hcz (fun b t hb _ h => by have h1 : W.heap.size ≤ b := hb; have := h.1; omega) HN.out.1)
set_option maxRecDepth 100000 in
set_option maxHeartbeats 1000000 in
theorem owns8_any (n B : Nat) (w : World) (l : List Ty) (A : Option Addr) (c : Nat) (hB : B ≤ w.heap.size) (hl : l.length ≤ 1048576) (hT : TysR n B w (.slice A l.length c) l) :
    Calls Tryd.prog 9 #[.slice A l.length c] w (FillsRes n l w) := by
  have hcall := fillAll_of n n B (fun _ => none) (.slice none 0 0) (.slice none 0 0) (fun _ => True) (fun _ _ _ _ => trivial) (fill_plain B n) w l A c hB trivial hl hT
  rw [show l.map (Ty.fill fun _ => none) = l from (List.map_congr_left (g := id) fun t _ => Ty.fill_none t).trans (List.map_id _)] at hcall
  clear hB hT
  go_enter Tryd.func9, Tryd.ntmps9
  go_wp2_with fail
  refine hcall.mono fun e w1 h => ?_
  obtain ⟨A1, c1, rfl, hN, hc2⟩ := h
  have HN := Lib.hid (And.intro hN hc2)
  clear hcall hN hc2
  go_wp2_with fail
  go_ret
  exact ⟨A1, c1, rfl, HN.out.1, HN.out.2⟩
set_option maxRecDepth 100000 in
set_option maxHeartbeats 2000000 in
theorem tsame_any (n B : Nat) (w : World) (a b : Ty) (Af : Option Addr) (cf : Nat) (Al : Option Addr) (cl : Nat) (Ar : Option Addr) (cr : Nat) (Bf : Option Addr) (df : Nat) (Bl : Option Addr) (dl : Nat) (Br : Option Addr) (dr : Nat) (hB : B ≤ w.heap.size) (hTab : Tabs w)
    (hA : TyR n B w (tyCells a.kind a.name a.con Af a.fields.length cf Al a.list.length cl Ar a.res.length cr) a) (hC : TyR n B w (tyCells b.kind b.name b.con Bf b.fields.length df Bl b.list.length dl Br b.res.length dr) b) :
    Calls Tryd.prog 17 #[.agg #[.int .i64 a.kind, .string a.name, .int .i64 a.con, .slice Af a.fields.length cf, .slice Al a.list.length cl, .slice Ar a.res.length cr], .agg #[.int .i64 b.kind, .string b.name, .int .i64 b.con, .slice Bf b.fields.length df, .slice Bl b.list.length dl, .slice Br b.res.length dr]] w
      fun e w' => e = .returned (.tuple #[.bool ((soundT a && soundT b) && eqB a b), .int .i64 (errOf (soundT a && soundT b))]) ∧ Chg (fun _ _ => False) w w' := by
  have hb1 := (Blk.new w 33 #[.int .i64 a.kind, .string a.name, .int .i64 a.con, .slice Af a.fields.length cf, .slice Al a.list.length cl, .slice Ar a.res.length cr]).alloc (.cells #[.int .i64 b.kind, .string b.name, .int .i64 b.con, .slice Bf b.fields.length df, .slice Bl b.list.length dl, .slice Br b.res.length dr] 33)
  have hb2 := Blk.new (w.alloc (.cells #[.int .i64 a.kind, .string a.name, .int .i64 a.con, .slice Af a.fields.length cf, .slice Al a.list.length cl, .slice Ar a.res.length cr] 33)) 33 #[.int .i64 b.kind, .string b.name, .int .i64 b.con, .slice Bf b.fields.length df, .slice Bl b.list.length dl, .slice Br b.res.length dr]
  have hc1 := (chg_alloc w (.cells #[.int .i64 a.kind, .string a.name, .int .i64 a.con, .slice Af a.fields.length cf, .slice Al a.list.length cl, .slice Ar a.res.length cr] 33)).alloc (.cells #[.int .i64 b.kind, .string b.name, .int .i64 b.con, .slice Bf b.fields.length df, .slice Bl b.list.length dl, .slice Br b.res.length dr] 33)
  simp only [World.size_alloc] at hb2
  have H := Lib.hid (And.intro hB (And.intro hTab (And.intro hA hC)))
  have HH := Lib.hid (And.intro hb1 (And.intro hb2 hc1))
  clear hB hTab hA hC hb1 hb2 hc1
  go_enter Tryd.func17, Tryd.ntmps17
  go_wp2_with fail
  generalize (w.alloc (.cells #[.int .i64 a.kind, .string a.name, .int .i64 a.con, .slice Af a.fields.length cf, .slice Al a.list.length cl, .slice Ar a.res.length cr] 33)).alloc (.cells #[.int .i64 b.kind, .string b.name, .int .i64 b.con, .slice Bf b.fields.length df, .slice Bl b.list.length dl, .slice Br b.res.length dr] 33) = W at HH ⊢
  generalize w.heap.size + 1 = g2 at HH ⊢
  generalize w.heap.size = g1 at HH ⊢
  have hsa := sound_any n B W a Af cf Al cl Ar cr (Nat.le_trans H.out.1 HH.out.2.2.size) (H.out.2.1.keep0 HH.out.2.2) (TyR.keep0 HH.out.2.2 H.out.2.2.1)
  cases sa : soundT a with
  | false =>
    rw [sa] at hsa
    have SA := Lib.hid sa
    clear sa
    refine hsa.mono fun e w1 h => ?_
    obtain ⟨rfl, hc2⟩ := h
    clear hsa
    go_wp2_with fail
    go_ret2
    refine ⟨?_, HH.out.2.2.trans hc2⟩
    rw [SA.out]
    rfl
  | true =>
    rw [sa] at hsa
    have SA := Lib.hid sa
    clear sa
    refine hsa.mono fun e w1 h => ?_
    obtain ⟨rfl, hc2⟩ := h
    clear hsa
    have hba := hc2.blk HH.out.1 id
    have hbb := hc2.blk HH.out.2.1 id
    obtain ⟨y0, y1, y2, y3, y4, y5⟩ := hba.cells6
    obtain ⟨x0, x1, x2, x3, x4, x5⟩ := hbb.cells6
    have hcw := HH.out.2.2.trans hc2
    have hsb := sound_any n B w1 b Bf df Bl dl Br dr (Nat.le_trans H.out.1 hcw.size) (H.out.2.1.keep0 hcw) (TyR.keep0 hcw H.out.2.2.2)
    have H1 := Lib.hid (And.intro hba (And.intro hbb hcw))
    clear hba hbb hcw hc2
    cases sb : soundT b with
    | false =>
      rw [sb] at hsb
      have SB := Lib.hid sb
      clear sb
      go_wp2_with fail
      refine hsb.mono fun e w2 h => ?_
      obtain ⟨rfl, hc3⟩ := h
      clear hsb
      go_wp2_with fail
      go_ret2
      refine ⟨?_, H1.out.2.2.trans hc3⟩
      rw [SA.out, SB.out]
      rfl
    | true =>
      rw [sb] at hsb
      have SB := Lib.hid sb
      clear sb
      go_wp2_with fail
      refine hsb.mono fun e w2 h => ?_
      obtain ⟨rfl, hc3⟩ := h
      clear hsb y0 y1 y2 y3 y4 y5 x0 x1 x2 x3 x4 x5
      obtain ⟨y0, y1, y2, y3, y4, y5⟩ := (hc3.blk H1.out.1 id).cells6
      obtain ⟨x0, x1, x2, x3, x4, x5⟩ := (hc3.blk H1.out.2.1 id).cells6
      have hcw := H1.out.2.2.trans hc3
      have he := equal_any n B w2 a b Af cf Al cl Ar cr Bf df Bl dl Br dr (Nat.le_trans H.out.1 hcw.size) (TyR.keep0 hcw H.out.2.2.1) (TyR.keep0 hcw H.out.2.2.2)
      have H2 := Lib.hid hcw
      clear hcw hc3
      go_wp2_with fail
      refine he.mono fun e w3 h => ?_
      obtain ⟨rfl, hc4⟩ := h
      clear he
      go_wp2_with fail
      go_ret2
      refine ⟨?_, H2.out.trans hc4⟩
      rw [SA.out, SB.out]
      rfl
/-- The type that 'answers' asks about. -/
def tyI8 : Ty := .mk 2 ⟨#[]⟩ 0 [] [] []
def tyS8 : Ty := .mk 9 ⟨#[]⟩ 0 [] [tyI8] []
theorem empty_toList : (⟨#[]⟩ : ByteArray).toList = [] := List.isEmpty_iff.1 (strE_true rfl)
theorem look_i8 (f : Nat) : lookT (f + 1) tyI8 = some (0, 1) := by
  refine lookT_other ?_ (d := 0) (c := 0) rfl (by decide)
  rw [shape0 (by decide) (by decide) (by decide) (by decide) (by decide), bare_iff]
  simp [tyI8, Ty.kind, Ty.name, Ty.con, Ty.fields, Ty.list, Ty.res, empty_toList]
theorem look_s8 : lookT 9 tyS8 = some (1, 1) := by
  refine lookT_other ?_ (d := 1) (c := 1) ?_ (by decide)
  · rw [shape9 (.inl rfl), bare_iff]
    simp [tyS8, Ty.kind, Ty.name, Ty.con, Ty.fields, Ty.list, Ty.res, empty_toList]
  · show lookL (lookT 8) [tyI8] = some (1, 1)
    simp only [lookL, look_i8 7]
    rfl
theorem told_s8 : toldF 9 tyS8 = ⟨#[91, 93, 105, 110, 116, 56]⟩ := by
  have h1 : toldF 8 tyI8 = ⟨#[105, 110, 116, 56]⟩ := by
    show (if tyI8.kind = 8 ∨ tyI8.kind = 12 then _ else _) = _
    rw [if_neg (by decide), if_neg (by decide), if_neg (by decide), if_neg (by decide)]
    rfl
  show (if tyS8.kind = 8 ∨ tyS8.kind = 12 then _ else _) = _
  rw [if_neg (by decide), if_pos (by decide)]
  show ⟨#[91, 93]⟩ ++ joinB [toldF 8 tyI8] = _
  rw [h1]
  rfl
set_option maxRecDepth 100000 in
set_option maxHeartbeats 1000000 in
theorem answers2_any (w : World) (hTab : Tabs w) : Calls Tryd.prog 19 #[] w fun e w' => e = .returned (.bool true) ∧ Chg (fun _ _ => False) w w' := by
  have hc1 := chg_alloc w (.cells #[.int .i64 2, .string ⟨#[]⟩, .int .i64 0, .slice none 0 0, .slice none 0 0, .slice none 0 0] 33)
  have hb1 := Blk.new w 33 #[.int .i64 2, .string ⟨#[]⟩, .int .i64 0, .slice none 0 0, .slice none 0 0, .slice none 0 0]
  have hT : TyR 2 (w.heap.size + 1) (w.alloc (.cells #[.int .i64 2, .string ⟨#[]⟩, .int .i64 0, .slice none 0 0, .slice none 0 0, .slice none 0 0] 33)) (tyCells tyS8.kind tyS8.name tyS8.con none tyS8.fields.length 0 (some ⟨w.heap.size, 0, none⟩) tyS8.list.length 1 none tyS8.res.length 0) tyS8 := by
    refine ⟨⟨by unfold I64; decide, by unfold I64; decide, by decide, by decide, by decide, by decide⟩, _, _, _, _, _, _, rfl, SlR.nil _ _ _ _ _ _ _, ⟨_, _, rfl, by decide, fun _ => ⟨_, _, rfl, .inl (by omega), hb1.lt, fun k x hx => ?_⟩⟩, SlR.nil _ _ _ _ _ _ _⟩
    match k, hx with
    | 0, hx =>
      injection hx with hx
      subst hx
      obtain ⟨d0, d1, d2, d3, d4, d5⟩ := hb1.cells6
      refine ⟨_, rfl, ⟨⟨by unfold I64; decide, by unfold I64; decide, by decide, by decide, by decide, by decide⟩, none, 0, none, 0, none, 0, rfl, SlR.nil _ _ _ _ _ _ _, SlR.nil _ _ _ _ _ _ _, SlR.nil _ _ _ _ _ _ _⟩, fun j u hu => ?_⟩
      match j, hu with
      | 0, hu => injection hu with hu; subst hu; exact d0
      | 1, hu => injection hu with hu; subst hu; exact d1
      | 2, hu => injection hu with hu; subst hu; exact d2
      | 3, hu => injection hu with hu; subst hu; exact d3
      | 4, hu => injection hu with hu; subst hu; exact d4
      | 5, hu => injection hu with hu; subst hu; exact d5
      | j + 6, hu => cases hu
    | k + 1, hx => exact absurd hx (by simp [tyS8, Ty.list])
  have hcall := text_any 2 (w.heap.size + 1) _ tyS8 none 0 (some ⟨w.heap.size, 0, none⟩) 1 none 0 (by simp) (hTab.keep0 hc1) hT
  have hs : soundT tyS8 = true := by unfold soundT; rw [look_s8]; rfl
  rw [hs, if_pos rfl, told_s8] at hcall
  have hcall2 : Calls Tryd.prog 20 #[.agg #[.int .i64 9, .string ⟨#[]⟩, .int .i64 0, .slice none 0 0, .slice (some ⟨w.heap.size, 0, none⟩) 1 1, .slice none 0 0]] (w.alloc (.cells #[.int .i64 2, .string ⟨#[]⟩, .int .i64 0, .slice none 0 0, .slice none 0 0, .slice none 0 0] 33)) fun e w' => e = .returned (.tuple #[.string ⟨#[91, 93, 105, 110, 116, 56]⟩, .int .i64 0]) ∧ Chg (fun _ _ => False) (w.alloc (.cells #[.int .i64 2, .string ⟨#[]⟩, .int .i64 0, .slice none 0 0, .slice none 0 0, .slice none 0 0] 33)) w' := hcall
  clear hcall hT hb1 hTab
  go_enter Tryd.func19, Tryd.ntmps19
  go_wp2_with fail
  refine hcall2.mono fun e w1 h => ?_
  obtain ⟨rfl, hc2⟩ := h
  clear hcall2
  go_wp2_with fail
  go_ret
  exact ⟨rfl, hc1.trans hc2⟩
end Go.Proofs.YtgemacdnncjmdaaDoor
