/-
  The walk of the statement CodeWider: a further shape, a struct of all that were there, keeps a module sound just if its cells are not too many.
-/
import Derived.Test.YtfmhedpjkpaohaaFormsW
import Derived.Test.YtfmhedpjkpaohaaWiderN
namespace Go.Proofs.Ytfmhedpjkpaohaa
open Go.RowKit
set_option linter.unusedVariables false
set_option linter.unusedSimpArgs false

def oneI (_ : World) (cs : List Value) (x : Int) : Prop := cs = [.int .i64 x] ∧ I64 x
/-- The loop: the sum so far, and the list of the shape in block g. -/
def WideL (g base : Nat) (w0 : World) (l : List Nat) (sm i : Value) (wr : World) : Prop :=
  ∃ (k : Nat) (A : Option Addr) (c : Nat), k ≤ l.length ∧ i = .int .i64 k ∧ sm = .int .i64 ((l.take k).sum : Nat) ∧ Blk wr g 41 #[.int .i64 8, .slice A k c, .int .i64 0] ∧ RowR base 3 1 oneI wr A c (rng k) ∧ Chg (fun b t => b = g ∧ t = 41) w0 wr

theorem wide_shape {W : World} {A : Option Addr} {c n : Nat} (h : IntsO 0 W (.slice A (rng n).length c) (rng n)) : ShapeO 0 W [.int .i64 8, .slice A n c, .int .i64 0] (wideS n) :=
  ⟨A, c, by simp [wideS, rng_len], by simp [I64, wideS], by simp [I64, wideS], h⟩
theorem wide_ans {m : ModD} {l : List Nat} {fe : Int} (hf : formedMod m = true) (hw : widths m.types = some l) (h16 : m.types.length ≤ 16) (hfe : (if formedMod (wideM m) = true then 0 else 1) = fe) :
    (l.sum ≤ 64 → fe = 0 ∧ cellsAns (wideM m) (l.length : Int) = (((l.sum : Nat) : Int), (0 : Int))) ∧ (¬ l.sum ≤ 64 → fe = 1) := by
  have h1 := wide_formed hf hw h16
  constructor
  · intro h
    rw [decide_eq_true h] at h1
    rw [h1, if_pos rfl] at hfe
    refine ⟨hfe.symm, ?_⟩
    have h2 : widths (wideM m).types = some (l ++ [l.sum]) := by
      show widths (m.types ++ [wideS m.types.length]) = _
      rw [wide_widths hw h16, if_pos h]
    rw [cells_in h1 h2 (t := l.length) (by simp)]
    simp [List.getD_eq_getElem?_getD]
  · intro h
    rw [decide_eq_false h] at h1
    rw [h1, if_neg (by simp)] at hfe
    exact hfe.symm
theorem wide_big {m : ModD} (h16 : m.types.length ≤ 16) (hn : cMod m ≤ 109951162776) : cMod (wideM m) ≤ 1099511627776 := by
  unfold cMod wideM at *
  simp only [List.map_append, List.sum_append, List.map_cons, List.map_nil, List.sum_cons, List.sum_nil]
  have : cShape (wideS m.types.length) ≤ 1000 := by
    unfold cShape cInts wideS
    have := sum10 (rng m.types.length)
    rw [rng_len] at this
    simp only
    omega
  omega
set_option maxRecDepth 100000 in
set_option maxHeartbeats 4000000 in
theorem codeWider_walk (w : World) (B : Nat) (v : Value) (m : ModD) (hBw : B ≤ w.heap.size) (hm : ModR B w v m) (hn : cMod m ≤ 109951162776) :
    Calls Try.prog 5 #[v] w fun e w' => e = .returned (.bool true) ∧ Below w.heap.size w w' := by
  obtain ⟨A, c, A', c', rfl, hT, hF⟩ := hm
  have hm0 : ModR B w (.agg #[.slice A m.types.length c, .slice A' m.funcs.length c']) m := ⟨A, c, A', c', rfl, hT, hF⟩
  have hnT : (m.types.map cShape).sum ≤ 1099511627776 := by unfold cMod at hn; omega
  have hn1 : cMod m ≤ 1099511627776 := by omega
  obtain ⟨i3, hi3, hz3, hs3, hb3⟩ := info_parts infoInt
  obtain ⟨i41, hi41, hz41, hs41, hb41⟩ := info_parts infoShape
  have hb0 := Blk.new w 25 #[.slice A m.types.length c, .slice A' m.funcs.length c']
  have hc0 := chg_alloc w (.cells #[.slice A m.types.length c, .slice A' m.funcs.length c'] 25)
  have H0 := Lib.hid (And.intro hm0 (And.intro hT (And.intro hn1 (And.intro hnT hn))))
  clear hT hF hm0 hnT hn hn1
  go_enter Try.func5, Try.ntmps5
  go_wp2_with fail
  refine (answers_any _).mono fun e w1 h => ?_
  obtain ⟨rfl, hb1⟩ := h
  have hc1 := hc0.trans (Chg.of_below hb1 _)
  have hbk1 := (Chg.of_below hb1 (fun _ _ => False)).blk hb0 id
  obtain ⟨k0, k1⟩ := hbk1.cells2
  have hm1 := H0.out.1.keep hc1 (fun _ _ _ => id)
  have hsz1 : B ≤ w1.heap.size := Nat.le_trans hBw hc1.size
  clear hc0 hb0 hb1
  go_wp2_with fail
  refine (own_any _ B _ m hsz1 hm1 H0.out.2.2.1).mono fun e w2 h => ?_
  have hb2 : Below _ _ _ := h.choose_spec.choose_spec.choose_spec.choose_spec.2.1
  obtain ⟨v2, rfl, hv2⟩ := h.modR
  have hc2 : Chg (fun _ _ => False) w w2 := hc1.trans (Chg.of_below hb2 _)
  have hbk2 := (Chg.of_below hb2 (fun _ _ => False)).blk hbk1 id
  clear hc1 hbk1 hm1 hb2 k0 k1
  go_wp2_with fail
  refine (check_any _ w2.heap.size _ m (Nat.le_refl _) hv2 H0.out.2.2.1).mono fun e w3 h => ?_
  obtain ⟨rfl, hcc3⟩ := h
  have hc3 := hc2.trans hcc3
  have hbk3 := hcc3.blk hbk2 id
  obtain ⟨k0, k1⟩ := hbk3.cells2
  clear hv2 hc2 hbk2 hcc3
  cases hfm : formedMod m
  · rw [if_neg (by simp)]
    go_wp2_with fail
    refine (answers_any _).mono fun e w4 h => ?_
    obtain ⟨rfl, hb4⟩ := h
    have hbel := Lib.hid ((hc3.trans (Chg.of_below hb4 _)).below (B := w.heap.size) (fun _ _ h => h.elim) (Nat.le_refl _))
    clear hc3 hbk3 hb4
    go_wp2
    go_ret
    exact ⟨rfl, hbel.out⟩
  · have HF := Lib.hid hfm
    clear hfm
    rw [if_pos rfl]
    by_cases h256 : (m.types.length : Int) = 256
    · go_wp2_with fail
      refine (answers_any _).mono fun e w4 h => ?_
      obtain ⟨rfl, hb4⟩ := h
      have hbel := Lib.hid ((hc3.trans (Chg.of_below hb4 _)).below (B := w.heap.size) (fun _ _ h => h.elim) (Nat.le_refl _))
      clear hc3 hbk3 hb4
      go_wp2
      go_ret
      exact ⟨rfl, hbel.out⟩
    · by_cases h16 : (16 : Int) < (m.types.length : Int)
      · go_wp2_with fail
        refine (answers_any _).mono fun e w4 h => ?_
        obtain ⟨rfl, hb4⟩ := h
        have hbel := Lib.hid ((hc3.trans (Chg.of_below hb4 _)).below (B := w.heap.size) (fun _ _ h => h.elim) (Nat.le_refl _))
        clear hc3 hbk3 hb4
        go_wp2
        go_ret
        exact ⟨rfl, hbel.out⟩
      · have hsz3 : B ≤ w3.heap.size := Nat.le_trans hBw hc3.size
        have hT3 := H0.out.2.1.keep hc3 (fun _ _ _ => id)
        have hq1 : ((m.types.length : Int) == 256) = false := by simpa using h256
        have hq2 : decide ((16 : Int) < (m.types.length : Int)) = false := by simpa using h16
        go_wp2_with fail
        refine (rwid_any _ B _ _ m.types hsz3 hT3 H0.out.2.2.2.1).mono fun e w4 h => ?_
        obtain ⟨hb4, hh⟩ := h
        have hc4 := hc3.trans (Chg.of_below hb4 _)
        have hbk4 := (Chg.of_below hb4 (fun _ _ => False)).blk hbk3 id
        clear hc3 hbk3 hT3 hb4 k0 k1 hsz3
        cases hwd : widths m.types with
        | none => exact absurd HF.out (by simp [formedMod, hwd])
        | some l =>
          rw [hwd] at hh
          obtain ⟨A5, c5, rfl, hcl⟩ := hh
          have hlen := (widths_len hwd).1
          have h64 := (widths_len hwd).2
          have HD := Lib.hid (And.intro hwd (And.intro hlen h64))
          have hl16 : l.length ≤ 16 := by omega
          obtain ⟨b256, hb256⟩ : ∃ b, decide ((m.types.length : Int) ≤ 256) = b := ⟨_, rfl⟩
          rw [hb256]
          clear hb256 hwd hlen h64
          go_wp2_with fail
          have hg0 := Blk.new w4 41 #[.int .i64 8, .slice none 0 0, .int .i64 0]
          have hc5 := hc4.alloc (.cells #[.int .i64 8, .slice none 0 0, .int .i64 0] 41)
          have hbk5 := hbk4.alloc (.cells #[.int .i64 8, .slice none 0 0, .int .i64 0] 41)
          have hcl5 := (chg_alloc w4 (.cells #[.int .i64 8, .slice none 0 0, .int .i64 0] 41)).own hcl (fun _ _ => id)
          generalize hw5 : w4.alloc (.cells #[.int .i64 8, .slice none 0 0, .int .i64 0] 41) = w5 at hg0 hc5 hbk5 hcl5 ⊢
          have hgs := hg0.lt
          have hsz5 := hc5.size
          generalize hge : w4.heap.size = g at hg0 hgs ⊢
          have hwg : w.heap.size < g := by have := hbk4.lt; omega
          have HG := Lib.hid (And.intro hg0 (And.intro hc5 (And.intro hbk5 (And.intro hcl5 hwg))))
          have hgr : g < w5.heap.size := hgs
          clear hw5 hge hc4 hbk4 hcl hg0 hc5 hbk5 hcl5 hq1 hq2
          go_loopw [5, 7] (fun sm i wr => WideL g w5.heap.size w5 l sm i wr) (fun _ i _ => l.length - (intOf i).toNat)
          case atStart => exact ⟨0, none, 0, Nat.zero_le _, rfl, rfl, HG.out.1, RowR.nil _ _ _ _ _, Chg.refl _ _⟩
          case round =>
            obtain ⟨k, A6, c6, hk, rfl, rfl, hb, hrow, hch⟩ := hrel
            obtain ⟨sm, hsm⟩ : ∃ sm, (l.take k).sum = sm := ⟨_, rfl⟩
            rw [hsm]
            obtain ⟨e0, e1, e2⟩ := hb.cells3
            have ez := hb.frozen 1
            obtain ⟨wo, rfl⟩ : ∃ wo : World, wo = wr := ⟨_, rfl⟩
            have hbase : w5.heap.size ≤ wo.heap.size := hch.size
            by_cases hlt : k < l.length
            · have hclk := hch.own HG.out.2.2.2.1 (fun g' hg' h => absurd h.2 (by decide))
              obtain ⟨b2, o2, y, rfl, hky, hiy, y0⟩ := (CellsR.ints hclk (fun x hx => by have := HD.out.2.2 x hx; omega)).at_ (k := k) (by simpa using hlt)
              have hyy : y = ((l.getD k 0 : Nat) : Int) := by
                rw [List.getElem?_map, List.getElem?_eq_getElem hlt] at hky
                simp at hky
                rw [← hky]
                simp [List.getD_eq_getElem?_getD, List.getElem?_eq_getElem hlt]
              obtain ⟨xv, hxv⟩ : ∃ xv, l.getD k 0 = xv := ⟨_, rfl⟩
              have hnext : (l.take (k + 1)).sum = sm + xv := by
                rw [List.take_succ_eq_append_getElem hlt, List.sum_append, hsm, ← hxv]
                simp [List.getD_eq_getElem?_getD, List.getElem?_eq_getElem hlt]
              have hx64 : xv ≤ 64 := by rw [← hxv]; exact getD_le HD.out.2.2 k
              have hs64 : sm ≤ 1024 := by rw [← hsm]; exact wide_sum_le HD.out.2.2 hl16 k
              rw [hxv] at hyy
              subst hyy
              obtain ⟨xss, how, hx2, hx3, hx4⟩ := hrow
              rw [rng_len] at how hx2
              have HR := Lib.hid (And.intro hnext (And.intro hb (And.intro hch (And.intro hx2 (And.intro hx3 (And.intro hx4 how))))))
              clear hky hiy hnext hb hch hx2 hx3 hx4 hclk hsm hxv
              go_wp2_with (at_builtin; go_must (refine wpList_append_new rfl (.tmp 53) (.tmp 55) 36 rfl w5.heap.size 3 i3 (.int .i64 0) 1 8 Try.underlying36 hi3 hz3 hs3 hb3 rfl (by omega) A6 k c6 xss.flatten rfl how 1 1 [.int .i64 (k : Int)] rfl (by first | rfl | simp) rfl (by intro u hu; simp at hu; subst hu; rfl) (by simp only [maxLen]; omega) (by omega) hbase ?_))
              intro A7 c7 w7 hap
              obtain ⟨hnext, hb, hch, hx2, hx3, hx4, how'⟩ := HR.out
              have hp := own_push (T := 41) (base := w5.heap.size) (e := 3) (size := 1) (j := 1) (R := oneI) (l := rng k) (x := (k : Int)) (by decide) hb (by rw [rng_len]; exact how') (by rw [rng_len]; exact hx2) hx3 hx4 (fun _ _ _ _ _ h => h) (Chg.refl _ _) ⟨rfl, by unfold I64; omega⟩ rfl (by rw [rng_len]; exact hap) (.slice A7 (k + 1) c7)
              obtain ⟨g0, g1, g2⟩ := hp.2.2.2.cells3
              have gz := hp.2.2.2.frozen 1
              have hzz : wrap64 ((sm : Int) + (xv : Int)) = ((sm + xv : Nat) : Int) := by rw [wrap64_id] <;> omega
              have HP := Lib.hid (And.intro hp (And.intro hnext (And.intro hch hzz)))
              clear hp hnext hch hb hx2 hx3 hx4 how' how hap hzz
              go_wp2
              go_roundw
              case rel =>
                obtain ⟨⟨p1, p2, p3, _⟩, hnext, hch, hzz⟩ := HP.out
                refine ⟨k + 1, A7, c7, hlt, by simp, ?_, by simpa using p1, by rw [rng_snoc]; exact p2, ?_⟩
                · rw [hnext]; first | rfl | exact congrArg (Value.int .i64) hzz
                · exact ((hch.mono fun b t _ h => .inl h).trans p3).mono fun b t hb h => h.elim id fun h => absurd h.1 (by omega)
              case measure => simp [intOf]; omega
            · obtain rfl : k = l.length := by omega
              have hs : sm = l.sum := by rw [← hsm, List.take_length]
              have hrow' : RowR w5.heap.size 3 1 oneI wo A6 c6 (rng l.length) := hrow
              have hcw : Chg (fun _ _ => False) w wo := HG.out.2.1.trans_new hch fun b t hb h => by have := h.1; omega
              have hbk := hch.blk HG.out.2.2.1 (fun h => absurd h.2 (by decide))
              obtain ⟨k0, k1⟩ := hbk.cells2
              have hmo := H0.out.1.keep hcw (fun _ _ _ => id)
              have hszo : B ≤ wo.heap.size := Nat.le_trans hBw hcw.size
              have hs64 : sm ≤ 1024 := by rw [hs, ← List.take_length (l := l)]; exact wide_sum_le HD.out.2.2 hl16 _
              have HR := Lib.hid (And.intro hs (And.intro hrow' (And.intro hcw (And.intro hb hbk))))
              clear hs hrow hrow' hcw hb hbk hch hsm
              go_wp2_with fail
              refine (own_any _ B _ m hszo hmo H0.out.2.2.1).mono fun e w6 h => ?_
              obtain ⟨A8, c8, A9, c9, rfl, hb6, hr1, hr2⟩ := h
              have hc6 := Chg.of_below hb6 (fun _ _ => False)
              have hb6' : wo.heap.size ≤ w6.heap.size := hb6.size
              have hbg6 := hc6.blk HR.out.2.2.2.1 id
              have hbk6 := hc6.blk HR.out.2.2.2.2 id
              have hcw6 := HR.out.2.2.1.trans hc6
              have hrow6 := HR.out.2.1.keep hc6 (fun _ _ => id) (fun _ _ h => h)
              have hh0 := Blk.new w6 25 #[.slice A8 m.types.length c8, .slice A9 m.funcs.length c9]
              have hca := chg_alloc w6 (.cells #[.slice A8 m.types.length c8, .slice A9 m.funcs.length c9] 25)
              have hcw7 := hcw6.trans hca
              have hbg7 := hca.blk hbg6 id
              obtain ⟨g0, g1, g2⟩ := hbg7.cells3
              obtain ⟨h0, h1⟩ := hh0.cells2
              obtain ⟨xss, how, hx2, hx3, hx4⟩ := hr1
              have how7 := hca.own how (fun _ _ => id)
              have hsz7 : wo.heap.size ≤ (w6.alloc (.cells #[.slice A8 m.types.length c8, .slice A9 m.funcs.length c9] 25)).heap.size := (hc6.trans hca).size
              have HH := Lib.hid (And.intro hh0 (And.intro how (And.intro hx2 (And.intro hx3 (And.intro hx4 (And.intro hcw7 (And.intro (hrow6.keep hca (fun _ _ => id) (fun _ _ h => h)) (And.intro (hr2.keep hca (fun _ _ => id) (fun _ _ h => h.keep hca (fun _ _ _ => id) (fun _ => id) (fun _ => id) (fun _ => id))) hca))))))))
              clear hb6 hc6 hbg6 hbk6 hcw6 hrow6 hh0 how hx2 hx3 hx4 hcw7 hbg7 hr2 hca k0 k1 e0 e1 e2 ez hmo
              have hn16 : m.types.length ≤ 16 := by omega
              go_wp2_with (at_builtin; go_must (refine wpList_append_new rfl (.tmp 61) (.tmp 63) 22 rfl wo.heap.size 41 i41 _ 3 40 Try.underlying22 hi41 hz41 hs41 hb41 rfl (by omega) A8 m.types.length c8 xss.flatten rfl how7 1 1 [.int .i64 8, .slice A6 l.length c6, .int .i64 0] rfl (by simp [World.setCell]) rfl (by simp; exact ⟨rfl, rfl, rfl⟩) (by simp only [maxLen]; omega) (by omega) hsz7 ?_))
              intro A10 c10 w8 hap
              have hlen := HD.out.2.1
              obtain ⟨hh0, how, hx2, hx3, hx4, hcw7, hrow7, hr2, hca⟩ := HH.out
              have hsl : (rng l.length).length = l.length := rng_len _
              have hI : IntsO 0 _ (.slice A6 (rng l.length).length c6) (rng l.length) := hrow7.slr (by decide) 0
              have hwe : wideS m.types.length = wideS l.length := by rw [hlen]
              have hp := own_push (T := 25) (base := wo.heap.size) (e := 41) (size := 3) (j := 0) (R := ShapeO 0) (l := m.types) (x := wideS m.types.length) (by decide) hh0 (hca.own how (fun _ _ => id)) hx2 hx3 (fun k x cs a b => (hx4 k x cs a b).keep hca (fun _ _ _ => id) (fun _ => id))
                (fun w w' hc cs x h => h.keep hc (fun _ _ h => absurd h (Nat.not_lt_zero _)) (fun b h => by rcases h with h | h <;> exact absurd h.2 (by decide))) (Chg.refl _ _) (by rw [hwe]; exact wide_shape hI) rfl hap (.slice A10 (m.types.length + 1) c10)
              obtain ⟨q0, q1⟩ := hp.2.2.2.cells2
              have qz := hp.2.2.2.frozen 0
              obtain ⟨p1, p2, p3, _⟩ := hp
              obtain ⟨r0, r1⟩ := p1.cells2
              have hr2' := hr2.keep p3 (fun b _ h => by rcases h with h | h <;> exact absurd h.2 (by decide)) fun cs y h => h.keep p3 (fun _ _ h => absurd h (Nat.not_lt_zero _)) (fun b h => by rcases h with h | h <;> exact absurd h.2 (by decide)) (fun b h => by rcases h with h | h <;> exact absurd h.2 (by decide)) (fun b h => by rcases h with h | h <;> exact absurd h.2 (by decide))
              have hmod : ModR (w8.setCell ⟨w6.heap.size, 0, none⟩ (.slice A10 (m.types.length + 1) c10)).heap.size (w8.setCell ⟨w6.heap.size, 0, none⟩ (.slice A10 (m.types.length + 1) c10)) (.agg #[.slice A10 (m.types.length + 1) c10, .slice A9 m.funcs.length c9]) (wideM m) :=
                ⟨A10, c10, A9, c9, by simp [wideM], SlR.settle (p2.slr (by decide) 0) fun _ _ h => h.settle, SlR.settle (hr2'.slr (by decide) 0) fun _ _ h => h.settle⟩
              have hcw9 : Chg (fun _ _ => False) w (w8.setCell ⟨w6.heap.size, 0, none⟩ (.slice A10 (m.types.length + 1) c10)) := hcw7.trans_new p3 fun b t hb h => by
                have h1 := HR.out.2.2.1.size
                have h2 := HH.out.2.2.2.2.2.1.size
                have h3 := hb6'
                rcases h with h | h <;> have := h.1 <;> omega
              have hbig := wide_big hn16 H0.out.2.2.2.2
              have HM := Lib.hid (And.intro hmod (And.intro hcw9 (And.intro p1 (And.intro hbig hlen))))
              clear hmod hcw9 p1 p2 p3 hr2 hr2' hI hwe hrow7 hh0 how hx2 hx3 hx4 hcw7 hca hap how7 hbig hlen hsl
              go_wp2_with fail
              refine (check_any _ _ _ (wideM m) (Nat.le_refl _) HM.out.1 HM.out.2.2.2.1).mono fun e w10 h => ?_
              obtain ⟨rfl, hcc⟩ := h
              have hcw10 := HM.out.2.1.trans hcc
              have hbk10 := hcc.blk HM.out.2.2.1 id
              have hm10 := (HM.out.1.keep hcc (fun _ _ _ => id)).more hcc.size
              obtain ⟨fe, hfe⟩ : ∃ fe : Int, (if formedMod (wideM m) = true then 0 else 1) = fe := ⟨_, rfl⟩
              rw [hfe]
              obtain ⟨s0, s1⟩ := hbk10.cells2
              have HE := Lib.hid (And.intro hfe (And.intro hcw10 (And.intro hm10 hbk10)))
              clear hfe hcw10 hm10 hbk10 hcc r0 r1 q0 q1 qz g0 g1 g2 h0 h1
              go_wp2_with fail
              refine (cells_any _ _ _ (wideM m) (l.length : Int) (Nat.le_refl _) HE.out.2.2.1 HM.out.2.2.2.1).mono fun e w11 h => ?_
              obtain ⟨rfl, hcc⟩ := h
              have hbel := Lib.hid ((HE.out.2.1.trans hcc).below (B := w.heap.size) (fun _ _ h => h.elim) (Nat.le_refl _))
              clear hcc s0 s1
              have hans : (l.sum ≤ 64 → fe = 0 ∧ cellsAns (wideM m) (l.length : Int) = (((l.sum : Nat) : Int), (0 : Int))) ∧ (¬ l.sum ≤ 64 → fe = 1) := wide_ans HF.out HD.out.1 (by omega) HE.out.1
              obtain ⟨cn, ce, hcells⟩ : ∃ cn ce, cellsAns (wideM m) (l.length : Int) = (cn, ce) := ⟨_, _, rfl⟩
              rw [hcells] at hans ⊢
              obtain rfl := HR.out.1
              have HA := Lib.hid hans
              clear hans hcells
              by_cases h64 : l.sum ≤ 64
              · obtain ⟨rfl, hc⟩ := HA.out.1 h64
                obtain ⟨rfl, rfl⟩ := Prod.mk.inj hc
                have h64' : decide (((l.sum : Nat) : Int) ≤ 64) = true := decide_eq_true (by omega)
                generalize hsm : l.sum = sm at h64' ⊢
                clear hsm h64 hs64 hc
                go_wp2
                go_ret
                exact ⟨rfl, hbel.out⟩
              · obtain rfl := HA.out.2 h64
                have h64' : decide (((l.sum : Nat) : Int) ≤ 64) = false := decide_eq_false (by omega)
                generalize hsm : l.sum = sm at h64' ⊢
                clear hsm h64 hs64
                go_wp2
                go_ret
                exact ⟨rfl, hbel.out⟩
end Go.Proofs.Ytfmhedpjkpaohaa
