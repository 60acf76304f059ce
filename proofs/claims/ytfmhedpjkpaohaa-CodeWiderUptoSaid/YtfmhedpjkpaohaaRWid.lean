/-
  The reference's Widths: the cells of all shapes, or that one is not sound.
-/
import Derived.Test.YtfmhedpjkpaohaaMeas
import Derived.Test.YtfmhedpjkpaohaaSame3
import Derived.Deep.DeepCutAuto
import Derived.Deep.CutBlock
import Derived.StillTailTactics
import Derived.Deep.RegionHeld3
namespace Go.Proofs.Ytfmhedpjkpaohaa
open Go.RowKit
set_option linter.unusedVariables false
set_option linter.unusedSimpArgs false

def WidRes (l : List ShapeD) (w : World) (e : Ending) (w' : World) : Prop :=
  Below w.heap.size w w' ∧ match widths l with
    | none => e = .returned (.tuple #[.slice none 0 0, .bool false])
    | some c => ∃ A c', e = .returned (.tuple #[.slice A c.length c', .bool (decide ((l.length : Int) ≤ 256))]) ∧ CellsR w.heap.size w' A c' c
theorem WidRes.bad {l : List ShapeD} {w w' : World} (h : Below w.heap.size w w') (hw : widths l = none) : WidRes l w (.returned (.tuple #[.slice none 0 0, .bool false])) w' := by
  refine ⟨h, ?_⟩
  rw [hw]
theorem WidRes.good {l : List ShapeD} {w w' : World} {c : List Nat} {A : Option Addr} {c' : Nat} {b : Bool} (h : Below w.heap.size w w') (hw : widths l = some c) (hb : decide ((l.length : Int) ≤ 256) = b) (hc : CellsR w.heap.size w' A c' c) :
    WidRes l w (.returned (.tuple #[.slice A c.length c', .bool b])) w' := by
  refine ⟨h, ?_⟩
  rw [hw]
  exact ⟨A, c', by rw [hb], hc⟩
def Wid3 (types : List ShapeD) (k : Nat) (x : ShapeD) (ok : Bool) (w1 : World) (v i : Value) (wr : World) : Prop :=
  ∃ j : Nat, j ≤ k ∧ i = .int .i64 j ∧ v = .bool (ok && !dupOf (types.take j) x) ∧ Chg (fun _ _ => False) w1 wr
theorem sound_end {types : List ShapeD} {k j : Nat} {cells : List Nat} {x : ShapeD} {hd ok ov : Bool} {sm : Nat} (hw : wid (types.take k) = some (types.take k, cells)) (h1 : headOk cells.length x = hd) (h2 : sumAt cells x.list = sm) (h3 : (hd && kindOk x sm) = ok) (h4 : partsIn cells.length x.list = true)
    (h5 : (ok && !dupOf (types.take j) x) = ov) (h6 : x.kind = 8 ∨ j = k) : soundS (types.take k) cells x = ov := by
  subst h1 h2 h3 h5
  unfold soundS
  rw [h4]
  rcases h6 with h | rfl
  · simp [dupOf, h]
  · simp
theorem dup_snoc {types : List ShapeD} {j : Nat} {x y : ShapeD} (h : types[j]? = some y) (h8 : x.kind ≠ 8) : dupOf (types.take (j + 1)) x = (dupOf (types.take j) x || sameShape y x) := by
  rw [List.take_add_one, h]
  simp [dupOf, h8]
theorem dup_stop {ok a b c : Bool} (h : (ok && !a) = false) (h2 : b = (a || c)) : (ok && !b) = false := by subst h2; cases ok <;> cases a <;> simp_all
theorem dup_go {ok a b c d : Bool} (h : (ok && !a) = true) (h2 : b = (a || c)) (h3 : c = d) : (ok && !b) = !d := by subst h2 h3; cases ok <;> cases a <;> simp_all
theorem held6 {w0 w1 w2 : World} {p q r p' q' r' : Addr} {a b c d e f : Value} (k : w1.cell? p = some a ∧ w1.cell? q = some b ∧ w1.cell? r = some c ∧ w1.cell? p' = some d ∧ w1.cell? q' = some e ∧ w1.cell? r' = some f ∧ Chg (fun _ _ => False) w0 w1) (hc : Chg (fun _ _ => False) w1 w2) :
    w2.cell? p = some a ∧ w2.cell? q = some b ∧ w2.cell? r = some c ∧ w2.cell? p' = some d ∧ w2.cell? q' = some e ∧ w2.cell? r' = some f ∧ Chg (fun _ _ => False) w0 w2 :=
  ⟨hc.cell k.1 fun _ h => h, hc.cell k.2.1 fun _ h => h, hc.cell k.2.2.1 fun _ h => h, hc.cell k.2.2.2.1 fun _ h => h, hc.cell k.2.2.2.2.1 fun _ h => h, hc.cell k.2.2.2.2.2.1 fun _ h => h, k.2.2.2.2.2.2.trans hc⟩
theorem held6_chg {w0 w1 : World} {p q r p' q' r' : Addr} {a b c d e f : Value} (k : w1.cell? p = some a ∧ w1.cell? q = some b ∧ w1.cell? r = some c ∧ w1.cell? p' = some d ∧ w1.cell? q' = some e ∧ w1.cell? r' = some f ∧ Chg (fun _ _ => False) w0 w1) : Chg (fun _ _ => False) w0 w1 := k.2.2.2.2.2.2
theorem sound_part {prev : List ShapeD} {cells : List Nat} {s : ShapeD} (h : partsIn cells.length s.list = false) : soundS prev cells s = false := by simp [soundS, h]
def WidL (w0 : World) (types : List ShapeD) (v i : Value) (wr : World) : Prop :=
  ∃ (k : Nat) (cells : List Nat) (A : Option Addr) (c : Nat), k ≤ types.length ∧ i = .int .i64 k ∧ v = .slice A cells.length c ∧ wid (types.take k) = some (types.take k, cells) ∧ CellsR w0.heap.size wr A c cells ∧ Chg (fun _ _ => False) w0 wr
def WidS (s : ShapeD) (cells : List Nat) (w1 : World) (sm i : Value) (wr : World) : Prop :=
  ∃ k : Nat, k ≤ s.list.length ∧ i = .int .i64 k ∧ sm = .int .i64 (sumAt cells (s.list.take k) : Nat) ∧ partsIn cells.length (s.list.take k) = true ∧ wr = w1

set_option maxRecDepth 100000 in
set_option maxHeartbeats 4000000 in
theorem rwid_any (w : World) (B : Nat) (A : Option Addr) (c : Nat) (types : List ShapeD) (hBw : B ≤ w.heap.size) (hT : ShapesR B w (.slice A types.length c) types) (h1 : (types.map cShape).sum ≤ 1099511627776) :
    Calls Try.prog 17 #[.slice A types.length c] w (WidRes types w) := by
  obtain ⟨i3, hi3, hz3, hs3, hb3⟩ := info_parts infoInt
  have hnT := len_le_sum cShape (fun _ => by unfold cShape cInts; omega) types
  have HT := Lib.hid hT
  clear hT
  go_enter Try.func17, Try.ntmps17
  go_wp2_with fail
  go_loopw [4, 5] (fun v i wr => WidL w types v i wr) (fun _ i _ => types.length - (intOf i).toNat)
  case atStart => exact ⟨0, [], none, 0, Nat.zero_le _, rfl, rfl, rfl, CellsR.nil _ _, Chg.refl _ _⟩
  case round =>
    obtain ⟨k, cells, A2, c2, hk, rfl, rfl, hwid, hcl, hch⟩ := hrel
    obtain ⟨hlen, h64⟩ := wid_len hwid
    rw [List.length_take] at hlen
    obtain ⟨wo, rfl⟩ : ∃ wo : World, wo = wr := ⟨_, rfl⟩
    by_cases hlt : k < types.length
    · obtain ⟨bb, o, x, A3, c3, rfl, hkx, hi1, hi2, hl, z0, z1, z2⟩ := (HT.out.keep hch (fun _ _ _ => id)).at_ hlt
      have hsum := sum_at cShape hkx
      rw [show cShape x = 20 + (10 + (x.list.map fun _ => 10).sum) from rfl] at hsum
      have hnx : x.list.length ≤ 109951162776 := by have := sum10 x.list; omega
      have hbx := Blk.new wo 41 #[.int .i64 x.kind, .slice A3 x.list.length c3, .int .i64 x.res]
      have hcb := chg_alloc wo (.cells #[.int .i64 x.kind, .slice A3 x.list.length c3, .int .i64 x.res] 41)
      have hbase := hch.size
      have hcl1 := hcb.own hcl (fun _ _ => id)
      have hl1 := hl.keep hcb (fun _ _ _ => id)
      have hck : cells.length = k := by omega
      have HX := Lib.hid (And.intro hkx (And.intro hwid (And.intro hch hcb)))
      clear hkx hwid hch hcl hl
      go_wp2_with fail
      generalize hw1 : wo.alloc (.cells #[.int .i64 x.kind, .slice A3 x.list.length c3, .int .i64 x.res] 41) = w1 at hbx hcb hcl1 hl1 HX ⊢
      obtain ⟨d0, d1, d2⟩ := hbx.cells3
      have HC := Lib.hid (And.intro hcl1 (And.intro hl1 hbx))
      have HL := Lib.hid (And.intro hlen h64)
      clear hcl1 hl1 hbx hlen h64 z0 z1 z2 hcb hw1
      go_loopw [7, 8] (fun sm i wr => WidS x cells w1 sm i wr) (fun _ i _ => x.list.length - (intOf i).toNat)
      case atStart => exact ⟨0, Nat.zero_le _, rfl, rfl, rfl, rfl⟩
      case round =>
        obtain ⟨j, hj, rfl, rfl, hp, rfl⟩ := hrel
        have Hp := Lib.hid hp
        clear hp
        by_cases hltj : j < x.list.length
        · obtain ⟨b2, o2, p, rfl, hkp, hip, p0⟩ := HC.out.2.1.at_ hltj
          have Hq := Lib.hid (And.intro hkp hip)
          clear hkp hip
          by_cases q1 : p < 0
          · go_wp2_with fail
            go_ret2
            exact WidRes.bad (Chg.below (HX.out.2.2.1.trans HX.out.2.2.2) (fun _ _ h => h.elim) (Nat.le_refl _)) (wid_bad HX.out.2.1 HX.out.1 (sound_part (partsIn_bad Hq.out.1 (by omega))))
          · by_cases q2 : (k : Int) ≤ p
            · go_wp2_with fail
              go_ret2
              exact WidRes.bad (Chg.below (HX.out.2.2.1.trans HX.out.2.2.2) (fun _ _ h => h.elim) (Nat.le_refl _)) (wid_bad HX.out.2.1 HX.out.1 (sound_part (partsIn_bad Hq.out.1 (by omega))))
            · obtain ⟨pn, rfl⟩ : ∃ pn : Nat, p = pn := ⟨p.toNat, by omega⟩
              have hpn : pn < cells.length := by omega
              obtain ⟨b3, o3, y, rfl, hky, hiy, y0⟩ := (CellsR.ints (base := w.heap.size) HC.out.1 (fun x hx => by have := HL.out.2 x hx; omega)).at_ (k := pn) (by simpa using hpn)
              have hyy : y = ((cells.getD pn 0 : Nat) : Int) := by
                rw [List.getElem?_map, List.getElem?_eq_getElem hpn] at hky
                simp at hky
                rw [← hky]
                simp [List.getD_eq_getElem?_getD, List.getElem?_eq_getElem hpn]
              have hb1 := sumAt_le HL.out.2 (x.list.take j)
              have hb2 := getD_le HL.out.2 pn
              rw [List.length_take] at hb1
              have hs2 := sumAt_take (cells := cells) Hq.out.1
              rw [Int.toNat_natCast] at hs2
              have hp2 := partsIn_take Hq.out.1 Hp.out (by omega) (by omega)
              obtain ⟨sm, hsm⟩ : ∃ sm, sumAt cells (x.list.take j) = sm := ⟨_, rfl⟩
              obtain ⟨cv, hcv⟩ : ∃ cv, cells.getD pn 0 = cv := ⟨_, rfl⟩
              rw [hcv] at hyy hb2 hs2
              rw [hsm] at hb1 hs2 ⊢
              have HR := Lib.hid (And.intro hs2 (And.intro hp2 (show wrap64 ((sm : Int) + (cv : Int)) = ((sm + cv : Nat) : Int) by rw [wrap64_id] <;> omega)))
              have hpk : (pn : Int) < (cells.length : Int) := by omega
              subst hyy
              clear hky hiy q1 q2 hb1 hb2 hs2 hp2 hsm hcv
              go_wp2_with fail
              go_roundw
              case rel => exact ⟨j + 1, hltj, by simp, by rw [HR.out.1]; first | rfl | exact congrArg (Value.int .i64) HR.out.2.2, HR.out.2.1, rfl⟩
              case measure => simp [intOf]; omega
        · obtain rfl : j = x.list.length := by omega
          rw [List.take_length] at *
          obtain ⟨sm, hsm⟩ : ∃ sm, sumAt cells x.list = sm := ⟨_, rfl⟩
          rw [hsm]
          go_upto_region 13 with fail
          go_cut [9] from 11 to 145 (fun s9 wx => s9 = .bool (headOk cells.length x) ∧ wx = wr)
          case first =>
            as_aux_lemma =>
              by_cases a1 : (x.list.length : Int) ≤ 16
              · by_cases a2 : 0 ≤ x.res
                · by_cases a3 : x.res ≤ (k : Int)
                  · by_cases a4 : x.res = 0
                    · have hh : headOk cells.length x = true := by simp [headOk]; omega
                      go_wp2_with fail
                      go_meet
                      exact ⟨by rw [hh]; first | done | rfl | (simp [*]; done) | (simp [*]; omega), rfl⟩
                    · by_cases a5 : x.kind = 11
                      · have hh : headOk cells.length x = true := by simp [headOk]; omega
                        go_wp2_with fail
                        go_meet
                        exact ⟨by rw [hh]; first | done | rfl | (simp [*]; done) | (simp [*]; omega), rfl⟩
                      · have hh : headOk cells.length x = false := by simp [headOk]; omega
                        go_wp2_with fail
                        go_meet
                        exact ⟨by rw [hh]; first | done | rfl | (simp [*]; done) | (simp [*]; omega), rfl⟩
                  · have hh : headOk cells.length x = false := by simp [headOk]; omega
                    go_wp2_with fail
                    go_meet
                    exact ⟨by rw [hh]; first | done | rfl | (simp [*]; done) | (simp [*]; omega), rfl⟩
                · have hh : headOk cells.length x = false := by simp [headOk]; omega
                  go_wp2_with fail
                  go_meet
                  exact ⟨by rw [hh]; first | done | rfl | (simp [*]; done) | (simp [*]; omega), rfl⟩
              · have hh : headOk cells.length x = false := by simp [headOk]; omega
                go_wp2_with fail
                go_meet
                exact ⟨by rw [hh]; first | done | rfl | (simp [*]; done) | (simp [*]; omega), rfl⟩
          case rest =>
            obtain ⟨rfl, rfl⟩ := hcut
            obtain ⟨hd, hhd⟩ : ∃ hd, headOk cells.length x = hd := ⟨_, rfl⟩
            rw [hhd]
            go_upto_block 4 with fail
            go_cut [9] from 11 to 145 (fun s9 wx => s9 = .bool (hd && kindOk x sm) ∧ wx = wc)
            case first =>
              as_aux_lemma =>
                cases hd
                · by_cases h8 : x.kind = 8
                  · go_wp2_with fail
                    go_meet
                    exact ⟨rfl, rfl⟩
                  · by_cases h9 : x.kind = 9
                    · go_wp2_with fail
                      go_meet
                      exact ⟨rfl, rfl⟩
                    · by_cases h10 : x.kind = 10
                      · go_wp2_with fail
                        go_meet
                        exact ⟨rfl, rfl⟩
                      · by_cases h13 : x.kind = 13
                        · go_wp2_with fail
                          go_meet
                          exact ⟨rfl, rfl⟩
                        · by_cases h11 : x.kind = 11
                          · go_wp2_with fail
                            go_meet
                            exact ⟨rfl, rfl⟩
                          · go_wp2_with fail
                            go_meet
                            exact ⟨rfl, rfl⟩
                · by_cases h8 : x.kind = 8
                  · by_cases h64 : (sm : Int) ≤ 64
                    · have hh : kindOk x sm = true := by unfold kindOk; rw [if_pos h8]; exact decide_eq_true (by omega)
                      go_wp2_with fail
                      go_meet
                      exact ⟨by rw [hh]; first | done | rfl | (simp [*]; done) | (simp [*]; omega), rfl⟩
                    · have hh : kindOk x sm = false := by unfold kindOk; rw [if_pos h8]; exact decide_eq_false (by omega)
                      go_wp2_with fail
                      go_meet
                      exact ⟨by rw [hh]; first | done | rfl | (simp [*]; done) | (simp [*]; omega), rfl⟩
                  · by_cases h9 : x.kind = 9
                    · by_cases hl : x.list.length = 1
                      · have hh : kindOk x sm = true := by unfold kindOk; rw [if_neg h8, if_pos (by omega)]; exact decide_eq_true hl
                        go_wp2_with fail
                        go_meet
                        exact ⟨by rw [hh]; first | done | rfl | (simp [*]; done) | (simp [*]; omega), rfl⟩
                      · have hh : kindOk x sm = false := by unfold kindOk; rw [if_neg h8, if_pos (by omega)]; exact decide_eq_false hl
                        go_wp2_with fail
                        go_meet
                        exact ⟨by rw [hh]; first | done | rfl | (simp [*]; done) | (simp [*]; omega), rfl⟩
                    · by_cases h10 : x.kind = 10
                      · by_cases hl : x.list.length = 1
                        · have hh : kindOk x sm = true := by unfold kindOk; rw [if_neg h8, if_pos (by omega)]; exact decide_eq_true hl
                          go_wp2_with fail
                          go_meet
                          exact ⟨by rw [hh]; first | done | rfl | (simp [*]; done) | (simp [*]; omega), rfl⟩
                        · have hh : kindOk x sm = false := by unfold kindOk; rw [if_neg h8, if_pos (by omega)]; exact decide_eq_false hl
                          go_wp2_with fail
                          go_meet
                          exact ⟨by rw [hh]; first | done | rfl | (simp [*]; done) | (simp [*]; omega), rfl⟩
                      · by_cases h13 : x.kind = 13
                        · by_cases hl : x.list.length = 1
                          · have hh : kindOk x sm = true := by unfold kindOk; rw [if_neg h8, if_pos (by omega)]; exact decide_eq_true hl
                            go_wp2_with fail
                            go_meet
                            exact ⟨by rw [hh]; first | done | rfl | (simp [*]; done) | (simp [*]; omega), rfl⟩
                          · have hh : kindOk x sm = false := by unfold kindOk; rw [if_neg h8, if_pos (by omega)]; exact decide_eq_false hl
                            go_wp2_with fail
                            go_meet
                            exact ⟨by rw [hh]; first | done | rfl | (simp [*]; done) | (simp [*]; omega), rfl⟩
                        · by_cases h11 : x.kind = 11
                          · have hh : kindOk x sm = true := by unfold kindOk; rw [if_neg h8, if_neg (by omega), if_pos h11]
                            go_wp2_with fail
                            go_meet
                            exact ⟨by rw [hh]; first | done | rfl | (simp [*]; done) | (simp [*]; omega), rfl⟩
                          · by_cases l1 : 1 ≤ x.kind
                            · by_cases l7 : x.kind ≤ 7
                              · by_cases l0 : x.list.length = 0
                                · have hh : kindOk x sm = true := kindOk_plain l1 l7 l0 h8 h9 h10 h13 h11
                                  go_wp2_with fail
                                  go_meet
                                  exact ⟨by rw [hh]; first | done | rfl | (simp [*]; done) | (simp [*]; omega), rfl⟩
                                · have hh : kindOk x sm = false := kindOk_parts (by omega) h8 h9 h10 h13 h11
                                  go_wp2_with fail
                                  go_meet
                                  exact ⟨by rw [hh]; first | done | rfl | (simp [*]; done) | (simp [*]; omega), rfl⟩
                              · have hh : kindOk x sm = false := kindOk_high (by omega) h8 h9 h10 h13 h11
                                go_wp2_with fail
                                go_meet
                                exact ⟨by rw [hh]; first | done | rfl | (simp [*]; done) | (simp [*]; omega), rfl⟩
                            · have hh : kindOk x sm = false := kindOk_low (by omega)
                              go_wp2_with fail
                              go_meet
                              exact ⟨by rw [hh]; first | done | rfl | (simp [*]; done) | (simp [*]; omega), rfl⟩
            case rest =>
              obtain ⟨rfl, rfl⟩ := hcut
              obtain ⟨ok, hok⟩ : ∃ ok, (hd && kindOk x sm) = ok := ⟨_, rfl⟩
              rw [hok]
              go_wp2_with fail
              have HO := Lib.hid (And.intro hhd (And.intro hsm hok))
              clear hhd hsm hok
              go_loopw [9, 10] (fun v i wr => Wid3 types k x ok wc v i wr) (fun _ i _ => k - (intOf i).toNat)
              case atStart => exact ⟨0, Nat.zero_le _, rfl, by simp [dupOf], Chg.refl _ _⟩
              case round =>
                obtain ⟨j, hj, rfl, rfl, hc3⟩ := hrel
                obtain ⟨ov, hov⟩ : ∃ ov, (ok && !dupOf (types.take j) x) = ov := ⟨_, rfl⟩
                rw [hov]
                obtain ⟨d0, d1, d2⟩ := (hc3.blk HC.out.2.2 id).cells3
                have HV := Lib.hid (And.intro hov hc3)
                clear hov
                obtain ⟨w4, rfl⟩ : ∃ w4 : World, w4 = wr := ⟨_, rfl⟩
                clear hc3
                by_cases hjk : j < k
                · cases h8 : (x.kind != 8)
                  · as_aux_lemma =>
                      have H8 := Lib.hid h8
                      have HS := Lib.hid (sound_end HX.out.2.1 (types := types) (k := k) (cells := cells) (x := x) (hd := hd) (sm := sm) (ok := ok) HO.out.1 HO.out.2.1 HO.out.2.2 Hp.out (j := j) (ov := ov) HV.out.1 (.inl (by simpa using H8.out)))
                      cases ov
                      · go_wp2_with fail
                        go_ret2
                        exact WidRes.bad (Chg.below ((HX.out.2.2.1.trans HX.out.2.2.2).trans HV.out.2) (fun _ _ h => h.elim) (Nat.le_refl _)) (wid_bad HX.out.2.1 HX.out.1 HS.out)
                      · have how := HV.out.2.own HC.out.1 (fun _ _ => id)
                        rw [hck] at how
                        have hbase3 : w.heap.size ≤ w4.heap.size := Nat.le_trans hbase (Nat.le_trans HX.out.2.2.2.size HV.out.2.size)
                        go_wp2_with (at_builtin; go_must (refine wpList_append_new rfl (.tmp 142) (.tmp 144) 36 rfl w.heap.size 3 i3 (.int .i64 0) 1 8 Try.underlying36 hi3 hz3 hs3 hb3 rfl (by omega) A2 k c2 (natV cells) rfl how 1 1 [.int .i64 (sm : Int)] rfl (by first | rfl | simp) rfl (by intro u hu; simp at hu; subst hu; rfl) (by simp only [maxLen]; omega) (by omega) hbase3 ?_))
                        intro A5 c5 w5 hap
                        have hapc := hap.chg how
                        have HAP := Lib.hid (And.intro hap hapc)
                        clear hap hapc how
                        go_wp2
                        go_roundw
                        case rel =>
                          obtain ⟨hap, hapc⟩ := HAP.out
                          have hcs : cellsOfS cells x = sm := by have := H8.out; simp at this; simp [cellsOfS, this, HO.out.2.1]
                          have hcw := wid_snoc HX.out.2.1 HX.out.1 HS.out
                          rw [hcs] at hcw
                          refine ⟨k + 1, cells ++ [sm], A5, c5, hlt, by simp, by rw [List.length_append, hck]; rfl, hcw, ?_, ?_⟩
                          · have := hap.own
                            unfold CellsR
                            rw [natV_snoc, List.length_append, hck]
                            exact this
                          · exact ((HX.out.2.2.1.trans HX.out.2.2.2).trans HV.out.2).trans_new hapc fun b t hb h => by omega
                        case measure => simp [intOf]; omega
                  · as_aux_lemma =>
                      have H8 := Lib.hid h8
                      obtain ⟨b4, o4, y, A4, c4, hA4, hky, _, _, hl4, y0, y1, y2⟩ := (HT.out.keep (HX.out.2.2.1.trans (HX.out.2.2.2.trans HV.out.2)) (fun _ _ _ => id)).at_ (k := j) (by omega)
                      cases hA4
                      have hcy : cShape y ≤ 1099511627776 := sum_le_of cShape hky h1
                      have hcx : cShape x ≤ 1099511627776 := sum_le_of cShape HX.out.1 h1
                      have hds := dup_snoc hky (show x.kind ≠ 8 by simpa using H8.out)
                      have HY := Lib.hid hds
                      have hlx := HC.out.2.1.keep HV.out.2 (fun _ _ _ => id)
                      clear hds hky
                      cases ov
                      · clear hl4 hlx hcy hcx
                        go_wp2_with fail
                        go_quiet (fail)
                        go_wp2
                        go_roundw
                        case rel => exact ⟨j + 1, hjk, by simp, congrArg Value.bool (dup_stop HV.out.1 HY.out).symm, HV.out.2.trans (chg_drewN _ _)⟩
                        case measure => simp [intOf]; omega
                      · cases he : sameShape y x
                        all_goals
                          have He := Lib.hid he
                          clear he
                          go_wp2_with fail
                          have hK : w4.cell? ⟨bb, o + j * 3, none⟩ = some (.int .i64 y.kind) ∧ w4.cell? ⟨bb, o + j * 3 + 1, none⟩ = some (.slice A4 y.list.length c4) ∧ w4.cell? ⟨bb, o + j * 3 + 2, none⟩ = some (.int .i64 y.res) ∧ w4.cell? ⟨wo.heap.size, 0, none⟩ = some (.int .i64 x.kind) ∧ w4.cell? ⟨wo.heap.size, 1, none⟩ = some (.slice A3 x.list.length c3) ∧ w4.cell? ⟨wo.heap.size, 2, none⟩ = some (.int .i64 x.res) ∧ Chg (fun _ _ => False) w4 w4 := ⟨y0, y1, y2, d0, d1, d2, Chg.refl _ _⟩
                          have hKd := held6 hK (Chg.refl (fun _ _ => False) w4).drew
                          have HLL := Lib.hid (And.intro hl4 (And.intro hlx (And.intro hcy hcx)))
                          clear hl4 hlx hcy hcx d0 d1 d2 y0 y1 y2 hK
                          have hj0 : (0 : Int) ≤ (j : Int) := by omega
                          have hjn : (j : Int) < (types.length : Int) := by omega
                          have hjm : (j : Int) ≤ (types.length : Int) := by omega
                          go_region_held3 (fun w' => w'.cell? ⟨bb, o + j * 3, none⟩ = some (.int .i64 y.kind) ∧ w'.cell? ⟨bb, o + j * 3 + 1, none⟩ = some (.slice A4 y.list.length c4) ∧ w'.cell? ⟨bb, o + j * 3 + 2, none⟩ = some (.int .i64 y.res) ∧ w'.cell? ⟨wo.heap.size, 0, none⟩ = some (.int .i64 x.kind) ∧ w'.cell? ⟨wo.heap.size, 1, none⟩ = some (.slice A3 x.list.length c3) ∧ w'.cell? ⟨wo.heap.size, 2, none⟩ = some (.int .i64 x.res) ∧ Chg (fun _ _ => False) w4 w')
                            (assumption)
                            (first
                              | (go_at_call 33
                                 refine (rsame1_any _ B y x _ _ _ _ (HLL.out.1.keep (held6_chg (by assumption)) (fun _ _ _ => id)) (HLL.out.2.1.keep (held6_chg (by assumption)) (fun _ _ _ => id)) HLL.out.2.2.1 HLL.out.2.2.2).mono ?_
                                 intro e w3 hh
                                 replace hh := hh.of He.out
                                 obtain ⟨rfl, hc5⟩ := hh
                                 have hS := held6 (by assumption) hc5
                                 clear hc5))
                          have hc6 := held6_chg (by assumption)
                          have HE := Lib.hid (HV.out.2.trans hc6)
                          clear hc6
                          go_wp2_with fail
                          go_roundw
                          case rel => exact ⟨j + 1, hjk, by simp, congrArg Value.bool (dup_go HV.out.1 HY.out He.out).symm, HE.out⟩
                          case measure => simp [intOf]; omega
                · have hjk2 : j = k := by omega
                  cases h8 : (x.kind != 8)
                  · as_aux_lemma =>
                      have H8 := Lib.hid h8
                      have HS := Lib.hid (sound_end HX.out.2.1 (types := types) (k := k) (cells := cells) (x := x) (hd := hd) (sm := sm) (ok := ok) HO.out.1 HO.out.2.1 HO.out.2.2 Hp.out (j := j) (ov := ov) HV.out.1 (.inr hjk2))
                      cases ov
                      · go_wp2_with fail
                        go_ret2
                        exact WidRes.bad (Chg.below ((HX.out.2.2.1.trans HX.out.2.2.2).trans HV.out.2) (fun _ _ h => h.elim) (Nat.le_refl _)) (wid_bad HX.out.2.1 HX.out.1 HS.out)
                      · have how := HV.out.2.own HC.out.1 (fun _ _ => id)
                        rw [hck] at how
                        have hbase3 : w.heap.size ≤ w4.heap.size := Nat.le_trans hbase (Nat.le_trans HX.out.2.2.2.size HV.out.2.size)
                        go_wp2_with (at_builtin; go_must (refine wpList_append_new rfl (.tmp 142) (.tmp 144) 36 rfl w.heap.size 3 i3 (.int .i64 0) 1 8 Try.underlying36 hi3 hz3 hs3 hb3 rfl (by omega) A2 k c2 (natV cells) rfl how 1 1 [.int .i64 (sm : Int)] rfl (by first | rfl | simp) rfl (by intro u hu; simp at hu; subst hu; rfl) (by simp only [maxLen]; omega) (by omega) hbase3 ?_))
                        intro A5 c5 w5 hap
                        have hapc := hap.chg how
                        have HAP := Lib.hid (And.intro hap hapc)
                        clear hap hapc how
                        go_wp2
                        go_roundw
                        case rel =>
                          obtain ⟨hap, hapc⟩ := HAP.out
                          have hcs : cellsOfS cells x = sm := by have := H8.out; simp at this; simp [cellsOfS, this, HO.out.2.1]
                          have hcw := wid_snoc HX.out.2.1 HX.out.1 HS.out
                          rw [hcs] at hcw
                          refine ⟨k + 1, cells ++ [sm], A5, c5, hlt, by simp, by rw [List.length_append, hck]; rfl, hcw, ?_, ?_⟩
                          · have := hap.own
                            unfold CellsR
                            rw [natV_snoc, List.length_append, hck]
                            exact this
                          · exact ((HX.out.2.2.1.trans HX.out.2.2.2).trans HV.out.2).trans_new hapc fun b t hb h => by omega
                        case measure => simp [intOf]; omega
                  · as_aux_lemma =>
                      have H8 := Lib.hid h8
                      have HS := Lib.hid (sound_end HX.out.2.1 (types := types) (k := k) (cells := cells) (x := x) (hd := hd) (sm := sm) (ok := ok) HO.out.1 HO.out.2.1 HO.out.2.2 Hp.out (j := j) (ov := ov) HV.out.1 (.inr hjk2))
                      cases ov
                      · go_wp2_with fail
                        go_ret2
                        exact WidRes.bad (Chg.below ((HX.out.2.2.1.trans HX.out.2.2.2).trans HV.out.2) (fun _ _ h => h.elim) (Nat.le_refl _)) (wid_bad HX.out.2.1 HX.out.1 HS.out)
                      · have how := HV.out.2.own HC.out.1 (fun _ _ => id)
                        rw [hck] at how
                        have hbase3 : w.heap.size ≤ w4.heap.size := Nat.le_trans hbase (Nat.le_trans HX.out.2.2.2.size HV.out.2.size)
                        go_wp2_with (at_builtin; go_must (refine wpList_append_new rfl (.tmp 142) (.tmp 144) 36 rfl w.heap.size 3 i3 (.int .i64 0) 1 8 Try.underlying36 hi3 hz3 hs3 hb3 rfl (by omega) A2 k c2 (natV cells) rfl how 1 1 [.int .i64 1] rfl (by first | rfl | simp) rfl (by intro u hu; simp at hu; subst hu; rfl) (by simp only [maxLen]; omega) (by omega) hbase3 ?_))
                        intro A5 c5 w5 hap
                        have hapc := hap.chg how
                        have HAP := Lib.hid (And.intro hap hapc)
                        clear hap hapc how
                        go_wp2
                        go_roundw
                        case rel =>
                          obtain ⟨hap, hapc⟩ := HAP.out
                          have hcs : cellsOfS cells x = 1 := by have := H8.out; simp at this; simp [cellsOfS, this]
                          have hcw := wid_snoc HX.out.2.1 HX.out.1 HS.out
                          rw [hcs] at hcw
                          refine ⟨k + 1, cells ++ [1], A5, c5, hlt, by simp, by rw [List.length_append, hck]; rfl, hcw, ?_, ?_⟩
                          · have := hap.own
                            unfold CellsR
                            rw [natV_snoc, List.length_append, hck]
                            exact this
                          · exact ((HX.out.2.2.1.trans HX.out.2.2.2).trans HV.out.2).trans_new hapc fun b t hb h => by omega
                        case measure => simp [intOf]; omega
    · obtain rfl : k = types.length := by omega
      rw [List.take_length] at hwid
      have HE := Lib.hid (And.intro hwid (And.intro hcl hch))
      have HL := Lib.hid (And.intro hlen h64)
      clear hwid hcl hch hlen h64
      go_wp2_with fail
      go_ret2
      refine WidRes.good (l := types) (c := cells) ?_ (wid_full (k := types.length) (by simp only [List.take_length]; exact HE.out.1) (Nat.le_refl _)) rfl ?_
      · exact Chg.below HE.out.2.2 (fun _ _ h => h.elim) (Nat.le_refl _)
      · exact HE.out.2.1
end Go.Proofs.Ytfmhedpjkpaohaa
