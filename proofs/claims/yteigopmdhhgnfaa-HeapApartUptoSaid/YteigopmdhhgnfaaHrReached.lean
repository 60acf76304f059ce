/-
  Reached of the reference's heap: sweep by sweep, till nothing is added.
-/
import Derived.Test.YteigopmdhhgnfaaHrOn
namespace Go.Proofs.Yteigopmdhhgnfaa
open Go.RowKit
set_option linter.unusedVariables false
set_option linter.unusedSimpArgs false

theorem on_cell {w : World} {b k : Nat} {L : List Bool} (h : Blk w b 4 (bools L)) {v : Bool} (hk : L[k]? = some v) : w.cell? ⟨b, k, none⟩ = some (.bool v) := by
  have := h.cell k
  rw [bools_at, hk] at this
  simpa using this
theorem on_store {w w0 : World} {b k : Nat} {L : List Bool} (h : Blk w b 4 (bools L)) (hc : Chg (fun _ _ => False) w0 w) (hb : w0.heap.size ≤ b) : Blk (w.setCell ⟨b, k, none⟩ (.bool true)) b 4 (bools (L.set k true)) ∧ Chg (fun _ _ => False) w0 (w.setCell ⟨b, k, none⟩ (.bool true)) := by
  have h1 := h.set_ k (.bool true)
  rw [bools_set] at h1
  exact ⟨h1, hc.setNew k _ hb⟩
def rd1 (S : List ObjD) (roots : List Int) (b : Nat) (w : World) (i : Value) (wr : World) : Prop :=
  ∃ (k : Nat) (L : List Bool), k ≤ roots.length ∧ i = .int .i64 (k : Int) ∧ sndL S roots L ∧ (∀ j, j < k → ∀ x : Nat, (x : Int) = roots.getD j 0 → onL S L x) ∧ Blk wr b 4 (bools L) ∧ Chg (fun _ _ => False) w wr
def rd2 (S : List ObjD) (roots : List Int) (b : Nat) (w : World) (m : Value) (wr : World) : Prop :=
  ∃ (more : Bool) (L : List Bool), m = .bool more ∧ sndL S roots L ∧ dirL S roots L ∧ Blk wr b 4 (bools L) ∧ Chg (fun _ _ => False) w wr ∧ (more = false → L = S.map fun o => rchB S roots o.name)
def rd3 (S : List ObjD) (roots : List Int) (b K0 : Nat) (w : World) (m i : Value) (wr : World) : Prop :=
  ∃ (more : Bool) (k : Nat) (L : List Bool), m = .bool more ∧ i = .int .i64 (k : Int) ∧ k ≤ S.length ∧ SwL S roots K0 k 0 more L ∧ Blk wr b 4 (bools L) ∧ Chg (fun _ _ => False) w wr
def rd4 (S : List ObjD) (roots : List Int) (b K0 k n : Nat) (w : World) (m i : Value) (wr : World) : Prop :=
  ∃ (more : Bool) (d : Nat) (L : List Bool), m = .bool more ∧ i = .int .i64 (d : Int) ∧ d ≤ n ∧ SwL S roots K0 k d more L ∧ Blk wr b 4 (bools L) ∧ Chg (fun _ _ => False) w wr
def moreN (m : Value) : Nat := match m with | .bool true => 1 | _ => 0
set_option maxRecDepth 100000 in
set_option maxHeartbeats 8000000 in
theorem rreached_any (F : Nat → Prop) (B : Nat) (w : World) (q : Nat) (A : Option Addr) (c : Nat) (S : List ObjD) (bud : Nat) (roots : List Int) (RA : Option Addr) (rc : Nat) (h : RhI F w q A c S bud) (hr : SlR B 0 1 IntZ w (.slice RA roots.length rc) roots) (hl : roots.length ≤ 1048576) :
    Calls Try.prog 32 #[.pointer (some ⟨q, 0, none⟩), .slice RA roots.length rc] w fun e w' => ∃ b, e = .returned (.slice (some ⟨b, 0, none⟩) S.length S.length) ∧ w.heap.size ≤ b ∧ Blk w' b 4 (bools (S.map fun o => rchB S roots o.name)) ∧ Chg (fun _ _ => False) w w' := by
  have hS := Nat.le_trans (len_le_used S) (Nat.le_trans h.room.1 h.room.2)
  have x0 : w.cell? ⟨q, 0, none⟩ = some (.slice A S.length c) := by simpa using h.blk.cell 0
  have hmk : (Instr.makeSlice 23 (.int .i64 (S.length : Int)) (.int .i64 (S.length : Int))).run Try.prog w = .ok (.slice (some ⟨w.heap.size, 0, none⟩) S.length S.length) (w.alloc (.cells (bools (List.replicate S.length false)) 4)) := by
    obtain ⟨i, hi, hz, hs, hb⟩ := info_parts infoBool
    have hr := run_make (P := Try.prog) w 23 4 i _ Try.underlying23 hi hz .i64 .i64 S.length S.length (by omega) (by omega) (by rw [hb]; omega) (by omega)
    rw [hs] at hr
    simp only [Int.toNat_natCast] at hr
    rw [hr, ← bools_made]
    rfl
  have hb0 := Blk.new w 4 (bools (List.replicate S.length false))
  have hc0 := chg_alloc w (.cells (bools (List.replicate S.length false)) 4)
  obtain ⟨b, hbe⟩ : ∃ b, w.heap.size = b := ⟨_, rfl⟩
  rw [hbe] at hmk hb0
  have hbge : w.heap.size ≤ b := by omega
  have HH := Lib.hid (And.intro h (And.intro hr (And.intro hb0 (And.intro hc0 hbge))))
  clear h hr hb0 hc0 hbe hbge
  go_enter Try.func32, Try.ntmps32
  go_wp2_with fail
  generalize w.alloc _ = w1 at HH ⊢
  clear x0 hmk
  have hst : rd1 S roots b w (.int .i64 0) w1 := ⟨0, _, Nat.zero_le _, rfl, ⟨by simp, fun k o hk hh => by rw [List.getElem?_replicate] at hh; split at hh <;> cases hh⟩, fun j hj => absurd hj (Nat.not_lt_zero _), HH.out.2.2.1, HH.out.2.2.2.1⟩
  have HST := Lib.hid hst
  clear hst
  go_loopw [6] (fun i wr => rd1 S roots b w i wr) (fun i _ => roots.length - (intOf i).toNat)
  case atStart => exact HST.out
  case round =>
    obtain ⟨k, L, hk, rfl, hsn, hdi, hbk, hch⟩ := hrel
    have q3 : IntKind.i64.wrap ((k : Int) + 1) = (k : Int) + 1 := IntWalk.i64_in _ ⟨by omega, by omega⟩
    by_cases hlt : k < roots.length
    · have q1 : decide (k < roots.length) = true := decide_eq_true hlt
      have q2 : (k : Int) < (roots.length : Int) := by omega
      obtain ⟨rb, ro, rfl, z0⟩ := int_at (SlR.keep HH.out.2.1 hch (no_letsH _ _) fun _ _ h => h) hlt
      obtain ⟨y, hy⟩ : ∃ y, roots.getD k 0 = y := ⟨_, rfl⟩
      rw [hy] at z0
      have hym : y ∈ roots := by rw [← hy, List.getD_eq_getElem?_getD, List.getElem?_eq_getElem hlt]; exact List.getElem_mem hlt
      have hat := rat_any F wr q A c S bud y (HH.out.1.keep hch fun _ _ _ => id)
      cases hq : findO S y with
      | none =>
        rw [(atO_find S 0).1 hq] at hat
        have HR := Lib.hid (And.intro hsn (And.intro (show ∀ j, j < k + 1 → ∀ x : Nat, (x : Int) = roots.getD j 0 → onL S L x from fun j hj x hx => by
          rcases Nat.lt_or_ge j k with h1 | h1
          · exact hdi j h1 x hx
          · rw [show j = k by omega, hy] at hx
            exact on_none (by rw [hx]; exact hq)) (And.intro hbk hch)))
        clear hsn hdi hbk hch hq hym hy
        go_wp2_with fail
        refine hat.mono fun e w2 h => ?_
        obtain ⟨rfl, hc2⟩ := h
        have HC := Lib.hid hc2
        clear hat hc2
        go_wp2_with fail
        go_roundw
        case rel => exact ⟨k + 1, L, hlt, by simp, HR.out.1, HR.out.2.1, HC.out.blk HR.out.2.2.1 id, HR.out.2.2.2.trans HC.out⟩
        case measure => simp [intOf]; omega
      | some o =>
        obtain ⟨j, hj, hja⟩ := atO_idx S 0 hq
        rw [Nat.zero_add] at hja
        rw [hja] at hat
        have hjl := (List.getElem?_eq_some_iff.1 hj).1
        have p2 : (j : Int) < (S.length : Int) := by omega
        obtain ⟨u, hju⟩ : ∃ u, L[j]? = some u := ⟨_, List.getElem?_eq_getElem (by rw [hsn.1]; exact hjl)⟩
        have hon := findO_mem hq
        have HR := Lib.hid (And.intro (snd_set hsn hj (.root o.name (by rw [hon.2]; exact hym) (by rw [hon.2, hq]; rfl))) (And.intro (show ∀ j', j' < k + 1 → ∀ x : Nat, (x : Int) = roots.getD j' 0 → onL S (L.set j true) x from fun j' hj' x hx => by
          rcases Nat.lt_or_ge j' k with h1 | h1
          · exact on_keeps (hdi j' h1 x hx)
          · rw [show j' = k by omega, hy] at hx
            have : x = o.name := by omega
            rw [this]
            exact on_set HH.out.1.good.sorted hj hsn.1) (And.intro hbk (And.intro hch hju))))
        clear hsn hdi hbk hch hq hym hy hj hja hjl hon hju
        go_wp2_with fail
        refine hat.mono fun e w2 h => ?_
        obtain ⟨rfl, hc2⟩ := h
        have hb2 := hc2.blk HR.out.2.2.1 id
        have y0 := on_cell hb2 HR.out.2.2.2.2
        have y0f := hb2.frozen j
        have HC := Lib.hid (on_store (k := j) hb2 (HR.out.2.2.2.1.trans hc2) HH.out.2.2.2.2)
        clear hat hc2 hb2
        go_wp2_with fail
        go_roundw
        case rel => exact ⟨k + 1, L.set j true, hlt, by simp, HR.out.1, HR.out.2.1, HC.out.1, HC.out.2⟩
        case measure => simp [intOf]; omega
    · have q1 : decide (k < roots.length) = false := decide_eq_false hlt
      obtain rfl : k = roots.length := by omega
      have hst : rd2 S roots b w (.bool true) wr := ⟨true, L, rfl, hsn, fun x hx => by
        obtain ⟨j, hj, he⟩ := List.mem_iff_getElem.1 hx
        exact hdi j hj x (by rw [List.getD_eq_getElem?_getD, List.getElem?_eq_getElem hj, he]; rfl), hbk, hch, fun h => by cases h⟩
      have HST := Lib.hid hst
      clear hst hsn hdi hbk hch
      go_wp2_with fail
      go_loopw [8] (fun m wr => rd2 S roots b w m wr) (fun m wr => 2 * offW wr b + moreN m)
      case atStart => exact HST.out
      case round =>
        obtain ⟨more, L, rfl, hsn, hdi, hbk, hch, hfin⟩ := hrel
        cases more with
        | false =>
          have HF := Lib.hid (And.intro (hfin rfl) (And.intro hbk hch))
          clear hsn hdi hbk hch hfin
          go_wp2_with fail
          go_ret
          exact ⟨b, rfl, HH.out.2.2.2.2, by rw [← HF.out.1]; exact HF.out.2.1, HF.out.2.2⟩
        | true =>
          have hoff := offW_of hbk
          have hst : rd3 S roots b (offN L) w (.bool false) (.int .i64 0) wr := ⟨false, 0, L, rfl, rfl, Nat.zero_le _, SwL.start hsn hdi, hbk, hch⟩
          have HS2 := Lib.hid (And.intro hst hoff)
          clear hst hsn hdi hbk hch hfin hoff
          go_wp2_with fail
          go_loopw [8, 9] (fun m i wr => rd3 S roots b (offN L) w m i wr) (fun _ i _ => S.length - (intOf i).toNat)
          case atStart => exact HS2.out.1
          case round =>
            obtain ⟨more, k, L1, rfl, rfl, hk, hsw, hbk, hch⟩ := hrel
            have q3 : IntKind.i64.wrap ((k : Int) + 1) = (k : Int) + 1 := IntWalk.i64_in _ ⟨by omega, by omega⟩
            have hH := HH.out.1.keep hch fun _ _ _ => id
            have x0 : wr.cell? ⟨q, 0, none⟩ = some (.slice A S.length c) := by simpa using hH.blk.cell 0
            by_cases hlt : k < S.length
            · have q1 : decide (k < S.length) = true := decide_eq_true hlt
              have q2 : (k : Int) < (S.length : Int) := by omega
              obtain ⟨o, hko⟩ : ∃ o, S[k]? = some o := ⟨_, List.getElem?_eq_getElem hlt⟩
              have hst : rd4 S roots b (offN L) k o.cells.length w (.bool more) (.int .i64 0) wr := ⟨more, 0, L1, rfl, rfl, Nat.zero_le _, hsw, hbk, hch⟩
              have HS3 := Lib.hid (And.intro hst hko)
              clear hst hsw hbk hch hH hko
              go_wp2_with fail
              clear x0
              go_loopw [8, 10] (fun m i wr => rd4 S roots b (offN L) k o.cells.length w m i wr) (fun _ i _ => o.cells.length - (intOf i).toNat)
              case atStart => exact HS3.out.1
              case round =>
                obtain ⟨more, d, L2, rfl, rfl, hd, hsw, hbk, hch⟩ := hrel
                obtain ⟨v, hkv⟩ : ∃ v, L2[k]? = some v := ⟨_, List.getElem?_eq_getElem (by rw [hsw.snd.1]; exact hlt)⟩
                have y0 := on_cell hbk hkv
                cases v with
                | false =>
                  have HX := Lib.hid (And.intro (hsw.next fun o' ho' hh => by rw [hkv] at hh; cases hh) (And.intro hbk hch))
                  clear hsw hbk hch hkv
                  go_wp2_with fail
                  go_roundw
                  case rel => exact ⟨more, k + 1, L2, rfl, by simp, hlt, HX.out.1, HX.out.2.1, HX.out.2.2⟩
                  case measure => simp [intOf]; omega
                | true =>
                  have hH := HH.out.1.keep hch fun _ _ _ => id
                  have hgd := HH.out.1.good
                  have x0 : wr.cell? ⟨q, 0, none⟩ = some (.slice A S.length c) := by simpa using hH.blk.cell 0
                  obtain ⟨gb, o', A1, c1, A2, c2, rfl, hx', hV, z0, z1, z2⟩ := hH.objs.at_ hlt
                  obtain rfl : o' = o := by rw [HS3.out.2] at hx'; exact (Option.some.inj hx').symm
                  obtain ⟨B1, d1, B2, d2, he, hr1, hr2, _⟩ := hV
                  obtain ⟨rfl, rfl, rfl, rfl⟩ : A1 = B1 ∧ c1 = d1 ∧ A2 = B2 ∧ c2 = d2 := by simpa [and_assoc] using he
                  by_cases hdl : d < o'.cells.length
                  · have p1 : (d : Int) < (o'.cells.length : Int) := by omega
                    have p2 : decide (d < o'.cells.length) = true := decide_eq_true hdl
                    have q4 : IntKind.i64.wrap ((d : Int) + 1) = (d : Int) + 1 := IntWalk.i64_in _ ⟨by omega, by have := used_ge (List.mem_of_getElem? HS3.out.2); have := HH.out.1.room; omega⟩
                    have hdr : d < o'.refs.length := by rw [hgd.len o' (List.mem_of_getElem? HS3.out.2)]; exact hdl
                    have p3 : (d : Int) < (o'.refs.length : Int) := by omega
                    obtain ⟨g1, o1, rfl, y1⟩ := u64_at hr1 hdl
                    obtain ⟨g2, o2, rfl, y2⟩ := boo_at hr2 hdr
                    obtain ⟨y, hy⟩ : ∃ y, o'.cells.getD d 0 = y := ⟨_, rfl⟩
                    have hyc : o'.cells[d]? = some y := by rw [← hy, List.getD_eq_getElem?_getD, List.getElem?_eq_getElem hdl]; rfl
                    have hrc : o'.refs[d]? = some (o'.refs.getD d false) := by rw [List.getD_eq_getElem?_getD, List.getElem?_eq_getElem hdr]; rfl
                    rw [hy] at y1
                    cases hrf : o'.refs.getD d false with
                    | false =>
                      rw [hrf] at y2 hrc
                      have HX := Lib.hid (And.intro (hsw.step HS3.out.2 fun _ y' _ hh => by rw [hrc] at hh; cases hh) (And.intro hbk hch))
                      clear hsw hbk hch hkv hH hgd hx' he hr1 hr2 hdr hy hyc hrc hrf
                      go_wp2_with fail
                      go_roundw
                      case rel => exact ⟨more, d + 1, L2, rfl, by simp, hdl, HX.out.1, HX.out.2.1, HX.out.2.2⟩
                      case measure => simp [intOf]; omega
                    | true =>
                      rw [hrf] at y2 hrc
                      have hyo : y ∈ outsO o' := (mem_outs (hgd.len o' (List.mem_of_getElem? HS3.out.2))).2 ⟨d, hyc, hrc⟩
                      have hyt : y ≤ 65536 := by
                        rcases hgd.closed o' (List.mem_of_getElem? HS3.out.2) y hyo with h0 | h0
                        · omega
                        · obtain ⟨z, hz, he'⟩ := findO_isSome.1 h0
                          have := hgd.top z hz
                          omega
                      have q8 : IntKind.i64.wrap (y : Int) = (y : Int) := IntWalk.i64_in _ ⟨by omega, by omega⟩
                      have hat := rat_any F wr q (some ⟨gb, 0, none⟩) c S bud (y : Int) hH
                      cases hq : findO S (y : Int) with
                      | none =>
                        rw [(atO_find S 0).1 hq] at hat
                        have HX := Lib.hid (And.intro (hsw.step HS3.out.2 fun _ y' hy' _ => by rw [hyc] at hy'; injection hy' with hy'; subst hy'; exact on_none hq) (And.intro hbk hch))
                        clear hsw hbk hch hkv hH hgd hx' he hr1 hr2 hdr hy hyc hrc hrf hq hyo hyt
                        go_wp2_with fail
                        refine hat.mono fun e w2 h => ?_
                        obtain ⟨rfl, hc2⟩ := h
                        have HC := Lib.hid hc2
                        clear hat hc2 x0 z0 z1 z2 y0 y1 y2
                        go_wp2_with fail
                        go_roundw
                        case rel => exact ⟨more, d + 1, L2, rfl, by simp, hdl, HX.out.1, HC.out.blk HX.out.2.1 id, HX.out.2.2.trans HC.out⟩
                        case measure => simp [intOf]; omega
                      | some o2x =>
                        obtain ⟨j, hj, hja⟩ := atO_idx S 0 hq
                        rw [Nat.zero_add] at hja
                        rw [hja] at hat
                        have hjl := (List.getElem?_eq_some_iff.1 hj).1
                        have p4 : (j : Int) < (S.length : Int) := by omega
                        have hon := findO_mem hq
                        have hrch : Rch S roots o2x.name := .step o'.name o2x.name o' (hsw.snd.2 k o' HS3.out.2 hkv) (findO_some hgd.sorted (List.mem_of_getElem? HS3.out.2)) (by rw [show o2x.name = y by omega]; exact hyo) (findO_isSome.2 ⟨o2x, hon.1, rfl⟩)
                        obtain ⟨u, hju⟩ : ∃ u, L2[j]? = some u := ⟨_, List.getElem?_eq_getElem (by rw [hsw.snd.1]; exact hjl)⟩
                        cases u with
                        | true =>
                          have HX := Lib.hid (And.intro (hsw.step HS3.out.2 fun _ y' hy' _ => by rw [hyc] at hy'; injection hy' with hy'; subst hy'; exact fun j' x hx hn => by rw [name_inj hgd.sorted hx hj (by omega)]; exact hju) (And.intro hbk (And.intro hch hju)))
                          clear hsw hbk hch hkv hH hgd hx' he hr1 hr2 hdr hy hyc hrc hrf hq hyo hyt hj hja hjl hon hrch hju
                          go_wp2_with fail
                          refine hat.mono fun e w2 h => ?_
                          obtain ⟨rfl, hc2⟩ := h
                          clear hat x0 z0 z1 z2 y0 y1 y2
                          have y0 := on_cell (hc2.blk HX.out.2.1 id) HX.out.2.2.2
                          have HC := Lib.hid hc2
                          clear hc2
                          go_wp2_with fail
                          go_roundw
                          case rel => exact ⟨more, d + 1, L2, rfl, by simp, hdl, HX.out.1, HC.out.blk HX.out.2.1 id, HX.out.2.2.1.trans HC.out⟩
                          case measure => simp [intOf]; omega
                        | false =>
                          have HX := Lib.hid (And.intro (hsw.mark hj hrch hju) (And.intro hbk (And.intro hch hju)))
                          clear hsw hbk hch hkv hH hgd hx' he hr1 hr2 hdr hy hyc hrc hrf hq hyo hyt hj hja hjl hon hrch hju
                          go_wp2_with fail
                          refine hat.mono fun e w2 h => ?_
                          obtain ⟨rfl, hc2⟩ := h
                          clear hat x0 z0 z1 z2 y0 y1 y2
                          have hb2 := hc2.blk HX.out.2.1 id
                          have y0 := on_cell hb2 HX.out.2.2.2
                          have y0f := hb2.frozen j
                          have HC := Lib.hid (on_store (k := j) hb2 (HX.out.2.2.1.trans hc2) HH.out.2.2.2.2)
                          clear hc2 hb2
                          go_wp2_with fail
                          go_roundw
                          case rel => exact ⟨true, d + 1, L2.set j true, rfl, by simp, hdl, HX.out.1, HC.out.1, HC.out.2⟩
                          case measure => simp [intOf]; omega
                  · have p2 : decide (d < o'.cells.length) = false := decide_eq_false hdl
                    have HX := Lib.hid (And.intro (hsw.next fun o2 ho2 hh => by rw [HS3.out.2] at ho2; injection ho2 with ho2; subst ho2; omega) (And.intro hbk hch))
                    clear hsw hbk hch hkv hH hgd hx' he hr1 hr2
                    go_wp2_with fail
                    go_roundw
                    case rel => exact ⟨more, k + 1, L2, rfl, by simp, hlt, HX.out.1, HX.out.2.1, HX.out.2.2⟩
                    case measure => simp [intOf]; omega
            · have q1 : decide (k < S.length) = false := decide_eq_false hlt
              obtain rfl : k = S.length := by omega
              have HX := Lib.hid (And.intro hsw (And.intro hbk hch))
              clear hsw hbk hch hH
              go_wp2_with fail
              go_roundw
              case rel => exact ⟨more, L1, rfl, HX.out.1.snd, HX.out.1.dir, HX.out.2.1, HX.out.2.2, fun hm => by subst hm; exact HX.out.1.all HH.out.1.good⟩
              case measure =>
                have h1 := offW_of HX.out.2.1
                have h2 := HX.out.1.le
                have h3 := HX.out.1.lt
                have h4 := HS2.out.2
                cases more with
                | true => have := h3 rfl; simp [moreN]; omega
                | false => simp [moreN]; omega
end Go.Proofs.Yteigopmdhhgnfaa
