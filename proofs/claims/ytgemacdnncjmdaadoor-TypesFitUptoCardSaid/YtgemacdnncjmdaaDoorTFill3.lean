/-
  ref02.Fill: a type with what names stand for, in new memory.
-/
import Derived.Test.YtgemacdnncjmdaaDoorTFill2
import Derived.BigQuiet
namespace Go.Proofs.YtgemacdnncjmdaaDoor
open Go.RowKit
set_option linter.unusedVariables false
set_option linter.unusedSimpArgs false

theorem assoc_at : ∀ {ns : List ByteArray} {ts : List Ty} {k : Nat} {x n : ByteArray} {t : Ty}, (∀ j < k, ∀ y, ns[j]? = some y → ¬ x = y) → ns[k]? = some n → ts[k]? = some t → x = n → assoc ns ts x = some t
  | n :: ns, t :: ts, 0, x, n', t', _, hn, ht, hx => by
    simp at hn ht
    subst hn ht hx
    unfold assoc
    rw [eqB_self]
    rfl
  | n :: ns, t :: ts, k + 1, x, n', t', h0, hn, ht, hx => by
    unfold assoc
    rw [eqB_false.2 (h0 0 (by omega) n rfl)]
    simp only [Bool.false_eq_true, if_false]
    exact assoc_at (k := k) (fun j hj y hy => h0 (j + 1) (by omega) y (by simpa using hy)) (by simpa using hn) (by simpa using ht) hx
  | [], _, k, _, _, _, _, hn, _, _ => by simp at hn
  | _ :: _, [], k, _, _, _, _, _, ht, _ => by simp at ht
theorem assoc_none : ∀ {ns : List ByteArray} {ts : List Ty} {x : ByteArray}, (∀ y ∈ ns, ¬ x = y) → assoc ns ts x = none
  | [], _, _, _ => by simp [assoc]
  | _ :: _, [], _, _ => by simp [assoc]
  | n :: ns, t :: ts, x, h => by
    unfold assoc
    rw [eqB_false.2 (h n (by simp))]
    simp only [Bool.false_eq_true, if_false]
    exact assoc_none fun y hy => h y (by simp [hy])
/-- No name so far is the type's. -/
def NoName (t : Ty) (names : List ByteArray) (k : Nat) : Prop := t.kind = 12 → ∀ j < k, ∀ y, names[j]? = some y → ¬ t.name = y
def fillRel1 (t : Ty) (names : List ByteArray) (W : World) (i : Value) (wr : World) : Prop := ∃ k : Nat, k ≤ names.length ∧ i = .int .i64 k ∧ NoName t names k ∧ Chg (fun _ _ => False) W wr
def fdR (m : Nat) (G : Nat → Prop) (w : World) (cs : List Value) (p : ByteArray × Ty) : Prop := FdR (TyN m G) w cs p
theorem fdR_keepR (m : Nat) (G : Nat → Prop) (M : Nat → Nat → Prop) (w w' : World) (hc : Chg M w w') (hm : ∀ b t, G b → (t = 35 ∨ t = 33) → ¬ M b t) (cs : List Value) (p : ByteArray × Ty) (h : fdR m G w cs p) : fdR m G w' cs p := FdR.imp h fun _ _ h => TyN.keep hc hm h
theorem fdR_subR (m : Nat) (G G' : Nat → Prop) (w : World) (hG : ∀ b, b < w.heap.size → G b → G' b) (cs : List Value) (p : ByteArray × Ty) (h : fdR m G w cs p) : fdR m G' w cs p := FdR.imp h fun _ _ h => TyN.sub hG h
def fillP (f : ByteArray → Option Ty) (p : ByteArray × Ty) : ByteArray × Ty := (p.1, p.2.fill f)
def fillRel2 (D m g : Nat) (f : ByteArray → Option Ty) (t : Ty) (W : World) (i : Value) (wr : World) : Prop :=
  ∃ (k : Nat) (A : Option Addr) (c : Nat), k ≤ t.fields.length ∧ i = .int .i64 k ∧ Blk wr g 33 #[.int .i64 t.kind, .string t.name, .int .i64 t.con, .slice A k c, .slice none 0 0, .slice none 0 0] ∧ GrowR D 35 7 (fdR m) wr A c ((t.fields.take k).map (fillP f)) ∧
    Chg (fun b t => b = g ∧ t = 33) W wr
theorem fld_at {n B k len c : Nat} {w : World} {A : Option Addr} {l : List (ByteArray × Ty)} (h : SlR B 0 7 (FdR (TyR n B)) w (.slice A len c) l) (hk : k < l.length) :
    ∃ b o nm t Af cf Al cl Ar cr, A = some ⟨b, o, none⟩ ∧ b < B ∧ l[k]? = some (nm, t) ∧ nm.size ≤ 1048576 ∧ TyR n B w (tyCells t.kind t.name t.con Af t.fields.length cf Al t.list.length cl Ar t.res.length cr) t ∧
      w.cell? ⟨b, o + k * 7, none⟩ = some (.string nm) ∧ w.cell? ⟨b, o + k * 7 + 1, none⟩ = some (.int .i64 t.kind) ∧ w.cell? ⟨b, o + k * 7 + 2, none⟩ = some (.string t.name) ∧ w.cell? ⟨b, o + k * 7 + 3, none⟩ = some (.int .i64 t.con) ∧
      w.cell? ⟨b, o + k * 7 + 4, none⟩ = some (.slice Af t.fields.length cf) ∧ w.cell? ⟨b, o + k * 7 + 5, none⟩ = some (.slice Al t.list.length cl) ∧ w.cell? ⟨b, o + k * 7 + 6, none⟩ = some (.slice Ar t.res.length cr) := by
  obtain ⟨b, o, c', cs, hv, _, hlie, _, _, hR, hc⟩ := SlR.at_ h hk
  injection hv with hA
  have hb : b < B := hlie.elim id fun h => absurd rfl h.1
  have ht : l[k]? = some (l[k].1, l[k].2) := List.getElem?_eq_getElem hk
  obtain ⟨ds, rfl, hnm, hR⟩ := hR
  cases n with
  | zero => exact hR.elim
  | succ n =>
    have hR' := hR
    obtain ⟨hs, Af, cf, Al, cl, Ar, cr, rfl, _⟩ := hR
    exact ⟨b, o, l[k].1, l[k].2, Af, cf, Al, cl, Ar, cr, hA, hb, ht, hnm, hR', by simpa using hc 0 _ rfl, hc 1 _ rfl, hc 2 _ rfl, hc 3 _ rfl, hc 4 _ rfl, hc 5 _ rfl, hc 6 _ rfl⟩
theorem one_fld (nm : ByteArray) (a c : Int) (b : ByteArray) (Af : Option Addr) (nf cf : Nat) (Al : Option Addr) (nl cl : Nat) (Ar : Option Addr) (nr cr : Nat) : ∀ u ∈ [Value.string nm, .int .i64 a, .string b, .int .i64 c, .slice Af nf cf, .slice Al nl cl, .slice Ar nr cr], u.oneCell' = true := by
  intro u hu
  simp at hu
  rcases hu with rfl | rfl | rfl | rfl | rfl | rfl | rfl <;> rfl
theorem blk_set6 {w : World} {b T : Nat} {a0 a1 a2 a3 a4 a5 : Value} (h : Blk w b T #[a0, a1, a2, a3, a4, a5]) (v0 v1 v2 v3 v4 v5 : Value) :
    Blk ((((((w.setCell ⟨b, 0, none⟩ v0).setCell ⟨b, 1, none⟩ v1).setCell ⟨b, 2, none⟩ v2).setCell ⟨b, 3, none⟩ v3).setCell ⟨b, 4, none⟩ v4).setCell ⟨b, 5, none⟩ v5) b T #[v0, v1, v2, v3, v4, v5] ∧
      Chg (fun b' t => b' = b ∧ t = T) w ((((((w.setCell ⟨b, 0, none⟩ v0).setCell ⟨b, 1, none⟩ v1).setCell ⟨b, 2, none⟩ v2).setCell ⟨b, 3, none⟩ v3).setCell ⟨b, 4, none⟩ v4).setCell ⟨b, 5, none⟩ v5) := by
  have k1 := h.set_ 0 v0
  have k2 := k1.set_ 1 v1
  have k3 := k2.set_ 2 v2
  have k4 := k3.set_ 3 v3
  have k5 := k4.set_ 4 v4
  have k6 := k5.set_ 5 v5
  exact ⟨by simpa using k6, ((((((chg_set h v0).trans (chg_set k1 v1)).trans (chg_set k2 v2)).trans (chg_set k3 v3)).trans (chg_set k4 v4)).trans (chg_set k5 v5))⟩
theorem fill_hit {f : ByteArray → Option Ty} {t u : Ty} (h12 : t.kind = 12) (h : f t.name = some u) : t.fill f = u := by
  cases t with
  | mk k n c fs l r =>
    rw [Ty.fill_eq]
    have h1 : k = 12 := h12
    have h2 : f n = some u := h
    rw [if_pos h1, h2]
theorem fill_miss {f : ByteArray → Option Ty} {t : Ty} (h : (if t.kind = 12 then f t.name else none) = none) : t.fill f = .mk t.kind t.name t.con (t.fields.map (fillP f)) (t.list.map (Ty.fill f)) (t.res.map (Ty.fill f)) := by
  cases t with
  | mk k n c fs l r =>
    rw [Ty.fill_eq]
    have h2 : (if k = 12 then f n else none) = none := h
    rw [h2]
    rfl
theorem stays_pre (ma B : Nat) (names : List ByteArray) (args : List Ty) (An : Option Addr) (cn : Nat) (Aa : Option Addr) (ca : Nat) : Stays (fun W => StrsR B W (.slice An names.length cn) names ∧ TysR ma B W (.slice Aa args.length ca) args) :=
  fun _ _ hc h => ⟨SlR.keep h.1 hc (no_lets _ _) fun _ _ h => h, h.2.keep0 hc⟩
set_option maxRecDepth 100000 in
set_option maxHeartbeats 16000000 in
theorem fill_step (n m ma B : Nat) (names : List ByteArray) (args : List Ty) (An : Option Addr) (cn : Nat) (Aa : Option Addr) (ca : Nat) (hlen : names.length ≤ args.length) (hal : args.length ≤ 1048576) (hma : ma ≤ m + 1)
    (hA : names = [] ∨ FillC ma ma B (fun _ => none) (.slice none 0 0) (.slice none 0 0) (fun _ => True))
    (IH : FillC n m B (assoc names args) (.slice An names.length cn) (.slice Aa args.length ca) (fun W => StrsR B W (.slice An names.length cn) names ∧ TysR ma B W (.slice Aa args.length ca) args)) :
    FillC (n + 1) (m + 1) B (assoc names args) (.slice An names.length cn) (.slice Aa args.length ca) (fun W => StrsR B W (.slice An names.length cn) names ∧ TysR ma B W (.slice Aa args.length ca) args) := by
  intro w t Af cf Al cl Ar cr hB hPre hT
  obtain ⟨i44, hi44, hz44, hs44, hb44⟩ := info_parts infoField
  have hsm := hT.small
  obtain ⟨_, _, _, _, _, _, _, hcs, hFl, hLl, hRl⟩ := hT
  unfold tyCells at hcs
  injection hcs with _ hcs; injection hcs with _ hcs; injection hcs with _ hcs; injection hcs with h1 hcs; injection hcs with h2 hcs; injection hcs with h3 _
  injection h1 with h1 _ h1'; injection h2 with h2 _ h2'; injection h3 with h3 _ h3'
  subst h1 h1' h2 h2' h3 h3'

  have hb3 := (Blk.new w 33 #[.int .i64 t.kind, .string t.name, .int .i64 t.con, .slice Af t.fields.length cf, .slice Al t.list.length cl, .slice Ar t.res.length cr]).alloc (.cells #[.int .i64 0, .string ⟨#[]⟩, .int .i64 0, .slice none 0 0, .slice none 0 0, .slice none 0 0] 33)
  have hb6 := Blk.new (w.alloc (.cells #[.int .i64 t.kind, .string t.name, .int .i64 t.con, .slice Af t.fields.length cf, .slice Al t.list.length cl, .slice Ar t.res.length cr] 33)) 33 #[.int .i64 0, .string ⟨#[]⟩, .int .i64 0, .slice none 0 0, .slice none 0 0, .slice none 0 0]
  have hc0 := (chg_alloc w (.cells #[.int .i64 t.kind, .string t.name, .int .i64 t.con, .slice Af t.fields.length cf, .slice Al t.list.length cl, .slice Ar t.res.length cr] 33)).alloc (.cells #[.int .i64 0, .string ⟨#[]⟩, .int .i64 0, .slice none 0 0, .slice none 0 0, .slice none 0 0] 33)
  simp only [World.size_alloc] at hb6
  have HP := Lib.hid (And.intro hB (And.intro hPre (And.intro hA IH)))
  have HT := Lib.hid (And.intro hFl (And.intro hLl (And.intro hRl hsm)))
  clear hB hPre hA IH hFl hLl hRl hsm
  go_enter Tryd.func14, Tryd.ntmps14
  go_wp2_with fail
  generalize hW0 : (w.alloc (.cells #[.int .i64 t.kind, .string t.name, .int .i64 t.con, .slice Af t.fields.length cf, .slice Al t.list.length cl, .slice Ar t.res.length cr] 33)).alloc (.cells #[.int .i64 0, .string ⟨#[]⟩, .int .i64 0, .slice none 0 0, .slice none 0 0, .slice none 0 0] 33) = W0 at hb3 hb6 hc0 ⊢
  generalize hg6 : w.heap.size + 1 = g6 at hb6 ⊢
  generalize hg3 : w.heap.size = g3 at hb3 ⊢
  have H0 := Lib.hid (And.intro hb3 (And.intro hb6 (And.intro hc0 (show g3 = w.heap.size ∧ g6 = g3 + 1 from ⟨hg3.symm, by omega⟩))))
  clear hb3 hb6 hc0 hW0 hg6 hg3
  go_loopw [7] (fun i wr => fillRel1 t names W0 i wr) (fun i _ => names.length - (intOf i).toNat)
  case atStart => exact ⟨0, Nat.zero_le _, rfl, fun _ j hj => absurd hj (Nat.not_lt_zero _), Chg.refl _ _⟩
  case round =>
    obtain ⟨k, hk, rfl, hno, hch⟩ := hrel
    obtain ⟨c0, c1, c2, c3, c4, c5⟩ := (hch.blk H0.out.1 id).cells6
    have q3 : IntKind.i64.wrap ((k : Int) + 1) = (k : Int) + 1 := IntWalk.i64_in _ ⟨by omega, by omega⟩
    by_cases hlt : k < names.length
    · have q1 : decide (k < names.length) = true := decide_eq_true hlt
      have q2 : (k : Int) < (names.length : Int) := by omega
      have hcw := H0.out.2.2.1.trans hch
      obtain ⟨b, o, x, cs, rfl, hkx, _, ⟨rfl, hxs⟩, hcell⟩ := SlR.at2 (SlR.keep HP.out.2.1.1 hcw (no_lets _ _) fun _ _ h => h) hlt
      have z0 : wr.cell? ⟨b, o + k, none⟩ = some (.string x) := by simpa using hcell 0 _ rfl
      have HK := Lib.hid (And.intro hno (And.intro hch (And.intro hkx hcw)))
      clear hno hch hkx hcw hcell hxs
      by_cases hkd : t.kind = 12
      · have q4 : (t.kind == 12) = true := by simp [hkd]
        have HKD := Lib.hid hkd
        clear hkd
        by_cases hnm : t.name = x
        · have q5 := str_eq hnm
          have HNM := Lib.hid hnm
          clear hnm
          have hcw := HK.out.2.2.2
          have hkal : k < args.length := by omega
          obtain ⟨ba, oa, u, Ef, ef, El, el, Er, er, rfl, hku, hRu, y0, y1, y2, y3, y4, y5⟩ := (HP.out.2.1.2.keep0 hcw).at_ hkal
          have q6 : (k : Int) < (args.length : Int) := by omega
          have HU := Lib.hid (And.intro hku hRu)
          clear hku hRu hcw
          go_wp2_with fail
          go_quiet (fail)
          go_wp2_with fail
          have hAc := HP.out.2.2.1.resolve_left (fun h => by rw [h] at hlt; simp at hlt)
          refine (hAc (wr.drewN nq) u Ef ef El el Er er (Nat.le_trans HP.out.1 HK.out.2.2.2.size) trivial (TyR.keep0 (by repeat' (first | exact Chg.refl (fun _ _ => False) _ | apply Chg.drew | apply Chg.drewN)) HU.out.2)).mono fun e w1 h => ?_
          obtain ⟨Bf, bf, Bl, bl, Br, br, rfl, hN, hc1⟩ := h
          rw [Ty.fill_none] at hN ⊢
          have hcW : Chg (fun _ _ => False) wr w1 := Chg.drewNl hc1
          have hb6 := (HK.out.2.1.trans hcW).blk H0.out.2.1 id
          obtain ⟨d0, d1, d2, d3, d4, d5⟩ := hb6.cells6
          have e0 := hb6.frozen 0
          have e1 := hb6.frozen 1
          have e2 := hb6.frozen 2
          have e3 := hb6.frozen 3
          have e4 := hb6.frozen 4
          have e5 := hb6.frozen 5
          have HN := Lib.hid (And.intro hN (And.intro hcW hb6))
          clear hN hc1 hcW hb6 y0 y1 y2 y3 y4 y5 c0 c1 c2 c3 c4 c5 z0
          go_wp2_with fail
          clear d0 d1 d2 d3 d4 d5 e0 e1 e2 e3 e4 e5
          obtain ⟨hbz, hcz⟩ := blk_set6 HN.out.2.2 (.int .i64 u.kind) (.string u.name) (.int .i64 u.con) (.slice Bf u.fields.length bf) (.slice Bl u.list.length bl) (.slice Br u.res.length br)
          obtain ⟨d0, d1, d2, d3, d4, d5⟩ := hbz.cells6
          refine bodyPost_ret (v := .agg #[.int .i64 u.kind, .string u.name, .int .i64 u.con, .slice Bf u.fields.length bf, .slice Bl u.list.length bl, .slice Br u.res.length br]) (by simp [results, Tryd.results14, go_sem, d0, d1, d2, d3, d4, d5]) rfl ?_
          have hfe : t.fill (assoc names args) = u := fill_hit HKD.out (assoc_at (fun j hj y hy => HK.out.1 HKD.out j hj y hy) HK.out.2.2.1 HU.out.1 HNM.out)
          rw [hfe]
          have hw6 : w.heap.size ≤ wr.heap.size := HK.out.2.2.2.size
          have hg6 : g6 < wr.heap.size := (HK.out.2.1.blk H0.out.2.1 id).lt
          have hgw : w.heap.size ≤ g6 := by have := H0.out.2.2.2; omega
          refine ⟨Bf, bf, Bl, bl, Br, br, rfl, ?_, (HK.out.2.2.2.trans HN.out.2.1).trans_new hcz fun b t hb h => by have := h.1; omega⟩
          exact TyN.deep (TyN.sub (fun b _ h => Nat.le_trans hw6 h) (TyN.keep hcz (fun b t hb _ h => by have h1 : wr.heap.size ≤ b := hb; have := h.1; omega) HN.out.1)) hma
        · have q5 := str_ne hnm
          have HNM := Lib.hid hnm
          clear hnm
          go_wp2_with fail
          go_quiet (fail)
          go_wp2_with fail
          go_roundw
          case rel =>
            obtain ⟨hno, hch, hkx, hcw⟩ := HK.out
            refine ⟨k + 1, hlt, by simp, fun h12 j hj y hy => ?_, by repeat' (first | exact hch | apply Chg.drew | apply Chg.drewN)⟩
            rcases Nat.lt_or_ge j k with hjk | hjk
            · exact hno h12 j hjk y hy
            · obtain rfl : j = k := by omega
              rw [hkx] at hy
              injection hy with hy
              rw [← hy]
              exact HNM.out
          case measure => simp [intOf]; omega
      · have q4 : (t.kind == 12) = false := by simp [hkd]
        have q4' : decide (t.kind = 12) = false := decide_eq_false hkd
        go_wp2_with fail
        go_quiet (fail)
        go_wp2_with fail
        go_roundw
        case rel =>
          obtain ⟨hno, hch, hkx, hcw⟩ := HK.out
          exact ⟨k + 1, hlt, by simp, fun h12 => absurd h12 hkd, by repeat' (first | exact hch | apply Chg.drew | apply Chg.drewN)⟩
        case measure => simp [intOf]; omega
    · have q1 : decide (k < names.length) = false := decide_eq_false hlt
      have hmiss : (if t.kind = 12 then assoc names args t.name else none) = none := by
        by_cases h : t.kind = 12
        · rw [if_pos h]
          refine assoc_none fun y hy => ?_
          obtain ⟨j, hj, rfl⟩ := List.mem_iff_getElem.1 hy
          exact hno h j (by omega) _ (List.getElem?_eq_getElem hj)
        · rw [if_neg h]
      have hfl := fill_miss hmiss
      have hb8 := Blk.new wr 33 #[.int .i64 t.kind, .string t.name, .int .i64 t.con, .slice none 0 0, .slice none 0 0, .slice none 0 0]
      have hc8 := chg_alloc wr (.cells #[.int .i64 t.kind, .string t.name, .int .i64 t.con, .slice none 0 0, .slice none 0 0, .slice none 0 0] 33)
      have hb3c := hch.blk H0.out.1 id
      have hb6c := hch.blk H0.out.2.1 id
      have hg6lt := hb6c.lt
      have HK := Lib.hid (And.intro hch (And.intro hfl (And.intro hc8 hb8)))
      clear hno hch hmiss hfl hc8 hb8
      go_wp2_with fail
      have hb3 := (hb3c).alloc (.cells #[.int .i64 t.kind, .string t.name, .int .i64 t.con, .slice none 0 0, .slice none 0 0, .slice none 0 0] 33)
      have hb6 := (hb6c).alloc (.cells #[.int .i64 t.kind, .string t.name, .int .i64 t.con, .slice none 0 0, .slice none 0 0, .slice none 0 0] 33)
      obtain ⟨hch, hfl, hc8, hb8⟩ := HK.out
      have hc1 := (H0.out.2.2.1.trans hch).trans hc8
      have hsz : wr.heap.size < (wr.alloc (.cells #[.int .i64 t.kind, .string t.name, .int .i64 t.con, .slice none 0 0, .slice none 0 0, .slice none 0 0] 33)).heap.size := by simp
      clear HK hch hc8 hb3c hb6c
      generalize wr.alloc (.cells #[.int .i64 t.kind, .string t.name, .int .i64 t.con, .slice none 0 0, .slice none 0 0, .slice none 0 0] 33) = W1 at hb3 hb6 hb8 hc1 hsz ⊢
      have hg8 : g6 < wr.heap.size := hg6lt
      generalize wr.heap.size = g8 at hb8 hsz hg8 ⊢
      clear hg6lt
      obtain ⟨D, hD⟩ : ∃ D, D = W1.heap.size := ⟨_, rfl⟩
      have H1 := Lib.hid (And.intro hb3 (And.intro hb6 (And.intro hc1 (And.intro hfl (And.intro hD (And.intro hsz hg8))))))
      clear hb3 hb6 hc1 hfl hsz hg8 hD
      go_loopw [9] (fun i wr => fillRel2 D m g8 (assoc names args) t W1 i wr) (fun i _ => t.fields.length - (intOf i).toNat)
      case atStart => exact ⟨0, none, 0, Nat.zero_le _, rfl, hb8, GrowR.nil _ _ _ _ _, Chg.refl _ _⟩
      case round =>
        clear hb8
        obtain ⟨k, Ag, cg, hk, rfl, hb8, hgr, hch⟩ := hrel
        obtain ⟨y0, y1, y2, y3, y4, y5⟩ := hb8.cells6
        have hno3 : ¬ (g3 = g8 ∧ (33 : Nat) = 33) := fun h => by have := H0.out.2.2.2.2; have := H1.out.2.2.2.2.2.2; have := h.1; omega
        obtain ⟨c0, c1, c2, c3, c4, c5⟩ := (hch.blk H1.out.1 hno3).cells6
        by_cases hlt : k < t.fields.length
        · have q1 : decide (k < t.fields.length) = true := decide_eq_true hlt
          have q2 : (k : Int) < (t.fields.length : Int) := by omega
          have q3 : IntKind.i64.wrap ((k : Int) + 1) = (k : Int) + 1 := IntWalk.i64_in _ ⟨by omega, by have := HT.out.2.2.2.2.2.2.1; omega⟩
          have hg8w : w.heap.size ≤ g8 := by have := H0.out.2.2.2; have := H1.out.2.2.2.2.2.2; omega
          have hcw : Chg (fun _ _ => False) w wr := H1.out.2.2.1.trans_new hch fun b t hb h => by have := h.1; omega
          obtain ⟨b, o, nm, x, Xf, xf, Xl, xl, Xr, xr, rfl, hbB, hkx, hnms, hRx, z0, z1, z2, z3, z4, z5, z6⟩ := fld_at (SlR.keep HT.out.1 hcw (no_lets _ _) fun _ _ h => h.imp fun _ _ h => TyR.keep0 hcw h) hlt
          have htl : ((t.fields.take k).map (fillP (assoc names args))).length = k := by rw [List.length_map, List.length_take]; omega
          have hlt2 : ∀ g, (Value.slice Ag ((t.fields.take k).map (fillP (assoc names args))).length cg).ownBlock = some g → g < wr.heap.size := fun g h => (hgr.1.lt h).1
          have hDw : D ≤ wr.heap.size := by have := H1.out.2.2.2.2.1; have := hch.size; omega
          obtain ⟨⟨xss, how0, x2, x3, x4⟩, hgD⟩ := hgr
          rw [htl] at how0 hlt2 hgD
          have hk20 : k ≤ 1048576 := by have := HT.out.2.2.2.2.2.2.1; omega
          have HR := Lib.hid (And.intro how0 (And.intro x2 (And.intro x3 (And.intro x4 (And.intro hgD hlt2)))))
          have HX := Lib.hid (And.intro hch (And.intro hcw (And.intro hkx (And.intro hnms (And.intro hRx (And.intro hb8 (And.intro htl (And.intro hDw hbB))))))))
          clear how0 x2 x3 x4 hgD hlt2 hch hcw hkx hnms hRx hb8 htl hDw hbB hno3 hg8w c0 c1 c2 c4 c5 y0 y1 y2 y4 y5
          go_wp2_with fail
          have hS0 : wr.drew.cell? ⟨g8, 3, none⟩ = some (.slice Ag k cg) ∧ wr.drew.cell? ⟨g3, 3, none⟩ = some (.slice (some ⟨b, o, none⟩) t.fields.length cf) ∧ wr.drew.cell? ⟨b, o + k * 7, none⟩ = some (.string nm) ∧ wr.drew.cell? ⟨b, o + k * 7 + 1, none⟩ = some (.int .i64 x.kind) ∧ wr.drew.cell? ⟨b, o + k * 7 + 2, none⟩ = some (.string x.name) ∧ wr.drew.cell? ⟨b, o + k * 7 + 3, none⟩ = some (.int .i64 x.con) ∧ wr.drew.cell? ⟨b, o + k * 7 + 4, none⟩ = some (.slice Xf x.fields.length xf) ∧ wr.drew.cell? ⟨b, o + k * 7 + 5, none⟩ = some (.slice Xl x.list.length xl) ∧ wr.drew.cell? ⟨b, o + k * 7 + 6, none⟩ = some (.slice Xr x.res.length xr) := ⟨y3, c3, z0, z1, z2, z3, z4, z5, z6⟩
          refine wp_region_G (S := fun w' => w'.cell? ⟨g8, 3, none⟩ = some (.slice Ag k cg) ∧ w'.cell? ⟨g3, 3, none⟩ = some (.slice (some ⟨b, o, none⟩) t.fields.length cf) ∧ w'.cell? ⟨b, o + k * 7, none⟩ = some (.string nm) ∧ w'.cell? ⟨b, o + k * 7 + 1, none⟩ = some (.int .i64 x.kind) ∧ w'.cell? ⟨b, o + k * 7 + 2, none⟩ = some (.string x.name) ∧ w'.cell? ⟨b, o + k * 7 + 3, none⟩ = some (.int .i64 x.con) ∧ w'.cell? ⟨b, o + k * 7 + 4, none⟩ = some (.slice Xf x.fields.length xf) ∧ w'.cell? ⟨b, o + k * 7 + 5, none⟩ = some (.slice Xl x.list.length xl) ∧ w'.cell? ⟨b, o + k * 7 + 6, none⟩ = some (.slice Xr x.res.length xr)) 21 (by kernel_rfl) hS0 (fun hHeld => ?_)
          refine wpAnyG_take (i := 0) (v := ?va1) rfl (by kernel_rfl) (fun _ _ _ h => h) (Or.inl ⟨by rfl, ?hy1⟩) (by assumption) ?ra1
          case hy1 => (intro w hSw; (try dsimp only at hSw); go_simp; all_goals (with_reducible rfl))
          simp only [Act.put, List.setIfInBounds_toArray, List.set_cons_zero, List.set_cons_succ]
          refine wpAnyG_take (i := 1) (v := ?va2) rfl (by kernel_rfl) (fun _ _ _ h => h) (Or.inl ⟨by rfl, ?hy2⟩) (by assumption) ?ra2
          case hy2 => (intro w hSw; (try dsimp only at hSw); go_simp; all_goals (with_reducible rfl))
          simp only [Act.put, List.setIfInBounds_toArray, List.set_cons_zero, List.set_cons_succ]
          refine wpAnyG_take (i := 2) (v := ?va3) rfl (by kernel_rfl) (fun _ _ _ h => h) (Or.inl ⟨by rfl, ?hy3⟩) (by assumption) ?ra3
          case hy3 => (intro w hSw; (try dsimp only at hSw); go_simp; all_goals (with_reducible rfl))
          simp only [Act.put, List.setIfInBounds_toArray, List.set_cons_zero, List.set_cons_succ]
          refine wpAnyG_take (i := 3) (v := ?va4) rfl (by kernel_rfl) (fun _ _ _ h => h) (Or.inl ⟨by rfl, ?hy4⟩) (by assumption) ?ra4
          case hy4 => (intro w hSw; (try dsimp only at hSw); go_simp; all_goals (with_reducible rfl))
          simp only [Act.put, List.setIfInBounds_toArray, List.set_cons_zero, List.set_cons_succ]
          refine wpAnyG_take (i := 4) (v := ?va5) rfl (by kernel_rfl) (fun _ _ _ h => h) (Or.inl ⟨by rfl, ?hy5⟩) (by assumption) ?ra5
          case hy5 => (intro w hSw; (try dsimp only at hSw); go_simp; all_goals (with_reducible rfl))
          simp only [Act.put, List.setIfInBounds_toArray, List.set_cons_zero, List.set_cons_succ]
          refine wpAnyG_take (i := 5) (v := ?va6) rfl (by kernel_rfl) (fun _ _ _ h => h) (Or.inl ⟨by rfl, ?hy6⟩) (by assumption) ?ra6
          case hy6 => (intro w hSw; (try dsimp only at hSw); go_simp; all_goals (with_reducible rfl))
          simp only [Act.put, List.setIfInBounds_toArray, List.set_cons_zero, List.set_cons_succ]
          refine wpAnyG_take (i := 6) (v := ?va7) rfl (by kernel_rfl) (fun _ _ _ h => h) (Or.inl ⟨by rfl, ?hy7⟩) (by assumption) ?ra7
          case hy7 => (intro w hSw; (try dsimp only at hSw); go_simp; all_goals (with_reducible rfl))
          simp only [Act.put, List.setIfInBounds_toArray, List.set_cons_zero, List.set_cons_succ]
          refine wpAnyG_take (i := 7) (v := ?va8) rfl (by kernel_rfl) (fun _ _ _ h => h) (Or.inl ⟨by rfl, ?hy8⟩) (by assumption) ?ra8
          case hy8 => (intro w hSw; (try dsimp only at hSw); go_simp; all_goals (with_reducible rfl))
          simp only [Act.put, List.setIfInBounds_toArray, List.set_cons_zero, List.set_cons_succ]
          refine wpAnyG_take (i := 8) (v := ?va9) rfl (by kernel_rfl) (fun _ _ _ h => h) (Or.inl ⟨by rfl, ?hy9⟩) (by assumption) ?ra9
          case hy9 => (intro w hSw; (try dsimp only at hSw); go_simp; all_goals (with_reducible rfl))
          simp only [Act.put, List.setIfInBounds_toArray, List.set_cons_zero, List.set_cons_succ]
          refine wpAnyG_take (i := 9) (v := ?va10) rfl (by kernel_rfl) (fun _ _ _ h => h) (Or.inl ⟨by rfl, ?hy10⟩) (by assumption) ?ra10
          case hy10 => (intro w hSw; (try dsimp only at hSw); go_simp; all_goals (with_reducible rfl))
          simp only [Act.put, List.setIfInBounds_toArray, List.set_cons_zero, List.set_cons_succ]
          refine wpAnyG_take (i := 10) (v := ?va11) rfl (by kernel_rfl) (fun _ _ _ h => h) (Or.inl ⟨by rfl, ?hy11⟩) (by assumption) ?ra11
          case hy11 => (intro w hSw; (try dsimp only at hSw); go_simp; all_goals (with_reducible rfl))
          simp only [Act.put, List.setIfInBounds_toArray, List.set_cons_zero, List.set_cons_succ]
          refine wpAnyG_take (i := 11) (v := ?va12) rfl (by kernel_rfl) (fun _ _ _ h => h) (Or.inl ⟨by rfl, ?hy12⟩) (by assumption) ?ra12
          case hy12 => (intro w hSw; (try dsimp only at hSw); go_simp; all_goals (with_reducible rfl))
          simp only [Act.put, List.setIfInBounds_toArray, List.set_cons_zero, List.set_cons_succ]
          refine wpAnyG_take (i := 12) (v := ?va13) rfl (by kernel_rfl) (fun _ _ _ h => h) (Or.inl ⟨by rfl, ?hy13⟩) (by assumption) ?ra13
          case hy13 => (intro w hSw; (try dsimp only at hSw); go_simp; all_goals (with_reducible rfl))
          simp only [Act.put, List.setIfInBounds_toArray, List.set_cons_zero, List.set_cons_succ]
          refine wpAnyG_take (i := 13) (v := ?va14) rfl (by kernel_rfl) (fun _ _ _ h => h) (Or.inl ⟨by rfl, ?hy14⟩) (by assumption) ?ra14
          case hy14 => (intro w hSw; (try dsimp only at hSw); go_simp; all_goals (with_reducible rfl))
          simp only [Act.put, List.setIfInBounds_toArray, List.set_cons_zero, List.set_cons_succ]
          refine wpAnyG_take (i := 14) (v := ?va15) rfl (by kernel_rfl) (fun _ _ _ h => h) (Or.inl ⟨by rfl, ?hy15⟩) (by assumption) ?ra15
          case hy15 => (intro w hSw; (try dsimp only at hSw); go_simp; all_goals (with_reducible rfl))
          simp only [Act.put, List.setIfInBounds_toArray, List.set_cons_zero, List.set_cons_succ]
          refine wpAnyG_take (i := 15) (v := ?va16) rfl (by kernel_rfl) (fun _ _ _ h => h) (Or.inl ⟨by rfl, ?hy16⟩) (by assumption) ?ra16
          case hy16 => (intro w hSw; (try dsimp only at hSw); go_simp; all_goals (with_reducible rfl))
          simp only [Act.put, List.setIfInBounds_toArray, List.set_cons_zero, List.set_cons_succ]
          refine wpAnyG_ready (rs := [16]) (by kernel_rfl) (by simp) ?_
          refine AllReadyG.cons rfl (fun K hK => ?_) AllReadyG.nil
          go_simp
          go_at_call 14
          refine (HP.out.2.2.2 wr.drew x Xf xf Xl xl Xr xr (Nat.le_trans HP.out.1 HX.out.2.1.size) ⟨SlR.keep HP.out.2.1.1 HX.out.2.1.drew (no_lets _ _) fun _ _ h => h, HP.out.2.1.2.keep0 HX.out.2.1.drew⟩ (TyR.keep0 ((Chg.refl (fun _ _ => False) wr).drew) HX.out.2.2.2.2.1)).mono ?_
          rintro e w7 ⟨Bf, bf, Bl, bl, Br, br, rfl, hN, hc7⟩
          generalize hu : x.fill (assoc names args) = u at hN ⊢
          have hc7' : Chg (fun _ _ => False) wr w7 := hc7.drewl
          have v0 := hc7'.cell y3 fun _ => id
          have v1 := hc7'.cell c3 fun _ => id
          have v2 := hc7'.cell z0 fun _ => id
          have v3 := hc7'.cell z1 fun _ => id
          have v4 := hc7'.cell z2 fun _ => id
          have v5 := hc7'.cell z3 fun _ => id
          have v6 := hc7'.cell z4 fun _ => id
          have v7 := hc7'.cell z5 fun _ => id
          have v8 := hc7'.cell z6 fun _ => id
          have s0 := fun ob => (chg_alloc w7 ob).cell v0 fun _ => id
          have s1 := fun ob => (chg_alloc w7 ob).cell v1 fun _ => id
          have s2 := fun ob => (chg_alloc w7 ob).cell v2 fun _ => id
          have s3 := fun ob => (chg_alloc w7 ob).cell v3 fun _ => id
          have s4 := fun ob => (chg_alloc w7 ob).cell v4 fun _ => id
          have s5 := fun ob => (chg_alloc w7 ob).cell v5 fun _ => id
          have s6 := fun ob => (chg_alloc w7 ob).cell v6 fun _ => id
          have s7 := fun ob => (chg_alloc w7 ob).cell v7 fun _ => id
          have s8 := fun ob => (chg_alloc w7 ob).cell v8 fun _ => id
          have HN := Lib.hid (And.intro hN (And.intro hc7' hu))
          clear hN hc7 hc7' hu
          refine hK.out _ _ ⟨v0, v1, v2, v3, v4, v5, v6, v7, v8⟩ (fun hHeld => ?_)
          clear hK K
          try simp only [Act.put, List.setIfInBounds_toArray, List.set_cons_zero, List.set_cons_succ]
          refine wpAnyG_take (i := 17) (v := ?va17) rfl (by kernel_rfl) (fun _ _ _ h => h) (Or.inl ⟨by rfl, ?hy17⟩) (by assumption) ?ra17
          case hy17 => (intro w hSw; (try dsimp only at hSw); go_simp; all_goals (with_reducible rfl))
          simp only [Act.put, List.setIfInBounds_toArray, List.set_cons_zero, List.set_cons_succ]
          refine wpAnyG_ready (rs := [18]) (by kernel_rfl) (by simp) ?_
          refine AllReadyG.cons rfl (fun K hK => ?_) AllReadyG.nil
          go_simp
          refine hK.out _ _ ⟨s0 _, s1 _, s2 _, s3 _, s4 _, s5 _, s6 _, s7 _, s8 _⟩ (fun hHeld => ?_)
          clear hK K
          try simp only [Act.put, List.setIfInBounds_toArray, List.set_cons_zero, List.set_cons_succ]
          refine wpAnyG_ready (rs := [19]) (by kernel_rfl) (by simp) ?_
          refine AllReadyG.cons rfl (fun K hK => ?_) AllReadyG.nil
          refine step_append_blk _ rfl (.tmp 48) (.tmp 65) 31 rfl 0 35 i44 _ 7 120 Tryd.underlying31 hi44 hz44 hs44 hb44 rfl (by omega) Ag k cg xss.flatten (by first | rfl | simp [Act.eval, Act.put]) (Chg.own (M := fun _ _ => False) (HN.out.2.1.trans (by repeat' (first | exact Chg.refl (fun _ _ => False) _ | apply Chg.drew | apply Chg.drewN | apply Chg.alloc))) HR.out.1 fun _ _ => id) 1 1 [.string nm, .int .i64 u.kind, .string u.name, .int .i64 u.con, .slice Bf u.fields.length bf, .slice Bl u.list.length bl, .slice Br u.res.length br] w7.heap.size (by first | rfl | simp [Act.eval, Act.put]) (by first | exact Blk.new _ _ _ | exact (Blk.new _ _ _).drew) rfl (one_fld _ _ _ _ _ _ _ _ _ _ _ _ _) (by simp only [maxLen]; omega) (by omega) (Nat.zero_le _) ?_
          intro A6 c6 w8 hown6 hg6 hp6
          obtain ⟨hN, hc7, hu⟩ := HN.out
          obtain ⟨how0, x2, x3, x4, hgD, hlt2⟩ := HR.out
          obtain ⟨hch, hcw, hkx, hnms, hRx, hb8, htl, hDw, hbB⟩ := HX.out
          have hpush := GrowR.push (x := (nm, u)) (cs := ([.string nm] ++ tyCells u.kind u.name u.con Bf u.fields.length bf Bl u.list.length bl Br u.res.length br)) (fdR_keepR m) (fdR_subR m) x2 x3 x4 (by rw [htl]; exact hgD) hDw hc7 (by rw [htl]; exact hc7.own how0 fun _ _ => id) (by rw [htl]; exact hlt2) ⟨_, rfl, hnms, hN⟩ rfl (by rw [htl]; exact ⟨hown6, hg6, hp6⟩)
          have hch8 := hpush.2
          rw [htl] at hch8
          have hdd := H1.out.2.2.2.2
          have hg3g := H0.out.2.2.2
          have hno8 : ∀ t, ¬ ((Value.slice Ag k cg).ownBlock = some g8 ∧ t = 35) := fun t h => by have := hgD g8 h.1; omega
          have hno3 : ∀ t, ¬ ((Value.slice Ag k cg).ownBlock = some g3 ∧ t = 35) := fun t h => by have := hgD g3 h.1; omega
          have hnob : ∀ t, ¬ ((Value.slice Ag k cg).ownBlock = some b ∧ t = 35) := fun t h => by have := hgD b h.1; have := HP.out.1; omega
          have f0 := hch8.cell v0 hno8
          have f1 := hch8.cell v1 hno3
          have f2 := hch8.cell v2 hnob
          have f3 := hch8.cell v3 hnob
          have f4 := hch8.cell v4 hnob
          have f5 := hch8.cell v5 hnob
          have f6 := hch8.cell v6 hnob
          have f7 := hch8.cell v7 hnob
          have f8 := hch8.cell v8 hnob
          have hb88 := hch8.blk (hc7.blk hb8 id) (hno8 _)
          have fz := hb88.frozen 3
          have HZ := Lib.hid (And.intro hpush.1 (And.intro hch8 (And.intro hb88 hu)))
          clear hN hc7 hu how0 x2 x3 x4 hgD hlt2 hch hcw hkx hnms hRx hb8 htl hDw hbB hpush hch8 hdd hg3g hno8 hno3 hnob hb88 hown6 hg6 hp6
          refine hK.out _ _ ⟨f0, f1, f2, f3, f4, f5, f6, f7, f8⟩ (fun hHeld => ?_)
          clear hK K
          try simp only [Act.put, List.setIfInBounds_toArray, List.set_cons_zero, List.set_cons_succ]
          refine wpAnyG_take (i := 20) (v := ?va18) rfl (by kernel_rfl) (fun _ _ _ h => h) (Or.inl ⟨by rfl, ?hy18⟩) (by assumption) ?ra18
          case hy18 => (intro w hSw; (try dsimp only at hSw); go_simp; all_goals (with_reducible rfl))
          simp only [Act.put, List.setIfInBounds_toArray, List.set_cons_zero, List.set_cons_succ]
          refine wpAnyG_last rfl (by kernel_rfl) (by kernel_rfl) (fun K hK => ?_)
          go_simp
          refine hK.out _ _ ?_
          clear hK K
          try simp only [Act.put, List.setIfInBounds_toArray, List.set_cons_zero, List.set_cons_succ]
          clear hHeld hS0 v0 v1 v2 v3 v4 v5 v6 v7 v8 s0 s1 s2 s3 s4 s5 s6 s7 s8 f0 f1 f2 f3 f4 f5 f6 f7 f8 fz y3 c3 z0 z1 z2 z3 z4 z5 z6
          go_wp2_with fail
          go_roundw
          case rel =>
            obtain ⟨hg, hch8, hb88, hu⟩ := HZ.out
            obtain ⟨hch, hcw, hkx, hnms, hRx, hb8, htl, hDw, hbB⟩ := HX.out
            obtain ⟨_, hc7, _⟩ := HN.out
            have hgD := HR.out.2.2.2.2.1
            have hdd := H1.out.2.2.2.2
            have hset := chg_set (j := 3) hb88 (.slice A6 (k + 1) c6)
            have htk : (t.fields.take (k + 1)).map (fillP (assoc names args)) = (t.fields.take k).map (fillP (assoc names args)) ++ [(nm, u)] := by
              obtain ⟨h1, h2⟩ := List.getElem?_eq_some_iff.1 hkx
              rw [List.take_succ_eq_append_getElem h1, h2]
              simp [fillP, hu]
            refine ⟨k + 1, A6, c6, hlt, by simp, by simpa using hb88.set_ 3 (.slice A6 (k + 1) c6), ?_, ?_⟩
            · rw [htk]
              exact hg.keep hset (fun b _ h => absurd h.2 (by decide)) fun G hG cs p h => fdR_keepR m G _ _ _ hset (fun b t hb _ h => by have := hG b hb; have := h.1; omega) cs p h
            · exact ((hch.trans_le hc7 fun _ _ _ h => h.elim).trans_le hch8 fun b t hb h => by have := hgD b h.1; omega).trans_le hset fun b t _ h => h
          case measure => simp [intOf]; omega
        · have q1 : decide (k < t.fields.length) = false := decide_eq_false hlt
          obtain rfl : k = t.fields.length := by omega
          have hsz8 : g8 < wr.heap.size := hb8.lt
          have hg8w : w.heap.size ≤ g8 := by have := H0.out.2.2.2; have := H1.out.2.2.2.2.2.2; omega
          have hcw : Chg (fun _ _ => False) w wr := H1.out.2.2.1.trans_new hch fun b t hb h => by have := h.1; omega
          have hb3r := hch.blk H1.out.1 hno3
          have hg36 : g3 < g8 ∧ g6 < g8 := by have := H0.out.2.2.2; have := H1.out.2.2.2.2.2.2; omega
          have hb6r := hch.blk H1.out.2.1 (fun h => by have := h.1; omega)
          have hgr2 := hgr.rowG fun G G' hG cs x h => fdR_subR m G G' wr hG cs x h
          rw [List.take_length] at hgr2
          have HR := Lib.hid (And.intro hgr2 (And.intro hcw (And.intro hb8 (And.intro hb3r (And.intro hb6r (And.intro hg36 (And.intro hsz8 hg8w)))))))
          clear hgr hgr2 hch hcw hb8 hb3r hb6r hg36 hsz8 hg8w hno3
          go_wp2_with fail
          refine (fillAll_of n m B (assoc names args) (.slice An names.length cn) (.slice Aa args.length ca) _ (stays_pre ma B names args An cn Aa ca) HP.out.2.2.2 wr t.list Al cl (Nat.le_trans HP.out.1 HR.out.2.1.size) (stays_pre ma B names args An cn Aa ca _ _ HR.out.2.1 HP.out.2.1) HT.out.2.2.2.2.2.2.2.1 (TysR.keep0 HR.out.2.1 HT.out.2.1)).mono fun e w4 h => ?_
          obtain ⟨A4, a4, he4, hN4, hc4⟩ := h
          rw [List.length_map] at he4
          subst he4
          clear c0 c1 c2 c3 c4 c5 y0 y1 y2 y3 y4 y5
          have hb84 := hc4.blk HR.out.2.2.1 id
          have hb34 := hc4.blk HR.out.2.2.2.1 id
          have hb64 := hc4.blk HR.out.2.2.2.2.1 id
          obtain ⟨c0, c1, c2, c3, c4, c5⟩ := hb34.cells6
          obtain ⟨y0, y1, y2, y3, y4, y5⟩ := hb84.cells6
          have f4 := hb84.frozen 4
          have hb85 := hb84.set_ 4 (.slice A4 t.list.length a4)
          have hs5 := chg_set (j := 4) hb84 (.slice A4 t.list.length a4)
          have hb35 := hs5.blk hb34 (fun h => by have := HR.out.2.2.2.2.2.1; have := h.1; omega)
          have hb65 := hs5.blk hb64 (fun h => by have := HR.out.2.2.2.2.2.1; have := h.1; omega)
          obtain ⟨k0, k1, k2, k3, k4, k5⟩ := hb35.cells6
          have hcw5 : Chg (fun _ _ => False) w (w4.setCell ⟨g8, 4, none⟩ (.slice A4 t.list.length a4)) := (HR.out.2.1.trans hc4).trans_new hs5 fun b t hb h => by have := HR.out.2.2.2.2.2.2.2; have := h.1; omega
          have HN4 := Lib.hid (And.intro hN4 (And.intro hc4 (And.intro hs5 (And.intro hb85 (And.intro hb35 (And.intro hb65 hcw5))))))
          clear hN4 hc4 hs5 hb85 hb35 hb65 hcw5 hb84 hb34 hb64
          go_wp2_with fail
          clear c0 c1 c2 c3 c4 c5 y0 y1 y2 y3 y4 y5 f4 k0 k1 k2 k3 k4 k5
          refine (fillAll_of n m B (assoc names args) (.slice An names.length cn) (.slice Aa args.length ca) _ (stays_pre ma B names args An cn Aa ca) HP.out.2.2.2 _ t.res Ar cr (Nat.le_trans HP.out.1 HN4.out.2.2.2.2.2.2.size) (stays_pre ma B names args An cn Aa ca _ _ HN4.out.2.2.2.2.2.2 HP.out.2.1) HT.out.2.2.2.2.2.2.2.2 (TysR.keep0 HN4.out.2.2.2.2.2.2 HT.out.2.2.1)).mono fun e w6 h => ?_
          obtain ⟨A6, a6, he6, hN6, hc6⟩ := h
          rw [List.length_map] at he6
          subst he6
          have hb86 := hc6.blk HN4.out.2.2.2.1 id
          have hb66 := hc6.blk HN4.out.2.2.2.2.2.1 id
          simp only [List.setIfInBounds_toArray, List.set_cons_zero, List.set_cons_succ] at hb86
          obtain ⟨y0, y1, y2, y3, y4, y5⟩ := hb86.cells6
          have f5 := hb86.frozen 5
          have hb87 := hb86.set_ 5 (.slice A6 t.res.length a6)
          have hs7 := chg_set (j := 5) hb86 (.slice A6 t.res.length a6)
          have hb67 := hs7.blk hb66 (fun h => by have := HR.out.2.2.2.2.2.1; have := h.1; omega)
          simp only [List.setIfInBounds_toArray, List.set_cons_zero, List.set_cons_succ] at hb87
          obtain ⟨k0, k1, k2, k3, k4, k5⟩ := hb87.cells6
          obtain ⟨d0, d1, d2, d3, d4, d5⟩ := hb67.cells6
          have e0 := hb67.frozen 0
          have e1 := hb67.frozen 1
          have e2 := hb67.frozen 2
          have e3 := hb67.frozen 3
          have e4 := hb67.frozen 4
          have e5 := hb67.frozen 5
          have HN6 := Lib.hid (And.intro hN6 (And.intro hc6 (And.intro hs7 (And.intro hb87 hb67))))
          clear hN6 hc6 hs7 hb87 hb67 hb86 hb66
          go_wp2_with fail
          clear y0 y1 y2 y3 y4 y5 f5 k0 k1 k2 k3 k4 k5 d0 d1 d2 d3 d4 d5 e0 e1 e2 e3 e4 e5
          obtain ⟨hbz, hcz⟩ := blk_set6 HN6.out.2.2.2.2 (.int .i64 t.kind) (.string t.name) (.int .i64 t.con) (.slice Ag t.fields.length cg) (.slice A4 t.list.length a4) (.slice A6 t.res.length a6)
          obtain ⟨d0, d1, d2, d3, d4, d5⟩ := hbz.cells6
          refine bodyPost_ret (v := .agg #[.int .i64 t.kind, .string t.name, .int .i64 t.con, .slice Ag t.fields.length cg, .slice A4 t.list.length a4, .slice A6 t.res.length a6]) (by simp [results, Tryd.results14, go_sem, d0, d1, d2, d3, d4, d5]) rfl ?_
          rw [H1.out.2.2.2.1]
          obtain ⟨hN6, hc6, hs7, hb87, hb67⟩ := HN6.out
          obtain ⟨hN4, hc4, hs5, _, _, _, hcw5⟩ := HN4.out
          obtain ⟨hgr2, hcw, _, _, _, hg36, hsz8, hg8w⟩ := HR.out
          have hDg := H1.out.2.2.2.2
          have hW1 := H1.out.2.2.1.size
          have hcC := ((hs7.mono fun b t _ h => ⟨.inl h.1, h.2⟩ : Chg (fun b t => (b = g8 ∨ b = g6) ∧ t = 33) w6 _)).trans_le hcz fun b t _ h => ⟨.inr h.1, h.2⟩
          have hcB := (((hs5.mono fun b t _ h => ⟨.inl h.1, h.2⟩ : Chg (fun b t => (b = g8 ∨ b = g6) ∧ t = 33) w4 _)).trans_le hc6 fun b t _ h => h.elim).trans hcC
          have hcA := ((hc4.mono fun b t _ h => h.elim : Chg (fun b t => (b = g8 ∨ b = g6) ∧ t = 33) wr w4)).trans hcB
          have hw6 := hcw5.size
          have h46 := hs5.size
          have hwr := hcw.size
          have hwr4 := hc4.size
          have hg3w := H0.out.2.2.2
          obtain ⟨s1, s2, s3, s4, s5, s6⟩ := HT.out.2.2.2
          refine ⟨Ag, cg, A4, a4, A6, a6, by simp [Ty.kind, Ty.name, Ty.con, Ty.fields, Ty.list, Ty.res], ⟨⟨s1, s2, s3, ?_, ?_, ?_⟩, Ag, cg, A4, a4, A6, a6, by simp [Ty.kind, Ty.name, Ty.con, Ty.fields, Ty.list, Ty.res, tyCells], ?_, ?_, ?_⟩, ?_⟩
          · show (t.fields.map (fillP (assoc names args))).length ≤ 1048576; rw [List.length_map]; exact s4
          · show (t.list.map (Ty.fill (assoc names args))).length ≤ 1048576; rw [List.length_map]; exact s5
          · show (t.res.map (Ty.fill (assoc names args))).length ≤ 1048576; rw [List.length_map]; exact s6
          · exact (hgr2.keep hcA (fun b hb h => absurd h.2 (by decide)) fun cs p h => fdR_keepR m _ _ _ _ hcA (fun b t hb _ h => by have := h.1; omega) cs p h).imp (fun b _ h => by omega) fun cs p h => fdR_subR m _ _ _ (fun b _ h => by omega) cs p h
          · exact (hN4.keep hcB (fun b hb h => by have := h.1; omega) fun cs p h => TyN.keep hcB (fun b t hb _ h => by have := h.1; omega) h).imp (fun b _ h => Nat.le_trans hwr h) fun cs p h => TyN.sub (fun b _ h => Nat.le_trans hwr h) h
          · exact (hN6.keep hcC (fun b hb h => by have := h.1; omega) fun cs p h => TyN.keep hcC (fun b t hb _ h => by have := h.1; omega) h).imp (fun b _ h => Nat.le_trans hw6 h) fun cs p h => TyN.sub (fun b _ h => Nat.le_trans hw6 h) h
          · exact hcw.trans_new hcA fun b t hb h => by have := h.1; omega
end Go.Proofs.YtgemacdnncjmdaaDoor
