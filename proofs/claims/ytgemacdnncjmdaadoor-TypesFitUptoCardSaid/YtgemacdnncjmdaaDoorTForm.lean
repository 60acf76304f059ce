/-
  types.form: is a type what its kind says, but for its parts?
-/
import Derived.Test.YtgemacdnncjmdaaDoorTParts
namespace Go.Proofs.YtgemacdnncjmdaaDoor
open Go.RowKit
set_option linter.unusedVariables false
set_option linter.unusedSimpArgs false

theorem bare_iff (t : Ty) (a b c d e : Bool) : bare t a b c d e = decide ((a = false → t.name.toList = []) ∧ (b = false → t.con = 0) ∧ (c = false → t.fields.length = 0) ∧ (d = false → t.list.length = 0) ∧ (e = false → t.res.length = 0)) := by
  unfold bare
  have hn := name_empty t
  cases a <;> cases b <;> cases c <;> cases d <;> cases e <;> simp [hn, Bool.decide_and, Bool.and_assoc]
/-- The names that have been seen. -/
noncomputable def setF (ks : List ByteArray) : ByteArray → Option Value := fun s => @ite _ (s ∈ ks) (Classical.propDecidable _) (some (.bool true)) none
theorem setF_in {ks : List ByteArray} {s : ByteArray} (h : s ∈ ks) : setF ks s = some (.bool true) := by unfold setF; rw [if_pos h]
theorem setF_out {ks : List ByteArray} {s : ByteArray} (h : s ∉ ks) : setF ks s = none := by unfold setF; rw [if_neg h]
theorem setF_snoc (ks : List ByteArray) (s : ByteArray) : upd (setF ks) s (.bool true) = setF (ks ++ [s]) := by
  funext x
  by_cases h : x = s
  · subst h; rw [upd_same, setF_in (by simp)]
  · rw [upd_other _ _ h]
    by_cases hk : x ∈ ks
    · rw [setF_in hk, setF_in (by simp [hk])]
    · rw [setF_out hk, setF_out (by simp [hk, h])]
def nms (t : Ty) (n : Nat) : List ByteArray := (t.fields.take n).map fun p => p.1
theorem nms_succ {t : Ty} {n : Nat} {q : ByteArray × Ty} (hq : t.fields[n]? = some q) : nms t (n + 1) = nms t n ++ [q.1] := by
  obtain ⟨h1, h2⟩ := List.getElem?_eq_some_iff.1 hq
  unfold nms
  rw [List.take_succ_eq_append_getElem h1, h2]
  simp
theorem nms_mem {t : Ty} {n : Nat} {s : ByteArray} (h : s ∈ nms t n) : ∃ j p, j < n ∧ t.fields[j]? = some p ∧ p.1 = s := by
  unfold nms at h
  obtain ⟨p, hp, rfl⟩ := List.mem_map.1 h
  obtain ⟨j, hj, rfl⟩ := List.mem_iff_getElem.1 hp
  have hj2 := hj
  rw [List.length_take] at hj2
  refine ⟨j, _, by omega, List.getElem?_eq_getElem (by omega), ?_⟩
  simp
theorem mem_nms {t : Ty} {n j : Nat} {p : ByteArray × Ty} (hj : j < n) (hp : t.fields[j]? = some p) : p.1 ∈ nms t n := by
  unfold nms
  refine List.mem_map_of_mem (f := fun p : ByteArray × Ty => p.1) ?_
  refine List.mem_of_getElem? (i := j) ?_
  rw [List.getElem?_take_of_lt hj]
  exact hp
def formRel (t : Ty) (gm : Nat) (W : World) (i : Value) (wr : World) : Prop :=
  ∃ k n m : Nat, k ≤ t.fields.length ∧ i = .int .i64 k ∧ n ≤ k ∧ NmOK t k ∧ SMap wr gm n m (setF (nms t k)) ∧ Chg (fun b t => b = gm ∧ t = 0) W wr
set_option maxRecDepth 100000 in
set_option maxHeartbeats 8000000 in
theorem form_any (n B : Nat) (w : World) (t : Ty) (Af : Option Addr) (cf : Nat) (Al : Option Addr) (cl : Nat) (Ar : Option Addr) (cr : Nat) (hB : B ≤ w.heap.size) (hTab : Tabs w)
    (hT : TyR (n + 1) B w (tyCells t.kind t.name t.con Af t.fields.length cf Al t.list.length cl Ar t.res.length cr) t) :
    Calls Tryd.prog 62 #[.agg #[.int .i64 t.kind, .string t.name, .int .i64 t.con, .slice Af t.fields.length cf, .slice Al t.list.length cl, .slice Ar t.res.length cr]] w fun e w' => e = .returned (.bool (shapeT t)) ∧ Chg (fun _ _ => False) w w' := by
  obtain ⟨hsm, hFl, hLl, hRl⟩ := TyR.open_ hT
  have hb1 := Blk.new w 33 #[.int .i64 t.kind, .string t.name, .int .i64 t.con, .slice Af t.fields.length cf, .slice Al t.list.length cl, .slice Ar t.res.length cr]
  have hc1 := chg_alloc w (.cells #[.int .i64 t.kind, .string t.name, .int .i64 t.con, .slice Af t.fields.length cf, .slice Al t.list.length cl, .slice Ar t.res.length cr] 33)
  have HT := Lib.hid (And.intro hFl (And.intro hsm (And.intro hB hTab)))
  obtain ⟨_, _, s3, s4, s5, s6⟩ := hsm
  clear hB hTab hFl hLl hRl hT
  have a1 : IntKind.i64.wrap ((t.list.length : Int) + (t.res.length : Int)) = (t.list.length : Int) + (t.res.length : Int) := IntWalk.i64_in _ ⟨by omega, by omega⟩
  have a2 : IntKind.i64.wrap ((t.fields.length : Int) + (t.res.length : Int)) = (t.fields.length : Int) + (t.res.length : Int) := IntWalk.i64_in _ ⟨by omega, by omega⟩
  have a3 : IntKind.i64.wrap ((t.fields.length : Int) + (t.list.length : Int)) = (t.fields.length : Int) + (t.list.length : Int) := IntWalk.i64_in _ ⟨by omega, by omega⟩
  have a4 : IntKind.i64.wrap ((t.fields.length : Int) + (t.list.length : Int) + (t.res.length : Int)) = (t.fields.length : Int) + (t.list.length : Int) + (t.res.length : Int) := IntWalk.i64_in _ ⟨by omega, by omega⟩
  by_cases h8 : t.kind = 8
  · have q8 : (t.kind == 8) = true := by simp [h8]
    have H8 := Lib.hid h8
    clear h8
    go_enter Tryd.func62, Tryd.ntmps62
    go_wp2_with fail
    generalize w.alloc (.cells #[.int .i64 t.kind, .string t.name, .int .i64 t.con, .slice Af t.fields.length cf, .slice Al t.list.length cl, .slice Ar t.res.length cr] 33) = W at hb1 hc1 ⊢
    generalize hg : w.heap.size = g at hb1 ⊢
    obtain ⟨y0, y1, y2, y3, y4, y5⟩ := hb1.cells6
    have H0 := Lib.hid (And.intro hb1 (And.intro hc1 hg))
    clear hb1 hc1 hg
    go_quiet (fail)
    rename_i nq
    go_wp2_with fail
    refine (name_any t.name (W.drewN nq) (by omega) ((HT.out.2.2.2.keep0 H0.out.2.1).keep0 ((Chg.refl _ W).drewN nq))).mono fun e w1 h => ?_
    obtain ⟨rfl, hc1⟩ := h
    have hc1 := hc1.drewNl
    have z0 := hc1.cell y0 fun _ => id
    have z1 := hc1.cell y1 fun _ => id
    have z2 := hc1.cell y2 fun _ => id
    have z3 := hc1.cell y3 fun _ => id
    clear y0 y1 y2 y3 y4 y5
    have v3 := fun ob => (chg_alloc w1 ob).cell z3 fun _ => id
    have hmm := @run_makeMap Tryd.prog
    go_wp2_with fail
    have hmk := SMap.made w1
    have hcm := chg_alloc w1 (.map #[] 0)
    generalize w1.alloc (.map #[] 0) = W2 at hmk hcm ⊢
    generalize hgm : w1.heap.size = gm at hmk ⊢
    have hgw : w.heap.size ≤ gm := by have := (H0.out.2.1.trans hc1).size; omega
    have hb2 := (hc1.trans hcm).blk H0.out.1 id
    have H2 := Lib.hid (And.intro ((H0.out.2.1.trans hc1).trans hcm) (And.intro hgw hb2))
    clear hgm hc1 hcm hb2 hgw z0 z1 z2 z3 v3 hmm
    go_loopw [30] (fun i wr => formRel t gm W2 i wr) (fun i _ => t.fields.length - (intOf i).toNat)
    case atStart => exact ⟨0, 0, 0, Nat.zero_le _, rfl, Nat.le_refl _, NmOK.zero t, hmk.ext fun s _ => (setF_out (by simp [nms])).symm, Chg.refl _ _⟩
    case round =>
      clear hmk
      obtain ⟨k, n', m, hk, rfl, hn', hok, hmap, hch⟩ := hrel
      have q3 : IntKind.i64.wrap ((k : Int) + 1) = (k : Int) + 1 := IntWalk.i64_in _ ⟨by omega, by omega⟩
      have hcw : Chg (fun _ _ => False) w wr := H2.out.1.trans_new hch fun b t hb h => by have := h.1; have := H2.out.2.1; omega
      have hggm : ¬ (g = gm ∧ (33 : Nat) = 0) := fun h => absurd h.2 (by decide)
      by_cases hlt : k < t.fields.length
      · have q1 : decide (k < t.fields.length) = true := decide_eq_true hlt
        have q2 : (k : Int) < (t.fields.length : Int) := by omega
        obtain ⟨b, o, nm, x, Xf, xf, Xl, xl, Xr, xr, rfl, hbB, hkx, hnms, hRx, z0, z1, z2, z3, z4, z5, z6⟩ := fld_at (SlR.keep HT.out.1 hcw (no_lets _ _) fun _ _ h => h.imp fun _ _ h => TyR.keep0 hcw h) hlt
        have HR := Lib.hid (And.intro hok (And.intro hmap (And.intro hch (And.intro hcw (And.intro hkx hn')))))
        clear hok hmap hch hcw hkx hRx hbB hn' hggm
        go_wp2_with fail
        have hca := chg_alloc wr (.cells #[.string nm, .int .i64 x.kind, .string x.name, .int .i64 x.con, .slice Xf x.fields.length xf, .slice Xl x.list.length xl, .slice Xr x.res.length xr] 35)
        have hb5 := Blk.new wr 35 #[.string nm, .int .i64 x.kind, .string x.name, .int .i64 x.con, .slice Xf x.fields.length xf, .slice Xl x.list.length xl, .slice Xr x.res.length xr]
        have hg5w : w.heap.size ≤ wr.heap.size := HR.out.2.2.2.1.size
        generalize wr.alloc (.cells #[.string nm, .int .i64 x.kind, .string x.name, .int .i64 x.con, .slice Xf x.fields.length xf, .slice Xl x.list.length xl, .slice Xr x.res.length xr] 35) = w3 at hca hb5 ⊢
        generalize wr.heap.size = g5 at hb5 hg5w ⊢
        clear z0 z1 z2 z3 z4 z5 z6
        have hnm := name_any nm w3 (by omega) (HT.out.2.2.2.keep0 (HR.out.2.2.2.1.trans hca))
        cases hn : nameOK nm with
        | true =>
          rw [hn] at hnm
          have HN := Lib.hid hn
          clear hn
          refine hnm.mono fun e w4 h => ?_
          clear hnm
          obtain ⟨rfl, hc4⟩ := h
          have z0 : w4.cell? ⟨g5, 0, none⟩ = some (.string nm) := by simpa using (hc4.blk hb5 id).cell 0
          have hmap4 := (HR.out.2.1.keep hca id).keep hc4 id
          by_cases hin : nm ∈ nms t k
          · have hlook := hmap4.look (t := 82) (e := 4) Tryd.underlying82 (z := .bool false) (by kernel_rfl) (s := nm) (by unfold maxLen; omega)
            rw [setF_in hin] at hlook
            have HI := Lib.hid (And.intro hin (hca.trans hc4))
            clear hin hmap4 hca hc4
            go_wp2_with fail
            go_ret
            refine ⟨?_, HR.out.2.2.2.1.trans HI.out.2⟩
            obtain ⟨j, p, hj, hp, he⟩ := nms_mem HI.out.1
            rw [shape_dup H8.out hp HR.out.2.2.2.2.1 hj he]
            rfl
          · have hlook := hmap4.look (t := 82) (e := 4) Tryd.underlying82 (z := .bool false) (by kernel_rfl) (s := nm) (by unfold maxLen; omega)
            rw [setF_out hin] at hlook
            obtain ⟨w5, hput, hm5, hc5⟩ := hmap4.put (t := 82) (e := 4) Tryd.underlying82 (by have := HR.out.2.2.2.2.2; unfold maxLen; omega) (s := nm) (by unfold maxLen; omega) (.bool true)
            rw [setF_snoc, setF_out hin] at hm5
            have HI := Lib.hid (And.intro hin (And.intro (hca.trans hc4) (And.intro hm5 hc5)))
            clear hin hmap4 hca hc4 hm5 hc5
            go_wp2_with fail
            go_roundw
            case rel =>
              obtain ⟨hin, hca, hm5, hc5⟩ := HI.out
              obtain ⟨hok, hmap, hch, hcw, hkx, hn'⟩ := HR.out
              exact ⟨k + 1, n' + 1, _, hlt, by simp, by omega, hok.succ hkx HN.out fun j hj p hp he => hin (by have h9 := mem_nms hj hp; rw [he] at h9; exact h9), by rw [nms_succ hkx]; exact hm5, (hch.trans (hca.mono fun _ _ _ h => h.elim)).trans_le hc5 fun b t _ h => h⟩
            case measure => simp [intOf]; omega
        | false =>
          rw [hn] at hnm
          have HN := Lib.hid hn
          clear hn
          refine hnm.mono fun e w4 h => ?_
          clear hnm
          obtain ⟨rfl, hc4⟩ := h
          go_wp2_with fail
          go_ret
          refine ⟨?_, (HR.out.2.2.2.1.trans hca).trans hc4⟩
          rw [shape_bad H8.out HR.out.2.2.2.2.1 HN.out]
          rfl
      · have q1 : decide (k < t.fields.length) = false := decide_eq_false hlt
        obtain rfl : k = t.fields.length := by omega
        obtain ⟨y0, y1, y2, y3, y4, y5⟩ := (hch.blk H2.out.2.2 hggm).cells6
        have H8E := Lib.hid (And.intro hok hcw)
        clear hok hcw hch hmap hn' hggm
        by_cases hN : nameOK t.name = true
        · have fN : nameOK t.name = true := hN
          by_cases hb : ((t.fields.length : Int) : Int) ≤ 16
          · have fb : decide (((t.fields.length : Int) : Int) ≤ 16) = true := decide_eq_true (by omega)
            by_cases hc : ((t.list.length : Int) + (t.res.length : Int) : Int) = 0
            · have fc : (((t.list.length : Int) + (t.res.length : Int) : Int) == 0) = true := by simp only [beq_iff_eq]; omega
              have gc : decide (((t.list.length : Int) + (t.res.length : Int) : Int) = 0) = true := decide_eq_true (by omega)
              by_cases hd : (t.con : Int) = 0
              · have fd : ((t.con : Int) == 0) = true := by simp only [beq_iff_eq]; omega
                have gd : decide ((t.con : Int) = 0) = true := decide_eq_true (by omega)
                have HS := Lib.hid (show shapeT t = true by
                    rw [NmOK.all H8.out H8E.out.1, bare_iff]
                    first
                      | (rw [fN, Bool.and_true, ← Bool.decide_and]; exact decide_eq_true (by refine ⟨⟨fun k => absurd k (by decide), fun _ => ?_, fun k => absurd k (by decide), fun _ => ?_, fun _ => ?_⟩, ?_⟩ <;> omega))
                      | (rw [fN, Bool.and_true, ← Bool.decide_and]; exact decide_eq_false (by rintro ⟨⟨k1, k2, k3, k4, k5⟩, k6⟩; have k2 := k2 rfl; have k4 := k4 rfl; have k5 := k5 rfl; omega))
                      | (rw [fN]; simp))
                clear hb hc hd
                go_wp2_with fail
                go_ret
                refine ⟨?_, H8E.out.2⟩
                rw [HS.out]
                first
                  | rfl
                  | (simp; done)
                  | simp_all
              · have fd : ((t.con : Int) == 0) = false := by simp only [beq_eq_false_iff_ne]; omega
                have gd : decide ((t.con : Int) = 0) = false := decide_eq_false (by omega)
                have HS := Lib.hid (show shapeT t = false by
                    rw [NmOK.all H8.out H8E.out.1, bare_iff]
                    first
                      | (rw [fN, Bool.and_true, ← Bool.decide_and]; exact decide_eq_true (by refine ⟨⟨fun k => absurd k (by decide), fun _ => ?_, fun k => absurd k (by decide), fun _ => ?_, fun _ => ?_⟩, ?_⟩ <;> omega))
                      | (rw [fN, Bool.and_true, ← Bool.decide_and]; exact decide_eq_false (by rintro ⟨⟨k1, k2, k3, k4, k5⟩, k6⟩; have k2 := k2 rfl; have k4 := k4 rfl; have k5 := k5 rfl; omega))
                      | (rw [fN]; simp))
                clear hb hc hd
                go_wp2_with fail
                go_ret
                refine ⟨?_, H8E.out.2⟩
                rw [HS.out]
                first
                  | rfl
                  | (simp; done)
                  | simp_all
            · have fc : (((t.list.length : Int) + (t.res.length : Int) : Int) == 0) = false := by simp only [beq_eq_false_iff_ne]; omega
              have gc : decide (((t.list.length : Int) + (t.res.length : Int) : Int) = 0) = false := decide_eq_false (by omega)
              have HS := Lib.hid (show shapeT t = false by
                  rw [NmOK.all H8.out H8E.out.1, bare_iff]
                  first
                    | (rw [fN, Bool.and_true, ← Bool.decide_and]; exact decide_eq_true (by refine ⟨⟨fun k => absurd k (by decide), fun _ => ?_, fun k => absurd k (by decide), fun _ => ?_, fun _ => ?_⟩, ?_⟩ <;> omega))
                    | (rw [fN, Bool.and_true, ← Bool.decide_and]; exact decide_eq_false (by rintro ⟨⟨k1, k2, k3, k4, k5⟩, k6⟩; have k2 := k2 rfl; have k4 := k4 rfl; have k5 := k5 rfl; omega))
                    | (rw [fN]; simp))
              clear hb hc
              go_wp2_with fail
              go_ret
              refine ⟨?_, H8E.out.2⟩
              rw [HS.out]
              first
                | rfl
                | (simp; done)
                | simp_all
          · have fb : decide (((t.fields.length : Int) : Int) ≤ 16) = false := decide_eq_false (by omega)
            have HS := Lib.hid (show shapeT t = false by
                rw [NmOK.all H8.out H8E.out.1, bare_iff]
                first
                  | (rw [fN, Bool.and_true, ← Bool.decide_and]; exact decide_eq_true (by refine ⟨⟨fun k => absurd k (by decide), fun _ => ?_, fun k => absurd k (by decide), fun _ => ?_, fun _ => ?_⟩, ?_⟩ <;> omega))
                  | (rw [fN, Bool.and_true, ← Bool.decide_and]; exact decide_eq_false (by rintro ⟨⟨k1, k2, k3, k4, k5⟩, k6⟩; have k2 := k2 rfl; have k4 := k4 rfl; have k5 := k5 rfl; omega))
                  | (rw [fN]; simp))
            clear hb
            go_wp2_with fail
            go_ret
            refine ⟨?_, H8E.out.2⟩
            rw [HS.out]
            first
              | rfl
              | (simp; done)
              | simp_all
        · have fN : nameOK t.name = false := by simpa using hN
          have HS := Lib.hid (show shapeT t = false by
              rw [NmOK.all H8.out H8E.out.1, bare_iff]
              first
                | (rw [fN, Bool.and_true, ← Bool.decide_and]; exact decide_eq_true (by refine ⟨⟨fun k => absurd k (by decide), fun _ => ?_, fun k => absurd k (by decide), fun _ => ?_, fun _ => ?_⟩, ?_⟩ <;> omega))
                | (rw [fN, Bool.and_true, ← Bool.decide_and]; exact decide_eq_false (by rintro ⟨⟨k1, k2, k3, k4, k5⟩, k6⟩; have k2 := k2 rfl; have k4 := k4 rfl; have k5 := k5 rfl; omega))
                | (rw [fN]; simp))
          skip
          go_wp2_with fail
          go_ret
          refine ⟨?_, H8E.out.2⟩
          rw [HS.out]
          first
            | rfl
            | (simp; done)
            | simp_all
  · have q8 : (t.kind == 8) = false := by simp [h8]
    by_cases h9 : t.kind = 9
    · have q9 : (t.kind == 9) = true := by simp [h9]
      have hk := Or.inl (b := t.kind = 10) h9
      clear h9 h8
      by_cases ha : t.name.toList = []
      · have fa : t.name.toList.isEmpty = true := by simp [ha]
        by_cases hb : ((t.fields.length : Int) + (t.res.length : Int) : Int) = 0
        · have fb : (((t.fields.length : Int) + (t.res.length : Int) : Int) == 0) = true := by simp only [beq_iff_eq]; omega
          have gb : decide (((t.fields.length : Int) + (t.res.length : Int) : Int) = 0) = true := decide_eq_true (by omega)
          by_cases hc : (t.con : Int) = 0
          · have fc : ((t.con : Int) == 0) = true := by simp only [beq_iff_eq]; omega
            have gc : decide ((t.con : Int) = 0) = true := decide_eq_true (by omega)
            by_cases hd : ((t.list.length : Int) : Int) = 1
            · have fd : (((t.list.length : Int) : Int) == 1) = true := by simp only [beq_iff_eq]; omega
              have gd : decide (((t.list.length : Int) : Int) = 1) = true := decide_eq_true (by omega)
              have HS := Lib.hid (show shapeT t = true by
                  rw [shape9 hk, bare_iff, ← Bool.decide_and]
                  first
                    | exact decide_eq_true (by refine ⟨⟨fun _ => ?_, fun _ => ?_, fun _ => ?_, fun k => absurd k (by decide), fun _ => ?_⟩, ?_⟩ <;> first | assumption | omega)
                    | exact decide_eq_false (by rintro ⟨⟨k1, k2, k3, k4, k5⟩, k6⟩; have k1 := k1 rfl; have k2 := k2 rfl; have k3 := k3 rfl; have k5 := k5 rfl; first | omega | exact absurd k1 (by assumption)))
              clear ha hb hc hd hk
              go_enter Tryd.func62, Tryd.ntmps62
              go_wp2_with fail
              generalize w.alloc (.cells #[.int .i64 t.kind, .string t.name, .int .i64 t.con, .slice Af t.fields.length cf, .slice Al t.list.length cl, .slice Ar t.res.length cr] 33) = W at hb1 hc1 ⊢
              generalize hg : w.heap.size = g at hb1 ⊢
              obtain ⟨y0, y1, y2, y3, y4, y5⟩ := hb1.cells6
              have H0 := Lib.hid (And.intro hb1 (And.intro hc1 hg))
              clear hb1 hc1 hg
              go_quiet (fail)
              rename_i nq
              go_wp2_with fail
              refine (name_any t.name (W.drewN nq) (by omega) ((HT.out.2.2.2.keep0 H0.out.2.1).keep0 ((Chg.refl _ W).drewN nq))).mono fun e w1 h => ?_
              obtain ⟨rfl, hc1⟩ := h
              have hc1 := hc1.drewNl
              have z0 := hc1.cell y0 fun _ => id
              have z1 := hc1.cell y1 fun _ => id
              have z2 := hc1.cell y2 fun _ => id
              have z3 := hc1.cell y3 fun _ => id
              clear y0 y1 y2 y3 y4 y5
              go_wp2_with fail
              go_ret
              refine ⟨?_, H0.out.2.1.trans hc1⟩
              rw [HS.out]
              first
                | rfl
                | (simp; done)
                | simp_all
            · have fd : (((t.list.length : Int) : Int) == 1) = false := by simp only [beq_eq_false_iff_ne]; omega
              have gd : decide (((t.list.length : Int) : Int) = 1) = false := decide_eq_false (by omega)
              have HS := Lib.hid (show shapeT t = false by
                  rw [shape9 hk, bare_iff, ← Bool.decide_and]
                  first
                    | exact decide_eq_true (by refine ⟨⟨fun _ => ?_, fun _ => ?_, fun _ => ?_, fun k => absurd k (by decide), fun _ => ?_⟩, ?_⟩ <;> first | assumption | omega)
                    | exact decide_eq_false (by rintro ⟨⟨k1, k2, k3, k4, k5⟩, k6⟩; have k1 := k1 rfl; have k2 := k2 rfl; have k3 := k3 rfl; have k5 := k5 rfl; first | omega | exact absurd k1 (by assumption)))
              clear ha hb hc hd hk
              go_enter Tryd.func62, Tryd.ntmps62
              go_wp2_with fail
              generalize w.alloc (.cells #[.int .i64 t.kind, .string t.name, .int .i64 t.con, .slice Af t.fields.length cf, .slice Al t.list.length cl, .slice Ar t.res.length cr] 33) = W at hb1 hc1 ⊢
              generalize hg : w.heap.size = g at hb1 ⊢
              obtain ⟨y0, y1, y2, y3, y4, y5⟩ := hb1.cells6
              have H0 := Lib.hid (And.intro hb1 (And.intro hc1 hg))
              clear hb1 hc1 hg
              go_quiet (fail)
              rename_i nq
              go_wp2_with fail
              refine (name_any t.name (W.drewN nq) (by omega) ((HT.out.2.2.2.keep0 H0.out.2.1).keep0 ((Chg.refl _ W).drewN nq))).mono fun e w1 h => ?_
              obtain ⟨rfl, hc1⟩ := h
              have hc1 := hc1.drewNl
              have z0 := hc1.cell y0 fun _ => id
              have z1 := hc1.cell y1 fun _ => id
              have z2 := hc1.cell y2 fun _ => id
              have z3 := hc1.cell y3 fun _ => id
              clear y0 y1 y2 y3 y4 y5
              go_wp2_with fail
              go_ret
              refine ⟨?_, H0.out.2.1.trans hc1⟩
              rw [HS.out]
              first
                | rfl
                | (simp; done)
                | simp_all
          · have fc : ((t.con : Int) == 0) = false := by simp only [beq_eq_false_iff_ne]; omega
            have gc : decide ((t.con : Int) = 0) = false := decide_eq_false (by omega)
            have HS := Lib.hid (show shapeT t = false by
                rw [shape9 hk, bare_iff, ← Bool.decide_and]
                first
                  | exact decide_eq_true (by refine ⟨⟨fun _ => ?_, fun _ => ?_, fun _ => ?_, fun k => absurd k (by decide), fun _ => ?_⟩, ?_⟩ <;> first | assumption | omega)
                  | exact decide_eq_false (by rintro ⟨⟨k1, k2, k3, k4, k5⟩, k6⟩; have k1 := k1 rfl; have k2 := k2 rfl; have k3 := k3 rfl; have k5 := k5 rfl; first | omega | exact absurd k1 (by assumption)))
            clear ha hb hc hk
            go_enter Tryd.func62, Tryd.ntmps62
            go_wp2_with fail
            generalize w.alloc (.cells #[.int .i64 t.kind, .string t.name, .int .i64 t.con, .slice Af t.fields.length cf, .slice Al t.list.length cl, .slice Ar t.res.length cr] 33) = W at hb1 hc1 ⊢
            generalize hg : w.heap.size = g at hb1 ⊢
            obtain ⟨y0, y1, y2, y3, y4, y5⟩ := hb1.cells6
            have H0 := Lib.hid (And.intro hb1 (And.intro hc1 hg))
            clear hb1 hc1 hg
            go_quiet (fail)
            rename_i nq
            go_wp2_with fail
            refine (name_any t.name (W.drewN nq) (by omega) ((HT.out.2.2.2.keep0 H0.out.2.1).keep0 ((Chg.refl _ W).drewN nq))).mono fun e w1 h => ?_
            obtain ⟨rfl, hc1⟩ := h
            have hc1 := hc1.drewNl
            have z0 := hc1.cell y0 fun _ => id
            have z1 := hc1.cell y1 fun _ => id
            have z2 := hc1.cell y2 fun _ => id
            have z3 := hc1.cell y3 fun _ => id
            clear y0 y1 y2 y3 y4 y5
            go_wp2_with fail
            go_ret
            refine ⟨?_, H0.out.2.1.trans hc1⟩
            rw [HS.out]
            first
              | rfl
              | (simp; done)
              | simp_all
        · have fb : (((t.fields.length : Int) + (t.res.length : Int) : Int) == 0) = false := by simp only [beq_eq_false_iff_ne]; omega
          have gb : decide (((t.fields.length : Int) + (t.res.length : Int) : Int) = 0) = false := decide_eq_false (by omega)
          have HS := Lib.hid (show shapeT t = false by
              rw [shape9 hk, bare_iff, ← Bool.decide_and]
              first
                | exact decide_eq_true (by refine ⟨⟨fun _ => ?_, fun _ => ?_, fun _ => ?_, fun k => absurd k (by decide), fun _ => ?_⟩, ?_⟩ <;> first | assumption | omega)
                | exact decide_eq_false (by rintro ⟨⟨k1, k2, k3, k4, k5⟩, k6⟩; have k1 := k1 rfl; have k2 := k2 rfl; have k3 := k3 rfl; have k5 := k5 rfl; first | omega | exact absurd k1 (by assumption)))
          clear ha hb hk
          go_enter Tryd.func62, Tryd.ntmps62
          go_wp2_with fail
          generalize w.alloc (.cells #[.int .i64 t.kind, .string t.name, .int .i64 t.con, .slice Af t.fields.length cf, .slice Al t.list.length cl, .slice Ar t.res.length cr] 33) = W at hb1 hc1 ⊢
          generalize hg : w.heap.size = g at hb1 ⊢
          obtain ⟨y0, y1, y2, y3, y4, y5⟩ := hb1.cells6
          have H0 := Lib.hid (And.intro hb1 (And.intro hc1 hg))
          clear hb1 hc1 hg
          go_quiet (fail)
          rename_i nq
          go_wp2_with fail
          refine (name_any t.name (W.drewN nq) (by omega) ((HT.out.2.2.2.keep0 H0.out.2.1).keep0 ((Chg.refl _ W).drewN nq))).mono fun e w1 h => ?_
          obtain ⟨rfl, hc1⟩ := h
          have hc1 := hc1.drewNl
          have z0 := hc1.cell y0 fun _ => id
          have z1 := hc1.cell y1 fun _ => id
          have z2 := hc1.cell y2 fun _ => id
          have z3 := hc1.cell y3 fun _ => id
          clear y0 y1 y2 y3 y4 y5
          go_wp2_with fail
          go_ret
          refine ⟨?_, H0.out.2.1.trans hc1⟩
          rw [HS.out]
          first
            | rfl
            | (simp; done)
            | simp_all
      · have fa : t.name.toList.isEmpty = false := by simp [ha]
        have HS := Lib.hid (show shapeT t = false by
            rw [shape9 hk, bare_iff, ← Bool.decide_and]
            first
              | exact decide_eq_true (by refine ⟨⟨fun _ => ?_, fun _ => ?_, fun _ => ?_, fun k => absurd k (by decide), fun _ => ?_⟩, ?_⟩ <;> first | assumption | omega)
              | exact decide_eq_false (by rintro ⟨⟨k1, k2, k3, k4, k5⟩, k6⟩; have k1 := k1 rfl; have k2 := k2 rfl; have k3 := k3 rfl; have k5 := k5 rfl; first | omega | exact absurd k1 (by assumption)))
        clear ha hk
        go_enter Tryd.func62, Tryd.ntmps62
        go_wp2_with fail
        generalize w.alloc (.cells #[.int .i64 t.kind, .string t.name, .int .i64 t.con, .slice Af t.fields.length cf, .slice Al t.list.length cl, .slice Ar t.res.length cr] 33) = W at hb1 hc1 ⊢
        generalize hg : w.heap.size = g at hb1 ⊢
        obtain ⟨y0, y1, y2, y3, y4, y5⟩ := hb1.cells6
        have H0 := Lib.hid (And.intro hb1 (And.intro hc1 hg))
        clear hb1 hc1 hg
        go_quiet (fail)
        rename_i nq
        go_wp2_with fail
        refine (name_any t.name (W.drewN nq) (by omega) ((HT.out.2.2.2.keep0 H0.out.2.1).keep0 ((Chg.refl _ W).drewN nq))).mono fun e w1 h => ?_
        obtain ⟨rfl, hc1⟩ := h
        have hc1 := hc1.drewNl
        have z0 := hc1.cell y0 fun _ => id
        have z1 := hc1.cell y1 fun _ => id
        have z2 := hc1.cell y2 fun _ => id
        have z3 := hc1.cell y3 fun _ => id
        clear y0 y1 y2 y3 y4 y5
        go_wp2_with fail
        go_ret
        refine ⟨?_, H0.out.2.1.trans hc1⟩
        rw [HS.out]
        first
          | rfl
          | (simp; done)
          | simp_all
    · have q9 : (t.kind == 9) = false := by simp [h9]
      by_cases h10 : t.kind = 10
      · have q10 : (t.kind == 10) = true := by simp [h10]
        have hk := Or.inr (a := t.kind = 9) h10
        clear h10 h9 h8
        by_cases ha : t.name.toList = []
        · have fa : t.name.toList.isEmpty = true := by simp [ha]
          by_cases hb : ((t.fields.length : Int) + (t.res.length : Int) : Int) = 0
          · have fb : (((t.fields.length : Int) + (t.res.length : Int) : Int) == 0) = true := by simp only [beq_iff_eq]; omega
            have gb : decide (((t.fields.length : Int) + (t.res.length : Int) : Int) = 0) = true := decide_eq_true (by omega)
            by_cases hc : (t.con : Int) = 0
            · have fc : ((t.con : Int) == 0) = true := by simp only [beq_iff_eq]; omega
              have gc : decide ((t.con : Int) = 0) = true := decide_eq_true (by omega)
              by_cases hd : ((t.list.length : Int) : Int) = 1
              · have fd : (((t.list.length : Int) : Int) == 1) = true := by simp only [beq_iff_eq]; omega
                have gd : decide (((t.list.length : Int) : Int) = 1) = true := decide_eq_true (by omega)
                have HS := Lib.hid (show shapeT t = true by
                    rw [shape9 hk, bare_iff, ← Bool.decide_and]
                    first
                      | exact decide_eq_true (by refine ⟨⟨fun _ => ?_, fun _ => ?_, fun _ => ?_, fun k => absurd k (by decide), fun _ => ?_⟩, ?_⟩ <;> first | assumption | omega)
                      | exact decide_eq_false (by rintro ⟨⟨k1, k2, k3, k4, k5⟩, k6⟩; have k1 := k1 rfl; have k2 := k2 rfl; have k3 := k3 rfl; have k5 := k5 rfl; first | omega | exact absurd k1 (by assumption)))
                clear ha hb hc hd hk
                go_enter Tryd.func62, Tryd.ntmps62
                go_wp2_with fail
                generalize w.alloc (.cells #[.int .i64 t.kind, .string t.name, .int .i64 t.con, .slice Af t.fields.length cf, .slice Al t.list.length cl, .slice Ar t.res.length cr] 33) = W at hb1 hc1 ⊢
                generalize hg : w.heap.size = g at hb1 ⊢
                obtain ⟨y0, y1, y2, y3, y4, y5⟩ := hb1.cells6
                have H0 := Lib.hid (And.intro hb1 (And.intro hc1 hg))
                clear hb1 hc1 hg
                go_quiet (fail)
                rename_i nq
                go_wp2_with fail
                refine (name_any t.name (W.drewN nq) (by omega) ((HT.out.2.2.2.keep0 H0.out.2.1).keep0 ((Chg.refl _ W).drewN nq))).mono fun e w1 h => ?_
                obtain ⟨rfl, hc1⟩ := h
                have hc1 := hc1.drewNl
                have z0 := hc1.cell y0 fun _ => id
                have z1 := hc1.cell y1 fun _ => id
                have z2 := hc1.cell y2 fun _ => id
                have z3 := hc1.cell y3 fun _ => id
                clear y0 y1 y2 y3 y4 y5
                go_wp2_with fail
                go_ret
                refine ⟨?_, H0.out.2.1.trans hc1⟩
                rw [HS.out]
                first
                  | rfl
                  | (simp; done)
                  | simp_all
              · have fd : (((t.list.length : Int) : Int) == 1) = false := by simp only [beq_eq_false_iff_ne]; omega
                have gd : decide (((t.list.length : Int) : Int) = 1) = false := decide_eq_false (by omega)
                have HS := Lib.hid (show shapeT t = false by
                    rw [shape9 hk, bare_iff, ← Bool.decide_and]
                    first
                      | exact decide_eq_true (by refine ⟨⟨fun _ => ?_, fun _ => ?_, fun _ => ?_, fun k => absurd k (by decide), fun _ => ?_⟩, ?_⟩ <;> first | assumption | omega)
                      | exact decide_eq_false (by rintro ⟨⟨k1, k2, k3, k4, k5⟩, k6⟩; have k1 := k1 rfl; have k2 := k2 rfl; have k3 := k3 rfl; have k5 := k5 rfl; first | omega | exact absurd k1 (by assumption)))
                clear ha hb hc hd hk
                go_enter Tryd.func62, Tryd.ntmps62
                go_wp2_with fail
                generalize w.alloc (.cells #[.int .i64 t.kind, .string t.name, .int .i64 t.con, .slice Af t.fields.length cf, .slice Al t.list.length cl, .slice Ar t.res.length cr] 33) = W at hb1 hc1 ⊢
                generalize hg : w.heap.size = g at hb1 ⊢
                obtain ⟨y0, y1, y2, y3, y4, y5⟩ := hb1.cells6
                have H0 := Lib.hid (And.intro hb1 (And.intro hc1 hg))
                clear hb1 hc1 hg
                go_quiet (fail)
                rename_i nq
                go_wp2_with fail
                refine (name_any t.name (W.drewN nq) (by omega) ((HT.out.2.2.2.keep0 H0.out.2.1).keep0 ((Chg.refl _ W).drewN nq))).mono fun e w1 h => ?_
                obtain ⟨rfl, hc1⟩ := h
                have hc1 := hc1.drewNl
                have z0 := hc1.cell y0 fun _ => id
                have z1 := hc1.cell y1 fun _ => id
                have z2 := hc1.cell y2 fun _ => id
                have z3 := hc1.cell y3 fun _ => id
                clear y0 y1 y2 y3 y4 y5
                go_wp2_with fail
                go_ret
                refine ⟨?_, H0.out.2.1.trans hc1⟩
                rw [HS.out]
                first
                  | rfl
                  | (simp; done)
                  | simp_all
            · have fc : ((t.con : Int) == 0) = false := by simp only [beq_eq_false_iff_ne]; omega
              have gc : decide ((t.con : Int) = 0) = false := decide_eq_false (by omega)
              have HS := Lib.hid (show shapeT t = false by
                  rw [shape9 hk, bare_iff, ← Bool.decide_and]
                  first
                    | exact decide_eq_true (by refine ⟨⟨fun _ => ?_, fun _ => ?_, fun _ => ?_, fun k => absurd k (by decide), fun _ => ?_⟩, ?_⟩ <;> first | assumption | omega)
                    | exact decide_eq_false (by rintro ⟨⟨k1, k2, k3, k4, k5⟩, k6⟩; have k1 := k1 rfl; have k2 := k2 rfl; have k3 := k3 rfl; have k5 := k5 rfl; first | omega | exact absurd k1 (by assumption)))
              clear ha hb hc hk
              go_enter Tryd.func62, Tryd.ntmps62
              go_wp2_with fail
              generalize w.alloc (.cells #[.int .i64 t.kind, .string t.name, .int .i64 t.con, .slice Af t.fields.length cf, .slice Al t.list.length cl, .slice Ar t.res.length cr] 33) = W at hb1 hc1 ⊢
              generalize hg : w.heap.size = g at hb1 ⊢
              obtain ⟨y0, y1, y2, y3, y4, y5⟩ := hb1.cells6
              have H0 := Lib.hid (And.intro hb1 (And.intro hc1 hg))
              clear hb1 hc1 hg
              go_quiet (fail)
              rename_i nq
              go_wp2_with fail
              refine (name_any t.name (W.drewN nq) (by omega) ((HT.out.2.2.2.keep0 H0.out.2.1).keep0 ((Chg.refl _ W).drewN nq))).mono fun e w1 h => ?_
              obtain ⟨rfl, hc1⟩ := h
              have hc1 := hc1.drewNl
              have z0 := hc1.cell y0 fun _ => id
              have z1 := hc1.cell y1 fun _ => id
              have z2 := hc1.cell y2 fun _ => id
              have z3 := hc1.cell y3 fun _ => id
              clear y0 y1 y2 y3 y4 y5
              go_wp2_with fail
              go_ret
              refine ⟨?_, H0.out.2.1.trans hc1⟩
              rw [HS.out]
              first
                | rfl
                | (simp; done)
                | simp_all
          · have fb : (((t.fields.length : Int) + (t.res.length : Int) : Int) == 0) = false := by simp only [beq_eq_false_iff_ne]; omega
            have gb : decide (((t.fields.length : Int) + (t.res.length : Int) : Int) = 0) = false := decide_eq_false (by omega)
            have HS := Lib.hid (show shapeT t = false by
                rw [shape9 hk, bare_iff, ← Bool.decide_and]
                first
                  | exact decide_eq_true (by refine ⟨⟨fun _ => ?_, fun _ => ?_, fun _ => ?_, fun k => absurd k (by decide), fun _ => ?_⟩, ?_⟩ <;> first | assumption | omega)
                  | exact decide_eq_false (by rintro ⟨⟨k1, k2, k3, k4, k5⟩, k6⟩; have k1 := k1 rfl; have k2 := k2 rfl; have k3 := k3 rfl; have k5 := k5 rfl; first | omega | exact absurd k1 (by assumption)))
            clear ha hb hk
            go_enter Tryd.func62, Tryd.ntmps62
            go_wp2_with fail
            generalize w.alloc (.cells #[.int .i64 t.kind, .string t.name, .int .i64 t.con, .slice Af t.fields.length cf, .slice Al t.list.length cl, .slice Ar t.res.length cr] 33) = W at hb1 hc1 ⊢
            generalize hg : w.heap.size = g at hb1 ⊢
            obtain ⟨y0, y1, y2, y3, y4, y5⟩ := hb1.cells6
            have H0 := Lib.hid (And.intro hb1 (And.intro hc1 hg))
            clear hb1 hc1 hg
            go_quiet (fail)
            rename_i nq
            go_wp2_with fail
            refine (name_any t.name (W.drewN nq) (by omega) ((HT.out.2.2.2.keep0 H0.out.2.1).keep0 ((Chg.refl _ W).drewN nq))).mono fun e w1 h => ?_
            obtain ⟨rfl, hc1⟩ := h
            have hc1 := hc1.drewNl
            have z0 := hc1.cell y0 fun _ => id
            have z1 := hc1.cell y1 fun _ => id
            have z2 := hc1.cell y2 fun _ => id
            have z3 := hc1.cell y3 fun _ => id
            clear y0 y1 y2 y3 y4 y5
            go_wp2_with fail
            go_ret
            refine ⟨?_, H0.out.2.1.trans hc1⟩
            rw [HS.out]
            first
              | rfl
              | (simp; done)
              | simp_all
        · have fa : t.name.toList.isEmpty = false := by simp [ha]
          have HS := Lib.hid (show shapeT t = false by
              rw [shape9 hk, bare_iff, ← Bool.decide_and]
              first
                | exact decide_eq_true (by refine ⟨⟨fun _ => ?_, fun _ => ?_, fun _ => ?_, fun k => absurd k (by decide), fun _ => ?_⟩, ?_⟩ <;> first | assumption | omega)
                | exact decide_eq_false (by rintro ⟨⟨k1, k2, k3, k4, k5⟩, k6⟩; have k1 := k1 rfl; have k2 := k2 rfl; have k3 := k3 rfl; have k5 := k5 rfl; first | omega | exact absurd k1 (by assumption)))
          clear ha hk
          go_enter Tryd.func62, Tryd.ntmps62
          go_wp2_with fail
          generalize w.alloc (.cells #[.int .i64 t.kind, .string t.name, .int .i64 t.con, .slice Af t.fields.length cf, .slice Al t.list.length cl, .slice Ar t.res.length cr] 33) = W at hb1 hc1 ⊢
          generalize hg : w.heap.size = g at hb1 ⊢
          obtain ⟨y0, y1, y2, y3, y4, y5⟩ := hb1.cells6
          have H0 := Lib.hid (And.intro hb1 (And.intro hc1 hg))
          clear hb1 hc1 hg
          go_quiet (fail)
          rename_i nq
          go_wp2_with fail
          refine (name_any t.name (W.drewN nq) (by omega) ((HT.out.2.2.2.keep0 H0.out.2.1).keep0 ((Chg.refl _ W).drewN nq))).mono fun e w1 h => ?_
          obtain ⟨rfl, hc1⟩ := h
          have hc1 := hc1.drewNl
          have z0 := hc1.cell y0 fun _ => id
          have z1 := hc1.cell y1 fun _ => id
          have z2 := hc1.cell y2 fun _ => id
          have z3 := hc1.cell y3 fun _ => id
          clear y0 y1 y2 y3 y4 y5
          go_wp2_with fail
          go_ret
          refine ⟨?_, H0.out.2.1.trans hc1⟩
          rw [HS.out]
          first
            | rfl
            | (simp; done)
            | simp_all
      · have q10 : (t.kind == 10) = false := by simp [h10]
        by_cases hk : t.kind = 11
        · have q11 : (t.kind == 11) = true := by simp [hk]
          clear h10 h9 h8
          by_cases ha : t.name.toList = []
          · have fa : t.name.toList.isEmpty = true := by simp [ha]
            by_cases hb : ((t.fields.length : Int) : Int) = 0
            · have fb : (((t.fields.length : Int) : Int) == 0) = true := by simp only [beq_iff_eq]; omega
              have gb : decide (((t.fields.length : Int) : Int) = 0) = true := decide_eq_true (by omega)
              by_cases hc : (t.con : Int) = 0
              · have fc : ((t.con : Int) == 0) = true := by simp only [beq_iff_eq]; omega
                have gc : decide ((t.con : Int) = 0) = true := decide_eq_true (by omega)
                by_cases hd : ((t.list.length : Int) : Int) ≤ 16
                · have fd : decide (((t.list.length : Int) : Int) ≤ 16) = true := decide_eq_true (by omega)
                  by_cases he : ((t.res.length : Int) : Int) ≤ 1
                  · have fe : decide (((t.res.length : Int) : Int) ≤ 1) = true := decide_eq_true (by omega)
                    have HS := Lib.hid (show shapeT t = true by
                        rw [shape11 hk, bare_iff, ← Bool.decide_and, ← Bool.decide_and]
                        first
                          | exact decide_eq_true (by refine ⟨⟨⟨fun _ => ?_, fun _ => ?_, fun _ => ?_, fun k => absurd k (by decide), fun k => absurd k (by decide)⟩, ?_⟩, ?_⟩ <;> first | assumption | omega)
                          | exact decide_eq_false (by rintro ⟨⟨⟨k1, k2, k3, k4, k5⟩, k6⟩, k7⟩; have k1 := k1 rfl; have k2 := k2 rfl; have k3 := k3 rfl; first | omega | exact absurd k1 (by assumption)))
                    clear ha hb hc hd he hk
                    go_enter Tryd.func62, Tryd.ntmps62
                    go_wp2_with fail
                    generalize w.alloc (.cells #[.int .i64 t.kind, .string t.name, .int .i64 t.con, .slice Af t.fields.length cf, .slice Al t.list.length cl, .slice Ar t.res.length cr] 33) = W at hb1 hc1 ⊢
                    generalize hg : w.heap.size = g at hb1 ⊢
                    obtain ⟨y0, y1, y2, y3, y4, y5⟩ := hb1.cells6
                    have H0 := Lib.hid (And.intro hb1 (And.intro hc1 hg))
                    clear hb1 hc1 hg
                    go_quiet (fail)
                    rename_i nq
                    go_wp2_with fail
                    refine (name_any t.name (W.drewN nq) (by omega) ((HT.out.2.2.2.keep0 H0.out.2.1).keep0 ((Chg.refl _ W).drewN nq))).mono fun e w1 h => ?_
                    obtain ⟨rfl, hc1⟩ := h
                    have hc1 := hc1.drewNl
                    have z0 := hc1.cell y0 fun _ => id
                    have z1 := hc1.cell y1 fun _ => id
                    have z2 := hc1.cell y2 fun _ => id
                    have z3 := hc1.cell y3 fun _ => id
                    clear y0 y1 y2 y3 y4 y5
                    go_wp2_with fail
                    go_ret
                    refine ⟨?_, H0.out.2.1.trans hc1⟩
                    rw [HS.out]
                    first
                      | rfl
                      | (simp; done)
                      | simp_all
                  · have fe : decide (((t.res.length : Int) : Int) ≤ 1) = false := decide_eq_false (by omega)
                    have HS := Lib.hid (show shapeT t = false by
                        rw [shape11 hk, bare_iff, ← Bool.decide_and, ← Bool.decide_and]
                        first
                          | exact decide_eq_true (by refine ⟨⟨⟨fun _ => ?_, fun _ => ?_, fun _ => ?_, fun k => absurd k (by decide), fun k => absurd k (by decide)⟩, ?_⟩, ?_⟩ <;> first | assumption | omega)
                          | exact decide_eq_false (by rintro ⟨⟨⟨k1, k2, k3, k4, k5⟩, k6⟩, k7⟩; have k1 := k1 rfl; have k2 := k2 rfl; have k3 := k3 rfl; first | omega | exact absurd k1 (by assumption)))
                    clear ha hb hc hd he hk
                    go_enter Tryd.func62, Tryd.ntmps62
                    go_wp2_with fail
                    generalize w.alloc (.cells #[.int .i64 t.kind, .string t.name, .int .i64 t.con, .slice Af t.fields.length cf, .slice Al t.list.length cl, .slice Ar t.res.length cr] 33) = W at hb1 hc1 ⊢
                    generalize hg : w.heap.size = g at hb1 ⊢
                    obtain ⟨y0, y1, y2, y3, y4, y5⟩ := hb1.cells6
                    have H0 := Lib.hid (And.intro hb1 (And.intro hc1 hg))
                    clear hb1 hc1 hg
                    go_quiet (fail)
                    rename_i nq
                    go_wp2_with fail
                    refine (name_any t.name (W.drewN nq) (by omega) ((HT.out.2.2.2.keep0 H0.out.2.1).keep0 ((Chg.refl _ W).drewN nq))).mono fun e w1 h => ?_
                    obtain ⟨rfl, hc1⟩ := h
                    have hc1 := hc1.drewNl
                    have z0 := hc1.cell y0 fun _ => id
                    have z1 := hc1.cell y1 fun _ => id
                    have z2 := hc1.cell y2 fun _ => id
                    have z3 := hc1.cell y3 fun _ => id
                    clear y0 y1 y2 y3 y4 y5
                    go_wp2_with fail
                    go_ret
                    refine ⟨?_, H0.out.2.1.trans hc1⟩
                    rw [HS.out]
                    first
                      | rfl
                      | (simp; done)
                      | simp_all
                · have fd : decide (((t.list.length : Int) : Int) ≤ 16) = false := decide_eq_false (by omega)
                  have HS := Lib.hid (show shapeT t = false by
                      rw [shape11 hk, bare_iff, ← Bool.decide_and, ← Bool.decide_and]
                      first
                        | exact decide_eq_true (by refine ⟨⟨⟨fun _ => ?_, fun _ => ?_, fun _ => ?_, fun k => absurd k (by decide), fun k => absurd k (by decide)⟩, ?_⟩, ?_⟩ <;> first | assumption | omega)
                        | exact decide_eq_false (by rintro ⟨⟨⟨k1, k2, k3, k4, k5⟩, k6⟩, k7⟩; have k1 := k1 rfl; have k2 := k2 rfl; have k3 := k3 rfl; first | omega | exact absurd k1 (by assumption)))
                  clear ha hb hc hd hk
                  go_enter Tryd.func62, Tryd.ntmps62
                  go_wp2_with fail
                  generalize w.alloc (.cells #[.int .i64 t.kind, .string t.name, .int .i64 t.con, .slice Af t.fields.length cf, .slice Al t.list.length cl, .slice Ar t.res.length cr] 33) = W at hb1 hc1 ⊢
                  generalize hg : w.heap.size = g at hb1 ⊢
                  obtain ⟨y0, y1, y2, y3, y4, y5⟩ := hb1.cells6
                  have H0 := Lib.hid (And.intro hb1 (And.intro hc1 hg))
                  clear hb1 hc1 hg
                  go_quiet (fail)
                  rename_i nq
                  go_wp2_with fail
                  refine (name_any t.name (W.drewN nq) (by omega) ((HT.out.2.2.2.keep0 H0.out.2.1).keep0 ((Chg.refl _ W).drewN nq))).mono fun e w1 h => ?_
                  obtain ⟨rfl, hc1⟩ := h
                  have hc1 := hc1.drewNl
                  have z0 := hc1.cell y0 fun _ => id
                  have z1 := hc1.cell y1 fun _ => id
                  have z2 := hc1.cell y2 fun _ => id
                  have z3 := hc1.cell y3 fun _ => id
                  clear y0 y1 y2 y3 y4 y5
                  go_wp2_with fail
                  go_ret
                  refine ⟨?_, H0.out.2.1.trans hc1⟩
                  rw [HS.out]
                  first
                    | rfl
                    | (simp; done)
                    | simp_all
              · have fc : ((t.con : Int) == 0) = false := by simp only [beq_eq_false_iff_ne]; omega
                have gc : decide ((t.con : Int) = 0) = false := decide_eq_false (by omega)
                have HS := Lib.hid (show shapeT t = false by
                    rw [shape11 hk, bare_iff, ← Bool.decide_and, ← Bool.decide_and]
                    first
                      | exact decide_eq_true (by refine ⟨⟨⟨fun _ => ?_, fun _ => ?_, fun _ => ?_, fun k => absurd k (by decide), fun k => absurd k (by decide)⟩, ?_⟩, ?_⟩ <;> first | assumption | omega)
                      | exact decide_eq_false (by rintro ⟨⟨⟨k1, k2, k3, k4, k5⟩, k6⟩, k7⟩; have k1 := k1 rfl; have k2 := k2 rfl; have k3 := k3 rfl; first | omega | exact absurd k1 (by assumption)))
                clear ha hb hc hk
                go_enter Tryd.func62, Tryd.ntmps62
                go_wp2_with fail
                generalize w.alloc (.cells #[.int .i64 t.kind, .string t.name, .int .i64 t.con, .slice Af t.fields.length cf, .slice Al t.list.length cl, .slice Ar t.res.length cr] 33) = W at hb1 hc1 ⊢
                generalize hg : w.heap.size = g at hb1 ⊢
                obtain ⟨y0, y1, y2, y3, y4, y5⟩ := hb1.cells6
                have H0 := Lib.hid (And.intro hb1 (And.intro hc1 hg))
                clear hb1 hc1 hg
                go_quiet (fail)
                rename_i nq
                go_wp2_with fail
                refine (name_any t.name (W.drewN nq) (by omega) ((HT.out.2.2.2.keep0 H0.out.2.1).keep0 ((Chg.refl _ W).drewN nq))).mono fun e w1 h => ?_
                obtain ⟨rfl, hc1⟩ := h
                have hc1 := hc1.drewNl
                have z0 := hc1.cell y0 fun _ => id
                have z1 := hc1.cell y1 fun _ => id
                have z2 := hc1.cell y2 fun _ => id
                have z3 := hc1.cell y3 fun _ => id
                clear y0 y1 y2 y3 y4 y5
                go_wp2_with fail
                go_ret
                refine ⟨?_, H0.out.2.1.trans hc1⟩
                rw [HS.out]
                first
                  | rfl
                  | (simp; done)
                  | simp_all
            · have fb : (((t.fields.length : Int) : Int) == 0) = false := by simp only [beq_eq_false_iff_ne]; omega
              have gb : decide (((t.fields.length : Int) : Int) = 0) = false := decide_eq_false (by omega)
              have HS := Lib.hid (show shapeT t = false by
                  rw [shape11 hk, bare_iff, ← Bool.decide_and, ← Bool.decide_and]
                  first
                    | exact decide_eq_true (by refine ⟨⟨⟨fun _ => ?_, fun _ => ?_, fun _ => ?_, fun k => absurd k (by decide), fun k => absurd k (by decide)⟩, ?_⟩, ?_⟩ <;> first | assumption | omega)
                    | exact decide_eq_false (by rintro ⟨⟨⟨k1, k2, k3, k4, k5⟩, k6⟩, k7⟩; have k1 := k1 rfl; have k2 := k2 rfl; have k3 := k3 rfl; first | omega | exact absurd k1 (by assumption)))
              clear ha hb hk
              go_enter Tryd.func62, Tryd.ntmps62
              go_wp2_with fail
              generalize w.alloc (.cells #[.int .i64 t.kind, .string t.name, .int .i64 t.con, .slice Af t.fields.length cf, .slice Al t.list.length cl, .slice Ar t.res.length cr] 33) = W at hb1 hc1 ⊢
              generalize hg : w.heap.size = g at hb1 ⊢
              obtain ⟨y0, y1, y2, y3, y4, y5⟩ := hb1.cells6
              have H0 := Lib.hid (And.intro hb1 (And.intro hc1 hg))
              clear hb1 hc1 hg
              go_quiet (fail)
              rename_i nq
              go_wp2_with fail
              refine (name_any t.name (W.drewN nq) (by omega) ((HT.out.2.2.2.keep0 H0.out.2.1).keep0 ((Chg.refl _ W).drewN nq))).mono fun e w1 h => ?_
              obtain ⟨rfl, hc1⟩ := h
              have hc1 := hc1.drewNl
              have z0 := hc1.cell y0 fun _ => id
              have z1 := hc1.cell y1 fun _ => id
              have z2 := hc1.cell y2 fun _ => id
              have z3 := hc1.cell y3 fun _ => id
              clear y0 y1 y2 y3 y4 y5
              go_wp2_with fail
              go_ret
              refine ⟨?_, H0.out.2.1.trans hc1⟩
              rw [HS.out]
              first
                | rfl
                | (simp; done)
                | simp_all
          · have fa : t.name.toList.isEmpty = false := by simp [ha]
            have HS := Lib.hid (show shapeT t = false by
                rw [shape11 hk, bare_iff, ← Bool.decide_and, ← Bool.decide_and]
                first
                  | exact decide_eq_true (by refine ⟨⟨⟨fun _ => ?_, fun _ => ?_, fun _ => ?_, fun k => absurd k (by decide), fun k => absurd k (by decide)⟩, ?_⟩, ?_⟩ <;> first | assumption | omega)
                  | exact decide_eq_false (by rintro ⟨⟨⟨k1, k2, k3, k4, k5⟩, k6⟩, k7⟩; have k1 := k1 rfl; have k2 := k2 rfl; have k3 := k3 rfl; first | omega | exact absurd k1 (by assumption)))
            clear ha hk
            go_enter Tryd.func62, Tryd.ntmps62
            go_wp2_with fail
            generalize w.alloc (.cells #[.int .i64 t.kind, .string t.name, .int .i64 t.con, .slice Af t.fields.length cf, .slice Al t.list.length cl, .slice Ar t.res.length cr] 33) = W at hb1 hc1 ⊢
            generalize hg : w.heap.size = g at hb1 ⊢
            obtain ⟨y0, y1, y2, y3, y4, y5⟩ := hb1.cells6
            have H0 := Lib.hid (And.intro hb1 (And.intro hc1 hg))
            clear hb1 hc1 hg
            go_quiet (fail)
            rename_i nq
            go_wp2_with fail
            refine (name_any t.name (W.drewN nq) (by omega) ((HT.out.2.2.2.keep0 H0.out.2.1).keep0 ((Chg.refl _ W).drewN nq))).mono fun e w1 h => ?_
            obtain ⟨rfl, hc1⟩ := h
            have hc1 := hc1.drewNl
            have z0 := hc1.cell y0 fun _ => id
            have z1 := hc1.cell y1 fun _ => id
            have z2 := hc1.cell y2 fun _ => id
            have z3 := hc1.cell y3 fun _ => id
            clear y0 y1 y2 y3 y4 y5
            go_wp2_with fail
            go_ret
            refine ⟨?_, H0.out.2.1.trans hc1⟩
            rw [HS.out]
            first
              | rfl
              | (simp; done)
              | simp_all
        · have q11 : (t.kind == 11) = false := by simp [hk]
          by_cases h12 : t.kind = 12
          · have q12 : (t.kind == 12) = true := by simp [h12]
            clear hk h10 h9 h8
            have hk := h12
            clear h12
            by_cases hN : nameOK t.name = true
            · have fN : nameOK t.name = true := hN
              by_cases hb : ((t.fields.length : Int) + (t.list.length : Int) + (t.res.length : Int) : Int) = 0
              · have fb : (((t.fields.length : Int) + (t.list.length : Int) + (t.res.length : Int) : Int) == 0) = true := by simp only [beq_iff_eq]; omega
                have gb : decide (((t.fields.length : Int) + (t.list.length : Int) + (t.res.length : Int) : Int) = 0) = true := decide_eq_true (by omega)
                by_cases hc : 1 ≤ (t.con : Int)
                · have fc : decide (1 ≤ (t.con : Int)) = true := decide_eq_true (by omega)
                  by_cases hd : (t.con : Int) ≤ 3
                  · have fd : decide ((t.con : Int) ≤ 3) = true := decide_eq_true (by omega)
                    have HS := Lib.hid (show shapeT t = true by
                        rw [shape12 hk, bare_iff]
                        first
                          | (rw [fN, Bool.and_true, ← Bool.decide_and]; exact decide_eq_true (by refine ⟨⟨fun k => absurd k (by decide), fun k => absurd k (by decide), fun _ => ?_, fun _ => ?_, fun _ => ?_⟩, ?_, ?_⟩ <;> omega))
                          | (rw [fN, Bool.and_true, ← Bool.decide_and]; exact decide_eq_false (by rintro ⟨⟨k1, k2, k3, k4, k5⟩, k6⟩; have k3 := k3 rfl; have k4 := k4 rfl; have k5 := k5 rfl; omega))
                          | (rw [fN]; simp))
                    clear hb hc hd hk
                    go_enter Tryd.func62, Tryd.ntmps62
                    go_wp2_with fail
                    generalize w.alloc (.cells #[.int .i64 t.kind, .string t.name, .int .i64 t.con, .slice Af t.fields.length cf, .slice Al t.list.length cl, .slice Ar t.res.length cr] 33) = W at hb1 hc1 ⊢
                    generalize hg : w.heap.size = g at hb1 ⊢
                    obtain ⟨y0, y1, y2, y3, y4, y5⟩ := hb1.cells6
                    have H0 := Lib.hid (And.intro hb1 (And.intro hc1 hg))
                    clear hb1 hc1 hg
                    go_quiet (fail)
                    rename_i nq
                    go_wp2_with fail
                    refine (name_any t.name (W.drewN nq) (by omega) ((HT.out.2.2.2.keep0 H0.out.2.1).keep0 ((Chg.refl _ W).drewN nq))).mono fun e w1 h => ?_
                    obtain ⟨rfl, hc1⟩ := h
                    have hc1 := hc1.drewNl
                    have z0 := hc1.cell y0 fun _ => id
                    have z1 := hc1.cell y1 fun _ => id
                    have z2 := hc1.cell y2 fun _ => id
                    have z3 := hc1.cell y3 fun _ => id
                    clear y0 y1 y2 y3 y4 y5
                    go_wp2_with fail
                    go_ret
                    refine ⟨?_, H0.out.2.1.trans hc1⟩
                    rw [HS.out]
                    first
                      | rfl
                      | (simp; done)
                      | simp_all
                  · have fd : decide ((t.con : Int) ≤ 3) = false := decide_eq_false (by omega)
                    have HS := Lib.hid (show shapeT t = false by
                        rw [shape12 hk, bare_iff]
                        first
                          | (rw [fN, Bool.and_true, ← Bool.decide_and]; exact decide_eq_true (by refine ⟨⟨fun k => absurd k (by decide), fun k => absurd k (by decide), fun _ => ?_, fun _ => ?_, fun _ => ?_⟩, ?_, ?_⟩ <;> omega))
                          | (rw [fN, Bool.and_true, ← Bool.decide_and]; exact decide_eq_false (by rintro ⟨⟨k1, k2, k3, k4, k5⟩, k6⟩; have k3 := k3 rfl; have k4 := k4 rfl; have k5 := k5 rfl; omega))
                          | (rw [fN]; simp))
                    clear hb hc hd hk
                    go_enter Tryd.func62, Tryd.ntmps62
                    go_wp2_with fail
                    generalize w.alloc (.cells #[.int .i64 t.kind, .string t.name, .int .i64 t.con, .slice Af t.fields.length cf, .slice Al t.list.length cl, .slice Ar t.res.length cr] 33) = W at hb1 hc1 ⊢
                    generalize hg : w.heap.size = g at hb1 ⊢
                    obtain ⟨y0, y1, y2, y3, y4, y5⟩ := hb1.cells6
                    have H0 := Lib.hid (And.intro hb1 (And.intro hc1 hg))
                    clear hb1 hc1 hg
                    go_quiet (fail)
                    rename_i nq
                    go_wp2_with fail
                    refine (name_any t.name (W.drewN nq) (by omega) ((HT.out.2.2.2.keep0 H0.out.2.1).keep0 ((Chg.refl _ W).drewN nq))).mono fun e w1 h => ?_
                    obtain ⟨rfl, hc1⟩ := h
                    have hc1 := hc1.drewNl
                    have z0 := hc1.cell y0 fun _ => id
                    have z1 := hc1.cell y1 fun _ => id
                    have z2 := hc1.cell y2 fun _ => id
                    have z3 := hc1.cell y3 fun _ => id
                    clear y0 y1 y2 y3 y4 y5
                    go_wp2_with fail
                    go_ret
                    refine ⟨?_, H0.out.2.1.trans hc1⟩
                    rw [HS.out]
                    first
                      | rfl
                      | (simp; done)
                      | simp_all
                · have fc : decide (1 ≤ (t.con : Int)) = false := decide_eq_false (by omega)
                  have HS := Lib.hid (show shapeT t = false by
                      rw [shape12 hk, bare_iff]
                      first
                        | (rw [fN, Bool.and_true, ← Bool.decide_and]; exact decide_eq_true (by refine ⟨⟨fun k => absurd k (by decide), fun k => absurd k (by decide), fun _ => ?_, fun _ => ?_, fun _ => ?_⟩, ?_, ?_⟩ <;> omega))
                        | (rw [fN, Bool.and_true, ← Bool.decide_and]; exact decide_eq_false (by rintro ⟨⟨k1, k2, k3, k4, k5⟩, k6⟩; have k3 := k3 rfl; have k4 := k4 rfl; have k5 := k5 rfl; omega))
                        | (rw [fN]; simp))
                  clear hb hc hk
                  go_enter Tryd.func62, Tryd.ntmps62
                  go_wp2_with fail
                  generalize w.alloc (.cells #[.int .i64 t.kind, .string t.name, .int .i64 t.con, .slice Af t.fields.length cf, .slice Al t.list.length cl, .slice Ar t.res.length cr] 33) = W at hb1 hc1 ⊢
                  generalize hg : w.heap.size = g at hb1 ⊢
                  obtain ⟨y0, y1, y2, y3, y4, y5⟩ := hb1.cells6
                  have H0 := Lib.hid (And.intro hb1 (And.intro hc1 hg))
                  clear hb1 hc1 hg
                  go_quiet (fail)
                  rename_i nq
                  go_wp2_with fail
                  refine (name_any t.name (W.drewN nq) (by omega) ((HT.out.2.2.2.keep0 H0.out.2.1).keep0 ((Chg.refl _ W).drewN nq))).mono fun e w1 h => ?_
                  obtain ⟨rfl, hc1⟩ := h
                  have hc1 := hc1.drewNl
                  have z0 := hc1.cell y0 fun _ => id
                  have z1 := hc1.cell y1 fun _ => id
                  have z2 := hc1.cell y2 fun _ => id
                  have z3 := hc1.cell y3 fun _ => id
                  clear y0 y1 y2 y3 y4 y5
                  go_wp2_with fail
                  go_ret
                  refine ⟨?_, H0.out.2.1.trans hc1⟩
                  rw [HS.out]
                  first
                    | rfl
                    | (simp; done)
                    | simp_all
              · have fb : (((t.fields.length : Int) + (t.list.length : Int) + (t.res.length : Int) : Int) == 0) = false := by simp only [beq_eq_false_iff_ne]; omega
                have gb : decide (((t.fields.length : Int) + (t.list.length : Int) + (t.res.length : Int) : Int) = 0) = false := decide_eq_false (by omega)
                have HS := Lib.hid (show shapeT t = false by
                    rw [shape12 hk, bare_iff]
                    first
                      | (rw [fN, Bool.and_true, ← Bool.decide_and]; exact decide_eq_true (by refine ⟨⟨fun k => absurd k (by decide), fun k => absurd k (by decide), fun _ => ?_, fun _ => ?_, fun _ => ?_⟩, ?_, ?_⟩ <;> omega))
                      | (rw [fN, Bool.and_true, ← Bool.decide_and]; exact decide_eq_false (by rintro ⟨⟨k1, k2, k3, k4, k5⟩, k6⟩; have k3 := k3 rfl; have k4 := k4 rfl; have k5 := k5 rfl; omega))
                      | (rw [fN]; simp))
                clear hb hk
                go_enter Tryd.func62, Tryd.ntmps62
                go_wp2_with fail
                generalize w.alloc (.cells #[.int .i64 t.kind, .string t.name, .int .i64 t.con, .slice Af t.fields.length cf, .slice Al t.list.length cl, .slice Ar t.res.length cr] 33) = W at hb1 hc1 ⊢
                generalize hg : w.heap.size = g at hb1 ⊢
                obtain ⟨y0, y1, y2, y3, y4, y5⟩ := hb1.cells6
                have H0 := Lib.hid (And.intro hb1 (And.intro hc1 hg))
                clear hb1 hc1 hg
                go_quiet (fail)
                rename_i nq
                go_wp2_with fail
                refine (name_any t.name (W.drewN nq) (by omega) ((HT.out.2.2.2.keep0 H0.out.2.1).keep0 ((Chg.refl _ W).drewN nq))).mono fun e w1 h => ?_
                obtain ⟨rfl, hc1⟩ := h
                have hc1 := hc1.drewNl
                have z0 := hc1.cell y0 fun _ => id
                have z1 := hc1.cell y1 fun _ => id
                have z2 := hc1.cell y2 fun _ => id
                have z3 := hc1.cell y3 fun _ => id
                clear y0 y1 y2 y3 y4 y5
                go_wp2_with fail
                go_ret
                refine ⟨?_, H0.out.2.1.trans hc1⟩
                rw [HS.out]
                first
                  | rfl
                  | (simp; done)
                  | simp_all
            · have fN : nameOK t.name = false := by simpa using hN
              have HS := Lib.hid (show shapeT t = false by
                  rw [shape12 hk, bare_iff]
                  first
                    | (rw [fN, Bool.and_true, ← Bool.decide_and]; exact decide_eq_true (by refine ⟨⟨fun k => absurd k (by decide), fun k => absurd k (by decide), fun _ => ?_, fun _ => ?_, fun _ => ?_⟩, ?_, ?_⟩ <;> omega))
                    | (rw [fN, Bool.and_true, ← Bool.decide_and]; exact decide_eq_false (by rintro ⟨⟨k1, k2, k3, k4, k5⟩, k6⟩; have k3 := k3 rfl; have k4 := k4 rfl; have k5 := k5 rfl; omega))
                    | (rw [fN]; simp))
              clear  hk
              go_enter Tryd.func62, Tryd.ntmps62
              go_wp2_with fail
              generalize w.alloc (.cells #[.int .i64 t.kind, .string t.name, .int .i64 t.con, .slice Af t.fields.length cf, .slice Al t.list.length cl, .slice Ar t.res.length cr] 33) = W at hb1 hc1 ⊢
              generalize hg : w.heap.size = g at hb1 ⊢
              obtain ⟨y0, y1, y2, y3, y4, y5⟩ := hb1.cells6
              have H0 := Lib.hid (And.intro hb1 (And.intro hc1 hg))
              clear hb1 hc1 hg
              go_quiet (fail)
              rename_i nq
              go_wp2_with fail
              refine (name_any t.name (W.drewN nq) (by omega) ((HT.out.2.2.2.keep0 H0.out.2.1).keep0 ((Chg.refl _ W).drewN nq))).mono fun e w1 h => ?_
              obtain ⟨rfl, hc1⟩ := h
              have hc1 := hc1.drewNl
              have z0 := hc1.cell y0 fun _ => id
              have z1 := hc1.cell y1 fun _ => id
              have z2 := hc1.cell y2 fun _ => id
              have z3 := hc1.cell y3 fun _ => id
              clear y0 y1 y2 y3 y4 y5
              go_wp2_with fail
              go_ret
              refine ⟨?_, H0.out.2.1.trans hc1⟩
              rw [HS.out]
              first
                | rfl
                | (simp; done)
                | simp_all
          · have q12 : (t.kind == 12) = false := by simp [h12]
            have hk := And.intro h8 (And.intro h9 (And.intro h10 (And.intro hk h12)))
            clear h12 h10 h9 h8
            by_cases ha : 1 ≤ (t.kind : Int)
            · have fa : decide (1 ≤ (t.kind : Int)) = true := decide_eq_true (by omega)
              by_cases hb : (t.kind : Int) ≤ 7
              · have fb : decide ((t.kind : Int) ≤ 7) = true := decide_eq_true (by omega)
                by_cases hc : t.name.toList = []
                · have fc : t.name.toList.isEmpty = true := by simp [hc]
                  by_cases hd : ((t.fields.length : Int) + (t.list.length : Int) + (t.res.length : Int) : Int) = 0
                  · have fd : (((t.fields.length : Int) + (t.list.length : Int) + (t.res.length : Int) : Int) == 0) = true := by simp only [beq_iff_eq]; omega
                    have gd : decide (((t.fields.length : Int) + (t.list.length : Int) + (t.res.length : Int) : Int) = 0) = true := decide_eq_true (by omega)
                    by_cases he : (t.con : Int) = 0
                    · have fe : ((t.con : Int) == 0) = true := by simp only [beq_iff_eq]; omega
                      have ge : decide ((t.con : Int) = 0) = true := decide_eq_true (by omega)
                      have HS := Lib.hid (show shapeT t = true by
                          rw [shape0 hk.1 hk.2.1 hk.2.2.1 hk.2.2.2.1 hk.2.2.2.2, bare_iff, ← Bool.decide_and]
                          first
                            | exact decide_eq_true (by refine ⟨⟨?_, ?_⟩, fun _ => ?_, fun _ => ?_, fun _ => ?_, fun _ => ?_, fun _ => ?_⟩ <;> first | assumption | omega)
                            | exact decide_eq_false (by rintro ⟨k0, k1, k2, k3, k4, k5⟩; have k1 := k1 rfl; have k2 := k2 rfl; have k3 := k3 rfl; have k4 := k4 rfl; have k5 := k5 rfl; first | omega | exact absurd k1 (by assumption)))
                      clear ha hb hc hd he hk
                      go_enter Tryd.func62, Tryd.ntmps62
                      go_wp2_with fail
                      generalize w.alloc (.cells #[.int .i64 t.kind, .string t.name, .int .i64 t.con, .slice Af t.fields.length cf, .slice Al t.list.length cl, .slice Ar t.res.length cr] 33) = W at hb1 hc1 ⊢
                      generalize hg : w.heap.size = g at hb1 ⊢
                      obtain ⟨y0, y1, y2, y3, y4, y5⟩ := hb1.cells6
                      have H0 := Lib.hid (And.intro hb1 (And.intro hc1 hg))
                      clear hb1 hc1 hg
                      go_quiet (fail)
                      rename_i nq
                      go_wp2_with fail
                      refine (name_any t.name (W.drewN nq) (by omega) ((HT.out.2.2.2.keep0 H0.out.2.1).keep0 ((Chg.refl _ W).drewN nq))).mono fun e w1 h => ?_
                      obtain ⟨rfl, hc1⟩ := h
                      have hc1 := hc1.drewNl
                      have z0 := hc1.cell y0 fun _ => id
                      have z1 := hc1.cell y1 fun _ => id
                      have z2 := hc1.cell y2 fun _ => id
                      have z3 := hc1.cell y3 fun _ => id
                      clear y0 y1 y2 y3 y4 y5
                      go_wp2_with fail
                      go_ret
                      refine ⟨?_, H0.out.2.1.trans hc1⟩
                      rw [HS.out]
                      first
                        | rfl
                        | (simp; done)
                        | simp_all
                    · have fe : ((t.con : Int) == 0) = false := by simp only [beq_eq_false_iff_ne]; omega
                      have ge : decide ((t.con : Int) = 0) = false := decide_eq_false (by omega)
                      have HS := Lib.hid (show shapeT t = false by
                          rw [shape0 hk.1 hk.2.1 hk.2.2.1 hk.2.2.2.1 hk.2.2.2.2, bare_iff, ← Bool.decide_and]
                          first
                            | exact decide_eq_true (by refine ⟨⟨?_, ?_⟩, fun _ => ?_, fun _ => ?_, fun _ => ?_, fun _ => ?_, fun _ => ?_⟩ <;> first | assumption | omega)
                            | exact decide_eq_false (by rintro ⟨k0, k1, k2, k3, k4, k5⟩; have k1 := k1 rfl; have k2 := k2 rfl; have k3 := k3 rfl; have k4 := k4 rfl; have k5 := k5 rfl; first | omega | exact absurd k1 (by assumption)))
                      clear ha hb hc hd he hk
                      go_enter Tryd.func62, Tryd.ntmps62
                      go_wp2_with fail
                      generalize w.alloc (.cells #[.int .i64 t.kind, .string t.name, .int .i64 t.con, .slice Af t.fields.length cf, .slice Al t.list.length cl, .slice Ar t.res.length cr] 33) = W at hb1 hc1 ⊢
                      generalize hg : w.heap.size = g at hb1 ⊢
                      obtain ⟨y0, y1, y2, y3, y4, y5⟩ := hb1.cells6
                      have H0 := Lib.hid (And.intro hb1 (And.intro hc1 hg))
                      clear hb1 hc1 hg
                      go_quiet (fail)
                      rename_i nq
                      go_wp2_with fail
                      refine (name_any t.name (W.drewN nq) (by omega) ((HT.out.2.2.2.keep0 H0.out.2.1).keep0 ((Chg.refl _ W).drewN nq))).mono fun e w1 h => ?_
                      obtain ⟨rfl, hc1⟩ := h
                      have hc1 := hc1.drewNl
                      have z0 := hc1.cell y0 fun _ => id
                      have z1 := hc1.cell y1 fun _ => id
                      have z2 := hc1.cell y2 fun _ => id
                      have z3 := hc1.cell y3 fun _ => id
                      clear y0 y1 y2 y3 y4 y5
                      go_wp2_with fail
                      go_ret
                      refine ⟨?_, H0.out.2.1.trans hc1⟩
                      rw [HS.out]
                      first
                        | rfl
                        | (simp; done)
                        | simp_all
                  · have fd : (((t.fields.length : Int) + (t.list.length : Int) + (t.res.length : Int) : Int) == 0) = false := by simp only [beq_eq_false_iff_ne]; omega
                    have gd : decide (((t.fields.length : Int) + (t.list.length : Int) + (t.res.length : Int) : Int) = 0) = false := decide_eq_false (by omega)
                    have HS := Lib.hid (show shapeT t = false by
                        rw [shape0 hk.1 hk.2.1 hk.2.2.1 hk.2.2.2.1 hk.2.2.2.2, bare_iff, ← Bool.decide_and]
                        first
                          | exact decide_eq_true (by refine ⟨⟨?_, ?_⟩, fun _ => ?_, fun _ => ?_, fun _ => ?_, fun _ => ?_, fun _ => ?_⟩ <;> first | assumption | omega)
                          | exact decide_eq_false (by rintro ⟨k0, k1, k2, k3, k4, k5⟩; have k1 := k1 rfl; have k2 := k2 rfl; have k3 := k3 rfl; have k4 := k4 rfl; have k5 := k5 rfl; first | omega | exact absurd k1 (by assumption)))
                    clear ha hb hc hd hk
                    go_enter Tryd.func62, Tryd.ntmps62
                    go_wp2_with fail
                    generalize w.alloc (.cells #[.int .i64 t.kind, .string t.name, .int .i64 t.con, .slice Af t.fields.length cf, .slice Al t.list.length cl, .slice Ar t.res.length cr] 33) = W at hb1 hc1 ⊢
                    generalize hg : w.heap.size = g at hb1 ⊢
                    obtain ⟨y0, y1, y2, y3, y4, y5⟩ := hb1.cells6
                    have H0 := Lib.hid (And.intro hb1 (And.intro hc1 hg))
                    clear hb1 hc1 hg
                    go_quiet (fail)
                    rename_i nq
                    go_wp2_with fail
                    refine (name_any t.name (W.drewN nq) (by omega) ((HT.out.2.2.2.keep0 H0.out.2.1).keep0 ((Chg.refl _ W).drewN nq))).mono fun e w1 h => ?_
                    obtain ⟨rfl, hc1⟩ := h
                    have hc1 := hc1.drewNl
                    have z0 := hc1.cell y0 fun _ => id
                    have z1 := hc1.cell y1 fun _ => id
                    have z2 := hc1.cell y2 fun _ => id
                    have z3 := hc1.cell y3 fun _ => id
                    clear y0 y1 y2 y3 y4 y5
                    go_wp2_with fail
                    go_ret
                    refine ⟨?_, H0.out.2.1.trans hc1⟩
                    rw [HS.out]
                    first
                      | rfl
                      | (simp; done)
                      | simp_all
                · have fc : t.name.toList.isEmpty = false := by simp [hc]
                  have HS := Lib.hid (show shapeT t = false by
                      rw [shape0 hk.1 hk.2.1 hk.2.2.1 hk.2.2.2.1 hk.2.2.2.2, bare_iff, ← Bool.decide_and]
                      first
                        | exact decide_eq_true (by refine ⟨⟨?_, ?_⟩, fun _ => ?_, fun _ => ?_, fun _ => ?_, fun _ => ?_, fun _ => ?_⟩ <;> first | assumption | omega)
                        | exact decide_eq_false (by rintro ⟨k0, k1, k2, k3, k4, k5⟩; have k1 := k1 rfl; have k2 := k2 rfl; have k3 := k3 rfl; have k4 := k4 rfl; have k5 := k5 rfl; first | omega | exact absurd k1 (by assumption)))
                  clear ha hb hc hk
                  go_enter Tryd.func62, Tryd.ntmps62
                  go_wp2_with fail
                  generalize w.alloc (.cells #[.int .i64 t.kind, .string t.name, .int .i64 t.con, .slice Af t.fields.length cf, .slice Al t.list.length cl, .slice Ar t.res.length cr] 33) = W at hb1 hc1 ⊢
                  generalize hg : w.heap.size = g at hb1 ⊢
                  obtain ⟨y0, y1, y2, y3, y4, y5⟩ := hb1.cells6
                  have H0 := Lib.hid (And.intro hb1 (And.intro hc1 hg))
                  clear hb1 hc1 hg
                  go_quiet (fail)
                  rename_i nq
                  go_wp2_with fail
                  refine (name_any t.name (W.drewN nq) (by omega) ((HT.out.2.2.2.keep0 H0.out.2.1).keep0 ((Chg.refl _ W).drewN nq))).mono fun e w1 h => ?_
                  obtain ⟨rfl, hc1⟩ := h
                  have hc1 := hc1.drewNl
                  have z0 := hc1.cell y0 fun _ => id
                  have z1 := hc1.cell y1 fun _ => id
                  have z2 := hc1.cell y2 fun _ => id
                  have z3 := hc1.cell y3 fun _ => id
                  clear y0 y1 y2 y3 y4 y5
                  go_wp2_with fail
                  go_ret
                  refine ⟨?_, H0.out.2.1.trans hc1⟩
                  rw [HS.out]
                  first
                    | rfl
                    | (simp; done)
                    | simp_all
              · have fb : decide ((t.kind : Int) ≤ 7) = false := decide_eq_false (by omega)
                have HS := Lib.hid (show shapeT t = false by
                    rw [shape0 hk.1 hk.2.1 hk.2.2.1 hk.2.2.2.1 hk.2.2.2.2, bare_iff, ← Bool.decide_and]
                    first
                      | exact decide_eq_true (by refine ⟨⟨?_, ?_⟩, fun _ => ?_, fun _ => ?_, fun _ => ?_, fun _ => ?_, fun _ => ?_⟩ <;> first | assumption | omega)
                      | exact decide_eq_false (by rintro ⟨k0, k1, k2, k3, k4, k5⟩; have k1 := k1 rfl; have k2 := k2 rfl; have k3 := k3 rfl; have k4 := k4 rfl; have k5 := k5 rfl; first | omega | exact absurd k1 (by assumption)))
                clear ha hb hk
                go_enter Tryd.func62, Tryd.ntmps62
                go_wp2_with fail
                generalize w.alloc (.cells #[.int .i64 t.kind, .string t.name, .int .i64 t.con, .slice Af t.fields.length cf, .slice Al t.list.length cl, .slice Ar t.res.length cr] 33) = W at hb1 hc1 ⊢
                generalize hg : w.heap.size = g at hb1 ⊢
                obtain ⟨y0, y1, y2, y3, y4, y5⟩ := hb1.cells6
                have H0 := Lib.hid (And.intro hb1 (And.intro hc1 hg))
                clear hb1 hc1 hg
                go_quiet (fail)
                rename_i nq
                go_wp2_with fail
                refine (name_any t.name (W.drewN nq) (by omega) ((HT.out.2.2.2.keep0 H0.out.2.1).keep0 ((Chg.refl _ W).drewN nq))).mono fun e w1 h => ?_
                obtain ⟨rfl, hc1⟩ := h
                have hc1 := hc1.drewNl
                have z0 := hc1.cell y0 fun _ => id
                have z1 := hc1.cell y1 fun _ => id
                have z2 := hc1.cell y2 fun _ => id
                have z3 := hc1.cell y3 fun _ => id
                clear y0 y1 y2 y3 y4 y5
                go_wp2_with fail
                go_ret
                refine ⟨?_, H0.out.2.1.trans hc1⟩
                rw [HS.out]
                first
                  | rfl
                  | (simp; done)
                  | simp_all
            · have fa : decide (1 ≤ (t.kind : Int)) = false := decide_eq_false (by omega)
              have HS := Lib.hid (show shapeT t = false by
                  rw [shape0 hk.1 hk.2.1 hk.2.2.1 hk.2.2.2.1 hk.2.2.2.2, bare_iff, ← Bool.decide_and]
                  first
                    | exact decide_eq_true (by refine ⟨⟨?_, ?_⟩, fun _ => ?_, fun _ => ?_, fun _ => ?_, fun _ => ?_, fun _ => ?_⟩ <;> first | assumption | omega)
                    | exact decide_eq_false (by rintro ⟨k0, k1, k2, k3, k4, k5⟩; have k1 := k1 rfl; have k2 := k2 rfl; have k3 := k3 rfl; have k4 := k4 rfl; have k5 := k5 rfl; first | omega | exact absurd k1 (by assumption)))
              clear ha hk
              go_enter Tryd.func62, Tryd.ntmps62
              go_wp2_with fail
              generalize w.alloc (.cells #[.int .i64 t.kind, .string t.name, .int .i64 t.con, .slice Af t.fields.length cf, .slice Al t.list.length cl, .slice Ar t.res.length cr] 33) = W at hb1 hc1 ⊢
              generalize hg : w.heap.size = g at hb1 ⊢
              obtain ⟨y0, y1, y2, y3, y4, y5⟩ := hb1.cells6
              have H0 := Lib.hid (And.intro hb1 (And.intro hc1 hg))
              clear hb1 hc1 hg
              go_quiet (fail)
              rename_i nq
              go_wp2_with fail
              refine (name_any t.name (W.drewN nq) (by omega) ((HT.out.2.2.2.keep0 H0.out.2.1).keep0 ((Chg.refl _ W).drewN nq))).mono fun e w1 h => ?_
              obtain ⟨rfl, hc1⟩ := h
              have hc1 := hc1.drewNl
              have z0 := hc1.cell y0 fun _ => id
              have z1 := hc1.cell y1 fun _ => id
              have z2 := hc1.cell y2 fun _ => id
              have z3 := hc1.cell y3 fun _ => id
              clear y0 y1 y2 y3 y4 y5
              go_wp2_with fail
              go_ret
              refine ⟨?_, H0.out.2.1.trans hc1⟩
              rw [HS.out]
              first
                | rfl
                | (simp; done)
                | simp_all
end Go.Proofs.YtgemacdnncjmdaaDoor
