/-
  ref02: Bound.Match.
-/
import Derived.Test.YtlbcaiohjghclaaDoorRMatch0
import Derived.StillTailTactics
namespace Go.Proofs.YtlbcaiohjghclaaDoor
open Go.RowKit
set_option linter.unusedVariables false
set_option linter.unusedSimpArgs false

def RMRes (r : Option (ByteArray → Option Ty)) (m B gB qT qK : Nat) (names : List ByteArray) (An : Option Addr) (cn ct ck : Nat) (w : World) (e : Ending) (w' : World) : Prop :=
  e = .returned (.bool r.isSome) ∧ (∀ f, r = some f → BndR m B gB qT qK names An cn ct ck f w') ∧ Chg (Mq qT qK) w w'
/-- The contract of the reference's Match at types no deeper than n. -/
def RMatchC (n : Nat) (m B gB qT qK : Nat) (names : List ByteArray) (An : Option Addr) (cn ct ck : Nat) : Prop := ∀ (w : World) (a b : Ty) (Af : Option Addr) (cf : Nat) (Al : Option Addr) (cl : Nat) (Ar : Option Addr) (cr : Nat) (Bf : Option Addr) (df : Nat) (Bl : Option Addr) (dl : Nat) (Br : Option Addr) (dr : Nat) (f : ByteArray → Option Ty), B ≤ w.heap.size → BndR m B gB qT qK names An cn ct ck f w → TyR n B w (tyCells a.kind a.name a.con Af a.fields.length cf Al a.list.length cl Ar a.res.length cr) a → TyR m B w (tyCells b.kind b.name b.con Bf b.fields.length df Bl b.list.length dl Br b.res.length dr) b →
    Calls Tryd.prog 14 #[.pointer (some ⟨gB, 0, none⟩), .agg #[.int .i64 a.kind, .string a.name, .int .i64 a.con, .slice Af a.fields.length cf, .slice Al a.list.length cl, .slice Ar a.res.length cr], .agg #[.int .i64 b.kind, .string b.name, .int .i64 b.con, .slice Bf b.fields.length df, .slice Bl b.list.length dl, .slice Br b.res.length dr]] w (RMRes (matchT names n a b f) m B gB qT qK names An cn ct ck w)
def rmRel (a : Ty) (names : List ByteArray) (W : World) (i : Value) (wr : World) : Prop := ∃ k : Nat, k ≤ names.length ∧ i = .int .i64 k ∧ (a.kind = 12 → ¬ a.name ∈ names.take k) ∧ Chg (fun _ _ => False) W wr
def rmRel2 (n : Nat) (m B gB qT qK : Nat) (names : List ByteArray) (An : Option Addr) (cn ct ck : Nat) (l r : List (ByteArray × Ty)) (f : ByteArray → Option Ty) (W : World) (i : Value) (wr : World) : Prop :=
  ∃ k : Nat, k ≤ l.length ∧ i = .int .i64 k ∧ (∃ g, matchL (matchT names n) (l.take k) (r.take k) f = some g ∧ BndR m B gB qT qK names An cn ct ck g wr) ∧ Chg (Mq qT qK) W wr
theorem RMRes.none_ {m B gB qT qK : Nat} {names : List ByteArray} {An : Option Addr} {cn ct ck : Nat} {w w' : World} {e : Ending} (he : e = .returned (.bool false)) (hc : Chg (Mq qT qK) w w') : RMRes none m B gB qT qK names An cn ct ck w e w' := ⟨he, fun f h => (by cases h), hc⟩
theorem RMRes.some_ {m B gB qT qK : Nat} {names : List ByteArray} {An : Option Addr} {cn ct ck : Nat} {w w' : World} {e : Ending} {f : ByteArray → Option Ty} (he : e = .returned (.bool true)) (hM : BndR m B gB qT qK names An cn ct ck f w') (hc : Chg (Mq qT qK) w w') : RMRes (some f) m B gB qT qK names An cn ct ck w e w' := ⟨he, fun g h => (by injection h with h; subst h; exact hM), hc⟩
theorem take_not {names : List ByteArray} {k : Nat} {s x : ByteArray} (h : ¬ x ∈ names.take k) (hk : names[k]? = some s) (hx : ¬ x = s) : ¬ x ∈ names.take (k + 1) := by
  obtain ⟨h1, h2⟩ := List.getElem?_eq_some_iff.1 hk
  rw [List.take_succ_eq_append_getElem h1, h2, List.mem_append, List.mem_singleton]
  exact fun h' => h'.elim h hx
theorem innerN_map (t : Ty) : t.innerN.map (fun p => p.2) = t.inner := by
  simp [Ty.innerN, Ty.inner, noNm, Function.comp_def]
theorem innerN_at {t : Ty} {k : Nat} {x : Ty} (h : t.inner[k]? = some x) : (∀ nm y, t.fields[k]? = some (nm, y) → t.innerN[k]? = some (nm, x)) ∧ (t.fields.length ≤ k → t.innerN[k]? = some (ByteArray.empty, x)) := by
  rw [← innerN_map, List.getElem?_map] at h
  cases hp : t.innerN[k]? with
  | none => rw [hp] at h; cases h
  | some p =>
    rw [hp] at h
    obtain ⟨nm', x'⟩ := p
    obtain rfl : x' = x := Option.some.inj h
    constructor
    · intro nm y hy
      have hk := (List.getElem?_eq_some_iff.1 hy).1
      unfold Ty.innerN at hp
      rw [List.append_assoc, List.getElem?_append_left hk, hy] at hp
      obtain ⟨h1, _⟩ := Prod.mk.inj (Option.some.inj hp)
      rw [h1]
    · intro hk
      unfold Ty.innerN at hp
      rw [List.append_assoc, List.getElem?_append_right hk] at hp
      unfold noNm at hp
      rw [← List.map_append, List.getElem?_map] at hp
      cases hq : (t.list ++ t.res)[k - t.fields.length]? with
      | none => rw [hq] at hp; cases hp
      | some z =>
        rw [hq] at hp
        obtain ⟨h1, _⟩ := Prod.mk.inj (Option.some.inj hp)
        rw [← h1]
theorem match_head {names : List ByteArray} {n : Nat} {a b : Ty} {f : ByteArray → Option Ty} (hnot : ¬ (a.kind = 12 ∧ a.name ∈ names)) (h : ¬ (a.kind = b.kind ∧ a.name = b.name ∧ a.con = b.con ∧ a.fields.length = b.fields.length ∧ a.list.length = b.list.length ∧ a.res.length = b.res.length)) : matchT names (n + 1) a b f = none := by
  rw [matchT, if_neg hnot, if_neg fun hh => h (headB_true.1 hh)]
theorem match_body {names : List ByteArray} {n : Nat} {a b : Ty} {f : ByteArray → Option Ty} (hnot : ¬ (a.kind = 12 ∧ a.name ∈ names)) (h : a.kind = b.kind ∧ a.name = b.name ∧ a.con = b.con ∧ a.fields.length = b.fields.length ∧ a.list.length = b.list.length ∧ a.res.length = b.res.length) : matchT names (n + 1) a b f = matchL (matchT names n) a.innerN b.innerN f := by
  rw [matchT, if_neg hnot, if_pos (headB_true.2 h)]
theorem innerN_inner (t : Ty) : t.innerN.length = t.inner.length := by rw [← innerN_map, List.length_map]
set_option maxRecDepth 100000 in
set_option maxHeartbeats 4000000 in
theorem rmatch_step (n : Nat) (m B gB qT qK : Nat) (names : List ByteArray) (An : Option Addr) (cn ct ck : Nat) (hT : B ≤ qT) (hK : B ≤ qK) (hnl : names.length ≤ 1048576) (hnd : names.Nodup) (IH : RMatchC n m B gB qT qK names An cn ct ck) : RMatchC (n + 1) m B gB qT qK names An cn ct ck := by
  intro w a b Af cf Al cl Ar cr Bf df Bl dl Br dr f hB hBd hA hC
  obtain ⟨hsA, hFA, _, _⟩ := TyR.open_ hA
  obtain ⟨hsB, hFB⟩ : Small b ∧ SlR B 0 7 (FdR (TyR m B)) w (.slice Bf b.fields.length df) b.fields := by
    cases m with
    | zero => exact hC.elim
    | succ m =>
      obtain ⟨h1, h2, _, _⟩ := TyR.open_ hC
      exact ⟨h1, SlR.imp h2 (fun _ _ h => h) fun _ _ h => h.imp fun _ _ h => TyR.deep h (Nat.le_succ m)⟩
  have hb1 := (Blk.new w 42 #[.int .i64 a.kind, .string a.name, .int .i64 a.con, .slice Af a.fields.length cf, .slice Al a.list.length cl, .slice Ar a.res.length cr]).alloc (.cells #[.int .i64 b.kind, .string b.name, .int .i64 b.con, .slice Bf b.fields.length df, .slice Bl b.list.length dl, .slice Br b.res.length dr] 42)
  have hb2 := Blk.new (w.alloc (.cells #[.int .i64 a.kind, .string a.name, .int .i64 a.con, .slice Af a.fields.length cf, .slice Al a.list.length cl, .slice Ar a.res.length cr] 42)) 42 #[.int .i64 b.kind, .string b.name, .int .i64 b.con, .slice Bf b.fields.length df, .slice Bl b.list.length dl, .slice Br b.res.length dr]
  have hc1 := (chg_alloc w (.cells #[.int .i64 a.kind, .string a.name, .int .i64 a.con, .slice Af a.fields.length cf, .slice Al a.list.length cl, .slice Ar a.res.length cr] 42)).alloc (.cells #[.int .i64 b.kind, .string b.name, .int .i64 b.con, .slice Bf b.fields.length df, .slice Bl b.list.length dl, .slice Br b.res.length dr] 42)
  simp only [World.size_alloc] at hb2
  have hlt2 := hBd.lt
  have HP := Lib.hid (And.intro hB (And.intro hA (And.intro hC (And.intro hFA (And.intro hFB (And.intro hsA (And.intro hsB hBd)))))))
  have HQ := Lib.hid (And.intro hT (And.intro hK hnd))
  have IH := Lib.hid IH
  clear hB hA hC hFA hFB hsA hsB hBd hT hK hnd
  go_enter Tryd.func14, Tryd.ntmps14
  go_wp2_with fail
  generalize (w.alloc (.cells #[.int .i64 a.kind, .string a.name, .int .i64 a.con, .slice Af a.fields.length cf, .slice Al a.list.length cl, .slice Ar a.res.length cr] 42)).alloc (.cells #[.int .i64 b.kind, .string b.name, .int .i64 b.con, .slice Bf b.fields.length df, .slice Bl b.list.length dl, .slice Br b.res.length dr] 42) = W at hb1 hb2 hc1 ⊢
  generalize hg2 : w.heap.size + 1 = g2 at hb2 ⊢
  generalize hg1 : w.heap.size = g1 at hb1 ⊢
  have H0 := Lib.hid (And.intro hb1 (And.intro hb2 (And.intro hc1 (show qT < g1 ∧ qK < g1 ∧ g1 < g2 by omega))))
  clear hb1 hb2 hc1 hg1 hg2 hlt2
  go_loopw [7] (fun i wr => rmRel a names W i wr) (fun i _ => names.length - (intOf i).toNat)
  case atStart => exact ⟨0, Nat.zero_le _, rfl, by simp, Chg.refl _ _⟩
  case round =>
    obtain ⟨k, hk, rfl, hnot, hch⟩ := hrel
    have q3 : IntKind.i64.wrap ((k : Int) + 1) = (k : Int) + 1 := IntWalk.i64_in _ ⟨by omega, by omega⟩
    obtain ⟨x0, x1, x2, x3, x4, x5⟩ := (hch.blk H0.out.1 id).cells6
    obtain ⟨y0, y1, y2, y3, y4, y5⟩ := (hch.blk H0.out.2.1 id).cells6
    have hBd := HP.out.2.2.2.2.2.2.2.keep (H0.out.2.2.1.trans hch)
    obtain ⟨e0, e1, e2⟩ := hBd.own
    by_cases hlt : k < names.length
    · have q1 : decide (k < names.length) = true := decide_eq_true hlt
      have q2 : (k : Int) < (names.length : Int) := by omega
      obtain ⟨bs, os, s, css, rfl, hks, _, ⟨rfl, hss⟩, hcell⟩ := SlR.at2 hBd.1.2 hlt
      have z0 : wr.cell? ⟨bs, os + k, none⟩ = some (.string s) := by simpa using hcell 0 _ rfl
      have i0 := hBd.isIt hks
      by_cases h12 : a.kind = 12
      · have p12 : (a.kind != 12) = false := by simp [h12]
        by_cases hn : a.name = s
        · have q5 := str_eq hn
          have HN := Lib.hid (And.intro h12 (And.intro hn hks))
          clear h12 hn
          cases hfs : f s with
          | some u =>
            have hmt : matchT names (n + 1) a b f = (if eqB u b = true then some f else none) := by rw [match_in ⟨HN.out.1, HN.out.2.1 ▸ List.mem_of_getElem? HN.out.2.2⟩, HN.out.2.1, hfs]
            have hfa : isAt f s = true := by unfold isAt; rw [hfs]; rfl
            have HK := Lib.hid (And.intro hmt (And.intro hfs (And.intro hch hBd)))
            clear hmt hfs hch hBd hfa hnot hks hcell hss
            go_wp2_with fail
            go_quiet (fail)
            clear x0 x1 x2 x3 x4 x5 y0 y1 y2 y3 y4 y5 e0 e1 e2 z0 i0
            have hd := HK.out.2.2.1.drewN nq
            have hB2 := HK.out.2.2.2.keep ((Chg.refl (fun _ _ => False) wr).drewN nq)
            generalize wr.drewN nq = w2 at hd hB2 ⊢
            have i0 := hB2.isIt HN.out.2.2
            obtain ⟨e0, e1, e2⟩ := hB2.own
            rw [show isAt f s = true by unfold isAt; rw [HK.out.2.1]; rfl] at i0
            obtain ⟨y0, y1, y2, y3, y4, y5⟩ := (hd.blk H0.out.2.1 id).cells6
            obtain ⟨u', Xf, xf, Xl, xl, Xr, xr, hu', hRu, t0, t1, t2, t3, t4, t5, _⟩ := hB2.ty HN.out.2.2
            obtain rfl : u' = u := by rw [hu']; unfold tyAt; rw [HK.out.2.1]; rfl
            have hdw := H0.out.2.2.1.trans hd
            have hdr := hdw.drew
            have hsm := rsame_any (m + 1) B w2.drew u' b Xf xf Xl xl Xr xr Bf df Bl dl Br dr (Nat.le_trans HP.out.1 hdr.size) (TyR.keep0 (Chg.refl (fun _ _ => False) w2).drew hRu) (TyR.deep (TyR.keep0 hdr HP.out.2.2.1) (Nat.le_succ m))
            have HE := Lib.hid (And.intro hdr (hB2.keep (Chg.refl (fun _ _ => False) w2).drew))
            clear hdw hdr hRu hu' hd hB2
            go_wp2_with fail
            refine wp_region_still_tail 8 (by kernel_rfl) (by kernel_rfl) ?_
            simp only [List.take_succ_cons, List.take_zero, List.drop_succ_cons, List.drop_zero]
            repeat (with_reducible refine wpStill_step (fun K hK => ?_); go_simp; with_reducible refine hK _ ?_; clear hK K)
            try with_reducible refine wpStill_nil ?_
            clear t0 t1 t2 t3 t4 t5 y0 y1 y2 y3 y4 y5 e0 e1 e2 i0
            change wpList _ _ _ _ _ w2.drew
            generalize w2.drew = w3 at hsm HE ⊢
            generalize hrr : eqB u' b = rr at hsm
            have HRR := Lib.hid hrr
            clear hrr
            go_wp2_with fail
            refine hsm.mono fun e w4 h => ?_
            obtain ⟨rfl, hc4⟩ := h
            clear hsm
            go_wp2_with fail
            go_ret
            rw [HK.out.1, HRR.out]
            cases rr with
            | true => exact RMRes.some_ rfl (HE.out.2.keep hc4) (HE.out.1.trans hc4).toMq
            | false => exact RMRes.none_ rfl (HE.out.1.trans hc4).toMq
          | none =>
            have hmt : matchT names (n + 1) a b f = (some (updT f s b)) := by rw [match_in ⟨HN.out.1, HN.out.2.1 ▸ List.mem_of_getElem? HN.out.2.2⟩, HN.out.2.1, hfs]
            have hfa : isAt f s = false := by unfold isAt; rw [hfs]; rfl
            have HK := Lib.hid (And.intro hmt (And.intro hfs (And.intro hch hBd)))
            clear hmt hfs hch hBd hfa hnot hks hcell hss
            go_wp2_with fail
            go_quiet (fail)
            clear x0 x1 x2 x3 x4 x5 y0 y1 y2 y3 y4 y5 e0 e1 e2 z0 i0
            have hd := HK.out.2.2.1.drewN nq
            have hB2 := HK.out.2.2.2.keep ((Chg.refl (fun _ _ => False) wr).drewN nq)
            generalize wr.drewN nq = w2 at hd hB2 ⊢
            have i0 := hB2.isIt HN.out.2.2
            obtain ⟨e0, e1, e2⟩ := hB2.own
            rw [show isAt f s = false by unfold isAt; rw [HK.out.2.1]; rfl] at i0
            obtain ⟨f0, hcm, ⟨d0, d1, d2⟩, u', Xf, xf, Xl, xl, Xr, xr, t0, t1, t2, t3, t4, t5, k0, k1, k2, k3, k4, k5⟩ := hB2.mid HN.out.2.2 _ rfl
            have hdw := H0.out.2.2.1.trans hd
            obtain ⟨y0, y1, y2, y3, y4, y5⟩ := (hcm.blk (hd.blk H0.out.2.1 id) fun h => absurd h.2 (by decide)).cells6
            have hput := hB2.put HQ.out.1 HQ.out.2.1 HQ.out.2.2 HN.out.2.2 (TyR.keep0 hdw HP.out.2.2.1)
            simp only [setL, tyCells, Nat.add_assoc, Nat.reduceAdd] at hput
            have HE := Lib.hid (And.intro hput hdw)
            clear hdw hd hB2 hput hcm
            go_wp2_with fail
            generalize w2.setCell ⟨qK, k, none⟩ (.bool true) = ws at d0 d1 d2 y0 y1 y2 y3 y4 y5 t0 t1 t2 t3 t4 t5 k0 k1 k2 k3 k4 k5 HE ⊢
            clear e0 e1 e2 i0 f0
            refine wp_region_still_tail 7 (by kernel_rfl) (by kernel_rfl) ?_
            simp only [List.take_succ_cons, List.take_zero, List.drop_succ_cons, List.drop_zero]
            repeat (with_reducible refine wpStill_step (fun K hK => ?_); go_simp; with_reducible refine hK _ ?_; clear hK K)
            try with_reducible refine wpStill_nil ?_
            clear y0 y1 y2 y3 y4 y5 d0 d1 d2
            change wpList _ _ _ _ _ ws.drew
            generalize ws.drew = w3 at t0 t1 t2 t3 t4 t5 k0 k1 k2 k3 k4 k5 HE ⊢
            go_wp2_with fail
            go_ret
            rw [HK.out.1]
            exact RMRes.some_ rfl HE.out.1.1 (HE.out.2.toMq.trans HE.out.1.2)
        · have q5 := str_ne hn
          have hnot' : a.kind = 12 → ¬ a.name ∈ names.take (k + 1) := fun h => take_not (hnot h) hks hn
          clear h12 hn
          have HK := Lib.hid (And.intro hnot' hch)
          clear hch hnot hnot' hBd hks hcell hss i0
          go_wp2_with fail
          go_quiet (fail)
          go_wp2_with fail
          go_roundw
          case rel => exact ⟨k + 1, hlt, by simp, HK.out.1, by repeat' (first | exact HK.out.2 | apply Chg.drew | apply Chg.drewN)⟩
          case measure => simp [intOf]; omega
      · have p12 : (a.kind != 12) = true := by simp [h12]
        have hnot' : a.kind = 12 → ¬ a.name ∈ names.take (k + 1) := fun h => absurd h h12
        clear h12
        have HK := Lib.hid (And.intro hnot' hch)
        clear hch hnot hnot' hBd hks hcell hss i0
        go_wp2_with fail
        go_quiet (fail)
        go_wp2_with fail
        go_roundw
        case rel => exact ⟨k + 1, hlt, by simp, HK.out.1, by repeat' (first | exact HK.out.2 | apply Chg.drew | apply Chg.drewN)⟩
        case measure => simp [intOf]; omega
    · have q1 : decide (k < names.length) = false := decide_eq_false hlt
      obtain rfl : k = names.length := by omega
      have hnm : ¬ (a.kind = 12 ∧ a.name ∈ names) := fun h => by
        have := hnot h.1
        rw [List.take_length] at this
        exact this h.2
      clear hnot
      have HM := Lib.hid (And.intro hnm (And.intro (H0.out.2.2.1.trans hch) (And.intro hBd hch)))
      clear hnm hBd hch
      by_cases h1 : a.kind = b.kind
      · have r1 : (a.kind != b.kind) = false := by simp [h1]
        replace h1 := Lib.hid h1
        by_cases h2 : a.name = b.name
        · have r2 := str_eq h2
          replace h2 := Lib.hid h2
          by_cases h3 : a.con = b.con
          · have r3 : (a.con != b.con) = false := by simp [h3]
            replace h3 := Lib.hid h3
            by_cases h4 : a.fields.length = b.fields.length
            · have r4 : ((a.fields.length : Int) != (b.fields.length : Int)) = false := by simp [h4]
              have s4 : (a.fields.length != b.fields.length) = false := by simp [h4]
              replace h4 := Lib.hid h4
              by_cases h5 : a.list.length = b.list.length
              · have r5 : ((a.list.length : Int) != (b.list.length : Int)) = false := by simp [h5]
                have s5 : (a.list.length != b.list.length) = false := by simp [h5]
                replace h5 := Lib.hid h5
                by_cases h6 : a.res.length = b.res.length
                · have r6 : ((a.res.length : Int) != (b.res.length : Int)) = false := by simp [h6]
                  have s6 : (a.res.length != b.res.length) = false := by simp [h6]
                  replace h6 := Lib.hid h6
                  have HE := Lib.hid (And.intro h1.out (And.intro h2.out (And.intro h3.out (And.intro h4.out (And.intro h5.out h6.out)))))
                  clear h1 h2 h3 h4 h5 h6
                  obtain ⟨m', rfl⟩ : ∃ m', m = m' + 1 := by
                    cases m with
                    | zero => exact HP.out.2.2.1.elim
                    | succ m' => exact ⟨m', rfl⟩
                  go_wp2_with fail
                  refine (inner_any n B wr a Af cf Al cl Ar cr (Nat.le_trans HP.out.1 HM.out.2.1.size) (TyR.keep0 HM.out.2.1 HP.out.2.1)).mono fun e w2 h => ?_
                  obtain ⟨C, c, rfl, hrow, hc2⟩ := h
                  clear x0 x1 x2 x3 x4 x5 y0 y1 y2 y3 y4 y5 e0 e1 e2
                  obtain ⟨y0, y1, y2, y3, y4, y5⟩ := ((HM.out.2.2.2.trans hc2).blk H0.out.2.1 id).cells6
                  have HR2 := Lib.hid (And.intro hrow hc2)
                  clear hrow hc2
                  go_wp2_with fail
                  refine (inner_any m' B w2 b Bf df Bl dl Br dr (Nat.le_trans HP.out.1 (HM.out.2.1.trans HR2.out.2).size) (TyR.keep0 (HM.out.2.1.trans HR2.out.2) HP.out.2.2.1)).mono fun e w3 h => ?_
                  obtain ⟨D, d, rfl, hrow2, hc3⟩ := h
                  have hlen : b.inner.length = a.inner.length := by
                    obtain ⟨_, _, _, h4, h5, h6⟩ := HE.out
                    simp [Ty.inner, h4, h5, h6]
                  have hlen2 : a.inner.length ≤ 3145728 := by
                    obtain ⟨_, _, _, s4, s5, s6⟩ := HP.out.2.2.2.2.2.1
                    simp only [Ty.inner, List.length_append, List.length_map]
                    omega
                  have hra0 : RowR wr.heap.size 42 6 (TyR n B) w3 C c a.inner := RowR.keep HR2.out.1 hc3 (fun _ _ => id) fun _ _ h => TyR.keep0 hc3 h
                  have hnoA : ∀ b', wr.heap.size ≤ b' → ¬ Mq qT qK b' 42 := fun b' hb h => h.elim (fun h => by have h1 := h.1; have h2 := HM.out.2.2.1.lt.1; omega) fun h => absurd h.2 (by decide)
                  have hnoB : ∀ b', w2.heap.size ≤ b' → ¬ Mq qT qK b' 42 := fun b' hb h => hnoA b' (Nat.le_trans HR2.out.2.size hb) h
                  rw [hlen]
                  have hcc := HR2.out.2.trans hc3
                  have HR3 := Lib.hid (And.intro hra0 (And.intro hrow2 (And.intro (HM.out.2.1.trans hcc) (And.intro hlen (And.intro (HM.out.2.2.1.keep hcc) (And.intro (HM.out.2.2.2.trans hcc) (And.intro hnoA hnoB)))))))
                  clear hra0 hrow2 hc3 hcc hlen hnoA hnoB y0 y1 y2 y3 y4 y5 q1 q3
                  go_wp2_with fail
                  go_loopw [10] (fun i wr => rmRel2 n (m' + 1) B gB qT qK names An cn ct ck a.innerN b.innerN f w3 i wr) (fun i _ => a.inner.length - (intOf i).toNat)
                  case atStart => exact ⟨0, Nat.zero_le _, rfl, ⟨f, by simp [matchL], HR3.out.2.2.2.2.1⟩, Chg.refl _ _⟩
                  case round =>
                    clear hk hlt
                    obtain ⟨k, hk, rfl, ⟨g, hg, hMg⟩, hch⟩ := hrel
                    rw [innerN_inner] at hk
                    have q3 : IntKind.i64.wrap ((k : Int) + 1) = (k : Int) + 1 := IntWalk.i64_in _ ⟨by omega, by omega⟩
                    have hcw := HR3.out.2.2.1.toMq.trans hch
                    obtain ⟨x0, x1, x2, x3, x4, x5⟩ := (hch.blk (HR3.out.2.2.2.2.2.1.blk H0.out.1 id) (fun h => h.elim (fun h => by have h1 := h.1; have h2 := H0.out.2.2.2; omega) fun h => absurd h.2 (by decide))).cells6
                    obtain ⟨y0, y1, y2, y3, y4, y5⟩ := (hch.blk (HR3.out.2.2.2.2.2.1.blk H0.out.2.1 id) (fun h => h.elim (fun h => by have h1 := h.1; have h2 := H0.out.2.2.2; omega) fun h => absurd h.2 (by decide))).cells6
                    by_cases hlt : k < a.inner.length
                    · have q1 : decide (k < a.inner.length) = true := decide_eq_true hlt
                      have q2 : (k : Int) < (a.inner.length : Int) := by omega
                      have hltb : k < b.inner.length := by have := HR3.out.2.2.2.1; omega
                      have hra := RowR.keep HR3.out.1 hch HR3.out.2.2.2.2.2.2.1 fun _ _ h => TyR.keep hch (mq_lets HQ.out.1 HQ.out.2.1) h
                      have hrb := RowR.keep HR3.out.2.1 hch HR3.out.2.2.2.2.2.2.2 fun _ _ h => TyR.keep hch (mq_lets HQ.out.1 HQ.out.2.1) h
                      obtain ⟨x, hkx⟩ : ∃ x, a.inner[k]? = some x := ⟨_, List.getElem?_eq_getElem hlt⟩
                      obtain ⟨y, hky⟩ : ∃ y, b.inner[k]? = some y := ⟨_, List.getElem?_eq_getElem hltb⟩
                      by_cases hkf : k < a.fields.length
                      · have p1 : decide (k < a.fields.length) = true := decide_eq_true hkf
                        have p2 : (k : Int) < (a.fields.length : Int) := by omega
                        have hkb : k < b.fields.length := by have := HE.out.2.2.2.1; omega
                        have p3 : (k : Int) < (b.fields.length : Int) := by omega
                        obtain ⟨bb, oo, nm, xx, Wf, wf, Wl, wl, Wr, wr', rfl, hbB, hkn, hnms, hRn, n0, n1, n2, n3, n4, n5, n6⟩ := fld_at (SlR.keep HP.out.2.2.2.1 hcw (mq_lets HQ.out.1 HQ.out.2.1).lets fun _ _ h => h.imp fun _ _ h => TyR.keep hcw (mq_lets HQ.out.1 HQ.out.2.1) h) hkf
                        obtain ⟨bb', oo', nm', yy, Vf, vf, Vl, vl, Vr, vr, rfl, hbB', hkn', hnms', hRn', o0, o1, o2, o3, o4, o5, o6⟩ := fld_at (SlR.keep HP.out.2.2.2.2.1 hcw (mq_lets HQ.out.1 HQ.out.2.1).lets fun _ _ h => h.imp fun _ _ h => TyR.keep hcw (mq_lets HQ.out.1 HQ.out.2.1) h) hkb
                        have htk := matchL_take hg ((innerN_at hkx).1 _ _ hkn) ((innerN_at hky).1 _ _ hkn')
                        clear hbB hbB' hnms hnms' hRn hRn' n1 n2 n3 n4 n5 n6 o1 o2 o3 o4 o5 o6 hkn hkn'
                        by_cases he : nm = nm'
                        · have q5 := str_eq he
                          have hstep : matchL (matchT names n) (a.innerN.take (k + 1)) (b.innerN.take (k + 1)) f = matchT names n x y g := htk.trans (by unfold stepM; rw [if_pos (eqB_true.2 he)])
                          replace he := Lib.hid he
                          clear htk
                          have HK := Lib.hid (And.intro hstep (And.intro hch (And.intro hMg (And.intro hkx hky))))
                          have HRW := Lib.hid (And.intro hra hrb)
                          clear hstep hch hMg hkx hky hra hrb hg hcw 
                          go_wp2_with fail
                          go_quiet (fail)
                          clear x0 x1 x2 x3 x4 x5 y0 y1 y2 y3 y4 y5 n0 o0
                          have hd := HK.out.2.1.drewN nq
                          have hid0 := (Chg.refl (fun _ _ => False) wr).drewN nq
                          have hra5 := RowR.keep HRW.out.1 hid0 (fun _ _ => id) fun _ _ h => TyR.keep0 hid0 h
                          have hrb5 := RowR.keep HRW.out.2 hid0 (fun _ _ => id) fun _ _ h => TyR.keep0 hid0 h
                          have hM5 := HK.out.2.2.1.keep hid0
                          clear hid0
                          generalize wr.drewN nq = w5 at hd hra5 hrb5 hM5 ⊢
                          obtain ⟨bb5, oo5, x5', Xf, xf, Xl, xl, Xr, xr, rfl, hkx5, hRx, z0, z1, z2, z3, z4, z5⟩ := TysR.at2_ (hra5.settleT (by decide) fun _ _ h => h) hlt
                          obtain ⟨bc5, oc5, y5', Yf, yf, Yl, yl, Yr, yr, rfl, hky5, hRy, v0, v1, v2, v3, v4, v5⟩ := TysR.at2_ (hrb5.settleT (by decide) fun _ _ h => h) hltb
                          obtain rfl : x5' = x := Option.some.inj (hkx5.symm.trans HK.out.2.2.2.1)
                          obtain rfl : y5' = y := Option.some.inj (hky5.symm.trans HK.out.2.2.2.2)
                          have hdr := (Chg.refl (fun _ _ => False) w5).drew
                          have hdw := (HR3.out.2.2.1.toMq.trans hd).trans hdr.toMq
                          have hcall := IH.out w5.drew x5' y5' Xf xf Xl xl Xr xr Yf yf Yl yl Yr yr g (Nat.le_trans HP.out.1 hdw.size) (hM5.keep hdr) (TyR.keep0 hdr hRx) (TyR.deep (TyR.keep0 hdr hRy) (Nat.le_succ m'))
                          have HG := Lib.hid (And.intro (hd.trans hdr.toMq) hdw)
                          clear hd hra5 hrb5 hM5 hkx5 hky5 hRx hRy hdr hdw
                          go_wp2_with fail
                          refine wp_region_still_tail 9 (by kernel_rfl) (by kernel_rfl) ?_
                          simp only [List.take_succ_cons, List.take_zero, List.drop_succ_cons, List.drop_zero]
                          repeat (with_reducible refine wpStill_step (fun K hK => ?_); go_simp; with_reducible refine hK _ ?_; clear hK K)
                          try with_reducible refine wpStill_nil ?_
                          clear z0 z1 z2 z3 z4 z5 v0 v1 v2 v3 v4 v5
                          change wpList _ _ _ _ _ w5.drew
                          generalize w5.drew = w6 at hcall HG ⊢
                          generalize hrr : matchT names n x5' y5' g = rr at hcall
                          have HRR := Lib.hid hrr
                          clear hrr
                          go_wp2_with fail
                          refine hcall.mono fun e w7 h => ?_
                          obtain ⟨rfl, hm7, hc7⟩ := h
                          clear hcall
                          cases rr with
                          | some g' =>
                            have HM7 := Lib.hid (hm7 g' rfl)
                            clear hm7
                            go_wp2_with fail
                            go_roundw
                            case rel => exact ⟨k + 1, by rw [innerN_inner]; exact hlt, by simp, ⟨g', HK.out.1.trans HRR.out, HM7.out⟩, HG.out.1.trans hc7⟩
                            case measure => simp [intOf]; omega
                          | none =>
                            clear hm7
                            go_wp2_with fail
                            go_ret
                            have hbad : matchL (matchT names n) a.innerN b.innerN f = none := matchL_bad (k := k + 1) (by rw [innerN_inner]; exact hlt) (by rw [innerN_inner, innerN_inner]; exact HR3.out.2.2.2.1.symm) (HK.out.1.trans HRR.out)
                            rw [match_body HM.out.1 HE.out, hbad]
                            exact RMRes.none_ rfl (HG.out.2.trans hc7)
                        · have q5 := str_ne he
                          have hstep : matchL (matchT names n) (a.innerN.take (k + 1)) (b.innerN.take (k + 1)) f = none := htk.trans (by unfold stepM; rw [if_neg (by rw [eqB_false.2 he]; decide)])
                          have HK := Lib.hid (And.intro hstep hcw)
                          replace he := Lib.hid he
                          clear htk hstep hcw hch hMg hkx hky hra hrb hg
                          go_wp2_with fail
                          go_quiet (fail)
                          go_wp2_with fail
                          go_ret
                          have hbad : matchL (matchT names n) a.innerN b.innerN f = none := matchL_bad (k := k + 1) (by rw [innerN_inner]; exact hlt) (by rw [innerN_inner, innerN_inner]; exact HR3.out.2.2.2.1.symm) (HK.out.1)
                          rw [match_body HM.out.1 HE.out, hbad]

                          exact RMRes.none_ rfl (by repeat' (first | exact HK.out.2 | apply Chg.drew | apply Chg.drewN))
                      · have p1 : decide (k < a.fields.length) = false := decide_eq_false hkf
                        have hstep := (matchL_take hg ((innerN_at hkx).2 (by omega)) ((innerN_at hky).2 (by have := HE.out.2.2.2.1; omega))).trans (stepM_bare _ _ _ _ _)
                        have HK := Lib.hid (And.intro hstep (And.intro hch (And.intro hMg (And.intro hkx hky))))
                        have HRW := Lib.hid (And.intro hra hrb)
                        clear hstep hch hMg hkx hky hra hrb hg hcw 
                        go_wp2_with fail
                        go_quiet (fail)
                        clear x0 x1 x2 x3 x4 x5 y0 y1 y2 y3 y4 y5 
                        have hd := HK.out.2.1.drewN nq
                        have hid0 := (Chg.refl (fun _ _ => False) wr).drewN nq
                        have hra5 := RowR.keep HRW.out.1 hid0 (fun _ _ => id) fun _ _ h => TyR.keep0 hid0 h
                        have hrb5 := RowR.keep HRW.out.2 hid0 (fun _ _ => id) fun _ _ h => TyR.keep0 hid0 h
                        have hM5 := HK.out.2.2.1.keep hid0
                        clear hid0
                        generalize wr.drewN nq = w5 at hd hra5 hrb5 hM5 ⊢
                        obtain ⟨bb5, oo5, x5', Xf, xf, Xl, xl, Xr, xr, rfl, hkx5, hRx, z0, z1, z2, z3, z4, z5⟩ := TysR.at2_ (hra5.settleT (by decide) fun _ _ h => h) hlt
                        obtain ⟨bc5, oc5, y5', Yf, yf, Yl, yl, Yr, yr, rfl, hky5, hRy, v0, v1, v2, v3, v4, v5⟩ := TysR.at2_ (hrb5.settleT (by decide) fun _ _ h => h) hltb
                        obtain rfl : x5' = x := Option.some.inj (hkx5.symm.trans HK.out.2.2.2.1)
                        obtain rfl : y5' = y := Option.some.inj (hky5.symm.trans HK.out.2.2.2.2)
                        have hdr := (Chg.refl (fun _ _ => False) w5).drew
                        have hdw := (HR3.out.2.2.1.toMq.trans hd).trans hdr.toMq
                        have hcall := IH.out w5.drew x5' y5' Xf xf Xl xl Xr xr Yf yf Yl yl Yr yr g (Nat.le_trans HP.out.1 hdw.size) (hM5.keep hdr) (TyR.keep0 hdr hRx) (TyR.deep (TyR.keep0 hdr hRy) (Nat.le_succ m'))
                        have HG := Lib.hid (And.intro (hd.trans hdr.toMq) hdw)
                        clear hd hra5 hrb5 hM5 hkx5 hky5 hRx hRy hdr hdw
                        go_wp2_with fail
                        refine wp_region_still_tail 9 (by kernel_rfl) (by kernel_rfl) ?_
                        simp only [List.take_succ_cons, List.take_zero, List.drop_succ_cons, List.drop_zero]
                        repeat (with_reducible refine wpStill_step (fun K hK => ?_); go_simp; with_reducible refine hK _ ?_; clear hK K)
                        try with_reducible refine wpStill_nil ?_
                        clear z0 z1 z2 z3 z4 z5 v0 v1 v2 v3 v4 v5
                        change wpList _ _ _ _ _ w5.drew
                        generalize w5.drew = w6 at hcall HG ⊢
                        generalize hrr : matchT names n x5' y5' g = rr at hcall
                        have HRR := Lib.hid hrr
                        clear hrr
                        go_wp2_with fail
                        refine hcall.mono fun e w7 h => ?_
                        obtain ⟨rfl, hm7, hc7⟩ := h
                        clear hcall
                        cases rr with
                        | some g' =>
                          have HM7 := Lib.hid (hm7 g' rfl)
                          clear hm7
                          go_wp2_with fail
                          go_roundw
                          case rel => exact ⟨k + 1, by rw [innerN_inner]; exact hlt, by simp, ⟨g', HK.out.1.trans HRR.out, HM7.out⟩, HG.out.1.trans hc7⟩
                          case measure => simp [intOf]; omega
                        | none =>
                          clear hm7
                          go_wp2_with fail
                          go_ret
                          have hbad : matchL (matchT names n) a.innerN b.innerN f = none := matchL_bad (k := k + 1) (by rw [innerN_inner]; exact hlt) (by rw [innerN_inner, innerN_inner]; exact HR3.out.2.2.2.1.symm) (HK.out.1.trans HRR.out)
                          rw [match_body HM.out.1 HE.out, hbad]
                          exact RMRes.none_ rfl (HG.out.2.trans hc7)
                    · have q1 : decide (k < a.inner.length) = false := decide_eq_false hlt
                      obtain rfl : k = a.inner.length := by omega
                      have hall : matchL (matchT names n) a.innerN b.innerN f = some g := by
                        rw [← hg, List.take_of_length_le (by rw [innerN_inner]; exact Nat.le_refl _), List.take_of_length_le (by rw [innerN_inner]; have := HR3.out.2.2.2.1; omega)]
                      have HK := Lib.hid (And.intro hall (And.intro hMg hcw))
                      clear hall hMg hcw hch hg
                      go_wp2_with fail
                      go_ret
                      rw [match_body HM.out.1 HE.out, HK.out.1]
                      exact RMRes.some_ rfl HK.out.2.1 HK.out.2.2
                · have r6 : ((a.res.length : Int) != (b.res.length : Int)) = true := by simp only [bne_iff_ne, ne_eq]; omega
                  have s6 : (a.res.length != b.res.length) = true := by simp only [bne_iff_ne, ne_eq]; omega
                  have HS := Lib.hid (show matchT names (n + 1) a b f = none from match_head HM.out.1 fun h => h6 h.2.2.2.2.2)
                  clear h6
                  go_wp2_with fail
                  go_ret
                  rw [HS.out]
                  exact RMRes.none_ rfl HM.out.2.1.toMq
              · have r5 : ((a.list.length : Int) != (b.list.length : Int)) = true := by simp only [bne_iff_ne, ne_eq]; omega
                have s5 : (a.list.length != b.list.length) = true := by simp only [bne_iff_ne, ne_eq]; omega
                have HS := Lib.hid (show matchT names (n + 1) a b f = none from match_head HM.out.1 fun h => h5 h.2.2.2.2.1)
                clear h5
                go_wp2_with fail
                go_ret
                rw [HS.out]
                exact RMRes.none_ rfl HM.out.2.1.toMq
            · have r4 : ((a.fields.length : Int) != (b.fields.length : Int)) = true := by simp only [bne_iff_ne, ne_eq]; omega
              have s4 : (a.fields.length != b.fields.length) = true := by simp only [bne_iff_ne, ne_eq]; omega
              have HS := Lib.hid (show matchT names (n + 1) a b f = none from match_head HM.out.1 fun h => h4 h.2.2.2.1)
              clear h4
              go_wp2_with fail
              go_ret
              rw [HS.out]
              exact RMRes.none_ rfl HM.out.2.1.toMq
          · have r3 : (a.con != b.con) = true := by simp only [bne_iff_ne, ne_eq]; omega
            have HS := Lib.hid (show matchT names (n + 1) a b f = none from match_head HM.out.1 fun h => h3 h.2.2.1)
            clear h3
            go_wp2_with fail
            go_ret
            rw [HS.out]
            exact RMRes.none_ rfl HM.out.2.1.toMq
        · have r2 := str_ne h2
          have HS := Lib.hid (show matchT names (n + 1) a b f = none from match_head HM.out.1 fun h => h2 h.2.1)
          clear h2
          go_wp2_with fail
          go_ret
          rw [HS.out]
          exact RMRes.none_ rfl HM.out.2.1.toMq
      · have r1 : (a.kind != b.kind) = true := by simp only [bne_iff_ne, ne_eq]; omega
        have HS := Lib.hid (show matchT names (n + 1) a b f = none from match_head HM.out.1 fun h => h1 h.1)
        clear h1
        go_wp2_with fail
        go_ret
        rw [HS.out]
        exact RMRes.none_ rfl HM.out.2.1.toMq
end Go.Proofs.YtlbcaiohjghclaaDoor
