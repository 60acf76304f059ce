/-
  The walk of the statement VerifyFlows.
-/
import Derived.Test.YtdegfnejhamejaaFlowN2Zf
import Derived.Test.YtdegfnejhamejaaVTk3Zf
namespace Go.Proofs.Ytdegfnejhamejaa
open Go.RowKit
set_option linter.unusedVariables false
set_option linter.unusedSimpArgs false

theorem stk_at {n0 : Nat} {A : Option Addr} {c : Nat} {G : Nat → Prop} {w : World} {L : List (List Int)} (H : RowR n0 31 1 (StG G) w A c L) (h0 : 0 < L.length) : ∃ b o, A = some ⟨b, o, none⟩ ∧
    ∀ i (hi : i < L.length), ∃ Ai ci n1, w.cell? ⟨b, o + i, none⟩ = some (.slice Ai L[i].length ci) ∧ RowR n1 3 1 IntV w Ai ci L[i] := by
  obtain ⟨A2, c2, hv, _, h⟩ := H.slr (by decide) 0
  obtain ⟨b, o, hA, _, _, h⟩ := h h0
  injection hv with hv _ _
  refine ⟨b, o, by rw [hv, hA], fun i hi => ?_⟩
  obtain ⟨cs, _, hR, hcell⟩ := h i _ (List.getElem?_eq_getElem hi)
  obtain ⟨n1, Ai, ci, rfl, hr, _⟩ := hR
  exact ⟨Ai, ci, n1, by simpa using hcell 0 _ rfl, hr⟩
theorem row_ints {n0 : Nat} {A : Option Addr} {c : Nat} {w : World} {l : List Int} (H : RowR n0 3 1 IntV w A c l) : IntsR w.heap.size w (.slice A l.length c) l := SlR.settle (H.slr (by decide) 0) fun _ _ h => h
def slA (A : Option Addr) (k c : Nat) : Option Addr := if c = k then A else A.map (·.add k)
theorem slice_l (w : World) (A : Option Addr) (n c k : Nat) (hk : k ≤ n) : (Instr.slice 31 (.slice A n c) (some (.int .i64 (k : Int))) none none).run Try.prog w = .ok (.slice (slA A k c) (n - k) (c - k)) w := by
  obtain ⟨i9, hi9, hz9, hs9, hb9⟩ := info_parts infoInt
  have he : Try.prog.elem 31 = 3 := by kernel_rfl
  have h := run_slice_l (P := Try.prog) (w := w) (t := 31) (a := A) (len := n) (cap := c) (by rw [he]; exact Try.underlying31) .i64 (k : Int) (by omega) (by omega)
  rw [h, he]
  simp [sizeOf, typeInfo, hi9, hs9, sliced, Result.andThen, slA]
theorem slice_h (w : World) (A : Option Addr) (n c k : Nat) (hk : k ≤ c) : (Instr.slice 31 (.slice A n c) none (some (.int .i64 (k : Int))) none).run Try.prog w = .ok (.slice A k c) w := by
  obtain ⟨i9, hi9, hz9, hs9, hb9⟩ := info_parts infoInt
  have he : Try.prog.elem 31 = 3 := by kernel_rfl
  have h := run_slice_h (P := Try.prog) (w := w) (t := 31) (a := A) (len := n) (cap := c) (by rw [he]; exact Try.underlying31) .i64 (k : Int) (by omega) (by omega)
  rw [h, he]
  simp [sizeOf, typeInfo, hi9, hs9, sliced, Result.andThen, Addr.add]
theorem ints_drop {B n c k : Nat} {w : World} {A : Option Addr} {l : List Int} (h : IntsR B w (.slice A n c) l) (hk : k ≤ n) : IntsR B w (.slice (slA A k c) (n - k) (c - k)) (l.drop k) := by
  have hl := SlR.len h
  obtain ⟨A', c', hv, h1, h2⟩ := h
  injection hv with hA hn hc
  subst hA hc
  refine ⟨slA A k c, c - k, by rw [List.length_drop, hn], by rw [List.length_drop]; omega, fun h0 => ?_⟩
  rw [List.length_drop] at h0
  obtain ⟨b, o, rfl, hb, hlt, h3⟩ := h2 (by omega)
  have hck : c ≠ k := by omega
  refine ⟨b, o + k, by simp [slA, hck, Addr.add], hb, hlt, fun i x hx => ?_⟩
  rw [List.getElem?_drop] at hx
  obtain ⟨cs, k1, k2, k3⟩ := h3 _ x hx
  refine ⟨cs, k1, k2, fun j u hu => ?_⟩
  have := k3 j u hu
  rw [show o + k + i * 1 + j = o + (k + i) * 1 + j by omega]
  exact this
theorem ints_reads {B n c k : Nat} {w : World} {A : Option Addr} {l : List Int} (h : IntsR B w (.slice A n c) l) (hk : k ≤ n) : Reads w w.heap.size 1 A k ((l.take k).map (Value.int .i64)) := by
  have hl := SlR.len h
  obtain ⟨A', c', hv, h1, h2⟩ := h
  injection hv with hA hn hc
  subst hA hc
  refine ⟨by simp; omega, fun h0 => ?_⟩
  obtain ⟨b, o, rfl, hb, hlt, h3⟩ := h2 (by omega)
  refine ⟨⟨b, o, none⟩, rfl, hlt, fun j u hu => ?_⟩
  rw [List.getElem?_map] at hu
  obtain ⟨x, hx, rfl⟩ := Option.map_eq_some_iff.1 hu
  have hx' : l[j]? = some x := by
    rw [List.getElem?_take] at hx
    split at hx
    · exact hx
    · cases hx
  obtain ⟨cs, k1, ⟨rfl, _⟩, k3⟩ := h3 _ x hx'
  have h4 := k3 0 _ rfl
  have ha : (⟨b, o, none⟩ : Addr).add j = ⟨b, o + j, none⟩ := by by_cases hj : j = 0 <;> simp [Addr.add, hj]
  rw [ha]
  simpa using h4
section
variable {P : Program} (w : World)
theorem step_append_g {ops : Array Oper} {o : Oper} {a : Act} {K : Act → World → Prop} {Q : Exit → Act → World → Prop} {E : Prop} (hw : Region.wanted o (yielded ops a.tmps) = true) (s x : Operand) (t : TypeId)
    (ho : o.op = .call { callee := .builtin .append, args := #[s, x], argTypes := #[t, t] })
    (base : Nat) (e : TypeId) (i : TypeInfo) (z : Value) (size bytes : Nat) (ht : P.underlying t = some (.slice e)) (hi : P.info? e = some i) (hz : i.zero = some z)
    (hsize : i.size = size) (hby : i.bytes = bytes) (hzs : z.cells.size = size) (hsz : 0 < size)
    (v : Value) (n : Nat) (xs : List Value) (hs : a.eval s = v) (hown : w.ownsRow base e size v n xs)
    (B : Nat) (A : Option Addr) (m c : Nat) (news : List Value) (hx : a.eval x = .slice A m c) (hr : Reads w B size A m news) (h1 : ∀ u ∈ news, u.oneCell' = true)
    (h63 : n + m ≤ maxLen) (hbytes : (n + m) * bytes ≤ 140737488355328) (hbase : base ≤ w.heap.size)
    (h : ∀ v' w', w'.ownsRow base e size v' (n + m) (xs ++ news) → w.grownBy w' v.ownBlock → (v'.ownBlock = v.ownBlock ∨ v'.ownBlock = some w.heap.size) → K (a.put o.dst v') w') :
    if Region.wanted o (yielded ops a.tmps) = true then Oper.wp P o a w K Q else E := by
  rw [if_pos hw]
  exact wp_append_any w s x t ho base e i z size bytes ht hi hz hsize hby hzs hsz v n xs hs hown B A m c news hx hr h1 h63 hbytes hbase h
end
theorem same_self (l : List Int) : sameL sameInt l l = true := by
  induction l with
  | nil => rfl
  | cons x l ih => simp [sameL, sameInt, ih]
def flRel (n : Nat) (W : World) (i : Value) (wr : World) : Prop := ∃ k : Nat, k ≤ n ∧ i = .int .i64 k ∧ Chg (fun _ _ => False) W wr
set_option maxRecDepth 100000 in
set_option maxHeartbeats 8000000 in
theorem verifyFlows_walk (w : World) (B : Nat) (hBw : B ≤ w.heap.size) (v : Value) (m : ModD) (hm : ModR B w v m) (hcost : cMod m ≤ 1099511627776) (fn : Int) :
    Calls Try.prog 4 #[v, .int .i64 fn] w fun e w' => e = .returned (.bool true) ∧ Below w.heap.size w w' := by
  have hs := small_of_cost hcost
  obtain ⟨Am, cm, Am', cm', rfl, hT, hF⟩ := hm
  have hm0 : ModR B w (.agg #[.slice Am m.types.length cm, .slice Am' m.funcs.length cm']) m := ⟨Am, cm, Am', cm', rfl, hT, hF⟩
  clear hT hF
  have hb0 := Blk.new w 25 #[.slice Am m.types.length cm, .slice Am' m.funcs.length cm']
  have hc0 := chg_alloc w (.cells #[.slice Am m.types.length cm, .slice Am' m.funcs.length cm'] 25)
  have hm1 := hm0.keep hc0 (fun _ _ _ => id)
  obtain ⟨d0, d1⟩ := hb0.cells2
  have HV := Lib.hid (And.intro hBw (And.intro hm0 (And.intro hcost hs)))
  clear hm0 hs
  go_enter Try.func4, Try.ntmps4
  go_wp2_with fail
  refine (own_any _ B _ m (by simp; omega) hm1 hcost).mono fun e w1 h => ?_
  have hb1 : Below _ _ _ := h.choose_spec.choose_spec.choose_spec.choose_spec.2.1
  obtain ⟨v1, rfl, hv1⟩ := h.modR
  have hstk := stacks_any w1 _ v1 m fn (Nat.le_refl _) hv1 HV.out.2.2.1 HV.out.2.2.2
  have hc1 : Chg (fun _ _ => False) w w1 := hc0.trans (Chg.of_below hb1 _)
  have hbk1 := (Chg.of_below hb1 (fun _ _ => False)).blk hb0 id
  clear hb0 hc0 hm1 hb1 d0 d1 hv1 hBw hcost h
  go_wp2_with fail
  refine hstk.mono fun e w2 h => ?_
  obtain ⟨lv, rfl, hc2', hout⟩ := h
  have hc2 := hc1.trans hc2'
  have hbk2 := hc2'.blk hbk1 id
  have HO := Lib.hid (And.intro hout hc2'.size)
  clear hc2' hc1 hbk1 hstk hout
  go_wp2_with fail
  refine (vans_any _).mono fun e w3 h => ?_
  obtain ⟨rfl, hca3⟩ := h
  have hc3 := hc2.trans hca3
  have hbk3 := hca3.blk hbk2 id
  obtain ⟨y0, y1⟩ := hbk3.cells2
  have H3 := Lib.hid (And.intro hc3 (And.intro hbk3 hca3))
  clear hca3 hbk2 hc2 hc3 hbk3
  obtain ⟨E, hE⟩ : ∃ E, headE m fn = E := ⟨_, rfl⟩
  rw [hE]
  have HE := Lib.hid hE
  clear hE
  cases hb : (E != 0)
  · have hE0 : E = 0 := by simpa using hb
    subst hE0
    obtain ⟨ho, h0, h1⟩ := head_ok HE.out
    obtain ⟨n, rfl⟩ : ∃ n : Nat, fn = (n : Int) := ⟨fn.toNat, by omega⟩
    obtain ⟨hfm, _, hall⟩ := chk_ok ho
    have hnl : n < m.funcs.length := by omega
    have hout := HO.out.1
    unfold StkOut at hout
    rw [if_pos HE.out] at hout
    simp only [Int.toNat_natCast] at hout
    obtain ⟨f, L, A5, c5, G, hf, hLl, hLat, rfl, hrow, _, _⟩ := hout
    have hfa := hall f (List.mem_of_getElem? hf)
    have hpos : 0 < f.code.length := by
      rcases Nat.eq_zero_or_pos f.code.length with h | h
      · unfold funcAt at hfa
        rw [if_pos h] at hfa
        cases hfa
      · exact h
    have hcl : f.code.length ≤ 65536 := by
      have h2 := hfm
      unfold formedMod at h2
      simp only [Bool.and_eq_true, decide_eq_true_eq] at h2
      have h3 : f.code.length ≤ codeAll m.funcs := by
        unfold codeAll
        exact sum_ge _ _ (List.mem_map.2 ⟨f, List.mem_of_getElem? hf, rfl⟩)
      omega
    obtain ⟨lb, lo, rfl, hst⟩ := stk_at hrow (by omega)
    have hm3 := HV.out.2.1.keep H3.out.1 (fun _ _ _ => id)
    obtain ⟨_, _, _, _, hmv, _, hF3⟩ := hm3
    injection hmv with hmv
    simp only [Array.mk.injEq, List.cons.injEq, and_true, Value.slice.injEq] at hmv
    obtain ⟨⟨rfl, _, rfl⟩, ⟨rfl, _, rfl⟩⟩ := hmv
    obtain ⟨fb, fo, f', F1, f1, F2, f2, F3, f3, rfl, hf', _, _, _, _, hcode, g0, g1, g2, g3, g4⟩ := hF3.at_ hnl
    obtain rfl : f' = f := by rw [hf] at hf'; injection hf' with h; exact h.symm
    have q1 : (n : Int) < (m.funcs.length : Int) := by omega
    have hst3 : ∀ i (hi : i < L.length), ∃ Ai ci n1, w3.cell? ⟨lb, lo + i, none⟩ = some (.slice Ai L[i].length ci) ∧ RowR n1 3 1 IntV w3 Ai ci L[i] := fun i hi => by
      obtain ⟨Ai, ci, n1, k1, k2⟩ := hst i hi
      exact ⟨Ai, ci, n1, H3.out.2.2.cell k1 (fun _ => id), k2.keep1 H3.out.2.2 (fun _ _ => id) fun _ _ h => h⟩
    have HF := Lib.hid (And.intro hf (And.intro hfa (And.intro hLl (And.intro hLat (And.intro hst3 (And.intro hcode (And.intro hcl hpos)))))))
    clear hf hfa hLl hLat hst hst3 hcode hall ho h0 h1 hfm hf' hF3 hrow hnl hpos hcl HO
    go_wp2_with fail
    go_loopw [8] (fun i wr => flRel f'.code.length w3 i wr) (fun i _ => f'.code.length - (intOf i).toNat)
    case atStart => exact ⟨0, Nat.zero_le _, rfl, Chg.refl _ _⟩
    case round =>
      obtain ⟨k, hk, rfl, hch⟩ := hrel
      have q3 : IntKind.i64.wrap ((k : Int) + 1) = (k : Int) + 1 := IntWalk.i64_in _ ⟨by omega, by have := HF.out.2.2.2.2.2.2.1; omega⟩
      by_cases hlt : k < f'.code.length
      · have q2 : (k : Int) < (f'.code.length : Int) := by omega
        obtain ⟨x, st, s, hx, hat, hs⟩ := func_steps HF.out.2.1 hlt
        obtain ⟨Ai, ci, n1, k1, k2⟩ := HF.out.2.2.2.2.1 k (by rw [HF.out.2.2.1]; exact hlt)
        have hLk : L[k]'(by rw [HF.out.2.2.1]; exact hlt) = st := by
          have h := HF.out.2.2.2.1 k (by rw [HF.out.2.2.1]; exact hlt)
          rw [hat, List.getElem?_eq_getElem (by rw [HF.out.2.2.1]; exact hlt)] at h
          injection h with h
          exact h.symm
        rw [hLk] at k1 k2
        obtain ⟨⟨pre, hpre, hstk, hsm⟩, hjmp⟩ := step_fe hs
        obtain ⟨tl, htl⟩ : ∃ l, l = s.taken.reverse := ⟨_, rfl⟩
        rw [← htl] at hpre
        have hst64 := at_small hat
        have hbk := hch.blk H3.out.2.1 id
        obtain ⟨z0, z1⟩ := hbk.cells2
        have hown := own_any wr B _ m (Nat.le_trans HV.out.1 (Nat.le_trans H3.out.1.size hch.size)) (HV.out.2.1.keep (H3.out.1.trans hch) (fun _ _ _ => id)) HV.out.2.2.1
        have HX := Lib.hid (And.intro hch (And.intro hx (And.intro hat (And.intro hs (And.intro hpre (And.intro hstk (And.intro hsm (And.intro htl (And.intro hst64 (And.intro k1 (And.intro k2 hbk)))))))))))
        clear hx hat hs hpre hstk hsm htl hst64 k1 k2 hbk hch hLk hjmp
        go_wp2_with fail
        refine hown.mono fun e w4 h => ?_
        have hb4 : Below _ _ _ := h.choose_spec.choose_spec.choose_spec.choose_spec.2.1
        obtain ⟨v4, rfl, hv4⟩ := h.modR
        have htk := takes_any w4 _ v4 m (n : Int) (k : Int) (Nat.le_refl _) hv4 HV.out.2.2.1 HV.out.2.2.2
        have hc4 := HX.out.1.trans (Chg.of_below hb4 (fun _ _ => False))
        clear hown h hb4 hv4 z0 z1
        go_wp2_with fail
        refine htk.mono fun e w5 h => ?_
        obtain ⟨ta, tb, rfl, hc5', hout⟩ := h
        have hE : takeE m (n : Int) (k : Int) = 0 := by
          rw [takeE_f HE.out (by rw [Int.toNat_natCast]; exact HF.out.1)]
          have h1 : decide ((k : Int) < 0) = false := decide_eq_false (by omega)
          have h2 : decide ((f'.code.length : Int) ≤ (k : Int)) = false := decide_eq_false (by omega)
          simp only [h1, h2, Bool.or_self, Bool.false_eq_true, if_false]
        unfold TkOut at hout
        rw [if_pos hE] at hout
        simp only [Int.toNat_natCast] at hout
        obtain ⟨f2, x2, st2, s2, Aa, ca, Ab, cb, e1, e2, e3, e4, rfl, rfl, ra, rb⟩ := hout
        obtain rfl : f' = f2 := by rw [HF.out.1] at e1; injection e1
        obtain rfl : x = x2 := by rw [HX.out.2.1] at e2; injection e2
        obtain rfl : st = st2 := by rw [HX.out.2.2.1] at e3; injection e3
        obtain rfl : s = s2 := by rw [HX.out.2.2.2.1] at e4; injection e4
        rw [← HX.out.2.2.2.2.2.2.2.1] at ra ⊢
        rw [hE]
        have hc5 := hc4.trans hc5'
        have k1 := hc5.cell (HX.out.2.2.2.2.2.2.2.2.2.1) (fun _ => id)
        have hlen : st.length = pre.length + tl.length := by rw [HX.out.2.2.2.2.1, List.length_append]
        have hst64 := HX.out.2.2.2.2.2.2.2.2.1
        have q4 : IntKind.i64.wrap ((st.length : Int) - (tl.length : Int)) = (pre.length : Int) := by rw [show (st.length : Int) - (tl.length : Int) = (pre.length : Int) by omega]; exact IntWalk.i64_in _ ⟨by omega, by omega⟩
        have q5 : decide ((pre.length : Int) < 0) = false := decide_eq_false (by omega)
        have q6 : (k : Int) < (L.length : Int) := by rw [HF.out.2.2.1]; exact q2
        have hsl := fun W => slice_l W Ai st.length ci pre.length (by omega)
        have hrI := row_ints (HX.out.2.2.2.2.2.2.2.2.2.2.1.keep1 hc5 (fun _ _ => id) fun _ _ h => h)
        have hdrop : st.drop pre.length = tl := by rw [HX.out.2.2.2.2.1]; simp
        have hsm := rInts_any w5 w5.heap.size (slA Ai pre.length ci) Aa (st.length - pre.length) (ci - pre.length) tl.length ca tl tl (by have h := ints_drop hrI (k := pre.length) (by omega); rw [hdrop] at h; exact h) (row_ints ra) (by omega) (by omega)
        rw [same_self] at hsm
        have HY := Lib.hid (And.intro hc5 (And.intro rb (And.intro hlen (And.intro hst64 hrI))))
        clear hc4 hc5' e1 e2 e3 e4 ra rb hc5 hlen hst64 hrI hdrop htk hE
        cases hk0 : ((k : Int) == 0)
        · go_wp2_with fail
          refine hsm.mono fun e w6 h => ?_
          obtain ⟨rfl, qn, rfl⟩ := h
          have hc56 := chg_drewN w5 qn
          have k1 := hc56.cell k1 (fun _ => id)
          clear hsm hsl
          go_wp2_with fail
          generalize w5.drewN qn = w6 at *
          have hc6 := HY.out.1.trans hc56
          have H6 := Lib.hid (And.intro hc6 hc56)
          clear hc6 hc56
          cases hn : decide ((k : Int) + 1 < (f'.code.length : Int))
          · have HN := Lib.hid hn
            refine wp_region_G (S := (fun w' => Chg (fun _ _ => False) w6 w')) 23 (by kernel_rfl) (Chg.refl _ _).drew (fun hHeld => ?_)
            refine wpAnyG_take (i := 0) (v := ?va1) rfl (by kernel_rfl) (fun _ _ _ h => h) (Or.inl ⟨by kernel_rfl, ?hy1⟩) (by assumption) ?ra1
            case hy1 => (intro w hSw; (try dsimp only at hSw); skip; clear hSw; go_simp; all_goals (with_reducible rfl))
            simp only [Act.put, List.setIfInBounds_toArray, List.set_cons_zero, List.set_cons_succ]
            refine wpAnyG_take (i := 1) (v := ?va2) rfl (by kernel_rfl) (fun _ _ _ h => h) (Or.inl ⟨by kernel_rfl, ?hy2⟩) (by assumption) ?ra2
            case hy2 => (intro w hSw; (try dsimp only at hSw); skip; clear hSw; go_simp; all_goals (with_reducible rfl))
            simp only [Act.put, List.setIfInBounds_toArray, List.set_cons_zero, List.set_cons_succ]
            refine wpAnyG_take (i := 2) (v := ?va3) rfl (by kernel_rfl) (fun _ _ _ h => h) (Or.inl ⟨by kernel_rfl, ?hy3⟩) (by assumption) ?ra3
            case hy3 => (intro w hSw; (try dsimp only at hSw); skip; clear hSw; go_simp; all_goals (with_reducible rfl))
            simp only [Act.put, List.setIfInBounds_toArray, List.set_cons_zero, List.set_cons_succ]
            refine wpAnyG_take (i := 3) (v := ?va4) rfl (by kernel_rfl) (fun _ _ _ h => h) (Or.inl ⟨by kernel_rfl, ?hy4⟩) (by assumption) ?ra4
            case hy4 => (intro w hSw; (try dsimp only at hSw); skip; clear hSw; go_simp; all_goals (with_reducible rfl))
            simp only [Act.put, List.setIfInBounds_toArray, List.set_cons_zero, List.set_cons_succ]
            refine wpAnyG_take (i := 4) (v := ?va5) rfl (by kernel_rfl) (fun _ _ _ h => h) (Or.inl ⟨by kernel_rfl, ?hy5⟩) (by assumption) ?ra5
            case hy5 => (intro w hSw; (try dsimp only at hSw); skip; clear hSw; go_simp; all_goals (with_reducible rfl))
            simp only [Act.put, List.setIfInBounds_toArray, List.set_cons_zero, List.set_cons_succ]
            refine wpAnyG_take (i := 5) (v := ?va6) rfl (by kernel_rfl) (fun _ _ _ h => h) (Or.inl ⟨by kernel_rfl, ?hy6⟩) (by assumption) ?ra6
            case hy6 => (intro w hSw; (try dsimp only at hSw); skip; clear hSw; go_simp; all_goals (with_reducible rfl))
            simp only [Act.put, List.setIfInBounds_toArray, List.set_cons_zero, List.set_cons_succ]
            refine wpAnyG_take (i := 6) (v := undef) rfl (by kernel_rfl) (fun _ _ _ h => h) (Or.inr ⟨by kernel_rfl, rfl⟩) (by assumption) ?ra7
            simp only [Act.put, List.setIfInBounds_toArray, List.set_cons_zero, List.set_cons_succ]
            refine wpAnyG_take (i := 7) (v := undef) rfl (by kernel_rfl) (fun _ _ _ h => h) (Or.inr ⟨by kernel_rfl, rfl⟩) (by assumption) ?ra8
            simp only [Act.put, List.setIfInBounds_toArray, List.set_cons_zero, List.set_cons_succ]
            refine wpAnyG_take (i := 8) (v := undef) rfl (by kernel_rfl) (fun _ _ _ h => h) (Or.inr ⟨by kernel_rfl, rfl⟩) (by assumption) ?ra9
            simp only [Act.put, List.setIfInBounds_toArray, List.set_cons_zero, List.set_cons_succ]
            refine wpAnyG_take (i := 9) (v := undef) rfl (by kernel_rfl) (fun _ _ _ h => h) (Or.inr ⟨by kernel_rfl, rfl⟩) (by assumption) ?ra10
            simp only [Act.put, List.setIfInBounds_toArray, List.set_cons_zero, List.set_cons_succ]
            refine wpAnyG_take (i := 10) (v := undef) rfl (by kernel_rfl) (fun _ _ _ h => h) (Or.inr ⟨by kernel_rfl, rfl⟩) (by assumption) ?ra11
            simp only [Act.put, List.setIfInBounds_toArray, List.set_cons_zero, List.set_cons_succ]
            refine wpAnyG_take (i := 11) (v := undef) rfl (by kernel_rfl) (fun _ _ _ h => h) (Or.inr ⟨by kernel_rfl, rfl⟩) (by assumption) ?ra12
            simp only [Act.put, List.setIfInBounds_toArray, List.set_cons_zero, List.set_cons_succ]
            refine wpAnyG_take (i := 12) (v := undef) rfl (by kernel_rfl) (fun _ _ _ h => h) (Or.inr ⟨by kernel_rfl, rfl⟩) (by assumption) ?ra13
            simp only [Act.put, List.setIfInBounds_toArray, List.set_cons_zero, List.set_cons_succ]
            refine wpAnyG_take (i := 13) (v := undef) rfl (by kernel_rfl) (fun _ _ _ h => h) (Or.inr ⟨by kernel_rfl, rfl⟩) (by assumption) ?ra14
            simp only [Act.put, List.setIfInBounds_toArray, List.set_cons_zero, List.set_cons_succ]
            refine wpAnyG_take (i := 14) (v := undef) rfl (by kernel_rfl) (fun _ _ _ h => h) (Or.inr ⟨by kernel_rfl, rfl⟩) (by assumption) ?ra15
            simp only [Act.put, List.setIfInBounds_toArray, List.set_cons_zero, List.set_cons_succ]
            refine wpAnyG_take (i := 15) (v := undef) rfl (by kernel_rfl) (fun _ _ _ h => h) (Or.inr ⟨by kernel_rfl, rfl⟩) (by assumption) ?ra16
            simp only [Act.put, List.setIfInBounds_toArray, List.set_cons_zero, List.set_cons_succ]
            refine wpAnyG_take (i := 16) (v := undef) rfl (by kernel_rfl) (fun _ _ _ h => h) (Or.inr ⟨by kernel_rfl, rfl⟩) (by assumption) ?ra17
            simp only [Act.put, List.setIfInBounds_toArray, List.set_cons_zero, List.set_cons_succ]
            refine wpAnyG_take (i := 17) (v := undef) rfl (by kernel_rfl) (fun _ _ _ h => h) (Or.inr ⟨by kernel_rfl, rfl⟩) (by assumption) ?ra18
            simp only [Act.put, List.setIfInBounds_toArray, List.set_cons_zero, List.set_cons_succ]
            refine wpAnyG_take (i := 18) (v := undef) rfl (by kernel_rfl) (fun _ _ _ h => h) (Or.inr ⟨by kernel_rfl, rfl⟩) (by assumption) ?ra19
            simp only [Act.put, List.setIfInBounds_toArray, List.set_cons_zero, List.set_cons_succ]
            refine wpAnyG_take (i := 19) (v := undef) rfl (by kernel_rfl) (fun _ _ _ h => h) (Or.inr ⟨by kernel_rfl, rfl⟩) (by assumption) ?ra20
            simp only [Act.put, List.setIfInBounds_toArray, List.set_cons_zero, List.set_cons_succ]
            refine wpAnyG_take (i := 20) (v := undef) rfl (by kernel_rfl) (fun _ _ _ h => h) (Or.inr ⟨by kernel_rfl, rfl⟩) (by assumption) ?ra21
            simp only [Act.put, List.setIfInBounds_toArray, List.set_cons_zero, List.set_cons_succ]
            refine wpAnyG_take (i := 21) (v := undef) rfl (by kernel_rfl) (fun _ _ _ h => h) (Or.inr ⟨by kernel_rfl, rfl⟩) (by assumption) ?ra22
            simp only [Act.put, List.setIfInBounds_toArray, List.set_cons_zero, List.set_cons_succ]
            refine wpAnyG_take (i := 22) (v := undef) rfl (by kernel_rfl) (fun _ _ _ h => h) (Or.inr ⟨by kernel_rfl, rfl⟩) (by assumption) ?ra23
            simp only [Act.put, List.setIfInBounds_toArray, List.set_cons_zero, List.set_cons_succ]
            refine wpAnyG_last rfl (by kernel_rfl) (by kernel_rfl) (fun K hK => ?_)
            go_simp
            refine hK.out _ _ ?_
            clear hK K
            try simp only [Act.put, List.setIfInBounds_toArray, List.set_cons_zero, List.set_cons_succ]
            have hcd := H6.out.1.trans hHeld
            have hcode := HF.out.2.2.2.2.2.1.keep hcd (fun _ _ _ => id)
            have k1 := hHeld.cell k1 (fun _ => id)
            clear hHeld
            generalize w6.drew = wd at hcd hcode k1 ⊢
            obtain ⟨xb, xo, x', X1, xc, rfl, hx', _, _, _, _, hcs, x0, xa, _, _, x4⟩ := hcode.at_ hlt
            obtain rfl : x = x' := by rw [HX.out.2.1] at hx'; injection hx'
            have HD := Lib.hid (And.intro hcd hcs)
            clear hcd hcode hcs hx'
            cases h33 : (x.op == 33)
            · cases h34 : (x.op == 34)
              · go_wp2_with fail
                skip
                go_loopw [13] (fun i wr => flRel x.cases.length wd i wr) (fun i _ => x.cases.length - (intOf i).toNat)
                case atStart => exact ⟨0, Nat.zero_le _, rfl, Chg.refl _ _⟩
                case round =>
                  obtain ⟨j, hj, rfl, hcj⟩ := hrel
                  have hcs := HD.out.2.keep hcj (fun _ _ _ => id)
                  have y4 := hcj.cell x4 (fun _ => id)
                  have hcl := (HV.out.2.2.2 f' (List.mem_of_getElem? HF.out.1)).2 x (List.mem_of_getElem? HX.out.2.1)
                  have qw : IntKind.i64.wrap ((j : Int) + 1) = (j : Int) + 1 := IntWalk.i64_in _ ⟨by omega, by omega⟩
                  clear hcl
                  by_cases hjl : j < x.cases.length
                  · have qj2 : (j : Int) < (x.cases.length : Int) := by omega
                    obtain ⟨cb', co, cx, rfl, hcx, _, _, _, _, _, _, c3⟩ := hcs.at_ hjl
                    have hmc := List.mem_of_getElem? hcx
                    obtain ⟨ht0, ht1, _⟩ := step_case HX.out.2.2.2.1 hmc
                    obtain ⟨jt, hjt⟩ : ∃ jt : Nat, cx.to = (jt : Int) := ⟨cx.to.toNat, by omega⟩
                    have htl : jt < L.length := by rw [HF.out.2.2.1]; omega
                    obtain ⟨Jb, jd, n4, kt, _⟩ := HF.out.2.2.2.2.1 jt htl
                    have hLt : L[jt] = [] := by
                      have h := HF.out.2.2.2.1 jt htl
                      rw [List.getElem?_eq_getElem htl] at h
                      exact case_at HF.out.2.1 HX.out.2.1 HX.out.2.2.2.1 hmc (by rw [hjt, Int.toNat_natCast]; exact h)
                    rw [hLt] at kt
                    have kt : wr.cell? ⟨lb, lo + jt, none⟩ = some (.slice Jb 0 jd) := (HD.out.1.trans hcj).cell kt (fun _ => id)
                    rw [hjt] at c3
                    have qt : (jt : Int) < (L.length : Int) := by omega
                    have HJ := Lib.hid hcj
                    clear hjt ht0 ht1 hmc hLt hcs hcx hcj
                    go_wp2_with fail
                    go_roundw
                    case rel => exact ⟨j + 1, hjl, by simp, HJ.out⟩
                    case measure => simp [intOf]; omega
                  · have q6 : decide (j < x.cases.length) = false := decide_eq_false hjl
                    have HJ := Lib.hid (HD.out.1.trans hcj)
                    clear hcs hcj
                    go_wp2_with fail
                    go_roundw
                    case rel => exact ⟨k + 1, hlt, by simp, HJ.out⟩
                    case measure => simp [intOf]; omega
              · have hop : x.op = 33 ∨ x.op = 34 := .inr (by simpa using h34)
                obtain ⟨hj0, hj1⟩ := step_jump HX.out.2.2.2.1 hop
                obtain ⟨ja, hja⟩ : ∃ ja : Nat, x.a = (ja : Int) := ⟨x.a.toNat, by omega⟩
                have hjl : ja < L.length := by rw [HF.out.2.2.1]; omega
                obtain ⟨Ja, jc, n3, kj, _⟩ := HF.out.2.2.2.2.1 ja hjl
                have hLj : L[ja] = [] := by
                  have h := HF.out.2.2.2.1 ja hjl
                  rw [List.getElem?_eq_getElem hjl] at h
                  exact jump_at HF.out.2.1 HX.out.2.1 HX.out.2.2.2.1 hop (by rw [hja, Int.toNat_natCast]; exact h)
                rw [hLj] at kj
                have kj : wd.cell? ⟨lb, lo + ja, none⟩ = some (.slice Ja 0 jc) := HD.out.1.cell kj (fun _ => id)
                rw [hja] at xa
                have qj : (ja : Int) < (L.length : Int) := by omega
                clear hja hj0 hj1 hop hLj
                go_wp2_with fail
                skip
                go_loopw [13] (fun i wr => flRel x.cases.length wd i wr) (fun i _ => x.cases.length - (intOf i).toNat)
                case atStart => exact ⟨0, Nat.zero_le _, rfl, Chg.refl _ _⟩
                case round =>
                  obtain ⟨j, hj, rfl, hcj⟩ := hrel
                  have hcs := HD.out.2.keep hcj (fun _ _ _ => id)
                  have y4 := hcj.cell x4 (fun _ => id)
                  have hcl := (HV.out.2.2.2 f' (List.mem_of_getElem? HF.out.1)).2 x (List.mem_of_getElem? HX.out.2.1)
                  have qw : IntKind.i64.wrap ((j : Int) + 1) = (j : Int) + 1 := IntWalk.i64_in _ ⟨by omega, by omega⟩
                  clear hcl
                  by_cases hjl : j < x.cases.length
                  · have qj2 : (j : Int) < (x.cases.length : Int) := by omega
                    obtain ⟨cb', co, cx, rfl, hcx, _, _, _, _, _, _, c3⟩ := hcs.at_ hjl
                    have hmc := List.mem_of_getElem? hcx
                    obtain ⟨ht0, ht1, _⟩ := step_case HX.out.2.2.2.1 hmc
                    obtain ⟨jt, hjt⟩ : ∃ jt : Nat, cx.to = (jt : Int) := ⟨cx.to.toNat, by omega⟩
                    have htl : jt < L.length := by rw [HF.out.2.2.1]; omega
                    obtain ⟨Jb, jd, n4, kt, _⟩ := HF.out.2.2.2.2.1 jt htl
                    have hLt : L[jt] = [] := by
                      have h := HF.out.2.2.2.1 jt htl
                      rw [List.getElem?_eq_getElem htl] at h
                      exact case_at HF.out.2.1 HX.out.2.1 HX.out.2.2.2.1 hmc (by rw [hjt, Int.toNat_natCast]; exact h)
                    rw [hLt] at kt
                    have kt : wr.cell? ⟨lb, lo + jt, none⟩ = some (.slice Jb 0 jd) := (HD.out.1.trans hcj).cell kt (fun _ => id)
                    rw [hjt] at c3
                    have qt : (jt : Int) < (L.length : Int) := by omega
                    have HJ := Lib.hid hcj
                    clear hjt ht0 ht1 hmc hLt hcs hcx hcj
                    go_wp2_with fail
                    go_roundw
                    case rel => exact ⟨j + 1, hjl, by simp, HJ.out⟩
                    case measure => simp [intOf]; omega
                  · have q6 : decide (j < x.cases.length) = false := decide_eq_false hjl
                    have HJ := Lib.hid (HD.out.1.trans hcj)
                    clear hcs hcj
                    go_wp2_with fail
                    go_roundw
                    case rel => exact ⟨k + 1, hlt, by simp, HJ.out⟩
                    case measure => simp [intOf]; omega
            · have hop : x.op = 33 ∨ x.op = 34 := .inl (by simpa using h33)
              obtain ⟨hj0, hj1⟩ := step_jump HX.out.2.2.2.1 hop
              obtain ⟨ja, hja⟩ : ∃ ja : Nat, x.a = (ja : Int) := ⟨x.a.toNat, by omega⟩
              have hjl : ja < L.length := by rw [HF.out.2.2.1]; omega
              obtain ⟨Ja, jc, n3, kj, _⟩ := HF.out.2.2.2.2.1 ja hjl
              have hLj : L[ja] = [] := by
                have h := HF.out.2.2.2.1 ja hjl
                rw [List.getElem?_eq_getElem hjl] at h
                exact jump_at HF.out.2.1 HX.out.2.1 HX.out.2.2.2.1 hop (by rw [hja, Int.toNat_natCast]; exact h)
              rw [hLj] at kj
              have kj : wd.cell? ⟨lb, lo + ja, none⟩ = some (.slice Ja 0 jc) := HD.out.1.cell kj (fun _ => id)
              rw [hja] at xa
              have qj : (ja : Int) < (L.length : Int) := by omega
              clear hja hj0 hj1 hop hLj
              go_wp2_with fail
              skip
              go_loopw [13] (fun i wr => flRel x.cases.length wd i wr) (fun i _ => x.cases.length - (intOf i).toNat)
              case atStart => exact ⟨0, Nat.zero_le _, rfl, Chg.refl _ _⟩
              case round =>
                obtain ⟨j, hj, rfl, hcj⟩ := hrel
                have hcs := HD.out.2.keep hcj (fun _ _ _ => id)
                have y4 := hcj.cell x4 (fun _ => id)
                have hcl := (HV.out.2.2.2 f' (List.mem_of_getElem? HF.out.1)).2 x (List.mem_of_getElem? HX.out.2.1)
                have qw : IntKind.i64.wrap ((j : Int) + 1) = (j : Int) + 1 := IntWalk.i64_in _ ⟨by omega, by omega⟩
                clear hcl
                by_cases hjl : j < x.cases.length
                · have qj2 : (j : Int) < (x.cases.length : Int) := by omega
                  obtain ⟨cb', co, cx, rfl, hcx, _, _, _, _, _, _, c3⟩ := hcs.at_ hjl
                  have hmc := List.mem_of_getElem? hcx
                  obtain ⟨ht0, ht1, _⟩ := step_case HX.out.2.2.2.1 hmc
                  obtain ⟨jt, hjt⟩ : ∃ jt : Nat, cx.to = (jt : Int) := ⟨cx.to.toNat, by omega⟩
                  have htl : jt < L.length := by rw [HF.out.2.2.1]; omega
                  obtain ⟨Jb, jd, n4, kt, _⟩ := HF.out.2.2.2.2.1 jt htl
                  have hLt : L[jt] = [] := by
                    have h := HF.out.2.2.2.1 jt htl
                    rw [List.getElem?_eq_getElem htl] at h
                    exact case_at HF.out.2.1 HX.out.2.1 HX.out.2.2.2.1 hmc (by rw [hjt, Int.toNat_natCast]; exact h)
                  rw [hLt] at kt
                  have kt : wr.cell? ⟨lb, lo + jt, none⟩ = some (.slice Jb 0 jd) := (HD.out.1.trans hcj).cell kt (fun _ => id)
                  rw [hjt] at c3
                  have qt : (jt : Int) < (L.length : Int) := by omega
                  have HJ := Lib.hid hcj
                  clear hjt ht0 ht1 hmc hLt hcs hcx hcj
                  go_wp2_with fail
                  go_roundw
                  case rel => exact ⟨j + 1, hjl, by simp, HJ.out⟩
                  case measure => simp [intOf]; omega
                · have q6 : decide (j < x.cases.length) = false := decide_eq_false hjl
                  have HJ := Lib.hid (HD.out.1.trans hcj)
                  clear hcs hcj
                  go_wp2_with fail
                  go_roundw
                  case rel => exact ⟨k + 1, hlt, by simp, HJ.out⟩
                  case measure => simp [intOf]; omega
          · have hkn : k + 1 < f'.code.length := by have := of_decide_eq_true hn; omega
            obtain ⟨Bi, di, n2, kn, kr⟩ := HF.out.2.2.2.2.1 (k + 1) (by rw [HF.out.2.2.1]; exact hkn)
            have hLn : L[k + 1]'(by rw [HF.out.2.2.1]; exact hkn) = s.stack := by
              have h := HF.out.2.2.2.1 (k + 1) (by rw [HF.out.2.2.1]; exact hkn)
              rw [at_next HX.out.2.1 HX.out.2.2.1 HX.out.2.2.2.1, List.getElem?_eq_getElem (by rw [HF.out.2.2.1]; exact hkn)] at h
              injection h with h
              exact h.symm
            rw [hLn] at kn kr
            have kn := H6.out.1.cell kn (fun _ => id)
            have q8 : (k : Int) + 1 < (L.length : Int) := by rw [HF.out.2.2.1]; omega
            have q9 : (0 : Int) ≤ (k : Int) + 1 := by omega
            have HK := Lib.hid (kr.keep1 H6.out.1 (fun _ _ => id) fun _ _ h => h)
            have hci := SlR.len HY.out.2.2.2.2
            have hsh := fun W => slice_h W Ai st.length ci pre.length (by have := HY.out.2.2.1; omega)
            have HN := Lib.hid hn
            clear kr hkn hci hLn
            refine wp_region_G (S := (fun w' => Chg (fun _ _ => False) w6 w')) 23 (by kernel_rfl) (Chg.refl _ _).drew (fun hHeld => ?_)
            refine wpAnyG_take (i := 0) (v := ?va24) rfl (by kernel_rfl) (fun _ _ _ h => h) (Or.inl ⟨by kernel_rfl, ?hy24⟩) (by assumption) ?ra24
            case hy24 => (intro w hSw; (try dsimp only at hSw); have k1 := hSw.cell k1 (fun _ => id); have kn := hSw.cell kn (fun _ => id); clear hSw; go_simp; all_goals (with_reducible rfl))
            simp only [Act.put, List.setIfInBounds_toArray, List.set_cons_zero, List.set_cons_succ]
            refine wpAnyG_take (i := 1) (v := ?va25) rfl (by kernel_rfl) (fun _ _ _ h => h) (Or.inl ⟨by kernel_rfl, ?hy25⟩) (by assumption) ?ra25
            case hy25 => (intro w hSw; (try dsimp only at hSw); have k1 := hSw.cell k1 (fun _ => id); have kn := hSw.cell kn (fun _ => id); clear hSw; go_simp; all_goals (with_reducible rfl))
            simp only [Act.put, List.setIfInBounds_toArray, List.set_cons_zero, List.set_cons_succ]
            refine wpAnyG_take (i := 2) (v := ?va26) rfl (by kernel_rfl) (fun _ _ _ h => h) (Or.inl ⟨by kernel_rfl, ?hy26⟩) (by assumption) ?ra26
            case hy26 => (intro w hSw; (try dsimp only at hSw); have k1 := hSw.cell k1 (fun _ => id); have kn := hSw.cell kn (fun _ => id); clear hSw; go_simp; all_goals (with_reducible rfl))
            simp only [Act.put, List.setIfInBounds_toArray, List.set_cons_zero, List.set_cons_succ]
            refine wpAnyG_take (i := 3) (v := ?va27) rfl (by kernel_rfl) (fun _ _ _ h => h) (Or.inl ⟨by kernel_rfl, ?hy27⟩) (by assumption) ?ra27
            case hy27 => (intro w hSw; (try dsimp only at hSw); have k1 := hSw.cell k1 (fun _ => id); have kn := hSw.cell kn (fun _ => id); clear hSw; go_simp; all_goals (with_reducible rfl))
            simp only [Act.put, List.setIfInBounds_toArray, List.set_cons_zero, List.set_cons_succ]
            refine wpAnyG_take (i := 4) (v := ?va28) rfl (by kernel_rfl) (fun _ _ _ h => h) (Or.inl ⟨by kernel_rfl, ?hy28⟩) (by assumption) ?ra28
            case hy28 => (intro w hSw; (try dsimp only at hSw); have k1 := hSw.cell k1 (fun _ => id); have kn := hSw.cell kn (fun _ => id); clear hSw; go_simp; all_goals (with_reducible rfl))
            simp only [Act.put, List.setIfInBounds_toArray, List.set_cons_zero, List.set_cons_succ]
            refine wpAnyG_take (i := 5) (v := ?va29) rfl (by kernel_rfl) (fun _ _ _ h => h) (Or.inl ⟨by kernel_rfl, ?hy29⟩) (by assumption) ?ra29
            case hy29 => (intro w hSw; (try dsimp only at hSw); have k1 := hSw.cell k1 (fun _ => id); have kn := hSw.cell kn (fun _ => id); clear hSw; go_simp; all_goals (with_reducible rfl))
            simp only [Act.put, List.setIfInBounds_toArray, List.set_cons_zero, List.set_cons_succ]
            refine wpAnyG_take (i := 6) (v := ?va30) rfl (by kernel_rfl) (fun _ _ _ h => h) (Or.inl ⟨by kernel_rfl, ?hy30⟩) (by assumption) ?ra30
            case hy30 => (intro w hSw; (try dsimp only at hSw); have k1 := hSw.cell k1 (fun _ => id); have kn := hSw.cell kn (fun _ => id); clear hSw; go_simp; all_goals (with_reducible rfl))
            simp only [Act.put, List.setIfInBounds_toArray, List.set_cons_zero, List.set_cons_succ]
            refine wpAnyG_take (i := 7) (v := ?va31) rfl (by kernel_rfl) (fun _ _ _ h => h) (Or.inl ⟨by kernel_rfl, ?hy31⟩) (by assumption) ?ra31
            case hy31 => (intro w hSw; (try dsimp only at hSw); have k1 := hSw.cell k1 (fun _ => id); have kn := hSw.cell kn (fun _ => id); clear hSw; go_simp; all_goals (with_reducible rfl))
            simp only [Act.put, List.setIfInBounds_toArray, List.set_cons_zero, List.set_cons_succ]
            refine wpAnyG_take (i := 8) (v := ?va32) rfl (by kernel_rfl) (fun _ _ _ h => h) (Or.inl ⟨by kernel_rfl, ?hy32⟩) (by assumption) ?ra32
            case hy32 => (intro w hSw; (try dsimp only at hSw); have k1 := hSw.cell k1 (fun _ => id); have kn := hSw.cell kn (fun _ => id); clear hSw; go_simp; all_goals (with_reducible rfl))
            simp only [Act.put, List.setIfInBounds_toArray, List.set_cons_zero, List.set_cons_succ]
            refine wpAnyG_take (i := 9) (v := ?va33) rfl (by kernel_rfl) (fun _ _ _ h => h) (Or.inl ⟨by kernel_rfl, ?hy33⟩) (by assumption) ?ra33
            case hy33 => (intro w hSw; (try dsimp only at hSw); have k1 := hSw.cell k1 (fun _ => id); have kn := hSw.cell kn (fun _ => id); clear hSw; go_simp; all_goals (with_reducible rfl))
            simp only [Act.put, List.setIfInBounds_toArray, List.set_cons_zero, List.set_cons_succ]
            refine wpAnyG_take (i := 10) (v := ?va34) rfl (by kernel_rfl) (fun _ _ _ h => h) (Or.inl ⟨by kernel_rfl, ?hy34⟩) (by assumption) ?ra34
            case hy34 => (intro w hSw; (try dsimp only at hSw); have k1 := hSw.cell k1 (fun _ => id); have kn := hSw.cell kn (fun _ => id); clear hSw; go_simp; all_goals (with_reducible rfl))
            simp only [Act.put, List.setIfInBounds_toArray, List.set_cons_zero, List.set_cons_succ]
            refine wpAnyG_take (i := 12) (v := ?va35) rfl (by kernel_rfl) (fun _ _ _ h => h) (Or.inl ⟨by kernel_rfl, ?hy35⟩) (by assumption) ?ra35
            case hy35 => (intro w hSw; (try dsimp only at hSw); have k1 := hSw.cell k1 (fun _ => id); have kn := hSw.cell kn (fun _ => id); clear hSw; go_simp; all_goals (with_reducible rfl))
            simp only [Act.put, List.setIfInBounds_toArray, List.set_cons_zero, List.set_cons_succ]
            refine wpAnyG_take (i := 13) (v := ?va36) rfl (by kernel_rfl) (fun _ _ _ h => h) (Or.inl ⟨by kernel_rfl, ?hy36⟩) (by assumption) ?ra36
            case hy36 => (intro w hSw; (try dsimp only at hSw); have k1 := hSw.cell k1 (fun _ => id); have kn := hSw.cell kn (fun _ => id); clear hSw; go_simp; all_goals (with_reducible rfl))
            simp only [Act.put, List.setIfInBounds_toArray, List.set_cons_zero, List.set_cons_succ]
            refine wpAnyG_take (i := 14) (v := ?va37) rfl (by kernel_rfl) (fun _ _ _ h => h) (Or.inl ⟨by kernel_rfl, ?hy37⟩) (by assumption) ?ra37
            case hy37 => (intro w hSw; (try dsimp only at hSw); have k1 := hSw.cell k1 (fun _ => id); have kn := hSw.cell kn (fun _ => id); clear hSw; go_simp; all_goals (with_reducible rfl))
            simp only [Act.put, List.setIfInBounds_toArray, List.set_cons_zero, List.set_cons_succ]
            refine wpAnyG_take (i := 15) (v := ?va38) rfl (by kernel_rfl) (fun _ _ _ h => h) (Or.inl ⟨by kernel_rfl, ?hy38⟩) (by assumption) ?ra38
            case hy38 => (intro w hSw; (try dsimp only at hSw); have k1 := hSw.cell k1 (fun _ => id); have kn := hSw.cell kn (fun _ => id); clear hSw; go_simp; all_goals (with_reducible rfl))
            simp only [Act.put, List.setIfInBounds_toArray, List.set_cons_zero, List.set_cons_succ]
            refine wpAnyG_take (i := 16) (v := ?va39) rfl (by kernel_rfl) (fun _ _ _ h => h) (Or.inl ⟨by kernel_rfl, ?hy39⟩) (by assumption) ?ra39
            case hy39 => (intro w hSw; (try dsimp only at hSw); have k1 := hSw.cell k1 (fun _ => id); have kn := hSw.cell kn (fun _ => id); clear hSw; go_simp; all_goals (with_reducible rfl))
            simp only [Act.put, List.setIfInBounds_toArray, List.set_cons_zero, List.set_cons_succ]
            refine wpAnyG_take (i := 17) (v := ?va40) rfl (by kernel_rfl) (fun _ _ _ h => h) (Or.inl ⟨by kernel_rfl, ?hy40⟩) (by assumption) ?ra40
            case hy40 => (intro w hSw; (try dsimp only at hSw); have k1 := hSw.cell k1 (fun _ => id); have kn := hSw.cell kn (fun _ => id); clear hSw; go_simp; all_goals (with_reducible rfl))
            simp only [Act.put, List.setIfInBounds_toArray, List.set_cons_zero, List.set_cons_succ]
            refine wpAnyG_take (i := 19) (v := ?va41) rfl (by kernel_rfl) (fun _ _ _ h => h) (Or.inl ⟨by kernel_rfl, ?hy41⟩) (by assumption) ?ra41
            case hy41 => (intro w hSw; (try dsimp only at hSw); have k1 := hSw.cell k1 (fun _ => id); have kn := hSw.cell kn (fun _ => id); clear hSw; go_simp; all_goals (with_reducible rfl))
            simp only [Act.put, List.setIfInBounds_toArray, List.set_cons_zero, List.set_cons_succ]
            refine wpAnyG_ready (rs := [11]) (by kernel_rfl) (by simp) ?_
            refine AllReadyG.cons rfl (fun K hK => ?_) AllReadyG.nil
            go_simp
            refine hK.out _ _ (hHeld.alloc _) (fun hHeld => ?_)
            clear hK K
            try simp only [Act.put, List.setIfInBounds_toArray, List.set_cons_zero, List.set_cons_succ]
            have hc67 := ((Chg.refl (fun _ _ => False) w6).alloc (.cells #[] 3)).drew
            have hb7 : Blk (w6.alloc (.cells #[] 3)).drew w6.heap.size 3 #[] := Blk.new w6 3 #[]
            have hs7 : (w6.alloc (.cells #[] 3)).drew.heap.size = w6.heap.size + 1 := World.size_alloc ..
            generalize (w6.alloc (.cells #[] 3)).drew = w7 at *
            have hown0 : w7.ownsRow w6.heap.size 3 1 (.slice (some ⟨w6.heap.size, 0, none⟩) 0 0) 0 [] := ⟨by simp, .inr ⟨w6.heap.size, 0, #[], rfl, Nat.le_refl _, hb7, Nat.le_refl _, Nat.zero_le _, by simp, by simp⟩⟩
            have hrd := ints_reads ((HY.out.2.2.2.2.keep H6.out.2 (fun _ _ _ => id)).keep hc67 (fun _ _ _ => id)) (k := pre.length) (by have := HY.out.2.2.1; omega)
            have hpt : st.take pre.length = pre := by rw [HX.out.2.2.2.2.1]; simp
            rw [hpt] at hrd
            have hpl : pre.length ≤ 64 := by have := HY.out.2.2.1; have := HY.out.2.2.2.1; omega
            obtain ⟨i0, hi0, hz0, hs0, hb0⟩ := info_parts infoInt
            refine wpAnyG_ready (rs := [18]) (by kernel_rfl) (by simp) ?_
            refine AllReadyG.cons rfl (fun K hK => ?_) AllReadyG.nil
            refine step_append_g (P := Try.prog) w7 (by simp [Region.wanted, yielded]) (.tmp 97) (.tmp 103) 31 rfl w6.heap.size 3 i0 _ 1 8 Try.underlying31 hi0 hz0 hs0 hb0 rfl (by omega) (.slice (some ⟨w6.heap.size, 0, none⟩) 0 0) 0 [] (by simp [Act.eval]) hown0 w7.heap.size Ai pre.length ci (pre.map (Value.int .i64)) (by simp [Act.eval]) hrd (fun u hu => by obtain ⟨x, _, rfl⟩ := List.mem_map.1 hu; rfl) (by simp only [maxLen]; omega) (by omega) (by omega) fun v8 w8 j1 j2 j3 => ?_
            rw [Nat.zero_add, List.nil_append] at j1
            obtain ⟨A8, c8, rfl⟩ := own_form j1
            have hH8 : Chg (fun _ _ => False) w6 w8 := hHeld.grown j2 fun g' o hg ho => by
              have h1 : w6.heap.size = g' := by simpa [Value.ownBlock] using hg
              have h2 := (Array.getElem?_eq_some_iff.1 ho).1
              omega
            have hs8 : w7.heap.size ≤ w8.heap.size := ((Chg.refl (fun _ _ => True) w7).grown j2 fun _ _ _ _ => trivial).size
            refine hK.out _ _ hH8 (fun hHeld => ?_)
            clear hK K hrd hown0
            try simp only [Act.put, List.setIfInBounds_toArray, List.set_cons_zero, List.set_cons_succ]
            have hrd := ints_reads (row_ints (HY.out.2.1.keep1 (H6.out.2.trans hH8) (fun _ _ => id) fun _ _ h => h)) (k := s.left.length) (Nat.le_refl _)
            rw [List.take_length] at hrd
            have hll : s.left.length ≤ 64 := by
              rcases HX.out.2.2.2.2.2.2.1 with h | h
              · rw [h]; simp
              · omega
            refine wpAnyG_ready (rs := [20]) (by kernel_rfl) (by simp) ?_
            refine AllReadyG.cons rfl (fun K hK => ?_) AllReadyG.nil
            refine step_append_g (P := Try.prog) w8 (by simp [Region.wanted, yielded]) (.tmp 104) (.tmp 105) 31 rfl w6.heap.size 3 i0 _ 1 8 Try.underlying31 hi0 hz0 hs0 hb0 rfl (by omega) (.slice A8 pre.length c8) pre.length (pre.map (Value.int .i64)) (by simp [Act.eval]) j1 w8.heap.size Ab s.left.length cb (s.left.map (Value.int .i64)) (by simp [Act.eval]) hrd (fun u hu => by obtain ⟨x, _, rfl⟩ := List.mem_map.1 hu; rfl) (by simp only [maxLen]; omega) (by omega) (by omega) fun v9 w9 l1 l2 l3 => ?_
            obtain ⟨A9, c9, rfl⟩ := own_form l1
            have hH9 : Chg (fun _ _ => False) w6 w9 := hHeld.grown l2 fun g' o hg ho => by
              have h2 := (Array.getElem?_eq_some_iff.1 ho).1
              rcases j3 with h | h
              · rw [h] at hg
                have h1 : w6.heap.size = g' := by simpa [Value.ownBlock] using hg
                omega
              · rw [h] at hg
                injection hg with hg
                omega
            have hr9 : RowR w6.heap.size 3 1 IntV w9 A9 c9 s.stack := by
              refine rowV.2 ⟨?_, fun x hx => ?_⟩
              · rw [HX.out.2.2.2.2.2.1, List.length_append, List.map_append]
                exact l1
              · exact (rowV.1 HK.out).2 x hx
            have hst9 : s.stack.length = pre.length + s.left.length := by rw [HX.out.2.2.2.2.2.1, List.length_append]
            have hsm2 := rInts_any w9 w9.heap.size Bi A9 s.stack.length di s.stack.length c9 s.stack s.stack (row_ints (HK.out.keep1 hH9 (fun _ _ => id) fun _ _ h => h)) (row_ints hr9) (by omega) (by omega)
            rw [same_self, show (Value.slice A9 s.stack.length c9) = .slice A9 (pre.length + s.left.length) c9 by rw [hst9]] at hsm2
            refine hK.out _ _ hH9 (fun hHeld => ?_)
            clear hK K hrd hst9 hr9 l1 l2 l3 j1 j2 j3 hpt hpl hll hs8 hs7 hb7 hc67
            try simp only [Act.put, List.setIfInBounds_toArray, List.set_cons_zero, List.set_cons_succ]
            refine wpAnyG_ready (rs := [21]) (by kernel_rfl) (by simp) ?_
            refine AllReadyG.cons rfl (fun K hK => ?_) AllReadyG.nil
            go_simp
            go_at_call 15
            refine hsm2.mono ?_
            rintro e wA ⟨rfl, qm, rfl⟩
            refine hK.out _ _ (hHeld.trans (chg_drewN w9 qm)) (fun hHeld => ?_)
            clear hK K hsm2
            try simp only [Act.put, List.setIfInBounds_toArray, List.set_cons_zero, List.set_cons_succ]
            refine wpAnyG_take (i := 22) (v := ?va42) rfl (by kernel_rfl) (fun _ _ _ h => h) (Or.inl ⟨by kernel_rfl, ?hy42⟩) (by assumption) ?ra42
            case hy42 => (intro w hSw; (try dsimp only at hSw); skip; clear hSw; go_simp; all_goals (with_reducible rfl))
            simp only [Act.put, List.setIfInBounds_toArray, List.set_cons_zero, List.set_cons_succ]
            refine wpAnyG_last rfl (by kernel_rfl) (by kernel_rfl) (fun K hK => ?_)
            go_simp
            refine hK.out _ _ ?_
            clear hK K
            try simp only [Act.put, List.setIfInBounds_toArray, List.set_cons_zero, List.set_cons_succ]
            have hcd := H6.out.1.trans hHeld
            have hcode := HF.out.2.2.2.2.2.1.keep hcd (fun _ _ _ => id)
            have k1 := hHeld.cell k1 (fun _ => id)
            clear hHeld
            generalize w9.drewN qm = wd at hcd hcode k1 ⊢
            obtain ⟨xb, xo, x', X1, xc, rfl, hx', _, _, _, _, hcs, x0, xa, _, _, x4⟩ := hcode.at_ hlt
            obtain rfl : x = x' := by rw [HX.out.2.1] at hx'; injection hx'
            have HD := Lib.hid (And.intro hcd hcs)
            clear hcd hcode hcs hx'
            cases h33 : (x.op == 33)
            · cases h34 : (x.op == 34)
              · go_wp2_with fail
                skip
                go_loopw [13] (fun i wr => flRel x.cases.length wd i wr) (fun i _ => x.cases.length - (intOf i).toNat)
                case atStart => exact ⟨0, Nat.zero_le _, rfl, Chg.refl _ _⟩
                case round =>
                  obtain ⟨j, hj, rfl, hcj⟩ := hrel
                  have hcs := HD.out.2.keep hcj (fun _ _ _ => id)
                  have y4 := hcj.cell x4 (fun _ => id)
                  have hcl := (HV.out.2.2.2 f' (List.mem_of_getElem? HF.out.1)).2 x (List.mem_of_getElem? HX.out.2.1)
                  have qw : IntKind.i64.wrap ((j : Int) + 1) = (j : Int) + 1 := IntWalk.i64_in _ ⟨by omega, by omega⟩
                  clear hcl
                  by_cases hjl : j < x.cases.length
                  · have qj2 : (j : Int) < (x.cases.length : Int) := by omega
                    obtain ⟨cb', co, cx, rfl, hcx, _, _, _, _, _, _, c3⟩ := hcs.at_ hjl
                    have hmc := List.mem_of_getElem? hcx
                    obtain ⟨ht0, ht1, _⟩ := step_case HX.out.2.2.2.1 hmc
                    obtain ⟨jt, hjt⟩ : ∃ jt : Nat, cx.to = (jt : Int) := ⟨cx.to.toNat, by omega⟩
                    have htl : jt < L.length := by rw [HF.out.2.2.1]; omega
                    obtain ⟨Jb, jd, n4, kt, _⟩ := HF.out.2.2.2.2.1 jt htl
                    have hLt : L[jt] = [] := by
                      have h := HF.out.2.2.2.1 jt htl
                      rw [List.getElem?_eq_getElem htl] at h
                      exact case_at HF.out.2.1 HX.out.2.1 HX.out.2.2.2.1 hmc (by rw [hjt, Int.toNat_natCast]; exact h)
                    rw [hLt] at kt
                    have kt : wr.cell? ⟨lb, lo + jt, none⟩ = some (.slice Jb 0 jd) := (HD.out.1.trans hcj).cell kt (fun _ => id)
                    rw [hjt] at c3
                    have qt : (jt : Int) < (L.length : Int) := by omega
                    have HJ := Lib.hid hcj
                    clear hjt ht0 ht1 hmc hLt hcs hcx hcj
                    go_wp2_with fail
                    go_roundw
                    case rel => exact ⟨j + 1, hjl, by simp, HJ.out⟩
                    case measure => simp [intOf]; omega
                  · have q6 : decide (j < x.cases.length) = false := decide_eq_false hjl
                    have HJ := Lib.hid (HD.out.1.trans hcj)
                    clear hcs hcj
                    go_wp2_with fail
                    go_roundw
                    case rel => exact ⟨k + 1, hlt, by simp, HJ.out⟩
                    case measure => simp [intOf]; omega
              · have hop : x.op = 33 ∨ x.op = 34 := .inr (by simpa using h34)
                obtain ⟨hj0, hj1⟩ := step_jump HX.out.2.2.2.1 hop
                obtain ⟨ja, hja⟩ : ∃ ja : Nat, x.a = (ja : Int) := ⟨x.a.toNat, by omega⟩
                have hjl : ja < L.length := by rw [HF.out.2.2.1]; omega
                obtain ⟨Ja, jc, n3, kj, _⟩ := HF.out.2.2.2.2.1 ja hjl
                have hLj : L[ja] = [] := by
                  have h := HF.out.2.2.2.1 ja hjl
                  rw [List.getElem?_eq_getElem hjl] at h
                  exact jump_at HF.out.2.1 HX.out.2.1 HX.out.2.2.2.1 hop (by rw [hja, Int.toNat_natCast]; exact h)
                rw [hLj] at kj
                have kj : wd.cell? ⟨lb, lo + ja, none⟩ = some (.slice Ja 0 jc) := HD.out.1.cell kj (fun _ => id)
                rw [hja] at xa
                have qj : (ja : Int) < (L.length : Int) := by omega
                clear hja hj0 hj1 hop hLj
                go_wp2_with fail
                skip
                go_loopw [13] (fun i wr => flRel x.cases.length wd i wr) (fun i _ => x.cases.length - (intOf i).toNat)
                case atStart => exact ⟨0, Nat.zero_le _, rfl, Chg.refl _ _⟩
                case round =>
                  obtain ⟨j, hj, rfl, hcj⟩ := hrel
                  have hcs := HD.out.2.keep hcj (fun _ _ _ => id)
                  have y4 := hcj.cell x4 (fun _ => id)
                  have hcl := (HV.out.2.2.2 f' (List.mem_of_getElem? HF.out.1)).2 x (List.mem_of_getElem? HX.out.2.1)
                  have qw : IntKind.i64.wrap ((j : Int) + 1) = (j : Int) + 1 := IntWalk.i64_in _ ⟨by omega, by omega⟩
                  clear hcl
                  by_cases hjl : j < x.cases.length
                  · have qj2 : (j : Int) < (x.cases.length : Int) := by omega
                    obtain ⟨cb', co, cx, rfl, hcx, _, _, _, _, _, _, c3⟩ := hcs.at_ hjl
                    have hmc := List.mem_of_getElem? hcx
                    obtain ⟨ht0, ht1, _⟩ := step_case HX.out.2.2.2.1 hmc
                    obtain ⟨jt, hjt⟩ : ∃ jt : Nat, cx.to = (jt : Int) := ⟨cx.to.toNat, by omega⟩
                    have htl : jt < L.length := by rw [HF.out.2.2.1]; omega
                    obtain ⟨Jb, jd, n4, kt, _⟩ := HF.out.2.2.2.2.1 jt htl
                    have hLt : L[jt] = [] := by
                      have h := HF.out.2.2.2.1 jt htl
                      rw [List.getElem?_eq_getElem htl] at h
                      exact case_at HF.out.2.1 HX.out.2.1 HX.out.2.2.2.1 hmc (by rw [hjt, Int.toNat_natCast]; exact h)
                    rw [hLt] at kt
                    have kt : wr.cell? ⟨lb, lo + jt, none⟩ = some (.slice Jb 0 jd) := (HD.out.1.trans hcj).cell kt (fun _ => id)
                    rw [hjt] at c3
                    have qt : (jt : Int) < (L.length : Int) := by omega
                    have HJ := Lib.hid hcj
                    clear hjt ht0 ht1 hmc hLt hcs hcx hcj
                    go_wp2_with fail
                    go_roundw
                    case rel => exact ⟨j + 1, hjl, by simp, HJ.out⟩
                    case measure => simp [intOf]; omega
                  · have q6 : decide (j < x.cases.length) = false := decide_eq_false hjl
                    have HJ := Lib.hid (HD.out.1.trans hcj)
                    clear hcs hcj
                    go_wp2_with fail
                    go_roundw
                    case rel => exact ⟨k + 1, hlt, by simp, HJ.out⟩
                    case measure => simp [intOf]; omega
            · have hop : x.op = 33 ∨ x.op = 34 := .inl (by simpa using h33)
              obtain ⟨hj0, hj1⟩ := step_jump HX.out.2.2.2.1 hop
              obtain ⟨ja, hja⟩ : ∃ ja : Nat, x.a = (ja : Int) := ⟨x.a.toNat, by omega⟩
              have hjl : ja < L.length := by rw [HF.out.2.2.1]; omega
              obtain ⟨Ja, jc, n3, kj, _⟩ := HF.out.2.2.2.2.1 ja hjl
              have hLj : L[ja] = [] := by
                have h := HF.out.2.2.2.1 ja hjl
                rw [List.getElem?_eq_getElem hjl] at h
                exact jump_at HF.out.2.1 HX.out.2.1 HX.out.2.2.2.1 hop (by rw [hja, Int.toNat_natCast]; exact h)
              rw [hLj] at kj
              have kj : wd.cell? ⟨lb, lo + ja, none⟩ = some (.slice Ja 0 jc) := HD.out.1.cell kj (fun _ => id)
              rw [hja] at xa
              have qj : (ja : Int) < (L.length : Int) := by omega
              clear hja hj0 hj1 hop hLj
              go_wp2_with fail
              skip
              go_loopw [13] (fun i wr => flRel x.cases.length wd i wr) (fun i _ => x.cases.length - (intOf i).toNat)
              case atStart => exact ⟨0, Nat.zero_le _, rfl, Chg.refl _ _⟩
              case round =>
                obtain ⟨j, hj, rfl, hcj⟩ := hrel
                have hcs := HD.out.2.keep hcj (fun _ _ _ => id)
                have y4 := hcj.cell x4 (fun _ => id)
                have hcl := (HV.out.2.2.2 f' (List.mem_of_getElem? HF.out.1)).2 x (List.mem_of_getElem? HX.out.2.1)
                have qw : IntKind.i64.wrap ((j : Int) + 1) = (j : Int) + 1 := IntWalk.i64_in _ ⟨by omega, by omega⟩
                clear hcl
                by_cases hjl : j < x.cases.length
                · have qj2 : (j : Int) < (x.cases.length : Int) := by omega
                  obtain ⟨cb', co, cx, rfl, hcx, _, _, _, _, _, _, c3⟩ := hcs.at_ hjl
                  have hmc := List.mem_of_getElem? hcx
                  obtain ⟨ht0, ht1, _⟩ := step_case HX.out.2.2.2.1 hmc
                  obtain ⟨jt, hjt⟩ : ∃ jt : Nat, cx.to = (jt : Int) := ⟨cx.to.toNat, by omega⟩
                  have htl : jt < L.length := by rw [HF.out.2.2.1]; omega
                  obtain ⟨Jb, jd, n4, kt, _⟩ := HF.out.2.2.2.2.1 jt htl
                  have hLt : L[jt] = [] := by
                    have h := HF.out.2.2.2.1 jt htl
                    rw [List.getElem?_eq_getElem htl] at h
                    exact case_at HF.out.2.1 HX.out.2.1 HX.out.2.2.2.1 hmc (by rw [hjt, Int.toNat_natCast]; exact h)
                  rw [hLt] at kt
                  have kt : wr.cell? ⟨lb, lo + jt, none⟩ = some (.slice Jb 0 jd) := (HD.out.1.trans hcj).cell kt (fun _ => id)
                  rw [hjt] at c3
                  have qt : (jt : Int) < (L.length : Int) := by omega
                  have HJ := Lib.hid hcj
                  clear hjt ht0 ht1 hmc hLt hcs hcx hcj
                  go_wp2_with fail
                  go_roundw
                  case rel => exact ⟨j + 1, hjl, by simp, HJ.out⟩
                  case measure => simp [intOf]; omega
                · have q6 : decide (j < x.cases.length) = false := decide_eq_false hjl
                  have HJ := Lib.hid (HD.out.1.trans hcj)
                  clear hcs hcj
                  go_wp2_with fail
                  go_roundw
                  case rel => exact ⟨k + 1, hlt, by simp, HJ.out⟩
                  case measure => simp [intOf]; omega
        · have hst0 : st.length = 0 := by
            have hk1 : k = 0 := by simpa using hk0
            have h := HX.out.2.2.1
            rw [hk1] at h
            cases h
            rfl
          have q7 : decide (0 < st.length) = false := decide_eq_false (by omega)
          clear hst0
          go_wp2_with fail
          refine hsm.mono fun e w6 h => ?_
          obtain ⟨rfl, qn, rfl⟩ := h
          have hc56 := chg_drewN w5 qn
          have k1 := hc56.cell k1 (fun _ => id)
          clear hsm hsl
          go_wp2_with fail
          generalize w5.drewN qn = w6 at *
          have hc6 := HY.out.1.trans hc56
          have H6 := Lib.hid (And.intro hc6 hc56)
          clear hc6 hc56
          cases hn : decide ((k : Int) + 1 < (f'.code.length : Int))
          · have HN := Lib.hid hn
            refine wp_region_G (S := (fun w' => Chg (fun _ _ => False) w6 w')) 23 (by kernel_rfl) (Chg.refl _ _).drew (fun hHeld => ?_)
            refine wpAnyG_take (i := 0) (v := ?va43) rfl (by kernel_rfl) (fun _ _ _ h => h) (Or.inl ⟨by kernel_rfl, ?hy43⟩) (by assumption) ?ra43
            case hy43 => (intro w hSw; (try dsimp only at hSw); skip; clear hSw; go_simp; all_goals (with_reducible rfl))
            simp only [Act.put, List.setIfInBounds_toArray, List.set_cons_zero, List.set_cons_succ]
            refine wpAnyG_take (i := 1) (v := ?va44) rfl (by kernel_rfl) (fun _ _ _ h => h) (Or.inl ⟨by kernel_rfl, ?hy44⟩) (by assumption) ?ra44
            case hy44 => (intro w hSw; (try dsimp only at hSw); skip; clear hSw; go_simp; all_goals (with_reducible rfl))
            simp only [Act.put, List.setIfInBounds_toArray, List.set_cons_zero, List.set_cons_succ]
            refine wpAnyG_take (i := 2) (v := ?va45) rfl (by kernel_rfl) (fun _ _ _ h => h) (Or.inl ⟨by kernel_rfl, ?hy45⟩) (by assumption) ?ra45
            case hy45 => (intro w hSw; (try dsimp only at hSw); skip; clear hSw; go_simp; all_goals (with_reducible rfl))
            simp only [Act.put, List.setIfInBounds_toArray, List.set_cons_zero, List.set_cons_succ]
            refine wpAnyG_take (i := 3) (v := ?va46) rfl (by kernel_rfl) (fun _ _ _ h => h) (Or.inl ⟨by kernel_rfl, ?hy46⟩) (by assumption) ?ra46
            case hy46 => (intro w hSw; (try dsimp only at hSw); skip; clear hSw; go_simp; all_goals (with_reducible rfl))
            simp only [Act.put, List.setIfInBounds_toArray, List.set_cons_zero, List.set_cons_succ]
            refine wpAnyG_take (i := 4) (v := ?va47) rfl (by kernel_rfl) (fun _ _ _ h => h) (Or.inl ⟨by kernel_rfl, ?hy47⟩) (by assumption) ?ra47
            case hy47 => (intro w hSw; (try dsimp only at hSw); skip; clear hSw; go_simp; all_goals (with_reducible rfl))
            simp only [Act.put, List.setIfInBounds_toArray, List.set_cons_zero, List.set_cons_succ]
            refine wpAnyG_take (i := 5) (v := ?va48) rfl (by kernel_rfl) (fun _ _ _ h => h) (Or.inl ⟨by kernel_rfl, ?hy48⟩) (by assumption) ?ra48
            case hy48 => (intro w hSw; (try dsimp only at hSw); skip; clear hSw; go_simp; all_goals (with_reducible rfl))
            simp only [Act.put, List.setIfInBounds_toArray, List.set_cons_zero, List.set_cons_succ]
            refine wpAnyG_take (i := 6) (v := undef) rfl (by kernel_rfl) (fun _ _ _ h => h) (Or.inr ⟨by kernel_rfl, rfl⟩) (by assumption) ?ra49
            simp only [Act.put, List.setIfInBounds_toArray, List.set_cons_zero, List.set_cons_succ]
            refine wpAnyG_take (i := 7) (v := undef) rfl (by kernel_rfl) (fun _ _ _ h => h) (Or.inr ⟨by kernel_rfl, rfl⟩) (by assumption) ?ra50
            simp only [Act.put, List.setIfInBounds_toArray, List.set_cons_zero, List.set_cons_succ]
            refine wpAnyG_take (i := 8) (v := undef) rfl (by kernel_rfl) (fun _ _ _ h => h) (Or.inr ⟨by kernel_rfl, rfl⟩) (by assumption) ?ra51
            simp only [Act.put, List.setIfInBounds_toArray, List.set_cons_zero, List.set_cons_succ]
            refine wpAnyG_take (i := 9) (v := undef) rfl (by kernel_rfl) (fun _ _ _ h => h) (Or.inr ⟨by kernel_rfl, rfl⟩) (by assumption) ?ra52
            simp only [Act.put, List.setIfInBounds_toArray, List.set_cons_zero, List.set_cons_succ]
            refine wpAnyG_take (i := 10) (v := undef) rfl (by kernel_rfl) (fun _ _ _ h => h) (Or.inr ⟨by kernel_rfl, rfl⟩) (by assumption) ?ra53
            simp only [Act.put, List.setIfInBounds_toArray, List.set_cons_zero, List.set_cons_succ]
            refine wpAnyG_take (i := 11) (v := undef) rfl (by kernel_rfl) (fun _ _ _ h => h) (Or.inr ⟨by kernel_rfl, rfl⟩) (by assumption) ?ra54
            simp only [Act.put, List.setIfInBounds_toArray, List.set_cons_zero, List.set_cons_succ]
            refine wpAnyG_take (i := 12) (v := undef) rfl (by kernel_rfl) (fun _ _ _ h => h) (Or.inr ⟨by kernel_rfl, rfl⟩) (by assumption) ?ra55
            simp only [Act.put, List.setIfInBounds_toArray, List.set_cons_zero, List.set_cons_succ]
            refine wpAnyG_take (i := 13) (v := undef) rfl (by kernel_rfl) (fun _ _ _ h => h) (Or.inr ⟨by kernel_rfl, rfl⟩) (by assumption) ?ra56
            simp only [Act.put, List.setIfInBounds_toArray, List.set_cons_zero, List.set_cons_succ]
            refine wpAnyG_take (i := 14) (v := undef) rfl (by kernel_rfl) (fun _ _ _ h => h) (Or.inr ⟨by kernel_rfl, rfl⟩) (by assumption) ?ra57
            simp only [Act.put, List.setIfInBounds_toArray, List.set_cons_zero, List.set_cons_succ]
            refine wpAnyG_take (i := 15) (v := undef) rfl (by kernel_rfl) (fun _ _ _ h => h) (Or.inr ⟨by kernel_rfl, rfl⟩) (by assumption) ?ra58
            simp only [Act.put, List.setIfInBounds_toArray, List.set_cons_zero, List.set_cons_succ]
            refine wpAnyG_take (i := 16) (v := undef) rfl (by kernel_rfl) (fun _ _ _ h => h) (Or.inr ⟨by kernel_rfl, rfl⟩) (by assumption) ?ra59
            simp only [Act.put, List.setIfInBounds_toArray, List.set_cons_zero, List.set_cons_succ]
            refine wpAnyG_take (i := 17) (v := undef) rfl (by kernel_rfl) (fun _ _ _ h => h) (Or.inr ⟨by kernel_rfl, rfl⟩) (by assumption) ?ra60
            simp only [Act.put, List.setIfInBounds_toArray, List.set_cons_zero, List.set_cons_succ]
            refine wpAnyG_take (i := 18) (v := undef) rfl (by kernel_rfl) (fun _ _ _ h => h) (Or.inr ⟨by kernel_rfl, rfl⟩) (by assumption) ?ra61
            simp only [Act.put, List.setIfInBounds_toArray, List.set_cons_zero, List.set_cons_succ]
            refine wpAnyG_take (i := 19) (v := undef) rfl (by kernel_rfl) (fun _ _ _ h => h) (Or.inr ⟨by kernel_rfl, rfl⟩) (by assumption) ?ra62
            simp only [Act.put, List.setIfInBounds_toArray, List.set_cons_zero, List.set_cons_succ]
            refine wpAnyG_take (i := 20) (v := undef) rfl (by kernel_rfl) (fun _ _ _ h => h) (Or.inr ⟨by kernel_rfl, rfl⟩) (by assumption) ?ra63
            simp only [Act.put, List.setIfInBounds_toArray, List.set_cons_zero, List.set_cons_succ]
            refine wpAnyG_take (i := 21) (v := undef) rfl (by kernel_rfl) (fun _ _ _ h => h) (Or.inr ⟨by kernel_rfl, rfl⟩) (by assumption) ?ra64
            simp only [Act.put, List.setIfInBounds_toArray, List.set_cons_zero, List.set_cons_succ]
            refine wpAnyG_take (i := 22) (v := undef) rfl (by kernel_rfl) (fun _ _ _ h => h) (Or.inr ⟨by kernel_rfl, rfl⟩) (by assumption) ?ra65
            simp only [Act.put, List.setIfInBounds_toArray, List.set_cons_zero, List.set_cons_succ]
            refine wpAnyG_last rfl (by kernel_rfl) (by kernel_rfl) (fun K hK => ?_)
            go_simp
            refine hK.out _ _ ?_
            clear hK K
            try simp only [Act.put, List.setIfInBounds_toArray, List.set_cons_zero, List.set_cons_succ]
            have hcd := H6.out.1.trans hHeld
            have hcode := HF.out.2.2.2.2.2.1.keep hcd (fun _ _ _ => id)
            have k1 := hHeld.cell k1 (fun _ => id)
            clear hHeld
            generalize w6.drew = wd at hcd hcode k1 ⊢
            obtain ⟨xb, xo, x', X1, xc, rfl, hx', _, _, _, _, hcs, x0, xa, _, _, x4⟩ := hcode.at_ hlt
            obtain rfl : x = x' := by rw [HX.out.2.1] at hx'; injection hx'
            have HD := Lib.hid (And.intro hcd hcs)
            clear hcd hcode hcs hx'
            cases h33 : (x.op == 33)
            · cases h34 : (x.op == 34)
              · go_wp2_with fail
                skip
                go_loopw [13] (fun i wr => flRel x.cases.length wd i wr) (fun i _ => x.cases.length - (intOf i).toNat)
                case atStart => exact ⟨0, Nat.zero_le _, rfl, Chg.refl _ _⟩
                case round =>
                  obtain ⟨j, hj, rfl, hcj⟩ := hrel
                  have hcs := HD.out.2.keep hcj (fun _ _ _ => id)
                  have y4 := hcj.cell x4 (fun _ => id)
                  have hcl := (HV.out.2.2.2 f' (List.mem_of_getElem? HF.out.1)).2 x (List.mem_of_getElem? HX.out.2.1)
                  have qw : IntKind.i64.wrap ((j : Int) + 1) = (j : Int) + 1 := IntWalk.i64_in _ ⟨by omega, by omega⟩
                  clear hcl
                  by_cases hjl : j < x.cases.length
                  · have qj2 : (j : Int) < (x.cases.length : Int) := by omega
                    obtain ⟨cb', co, cx, rfl, hcx, _, _, _, _, _, _, c3⟩ := hcs.at_ hjl
                    have hmc := List.mem_of_getElem? hcx
                    obtain ⟨ht0, ht1, _⟩ := step_case HX.out.2.2.2.1 hmc
                    obtain ⟨jt, hjt⟩ : ∃ jt : Nat, cx.to = (jt : Int) := ⟨cx.to.toNat, by omega⟩
                    have htl : jt < L.length := by rw [HF.out.2.2.1]; omega
                    obtain ⟨Jb, jd, n4, kt, _⟩ := HF.out.2.2.2.2.1 jt htl
                    have hLt : L[jt] = [] := by
                      have h := HF.out.2.2.2.1 jt htl
                      rw [List.getElem?_eq_getElem htl] at h
                      exact case_at HF.out.2.1 HX.out.2.1 HX.out.2.2.2.1 hmc (by rw [hjt, Int.toNat_natCast]; exact h)
                    rw [hLt] at kt
                    have kt : wr.cell? ⟨lb, lo + jt, none⟩ = some (.slice Jb 0 jd) := (HD.out.1.trans hcj).cell kt (fun _ => id)
                    rw [hjt] at c3
                    have qt : (jt : Int) < (L.length : Int) := by omega
                    have HJ := Lib.hid hcj
                    clear hjt ht0 ht1 hmc hLt hcs hcx hcj
                    go_wp2_with fail
                    go_roundw
                    case rel => exact ⟨j + 1, hjl, by simp, HJ.out⟩
                    case measure => simp [intOf]; omega
                  · have q6 : decide (j < x.cases.length) = false := decide_eq_false hjl
                    have HJ := Lib.hid (HD.out.1.trans hcj)
                    clear hcs hcj
                    go_wp2_with fail
                    go_roundw
                    case rel => exact ⟨k + 1, hlt, by simp, HJ.out⟩
                    case measure => simp [intOf]; omega
              · have hop : x.op = 33 ∨ x.op = 34 := .inr (by simpa using h34)
                obtain ⟨hj0, hj1⟩ := step_jump HX.out.2.2.2.1 hop
                obtain ⟨ja, hja⟩ : ∃ ja : Nat, x.a = (ja : Int) := ⟨x.a.toNat, by omega⟩
                have hjl : ja < L.length := by rw [HF.out.2.2.1]; omega
                obtain ⟨Ja, jc, n3, kj, _⟩ := HF.out.2.2.2.2.1 ja hjl
                have hLj : L[ja] = [] := by
                  have h := HF.out.2.2.2.1 ja hjl
                  rw [List.getElem?_eq_getElem hjl] at h
                  exact jump_at HF.out.2.1 HX.out.2.1 HX.out.2.2.2.1 hop (by rw [hja, Int.toNat_natCast]; exact h)
                rw [hLj] at kj
                have kj : wd.cell? ⟨lb, lo + ja, none⟩ = some (.slice Ja 0 jc) := HD.out.1.cell kj (fun _ => id)
                rw [hja] at xa
                have qj : (ja : Int) < (L.length : Int) := by omega
                clear hja hj0 hj1 hop hLj
                go_wp2_with fail
                skip
                go_loopw [13] (fun i wr => flRel x.cases.length wd i wr) (fun i _ => x.cases.length - (intOf i).toNat)
                case atStart => exact ⟨0, Nat.zero_le _, rfl, Chg.refl _ _⟩
                case round =>
                  obtain ⟨j, hj, rfl, hcj⟩ := hrel
                  have hcs := HD.out.2.keep hcj (fun _ _ _ => id)
                  have y4 := hcj.cell x4 (fun _ => id)
                  have hcl := (HV.out.2.2.2 f' (List.mem_of_getElem? HF.out.1)).2 x (List.mem_of_getElem? HX.out.2.1)
                  have qw : IntKind.i64.wrap ((j : Int) + 1) = (j : Int) + 1 := IntWalk.i64_in _ ⟨by omega, by omega⟩
                  clear hcl
                  by_cases hjl : j < x.cases.length
                  · have qj2 : (j : Int) < (x.cases.length : Int) := by omega
                    obtain ⟨cb', co, cx, rfl, hcx, _, _, _, _, _, _, c3⟩ := hcs.at_ hjl
                    have hmc := List.mem_of_getElem? hcx
                    obtain ⟨ht0, ht1, _⟩ := step_case HX.out.2.2.2.1 hmc
                    obtain ⟨jt, hjt⟩ : ∃ jt : Nat, cx.to = (jt : Int) := ⟨cx.to.toNat, by omega⟩
                    have htl : jt < L.length := by rw [HF.out.2.2.1]; omega
                    obtain ⟨Jb, jd, n4, kt, _⟩ := HF.out.2.2.2.2.1 jt htl
                    have hLt : L[jt] = [] := by
                      have h := HF.out.2.2.2.1 jt htl
                      rw [List.getElem?_eq_getElem htl] at h
                      exact case_at HF.out.2.1 HX.out.2.1 HX.out.2.2.2.1 hmc (by rw [hjt, Int.toNat_natCast]; exact h)
                    rw [hLt] at kt
                    have kt : wr.cell? ⟨lb, lo + jt, none⟩ = some (.slice Jb 0 jd) := (HD.out.1.trans hcj).cell kt (fun _ => id)
                    rw [hjt] at c3
                    have qt : (jt : Int) < (L.length : Int) := by omega
                    have HJ := Lib.hid hcj
                    clear hjt ht0 ht1 hmc hLt hcs hcx hcj
                    go_wp2_with fail
                    go_roundw
                    case rel => exact ⟨j + 1, hjl, by simp, HJ.out⟩
                    case measure => simp [intOf]; omega
                  · have q6 : decide (j < x.cases.length) = false := decide_eq_false hjl
                    have HJ := Lib.hid (HD.out.1.trans hcj)
                    clear hcs hcj
                    go_wp2_with fail
                    go_roundw
                    case rel => exact ⟨k + 1, hlt, by simp, HJ.out⟩
                    case measure => simp [intOf]; omega
            · have hop : x.op = 33 ∨ x.op = 34 := .inl (by simpa using h33)
              obtain ⟨hj0, hj1⟩ := step_jump HX.out.2.2.2.1 hop
              obtain ⟨ja, hja⟩ : ∃ ja : Nat, x.a = (ja : Int) := ⟨x.a.toNat, by omega⟩
              have hjl : ja < L.length := by rw [HF.out.2.2.1]; omega
              obtain ⟨Ja, jc, n3, kj, _⟩ := HF.out.2.2.2.2.1 ja hjl
              have hLj : L[ja] = [] := by
                have h := HF.out.2.2.2.1 ja hjl
                rw [List.getElem?_eq_getElem hjl] at h
                exact jump_at HF.out.2.1 HX.out.2.1 HX.out.2.2.2.1 hop (by rw [hja, Int.toNat_natCast]; exact h)
              rw [hLj] at kj
              have kj : wd.cell? ⟨lb, lo + ja, none⟩ = some (.slice Ja 0 jc) := HD.out.1.cell kj (fun _ => id)
              rw [hja] at xa
              have qj : (ja : Int) < (L.length : Int) := by omega
              clear hja hj0 hj1 hop hLj
              go_wp2_with fail
              skip
              go_loopw [13] (fun i wr => flRel x.cases.length wd i wr) (fun i _ => x.cases.length - (intOf i).toNat)
              case atStart => exact ⟨0, Nat.zero_le _, rfl, Chg.refl _ _⟩
              case round =>
                obtain ⟨j, hj, rfl, hcj⟩ := hrel
                have hcs := HD.out.2.keep hcj (fun _ _ _ => id)
                have y4 := hcj.cell x4 (fun _ => id)
                have hcl := (HV.out.2.2.2 f' (List.mem_of_getElem? HF.out.1)).2 x (List.mem_of_getElem? HX.out.2.1)
                have qw : IntKind.i64.wrap ((j : Int) + 1) = (j : Int) + 1 := IntWalk.i64_in _ ⟨by omega, by omega⟩
                clear hcl
                by_cases hjl : j < x.cases.length
                · have qj2 : (j : Int) < (x.cases.length : Int) := by omega
                  obtain ⟨cb', co, cx, rfl, hcx, _, _, _, _, _, _, c3⟩ := hcs.at_ hjl
                  have hmc := List.mem_of_getElem? hcx
                  obtain ⟨ht0, ht1, _⟩ := step_case HX.out.2.2.2.1 hmc
                  obtain ⟨jt, hjt⟩ : ∃ jt : Nat, cx.to = (jt : Int) := ⟨cx.to.toNat, by omega⟩
                  have htl : jt < L.length := by rw [HF.out.2.2.1]; omega
                  obtain ⟨Jb, jd, n4, kt, _⟩ := HF.out.2.2.2.2.1 jt htl
                  have hLt : L[jt] = [] := by
                    have h := HF.out.2.2.2.1 jt htl
                    rw [List.getElem?_eq_getElem htl] at h
                    exact case_at HF.out.2.1 HX.out.2.1 HX.out.2.2.2.1 hmc (by rw [hjt, Int.toNat_natCast]; exact h)
                  rw [hLt] at kt
                  have kt : wr.cell? ⟨lb, lo + jt, none⟩ = some (.slice Jb 0 jd) := (HD.out.1.trans hcj).cell kt (fun _ => id)
                  rw [hjt] at c3
                  have qt : (jt : Int) < (L.length : Int) := by omega
                  have HJ := Lib.hid hcj
                  clear hjt ht0 ht1 hmc hLt hcs hcx hcj
                  go_wp2_with fail
                  go_roundw
                  case rel => exact ⟨j + 1, hjl, by simp, HJ.out⟩
                  case measure => simp [intOf]; omega
                · have q6 : decide (j < x.cases.length) = false := decide_eq_false hjl
                  have HJ := Lib.hid (HD.out.1.trans hcj)
                  clear hcs hcj
                  go_wp2_with fail
                  go_roundw
                  case rel => exact ⟨k + 1, hlt, by simp, HJ.out⟩
                  case measure => simp [intOf]; omega
          · have hkn : k + 1 < f'.code.length := by have := of_decide_eq_true hn; omega
            obtain ⟨Bi, di, n2, kn, kr⟩ := HF.out.2.2.2.2.1 (k + 1) (by rw [HF.out.2.2.1]; exact hkn)
            have hLn : L[k + 1]'(by rw [HF.out.2.2.1]; exact hkn) = s.stack := by
              have h := HF.out.2.2.2.1 (k + 1) (by rw [HF.out.2.2.1]; exact hkn)
              rw [at_next HX.out.2.1 HX.out.2.2.1 HX.out.2.2.2.1, List.getElem?_eq_getElem (by rw [HF.out.2.2.1]; exact hkn)] at h
              injection h with h
              exact h.symm
            rw [hLn] at kn kr
            have kn := H6.out.1.cell kn (fun _ => id)
            have q8 : (k : Int) + 1 < (L.length : Int) := by rw [HF.out.2.2.1]; omega
            have q9 : (0 : Int) ≤ (k : Int) + 1 := by omega
            have HK := Lib.hid (kr.keep1 H6.out.1 (fun _ _ => id) fun _ _ h => h)
            have hci := SlR.len HY.out.2.2.2.2
            have hsh := fun W => slice_h W Ai st.length ci pre.length (by have := HY.out.2.2.1; omega)
            have HN := Lib.hid hn
            clear kr hkn hci hLn
            refine wp_region_G (S := (fun w' => Chg (fun _ _ => False) w6 w')) 23 (by kernel_rfl) (Chg.refl _ _).drew (fun hHeld => ?_)
            refine wpAnyG_take (i := 0) (v := ?va66) rfl (by kernel_rfl) (fun _ _ _ h => h) (Or.inl ⟨by kernel_rfl, ?hy66⟩) (by assumption) ?ra66
            case hy66 => (intro w hSw; (try dsimp only at hSw); have k1 := hSw.cell k1 (fun _ => id); have kn := hSw.cell kn (fun _ => id); clear hSw; go_simp; all_goals (with_reducible rfl))
            simp only [Act.put, List.setIfInBounds_toArray, List.set_cons_zero, List.set_cons_succ]
            refine wpAnyG_take (i := 1) (v := ?va67) rfl (by kernel_rfl) (fun _ _ _ h => h) (Or.inl ⟨by kernel_rfl, ?hy67⟩) (by assumption) ?ra67
            case hy67 => (intro w hSw; (try dsimp only at hSw); have k1 := hSw.cell k1 (fun _ => id); have kn := hSw.cell kn (fun _ => id); clear hSw; go_simp; all_goals (with_reducible rfl))
            simp only [Act.put, List.setIfInBounds_toArray, List.set_cons_zero, List.set_cons_succ]
            refine wpAnyG_take (i := 2) (v := ?va68) rfl (by kernel_rfl) (fun _ _ _ h => h) (Or.inl ⟨by kernel_rfl, ?hy68⟩) (by assumption) ?ra68
            case hy68 => (intro w hSw; (try dsimp only at hSw); have k1 := hSw.cell k1 (fun _ => id); have kn := hSw.cell kn (fun _ => id); clear hSw; go_simp; all_goals (with_reducible rfl))
            simp only [Act.put, List.setIfInBounds_toArray, List.set_cons_zero, List.set_cons_succ]
            refine wpAnyG_take (i := 3) (v := ?va69) rfl (by kernel_rfl) (fun _ _ _ h => h) (Or.inl ⟨by kernel_rfl, ?hy69⟩) (by assumption) ?ra69
            case hy69 => (intro w hSw; (try dsimp only at hSw); have k1 := hSw.cell k1 (fun _ => id); have kn := hSw.cell kn (fun _ => id); clear hSw; go_simp; all_goals (with_reducible rfl))
            simp only [Act.put, List.setIfInBounds_toArray, List.set_cons_zero, List.set_cons_succ]
            refine wpAnyG_take (i := 4) (v := ?va70) rfl (by kernel_rfl) (fun _ _ _ h => h) (Or.inl ⟨by kernel_rfl, ?hy70⟩) (by assumption) ?ra70
            case hy70 => (intro w hSw; (try dsimp only at hSw); have k1 := hSw.cell k1 (fun _ => id); have kn := hSw.cell kn (fun _ => id); clear hSw; go_simp; all_goals (with_reducible rfl))
            simp only [Act.put, List.setIfInBounds_toArray, List.set_cons_zero, List.set_cons_succ]
            refine wpAnyG_take (i := 5) (v := ?va71) rfl (by kernel_rfl) (fun _ _ _ h => h) (Or.inl ⟨by kernel_rfl, ?hy71⟩) (by assumption) ?ra71
            case hy71 => (intro w hSw; (try dsimp only at hSw); have k1 := hSw.cell k1 (fun _ => id); have kn := hSw.cell kn (fun _ => id); clear hSw; go_simp; all_goals (with_reducible rfl))
            simp only [Act.put, List.setIfInBounds_toArray, List.set_cons_zero, List.set_cons_succ]
            refine wpAnyG_take (i := 6) (v := ?va72) rfl (by kernel_rfl) (fun _ _ _ h => h) (Or.inl ⟨by kernel_rfl, ?hy72⟩) (by assumption) ?ra72
            case hy72 => (intro w hSw; (try dsimp only at hSw); have k1 := hSw.cell k1 (fun _ => id); have kn := hSw.cell kn (fun _ => id); clear hSw; go_simp; all_goals (with_reducible rfl))
            simp only [Act.put, List.setIfInBounds_toArray, List.set_cons_zero, List.set_cons_succ]
            refine wpAnyG_take (i := 7) (v := ?va73) rfl (by kernel_rfl) (fun _ _ _ h => h) (Or.inl ⟨by kernel_rfl, ?hy73⟩) (by assumption) ?ra73
            case hy73 => (intro w hSw; (try dsimp only at hSw); have k1 := hSw.cell k1 (fun _ => id); have kn := hSw.cell kn (fun _ => id); clear hSw; go_simp; all_goals (with_reducible rfl))
            simp only [Act.put, List.setIfInBounds_toArray, List.set_cons_zero, List.set_cons_succ]
            refine wpAnyG_take (i := 8) (v := ?va74) rfl (by kernel_rfl) (fun _ _ _ h => h) (Or.inl ⟨by kernel_rfl, ?hy74⟩) (by assumption) ?ra74
            case hy74 => (intro w hSw; (try dsimp only at hSw); have k1 := hSw.cell k1 (fun _ => id); have kn := hSw.cell kn (fun _ => id); clear hSw; go_simp; all_goals (with_reducible rfl))
            simp only [Act.put, List.setIfInBounds_toArray, List.set_cons_zero, List.set_cons_succ]
            refine wpAnyG_take (i := 9) (v := ?va75) rfl (by kernel_rfl) (fun _ _ _ h => h) (Or.inl ⟨by kernel_rfl, ?hy75⟩) (by assumption) ?ra75
            case hy75 => (intro w hSw; (try dsimp only at hSw); have k1 := hSw.cell k1 (fun _ => id); have kn := hSw.cell kn (fun _ => id); clear hSw; go_simp; all_goals (with_reducible rfl))
            simp only [Act.put, List.setIfInBounds_toArray, List.set_cons_zero, List.set_cons_succ]
            refine wpAnyG_take (i := 10) (v := ?va76) rfl (by kernel_rfl) (fun _ _ _ h => h) (Or.inl ⟨by kernel_rfl, ?hy76⟩) (by assumption) ?ra76
            case hy76 => (intro w hSw; (try dsimp only at hSw); have k1 := hSw.cell k1 (fun _ => id); have kn := hSw.cell kn (fun _ => id); clear hSw; go_simp; all_goals (with_reducible rfl))
            simp only [Act.put, List.setIfInBounds_toArray, List.set_cons_zero, List.set_cons_succ]
            refine wpAnyG_take (i := 12) (v := ?va77) rfl (by kernel_rfl) (fun _ _ _ h => h) (Or.inl ⟨by kernel_rfl, ?hy77⟩) (by assumption) ?ra77
            case hy77 => (intro w hSw; (try dsimp only at hSw); have k1 := hSw.cell k1 (fun _ => id); have kn := hSw.cell kn (fun _ => id); clear hSw; go_simp; all_goals (with_reducible rfl))
            simp only [Act.put, List.setIfInBounds_toArray, List.set_cons_zero, List.set_cons_succ]
            refine wpAnyG_take (i := 13) (v := ?va78) rfl (by kernel_rfl) (fun _ _ _ h => h) (Or.inl ⟨by kernel_rfl, ?hy78⟩) (by assumption) ?ra78
            case hy78 => (intro w hSw; (try dsimp only at hSw); have k1 := hSw.cell k1 (fun _ => id); have kn := hSw.cell kn (fun _ => id); clear hSw; go_simp; all_goals (with_reducible rfl))
            simp only [Act.put, List.setIfInBounds_toArray, List.set_cons_zero, List.set_cons_succ]
            refine wpAnyG_take (i := 14) (v := ?va79) rfl (by kernel_rfl) (fun _ _ _ h => h) (Or.inl ⟨by kernel_rfl, ?hy79⟩) (by assumption) ?ra79
            case hy79 => (intro w hSw; (try dsimp only at hSw); have k1 := hSw.cell k1 (fun _ => id); have kn := hSw.cell kn (fun _ => id); clear hSw; go_simp; all_goals (with_reducible rfl))
            simp only [Act.put, List.setIfInBounds_toArray, List.set_cons_zero, List.set_cons_succ]
            refine wpAnyG_take (i := 15) (v := ?va80) rfl (by kernel_rfl) (fun _ _ _ h => h) (Or.inl ⟨by kernel_rfl, ?hy80⟩) (by assumption) ?ra80
            case hy80 => (intro w hSw; (try dsimp only at hSw); have k1 := hSw.cell k1 (fun _ => id); have kn := hSw.cell kn (fun _ => id); clear hSw; go_simp; all_goals (with_reducible rfl))
            simp only [Act.put, List.setIfInBounds_toArray, List.set_cons_zero, List.set_cons_succ]
            refine wpAnyG_take (i := 16) (v := ?va81) rfl (by kernel_rfl) (fun _ _ _ h => h) (Or.inl ⟨by kernel_rfl, ?hy81⟩) (by assumption) ?ra81
            case hy81 => (intro w hSw; (try dsimp only at hSw); have k1 := hSw.cell k1 (fun _ => id); have kn := hSw.cell kn (fun _ => id); clear hSw; go_simp; all_goals (with_reducible rfl))
            simp only [Act.put, List.setIfInBounds_toArray, List.set_cons_zero, List.set_cons_succ]
            refine wpAnyG_take (i := 17) (v := ?va82) rfl (by kernel_rfl) (fun _ _ _ h => h) (Or.inl ⟨by kernel_rfl, ?hy82⟩) (by assumption) ?ra82
            case hy82 => (intro w hSw; (try dsimp only at hSw); have k1 := hSw.cell k1 (fun _ => id); have kn := hSw.cell kn (fun _ => id); clear hSw; go_simp; all_goals (with_reducible rfl))
            simp only [Act.put, List.setIfInBounds_toArray, List.set_cons_zero, List.set_cons_succ]
            refine wpAnyG_take (i := 19) (v := ?va83) rfl (by kernel_rfl) (fun _ _ _ h => h) (Or.inl ⟨by kernel_rfl, ?hy83⟩) (by assumption) ?ra83
            case hy83 => (intro w hSw; (try dsimp only at hSw); have k1 := hSw.cell k1 (fun _ => id); have kn := hSw.cell kn (fun _ => id); clear hSw; go_simp; all_goals (with_reducible rfl))
            simp only [Act.put, List.setIfInBounds_toArray, List.set_cons_zero, List.set_cons_succ]
            refine wpAnyG_ready (rs := [11]) (by kernel_rfl) (by simp) ?_
            refine AllReadyG.cons rfl (fun K hK => ?_) AllReadyG.nil
            go_simp
            refine hK.out _ _ (hHeld.alloc _) (fun hHeld => ?_)
            clear hK K
            try simp only [Act.put, List.setIfInBounds_toArray, List.set_cons_zero, List.set_cons_succ]
            have hc67 := ((Chg.refl (fun _ _ => False) w6).alloc (.cells #[] 3)).drew
            have hb7 : Blk (w6.alloc (.cells #[] 3)).drew w6.heap.size 3 #[] := Blk.new w6 3 #[]
            have hs7 : (w6.alloc (.cells #[] 3)).drew.heap.size = w6.heap.size + 1 := World.size_alloc ..
            generalize (w6.alloc (.cells #[] 3)).drew = w7 at *
            have hown0 : w7.ownsRow w6.heap.size 3 1 (.slice (some ⟨w6.heap.size, 0, none⟩) 0 0) 0 [] := ⟨by simp, .inr ⟨w6.heap.size, 0, #[], rfl, Nat.le_refl _, hb7, Nat.le_refl _, Nat.zero_le _, by simp, by simp⟩⟩
            have hrd := ints_reads ((HY.out.2.2.2.2.keep H6.out.2 (fun _ _ _ => id)).keep hc67 (fun _ _ _ => id)) (k := pre.length) (by have := HY.out.2.2.1; omega)
            have hpt : st.take pre.length = pre := by rw [HX.out.2.2.2.2.1]; simp
            rw [hpt] at hrd
            have hpl : pre.length ≤ 64 := by have := HY.out.2.2.1; have := HY.out.2.2.2.1; omega
            obtain ⟨i0, hi0, hz0, hs0, hb0⟩ := info_parts infoInt
            refine wpAnyG_ready (rs := [18]) (by kernel_rfl) (by simp) ?_
            refine AllReadyG.cons rfl (fun K hK => ?_) AllReadyG.nil
            refine step_append_g (P := Try.prog) w7 (by simp [Region.wanted, yielded]) (.tmp 97) (.tmp 103) 31 rfl w6.heap.size 3 i0 _ 1 8 Try.underlying31 hi0 hz0 hs0 hb0 rfl (by omega) (.slice (some ⟨w6.heap.size, 0, none⟩) 0 0) 0 [] (by simp [Act.eval]) hown0 w7.heap.size Ai pre.length ci (pre.map (Value.int .i64)) (by simp [Act.eval]) hrd (fun u hu => by obtain ⟨x, _, rfl⟩ := List.mem_map.1 hu; rfl) (by simp only [maxLen]; omega) (by omega) (by omega) fun v8 w8 j1 j2 j3 => ?_
            rw [Nat.zero_add, List.nil_append] at j1
            obtain ⟨A8, c8, rfl⟩ := own_form j1
            have hH8 : Chg (fun _ _ => False) w6 w8 := hHeld.grown j2 fun g' o hg ho => by
              have h1 : w6.heap.size = g' := by simpa [Value.ownBlock] using hg
              have h2 := (Array.getElem?_eq_some_iff.1 ho).1
              omega
            have hs8 : w7.heap.size ≤ w8.heap.size := ((Chg.refl (fun _ _ => True) w7).grown j2 fun _ _ _ _ => trivial).size
            refine hK.out _ _ hH8 (fun hHeld => ?_)
            clear hK K hrd hown0
            try simp only [Act.put, List.setIfInBounds_toArray, List.set_cons_zero, List.set_cons_succ]
            have hrd := ints_reads (row_ints (HY.out.2.1.keep1 (H6.out.2.trans hH8) (fun _ _ => id) fun _ _ h => h)) (k := s.left.length) (Nat.le_refl _)
            rw [List.take_length] at hrd
            have hll : s.left.length ≤ 64 := by
              rcases HX.out.2.2.2.2.2.2.1 with h | h
              · rw [h]; simp
              · omega
            refine wpAnyG_ready (rs := [20]) (by kernel_rfl) (by simp) ?_
            refine AllReadyG.cons rfl (fun K hK => ?_) AllReadyG.nil
            refine step_append_g (P := Try.prog) w8 (by simp [Region.wanted, yielded]) (.tmp 104) (.tmp 105) 31 rfl w6.heap.size 3 i0 _ 1 8 Try.underlying31 hi0 hz0 hs0 hb0 rfl (by omega) (.slice A8 pre.length c8) pre.length (pre.map (Value.int .i64)) (by simp [Act.eval]) j1 w8.heap.size Ab s.left.length cb (s.left.map (Value.int .i64)) (by simp [Act.eval]) hrd (fun u hu => by obtain ⟨x, _, rfl⟩ := List.mem_map.1 hu; rfl) (by simp only [maxLen]; omega) (by omega) (by omega) fun v9 w9 l1 l2 l3 => ?_
            obtain ⟨A9, c9, rfl⟩ := own_form l1
            have hH9 : Chg (fun _ _ => False) w6 w9 := hHeld.grown l2 fun g' o hg ho => by
              have h2 := (Array.getElem?_eq_some_iff.1 ho).1
              rcases j3 with h | h
              · rw [h] at hg
                have h1 : w6.heap.size = g' := by simpa [Value.ownBlock] using hg
                omega
              · rw [h] at hg
                injection hg with hg
                omega
            have hr9 : RowR w6.heap.size 3 1 IntV w9 A9 c9 s.stack := by
              refine rowV.2 ⟨?_, fun x hx => ?_⟩
              · rw [HX.out.2.2.2.2.2.1, List.length_append, List.map_append]
                exact l1
              · exact (rowV.1 HK.out).2 x hx
            have hst9 : s.stack.length = pre.length + s.left.length := by rw [HX.out.2.2.2.2.2.1, List.length_append]
            have hsm2 := rInts_any w9 w9.heap.size Bi A9 s.stack.length di s.stack.length c9 s.stack s.stack (row_ints (HK.out.keep1 hH9 (fun _ _ => id) fun _ _ h => h)) (row_ints hr9) (by omega) (by omega)
            rw [same_self, show (Value.slice A9 s.stack.length c9) = .slice A9 (pre.length + s.left.length) c9 by rw [hst9]] at hsm2
            refine hK.out _ _ hH9 (fun hHeld => ?_)
            clear hK K hrd hst9 hr9 l1 l2 l3 j1 j2 j3 hpt hpl hll hs8 hs7 hb7 hc67
            try simp only [Act.put, List.setIfInBounds_toArray, List.set_cons_zero, List.set_cons_succ]
            refine wpAnyG_ready (rs := [21]) (by kernel_rfl) (by simp) ?_
            refine AllReadyG.cons rfl (fun K hK => ?_) AllReadyG.nil
            go_simp
            go_at_call 15
            refine hsm2.mono ?_
            rintro e wA ⟨rfl, qm, rfl⟩
            refine hK.out _ _ (hHeld.trans (chg_drewN w9 qm)) (fun hHeld => ?_)
            clear hK K hsm2
            try simp only [Act.put, List.setIfInBounds_toArray, List.set_cons_zero, List.set_cons_succ]
            refine wpAnyG_take (i := 22) (v := ?va84) rfl (by kernel_rfl) (fun _ _ _ h => h) (Or.inl ⟨by kernel_rfl, ?hy84⟩) (by assumption) ?ra84
            case hy84 => (intro w hSw; (try dsimp only at hSw); skip; clear hSw; go_simp; all_goals (with_reducible rfl))
            simp only [Act.put, List.setIfInBounds_toArray, List.set_cons_zero, List.set_cons_succ]
            refine wpAnyG_last rfl (by kernel_rfl) (by kernel_rfl) (fun K hK => ?_)
            go_simp
            refine hK.out _ _ ?_
            clear hK K
            try simp only [Act.put, List.setIfInBounds_toArray, List.set_cons_zero, List.set_cons_succ]
            have hcd := H6.out.1.trans hHeld
            have hcode := HF.out.2.2.2.2.2.1.keep hcd (fun _ _ _ => id)
            have k1 := hHeld.cell k1 (fun _ => id)
            clear hHeld
            generalize w9.drewN qm = wd at hcd hcode k1 ⊢
            obtain ⟨xb, xo, x', X1, xc, rfl, hx', _, _, _, _, hcs, x0, xa, _, _, x4⟩ := hcode.at_ hlt
            obtain rfl : x = x' := by rw [HX.out.2.1] at hx'; injection hx'
            have HD := Lib.hid (And.intro hcd hcs)
            clear hcd hcode hcs hx'
            cases h33 : (x.op == 33)
            · cases h34 : (x.op == 34)
              · go_wp2_with fail
                skip
                go_loopw [13] (fun i wr => flRel x.cases.length wd i wr) (fun i _ => x.cases.length - (intOf i).toNat)
                case atStart => exact ⟨0, Nat.zero_le _, rfl, Chg.refl _ _⟩
                case round =>
                  obtain ⟨j, hj, rfl, hcj⟩ := hrel
                  have hcs := HD.out.2.keep hcj (fun _ _ _ => id)
                  have y4 := hcj.cell x4 (fun _ => id)
                  have hcl := (HV.out.2.2.2 f' (List.mem_of_getElem? HF.out.1)).2 x (List.mem_of_getElem? HX.out.2.1)
                  have qw : IntKind.i64.wrap ((j : Int) + 1) = (j : Int) + 1 := IntWalk.i64_in _ ⟨by omega, by omega⟩
                  clear hcl
                  by_cases hjl : j < x.cases.length
                  · have qj2 : (j : Int) < (x.cases.length : Int) := by omega
                    obtain ⟨cb', co, cx, rfl, hcx, _, _, _, _, _, _, c3⟩ := hcs.at_ hjl
                    have hmc := List.mem_of_getElem? hcx
                    obtain ⟨ht0, ht1, _⟩ := step_case HX.out.2.2.2.1 hmc
                    obtain ⟨jt, hjt⟩ : ∃ jt : Nat, cx.to = (jt : Int) := ⟨cx.to.toNat, by omega⟩
                    have htl : jt < L.length := by rw [HF.out.2.2.1]; omega
                    obtain ⟨Jb, jd, n4, kt, _⟩ := HF.out.2.2.2.2.1 jt htl
                    have hLt : L[jt] = [] := by
                      have h := HF.out.2.2.2.1 jt htl
                      rw [List.getElem?_eq_getElem htl] at h
                      exact case_at HF.out.2.1 HX.out.2.1 HX.out.2.2.2.1 hmc (by rw [hjt, Int.toNat_natCast]; exact h)
                    rw [hLt] at kt
                    have kt : wr.cell? ⟨lb, lo + jt, none⟩ = some (.slice Jb 0 jd) := (HD.out.1.trans hcj).cell kt (fun _ => id)
                    rw [hjt] at c3
                    have qt : (jt : Int) < (L.length : Int) := by omega
                    have HJ := Lib.hid hcj
                    clear hjt ht0 ht1 hmc hLt hcs hcx hcj
                    go_wp2_with fail
                    go_roundw
                    case rel => exact ⟨j + 1, hjl, by simp, HJ.out⟩
                    case measure => simp [intOf]; omega
                  · have q6 : decide (j < x.cases.length) = false := decide_eq_false hjl
                    have HJ := Lib.hid (HD.out.1.trans hcj)
                    clear hcs hcj
                    go_wp2_with fail
                    go_roundw
                    case rel => exact ⟨k + 1, hlt, by simp, HJ.out⟩
                    case measure => simp [intOf]; omega
              · have hop : x.op = 33 ∨ x.op = 34 := .inr (by simpa using h34)
                obtain ⟨hj0, hj1⟩ := step_jump HX.out.2.2.2.1 hop
                obtain ⟨ja, hja⟩ : ∃ ja : Nat, x.a = (ja : Int) := ⟨x.a.toNat, by omega⟩
                have hjl : ja < L.length := by rw [HF.out.2.2.1]; omega
                obtain ⟨Ja, jc, n3, kj, _⟩ := HF.out.2.2.2.2.1 ja hjl
                have hLj : L[ja] = [] := by
                  have h := HF.out.2.2.2.1 ja hjl
                  rw [List.getElem?_eq_getElem hjl] at h
                  exact jump_at HF.out.2.1 HX.out.2.1 HX.out.2.2.2.1 hop (by rw [hja, Int.toNat_natCast]; exact h)
                rw [hLj] at kj
                have kj : wd.cell? ⟨lb, lo + ja, none⟩ = some (.slice Ja 0 jc) := HD.out.1.cell kj (fun _ => id)
                rw [hja] at xa
                have qj : (ja : Int) < (L.length : Int) := by omega
                clear hja hj0 hj1 hop hLj
                go_wp2_with fail
                skip
                go_loopw [13] (fun i wr => flRel x.cases.length wd i wr) (fun i _ => x.cases.length - (intOf i).toNat)
                case atStart => exact ⟨0, Nat.zero_le _, rfl, Chg.refl _ _⟩
                case round =>
                  obtain ⟨j, hj, rfl, hcj⟩ := hrel
                  have hcs := HD.out.2.keep hcj (fun _ _ _ => id)
                  have y4 := hcj.cell x4 (fun _ => id)
                  have hcl := (HV.out.2.2.2 f' (List.mem_of_getElem? HF.out.1)).2 x (List.mem_of_getElem? HX.out.2.1)
                  have qw : IntKind.i64.wrap ((j : Int) + 1) = (j : Int) + 1 := IntWalk.i64_in _ ⟨by omega, by omega⟩
                  clear hcl
                  by_cases hjl : j < x.cases.length
                  · have qj2 : (j : Int) < (x.cases.length : Int) := by omega
                    obtain ⟨cb', co, cx, rfl, hcx, _, _, _, _, _, _, c3⟩ := hcs.at_ hjl
                    have hmc := List.mem_of_getElem? hcx
                    obtain ⟨ht0, ht1, _⟩ := step_case HX.out.2.2.2.1 hmc
                    obtain ⟨jt, hjt⟩ : ∃ jt : Nat, cx.to = (jt : Int) := ⟨cx.to.toNat, by omega⟩
                    have htl : jt < L.length := by rw [HF.out.2.2.1]; omega
                    obtain ⟨Jb, jd, n4, kt, _⟩ := HF.out.2.2.2.2.1 jt htl
                    have hLt : L[jt] = [] := by
                      have h := HF.out.2.2.2.1 jt htl
                      rw [List.getElem?_eq_getElem htl] at h
                      exact case_at HF.out.2.1 HX.out.2.1 HX.out.2.2.2.1 hmc (by rw [hjt, Int.toNat_natCast]; exact h)
                    rw [hLt] at kt
                    have kt : wr.cell? ⟨lb, lo + jt, none⟩ = some (.slice Jb 0 jd) := (HD.out.1.trans hcj).cell kt (fun _ => id)
                    rw [hjt] at c3
                    have qt : (jt : Int) < (L.length : Int) := by omega
                    have HJ := Lib.hid hcj
                    clear hjt ht0 ht1 hmc hLt hcs hcx hcj
                    go_wp2_with fail
                    go_roundw
                    case rel => exact ⟨j + 1, hjl, by simp, HJ.out⟩
                    case measure => simp [intOf]; omega
                  · have q6 : decide (j < x.cases.length) = false := decide_eq_false hjl
                    have HJ := Lib.hid (HD.out.1.trans hcj)
                    clear hcs hcj
                    go_wp2_with fail
                    go_roundw
                    case rel => exact ⟨k + 1, hlt, by simp, HJ.out⟩
                    case measure => simp [intOf]; omega
            · have hop : x.op = 33 ∨ x.op = 34 := .inl (by simpa using h33)
              obtain ⟨hj0, hj1⟩ := step_jump HX.out.2.2.2.1 hop
              obtain ⟨ja, hja⟩ : ∃ ja : Nat, x.a = (ja : Int) := ⟨x.a.toNat, by omega⟩
              have hjl : ja < L.length := by rw [HF.out.2.2.1]; omega
              obtain ⟨Ja, jc, n3, kj, _⟩ := HF.out.2.2.2.2.1 ja hjl
              have hLj : L[ja] = [] := by
                have h := HF.out.2.2.2.1 ja hjl
                rw [List.getElem?_eq_getElem hjl] at h
                exact jump_at HF.out.2.1 HX.out.2.1 HX.out.2.2.2.1 hop (by rw [hja, Int.toNat_natCast]; exact h)
              rw [hLj] at kj
              have kj : wd.cell? ⟨lb, lo + ja, none⟩ = some (.slice Ja 0 jc) := HD.out.1.cell kj (fun _ => id)
              rw [hja] at xa
              have qj : (ja : Int) < (L.length : Int) := by omega
              clear hja hj0 hj1 hop hLj
              go_wp2_with fail
              skip
              go_loopw [13] (fun i wr => flRel x.cases.length wd i wr) (fun i _ => x.cases.length - (intOf i).toNat)
              case atStart => exact ⟨0, Nat.zero_le _, rfl, Chg.refl _ _⟩
              case round =>
                obtain ⟨j, hj, rfl, hcj⟩ := hrel
                have hcs := HD.out.2.keep hcj (fun _ _ _ => id)
                have y4 := hcj.cell x4 (fun _ => id)
                have hcl := (HV.out.2.2.2 f' (List.mem_of_getElem? HF.out.1)).2 x (List.mem_of_getElem? HX.out.2.1)
                have qw : IntKind.i64.wrap ((j : Int) + 1) = (j : Int) + 1 := IntWalk.i64_in _ ⟨by omega, by omega⟩
                clear hcl
                by_cases hjl : j < x.cases.length
                · have qj2 : (j : Int) < (x.cases.length : Int) := by omega
                  obtain ⟨cb', co, cx, rfl, hcx, _, _, _, _, _, _, c3⟩ := hcs.at_ hjl
                  have hmc := List.mem_of_getElem? hcx
                  obtain ⟨ht0, ht1, _⟩ := step_case HX.out.2.2.2.1 hmc
                  obtain ⟨jt, hjt⟩ : ∃ jt : Nat, cx.to = (jt : Int) := ⟨cx.to.toNat, by omega⟩
                  have htl : jt < L.length := by rw [HF.out.2.2.1]; omega
                  obtain ⟨Jb, jd, n4, kt, _⟩ := HF.out.2.2.2.2.1 jt htl
                  have hLt : L[jt] = [] := by
                    have h := HF.out.2.2.2.1 jt htl
                    rw [List.getElem?_eq_getElem htl] at h
                    exact case_at HF.out.2.1 HX.out.2.1 HX.out.2.2.2.1 hmc (by rw [hjt, Int.toNat_natCast]; exact h)
                  rw [hLt] at kt
                  have kt : wr.cell? ⟨lb, lo + jt, none⟩ = some (.slice Jb 0 jd) := (HD.out.1.trans hcj).cell kt (fun _ => id)
                  rw [hjt] at c3
                  have qt : (jt : Int) < (L.length : Int) := by omega
                  have HJ := Lib.hid hcj
                  clear hjt ht0 ht1 hmc hLt hcs hcx hcj
                  go_wp2_with fail
                  go_roundw
                  case rel => exact ⟨j + 1, hjl, by simp, HJ.out⟩
                  case measure => simp [intOf]; omega
                · have q6 : decide (j < x.cases.length) = false := decide_eq_false hjl
                  have HJ := Lib.hid (HD.out.1.trans hcj)
                  clear hcs hcj
                  go_wp2_with fail
                  go_roundw
                  case rel => exact ⟨k + 1, hlt, by simp, HJ.out⟩
                  case measure => simp [intOf]; omega
      · have q5 : ((L.length : Int) == (f'.code.length : Int)) = true := by rw [HF.out.2.2.1]; simp
        have q6 : decide (k < f'.code.length) = false := decide_eq_false hlt
        have HX := Lib.hid ((H3.out.1.trans hch).below (B := w.heap.size) (fun _ _ h => h.elim) (Nat.le_refl _))
        clear hch
        go_wp2_with fail
        go_ret
        exact ⟨rfl, HX.out⟩
  · go_wp2_with fail
    refine (vans_any _).mono fun e w4 h => ?_
    obtain ⟨rfl, hc4⟩ := h
    have H4 := Lib.hid ((H3.out.1.trans hc4).below (B := w.heap.size) (fun _ _ h => h.elim) (Nat.le_refl _))
    clear hc4
    go_wp2_with fail
    go_ret
    exact ⟨rfl, H4.out⟩
end Go.Proofs.Ytdegfnejhamejaa

