/-
  chans: a receipt that can go on (receive).
-/
import Derived.Test.YtclllnoohoonoaaSend2
namespace Go.Proofs.Ytclllnoohoonoaa
open Go.RowKit
set_option linter.unusedVariables false
set_option linter.unusedSimpArgs false

def RecvRes (r : Nat × Bool × List SrvD) (G : Nat → Prop) (p : Nat) (H' : HubD) (w : World) (e : Ending) (w' : World) : Prop := ∃ v, e = .returned (.tuple #[.int .u64 (r.1 : Int), .bool r.2.1, v]) ∧ SrvsT w' v r.2.2 ∧ HubP G w w' p H'
theorem WaitsR.at3 {w : World} {A : Option Addr} {c k : Nat} {l : List WaitD} (h : SlR 0 80 2 WaitV w (.slice A l.length c) l) (hk : k < l.length) : ∃ b o x A' c', A = some ⟨b, o, none⟩ ∧ l[k]? = some x ∧ I64 x.who ∧ CasesC w (.slice A' x.cases.length c') x.cases ∧
    ∀ M w', Chg M w w' → (∀ b, ¬ M b 80) → w'.cell? ⟨b, o + k * 2, none⟩ = some (.int .i64 x.who) ∧ w'.cell? ⟨b, o + k * 2 + 1, none⟩ = some (.slice A' x.cases.length c') := by
  obtain ⟨b, o, x, cs, hA, hx, _, ⟨A', c'', rfl, h2, h3⟩, h4⟩ := SlR.at3' h hk
  exact ⟨b, o, x, A', c'', hA, hx, h2, h3, fun M w' hc hm => ⟨by simpa using h4 M w' hc ⟨fun b _ hb => absurd hb (Nat.not_lt_zero _), fun _ => hm⟩ 0 _ rfl, h4 M w' hc ⟨fun b _ hb => absurd hb (Nat.not_lt_zero _), fun _ => hm⟩ 1 _ rfl⟩⟩
theorem CasesC.at3 {w : World} {A : Option Addr} {n c k : Nat} {l : List CaseC} (h : CasesC w (.slice A n c) l) (hk : k < l.length) : ∃ b o x, A = some ⟨b, o, none⟩ ∧ l[k]? = some x ∧ U64 x.val ∧
    ∀ M w', Chg M w w' → (∀ b, ¬ M b 52) → w'.cell? ⟨b, o + k * 3 + 2, none⟩ = some (.int .u64 x.val) := by
  obtain ⟨b, o, x, cs, hA, hx, _, ⟨rfl, h2, h3⟩, h4⟩ := SlR.at3' h hk
  exact ⟨b, o, x, hA, hx, h3, fun M w' hc hm => h4 M w' hc ⟨fun b _ hb => absurd hb (Nat.not_lt_zero _), fun _ => hm⟩ 2 _ rfl⟩
theorem recv_end {W : World} {xs : List Nat} {x : Nat} {A : Option Addr} {n c : Nat} (hq : QR W 41 (.slice A n c) (u64V (x :: xs))) : ∃ gb o A1, A = some ⟨gb, o, none⟩ ∧ 1 ≤ c ∧ gb < W.heap.size ∧ W.cell? ⟨gb, o, none⟩ = some (.int .u64 (x : Int)) ∧
    (if c = 1 then some (⟨gb, o, none⟩ : Addr) else some ⟨gb, o + 1, none⟩) = some A1 ∧ A1.block = gb ∧ QR W 41 (.slice (some A1) xs.length (c - 1)) (u64V xs) := by
  obtain ⟨g, o, cap, rfl, hn, rfl, hc, hm, hlt, hcell, h1, h2⟩ := QR.pop (xs := u64V xs) (x := .int .u64 (x : Int)) hq
  rw [u64V_len] at h1 h2 hc
  by_cases h : c = 1
  · exact ⟨g, o, ⟨g, o, none⟩, rfl, by omega, hlt, hcell, by simp [h], rfl, by rw [h]; exact h2 h⟩
  · exact ⟨g, o, ⟨g, o + 1, none⟩, rfl, by omega, hlt, hcell, by simp [h], rfl, h1⟩
theorem SmallH.setCh {H : HubD} (h : SmallH H) (k : Nat) (ch : ChanD) : SmallH (setCh H k ch) := ⟨by simpa [Go.Proofs.Ytclllnoohoonoaa.setCh] using h.list, h.wait, h.cases⟩
theorem HubP.comp {G G1 : Nat → Prop} {w w1 w' : World} {p : Nat} {H' : HubD} (hsub : ∀ b, G1 b → G b ∨ w.heap.size ≤ b) (hch : Chg (MI G) w w1) (k : HubP G1 w1 w' p H') : HubP G w w' p H' := by
  obtain ⟨G'', k1, k2, k3⟩ := k
  refine ⟨G'', k1, fun b hb => ?_, hch.trans_le k3 fun b t hb h => ?_⟩
  · rcases k2 b hb with h | h
    · exact hsub b h
    · exact .inr (Nat.le_trans hch.size h)
  · rcases hsub b h.1 with h' | h'
    · exact ⟨h', h.2⟩
    · omega
set_option maxRecDepth 100000 in
set_option maxHeartbeats 4000000 in
theorem recv_any (w : World) (G : Nat → Prop) (p : Nat) (H : HubD) (hH : HubR G w p H) (hs : SmallH H) (hok : okH H) (k : Nat) (hkl : k < H.list.length) :
    Calls Try.prog 30 #[.pointer (some ⟨p, 0, none⟩), .int .i64 ((k : Int) + 1)] w (RecvRes (recvC H ((k : Int) + 1)).2 G p (recvC H ((k : Int) + 1)).1 w) := by
  obtain ⟨i8, hi8, hz8, hs8, hb8⟩ := info_parts infoU64
  have hlt := fun b hb => hH.lt (b := b) hb
  have hH0 := hH
  obtain ⟨A, cc, A', c', hI⟩ := hH
  obtain ⟨g, ch, v, rfl, hlc, hkx, hGg, hgb, hsi, hq, hu, hvG, z0, z1, z2, hfz⟩ := hI.chans.at_ hkl
  obtain ⟨o0, o1, o2⟩ := hok k ch hkx
  obtain ⟨nA, cq, hv, hnn⟩ := hq.form
  rw [u64V_len] at hv hnn
  subst hv
  have hkb : (k : Int) ≤ 1099511627776 := by have := hs.list; omega
  have hk0 : (0 : Int) ≤ (k : Int) := by omega
  have hk1 : (k : Int) < (H.list.length : Int) := by omega
  have hw1 : IntKind.i64.wrap ((k : Int) + 1 - 1) = (k : Int) := by rw [show ((k : Int) + 1 - 1) = (k : Int) by omega]; exact IntWalk.i64_in _ (by omega)
  have hbl : ch.buf.length ≤ 1024 := by omega
  obtain ⟨d0, d1⟩ := hI.blk.cells2
  have hgl : g < w.heap.size := hgb.choose_spec.lt
  have hpl : p < w.heap.size := hI.blk.lt
  have hwt := hI.waits.slr (by decide) 0
  have HH := Lib.hid (And.intro hH0 (And.intro hs (And.intro hok (And.intro hI (And.intro hlt (And.intro hkx (And.intro hsi (And.intro hq (And.intro hu (And.intro z1 hwt))))))))))
  clear hH0 hs hok hI hlt hsi hwt hvG hGg o0 o1 o2
  cases hf : findW ((k : Int) + 1) true H.wait with
  | none =>
    cases hbuf : ch.buf with
    | nil =>
      have hrec : recvC H ((k : Int) + 1) = (H, 0, false, []) := by
        simp only [recvC]
        rw [show ((k : Int) + 1 - 1).toNat = k by omega, hkx]
        simp only [hbuf, hf]
      rw [hrec]
      have HF := Lib.hid (And.intro hf hbuf)
      rw [hbuf] at z1
      clear hf hrec hbuf hq hu hkx hfz hgb hnn hbl
      go_enter Try.func30, Try.ntmps30
      go_wp2_with fail
      refine (find_any _ G p H HH.out.1 ((k : Int) + 1) true HH.out.2.1).mono fun e w2 hh => ?_
      obtain ⟨rfl, hc2⟩ := hh
      rw [HF.out.1]
      unfold findV
      have y1 := hc2.cell z1 fun _ => id
      have H2 := Lib.hid hc2
      clear hc2
      go_wp2
      go_ret3
      exact ⟨_, rfl, SrvsT.nil _ _, HubP.same HH.out.1 H2.out⟩
    | cons x r =>
      have hrec : recvC H ((k : Int) + 1) = (setCh H k { ch with buf := r }, x, true, []) := by
        simp only [recvC]
        rw [show ((k : Int) + 1 - 1).toNat = k by omega, hkx]
        simp only [hbuf, hf]
      rw [hrec]
      have HF := Lib.hid (And.intro hf hbuf)
      rw [hbuf] at z1 hq hbl hu
      obtain ⟨gb, ob, A1, rfl, hcq, hgbl, hxc, hA1, hA1b, hq1⟩ := recv_end hq
      have HQ := Lib.hid (And.intro hq1 (And.intro hA1b hu))
      simp only [List.length_cons] at z1 hbl
      clear hf hrec hbuf hq hu hkx hfz hgb hnn hq1 hA1b
      go_enter Try.func30, Try.ntmps30
      go_wp2_with fail
      refine (find_any _ G p H HH.out.1 ((k : Int) + 1) true HH.out.2.1).mono fun e w2 hh => ?_
      obtain ⟨rfl, hc2⟩ := hh
      rw [HF.out.1]
      unfold findV
      have y1 := hc2.cell z1 fun _ => id
      have yx := hc2.cell hxc fun _ => id
      obtain ⟨hI2, hsub, hch, hcell, hfz⟩ := (HH.out.2.2.2.1.keep hc2 (fun _ _ _ => id) (fun _ => id)).setCoreI (x' := { ch with buf := r }) (j := 1) (u := .slice (some A1) r.length (cq - 1)) HH.out.2.2.2.2.2.1 y1 (Chg.refl _ _) (by decide) rfl HH.out.2.2.2.2.2.2.1 (HQ.out.1.keep hc2 fun _ _ => id) (fun y hy => HQ.out.2.2 y (by simp [hy])) (fun b hb => .inl (by
        have : A1.block = b := by simpa [Value.ownBlock] using hb
        subst this
        simp [Value.ownBlock, HQ.out.2.1]))
      have y1z := hfz (k * 3 + 1)
      have H2 := Lib.hid (And.intro hc2 (And.intro hI2 (And.intro hsub hch)))
      clear hc2 hI2 hsub hch hcell hfz
      go_wp2
      go_ret3
      exact ⟨_, rfl, SrvsT.nil _ _, HubP.trans_new H2.out.1 ⟨_, ⟨_, _, _, _, H2.out.2.1⟩, H2.out.2.2.1, H2.out.2.2.2⟩ HH.out.2.2.2.2.1⟩
  | some ik =>
    obtain ⟨i, k'⟩ := ik
    obtain ⟨xw, hxw, hcase⟩ := findW_some hf
    have hil := findW_lt hf
    have hjl := caseAt_lt hcase
    obtain ⟨bw, ow, xw', A3, c3, hA3, hxw', _, hcs3, hz3⟩ := WaitsR.at3 HH.out.2.2.2.2.2.2.2.2.2.2 hil
    have hxx : xw' = xw := by rw [hxw] at hxw'; injection hxw' with h; exact h.symm
    subst hxx
    subst hA3
    obtain ⟨bc, oc, y, rfl, hyk, hyu, hz4⟩ := hcs3.at3 hjl
    have hval : valOf H i k' = y.val := by simp [valOf, hxw, List.getElem?_map, hyk]
    have hiI : (0 : Int) ≤ (i : Int) := by omega
    have hiJ : (i : Int) < (H.wait.length : Int) := by omega
    have hkI : (0 : Int) ≤ (k' : Int) := by omega
    have hkJ : (k' : Int) < (xw'.cases.length : Int) := by omega
    have HZ := Lib.hid (And.intro hz3 (And.intro hz4 hyu))
    clear hcase hxw hxw' hcs3 hyk hz3 hz4
    cases hbuf : ch.buf with
    | nil =>
      have hrec : recvC H ((k : Int) + 1) = (unwait H i, valOf H i k', true, [srvOf H i k' 0 true]) := by
        simp only [recvC]
        rw [show ((k : Int) + 1 - 1).toNat = k by omega, hkx]
        simp only [hbuf, hf]
      obtain ⟨sv, hsv⟩ : ∃ sv, srvOf H i k' 0 true = sv := ⟨_, rfl⟩
      rw [hrec, hsv, hval]
      have HF := Lib.hid (And.intro hf (And.intro hbuf hsv))
      rw [hbuf] at z1
      clear hf hrec hbuf hq hu hkx hfz hgb hnn hbl hval hsv
      go_enter Try.func30, Try.ntmps30
      go_wp2_with fail
      refine (find_any _ G p H HH.out.1 ((k : Int) + 1) true HH.out.2.1).mono fun e w2 hh => ?_
      obtain ⟨rfl, hc2⟩ := hh
      rw [HF.out.1]
      unfold findV
      have y1 := hc2.cell z1 fun _ => id
      have e0 := hc2.cell d0 fun _ => id
      have e1 := hc2.cell d1 fun _ => id
      obtain ⟨v0, v1⟩ := HZ.out.1 _ _ hc2 fun _ => id
      have v2 := HZ.out.2.1 _ _ hc2 fun _ => id
      have H2 := Lib.hid hc2
      clear hc2
      go_wp2_with fail
      have hserve := serve_any _ G p H (HH.out.1.keep H2.out (fun _ _ _ => id) (fun _ => id)) HH.out.2.1 i k' 0 true hil
      refine hserve.mono fun e w3 hh => ?_
      clear hserve
      obtain ⟨rfl, hP⟩ := hh
      have HP := Lib.hid hP
      clear hP
      rw [HF.out.2.2]
      unfold srvAgg
      go_wp2
      go_ret3
      exact ⟨_, rfl, SrvsT.one (Blk.new _ _ _), (HubP.trans_new H2.out HP.out HH.out.2.2.2.2.1).then_new (chg_alloc _ _)⟩
    | cons x r =>
      have hrec : recvC H ((k : Int) + 1) = (unwait (setCh H k { ch with buf := r ++ [valOf H i k'] }) i, x, true, [srvOf H i k' 0 true]) := by
        simp only [recvC]
        rw [show ((k : Int) + 1 - 1).toNat = k by omega, hkx]
        simp only [hbuf, hf]
      obtain ⟨sv, hsv⟩ : ∃ sv, srvOf H i k' 0 true = sv := ⟨_, rfl⟩
      rw [hrec, hsv, hval]
      have HF := Lib.hid (And.intro hf (And.intro hbuf (And.intro hsv hkx)))
      rw [hbuf] at z1 hq hbl hu
      obtain ⟨gb, ob, A1, rfl, hcq, hgbl, hxc, hA1, hA1b, hq1⟩ := recv_end hq
      have HQ := Lib.hid (And.intro hq1 (And.intro hA1b hu))
      simp only [List.length_cons] at z1 hbl
      clear hf hrec hbuf hq hu hkx hfz hgb hnn hq1 hA1b hval hsv
      go_enter Try.func30, Try.ntmps30
      go_wp2_with fail
      refine (find_any _ G p H HH.out.1 ((k : Int) + 1) true HH.out.2.1).mono fun e w2 hh => ?_
      obtain ⟨rfl, hc2⟩ := hh
      rw [HF.out.1]
      unfold findV
      have y1 := hc2.cell z1 fun _ => id
      have yx := hc2.cell hxc fun _ => id
      have hI2k := HH.out.2.2.2.1.keep hc2 (fun _ _ _ => id) (fun _ => id)
      obtain ⟨hI2, hsub, hch, hcell, hfz⟩ := hI2k.setCoreI (x' := { ch with buf := r }) (j := 1) (u := .slice (some A1) r.length (cq - 1)) HH.out.2.2.2.2.2.1 y1 (Chg.refl _ _) (by decide) rfl HH.out.2.2.2.2.2.2.1 (HQ.out.1.keep hc2 fun _ _ => id) (fun y hy => HQ.out.2.2 y (by simp [hy])) (fun b hb => .inl (by
        have : A1.block = b := by simpa [Value.ownBlock] using hb
        subst this
        simp [Value.ownBlock, HQ.out.2.1]))
      have y1z := hfz (k * 3 + 1)
      obtain ⟨xss, cg, hbg, _⟩ : ∃ (xss : Nat) (cur : Array Value), Blk w2 g 78 cur ∧ True := by
        obtain ⟨g', _, _, hA', _, _, _, ⟨cur, hcur⟩, _⟩ := hI2k.chans.at_ hkl
        injection hA' with hA'
        injection hA' with hA'
        subst hA'
        exact ⟨0, cur, hcur, trivial⟩
      have hset := chg_set (j := k * 3 + 1) hbg (.slice (some A1) r.length (cq - 1))
      have hc3 := (hc2.mono (M' := fun b t => b = g ∧ t = 78) fun _ _ _ h => h.elim).trans hset
      obtain ⟨v0, v1⟩ := HZ.out.1 _ _ hc3 fun b h => absurd h.2 (by decide)
      have v2 := HZ.out.2.1 _ _ hc3 fun b h => absurd h.2 (by decide)
      have t1 : (w2.setCell ⟨g, k * 3 + 1, none⟩ (.slice (some A1) r.length (cq - 1))).cell? ⟨g, k * 3 + 1, none⟩ = some (.slice (some A1) r.length (cq - 1)) := by
        have := (hbg.set_ (k * 3 + 1) (.slice (some A1) r.length (cq - 1))).cell (k * 3 + 1)
        rw [hbg.cell] at y1
        rw [this, Array.getElem?_setIfInBounds_self, if_pos (Array.getElem?_eq_some_iff.1 y1).1]
      have e1 : (w2.setCell ⟨g, k * 3 + 1, none⟩ (.slice (some A1) r.length (cq - 1))).cell? ⟨p, 1, none⟩ = some (.slice (some ⟨bw, ow, none⟩) H.wait.length c') := hI2.blk.cells2.2
      have hszs : (w2.setCell ⟨g, k * 3 + 1, none⟩ (.slice (some A1) r.length (cq - 1))).heap.size = w2.heap.size := by simp [World.setCell]
      have hsz2 := hc2.size
      have H2 := Lib.hid (And.intro hc2 (And.intro hI2 (And.intro hsub (And.intro hch (And.intro t1 (HQ.out.1.keep hc3 fun b hb h => absurd h.2 (by decide)))))))
      have HS := Lib.hid hszs
      clear hc2 hI2 hsub hch hcell hfz hbg hset hc3 hI2k hszs
      have hset2 : setCh (setCh H k { ch with buf := r }) k { ch with buf := r ++ [y.val] } = setCh H k { ch with buf := r ++ [y.val] } := by simp [setCh]
      have hk1x : (setCh H k { ch with buf := r }).list[k]? = some { ch with buf := r } := by simp [setCh, hkl]
      have HK := Lib.hid (And.intro hset2 hk1x)
      have hyv := HZ.out.2.2
      clear hset2 hk1x
      go_wp2_with fail
      generalize w2.setCell ⟨g, k * 3 + 1, none⟩ (.slice (some A1) r.length (cq - 1)) = w3 at v0 v1 v2 t1 e1 H2 HS ⊢
      have t1n : ∀ n, ((w3.drewN n).alloc (.cells #[.int .u64 y.val] 41)).cell? ⟨g, k * 3 + 1, none⟩ = some (.slice (some A1) r.length (cq - 1)) := fun n => (((Chg.refl (fun _ _ => False) w3).drewN n).alloc _).cell t1 fun _ => id
      have t1a : (w3.alloc (.cells #[.int .u64 y.val] 41)).cell? ⟨g, k * 3 + 1, none⟩ = some (.slice (some A1) r.length (cq - 1)) := t1n 0
      clear y1 yx y1z
      go_region_law (
        refine step_append_q _ rfl (.tmp 70) (.tmp 83) 34 rfl 41 i8 (.int .u64 0) 8 Try.underlying34 hi8 hz8 hs8 hb8 rfl (.slice (some A1) r.length (cq - 1)) (u64V r) (by simp [Act.eval, Act.put]) (H2.out.2.2.2.2.2.keep (by repeat' (first | exact Chg.refl (fun _ _ => False) _ | apply Chg.drew | apply Chg.drewN | apply Chg.alloc)) fun _ _ => id) _ _ (.int .u64 y.val) (by rfl) (by first | rfl | exact cell_new1 _ _ _ | (simp only [World.cell?_drew]; exact cell_new1 _ _ _)) rfl (by rw [u64V_len]; unfold maxLen; omega) (by rw [u64V_len]; omega) ?_
        intro A4 c4 w4 hq4 hg4 hb4
        obtain ⟨hP, f0, f1⟩ := push_end (ch := { ch with buf := r }) H2.out.2.1 HK.out.2 HH.out.2.2.2.2.2.2.1 H2.out.2.2.2.2.1 H2.out.2.2.2.2.2 (fun y hy => HQ.out.2.2 y (by simp [hy])) hyv (by repeat' (first | exact Chg.refl (fun _ _ => False) _ | apply Chg.drew | apply Chg.drewN | apply Chg.alloc)) hg4 hq4 hb4
        have HP := Lib.hid hP
        clear hq4 hg4 hb4 hP)
      all_goals
        have hP2 := HubP.comp H2.out.2.2.1 H2.out.2.2.2.1 HP.out
        simp only at hP2
        rw [HK.out.1] at hP2
        obtain ⟨G2, hR2, hsub2, hch2⟩ := hP2
        have HR := Lib.hid (And.intro hR2 (And.intro hsub2 hch2))
        clear hR2 hsub2 hch2 f0 f1 t1n t1a
        go_wp2_with fail
        have hserve := serve_any _ G2 p _ HR.out.1 (HH.out.2.1.setCh k _) i k' 0 true hil
        refine hserve.mono fun e w5 hh => ?_
        clear hserve
        obtain ⟨rfl, hP⟩ := hh
        have hs5 : srvOf (setCh H k { ch with buf := r ++ [y.val] }) i k' 0 true = sv := HF.out.2.2.1
        rw [hs5]
        have HP5 := Lib.hid hP
        clear hP hs5
        unfold srvAgg
        go_wp2
        go_ret3
        exact ⟨_, rfl, SrvsT.one (Blk.new _ _ _), (HubP.trans_new H2.out.1 (HubP.comp HR.out.2.1 HR.out.2.2 HP5.out) HH.out.2.2.2.2.1).then_new (chg_alloc _ _)⟩
end Go.Proofs.Ytclllnoohoonoaa
