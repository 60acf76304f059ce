/-
  slices.AppendSeq, Collect and Sorted over the keys of a map.
-/
import Derived.Test.YteigopmdhhgnfaaHKeys
import Derived.Test.YteigopmdhhgnfaaHpMark
import Derived.Test.YteigopmdhhgnfaaHShelf
import Derived.Sort.OwnSortedInts
namespace Go.Proofs.Yteigopmdhhgnfaa
open Go.RowKit
attribute [local go_sem] Oper.semAt_some
set_option linter.unusedVariables false
set_option linter.unusedSimpArgs false

/-- The keys of f, each once. -/
def KeysOf (f : Int → Option Value) (zs : List Int) : Prop := zs.Nodup ∧ (∀ z ∈ zs, I64 z ∧ (f z).isSome = true) ∧ ∀ z, I64 z → (f z).isSome = true → z ∈ zs
/-- Between two rounds: what has been handed out lies in the box's own row. -/
def asI (f : Int → Option Value) (g D : Nat) (W0 : World) (h : List Value) (O : Nat → Prop) (W : World) : Prop :=
  ∃ (zs : List Int) (A : Option Addr) (c : Nat), h = zs.map (Value.int .i64) ∧ zs.Nodup ∧ (∀ z ∈ zs, I64 z ∧ (f z).isSome = true) ∧ Blk W g 24 #[.slice A zs.length c] ∧ RowR D 3 1 IntZ W A c zs ∧ (∀ q, O q ↔ q = g ∨ OwnB A zs.length c q) ∧ (∀ q, OwnB A zs.length c q → W0.heap.size ≤ q) ∧ Chg (fun q _ => q = g) W0 W
theorem asI.keep {f : Int → Option Value} {g D : Nat} {W0 : World} {h : List Value} {O : Nat → Prop} {A B : World} (k : asI f g D W0 h O A) (hc : ChgL W0.heap.size A B) : asI f g D W0 h O B := by
  obtain ⟨zs, R, c, h1, h2, h3, h4, h5, h6, h7, h8⟩ := k
  exact ⟨zs, R, c, h1, h2, h3, hc.blk h4 fun h => absurd h.2 (by decide), h5.keep1 hc (fun _ _ h => absurd h.2 (by decide)) fun _ _ h => h, h6, h7, h8.trans_le hc fun b t hb h => by have := h.1; omega⟩
theorem asI.own {f : Int → Option Value} {g D : Nat} {W0 : World} {h : List Value} {O : Nat → Prop} {A : World} (k : asI f g D W0 h O A) (hg : D ≤ g) (hD : D ≤ W0.heap.size) : ∀ q, O q → D ≤ q ∧ q < A.heap.size := by
  obtain ⟨zs, R, c, h1, h2, h3, h4, h5, h6, h7, h8⟩ := k
  intro q hq
  rcases (h6 q).1 hq with rfl | hq
  · exact ⟨hg, h4.lt⟩
  · exact ⟨Nat.le_trans hD (h7 q hq), (h5.lt hq).1⟩
set_option maxRecDepth 100000 in
set_option maxHeartbeats 4000000 in
theorem appendSeq_any (w : World) (gf : FuncId) (lb : Array Value) (f : Int → Option Value) (eg : ∀ args w, (callFunc gf args).run Try.prog w = .ok (.enter gf args) w) (hseq : ∀ W0, Chg (fun _ _ => False) w W0 → WalksL Try.prog gf lb w.heap.size (KeyG f) (KeyF f) W0)
    (hN : ∀ zs : List Int, zs.Nodup → (∀ z ∈ zs, I64 z ∧ (f z).isSome = true) → zs.length ≤ 1048576) :
    Calls Try.prog 51 #[.slice none 0 0, .func (.func gf) #[] lb] w fun e w' => ∃ zs A c, e = .returned (.slice A zs.length c) ∧ RowR w.heap.size 3 1 IntZ w' A c zs ∧ KeysOf f zs ∧ Chg (fun _ _ => False) w w' := by
  obtain ⟨i0, hi0, hz0, hs0, hb0⟩ := info_parts infoInt
  have hb2 := Blk.new w 24 #[.slice none 0 0]
  have hc0 := chg_alloc w (.cells #[.slice none 0 0] 24)
  have HS := Lib.hid (And.intro hseq hN)
  clear hseq hN
  refine (callsIn_wide (n := 3)).1 ?_
  refine callsIn_of_wp_marks Try.func51 rfl trivial ?_ rfl
  simp only [Try.ntmps51, List.size_toArray, List.length_cons, List.length_nil, Nat.reduceAdd, Nat.reduceSub, Array.replicate_succ, Array.replicate_zero, List.push_toArray, List.append_toArray, List.nil_append, List.cons_append]
  refine wpIn_wide.2 ?_
  go_wp2_with fail
  obtain ⟨W0, hW0⟩ : ∃ W0, w.alloc (.cells #[.slice none 0 0] 24) = W0 := ⟨_, rfl⟩
  have hs0 : W0.heap.size = w.heap.size + 1 := by rw [← hW0]; simp
  rw [hW0] at hb2 hc0 ⊢
  clear hW0
  obtain ⟨g2, hg2⟩ : ∃ g2, w.heap.size = g2 := ⟨_, rfl⟩
  rw [hg2] at hb2 hs0
  have HG := Lib.hid (And.intro hg2 (And.intro hs0 hc0))
  have hwk := HS.out.1 W0 hc0
  rw [hg2] at hwk
  simp only [hg2]
  clear hs0 hc0 hg2
  refine (wpIn_wide (n := 3)).1 (range_lawL rfl eg g2 (KeyG f) (KeyF f) hwk (fun k x args A B h => by rw [h.1]; rfl) (asI f g2 g2 W0) (fun _ _ _ => False) (fun k O A B hc h => h.keep hc) (fun c k A B _ h => h)
    (fun k O A h => h.own (Nat.le_refl _) (by have := HG.out.2.1; omega)) (fun q => q = g2) ⟨[], none, 0, rfl, List.nodup_nil, fun z hz => (by cases hz), hb2, RowR.nil _ _ _ _ _, fun q => ⟨.inl, fun h => h.elim id fun h => (OwnB.none_ h).elim⟩, fun q h => (OwnB.none_ h).elim, Chg.refl _ _⟩ ?round ?done ?stop)
  case stop => intro E c k W _ h; exact h.elim
  case done =>
    intro E h O Wz hE hF hI hDf
    obtain ⟨zs, A, c, rfl, hnd, hks, hbz, hrow, hO, hOw, hch⟩ := hI
    have y2 : Wz.cell? ⟨g2, 0, none⟩ = some (.slice A zs.length c) := by simpa using hbz.cell 0
    have HQ := Lib.hid (And.intro hnd (And.intro hks (And.intro hrow (And.intro hch (And.intro hF (And.intro hDf hE))))))
    clear hnd hks hbz hrow hO hOw hch hF hDf hE hwk hb2
    go_wp2_with fail
    have hcp := chgL_put (B := E) (.deferred none) (Nat.le_refl _) HQ.out.2.2.2.2.2.1 rfl
    refine ⟨by simp, .inl ⟨_, _, rfl, run_takeDeferred HQ.out.2.2.2.2.2.1, ?_⟩⟩
    refine ⟨.slice A zs.length c, by simp [results, Try.results51, go_sem], zs, A, c, rfl, ?_, ⟨HQ.out.1, HQ.out.2.1, fun z hz hf => ?_⟩, ?_⟩
    · rw [HG.out.1]
      exact HQ.out.2.2.1.keep1 hcp (fun _ _ h => absurd h.2 (by decide)) fun _ _ h => h
    · have := HQ.out.2.2.2.2.1 z hz hf
      obtain ⟨z', hz', he⟩ := List.mem_map.1 this
      injection he with _ he
      subst he
      exact hz'
    · refine (HG.out.2.2.trans_new HQ.out.2.2.2.1 fun b t hb h => ?_).trans_new hcp fun b t hb h => ?_
      · have := HG.out.1; omega
      · have h1 := HG.out.1; have h2 := HG.out.2.1; have h3 := HQ.out.2.2.2.2.2.2; have h4 := h.1; omega
  case round =>
    intro l m k x O args Wa Wb hl hI hsz hAB hG
    obtain ⟨rfl, z, rfl, hzI, hzf, hzn⟩ := hG
    have HR := Lib.hid (And.intro hI (And.intro hsz (And.intro hAB (And.intro hzI (And.intro hzf hzn)))))
    clear hI hsz hAB hzI hzf hzn hwk hb2
    gi_wp2_with fail
    refine ⟨KeepsFrom.of_chg (Chg.refl (fun _ _ => False) Wb) fun _ _ h => h, (Chg.refl (fun _ _ => False) Wb).mono fun _ _ _ h => h.elim, fun W2 hc2 => ?_⟩
    obtain ⟨hI, hsz, hAB, hzI, hzf, hzn⟩ := HR.out
    have hcA : ChgL W0.heap.size Wa W2 := (hAB.toL _).trans hc2
    obtain ⟨zs, A, c, rfl, hnd, hks, hbz, hrow, hO, hOw, hch⟩ := hI.keep hcA
    have hlt : ∀ q, OwnB A zs.length c q → q < W2.heap.size := fun q hq => (hrow.lt hq).1
    have hD2 : g2 ≤ W2.heap.size := Nat.le_of_lt hbz.lt
    have hlen := HS.out.2 zs hnd hks
    have y2 : W2.cell? ⟨g2, 0, none⟩ = some (.slice A zs.length c) := by simpa using hbz.cell 0
    have HQ := Lib.hid (And.intro hnd (And.intro hks (And.intro hbz (And.intro hrow (And.intro hO (And.intro hOw (And.intro hch (And.intro hcA (And.intro hsz (And.intro hAB (And.intro hlt (And.intro hD2 hlen))))))))))))
    have hzn' : z ∉ zs := fun h => hzn (List.mem_map.2 ⟨z, h, rfl⟩)
    have HV := Lib.hid (And.intro hzI (And.intro hzf hzn'))
    clear hI hsz hAB hzI hzf hzn hcA hnd hks hbz hrow hO hOw hch hlt hD2 hlen hzn' hc2
    gi_wp2_with (gi_at_builtin; go_must (refine round_push1 (fun _ _ h => h) rfl (.tmp 8) (.tmp 10) 24 rfl g2 3 i0 _ 1 8 Try.underlying24 hi0 hz0 hs0 hb0 rfl (by omega) IntZ A c zs rfl (by first | rfl | simp) HQ.out.2.2.2.1 1 [.int .i64 z] z (by first | rfl | simp) (by first | rfl | simp) rfl (by intro u hu; simp at hu; subst hu; rfl) rfl (by have := HQ.out.2.2.2.2.2.2.2.2.2.2.2.2; omega) (by omega) HQ.out.2.2.2.2.2.2.2.2.2.2.2.1 (fun w' hc _ _ h => h) ?_))
    intro A6 c6 w10 hr10 hc10 hp10
    have hb := hc10.blk HQ.out.2.2.1 fun h => absurd h.2 (by decide)
    have y0 : w10.cell? ⟨g2, 0, none⟩ = some (.slice A zs.length c) := by simpa using hb.cell 0
    have y1 := hb.frozen 0
    have hset := chg_set (j := 0) hb (.slice A6 (zs.length + 1) c6)
    have hb' : Blk (w10.setCell ⟨g2, 0, none⟩ (.slice A6 (zs.length + 1) c6)) g2 24 #[.slice A6 (zs.length + 1) c6] := by simpa using hb.set_ 0 (.slice A6 (zs.length + 1) c6)
    have hcy : Chg (fun q t => (OwnB A zs.length c q ∧ t = 3) ∨ (q = g2 ∧ t = 24)) W2 (w10.setCell ⟨g2, 0, none⟩ (.slice A6 (zs.length + 1) c6)) := (hc10.mono fun _ _ _ h => .inl h).trans (hset.mono fun _ _ _ h => .inr h)
    have HZ := Lib.hid (And.intro (hr10.keep1 hset (fun _ _ h => absurd h.2 (by decide)) fun _ _ h => h) (And.intro hb' (And.intro hcy hp10)))
    clear hr10 hc10 hp10 hb hset hb' hcy y2
    gi_wp2_with fail
    have hO := HQ.out.2.2.2.2.1
    have hWW := HQ.out.2.2.2.2.2.2.2.1.size
    refine ⟨fun q => q = g2 ∨ OwnB A6 (zs.length + 1) c6 q, KeepsFrom.of_chg HZ.out.2.2.1 fun b _ h => by rcases h with h | h <;> exact absurd h.2 (by decide), HZ.out.2.2.1.mono fun b t _ h => ?_, fun q hq => ?_, ?_⟩
    · rcases h with h | h
      · exact .inl ((hO b).2 (.inr h.1))
      · exact .inl ((hO b).2 (.inl h.1))
    · rcases hq with hq | hq
      · exact .inl ((hO q).2 (.inl hq))
      · rcases HZ.out.2.2.2 q hq with h | h
        · exact .inl ((hO q).2 (.inr h))
        · exact .inr (by omega)
    · refine ⟨zs ++ [z], A6, c6, by simp, ?_, fun y hy => ?_, by simpa using HZ.out.2.1, HZ.out.1, fun q => ?_, fun q hq => ?_, ?_⟩
      · rw [List.nodup_append]
        refine ⟨HQ.out.1, by simp, fun a ha b hb he => ?_⟩
        rw [List.mem_singleton] at hb
        subst hb
        subst he
        exact HV.out.2.2 ha
      · rcases List.mem_append.1 hy with hy | hy
        · exact HQ.out.2.1 y hy
        · rw [List.mem_singleton] at hy
          subst hy
          exact ⟨HV.out.1, HV.out.2.1⟩
      · simp
      · rcases HZ.out.2.2.2 q (by simpa using hq) with h | h
        · exact HQ.out.2.2.2.2.2.1 q h
        · have h1 := HQ.out.2.2.2.2.2.2.2.2.1; omega
      · refine HQ.out.2.2.2.2.2.2.1.trans_le HZ.out.2.2.1 fun b t hb h => ?_
        rcases h with h | h
        · have h1 := HQ.out.2.2.2.2.2.1 b h.1; omega
        · exact h.1
theorem rowI {D c : Nat} {w : World} {A : Option Addr} {l : List Int} : RowR D 3 1 IntZ w A c l ↔ w.ownsRow D 3 1 (.slice A l.length c) l.length (l.map (Value.int .i64)) := by
  constructor
  · rintro ⟨xss, h1, h2, h3, h4⟩
    have : xss = l.map fun x : Int => [Value.int .i64 x] := by
      apply List.ext_getElem (by simpa using h2)
      intro k k1 k2
      have k3 : k < l.length := by simpa using k2
      have := h4 k l[k] xss[k] (List.getElem?_eq_getElem k3) (List.getElem?_eq_getElem k1)
      rw [this]
      simp
    rw [this, flat_one] at h1
    exact h1
  · intro h
    refine ⟨l.map fun x : Int => [Value.int .i64 x], by rw [flat_one]; exact h, by simp, fun cs hcs => ?_, fun k x cs hx hcs => ?_⟩
    · obtain ⟨x, _, rfl⟩ := List.mem_map.1 hcs
      rfl
    · rw [List.getElem?_map, hx] at hcs
      simp at hcs
      exact hcs.symm
theorem KeysOf.perm {f : Int → Option Value} {a b : List Int} (h : KeysOf f a) (hp : b.Perm a) : KeysOf f b :=
  ⟨hp.nodup_iff.2 h.1, fun z hz => h.2.1 z (hp.mem_iff.1 hz), fun z h1 h2 => hp.mem_iff.2 (h.2.2 z h1 h2)⟩
section
variable (w : World) (gf : FuncId) (lb : Array Value) (f : Int → Option Value) (eg : ∀ args w, (callFunc gf args).run Try.prog w = .ok (.enter gf args) w) (hseq : ∀ W0, Chg (fun _ _ => False) w W0 → WalksL Try.prog gf lb w.heap.size (KeyG f) (KeyF f) W0)
    (hN : ∀ zs : List Int, zs.Nodup → (∀ z ∈ zs, I64 z ∧ (f z).isSome = true) → zs.length ≤ 1048576)
include eg hseq hN
set_option maxRecDepth 100000 in
theorem collectI_any : Calls Try.prog 46 #[.func (.func gf) #[] lb] w fun e w' => ∃ zs A c, e = .returned (.slice A zs.length c) ∧ RowR w.heap.size 3 1 IntZ w' A c zs ∧ KeysOf f zs ∧ Chg (fun _ _ => False) w w' := by
  have hap := appendSeq_any w gf lb f eg hseq hN
  clear hseq hN eg
  go_enter Try.func46, Try.ntmps46
  go_wp2_with fail
  refine hap.mono fun e w1 h => ?_
  obtain ⟨zs, A, c, rfl, h1, h2, h3⟩ := h
  clear hap
  have HC := Lib.hid (And.intro h1 (And.intro h2 h3))
  clear h1 h2 h3
  go_wp2_with fail
  go_ret
  exact ⟨zs, A, c, rfl, HC.out⟩
set_option maxRecDepth 100000 in
/-- slices.Sorted over what an iterator of keys hands out: the keys, rising. -/
theorem sortedI_any : Calls Try.prog 36 #[.func (.func gf) #[] lb] w fun e w' => ∃ zs A c, e = .returned (.slice A zs.length c) ∧ RowR w.heap.size 3 1 IntZ w' A c zs ∧ KeysOf f zs ∧ zs.Pairwise (fun x y => x ≤ y) ∧ Chg (fun _ _ => False) w w' := by
  have hco := collectI_any w gf lb f eg hseq hN
  have HN := Lib.hid hN
  clear hseq hN eg
  go_enter Try.func36, Try.ntmps36
  go_wp2_with fail
  refine hco.mono fun e w1 h => ?_
  obtain ⟨zs, A, c, rfl, hrow, hk, hc1⟩ := h
  clear hco
  have hsl := HN.out zs hk.1 hk.2.1
  by_cases h0 : zs = []
  · subst h0
    have hso := Try.slices_Sort_int_none A c w1
    have HC := Lib.hid (And.intro hrow (And.intro hk hc1))
    clear hrow hk hc1
    simp only [List.length_nil]
    go_wp2_with fail
    refine hso.mono fun e w2 h => ?_
    obtain ⟨rfl, rfl⟩ := h
    clear hso
    go_wp2_with fail
    go_ret
    exact ⟨[], A, c, rfl, HC.out.1, HC.out.2.1, List.Pairwise.nil, HC.out.2.2⟩
  · obtain ⟨hl, h2⟩ := rowI.1 hrow
    rcases h2 with ⟨_, hz⟩ | ⟨g, cap, cur, hv, hg, hb, hnc, hm, hs, ht⟩
    · exact absurd (List.eq_nil_of_length_eq_zero hz) h0
    · injection hv with hA _ hc
      subst hA hc
      rw [Nat.mul_one] at ht
      have hso := Try.slices_Sort_int g 0 c zs w1 (holds_of_blockI hb ht) (Array.getElem?_eq_some_iff.1 hb).1 (by omega)
      have hrow' := fun n os => ownsRow_sortedI (n := n) (os := os) (ts := zs.mergeSort fun x y => decide (x ≤ y)) (ss := zs) (by simp) hg hb hnc hm hs
      have HC := Lib.hid (And.intro hrow' (And.intro hk (And.intro hc1 (And.intro hg hb))))
      clear hrow hk hc1 hrow' hb hnc hm hs ht hl h0 hg
      go_wp2_with fail
      refine hso.mono fun e w2 h => ?_
      obtain ⟨rfl, n, os, hw2⟩ := h
      clear hso
      have hgr : Chg (fun q t => q = g ∧ t = 3) w1 w2 := by
        rw [hw2]
        refine (Chg.refl _ w1).grown (grownBy_sortedI _) fun q o hq ho => ?_
        injection hq with hq
        subst hq
        rw [HC.out.2.2.2.2] at ho
        injection ho with ho
        subst ho
        exact ⟨rfl, rfl⟩
      have hr2 := HC.out.1 n os
      rw [← hw2] at hr2
      have HR := Lib.hid (And.intro hr2 hgr)
      clear hr2 hgr hw2
      go_wp2_with fail
      go_ret
      have hp : (zs.mergeSort fun x y => decide (x ≤ y)).Perm zs := List.mergeSort_perm _ _
      refine ⟨zs.mergeSort fun x y => decide (x ≤ y), some ⟨g, 0, none⟩, c, by simp, rowI.2 (by simpa using HR.out.1), HC.out.2.1.perm hp, ?_, HC.out.2.2.1.trans_new HR.out.2 fun b t hb h => ?_⟩
      · have := List.pairwise_mergeSort (le := fun x y : Int => decide (x ≤ y)) (fun a b c h1 h2 => by simp at h1 h2 ⊢; omega) (fun a b => by simp; omega) zs
        exact this.imp fun h => by simpa using h
      · have := HC.out.2.2.2.1; have := h.1; omega
end
end Go.Proofs.Yteigopmdhhgnfaa
