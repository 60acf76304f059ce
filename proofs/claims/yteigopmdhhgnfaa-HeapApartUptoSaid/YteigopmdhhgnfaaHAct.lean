/-
  An act on both heaps: both answer alike, and both are alike then.
-/
import Derived.Test.YteigopmdhhgnfaaHTwo
import Derived.Deep.RegionHeld3
namespace Go.Proofs.Yteigopmdhhgnfaa
open Go.RowKit
set_option linter.unusedVariables false
set_option linter.unusedSimpArgs false

structure HActD where
  kind : Int
  o : Int
  i : Int
  n : Nat
  refs : List Bool
  roots : List Int
def hactV (a : HActD) (A : Option Addr) (c : Nat) (B : Option Addr) (d : Nat) : Array Value := #[.int .i64 a.kind, .int .i64 a.o, .int .i64 a.i, .int .u64 (a.n : Int), .slice A a.refs.length c, .slice B a.roots.length d]
structure HActOk (base : Nat) (w : World) (a : HActD) (A : Option Addr) (c : Nat) (B : Option Addr) (d : Nat) : Prop where
  o : I64 a.o
  n : a.n < 18446744073709551616
  refs : SlR base 0 1 BoolV w (.slice A a.refs.length c) a.refs
  roots : SlR base 0 1 IntZ w (.slice B a.roots.length d) a.roots
  rI : ∀ r ∈ a.roots, I64 r
  len : a.refs.length ≤ 1048576 ∧ a.roots.length ≤ 1048576
theorem ml2_lets (base : Nat) : Lets (ML2 base) base 0 := ⟨fun b t hb hm => absurd hm.1 (by omega), fun h => absurd rfl h⟩
theorem HActOk.keep {base : Nat} {w w' : World} {a : HActD} {A B : Option Addr} {c d : Nat} (h : HActOk base w a A c B d) (hc : Chg (ML2 base) w w') : HActOk base w' a A c B d :=
  ⟨h.o, h.n, SlR.keep h.refs hc (ml2_lets base) fun _ _ h => h, SlR.keep h.roots hc (ml2_lets base) fun _ _ h => h, h.rI, h.len⟩
/-- What stands behind an act. -/
noncomputable def actT (S : List ObjD) (bud : Nat) (a : HActD) : List ObjD :=
  if a.kind = 1 then S else if a.kind = 2 then setS S a.o a.i a.n else if a.kind = 3 then S else if a.kind = 4 then collT S a.roots else if a.kind = 5 then S else if a.kind = 6 then S else allocT S bud a.refs a.roots
def HStep (base p q bud N : Nat) (S' : List ObjD) (w : World) (e : Ending) (w' : World) : Prop := e = .returned (.bool true) ∧ HTwo base w' p q bud N S' S' ∧ Chg (ML2 base) w w'
theorem HTwo.mono {base p q bud N N' : Nat} {w : World} {S1 S2 : List ObjD} (h : HTwo base w p q bud N S1 S2) (hn : N ≤ N') : HTwo base w p q bud N' S1 S2 := by
  obtain ⟨G, F, h1, h2⟩ := h
  exact ⟨G, F, h1.mono hn, h2⟩
set_option maxRecDepth 100000 in
set_option maxHeartbeats 8000000 in
theorem hact_get (w : World) (base p q bud N : Nat) (S : List ObjD) (hb : base ≤ w.heap.size) (h2 : HTwo base w p q bud N S S) (hN : N < maxLen) (a : HActD) (A : Option Addr) (c : Nat) (B : Option Addr) (d : Nat) (ha : HActOk base w a A c B d) (hk : a.kind = 1) :
    Calls Try.prog 28 #[.pointer (some ⟨p, 0, none⟩), .pointer (some ⟨q, 0, none⟩), .agg (hactV a A c B d)] w (HStep base p q bud (N + 1) (S) w) := by
  obtain ⟨kind, o, i, n, refs, roots⟩ := a
  simp only at *
  subst hk
  unfold hactV
  have hca := chg_alloc w (.cells #[.int .i64 1, .int .i64 o, .int .i64 i, .int .u64 (n : Int), .slice A refs.length c, .slice B roots.length d] 62)
  have hbx := Blk.new w 62 #[.int .i64 1, .int .i64 o, .int .i64 i, .int .u64 (n : Int), .slice A refs.length c, .slice B roots.length d]
  have HH := Lib.hid (And.intro (h2.same hca) (And.intro (ha.keep hca.no) (And.intro (Nat.le_trans hb hca.size) (And.intro hca hbx))))
  have hgd := h2.good
  obtain ⟨x0, x1, x2, x3, x4, x5⟩ := hbx.cells6
  clear h2 hb hca ha
  simp only
  obtain ⟨gv, hgv⟩ : ∃ gv, getV S o i = gv := ⟨_, rfl⟩
  obtain ⟨v, r, e0⟩ := gv
  obtain ⟨G, hG, _, _⟩ := HH.out.1.left HH.out.2.2.1
  obtain ⟨F, hF, _, _⟩ := HH.out.1.right HH.out.2.2.1
  have c1 := hget_P hG o i HH.out.2.1.o
  rw [hgv] at c1
  have HG := Lib.hid (And.intro hF hgv)
  clear hG hF hgv hbx hgd
  go_enter Try.func28, Try.ntmps28
  go_wp2_with fail
  refine c1.mono fun e w1 hh => ?_
  obtain ⟨rfl, hc1⟩ := hh
  have hb1 := hc1.blk HH.out.2.2.2.2 id
  have c2 := rcell_P (HG.out.1.keep hc1 fun _ _ _ => id) o i
  rw [HG.out.2] at c2
  clear x0 x1 x2 x3 x4 x5 c1
  obtain ⟨x0, x1, x2, x3, x4, x5⟩ := hb1.cells6
  have H1 := Lib.hid hc1
  clear hb1 hc1
  go_wp2_with fail
  refine c2.mono fun e w2 hh => ?_
  obtain ⟨rfl, hc2⟩ := hh
  have H2 := Lib.hid (H1.out.trans hc2)
  clear c2 hc2 x0 x1 x2 x3 x4 x5
  go_wp2_with fail
  go_ret
  exact ⟨by simp, (HH.out.1.same H2.out).mono (Nat.le_succ _), (HH.out.2.2.2.1.trans H2.out).no⟩
set_option maxRecDepth 100000 in
set_option maxHeartbeats 8000000 in
theorem hact_set (w : World) (base p q bud N : Nat) (S : List ObjD) (hb : base ≤ w.heap.size) (h2 : HTwo base w p q bud N S S) (hN : N < maxLen) (a : HActD) (A : Option Addr) (c : Nat) (B : Option Addr) (d : Nat) (ha : HActOk base w a A c B d) (hk : a.kind = 2) :
    Calls Try.prog 28 #[.pointer (some ⟨p, 0, none⟩), .pointer (some ⟨q, 0, none⟩), .agg (hactV a A c B d)] w (HStep base p q bud (N + 1) (setS S a.o a.i a.n) w) := by
  obtain ⟨kind, o, i, n, refs, roots⟩ := a
  simp only at *
  subst hk
  unfold hactV
  have hca := chg_alloc w (.cells #[.int .i64 2, .int .i64 o, .int .i64 i, .int .u64 (n : Int), .slice A refs.length c, .slice B roots.length d] 62)
  have hbx := Blk.new w 62 #[.int .i64 2, .int .i64 o, .int .i64 i, .int .u64 (n : Int), .slice A refs.length c, .slice B roots.length d]
  have HH := Lib.hid (And.intro (h2.same hca) (And.intro (ha.keep hca.no) (And.intro (Nat.le_trans hb hca.size) (And.intro hca hbx))))
  have hgd := h2.good
  obtain ⟨x0, x1, x2, x3, x4, x5⟩ := hbx.cells6
  clear h2 hb hca ha
  simp only
  obtain ⟨G, hG, _, hGk⟩ := (HH.out.1.same (Chg.drew (Chg.refl _ _))).left HH.out.2.2.1
  have c1 := hset_P hG o i n HH.out.2.1.o HH.out.2.1.n
  obtain ⟨E0, hE⟩ : ∃ E0, setE S o i n = E0 := ⟨_, rfl⟩
  obtain ⟨S', hS⟩ : ∃ S', setS S o i n = S' := ⟨_, rfl⟩
  rw [hS]
  rw [hE, hS] at c1
  have HG := Lib.hid (And.intro hGk (And.intro hE hS))
  clear hG hGk hE hS hbx hgd
  go_enter Try.func28, Try.ntmps28
  go_wp2_with fail
  go_region_held3 (fun w' => w'.cell? ⟨w.heap.size, 1, none⟩ = some (.int .i64 o) ∧ w'.cell? ⟨w.heap.size, 2, none⟩ = some (.int .i64 i) ∧ w'.cell? ⟨w.heap.size, 3, none⟩ = some (.int .u64 (n : Int))) (first | exact ⟨x1, x2, x3⟩ | exact ⟨t1, t2, t3⟩ | exact ⟨u1, u2, u3⟩) (
    first
      | (go_at_call 30
         refine c1.mono ?_
         rintro e w1 ⟨rfl, hP⟩
         obtain ⟨h21, hc1⟩ := HG.out.1 _ _ _ hP
         have hb1 := hc1.blk HH.out.2.2.2.2.drew (ML2_no (by decide))
         obtain ⟨_, t1, t2, t3, _, _⟩ := hb1.cells6
         obtain ⟨F, hF, _, hFk⟩ := h21.right (Nat.le_trans HH.out.2.2.1 hc1.size)
         have c2 := rput_P hF o i n HH.out.2.1.n
         rw [HG.out.2.1, HG.out.2.2] at c2
         have H1 := Lib.hid (And.intro hc1 (And.intro hFk hb1))
         clear hP h21 hc1 hb1 hF hFk)
      | (go_at_call 42
         refine c2.mono ?_
         rintro e w2 ⟨rfl, hP⟩
         obtain ⟨h22, hc2⟩ := H1.out.2.1 _ _ hP
         have hb2 := hc2.blk H1.out.2.2 (ML2_no (by decide))
         obtain ⟨_, u1, u2, u3, _, _⟩ := hb2.cells6
         have H2 := Lib.hid (And.intro h22 (H1.out.1.trans hc2))
         clear hP h22 hc2 hb2))
  go_wp2_with fail
  go_ret
  exact ⟨by simp, H2.out.1.mono (Nat.le_succ _), (HH.out.2.2.2.1.drew.no).trans H2.out.2⟩
set_option maxRecDepth 100000 in
set_option maxHeartbeats 8000000 in
theorem hact_len (w : World) (base p q bud N : Nat) (S : List ObjD) (hb : base ≤ w.heap.size) (h2 : HTwo base w p q bud N S S) (hN : N < maxLen) (a : HActD) (A : Option Addr) (c : Nat) (B : Option Addr) (d : Nat) (ha : HActOk base w a A c B d) (hk : a.kind = 3) :
    Calls Try.prog 28 #[.pointer (some ⟨p, 0, none⟩), .pointer (some ⟨q, 0, none⟩), .agg (hactV a A c B d)] w (HStep base p q bud (N + 1) (S) w) := by
  obtain ⟨kind, o, i, n, refs, roots⟩ := a
  simp only at *
  subst hk
  unfold hactV
  have hca := chg_alloc w (.cells #[.int .i64 3, .int .i64 o, .int .i64 i, .int .u64 (n : Int), .slice A refs.length c, .slice B roots.length d] 62)
  have hbx := Blk.new w 62 #[.int .i64 3, .int .i64 o, .int .i64 i, .int .u64 (n : Int), .slice A refs.length c, .slice B roots.length d]
  have HH := Lib.hid (And.intro (h2.same hca) (And.intro (ha.keep hca.no) (And.intro (Nat.le_trans hb hca.size) (And.intro hca hbx))))
  have hgd := h2.good
  obtain ⟨x0, x1, x2, x3, x4, x5⟩ := hbx.cells6
  clear h2 hb hca ha
  simp only
  obtain ⟨G, hG, _, _⟩ := HH.out.1.left HH.out.2.2.1
  obtain ⟨F, hF, _, _⟩ := HH.out.1.right HH.out.2.2.1
  have c1 := hlen_P hG o HH.out.2.1.o
  have HG := Lib.hid (And.intro hF hgd)
  clear hG hF hbx hgd
  cases hf : findO S o with
  | none =>
    have hv : lenV S o = (0, 15) := by unfold lenV; rw [hf]
    rw [hv] at c1
    have HA := Lib.hid ((atO_find S 0).1 hf)
    clear hf hv
    go_enter Try.func28, Try.ntmps28
    go_wp2_with fail
    refine c1.mono fun e w1 hh => ?_
    obtain ⟨rfl, hc1⟩ := hh
    have hb1 := hc1.blk HH.out.2.2.2.2 id
    have c2 := rat_P (HG.out.1.keep hc1 fun _ _ _ => id) o
    rw [HA.out] at c2
    clear x0 x1 x2 x3 x4 x5 c1
    obtain ⟨x0, x1, x2, x3, x4, x5⟩ := hb1.cells6
    have H1 := Lib.hid hc1
    clear hb1 hc1
    go_wp2_with fail
    refine c2.mono fun e w2 hh => ?_
    obtain ⟨rfl, hc2⟩ := hh
    have H2 := Lib.hid (H1.out.trans hc2)
    clear c2 hc2 x0 x1 x2 x3 x4 x5
    go_wp2_with fail
    go_ret
    exact ⟨by simp, (HH.out.1.same H2.out).mono (Nat.le_succ _), (HH.out.2.2.2.1.trans H2.out).no⟩
  | some x =>
    have hv : lenV S o = (x.cells.length, 0) := by unfold lenV; rw [hf]
    rw [hv] at c1
    obtain ⟨j, hj, hja⟩ := atO_idx S 0 hf
    rw [Nat.zero_add] at hja
    have hjl := (List.getElem?_eq_some_iff.1 hj).1
    have p1 : ¬ (j : Int) < 0 := by omega
    have p2 : (j : Int) < (S.length : Int) := by omega
    have HA := Lib.hid (And.intro hja hj)
    clear hf hv hja hj
    go_enter Try.func28, Try.ntmps28
    go_wp2_with fail
    refine c1.mono fun e w1 hh => ?_
    obtain ⟨rfl, hc1⟩ := hh
    have hb1 := hc1.blk HH.out.2.2.2.2 id
    have hF1 := HG.out.1.keep hc1 fun _ _ _ => id
    have c2 := rat_P hF1 o
    rw [HA.out.1] at c2
    clear x0 x1 x2 x3 x4 x5 c1
    obtain ⟨x0, x1, x2, x3, x4, x5⟩ := hb1.cells6
    have H1 := Lib.hid (And.intro hc1 hF1)
    clear hb1 hc1 hF1
    go_wp2_with fail
    refine c2.mono fun e w2 hh => ?_
    obtain ⟨rfl, hc2⟩ := hh
    have H2 := Lib.hid (H1.out.1.trans hc2)
    obtain ⟨LA, lc, hR⟩ := H1.out.2.keep hc2 fun _ _ _ => id
    clear c2 hc2 x0 x1 x2 x3 x4 x5
    have y0 : w2.cell? ⟨q, 0, none⟩ = some (.slice LA S.length lc) := by simpa using hR.blk.cell 0
    obtain ⟨gb, o', A1, c1, A2, c2, rfl, hx', _, z0, z1, z2⟩ := hR.objs.at_ hjl
    obtain rfl : o' = x := by rw [HA.out.2] at hx'; exact (Option.some.inj hx').symm
    clear hR hx'
    go_wp2_with fail
    go_ret
    exact ⟨by simp, (HH.out.1.same H2.out).mono (Nat.le_succ _), (HH.out.2.2.2.1.trans H2.out).no⟩
set_option maxRecDepth 100000 in
set_option maxHeartbeats 8000000 in
theorem hact_coll (w : World) (base p q bud N : Nat) (S : List ObjD) (hb : base ≤ w.heap.size) (h2 : HTwo base w p q bud N S S) (hN : N < maxLen) (a : HActD) (A : Option Addr) (c : Nat) (B : Option Addr) (d : Nat) (ha : HActOk base w a A c B d) (hk : a.kind = 4) :
    Calls Try.prog 28 #[.pointer (some ⟨p, 0, none⟩), .pointer (some ⟨q, 0, none⟩), .agg (hactV a A c B d)] w (HStep base p q bud (N + 1) (collT S a.roots) w) := by
  obtain ⟨kind, o, i, n, refs, roots⟩ := a
  simp only at *
  subst hk
  unfold hactV
  have hca := chg_alloc w (.cells #[.int .i64 4, .int .i64 o, .int .i64 i, .int .u64 (n : Int), .slice A refs.length c, .slice B roots.length d] 62)
  have hbx := Blk.new w 62 #[.int .i64 4, .int .i64 o, .int .i64 i, .int .u64 (n : Int), .slice A refs.length c, .slice B roots.length d]
  have HH := Lib.hid (And.intro (h2.same hca) (And.intro (ha.keep hca.no) (And.intro (Nat.le_trans hb hca.size) (And.intro hca hbx))))
  have hgd := h2.good
  obtain ⟨x0, x1, x2, x3, x4, x5⟩ := hbx.cells6
  clear h2 hb hca ha
  simp only
  have c0 := ints12_any base (w.alloc (.cells #[.int .i64 4, .int .i64 o, .int .i64 i, .int .u64 (n : Int), .slice A refs.length c, .slice B roots.length d] 62)) roots B d HH.out.2.1.roots HH.out.2.1.len.2
  clear hbx hgd
  obtain ⟨E, hE⟩ : ∃ E, collE S roots = E := ⟨_, rfl⟩
  obtain ⟨E1, E2⟩ := E
  have HE := Lib.hid hE
  clear hE
  go_enter Try.func28, Try.ntmps28
  go_wp2_with fail
  refine c0.mono fun e w1 hh => ?_
  obtain ⟨RA, rc, rfl, hrow, hc1⟩ := hh
  have hb1 := hc1.blk HH.out.2.2.2.2 id
  have hs1 := Nat.le_trans HH.out.2.2.1 hc1.size
  obtain ⟨G, hG, _, hGk⟩ := (HH.out.1.same hc1).left hs1
  have c1 := hcoll_P hG ((hrow.slr (by decide) 0).settle fun _ _ h => h) (Nat.le_refl _) HH.out.2.1.rI HH.out.2.1.len.2
  rw [HE.out] at c1
  clear x0 x1 x2 x3 x4 x5 c0
  have H1 := Lib.hid (And.intro hc1 (And.intro hGk (And.intro hb1 hs1)))
  clear hb1 hc1 hrow hG hGk hs1
  go_wp2_with fail
  refine c1.mono fun e w2 hh => ?_
  obtain ⟨rfl, hP⟩ := hh
  obtain ⟨h22, hc2⟩ := H1.out.2.1 _ _ _ hP
  have hb2 := hc2.blk H1.out.2.2.1 (ML2_no (by decide))
  obtain ⟨x0, x1, x2, x3, x4, x5⟩ := hb2.cells6
  have hs2 := Nat.le_trans H1.out.2.2.2 hc2.size
  obtain ⟨F, hF, _, hFk⟩ := h22.right hs2
  have c2 := rcoll_P hF (HH.out.2.1.keep (H1.out.1.no.trans hc2)).roots HH.out.2.1.len.2
  rw [HE.out] at c2
  have H2 := Lib.hid (And.intro (H1.out.1.no.trans hc2) hFk)
  clear c1 hP h22 hc2 hb2 hs2 hF hFk
  go_wp2_with fail
  refine c2.mono fun e w3 hh => ?_
  obtain ⟨rfl, hP⟩ := hh
  obtain ⟨h23, hc3⟩ := H2.out.2 _ _ hP
  have H3 := Lib.hid (And.intro h23 (H2.out.1.trans hc3))
  clear c2 hP h23 hc3 x0 x1 x2 x3 x4 x5
  go_wp2_with fail
  go_ret
  exact ⟨by simp, H3.out.1.mono (Nat.le_succ _), HH.out.2.2.2.1.no.trans H3.out.2⟩
set_option maxRecDepth 100000 in
set_option maxHeartbeats 8000000 in
theorem hact_reach (w : World) (base p q bud N : Nat) (S : List ObjD) (hb : base ≤ w.heap.size) (h2 : HTwo base w p q bud N S S) (hN : N < maxLen) (a : HActD) (A : Option Addr) (c : Nat) (B : Option Addr) (d : Nat) (ha : HActOk base w a A c B d) (hk : a.kind = 5) :
    Calls Try.prog 28 #[.pointer (some ⟨p, 0, none⟩), .pointer (some ⟨q, 0, none⟩), .agg (hactV a A c B d)] w (HStep base p q bud (N + 1) (S) w) := by
  obtain ⟨kind, o, i, n, refs, roots⟩ := a
  simp only at *
  subst hk
  unfold hactV
  have hca := chg_alloc w (.cells #[.int .i64 5, .int .i64 o, .int .i64 i, .int .u64 (n : Int), .slice A refs.length c, .slice B roots.length d] 62)
  have hbx := Blk.new w 62 #[.int .i64 5, .int .i64 o, .int .i64 i, .int .u64 (n : Int), .slice A refs.length c, .slice B roots.length d]
  have HH := Lib.hid (And.intro (h2.same hca) (And.intro (ha.keep hca.no) (And.intro (Nat.le_trans hb hca.size) (And.intro hca hbx))))
  have hgd := h2.good
  obtain ⟨x0, x1, x2, x3, x4, x5⟩ := hbx.cells6
  clear h2 hb hca ha
  simp only
  have c0 := ints12_any base (w.alloc (.cells #[.int .i64 5, .int .i64 o, .int .i64 i, .int .u64 (n : Int), .slice A refs.length c, .slice B roots.length d] 62)) roots B d HH.out.2.1.roots HH.out.2.1.len.2
  have hlen : (if knownO S roots = true then reachL S roots else []).length ≤ 1048576 := by
    split
    · have h1 : (reachL S roots).length ≤ S.length := by unfold reachL liveO; rw [List.length_map]; exact List.length_filter_le _ _
      have h2 := len_le_used S
      omega
    · simp
  obtain ⟨E, hE⟩ : ∃ E : Int, (if knownO S roots = true then 0 else 15) = E := ⟨_, rfl⟩
  have HE := Lib.hid (And.intro hE hlen)
  clear hE hlen hbx hgd
  go_enter Try.func28, Try.ntmps28
  go_wp2_with fail
  refine c0.mono fun e w1 hh => ?_
  obtain ⟨RA, rc, rfl, hrow, hc1⟩ := hh
  have hb1 := hc1.blk HH.out.2.2.2.2 id
  have hs1 := Nat.le_trans HH.out.2.2.1 hc1.size
  obtain ⟨G, hG, _, _⟩ := (HH.out.1.same hc1).left hs1
  have c1 := hreach_P hG ((hrow.slr (by decide) 0).settle fun _ _ h => h) (Nat.le_refl _) HH.out.2.1.rI HH.out.2.1.len.2
  rw [HE.out.1] at c1
  clear x0 x1 x2 x3 x4 x5 c0
  have H1 := Lib.hid (And.intro hc1 (And.intro hb1 hs1))
  clear hb1 hc1 hrow hG hs1
  go_wp2_with fail
  refine c1.mono fun e w2 hh => ?_
  obtain ⟨zs, A3, c3, rfl, hr3, hz, hc2⟩ := hh
  have hb2 := hc2.blk H1.out.2.1 id
  obtain ⟨x0, x1, x2, x3, x4, x5⟩ := hb2.cells6
  have hc02 := H1.out.1.trans hc2
  obtain ⟨F, hF, _, _⟩ := (HH.out.1.same hc02).right (Nat.le_trans H1.out.2.2 hc2.size)
  have c2 := rreach_P hF (HH.out.2.1.keep hc02.no).roots HH.out.2.1.len.2
  rw [HE.out.1] at c2
  have H2 := Lib.hid (And.intro hc02 (And.intro hr3 hz))
  clear c1 hc2 hb2 hF hc02 hr3 hz
  go_wp2_with fail
  refine c2.mono fun e w3 hh => ?_
  obtain ⟨zs', A4, c4, rfl, hr4, hz', hc3⟩ := hh
  obtain rfl : zs' = zs := hz'.trans H2.out.2.2.symm
  have c5 := sameI12 _ _ w3 A3 A4 c3 c4 zs' (((H2.out.2.1.keep hc3 (fun _ _ => id) fun _ _ h => h).slr (by decide) 0).settle fun _ _ h => h) ((hr4.slr (by decide) 0).settle fun _ _ h => h) (by rw [hz']; exact HE.out.2)
  have H3 := Lib.hid (H2.out.1.trans hc3)
  clear c2 hr4 hz' hc3 x0 x1 x2 x3 x4 x5
  go_wp2_with fail
  refine c5.mono fun e w4 hh => ?_
  obtain ⟨rfl, hc4⟩ := hh
  have H4 := Lib.hid (H3.out.trans hc4)
  clear c5 hc4
  go_wp2_with fail
  go_ret
  exact ⟨by simp, (HH.out.1.same H4.out).mono (Nat.le_succ _), (HH.out.2.2.2.1.trans H4.out).no⟩
set_option maxRecDepth 100000 in
set_option maxHeartbeats 8000000 in
theorem hact_six (w : World) (base p q bud N : Nat) (S : List ObjD) (hb : base ≤ w.heap.size) (h2 : HTwo base w p q bud N S S) (hN : N < maxLen) (a : HActD) (A : Option Addr) (c : Nat) (B : Option Addr) (d : Nat) (ha : HActOk base w a A c B d) (hk : a.kind = 6) :
    Calls Try.prog 28 #[.pointer (some ⟨p, 0, none⟩), .pointer (some ⟨q, 0, none⟩), .agg (hactV a A c B d)] w (HStep base p q bud (N + 1) (S) w) := by
  obtain ⟨kind, o, i, n, refs, roots⟩ := a
  simp only at *
  subst hk
  unfold hactV
  have hca := chg_alloc w (.cells #[.int .i64 6, .int .i64 o, .int .i64 i, .int .u64 (n : Int), .slice A refs.length c, .slice B roots.length d] 62)
  have hbx := Blk.new w 62 #[.int .i64 6, .int .i64 o, .int .i64 i, .int .u64 (n : Int), .slice A refs.length c, .slice B roots.length d]
  have HH := Lib.hid (And.intro (h2.same hca) (And.intro (ha.keep hca.no) (And.intro (Nat.le_trans hb hca.size) (And.intro hca hbx))))
  have hgd := h2.good
  obtain ⟨x0, x1, x2, x3, x4, x5⟩ := hbx.cells6
  clear h2 hb hca ha
  simp only
  clear hbx hgd
  go_enter Try.func28, Try.ntmps28
  go_wp2_with fail
  go_ret
  exact ⟨by simp, HH.out.1.mono (Nat.le_succ _), HH.out.2.2.2.1.no⟩
section
variable {a : Act} {w : World} {dst : Option Nat} {ty : TypeId} {pos : String} {af : Array Edge} {g : Option (Nat × Bool)}
theorem exec_faA (x : Operand) {b : Nat} (k : Nat) (hk : k < 6) (hx : a.eval x = .pointer (some ⟨b, 0, none⟩)) : (execOp a.eval { dst := dst, op := .fieldAddr 62 x k, type := ty, pos := pos, after := af, guard := g }).run Try.prog w = .ok (.value (.pointer (some ⟨b, k, none⟩))) w := by
  unfold execOp
  simp only [hx]
  match k, hk with
  | 0, _ => go_simp
  | 1, _ => go_simp
  | 2, _ => go_simp
  | 3, _ => go_simp
  | 4, _ => go_simp
  | 5, _ => go_simp
theorem exec_ldB (x : Operand) {b k n c : Nat} {A : Option Addr} (hx : a.eval x = .pointer (some ⟨b, k, none⟩)) (hc : w.cell? ⟨b, k, none⟩ = some (.slice A n c)) : (execOp a.eval { dst := dst, op := .load 23 x, type := ty, pos := pos, after := af, guard := g }).run Try.prog w = .ok (.value (.slice A n c)) w := by
  unfold execOp
  simp only [hx]
  go_simp
theorem exec_ldIs (x : Operand) {b k n c : Nat} {A : Option Addr} (hx : a.eval x = .pointer (some ⟨b, k, none⟩)) (hc : w.cell? ⟨b, k, none⟩ = some (.slice A n c)) : (execOp a.eval { dst := dst, op := .load 24 x, type := ty, pos := pos, after := af, guard := g }).run Try.prog w = .ok (.value (.slice A n c)) w := by
  unfold execOp
  simp only [hx]
  go_simp
end
theorem ints12_enters (w : World) (args : Array Value) : (callFunc 14 args).run Try.prog w = .ok (.enter 14 args) w := by
  simp [callFunc, Try.func14, go_sem]
  rw [if_neg (by decide +kernel), if_neg (fun h => by cases h)]
/-- What is got ready for an allocation leaves. -/
def argF (p gx : Nat) (refs : List Bool) (A : Option Addr) (c : Nat) (roots : List Int) (B : Option Addr) (d : Nat) (B0 : Nat) : Nat → (Nat → Value) → Nat × Nat → World → Prop
  | 0, u, _, _ => u 0 = .pointer (some ⟨p, 0, none⟩)
  | 1, u, _, w => ∃ b, u 1 = .slice (some ⟨b, 0, none⟩) 0 0 ∧ B0 ≤ b ∧ Blk w b 4 #[]
  | 2, u, _, _ => u 2 = .pointer (some ⟨gx, 4, none⟩)
  | 3, u, _, _ => u 3 = .slice A refs.length c
  | 4, u, _, w => ∃ A' c', u 4 = .slice A' refs.length c' ∧ RowR B0 4 1 BooV w A' c' refs
  | 5, u, _, _ => u 5 = .pointer (some ⟨gx, 5, none⟩)
  | 6, u, _, _ => u 6 = .slice B roots.length d
  | 7, u, _, w => ∃ A' c', u 7 = .slice A' roots.length c' ∧ RowR B0 3 1 IntZ w A' c' roots
  | _, _, _, _ => True
theorem argF_dep {p gx : Nat} {refs : List Bool} {A : Option Addr} {c : Nat} {roots : List Int} {B : Option Addr} {d B0 : Nat} {md : Region.Mode} {ops : Array Oper} (j : Nat) (val val' : Nat → Value) (r : Nat × Nat) (w : World) (h : val j = val' j) (hk : ∀ k, waitsB md ops j k = true → val k = val' k) (hF : argF p gx refs A c roots B d B0 j val r w) : argF p gx refs A c roots B d B0 j val' r w := by
  unfold argF at hF ⊢
  split at hF <;> first | (rw [← h]; exact hF) | trivial
theorem argF_mono {p gx : Nat} {refs : List Bool} {A : Option Addr} {c : Nat} {roots : List Int} {B : Option Addr} {d B0 : Nat} (j : Nat) (val : Nat → Value) (r : Nat × Nat) (w w' : World) (hc : Chg (fun _ _ => False) w w') (hF : argF p gx refs A c roots B d B0 j val r w) : argF p gx refs A c roots B d B0 j val r w' := by
  unfold argF at hF ⊢
  split at hF
  case h_2 => obtain ⟨b, h1, h2, h3⟩ := hF; exact ⟨b, h1, h2, hc.blk h3 id⟩
  case h_5 => obtain ⟨A, c, h1, h2⟩ := hF; exact ⟨A, c, h1, row_keepF h2 hc fun _ _ h => h⟩
  case h_8 => obtain ⟨A, c, h1, h2⟩ := hF; exact ⟨A, c, h1, row_keepF h2 hc fun _ _ h => h⟩
  all_goals exact hF
set_option maxRecDepth 100000 in
set_option maxHeartbeats 8000000 in
theorem hact_alloc (w : World) (base p q bud N : Nat) (S : List ObjD) (hb : base ≤ w.heap.size) (h2 : HTwo base w p q bud N S S) (hN : N < maxLen) (a : HActD) (A : Option Addr) (c : Nat) (B : Option Addr) (d : Nat) (ha : HActOk base w a A c B d) (k1 : a.kind ≠ 1) (k2 : a.kind ≠ 2) (k3 : a.kind ≠ 3) (k4 : a.kind ≠ 4) (k5 : a.kind ≠ 5) (k6 : a.kind ≠ 6) :
    Calls Try.prog 28 #[.pointer (some ⟨p, 0, none⟩), .pointer (some ⟨q, 0, none⟩), .agg (hactV a A c B d)] w (HStep base p q bud (N + 1) (allocT S bud a.refs a.roots) w) := by
  obtain ⟨kind, o, i, n, refs, roots⟩ := a
  simp only at *
  unfold hactV
  have hca := chg_alloc w (.cells #[.int .i64 kind, .int .i64 o, .int .i64 i, .int .u64 (n : Int), .slice A refs.length c, .slice B roots.length d] 62)
  have hbx := Blk.new w 62 #[.int .i64 kind, .int .i64 o, .int .i64 i, .int .u64 (n : Int), .slice A refs.length c, .slice B roots.length d]
  have HH := Lib.hid (And.intro (h2.same hca) (And.intro (ha.keep hca.no) (And.intro (Nat.le_trans hb hca.size) (And.intro hca hbx))))
  have hgd := h2.good
  obtain ⟨x0, x1, x2, x3, x4, x5⟩ := hbx.cells6
  clear h2 hb hca ha
  simp only
  have e1 : (kind == 1) = false := by simpa using k1
  have e2 : (kind == 2) = false := by simpa using k2
  have e3 : (kind == 3) = false := by simpa using k3
  have e4 : (kind == 4) = false := by simpa using k4
  have e5 : (kind == 5) = false := by simpa using k5
  have e6 : (kind == 6) = false := by simpa using k6
  clear hbx hgd k1 k2 k3 k4 k5 k6
  obtain ⟨E, hE⟩ : ∃ E, allocV S bud refs roots = E := ⟨_, rfl⟩
  obtain ⟨E1, E2⟩ := E
  obtain ⟨S', hS⟩ : ∃ S', allocT S bud refs roots = S' := ⟨_, rfl⟩
  rw [hS]
  have HE := Lib.hid (And.intro hE hS)
  clear hE hS
  go_enter Try.func28, Try.ntmps28
  go_wp2_with fail
  obtain ⟨w1, hw1⟩ : ∃ w1, w.alloc (.cells #[.int .i64 kind, .int .i64 o, .int .i64 i, .int .u64 (n : Int), .slice A refs.length c, .slice B roots.length d] 62) = w1 := ⟨_, rfl⟩
  obtain ⟨gx, hgx⟩ : ∃ gx, w.heap.size = gx := ⟨_, rfl⟩
  rw [hw1, hgx] at HH
  rw [hw1]
  simp only [hgx]
  have HX := HH
  clear x0 x1 x2 x3 x4 x5 hw1 hgx
  have hdr := (Chg.refl (fun _ _ => False) w1).drew
  refine wp_region_facts [(0, 173), (1, 174), (2, 175), (3, 176), (4, 177), (5, 178), (6, 179), (7, 180)] [] (argF p gx refs A c roots B d w1.heap.size) (by kernel_rfl) (by kernel_rfl) argF_dep argF_mono (ops_cons (OpF.run rfl rfl fun _ w' H => by
  exact ⟨_, w', exec_mv (.tmp 0), H.same 0 (by kernel_rfl), Chg.refl _ _⟩) (ops_cons (OpF.run rfl rfl fun _ w' H => by
  exact ⟨_, _, exec_bs0, ⟨_, rfl, Nat.le_trans hdr.size H.chg.size, Blk.new w' 4 _⟩, chg_alloc _ _⟩) (ops_cons (OpF.run rfl rfl fun _ w' H => by
  exact ⟨_, w', exec_faA (.tmp 5) 4 (by decide) (H.same 5 (by kernel_rfl)), rfl, Chg.refl _ _⟩) (ops_cons (OpF.run rfl rfl fun _ w' H => by
  obtain ⟨r2, h2⟩ := H.fact 2 (by kernel_rfl)
  have h2 := factH (p := fun u => u = .pointer (some ⟨gx, 4, none⟩)) (k := 2) (d := 175) h2 (by kernel_rfl)
  exact ⟨_, w', exec_ldB (.tmp 175) h2 (by simpa using ((hdr.trans H.chg).blk HX.out.2.2.2.2 id).cell 4), rfl, Chg.refl _ _⟩) (ops_cons (OpF.run rfl rfl fun _ w' H => by
  obtain ⟨r1, h1⟩ := H.fact 1 (by kernel_rfl)
  obtain ⟨b5, h1, k5, k5b⟩ := h1
  have h1 := factH (p := fun u => u = .slice (some ⟨b5, 0, none⟩) 0 0) (k := 1) (d := 174) h1 (by kernel_rfl)
  obtain ⟨r3, h3⟩ := H.fact 3 (by kernel_rfl)
  have h3 := factH (p := fun u => u = .slice A refs.length c) (k := 3) (d := 176) h3 (by kernel_rfl)
  obtain ⟨A', c', w2', hr, hrow, hch⟩ := exec_apB (.tmp 174) (.tmp 176) h1 h3 k5 k5b (SlR.keep HX.out.2.1.refs (hdr.trans H.chg) (no_letsH _ _) fun _ _ h => h) HX.out.2.1.len.1 (Nat.le_trans hdr.size H.chg.size)
  exact ⟨_, w2', hr, ⟨_, _, rfl, hrow⟩, hch⟩) (ops_cons (OpF.run rfl rfl fun _ w' H => by
  exact ⟨_, w', exec_faA (.tmp 5) 5 (by decide) (H.same 5 (by kernel_rfl)), rfl, Chg.refl _ _⟩) (ops_cons (OpF.run rfl rfl fun _ w' H => by
  obtain ⟨r5, h5⟩ := H.fact 5 (by kernel_rfl)
  have h5 := factH (p := fun u => u = .pointer (some ⟨gx, 5, none⟩)) (k := 5) (d := 178) h5 (by kernel_rfl)
  exact ⟨_, w', exec_ldIs (.tmp 178) h5 (by simpa using ((hdr.trans H.chg).blk HX.out.2.2.2.2 id).cell 5), rfl, Chg.refl _ _⟩) (ops_cons (OpF.call rfl rfl fun _ w' H => by
  obtain ⟨r6, h6⟩ := H.fact 6 (by kernel_rfl)
  have h6 := factH (p := fun u => u = .slice B roots.length d) (k := 6) (d := 179) h6 (by kernel_rfl)
  exact ⟨_, _, exec_cl _ _ _ (ints12_enters w'), by rw [h6]; exact (ints12_any base w' roots B d (SlR.keep HX.out.2.1.roots (hdr.trans H.chg) (no_letsH _ _) fun _ _ h => h) HX.out.2.1.len.2).mono fun e w2' ⟨A', c', he, hrow, hc⟩ => ⟨_, he, ⟨_, _, rfl, hrow.rebase (Nat.le_trans hdr.size H.chg.size)⟩, hc⟩⟩) ops_nil)))))))) ?_
  intro pp u r w2 hu _ _ hcw
  have e0 : u 0 = _ := hu (0, 173) (by simp)
  obtain ⟨FA, fc, e4', hr4⟩ := hu (4, 177) (by simp)
  obtain ⟨RA, rc, e7', hr7⟩ := hu (7, 180) (by simp)
  have e4' : u 4 = _ := e4'
  have e7' : u 7 = _ := e7'
  clear hu
  simp only [List.filter_nil, List.append_nil, putL, Act.put, List.setIfInBounds_toArray, List.set_cons_zero, List.set_cons_succ]
  rw [e0, e4', e7']
  clear e0 e4' e7'
  have hc2 := hdr.trans hcw
  have hs2 := Nat.le_trans HX.out.2.2.1 hc2.size
  obtain ⟨G, hG, _, hGk⟩ := (HX.out.1.same hc2).left hs2
  have c1 := halloc_P hG (hr4.slr (by decide) 0) (hr7.slr (by decide) 0) HX.out.2.1.rI HX.out.2.1.len.2 HX.out.2.1.len.1 hN
  rw [HE.out.1, HE.out.2] at c1
  have H2 := Lib.hid (And.intro hc2 (And.intro hGk hs2))
  clear hG hGk hs2 hc2 hr4 hr7 hcw hdr
  refine wpAny_ready (rs := [8]) (by kernel_rfl) (by simp) ?_
  refine AllReady.cons rfl (fun K hK => ?_) AllReady.nil
  go_simp
  go_at_call 13
  refine c1.mono ?_
  rintro e w3 ⟨rfl, hP⟩
  refine hK _ _ ?_
  clear hK K
  obtain ⟨h23, hc3⟩ := H2.out.2.1 _ _ _ hP
  have hc13 := H2.out.1.no.trans hc3
  have hb3 := hc13.blk HX.out.2.2.2.2 (ML2_no (by decide))
  obtain ⟨x0, x1, x2, x3, x4, x5⟩ := hb3.cells6
  obtain ⟨F, hF, hFb, hFk⟩ := h23.right (Nat.le_trans H2.out.2.2 hc3.size)
  have ha3 := HX.out.2.1.keep hc13
  have c2 := ralloc_P hF ha3.refs ha3.roots ⟨fun b t hb hm => absurd (hFb b hm.1) (by omega), fun h => absurd rfl h⟩ HX.out.2.1.len.2 HX.out.2.1.len.1
  rw [HE.out.1, HE.out.2] at c2
  have H3 := Lib.hid (And.intro hc13 hFk)
  clear c1 hP h23 hc3 hc13 hb3 hF hFb hFk ha3
  try simp only [Act.put, List.setIfInBounds_toArray, List.set_cons_zero, List.set_cons_succ]
  refine wpAny_ready (rs := [9]) (by kernel_rfl) (by simp) ?_
  refine AllReady.cons rfl (fun K hK => ?_) AllReady.nil
  go_simp
  refine hK _ _ ?_
  clear hK K
  try simp only [Act.put, List.setIfInBounds_toArray, List.set_cons_zero, List.set_cons_succ]
  refine wpAny_ready (rs := [10, 11]) (by kernel_rfl) (by simp) ?_
  refine (AllReady.cons rfl (fun K hK => ?_) (AllReady.cons rfl (fun K hK => ?_) AllReady.nil))
  · go_simp
    refine hK _ _ ?_
    clear hK K
    try simp only [Act.put, List.setIfInBounds_toArray, List.set_cons_zero, List.set_cons_succ]
    refine wpAny_ready (rs := [11, 12]) (by kernel_rfl) (by simp) ?_
    refine (AllReady.cons rfl (fun K hK => ?_) (AllReady.cons rfl (fun K hK => ?_) AllReady.nil))
    · go_simp
      refine hK _ _ ?_
      clear hK K
      try simp only [Act.put, List.setIfInBounds_toArray, List.set_cons_zero, List.set_cons_succ]
      refine wpAny_ready (rs := [12]) (by kernel_rfl) (by simp) ?_
      refine AllReady.cons rfl (fun K hK => ?_) AllReady.nil
      go_simp
      refine hK _ _ ?_
      clear hK K
      try simp only [Act.put, List.setIfInBounds_toArray, List.set_cons_zero, List.set_cons_succ]
      refine wpAny_ready (rs := [13]) (by kernel_rfl) (by simp) ?_
      refine AllReady.cons rfl (fun K hK => ?_) AllReady.nil
      go_simp
      refine hK _ _ ?_
      clear hK K
      try simp only [Act.put, List.setIfInBounds_toArray, List.set_cons_zero, List.set_cons_succ]
      refine ⟨by kernel_rfl, ?_⟩
      go_wp2_with fail
      refine c2.mono fun e w4 hh => ?_
      obtain ⟨rfl, hP⟩ := hh
      obtain ⟨h24, hc4⟩ := H3.out.2 _ _ hP
      have H4 := Lib.hid (And.intro h24 (H3.out.1.trans hc4))
      clear c2 hP h24 hc4 x0 x1 x2 x3 x4 x5
      go_wp2_with fail
      go_ret
      exact ⟨by simp, H4.out.1.mono (Nat.le_refl _), HX.out.2.2.2.1.no.trans H4.out.2⟩

    · go_simp
      refine hK _ _ ?_
      clear hK K
      try simp only [Act.put, List.setIfInBounds_toArray, List.set_cons_zero, List.set_cons_succ]
      refine wpAny_ready (rs := [11]) (by kernel_rfl) (by simp) ?_
      refine AllReady.cons rfl (fun K hK => ?_) AllReady.nil
      go_simp
      refine hK _ _ ?_
      clear hK K
      try simp only [Act.put, List.setIfInBounds_toArray, List.set_cons_zero, List.set_cons_succ]
      refine wpAny_ready (rs := [13]) (by kernel_rfl) (by simp) ?_
      refine AllReady.cons rfl (fun K hK => ?_) AllReady.nil
      go_simp
      refine hK _ _ ?_
      clear hK K
      try simp only [Act.put, List.setIfInBounds_toArray, List.set_cons_zero, List.set_cons_succ]
      refine ⟨by kernel_rfl, ?_⟩
      go_wp2_with fail
      refine c2.mono fun e w4 hh => ?_
      obtain ⟨rfl, hP⟩ := hh
      obtain ⟨h24, hc4⟩ := H3.out.2 _ _ hP
      have H4 := Lib.hid (And.intro h24 (H3.out.1.trans hc4))
      clear c2 hP h24 hc4 x0 x1 x2 x3 x4 x5
      go_wp2_with fail
      go_ret
      exact ⟨by simp, H4.out.1.mono (Nat.le_refl _), HX.out.2.2.2.1.no.trans H4.out.2⟩


  · go_simp
    refine hK _ _ ?_
    clear hK K
    try simp only [Act.put, List.setIfInBounds_toArray, List.set_cons_zero, List.set_cons_succ]
    refine wpAny_ready (rs := [10]) (by kernel_rfl) (by simp) ?_
    refine AllReady.cons rfl (fun K hK => ?_) AllReady.nil
    go_simp
    refine hK _ _ ?_
    clear hK K
    try simp only [Act.put, List.setIfInBounds_toArray, List.set_cons_zero, List.set_cons_succ]
    refine wpAny_ready (rs := [12]) (by kernel_rfl) (by simp) ?_
    refine AllReady.cons rfl (fun K hK => ?_) AllReady.nil
    go_simp
    refine hK _ _ ?_
    clear hK K
    try simp only [Act.put, List.setIfInBounds_toArray, List.set_cons_zero, List.set_cons_succ]
    refine wpAny_ready (rs := [13]) (by kernel_rfl) (by simp) ?_
    refine AllReady.cons rfl (fun K hK => ?_) AllReady.nil
    go_simp
    refine hK _ _ ?_
    clear hK K
    try simp only [Act.put, List.setIfInBounds_toArray, List.set_cons_zero, List.set_cons_succ]
    refine ⟨by kernel_rfl, ?_⟩
    go_wp2_with fail
    refine c2.mono fun e w4 hh => ?_
    obtain ⟨rfl, hP⟩ := hh
    obtain ⟨h24, hc4⟩ := H3.out.2 _ _ hP
    have H4 := Lib.hid (And.intro h24 (H3.out.1.trans hc4))
    clear c2 hP h24 hc4 x0 x1 x2 x3 x4 x5
    go_wp2_with fail
    go_ret
    exact ⟨by simp, H4.out.1.mono (Nat.le_refl _), HX.out.2.2.2.1.no.trans H4.out.2⟩

theorem hact_any (w : World) (base p q bud N : Nat) (S : List ObjD) (hb : base ≤ w.heap.size) (h2 : HTwo base w p q bud N S S) (hN : N < maxLen) (a : HActD) (A : Option Addr) (c : Nat) (B : Option Addr) (d : Nat) (ha : HActOk base w a A c B d) :
    Calls Try.prog 28 #[.pointer (some ⟨p, 0, none⟩), .pointer (some ⟨q, 0, none⟩), .agg (hactV a A c B d)] w (HStep base p q bud (N + 1) (actT S bud a) w) := by
  unfold actT
  by_cases k1 : a.kind = 1
  · rw [if_pos k1]; exact hact_get w base p q bud N S hb h2 hN a A c B d ha k1
  rw [if_neg k1]
  by_cases k2 : a.kind = 2
  · rw [if_pos k2]; exact hact_set w base p q bud N S hb h2 hN a A c B d ha k2
  rw [if_neg k2]
  by_cases k3 : a.kind = 3
  · rw [if_pos k3]; exact hact_len w base p q bud N S hb h2 hN a A c B d ha k3
  rw [if_neg k3]
  by_cases k4 : a.kind = 4
  · rw [if_pos k4]; exact hact_coll w base p q bud N S hb h2 hN a A c B d ha k4
  rw [if_neg k4]
  by_cases k5 : a.kind = 5
  · rw [if_pos k5]; exact hact_reach w base p q bud N S hb h2 hN a A c B d ha k5
  rw [if_neg k5]
  by_cases k6 : a.kind = 6
  · rw [if_pos k6]; exact hact_six w base p q bud N S hb h2 hN a A c B d ha k6
  rw [if_neg k6]
  exact hact_alloc w base p q bud N S hb h2 hN a A c B d ha k1 k2 k3 k4 k5 k6
end Go.Proofs.Yteigopmdhhgnfaa
