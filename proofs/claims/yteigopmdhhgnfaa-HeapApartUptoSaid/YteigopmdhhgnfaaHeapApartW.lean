/-
  The walk of the statement HeapApart.
-/
import Derived.Test.YteigopmdhhgnfaaHeapActsW
namespace Go.Proofs.Yteigopmdhhgnfaa
open Go.RowKit
set_option linter.unusedVariables false
set_option linter.unusedSimpArgs false


section
variable {a : Act} {w : World} {dst : Option Nat} {ty : TypeId} {pos : String} {af : Array Edge} {g : Option (Nat × Bool)}
theorem exec_ixA (x y : Operand) {b o n c j : Nat} (hx : a.eval x = .slice (some ⟨b, o, none⟩) n c) (hy : a.eval y = .int .i64 (j : Int)) (hj : j < n) : (execOp a.eval { dst := dst, op := .indexAddr 22 x y, type := ty, pos := pos, after := af, guard := g }).run Try.prog w = .ok (.value (.pointer (some ⟨b, o + j * 6, none⟩))) w := by
  have p1 : ¬ (j : Int) < 0 := by omega
  have p2 : (j : Int) < (n : Int) := by omega
  unfold execOp
  simp only [hx, hy]
  go_simp
theorem exec_faB (x : Operand) {b o : Nat} (k : Nat) (hk : k < 6) (hx : a.eval x = .pointer (some ⟨b, o, none⟩)) : (execOp a.eval { dst := dst, op := .fieldAddr 62 x k, type := ty, pos := pos, after := af, guard := g }).run Try.prog w = .ok (.value (.pointer (some ⟨b, o + k, none⟩))) w := by
  unfold execOp
  simp only [hx]
  match k, hk with
  | 0, _ => go_simp
  | 1, _ => go_simp
  | 2, _ => go_simp
  | 3, _ => go_simp
  | 4, _ => go_simp
  | 5, _ => go_simp
end
/-- What is got ready for an allocation of the copy's leaves. -/
def apF (p2 ab ao nl ac k : Nat) (a : HActD) (FA : Option Addr) (fc : Nat) (RA : Option Addr) (rc B0 : Nat) : Nat → (Nat → Value) → Nat × Nat → World → Prop
  | 0, u, _, _ => u 0 = .pointer (some ⟨p2, 0, none⟩)
  | 1, u, _, w => ∃ b, u 1 = .slice (some ⟨b, 0, none⟩) 0 0 ∧ B0 ≤ b ∧ Blk w b 4 #[]
  | 2, u, _, _ => u 2 = .slice (some ⟨ab, ao, none⟩) nl ac
  | 3, u, _, _ => u 3 = .int .i64 (k : Int)
  | 4, u, _, _ => u 4 = .pointer (some ⟨ab, ao + k * 6, none⟩)
  | 5, u, _, _ => u 5 = .pointer (some ⟨ab, ao + k * 6 + 4, none⟩)
  | 6, u, _, _ => u 6 = .slice FA a.refs.length fc
  | 7, u, _, w => ∃ A' c', u 7 = .slice A' a.refs.length c' ∧ RowR B0 4 1 BooV w A' c' a.refs
  | 8, u, _, _ => u 8 = .slice (some ⟨ab, ao, none⟩) nl ac
  | 9, u, _, _ => u 9 = .int .i64 (k : Int)
  | 10, u, _, _ => u 10 = .pointer (some ⟨ab, ao + k * 6, none⟩)
  | 11, u, _, _ => u 11 = .pointer (some ⟨ab, ao + k * 6 + 5, none⟩)
  | 12, u, _, _ => u 12 = .slice RA a.roots.length rc
  | 13, u, _, w => ∃ A' c', u 13 = .slice A' a.roots.length c' ∧ RowR B0 3 1 IntZ w A' c' a.roots
  | _, _, _, _ => True
theorem apF_dep {p2 ab ao nl ac k : Nat} {a : HActD} {FA : Option Addr} {fc : Nat} {RA : Option Addr} {rc B0 : Nat} {md : Region.Mode} {ops : Array Oper} (j : Nat) (val val' : Nat → Value) (r : Nat × Nat) (w : World) (h : val j = val' j) (hk : ∀ k, waitsB md ops j k = true → val k = val' k) (hF : apF p2 ab ao nl ac k a FA fc RA rc B0 j val r w) : apF p2 ab ao nl ac k a FA fc RA rc B0 j val' r w := by
  unfold apF at hF ⊢
  split at hF <;> first | (rw [← h]; exact hF) | trivial
theorem apF_mono {p2 ab ao nl ac k : Nat} {a : HActD} {FA : Option Addr} {fc : Nat} {RA : Option Addr} {rc B0 : Nat} (j : Nat) (val : Nat → Value) (r : Nat × Nat) (w w' : World) (hc : Chg (fun _ _ => False) w w') (hF : apF p2 ab ao nl ac k a FA fc RA rc B0 j val r w) : apF p2 ab ao nl ac k a FA fc RA rc B0 j val r w' := by
  unfold apF at hF ⊢
  split at hF
  case h_2 => obtain ⟨b, h1, h2, h3⟩ := hF; exact ⟨b, h1, h2, hc.blk h3 id⟩
  case h_8 => obtain ⟨A, c, h1, h2⟩ := hF; exact ⟨A, c, h1, row_keepF h2 hc fun _ _ h => h⟩
  case h_14 => obtain ⟨A, c, h1, h2⟩ := hF; exact ⟨A, c, h1, row_keepF h2 hc fun _ _ h => h⟩
  all_goals exact hF
/-- Both heaps, and a copy apart from them. -/
def H3T (base : Nat) (w : World) (p q p2 bud N Nc : Nat) (S Sc : List ObjD) : Prop :=
  ∃ G F Gc : Nat → Prop, HpR G w p N S bud ∧ RhR F w q S bud ∧ (∀ b, G b → ¬ F b) ∧ (∀ b, G b → base ≤ b) ∧ (∀ b, F b → base ≤ b) ∧ HpR Gc w p2 Nc Sc bud ∧ (∀ b, Gc b → base ≤ b) ∧ ∀ b, Gc b → ¬ G b ∧ ¬ F b
theorem H3T.two {base p q p2 bud N Nc : Nat} {w : World} {S Sc : List ObjD} (h : H3T base w p q p2 bud N Nc S Sc) : HTwo base w p q bud N S S := by
  obtain ⟨G, F, Gc, k1, k2, k3, k4, k5, _⟩ := h
  exact ⟨G, F, k1, k2, k3, k4, k5⟩
theorem H3T.same {base p q p2 bud N Nc : Nat} {w w' : World} {S Sc : List ObjD} (h : H3T base w p q p2 bud N Nc S Sc) (hc : Chg (fun _ _ => False) w w') : H3T base w' p q p2 bud N Nc S Sc := by
  obtain ⟨G, F, Gc, k1, k2, k3, k4, k5, k6, k7, k8⟩ := h
  exact ⟨G, F, Gc, k1.keep hc (fun _ _ _ => id), k2.keep hc (fun _ _ _ => id), k3, k4, k5, k6.keep hc (fun _ _ _ => id), k7, k8⟩
theorem H3T.made {base p q p2 bud N : Nat} {w w' : World} {S : List ObjD} {G' : Nat → Prop} (h : HTwo base w p q bud N S S) (hb : base ≤ w.heap.size) (h1 : HpR G' w' p2 65536 S bud) (h2 : ∀ b, G' b → w.heap.size ≤ b) (hc : Chg (fun _ _ => False) w w') : H3T base w' p q p2 bud N 65536 S S := by
  obtain ⟨G, F, k1, k2, k3, k4, k5⟩ := h
  exact ⟨G, F, G', k1.keep hc (fun _ _ _ => id), k2.keep hc (fun _ _ _ => id), k3, k4, k5, h1, fun b hg => Nat.le_trans hb (h2 b hg), fun b hg => ⟨fun hg' => by have := h2 b hg; have := k1.lt hg'; omega, fun hf => by have := h2 b hg; have := k2.lt hf; omega⟩⟩
theorem H3T.left {base p q p2 bud N Nc : Nat} {w : World} {S Sc : List ObjD} (h : H3T base w p q p2 bud N Nc S Sc) (hs : base ≤ w.heap.size) : ∃ Gc, HpR Gc w p2 Nc Sc bud ∧ ∀ w' Nc' Sc', HpP Gc w w' p2 Nc' Sc' bud → H3T base w' p q p2 bud N Nc' S Sc' ∧ Chg (ML2 base) w w' := by
  obtain ⟨G, F, Gc, k1, k2, k3, k4, k5, k6, k7, k8⟩ := h
  refine ⟨Gc, k6, fun w' Nc' Sc' hP => ?_⟩
  have hch := hP.chg
  obtain ⟨G', j1, j2, _⟩ := hP
  refine ⟨⟨G, F, G', k1.keep hch (fun b t hg hM => (k8 b hM.1).1 hg), k2.keep hch (fun b t hf hM => (k8 b hM.1).2 hf), k3, k4, k5, j1, fun b hg => ?_, fun b hg => ⟨fun hg' => ?_, fun hf => ?_⟩⟩, hch.mono fun b t _ hM => ⟨k7 b hM.1, ?_⟩⟩
  · rcases j2 b hg with h | h
    · exact k7 b h
    · omega
  · rcases j2 b hg with h | h
    · exact (k8 b h).1 hg'
    · have := k1.lt hg'; omega
  · rcases j2 b hg with h | h
    · exact (k8 b h).2 hf
    · have := k2.lt hf; omega
  · rcases hM.2 with h | h | h <;> simp [h]
theorem HActsA.at2 {base b o : Nat} {w : World} {n c k : Nat} {l : List HActD} {a : HActD} (h : HActsA base w (.slice (some ⟨b, o, none⟩) n c) l) (hk : k < l.length) (hx : l[k]? = some a) : ∃ A' c' B' d', HActOk base w a A' c' B' d' ∧
    w.cell? ⟨b, o + k * 6, none⟩ = some (.int .i64 a.kind) ∧ w.cell? ⟨b, o + k * 6 + 1, none⟩ = some (.int .i64 a.o) ∧ w.cell? ⟨b, o + k * 6 + 2, none⟩ = some (.int .i64 a.i) ∧ w.cell? ⟨b, o + k * 6 + 3, none⟩ = some (.int .u64 (a.n : Int)) ∧ w.cell? ⟨b, o + k * 6 + 4, none⟩ = some (.slice A' a.refs.length c') ∧ w.cell? ⟨b, o + k * 6 + 5, none⟩ = some (.slice B' a.roots.length d') := by
  obtain ⟨b', o', a', A', c', B', d', he, hx', ha, z⟩ := h.at_ hk
  injection he with he
  injection he with e1 e2
  subst e1 e2
  rw [hx] at hx'
  injection hx' with hx'
  subst hx'
  exact ⟨A', c', B', d', ha, z⟩
def apRel (p q p2 bud N : Nat) (S : List ObjD) (w : World) (l : List HActD) (i : Value) (wr : World) : Prop := ∃ (k : Nat) (Sc : List ObjD), k ≤ l.length ∧ i = .int .i64 (k : Int) ∧ H3T w.heap.size wr p q p2 bud N (65536 + k) S Sc ∧ Chg (ML2 w.heap.size) w wr
set_option maxRecDepth 100000 in
set_option maxHeartbeats 8000000 in
theorem heapApart_walk (w : World) (cells : Int) (A : Option Addr) (c : Nat) (l : List HActD) (hl : HActsA w.heap.size w (.slice A l.length c) l) (hn : l.length ≤ 1048576) (MA : Option Addr) (mc : Nat) (more : List HActD) (hm : HActsA w.heap.size w (.slice MA more.length mc) more) (hml : more.length ≤ 1048576) :
    Calls Try.prog 8 #[.int .i64 cells, .slice A l.length c, .slice MA more.length mc] w fun e w' => e = .returned (.bool true) ∧ Below w.heap.size w w' := by
  have c1 := hgrown_any w w.heap.size (Nat.le_refl _) cells A c l hl hn
  obtain ⟨bud, hbud⟩ : ∃ bud, capC cells = bud := ⟨_, rfl⟩
  obtain ⟨S, hS⟩ : ∃ S, grownS bud l = S := ⟨_, rfl⟩
  rw [hbud, hS] at c1
  have HH := Lib.hid hm
  clear hl hbud hS hm
  go_enter Try.func8, Try.ntmps8
  go_wp2_with fail
  refine c1.mono fun e w1 hh => ?_
  obtain ⟨p, q, rfl, h2, hc1⟩ := hh
  have H1 := Lib.hid (And.intro h2 hc1)
  clear c1 h2 hc1
  go_wp2_with fail
  refine (answers12_any w1).mono fun e w2 hh => ?_
  obtain ⟨rfl, hc2⟩ := hh
  have H2 := Lib.hid (And.intro (H1.out.1.same hc2) (And.intro (H1.out.2.trans hc2.no) (Nat.le_trans H1.out.2.size hc2.size)))
  clear hc2 H1
  obtain ⟨G, hG, _, _⟩ := H2.out.1.left H2.out.2.2
  have c2 := hcopy_P hG
  clear hG
  go_wp2_with fail
  refine c2.mono fun e w3 hh => ?_
  obtain ⟨p2, G', rfl, hp2, hG', hc3⟩ := hh
  have h3 := H3T.made H2.out.1 H2.out.2.2 hp2 hG' hc3
  have H3 := Lib.hid (And.intro h3 (H2.out.2.1.trans hc3.no))
  clear c2 hp2 hG' hc3 h3
  go_wp2_with fail
  go_loopw [10] (fun i wr => apRel p q p2 bud l.length S w more i wr) (fun i _ => more.length - (intOf i).toNat)
  case atStart => exact ⟨0, S, Nat.zero_le _, rfl, H3.out⟩
  case round =>
    obtain ⟨k, Sc, hkl, rfl, h3, hch⟩ := hrel
    have q5 : IntKind.i64.wrap ((k : Int) + 1) = (k : Int) + 1 := IntWalk.i64_in _ ⟨by omega, by omega⟩
    by_cases hlt : k < more.length
    · obtain ⟨ab, ao, a, FA, fc, RA, rc, rfl, hx, ha, z0, z1, z2, z3, z4, z5⟩ := (HH.out.keep hch).at_ hlt
      have q6 : decide (k < more.length) = true := decide_eq_true hlt
      have q7 : (k : Int) < (more.length : Int) := by omega
      have HK := Lib.hid (And.intro h3 (And.intro hch hch.size))
      have HXK := Lib.hid hx
      clear h3 hch hx hkl
      go_wp2_with fail
      have hdr := (Chg.refl (fun _ _ => False) wr).drew
      have HX := Lib.hid ha
      have HZ := Lib.hid (And.intro z4 z5)
      clear z0 z1 z2 z3 z4 z5 ha
      refine wp_region_facts [(0, 35), (1, 36), (2, 37), (3, 38), (4, 39), (5, 40), (6, 41), (7, 42), (8, 43), (9, 44), (10, 45), (11, 46), (12, 47), (13, 48)] [] (apF p2 ab ao more.length mc k a FA fc RA rc wr.heap.size) (by kernel_rfl) (by kernel_rfl) apF_dep apF_mono (ops_cons (OpF.run rfl rfl fun _ w' H => by
  exact ⟨_, w', exec_mv (.tmp 9), H.same 9 (by kernel_rfl), Chg.refl _ _⟩) (ops_cons (OpF.run rfl rfl fun _ w' H => by
  exact ⟨_, _, exec_bs0, ⟨_, rfl, Nat.le_trans hdr.size H.chg.size, Blk.new w' 4 _⟩, chg_alloc _ _⟩) (ops_cons (OpF.run rfl rfl fun _ w' H => by
  exact ⟨_, w', exec_mv (.tmp 2), H.same 2 (by kernel_rfl), Chg.refl _ _⟩) (ops_cons (OpF.run rfl rfl fun _ w' H => by
  exact ⟨_, w', exec_mv (.tmp 10), H.same 10 (by kernel_rfl), Chg.refl _ _⟩) (ops_cons (OpF.run rfl rfl fun _ w' H => by
  obtain ⟨r2, h2⟩ := H.fact 2 (by kernel_rfl)
  have h2 := factH (p := fun u => u = .slice (some ⟨ab, ao, none⟩) more.length mc) (k := 2) (d := 37) h2 (by kernel_rfl)
  obtain ⟨r3, h3⟩ := H.fact 3 (by kernel_rfl)
  have h3 := factH (p := fun u => u = .int .i64 (k : Int)) (k := 3) (d := 38) h3 (by kernel_rfl)
  exact ⟨_, w', exec_ixA (.tmp 37) (.tmp 38) h2 h3 hlt, rfl, Chg.refl _ _⟩) (ops_cons (OpF.run rfl rfl fun _ w' H => by
  obtain ⟨r4, h4⟩ := H.fact 4 (by kernel_rfl)
  have h4 := factH (p := fun u => u = .pointer (some ⟨ab, ao + k * 6, none⟩)) (k := 4) (d := 39) h4 (by kernel_rfl)
  exact ⟨_, w', exec_faB (.tmp 39) 4 (by decide) h4, rfl, Chg.refl _ _⟩) (ops_cons (OpF.run rfl rfl fun _ w' H => by
  obtain ⟨r5, h5⟩ := H.fact 5 (by kernel_rfl)
  have h5 := factH (p := fun u => u = .pointer (some ⟨ab, ao + k * 6 + 4, none⟩)) (k := 5) (d := 40) h5 (by kernel_rfl)
  exact ⟨_, w', exec_ldB (.tmp 40) h5 ((hdr.trans H.chg).cell HZ.out.1 fun _ => id), rfl, Chg.refl _ _⟩) (ops_cons (OpF.run rfl rfl fun _ w' H => by
  obtain ⟨r1, h1⟩ := H.fact 1 (by kernel_rfl)
  obtain ⟨b5, h1, k5, k5b⟩ := h1
  have h1 := factH (p := fun u => u = .slice (some ⟨b5, 0, none⟩) 0 0) (k := 1) (d := 36) h1 (by kernel_rfl)
  obtain ⟨r6, h6⟩ := H.fact 6 (by kernel_rfl)
  have h6 := factH (p := fun u => u = .slice FA a.refs.length fc) (k := 6) (d := 41) h6 (by kernel_rfl)
  obtain ⟨A', c', w2', hr, hrow, hch⟩ := exec_apB (.tmp 36) (.tmp 41) h1 h6 k5 k5b (SlR.keep HX.out.refs (hdr.trans H.chg) (no_letsH _ _) fun _ _ h => h) HX.out.len.1 (Nat.le_trans hdr.size H.chg.size)
  exact ⟨_, w2', hr, ⟨_, _, rfl, hrow⟩, hch⟩) (ops_cons (OpF.run rfl rfl fun _ w' H => by
  exact ⟨_, w', exec_mv (.tmp 2), H.same 2 (by kernel_rfl), Chg.refl _ _⟩) (ops_cons (OpF.run rfl rfl fun _ w' H => by
  exact ⟨_, w', exec_mv (.tmp 10), H.same 10 (by kernel_rfl), Chg.refl _ _⟩) (ops_cons (OpF.run rfl rfl fun _ w' H => by
  obtain ⟨r8, h8⟩ := H.fact 8 (by kernel_rfl)
  have h8 := factH (p := fun u => u = .slice (some ⟨ab, ao, none⟩) more.length mc) (k := 8) (d := 43) h8 (by kernel_rfl)
  obtain ⟨r9, h9⟩ := H.fact 9 (by kernel_rfl)
  have h9 := factH (p := fun u => u = .int .i64 (k : Int)) (k := 9) (d := 44) h9 (by kernel_rfl)
  exact ⟨_, w', exec_ixA (.tmp 43) (.tmp 44) h8 h9 hlt, rfl, Chg.refl _ _⟩) (ops_cons (OpF.run rfl rfl fun _ w' H => by
  obtain ⟨r10, h10⟩ := H.fact 10 (by kernel_rfl)
  have h10 := factH (p := fun u => u = .pointer (some ⟨ab, ao + k * 6, none⟩)) (k := 10) (d := 45) h10 (by kernel_rfl)
  exact ⟨_, w', exec_faB (.tmp 45) 5 (by decide) h10, rfl, Chg.refl _ _⟩) (ops_cons (OpF.run rfl rfl fun _ w' H => by
  obtain ⟨r11, h11⟩ := H.fact 11 (by kernel_rfl)
  have h11 := factH (p := fun u => u = .pointer (some ⟨ab, ao + k * 6 + 5, none⟩)) (k := 11) (d := 46) h11 (by kernel_rfl)
  exact ⟨_, w', exec_ldIs (.tmp 46) h11 ((hdr.trans H.chg).cell HZ.out.2 fun _ => id), rfl, Chg.refl _ _⟩) (ops_cons (OpF.call rfl rfl fun _ w' H => by
  obtain ⟨r12, h12⟩ := H.fact 12 (by kernel_rfl)
  have h12 := factH (p := fun u => u = .slice RA a.roots.length rc) (k := 12) (d := 47) h12 (by kernel_rfl)
  exact ⟨_, _, exec_cl _ _ _ (ints12_enters w'), by rw [h12]; exact (ints12_any w.heap.size w' a.roots RA rc (SlR.keep HX.out.roots (hdr.trans H.chg) (no_letsH _ _) fun _ _ h => h) HX.out.len.2).mono fun e w2' ⟨A', c', he, hrow, hc⟩ => ⟨_, he, ⟨_, _, rfl, hrow.rebase (Nat.le_trans hdr.size H.chg.size)⟩, hc⟩⟩) ops_nil)))))))))))))) ?_
      intro pp u r w4 hu _ _ hcw
      have e0 : u 0 = _ := hu (0, 35) (by simp)
      obtain ⟨FB, fd, e7, hr7⟩ := hu (7, 42) (by simp)
      obtain ⟨RB, rd, e13, hr13⟩ := hu (13, 48) (by simp)
      have e7 : u 7 = _ := e7
      have e13 : u 13 = _ := e13
      clear hu
      simp only [List.filter_nil, List.append_nil, putL, Act.put, List.setIfInBounds_toArray, List.set_cons_zero, List.set_cons_succ]
      rw [e0, e7, e13]
      clear e0 e7 e13
      have hc4 := hdr.trans hcw
      obtain ⟨Gc, hGc, hGk⟩ := (HK.out.1.same hc4).left (Nat.le_trans HK.out.2.2 hc4.size)
      have c4 := halloc_P hGc (hr7.slr (by decide) 0) (hr13.slr (by decide) 0) HX.out.rI HX.out.len.2 HX.out.len.1 (by simp only [maxLen]; omega)
      have H4 := Lib.hid (And.intro hc4 hGk)
      clear hdr hcw hr7 hr13 hc4 hGc hGk
      refine wpAny_ready (rs := [14]) (by kernel_rfl) (by simp) ?_
      refine AllReady.cons rfl (fun K hK => ?_) AllReady.nil
      go_simp
      go_at_call 13
      refine c4.mono ?_
      rintro e w5 ⟨rfl, hP⟩
      refine hK _ _ ?_
      clear hK K
      obtain ⟨h5, hc5⟩ := H4.out.2 _ _ _ hP
      have hch5 := HK.out.2.1.trans (H4.out.1.no.trans hc5)
      obtain ⟨FA2, fc2, RA2, rc2, ha2, z0, z1, z2, z3, z4, z5⟩ := (HH.out.keep hch5).at2 hlt HXK.out
      have hd5 := (Chg.refl (fun _ _ => False) w5).drew
      obtain ⟨Gd, hGd, hGdk⟩ := (h5.same hd5).left (Nat.le_trans hch5.size hd5.size)
      have c5 := hset_P hGd a.o a.i a.n ha2.o ha2.n
      have H5 := Lib.hid (And.intro hGdk (hch5.trans hd5.no))
      clear c4 hP h5 hc5 hch5 ha2 hGd hGdk hd5
      try simp only [Act.put, List.setIfInBounds_toArray, List.set_cons_zero, List.set_cons_succ]
      refine ⟨by kernel_rfl, ?_⟩
      go_wp2_with fail
      refine wp_region_still_tail 16 (by kernel_rfl) (by kernel_rfl) ?_
      simp only [List.take_succ_cons, List.take_zero, List.drop_succ_cons, List.drop_zero]
      repeat (with_reducible refine wpStill_step (fun K hK => ?_); go_simp; with_reducible refine hK _ ?_; clear hK K)
      try with_reducible refine wpStill_nil ?_
      clear z0 z1 z2 z3 z4 z5
      change wpList _ _ _ _ _ w5.drew
      go_wp2_with fail
      refine c5.mono fun e w6 hh => ?_
      obtain ⟨rfl, hP⟩ := hh
      obtain ⟨h6, hc6⟩ := H5.out.1 _ _ _ hP
      have hch6 := H5.out.2.trans hc6
      obtain ⟨FA3, fc3, RA3, rc3, ha3, z0, z1, z2, z3, z4, z5⟩ := (HH.out.keep hch6).at2 hlt HXK.out
      have c6 := ints12_any _ w6 a.roots RA3 rc3 ha3.roots ha3.len.2
      have H6 := Lib.hid (And.intro h6 (And.intro hch6 ha3.rI))
      clear c5 hP h6 hc6 hch6 ha3
      go_wp2_with fail
      refine c6.mono fun e w7 hh => ?_
      obtain ⟨IA, ic, rfl, hir, hc7⟩ := hh
      obtain ⟨Ge, hGe, hGek⟩ := (H6.out.1.same hc7).left (Nat.le_trans H6.out.2.1.size hc7.size)
      have c7 := hcoll_P hGe ((hir.slr (by decide) 0).settle fun _ _ h => h) (Nat.le_refl _) H6.out.2.2 HX.out.len.2
      have H7 := Lib.hid (And.intro hGek (H6.out.2.1.trans hc7.no))
      clear c6 hir hc7 hGe hGek z0 z1 z2 z3 z4 z5
      go_wp2_with fail
      refine c7.mono fun e w8 hh => ?_
      obtain ⟨rfl, hP⟩ := hh
      obtain ⟨h8, hc8⟩ := H7.out.1 _ _ _ hP
      have H8 := Lib.hid (And.intro h8 (H7.out.2.trans hc8))
      clear c7 hP h8 hc8
      go_wp2_with fail
      go_roundw
      case rel => exact ⟨k + 1, _, hlt, by simp, H8.out.1, H8.out.2⟩
      case measure => simp [intOf]; omega
    · have q6 : decide (k < more.length) = false := decide_eq_false hlt
      have q7 : ¬ (k : Int) < (more.length : Int) := by omega
      have c9 := alike12_any wr w.heap.size p q bud l.length S hch.size h3.two
      have HC := Lib.hid hch
      clear h3 hch hkl
      go_wp2_with fail
      refine c9.mono fun e w9 hh => ?_
      obtain ⟨rfl, hc9⟩ := hh
      have H9 := Lib.hid (HC.out.trans hc9.no)
      clear c9 hc9
      go_wp2_with fail
      go_ret
      exact ⟨by simp, below_ml2 H9.out⟩
end Go.Proofs.Yteigopmdhhgnfaa
