/-
  Put of the reference's heap.
-/
import Derived.Test.YteigopmdhhgnfaaHrPut
import Derived.Test.YteigopmdhhgnfaaHpAlloc
namespace Go.Proofs.Yteigopmdhhgnfaa
open Go.RowKit
set_option linter.unusedVariables false
set_option linter.unusedSimpArgs false

section
variable {a : Act} {w : World} {dst : Option Nat} {ty : TypeId} {pos : String} {af : Array Edge} {g : Option (Nat × Bool)}
theorem exec_faR0 (x : Operand) {b : Nat} (hx : a.eval x = .pointer (some ⟨b, 0, none⟩)) : (execOp a.eval { dst := dst, op := .fieldAddr 42 x 0, type := ty, pos := pos, after := af, guard := g }).run Try.prog w = .ok (.value (.pointer (some ⟨b, 0, none⟩))) w := by
  unfold execOp
  simp only [hx]
  go_simp
theorem exec_ldRO (x : Operand) {b k n c : Nat} {A : Option Addr} (hx : a.eval x = .pointer (some ⟨b, k, none⟩)) (hc : w.cell? ⟨b, k, none⟩ = some (.slice A n c)) : (execOp a.eval { dst := dst, op := .load 40 x, type := ty, pos := pos, after := af, guard := g }).run Try.prog w = .ok (.value (.slice A n c)) w := by
  unfold execOp
  simp only [hx]
  go_simp
theorem exec_ldU (x : Operand) {b k n c : Nat} {A : Option Addr} (hx : a.eval x = .pointer (some ⟨b, k, none⟩)) (hc : w.cell? ⟨b, k, none⟩ = some (.slice A n c)) : (execOp a.eval { dst := dst, op := .load 37 x, type := ty, pos := pos, after := af, guard := g }).run Try.prog w = .ok (.value (.slice A n c)) w := by
  unfold execOp
  simp only [hx]
  go_simp
theorem exec_ixRO (x y : Operand) {b n c j : Nat} (hx : a.eval x = .slice (some ⟨b, 0, none⟩) n c) (hy : a.eval y = .int .i64 (j : Int)) (hj : j < n) : (execOp a.eval { dst := dst, op := .indexAddr 40 x y, type := ty, pos := pos, after := af, guard := g }).run Try.prog w = .ok (.value (.pointer (some ⟨b, j * 3, none⟩))) w := by
  have p1 : ¬ (j : Int) < 0 := by omega
  have p2 : (j : Int) < (n : Int) := by omega
  unfold execOp
  simp only [hx, hy]
  go_simp
theorem exec_ixU (x y : Operand) {b n c j : Nat} (hx : a.eval x = .slice (some ⟨b, 0, none⟩) n c) (hy : a.eval y = .int .i64 (j : Int)) (hj : j < n) : (execOp a.eval { dst := dst, op := .indexAddr 37 x y, type := ty, pos := pos, after := af, guard := g }).run Try.prog w = .ok (.value (.pointer (some ⟨b, j, none⟩))) w := by
  have p1 : ¬ (j : Int) < 0 := by omega
  have p2 : (j : Int) < (n : Int) := by omega
  unfold execOp
  simp only [hx, hy]
  go_simp
theorem exec_faO1 (x : Operand) {b k : Nat} (hx : a.eval x = .pointer (some ⟨b, k, none⟩)) : (execOp a.eval { dst := dst, op := .fieldAddr 39 x 1, type := ty, pos := pos, after := af, guard := g }).run Try.prog w = .ok (.value (.pointer (some ⟨b, k + 1, none⟩))) w := by
  unfold execOp
  simp only [hx]
  go_simp
theorem exec_cl2 (f : FuncId) (x y : Operand) (ts : Array TypeId) (hf : ∀ ys, (callFunc f ys).run Try.prog w = .ok (.enter f ys) w) : (execOp a.eval { dst := dst, op := .call { callee := .value (.func f), args := #[x, y], argTypes := ts }, type := ty, pos := pos, after := af, guard := g }).run Try.prog w = .ok (.enter f #[a.eval x, a.eval y]) w := by
  rw [exec_call f _ ts hf]; simp
end
theorem rat_enters (w : World) (args : Array Value) : (callFunc 15 args).run Try.prog w = .ok (.enter 15 args) w := by
  simp [callFunc, Try.func15, go_sem]
  rw [if_neg (by decide +kernel), if_neg (fun h => by cases h)]
/-! ## Put -/
def rputF (q b S n c1 g k c : Nat) (o : Int) (j v : Nat) : Nat → (Nat → Value) → Nat × Nat → World → Prop
  | 0, u, _, _ => u 0 = .pointer (some ⟨q, 0, none⟩)
  | 1, u, _, _ => u 1 = .pointer (some ⟨q, 0, none⟩)
  | 2, u, _, _ => u 2 = .pointer (some ⟨q, 0, none⟩)
  | 3, u, _, _ => u 3 = .slice (some ⟨b, 0, none⟩) S c
  | 4, u, _, _ => u 4 = .pointer (some ⟨q, 0, none⟩)
  | 5, u, _, _ => u 5 = .int .i64 o
  | 6, u, _, _ => u 6 = .int .i64 (j : Int)
  | 7, u, _, _ => u 7 = .pointer (some ⟨b, j * 3, none⟩)
  | 8, u, _, _ => u 8 = .pointer (some ⟨b, j * 3 + 1, none⟩)
  | 9, u, _, _ => u 9 = .slice (some ⟨g, 0, none⟩) n c1
  | 10, u, _, _ => u 10 = .int .i64 (k : Int)
  | 11, u, _, _ => u 11 = .int .u64 (v : Int)
  | 12, u, _, _ => u 12 = .pointer (some ⟨g, k, none⟩)
  | _, _, _, _ => True
theorem rputF_dep {q b S n c1 g k c : Nat} {o : Int} {jj v : Nat} {md : Region.Mode} {ops : Array Oper} (j : Nat) (val val' : Nat → Value) (r : Nat × Nat) (w : World) (h : val j = val' j) (hk : ∀ k, waitsB md ops j k = true → val k = val' k) (hF : rputF q b S n c1 g k c o jj v j val r w) : rputF q b S n c1 g k c o jj v j val' r w := by
  unfold rputF at hF ⊢
  split at hF <;> first | (rw [← h]; exact hF) | trivial
theorem rputF_mono {q b S n c1 g k c : Nat} {o : Int} {jj v : Nat} (j : Nat) (val : Nat → Value) (r : Nat × Nat) (w w' : World) (hc : Chg (fun _ _ => False) w w') (hF : rputF q b S n c1 g k c o jj v j val r w) : rputF q b S n c1 g k c o jj v j val r w' := by
  unfold rputF at hF ⊢
  split at hF <;> first | exact hF | trivial
set_option maxRecDepth 100000 in
set_option maxHeartbeats 4000000 in
theorem rput_any (F : Nat → Prop) (w : World) (q : Nat) (A : Option Addr) (c : Nat) (S : List ObjD) (bud : Nat) (o i : Int) (v : Nat) (h : RhI F w q A c S bud) (hv : v < 18446744073709551616) :
    Calls Try.prog 42 #[.pointer (some ⟨q, 0, none⟩), .int .i64 o, .int .i64 i, .int .u64 (v : Int)] w fun e w' => e = .returned (.int .i64 (setE S o i v)) ∧ RhI F w' q A c (setS S o i v) bud ∧ Chg (MR F) w w' := by
  have hce := rcell_any F w q A c S bud o i h
  have HH := Lib.hid h
  clear h
  unfold setS
  cases hf : findO S o with
  | none =>
    rw [setE_none hf, if_neg (by decide)]
    rw [getV_none hf] at hce
    clear hf
    go_enter Try.func42, Try.ntmps42
    go_wp2_with fail
    refine hce.mono fun e w1 h => ?_
    obtain ⟨rfl, hc1⟩ := h
    have HC := Lib.hid hc1
    clear hce hc1
    go_wp2_with fail
    go_ret
    exact ⟨rfl, HH.out.keep HC.out fun _ _ _ => id, HC.out.mono fun _ _ _ h => h.elim⟩
  | some x =>
    by_cases hi : 0 ≤ i ∧ i < (x.cells.length : Int)
    · rw [getV_in hf hi] at hce
      obtain ⟨hx, hxo⟩ := findO_mem hf
      obtain ⟨j, hj, hja⟩ := atO_idx S 0 hf
      rw [Nat.zero_add] at hja
      obtain ⟨k, rfl⟩ : ∃ k : Nat, i = (k : Int) := ⟨i.toNat, by omega⟩
      have hk : k < x.cells.length := by omega
      have hk2 : k < x.refs.length := by rw [HH.out.good.len x hx]; exact hk
      have hok := fun hn => setE_ok (v := v) hf hi hn
      have hbad := fun hn => setE_bad (v := v) hf hi hn
      rw [Int.toNat_natCast] at hok hbad hce
      have hon : o.toNat = x.name := by omega
      have hgr : x.refs[k]? = some (x.refs.getD k false) := by rw [List.getD_eq_getElem?_getD, List.getElem?_eq_getElem hk2]; rfl
      have htop : ∀ y : Nat, 65536 < y → (findO S y).isSome = false := fun y hy => by
        cases hq : (findO S y).isSome with
        | false => rfl
        | true =>
          obtain ⟨z, hz, he⟩ := findO_isSome.1 hq
          have := HH.out.good.top z hz
          omega
      rw [Int.toNat_natCast, hon]
      clear hon hxo
      have HJ := Lib.hid (And.intro hj hja)
      obtain ⟨V0, hV0⟩ : ∃ V, x.cells.getD k 0 = V := ⟨_, rfl⟩
      rw [hV0] at hce
      clear hV0
      cases hr1 : x.refs.getD k false with
      | false =>
        rw [hok (by rw [hr1]; simp), if_pos rfl]
        rw [hr1] at hce
        have HR := Lib.hid (show x.refs[k]? = some true → v = 0 ∨ (findO S v).isSome = true from fun hh => by rw [hgr, hr1] at hh; cases hh)
        clear hf hi hok hbad hgr hr1 htop hx hj hja hk2
        go_enter Try.func42, Try.ntmps42
        go_wp2_with fail
        refine hce.mono fun e w1 h => ?_
        obtain ⟨rfl, hc1⟩ := h
        have HC := Lib.hid hc1
        clear hce hc1
        have hH := HH.out.keep HC.out fun _ _ _ => id
        obtain ⟨b, g, cur, c1, rfl, z1, hbg, hkc, hP, hch⟩ := hH.put HJ.out.1 hk hv HR.out
        have x0 : w1.cell? ⟨q, 0, none⟩ = some (.slice (some ⟨b, 0, none⟩) S.length c) := by simpa using hH.blk.cell 0
        have hjl := (List.getElem?_eq_some_iff.1 HJ.out.1).1
        have HX := Lib.hid (And.intro x0 (And.intro z1 (And.intro hH hbg)))
        have hdr := (Chg.refl (fun _ _ => False) w1).drew
        clear hH x0 z1 hbg hkc hP hch
        go_wp2_with fail
        refine wp_region_facts [(0, 39), (1, 40), (2, 41), (3, 42), (4, 43), (5, 44), (6, 45), (7, 46), (8, 47), (9, 48), (10, 49), (11, 50), (12, 51)] [] (rputF q b S.length x.cells.length c1 g k c o j v) (by kernel_rfl) (by kernel_rfl) rputF_dep rputF_mono (ops_cons (OpF.run rfl rfl fun _ w H => by
          exact ⟨_, w, exec_mv (.tmp 0), H.same 0 (by kernel_rfl), Chg.refl _ _⟩) (ops_cons (OpF.run rfl rfl fun _ w H => by
          obtain ⟨r0, h0⟩ := H.fact 0 (by kernel_rfl)
          have h0 := factH (p := fun u => u = .pointer (some ⟨q, 0, none⟩)) (k := 0) (d := 39) h0 (by kernel_rfl)
          exact ⟨_, w, exec_nc (.tmp 39) h0, rfl, Chg.refl _ _⟩) (ops_cons (OpF.run rfl rfl fun _ w H => by
          obtain ⟨r1, h1⟩ := H.fact 1 (by kernel_rfl)
          have h1 := factH (p := fun u => u = .pointer (some ⟨q, 0, none⟩)) (k := 1) (d := 40) h1 (by kernel_rfl)
          exact ⟨_, w, exec_faR0 (.tmp 40) h1, rfl, Chg.refl _ _⟩) (ops_cons (OpF.run rfl rfl fun _ w H => by
          obtain ⟨r2, h2⟩ := H.fact 2 (by kernel_rfl)
          have h2 := factH (p := fun u => u = .pointer (some ⟨q, 0, none⟩)) (k := 2) (d := 41) h2 (by kernel_rfl)
          exact ⟨_, w, exec_ldRO (.tmp 41) h2 ((hdr.trans H.chg).cell HX.out.1 fun _ => id), rfl, Chg.refl _ _⟩) (ops_cons (OpF.run rfl rfl fun _ w H => by
          exact ⟨_, w, exec_mv (.tmp 0), H.same 0 (by kernel_rfl), Chg.refl _ _⟩) (ops_cons (OpF.run rfl rfl fun _ w H => by
          exact ⟨_, w, exec_mv (.tmp 1), H.same 1 (by kernel_rfl), Chg.refl _ _⟩) (ops_cons (OpF.call rfl rfl fun _ w H => by
          obtain ⟨r4, h4⟩ := H.fact 4 (by kernel_rfl)
          have h4 := factH (p := fun u => u = .pointer (some ⟨q, 0, none⟩)) (k := 4) (d := 43) h4 (by kernel_rfl)
          obtain ⟨r5, h5⟩ := H.fact 5 (by kernel_rfl)
          have h5 := factH (p := fun u => u = .int .i64 o) (k := 5) (d := 44) h5 (by kernel_rfl)
          exact ⟨_, _, exec_cl2 _ _ _ _ (rat_enters w), by rw [h4, h5]; exact (rat_any F w q (some ⟨b, 0, none⟩) c S bud o (HX.out.2.2.1.keep (hdr.trans H.chg) fun _ _ _ => id)).mono fun e w' ⟨he, hc⟩ => ⟨_, he, by show _ = _; exact congrArg (Value.int .i64) HJ.out.2, hc⟩⟩) (ops_cons (OpF.run rfl rfl fun _ w H => by
          obtain ⟨r3, h3⟩ := H.fact 3 (by kernel_rfl)
          have h3 := factH (p := fun u => u = .slice (some ⟨b, 0, none⟩) S.length c) (k := 3) (d := 42) h3 (by kernel_rfl)
          obtain ⟨r6, h6⟩ := H.fact 6 (by kernel_rfl)
          have h6 := factH (p := fun u => u = .int .i64 (j : Int)) (k := 6) (d := 45) h6 (by kernel_rfl)
          exact ⟨_, w, exec_ixRO (.tmp 42) (.tmp 45) h3 h6 hjl, rfl, Chg.refl _ _⟩) (ops_cons (OpF.run rfl rfl fun _ w H => by
          obtain ⟨r7, h7⟩ := H.fact 7 (by kernel_rfl)
          have h7 := factH (p := fun u => u = .pointer (some ⟨b, j * 3, none⟩)) (k := 7) (d := 46) h7 (by kernel_rfl)
          exact ⟨_, w, exec_faO1 (.tmp 46) h7, rfl, Chg.refl _ _⟩) (ops_cons (OpF.run rfl rfl fun _ w H => by
          obtain ⟨r8, h8⟩ := H.fact 8 (by kernel_rfl)
          have h8 := factH (p := fun u => u = .pointer (some ⟨b, j * 3 + 1, none⟩)) (k := 8) (d := 47) h8 (by kernel_rfl)
          exact ⟨_, w, exec_ldU (.tmp 47) h8 ((hdr.trans H.chg).cell HX.out.2.1 fun _ => id), rfl, Chg.refl _ _⟩) (ops_cons (OpF.run rfl rfl fun _ w H => by
          exact ⟨_, w, exec_mv (.tmp 2), H.same 2 (by kernel_rfl), Chg.refl _ _⟩) (ops_cons (OpF.run rfl rfl fun _ w H => by
          exact ⟨_, w, exec_mv (.tmp 3), H.same 3 (by kernel_rfl), Chg.refl _ _⟩) (ops_cons (OpF.run rfl rfl fun _ w H => by
          obtain ⟨r9, h9⟩ := H.fact 9 (by kernel_rfl)
          have h9 := factH (p := fun u => u = .slice (some ⟨g, 0, none⟩) x.cells.length c1) (k := 9) (d := 48) h9 (by kernel_rfl)
          obtain ⟨r10, h10⟩ := H.fact 10 (by kernel_rfl)
          have h10 := factH (p := fun u => u = .int .i64 (k : Int)) (k := 10) (d := 49) h10 (by kernel_rfl)
          exact ⟨_, w, exec_ixU (.tmp 48) (.tmp 49) h9 h10 hk, rfl, Chg.refl _ _⟩) ops_nil))))))))))))) ?_
        intro pp u r w7 hu _ _ hcw
        have e11 : u 11 = _ := hu (11, 50) (by simp)
        have e12 : u 12 = _ := hu (12, 51) (by simp)
        clear hu
        simp only [List.filter_nil, List.append_nil, putL, Act.put, List.setIfInBounds_toArray, List.set_cons_zero, List.set_cons_succ]
        rw [e11, e12]
        clear e11 e12
        have hd7 := HC.out.trans (hdr.trans hcw)
        obtain ⟨b', g', cur', c1', hA', z1', hbg', hkc', hP, hch⟩ := (HH.out.keep hd7 fun _ _ _ => id).put HJ.out.1 hk hv HR.out
        obtain ⟨rfl, rfl⟩ : b' = b ∧ g' = g := by
          injection hA' with hA'
          injection hA' with hA'
          subst hA'
          have := (hdr.trans hcw).cell HX.out.2.1 fun _ => id
          rw [z1'] at this
          injection this with this
          injection this with this
          injection this with this
          injection this with this
          exact ⟨rfl, this⟩
        obtain ⟨u0, z0⟩ : ∃ u, w7.cell? ⟨g', k, none⟩ = some u := ⟨_, (hbg'.cell k).trans (Array.getElem?_eq_getElem hkc')⟩
        have z0f := hbg'.frozen k
        refine wpAny_ready (rs := [13]) (by kernel_rfl) (by simp) ?_
        refine AllReady.cons rfl (fun K hK => ?_) AllReady.nil
        go_simp
        refine hK _ _ ?_
        clear hK K
        try simp only [Act.put, List.setIfInBounds_toArray, List.set_cons_zero, List.set_cons_succ]
        refine ⟨by kernel_rfl, ?_⟩
        have HZ := Lib.hid (And.intro hP ((hd7.mono fun _ _ _ h => h.elim).trans hch))
        clear hP hch hd7 hcw hdr z0 z0f z1' hbg' hkc' hA'
        go_wp2_with fail
        go_ret
        exact ⟨rfl, HZ.out.1, HZ.out.2⟩
      | true =>
        rw [hr1] at hce
        by_cases hv0 : v = 0
        · rw [hok (by simp [hv0]), if_pos rfl]
          have HR := Lib.hid (show x.refs[k]? = some true → v = 0 ∨ (findO S v).isSome = true from fun _ => .inl hv0)
          have q3 : ((v : Int) != 0) = false := by simp [hv0]
          have q4 : (v != 0) = false := by simp [hv0]
          clear hf hi hok hbad hgr hr1 htop hx hj hja hk2 hv0
          go_enter Try.func42, Try.ntmps42
          go_wp2_with fail
          refine hce.mono fun e w1 h => ?_
          obtain ⟨rfl, hc1⟩ := h
          have HC := Lib.hid hc1
          clear hce hc1
          have hH := HH.out.keep HC.out fun _ _ _ => id
          obtain ⟨b, g, cur, c1, rfl, z1, hbg, hkc, hP, hch⟩ := hH.put HJ.out.1 hk hv HR.out
          have x0 : w1.cell? ⟨q, 0, none⟩ = some (.slice (some ⟨b, 0, none⟩) S.length c) := by simpa using hH.blk.cell 0
          have hjl := (List.getElem?_eq_some_iff.1 HJ.out.1).1
          have HX := Lib.hid (And.intro x0 (And.intro z1 (And.intro hH hbg)))
          have hdr := (Chg.refl (fun _ _ => False) w1).drew
          clear hH x0 z1 hbg hkc hP hch
          go_wp2_with fail
          refine wp_region_facts [(0, 39), (1, 40), (2, 41), (3, 42), (4, 43), (5, 44), (6, 45), (7, 46), (8, 47), (9, 48), (10, 49), (11, 50), (12, 51)] [] (rputF q b S.length x.cells.length c1 g k c o j v) (by kernel_rfl) (by kernel_rfl) rputF_dep rputF_mono (ops_cons (OpF.run rfl rfl fun _ w H => by
            exact ⟨_, w, exec_mv (.tmp 0), H.same 0 (by kernel_rfl), Chg.refl _ _⟩) (ops_cons (OpF.run rfl rfl fun _ w H => by
            obtain ⟨r0, h0⟩ := H.fact 0 (by kernel_rfl)
            have h0 := factH (p := fun u => u = .pointer (some ⟨q, 0, none⟩)) (k := 0) (d := 39) h0 (by kernel_rfl)
            exact ⟨_, w, exec_nc (.tmp 39) h0, rfl, Chg.refl _ _⟩) (ops_cons (OpF.run rfl rfl fun _ w H => by
            obtain ⟨r1, h1⟩ := H.fact 1 (by kernel_rfl)
            have h1 := factH (p := fun u => u = .pointer (some ⟨q, 0, none⟩)) (k := 1) (d := 40) h1 (by kernel_rfl)
            exact ⟨_, w, exec_faR0 (.tmp 40) h1, rfl, Chg.refl _ _⟩) (ops_cons (OpF.run rfl rfl fun _ w H => by
            obtain ⟨r2, h2⟩ := H.fact 2 (by kernel_rfl)
            have h2 := factH (p := fun u => u = .pointer (some ⟨q, 0, none⟩)) (k := 2) (d := 41) h2 (by kernel_rfl)
            exact ⟨_, w, exec_ldRO (.tmp 41) h2 ((hdr.trans H.chg).cell HX.out.1 fun _ => id), rfl, Chg.refl _ _⟩) (ops_cons (OpF.run rfl rfl fun _ w H => by
            exact ⟨_, w, exec_mv (.tmp 0), H.same 0 (by kernel_rfl), Chg.refl _ _⟩) (ops_cons (OpF.run rfl rfl fun _ w H => by
            exact ⟨_, w, exec_mv (.tmp 1), H.same 1 (by kernel_rfl), Chg.refl _ _⟩) (ops_cons (OpF.call rfl rfl fun _ w H => by
            obtain ⟨r4, h4⟩ := H.fact 4 (by kernel_rfl)
            have h4 := factH (p := fun u => u = .pointer (some ⟨q, 0, none⟩)) (k := 4) (d := 43) h4 (by kernel_rfl)
            obtain ⟨r5, h5⟩ := H.fact 5 (by kernel_rfl)
            have h5 := factH (p := fun u => u = .int .i64 o) (k := 5) (d := 44) h5 (by kernel_rfl)
            exact ⟨_, _, exec_cl2 _ _ _ _ (rat_enters w), by rw [h4, h5]; exact (rat_any F w q (some ⟨b, 0, none⟩) c S bud o (HX.out.2.2.1.keep (hdr.trans H.chg) fun _ _ _ => id)).mono fun e w' ⟨he, hc⟩ => ⟨_, he, by show _ = _; exact congrArg (Value.int .i64) HJ.out.2, hc⟩⟩) (ops_cons (OpF.run rfl rfl fun _ w H => by
            obtain ⟨r3, h3⟩ := H.fact 3 (by kernel_rfl)
            have h3 := factH (p := fun u => u = .slice (some ⟨b, 0, none⟩) S.length c) (k := 3) (d := 42) h3 (by kernel_rfl)
            obtain ⟨r6, h6⟩ := H.fact 6 (by kernel_rfl)
            have h6 := factH (p := fun u => u = .int .i64 (j : Int)) (k := 6) (d := 45) h6 (by kernel_rfl)
            exact ⟨_, w, exec_ixRO (.tmp 42) (.tmp 45) h3 h6 hjl, rfl, Chg.refl _ _⟩) (ops_cons (OpF.run rfl rfl fun _ w H => by
            obtain ⟨r7, h7⟩ := H.fact 7 (by kernel_rfl)
            have h7 := factH (p := fun u => u = .pointer (some ⟨b, j * 3, none⟩)) (k := 7) (d := 46) h7 (by kernel_rfl)
            exact ⟨_, w, exec_faO1 (.tmp 46) h7, rfl, Chg.refl _ _⟩) (ops_cons (OpF.run rfl rfl fun _ w H => by
            obtain ⟨r8, h8⟩ := H.fact 8 (by kernel_rfl)
            have h8 := factH (p := fun u => u = .pointer (some ⟨b, j * 3 + 1, none⟩)) (k := 8) (d := 47) h8 (by kernel_rfl)
            exact ⟨_, w, exec_ldU (.tmp 47) h8 ((hdr.trans H.chg).cell HX.out.2.1 fun _ => id), rfl, Chg.refl _ _⟩) (ops_cons (OpF.run rfl rfl fun _ w H => by
            exact ⟨_, w, exec_mv (.tmp 2), H.same 2 (by kernel_rfl), Chg.refl _ _⟩) (ops_cons (OpF.run rfl rfl fun _ w H => by
            exact ⟨_, w, exec_mv (.tmp 3), H.same 3 (by kernel_rfl), Chg.refl _ _⟩) (ops_cons (OpF.run rfl rfl fun _ w H => by
            obtain ⟨r9, h9⟩ := H.fact 9 (by kernel_rfl)
            have h9 := factH (p := fun u => u = .slice (some ⟨g, 0, none⟩) x.cells.length c1) (k := 9) (d := 48) h9 (by kernel_rfl)
            obtain ⟨r10, h10⟩ := H.fact 10 (by kernel_rfl)
            have h10 := factH (p := fun u => u = .int .i64 (k : Int)) (k := 10) (d := 49) h10 (by kernel_rfl)
            exact ⟨_, w, exec_ixU (.tmp 48) (.tmp 49) h9 h10 hk, rfl, Chg.refl _ _⟩) ops_nil))))))))))))) ?_
          intro pp u r w7 hu _ _ hcw
          have e11 : u 11 = _ := hu (11, 50) (by simp)
          have e12 : u 12 = _ := hu (12, 51) (by simp)
          clear hu
          simp only [List.filter_nil, List.append_nil, putL, Act.put, List.setIfInBounds_toArray, List.set_cons_zero, List.set_cons_succ]
          rw [e11, e12]
          clear e11 e12
          have hd7 := HC.out.trans (hdr.trans hcw)
          obtain ⟨b', g', cur', c1', hA', z1', hbg', hkc', hP, hch⟩ := (HH.out.keep hd7 fun _ _ _ => id).put HJ.out.1 hk hv HR.out
          obtain ⟨rfl, rfl⟩ : b' = b ∧ g' = g := by
            injection hA' with hA'
            injection hA' with hA'
            subst hA'
            have := (hdr.trans hcw).cell HX.out.2.1 fun _ => id
            rw [z1'] at this
            injection this with this
            injection this with this
            injection this with this
            injection this with this
            exact ⟨rfl, this⟩
          obtain ⟨u0, z0⟩ : ∃ u, w7.cell? ⟨g', k, none⟩ = some u := ⟨_, (hbg'.cell k).trans (Array.getElem?_eq_getElem hkc')⟩
          have z0f := hbg'.frozen k
          refine wpAny_ready (rs := [13]) (by kernel_rfl) (by simp) ?_
          refine AllReady.cons rfl (fun K hK => ?_) AllReady.nil
          go_simp
          refine hK _ _ ?_
          clear hK K
          try simp only [Act.put, List.setIfInBounds_toArray, List.set_cons_zero, List.set_cons_succ]
          refine ⟨by kernel_rfl, ?_⟩
          have HZ := Lib.hid (And.intro hP ((hd7.mono fun _ _ _ h => h.elim).trans hch))
          clear hP hch hd7 hcw hdr z0 z0f z1' hbg' hkc' hA'
          go_wp2_with fail
          go_ret
          exact ⟨rfl, HZ.out.1, HZ.out.2⟩
        · have q3 : ((v : Int) != 0) = true := by simp [hv0]
          have q4 : (v != 0) = true := by simp [hv0]
          by_cases hgt : 1000000 < v
          · rw [hbad ⟨hr1, hv0, htop v (by omega)⟩, if_neg (by decide)]
            have q5 : (1000000 : Int) < (v : Int) := by omega
            have q6 : decide (1000000 < v) = true := decide_eq_true hgt
            have q7 : decide (v > 1000000) = true := decide_eq_true hgt
            clear hf hi hok hbad hgr hr1 htop hx hj hja hk2 hv0 hgt
            go_enter Try.func42, Try.ntmps42
            go_wp2_with fail
            refine hce.mono fun e w1 h => ?_
            obtain ⟨rfl, hc1⟩ := h
            have HC := Lib.hid hc1
            clear hce hc1
            go_wp2_with fail
            go_ret
            exact ⟨rfl, HH.out.keep HC.out fun _ _ _ => id, HC.out.mono fun _ _ _ h => h.elim⟩
          · have q5 : ¬ (1000000 : Int) < (v : Int) := by omega
            have q6 : decide (1000000 < v) = false := decide_eq_false hgt
            have q7 : decide (v > 1000000) = false := decide_eq_false hgt
            have q8 : IntKind.i64.wrap (v : Int) = (v : Int) := IntWalk.i64_in _ ⟨by omega, by omega⟩
            have haf := atO_find (x := (v : Int)) S 0
            obtain ⟨V, hV⟩ : ∃ V, atO S (v : Int) 0 = V := ⟨_, rfl⟩
            rw [hV] at haf
            have HV := Lib.hid hV
            cases hq : findO S (v : Int) with
            | none =>
              rw [hbad ⟨hr1, hv0, by rw [hq]; rfl⟩, if_neg (by decide)]
              have q9 : V < 0 := by rw [haf.1 hq]; decide
              clear hf hi hok hbad hgr hr1 htop hx hj hja hk2 hv0 hgt hq haf hV
              go_enter Try.func42, Try.ntmps42
              go_wp2_with fail
              refine hce.mono fun e w1 h => ?_
              obtain ⟨rfl, hc1⟩ := h
              have HC := Lib.hid hc1
              clear hce hc1
              have hat := rat_any F w1 q A c S bud (v : Int) (HH.out.keep HC.out fun _ _ _ => id)
              rw [HV.out] at hat
              go_wp2_with fail
              refine hat.mono fun e w2 h => ?_
              obtain ⟨rfl, hc2⟩ := h
              have HC2 := Lib.hid (HC.out.trans hc2)
              clear hat hc2
              go_wp2_with fail
              go_ret
              exact ⟨rfl, HH.out.keep HC2.out fun _ _ _ => id, HC2.out.mono fun _ _ _ h => h.elim⟩
            | some y =>
              rw [hok (by rw [hq]; simp), if_pos rfl]
              have q9 : ¬ V < 0 := by have := haf.2 (by rw [hq]; rfl); omega
              have HR := Lib.hid (show x.refs[k]? = some true → v = 0 ∨ (findO S v).isSome = true from fun _ => .inr (by rw [hq]; rfl))
              clear hf hi hok hbad hgr hr1 htop hx hj hja hk2 hv0 hgt hq haf hV
              go_enter Try.func42, Try.ntmps42
              go_wp2_with fail
              refine hce.mono fun e w1 h => ?_
              obtain ⟨rfl, hc1⟩ := h
              have HC := Lib.hid hc1
              clear hce hc1
              have hat := rat_any F w1 q A c S bud (v : Int) (HH.out.keep HC.out fun _ _ _ => id)
              rw [HV.out] at hat
              go_wp2_with fail
              refine hat.mono fun e w2 h => ?_
              obtain ⟨rfl, hc2⟩ := h
              have HC := Lib.hid (HC.out.trans hc2)
              clear hat hc2
              have hH := HH.out.keep HC.out fun _ _ _ => id
              obtain ⟨b, g, cur, c1, rfl, z1, hbg, hkc, hP, hch⟩ := hH.put HJ.out.1 hk hv HR.out
              have x0 : w2.cell? ⟨q, 0, none⟩ = some (.slice (some ⟨b, 0, none⟩) S.length c) := by simpa using hH.blk.cell 0
              have hjl := (List.getElem?_eq_some_iff.1 HJ.out.1).1
              have HX := Lib.hid (And.intro x0 (And.intro z1 (And.intro hH hbg)))
              have hdr := (Chg.refl (fun _ _ => False) w2).drew
              clear hH x0 z1 hbg hkc hP hch
              go_wp2_with fail
              refine wp_region_facts [(0, 39), (1, 40), (2, 41), (3, 42), (4, 43), (5, 44), (6, 45), (7, 46), (8, 47), (9, 48), (10, 49), (11, 50), (12, 51)] [] (rputF q b S.length x.cells.length c1 g k c o j v) (by kernel_rfl) (by kernel_rfl) rputF_dep rputF_mono (ops_cons (OpF.run rfl rfl fun _ w H => by
                exact ⟨_, w, exec_mv (.tmp 0), H.same 0 (by kernel_rfl), Chg.refl _ _⟩) (ops_cons (OpF.run rfl rfl fun _ w H => by
                obtain ⟨r0, h0⟩ := H.fact 0 (by kernel_rfl)
                have h0 := factH (p := fun u => u = .pointer (some ⟨q, 0, none⟩)) (k := 0) (d := 39) h0 (by kernel_rfl)
                exact ⟨_, w, exec_nc (.tmp 39) h0, rfl, Chg.refl _ _⟩) (ops_cons (OpF.run rfl rfl fun _ w H => by
                obtain ⟨r1, h1⟩ := H.fact 1 (by kernel_rfl)
                have h1 := factH (p := fun u => u = .pointer (some ⟨q, 0, none⟩)) (k := 1) (d := 40) h1 (by kernel_rfl)
                exact ⟨_, w, exec_faR0 (.tmp 40) h1, rfl, Chg.refl _ _⟩) (ops_cons (OpF.run rfl rfl fun _ w H => by
                obtain ⟨r2, h2⟩ := H.fact 2 (by kernel_rfl)
                have h2 := factH (p := fun u => u = .pointer (some ⟨q, 0, none⟩)) (k := 2) (d := 41) h2 (by kernel_rfl)
                exact ⟨_, w, exec_ldRO (.tmp 41) h2 ((hdr.trans H.chg).cell HX.out.1 fun _ => id), rfl, Chg.refl _ _⟩) (ops_cons (OpF.run rfl rfl fun _ w H => by
                exact ⟨_, w, exec_mv (.tmp 0), H.same 0 (by kernel_rfl), Chg.refl _ _⟩) (ops_cons (OpF.run rfl rfl fun _ w H => by
                exact ⟨_, w, exec_mv (.tmp 1), H.same 1 (by kernel_rfl), Chg.refl _ _⟩) (ops_cons (OpF.call rfl rfl fun _ w H => by
                obtain ⟨r4, h4⟩ := H.fact 4 (by kernel_rfl)
                have h4 := factH (p := fun u => u = .pointer (some ⟨q, 0, none⟩)) (k := 4) (d := 43) h4 (by kernel_rfl)
                obtain ⟨r5, h5⟩ := H.fact 5 (by kernel_rfl)
                have h5 := factH (p := fun u => u = .int .i64 o) (k := 5) (d := 44) h5 (by kernel_rfl)
                exact ⟨_, _, exec_cl2 _ _ _ _ (rat_enters w), by rw [h4, h5]; exact (rat_any F w q (some ⟨b, 0, none⟩) c S bud o (HX.out.2.2.1.keep (hdr.trans H.chg) fun _ _ _ => id)).mono fun e w' ⟨he, hc⟩ => ⟨_, he, by show _ = _; exact congrArg (Value.int .i64) HJ.out.2, hc⟩⟩) (ops_cons (OpF.run rfl rfl fun _ w H => by
                obtain ⟨r3, h3⟩ := H.fact 3 (by kernel_rfl)
                have h3 := factH (p := fun u => u = .slice (some ⟨b, 0, none⟩) S.length c) (k := 3) (d := 42) h3 (by kernel_rfl)
                obtain ⟨r6, h6⟩ := H.fact 6 (by kernel_rfl)
                have h6 := factH (p := fun u => u = .int .i64 (j : Int)) (k := 6) (d := 45) h6 (by kernel_rfl)
                exact ⟨_, w, exec_ixRO (.tmp 42) (.tmp 45) h3 h6 hjl, rfl, Chg.refl _ _⟩) (ops_cons (OpF.run rfl rfl fun _ w H => by
                obtain ⟨r7, h7⟩ := H.fact 7 (by kernel_rfl)
                have h7 := factH (p := fun u => u = .pointer (some ⟨b, j * 3, none⟩)) (k := 7) (d := 46) h7 (by kernel_rfl)
                exact ⟨_, w, exec_faO1 (.tmp 46) h7, rfl, Chg.refl _ _⟩) (ops_cons (OpF.run rfl rfl fun _ w H => by
                obtain ⟨r8, h8⟩ := H.fact 8 (by kernel_rfl)
                have h8 := factH (p := fun u => u = .pointer (some ⟨b, j * 3 + 1, none⟩)) (k := 8) (d := 47) h8 (by kernel_rfl)
                exact ⟨_, w, exec_ldU (.tmp 47) h8 ((hdr.trans H.chg).cell HX.out.2.1 fun _ => id), rfl, Chg.refl _ _⟩) (ops_cons (OpF.run rfl rfl fun _ w H => by
                exact ⟨_, w, exec_mv (.tmp 2), H.same 2 (by kernel_rfl), Chg.refl _ _⟩) (ops_cons (OpF.run rfl rfl fun _ w H => by
                exact ⟨_, w, exec_mv (.tmp 3), H.same 3 (by kernel_rfl), Chg.refl _ _⟩) (ops_cons (OpF.run rfl rfl fun _ w H => by
                obtain ⟨r9, h9⟩ := H.fact 9 (by kernel_rfl)
                have h9 := factH (p := fun u => u = .slice (some ⟨g, 0, none⟩) x.cells.length c1) (k := 9) (d := 48) h9 (by kernel_rfl)
                obtain ⟨r10, h10⟩ := H.fact 10 (by kernel_rfl)
                have h10 := factH (p := fun u => u = .int .i64 (k : Int)) (k := 10) (d := 49) h10 (by kernel_rfl)
                exact ⟨_, w, exec_ixU (.tmp 48) (.tmp 49) h9 h10 hk, rfl, Chg.refl _ _⟩) ops_nil))))))))))))) ?_
              intro pp u r w7 hu _ _ hcw
              have e11 : u 11 = _ := hu (11, 50) (by simp)
              have e12 : u 12 = _ := hu (12, 51) (by simp)
              clear hu
              simp only [List.filter_nil, List.append_nil, putL, Act.put, List.setIfInBounds_toArray, List.set_cons_zero, List.set_cons_succ]
              rw [e11, e12]
              clear e11 e12
              have hd7 := HC.out.trans (hdr.trans hcw)
              obtain ⟨b', g', cur', c1', hA', z1', hbg', hkc', hP, hch⟩ := (HH.out.keep hd7 fun _ _ _ => id).put HJ.out.1 hk hv HR.out
              obtain ⟨rfl, rfl⟩ : b' = b ∧ g' = g := by
                injection hA' with hA'
                injection hA' with hA'
                subst hA'
                have := (hdr.trans hcw).cell HX.out.2.1 fun _ => id
                rw [z1'] at this
                injection this with this
                injection this with this
                injection this with this
                injection this with this
                exact ⟨rfl, this⟩
              obtain ⟨u0, z0⟩ : ∃ u, w7.cell? ⟨g', k, none⟩ = some u := ⟨_, (hbg'.cell k).trans (Array.getElem?_eq_getElem hkc')⟩
              have z0f := hbg'.frozen k
              refine wpAny_ready (rs := [13]) (by kernel_rfl) (by simp) ?_
              refine AllReady.cons rfl (fun K hK => ?_) AllReady.nil
              go_simp
              refine hK _ _ ?_
              clear hK K
              try simp only [Act.put, List.setIfInBounds_toArray, List.set_cons_zero, List.set_cons_succ]
              refine ⟨by kernel_rfl, ?_⟩
              have HZ := Lib.hid (And.intro hP ((hd7.mono fun _ _ _ h => h.elim).trans hch))
              clear hP hch hd7 hcw hdr z0 z0f z1' hbg' hkc' hA'
              go_wp2_with fail
              go_ret
              exact ⟨rfl, HZ.out.1, HZ.out.2⟩
    · rw [getV_out hf hi] at hce
      rw [setE_out hf hi, if_neg (by decide)]
      clear hf hi
      go_enter Try.func42, Try.ntmps42
      go_wp2_with fail
      refine hce.mono fun e w1 h => ?_
      obtain ⟨rfl, hc1⟩ := h
      have HC := Lib.hid hc1
      clear hce hc1
      go_wp2_with fail
      go_ret
      exact ⟨rfl, HH.out.keep HC.out fun _ _ _ => id, HC.out.mono fun _ _ _ h => h.elim⟩
end Go.Proofs.Yteigopmdhhgnfaa
