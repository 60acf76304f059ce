/-
  answers: what a module that does nothing is answered.
-/
import Derived.Test.YtdegfnejhamejaaVChkZk
namespace Go.Proofs.Ytdegfnejhamejaa
open Go.RowKit
set_option linter.unusedVariables false
set_option linter.unusedSimpArgs false

theorem infoInts : (Try.prog.info? 31).map (fun i => (i.zero, i.size, i.bytes)) = some (some (.slice none 0 0), 1, 24) := by kernel_rfl
set_option maxRecDepth 100000 in
theorem cloneV_any {e0 : Nat} (B : Nat) (w : World) (l : List Int) (A : Option Addr) (c : Nat) (hl : SlR B e0 1 IntV w (.slice A l.length c) l) (hn : l.length ≤ 1048576) :
    Calls Try.prog 27 #[.slice A l.length c] w fun e w' => ∃ A' c', e = .returned (.slice A' l.length c') ∧ RowR w.heap.size 3 1 IntV w' A' c' l ∧ Chg (fun _ _ => False) w w' := by
  obtain ⟨i0, hi0, hz0, hs0, hb0⟩ := info_parts infoInt
  rcases A with _ | a
  · have h0 : l.length = 0 := by
      obtain ⟨A', c', hv, _, h⟩ := hl
      rcases Nat.eq_zero_or_pos l.length with h0 | h0
      · exact h0
      · obtain ⟨b, o, hA, _⟩ := h h0
        injection hv with hv
        rw [hA] at hv
        cases hv
    have hl0 : l = [] := List.eq_nil_of_length_eq_zero h0
    subst hl0
    have hnil : ∀ w', (binOp .eql 31 (.slice none 0 c) (.slice none 0 0)).run Try.prog w' = .ok (.bool true) w' := fun w' => Lib.run_eql_slice_nil (P := Try.prog) w' 31 3 none 0 c 0 0 Try.underlying31
    go_enter Try.func27, Try.ntmps27
    go_wp2_with fail
    go_ret
    exact ⟨none, 0, rfl, RowR.nil _ _ _ _ _, Chg.refl _ _⟩
  · have hnil : ∀ w', (binOp .eql 31 (.slice (some a) l.length c) (.slice none 0 0)).run Try.prog w' = .ok (.bool false) w' := fun w' => Lib.run_eql_slice_nil (P := Try.prog) w' 31 3 (some a) l.length c 0 0 Try.underlying31
    go_enter Try.func27, Try.ntmps27
    go_wp2_with (at_builtin; go_must (refine wpList_copy_slr rfl (.tmp 5) (.tmp 6) 31 rfl 3 i0 _ 8 Try.underlying31 hi0 hz0 hs0 hb0 rfl (by omega) (some a) l.length c rfl (by simp) rfl hl (fun cs y h => by have h := h.1; subst h; intro u hu; simp at hu; subst hu; rfl) (by omega) (by omega) ?_))
    intro A3 c3 w2 yss k1 k2 k3 k4 k5
    have HC := Lib.hid (And.intro (show RowR w.heap.size 3 1 IntV w2 A3 c3 l from ⟨yss, k1, k2, k3, k4⟩) k5)
    clear k1 k2 k3 k4 k5 hl
    go_wp2
    go_ret
    exact ⟨A3, c3, rfl, HC.out.1, HC.out.2⟩
/-- A stack in a row of its own, in a block of G. -/
def StG (G : Nat → Prop) (w : World) (cs : List Value) (x : List Int) : Prop := ∃ n0 A c, cs = [.slice A x.length c] ∧ RowR n0 3 1 IntV w A c x ∧ ∀ b, OwnB A x.length c b → G b
/-- The stacks told so far, in the variable in block g. -/
def OutR (n0 g : Nat) (G : Nat → Prop) (w : World) (L : List (List Int)) : Prop := ∃ A c, Blk w g 41 #[.slice A L.length c] ∧ RowR n0 31 1 (StG G) w A c L ∧ (∀ b, OwnB A L.length c b → G b) ∧ ¬ G g
theorem StG.keep {G : Nat → Prop} {M : Nat → Nat → Prop} {w w' : World} {cs : List Value} {x : List Int} (H : StG G w cs x) (hc : Chg M w w') (hM : ∀ b, G b → ¬ M b 3) : StG G w' cs x := by
  obtain ⟨n0, A, c, h1, h2, h3⟩ := H
  exact ⟨n0, A, c, h1, h2.keep1 hc (fun b hb => hM b (h3 b hb)) fun _ _ h => h, h3⟩
theorem StG.imp {G G' : Nat → Prop} {w : World} {cs : List Value} {x : List Int} (H : StG G w cs x) (h : ∀ b, G b → G' b) : StG G' w cs x := by
  obtain ⟨n0, A, c, h1, h2, h3⟩ := H
  exact ⟨n0, A, c, h1, h2, fun b hb => h b (h3 b hb)⟩
theorem OutR.keep {n0 g : Nat} {G : Nat → Prop} {M : Nat → Nat → Prop} {w w' : World} {L : List (List Int)} (H : OutR n0 g G w L) (hc : Chg M w w') (hM : ∀ b t, M b t → ¬ (b = g ∨ G b)) : OutR n0 g G w' L := by
  obtain ⟨A, c, h1, h2, h3, h4⟩ := H
  exact ⟨A, c, hc.blk h1 fun hm => hM _ _ hm (.inl rfl), h2.keep1 hc (fun b hb hm => hM _ _ hm (.inr (h3 b hb))) fun cs x hx => hx.keep hc fun b hb hm => hM _ _ hm (.inr hb), h3, h4⟩
set_option maxRecDepth 100000 in
set_option maxHeartbeats 4000000 in
theorem stacks1_each (n0 g : Nat) (G : Nat → Prop) (w : World) (L : List (List Int)) (p : Value) (k : Int) (st : List Int) (As : Option Addr) (cs base : Nat) (H : OutR n0 g G w L) (hr : RowR base 3 1 IntV w As cs st) (hn0 : n0 ≤ w.heap.size) (hl : st.length ≤ 64) (hL : L.length ≤ 100000) :
    Calls Try.prog 26 (#[p, .int .i64 k, .slice As st.length cs] ++ #[.pointer (some ⟨g, 0, none⟩)]) w fun e w' => e = .returned (.tuple #[]) ∧ Chg (fun b _ => b = g ∨ G b) w w' ∧ ∃ G', OutR n0 g G' w' (L ++ [st]) ∧ (∀ b, G b → G' b) ∧ ∀ b, G' b → G b ∨ (w.heap.size ≤ b ∧ b < w'.heap.size) := by
  obtain ⟨i0, hi0, hz0, hs0, hb0⟩ := info_parts infoInts
  obtain ⟨A, c, h1, h2, h3, h4⟩ := H
  have a0 : w.cell? ⟨g, 0, none⟩ = some (.slice A L.length c) := by simpa using h1.cell 0
  have hdr := (Chg.refl (fun _ _ => False) w).drew
  have hcl := cloneV_any 0 w.drew st As cs (((hr.keep1 hdr (fun _ _ => id) fun _ _ h => h).slr (by decide) 0)) (by omega)
  have HH := Lib.hid (And.intro h1 (And.intro h2 (And.intro h3 (And.intro h4 (And.intro hn0 hL)))))
  clear h1 h2 h3 hn0 hL hr
  simp only [List.append_toArray, List.cons_append, List.nil_append]
  go_enter Try.func26, Try.ntmps26
  go_wp2_with fail
  refine wp_region_G (S := (fun w' => Chg (fun b _ => G b) w w')) 5 (by kernel_rfl) (Chg.refl _ _).drew (fun hHeld => ?_)
  refine wpAnyG_take (i := 0) (v := ?va1) rfl (by kernel_rfl) (fun _ _ _ h => h) (Or.inl ⟨by kernel_rfl, ?hy1⟩) (by assumption) ?ra1
  case hy1 => (intro w hSw; (try dsimp only at hSw); have a0 := hSw.cell a0 (fun t hm => h4 hm); clear hSw; go_simp; all_goals (with_reducible rfl))
  simp only [Act.put, List.setIfInBounds_toArray, List.set_cons_zero, List.set_cons_succ]
  refine wpAnyG_take (i := 1) (v := ?va2) rfl (by kernel_rfl) (fun _ _ _ h => h) (Or.inl ⟨by kernel_rfl, ?hy2⟩) (by assumption) ?ra2
  case hy2 => (intro w hSw; (try dsimp only at hSw); have a0 := hSw.cell a0 (fun t hm => h4 hm); clear hSw; go_simp; all_goals (with_reducible rfl))
  simp only [Act.put, List.setIfInBounds_toArray, List.set_cons_zero, List.set_cons_succ]
  refine wpAnyG_ready (rs := [2]) (by kernel_rfl) (by simp) ?_
  refine AllReadyG.cons rfl (fun K hK => ?_) AllReadyG.nil
  go_simp
  go_at_call 27
  refine hcl.mono ?_
  rintro e w1 ⟨A1, c1, rfl, hr1, hc1⟩
  refine hK.out _ _ (hHeld.trans (hc1.mono fun _ _ _ h => h.elim)) (fun hHeld => ?_)
  clear hK K
  try simp only [Act.put, List.setIfInBounds_toArray, List.set_cons_zero, List.set_cons_succ]
  refine wpAnyG_ready (rs := [3]) (by kernel_rfl) (by simp) ?_
  refine AllReadyG.cons rfl (fun K hK => ?_) AllReadyG.nil
  go_simp
  refine hK.out _ _ (hHeld.alloc _) (fun hHeld => ?_)
  clear hK K
  try simp only [Act.put, List.setIfInBounds_toArray, List.set_cons_zero, List.set_cons_succ]
  refine wpAnyG_ready (rs := [4]) (by kernel_rfl) (by simp) ?_
  refine AllReadyG.cons rfl (fun K hK => ?_) AllReadyG.nil
  have hst := ((hdr.trans hc1).alloc (.cells #[.slice A1 st.length c1] 31))
  have hbn := Blk.new w1 31 #[.slice A1 st.length c1]
  obtain ⟨xss, k1, k2, k3, k4⟩ := HH.out.2.1.keep1 hst (fun _ _ => id) fun cs x hx => hx.keep hst fun _ _ => id
  have hgl := HH.out.1.lt
  have HW := Lib.hid (And.intro hst (And.intro k1 (And.intro k2 (And.intro k3 k4))))
  have HA := Lib.hid (And.intro hHeld (And.intro hr1 (And.intro hc1 hgl)))
  have hs4 : w.heap.size ≤ w1.heap.size := hc1.size
  clear hst k2 k3 k4 hHeld hr1 hc1 hgl
  refine step_append_blk (P := Try.prog) _ rfl (.tmp 7) (.tmp 10) 41 rfl n0 31 i0 _ 1 24 Try.underlying41 hi0 hz0 hs0 hb0 rfl (by omega) A L.length c xss.flatten (by simp [Act.eval]) k1 1 1 [.slice A1 st.length c1] w1.heap.size (by simp [Act.eval]) hbn rfl (fun u hu => by simp at hu; subst hu; rfl) (by have := HH.out.2.2.2.2.2; simp only [maxLen]; omega) (by have := HH.out.2.2.2.2.2; omega) (by rw [World.size_alloc]; have := HH.out.2.2.2.2.1; omega) fun A' c' w' j1 j2 j3 => ?_
  refine hK.out _ _ (HA.out.1.grown j2 fun g' o hg ho => HH.out.2.2.1 g' hg) (fun hHeld => ?_)
  clear hK K
  try simp only [Act.put, List.setIfInBounds_toArray, List.set_cons_zero, List.set_cons_succ]
  have hch1 : Chg (fun b t => OwnB A L.length c b ∧ t = 31) _ w' := (Chg.refl _ _).grown j2 fun g' o' hg ho => by
    obtain ⟨h1, cs, h2⟩ := own_blk k1 hg
    rw [h2] at ho
    injection ho with ho
    subst ho
    exact ⟨hg, rfl⟩
  have hbg := hch1.blk (HW.out.1.blk HH.out.1 id) (fun hm => absurd hm.2 (by decide))
  have d0 : w'.cell? ⟨g, 0, none⟩ = some (.slice A L.length c) := by simpa using hbg.cell 0
  have fz := hbg.frozen 0
  have HE := Lib.hid (And.intro hbg (And.intro hch1 (And.intro hHeld (And.intro j1 j3))))
  clear hbg hch1 hHeld j1 j2 j3 k1 hbn hcl a0
  refine wpAnyG_last rfl (by kernel_rfl) (by kernel_rfl) (fun K hK => ?_)
  go_simp
  refine hK.out _ _ ?_
  clear hK K
  try simp only [Act.put, List.setIfInBounds_toArray, List.set_cons_zero, List.set_cons_succ]
  go_wp2_with fail
  go_end0
  have hset := chg_set (j := 0) HE.out.1 (.slice A' (L.length + 1) c')
  have hsz : w'.heap.size = (w'.setCell ⟨g, 0, none⟩ (.slice A' (L.length + 1) c')).heap.size := by simp [World.setCell]
  have hs5 := HE.out.2.1.size
  rw [World.size_alloc] at hs5
  have hown1 : ∀ b, OwnB A1 st.length c1 b → w.heap.size ≤ b ∧ b < w1.heap.size := fun b hb => HA.out.2.1.ownIn hb
  have hown2 : ∀ b, OwnB A' (L.length + 1) c' b → G b ∨ (w.heap.size ≤ b ∧ b < w'.heap.size) := fun b hb => by
    have hlt := (own_blk HE.out.2.2.2.1 hb).2.choose_spec.lt
    rcases HE.out.2.2.2.2 with h | h
    · exact .inl (HH.out.2.2.1 b (by unfold OwnB at hb ⊢; rw [← h]; exact hb))
    · unfold OwnB at hb
      rw [h] at hb
      injection hb with hb
      rw [World.size_alloc] at hb
      exact .inr ⟨by omega, hlt⟩
  have hn1 : StG (fun b => G b ∨ (w.heap.size ≤ b ∧ b < w'.heap.size)) w' [.slice A1 st.length c1] st :=
    ⟨_, A1, c1, rfl, (HA.out.2.1.keep1 (chg_alloc w1 _) (fun _ _ => id) fun _ _ h => h).keep1 HE.out.2.1 (fun _ _ hm => absurd hm.2 (by decide)) fun _ _ h => h, fun b hb => .inr ⟨(hown1 b hb).1, by have := (hown1 b hb).2; omega⟩⟩
  have hrow := RowR.snoc (R := StG (fun b => G b ∨ (w.heap.size ≤ b ∧ b < w'.heap.size))) (w := w1.alloc (.cells #[.slice A1 st.length c1] 31)) (w' := w') HW.out.2.2.1 HW.out.2.2.2.1 (fun k x cs hx hcs => (HW.out.2.2.2.2 k x cs hx hcs).imp fun _ => .inl) (fun cs x hx => hx.keep HE.out.2.1 fun _ _ hm => absurd hm.2 (by decide)) HE.out.2.2.2.1 rfl hn1
  have hll : (L ++ [st]).length = L.length + 1 := by simp
  refine ⟨rfl, (HE.out.2.2.1.mono fun _ _ _ h => .inr h : Chg (fun b _ => b = g ∨ G b) w w').trans (hset.mono fun _ _ _ hm => .inl hm.1), fun b => G b ∨ (w.heap.size ≤ b ∧ b < w'.heap.size), ⟨A', c', ?_, ?_, ?_, ?_⟩, fun _ => .inl, fun b hb => hb.imp id fun h => ⟨h.1, by rw [← hsz]; exact h.2⟩⟩
  · have := HE.out.1.set_ 0 (.slice A' (L.length + 1) c')
    rw [hll]
    simpa using this
  · exact hrow.keep1 hset (fun _ _ hm => absurd hm.2 (by decide)) fun cs x hx => hx.keep hset fun _ _ hm => absurd hm.2 (by decide)
  · intro b hb
    rw [hll] at hb
    exact hown2 b hb
  · intro hh
    rcases hh with hh | hh
    · exact h4 hh
    · have := HA.out.2.2.2; omega
end Go.Proofs.Ytdegfnejhamejaa
namespace Go.Proofs.Ytdegfnejhamejaa
open Go.RowKit
set_option linter.unusedVariables false
set_option linter.unusedSimpArgs false

theorem at_len {m : ModD} {f : FuncD} : ∀ {k : Nat} {st : List Int}, atN m f k = some st → k ≤ f.code.length
  | 0, _, _ => Nat.zero_le _
  | k + 1, st, h => by
    rw [atN] at h
    cases ha : atN m f k with
    | none => rw [ha] at h; cases h
    | some s0 =>
      rw [ha, Option.bind_some] at h
      cases hx : f.code[k]? with
      | none => rw [hx] at h; cases h
      | some x => exact (List.getElem?_eq_some_iff.1 hx).1
theorem fromN_cases (m : ModD) (f : FuncD) : ∀ (n k : Nat) (st : List Int), fromN m f n k st = -1 ∨ 0 ≤ fromN m f n k st
  | 0, _, _ => .inl rfl
  | n + 1, k, st => by
    rw [fromN]
    split
    · exact fromN_cases m f n _ _
    · right; omega
theorem funcAt_cases (m : ModD) (f : FuncD) : funcAt m f = -1 ∨ 0 ≤ funcAt m f := by
  unfold funcAt
  split
  · right; omega
  · exact fromN_cases m f _ _ _
theorem firstBad_none {m : ModD} : ∀ {l : List FuncD} {i : Nat}, firstBad m l i = none → ∀ f ∈ l, funcAt m f = -1
  | [], _, _, f, hf => by cases hf
  | g :: l, i, h, f, hf => by
    rw [firstBad] at h
    split at h
    · cases h
    · rename_i hn
      rcases List.mem_cons.1 hf with rfl | hf
      · exact (funcAt_cases m f).resolve_right hn
      · exact firstBad_none h f hf
theorem chk_ok {m : ModD} (h : (chkN m).2.2 = 0) : formedMod m = true ∧ soloB m = true ∧ ∀ f ∈ m.funcs, funcAt m f = -1 := by
  unfold chkN at h
  split at h
  · rename_i hb
    simp only [Bool.and_eq_true] at hb
    cases hf : firstBad m m.funcs 0 with
    | none => exact ⟨hb.1, hb.2, firstBad_none hf⟩
    | some r => rw [hf] at h; simp at h
  · simp at h
/-- One who listens, and writes the stacks down. -/
def stUC (m : ModD) (f : FuncD) (B n0 g : Nat) (hg : B ≤ g) (hl : f.code.length ≤ 65536) : UC m f B where
  G0 := fun b => b = g
  J := fun k G w => ∃ L, OutR n0 g G w L ∧ L.length = k ∧ (∀ j, j < k → atN m f j = L[j]?) ∧ n0 ≤ w.heap.size ∧ ∀ b, G b → n0 ≤ b ∧ B ≤ b
  keep := fun k G M w w' hJ hc hM => by
    obtain ⟨L, h1, h2, h3, h4, h5⟩ := hJ
    exact ⟨L, h1.keep hc hM, h2, h3, Nat.le_trans h4 hc.size, h5⟩
  fu := 26
  env := #[.pointer (some ⟨g, 0, none⟩)]
  enters := fun _ _ => rfl
  each := fun k G w st As cs base p hJ ha hs hr hB hbs hlow => by
    obtain ⟨L, h1, h2, h3, h4, h5⟩ := hJ
    have hk := at_len ha
    refine (stacks1_each n0 g G w L p k st As cs base h1 hr h4 hs (by omega)).mono fun e w' hh => ?_
    obtain ⟨he, hc, G', k1, k2, k3⟩ := hh
    refine ⟨he, hc.mono fun b t _ hm => ⟨hm, hm.elim (fun e => by rw [e]; exact hg) fun hb => (h5 b hb).2⟩, G', ⟨L ++ [st], k1, by simp [h2], fun j hj => ?_, Nat.le_trans h4 hc.size, fun b hb => (k3 b hb).elim (h5 b) fun hn => ⟨by omega, by omega⟩⟩, k2, k3⟩
    by_cases hjk : j < k
    · rw [List.getElem?_append_left (by omega)]
      exact h3 j hjk
    · obtain rfl : j = k := by omega
      rw [List.getElem?_append_right (by omega), h2, Nat.sub_self, ha]
      rfl
def headE (m : ModD) (fn : Int) : Int := if ((chkN m).2.2 != 0) = true then 9 else if (decide (fn < 0) || decide ((m.funcs.length : Int) ≤ fn)) = true then 16 else 0
theorem head_ok {m : ModD} {fn : Int} (h : headE m fn = 0) : (chkN m).2.2 = 0 ∧ 0 ≤ fn ∧ fn < (m.funcs.length : Int) := by
  unfold headE at h
  split at h
  · cases h
  · rename_i h1
    split at h
    · cases h
    · rename_i h2
      simp at h1 h2
      exact ⟨h1, by omega, by omega⟩
set_option maxRecDepth 100000 in
set_option maxHeartbeats 4000000 in
theorem vhead_any (w : World) (B : Nat) (v : Value) (m : ModD) (fn : Int) (hBw : B ≤ w.heap.size) (hm : ModR B w v m) (hn : cMod m ≤ 1099511627776) (hs : SmallC m) :
    Calls Try.prog 25 #[v, .int .i64 fn] w fun e w' => e = .returned (.int .i64 (headE m fn)) ∧ Chg (fun _ _ => False) w w' := by
  obtain ⟨A, c, A', c', rfl, hT, hF⟩ := hm
  have hb0 := Blk.new w 25 #[.slice A m.types.length c, .slice A' m.funcs.length c']
  have hc0 := chg_alloc w (.cells #[.slice A m.types.length c, .slice A' m.funcs.length c'] 25)
  have hlt : LetsM (fun _ _ => False) B := fun _ _ _ h => h
  have hcall := vcheck_any _ B (.agg #[.slice A m.types.length c, .slice A' m.funcs.length c']) m (show B ≤ (w.alloc (.cells #[.slice A m.types.length c, .slice A' m.funcs.length c'] 25)).heap.size by rw [World.size_alloc]; omega) ⟨A, c, A', c', rfl, hT.keep hc0 hlt, hF.keep hc0 hlt⟩ hn hs
  have y1 : (w.alloc (.cells #[.slice A m.types.length c, .slice A' m.funcs.length c'] 25)).cell? ⟨w.heap.size, 1, none⟩ = some (.slice A' m.funcs.length c') := by simp
  have HC := Lib.hid hc0
  clear hT hF hb0 hlt hn hs hBw
  go_enter Try.func25, Try.ntmps25
  go_wp2_with fail
  refine hcall.mono fun e w1 hh => ?_
  obtain ⟨rfl, hc1⟩ := hh
  have z1 := hc1.cell y1 (fun _ => id)
  have HD := Lib.hid (HC.out.trans hc1)
  clear hcall hc1 hc0 y1
  obtain ⟨⟨a1, b1, e1⟩, hch⟩ : ∃ x, chkN m = x := ⟨_, rfl⟩
  rw [hch]
  have HCH := Lib.hid hch
  clear hch
  cases hb : (e1 != 0)
  · cases hb2 : decide (fn < 0)
    · cases hb3 : decide ((m.funcs.length : Int) ≤ fn)
      · have HE := Lib.hid (show headE m fn = 0 by unfold headE; rw [HCH.out]; simp only [hb, hb2, hb3]; rfl)
        go_wp2_with fail
        go_ret
        exact ⟨by rw [HE.out]; rfl, HD.out⟩
      · have HE := Lib.hid (show headE m fn = 16 by unfold headE; rw [HCH.out]; simp only [hb, hb2, hb3]; rfl)
        go_wp2_with fail
        go_ret
        exact ⟨by rw [HE.out]; rfl, HD.out⟩
    · have HE := Lib.hid (show headE m fn = 16 by unfold headE; rw [HCH.out]; simp only [hb, hb2]; rfl)
      go_wp2_with fail
      go_ret
      exact ⟨by rw [HE.out]; rfl, HD.out⟩
  · have HE := Lib.hid (show headE m fn = 9 by unfold headE; rw [HCH.out]; simp only [hb]; rfl)
    go_wp2_with fail
    go_ret
    exact ⟨by rw [HE.out]; rfl, HD.out⟩
/-- What Stacks answers: the stacks of function fn, in memory of their own. -/
def StkOut (w : World) (m : ModD) (fn : Int) (v : Value) (w' : World) : Prop :=
  if headE m fn = 0 then ∃ (f : FuncD) (L : List (List Int)) (A : Option Addr) (c : Nat) (G : Nat → Prop), m.funcs[fn.toNat]? = some f ∧ L.length = f.code.length ∧ (∀ j, j < L.length → atN m f j = L[j]?) ∧ v = .slice A L.length c ∧ RowR w.heap.size 31 1 (StG G) w' A c L ∧ (∀ b, OwnB A L.length c b → G b) ∧ ∀ b, G b → w.heap.size ≤ b
  else v = .slice none 0 0
def StkRes (w : World) (m : ModD) (fn : Int) (e : Ending) (w' : World) : Prop := ∃ v, e = .returned (.tuple #[v, .int .i64 (headE m fn)]) ∧ Chg (fun _ _ => False) w w' ∧ StkOut w m fn v w'
set_option maxRecDepth 100000 in
set_option maxHeartbeats 4000000 in
theorem stacks_any (w : World) (B : Nat) (v : Value) (m : ModD) (fn : Int) (hBw : B ≤ w.heap.size) (hm : ModR B w v m) (hn : cMod m ≤ 1099511627776) (hs : SmallC m) : Calls Try.prog 13 #[v, .int .i64 fn] w (StkRes w m fn) := by
  obtain ⟨A, c, A', c', rfl, hT, hF⟩ := hm
  have hb0 := Blk.new w 25 #[.slice A m.types.length c, .slice A' m.funcs.length c']
  have hc0 := chg_alloc w (.cells #[.slice A m.types.length c, .slice A' m.funcs.length c'] 25)
  have hlt : LetsM (fun _ _ => False) B := fun _ _ _ h => h
  have hsz1 : (w.alloc (.cells #[.slice A m.types.length c, .slice A' m.funcs.length c'] 25)).heap.size = w.heap.size + 1 := World.size_alloc ..
  have hcall := vhead_any _ B (.agg #[.slice A m.types.length c, .slice A' m.funcs.length c']) m fn (show B ≤ (w.alloc (.cells #[.slice A m.types.length c, .slice A' m.funcs.length c'] 25)).heap.size by rw [hsz1]; omega) ⟨A, c, A', c', rfl, hT.keep hc0 hlt, hF.keep hc0 hlt⟩ hn hs
  have hmf : ∀ (fn : Fn) (first cap : Array Value) (w : World), (Instr.makeFunc fn first cap).run Try.prog w = .ok (.func fn first cap) w := fun _ _ _ _ => rfl
  have y0 : (w.alloc (.cells #[.slice A m.types.length c, .slice A' m.funcs.length c'] 25)).cell? ⟨w.heap.size, 0, none⟩ = some (.slice A m.types.length c) := by simp
  have y1 : (w.alloc (.cells #[.slice A m.types.length c, .slice A' m.funcs.length c'] 25)).cell? ⟨w.heap.size, 1, none⟩ = some (.slice A' m.funcs.length c') := by simp
  have HC := Lib.hid (And.intro hc0 (And.intro hT (And.intro hF (And.intro hs (And.intro hBw hsz1)))))
  clear hT hF hb0 hlt hn hs hBw hc0 hsz1
  go_enter Try.func13, Try.ntmps13
  go_wp2_with fail
  refine hcall.mono fun e w1 hh => ?_
  obtain ⟨rfl, hc1⟩ := hh
  have z0 := hc1.cell y0 (fun _ => id)
  have z1 := hc1.cell y1 (fun _ => id)
  have hcw := HC.out.1.trans hc1
  have HD := Lib.hid (And.intro hcw hc1.size)
  clear hcall hc1 y0 y1 hcw
  obtain ⟨E, hE⟩ : ∃ E, headE m fn = E := ⟨_, rfl⟩
  rw [hE]
  have HE := Lib.hid hE
  clear hE
  cases hb : (E != 0)
  · have hE0 : E = 0 := by simpa using hb
    subst hE0
    obtain ⟨ho, h0, h1⟩ := head_ok HE.out
    obtain ⟨n, rfl⟩ : ∃ n : Nat, fn = (n : Int) := ⟨fn.toNat, by omega⟩
    obtain ⟨hfm, _, hall⟩ := chk_ok ho
    have hnl : n < m.funcs.length := by omega
    obtain ⟨f, hf⟩ : ∃ f, m.funcs[n]? = some f := ⟨_, List.getElem?_eq_getElem hnl⟩
    have hmem := List.mem_of_getElem? hf
    have hcl : f.code.length ≤ 65536 := by
      have h2 := hfm
      unfold formedMod at h2
      simp only [Bool.and_eq_true, decide_eq_true_eq] at h2
      have h3 : f.code.length ≤ codeAll m.funcs := by
        unfold codeAll
        exact sum_ge _ _ (List.mem_map.2 ⟨f, hmem, rfl⟩)
      omega
    have hfa := hall f hmem
    have hlt : LetsM (fun _ _ => False) B := fun _ _ _ h => h
    have hbo := Blk.new w1 41 #[.slice none 0 0]
    have hca := chg_alloc w1 (.cells #[.slice none 0 0] 41)
    have hsz2 : (w1.alloc (.cells #[.slice none 0 0] 41)).heap.size = w1.heap.size + 1 := World.size_alloc ..
    have hws := HC.out.2.2.2.2.2
    have hs1 := HD.out.2
    have hBw := HC.out.2.2.2.2.1
    rw [hws] at hs1
    have hgB : B ≤ w1.heap.size := by omega
    have hJ : (stUC m f B w.heap.size w1.heap.size hgB hcl).J 0 (fun _ => False) (w1.alloc (.cells #[.slice none 0 0] 41)) :=
      ⟨[], ⟨none, 0, hbo, RowR.nil _ _ _ _ _, fun b hb => by simp [OwnB, Value.ownBlock] at hb, id⟩, rfl, fun j hj => absurd hj (Nat.not_lt_zero _), by rw [hsz2]; omega, fun _ h => h.elim⟩
    have hfun : Calls Try.prog 19 #[.agg #[.slice A m.types.length c, .slice A' m.funcs.length c'], .int .i64 (n : Int), .func (.func 26) #[] #[.pointer (some ⟨w1.heap.size, 0, none⟩)]] (w1.alloc (.cells #[.slice none 0 0] 41)) (FunRes (stUC m f B w.heap.size w1.heap.size hgB hcl) (w1.alloc (.cells #[.slice none 0 0] 41))) :=
      function_any _ B m f A A' c c' n hf (HC.out.2.1.keep (HD.out.1.trans hca) hlt) (HC.out.2.2.1.keep (HD.out.1.trans hca) hlt) hfm (by rw [hsz2]; omega) (stUC m f B w.heap.size w1.heap.size hgB hcl) hJ (fun b hb => by have hb : b = w1.heap.size := hb; rw [hsz2]; omega) (HC.out.2.2.2.1 f hmem).1 (HC.out.2.2.2.1 f hmem).2
    have x0 := hca.cell z0 (fun _ => id)
    have x1 := hca.cell z1 (fun _ => id)
    have HF := Lib.hid (And.intro hf (And.intro hfa (And.intro hca (And.intro hs1 hnl))))
    clear hf hfa hca hs1 hnl hJ hbo hall hmem ho h0 h1 hws hBw hlt hsz2 z0 z1
    go_wp2_with fail
    refine hfun.mono fun e w2 hh => ?_
    obtain ⟨hc2, rfl, hh⟩ := hh
    obtain ⟨G, L, ⟨A9, c9, k1, k2, k3, k4⟩, hL, hLj, _, hG⟩ := hh HF.out.2.1
    have d0 : w2.cell? ⟨w1.heap.size, 0, none⟩ = some (.slice A9 L.length c9) := by simpa using k1.cell 0
    have HL := Lib.hid (And.intro hL (And.intro hLj (And.intro k2 (And.intro k3 (And.intro hG hc2)))))
    clear hh hL hLj k1 k2 k3 hG hc2 hfun
    go_wp2_with fail
    go_ret2
    have hG2 : ∀ b, G b → w.heap.size ≤ b := fun b hb => (HL.out.2.2.2.2.1 b hb).1
    have hgl : (fun b (_ : Nat) => b = w1.heap.size ∧ B ≤ b) = fun b _ => b = w1.heap.size ∧ B ≤ b := rfl
    refine ⟨.slice A9 L.length c9, by rw [HE.out]; rfl, ?_, ?_⟩
    · refine ((HD.out.1.trans HF.out.2.2.1).trans_new HL.out.2.2.2.2.2 fun b t hb hm => ?_)
      have h2 : b = w1.heap.size := hm.1
      have := HF.out.2.2.2.1
      omega
    · unfold StkOut
      rw [if_pos HE.out]
      exact ⟨f, L, A9, c9, G, by rw [Int.toNat_natCast]; exact HF.out.1, HL.out.1, fun j hj => HL.out.2.1 j (by rw [← HL.out.1]; exact hj), rfl, HL.out.2.2.1, HL.out.2.2.2.1, hG2⟩
  · have HB := Lib.hid hb
    go_wp2_with fail
    go_ret2
    refine ⟨.slice none 0 0, by rw [HE.out]; rfl, HD.out.1, ?_⟩
    unfold StkOut
    rw [HE.out, if_neg (by have := HB.out; simpa using this)]
end Go.Proofs.Ytdegfnejhamejaa
namespace Go.Proofs.Ytdegfnejhamejaa
open Go.RowKit
set_option linter.unusedVariables false
set_option linter.unusedSimpArgs false

theorem slr_blk {α : Type} {R : World → List Value → α → Prop} {w : World} {b t B size : Nat} {cs : List Value} {x : α} (hb : Blk w b t cs.toArray) (hB : b < B) (hs : cs.length = size) (hR : R w cs x) : SlR B 0 size R w (.slice (some ⟨b, 0, none⟩) 1 1) [x] := by
  refine ⟨some ⟨b, 0, none⟩, 1, rfl, Nat.le_refl _, fun _ => ⟨b, 0, rfl, .inl hB, hb.lt, fun k y hk => ?_⟩⟩
  obtain rfl : k = 0 := by
    rcases Nat.eq_zero_or_pos k with h | h
    · exact h
    · rw [List.getElem?_eq_none (by simp; omega)] at hk; cases hk
  have hk : x = y := by simpa using hk
  subst hk
  exact ⟨cs, hs, hR, fun j u hu => by rw [show 0 + 0 * size + j = j by omega, hb.cell]; simpa using hu⟩
/-- One function of one instruction. -/
def oneM (op : Int) : ModD := ⟨[], [⟨0, [], [], 0, [⟨op, 0, 0, 0, []⟩]⟩]⟩
theorem nil_slr {α : Type} {R : World → List Value → α → Prop} {w : World} {B e size : Nat} : SlR B e size R w (.slice none 0 0) ([] : List α) := ⟨none, 0, rfl, Nat.le_refl _, fun h => absurd h (Nat.lt_irrefl _)⟩
theorem oneM_mod {w : World} {op : Int} {b1 b2 B : Nat} (ho : I64 op) (h1 : Blk w b1 50 #[.int .i64 op, .int .i64 0, .int .i64 0, .int .u64 0, .slice none 0 0]) (h2 : Blk w b2 34 #[.int .i64 0, .slice none 0 0, .slice none 0 0, .int .i64 0, .slice (some ⟨b1, 0, none⟩) 1 1]) (hB1 : b1 < B) (hB2 : b2 < B) :
    ModR B w (.agg #[.slice none 0 0, .slice (some ⟨b2, 0, none⟩) 1 1]) (oneM op) := by
  have hz : I64 0 := by unfold I64; omega
  refine ⟨none, 0, some ⟨b2, 0, none⟩, 1, rfl, nil_slr, slr_blk (cs := [.int .i64 0, .slice none 0 0, .slice none 0 0, .int .i64 0, .slice (some ⟨b1, 0, none⟩) 1 1]) h2 hB2 rfl ?_⟩
  exact ⟨none, 0, none, 0, some ⟨b1, 0, none⟩, 1, rfl, hz, hz, nil_slr, nil_slr, slr_blk (cs := [.int .i64 op, .int .i64 0, .int .i64 0, .int .u64 0, .slice none 0 0]) h1 hB1 rfl ⟨none, 0, rfl, ho, hz, hz, by unfold U64; simp, nil_slr⟩⟩
set_option maxRecDepth 100000 in
theorem chk_one35 : chkN (oneM 35) = (0, 0, 0) := by kernel_rfl
set_option maxRecDepth 100000 in
theorem chk_one6 : chkN (oneM 6) = (0, 0, 9) := by kernel_rfl
theorem small_one (op : Int) : SmallC (oneM op) := by
  intro f hf
  have hf : f = ⟨0, [], [], 0, [⟨op, 0, 0, 0, []⟩]⟩ := by simpa [oneM] using hf
  subst hf
  refine ⟨?_, fun x hx => ?_⟩
  · simp only [placesOf, List.flatMap_cons, List.flatMap_nil, List.append_nil, jumpsOf]
    split
    · simp
    · split <;> simp
  · have hx : x = ⟨op, 0, 0, 0, []⟩ := by simpa using hx
    subst hx
    simp
theorem cmod_one (op : Int) : cMod (oneM op) ≤ 1099511627776 := by simp [cMod, oneM, cFunc, cInts, cInstr]
theorem jumps_le (x : InstrD) : (jumpsOf x).length ≤ cInstr x ∧ x.cases.length ≤ cInstr x := by
  have h1 : x.cases.length ≤ (x.cases.map cCase).sum := len_le_sum cCase (fun _ => by unfold cCase; omega) _
  unfold jumpsOf cInstr
  constructor
  · split
    · simp; omega
    · split
      · split <;> simp <;> omega
      · simp
  · omega
theorem places_cost : ∀ l : List InstrD, (placesOf l).length ≤ (l.map cInstr).sum
  | [] => Nat.le_refl _
  | x :: l => by
    have h1 := places_cost l
    have h2 := (jumps_le x).1
    unfold placesOf at h1 ⊢
    rw [List.flatMap_cons, List.length_append, List.map_cons, List.sum_cons]
    omega
theorem small_of_cost {m : ModD} (h : cMod m ≤ 1099511627776) : SmallC m := by
  intro f hf
  have h1 : cFunc f ≤ (m.funcs.map cFunc).sum := sum_ge _ _ (List.mem_map.2 ⟨f, hf, rfl⟩)
  have h2 : (f.code.map cInstr).sum ≤ cFunc f := by unfold cFunc; omega
  have h3 := places_cost f.code
  unfold cMod at h
  refine ⟨by omega, fun x hx => ?_⟩
  have h4 : cInstr x ≤ (f.code.map cInstr).sum := sum_ge _ _ (List.mem_map.2 ⟨x, hx, rfl⟩)
  have h5 := (jumps_le x).2
  omega
def IdleRes (w : World) (e : Ending) (w' : World) : Prop := ∃ v, e = .returned v ∧ ModR w'.heap.size w' v (oneM 35) ∧ Chg (fun _ _ => False) w w'
set_option maxRecDepth 100000 in
set_option maxHeartbeats 4000000 in
theorem idle_any (w : World) : Calls Try.prog 10 #[] w (IdleRes w) := by
  go_enter Try.func10, Try.ntmps10
  go_wp2_with fail
  have h0 := ((Blk.new w 25 #[.slice none 0 0, .slice (some ⟨w.heap.size + 1 + 1, 0, none⟩) 1 1]).alloc (.cells #[.int .i64 35, .int .i64 0, .int .i64 0, .int .u64 0, .slice none 0 0] 50)).alloc (.cells #[.int .i64 0, .slice none 0 0, .slice none 0 0, .int .i64 0, .slice (some ⟨w.heap.size + 1, 0, none⟩) 1 1] 34)
  have h1 := (Blk.new (w.alloc (.cells #[.slice none 0 0, .slice (some ⟨w.heap.size + 1 + 1, 0, none⟩) 1 1] 25)) 50 #[.int .i64 35, .int .i64 0, .int .i64 0, .int .u64 0, .slice none 0 0]).alloc (.cells #[.int .i64 0, .slice none 0 0, .slice none 0 0, .int .i64 0, .slice (some ⟨w.heap.size + 1, 0, none⟩) 1 1] 34)
  have h2 := Blk.new ((w.alloc (.cells #[.slice none 0 0, .slice (some ⟨w.heap.size + 1 + 1, 0, none⟩) 1 1] 25)).alloc (.cells #[.int .i64 35, .int .i64 0, .int .i64 0, .int .u64 0, .slice none 0 0] 50)) 34 #[.int .i64 0, .slice none 0 0, .slice none 0 0, .int .i64 0, .slice (some ⟨w.heap.size + 1, 0, none⟩) 1 1]
  have hc := ((chg_alloc w (.cells #[.slice none 0 0, .slice (some ⟨w.heap.size + 1 + 1, 0, none⟩) 1 1] 25)).alloc (.cells #[.int .i64 35, .int .i64 0, .int .i64 0, .int .u64 0, .slice none 0 0] 50)).alloc (.cells #[.int .i64 0, .slice none 0 0, .slice none 0 0, .int .i64 0, .slice (some ⟨w.heap.size + 1, 0, none⟩) 1 1] 34)
  rw [World.size_alloc] at h1
  rw [World.size_alloc, World.size_alloc] at h2
  generalize ((w.alloc _).alloc _).alloc _ = w1 at h0 h1 h2 hc ⊢
  have y0 : w1.cell? ⟨w.heap.size, 0, none⟩ = some (.slice none 0 0) := by simpa using h0.cell 0
  have y1 : w1.cell? ⟨w.heap.size, 1, none⟩ = some (.slice (some ⟨w.heap.size + 1 + 1, 0, none⟩) 1 1) := by simpa using h0.cell 1
  refine bodyPost_ret (v := .agg #[.slice none 0 0, .slice (some ⟨w.heap.size + 1 + 1, 0, none⟩) 1 1]) (by simp [results, Try.results10, go_sem, y0, y1]) rfl ?_
  exact ⟨_, rfl, oneM_mod (by unfold I64; omega) h1 h2 h1.lt h2.lt, hc⟩
def AnsRes (w : World) (e : Ending) (w' : World) : Prop := e = .returned (.bool true) ∧ Chg (fun _ _ => False) w w'
set_option maxRecDepth 100000 in
set_option maxHeartbeats 4000000 in
theorem vans_any (w : World) : Calls Try.prog 9 #[] w (AnsRes w) := by
  go_enter Try.func9, Try.ntmps9
  go_wp2_with fail
  refine (idle_any w).mono fun e w1 hh => ?_
  obtain ⟨v, rfl, hm, hc1⟩ := hh
  have hk := vcheck_any w1 _ v (oneM 35) (Nat.le_refl _) hm (cmod_one 35) (small_one 35)
  unfold VChk at hk
  rw [chk_one35] at hk
  have HC1 := Lib.hid hc1
  clear hm hc1
  go_wp2_with fail
  refine hk.mono fun e w2 hh => ?_
  obtain ⟨rfl, hc2⟩ := hh
  have HC2 := Lib.hid (HC1.out.trans hc2)
  clear hk hc2
  have h1 := (Blk.new w2 50 #[.int .i64 6, .int .i64 0, .int .i64 0, .int .u64 0, .slice none 0 0]).alloc (.cells #[.int .i64 0, .slice none 0 0, .slice none 0 0, .int .i64 0, .slice (some ⟨w2.heap.size, 0, none⟩) 1 1] 34)
  have h2 := Blk.new (w2.alloc (.cells #[.int .i64 6, .int .i64 0, .int .i64 0, .int .u64 0, .slice none 0 0] 50)) 34 #[.int .i64 0, .slice none 0 0, .slice none 0 0, .int .i64 0, .slice (some ⟨w2.heap.size, 0, none⟩) 1 1]
  have hc := (chg_alloc w2 (.cells #[.int .i64 6, .int .i64 0, .int .i64 0, .int .u64 0, .slice none 0 0] 50)).alloc (.cells #[.int .i64 0, .slice none 0 0, .slice none 0 0, .int .i64 0, .slice (some ⟨w2.heap.size, 0, none⟩) 1 1] 34)
  rw [World.size_alloc] at h2
  have hk := vcheck_any _ _ (.agg #[.slice none 0 0, .slice (some ⟨w2.heap.size + 1, 0, none⟩) 1 1]) (oneM 6) (Nat.le_refl _) (oneM_mod (by unfold I64; omega) h1 h2 h1.lt h2.lt) (cmod_one 6) (small_one 6)
  unfold VChk at hk
  rw [chk_one6] at hk
  have HC3 := Lib.hid (HC2.out.trans hc)
  clear h1 h2 hc
  go_wp2_with fail
  refine hk.mono fun e w3 hh => ?_
  obtain ⟨rfl, hc3⟩ := hh
  have HC4 := Lib.hid (HC3.out.trans hc3)
  clear hk hc3
  go_wp2_with fail
  refine (idle_any w3).mono fun e w4 hh => ?_
  obtain ⟨v4, rfl, hm, hc4⟩ := hh
  have hk := stacks_any w4 _ v4 (oneM 35) 0 (Nat.le_refl _) hm (cmod_one 35) (small_one 35)
  have HC5 := Lib.hid (HC4.out.trans hc4)
  clear hm hc4
  go_wp2_with fail
  refine hk.mono fun e w5 hh => ?_
  obtain ⟨v5, rfl, hc5, hso⟩ := hh
  have hh0 : headE (oneM 35) 0 = 0 := by unfold headE; rw [chk_one35]; rfl
  unfold StkOut at hso
  rw [if_pos hh0] at hso
  obtain ⟨f, L, A, c, G, hf, hL, _, rfl, _⟩ := hso
  have hL1 : L.length = 1 := by
    rw [hL]
    have : f = ⟨0, [], [], 0, [⟨35, 0, 0, 0, []⟩]⟩ := by simpa [oneM] using hf.symm
    rw [this]
    rfl
  rw [hL1, hh0]
  have HC6 := Lib.hid (HC5.out.trans hc5)
  clear hk hc5 hf hL hL1 hh0
  go_wp2_with fail
  go_ret
  exact ⟨rfl, HC6.out⟩
end Go.Proofs.Ytdegfnejhamejaa
