/-
  chans: a hub of its own (Copy).
-/
import Derived.Test.YtclllnoohoonoaaGrown
import Derived.Test.YtclllnoohoonoaaHeldG
namespace Go.Proofs.Ytclllnoohoonoaa
open Go.RowKit
set_option linter.unusedVariables false
set_option linter.unusedSimpArgs false

theorem list_end {G : Nat → Prop} {W0 W w6 : World} {A A' A6 : Option Addr} {c c' c6 p : Nat} {H : HubD} {x : ChanD} {v : Value} {xss : List (List Value)} (hI : HubI G W0 p A c A' c' H) (how : W0.ownsRow 0 78 3 (.slice A H.list.length c) H.list.length xss.flatten) (h2 : xss.length = H.list.length) (h3 : ∀ cs ∈ xss, cs.length = 3) (h4 : ∀ (k : Nat) x cs, H.list[k]? = some x → xss[k]? = some cs → ChanV W0 cs x)
    (h5 : ∀ (i j : Nat) ci cj g, xss[i]? = some ci → xss[j]? = some cj → bufOf ci = some g → bufOf cj = some g → i = j) (h6 : ∀ (i : Nat) ci g, xss[i]? = some ci → bufOf ci = some g → G g) (h7 : ∀ g, (Value.slice A H.list.length c).ownBlock = some g → G g)
    (hc : Chg (fun _ _ => False) W0 W) (hown6 : w6.ownsRow 0 78 3 (.slice A6 (H.list.length + 1) c6) (H.list.length + 1) (xss.flatten ++ [.int .i64 x.size, v, .bool x.shut])) (hg : W.grownBy w6 (Value.slice A H.list.length c).ownBlock)
    (hpl : (Value.slice A6 (H.list.length + 1) c6).ownBlock = (Value.slice A H.list.length c).ownBlock ∨ (Value.slice A6 (H.list.length + 1) c6).ownBlock = some W.heap.size) (hi : I64 x.size) (hq : QR W 41 v (u64V x.buf)) (hu : ∀ y ∈ x.buf, U64 y) (hv : ∀ b, v.ownBlock = some b → W0.heap.size ≤ b) :
    HubP G W0 (w6.setCell ⟨p, 0, none⟩ (.slice A6 (H.list.length + 1) c6)) p { H with list := H.list ++ [x] } ∧ w6.cell? ⟨p, 0, none⟩ = some (.slice A H.list.length c) ∧ w6.frozen? ⟨p, 0, none⟩ = false := by
  obtain ⟨hch, hcg⟩ := ChansI.push how h2 h3 h4 h5 h6 h7 hc hg hown6 hi hq hu fun b hb hG => by have := hv b hb; have := hI.lt b hG; omega
  have hset := hI.setList (l' := H.list ++ [x]) (hcg.mono fun b t _ h => ⟨h7 b h.1, h.2⟩) hch (fun b hb => by
    rcases hb with h | h | h
    · exact ⟨.inl h, Nat.lt_of_lt_of_le (hI.lt b h) hcg.size⟩
    · exact ⟨.inr (hv b h), Nat.lt_of_lt_of_le (hq.lt h).1 hg.size⟩
    · refine ⟨?_, (own_blk hown6 h).2.choose_spec.lt⟩
      rcases hpl with h' | h'
      · rw [h] at h'; exact .inl (h7 b h'.symm)
      · rw [h] at h'; injection h' with h'; exact .inr (by rw [h']; exact hc.size))
  simp only [List.length_append, List.length_singleton] at hset
  exact ⟨hset.1, hset.2.cells2.1, hset.2.frozen 0⟩
def CopyRes (H : HubD) (w : World) (e : Ending) (w' : World) : Prop := ∃ (p : Nat) (G : Nat → Prop), e = .returned (.pointer (some ⟨p, 0, none⟩)) ∧ HubR G w' p H ∧ (∀ b, G b → w.heap.size ≤ b) ∧ Chg (fun _ _ => False) w w'
def cpRel1 (H : HubD) (w : World) (p : Nat) (i : Value) (wr : World) : Prop :=
  ∃ (k : Nat) (L : List ChanD) (G : Nat → Prop), k ≤ H.list.length ∧ i = .int .i64 k ∧ L = H.list.take k ∧ HubR G wr p ⟨L, []⟩ ∧ (∀ b, G b → w.heap.size ≤ b) ∧ Chg (fun _ _ => False) w wr
def cpRel2 (H : HubD) (w : World) (p : Nat) (i : Value) (wr : World) : Prop :=
  ∃ (k : Nat) (L : List WaitD) (G : Nat → Prop), k ≤ H.wait.length ∧ i = .int .i64 k ∧ L = H.wait.take k ∧ HubR G wr p ⟨H.list, L⟩ ∧ (∀ b, G b → w.heap.size ≤ b) ∧ Chg (fun _ _ => False) w wr
theorem take_next {α : Type} {l : List α} {k : Nat} {x : α} (h : l[k]? = some x) : l.take (k + 1) = l.take k ++ [x] := by
  obtain ⟨h1, h2⟩ := List.getElem?_eq_some_iff.1 h
  rw [List.take_succ_eq_append_getElem h1, h2]
set_option maxRecDepth 100000 in
set_option maxHeartbeats 16000000 in
theorem copy_any (w : World) (G0 : Nat → Prop) (p : Nat) (H : HubD) (hH : HubR G0 w p H) (hs : SmallH H) (hok : okH H) :
    Calls Try.prog 20 #[.pointer (some ⟨p, 0, none⟩)] w (CopyRes H w) := by
  obtain ⟨iC, hiC, hzC, hsC, hbC⟩ := info_parts infoChan
  obtain ⟨iW, hiW, hzW, hsW, hbW⟩ := info_parts infoWaiter
  have hnl := hs.list
  have hnw := hs.wait
  obtain ⟨A, cc, A', c', hI⟩ := hH
  obtain ⟨d0, d1⟩ := hI.blk.cells2
  have hp0 : HubR (fun b => b = w.heap.size) (w.alloc (.cells #[.slice none 0 0, .slice none 0 0] 75)) w.heap.size ⟨[], []⟩ :=
    ⟨none, 0, none, 0, Blk.new w 75 #[.slice none 0 0, .slice none 0 0], ChansI.nil _ _, RowR.nil _ _ _ _ _, fun b hb => by simp [Value.ownBlock] at hb, rfl, fun b hb => by rw [hb]; simp⟩
  have a0 := (chg_alloc w (.cells #[.slice none 0 0, .slice none 0 0] 75)).cell d0 fun _ => id
  have HH := Lib.hid (And.intro hI (And.intro hs (And.intro hok (And.intro hp0 d1))))
  clear hI hs hok hp0 d0 d1
  go_enter Try.func20, Try.ntmps20
  go_wp2_with fail
  clear a0
  have hst := chg_alloc w (.cells #[.slice none 0 0, .slice none 0 0] 75)
  have HS := Lib.hid (And.intro hst HH.out.2.2.2.1)
  clear hst
  generalize w.alloc (.cells #[.slice none 0 0, .slice none 0 0] 75) = ws at HS ⊢
  generalize hpw : w.heap.size = p' at HS ⊢
  have HPW := Lib.hid hpw
  clear hpw
  go_loopw [17] (fun i wr => cpRel1 H w p' i wr) (fun i _ => H.list.length - (intOf i).toNat)
  case atStart => exact ⟨0, [], _, Nat.zero_le _, rfl, rfl, HS.out.2, fun b hb => by rw [hb, HPW.out]; exact Nat.le_refl _, HS.out.1⟩
  case round =>
    obtain ⟨k, L, G, hkl, rfl, hL, hJ, hGb, hch⟩ := hrel
    obtain ⟨wo, rfl⟩ : ∃ wo : World, wo = wr := ⟨_, rfl⟩
    obtain ⟨B, bc, B', bc', hJ⟩ := hJ
    have hIo := HH.out.1.keep hch (fun _ _ _ => id) fun _ => id
    by_cases hlt : k < H.list.length
    · obtain ⟨g, x, v, rfl, hlc, hkx, _, _, hsi, hq, hu, hvG, z0, z1, z2, _⟩ := hIo.chans.at_ hlt
      obtain ⟨nA, cq, hv, _⟩ := hq.form
      rw [u64V_len] at hv
      subst hv
      have hLl : L.length = k := by rw [hL, List.length_take]; omega
      have hbl : x.buf.length ≤ 1099511627776 := by have := HH.out.2.2.1 k x hkx; omega
      have hk0 : (0 : Int) ≤ (k : Int) := by omega
      have hk1 : (k : Int) < (H.list.length : Int) := by omega
      obtain ⟨xss, how, h2, h3, h4, h5, h6, h7⟩ := hJ.chans
      have HR := Lib.hid (And.intro hL (And.intro hJ (And.intro hGb (And.intro hch (And.intro hkx (And.intro hsi (And.intro hu hq)))))))
      have HX := Lib.hid (And.intro how (And.intro h2 (And.intro h3 (And.intro h4 (And.intro h5 (And.intro h6 h7))))))
      have HL := Lib.hid hLl
      have hLb : L.length ≤ 1099511627776 := by omega
      clear hL hJ hGb hch hkx hsi hu hq how h2 h3 h4 h5 h6 h7 hIo hlc hvG hLl
      obtain ⟨size, buf, shut⟩ := x
      simp only at z0 z1 z2 hbl
      go_wp2_with fail
      have hcx := chg_alloc wo (.cells #[.int .i64 size, .slice nA buf.length cq, .bool shut] 78)
      have hbx := Blk.new wo 78 #[.int .i64 size, .slice nA buf.length cq, .bool shut]
      refine (cloneU_any _ nA buf.length cq buf rfl (HR.out.2.2.2.2.2.2.2.keep hcx fun _ _ => id) hbl).mono fun e w2 hh => ?_
      obtain ⟨A5, c5, rfl, hq5, hv5, hc5⟩ := hh
      have hbx2 := hc5.blk hbx id
      obtain ⟨x0, x1, x2⟩ := hbx2.cells3
      have xz := hbx2.frozen 1
      have hxb : wo.heap.size < w2.heap.size := hbx2.lt
      have H2 := Lib.hid (And.intro (hcx.trans hc5) (And.intro hq5 (And.intro (fun b hb => Nat.le_trans hcx.size (hv5 b hb)) hbx2)))
      clear hcx hbx hq5 hv5 hc5 hbx2 z0 z1 z2
      go_wp2_with fail
      have hst3 := chg_set (j := 1) H2.out.2.2.2 (.slice A5 buf.length c5)
      have hbx3 : Blk (w2.setCell ⟨wo.heap.size, 1, none⟩ (.slice A5 buf.length c5)) wo.heap.size 78 #[.int .i64 size, .slice A5 buf.length c5, .bool shut] := by simpa using H2.out.2.2.2.set_ 1 (.slice A5 buf.length c5)
      have hc03 : Chg (fun _ _ => False) wo (w2.setCell ⟨wo.heap.size, 1, none⟩ (.slice A5 buf.length c5)) := Chg.trans_new H2.out.1 hst3 fun b t hb h => by have := h.1; omega
      have hq3 := H2.out.2.1.keep hst3 fun b hb h => absurd h.2 (by decide)
      clear x0 x1 x2 xz
      generalize w2.setCell ⟨wo.heap.size, 1, none⟩ (.slice A5 buf.length c5) = w3 at hbx3 hc03 hq3 hst3 ⊢
      have hJ3 := HR.out.2.1.keep hc03 (fun _ _ _ => id) fun _ => id
      obtain ⟨e0, e1⟩ := hJ3.blk.cells2
      obtain ⟨y0, y1, y2⟩ := hbx3.cells3
      have s0 := fun o => (chg_alloc w3 o).cell e0 fun _ => id
      have t0 := fun o => (chg_alloc w3 o).cell y0 fun _ => id
      have t1 := fun o => (chg_alloc w3 o).cell y1 fun _ => id
      have t2 := fun o => (chg_alloc w3 o).cell y2 fun _ => id
      have hsx := hc03.size
      have H3 := Lib.hid (And.intro hc03 hq3)
      clear hst3 hc03 hq3 hJ3 hbx3 e1
      simp only at e0 s0
      have hS0 : w3.drew.cell? ⟨p', 0, none⟩ = some (.slice B L.length bc) ∧ w3.drew.cell? ⟨wo.heap.size, 0, none⟩ = some (.int .i64 size) ∧ w3.drew.cell? ⟨wo.heap.size, 1, none⟩ = some (.slice A5 buf.length c5) ∧ w3.drew.cell? ⟨wo.heap.size, 2, none⟩ = some (.bool shut) := ⟨e0, y0, y1, y2⟩
      refine wp_region_G (S := fun w' => w'.cell? ⟨p', 0, none⟩ = some (.slice B L.length bc) ∧ w'.cell? ⟨wo.heap.size, 0, none⟩ = some (.int .i64 size) ∧ w'.cell? ⟨wo.heap.size, 1, none⟩ = some (.slice A5 buf.length c5) ∧ w'.cell? ⟨wo.heap.size, 2, none⟩ = some (.bool shut)) 10 (by kernel_rfl) hS0 (fun hHeld => ?_)
      refine wpAnyG_take (i := 0) (v := ?va1) rfl (by kernel_rfl) (fun _ _ _ h => h) (Or.inl ⟨by rfl, ?hy1⟩) (by assumption) ?ra1
      case hy1 => (intro w hSw; (try dsimp only at hSw); go_simp; all_goals (with_reducible rfl))
      simp only [Act.put, List.setIfInBounds_toArray, List.set_cons_zero, List.set_cons_succ]
      refine wpAnyG_take (i := 1) (v := ?va2) rfl (by kernel_rfl) (fun _ _ _ h => h) (Or.inl ⟨by rfl, ?hy2⟩) (by assumption) ?ra2
      case hy2 => (intro w hSw; (try dsimp only at hSw); go_simp; all_goals (with_reducible rfl))
      simp only [Act.put, List.setIfInBounds_toArray, List.set_cons_zero, List.set_cons_succ]
      refine wpAnyG_take (i := 2) (v := ?va3) rfl (by kernel_rfl) (fun _ _ _ h => h) (Or.inl ⟨by rfl, ?hy3⟩) (by assumption) ?ra3
      case hy3 => (intro w hSw; (try dsimp only at hSw); go_simp; all_goals (with_reducible rfl))
      simp only [Act.put, List.setIfInBounds_toArray, List.set_cons_zero, List.set_cons_succ]
      refine wpAnyG_take (i := 3) (v := ?va4) rfl (by kernel_rfl) (fun _ _ _ h => h) (Or.inl ⟨by rfl, ?hy4⟩) (by assumption) ?ra4
      case hy4 => (intro w hSw; (try dsimp only at hSw); go_simp; all_goals (with_reducible rfl))
      simp only [Act.put, List.setIfInBounds_toArray, List.set_cons_zero, List.set_cons_succ]
      refine wpAnyG_take (i := 4) (v := ?va5) rfl (by kernel_rfl) (fun _ _ _ h => h) (Or.inl ⟨by rfl, ?hy5⟩) (by assumption) ?ra5
      case hy5 => (intro w hSw; (try dsimp only at hSw); go_simp; all_goals (with_reducible rfl))
      simp only [Act.put, List.setIfInBounds_toArray, List.set_cons_zero, List.set_cons_succ]
      refine wpAnyG_take (i := 5) (v := ?va6) rfl (by kernel_rfl) (fun _ _ _ h => h) (Or.inl ⟨by rfl, ?hy6⟩) (by assumption) ?ra6
      case hy6 => (intro w hSw; (try dsimp only at hSw); go_simp; all_goals (with_reducible rfl))
      simp only [Act.put, List.setIfInBounds_toArray, List.set_cons_zero, List.set_cons_succ]
      refine wpAnyG_ready (rs := [6]) (by kernel_rfl) (by simp) ?_
      refine AllReadyG.cons rfl (fun K hK => ?_) ?_
      · skip
        go_simp
        refine hK.out _ _ ⟨s0 _, t0 _, t1 _, t2 _⟩ (fun hHeld => ?_)
        clear hK K
        try simp only [Act.put, List.setIfInBounds_toArray, List.set_cons_zero, List.set_cons_succ]
        refine wpAnyG_ready (rs := [7]) (by kernel_rfl) (by simp) ?_
        refine AllReadyG.cons rfl (fun K hK => ?_) ?_
        · skip
          refine step_append_blk _ rfl (.tmp 29) (.tmp 31) 72 rfl 0 78 iC _ 3 40 Try.underlying72 hiC hzC hsC hbC rfl (by omega) B L.length bc xss.flatten (by first | rfl | simp [Act.eval, Act.put]) (Chg.own (M := fun _ _ => False) (H3.out.1.trans (by repeat' (first | exact Chg.refl (fun _ _ => False) _ | apply Chg.drew | apply Chg.drewN | apply Chg.alloc))) HX.out.1 fun _ _ => id) 1 1 [.int .i64 size, .slice A5 buf.length c5, .bool shut] _ (by first | rfl | simp [Act.eval, Act.put]) (by first | exact Blk.new _ _ _ | exact (Blk.new _ _ _).drew) rfl (by intro u hu; simp at hu; rcases hu with rfl | rfl | rfl <;> rfl) (by unfold maxLen; omega) (by omega) (Nat.zero_le _) ?_
          intro A6 c6 w6 hown6 hg6 hp6
          have hW := H3.out.1.trans ((by repeat' (first | exact Chg.refl (fun _ _ => False) _ | apply Chg.drew | apply Chg.drewN | apply Chg.alloc)) : Chg (fun _ _ => False) w3 (w3.alloc (.cells #[.int .i64 size, .slice A5 buf.length c5, .bool shut] 78)).drew)
          have hcg6 := own_chg (Chg.own (M := fun _ _ => False) hW HX.out.1 fun _ _ => id) hg6
          obtain ⟨hP, f0, fz⟩ := list_end (x := ⟨size, buf, shut⟩) (v := .slice A5 buf.length c5) HR.out.2.1 HX.out.1 HX.out.2.1 HX.out.2.2.1 HX.out.2.2.2.1 HX.out.2.2.2.2.1 HX.out.2.2.2.2.2.1 HX.out.2.2.2.2.2.2 hW hown6 hg6 hp6 HR.out.2.2.2.2.2.1 (H3.out.2.keep (by repeat' (first | exact Chg.refl (fun _ _ => False) _ | apply Chg.drew | apply Chg.drewN | apply Chg.alloc)) fun _ _ => id) HR.out.2.2.2.2.2.2.1 H2.out.2.2.1
          have hno : ∀ t, ¬ ((Value.slice B L.length bc).ownBlock = some wo.heap.size ∧ t = 78) := fun t h => absurd (HR.out.2.1.lt _ (HX.out.2.2.2.2.2.2 _ h.1)) (Nat.lt_irrefl _)
          have v0 := hcg6.cell (t0 _) hno
          have v1 := hcg6.cell (t1 _) hno
          have v2 := hcg6.cell (t2 _) hno
          simp only at f0 hP
          have HP := Lib.hid hP
          clear hown6 hg6 hp6 hW hcg6 hP hno
          refine hK.out _ _ ⟨f0, v0, v1, v2⟩ (fun hHeld => ?_)
          clear hK K
          try simp only [Act.put, List.setIfInBounds_toArray, List.set_cons_zero, List.set_cons_succ]
          refine wpAnyG_take (i := 8) (v := ?va7) rfl (by kernel_rfl) (fun _ _ _ h => h) (Or.inl ⟨by rfl, ?hy7⟩) (by assumption) ?ra7
          case hy7 => (intro w hSw; (try dsimp only at hSw); go_simp; all_goals (with_reducible rfl))
          simp only [Act.put, List.setIfInBounds_toArray, List.set_cons_zero, List.set_cons_succ]
          refine wpAnyG_take (i := 9) (v := ?va8) rfl (by kernel_rfl) (fun _ _ _ h => h) (Or.inl ⟨by rfl, ?hy8⟩) (by assumption) ?ra8
          case hy8 => (intro w hSw; (try dsimp only at hSw); go_simp; all_goals (with_reducible rfl))
          simp only [Act.put, List.setIfInBounds_toArray, List.set_cons_zero, List.set_cons_succ]
          refine wpAnyG_last rfl (by kernel_rfl) (by kernel_rfl) (fun K hK => ?_)
          go_simp
          refine hK.out _ _ ?_
          clear hK K
          try simp only [Act.put, List.setIfInBounds_toArray, List.set_cons_zero, List.set_cons_succ]
          generalize w6.setCell ⟨p', 0, none⟩ (.slice A6 (L.length + 1) c6) = w7 at HP ⊢
          clear f0 v0 v1 v2 fz hHeld hS0 s0 t0 t1 t2 e0 y0 y1 y2
          go_wp2_with fail
          go_roundw
          case rel =>
            obtain ⟨G', hR', hsub, hch'⟩ := HP.out
            exact ⟨k + 1, L ++ [⟨size, buf, shut⟩], G', hlt, by simp, by rw [take_next HR.out.2.2.2.2.1, ← HR.out.1], hR', fun b hb => (hsub b hb).elim (HR.out.2.2.1 b) fun h => Nat.le_trans HR.out.2.2.2.1.size h, Chg.trans_new HR.out.2.2.2.1 hch' fun b t hb h => by have := HR.out.2.2.1 b h.1; omega⟩
          case measure => simp [intOf]; omega
        exact AllReadyG.nil
      exact AllReadyG.nil
    · obtain rfl : k = H.list.length := by omega
      rw [List.take_length] at hL
      subst hL
      have e1 := hch.cell HH.out.2.2.2.2 fun _ => id
      have HJ := Lib.hid (And.intro hJ (And.intro hGb hch))
      clear hJ hGb hch hIo
      go_wp2_with fail
      clear e1
      go_loopw [41] (fun i wr => cpRel2 H w p' i wr) (fun i _ => H.wait.length - (intOf i).toNat)
      case atStart => exact ⟨0, [], G, Nat.zero_le _, rfl, rfl, ⟨_, _, _, _, HJ.out.1⟩, HJ.out.2.1, HJ.out.2.2⟩
      case round =>
        clear HJ
        obtain ⟨k, L, G, hkl, rfl, hL, hJ, hGb, hch⟩ := hrel
        obtain ⟨wo, rfl⟩ : ∃ wo : World, wo = wr := ⟨_, rfl⟩
        obtain ⟨B, bc, B', bc', hJ⟩ := hJ
        have hIo := HH.out.1.keep hch (fun _ _ _ => id) fun _ => id
        by_cases hlt : k < H.wait.length
        · obtain ⟨b, o, x, A3, c3, rfl, hkx, hwho, hcs, hz⟩ := WaitsR.at3 (hIo.waits.slr (by decide) 0) hlt
          obtain ⟨z0, z1⟩ := hz _ _ (Chg.refl (fun _ _ => False) wo) fun _ => id
          have hLl : L.length = k := by rw [hL, List.length_take]; omega
          have hxl : x.cases.length ≤ 1099511627776 := HH.out.2.1.cases x (List.mem_of_getElem? hkx)
          have hk0 : (0 : Int) ≤ (k : Int) := by omega
          have hk1 : (k : Int) < (H.wait.length : Int) := by omega
          have hLb : L.length ≤ 1099511627776 := by omega
          obtain ⟨xss, how, h2, h3, h4⟩ := hJ.waits
          have HR := Lib.hid (And.intro hL (And.intro hJ (And.intro hGb (And.intro hch (And.intro hkx (And.intro hwho hcs))))))
          have HX := Lib.hid (And.intro how (And.intro h2 (And.intro h3 h4)))
          clear hL hJ hGb hch hkx hwho hcs how h2 h3 h4 hIo hLl hz
          obtain ⟨who, cases⟩ := x
          simp only at z0 z1 hxl
          go_wp2_with fail
          have hcx := chg_alloc wo (.cells #[.int .i64 who, .slice A3 cases.length c3] 80)
          have hbx := Blk.new wo 80 #[.int .i64 who, .slice A3 cases.length c3]
          clear z0 z1
          generalize wo.alloc (.cells #[.int .i64 who, .slice A3 cases.length c3] 80) = w3 at hcx hbx ⊢
          have hJ3 := HR.out.2.1.keep hcx (fun _ _ _ => id) fun _ => id
          obtain ⟨e0, e1⟩ := hJ3.blk.cells2
          obtain ⟨y0, y1⟩ := hbx.cells2
          have H3 := Lib.hid (And.intro hcx (HR.out.2.2.2.2.2.2.keep hcx fun _ => id))
          clear hcx hbx hJ3 e0
          simp only at e1
          have hS0 : w3.drew.cell? ⟨p', 1, none⟩ = some (.slice B' L.length bc') ∧ w3.drew.cell? ⟨wo.heap.size, 0, none⟩ = some (.int .i64 who) ∧ w3.drew.cell? ⟨wo.heap.size, 1, none⟩ = some (.slice A3 cases.length c3) := ⟨e1, y0, y1⟩
          refine wp_region_G (S := fun w' => w'.cell? ⟨p', 1, none⟩ = some (.slice B' L.length bc') ∧ w'.cell? ⟨wo.heap.size, 0, none⟩ = some (.int .i64 who) ∧ w'.cell? ⟨wo.heap.size, 1, none⟩ = some (.slice A3 cases.length c3)) 15 (by kernel_rfl) hS0 (fun hHeld => ?_)
          refine wpAnyG_take (i := 0) (v := ?va9) rfl (by kernel_rfl) (fun _ _ _ h => h) (Or.inl ⟨by rfl, ?hy9⟩) (by assumption) ?ra9
          case hy9 => (intro w hSw; (try dsimp only at hSw); go_simp; all_goals (with_reducible rfl))
          simp only [Act.put, List.setIfInBounds_toArray, List.set_cons_zero, List.set_cons_succ]
          refine wpAnyG_take (i := 1) (v := ?va10) rfl (by kernel_rfl) (fun _ _ _ h => h) (Or.inl ⟨by rfl, ?hy10⟩) (by assumption) ?ra10
          case hy10 => (intro w hSw; (try dsimp only at hSw); go_simp; all_goals (with_reducible rfl))
          simp only [Act.put, List.setIfInBounds_toArray, List.set_cons_zero, List.set_cons_succ]
          refine wpAnyG_take (i := 2) (v := ?va11) rfl (by kernel_rfl) (fun _ _ _ h => h) (Or.inl ⟨by rfl, ?hy11⟩) (by assumption) ?ra11
          case hy11 => (intro w hSw; (try dsimp only at hSw); go_simp; all_goals (with_reducible rfl))
          simp only [Act.put, List.setIfInBounds_toArray, List.set_cons_zero, List.set_cons_succ]
          refine wpAnyG_take (i := 3) (v := ?va12) rfl (by kernel_rfl) (fun _ _ _ h => h) (Or.inl ⟨by rfl, ?hy12⟩) (by assumption) ?ra12
          case hy12 => (intro w hSw; (try dsimp only at hSw); go_simp; all_goals (with_reducible rfl))
          simp only [Act.put, List.setIfInBounds_toArray, List.set_cons_zero, List.set_cons_succ]
          refine wpAnyG_take (i := 4) (v := ?va13) rfl (by kernel_rfl) (fun _ _ _ h => h) (Or.inl ⟨by rfl, ?hy13⟩) (by assumption) ?ra13
          case hy13 => (intro w hSw; (try dsimp only at hSw); go_simp; all_goals (with_reducible rfl))
          simp only [Act.put, List.setIfInBounds_toArray, List.set_cons_zero, List.set_cons_succ]
          refine wpAnyG_take (i := 5) (v := ?va14) rfl (by kernel_rfl) (fun _ _ _ h => h) (Or.inl ⟨by rfl, ?hy14⟩) (by assumption) ?ra14
          case hy14 => (intro w hSw; (try dsimp only at hSw); go_simp; all_goals (with_reducible rfl))
          simp only [Act.put, List.setIfInBounds_toArray, List.set_cons_zero, List.set_cons_succ]
          refine wpAnyG_take (i := 6) (v := ?va15) rfl (by kernel_rfl) (fun _ _ _ h => h) (Or.inl ⟨by rfl, ?hy15⟩) (by assumption) ?ra15
          case hy15 => (intro w hSw; (try dsimp only at hSw); go_simp; all_goals (with_reducible rfl))
          simp only [Act.put, List.setIfInBounds_toArray, List.set_cons_zero, List.set_cons_succ]
          refine wpAnyG_take (i := 7) (v := ?va16) rfl (by kernel_rfl) (fun _ _ _ h => h) (Or.inl ⟨by rfl, ?hy16⟩) (by assumption) ?ra16
          case hy16 => (intro w hSw; (try dsimp only at hSw); go_simp; all_goals (with_reducible rfl))
          simp only [Act.put, List.setIfInBounds_toArray, List.set_cons_zero, List.set_cons_succ]
          refine wpAnyG_take (i := 8) (v := ?va17) rfl (by kernel_rfl) (fun _ _ _ h => h) (Or.inl ⟨by rfl, ?hy17⟩) (by assumption) ?ra17
          case hy17 => (intro w hSw; (try dsimp only at hSw); go_simp; all_goals (with_reducible rfl))
          simp only [Act.put, List.setIfInBounds_toArray, List.set_cons_zero, List.set_cons_succ]
          refine wpAnyG_ready (rs := [9]) (by kernel_rfl) (by simp) ?_
          refine AllReadyG.cons rfl (fun K hK => ?_) ?_
          · skip
            go_simp
            go_at_call 29
            refine (cloneC_any _ A3 cases.length c3 cases rfl (H3.out.2.keep (by repeat' (first | exact Chg.refl (fun _ _ => False) _ | apply Chg.drew | apply Chg.drewN | apply Chg.alloc)) fun _ => id) hxl).mono ?_
            rintro e w4 ⟨A5, c5, rfl, hcl, hc4⟩
            have hc34 : Chg (fun _ _ => False) w3 w4 := ((by repeat' (first | exact Chg.refl (fun _ _ => False) _ | apply Chg.drew | apply Chg.drewN | apply Chg.alloc)) : Chg (fun _ _ => False) w3 w3.drew).trans hc4
            have g0 := hc34.cell e1 fun _ => id
            have g1 := hc34.cell y0 fun _ => id
            have g2 := hc34.cell y1 fun _ => id
            have s0 := fun o => (chg_alloc w4 o).cell g0 fun _ => id
            have t0 := fun o => (chg_alloc w4 o).cell g1 fun _ => id
            have t1 := fun o => (chg_alloc w4 o).cell g2 fun _ => id
            have H4 := Lib.hid (And.intro (H3.out.1.trans hc34) hcl)
            clear hcl hc4 hc34
            try simp only []
            refine hK.out _ _ ⟨g0, g1, g2⟩ (fun hHeld => ?_)
            clear hK K
            try simp only [Act.put, List.setIfInBounds_toArray, List.set_cons_zero, List.set_cons_succ]
            refine wpAnyG_take (i := 10) (v := ?va18) rfl (by kernel_rfl) (fun _ _ _ h => h) (Or.inl ⟨by rfl, ?hy18⟩) (by assumption) ?ra18
            case hy18 => (intro w hSw; (try dsimp only at hSw); go_simp; all_goals (with_reducible rfl))
            simp only [Act.put, List.setIfInBounds_toArray, List.set_cons_zero, List.set_cons_succ]
            refine wpAnyG_ready (rs := [11]) (by kernel_rfl) (by simp) ?_
            refine AllReadyG.cons rfl (fun K hK => ?_) ?_
            · skip
              go_simp
              refine hK.out _ _ ⟨s0 _, t0 _, t1 _⟩ (fun hHeld => ?_)
              clear hK K
              try simp only [Act.put, List.setIfInBounds_toArray, List.set_cons_zero, List.set_cons_succ]
              refine wpAnyG_ready (rs := [12]) (by kernel_rfl) (by simp) ?_
              refine AllReadyG.cons rfl (fun K hK => ?_) ?_
              · skip
                refine step_append_blk _ rfl (.tmp 49) (.tmp 56) 73 rfl 0 80 iW _ 2 32 Try.underlying73 hiW hzW hsW hbW rfl (by omega) B' L.length bc' xss.flatten (by first | rfl | simp [Act.eval, Act.put]) (Chg.own (M := fun _ _ => False) (H4.out.1.trans (by repeat' (first | exact Chg.refl (fun _ _ => False) _ | apply Chg.drew | apply Chg.drewN | apply Chg.alloc))) HX.out.1 fun _ _ => id) 1 1 [.int .i64 who, .slice A5 cases.length c5] _ (by first | rfl | simp [Act.eval, Act.put]) (by first | exact Blk.new _ _ _ | exact (Blk.new _ _ _).drew) rfl (by intro u hu; simp at hu; rcases hu with rfl | rfl <;> rfl) (by unfold maxLen; omega) (by omega) (Nat.zero_le _) ?_
                intro A6 c6 w6 hown6 hg6 hp6
                have hW := H4.out.1.trans ((by repeat' (first | exact Chg.refl (fun _ _ => False) _ | apply Chg.drew | apply Chg.drewN | apply Chg.alloc)) : Chg (fun _ _ => False) w4 (w4.alloc (.cells #[.int .i64 who, .slice A5 cases.length c5] 80)))
                have hcg6 := own_chg (Chg.own (M := fun _ _ => False) hW HX.out.1 fun _ _ => id) hg6
                obtain ⟨hP, f0, fz⟩ := wait_end HR.out.2.1 HX.out.2.1 HX.out.2.2.1 HX.out.2.2.2 HX.out.1 hW hown6 hg6 hp6 (H4.out.2.keep (by repeat' (first | exact Chg.refl (fun _ _ => False) _ | apply Chg.drew | apply Chg.drewN | apply Chg.alloc)) fun _ => id) HR.out.2.2.2.2.2.1
                have hno : ∀ t, ¬ ((Value.slice B' L.length bc').ownBlock = some wo.heap.size ∧ t = 80) := fun t h => absurd (HR.out.2.1.lt _ (HR.out.2.1.wown _ h.1)) (Nat.lt_irrefl _)
                have v0 := hcg6.cell (t0 _) hno
                have v1 := hcg6.cell (t1 _) hno
                simp only at f0 hP
                have HP := Lib.hid hP
                clear hown6 hg6 hp6 hW hcg6 hP hno
                refine hK.out _ _ ⟨f0, v0, v1⟩ (fun hHeld => ?_)
                clear hK K
                try simp only [Act.put, List.setIfInBounds_toArray, List.set_cons_zero, List.set_cons_succ]
                refine wpAnyG_take (i := 13) (v := ?va19) rfl (by kernel_rfl) (fun _ _ _ h => h) (Or.inl ⟨by rfl, ?hy19⟩) (by assumption) ?ra19
                case hy19 => (intro w hSw; (try dsimp only at hSw); go_simp; all_goals (with_reducible rfl))
                simp only [Act.put, List.setIfInBounds_toArray, List.set_cons_zero, List.set_cons_succ]
                refine wpAnyG_take (i := 14) (v := ?va20) rfl (by kernel_rfl) (fun _ _ _ h => h) (Or.inl ⟨by rfl, ?hy20⟩) (by assumption) ?ra20
                case hy20 => (intro w hSw; (try dsimp only at hSw); go_simp; all_goals (with_reducible rfl))
                simp only [Act.put, List.setIfInBounds_toArray, List.set_cons_zero, List.set_cons_succ]
                refine wpAnyG_last rfl (by kernel_rfl) (by kernel_rfl) (fun K hK => ?_)
                go_simp
                refine hK.out _ _ ?_
                clear hK K
                try simp only [Act.put, List.setIfInBounds_toArray, List.set_cons_zero, List.set_cons_succ]
                generalize w6.setCell ⟨p', 1, none⟩ (.slice A6 (L.length + 1) c6) = w7 at HP ⊢
                clear f0 v0 v1 fz hHeld hS0 s0 t0 t1 e1 y0 y1 g0 g1 g2
                go_wp2_with fail
                go_roundw
                case rel =>
                  obtain ⟨G', hR', hsub, hch'⟩ := HP.out
                  exact ⟨k + 1, L ++ [⟨who, cases⟩], G', hlt, by simp, by rw [take_next HR.out.2.2.2.2.1, ← HR.out.1], hR', fun b hb => (hsub b hb).elim (HR.out.2.2.1 b) fun h => Nat.le_trans HR.out.2.2.2.1.size h, Chg.trans_new HR.out.2.2.2.1 hch' fun b t hb h => by have := HR.out.2.2.1 b h.1; omega⟩
                case measure => simp [intOf]; omega
              exact AllReadyG.nil
            exact AllReadyG.nil
          exact AllReadyG.nil
        · obtain rfl : k = H.wait.length := by omega
          rw [List.take_length] at hL
          subst hL
          have HJ := Lib.hid (And.intro hJ (And.intro hGb hch))
          clear hJ hGb hch hIo
          go_wp2_with fail
          go_ret
          exact ⟨p', G, rfl, ⟨_, _, _, _, HJ.out.1⟩, HJ.out.2.1, HJ.out.2.2⟩
end Go.Proofs.Ytclllnoohoonoaa
