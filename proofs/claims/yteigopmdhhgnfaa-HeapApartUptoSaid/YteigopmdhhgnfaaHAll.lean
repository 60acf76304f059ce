/-
  All of the program's heap, and the law's names: what All hands out, as a row.
-/
import Derived.Test.YteigopmdhhgnfaaHVals
import Derived.Test.YteigopmdhhgnfaaHpAlR
namespace Go.Proofs.Yteigopmdhhgnfaa
open Go.RowKit
attribute [local go_sem] Oper.semAt_some
set_option linter.unusedVariables false
set_option linter.unusedSimpArgs false

set_option maxRecDepth 100000 in
theorem hvalues_any (w : World) (A : Option Addr) (n c : Nat) : Calls Try.prog 50 #[.slice A n c] w fun e w' => e = .returned (.func (.func 55) #[] #[.pointer (some ⟨w.heap.size, 0, none⟩)]) ∧ Blk w' w.heap.size 24 #[.slice A n c] ∧ Chg (fun _ _ => False) w w' := by
  have hb := Blk.new w 24 #[.slice A n c]
  have hc := chg_alloc w (.cells #[.slice A n c] 24)
  have HC := Lib.hid (And.intro hb hc)
  clear hb hc
  go_enter Try.func50, Try.ntmps50
  go_wp2_with fail
  go_ret
  exact ⟨rfl, HC.out⟩
set_option maxRecDepth 100000 in
theorem hall_any (G : Nat → Prop) (w : World) (p m n cnt : Nat) (bo : Nat → Nat) (A : Nat → Option Addr) (c : Nat → Nat) (S : List ObjD) (bud least : Nat) (h : HpI G w p m n cnt bo A c S bud least) :
    Calls Try.prog 39 #[.pointer (some ⟨p, 0, none⟩)] w fun e w' => ∃ gb R rc, e = .returned (.func (.func 55) #[] #[.pointer (some ⟨gb, 0, none⟩)]) ∧ Blk w' gb 24 #[.slice R S.length rc] ∧ RowR w.heap.size 3 1 IntZ w' R rc (S.map fun o => (o.name : Int)) ∧ Chg (fun _ _ => False) w w' := by
  have hn := hnames_any G w p m n cnt bo A c S bud least h
  clear h
  go_enter Try.func39, Try.ntmps39
  go_wp2_with fail
  refine hn.mono fun e w1 h => ?_
  obtain ⟨R, rc, rfl, hrow, hc1⟩ := h
  clear hn
  have hv := hvalues_any w1 R S.length rc
  have HC := Lib.hid (And.intro hrow hc1)
  clear hrow hc1
  go_wp2_with fail
  refine hv.mono fun e w2 h => ?_
  obtain ⟨rfl, hb, hc2⟩ := h
  clear hv
  have HD := Lib.hid (And.intro hb hc2)
  clear hb hc2
  go_wp2_with fail
  go_ret
  exact ⟨w1.heap.size, R, rc, rfl, HD.out.1, HC.out.1.keep HD.out.2 (fun _ _ => id) fun _ _ h => h, HC.out.2.trans HD.out.2⟩
/-- Between two rounds of names. -/
def nmS (zs : List Int) (g D : Nat) (W0 : World) (k : Nat) (O : Nat → Prop) (W : World) : Prop :=
  ∃ (L : List Int) (A : Option Addr) (c : Nat), L = zs.take k ∧ L.length = k ∧ Blk W g 24 #[.slice A L.length c] ∧ RowR D 3 1 IntZ W A c L ∧ (∀ q, O q ↔ q = g ∨ OwnB A L.length c q) ∧ (∀ q, OwnB A L.length c q → W0.heap.size ≤ q) ∧ Chg (fun q _ => q = g) W0 W
theorem nmS.keep {zs : List Int} {g D : Nat} {W0 : World} {k : Nat} {O : Nat → Prop} {A B : World} (h : nmS zs g D W0 k O A) (hc : ChgL W0.heap.size A B) : nmS zs g D W0 k O B := by
  obtain ⟨L, R, c, h1, h2, h4, h5, h6, h7, h8⟩ := h
  exact ⟨L, R, c, h1, h2, hc.blk h4 fun h => absurd h.2 (by decide), h5.keep1 hc (fun _ _ h => absurd h.2 (by decide)) fun _ _ h => h, h6, h7, h8.trans_le hc fun b t hb h => by have := h.1; omega⟩
theorem nmS.own {zs : List Int} {g D : Nat} {W0 : World} {k : Nat} {O : Nat → Prop} {A : World} (h : nmS zs g D W0 k O A) (hg : D ≤ g) (hD : D ≤ W0.heap.size) : ∀ q, O q → D ≤ q ∧ q < A.heap.size := by
  obtain ⟨L, R, c, h1, h2, h4, h5, h6, h7, h8⟩ := h
  intro q hq
  rcases (h6 q).1 hq with rfl | hq
  · exact ⟨hg, h4.lt⟩
  · exact ⟨Nat.le_trans hD (h7 q hq), (h5.lt hq).1⟩
theorem seqV1 (cs : Array Value) (w : World) : (binOp .eql 86 (.func (.func 55) #[] cs) .nilFunc).run Try.prog w = .ok (.bool false) w := seqI_nil cs w
set_option maxRecDepth 100000 in
set_option maxHeartbeats 4000000 in
theorem names12_any (G : Nat → Prop) (w : World) (p m n cnt : Nat) (bo : Nat → Nat) (A : Nat → Option Addr) (c : Nat → Nat) (S : List ObjD) (bud least : Nat) (h : HpI G w p m n cnt bo A c S bud least) :
    Calls Try.prog 24 #[.pointer (some ⟨p, 0, none⟩)] w fun e w' => ∃ A' c', e = .returned (.tuple #[.slice A' S.length c', .bool true]) ∧ RowR w.heap.size 3 1 IntZ w' A' c' (S.map fun o => (o.name : Int)) ∧ Chg (fun _ _ => False) w w' := by
  obtain ⟨i0, hi0, hz0, hs0, hb0⟩ := info_parts infoInt
  have hSl : S.length ≤ 65536 := Nat.le_trans (len_le_used S) (Nat.le_trans h.room.1 h.room.2)
  have hb2 := (Blk.new w 24 #[.slice none 0 0]).alloc (.cells #[.bool false] 4)
  have hb3 := Blk.new (w.alloc (.cells #[.slice none 0 0] 24)) 4 #[.bool false]
  have hc0 := (chg_alloc w (.cells #[.slice none 0 0] 24)).alloc (.cells #[.bool false] 4)
  have hH := h.keep hc0 fun _ _ _ => id
  simp only [World.size_alloc] at hb3
  clear h
  refine (callsIn_wide (n := 3)).1 ?_
  refine callsIn_of_wp_marks Try.func24 rfl trivial ?_ rfl
  simp only [Try.ntmps24, List.size_toArray, List.length_cons, List.length_nil, Nat.reduceAdd, Nat.reduceSub, Array.replicate_succ, Array.replicate_zero, List.push_toArray, List.append_toArray, List.nil_append, List.cons_append]
  refine wpIn_wide.2 ?_
  have HH := Lib.hid hH
  clear hH
  go_wp2_with fail
  obtain ⟨W, hW⟩ : ∃ W, (w.alloc (.cells #[.slice none 0 0] 24)).alloc (.cells #[.bool false] 4) = W := ⟨_, rfl⟩
  rw [hW] at hb2 hb3 hc0 HH ⊢
  clear hW
  obtain ⟨g2, hg2⟩ : ∃ g2, w.heap.size = g2 := ⟨_, rfl⟩
  obtain ⟨g3, hg3⟩ : ∃ g3, g2 + 1 = g3 := ⟨_, rfl⟩
  rw [hg2] at hb2 hb3
  rw [hg3] at hb3
  simp only [hg2, hg3]
  have HG := Lib.hid (And.intro hg2 hg3)
  have HB := Lib.hid (And.intro hb2 (And.intro hb3 hc0))
  clear hg2 hg3 hb2 hb3 hc0
  refine (hall_any G W p m n cnt bo A c S bud least HH.out).mono fun e w1 h => ?_
  obtain ⟨gb, R, rc, rfl, hv, hrow, hc1⟩ := h
  have hnil := seqI_nil #[.pointer (some ⟨gb, 0, none⟩)]
  have h5 := Blk.new w1 24 #[.slice none 0 0]
  have hc2 := chg_alloc w1 (.cells #[.slice none 0 0] 24)
  have H1 := Lib.hid (And.intro hv (And.intro hc1 hrow))
  clear hv hc1 hrow
  go_wp2_with fail
  clear hnil
  obtain ⟨W0, hW0⟩ : ∃ W0, w1.alloc (.cells #[.slice none 0 0] 24) = W0 := ⟨_, rfl⟩
  rw [hW0] at h5 hc2 ⊢
  have hs0' : W0.heap.size = w1.heap.size + 1 := by rw [← hW0]; simp
  obtain ⟨g5, hg5⟩ : ∃ g5, w1.heap.size = g5 := ⟨_, rfl⟩
  have hsl : SlR w1.heap.size 0 1 IntZ W0 (.slice R (S.map fun o => (o.name : Int)).length rc) (S.map fun o => (o.name : Int)) := SlR.keep ((H1.out.2.2.slr (by decide) 0).settle fun _ _ h => h) hc2 (no_letsH _ _) fun _ _ h => h
  have hbz : Blk W0 gb 24 #[.slice R (S.map fun o => (o.name : Int)).length rc] := by rw [List.length_map]; exact hc2.blk H1.out.1 id
  rw [hg5] at h5 hs0' hsl
  simp only [hg5]
  have f2 := hc2.blk (H1.out.2.1.blk HB.out.1 id) id
  have f3 := hc2.blk (H1.out.2.1.blk HB.out.2.1 id) id
  have hwk := values1_walks gb g5 W0 R rc (S.map fun o => (o.name : Int)) hbz hsl (by rw [List.length_map]; omega) (by omega)
  have hcW := H1.out.2.1.trans hc2
  have hlt : g2 < g5 ∧ g3 < g5 := by have h1 := (H1.out.2.1.blk HB.out.1 id).lt; have h2 := (H1.out.2.1.blk HB.out.2.1 id).lt; omega
  have HF := Lib.hid (And.intro f2 (And.intro f3 (And.intro h5 (And.intro (HB.out.2.2.trans hcW) (And.intro hlt (And.intro hs0' hSl))))))
  obtain ⟨zs, hzs⟩ : ∃ zs, (S.map fun o => (o.name : Int)) = zs := ⟨_, rfl⟩
  have hzl : zs.length = S.length := by rw [← hzs]; simp
  rw [hzs] at hwk
  have HZL := Lib.hid hzl
  have HZS := Lib.hid hzs
  clear hW0 hg5 f2 f3 h5 hc2 hcW hlt hs0' H1 HB hsl hbz hSl hzs hzl HH
  refine (wpIn_wide (n := 3)).1 (range_law rfl values1_enters zs.length g5 (ValG zs) hwk (fun k args A B h => by rw [h]; rfl) (nmS zs g5 g5 W0) (fun _ _ _ => False) (fun k O A B hc h => h.keep hc) (fun c k A B _ h => h)
    (fun k O A h => h.own (Nat.le_refl _) (by have := HF.out.2.2.2.2.2.1; omega)) (fun q => q = g5) ⟨[], none, 0, rfl, rfl, HF.out.2.2.1, RowR.nil _ _ _ _ _, fun q => ⟨.inl, fun h => h.elim id fun h => (OwnB.none_ h).elim⟩, fun q h => (OwnB.none_ h).elim, Chg.refl _ _⟩ ?round ?done ?stop)
  case stop => intro E c k W _ _ h; exact h.elim
  case round =>
    intro l m k O args Wa Wb hl hI hsz hAB hG hk
    unfold ValG at hG
    obtain ⟨z, hz⟩ : ∃ z, zs.getD k 0 = z := ⟨_, rfl⟩
    rw [hz] at hG
    subst hG
    have HR := Lib.hid (And.intro hI (And.intro hsz (And.intro hAB (And.intro hk hz))))
    clear hI hsz hAB hwk hk hz
    gi_wp2_with fail
    refine ⟨KeepsFrom.of_chg (Chg.refl (fun _ _ => False) Wb) fun _ _ h => h, (Chg.refl (fun _ _ => False) Wb).mono fun _ _ _ h => h.elim, fun W2 hc2 => ?_⟩
    obtain ⟨hI, hsz, hAB, hk, hz⟩ := HR.out
    have hcA : ChgL W0.heap.size Wa W2 := (hAB.toL _).trans hc2
    obtain ⟨L, A, c, hL, hLl, hbz, hrow, hO, hOw, hch⟩ := hI.keep hcA
    have hLz : zs.take (k + 1) = L ++ [z] := by
      rw [hL, List.take_succ_eq_append_getElem hk, ← hz, List.getD_eq_getElem?_getD, List.getElem?_eq_getElem hk]
      rfl
    have hlt : ∀ q, OwnB A L.length c q → q < W2.heap.size := fun q hq => (hrow.lt hq).1
    have hD2 : g5 ≤ W2.heap.size := Nat.le_of_lt hbz.lt
    have hzs6 : L.length < 65536 := by have := HZL.out; have := HF.out.2.2.2.2.2.2; omega
    have y2 : W2.cell? ⟨g5, 0, none⟩ = some (.slice A L.length c) := by simpa using hbz.cell 0
    have HQ := Lib.hid (And.intro hL (And.intro hLl (And.intro hbz (And.intro hrow (And.intro hO (And.intro hOw (And.intro hch (And.intro hcA (And.intro hsz (And.intro hAB (And.intro hlt (And.intro hD2 (And.intro hzs6 hLz)))))))))))))
    clear hI hsz hAB hcA hL hLl hbz hrow hO hOw hch hlt hD2 hzs6 hc2 hz hLz hk
    gi_wp2_with (gi_at_builtin; go_must (refine round_push1 (fun _ _ h => h) rfl (.tmp 13) (.tmp 15) 24 rfl g5 3 i0 _ 1 8 Try.underlying24 hi0 hz0 hs0 hb0 rfl (by omega) IntZ A c L rfl (by first | rfl | simp) HQ.out.2.2.2.1 1 [.int .i64 z] z (by first | rfl | simp) (by first | rfl | simp) rfl (by intro u hu; simp at hu; subst hu; rfl) rfl (by have := HQ.out.2.2.2.2.2.2.2.2.2.2.2.2.1; omega) (by omega) HQ.out.2.2.2.2.2.2.2.2.2.2.2.1 (fun w' hc _ _ h => h) ?_))
    intro A6 c6 w10 hr10 hc10 hp10
    have hb := hc10.blk HQ.out.2.2.1 fun h => absurd h.2 (by decide)
    have y0 : w10.cell? ⟨g5, 0, none⟩ = some (.slice A L.length c) := by simpa using hb.cell 0
    have y1 := hb.frozen 0
    have hset := chg_set (j := 0) hb (.slice A6 (L.length + 1) c6)
    have hb' : Blk (w10.setCell ⟨g5, 0, none⟩ (.slice A6 (L.length + 1) c6)) g5 24 #[.slice A6 (L.length + 1) c6] := by simpa using hb.set_ 0 (.slice A6 (L.length + 1) c6)
    have y3 : (w10.setCell ⟨g5, 0, none⟩ (.slice A6 (L.length + 1) c6)).cell? ⟨g5, 0, none⟩ = some (.slice A6 (L.length + 1) c6) := by simpa using hb'.cell 0
    have hcy : Chg (fun q t => (OwnB A L.length c q ∧ t = 3) ∨ (q = g5 ∧ t = 24)) W2 (w10.setCell ⟨g5, 0, none⟩ (.slice A6 (L.length + 1) c6)) := (hc10.mono fun _ _ _ h => .inl h).trans (hset.mono fun _ _ _ h => .inr h)
    have HZ := Lib.hid (And.intro (hr10.keep1 hset (fun _ _ h => absurd h.2 (by decide)) fun _ _ h => h) (And.intro hb' (And.intro hcy hp10)))
    clear hr10 hc10 hp10 hb hset hb' hcy y2
    obtain ⟨N1, hN1⟩ : ∃ N1, L.length + 1 = N1 := ⟨_, rfl⟩
    have p1 : ¬ (65536 : Int) < (N1 : Int) := by have := HQ.out.2.2.2.2.2.2.2.2.2.2.2.2.1; omega
    have p2 : decide (65536 < N1) = false := decide_eq_false (by have := HQ.out.2.2.2.2.2.2.2.2.2.2.2.2.1; omega)
    have p3 : decide (N1 > 65536) = false := p2
    rw [hN1] at HZ y3 ⊢
    have HN1 := Lib.hid hN1
    clear hN1
    gi_wp2_with fail
    have hN1 := HN1.out
    subst hN1
    have hO := HQ.out.2.2.2.2.1
    have hWW := HQ.out.2.2.2.2.2.2.2.1.size
    refine ⟨fun q => q = g5 ∨ OwnB A6 (L.length + 1) c6 q, KeepsFrom.of_chg HZ.out.2.2.1 fun b _ h => by rcases h with h | h <;> exact absurd h.2 (by decide), HZ.out.2.2.1.mono fun b t _ h => ?_, fun q hq => ?_, ?_⟩
    · rcases h with h | h
      · exact .inl ((hO b).2 (.inr h.1))
      · exact .inl ((hO b).2 (.inl h.1))
    · rcases hq with hq | hq
      · exact .inl ((hO q).2 (.inl hq))
      · rcases HZ.out.2.2.2 q hq with h | h
        · exact .inl ((hO q).2 (.inr h))
        · exact .inr (by omega)
    · refine ⟨L ++ [z], A6, c6, HQ.out.2.2.2.2.2.2.2.2.2.2.2.2.2.symm, by rw [List.length_append, HQ.out.2.1]; rfl, by simpa using HZ.out.2.1, HZ.out.1, fun q => ?_, fun q hq => ?_, ?_⟩
      · simp
      · rcases HZ.out.2.2.2 q (by simpa using hq) with h | h
        · exact HQ.out.2.2.2.2.2.1 q h
        · have h1 := HQ.out.2.2.2.2.2.2.2.2.1; omega
      · refine HQ.out.2.2.2.2.2.2.1.trans_le HZ.out.2.2.1 fun b t hb h => ?_
        rcases h with h | h
        · have h1 := HQ.out.2.2.2.2.2.1 b h.1; omega
        · exact h.1
  case done =>
    intro E O Wz hE hI hDf
    obtain ⟨L, A, c, hL, hLl, hbz, hrow, hO, hOw, hch⟩ := hI
    rw [List.take_length] at hL
    subst hL
    have hno : ∀ (b T : Nat), b ≠ g5 → ¬ (b = g5) := fun b T h => h
    have b2 := hch.blk HF.out.1 (fun h => by have := HF.out.2.2.2.2.1; omega)
    have b3 := hch.blk HF.out.2.1 (fun h => by have := HF.out.2.2.2.2.1; omega)
    have n23 : g2 ≠ g3 := by have := HG.out; omega
    have y5 : Wz.cell? ⟨g5, 0, none⟩ = some (.slice A L.length c) := by simpa using hbz.cell 0
    have y2 : Wz.cell? ⟨g2, 0, none⟩ = some (.slice none 0 0) := by simpa using b2.cell 0
    have y2f := b2.frozen 0
    have b2a : Blk (Wz.setCell ⟨g2, 0, none⟩ (.slice A L.length c)) g2 24 #[.slice A L.length c] := by simpa using b2.set_ 0 (.slice A L.length c)
    have b3a := b3.far (p := ⟨g2, 0, none⟩) (Ne.symm n23) (.slice A L.length c)
    have y3 : (Wz.setCell ⟨g2, 0, none⟩ (.slice A L.length c)).cell? ⟨g3, 0, none⟩ = some (.bool false) := by simpa using b3a.cell 0
    have y3f := b3a.frozen 0
    have hq := ((chg_set (j := 0) b2 (.slice A L.length c)).mono (M' := fun b t => (b = g2 ∧ t = 24) ∨ (b = g3 ∧ t = 4)) fun _ _ _ h => .inl h).trans ((chg_set (j := 0) b3a (.bool true)).mono fun _ _ _ h => .inr h)
    have b3b : Blk ((Wz.setCell ⟨g2, 0, none⟩ (.slice A L.length c)).setCell ⟨g3, 0, none⟩ (.bool true)) g3 4 #[.bool true] := by simpa using b3a.set_ 0 (.bool true)
    have b2b := b2a.far (p := ⟨g3, 0, none⟩) n23 (.bool true)
    have HQ := Lib.hid (And.intro hch (And.intro hE (And.intro hDf (And.intro hq (And.intro b2b (And.intro b3b hrow))))))
    clear hch hE hDf hq b2 b3 b2a b3a b2b b3b hwk hbz hrow hO hOw hLl
    go_wp2_with fail
    obtain ⟨hch, hE, hDf, hq, b2, b3, hrow⟩ := HQ.out
    have hDe := hq.keep _ _ hDf fun h => by rcases h with h | h <;> exact absurd h.2 (by decide)
    have hcp := chgL_put (B := E) (.deferred none) (Nat.le_refl _) hDe rfl
    have z2 := (hcp.blk b2 fun h => absurd h.2 (by decide)).cell 0
    have z3 := (hcp.blk b3 fun h => absurd h.2 (by decide)).cell 0
    refine ⟨by simp, .inl ⟨_, _, rfl, run_takeDeferred hDe, ?_⟩⟩
    refine ⟨.tuple #[.slice A L.length c, .bool true], by simp [results, Try.results24, go_sem, z2, z3], A, c, by rw [← HZL.out], ?_, ?_⟩
    · have h1 := HF.out.2.2.2.2.1
      rw [HZS.out]
      exact ((hrow.keep1 hq (fun _ _ h => by rcases h with h | h <;> exact absurd h.2 (by decide)) fun _ _ h => h).keep1 hcp (fun _ _ h => absurd h.2 (by decide)) fun _ _ h => h).rebase (by have := HG.out; omega)
    · have hws : w.heap.size ≤ W0.heap.size := HF.out.2.2.2.1.size
      refine ((HF.out.2.2.2.1.trans_new hch fun b t hb h => ?_).trans_new hq fun b t hb h => ?_).trans_new hcp fun b t hb h => ?_
      · have := HF.out.2.2.2.2.1; have := HG.out; omega
      · have := HG.out; rcases h with h | h <;> (have := h.1; omega)
      · have := h.1; omega
end Go.Proofs.Yteigopmdhhgnfaa
