/-
  mullionlaw04.walked: what Walk gives.
-/
import Derived.Test.YtgaodjoddfjfmaaDoorNWalk
namespace Go.Proofs.YtgaodjoddfjfmaaDoor
open Go.RowKit
attribute [local go_sem] Oper.semAt_some
set_option linter.unusedVariables false
set_option linter.unusedSimpArgs false

theorem seq_nil (cs : Array Value) (w : World) : (binOp .eql 45 (.func (.func 37) #[] cs) .nilFunc).run Tryd.prog w = .ok (.bool false) w := by
  have h : ∀ d, (Op.equalIn (d + 1) 45 (.func (.func 37) #[] cs) .nilFunc).run Tryd.prog w = .ok false w := fun d => by simp [Op.equalIn, run_underlying Tryd.underlying45]
  simp only [binOp]
  simp [Op.equal, Op.maxDepth, h 9999]
section
variable {a : Act} {w : World} {dst : Option Nat} {ty : TypeId} {pos : String} {af : Array Edge} {g : Option (Nat × Bool)}
theorem exec_loadN {A : Option Addr} {n c gb : Nat} (x : Operand) (hx : a.eval x = .pointer (some ⟨gb, 0, none⟩)) (hc : w.cell? ⟨gb, 0, none⟩ = some (.slice A n c)) :
    (execOp a.eval { dst := dst, op := .load 23 x, type := ty, pos := pos, after := af, guard := g }).run Tryd.prog w = .ok (.value (.slice A n c)) w := by
  unfold execOp
  simp only [hx]
  go_simp
theorem exec_lenN {A : Option Addr} {n c : Nat} (x : Operand) (hx : a.eval x = .slice A n c) : (execOp a.eval { dst := dst, op := Op.call { callee := .builtin .len, args := #[x], argTypes := #[23] }, type := ty, pos := pos, after := af, guard := g }).run Tryd.prog w = .ok (.value (.int .i64 n)) w := by
  have hu := Tryd.underlying23
  generalize a.eval = E at hx ⊢
  unfold execOp
  simp [hx, go_sem, Builtin.len_, run_underlying hu]
theorem exec_bsZ : (execOp a.eval { dst := dst, op := .buildSlice 23 1 #[(0, Operand.const (Value.agg #[.int .i64 0, .string ⟨#[]⟩, .int .u64 0, .int .i64 0, .slice none 0 0]))], type := ty, pos := pos, after := af, guard := g }).run Tryd.prog w = .ok (.value (.slice (some ⟨w.heap.size, 0, none⟩) 1 1)) (w.alloc (.cells #[.int .i64 0, .string ⟨#[]⟩, .int .u64 0, .int .i64 0, .slice none 0 0] 25)) := by
  obtain ⟨i9, hi9, hz9, hs9, hb9⟩ := info_parts infoNode
  unfold execOp
  go_simp
theorem exec_loadX {gb : Nat} {v0 v1 v2 v3 v4 : Value} (x : Operand) (hx : a.eval x = .pointer (some ⟨gb, 0, none⟩)) (hb : Blk w gb 25 #[v0, v1, v2, v3, v4]) :
    (execOp a.eval { dst := dst, op := .load 25 x, type := ty, pos := pos, after := af, guard := g }).run Tryd.prog w = .ok (.value (.agg #[v0, v1, v2, v3, v4])) w :=
  exec_load 25 x hx hb Tryd.underlying25 rfl (by kernel_rfl)
theorem factN {p : Value → Prop} {ops : Array Oper} {k d : Nat} (h : p (valOf ops a k)) (hd : dstOf ops k = d) : p (a.eval (.tmp d)) := by
  subst hd
  exact h
end
theorem chg_grown {w w' : World} {base e size n c : Nat} {A : Option Addr} {xs : List Value} (how : w.ownsRow base e size (.slice A n c) n xs) (hg : w.grownBy w' (Value.slice A n c).ownBlock) : Chg (fun b t => OwnB A n c b ∧ t = e) w w' := by
  refine (Chg.refl _ w).grown hg fun g o' hg ho => ?_
  obtain ⟨h1, cs, h2⟩ := own_blk how hg
  rw [h2] at ho
  injection ho with ho
  subst ho
  exact ⟨hg, rfl⟩
/-- What the operations ahead of the append leave. -/
def w9F (A1 : Option Addr) (k c1 : Nat) (v1 : Value) (j : Nat) (val : Nat → Value) (r : Nat × Nat) (w : World) : Prop :=
  match j with
  | 0 => val 0 = .slice A1 k c1
  | 1 => val 1 = v1
  | 2 => val 2 = .int .i64 k
  | 3 => val 3 = .slice (some ⟨r.1, 0, none⟩) 1 1 ∧ Blk w r.1 25 #[.int .i64 0, .string ⟨#[]⟩, .int .u64 0, .int .i64 0, .slice none 0 0]
  | _ => True
theorem w9F_dep {A1 : Option Addr} {k c1 : Nat} {v1 : Value} {md : Region.Mode} {ops : Array Oper} (j : Nat) (val val' : Nat → Value) (r : Nat × Nat) (w : World) (h : val j = val' j) (hk : ∀ k, waitsB md ops j k = true → val k = val' k) (hF : w9F A1 k c1 v1 j val r w) : w9F A1 k c1 v1 j val' r w := by
  unfold w9F at hF ⊢
  split at hF <;> first | (rw [← h]; exact hF) | trivial
theorem w9F_mono {A1 : Option Addr} {k c1 : Nat} {v1 : Value} (j : Nat) (val : Nat → Value) (r : Nat × Nat) (w w' : World) (hc : Chg (fun _ _ => False) w w') (hF : w9F A1 k c1 v1 j val r w) : w9F A1 k c1 v1 j val r w' := by
  unfold w9F at hF ⊢
  split at hF <;> first | exact ⟨hF.1, hc.blk hF.2 id⟩ | exact hF | trivial
/-- Between two rounds: the two rows so far, in their boxes; what is owned. -/
def wdI (g8 g9 nm : Nat) (T : Nd) (W0 : World) (k : Nat) (O : Nat → Prop) (W : World) : Prop :=
  ∃ A1 c1 A2 c2, Blk W g8 23 #[.slice A1 k c1] ∧ Blk W g9 38 #[.slice A2 k c2] ∧ k ≤ T.size ∧ GrowR W0.heap.size 25 5 (NdN nm) W A1 c1 (T.flat.take k) ∧ RowR 0 3 1 IntV W A2 c2 ((T.flatD 0).take k) ∧ (∀ b, OwnB A2 k c2 b → W0.heap.size ≤ b) ∧
    (∀ b, O b ↔ b = g8 ∨ b = g9 ∨ OwnB A1 k c1 b ∨ OwnB A2 k c2 b) ∧ Chg (fun b _ => b = g8 ∨ b = g9) W0 W
theorem wdI.keep {g8 g9 nm : Nat} {T : Nd} {W0 : World} {k : Nat} {O : Nat → Prop} {A B : World} (h : wdI g8 g9 nm T W0 k O A) (hc : ChgL W0.heap.size A B) : wdI g8 g9 nm T W0 k O B := by
  obtain ⟨A1, c1, A2, c2, b8, b9, hk, hg, hr, ho, hO, hch⟩ := h
  exact ⟨A1, c1, A2, c2, hc.blk b8 fun h => absurd h.2 (by decide), hc.blk b9 fun h => absurd h.2 (by decide), hk, hg.keep hc (fun b _ h => absurd h.2 (by decide)) fun G hG cs x h => ndN_keepR nm G _ _ _ hc (fun b _ h => absurd h.2 (by decide)) cs x h,
    hr.keep hc (fun b _ h => absurd h.2 (by decide)) fun _ _ h => h, ho, hO, hch.trans_le hc fun b t hb h => by have := h.1; omega⟩
theorem flat_take {T : Nd} {k : Nat} (hk : k ≤ T.size) : (T.flat.take k).length = k := by rw [List.length_take, flat_len]; omega
theorem flatD_take {T : Nd} {k : Nat} (hk : k ≤ T.size) : ((T.flatD 0).take k).length = k := by rw [List.length_take, flatD_len]; omega
theorem wdI.own {g8 g9 nm D : Nat} {T : Nd} {W0 : World} {k : Nat} {O : Nat → Prop} {A : World} (h : wdI g8 g9 nm T W0 k O A) (h8 : D ≤ g8) (h9 : D ≤ g9) (hD : D ≤ W0.heap.size) : ∀ b, O b → D ≤ b ∧ b < A.heap.size := by
  obtain ⟨A1, c1, A2, c2, b8, b9, hk, hg, hr, ho, hO, hch⟩ := h
  intro b hb
  rcases (hO b).1 hb with rfl | rfl | hb | hb
  · exact ⟨h8, b8.lt⟩
  · exact ⟨h9, b9.lt⟩
  · have hb' : (Value.slice A1 (T.flat.take k).length c1).ownBlock = some b := by rw [flat_take hk]; exact hb
    exact ⟨Nat.le_trans hD (hg.2 b hb'), (hg.1.lt hb').1⟩
  · have hb' : (Value.slice A2 ((T.flatD 0).take k).length c2).ownBlock = some b := by rw [flatD_take hk]; exact hb
    exact ⟨Nat.le_trans hD (ho b hb), (hr.lt hb').1⟩
set_option maxRecDepth 100000 in
set_option maxHeartbeats 8000000 in
theorem walked_any (n B : Nat) (w : World) (t : Nd) (A : Option Addr) (c : Nat) (hB : B ≤ w.heap.size) (hT : NdR n B w (ndCells t.kind t.text t.n t.at_ A t.list.length c) t) (hS : t.size ≤ 1048576) :
    Calls Tryd.prog 25 #[.agg #[.int .i64 t.kind, .string t.text, .int .u64 t.n, .int .i64 t.at_, .slice A t.list.length c], .int .i64 (t.size : Nat)] w fun e w' => ∃ A1 c1 A2 c2, e = .returned (.tuple #[.slice A1 t.size c1, .slice A2 t.size c2, .bool true]) ∧
      RowG (fun b => w.heap.size ≤ b) 25 5 (NdN n fun b => w.heap.size ≤ b) w' A1 c1 t.flat ∧ RowR 0 3 1 IntV w' A2 c2 (t.flatD 0) ∧ Chg (fun _ _ => False) w w' := by
  obtain ⟨i25, hi25, hz25, hs25, hb25⟩ := info_parts infoNode
  obtain ⟨i3, hi3, hz3, hs3, hb3⟩ := info_parts infoInt
  have hb1 := ((((Blk.new w 25 #[.int .i64 t.kind, .string t.text, .int .u64 t.n, .int .i64 t.at_, .slice A t.list.length c]).alloc (.cells #[.int .i64 (t.size : Nat)] 3)).alloc (.cells #[.slice none 0 0] 23)).alloc (.cells #[.slice none 0 0] 38)).alloc (.cells #[.bool false] 4)
  have hc0 := ((((chg_alloc w (.cells #[.int .i64 t.kind, .string t.text, .int .u64 t.n, .int .i64 t.at_, .slice A t.list.length c] 25)).alloc (.cells #[.int .i64 (t.size : Nat)] 3)).alloc (.cells #[.slice none 0 0] 23)).alloc (.cells #[.slice none 0 0] 38)).alloc (.cells #[.bool false] 4)
  refine (callsIn_wide (n := 3)).1 ?_
  refine callsIn_of_wp_marks Tryd.func25 rfl trivial ?_ rfl
  simp only [Tryd.ntmps25, List.size_toArray, List.length_cons, List.length_nil, Nat.reduceAdd, Nat.reduceSub, Array.replicate_succ, Array.replicate_zero, List.push_toArray, List.append_toArray, List.nil_append, List.cons_append]
  refine wpIn_wide.2 ?_
  have hb2 := (((Blk.new (w.alloc (.cells #[.int .i64 t.kind, .string t.text, .int .u64 t.n, .int .i64 t.at_, .slice A t.list.length c] 25)) 3 #[.int .i64 (t.size : Nat)]).alloc (.cells #[.slice none 0 0] 23)).alloc (.cells #[.slice none 0 0] 38)).alloc (.cells #[.bool false] 4)
  have hb4 := ((Blk.new ((w.alloc (.cells #[.int .i64 t.kind, .string t.text, .int .u64 t.n, .int .i64 t.at_, .slice A t.list.length c] 25)).alloc (.cells #[.int .i64 (t.size : Nat)] 3)) 23 #[.slice none 0 0]).alloc (.cells #[.slice none 0 0] 38)).alloc (.cells #[.bool false] 4)
  have hb5 := (Blk.new (((w.alloc (.cells #[.int .i64 t.kind, .string t.text, .int .u64 t.n, .int .i64 t.at_, .slice A t.list.length c] 25)).alloc (.cells #[.int .i64 (t.size : Nat)] 3)).alloc (.cells #[.slice none 0 0] 23)) 38 #[.slice none 0 0]).alloc (.cells #[.bool false] 4)
  have hb6 := Blk.new ((((w.alloc (.cells #[.int .i64 t.kind, .string t.text, .int .u64 t.n, .int .i64 t.at_, .slice A t.list.length c] 25)).alloc (.cells #[.int .i64 (t.size : Nat)] 3)).alloc (.cells #[.slice none 0 0] 23)).alloc (.cells #[.slice none 0 0] 38)) 4 #[.bool false]
  simp only [World.size_alloc] at hb2 hb4 hb5 hb6
  have HP := Lib.hid (And.intro hB (And.intro hT hS))
  clear hB hT hS
  go_wp2_with fail
  obtain ⟨W, hW⟩ : ∃ W, ((((w.alloc (.cells #[.int .i64 t.kind, .string t.text, .int .u64 t.n, .int .i64 t.at_, .slice A t.list.length c] 25)).alloc (.cells #[.int .i64 (t.size : Nat)] 3)).alloc (.cells #[.slice none 0 0] 23)).alloc (.cells #[.slice none 0 0] 38)).alloc (.cells #[.bool false] 4) = W := ⟨_, rfl⟩
  have hsz : W.heap.size = w.heap.size + 5 := by rw [← hW]; simp
  rw [hW] at hb1 hb2 hb4 hb5 hb6 hc0 ⊢
  clear hW
  obtain ⟨g2, hg2⟩ : ∃ g2, w.heap.size = g2 := ⟨_, rfl⟩
  obtain ⟨g3, hg3⟩ : ∃ g3, g2 + 1 = g3 := ⟨_, rfl⟩
  obtain ⟨g4, hg4⟩ : ∃ g4, g3 + 1 = g4 := ⟨_, rfl⟩
  obtain ⟨g5, hg5⟩ : ∃ g5, g4 + 1 = g5 := ⟨_, rfl⟩
  obtain ⟨g6, hg6⟩ : ∃ g6, g5 + 1 = g6 := ⟨_, rfl⟩
  rw [hg2] at hb1 hb2 hb4 hb5 hb6 hsz
  rw [hg3] at hb2 hb4 hb5 hb6
  rw [hg4] at hb4 hb5 hb6
  rw [hg5] at hb5 hb6
  rw [hg6] at hb6
  simp only [hg2, hg3, hg4, hg5, hg6]
  have HG := Lib.hid (And.intro hg2 (And.intro hg3 (And.intro hg4 (And.intro hg5 (And.intro hg6 hsz)))))
  have HB := Lib.hid (And.intro hb1 (And.intro hb2 (And.intro hb4 (And.intro hb5 (And.intro hb6 hc0)))))
  clear hg2 hg3 hg4 hg5 hg6 hsz hb1 hb2 hb4 hb5 hb6 hc0
  refine (own_any n B W t A c (Nat.le_trans HP.out.1 HB.out.2.2.2.2.2.size) (NdR.keep0 HB.out.2.2.2.2.2 HP.out.2.1)).mono fun e w1 h => ?_
  obtain ⟨A1, c1, rfl, hN1, hc1⟩ := h
  go_wp2_with fail
  refine (walkF_any n w1.heap.size w1 t A1 c1 (Nat.le_refl _) hN1.ndR).mono fun e w2 h => ?_
  obtain ⟨A2, c2, rfl, hbw, hN2, hc2⟩ := h
  have H2 := Lib.hid (And.intro hbw (And.intro hN2 (hc1.trans hc2)))
  clear hN1 hc1 hbw hN2 hc2
  have hnil := seq_nil #[.pointer (some ⟨w1.heap.size, 0, none⟩)]
  have h8 := (Blk.new w2 23 #[.slice none 0 0]).alloc (.cells #[.slice none 0 0] 38)
  have h9 := Blk.new (w2.alloc (.cells #[.slice none 0 0] 23)) 38 #[.slice none 0 0]
  have hc3 := (chg_alloc w2 (.cells #[.slice none 0 0] 23)).alloc (.cells #[.slice none 0 0] 38)
  rw [World.size_alloc] at h9
  go_wp2_with fail
  obtain ⟨W0, hW0⟩ : ∃ W0, (w2.alloc (.cells #[.slice none 0 0] 23)).alloc (.cells #[.slice none 0 0] 38) = W0 := ⟨_, rfl⟩
  have hs0 : W0.heap.size = w2.heap.size + 2 := by rw [← hW0]; simp
  rw [hW0] at h8 h9 hc3 ⊢
  obtain ⟨g8, hg8⟩ : ∃ g8, w2.heap.size = g8 := ⟨_, rfl⟩
  obtain ⟨g9, hg9⟩ : ∃ g9, g8 + 1 = g9 := ⟨_, rfl⟩
  have hT2 := NdR.keep0 hc3 (NdN.sub (G' := fun _ => True) (fun _ _ _ => trivial) H2.out.2.1).ndR
  have hwk := walk1_walks n n w1.heap.size w2.heap.size W0 t A2 c2 (hc3.blk H2.out.1 id) hT2 hc3.size (Nat.le_refl _) HP.out.2.2
  rw [hg8] at h8 h9 hs0 hwk
  rw [hg9] at h9
  simp only [hg8, hg9]
  have HH := Lib.hid (And.intro hg8 (And.intro hg9 (And.intro hs0 hc3)))
  clear hW0 hg8 hg9 hc3 hT2 hnil hs0
  refine (wpIn_wide (n := 3)).1 (range_law rfl walk1_enters t.size g8 (WkG t n) hwk (fun k args A B h => by obtain ⟨x, d, X, cx, _, _, rfl, _⟩ := h; rfl) (wdI g8 g9 n t W0) (fun _ _ _ => False) (fun k O A B hc h => h.keep hc) (fun c k A B _ h => h)
    (fun k O A h => h.own (Nat.le_refl _) (by have := HH.out.2.1; omega) (by have := HH.out.2.2.1; omega)) (fun b => b = g8 ∨ b = g9) ⟨none, 0, none, 0, h8, h9, Nat.zero_le _, GrowR.nil _ _ _ _ _, RowR.nil _ _ _ _ _, fun b h => (OwnB.none_ h).elim, fun b => ⟨fun h => h.elim .inl fun h => .inr (.inl h), fun h => by rcases h with h | h | h | h <;> first | exact .inl h | exact .inr h | exact (OwnB.none_ h).elim⟩, Chg.refl _ _⟩ ?round ?done ?stop)
  case stop => intro E c k W _ _ h; exact h.elim
  case round =>
    intro l m k O args Wa B hl hI hsz hAB hG hk
    obtain ⟨x, d, X, cx, hfx, hfd, rfl, hNx⟩ := hG
    have hbx := Blk.new B 25 #[.int .i64 x.kind, .string x.text, .int .u64 x.n, .int .i64 x.at_, .slice X x.list.length cx]
    have hcx := chg_alloc B (.cells #[.int .i64 x.kind, .string x.text, .int .u64 x.n, .int .i64 x.at_, .slice X x.list.length cx] 25)
    have HR := Lib.hid (And.intro hI (And.intro hsz (And.intro hAB (And.intro hfx (And.intro hfd (And.intro hNx (And.intro hbx (And.intro hcx hl))))))))
    have hcW0 : Chg (fun _ _ => False) W W0 := H2.out.2.2.trans HH.out.2.2.2
    clear hI hsz hAB hfx hfd hNx hbx hcx h8 h9 hwk
    gi_wp2_with fail
    refine ⟨KeepsFrom.of_chg HR.out.2.2.2.2.2.2.2.1 fun _ _ h => h, HR.out.2.2.2.2.2.2.2.1.mono fun _ _ _ h => h.elim, fun W2 hc2 => ?_⟩
    obtain ⟨hI, hsz, hAB, hfx, hfd, hNx, hbx, hcx, hl⟩ := HR.out
    have hcA : ChgL W0.heap.size Wa W2 := ((hAB.trans hcx).toL _).trans hc2
    obtain ⟨B1, d1, B2, d2, a8, a9, hkN, hgA, hrA, ho, hO, hchA⟩ := hI
    have hlkA := flat_take hkN
    have hlkB := flatD_take hkN
    have hltA : ∀ b, OwnB B1 k d1 b → b < Wa.heap.size := fun b hb => (hgA.1.lt (by rw [hlkA]; exact hb)).1
    have b8 := hcA.blk a8 fun h => absurd h.2 (by decide)
    have b9 := hcA.blk a9 fun h => absurd h.2 (by decide)
    have hg := hgA.keep hcA (fun b _ h => absurd h.2 (by decide)) fun G hG cs x h => ndN_keepR n G _ _ _ hcA (fun b _ h => absurd h.2 (by decide)) cs x h
    have hr := hrA.keep hcA (fun b _ h => absurd h.2 (by decide)) fun _ _ h => h
    have hch := hchA.trans_le hcA fun b t hb h => by have := h.1; omega
    have hbx2 := hc2.blk hbx fun h => absurd h.2 (by decide)
    have hN2 := NdN.keep hc2 (fun b _ h => absurd h.2 (by decide)) (NdN.keep hcx (fun _ _ => id) hNx)
    have hb3 : Blk W2 g3 3 #[.int .i64 (t.size : Nat)] := hch.blk (hcW0.blk HB.out.2.1 id) fun h => by have := HB.out.2.1.lt; have := H2.out.2.2.size; have := HH.out; have := HG.out; omega
    have hdr := (Chg.refl (fun _ _ => False) W2).drew
    have hgx : ∀ v, ¬ B.heap.size = g8 := fun _ h => by have := HH.out; have := HR.out.2.1; have := hAB.size; omega
    have HQ := Lib.hid (And.intro b8 (And.intro b9 (And.intro hkN (And.intro hg (And.intro hr (And.intro ho (And.intro hO (And.intro hch (And.intro hbx2 (And.intro hN2 (And.intro hb3 (And.intro hcA (And.intro hc2 (And.intro hltA (And.intro hlkB hsz)))))))))))))))
    clear hsz hAB hfx hfd hNx hbx hcx hcA hkN hg hr ho hO hch hbx2 hN2 hb3 hcW0 hc2 hgx a8 a9 hgA hrA hchA hltA hlkA hlkB
    gi_wp2_with fail
    refine round_any (by kernel_rfl) (fun a w h => h) (by kernel_rfl) ?_
    refine wpAny_region_facts [(0, 20), (1, 21), (2, 22), (3, 23)] [] (w9F B1 k d1 (.agg #[.int .i64 x.kind, .string x.text, .int .u64 x.n, .int .i64 x.at_, .slice X x.list.length cx])) (by kernel_rfl) w9F_dep w9F_mono (ops_cons (OpF.run rfl rfl fun q w H =>
      ⟨_, w, exec_loadN (.tmp 8) (H.same 8 (by kernel_rfl)) (by simpa using ((hdr.trans H.chg).blk b8 id).cell 0), rfl, Chg.refl _ _⟩) (ops_cons (OpF.run rfl rfl fun q w H =>
      ⟨_, w, exec_loadX (.tmp 11) (H.same 11 (by kernel_rfl)) ((hdr.trans H.chg).blk HQ.out.2.2.2.2.2.2.2.2.1 id), rfl, Chg.refl _ _⟩) (ops_cons (OpF.run rfl rfl fun q w H => by
      obtain ⟨r0, h0⟩ := H.fact 0 (by kernel_rfl)
      have h0 := factN (p := fun v => v = .slice B1 k d1) (k := 0) (d := 20) h0 (by kernel_rfl)
      exact ⟨_, w, exec_lenN (.tmp 20) h0, rfl, Chg.refl _ _⟩) (ops_cons (OpF.run rfl rfl fun q w H =>
      ⟨_, _, exec_bsZ, ⟨rfl, Blk.new _ _ _⟩, chg_alloc _ _⟩) ops_nil)))) ?_
    intro p v r w3 hv _ _ hcw
    have e0 : v 0 = _ := hv (0, 20) (by simp)
    have e1 : v 1 = _ := hv (1, 21) (by simp)
    have e2 : v 2 = _ := hv (2, 22) (by simp)
    obtain ⟨e3, hbz⟩ : v 3 = _ ∧ _ := hv (3, 23) (by simp)
    clear hv
    simp only [List.filter_nil, List.append_nil, putL, Act.put, List.setIfInBounds_toArray, List.set_cons_zero, List.set_cons_succ]
    rw [e0, e1, e2, e3]
    clear e0 e1 e2 e3
    have hcw2 : Chg (fun _ _ => False) W2 w3 := hcw.drewl
    obtain ⟨⟨xss, how, x2, x3, x4⟩, hgD⟩ := HQ.out.2.2.2.1
    have hlk := flat_take HQ.out.2.2.1
    rw [hlk] at how hgD
    have hk20 : k < 1048576 := by have := HP.out.2.2; omega
    have how3 := hcw2.own how fun _ _ => id
    refine wpAny_ready (rs := [4]) (by kernel_rfl) (by simp) ?_
    refine AllReady.cons rfl (fun K hK => ?_) AllReady.nil
    refine step_append_blk _ rfl (.tmp 20) (.tmp 23) 23 rfl 0 25 i25 _ 5 64 Tryd.underlying23 hi25 hz25 hs25 hb25 rfl (by omega) B1 k d1 xss.flatten (by first | rfl | simp [Act.eval]) how3 1 1 [.int .i64 0, .string ⟨#[]⟩, .int .u64 0, .int .i64 0, .slice none 0 0] (r 3).1 (by first | rfl | simp [Act.eval]) hbz rfl (by intro u hu; simp at hu; rcases hu with rfl | rfl | rfl | rfl | rfl <;> rfl) (by simp only [maxLen]; omega) (by omega) (Nat.zero_le _) ?_
    intro A' c' w4 hown hgrow hplace
    refine hK _ _ ?_
    clear hK K
    try simp only [Act.put, List.setIfInBounds_toArray, List.set_cons_zero, List.set_cons_succ]
    obtain ⟨gg, cur, rfl, hg0, hbg, hcs, hown5, hc5⟩ := row_last (vs := [.int .i64 x.kind, .string x.text, .int .u64 x.n, .int .i64 x.at_, .slice X x.list.length cx]) hown (by have := how3.1; exact this) rfl rfl
    have hc4 := chg_grown how3 hgrow
    have hS8 : g8 < W0.heap.size ∧ g9 < W0.heap.size := by have := HH.out; omega
    have hltk : g3 < g8 := by have := HB.out.2.1.lt; have := H2.out.2.2.size; have := HH.out.1; omega
    have hno8 : ∀ b, OwnB B1 k d1 b → W0.heap.size ≤ b := fun b hb => hgD b hb
    have hWs : W0.heap.size ≤ W2.heap.size ∧ Wa.heap.size ≤ W2.heap.size := ⟨HQ.out.2.2.2.2.2.2.2.1.size, HQ.out.2.2.2.2.2.2.2.2.2.2.2.1.size⟩
    have hgg : OwnB B1 k d1 gg ∨ w3.heap.size = gg := by
      rcases hplace with h | h
      · exact .inl h.symm
      · injection h with h
        exact .inr h.symm
    have hgS : W0.heap.size ≤ gg := by 
      rcases hgg with h | h
      · exact hno8 gg h
      · have := hcw2.size; omega
    have hb84 := hc4.blk (hcw2.blk b8 id) fun h => by have := hno8 _ h.1; omega
    have q1 : (k : Int) < ((k + 1 : Nat) : Int) := by omega
    have q2 : (k : Int) < (k : Int) + 1 := by omega
    have hne : g8 ≠ gg := by omega
    refine wpAny_take (i := 5) (v := .pointer (some ⟨gg, k * 5, none⟩)) rfl (by kernel_rfl) (by kernel_rfl) (by kernel_rfl) (fun _ _ _ h => h) ?_ ?_
    · refine .inl ⟨rfl, fun w => ?_⟩
      go_simp
    · try simp only [Act.put, List.setIfInBounds_toArray, List.set_cons_zero, List.set_cons_succ]
      refine wpAny_ready (rs := [6, 7]) (by kernel_rfl) (by simp) ?_
      refine AllReady.cons rfl (fun K hK => ?_) (AllReady.cons rfl (fun K hK => ?_) AllReady.nil)
      · -- the element, then the row's box
        obtain ⟨u0, v0⟩ : ∃ u, w4.cell? ⟨gg, k * 5, none⟩ = some u := ⟨_, (hbg.cell _).trans (Array.getElem?_eq_getElem (by omega))⟩
        obtain ⟨u1, v1⟩ : ∃ u, w4.cell? ⟨gg, k * 5 + 1, none⟩ = some u := ⟨_, (hbg.cell _).trans (Array.getElem?_eq_getElem (by omega))⟩
        obtain ⟨u2, v2⟩ : ∃ u, w4.cell? ⟨gg, k * 5 + 2, none⟩ = some u := ⟨_, (hbg.cell _).trans (Array.getElem?_eq_getElem (by omega))⟩
        obtain ⟨u3, v3⟩ : ∃ u, w4.cell? ⟨gg, k * 5 + 3, none⟩ = some u := ⟨_, (hbg.cell _).trans (Array.getElem?_eq_getElem (by omega))⟩
        obtain ⟨u4, v4⟩ : ∃ u, w4.cell? ⟨gg, k * 5 + 4, none⟩ = some u := ⟨_, (hbg.cell _).trans (Array.getElem?_eq_getElem (by omega))⟩
        have f0 := hbg.frozen (k * 5)
        have f1 := hbg.frozen (k * 5 + 1)
        have f2 := hbg.frozen (k * 5 + 2)
        have f3 := hbg.frozen (k * 5 + 3)
        have f4 := hbg.frozen (k * 5 + 4)
        go_simp
        refine hK _ _ ?_
        clear hK K
        try simp only [Act.put, List.setIfInBounds_toArray, List.set_cons_zero, List.set_cons_succ]
        clear v0 v1 v2 v3 v4 f0 f1 f2 f3 f4
        rw [show (((((w4.setCell ⟨gg, k * 5, none⟩ (.int .i64 x.kind)).setCell ⟨gg, k * 5 + 1, none⟩ (.string x.text)).setCell ⟨gg, k * 5 + 2, none⟩ (.int .u64 x.n)).setCell ⟨gg, k * 5 + 3, none⟩ (.int .i64 x.at_)).setCell ⟨gg, k * 5 + 4, none⟩ (.slice X x.list.length cx)) = setN w4 gg (k * 5) [.int .i64 x.kind, .string x.text, .int .u64 x.n, .int .i64 x.at_, .slice X x.list.length cx] by simp only [setN, Nat.add_assoc, Nat.reduceAdd]]
        generalize setN w4 gg (k * 5) [.int .i64 x.kind, .string x.text, .int .u64 x.n, .int .i64 x.at_, .slice X x.list.length cx] = w5 at hown5 hc5 ⊢
        have hb85 := hc5.blk hb84 fun h => hne h.1
        refine wpAny_ready (rs := [7]) (by kernel_rfl) (by simp) ?_
        refine AllReady.cons rfl (fun K hK => ?_) AllReady.nil
        have y0 : w5.cell? ⟨g8, 0, none⟩ = some (.slice B1 k d1) := by simpa using hb85.cell 0
        have y1 := hb85.frozen 0
        go_simp
        refine hK _ _ ?_
        clear hK K
        try simp only [Act.put, List.setIfInBounds_toArray, List.set_cons_zero, List.set_cons_succ]
        have b8z : Blk (w5.setCell ⟨g8, 0, none⟩ (.slice (some ⟨gg, 0, none⟩) (k + 1) c')) g8 23 #[(.slice (some ⟨gg, 0, none⟩) (k + 1) c')] := by simpa using hb85.set_ 0 (.slice (some ⟨gg, 0, none⟩) (k + 1) c')
        have hown9 := ownsRow_setCell_other (a := ⟨g8, 0, none⟩) hown5 (fun h => by injection h with h; exact hne h.symm) (.slice (some ⟨gg, 0, none⟩) (k + 1) c')
        have hc9 : Chg (fun b t => (b = gg ∧ t = 25) ∨ (b = g8 ∧ t = 23)) w4 (w5.setCell ⟨g8, 0, none⟩ (.slice (some ⟨gg, 0, none⟩) (k + 1) c')) := (hc5.mono fun _ _ _ h => .inl h).trans ((chg_set hb85 (.slice (some ⟨gg, 0, none⟩) (k + 1) c')).mono fun _ _ _ h => .inr h)
        generalize w5.setCell ⟨g8, 0, none⟩ (.slice (some ⟨gg, 0, none⟩) (k + 1) c') = w9 at b8z hown9 hc9 ⊢
        clear y0 y1 hb85 hown5 hc5
        refine ⟨by kernel_rfl, ?_⟩
        have hc29 : Chg (fun b t => (OwnB B1 k d1 b ∧ t = 25) ∨ (b = gg ∧ t = 25) ∨ (b = g8 ∧ t = 23)) W2 w9 := ((hcw2.mono fun _ _ _ h => h.elim).trans (hc4.mono fun _ _ _ h => .inl h)).trans (hc9.mono fun _ _ _ h => .inr h)
        have htk : t.flat.take (k + 1) = t.flat.take k ++ [x] := by
          obtain ⟨h1, h2⟩ := List.getElem?_eq_some_iff.1 HR.out.2.2.2.1
          rw [List.take_succ_eq_append_getElem h1, h2]
        have htkd : (t.flatD 0).take (k + 1) = (t.flatD 0).take k ++ [d] := by
          obtain ⟨h1, h2⟩ := List.getElem?_eq_some_iff.1 HR.out.2.2.2.2.1
          rw [List.take_succ_eq_append_getElem h1, h2]
        have hrow : GrowR W0.heap.size 25 5 (NdN n) w9 (some ⟨gg, 0, none⟩) c' (t.flat.take (k + 1)) := by
          rw [htk]
          refine ⟨RowR.snoc (w := w9) x2 x3 (fun j y cs hj hd => ?_) (fun _ _ h => h) (by rw [hlk]; exact hown9) rfl ?_, fun g hg => ?_⟩
          · have h1 := NdN.sub (G' := fun b => (W0.heap.size ≤ b ∧ ¬ OwnB B1 k d1 b) ∧ b ≠ gg) (fun b hb h => ⟨⟨h.1, by rw [hlk] at h; exact h.2⟩, fun he => by
              subst he
              rw [hlk] at h
              rcases hgg with h' | h'
              · exact h.2 h'
              · have := hcw2.size; omega⟩) (x4 j y cs hj hd)
            have h2 := NdN.keep hc29 (fun b hb hm => by
              rcases hm with hm | hm | hm
              · exact hb.1.2 hm.1
              · exact hb.2 hm.1
              · exact absurd hm.2 (by decide)) h1
            exact NdN.sub (fun b _ h => ⟨h.1.1, fun ho => h.2 (by injection ho with ho; exact ho.symm)⟩) h2
          · have h1 := NdN.sub (G' := fun b => (Wa.heap.size ≤ b ∧ ¬ OwnB B1 k d1 b) ∧ b ≠ gg) (fun b hb h => ⟨⟨h, fun ho => by have := HQ.out.2.2.2.2.2.2.2.2.2.2.2.2.2.1 b ho; omega⟩, fun he => by
              subst he
              rcases hgg with h' | h'
              · have := HQ.out.2.2.2.2.2.2.2.2.2.2.2.2.2.1 _ h'; omega
              · have := hcw2.size; omega⟩) HQ.out.2.2.2.2.2.2.2.2.2.1
            have h2 := NdN.keep hc29 (fun b hb hm => by
              rcases hm with hm | hm | hm
              · exact hb.1.2 hm.1
              · exact hb.2 hm.1
              · exact absurd hm.2 (by decide)) h1
            exact NdN.sub (fun b _ h => ⟨Nat.le_trans HR.out.2.1 h.1.1, fun ho => h.2 (by injection ho with ho; exact ho.symm)⟩) h2
          · injection hg with hg
            subst hg
            exact hgS
        have hb99 := hc29.blk b9 fun h => by rcases h with h | h | h <;> exact absurd h.2 (by decide)
        have hb39 := hc29.blk HQ.out.2.2.2.2.2.2.2.2.2.2.1 fun h => by rcases h with h | h | h <;> exact absurd h.2 (by decide)
        have hri := HQ.out.2.2.2.2.1.keep1 hc29 (fun b _ h => by rcases h with h | h | h <;> exact absurd h.2 (by decide)) fun _ _ h => h
        have y9 : w9.cell? ⟨g9, 0, none⟩ = some (.slice B2 k d2) := by simpa using hb99.cell 0
        have HW := Lib.hid (And.intro hc29 (And.intro htkd (And.intro hrow (And.intro hb99 (And.intro hb39 (And.intro b8z hri))))))
        have hga : OwnB B1 k d1 gg ∨ Wa.heap.size ≤ gg := hgg.imp id fun h => by have := hcw2.size; omega
        have HN := Lib.hid (And.intro hS8 (And.intro hno8 (And.intro hWs (And.intro hgg (And.intro hgS (And.intro hlk (And.intro hltk hga)))))))
        clear hga hc29 htk htkd hrow hb99 hb39 hri b8z hown9 hc9 hS8 hno8 hWs hgg hgS hlk hltk hcw2 hc4 hb84 x2 x3 x4 hgD how how3 q1 q2 hne hbg hcs hown hgrow hplace hg0 hbz hcw b8 b9
        gi_wp2_with (gi_at_builtin; refine round_push1 (fun _ _ h => h) rfl (.tmp 26) (.tmp 28) 38 rfl 0 3 i3 _ 1 8 Tryd.underlying38 hi3 hz3 hs3 hb3 rfl (by omega) IntV B2 d2 ((t.flatD 0).take k) HQ.out.2.2.2.2.2.2.2.2.2.2.2.2.2.2.1.symm (by first | rfl | simp) HW.out.2.2.2.2.2.2 1 [.int .i64 (d : Nat)] d (by first | rfl | simp) (by first | rfl | simp) rfl (by intro u hu; simp at hu; subst hu; rfl) rfl (by omega) (by omega) (Nat.zero_le _) (fun w' hc _ _ h => h) ?_)
        intro A6 c6 w10 hr10 hc10 hp10
        have hoI : ∀ b, OwnB B2 k d2 b → W0.heap.size ≤ b := HQ.out.2.2.2.2.2.1
        have hb9a := hc10.blk HW.out.2.2.2.1 fun h => absurd h.2 (by decide)
        have hb8a := hc10.blk HW.out.2.2.2.2.2.1 fun h => absurd h.2 (by decide)
        have hb3a := hc10.blk HW.out.2.2.2.2.1 fun h => by have := hoI _ h.1; have := HN.out.1; have := HQ.out.2.2.2.2.2.2.2.2.2.2.1.lt; exact absurd h.1 fun ho => by have := HN.out.2.2.2.2.2.2.1; have := HN.out.1; omega
        have y0 : w10.cell? ⟨g9, 0, none⟩ = some (.slice B2 k d2) := by simpa using hb9a.cell 0
        have y1 := hb9a.frozen 0
        have hb8b := hb8a.far (p := ⟨g9, 0, none⟩) (by show g8 ≠ g9; have := HH.out.2.1; omega) (.slice A6 (k + 1) c6)
        have hb3b := hb3a.far (p := ⟨g9, 0, none⟩) (by show g3 ≠ g9; have := HN.out.2.2.2.2.2.2.1; have := HH.out.2.1; omega) (.slice A6 (k + 1) c6)
        have y2 : (w10.setCell ⟨g9, 0, none⟩ (.slice A6 (k + 1) c6)).cell? ⟨g8, 0, none⟩ = some (.slice (some ⟨gg, 0, none⟩) (k + 1) c') := by simpa using hb8b.cell 0
        have y3 : (w10.setCell ⟨g9, 0, none⟩ (.slice A6 (k + 1) c6)).cell? ⟨g3, 0, none⟩ = some (.int .i64 (t.size : Nat)) := by simpa using hb3b.cell 0
        have hset := chg_set (j := 0) hb9a (.slice A6 (k + 1) c6)
        have hb9c : Blk (w10.setCell ⟨g9, 0, none⟩ (.slice A6 (k + 1) c6)) g9 38 #[.slice A6 (k + 1) c6] := by simpa using hb9a.set_ 0 (.slice A6 (k + 1) c6)
        have q5 : ¬ ((t.size : Nat) : Int) < ((k + 1 : Nat) : Int) := by omega
        have q6 : ¬ ((t.size : Nat) : Int) < (k : Int) + 1 := by omega
        have q7 : decide (t.size < k + 1) = false := decide_eq_false (by omega)
        have q8 : decide (k + 1 > t.size) = false := decide_eq_false (by omega)
        have HZ := Lib.hid (And.intro hr10 (And.intro hc10 (And.intro hp10 (And.intro hb8b (And.intro hset (And.intro hb9c hoI))))))
        clear hr10 hc10 hp10 hb8b hset hb9c hoI hb9a hb8a hb3a hb3b y9
        gi_wp2_with fail
        clear y0 y1 y2 y3 q5 q6 q7 q8
        have hcy : Chg (fun b t => (OwnB B2 k d2 b ∧ t = 3) ∨ (b = g9 ∧ t = 38)) w9 (w10.setCell ⟨g9, 0, none⟩ (.slice A6 (k + 1) c6)) := (HZ.out.2.1.mono fun _ _ _ h => .inl h).trans (HZ.out.2.2.2.2.1.mono fun _ _ _ h => .inr h)
        have hcz : Chg (fun b t => (OwnB B1 k d1 b ∧ t = 25) ∨ (b = gg ∧ t = 25) ∨ (b = g8 ∧ t = 23) ∨ (OwnB B2 k d2 b ∧ t = 3) ∨ (b = g9 ∧ t = 38)) W2 (w10.setCell ⟨g9, 0, none⟩ (.slice A6 (k + 1) c6)) := (HW.out.1.mono fun _ _ _ h => by rcases h with h | h | h <;> simp [h]).trans (hcy.mono fun _ _ _ h => by rcases h with h | h <;> simp [h])
        have hO := HQ.out.2.2.2.2.2.2.1
        have hgO : ∀ b, b = gg → O b ∨ Wa.heap.size ≤ b := fun b hb => by
          subst hb
          exact HN.out.2.2.2.2.2.2.2.imp (fun h => (hO _).2 (.inr (.inr (.inl h)))) id
        have hw9 : W2.heap.size ≤ w9.heap.size := HW.out.1.size
        have hwW := HN.out.2.2.1
        refine ⟨fun b => b = g8 ∨ b = g9 ∨ OwnB (some ⟨gg, 0, none⟩) (k + 1) c' b ∨ OwnB A6 (k + 1) c6 b, ?_, ?_, ?_, ?_⟩
        · exact KeepsFrom.of_chg hcz fun b _ h => by rcases h with h | h | h | h | h <;> exact absurd h.2 (by decide)
        · refine hcz.mono fun b t _ h => ?_
          rcases h with h | h | h | h | h
          · exact .inl ((hO b).2 (.inr (.inr (.inl h.1))))
          · exact hgO b h.1
          · exact .inl ((hO b).2 (.inl h.1))
          · exact .inl ((hO b).2 (.inr (.inr (.inr h.1))))
          · exact .inl ((hO b).2 (.inr (.inl h.1)))
        · intro b h
          rcases h with h | h | h | h
          · exact .inl ((hO b).2 (.inl h))
          · exact .inl ((hO b).2 (.inr (.inl h)))
          · exact hgO b (by injection h with h; exact h.symm)
          · rcases HZ.out.2.2.1 b h with h | h
            · exact .inl ((hO b).2 (.inr (.inr (.inr h))))
            · exact .inr (by omega)
        · refine ⟨some ⟨gg, 0, none⟩, c', A6, c6, HZ.out.2.2.2.1, HZ.out.2.2.2.2.2.1, hk, ?_, ?_, fun b h => ?_, fun _ => Iff.rfl, ?_⟩
          · exact HW.out.2.2.1.keep hcy (fun b _ h => by rcases h with h | h <;> exact absurd h.2 (by decide)) fun G hG cs x h => ndN_keepR n G _ _ _ hcy (fun b _ h => by rcases h with h | h <;> exact absurd h.2 (by decide)) cs x h
          · rw [HW.out.2.1]
            exact HZ.out.1.keep HZ.out.2.2.2.2.1 (fun b _ h => absurd h.2 (by decide)) fun _ _ h => h
          · rcases HZ.out.2.2.1 b h with h | h
            · exact HZ.out.2.2.2.2.2.2 b h
            · omega
          · refine HQ.out.2.2.2.2.2.2.2.1.trans_le hcz fun b t hb h => ?_
            rcases h with h | h | h | h | h
            · exact absurd (HN.out.2.1 b h.1) (by omega)
            · exact absurd HN.out.2.2.2.2.1 (by have := h.1; omega)
            · exact .inl h.1
            · exact absurd (HZ.out.2.2.2.2.2.2 b h.1) (by omega)
            · exact .inr h.1
      · -- the row's box, then the element
        have y0 : w4.cell? ⟨g8, 0, none⟩ = some (.slice B1 k d1) := by simpa using hb84.cell 0
        have y1 := hb84.frozen 0
        go_simp
        refine hK _ _ ?_
        clear hK K
        try simp only [Act.put, List.setIfInBounds_toArray, List.set_cons_zero, List.set_cons_succ]
        have b85 : Blk (w4.setCell ⟨g8, 0, none⟩ (.slice (some ⟨gg, 0, none⟩) (k + 1) c')) g8 23 #[(.slice (some ⟨gg, 0, none⟩) (k + 1) c')] := by simpa using hb84.set_ 0 (.slice (some ⟨gg, 0, none⟩) (k + 1) c')
        have hown6 := ownsRow_setCell_other (a := ⟨g8, 0, none⟩) hown (fun h => by injection h with h; exact hne h.symm) (.slice (some ⟨gg, 0, none⟩) (k + 1) c')
        have hc6 := chg_set (j := 0) hb84 (.slice (some ⟨gg, 0, none⟩) (k + 1) c')
        have hbg6 := hbg.far (p := ⟨g8, 0, none⟩) (Ne.symm hne) (.slice (some ⟨gg, 0, none⟩) (k + 1) c')
        generalize w4.setCell ⟨g8, 0, none⟩ (.slice (some ⟨gg, 0, none⟩) (k + 1) c') = w5 at b85 hown6 hc6 hbg6 ⊢
        clear y0 y1 hown5 hc5
        obtain ⟨g', cur', hA', _, _, _, hown9, hc7⟩ := row_last (vs := [.int .i64 x.kind, .string x.text, .int .u64 x.n, .int .i64 x.at_, .slice X x.list.length cx]) hown6 (by have := how3.1; exact this) rfl rfl
        injection hA' with hA'
        injection hA' with hA'
        subst hA'
        refine wpAny_ready (rs := [6]) (by kernel_rfl) (by simp) ?_
        refine AllReady.cons rfl (fun K hK => ?_) AllReady.nil
        obtain ⟨u0, v0⟩ : ∃ u, w5.cell? ⟨gg, k * 5, none⟩ = some u := ⟨_, (hbg6.cell _).trans (Array.getElem?_eq_getElem (by omega))⟩
        obtain ⟨u1, v1⟩ : ∃ u, w5.cell? ⟨gg, k * 5 + 1, none⟩ = some u := ⟨_, (hbg6.cell _).trans (Array.getElem?_eq_getElem (by omega))⟩
        obtain ⟨u2, v2⟩ : ∃ u, w5.cell? ⟨gg, k * 5 + 2, none⟩ = some u := ⟨_, (hbg6.cell _).trans (Array.getElem?_eq_getElem (by omega))⟩
        obtain ⟨u3, v3⟩ : ∃ u, w5.cell? ⟨gg, k * 5 + 3, none⟩ = some u := ⟨_, (hbg6.cell _).trans (Array.getElem?_eq_getElem (by omega))⟩
        obtain ⟨u4, v4⟩ : ∃ u, w5.cell? ⟨gg, k * 5 + 4, none⟩ = some u := ⟨_, (hbg6.cell _).trans (Array.getElem?_eq_getElem (by omega))⟩
        have f0 := hbg6.frozen (k * 5)
        have f1 := hbg6.frozen (k * 5 + 1)
        have f2 := hbg6.frozen (k * 5 + 2)
        have f3 := hbg6.frozen (k * 5 + 3)
        have f4 := hbg6.frozen (k * 5 + 4)
        go_simp
        refine hK _ _ ?_
        clear hK K
        try simp only [Act.put, List.setIfInBounds_toArray, List.set_cons_zero, List.set_cons_succ]
        clear v0 v1 v2 v3 v4 f0 f1 f2 f3 f4
        rw [show (((((w5.setCell ⟨gg, k * 5, none⟩ (.int .i64 x.kind)).setCell ⟨gg, k * 5 + 1, none⟩ (.string x.text)).setCell ⟨gg, k * 5 + 2, none⟩ (.int .u64 x.n)).setCell ⟨gg, k * 5 + 3, none⟩ (.int .i64 x.at_)).setCell ⟨gg, k * 5 + 4, none⟩ (.slice X x.list.length cx)) = setN w5 gg (k * 5) [.int .i64 x.kind, .string x.text, .int .u64 x.n, .int .i64 x.at_, .slice X x.list.length cx] by simp only [setN, Nat.add_assoc, Nat.reduceAdd]]
        have b8z := hc7.blk b85 fun h => hne h.1
        have hc9 : Chg (fun b t => (b = gg ∧ t = 25) ∨ (b = g8 ∧ t = 23)) w4 (setN w5 gg (k * 5) [.int .i64 x.kind, .string x.text, .int .u64 x.n, .int .i64 x.at_, .slice X x.list.length cx]) := (hc6.mono fun _ _ _ h => .inr h).trans (hc7.mono fun _ _ _ h => .inl h)
        generalize setN w5 gg (k * 5) [.int .i64 x.kind, .string x.text, .int .u64 x.n, .int .i64 x.at_, .slice X x.list.length cx] = w9 at b8z hown9 hc9 ⊢
        clear b85 hown6 hc6 hbg6 hc7
        refine ⟨by kernel_rfl, ?_⟩
        have hc29 : Chg (fun b t => (OwnB B1 k d1 b ∧ t = 25) ∨ (b = gg ∧ t = 25) ∨ (b = g8 ∧ t = 23)) W2 w9 := ((hcw2.mono fun _ _ _ h => h.elim).trans (hc4.mono fun _ _ _ h => .inl h)).trans (hc9.mono fun _ _ _ h => .inr h)
        have htk : t.flat.take (k + 1) = t.flat.take k ++ [x] := by
          obtain ⟨h1, h2⟩ := List.getElem?_eq_some_iff.1 HR.out.2.2.2.1
          rw [List.take_succ_eq_append_getElem h1, h2]
        have htkd : (t.flatD 0).take (k + 1) = (t.flatD 0).take k ++ [d] := by
          obtain ⟨h1, h2⟩ := List.getElem?_eq_some_iff.1 HR.out.2.2.2.2.1
          rw [List.take_succ_eq_append_getElem h1, h2]
        have hrow : GrowR W0.heap.size 25 5 (NdN n) w9 (some ⟨gg, 0, none⟩) c' (t.flat.take (k + 1)) := by
          rw [htk]
          refine ⟨RowR.snoc (w := w9) x2 x3 (fun j y cs hj hd => ?_) (fun _ _ h => h) (by rw [hlk]; exact hown9) rfl ?_, fun g hg => ?_⟩
          · have h1 := NdN.sub (G' := fun b => (W0.heap.size ≤ b ∧ ¬ OwnB B1 k d1 b) ∧ b ≠ gg) (fun b hb h => ⟨⟨h.1, by rw [hlk] at h; exact h.2⟩, fun he => by
              subst he
              rw [hlk] at h
              rcases hgg with h' | h'
              · exact h.2 h'
              · have := hcw2.size; omega⟩) (x4 j y cs hj hd)
            have h2 := NdN.keep hc29 (fun b hb hm => by
              rcases hm with hm | hm | hm
              · exact hb.1.2 hm.1
              · exact hb.2 hm.1
              · exact absurd hm.2 (by decide)) h1
            exact NdN.sub (fun b _ h => ⟨h.1.1, fun ho => h.2 (by injection ho with ho; exact ho.symm)⟩) h2
          · have h1 := NdN.sub (G' := fun b => (Wa.heap.size ≤ b ∧ ¬ OwnB B1 k d1 b) ∧ b ≠ gg) (fun b hb h => ⟨⟨h, fun ho => by have := HQ.out.2.2.2.2.2.2.2.2.2.2.2.2.2.1 b ho; omega⟩, fun he => by
              subst he
              rcases hgg with h' | h'
              · have := HQ.out.2.2.2.2.2.2.2.2.2.2.2.2.2.1 _ h'; omega
              · have := hcw2.size; omega⟩) HQ.out.2.2.2.2.2.2.2.2.2.1
            have h2 := NdN.keep hc29 (fun b hb hm => by
              rcases hm with hm | hm | hm
              · exact hb.1.2 hm.1
              · exact hb.2 hm.1
              · exact absurd hm.2 (by decide)) h1
            exact NdN.sub (fun b _ h => ⟨Nat.le_trans HR.out.2.1 h.1.1, fun ho => h.2 (by injection ho with ho; exact ho.symm)⟩) h2
          · injection hg with hg
            subst hg
            exact hgS
        have hb99 := hc29.blk b9 fun h => by rcases h with h | h | h <;> exact absurd h.2 (by decide)
        have hb39 := hc29.blk HQ.out.2.2.2.2.2.2.2.2.2.2.1 fun h => by rcases h with h | h | h <;> exact absurd h.2 (by decide)
        have hri := HQ.out.2.2.2.2.1.keep1 hc29 (fun b _ h => by rcases h with h | h | h <;> exact absurd h.2 (by decide)) fun _ _ h => h
        have y9 : w9.cell? ⟨g9, 0, none⟩ = some (.slice B2 k d2) := by simpa using hb99.cell 0
        have HW := Lib.hid (And.intro hc29 (And.intro htkd (And.intro hrow (And.intro hb99 (And.intro hb39 (And.intro b8z hri))))))
        have hga : OwnB B1 k d1 gg ∨ Wa.heap.size ≤ gg := hgg.imp id fun h => by have := hcw2.size; omega
        have HN := Lib.hid (And.intro hS8 (And.intro hno8 (And.intro hWs (And.intro hgg (And.intro hgS (And.intro hlk (And.intro hltk hga)))))))
        clear hga hc29 htk htkd hrow hb99 hb39 hri b8z hown9 hc9 hS8 hno8 hWs hgg hgS hlk hltk hcw2 hc4 hb84 x2 x3 x4 hgD how how3 q1 q2 hne hbg hcs hown hgrow hplace hg0 hbz hcw b8 b9
        gi_wp2_with (gi_at_builtin; refine round_push1 (fun _ _ h => h) rfl (.tmp 26) (.tmp 28) 38 rfl 0 3 i3 _ 1 8 Tryd.underlying38 hi3 hz3 hs3 hb3 rfl (by omega) IntV B2 d2 ((t.flatD 0).take k) HQ.out.2.2.2.2.2.2.2.2.2.2.2.2.2.2.1.symm (by first | rfl | simp) HW.out.2.2.2.2.2.2 1 [.int .i64 (d : Nat)] d (by first | rfl | simp) (by first | rfl | simp) rfl (by intro u hu; simp at hu; subst hu; rfl) rfl (by omega) (by omega) (Nat.zero_le _) (fun w' hc _ _ h => h) ?_)
        intro A6 c6 w10 hr10 hc10 hp10
        have hoI : ∀ b, OwnB B2 k d2 b → W0.heap.size ≤ b := HQ.out.2.2.2.2.2.1
        have hb9a := hc10.blk HW.out.2.2.2.1 fun h => absurd h.2 (by decide)
        have hb8a := hc10.blk HW.out.2.2.2.2.2.1 fun h => absurd h.2 (by decide)
        have hb3a := hc10.blk HW.out.2.2.2.2.1 fun h => by have := hoI _ h.1; have := HN.out.1; have := HQ.out.2.2.2.2.2.2.2.2.2.2.1.lt; exact absurd h.1 fun ho => by have := HN.out.2.2.2.2.2.2.1; have := HN.out.1; omega
        have y0 : w10.cell? ⟨g9, 0, none⟩ = some (.slice B2 k d2) := by simpa using hb9a.cell 0
        have y1 := hb9a.frozen 0
        have hb8b := hb8a.far (p := ⟨g9, 0, none⟩) (by show g8 ≠ g9; have := HH.out.2.1; omega) (.slice A6 (k + 1) c6)
        have hb3b := hb3a.far (p := ⟨g9, 0, none⟩) (by show g3 ≠ g9; have := HN.out.2.2.2.2.2.2.1; have := HH.out.2.1; omega) (.slice A6 (k + 1) c6)
        have y2 : (w10.setCell ⟨g9, 0, none⟩ (.slice A6 (k + 1) c6)).cell? ⟨g8, 0, none⟩ = some (.slice (some ⟨gg, 0, none⟩) (k + 1) c') := by simpa using hb8b.cell 0
        have y3 : (w10.setCell ⟨g9, 0, none⟩ (.slice A6 (k + 1) c6)).cell? ⟨g3, 0, none⟩ = some (.int .i64 (t.size : Nat)) := by simpa using hb3b.cell 0
        have hset := chg_set (j := 0) hb9a (.slice A6 (k + 1) c6)
        have hb9c : Blk (w10.setCell ⟨g9, 0, none⟩ (.slice A6 (k + 1) c6)) g9 38 #[.slice A6 (k + 1) c6] := by simpa using hb9a.set_ 0 (.slice A6 (k + 1) c6)
        have q5 : ¬ ((t.size : Nat) : Int) < ((k + 1 : Nat) : Int) := by omega
        have q6 : ¬ ((t.size : Nat) : Int) < (k : Int) + 1 := by omega
        have q7 : decide (t.size < k + 1) = false := decide_eq_false (by omega)
        have q8 : decide (k + 1 > t.size) = false := decide_eq_false (by omega)
        have HZ := Lib.hid (And.intro hr10 (And.intro hc10 (And.intro hp10 (And.intro hb8b (And.intro hset (And.intro hb9c hoI))))))
        clear hr10 hc10 hp10 hb8b hset hb9c hoI hb9a hb8a hb3a hb3b y9
        gi_wp2_with fail
        clear y0 y1 y2 y3 q5 q6 q7 q8
        have hcy : Chg (fun b t => (OwnB B2 k d2 b ∧ t = 3) ∨ (b = g9 ∧ t = 38)) w9 (w10.setCell ⟨g9, 0, none⟩ (.slice A6 (k + 1) c6)) := (HZ.out.2.1.mono fun _ _ _ h => .inl h).trans (HZ.out.2.2.2.2.1.mono fun _ _ _ h => .inr h)
        have hcz : Chg (fun b t => (OwnB B1 k d1 b ∧ t = 25) ∨ (b = gg ∧ t = 25) ∨ (b = g8 ∧ t = 23) ∨ (OwnB B2 k d2 b ∧ t = 3) ∨ (b = g9 ∧ t = 38)) W2 (w10.setCell ⟨g9, 0, none⟩ (.slice A6 (k + 1) c6)) := (HW.out.1.mono fun _ _ _ h => by rcases h with h | h | h <;> simp [h]).trans (hcy.mono fun _ _ _ h => by rcases h with h | h <;> simp [h])
        have hO := HQ.out.2.2.2.2.2.2.1
        have hgO : ∀ b, b = gg → O b ∨ Wa.heap.size ≤ b := fun b hb => by
          subst hb
          exact HN.out.2.2.2.2.2.2.2.imp (fun h => (hO _).2 (.inr (.inr (.inl h)))) id
        have hw9 : W2.heap.size ≤ w9.heap.size := HW.out.1.size
        have hwW := HN.out.2.2.1
        refine ⟨fun b => b = g8 ∨ b = g9 ∨ OwnB (some ⟨gg, 0, none⟩) (k + 1) c' b ∨ OwnB A6 (k + 1) c6 b, ?_, ?_, ?_, ?_⟩
        · exact KeepsFrom.of_chg hcz fun b _ h => by rcases h with h | h | h | h | h <;> exact absurd h.2 (by decide)
        · refine hcz.mono fun b t _ h => ?_
          rcases h with h | h | h | h | h
          · exact .inl ((hO b).2 (.inr (.inr (.inl h.1))))
          · exact hgO b h.1
          · exact .inl ((hO b).2 (.inl h.1))
          · exact .inl ((hO b).2 (.inr (.inr (.inr h.1))))
          · exact .inl ((hO b).2 (.inr (.inl h.1)))
        · intro b h
          rcases h with h | h | h | h
          · exact .inl ((hO b).2 (.inl h))
          · exact .inl ((hO b).2 (.inr (.inl h)))
          · exact hgO b (by injection h with h; exact h.symm)
          · rcases HZ.out.2.2.1 b h with h | h
            · exact .inl ((hO b).2 (.inr (.inr (.inr h))))
            · exact .inr (by omega)
        · refine ⟨some ⟨gg, 0, none⟩, c', A6, c6, HZ.out.2.2.2.1, HZ.out.2.2.2.2.2.1, hk, ?_, ?_, fun b h => ?_, fun _ => Iff.rfl, ?_⟩
          · exact HW.out.2.2.1.keep hcy (fun b _ h => by rcases h with h | h <;> exact absurd h.2 (by decide)) fun G hG cs x h => ndN_keepR n G _ _ _ hcy (fun b _ h => by rcases h with h | h <;> exact absurd h.2 (by decide)) cs x h
          · rw [HW.out.2.1]
            exact HZ.out.1.keep HZ.out.2.2.2.2.1 (fun b _ h => absurd h.2 (by decide)) fun _ _ h => h
          · rcases HZ.out.2.2.1 b h with h | h
            · exact HZ.out.2.2.2.2.2.2 b h
            · omega
          · refine HQ.out.2.2.2.2.2.2.2.1.trans_le hcz fun b t hb h => ?_
            rcases h with h | h | h | h | h
            · exact absurd (HN.out.2.1 b h.1) (by omega)
            · exact absurd HN.out.2.2.2.2.1 (by have := h.1; omega)
            · exact .inl h.1
            · exact absurd (HZ.out.2.2.2.2.2.2 b h.1) (by omega)
            · exact .inr h.1
  case done =>
    intro E O Wz hE hI hDf
    obtain ⟨B1, d1, B2, d2, b8, b9, hkN, hg, hr, ho, hO, hch⟩ := hI
    have hcW0 : Chg (fun _ _ => False) W W0 := H2.out.2.2.trans HH.out.2.2.2
    have hnb : ∀ b cs t, Blk W b t cs → ¬ (b = g8 ∨ b = g9) := fun b cs t h => by have := h.lt; have := H2.out.2.2.size; have := HH.out; omega
    have b4 := hch.blk (hcW0.blk HB.out.2.2.1 id) (hnb _ _ _ HB.out.2.2.1)
    have b5 := hch.blk (hcW0.blk HB.out.2.2.2.1 id) (hnb _ _ _ HB.out.2.2.2.1)
    have b6 := hch.blk (hcW0.blk HB.out.2.2.2.2.1 id) (hnb _ _ _ HB.out.2.2.2.2.1)
    have hdr := (Chg.refl (fun _ _ => False) Wz).drew
    replace b4 := hdr.blk b4 id
    replace b5 := hdr.blk b5 id
    replace b6 := hdr.blk b6 id
    replace b8 := hdr.blk b8 id
    replace b9 := hdr.blk b9 id
    have hDd : Wz.drew.heap[E]? = some (.deferred (some [])) := hDf
    have hG := HG.out
    have n48 : g8 ≠ g4 := by have := HB.out.2.2.1.lt; have := H2.out.2.2.size; have := HH.out; omega
    have n49 : g9 ≠ g4 := by have := HB.out.2.2.1.lt; have := H2.out.2.2.size; have := HH.out; omega
    have n54 : g5 ≠ g4 := by omega
    have n64 : g6 ≠ g4 := by omega
    have n65 : g6 ≠ g5 := by omega
    have n45 : g4 ≠ g5 := by omega
    have n46 : g4 ≠ g6 := by omega
    have n56 : g5 ≠ g6 := by omega
    have hE4 : g6 < E := by have := HB.out.2.2.2.2.1.lt; have := H2.out.2.2.size; have := HH.out; omega
    have nE4 : E ≠ g4 := by omega
    have nE5 : E ≠ g5 := by omega
    have nE6 : E ≠ g6 := by omega
    have HQ := Lib.hid (And.intro hg (And.intro hr (And.intro ho (And.intro (hch.trans (hdr.mono fun _ _ _ h => h.elim)) (And.intro hkN (And.intro hdr (And.intro hE (And.intro n45 (And.intro n46 n56)))))))))
    go_wp2_with fail
    refine wp_region_any (by kernel_rfl) ?_
    show wpAny _ _ _ _ _ _ _ Wz.drew
    generalize Wz.drew = Wd at b4 b5 b6 b8 b9 hDd HQ ⊢
    obtain ⟨Wa, hWa⟩ : ∃ Wa, Wd.setCell ⟨g4, 0, none⟩ (.slice B1 t.size d1) = Wa := ⟨_, rfl⟩
    obtain ⟨Wb, hWb⟩ : ∃ Wb, Wa.setCell ⟨g5, 0, none⟩ (.slice B2 t.size d2) = Wb := ⟨_, rfl⟩
    have b9a : Blk Wa g9 38 #[.slice B2 t.size d2] := by rw [← hWa]; exact b9.far n49 _
    have b5a : Blk Wa g5 38 #[.slice none 0 0] := by rw [← hWa]; exact b5.far n54 _
    have b6b : Blk Wb g6 4 #[.bool false] := by rw [← hWb, ← hWa]; exact (b6.far n64 _).far n65 _
    have y8 : Wd.cell? ⟨g8, 0, none⟩ = some (.slice B1 t.size d1) := by simpa using b8.cell 0
    have y9 : Wd.cell? ⟨g9, 0, none⟩ = some (.slice B2 t.size d2) := by simpa using b9.cell 0
    have y9a : Wa.cell? ⟨g9, 0, none⟩ = some (.slice B2 t.size d2) := by simpa using b9a.cell 0
    have y4 : Wd.cell? ⟨g4, 0, none⟩ = some (.slice none 0 0) := by simpa using b4.cell 0
    have y5 : Wa.cell? ⟨g5, 0, none⟩ = some (.slice none 0 0) := by simpa using b5a.cell 0
    have y6 : Wb.cell? ⟨g6, 0, none⟩ = some (.bool false) := by simpa using b6b.cell 0
    have hDc : (Wb.setCell ⟨g6, 0, none⟩ (.bool true)).heap[E]? = some (.deferred (some [])) := by
      rw [Below.heap_setCell _ _ _ _ (show E ≠ g6 from nE6), ← hWb, Below.heap_setCell _ _ _ _ (show E ≠ g5 from nE5), ← hWa, Below.heap_setCell _ _ _ _ (show E ≠ g4 from nE4)]
      exact hDd
    have c4 : Blk (Wb.setCell ⟨g6, 0, none⟩ (.bool true)) g4 23 #[.slice B1 t.size d1] := by
      have h1 : Blk Wa g4 23 #[.slice B1 t.size d1] := by rw [← hWa]; simpa using b4.set_ 0 (.slice B1 t.size d1)
      have h2 : Blk Wb g4 23 #[.slice B1 t.size d1] := by rw [← hWb]; exact h1.far n45 _
      exact h2.far n46 _
    have c5 : Blk (Wb.setCell ⟨g6, 0, none⟩ (.bool true)) g5 38 #[.slice B2 t.size d2] := by
      have h1 : Blk Wb g5 38 #[.slice B2 t.size d2] := by rw [← hWb]; simpa using b5a.set_ 0 (.slice B2 t.size d2)
      exact h1.far n56 _
    have c6 : Blk (Wb.setCell ⟨g6, 0, none⟩ (.bool true)) g6 4 #[.bool true] := by simpa using b6b.set_ 0 (.bool true)
    have hcc : Chg (fun b t => (b = g4 ∧ t = 23) ∨ (b = g5 ∧ t = 38) ∨ (b = g6 ∧ t = 4)) Wd (Wb.setCell ⟨g6, 0, none⟩ (.bool true)) := by
      have h1 := chg_set (j := 0) b4 (.slice B1 t.size d1)
      rw [hWa] at h1
      have h2 := chg_set (j := 0) b5a (.slice B2 t.size d2)
      rw [hWb] at h2
      have h3 := chg_set (j := 0) b6b (.bool true)
      exact ((h1.mono fun _ _ _ h => .inl h).trans (h2.mono fun _ _ _ h => .inr (.inl h))).trans (h3.mono fun _ _ _ h => .inr (.inr h))
    have hcp := chgL_put (B := E) (.deferred none) (Nat.le_refl _) hDc rfl
    have HE := Lib.hid (And.intro hDc (And.intro c4 (And.intro c5 (And.intro c6 (And.intro hcc hcp)))))
    clear hDc c4 c5 c6 hcc hcp
    have f4 := b4.frozen 0
    have f5 := b5a.frozen 0
    have f6 := b6b.frozen 0
    clear hch hcW0 hnb hg hr ho hO hDf hDd hdr hkN hG hE n48 n49 n54 n64 n65 b4 b5 b6 b5a b6b b8 b9 b9a n45 n46 n56 hE4 nE4 nE5 nE6
    refine wpAny_ready (rs := [0, 1]) (by kernel_rfl) (by simp) ?_
    refine AllReady.cons rfl (fun K hK => ?_) (AllReady.cons rfl (fun K hK => ?_) AllReady.nil)
    · go_simp
      refine hK _ _ ?_
      clear hK K
      try simp only [Act.put, List.setIfInBounds_toArray, List.set_cons_zero, List.set_cons_succ]

      refine wpAny_ready (rs := [1, 2]) (by kernel_rfl) (by simp) ?_
      refine AllReady.cons rfl (fun K hK => ?_) (AllReady.cons rfl (fun K hK => ?_) AllReady.nil)
      · go_simp
        refine hK _ _ ?_
        clear hK K
        try simp only [Act.put, List.setIfInBounds_toArray, List.set_cons_zero, List.set_cons_succ]
        refine wpAny_ready (rs := [2]) (by kernel_rfl) (by simp) ?_
        refine AllReady.cons rfl (fun K hK => ?_) AllReady.nil
        go_simp
        refine hK _ _ ?_
        clear hK K
        try simp only [Act.put, List.setIfInBounds_toArray, List.set_cons_zero, List.set_cons_succ]
        refine wpAny_ready (rs := [3]) (by kernel_rfl) (by simp) ?_
        refine AllReady.cons rfl (fun K hK => ?_) AllReady.nil
        go_simp
        refine hK _ _ ?_
        clear hK K
        try simp only [Act.put, List.setIfInBounds_toArray, List.set_cons_zero, List.set_cons_succ]
        refine wpAny_ready (rs := [4]) (by kernel_rfl) (by simp) ?_
        refine AllReady.cons rfl (fun K hK => ?_) AllReady.nil
        go_simp
        refine hK _ _ ?_
        clear hK K
        try simp only [Act.put, List.setIfInBounds_toArray, List.set_cons_zero, List.set_cons_succ]
        refine ⟨by kernel_rfl, ?_⟩
        go_wp2_with fail
        clear y8 y9 y9a y4 y5 y6 f4 f5 f6
        refine ⟨by simp, .inl ⟨_, _, rfl, run_takeDeferred HE.out.1, ?_⟩⟩
        have hcp := HE.out.2.2.2.2.2
        have c4 := hcp.blk HE.out.2.1 fun h => absurd h.2 (by decide)
        have c5 := hcp.blk HE.out.2.2.1 fun h => absurd h.2 (by decide)
        have c6 := hcp.blk HE.out.2.2.2.1 fun h => absurd h.2 (by decide)
        have z4 := c4.cell 0
        have z5 := c5.cell 0
        have z6 := c6.cell 0
        have hce : Chg (fun b t => (b = g4 ∧ t = 23) ∨ (b = g5 ∧ t = 38) ∨ (b = g6 ∧ t = 4) ∨ (E ≤ b ∧ t = 0)) Wd _ := (HE.out.2.2.2.2.1.mono fun _ _ _ h => by rcases h with h | h | h <;> simp [h]).trans (hcp.mono fun _ _ _ h => by simp [h])
        have hcd : Chg (fun b t => (b = g4 ∧ t = 23) ∨ (b = g5 ∧ t = 38) ∨ (b = g6 ∧ t = 4) ∨ (E ≤ b ∧ t = 0)) Wz _ := (HQ.out.2.2.2.2.2.1.mono fun _ _ _ h => h.elim).trans hce
        refine ⟨.tuple #[.slice B1 t.size d1, .slice B2 t.size d2, .bool true], by simp [results, Tryd.results25, go_sem, z4, z5, z6], ?_⟩
        have hg := HQ.out.1
        have hr := HQ.out.2.1
        rw [List.take_of_length_le (by rw [flat_len]; omega)] at hg
        rw [List.take_of_length_le (by rw [flatD_len]; omega)] at hr
        have hw0 : w.heap.size ≤ W0.heap.size := by have := HG.out; have := H2.out.2.2.size; have := HH.out; omega
        refine ⟨B1, d1, B2, d2, rfl, ?_, ?_, ?_⟩
        · refine ((hg.rowG fun G G' hG cs x h => ndN_subR n G G' _ hG cs x h).keep hcd (fun b _ h => by rcases h with h | h | h | h <;> exact absurd h.2 (by decide)) fun cs x h => NdN.keep hcd (fun b _ h => by rcases h with h | h | h | h <;> exact absurd h.2 (by decide)) h).imp (fun b _ h => Nat.le_trans hw0 h) fun cs x h => NdN.sub (fun b _ h => Nat.le_trans hw0 h) h
        · exact hr.keep hcd (fun b _ h => by rcases h with h | h | h | h <;> exact absurd h.2 (by decide)) fun _ _ h => h
        · refine (((HB.out.2.2.2.2.2.trans H2.out.2.2).trans HH.out.2.2.2).trans_new HQ.out.2.2.2.1 fun b t hb h => ?_).trans_new hce fun b t hb h => ?_
          · have := HG.out; have := H2.out.2.2.size; have := HH.out; rcases h with h | h <;> omega
          · have := HG.out; have := HQ.out.2.2.2.2.2.2.1; rcases h with h | h | h | h <;> (have := h.1; omega)
      · go_simp
        refine hK _ _ ?_
        clear hK K
        try simp only [Act.put, List.setIfInBounds_toArray, List.set_cons_zero, List.set_cons_succ]
        refine wpAny_ready (rs := [1]) (by kernel_rfl) (by simp) ?_
        refine AllReady.cons rfl (fun K hK => ?_) AllReady.nil
        go_simp
        refine hK _ _ ?_
        clear hK K
        try simp only [Act.put, List.setIfInBounds_toArray, List.set_cons_zero, List.set_cons_succ]
        refine wpAny_ready (rs := [3]) (by kernel_rfl) (by simp) ?_
        refine AllReady.cons rfl (fun K hK => ?_) AllReady.nil
        go_simp
        refine hK _ _ ?_
        clear hK K
        try simp only [Act.put, List.setIfInBounds_toArray, List.set_cons_zero, List.set_cons_succ]
        refine wpAny_ready (rs := [4]) (by kernel_rfl) (by simp) ?_
        refine AllReady.cons rfl (fun K hK => ?_) AllReady.nil
        go_simp
        refine hK _ _ ?_
        clear hK K
        try simp only [Act.put, List.setIfInBounds_toArray, List.set_cons_zero, List.set_cons_succ]
        refine ⟨by kernel_rfl, ?_⟩
        go_wp2_with fail
        clear y8 y9 y9a y4 y5 y6 f4 f5 f6
        refine ⟨by simp, .inl ⟨_, _, rfl, run_takeDeferred HE.out.1, ?_⟩⟩
        have hcp := HE.out.2.2.2.2.2
        have c4 := hcp.blk HE.out.2.1 fun h => absurd h.2 (by decide)
        have c5 := hcp.blk HE.out.2.2.1 fun h => absurd h.2 (by decide)
        have c6 := hcp.blk HE.out.2.2.2.1 fun h => absurd h.2 (by decide)
        have z4 := c4.cell 0
        have z5 := c5.cell 0
        have z6 := c6.cell 0
        have hce : Chg (fun b t => (b = g4 ∧ t = 23) ∨ (b = g5 ∧ t = 38) ∨ (b = g6 ∧ t = 4) ∨ (E ≤ b ∧ t = 0)) Wd _ := (HE.out.2.2.2.2.1.mono fun _ _ _ h => by rcases h with h | h | h <;> simp [h]).trans (hcp.mono fun _ _ _ h => by simp [h])
        have hcd : Chg (fun b t => (b = g4 ∧ t = 23) ∨ (b = g5 ∧ t = 38) ∨ (b = g6 ∧ t = 4) ∨ (E ≤ b ∧ t = 0)) Wz _ := (HQ.out.2.2.2.2.2.1.mono fun _ _ _ h => h.elim).trans hce
        refine ⟨.tuple #[.slice B1 t.size d1, .slice B2 t.size d2, .bool true], by simp [results, Tryd.results25, go_sem, z4, z5, z6], ?_⟩
        have hg := HQ.out.1
        have hr := HQ.out.2.1
        rw [List.take_of_length_le (by rw [flat_len]; omega)] at hg
        rw [List.take_of_length_le (by rw [flatD_len]; omega)] at hr
        have hw0 : w.heap.size ≤ W0.heap.size := by have := HG.out; have := H2.out.2.2.size; have := HH.out; omega
        refine ⟨B1, d1, B2, d2, rfl, ?_, ?_, ?_⟩
        · refine ((hg.rowG fun G G' hG cs x h => ndN_subR n G G' _ hG cs x h).keep hcd (fun b _ h => by rcases h with h | h | h | h <;> exact absurd h.2 (by decide)) fun cs x h => NdN.keep hcd (fun b _ h => by rcases h with h | h | h | h <;> exact absurd h.2 (by decide)) h).imp (fun b _ h => Nat.le_trans hw0 h) fun cs x h => NdN.sub (fun b _ h => Nat.le_trans hw0 h) h
        · exact hr.keep hcd (fun b _ h => by rcases h with h | h | h | h <;> exact absurd h.2 (by decide)) fun _ _ h => h
        · refine (((HB.out.2.2.2.2.2.trans H2.out.2.2).trans HH.out.2.2.2).trans_new HQ.out.2.2.2.1 fun b t hb h => ?_).trans_new hce fun b t hb h => ?_
          · have := HG.out; have := H2.out.2.2.size; have := HH.out; rcases h with h | h <;> omega
          · have := HG.out; have := HQ.out.2.2.2.2.2.2.1; rcases h with h | h | h | h <;> (have := h.1; omega)
    · go_simp
      refine hK _ _ ?_
      clear hK K
      try simp only [Act.put, List.setIfInBounds_toArray, List.set_cons_zero, List.set_cons_succ]
      refine wpAny_ready (rs := [0]) (by kernel_rfl) (by simp) ?_
      refine AllReady.cons rfl (fun K hK => ?_) AllReady.nil
      go_simp
      refine hK _ _ ?_
      clear hK K
      try simp only [Act.put, List.setIfInBounds_toArray, List.set_cons_zero, List.set_cons_succ]
      refine wpAny_ready (rs := [2]) (by kernel_rfl) (by simp) ?_
      refine AllReady.cons rfl (fun K hK => ?_) AllReady.nil
      go_simp
      refine hK _ _ ?_
      clear hK K
      try simp only [Act.put, List.setIfInBounds_toArray, List.set_cons_zero, List.set_cons_succ]
      refine wpAny_ready (rs := [3]) (by kernel_rfl) (by simp) ?_
      refine AllReady.cons rfl (fun K hK => ?_) AllReady.nil
      go_simp
      refine hK _ _ ?_
      clear hK K
      try simp only [Act.put, List.setIfInBounds_toArray, List.set_cons_zero, List.set_cons_succ]
      refine wpAny_ready (rs := [4]) (by kernel_rfl) (by simp) ?_
      refine AllReady.cons rfl (fun K hK => ?_) AllReady.nil
      go_simp
      refine hK _ _ ?_
      clear hK K
      try simp only [Act.put, List.setIfInBounds_toArray, List.set_cons_zero, List.set_cons_succ]
      refine ⟨by kernel_rfl, ?_⟩
      go_wp2_with fail
      clear y8 y9 y9a y4 y5 y6 f4 f5 f6
      refine ⟨by simp, .inl ⟨_, _, rfl, run_takeDeferred HE.out.1, ?_⟩⟩
      have hcp := HE.out.2.2.2.2.2
      have c4 := hcp.blk HE.out.2.1 fun h => absurd h.2 (by decide)
      have c5 := hcp.blk HE.out.2.2.1 fun h => absurd h.2 (by decide)
      have c6 := hcp.blk HE.out.2.2.2.1 fun h => absurd h.2 (by decide)
      have z4 := c4.cell 0
      have z5 := c5.cell 0
      have z6 := c6.cell 0
      have hce : Chg (fun b t => (b = g4 ∧ t = 23) ∨ (b = g5 ∧ t = 38) ∨ (b = g6 ∧ t = 4) ∨ (E ≤ b ∧ t = 0)) Wd _ := (HE.out.2.2.2.2.1.mono fun _ _ _ h => by rcases h with h | h | h <;> simp [h]).trans (hcp.mono fun _ _ _ h => by simp [h])
      have hcd : Chg (fun b t => (b = g4 ∧ t = 23) ∨ (b = g5 ∧ t = 38) ∨ (b = g6 ∧ t = 4) ∨ (E ≤ b ∧ t = 0)) Wz _ := (HQ.out.2.2.2.2.2.1.mono fun _ _ _ h => h.elim).trans hce
      refine ⟨.tuple #[.slice B1 t.size d1, .slice B2 t.size d2, .bool true], by simp [results, Tryd.results25, go_sem, z4, z5, z6], ?_⟩
      have hg := HQ.out.1
      have hr := HQ.out.2.1
      rw [List.take_of_length_le (by rw [flat_len]; omega)] at hg
      rw [List.take_of_length_le (by rw [flatD_len]; omega)] at hr
      have hw0 : w.heap.size ≤ W0.heap.size := by have := HG.out; have := H2.out.2.2.size; have := HH.out; omega
      refine ⟨B1, d1, B2, d2, rfl, ?_, ?_, ?_⟩
      · refine ((hg.rowG fun G G' hG cs x h => ndN_subR n G G' _ hG cs x h).keep hcd (fun b _ h => by rcases h with h | h | h | h <;> exact absurd h.2 (by decide)) fun cs x h => NdN.keep hcd (fun b _ h => by rcases h with h | h | h | h <;> exact absurd h.2 (by decide)) h).imp (fun b _ h => Nat.le_trans hw0 h) fun cs x h => NdN.sub (fun b _ h => Nat.le_trans hw0 h) h
      · exact hr.keep hcd (fun b _ h => by rcases h with h | h | h | h <;> exact absurd h.2 (by decide)) fun _ _ h => h
      · refine (((HB.out.2.2.2.2.2.trans H2.out.2.2).trans HH.out.2.2.2).trans_new HQ.out.2.2.2.1 fun b t hb h => ?_).trans_new hce fun b t hb h => ?_
        · have := HG.out; have := H2.out.2.2.size; have := HH.out; rcases h with h | h <;> omega
        · have := HG.out; have := HQ.out.2.2.2.2.2.2.1; rcases h with h | h | h | h <;> (have := h.1; omega)
end Go.Proofs.YtgaodjoddfjfmaaDoor
