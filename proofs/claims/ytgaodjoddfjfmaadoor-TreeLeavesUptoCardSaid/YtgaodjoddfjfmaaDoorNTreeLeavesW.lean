/-
  The walk of TreeLeaves.
-/
import Derived.Test.YtgaodjoddfjfmaaDoorNAns
import Derived.Test.YtgaodjoddfjfmaaDoorNFlat
import Derived.Test.YtgaodjoddfjfmaaDoorNExact
import Derived.Test.YtgaodjoddfjfmaaDoorNWalked
namespace Go.Proofs.YtgaodjoddfjfmaaDoor
open Go.RowKit
attribute [local go_sem] Oper.semAt_some
set_option linter.unusedVariables false
set_option linter.unusedSimpArgs false

/-- A region that draws its order, whose head turns nothing, within a round. -/
theorem wpAny_still_tail {P : Program} {Q : Exit → Act → World → Prop} {a : Act} {w : World} {l : List Oper} (n : Nat) (hB : Region.lexTailB .any l.toArray n = true)
    (h : wpStill P l.toArray w (fun a' => wpList P l.toArray Q (l.drop n) a' w) (l.take n) a) : wpAny P .any l.toArray Q l.toArray.size (Array.replicate l.toArray.size false) a w := by
  simp only [Region.lexTailB, Bool.and_eq_true, decide_eq_true_eq] at hB
  obtain ⟨⟨⟨⟨hsel, hn⟩, hs⟩, hc⟩, hlex⟩ := hB
  have hn' : n < l.length := by simpa using hn
  have htl : (l.take n).length = n := by simp; omega
  have hdl : (l.drop n).length = l.toArray.size - n := by simp
  have inv0 : HeadInv .any l.toArray n (Array.replicate l.toArray.size false) :=
    ⟨by simp, fun j oj _ hl => (by rw [getD_replicate_false] at hl; cases hl), fun t _ ht => getD_in (by simpa using ht) (getD_replicate_false _ _)⟩
  have H := wpAnyL_lex (md := .any) (g := l.toArray.size - n) hsel hs hc hn (l.take n) 0 _ a (fun j hj => by
    have hj' : j < n := by rw [htl] at hj; exact hj
    simp [hj']) (by simpa using htl) inv0 (by rw [htl]; exact hlex) h
  have := wpAny_of_head (Q' := Q) (g := l.toArray.size - n) (fun listed a' hL => by
    have := wpAny_of_seq (md := .any) (Q' := Q) (l.drop n) n listed a' w (fun j => by simp [List.getElem?_drop]) (by rw [hdl]; exact hL.1) hL.2
    rwa [hdl] at this) _ _ _ H
  rw [htl, show n + (l.toArray.size - n) = l.toArray.size by omega] at this
  exact this
theorem round_still_tail {P : Program} {lr nr id : Nat} {Q : Exit → Act → World → Prop} {a : Act} {w : World} {l : List Oper} (n : Nat) (hm : P.follows .mixedOrders = true) (hout : ∀ a w, ¬ Q .outgrown a w)
    (hd : (l.toArray.all fun o => match o.op with | .defer _ => false | _ => true) = true) (hB : Region.lexTailB .any l.toArray n = true)
    (h : wpStill P l.toArray w.drew (fun a' => wpList P l.toArray Q (l.drop n) a' w.drew) (l.take n) a) : (Code.region id l.toArray true).wpIn (Fence.wide.inRound lr) nr P Q a w :=
  round_any hm hout hd (wpAny_still_tail n hB h)
/-- A range over a function, left by one 'break' or at its end: both go on alike. -/
theorem range_law_brk {P : Program} {n : Nat} {g : Operand} {ps : Array Tmp} {assign body : Code} {Q : Exit → Act → World → Prop} {a : Act} {w : World} {gf : FuncId} {lb : Array Value}
    (hg : a.eval g = .func (.func gf) #[] lb) (eg : ∀ args w, (callFunc gf args).run P w = .ok (.enter gf args) w)
    (N D id : Nat) (G : Nat → Array Value → World → World → Prop) (hseq : WalksN P gf lb N D G w) (hps : ∀ k args A B, G k args A B → args.size = ps.size)
    (I : Nat → (Nat → Prop) → World → Prop) (hI : ∀ k O A B, ChgL w.heap.size A B → I k O A → I k O B)
    (hIO : ∀ k O A, I k O A → ∀ b, O b → D ≤ b ∧ b < A.heap.size) (O : Nat → Prop) (h0 : I 0 O w) (hex : ∀ a W, Q .normal a W → Q (.exit id) a W)
    (hround : ∀ (l m k : Nat) (O : Nat → Prop) (args : Array Value) (A B : World), w.heap.size ≤ l → I k O A → w.heap.size ≤ A.heap.size → Chg (fun _ _ => False) A B → G k args A B → k < N →
      assign.wpIn (Fence.wide.inRound l) m P (Exit.then (fun a' W' => KeepsFrom w.heap.size B W' ∧ Chg (fun b _ => O b ∨ A.heap.size ≤ b) B W' ∧ ∀ W'', ChgL w.heap.size W' W'' → body.wpIn (Fence.wide.inRound l) m P (roundN w.heap.size A.heap.size I (fun c k W => c = .exit id ∧ ∃ O, I k O W) (k + 1) O W'') a' W'') (fun _ _ _ => False))
        { tmps := (ps.zip args).foldl (fun t (p, v) => t.setIfInBounds p v) a.tmps, defers := [] } B)
    (hfin : ∀ (E k : Nat) (O : Nat → Prop) (W : World), w.heap.size ≤ E → k ≤ N → I k O W → W.heap[E]? = some (.deferred (some [])) → Q .normal { a with defers := { target := .collected E, args := #[] } :: a.defers } W) :
    (Code.rangeFunc g ps assign body).wpIn Fence.wide n P Q a w :=
  range_law hg eg N D G hseq hps I (fun c k W => c = .exit id ∧ ∃ O, I k O W) hI (fun c k A B hc h => ⟨h.1, h.2.imp fun O h => hI k O A B hc h⟩) hIO O h0 hround (fun E O W hE hi hk => hfin E N O W hE (Nat.le_refl _) hi hk)
    (fun E c k W hE hk ⟨hc, O, hi⟩ hd => by subst hc; exact wpIn_exit (hex _ _ (hfin E k O W hE hk hi hd)))
/-- The own row of a tree that has parts. -/
theorem NdN.head {G : Nat → Prop} {n : Nat} {w : World} {x : Nd} {X : Option Addr} {cx : Nat} (h : NdN n G w (ndCells x.kind x.text x.n x.at_ X x.list.length cx) x) (hl : 0 < x.list.length) : ∃ b cur, X = some ⟨b, 0, none⟩ ∧ G b ∧ Blk w b 25 cur ∧ 5 ≤ cur.size := by
  cases n with
  | zero => exact h.elim
  | succ n =>
    obtain ⟨hs, A, c, h1, ⟨⟨xss, how, _⟩, hg⟩⟩ := h
    obtain ⟨rfl, rfl⟩ : X = A ∧ cx = c := by simpa [ndCells] using h1
    obtain ⟨_, h⟩ := how
    rcases h with ⟨h1, h2⟩ | ⟨g, cap, cur, h1, h2, h3, h4, h5, h6, h7⟩
    · omega
    · injection h1 with hA _ hc
      subst hA hc
      exact ⟨g, cur, rfl, hg g rfl, h3, by omega⟩
/-- Between two rounds: the count and the flag in their boxes. -/
def lvI (g9 g10 N : Nat) (W0 : World) (k : Nat) (O : Nat → Prop) (W : World) : Prop :=
  Blk W g9 3 #[.int .i64 (k : Nat)] ∧ Blk W g10 4 #[.bool true] ∧ (∀ b, O b ↔ b = g9 ∨ b = g10) ∧ k ≤ N ∧ Chg (fun b _ => b = g9 ∨ b = g10) W0 W
theorem lvI.keep {g9 g10 N : Nat} {W0 : World} {k : Nat} {O : Nat → Prop} {A B : World} (h : lvI g9 g10 N W0 k O A) (hc : ChgL W0.heap.size A B) : lvI g9 g10 N W0 k O B :=
  ⟨hc.blk h.1 fun h => absurd h.2 (by decide), hc.blk h.2.1 fun h => absurd h.2 (by decide), h.2.2.1, h.2.2.2.1, h.2.2.2.2.trans_le hc fun b t hb h => by have := h.1; omega⟩
theorem lvI.own {g9 g10 N D : Nat} {W0 : World} {k : Nat} {O : Nat → Prop} {A : World} (h : lvI g9 g10 N W0 k O A) (h9 : D ≤ g9) (h10 : D ≤ g10) : ∀ b, O b → D ≤ b ∧ b < A.heap.size := by
  intro b hb
  rcases (h.2.2.1 b).1 hb with rfl | rfl
  · exact ⟨h9, h.1.lt⟩
  · exact ⟨h10, h.2.1.lt⟩
set_option maxRecDepth 100000 in
set_option maxHeartbeats 8000000 in
theorem treeLeaves_walk (n B : Nat) (w : World) (t : Nd) (cut : Nat) (A : Option Addr) (c : Nat) (hB : B ≤ w.heap.size) (hT : NdR n B w (ndCells t.kind t.text t.n t.at_ A t.list.length c) t) (hcut : cut < 256) (hs : t.size ≤ 1048576) :
    Calls Tryd.prog 10 #[.agg #[.int .i64 t.kind, .string t.text, .int .u64 t.n, .int .i64 t.at_, .slice A t.list.length c], .int .u8 cut] w fun e w' => e = .returned (.bool true) ∧ Chg (fun _ _ => False) w w' := by
  have hb2 := (Blk.new w 25 #[.int .i64 t.kind, .string t.text, .int .u64 t.n, .int .i64 t.at_, .slice A t.list.length c]).alloc (.cells #[.int .u8 cut] 5)
  have hb3 := Blk.new (w.alloc (.cells #[.int .i64 t.kind, .string t.text, .int .u64 t.n, .int .i64 t.at_, .slice A t.list.length c] 25)) 5 #[.int .u8 cut]
  have hc0 := (chg_alloc w (.cells #[.int .i64 t.kind, .string t.text, .int .u64 t.n, .int .i64 t.at_, .slice A t.list.length c] 25)).alloc (.cells #[.int .u8 cut] 5)
  simp only [World.size_alloc] at hb3
  have how := own_any n B ((w.alloc (.cells #[.int .i64 t.kind, .string t.text, .int .u64 t.n, .int .i64 t.at_, .slice A t.list.length c] 25)).alloc (.cells #[.int .u8 cut] 5)) t A c (Nat.le_trans hB hc0.size) (NdR.keep0 hc0 hT)
  have HP := Lib.hid (And.intro hB (And.intro hT (And.intro hs hcut)))
  clear hB hT hs hcut
  refine (callsIn_wide (n := 3)).1 ?_
  refine callsIn_of_wp_marks Tryd.func10 rfl trivial ?_ rfl
  simp only [Tryd.ntmps10, List.size_toArray, List.length_cons, List.length_nil, Nat.reduceAdd, Nat.reduceSub, Array.replicate_succ, Array.replicate_zero, List.push_toArray, List.append_toArray, List.nil_append, List.cons_append]
  refine wpIn_wide.2 ?_
  go_wp2_with fail
  obtain ⟨W, hW⟩ : ∃ W, (w.alloc (.cells #[.int .i64 t.kind, .string t.text, .int .u64 t.n, .int .i64 t.at_, .slice A t.list.length c] 25)).alloc (.cells #[.int .u8 cut] 5) = W := ⟨_, rfl⟩
  have hsz : W.heap.size = w.heap.size + 2 := by rw [← hW]; simp
  rw [hW] at hb2 hb3 hc0 how ⊢
  clear hW
  obtain ⟨g2, hg2⟩ : ∃ g2, w.heap.size = g2 := ⟨_, rfl⟩
  obtain ⟨g3, hg3⟩ : ∃ g3, g2 + 1 = g3 := ⟨_, rfl⟩
  rw [hg2] at hb2 hb3 hsz
  rw [hg3] at hb3
  simp only [hg2, hg3]
  have HG := Lib.hid (And.intro hg2 (And.intro hg3 hsz))
  have HB := Lib.hid (And.intro hb2 (And.intro hb3 hc0))
  clear hg2 hg3 hsz hb2 hb3 hc0
  refine how.mono fun e w1 h => ?_
  obtain ⟨A1, c1, rfl, hN1, hc1⟩ := h
  clear how
  have hb5 := Blk.new w1 25 #[.int .i64 t.kind, .string t.text, .int .u64 t.n, .int .i64 t.at_, .slice A1 t.list.length c1]
  have hc2 := chg_alloc w1 (.cells #[.int .i64 t.kind, .string t.text, .int .u64 t.n, .int .i64 t.at_, .slice A1 t.list.length c1] 25)
  obtain ⟨c0, c1', c2', c3', c4'⟩ := hb5.cells5
  have hwf := walkF_any n w1.heap.size (w1.alloc (.cells #[.int .i64 t.kind, .string t.text, .int .u64 t.n, .int .i64 t.at_, .slice A1 t.list.length c1] 25)) t A1 c1 hc2.size (NdR.keep0 hc2 hN1.ndR)
  have H1 := Lib.hid (And.intro (NdN.keep hc2 (fun _ _ => id) hN1) (And.intro hb5 (HB.out.2.2.trans (hc1.trans hc2))))
  have H2 := Lib.hid (hc1.trans hc2)
  clear hN1 hb5 hc1 hc2
  go_wp2_with fail
  generalize w1.alloc (.cells #[.int .i64 t.kind, .string t.text, .int .u64 t.n, .int .i64 t.at_, .slice A1 t.list.length c1] 25) = w2 at H1 H2 hwf c0 c1' c2' c3' c4' ⊢
  generalize w1.heap.size = g5 at H1 hwf c0 c1' c2' c3' c4' ⊢
  refine hwf.mono fun e w3 h => ?_
  obtain ⟨A2, c2, rfl, hbw, hN2, hc3⟩ := h
  clear hwf c0 c1' c2' c3' c4'
  have hcw := H1.out.2.2.trans hc3
  have hfl := flat_any n n B 0 w3 t A c [] [] none 0 none 0 (Nat.le_refl _) (Nat.le_trans HP.out.1 hcw.size) (NdR.keep0 hcw HP.out.2.1) (RowR.nil _ _ _ _ _) (RowR.nil _ _ _ _ _) (fun b h => absurd h OwnB.none_) (fun b h => absurd h OwnB.none_) (by have := HP.out.2.2.1; omega) (by simpa using HP.out.2.2.1) rfl
  simp only [List.length_nil, List.nil_append, Nat.zero_add] at hfl
  obtain ⟨c0, c1', c2', c3', c4'⟩ := ((H2.out.trans hc3).blk HB.out.1 id).cells5
  have H3 := Lib.hid (And.intro hbw (And.intro hN2 (And.intro hcw hc3)))
  clear hbw hN2 hcw hc3
  go_wp2_with fail
  refine hfl.mono fun e w4 h => ?_
  obtain ⟨A4, c4, A5, c5, rfl, hr4, hr5, _, _, hc4⟩ := h
  clear hfl c0 c1' c2' c3' c4'
  have hc4 : Chg (fun _ _ => False) w3 w4 := hc4.mono fun b t _ h => by rcases h with h | h <;> exact OwnB.none_ h.1
  have hb7 := Blk.new w4 23 #[.slice A4 t.size c4]
  have hc7 := chg_alloc w4 (.cells #[.slice A4 t.size c4] 23)
  have hans := answers4_any (w4.alloc (.cells #[.slice A4 t.size c4] 23))
  have hnil := seq_nil #[.pointer (some ⟨w2.heap.size, 0, none⟩)]
  have H4 := Lib.hid (And.intro hr4 (And.intro (hc4.trans hc7) (And.intro hc7 hb7)))
  clear hr4 hr5 hc4 hc7 hb7
  go_wp2_with fail
  refine hans.mono fun e w5 h => ?_
  obtain ⟨rfl, hc5⟩ := h
  clear hans
  have H5 := Lib.hid hc5
  have h9 := (Blk.new w5 3 #[.int .i64 0]).alloc (.cells #[.bool true] 4)
  have h10 := Blk.new (w5.alloc (.cells #[.int .i64 0] 3)) 4 #[.bool true]
  have hc6 := (chg_alloc w5 (.cells #[.int .i64 0] 3)).alloc (.cells #[.bool true] 4)
  rw [World.size_alloc] at h10
  clear hc5
  go_wp2_with fail
  clear hnil
  obtain ⟨W0, hW0⟩ : ∃ W0, (w5.alloc (.cells #[.int .i64 0] 3)).alloc (.cells #[.bool true] 4) = W0 := ⟨_, rfl⟩
  have hs0 : W0.heap.size = w5.heap.size + 2 := by rw [← hW0]; simp
  rw [hW0] at h9 h10 hc6 ⊢
  obtain ⟨g9, hg9⟩ : ∃ g9, w5.heap.size = g9 := ⟨_, rfl⟩
  obtain ⟨g10, hg10⟩ : ∃ g10, g9 + 1 = g10 := ⟨_, rfl⟩
  have hc3 := H3.out.2.2.2
  have hc30 := (H4.out.2.1.trans H5.out).trans hc6
  have hc20 := hc3.trans hc30
  have hcW := HB.out.2.2.trans (H2.out.trans hc20)
  have hT2 := (NdR.keep0 hc30 (NdN.sub (G' := fun _ => True) (fun _ _ _ => trivial) H3.out.2.1).ndR).more (show w3.heap.size ≤ g9 by have := (H4.out.2.1.trans H5.out).size; omega)
  have hwk := walk1_walks n n w2.heap.size g9 W0 t A2 c2 (hc30.blk H3.out.1 id) hT2 (by omega) (Nat.le_refl _) HP.out.2.2.1
  have f2 := (H2.out.trans hc20).blk HB.out.1 id
  have f3 := (H2.out.trans hc20).blk HB.out.2.1 id
  have f5 := hc20.blk H1.out.2.1 id
  have f7 := (H5.out.trans hc6).blk H4.out.2.2.2 id
  have hc04 := H4.out.2.2.1.trans H5.out
  have fa : NdsR n w5.heap.size W0 (.slice A4 t.flat.length c4) t.flat := NdsR.keep0 hc6 ((H4.out.1.keep hc04 (fun _ _ h => h) fun _ _ h => NdR.keep0 hc04 h).settleT (by decide) fun _ _ h => NdR.more (Nat.le_trans HP.out.1 (H3.out.2.2.1.trans (H4.out.2.1.trans H5.out)).size) h)
  have fn : NdR n w5.heap.size W0 (ndCells t.kind t.text t.n t.at_ A t.list.length c) t := NdR.more (Nat.le_trans HP.out.1 (H3.out.2.2.1.trans (H4.out.2.1.trans H5.out)).size) (NdR.keep0 hcW HP.out.2.1)
  have fi : NdR n w5.heap.size W0 (ndCells t.kind t.text t.n t.at_ A1 t.list.length c1) t := NdR.more (hc3.trans (H4.out.2.1.trans H5.out)).size (NdR.keep0 hc20 H1.out.1.ndR)
  have hgw : w.heap.size ≤ w5.heap.size := (H3.out.2.2.1.trans (H4.out.2.1.trans H5.out)).size
  have flt : g2 < g9 ∧ g3 < g9 ∧ g5 < g9 ∧ w4.heap.size < g9 := by
    have h1 := (H2.out.trans (hc3.trans (H4.out.2.1.trans H5.out))).size
    have h2 := (hc3.trans (H4.out.2.1.trans H5.out)).size
    have h3 := HB.out.1.lt
    have h4 := HB.out.2.1.lt
    have h5 := H1.out.2.1.lt
    have h6 := H4.out.2.2.2.lt
    have h7 := H5.out.size
    omega
  rw [hg9] at h9 h10 hs0 fa fn fi hgw
  rw [hg10] at h10
  simp only [hg9, hg10]
  have HF := Lib.hid (fun (M : Nat → Nat → Prop) (Y : World) (h : Chg M W0 Y) (hm : ∀ b t, b < g9 → ¬ M b t) => And.intro (h.blk f2 (hm _ _ flt.1)) (And.intro (h.blk f3 (hm _ _ flt.2.1)) (And.intro (h.blk f5 (hm _ _ flt.2.2.1)) (And.intro (h.blk f7 (hm _ _ flt.2.2.2)) (And.intro (SlR.keep fa h (LetsM.lets hm) fun _ _ k => NdR.keep h hm k) (And.intro (NdR.keep h hm fn) (NdR.keep h hm fi)))))))
  have HL := Lib.hid (And.intro hcW (And.intro hgw (And.intro flt hs0)))
  have HS := Lib.hid (And.intro hs0 hg10)
  have q0 : decide (cut < 256) = true := decide_eq_true HP.out.2.2.2
  have HP := Lib.hid HP.out.2.2
  generalize w4.heap.size = g7 at HF HL ⊢
  clear H1 H2 H3 H4 H5 HB HG hW0 hg9 hg10 hs0 hc6 hc3 hc30 hc20 hcW hT2 f2 f3 f5 f7 fa fn fi flt q0 hc04 hgw
  refine (wpIn_wide (n := 3)).1 (range_law_brk rfl walk1_enters t.size g9 0 (WkG t n) hwk (fun k args A B h => by obtain ⟨x, d, X, cx, _, _, rfl, _⟩ := h; rfl) (lvI g9 g10 t.size W0) (fun k O A B hc h => h.keep hc)
    (fun k O A h => h.own (Nat.le_refl _) (by have := HS.out.2; omega)) (fun b => b = g9 ∨ b = g10) ⟨h9, h10, fun _ => Iff.rfl, Nat.zero_le _, Chg.refl _ _⟩ (fun a W h => ?hex) ?round ?fin)
  case hex => simpa [Exit.inBlock] using h
  case fin =>
    intro E k O Wz hE hkN hI hDf
    obtain ⟨b9, b10, hO, _, hch⟩ := hI
    have hnm : ∀ b (t : Nat), b < g9 → ¬ (b = g9 ∨ b = g10) := fun b _ hb h => by have := HS.out.2; omega
    obtain ⟨f2, f3, f5, f7, fa, fn, fi⟩ := HF.out _ _ hch hnm
    have hwd := walked_any n g9 Wz t A1 c1 (by have := b9.lt; omega) fi HP.out.1
    obtain ⟨z0, z1, z2, z3, z4⟩ := f5.cells5
    have y7 : Wz.cell? ⟨g7, 0, none⟩ = some (.slice A4 t.size c4) := by simpa using f7.cell 0
    have HQ := Lib.hid (And.intro hch (And.intro f2 (And.intro f5 (And.intro f7 (And.intro b9 (And.intro b10 (And.intro fn (And.intro fi hDf))))))))
    clear hch f2 f3 f5 f7 fa fn fi b9 b10 hO hDf hwk h9 h10
    go_wp2_with fail
    refine hwd.mono fun e w7 h => ?_
    obtain ⟨A6, c6, A7, c7, rfl, _, _, hc7⟩ := h
    clear hwd z0 z1 z2 z3 z4 y7
    have hex := exact_any n g9 w7 t A1 c1 A c (by have := hc7.size; have := HQ.out.2.2.2.2.1.lt; omega) (NdR.keep0 hc7 HQ.out.2.2.2.2.2.2.2.1) (NdR.keep0 hc7 HQ.out.2.2.2.2.2.2.1)
    obtain ⟨z0, z1, z2, z3, z4⟩ := (hc7.blk HQ.out.2.2.1 id).cells5
    obtain ⟨v0, v1, v2, v3, v4⟩ := (hc7.blk HQ.out.2.1 id).cells5
    have y7 : w7.cell? ⟨g7, 0, none⟩ = some (.slice A4 t.size c4) := by simpa using (hc7.blk HQ.out.2.2.2.1 id).cell 0
    have y9 : w7.cell? ⟨g9, 0, none⟩ = some (.int .i64 (k : Nat)) := by simpa using (hc7.blk HQ.out.2.2.2.2.1 id).cell 0
    have y10 : w7.cell? ⟨g10, 0, none⟩ = some (.bool true) := by simpa using (hc7.blk HQ.out.2.2.2.2.2.1 id).cell 0
    have q1 : decide (k ≤ t.size) = true := decide_eq_true hkN
    have q2 : (k : Int) ≤ (t.size : Int) := by omega
    have q3 : ((t.size : Int) == (t.size : Int)) = true := by simp
    have q4 : (t.size == t.size) = true := by simp
    have H7 := Lib.hid hc7
    clear hc7
    go_wp2_with fail
    refine hex.mono fun e w8 h => ?_
    obtain ⟨rfl, hc8⟩ := h
    have HZ := Lib.hid hc8
    clear hex z0 z1 z2 z3 z4 v0 v1 v2 v3 v4 y7 y9 y10 hc8
    go_wp2_with fail
    have hcz := H7.out.trans HZ.out
    have hD8 := hcz.keep _ _ HQ.out.2.2.2.2.2.2.2.2 id
    have hcp := chgL_put (B := E) (.deferred none) (Nat.le_refl _) hD8 rfl
    refine ⟨by simp, .inl ⟨_, _, rfl, run_takeDeferred hD8, ?_⟩⟩
    refine ⟨.bool true, by simp [results, Tryd.results10, go_sem], rfl, ?_⟩
    refine ((HL.out.1.trans_new HQ.out.1 fun b t hb h => ?_).trans hcz).trans_new hcp fun b t hb h => ?_
    · have := HL.out.2.1; have := HS.out.2; omega
    · have := HL.out.2.1; have := HS.out.1; have := h.1; omega
  case round =>
    intro l m k O args Wa Wb hl hI hsz hAB hG hk
    obtain ⟨x, d, X, cx, hfx, hfd, rfl, hNx⟩ := hG
    have hbx := Blk.new Wb 25 #[.int .i64 x.kind, .string x.text, .int .u64 x.n, .int .i64 x.at_, .slice X x.list.length cx]
    have hcx := chg_alloc Wb (.cells #[.int .i64 x.kind, .string x.text, .int .u64 x.n, .int .i64 x.at_, .slice X x.list.length cx] 25)
    have HR := Lib.hid (And.intro hI (And.intro hsz (And.intro hAB (And.intro hfx (And.intro hNx (And.intro hbx hcx))))))
    clear hI hsz hAB hfx hfd hNx hbx hcx h9 h10 hwk
    gi_wp2_with fail
    refine ⟨KeepsFrom.of_chg HR.out.2.2.2.2.2.2 fun _ _ h => h, HR.out.2.2.2.2.2.2.mono fun _ _ _ h => h.elim, fun W2 hc2 => ?_⟩
    obtain ⟨hI, hsz, hAB, hfx, hNx, hbx, hcx⟩ := HR.out
    obtain ⟨a9, a10, hO, hkN, hchA⟩ := hI
    have hcA : ChgL W0.heap.size Wa W2 := ((hAB.trans hcx).toL _).trans hc2
    have hch := hchA.trans_le hcA fun b t hb h => by have := h.1; omega
    have hnm : ∀ b (t : Nat), b < g9 → ¬ (b = g9 ∨ b = g10) := fun b _ hb h => by have := HS.out.2; omega
    obtain ⟨_, f3, _, f7, fa, _, _⟩ := HF.out _ _ hch hnm
    have b9 := hcA.blk a9 fun h => absurd h.2 (by decide)
    have b10 := hcA.blk a10 fun h => absurd h.2 (by decide)
    have hbx2 := hc2.blk hbx fun h => absurd h.2 (by decide)
    have hN2 := NdN.keep hc2 (fun b _ h => absurd h.2 (by decide)) (NdN.keep hcx (fun _ _ => id) hNx)
    obtain ⟨ab, ao, y, Y, cy, rfl, hky, hRy, z0, z1, z2, z3, z4⟩ := NdsR.at_ fa (show k < t.flat.length by rw [flat_len]; exact hk)
    obtain rfl : y = x := by rw [hky] at hfx; exact Option.some.inj hfx
    have hdr := (Chg.refl (fun _ _ => False) W2).drew
    have hcall := exact_any n W2.heap.size W2.drew y Y cy X cx hdr.size (NdR.keep0 hdr (NdR.more (Nat.le_of_lt b9.lt) hRy)) (NdR.keep0 hdr hN2.ndR)
    obtain ⟨x0, x1, x2, x3, x4⟩ := hbx2.cells5
    have y9 : W2.cell? ⟨g9, 0, none⟩ = some (.int .i64 (k : Nat)) := by simpa using b9.cell 0
    have y10 : W2.cell? ⟨g10, 0, none⟩ = some (.bool true) := by simpa using b10.cell 0
    have y7 : W2.cell? ⟨g7, 0, none⟩ = some (.slice (some ⟨ab, ao, none⟩) t.size c4) := by simpa using f7.cell 0
    have q1 : decide (k < t.size) = true := decide_eq_true hk
    have q2 : (k : Int) < (t.size : Int) := by omega
    have HQ := Lib.hid (And.intro hch (And.intro f3 (And.intro f7 (And.intro b9 (And.intro b10 (And.intro hbx2 (And.intro hN2 (And.intro hcA (And.intro hO (And.intro hsz (And.intro hAB.size hc2)))))))))))
    clear hch f3 f7 fa b9 b10 hbx2 hN2 hcA hO hsz hAB hc2 a9 a10 hkN hchA hky hRy hfx hNx hbx hcx hdr hnm
    gi_wp2_with fail
    refine round_still_tail 7 (by kernel_rfl) (fun a w h => h) (by kernel_rfl) (by kernel_rfl) ?_
    simp only [List.take_succ_cons, List.take_zero, List.drop_succ_cons, List.drop_zero]
    repeat (with_reducible refine wpStill_step (fun K hK => ?_); go_simp; with_reducible refine hK _ ?_; clear hK K)
    try with_reducible refine wpStill_nil ?_
    clear x0 x1 x2 x3 x4 z0 z1 z2 z3 z4 y7 y9 y10
    change wpList _ _ _ _ _ W2.drew
    have hdr := (Chg.refl (fun _ _ => False) W2).drew
    have HD := Lib.hid hdr
    clear hdr
    generalize W2.drew = w6 at hcall HD ⊢
    go_wp2_with fail
    refine hcall.mono fun e w7 h => ?_
    obtain ⟨rfl, hc7⟩ := h
    have hc27 := HD.out.trans hc7
    have b10 := hc27.blk HQ.out.2.2.2.2.1 id
    have y10 : w7.cell? ⟨g10, 0, none⟩ = some (.bool true) := by simpa using b10.cell 0
    have y11 := b10.frozen 0
    have HE := Lib.hid hc27
    clear hcall hc7 hc27 b10
    go_wp2_with fail
    have hc78 := chg_set (j := 0) (HE.out.blk HQ.out.2.2.2.2.1 id) (.bool true)
    have c10 : Blk (w7.setCell ⟨g10, 0, none⟩ (.bool true)) g10 4 #[.bool true] := by simpa using (HE.out.blk HQ.out.2.2.2.2.1 id).set_ 0 (.bool true)
    have hc28 : Chg (fun b t => b = g10 ∧ t = 4) W2 (w7.setCell ⟨g10, 0, none⟩ (.bool true)) := (HE.out.mono fun _ _ _ h => h.elim).trans hc78
    generalize w7.setCell ⟨g10, 0, none⟩ (.bool true) = w8 at c10 hc28 ⊢
    have e3 := hc28.blk HQ.out.2.1 fun h => absurd h.2 (by decide)
    have e7 := hc28.blk HQ.out.2.2.1 fun h => absurd h.2 (by decide)
    have e9 := hc28.blk HQ.out.2.2.2.1 fun h => absurd h.2 (by decide)
    have ex := hc28.blk HQ.out.2.2.2.2.2.1 fun h => absurd h.2 (by decide)
    have hN8 := NdN.keep hc28 (fun b _ h => absurd h.2 (by decide)) HQ.out.2.2.2.2.2.2.1
    have q3 : IntKind.i64.wrap ((k : Int) + 1) = (k : Int) + 1 := by have := HP.out.1; exact IntWalk.i64_in _ ⟨by omega, by omega⟩
    have q4 : IntKind.i64.wrap (cut : Int) = (cut : Int) := by have := HP.out.2; exact IntWalk.i64_in _ ⟨by omega, by omega⟩
    have x4 : w8.cell? ⟨Wb.heap.size, 4, none⟩ = some (.slice X y.list.length cx) := ex.cells5.2.2.2.2
    have hxl : 0 < y.list.length ∨ y.list.length = 0 := by omega
    rcases hxl with hxl | hxl
    · obtain ⟨xb, cur, rfl, hxb, hbX, hcz⟩ := NdN.head hN8 hxl
      obtain ⟨cs', k1, _, _, _, k5⟩ := setN_blk [.int .i64 99, .string ⟨#[]⟩, .int .u64 0, .int .i64 0, .slice none 0 0] 0 w8 cur hbX (by simpa using hcz)
      have hN5 : setN w8 xb 0 [.int .i64 99, .string ⟨#[]⟩, .int .u64 0, .int .i64 0, .slice none 0 0] = (((((w8.setCell ⟨xb, 0, none⟩ (.int .i64 99)).setCell ⟨xb, 1, none⟩ (.string ⟨#[]⟩)).setCell ⟨xb, 2, none⟩ (.int .u64 0)).setCell ⟨xb, 3, none⟩ (.int .i64 0)).setCell ⟨xb, 4, none⟩ (.slice none 0 0)) := rfl
      rw [hN5] at k5
      obtain ⟨u0, v0⟩ : ∃ u, w8.cell? ⟨xb, 0, none⟩ = some u := ⟨_, (hbX.cell 0).trans (Array.getElem?_eq_getElem (by omega))⟩
      obtain ⟨u1, v1⟩ : ∃ u, w8.cell? ⟨xb, 1, none⟩ = some u := ⟨_, (hbX.cell 1).trans (Array.getElem?_eq_getElem (by omega))⟩
      obtain ⟨u2, v2⟩ : ∃ u, w8.cell? ⟨xb, 2, none⟩ = some u := ⟨_, (hbX.cell 2).trans (Array.getElem?_eq_getElem (by omega))⟩
      obtain ⟨u3, v3⟩ : ∃ u, w8.cell? ⟨xb, 3, none⟩ = some u := ⟨_, (hbX.cell 3).trans (Array.getElem?_eq_getElem (by omega))⟩
      obtain ⟨u4, v4⟩ : ∃ u, w8.cell? ⟨xb, 4, none⟩ = some u := ⟨_, (hbX.cell 4).trans (Array.getElem?_eq_getElem (by omega))⟩
      have f0 := hbX.frozen 0
      have f1 := hbX.frozen 1
      have f2 := hbX.frozen 2
      have f3 := hbX.frozen 3
      have f4 := hbX.frozen 4
      have p1 : (0 : Int) < (y.list.length : Int) := by omega
      have p2 : decide (0 < y.list.length) = true := decide_eq_true hxl
      have p3 : decide (y.list.length > 0) = true := decide_eq_true hxl
      have hWa := HQ.out.2.2.2.2.2.2.2.2.2.1
      have e3b := k5.blk e3 fun h => absurd h.2 (by decide)
      have e7b := k5.blk e7 fun h => absurd h.2 (by decide)
      have e9b := k5.blk e9 fun h => absurd h.2 (by decide)
      have c10b := k5.blk c10 fun h => absurd h.2 (by decide)
      have hcB : Chg (fun b t => (b = g10 ∧ t = 4) ∨ (Wa.heap.size ≤ b ∧ t = 25)) W2 (((((w8.setCell ⟨xb, 0, none⟩ (.int .i64 99)).setCell ⟨xb, 1, none⟩ (.string ⟨#[]⟩)).setCell ⟨xb, 2, none⟩ (.int .u64 0)).setCell ⟨xb, 3, none⟩ (.int .i64 0)).setCell ⟨xb, 4, none⟩ (.slice none 0 0)) := (hc28.mono fun _ _ _ h => .inl h).trans (k5.mono fun _ _ _ h => .inr ⟨h.1 ▸ hxb, h.2⟩)
      clear e3 e7 e9 ex hN8 hbX hcz k1 k5 hN5 c10 hc28 hc78
      have y9 : (((((w8.setCell ⟨xb, 0, none⟩ (.int .i64 99)).setCell ⟨xb, 1, none⟩ (.string ⟨#[]⟩)).setCell ⟨xb, 2, none⟩ (.int .u64 0)).setCell ⟨xb, 3, none⟩ (.int .i64 0)).setCell ⟨xb, 4, none⟩ (.slice none 0 0)).cell? ⟨g9, 0, none⟩ = some (.int .i64 (k : Nat)) := by simpa using e9b.cell 0
      have y9f := e9b.frozen 0
      have n910 : g10 ≠ g9 := by have := HS.out.2; omega
      have l9b : Blk ((((((w8.setCell ⟨xb, 0, none⟩ (.int .i64 99)).setCell ⟨xb, 1, none⟩ (.string ⟨#[]⟩)).setCell ⟨xb, 2, none⟩ (.int .u64 0)).setCell ⟨xb, 3, none⟩ (.int .i64 0)).setCell ⟨xb, 4, none⟩ (.slice none 0 0)).setCell ⟨g9, 0, none⟩ (.int .i64 ((k : Int) + 1))) g9 3 #[.int .i64 ((k : Int) + 1)] := by simpa using e9b.set_ 0 (.int .i64 ((k : Int) + 1))
      have l10 := c10b.far (p := ⟨g9, 0, none⟩) n910 (.int .i64 ((k : Int) + 1))
      have l3 := e3b.far (p := ⟨g9, 0, none⟩) (show g3 ≠ g9 by have := HL.out.2.2.1.2.1; omega) (.int .i64 ((k : Int) + 1))
      have l7 := e7b.far (p := ⟨g9, 0, none⟩) (show g7 ≠ g9 by have := HL.out.2.2.1.2.2.2; omega) (.int .i64 ((k : Int) + 1))
      have hc6 : Chg (fun b t => (b = g9 ∧ t = 3) ∨ (b = g10 ∧ t = 4) ∨ (Wa.heap.size ≤ b ∧ t = 25)) W2 ((((((w8.setCell ⟨xb, 0, none⟩ (.int .i64 99)).setCell ⟨xb, 1, none⟩ (.string ⟨#[]⟩)).setCell ⟨xb, 2, none⟩ (.int .u64 0)).setCell ⟨xb, 3, none⟩ (.int .i64 0)).setCell ⟨xb, 4, none⟩ (.slice none 0 0)).setCell ⟨g9, 0, none⟩ (.int .i64 ((k : Int) + 1))) := (hcB.mono fun _ _ _ h => .inr h).trans ((chg_set (j := 0) e9b (.int .i64 ((k : Int) + 1))).mono fun _ _ _ h => .inl h)
      have z9 : ((((((w8.setCell ⟨xb, 0, none⟩ (.int .i64 99)).setCell ⟨xb, 1, none⟩ (.string ⟨#[]⟩)).setCell ⟨xb, 2, none⟩ (.int .u64 0)).setCell ⟨xb, 3, none⟩ (.int .i64 0)).setCell ⟨xb, 4, none⟩ (.slice none 0 0)).setCell ⟨g9, 0, none⟩ (.int .i64 ((k : Int) + 1))).cell? ⟨g9, 0, none⟩ = some (.int .i64 ((k : Int) + 1)) := by simpa using l9b.cell 0
      have z3 : ((((((w8.setCell ⟨xb, 0, none⟩ (.int .i64 99)).setCell ⟨xb, 1, none⟩ (.string ⟨#[]⟩)).setCell ⟨xb, 2, none⟩ (.int .u64 0)).setCell ⟨xb, 3, none⟩ (.int .i64 0)).setCell ⟨xb, 4, none⟩ (.slice none 0 0)).setCell ⟨g9, 0, none⟩ (.int .i64 ((k : Int) + 1))).cell? ⟨g3, 0, none⟩ = some (.int .u8 cut) := by simpa using l3.cell 0
      have z7 : ((((((w8.setCell ⟨xb, 0, none⟩ (.int .i64 99)).setCell ⟨xb, 1, none⟩ (.string ⟨#[]⟩)).setCell ⟨xb, 2, none⟩ (.int .u64 0)).setCell ⟨xb, 3, none⟩ (.int .i64 0)).setCell ⟨xb, 4, none⟩ (.slice none 0 0)).setCell ⟨g9, 0, none⟩ (.int .i64 ((k : Int) + 1))).cell? ⟨g7, 0, none⟩ = some (.slice (some ⟨ab, ao, none⟩) t.size c4) := by simpa using l7.cell 0
      have HZ := Lib.hid (And.intro l9b (And.intro l10 hc6))
      have r1 : ¬ ((t.size : Nat) : Int) < (k : Int) + 1 := by omega
      have r2 : decide (t.size < k + 1) = false := decide_eq_false (by omega)
      have r3 : decide (k + 1 > t.size) = false := decide_eq_false (by omega)
      clear e9b c10b e3b e7b l9b l10 l3 l7 hcB hc6
      by_cases hcu : cut < k + 1
      · have r4 : (cut : Int) < (k : Int) + 1 := by omega
        have r5 : decide (cut < k + 1) = true := decide_eq_true hcu
        have r6 : decide (k + 1 > cut) = true := decide_eq_true hcu
        gi_wp2_with fail
        have hlv : ∀ X, Blk X g9 3 #[.int .i64 ((k : Int) + 1)] → Blk X g10 4 #[.bool true] → Chg (fun b t => (b = g9 ∧ t = 3) ∨ (b = g10 ∧ t = 4) ∨ (Wa.heap.size ≤ b ∧ t = 25)) W2 X → lvI g9 g10 t.size W0 (k + 1) O X := fun X h1 h2 h3 =>
          ⟨by simpa using h1, h2, HQ.out.2.2.2.2.2.2.2.2.1, hk, HQ.out.1.trans_le h3 fun b t hb h => by
            have := HQ.out.2.2.2.2.2.2.2.2.2.1
            rcases h with h | h | h
            · exact .inl h.1
            · exact .inr h.1
            · have := h.1; omega⟩
        exact ⟨KeepsFrom.of_chg HZ.out.2.2 fun b _ h => by rcases h with h | h | h <;> exact absurd h.2 (by decide), rfl, O, hlv _ HZ.out.1 HZ.out.2.1 HZ.out.2.2⟩
      · have r4 : ¬ (cut : Int) < (k : Int) + 1 := by omega
        have r5 : decide (cut < k + 1) = false := decide_eq_false hcu
        have r6 : decide (k + 1 > cut) = false := decide_eq_false hcu
        gi_wp2_with fail
        have hlv : ∀ X, Blk X g9 3 #[.int .i64 ((k : Int) + 1)] → Blk X g10 4 #[.bool true] → Chg (fun b t => (b = g9 ∧ t = 3) ∨ (b = g10 ∧ t = 4) ∨ (Wa.heap.size ≤ b ∧ t = 25)) W2 X → lvI g9 g10 t.size W0 (k + 1) O X := fun X h1 h2 h3 =>
          ⟨by simpa using h1, h2, HQ.out.2.2.2.2.2.2.2.2.1, hk, HQ.out.1.trans_le h3 fun b t hb h => by
            have := HQ.out.2.2.2.2.2.2.2.2.2.1
            rcases h with h | h | h
            · exact .inl h.1
            · exact .inr h.1
            · have := h.1; omega⟩
        refine ⟨O, KeepsFrom.of_chg HZ.out.2.2 fun b _ h => by rcases h with h | h | h <;> exact absurd h.2 (by decide), HZ.out.2.2.mono fun b t _ h => ?_, fun b h => .inl h, hlv _ HZ.out.1 HZ.out.2.1 HZ.out.2.2⟩
        rcases h with h | h | h
        · exact .inl ((HQ.out.2.2.2.2.2.2.2.2.1 b).2 (.inl h.1))
        · exact .inl ((HQ.out.2.2.2.2.2.2.2.2.1 b).2 (.inr h.1))
        · exact .inr h.1
    · have p1 : ¬ (0 : Int) < (y.list.length : Int) := by omega
      have p2 : decide (0 < y.list.length) = false := decide_eq_false (by omega)
      have p3 : decide (y.list.length > 0) = false := decide_eq_false (by omega)
      have e3b := e3
      have e7b := e7
      have e9b := e9
      have c10b := c10
      have hcB : Chg (fun b t => (b = g10 ∧ t = 4) ∨ (Wa.heap.size ≤ b ∧ t = 25)) W2 w8 := hc28.mono fun _ _ _ h => .inl h
      clear e3 e7 e9 ex hN8 c10 hc28 hc78
      have y9 : w8.cell? ⟨g9, 0, none⟩ = some (.int .i64 (k : Nat)) := by simpa using e9b.cell 0
      have y9f := e9b.frozen 0
      have n910 : g10 ≠ g9 := by have := HS.out.2; omega
      have l9b : Blk (w8.setCell ⟨g9, 0, none⟩ (.int .i64 ((k : Int) + 1))) g9 3 #[.int .i64 ((k : Int) + 1)] := by simpa using e9b.set_ 0 (.int .i64 ((k : Int) + 1))
      have l10 := c10b.far (p := ⟨g9, 0, none⟩) n910 (.int .i64 ((k : Int) + 1))
      have l3 := e3b.far (p := ⟨g9, 0, none⟩) (show g3 ≠ g9 by have := HL.out.2.2.1.2.1; omega) (.int .i64 ((k : Int) + 1))
      have l7 := e7b.far (p := ⟨g9, 0, none⟩) (show g7 ≠ g9 by have := HL.out.2.2.1.2.2.2; omega) (.int .i64 ((k : Int) + 1))
      have hc6 : Chg (fun b t => (b = g9 ∧ t = 3) ∨ (b = g10 ∧ t = 4) ∨ (Wa.heap.size ≤ b ∧ t = 25)) W2 (w8.setCell ⟨g9, 0, none⟩ (.int .i64 ((k : Int) + 1))) := (hcB.mono fun _ _ _ h => .inr h).trans ((chg_set (j := 0) e9b (.int .i64 ((k : Int) + 1))).mono fun _ _ _ h => .inl h)
      have z9 : (w8.setCell ⟨g9, 0, none⟩ (.int .i64 ((k : Int) + 1))).cell? ⟨g9, 0, none⟩ = some (.int .i64 ((k : Int) + 1)) := by simpa using l9b.cell 0
      have z3 : (w8.setCell ⟨g9, 0, none⟩ (.int .i64 ((k : Int) + 1))).cell? ⟨g3, 0, none⟩ = some (.int .u8 cut) := by simpa using l3.cell 0
      have z7 : (w8.setCell ⟨g9, 0, none⟩ (.int .i64 ((k : Int) + 1))).cell? ⟨g7, 0, none⟩ = some (.slice (some ⟨ab, ao, none⟩) t.size c4) := by simpa using l7.cell 0
      have HZ := Lib.hid (And.intro l9b (And.intro l10 hc6))
      have r1 : ¬ ((t.size : Nat) : Int) < (k : Int) + 1 := by omega
      have r2 : decide (t.size < k + 1) = false := decide_eq_false (by omega)
      have r3 : decide (k + 1 > t.size) = false := decide_eq_false (by omega)
      clear e9b c10b e3b e7b l9b l10 l3 l7 hcB hc6
      by_cases hcu : cut < k + 1
      · have r4 : (cut : Int) < (k : Int) + 1 := by omega
        have r5 : decide (cut < k + 1) = true := decide_eq_true hcu
        have r6 : decide (k + 1 > cut) = true := decide_eq_true hcu
        gi_wp2_with fail
        have hlv : ∀ X, Blk X g9 3 #[.int .i64 ((k : Int) + 1)] → Blk X g10 4 #[.bool true] → Chg (fun b t => (b = g9 ∧ t = 3) ∨ (b = g10 ∧ t = 4) ∨ (Wa.heap.size ≤ b ∧ t = 25)) W2 X → lvI g9 g10 t.size W0 (k + 1) O X := fun X h1 h2 h3 =>
          ⟨by simpa using h1, h2, HQ.out.2.2.2.2.2.2.2.2.1, hk, HQ.out.1.trans_le h3 fun b t hb h => by
            have := HQ.out.2.2.2.2.2.2.2.2.2.1
            rcases h with h | h | h
            · exact .inl h.1
            · exact .inr h.1
            · have := h.1; omega⟩
        exact ⟨KeepsFrom.of_chg HZ.out.2.2 fun b _ h => by rcases h with h | h | h <;> exact absurd h.2 (by decide), rfl, O, hlv _ HZ.out.1 HZ.out.2.1 HZ.out.2.2⟩
      · have r4 : ¬ (cut : Int) < (k : Int) + 1 := by omega
        have r5 : decide (cut < k + 1) = false := decide_eq_false hcu
        have r6 : decide (k + 1 > cut) = false := decide_eq_false hcu
        gi_wp2_with fail
        have hlv : ∀ X, Blk X g9 3 #[.int .i64 ((k : Int) + 1)] → Blk X g10 4 #[.bool true] → Chg (fun b t => (b = g9 ∧ t = 3) ∨ (b = g10 ∧ t = 4) ∨ (Wa.heap.size ≤ b ∧ t = 25)) W2 X → lvI g9 g10 t.size W0 (k + 1) O X := fun X h1 h2 h3 =>
          ⟨by simpa using h1, h2, HQ.out.2.2.2.2.2.2.2.2.1, hk, HQ.out.1.trans_le h3 fun b t hb h => by
            have := HQ.out.2.2.2.2.2.2.2.2.2.1
            rcases h with h | h | h
            · exact .inl h.1
            · exact .inr h.1
            · have := h.1; omega⟩
        refine ⟨O, KeepsFrom.of_chg HZ.out.2.2 fun b _ h => by rcases h with h | h | h <;> exact absurd h.2 (by decide), HZ.out.2.2.mono fun b t _ h => ?_, fun b h => .inl h, hlv _ HZ.out.1 HZ.out.2.1 HZ.out.2.2⟩
        rcases h with h | h | h
        · exact .inl ((HQ.out.2.2.2.2.2.2.2.2.1 b).2 (.inl h.1))
        · exact .inl ((HQ.out.2.2.2.2.2.2.2.2.1 b).2 (.inr h.1))
        · exact .inr h.1
end Go.Proofs.YtgaodjoddfjfmaaDoor
