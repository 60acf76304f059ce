/-
  A range over a function whose rounds may panic: the panic goes through the iterator and out of the function that holds the range.
-/
import Derived.Test.YtdegfnejhamejaaGrowZk
import Derived.Test.YtdegfnejhamejaaRowPZk
import Derived.Test.YtdegfnejhamejaaFactsZk
import Derived.RangeFuncNested
import Derived.RangeFuncLeaves
import Derived.OwnWalkIn
import Derived.TacticsInMore
import Derived.LoopNIn
import Derived.LoopIn
namespace Go.Proofs.Ytdegfnejhamejaa
open Go.RowKit
set_option linter.unusedVariables false
set_option linter.unusedSimpArgs false

/-- What is no cells, at or beyond B, may turn. -/
abbrev ChgL (B : Nat) (w w' : World) : Prop := Chg (fun b t => B ≤ b ∧ t = 0) w w'
theorem Chg.toL {w w' : World} (h : Chg (fun _ _ => False) w w') (B : Nat) : ChgL B w w' := h.mono fun _ _ _ h => h.elim
theorem chgL_put {B l : Nat} {w : World} {o : Obj} (o' : Obj) (hB : B ≤ l) (h : w.heap[l]? = some o) (ho : tyOf o = 0) : ChgL B w (w.putObj l o') :=
  ⟨rfl, rfl, rfl, by simp, fun b u hb hm => by
    by_cases hbl : b = l
    · subst hbl
      rw [h] at hb
      injection hb with hb
      subst hb
      exact absurd ⟨hB, ho⟩ hm
    · exact (World.putObj_heap_other hbl).trans hb⟩
/-- An iterator's contract: N rounds; round k is handed what G says, in the world of that round. O: the blocks that the caller owns (beyond D); a round may turn these and new ones. -/
def WalksN (P : Program) (gf : FuncId) (lb : Array Value) (N D : Nat) (G : Nat → Array Value → World → World → Prop) (w : World) : Prop :=
  ∀ (l : Nat) (J : Nat → (Nat → Prop) → World → Prop) (Jx : Nat → World → Prop) (O : Nat → Prop) (W : World), Chg (fun _ _ => False) w W → (∀ k O A B, Chg (fun _ _ => False) A B → J k O A → J k O B) → (∀ k A B, Chg (fun _ _ => False) A B → Jx k A → Jx k B) →
    (∀ k O A, J k O A → ∀ b, O b → D ≤ b ∧ b < A.heap.size) →
    (∀ m k O args A B, J k O A → Chg (fun _ _ => False) A B → k < N → G k args A B → YieldAt Fence.wide m P l args B fun e W' =>
      (e = .returned (.bool true) ∧ ∃ O', J (k + 1) O' W' ∧ Chg (fun b _ => O b ∨ A.heap.size ≤ b) A W' ∧ ∀ b, O' b → O b ∨ A.heap.size ≤ b) ∨ (e = .returned (.bool false) ∧ Jx (k + 1) W')) →
    J 0 O W → Calls P gf (#[.func (.yield l) #[] #[]] ++ lb) W fun e W' => (∃ v, e = .returned v) ∧ ((∃ O', J N O' W') ∨ ∃ k, k ≤ N ∧ Jx k W')
/-- How the body of a round may be left. -/
def roundN (B S : Nat) (I : Nat → (Nat → Prop) → World → Prop) (Ix : Code → Nat → World → Prop) (k : Nat) (O : Nat → Prop) (W : World) : Exit → Act → World → Prop
  | .normal, _, W' => ∃ O', KeepsFrom B W W' ∧ Chg (fun b _ => O b ∨ S ≤ b) W W' ∧ (∀ b, O' b → O b ∨ S ≤ b) ∧ I k O' W'
  | .ret, _, W' => KeepsFrom B W W' ∧ Ix .ret k W'
  | .exit id, _, W' => KeepsFrom B W W' ∧ Ix (.exit id) k W'
  | .goto t, _, W' => KeepsFrom B W W' ∧ Ix (.goto t) k W'
  | .panic _, _, _ => False
  | .outgrown, _, _ => False
set_option maxHeartbeats 2000000 in
theorem range_law {P : Program} {n : Nat} {g : Operand} {ps : Array Tmp} {assign body : Code} {Q : Exit → Act → World → Prop} {a : Act} {w : World} {gf : FuncId} {lb : Array Value}
    (hg : a.eval g = .func (.func gf) #[] lb) (eg : ∀ args w, (callFunc gf args).run P w = .ok (.enter gf args) w)
    (N D : Nat) (G : Nat → Array Value → World → World → Prop) (hseq : WalksN P gf lb N D G w) (hps : ∀ k args A B, G k args A B → args.size = ps.size)
    (I : Nat → (Nat → Prop) → World → Prop) (Ix : Code → Nat → World → Prop) (hI : ∀ k O A B, ChgL w.heap.size A B → I k O A → I k O B) (hIx : ∀ c k A B, ChgL w.heap.size A B → Ix c k A → Ix c k B)
    (hIO : ∀ k O A, I k O A → ∀ b, O b → D ≤ b ∧ b < A.heap.size) (O : Nat → Prop) (h0 : I 0 O w)
    (hround : ∀ (l m k : Nat) (O : Nat → Prop) (args : Array Value) (A B : World), w.heap.size ≤ l → I k O A → w.heap.size ≤ A.heap.size → Chg (fun _ _ => False) A B → G k args A B → k < N →
      assign.wpIn (Fence.wide.inRound l) m P (Exit.then (fun a' W' => KeepsFrom w.heap.size B W' ∧ Chg (fun b _ => O b ∨ A.heap.size ≤ b) B W' ∧ ∀ W'', ChgL w.heap.size W' W'' → body.wpIn (Fence.wide.inRound l) m P (roundN w.heap.size A.heap.size I Ix (k + 1) O W'') a' W'') (fun _ _ _ => False))
        { tmps := (ps.zip args).foldl (fun t (p, v) => t.setIfInBounds p v) a.tmps, defers := [] } B)
    (hdone : ∀ (E : Nat) (O : Nat → Prop) (W : World), w.heap.size ≤ E → I N O W → W.heap[E]? = some (.deferred (some [])) → Q .normal { a with defers := { target := .collected E, args := #[] } :: a.defers } W)
    (hstop : ∀ (E : Nat) (c : Code) (k : Nat) (W : World), w.heap.size ≤ E → k ≤ N → Ix c k W → W.heap[E]? = some (.deferred (some [])) → c.wpIn Fence.wide n P Q { a with defers := { target := .collected E, args := #[] } :: a.defers } W) :
    (Code.rangeFunc g ps assign body).wpIn Fence.wide n P Q a w := by
  refine wpIn_rangeFunc fun fn hfn => ?_
  obtain ⟨rec, hrec⟩ : ∃ rec : LoopState → Option Code → Loop, rec = fun st pe => { state := st, pending := pe, fn, tmps := a.tmps, params := ps, assign, body, defers := w.heap.size } := ⟨_, rfl⟩
  obtain ⟨W1, hW1⟩ : ∃ W1, (w.alloc (.deferred (some []))).alloc (.loop (rec .ready none)) = W1 := ⟨_, rfl⟩
  have hL1 : W1.heap[w.heap.size + 1]? = some (.loop (rec .ready none)) := by
    rw [← hW1]; have := World.alloc_heap_new (w.alloc (.deferred (some []))) (.loop (rec .ready none)); rwa [World.size_alloc] at this
  have hK1 : W1.heap[w.heap.size]? = some (.deferred (some [])) := by
    rw [← hW1]; exact (chg_alloc _ _).keep _ _ (World.alloc_heap_new w _) id
  have hc1 : Chg (fun _ _ => False) w W1 := by rw [← hW1]; exact (chg_alloc w _).alloc _
  have key := hseq (w.heap.size + 1)
    (fun k O W => I k O W ∧ W.heap[w.heap.size + 1]? = some (.loop (rec .ready none)) ∧ W.heap[w.heap.size]? = some (.deferred (some [])))
    (fun k W => ∃ c, Ix c k W ∧ W.heap[w.heap.size + 1]? = some (.loop (rec .done (some c))) ∧ W.heap[w.heap.size]? = some (.deferred (some [])))
    O W1 hc1 (fun k O A B hc h => ⟨hI k O A B (hc.toL _) h.1, hc.keep _ _ h.2.1 id, hc.keep _ _ h.2.2 id⟩)
    (fun k A B hc ⟨c, h1, h2, h3⟩ => ⟨c, hIx c k A B (hc.toL _) h1, hc.keep _ _ h2 id, hc.keep _ _ h3 id⟩)
    (fun k O A h => hIO k O A h.1)
    (fun m k O args A B ⟨hi, hlA, hkA⟩ hAB hkN hG => by
      have hsA : w.heap.size ≤ A.heap.size := Nat.le_of_lt (Array.getElem?_eq_some_iff.1 hkA).1
      have hl := hAB.keep _ _ hlA id
      have hk := hAB.keep _ _ hkA id
      have hy := run_yield (P := P) (args := args) hl (by rw [hrec]; exact hps k args A B hG)
      rw [hrec] at hy
      refine ⟨fn, _, assign, body, hy, roundIn_of_wpIn hfn (wpIn_mono (hround _ m k O args A B (by omega) hi hsA hAB hG hkN) ?_)⟩
      rintro e a' W' hp
      cases e with
      | normal =>
        obtain ⟨hkf, hkp, hb⟩ := hp
        replace hl := hkf.same _ _ (by omega) hl rfl
        replace hk := hkf.same _ _ (Nat.le_refl _) hk rfl
        have hlt : w.heap.size + 1 < W'.heap.size := (Array.getElem?_eq_some_iff.1 hl).1
        have hcl := chgL_put (B := w.heap.size) (.loop { rec .ready none with state := .busy }) (Nat.le_succ _) hl rfl
        refine ⟨_, run_beginRound hl (by rw [hrec]), wpIn_mono (hb _ hcl) ?_⟩
        have hl2 : (W'.putObj (w.heap.size + 1) (.loop { rec .ready none with state := .busy })).heap[w.heap.size + 1]? = some (.loop { rec .ready none with state := .busy }) := World.putObj_heap_same hlt
        have hk2 : (W'.putObj (w.heap.size + 1) (.loop { rec .ready none with state := .busy })).heap[w.heap.size]? = some (.deferred (some [])) := (World.putObj_heap_other (by omega)).trans hk
        have fin : ∀ (jump : Option Code) (W3 : World), KeepsFrom w.heap.size (W'.putObj (w.heap.size + 1) (.loop { rec .ready none with state := .busy })) W3 →
            (Instr.endRound (w.heap.size + 1) jump).run P W3 = .ok (.bool jump.isNone) (W3.putObj (w.heap.size + 1) (.loop (rec (if jump.isNone then .ready else .done) jump))) ∧
            ChgL w.heap.size W3 (W3.putObj (w.heap.size + 1) (.loop (rec (if jump.isNone then .ready else .done) jump))) ∧
            (W3.putObj (w.heap.size + 1) (.loop (rec (if jump.isNone then .ready else .done) jump))).heap[w.heap.size + 1]? = some (.loop (rec (if jump.isNone then .ready else .done) jump)) ∧
            (W3.putObj (w.heap.size + 1) (.loop (rec (if jump.isNone then .ready else .done) jump))).heap[w.heap.size]? = some (.deferred (some [])) := fun jump W3 hk3 => by
          have hl3 := hk3.same _ _ (by omega) hl2 rfl
          have := run_endRound (P := P) jump hl3
          rw [hrec] at this ⊢
          rw [hrec] at hl3
          exact ⟨this, chgL_put _ (Nat.le_succ _) hl3 rfl, World.putObj_heap_same (Array.getElem?_eq_some_iff.1 hl3).1, (World.putObj_heap_other (by omega)).trans (hk3.same _ _ (Nat.le_refl _) hk2 rfl)⟩
        rintro e a3 W3 hp
        cases e with
        | normal =>
          obtain ⟨O', hk3, hkp3, hO', hi3⟩ := hp
          obtain ⟨hr, hcr, hl4, hk4⟩ := fin none W3 hk3
          refine ⟨_, _, hr, .inl ⟨rfl, O', ⟨hI _ _ _ _ hcr hi3, hl4, hk4⟩, ⟨hcr.os.trans (hkp3.os.trans (hcl.os.trans (hkp.os.trans hAB.os))), hcr.tape.trans (hkp3.tape.trans (hcl.tape.trans (hkp.tape.trans hAB.tape))), hcr.output.trans (hkp3.output.trans (hcl.output.trans (hkp.output.trans hAB.output))), Nat.le_trans hAB.size (Nat.le_trans hkp.size (Nat.le_trans hcl.size (Nat.le_trans hkp3.size hcr.size))), fun b o hb hm => ?_⟩, hO'⟩⟩
          by_cases hbl : b = w.heap.size + 1
          · subst hbl
            rw [hlA] at hb
            injection hb with hb
            subst hb
            exact hl4
          · exact (World.putObj_heap_other hbl).trans (hkp3.keep b o ((World.putObj_heap_other hbl).trans (hkp.keep b o (hAB.keep b o hb id) hm)) hm)
        | ret =>
          obtain ⟨hk3, hi3⟩ := hp
          obtain ⟨hr, hcr, hl4, hk4⟩ := fin (some .ret) W3 hk3
          exact ⟨_, _, hr, .inr ⟨rfl, .ret, hIx _ _ _ _ hcr hi3, hl4, hk4⟩⟩
        | exit id =>
          obtain ⟨hk3, hi3⟩ := hp
          obtain ⟨hr, hcr, hl4, hk4⟩ := fin (some (.exit id)) W3 hk3
          exact ⟨_, _, hr, .inr ⟨rfl, .exit id, hIx _ _ _ _ hcr hi3, hl4, hk4⟩⟩
        | goto t =>
          obtain ⟨hk3, hi3⟩ := hp
          obtain ⟨hr, hcr, hl4, hk4⟩ := fin (some (.goto t)) W3 hk3
          exact ⟨_, _, hr, .inr ⟨rfl, .goto t, hIx _ _ _ _ hcr hi3, hl4, hk4⟩⟩
        | panic ch => exact hp.elim
        | outgrown => exact hp.elim
      | exit id => exact hp.elim
      | goto t => exact hp.elim
      | ret => exact hp.elim
      | panic ch => exact hp.elim
      | outgrown => exact hp.elim)
    ⟨hI 0 O w W1 (hc1.toL _) h0, hL1, hK1⟩
  have k1 : (Instr.enterLoop fn a.tmps ps assign body Fence.wide.round).run P w = .ok (w.heap.size + 1, [{ target := .collected w.heap.size, args := #[] }]) W1 := by
    rw [← hW1, hrec]; exact run_enterLoop_outer _ _ _ _ _
  have k2 : (resolve a.eval (rangeCall g (w.heap.size + 1)) 0).run P W1 = .ok { target := .fn (.func gf) lb, args := #[.func (.yield (w.heap.size + 1)) #[] #[]] } W1 := by
    simp only [resolve, hg]
    simp [go_sem]
  have k3 : (invoke (Target.fn (.func gf) lb) #[.func (.yield (w.heap.size + 1)) #[] #[]]).run P W1 = .ok (.enter gf (#[.func (.yield (w.heap.size + 1)) #[] #[]] ++ lb)) W1 := by
    simp [invoke, go_sem, eg]
  have k4 : Calls P gf (#[.func (.yield (w.heap.size + 1)) #[] #[]] ++ lb) W1 (rangePost Fence.wide n P (w.heap.size + 1) Q { a with defers := [{ target := .collected w.heap.size, args := #[] }] ++ a.defers }) := by
    refine key.mono ?_
    rintro e W2 ⟨⟨v, rfl⟩, (⟨O', hi, hl, hk⟩ | ⟨k, hkN, c, hi, hl, hk⟩)⟩
    · have he := run_endLoop (P := P) hl (by rw [hrec]; simp)
      rw [hrec] at he
      rw [hrec] at hl
      exact ⟨none, _, he, hdone _ O' _ (Nat.le_refl _) (hI _ _ _ _ (chgL_put _ (Nat.le_succ _) hl rfl) hi) ((World.putObj_heap_other (by omega)).trans hk)⟩
    · have he := run_endLoop (P := P) hl (by rw [hrec]; simp)
      rw [hrec] at he
      rw [hrec] at hl
      exact ⟨some c, _, he, hstop _ c k _ (Nat.le_refl _) hkN (hIx _ _ _ _ (chgL_put _ (Nat.le_succ _) hl rfl) hi) ((World.putObj_heap_other (by omega)).trans hk)⟩
  have k5 : ∀ f', Target.leads P W1 (Target.fn (.func gf) lb) #[.func (.yield (w.heap.size + 1)) #[] #[]] = some f' → Fence.wide.fn f' := fun _ _ => trivial
  have k6 : Fence.wide.depth.isSome = true → 1 ≤ n := fun h => (by cases h)
  have k7 := (callsIn_wide (n := n - 1)).2 k4
  exact ⟨_, _, _, _, _, _, _, _, k1, k2, k5, k3, k6, k7⟩
/-! ## Regions within a round -/
/-! ## The last element of a row of one's own, turned -/
end Go.Proofs.Ytdegfnejhamejaa
namespace Go.Proofs.Ytdegfnejhamejaa
open Go.RowKit
set_option linter.unusedVariables false
set_option linter.unusedSimpArgs false

section
variable {P : Program} {f : FuncId} {Q : Exit → Act → World → Prop} {a : Act} {w : World}
/-- As the walk's own word, for frames of one function. -/
def WpAt (P : Program) (f : FuncId) (c : Code) (Q : Exit → Act → World → Prop) (a : Act) (w : World) : Prop :=
  ∀ (b : Frame) (k : List Item) (cs : List Frame), b.roundOf = none → b.fn = f → ∃ e a' w', Q e a' w' ∧ ArrivesIn (Machine.fenced P Fence.wide) P (lone (b.atR a (.code c :: k)) cs w) b k cs e a' w'
theorem wide_calm {fr : Frame} {cs : List Frame} {w : World} (ha : fr.about P w = none) : (lone fr cs w).fenced P Fence.wide := fenced_calm (n := 0) trivial (room_wide _) ha
theorem wpAt_of {c : Code} (h : c.wp P Q a w) : WpAt P f c Q a w := fun b k cs hro _ => (wpIn_wide (n := 0)).2 h b k cs hro trivial (room_wide _)
theorem wpAt_seq {x y : Code} (h : WpAt P f x (Exit.then (WpAt P f y Q) Q) a w) : WpAt P f (Code.seq x y) Q a w := by
  intro b k cs hro hb
  have h0 : (lone (b.atR a (.code (.seq x y) :: k)) cs w).fenced P Fence.wide := wide_calm rfl
  obtain ⟨e, a₁, w₁, hq, harr⟩ := h b (.code y :: k) cs hro hb
  cases e with
  | normal =>
    obtain ⟨e₂, a₂, w₂, hq₂, harr₂⟩ := hq b k cs hro hb
    exact ⟨e₂, a₂, w₂, hq₂, .of_steps (.head h0 stepR_seq harr) harr₂⟩
  | exit id => exact ⟨_, a₁, w₁, hq, .of_steps (.one h0 stepR_seq) (.pass (x := .code y) rfl (fun _ _ => .inl (by simp)) harr)⟩
  | goto l => exact ⟨_, a₁, w₁, hq, .of_steps (.one h0 stepR_seq) (.pass (x := .code y) rfl (fun _ _ => .inl (by simp)) harr)⟩
  | ret => exact ⟨_, a₁, w₁, hq, .of_steps (.one h0 stepR_seq) (.pass (x := .code y) rfl (fun _ _ => .inl (by simp)) harr)⟩
  | panic ch => exact ⟨_, a₁, w₁, hq, .of_steps (.one h0 stepR_seq) (.pass (x := .code y) rfl (fun _ _ => .inl (by simp)) harr)⟩
  | outgrown => exact ⟨_, a₁, w₁, hq, .of_steps (.one h0 stepR_seq) (.pass (x := .code y) rfl (fun _ _ => .inl (by simp)) harr)⟩
theorem wpAt_block {id : Nat} {c : Code} (h : WpAt P f c (Exit.inBlock id Q) a w) : WpAt P f (Code.block id c) Q a w := by
  intro b k cs hro hb
  have h0 : (lone (b.atR a (.code (.block id c) :: k)) cs w).fenced P Fence.wide := wide_calm rfl
  obtain ⟨e, a₁, w₁, hq, harr⟩ := h b (.inBlock id :: k) cs hro hb
  cases e with
  | normal => exact ⟨.normal, a₁, w₁, hq, .head h0 stepR_block (StepsIn.trans harr (.one (wide_calm rfl) stepR_inBlock))⟩
  | exit id' =>
    by_cases hid : id' = id
    · simp only [Exit.inBlock, hid, if_true] at hq
      exact ⟨.normal, a₁, w₁, hq, .head h0 stepR_block (harr.1 k (by simp [exitTo, hid]))⟩
    · simp only [Exit.inBlock, hid, if_false] at hq
      have this : (id == id') = false := by simp; exact fun h => hid h.symm
      have hx : exitTo id' (.inBlock id :: k) = exitTo id' k := by simp [exitTo, this]
      exact ⟨.exit id', a₁, w₁, hq, fun k' hk => .head h0 stepR_block (harr.1 k' (by rw [hx]; exact hk)),
        fun hr' hk => let ⟨k₁, h1, h2⟩ := harr.2 hr' (by rw [hx]; exact hk); ⟨k₁, h1, .head h0 stepR_block h2⟩⟩
  | goto l =>
    have hx : gotoIn l (.inBlock id :: k) = gotoIn l k := by simp [gotoIn]
    exact ⟨_, a₁, w₁, hq, fun k' hk => .head h0 stepR_block (harr.1 k' (by rw [hx]; exact hk)),
      fun hr' hk => let ⟨k₁, h1, h2⟩ := harr.2 hr' (by rw [hx]; exact hk); ⟨k₁, h1, .head h0 stepR_block h2⟩⟩
  | ret => exact ⟨_, a₁, w₁, hq, .of_steps (.one h0 stepR_block) harr⟩
  | panic ch => exact ⟨_, a₁, w₁, hq, .of_steps (.one h0 stepR_block) harr⟩
  | outgrown => exact ⟨_, a₁, w₁, hq, .of_steps (.one h0 stepR_block) harr⟩
/-- A function's contract from its body. -/
theorem calls_of_wpAt {fn : Func} {c : Code} {args : Array Value} {R : Ending → World → Prop} (hf : P.funcs[f]? = some fn) (hb : fn.body = some c)
    (h : WpAt P f c (bodyPostM Fence.wide 0 P fn R) { tmps := args ++ Array.replicate (fn.ntmps - args.size) undef, defers := [] } w) : Calls P f args w R := by
  refine (callsIn_wide (n := 0)).1 ⟨trivial, fun cs hr => ?_⟩
  let b : Frame := { (default : Frame) with fn := f, kind := .normal, roundOf := none }
  have henter : Frame.enter P f args .normal =
      b.atR { tmps := args ++ Array.replicate (fn.ntmps - args.size) undef, defers := [] } [.code c] := by
    simp [Frame.enter, Frame.atR, hf, hb, b]
  obtain ⟨e, a', w', hq, harr⟩ := h b [] cs rfl rfl
  rw [← henter] at harr
  cases e with
  | normal =>
    obtain ⟨e', w'', fr', hR, hs, hfn, hl⟩ := leaves_stepsInM a'.defers .returning w' { b.atR a' [] with mode := .returning } cs rfl rfl rfl hf rfl trivial hr hq
    exact ⟨e', w'', fr', hR, ComesIn.of_steps (StepsIn.trans harr (.one (wide_calm rfl) (stepR_end rfl))) hs, hfn, hl⟩
  | ret =>
    obtain ⟨todo, hs₀⟩ := harr.1 rfl
    obtain ⟨e', w'', fr', hR, hs, hfn, hl⟩ := leaves_stepsInM a'.defers .returning w' { b.atR a' todo with mode := .returning } cs rfl rfl rfl hf rfl trivial hr hq
    exact ⟨e', w'', fr', hR, ComesIn.of_steps hs₀ hs, hfn, hl⟩
  | panic chain =>
    obtain ⟨todo, hs₀⟩ := harr
    obtain ⟨e', w'', fr', hR, hs, hfn, hl⟩ := leaves_stepsInM a'.defers (.panicking chain) w' { b.atR a' todo with mode := .panicking chain } cs rfl rfl rfl hf rfl trivial hr hq
    exact ⟨e', w'', fr', hR, ComesIn.of_steps hs₀ hs, hfn, hl⟩
  | exit id => exact hq.elim
  | goto l => exact hq.elim
  | outgrown => exact ⟨.outgrown, w', b, hq, harr.resolve_left (by simp [b]), rfl, trivial⟩
end
/-- How the body of a round may be left: off its end, or by a panic. -/
def roundQ (P : Program) (l : Nat) (R : Ending → World → Prop) : Exit → Act → World → Prop
  | .normal, _, w => ∃ v w', (Instr.endRound l none).run P w = .ok v w' ∧ R (.returned v) w'
  | .panic ch, a, w => a.defers = [] ∧ R (.panicked ch) w
  | _, _, _ => False
theorem roundIn_panics {P : Program} {n l : Nat} {f : FuncId} {fnf : Func} {tmps : Array Value} {assign body : Code} {w : World} {R : Ending → World → Prop} (hf : P.funcs[f]? = some fnf)
    (h : assign.wpIn (Fence.wide.inRound l) n P (Exit.then (fun a₁ w₁ => ∃ w₂, (Instr.beginRound l).run P w₁ = .ok () w₂ ∧ body.wpIn (Fence.wide.inRound l) n P (roundQ P l R) a₁ w₂) (fun _ _ _ => False))
      { tmps := tmps, defers := [] } w) :
    RoundIn Fence.wide n P l f tmps assign body w R := by
  refine ⟨trivial, fun c cs hr => ?_⟩
  let b : Frame := { (default : Frame) with fn := f, kind := .normal, roundOf := some l }
  have hb0 : Frame.round l f tmps assign body .normal = b.atR { tmps := tmps, defers := [] } [.code assign, .beginRound, .code body] := by
    simp [Frame.round, Frame.atR, b]
  have hr' : (Fence.wide.inRound l).room ((c :: cs).length + 1 + n) := hr
  have hF' : (Fence.wide.inRound l).fn b.fn := trivial
  obtain ⟨e, a₁, w₁, hq, harr⟩ := h b [.beginRound, .code body] (c :: cs) rfl hF' hr'
  rw [← hb0] at harr
  cases e with
  | normal =>
    obtain ⟨w₂, hbr, hbody⟩ := hq
    have s1 : StepsIn (Machine.fenced P Fence.wide) P (lone (b.atR a₁ [.beginRound, .code body]) (c :: cs) w₁) (lone (b.atR a₁ [.code body]) (c :: cs) w₂) :=
      .one (fenced_calm (fr := b.atR a₁ [.beginRound, .code body]) hF' hr' rfl) (stepR_beginRound rfl hbr)
    obtain ⟨e₂, a₂, w₃, hq₂, harr₂⟩ := hbody b [] (c :: cs) rfl hF' hr'
    cases e₂ with
    | normal =>
      obtain ⟨v, w₄, hend, hR⟩ := hq₂
      exact ⟨.returned v, w₄, hR, (StepsIn.trans harr s1).trans (StepsIn.trans harr₂ (.one (fenced_calm (fr := b.atR a₂ []) hF' hr' rfl) (stepR_round_end rfl rfl hend)))⟩
    | panic chain =>
      obtain ⟨hd, hR⟩ := hq₂
      obtain ⟨todo, hs⟩ := harr₂
      have hl : Frame.leaving P { b.atR a₂ todo with mode := .panicking chain } w₃ (.panicked chain) := ⟨rfl, hd, fnf, hf⟩
      have hfen : (lone { b.atR a₂ todo with mode := .panicking chain } (c :: cs) w₃).fenced P Fence.wide := fenced_leaving (n := 0) trivial (room_wide _) hl
      exact ⟨.panicked chain, w₃, hR, (StepsIn.trans harr s1).trans (StepsIn.trans hs (.one hfen (step_leave_panicked hl)))⟩
    | exit id => exact hq₂.elim
    | goto t => exact hq₂.elim
    | ret => exact hq₂.elim
    | outgrown => exact hq₂.elim
  | exit id => exact hq.elim
  | goto l => exact hq.elim
  | ret => exact hq.elim
  | panic chain => exact hq.elim
  | outgrown => exact hq.elim
def roundP (M : Nat → Nat → Prop) (I : Nat → World → Prop) (Ip : List PanicEntry → World → Prop) (k : Nat) (W : World) : Exit → Act → World → Prop
  | .normal, _, W' => Chg M W W' ∧ I k W'
  | .panic ch, a, W' => a.defers = [] ∧ Chg M W W' ∧ Ip ch W'
  | _, _, _ => False
abbrev ChgAt (l : Nat) (w w' : World) : Prop := Chg (fun b t => b = l ∧ t = 0) w w'
theorem chgAt_put {l : Nat} {w : World} {o : Obj} (o' : Obj) (h : w.heap[l]? = some o) (ho : tyOf o = 0) : ChgAt l w (w.putObj l o') :=
  ⟨rfl, rfl, rfl, by simp, fun b u hb hm => by
    by_cases hbl : b = l
    · subst hbl
      rw [h] at hb
      injection hb with hb
      subst hb
      exact absurd ⟨rfl, ho⟩ hm
    · exact (World.putObj_heap_other hbl).trans hb⟩
/-- An iterator's contract: N rounds; round k is handed args k; a round turns M alone, and may panic. -/
def WalksP (P : Program) (gf : FuncId) (lb : Array Value) (N : Nat) (args : Nat → Array Value) (M : Nat → Nat → Prop) (w : World) : Prop :=
  ∀ (l : Nat) (J : Nat → World → Prop) (Jp : List PanicEntry → World → Prop) (W : World), Chg (fun _ _ => False) w W →
    (∀ m k A, J k A → k < N → YieldAt Fence.wide m P l (args k) A fun e W' => (e = .returned (.bool true) ∧ J (k + 1) W' ∧ Chg M A W') ∨ ∃ ch, e = .panicked ch ∧ Jp ch W') →
    J 0 W → Calls P gf (#[.func (.yield l) #[] #[]] ++ lb) W fun e W' => ((∃ v, e = .returned v) ∧ J N W') ∨ ∃ ch, e = .panicked ch ∧ Jp ch W'
set_option maxHeartbeats 2000000 in
theorem range_panics {P : Program} {f : FuncId} {fnf : Func} {g : Operand} {ps : Array Tmp} {assign body : Code} {Q : Exit → Act → World → Prop} {a : Act} {w : World} {gf : FuncId} {lb : Array Value} (hf : P.funcs[f]? = some fnf)
    (hg : a.eval g = .func (.func gf) #[] lb) (eg : ∀ args w, (callFunc gf args).run P w = .ok (.enter gf args) w)
    (N : Nat) (args : Nat → Array Value) (M : Nat → Nat → Prop) (hseq : WalksP P gf lb N args M w) (hps : ∀ k, (args k).size = ps.size) (hME : ¬ M w.heap.size 0) (hMl : ¬ M (w.heap.size + 1) 0)
    (I : Nat → World → Prop) (Ip : List PanicEntry → World → Prop) (hI : ∀ k A B, ChgAt (w.heap.size + 1) A B → I k A → I k B)
    (h0 : ∀ W, Chg (fun _ _ => False) w W → W.heap.size = w.heap.size + 2 → I 0 W)
    (hround : ∀ (m k : Nat) (A : World), I k A → k < N →
      assign.wpIn (Fence.wide.inRound (w.heap.size + 1)) m P (Exit.then (fun a' W' => W' = A ∧ ∀ W'', ChgAt (w.heap.size + 1) A W'' → body.wpIn (Fence.wide.inRound (w.heap.size + 1)) m P (roundP M I Ip (k + 1) W'') a' W'') (fun _ _ _ => False))
        { tmps := (ps.zip (args k)).foldl (fun t (p, v) => t.setIfInBounds p v) a.tmps, defers := [] } A)
    (hdone : ∀ W, I N W → W.heap[w.heap.size]? = some (.deferred (some [])) → Q .normal { a with defers := { target := .collected w.heap.size, args := #[] } :: a.defers } W)
    (hpanic : ∀ ch W, Ip ch W → W.heap[w.heap.size]? = some (.deferred (some [])) → Q (.panic ch) { a with defers := { target := .collected w.heap.size, args := #[] } :: a.defers } W) :
    WpAt P f (Code.rangeFunc g ps assign body) Q a w := by
  obtain ⟨rec, hrec⟩ : ∃ rec : LoopState → Option Code → Loop, rec = fun st pe => { state := st, pending := pe, fn := f, tmps := a.tmps, params := ps, assign, body, defers := w.heap.size } := ⟨_, rfl⟩
  obtain ⟨W1, hW1⟩ : ∃ W1, (w.alloc (.deferred (some []))).alloc (.loop (rec .ready none)) = W1 := ⟨_, rfl⟩
  have hL1 : W1.heap[w.heap.size + 1]? = some (.loop (rec .ready none)) := by
    rw [← hW1]; have := World.alloc_heap_new (w.alloc (.deferred (some []))) (.loop (rec .ready none)); rwa [World.size_alloc] at this
  have hK1 : W1.heap[w.heap.size]? = some (.deferred (some [])) := by
    rw [← hW1]; exact (chg_alloc _ _).keep _ _ (World.alloc_heap_new w _) id
  have hc1 : Chg (fun _ _ => False) w W1 := by rw [← hW1]; exact (chg_alloc w _).alloc _
  have hs1 : W1.heap.size = w.heap.size + 2 := by rw [← hW1]; simp
  have key := hseq (w.heap.size + 1)
    (fun k W => I k W ∧ W.heap[w.heap.size + 1]? = some (.loop (rec .ready none)) ∧ W.heap[w.heap.size]? = some (.deferred (some [])))
    (fun ch W => Ip ch W ∧ W.heap[w.heap.size]? = some (.deferred (some []))) W1 hc1
    (fun m k A ⟨hi, hlA, hkA⟩ hkN => by
      have hy := run_yield (P := P) (args := args k) hlA (by rw [hrec]; exact hps k)
      rw [hrec] at hy
      refine ⟨f, _, assign, body, hy, roundIn_panics hf (wpIn_mono (hround m k A hi hkN) ?_)⟩
      rintro e a' W' hp
      cases e with
      | normal =>
        obtain ⟨rfl, hb⟩ := hp
        have hlt : w.heap.size + 1 < W'.heap.size := (Array.getElem?_eq_some_iff.1 hlA).1
        have hcl := chgAt_put (.loop { rec .ready none with state := .busy }) hlA rfl
        refine ⟨_, run_beginRound hlA (by rw [hrec]), wpIn_mono (hb _ hcl) ?_⟩
        have hl2 : (W'.putObj (w.heap.size + 1) (.loop { rec .ready none with state := .busy })).heap[w.heap.size + 1]? = some (.loop { rec .ready none with state := .busy }) := World.putObj_heap_same hlt
        have hk2 : (W'.putObj (w.heap.size + 1) (.loop { rec .ready none with state := .busy })).heap[w.heap.size]? = some (.deferred (some [])) := (World.putObj_heap_other (by omega)).trans hkA
        rintro e a3 W3 hp
        cases e with
        | normal =>
          obtain ⟨hc3, hi3⟩ := hp
          have hl3 := hc3.keep _ _ hl2 hMl
          have hk3 := hc3.keep _ _ hk2 hME
          have hr := run_endRound (P := P) none hl3
          rw [hrec] at hr
          have hcr := chgAt_put (.loop (rec .ready none)) hl3 rfl
          refine ⟨_, _, hr, .inl ⟨rfl, ⟨?_, ?_, ?_⟩, ?_⟩⟩
          · rw [hrec] at hcr; exact hI _ _ _ hcr hi3
          · rw [hrec]; exact World.putObj_heap_same (Array.getElem?_eq_some_iff.1 hl3).1
          · exact (World.putObj_heap_other (by omega)).trans hk3
          · refine ⟨hc3.os, hc3.tape, hc3.output, by have := hc3.size; simpa using this, fun b o hb hm => ?_⟩
            by_cases hbl : b = w.heap.size + 1
            · subst hbl
              rw [hlA] at hb
              injection hb with hb
              subst hb
              rw [hrec]
              exact World.putObj_heap_same (Array.getElem?_eq_some_iff.1 hl3).1
            · exact (World.putObj_heap_other hbl).trans (hc3.keep b o ((World.putObj_heap_other hbl).trans hb) hm)
        | panic ch =>
          obtain ⟨hd, hc3, hi3⟩ := hp
          exact ⟨hd, .inr ⟨ch, rfl, hi3, hc3.keep _ _ hk2 hME⟩⟩
        | ret => exact hp.elim
        | exit id => exact hp.elim
        | goto t => exact hp.elim
        | outgrown => exact hp.elim
      | exit id => exact hp.elim
      | goto t => exact hp.elim
      | ret => exact hp.elim
      | panic ch => exact hp.elim
      | outgrown => exact hp.elim)
    ⟨h0 W1 hc1 hs1, hL1, hK1⟩
  have k1 : (Instr.enterLoop f a.tmps ps assign body none).run P w = .ok (w.heap.size + 1, [{ target := .collected w.heap.size, args := #[] }]) W1 := by
    rw [← hW1, hrec]; exact run_enterLoop_outer _ _ _ _ _
  have k2 : (resolve a.eval (rangeCall g (w.heap.size + 1)) 0).run P W1 = .ok { target := .fn (.func gf) lb, args := #[.func (.yield (w.heap.size + 1)) #[] #[]] } W1 := by
    simp only [resolve, hg]
    simp [go_sem]
  have k3 : (invoke (Target.fn (.func gf) lb) #[.func (.yield (w.heap.size + 1)) #[] #[]]).run P W1 = .ok (.enter gf (#[.func (.yield (w.heap.size + 1)) #[] #[]] ++ lb)) W1 := by
    simp [invoke, go_sem, eg]
  have k4 : Calls P gf (#[.func (.yield (w.heap.size + 1)) #[] #[]] ++ lb) W1 (rangePost Fence.wide 0 P (w.heap.size + 1) Q { a with defers := [{ target := .collected w.heap.size, args := #[] }] ++ a.defers }) := by
    refine key.mono ?_
    rintro e W2 (⟨⟨v, rfl⟩, hi, hl, hk⟩ | ⟨ch, rfl, hi, hk⟩)
    · have he := run_endLoop (P := P) hl (by rw [hrec]; simp)
      rw [hrec] at he
      rw [hrec] at hl
      exact ⟨none, _, he, hdone _ (hI _ _ _ (chgAt_put _ hl rfl) hi) ((World.putObj_heap_other (by omega)).trans hk)⟩
    · exact hpanic ch W2 hi hk
  intro b k cs hro hb
  have henter := stepR_rangeFunc (P := P) (b := b) (a := a) (k := k) (cs := cs) (w := w) (by rw [hb, hro]; exact k1) k2 k3
  have h00 : (lone (b.atR a (.code (.rangeFunc g ps assign body) :: k)) cs w).fenced P Fence.wide := fenced_lone (.inl trivial) (fun _ _ => trivial) (room_wide _)
  obtain ⟨_, hcall⟩ := (callsIn_wide (n := 0)).2 k4
  obtain ⟨e, w₃, fr, hR, hsteps, hfn, hleave⟩ := hcall (b.atR { a with defers := [{ target := .collected w.heap.size, args := #[] }] ++ a.defers } (.inRangeFunc (w.heap.size + 1) :: k) :: cs) (room_wide _)
  cases e with
  | outgrown =>
    obtain ⟨a₀, w₀, hq⟩ := hR
    exact ⟨.outgrown, a₀, w₀, hq, .inr (Outgrown.of_steps (.one henter) hsteps)⟩
  | returned v =>
    have hl : (lone fr (b.atR { a with defers := [{ target := .collected w.heap.size, args := #[] }] ++ a.defers } (.inRangeFunc (w.heap.size + 1) :: k) :: cs) w₃).fenced P Fence.wide := fenced_leaving (n := 0) trivial (room_wide _) hleave
    obtain ⟨jump, w₄, hend, hj⟩ := hR
    have sback : StepsIn (Machine.fenced P Fence.wide) P (lone (b.atR a (.code (.rangeFunc g ps assign body) :: k)) cs w) (lone (b.atR { a with defers := [{ target := .collected w.heap.size, args := #[] }] ++ a.defers } ((jump.map Item.code).toList ++ k)) cs w₄) := by
      refine .head h00 henter (StepsIn.trans hsteps (.head hl ?_ (.one (wide_calm rfl) (stepR_endRangeFunc hend))))
      rw [← finish_atR_inRangeFunc (w.heap.size + 1) v]; exact step_leave_returned hleave
    cases jump with
    | none => exact ⟨.normal, _, w₄, hj, sback⟩
    | some c =>
      obtain ⟨e', a'', w₅, hq, harr⟩ := hj b k cs hro trivial (room_wide _)
      exact ⟨e', a'', w₅, hq, .of_steps sback harr⟩
  | panicked chain =>
    have hl : (lone fr (b.atR { a with defers := [{ target := .collected w.heap.size, args := #[] }] ++ a.defers } (.inRangeFunc (w.heap.size + 1) :: k) :: cs) w₃).fenced P Fence.wide := fenced_leaving (n := 0) trivial (room_wide _) hleave
    refine ⟨.panic chain, _, w₃, hR, .inRangeFunc (w.heap.size + 1) :: k, .head h00 henter (StepsIn.trans hsteps (.one hl ?_))⟩
    rw [← Frame.raise_atR]; exact step_leave_panicked hleave
end Go.Proofs.Ytdegfnejhamejaa
