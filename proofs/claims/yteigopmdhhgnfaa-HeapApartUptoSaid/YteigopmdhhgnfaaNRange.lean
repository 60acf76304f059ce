/-
  A range over a function, at the wide fence: the iterator tells what it hands to each round in the world of that round; what a round may turn is said by blocks and types.
-/
import Derived.Test.YteigopmdhhgnfaaGrow
import Derived.Test.YteigopmdhhgnfaaRowP
import Derived.Test.YteigopmdhhgnfaaFacts
import Derived.RangeFuncNested
import Derived.RangeFuncLeaves
import Derived.OwnWalkIn
import Derived.TacticsInMore
import Derived.LoopNIn
import Derived.LoopIn
namespace Go.Proofs.Yteigopmdhhgnfaa
open Go.RowKit
set_option linter.unusedVariables false
set_option linter.unusedSimpArgs false

/-- What is no cells, at or beyond B, may turn. -/
abbrev ChgL (B : Nat) (w w' : World) : Prop := Chg (fun b t => B ≤ b ∧ t = 0) w w'
theorem Chg.toL {w w' : World} (h : Chg (fun _ _ => False) w w') (B : Nat) : ChgL B w w' := h.mono fun _ _ _ h => h.elim
theorem chgL_put {B l : Nat} {w : World} {o : Obj} (o' : Obj) (hB : B ≤ l) (h : w.heap[l]? = some o) (ho : tyOf o = 0) : ChgL B w (w.putObj l o') :=
  ⟨rfl, rfl, rfl, by simp, fun b u hb hm => by
    by_cases hbl : b = l
    · subst hbl
      rw [h] at hb
      injection hb with hb
      subst hb
      exact absurd ⟨hB, ho⟩ hm
    · exact (World.putObj_heap_other hbl).trans hb⟩
theorem KeepsFrom.of_chg {B : Nat} {M : Nat → Nat → Prop} {w w' : World} (h : Chg M w w') (hM : ∀ b, B ≤ b → ¬ M b 0) : KeepsFrom B w w' :=
  ⟨h.size, fun k o hk ho hc => h.keep k o ho (by
    have : tyOf o = 0 := by cases o <;> first | rfl | (cases hc)
    rw [this]
    exact hM k hk)⟩
/-- An iterator's contract: N rounds; round k is handed what G says, in the world of that round. O: the blocks that the caller owns (beyond D); a round may turn these and new ones. -/
def WalksN (P : Program) (gf : FuncId) (lb : Array Value) (N D : Nat) (G : Nat → Array Value → World → World → Prop) (w : World) : Prop :=
  ∀ (l : Nat) (J : Nat → (Nat → Prop) → World → Prop) (Jx : Nat → World → Prop) (O : Nat → Prop) (W : World), Chg (fun _ _ => False) w W → (∀ k O A B, Chg (fun _ _ => False) A B → J k O A → J k O B) → (∀ k A B, Chg (fun _ _ => False) A B → Jx k A → Jx k B) →
    (∀ k O A, J k O A → ∀ b, O b → D ≤ b ∧ b < A.heap.size) →
    (∀ m k O args A B, J k O A → Chg (fun _ _ => False) A B → k < N → G k args A B → YieldAt Fence.wide m P l args B fun e W' =>
      (e = .returned (.bool true) ∧ ∃ O', J (k + 1) O' W' ∧ Chg (fun b _ => O b ∨ A.heap.size ≤ b) A W' ∧ ∀ b, O' b → O b ∨ A.heap.size ≤ b) ∨ (e = .returned (.bool false) ∧ Jx (k + 1) W')) →
    J 0 O W → Calls P gf (#[.func (.yield l) #[] #[]] ++ lb) W fun e W' => (∃ v, e = .returned v) ∧ ((∃ O', J N O' W') ∨ ∃ k, k ≤ N ∧ Jx k W')
/-- How the body of a round may be left. -/
def roundN (B S : Nat) (I : Nat → (Nat → Prop) → World → Prop) (Ix : Code → Nat → World → Prop) (k : Nat) (O : Nat → Prop) (W : World) : Exit → Act → World → Prop
  | .normal, _, W' => ∃ O', KeepsFrom B W W' ∧ Chg (fun b _ => O b ∨ S ≤ b) W W' ∧ (∀ b, O' b → O b ∨ S ≤ b) ∧ I k O' W'
  | .ret, _, W' => KeepsFrom B W W' ∧ Ix .ret k W'
  | .exit id, _, W' => KeepsFrom B W W' ∧ Ix (.exit id) k W'
  | .goto t, _, W' => KeepsFrom B W W' ∧ Ix (.goto t) k W'
  | .panic _, _, _ => False
  | .outgrown, _, _ => False
set_option maxHeartbeats 2000000 in
theorem range_law {P : Program} {n : Nat} {g : Operand} {ps : Array Tmp} {assign body : Code} {Q : Exit → Act → World → Prop} {a : Act} {w : World} {gf : FuncId} {lb : Array Value}
    (hg : a.eval g = .func (.func gf) #[] lb) (eg : ∀ args w, (callFunc gf args).run P w = .ok (.enter gf args) w)
    (N D : Nat) (G : Nat → Array Value → World → World → Prop) (hseq : WalksN P gf lb N D G w) (hps : ∀ k args A B, G k args A B → args.size = ps.size)
    (I : Nat → (Nat → Prop) → World → Prop) (Ix : Code → Nat → World → Prop) (hI : ∀ k O A B, ChgL w.heap.size A B → I k O A → I k O B) (hIx : ∀ c k A B, ChgL w.heap.size A B → Ix c k A → Ix c k B)
    (hIO : ∀ k O A, I k O A → ∀ b, O b → D ≤ b ∧ b < A.heap.size) (O : Nat → Prop) (h0 : I 0 O w)
    (hround : ∀ (l m k : Nat) (O : Nat → Prop) (args : Array Value) (A B : World), w.heap.size ≤ l → I k O A → w.heap.size ≤ A.heap.size → Chg (fun _ _ => False) A B → G k args A B → k < N →
      assign.wpIn (Fence.wide.inRound l) m P (Exit.then (fun a' W' => KeepsFrom w.heap.size B W' ∧ Chg (fun b _ => O b ∨ A.heap.size ≤ b) B W' ∧ ∀ W'', ChgL w.heap.size W' W'' → body.wpIn (Fence.wide.inRound l) m P (roundN w.heap.size A.heap.size I Ix (k + 1) O W'') a' W'') (fun _ _ _ => False))
        { tmps := (ps.zip args).foldl (fun t (p, v) => t.setIfInBounds p v) a.tmps, defers := [] } B)
    (hdone : ∀ (E : Nat) (O : Nat → Prop) (W : World), w.heap.size ≤ E → I N O W → W.heap[E]? = some (.deferred (some [])) → Q .normal { a with defers := { target := .collected E, args := #[] } :: a.defers } W)
    (hstop : ∀ (E : Nat) (c : Code) (k : Nat) (W : World), w.heap.size ≤ E → k ≤ N → Ix c k W → W.heap[E]? = some (.deferred (some [])) → c.wpIn Fence.wide n P Q { a with defers := { target := .collected E, args := #[] } :: a.defers } W) :
    (Code.rangeFunc g ps assign body).wpIn Fence.wide n P Q a w := by
  refine wpIn_rangeFunc fun fn hfn => ?_
  obtain ⟨rec, hrec⟩ : ∃ rec : LoopState → Option Code → Loop, rec = fun st pe => { state := st, pending := pe, fn, tmps := a.tmps, params := ps, assign, body, defers := w.heap.size } := ⟨_, rfl⟩
  obtain ⟨W1, hW1⟩ : ∃ W1, (w.alloc (.deferred (some []))).alloc (.loop (rec .ready none)) = W1 := ⟨_, rfl⟩
  have hL1 : W1.heap[w.heap.size + 1]? = some (.loop (rec .ready none)) := by
    rw [← hW1]; have := World.alloc_heap_new (w.alloc (.deferred (some []))) (.loop (rec .ready none)); rwa [World.size_alloc] at this
  have hK1 : W1.heap[w.heap.size]? = some (.deferred (some [])) := by
    rw [← hW1]; exact (chg_alloc _ _).keep _ _ (World.alloc_heap_new w _) id
  have hc1 : Chg (fun _ _ => False) w W1 := by rw [← hW1]; exact (chg_alloc w _).alloc _
  have key := hseq (w.heap.size + 1)
    (fun k O W => I k O W ∧ W.heap[w.heap.size + 1]? = some (.loop (rec .ready none)) ∧ W.heap[w.heap.size]? = some (.deferred (some [])))
    (fun k W => ∃ c, Ix c k W ∧ W.heap[w.heap.size + 1]? = some (.loop (rec .done (some c))) ∧ W.heap[w.heap.size]? = some (.deferred (some [])))
    O W1 hc1 (fun k O A B hc h => ⟨hI k O A B (hc.toL _) h.1, hc.keep _ _ h.2.1 id, hc.keep _ _ h.2.2 id⟩)
    (fun k A B hc ⟨c, h1, h2, h3⟩ => ⟨c, hIx c k A B (hc.toL _) h1, hc.keep _ _ h2 id, hc.keep _ _ h3 id⟩)
    (fun k O A h => hIO k O A h.1)
    (fun m k O args A B ⟨hi, hlA, hkA⟩ hAB hkN hG => by
      have hsA : w.heap.size ≤ A.heap.size := Nat.le_of_lt (Array.getElem?_eq_some_iff.1 hkA).1
      have hl := hAB.keep _ _ hlA id
      have hk := hAB.keep _ _ hkA id
      have hy := run_yield (P := P) (args := args) hl (by rw [hrec]; exact hps k args A B hG)
      rw [hrec] at hy
      refine ⟨fn, _, assign, body, hy, roundIn_of_wpIn hfn (wpIn_mono (hround _ m k O args A B (by omega) hi hsA hAB hG hkN) ?_)⟩
      rintro e a' W' hp
      cases e with
      | normal =>
        obtain ⟨hkf, hkp, hb⟩ := hp
        replace hl := hkf.same _ _ (by omega) hl rfl
        replace hk := hkf.same _ _ (Nat.le_refl _) hk rfl
        have hlt : w.heap.size + 1 < W'.heap.size := (Array.getElem?_eq_some_iff.1 hl).1
        have hcl := chgL_put (B := w.heap.size) (.loop { rec .ready none with state := .busy }) (Nat.le_succ _) hl rfl
        refine ⟨_, run_beginRound hl (by rw [hrec]), wpIn_mono (hb _ hcl) ?_⟩
        have hl2 : (W'.putObj (w.heap.size + 1) (.loop { rec .ready none with state := .busy })).heap[w.heap.size + 1]? = some (.loop { rec .ready none with state := .busy }) := World.putObj_heap_same hlt
        have hk2 : (W'.putObj (w.heap.size + 1) (.loop { rec .ready none with state := .busy })).heap[w.heap.size]? = some (.deferred (some [])) := (World.putObj_heap_other (by omega)).trans hk
        have fin : ∀ (jump : Option Code) (W3 : World), KeepsFrom w.heap.size (W'.putObj (w.heap.size + 1) (.loop { rec .ready none with state := .busy })) W3 →
            (Instr.endRound (w.heap.size + 1) jump).run P W3 = .ok (.bool jump.isNone) (W3.putObj (w.heap.size + 1) (.loop (rec (if jump.isNone then .ready else .done) jump))) ∧
            ChgL w.heap.size W3 (W3.putObj (w.heap.size + 1) (.loop (rec (if jump.isNone then .ready else .done) jump))) ∧
            (W3.putObj (w.heap.size + 1) (.loop (rec (if jump.isNone then .ready else .done) jump))).heap[w.heap.size + 1]? = some (.loop (rec (if jump.isNone then .ready else .done) jump)) ∧
            (W3.putObj (w.heap.size + 1) (.loop (rec (if jump.isNone then .ready else .done) jump))).heap[w.heap.size]? = some (.deferred (some [])) := fun jump W3 hk3 => by
          have hl3 := hk3.same _ _ (by omega) hl2 rfl
          have := run_endRound (P := P) jump hl3
          rw [hrec] at this ⊢
          rw [hrec] at hl3
          exact ⟨this, chgL_put _ (Nat.le_succ _) hl3 rfl, World.putObj_heap_same (Array.getElem?_eq_some_iff.1 hl3).1, (World.putObj_heap_other (by omega)).trans (hk3.same _ _ (Nat.le_refl _) hk2 rfl)⟩
        rintro e a3 W3 hp
        cases e with
        | normal =>
          obtain ⟨O', hk3, hkp3, hO', hi3⟩ := hp
          obtain ⟨hr, hcr, hl4, hk4⟩ := fin none W3 hk3
          refine ⟨_, _, hr, .inl ⟨rfl, O', ⟨hI _ _ _ _ hcr hi3, hl4, hk4⟩, ⟨hcr.os.trans (hkp3.os.trans (hcl.os.trans (hkp.os.trans hAB.os))), hcr.tape.trans (hkp3.tape.trans (hcl.tape.trans (hkp.tape.trans hAB.tape))), hcr.output.trans (hkp3.output.trans (hcl.output.trans (hkp.output.trans hAB.output))), Nat.le_trans hAB.size (Nat.le_trans hkp.size (Nat.le_trans hcl.size (Nat.le_trans hkp3.size hcr.size))), fun b o hb hm => ?_⟩, hO'⟩⟩
          by_cases hbl : b = w.heap.size + 1
          · subst hbl
            rw [hlA] at hb
            injection hb with hb
            subst hb
            exact hl4
          · exact (World.putObj_heap_other hbl).trans (hkp3.keep b o ((World.putObj_heap_other hbl).trans (hkp.keep b o (hAB.keep b o hb id) hm)) hm)
        | ret =>
          obtain ⟨hk3, hi3⟩ := hp
          obtain ⟨hr, hcr, hl4, hk4⟩ := fin (some .ret) W3 hk3
          exact ⟨_, _, hr, .inr ⟨rfl, .ret, hIx _ _ _ _ hcr hi3, hl4, hk4⟩⟩
        | exit id =>
          obtain ⟨hk3, hi3⟩ := hp
          obtain ⟨hr, hcr, hl4, hk4⟩ := fin (some (.exit id)) W3 hk3
          exact ⟨_, _, hr, .inr ⟨rfl, .exit id, hIx _ _ _ _ hcr hi3, hl4, hk4⟩⟩
        | goto t =>
          obtain ⟨hk3, hi3⟩ := hp
          obtain ⟨hr, hcr, hl4, hk4⟩ := fin (some (.goto t)) W3 hk3
          exact ⟨_, _, hr, .inr ⟨rfl, .goto t, hIx _ _ _ _ hcr hi3, hl4, hk4⟩⟩
        | panic ch => exact hp.elim
        | outgrown => exact hp.elim
      | exit id => exact hp.elim
      | goto t => exact hp.elim
      | ret => exact hp.elim
      | panic ch => exact hp.elim
      | outgrown => exact hp.elim)
    ⟨hI 0 O w W1 (hc1.toL _) h0, hL1, hK1⟩
  have k1 : (Instr.enterLoop fn a.tmps ps assign body Fence.wide.round).run P w = .ok (w.heap.size + 1, [{ target := .collected w.heap.size, args := #[] }]) W1 := by
    rw [← hW1, hrec]; exact run_enterLoop_outer _ _ _ _ _
  have k2 : (resolve a.eval (rangeCall g (w.heap.size + 1)) 0).run P W1 = .ok { target := .fn (.func gf) lb, args := #[.func (.yield (w.heap.size + 1)) #[] #[]] } W1 := by
    simp only [resolve, hg]
    simp [go_sem]
  have k3 : (invoke (Target.fn (.func gf) lb) #[.func (.yield (w.heap.size + 1)) #[] #[]]).run P W1 = .ok (.enter gf (#[.func (.yield (w.heap.size + 1)) #[] #[]] ++ lb)) W1 := by
    simp [invoke, go_sem, eg]
  have k4 : Calls P gf (#[.func (.yield (w.heap.size + 1)) #[] #[]] ++ lb) W1 (rangePost Fence.wide n P (w.heap.size + 1) Q { a with defers := [{ target := .collected w.heap.size, args := #[] }] ++ a.defers }) := by
    refine key.mono ?_
    rintro e W2 ⟨⟨v, rfl⟩, (⟨O', hi, hl, hk⟩ | ⟨k, hkN, c, hi, hl, hk⟩)⟩
    · have he := run_endLoop (P := P) hl (by rw [hrec]; simp)
      rw [hrec] at he
      rw [hrec] at hl
      exact ⟨none, _, he, hdone _ O' _ (Nat.le_refl _) (hI _ _ _ _ (chgL_put _ (Nat.le_succ _) hl rfl) hi) ((World.putObj_heap_other (by omega)).trans hk)⟩
    · have he := run_endLoop (P := P) hl (by rw [hrec]; simp)
      rw [hrec] at he
      rw [hrec] at hl
      exact ⟨some c, _, he, hstop _ c k _ (Nat.le_refl _) hkN (hIx _ _ _ _ (chgL_put _ (Nat.le_succ _) hl rfl) hi) ((World.putObj_heap_other (by omega)).trans hk)⟩
  have k5 : ∀ f', Target.leads P W1 (Target.fn (.func gf) lb) #[.func (.yield (w.heap.size + 1)) #[] #[]] = some f' → Fence.wide.fn f' := fun _ _ => trivial
  have k6 : Fence.wide.depth.isSome = true → 1 ≤ n := fun h => (by cases h)
  have k7 := (callsIn_wide (n := n - 1)).2 k4
  exact ⟨_, _, _, _, _, _, _, _, k1, k2, k5, k3, k6, k7⟩
/-! ## Regions within a round -/
/-- One operation, that is no 'defer', within a round. -/
theorem oper_round {P : Program} {l n : Nat} {o : Oper} {a : Act} {w : World} {K K' : Act → World → Prop} {Q : Exit → Act → World → Prop} (hd : ∀ c, o.op ≠ .defer c) (hK : ∀ a w, K a w → K' a w) (hout : ∀ a w, ¬ Q .outgrown a w)
    (h : Oper.wp P o a w K Q) : o.wpIn (Fence.wide.inRound l) n P a w K' Q := by
  refine ⟨fun _ _ => trivial, ?_⟩
  rw [Oper.semAt_eq _ _ _ hd]
  unfold Oper.wp at h
  revert h
  generalize (execOp a.eval o).run P w = r
  intro h
  cases r with
  | ok v w' =>
    cases v with
    | value v => exact hK _ _ h
    | skip => exact hK _ _ h
    | defer d => exact hK _ _ h
    | enter f args =>
      refine ⟨fun h => (by cases h), CallsIn.inRound l (callsIn_wide.2 (Calls.mono h ?_))⟩
      intro e w'' hr
      cases e with
      | returned v => exact hK _ _ hr
      | panicked ch => exact hr
      | outgrown => exact hr
    | row r args =>
      refine ⟨fun h => (by cases h), ?_⟩
      intro c cs _
      obtain ⟨v, w3, hr, hs⟩ := h c cs
      exact ⟨v, w3, hK _ _ hr, (StepsIn.of_steps hs).mono fun m _ => fenced_wide P m⟩
    | _ => exact h.elim
  | halt o w' =>
    cases o with
    | panic v => exact h
    | _ => exact h.elim
theorem wp_opsIn_round {P : Program} {l n : Nat} {ops : Array Oper} {Q : Exit → Act → World → Prop} (hout : ∀ a w, ¬ Q .outgrown a w) (hd : ∀ (i : Nat) o, ops[i]? = some o → ∀ c, o.op ≠ .defer c) :
    ∀ (L : List Nat) (a : Act) (w : World), wpOps P ops Q L a w → wpOpsIn (Fence.wide.inRound l) n P ops Q L a w
  | [], a, w, h => h
  | i :: L, a, w, h => by
    simp only [wpOps] at h
    simp only [wpOpsIn]
    cases ho : ops[i]? with
    | none => simp only [ho] at h ⊢; exact wp_opsIn_round hout hd L a w h
    | some o =>
      simp only [ho] at h ⊢
      by_cases hw : Region.wanted o (yielded ops a.tmps) = true
      · simp only [hw, if_true] at h ⊢
        exact oper_round (hd i o ho) (fun a w => wp_opsIn_round hout hd L a w) hout (h.elim id fun h => absurd h.2 fun ⟨a', w', hq⟩ => hout a' w' hq)
      · simp only [hw, if_false, Bool.false_eq_true] at h ⊢
        exact ⟨fun _ _ => trivial, wp_opsIn_round hout hd L _ _ h⟩
/-- A region that draws its order, within a round. -/
theorem round_any {P : Program} {l n id : Nat} {ops : Array Oper} {Q : Exit → Act → World → Prop} {a : Act} {w : World} (hm : P.follows .mixedOrders = true) (hout : ∀ a w, ¬ Q .outgrown a w)
    (hd : (ops.all fun o => match o.op with | .defer _ => false | _ => true) = true) (h : wpAny P .any ops Q ops.size (Array.replicate ops.size false) a w.drew) : (Code.region id ops true).wpIn (Fence.wide.inRound l) n P Q a w :=
  wpIn_region_draw fun t => by
    simp only [Region.schedule, hm, Bool.true_or, if_true]
    exact wp_opsIn_round hout (fun i o ho c hc => by
      have := Array.all_eq_true_iff_forall_mem.1 hd o (Array.mem_of_getElem? ho)
      rw [hc] at this
      cases this) _ _ _ (wpAny_sound ops.size t _ a _ h)
section
variable {α : Type} {P : Program} {base e size : Nat} {R : World → List Value → α → Prop} {w : World} {A : Option Addr} {c : Nat} {l : List α}
/-- wpList_push1 within a round. -/
theorem round_push1 {lr nr : Nat} {ops : Array Oper} {rest : List Oper} {o : Oper} {a : Act} {Q : Exit → Act → World → Prop} (hout : ∀ a w, ¬ Q .outgrown a w) (hgd : o.guard = none) (s x : Operand) (t : TypeId)
    (ho : o.op = .call { callee := .builtin .append, args := #[s, x], argTypes := #[t, t] })
    (base e : Nat) (i : TypeInfo) (z : Value) (size bytes : Nat) (ht : P.underlying t = some (.slice e)) (hi : P.info? e = some i) (hz : i.zero = some z)
    (hsize : i.size = size) (hby : i.bytes = bytes) (hzs : z.cells.size = size) (hsz : 0 < size) (R : World → List Value → α → Prop) (A : Option Addr) (c : Nat) (l : List α) {n : Nat} (hn : n = l.length)
    (hs : a.eval s = .slice A n c) (hr : RowR base e size R w A c l) (k : Nat) (cs : List Value) (y : α) {b0 : Nat} (hx : a.eval x = .slice (some ⟨b0, 0, none⟩) 1 k) (hW : w.heap.size = b0) (hcs : cs.length = size) (h1 : ∀ u ∈ cs, u.oneCell' = true)
    (hy : R w cs y) (hlen : n ≤ 549755813888) (hb : bytes ≤ 127) (hbase : base ≤ w.heap.size) (hR : ∀ w', Chg (fun b t => OwnB A n c b ∧ t = e) w w' → ∀ cs x, R w cs x → R w' cs x)
    (h : ∀ A' c' w', RowR base e size R w' A' c' (l ++ [y]) → Chg (fun b t => OwnB A n c b ∧ t = e) w w' → (∀ b, OwnB A' (n + 1) c' b → OwnB A n c b ∨ w.heap.size ≤ b) → wpListIn (Fence.wide.inRound lr) nr P ops Q rest (a.put o.dst (.slice A' (n + 1) c')) w') :
    wpListIn (Fence.wide.inRound lr) nr P ops Q (o :: rest) a (w.alloc (.cells cs.toArray e)) := by
  obtain ⟨xss, how, x2, x3, x4⟩ := hr
  subst hn
  subst hW
  have hbn : l.length * bytes ≤ 549755813888 * 127 := Nat.mul_le_mul hlen hb
  refine wpListIn_plain hgd fun K hK => oper_round (K := K) (fun c hc => by rw [ho] at hc; cases hc) (fun _ _ h => h) hout ?_
  refine wp_append_any _ s x t ho base e i z size bytes ht hi hz hsize hby hzs hsz (.slice A l.length c) l.length xss.flatten hs (how.alloc _) (w.alloc (.cells cs.toArray e)).heap.size (some ⟨w.heap.size, 0, none⟩) 1 k cs hx ?_ h1 (by simp only [maxLen]; omega) (by rw [Nat.add_mul]; omega) (by simp; omega) ?_
  · refine ⟨by simpa using hcs, fun _ => ⟨_, rfl, by simp, fun j u hu => ?_⟩⟩
    rw [add_flat, Nat.zero_add, cell_of_row _ w.heap.size j cs.toArray e (0, 0) (heap_alloc_new w _)]
    simpa using hu
  · intro v' w' k1 k2 k3
    obtain ⟨A', c', rfl⟩ := own_form k1
    have hap : Apd (w.alloc (.cells cs.toArray e)) w' base e size A A' l.length c (l.length + 1) c' (xss.flatten ++ cs) := ⟨k1, k2, k3⟩
    have hch := hap.chg1 how
    refine hK _ _ (h A' c' w' (RowR.snoc x2 x3 x4 (hR w' hch) hap.own hcs (hR w' hch _ _ hy)) hch fun b hb => ?_)
    unfold OwnB at hb ⊢
    rcases hap.place with hp | hp
    · rw [hp] at hb; exact .inl hb
    · rw [hp] at hb
      injection hb with hb
      simp at hb
      exact .inr (by omega)
end
/-! ## The last element of a row of one's own, turned -/
def setN (w : World) (b : Nat) : Nat → List Value → World
  | _, [] => w
  | p, v :: vs => setN (w.setCell ⟨b, p, none⟩ v) b (p + 1) vs
theorem setN_blk {b e : Nat} : ∀ (vs : List Value) (p : Nat) (w : World) (cs : Array Value), Blk w b e cs → p + vs.length ≤ cs.size → ∃ cs', Blk (setN w b p vs) b e cs' ∧ cs'.size = cs.size ∧ (∀ m, m < p ∨ p + vs.length ≤ m → cs'[m]? = cs[m]?) ∧ (∀ j, j < vs.length → cs'[p + j]? = vs[j]?) ∧ Chg (fun b' t => b' = b ∧ t = e) w (setN w b p vs)
  | [], p, w, cs, h, hp => ⟨cs, h, rfl, fun _ _ => rfl, fun j hj => absurd hj (Nat.not_lt_zero _), Chg.refl _ _⟩
  | v :: vs, p, w, cs, h, hp => by
    simp only [List.length_cons] at hp
    obtain ⟨cs', h1, h2, h3, h4, h5⟩ := setN_blk vs (p + 1) _ _ (h.set_ p v) (by simp only [Array.size_setIfInBounds]; omega)
    refine ⟨cs', h1, by rw [h2]; simp, fun m hm => ?_, fun j hj => ?_, (chg_set h v).trans h5⟩
    · simp only [List.length_cons] at hm
      rw [h3 m (by omega), Array.getElem?_setIfInBounds, if_neg (by omega)]
    · cases j with
      | zero => rw [Nat.add_zero, h3 p (.inl (by omega)), Array.getElem?_setIfInBounds, if_pos rfl, if_pos (by omega)]; rfl
      | succ j =>
        simp only [List.length_cons] at hj
        have := h4 j (by omega)
        rw [show p + (j + 1) = p + 1 + j by omega, this]
        rfl
theorem row_last {w : World} {base e size n c : Nat} {A : Option Addr} {xs zs vs : List Value} (h : w.ownsRow base e size (.slice A (n + 1) c) (n + 1) (xs ++ zs)) (hx : xs.length = n * size) (hz : zs.length = size) (hv : vs.length = size) :
    ∃ g cur, A = some ⟨g, 0, none⟩ ∧ base ≤ g ∧ Blk w g e cur ∧ n * size + size ≤ cur.size ∧ (setN w g (n * size) vs).ownsRow base e size (.slice A (n + 1) c) (n + 1) (xs ++ vs) ∧ Chg (fun b t => b = g ∧ t = e) w (setN w g (n * size) vs) := by
  obtain ⟨hl, h⟩ := h
  rcases h with ⟨h1, h2⟩ | ⟨g, cap, cur, h1, h2, h3, h4, h5, h6, h7⟩
  · exact absurd h2 (Nat.succ_ne_zero n)
  · injection h1 with hA _ hc
    subst hA hc
    have hcap : (n + 1) * size ≤ c * size := Nat.mul_le_mul_right _ h4
    rw [Nat.add_mul, Nat.one_mul] at hcap
    obtain ⟨cs', k1, k2, k3, k4, k5⟩ := setN_blk (e := e) vs (n * size) w cur h3 (by rw [hv, h6]; exact hcap)
    refine ⟨g, cur, rfl, h2, h3, by rw [h6]; exact hcap, ⟨by rw [List.length_append, hx, hv, Nat.add_mul, Nat.one_mul], .inr ⟨g, c, cs', rfl, h2, k1, h4, h5, by rw [k2, h6], ?_⟩⟩, k5⟩
    apply List.ext_getElem?
    intro j
    by_cases hj : j < n * size
    · rw [List.getElem?_take_of_lt (by rw [Nat.add_mul, Nat.one_mul]; omega), Array.getElem?_toList, k3 j (.inl hj), List.getElem?_append_left (by omega)]
      have := congrArg (·[j]?) h7
      rw [List.getElem?_take_of_lt (by rw [Nat.add_mul, Nat.one_mul]; omega), Array.getElem?_toList, List.getElem?_append_left (by omega)] at this
      exact this
    · by_cases hj2 : j < n * size + size
      · rw [List.getElem?_take_of_lt (by rw [Nat.add_mul, Nat.one_mul]; omega), Array.getElem?_toList, List.getElem?_append_right (by omega), hx]
        have := k4 (j - n * size) (by omega)
        rw [show n * size + (j - n * size) = j by omega] at this
        exact this
      · rw [List.getElem?_eq_none (by rw [List.length_take, Array.length_toList, Nat.add_mul, Nat.one_mul]; omega), List.getElem?_eq_none (by rw [List.length_append]; omega)]
end Go.Proofs.Yteigopmdhhgnfaa
