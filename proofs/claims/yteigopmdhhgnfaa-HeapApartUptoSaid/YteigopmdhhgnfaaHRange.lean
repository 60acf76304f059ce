/-
  A range over a function, indexed by what has been handed out so far.
-/
import Derived.Test.YteigopmdhhgnfaaNRange
namespace Go.Proofs.Yteigopmdhhgnfaa
open Go.RowKit
set_option linter.unusedVariables false
set_option linter.unusedSimpArgs false

/-- An iterator's contract, by what has been handed out so far: behind the list k, G says what may be handed out next; at the end Fin holds of it. O: the blocks that the caller owns (beyond D); a round may turn these and new ones. -/
def WalksL (P : Program) (gf : FuncId) (lb : Array Value) (D : Nat) (G : List Value → Value → Array Value → World → World → Prop) (Fin : List Value → Prop) (w : World) : Prop :=
  ∀ (l : Nat) (J : List Value → (Nat → Prop) → World → Prop) (Jx : List Value → World → Prop) (O : Nat → Prop) (W : World), Chg (fun _ _ => False) w W → (∀ k O A B, ChgL W.heap.size A B → J k O A → J k O B) → (∀ k A B, Chg (fun _ _ => False) A B → Jx k A → Jx k B) →
    (∀ k O A, J k O A → ∀ b, O b → D ≤ b ∧ b < A.heap.size) →
    (∀ m k x O args A B, J k O A → Chg (fun _ _ => False) A B → G k x args A B → YieldAt Fence.wide m P l args B fun e W' =>
      (e = .returned (.bool true) ∧ ∃ O', J (k ++ [x]) O' W' ∧ Chg (fun b _ => O b ∨ A.heap.size ≤ b) A W' ∧ ∀ b, O' b → O b ∨ A.heap.size ≤ b) ∨ (e = .returned (.bool false) ∧ Jx (k ++ [x]) W')) →
    J [] O W → Calls P gf (#[.func (.yield l) #[] #[]] ++ lb) W fun e W' => (∃ v, e = .returned v) ∧ ((∃ h O', Fin h ∧ J h O' W') ∨ ∃ k, Jx k W')
/-- How the body of a round may be left. -/
def roundL (B S : Nat) (I : List Value → (Nat → Prop) → World → Prop) (Ix : Code → List Value → World → Prop) (k : List Value) (O : Nat → Prop) (W : World) : Exit → Act → World → Prop
  | .normal, _, W' => ∃ O', KeepsFrom B W W' ∧ Chg (fun b _ => O b ∨ S ≤ b) W W' ∧ (∀ b, O' b → O b ∨ S ≤ b) ∧ I k O' W'
  | .ret, _, W' => KeepsFrom B W W' ∧ Ix .ret k W'
  | .exit id, _, W' => KeepsFrom B W W' ∧ Ix (.exit id) k W'
  | .goto t, _, W' => KeepsFrom B W W' ∧ Ix (.goto t) k W'
  | .panic _, _, _ => False
  | .outgrown, _, _ => False
set_option maxHeartbeats 2000000 in
theorem range_lawL {P : Program} {n : Nat} {g : Operand} {ps : Array Tmp} {assign body : Code} {Q : Exit → Act → World → Prop} {a : Act} {w : World} {gf : FuncId} {lb : Array Value}
    (hg : a.eval g = .func (.func gf) #[] lb) (eg : ∀ args w, (callFunc gf args).run P w = .ok (.enter gf args) w)
    (D : Nat) (G : List Value → Value → Array Value → World → World → Prop) (Fin : List Value → Prop) (hseq : WalksL P gf lb D G Fin w) (hps : ∀ k x args A B, G k x args A B → args.size = ps.size)
    (I : List Value → (Nat → Prop) → World → Prop) (Ix : Code → List Value → World → Prop) (hI : ∀ k O A B, ChgL w.heap.size A B → I k O A → I k O B) (hIx : ∀ c k A B, ChgL w.heap.size A B → Ix c k A → Ix c k B)
    (hIO : ∀ k O A, I k O A → ∀ b, O b → D ≤ b ∧ b < A.heap.size) (O : Nat → Prop) (h0 : I [] O w)
    (hround : ∀ (l m : Nat) (k : List Value) (x : Value) (O : Nat → Prop) (args : Array Value) (A B : World), w.heap.size ≤ l → I k O A → w.heap.size ≤ A.heap.size → Chg (fun _ _ => False) A B → G k x args A B →
      assign.wpIn (Fence.wide.inRound l) m P (Exit.then (fun a' W' => KeepsFrom w.heap.size B W' ∧ Chg (fun b _ => O b ∨ A.heap.size ≤ b) B W' ∧ ∀ W'', ChgL w.heap.size W' W'' → body.wpIn (Fence.wide.inRound l) m P (roundL w.heap.size A.heap.size I Ix (k ++ [x]) O W'') a' W'') (fun _ _ _ => False))
        { tmps := (ps.zip args).foldl (fun t (p, v) => t.setIfInBounds p v) a.tmps, defers := [] } B)
    (hdone : ∀ (E : Nat) (h : List Value) (O : Nat → Prop) (W : World), w.heap.size ≤ E → Fin h → I h O W → W.heap[E]? = some (.deferred (some [])) → Q .normal { a with defers := { target := .collected E, args := #[] } :: a.defers } W)
    (hstop : ∀ (E : Nat) (c : Code) (k : List Value) (W : World), w.heap.size ≤ E → Ix c k W → W.heap[E]? = some (.deferred (some [])) → c.wpIn Fence.wide n P Q { a with defers := { target := .collected E, args := #[] } :: a.defers } W) :
    (Code.rangeFunc g ps assign body).wpIn Fence.wide n P Q a w := by
  refine wpIn_rangeFunc fun fn hfn => ?_
  obtain ⟨rec, hrec⟩ : ∃ rec : LoopState → Option Code → Loop, rec = fun st pe => { state := st, pending := pe, fn, tmps := a.tmps, params := ps, assign, body, defers := w.heap.size } := ⟨_, rfl⟩
  obtain ⟨W1, hW1⟩ : ∃ W1, (w.alloc (.deferred (some []))).alloc (.loop (rec .ready none)) = W1 := ⟨_, rfl⟩
  have hL1 : W1.heap[w.heap.size + 1]? = some (.loop (rec .ready none)) := by
    rw [← hW1]; have := World.alloc_heap_new (w.alloc (.deferred (some []))) (.loop (rec .ready none)); rwa [World.size_alloc] at this
  have hK1 : W1.heap[w.heap.size]? = some (.deferred (some [])) := by
    rw [← hW1]; exact (chg_alloc _ _).keep _ _ (World.alloc_heap_new w _) id
  have hsW1 : W1.heap.size = w.heap.size + 2 := by rw [← hW1]; simp
  have hc1 : Chg (fun _ _ => False) w W1 := by rw [← hW1]; exact (chg_alloc w _).alloc _
  have key := hseq (w.heap.size + 1)
    (fun k O W => I k O W ∧ W.heap[w.heap.size + 1]? = some (.loop (rec .ready none)) ∧ W.heap[w.heap.size]? = some (.deferred (some [])))
    (fun k W => ∃ c, Ix c k W ∧ W.heap[w.heap.size + 1]? = some (.loop (rec .done (some c))) ∧ W.heap[w.heap.size]? = some (.deferred (some [])))
    O W1 hc1 (fun k O A B hc h => ⟨hI k O A B (hc.mono fun b t _ h => ⟨by have := h.1; omega, h.2⟩) h.1, hc.keep _ _ h.2.1 fun h => by have := h.1; omega, hc.keep _ _ h.2.2 fun h => by have := h.1; omega⟩)
    (fun k A B hc ⟨c, h1, h2, h3⟩ => ⟨c, hIx c k A B (hc.toL _) h1, hc.keep _ _ h2 id, hc.keep _ _ h3 id⟩)
    (fun k O A h => hIO k O A h.1)
    (fun m k x O args A B ⟨hi, hlA, hkA⟩ hAB hG => by
      have hsA : w.heap.size ≤ A.heap.size := Nat.le_of_lt (Array.getElem?_eq_some_iff.1 hkA).1
      have hl := hAB.keep _ _ hlA id
      have hk := hAB.keep _ _ hkA id
      have hy := run_yield (P := P) (args := args) hl (by rw [hrec]; exact hps k x args A B hG)
      rw [hrec] at hy
      refine ⟨fn, _, assign, body, hy, roundIn_of_wpIn hfn (wpIn_mono (hround _ m k x O args A B (by omega) hi hsA hAB hG) ?_)⟩
      rintro e a' W' hp
      cases e with
      | normal =>
        obtain ⟨hkf, hkp, hb⟩ := hp
        replace hl := hkf.same _ _ (by omega) hl rfl
        replace hk := hkf.same _ _ (Nat.le_refl _) hk rfl
        have hlt : w.heap.size + 1 < W'.heap.size := (Array.getElem?_eq_some_iff.1 hl).1
        have hcl := chgL_put (B := w.heap.size) (.loop { rec .ready none with state := .busy }) (Nat.le_succ _) hl rfl
        refine ⟨_, run_beginRound hl (by rw [hrec]), wpIn_mono (hb _ hcl) ?_⟩
        have hl2 : (W'.putObj (w.heap.size + 1) (.loop { rec .ready none with state := .busy })).heap[w.heap.size + 1]? = some (.loop { rec .ready none with state := .busy }) := World.putObj_heap_same hlt
        have hk2 : (W'.putObj (w.heap.size + 1) (.loop { rec .ready none with state := .busy })).heap[w.heap.size]? = some (.deferred (some [])) := (World.putObj_heap_other (by omega)).trans hk
        have fin : ∀ (jump : Option Code) (W3 : World), KeepsFrom w.heap.size (W'.putObj (w.heap.size + 1) (.loop { rec .ready none with state := .busy })) W3 →
            (Instr.endRound (w.heap.size + 1) jump).run P W3 = .ok (.bool jump.isNone) (W3.putObj (w.heap.size + 1) (.loop (rec (if jump.isNone then .ready else .done) jump))) ∧
            ChgL w.heap.size W3 (W3.putObj (w.heap.size + 1) (.loop (rec (if jump.isNone then .ready else .done) jump))) ∧
            (W3.putObj (w.heap.size + 1) (.loop (rec (if jump.isNone then .ready else .done) jump))).heap[w.heap.size + 1]? = some (.loop (rec (if jump.isNone then .ready else .done) jump)) ∧
            (W3.putObj (w.heap.size + 1) (.loop (rec (if jump.isNone then .ready else .done) jump))).heap[w.heap.size]? = some (.deferred (some [])) := fun jump W3 hk3 => by
          have hl3 := hk3.same _ _ (by omega) hl2 rfl
          have := run_endRound (P := P) jump hl3
          rw [hrec] at this ⊢
          rw [hrec] at hl3
          exact ⟨this, chgL_put _ (Nat.le_succ _) hl3 rfl, World.putObj_heap_same (Array.getElem?_eq_some_iff.1 hl3).1, (World.putObj_heap_other (by omega)).trans (hk3.same _ _ (Nat.le_refl _) hk2 rfl)⟩
        rintro e a3 W3 hp
        cases e with
        | normal =>
          obtain ⟨O', hk3, hkp3, hO', hi3⟩ := hp
          obtain ⟨hr, hcr, hl4, hk4⟩ := fin none W3 hk3
          refine ⟨_, _, hr, .inl ⟨rfl, O', ⟨hI _ _ _ _ hcr hi3, hl4, hk4⟩, ⟨hcr.os.trans (hkp3.os.trans (hcl.os.trans (hkp.os.trans hAB.os))), hcr.tape.trans (hkp3.tape.trans (hcl.tape.trans (hkp.tape.trans hAB.tape))), hcr.output.trans (hkp3.output.trans (hcl.output.trans (hkp.output.trans hAB.output))), Nat.le_trans hAB.size (Nat.le_trans hkp.size (Nat.le_trans hcl.size (Nat.le_trans hkp3.size hcr.size))), fun b o hb hm => ?_⟩, hO'⟩⟩
          by_cases hbl : b = w.heap.size + 1
          · subst hbl
            rw [hlA] at hb
            injection hb with hb
            subst hb
            exact hl4
          · exact (World.putObj_heap_other hbl).trans (hkp3.keep b o ((World.putObj_heap_other hbl).trans (hkp.keep b o (hAB.keep b o hb id) hm)) hm)
        | ret =>
          obtain ⟨hk3, hi3⟩ := hp
          obtain ⟨hr, hcr, hl4, hk4⟩ := fin (some .ret) W3 hk3
          exact ⟨_, _, hr, .inr ⟨rfl, .ret, hIx _ _ _ _ hcr hi3, hl4, hk4⟩⟩
        | exit id =>
          obtain ⟨hk3, hi3⟩ := hp
          obtain ⟨hr, hcr, hl4, hk4⟩ := fin (some (.exit id)) W3 hk3
          exact ⟨_, _, hr, .inr ⟨rfl, .exit id, hIx _ _ _ _ hcr hi3, hl4, hk4⟩⟩
        | goto t =>
          obtain ⟨hk3, hi3⟩ := hp
          obtain ⟨hr, hcr, hl4, hk4⟩ := fin (some (.goto t)) W3 hk3
          exact ⟨_, _, hr, .inr ⟨rfl, .goto t, hIx _ _ _ _ hcr hi3, hl4, hk4⟩⟩
        | panic ch => exact hp.elim
        | outgrown => exact hp.elim
      | exit id => exact hp.elim
      | goto t => exact hp.elim
      | ret => exact hp.elim
      | panic ch => exact hp.elim
      | outgrown => exact hp.elim)
    ⟨hI [] O w W1 (hc1.toL _) h0, hL1, hK1⟩
  have k1 : (Instr.enterLoop fn a.tmps ps assign body Fence.wide.round).run P w = .ok (w.heap.size + 1, [{ target := .collected w.heap.size, args := #[] }]) W1 := by
    rw [← hW1, hrec]; exact run_enterLoop_outer _ _ _ _ _
  have k2 : (resolve a.eval (rangeCall g (w.heap.size + 1)) 0).run P W1 = .ok { target := .fn (.func gf) lb, args := #[.func (.yield (w.heap.size + 1)) #[] #[]] } W1 := by
    simp only [resolve, hg]
    simp [go_sem]
  have k3 : (invoke (Target.fn (.func gf) lb) #[.func (.yield (w.heap.size + 1)) #[] #[]]).run P W1 = .ok (.enter gf (#[.func (.yield (w.heap.size + 1)) #[] #[]] ++ lb)) W1 := by
    simp [invoke, go_sem, eg]
  have k4 : Calls P gf (#[.func (.yield (w.heap.size + 1)) #[] #[]] ++ lb) W1 (rangePost Fence.wide n P (w.heap.size + 1) Q { a with defers := [{ target := .collected w.heap.size, args := #[] }] ++ a.defers }) := by
    refine key.mono ?_
    rintro e W2 ⟨⟨v, rfl⟩, (⟨h, O', hfn', hi, hl, hk⟩ | ⟨k, c, hi, hl, hk⟩)⟩
    · have he := run_endLoop (P := P) hl (by rw [hrec]; simp)
      rw [hrec] at he
      rw [hrec] at hl
      exact ⟨none, _, he, hdone _ h O' _ (Nat.le_refl _) hfn' (hI _ _ _ _ (chgL_put _ (Nat.le_succ _) hl rfl) hi) ((World.putObj_heap_other (by omega)).trans hk)⟩
    · have he := run_endLoop (P := P) hl (by rw [hrec]; simp)
      rw [hrec] at he
      rw [hrec] at hl
      exact ⟨some c, _, he, hstop _ c k _ (Nat.le_refl _) (hIx _ _ _ _ (chgL_put _ (Nat.le_succ _) hl rfl) hi) ((World.putObj_heap_other (by omega)).trans hk)⟩
  have k5 : ∀ f', Target.leads P W1 (Target.fn (.func gf) lb) #[.func (.yield (w.heap.size + 1)) #[] #[]] = some f' → Fence.wide.fn f' := fun _ _ => trivial
  have k6 : Fence.wide.depth.isSome = true → 1 ≤ n := fun h => (by cases h)
  have k7 := (callsIn_wide (n := n - 1)).2 k4
  exact ⟨_, _, _, _, _, _, _, _, k1, k2, k5, k3, k6, k7⟩
end Go.Proofs.Yteigopmdhhgnfaa
