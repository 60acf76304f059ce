/-
  A region that draws its order, whose last operation stores into a cell that the region loads: the kit's law of a held condition (OrdersHeld), turned so that the condition need not hold behind one operation that waits for all others.
-/
import Derived.Test.YtdegfnejhamejaaBaseZk
import Derived.Deep.RegionHeld3
import Derived.Deep.DrawnRows
namespace Go.Proofs.Ytdegfnejhamejaa
set_option linter.unusedVariables false
set_option linter.unusedSimpArgs false

section
variable {P : Program} {ops : Array Oper} {Q : Exit → Act → World → Prop} {md : Region.Mode} {S : World → Prop} {z : Nat}
/-- What has come up has come up behind all that it waits for. -/
def shutB (md : Region.Mode) (ops : Array Oper) (listed : Array Bool) : Bool :=
  (List.range ops.size).all fun j => !listed.getD j false || ((ops[j]?).map fun o => o.after.all fun e => !Region.binds md e || listed.getD e.on false).getD true
/-- All others are waited for, by one further behind. -/
def lastB (md : Region.Mode) (ops : Array Oper) (z : Nat) : Bool :=
  decide (z + 1 = ops.size) && (List.range z).all fun i => (List.range ops.size).any fun j => decide (i < j) && ((ops[j]?).map fun o => o.after.any fun e => Region.binds md e && e.on == i).getD false
def ShutL (md : Region.Mode) (ops : Array Oper) (listed : Array Bool) : Prop := ∀ (j : Nat) o, ops[j]? = some o → listed.getD j false = true → ∀ e ∈ o.after, Region.binds md e = true → listed.getD e.on false = true
theorem shutB_spec {listed : Array Bool} (h : shutB md ops listed = true) : ShutL md ops listed := by
  intro j o ho hj e he hb
  unfold shutB at h
  rw [List.all_eq_true] at h
  have hjl : j < ops.size := (Array.getElem?_eq_some_iff.1 ho).1
  have h1 := h j (List.mem_range.2 hjl)
  rw [ho] at h1
  simp only [hj, Bool.not_true, Bool.false_or, Option.map_some, Option.getD_some] at h1
  have h2 := Array.all_eq_true_iff_forall_mem.1 h1 e he
  simpa [hb] using h2
theorem ShutL.add {listed : Array Bool} (h : ShutL md ops listed) {i : Nat} (hi : i ∈ Region.ready md ops listed) : ShutL md ops (listed.setIfInBounds i true) := by
  intro j o ho hj e he hb
  obtain ⟨_, oi, hoi, hall⟩ := mem_ready.1 hi
  by_cases hji : j = i
  · subst hji
    rw [ho] at hoi
    injection hoi with hoi
    subst hoi
    exact getD_set_true (hall e he hb)
  · rw [getD_set_ne false (Ne.symm hji)] at hj
    exact getD_set_true (h j o ho hj e he hb)
theorem last_all {listed : Array Bool} (hl : lastB md ops z = true) (h : ShutL md ops listed) (hz : z ∈ Region.ready md ops listed) : ∀ n i, z - i = n → i < z → listed.getD i false = true := by
  obtain ⟨_, oz, hoz, hall⟩ := mem_ready.1 hz
  unfold lastB at hl
  rw [Bool.and_eq_true, decide_eq_true_eq, List.all_eq_true] at hl
  intro n
  induction n using Nat.strongRecOn with
  | _ n ih =>
    intro i hn hi
    have h1 := hl.2 i (List.mem_range.2 hi)
    rw [List.any_eq_true] at h1
    obtain ⟨j, hj, h2⟩ := h1
    rw [Bool.and_eq_true, decide_eq_true_eq] at h2
    obtain ⟨hij, h3⟩ := h2
    cases ho : ops[j]? with
    | none => rw [ho] at h3; simp at h3
    | some o =>
      rw [ho] at h3
      simp only [Option.map_some, Option.getD_some] at h3
      rw [← Array.any_toList, List.any_eq_true] at h3
      obtain ⟨e, he, h4⟩ := h3
      rw [Array.mem_toList_iff] at he
      rw [Bool.and_eq_true, beq_iff_eq] at h4
      obtain ⟨hb, hon⟩ := h4
      have hjs : j < ops.size := List.mem_range.1 hj
      by_cases hjz : j = z
      · subst hjz
        rw [ho] at hoz
        injection hoz with hoz
        subst hoz
        have := hall e he hb
        rw [hon] at this
        exact this
      · have hjl := ih (z - j) (by omega) j rfl (by omega)
        have := h j o ho hjl e he hb
        rw [hon] at this
        exact this
/-- Whatever order is picked from here on; S holds behind every operation but number z. -/
def wpAnyG (P : Program) (md : Region.Mode) (ops : Array Oper) (Q : Exit → Act → World → Prop) (S : World → Prop) (z : Nat) : Nat → Array Bool → Act → World → Prop
  | 0, listed, a, w => Region.ready md ops listed = [] ∧ Q .normal a w
  | fuel + 1, listed, a, w =>
    (Region.ready md ops listed = [] → Q .normal a w) ∧
    ∀ i ∈ Region.ready md ops listed, wpOp P ops Q i (fun a' w' => (i = z ∨ S w') ∧ wpAnyG P md ops Q S z fuel (listed.setIfInBounds i true) a' w') a w
theorem wpAny_of_G : ∀ (fuel : Nat) (listed : Array Bool) (a : Act) (w : World), wpAnyG P md ops Q S z fuel listed a w → wpAny P md ops Q fuel listed a w
  | 0, _, _, _, h => h
  | fuel + 1, _, _, _, h => ⟨h.1, fun i hi => wpOp_mono (fun a' w' h' => wpAny_of_G fuel _ a' w' h'.2) (h.2 i hi)⟩
theorem wpAnyG_first {i : Nat} {oi : Oper} {v : Value} (hi : ops[i]? = some oi) (hsel : ∀ (j : Nat) (o : Oper) cs b, ops[j]? = some o → o.op ≠ .select cs b)
    (hQ : ∀ c a w, Q (.panic c) (a.put oi.dst v) w → Q (.panic c) a w) (hl : lastB md ops z = true) (hiz : i < z) :
    ∀ (fuel : Nat) (listed : Array Bool) (a : Act) (w : World), ShutL md ops listed →
      (∀ j oj, ops[j]? = some oj → j ≠ i → listed.getD j true = false → (∀ e ∈ oj.after, Region.binds md e = true → e.on ≠ i) → oi.apart ops oj = true) →
      i ∈ Region.ready md ops listed → YieldsIf P ops S oi v a → S w →
      wpAnyG P md ops Q S z fuel (listed.setIfInBounds i true) (a.put oi.dst v) w → wpAnyG P md ops Q S z (fuel + 1) listed a w := by
  intro fuel
  induction fuel with
  | zero =>
    intro listed a w _ _ hr hy hS H
    refine ⟨fun h => (by rw [h] at hr; cases hr), fun j hj => ?_⟩
    by_cases hji : j = i
    · subst hji; exact hy.wpOp hi hS ⟨.inr hS, H⟩
    · have := ready_mono hj hji
      rw [H.1] at this
      cases this
  | succ fuel ih =>
    intro listed a w hsh hfree hr hy hS H
    refine ⟨fun h => (by rw [h] at hr; cases hr), fun j hj => ?_⟩
    by_cases hji : j = i
    · subst hji; exact hy.wpOp hi hS ⟨.inr hS, H⟩
    · have h1 := H.2 j (ready_mono hj hji)
      obtain ⟨hjun, oj, hoj, hall⟩ := mem_ready.1 hj
      have hjz : j ≠ z := by
        rintro rfl
        have h2 := last_all hl hsh hj _ i rfl hiz
        have h3 := (mem_ready.1 hr).1
        rcases Nat.lt_or_ge i listed.size with h' | h'
        · simp [h'] at h2 h3; rw [h2] at h3; cases h3
        · simp [Array.getElem?_eq_none h'] at h2
      have hnot : ∀ e ∈ oj.after, Region.binds md e = true → e.on ≠ i := fun e he hb heq => by
        have h1 := hall e he hb
        have h0 := (mem_ready.1 hr).1
        rw [heq] at h1
        rcases Nat.lt_or_ge i listed.size with h' | h'
        · simp [h'] at h0 h1; rw [h0] at h1; cases h1
        · simp [Array.getElem?_eq_none h'] at h1
      have h2 := wpOp_putIf hoj (hfree j oj hoj hji hjun hnot) (fun cs b => hsel i oi cs b hi) (fun cs b => hsel j oj cs b hoj) hQ hy h1
      have hfree' : ∀ k ok, ops[k]? = some ok → k ≠ i → (listed.setIfInBounds j true).getD k true = false →
          (∀ e ∈ ok.after, Region.binds md e = true → e.on ≠ i) → oi.apart ops ok = true := fun k ok hk hki hun hno => by
        refine hfree k ok hk hki ?_ hno
        by_cases hjk : j = k
        · subst hjk; exact hjun
        · rw [getD_set_ne true hjk] at hun; exact hun
      refine wpOp_mono (fun a' w' h3 => ?_) h2
      have h4 : S w' := h3.2.1.resolve_left hjz
      refine ⟨.inr h4, ih (listed.setIfInBounds j true) a' w' (hsh.add hj) hfree' (ready_mono hr (Ne.symm hji)) h3.1 h4 ?_⟩
      rw [Array.setIfInBounds_comm _ _ hji]
      exact h3.2.2
/-- Take number i first. -/
theorem wpAnyG_take {i : Nat} {oi : Oper} {v : Value} {fuel : Nat} {listed : Array Bool} {a : Act} {w : World} (hi : ops[i]? = some oi)
    (hs : (Region.noSelect ops && Region.free md ops listed i && (Region.ready md ops listed).contains i && shutB md ops listed && lastB md ops z && decide (i < z)) = true)
    (hQ : ∀ c a w, Q (.panic c) (a.put oi.dst v) w → Q (.panic c) a w) (hy : YieldsIf P ops S oi v a) (hS : S w)
    (h : wpAnyG P md ops Q S z fuel (listed.setIfInBounds i true) (a.put oi.dst v) w) : wpAnyG P md ops Q S z (fuel + 1) listed a w := by
  simp only [Bool.and_eq_true, decide_eq_true_eq] at hs
  obtain ⟨⟨⟨⟨⟨h1, h2⟩, h3⟩, h4⟩, h5⟩, h6⟩ := hs
  exact wpAnyG_first hi (Region.noSelect_spec h1) hQ h5 h6 fuel listed a w (shutB_spec h4) (Region.free_spec hi h2) (by simpa using h3) hy hS h
def AllReadyG (P : Program) (md : Region.Mode) (ops : Array Oper) (Q : Exit → Act → World → Prop) (S : World → Prop) (z : Nat) (fuel : Nat) (listed : Array Bool) (a : Act) (w : World) (rs : List Nat) : Prop :=
  ∀ i ∈ rs, wpOp P ops Q i (fun a' w' => (i = z ∨ S w') ∧ wpAnyG P md ops Q S z fuel (listed.setIfInBounds i true) a' w') a w
theorem AllReadyG.nil {fuel : Nat} {listed : Array Bool} {a : Act} {w : World} : AllReadyG P md ops Q S z fuel listed a w [] := fun _ h => by cases h
theorem AllReadyG.cons {fuel : Nat} {listed : Array Bool} {a : Act} {w : World} {i : Nat} {o : Oper} {rs : List Nat} (ho : ops[i]? = some o)
    (h : ∀ K' : Act → World → Prop, Shut (∀ a w, S w → (S w → wpAnyG P md ops Q S z fuel (listed.setIfInBounds i true) a w) → K' a w) → if Region.wanted o (yielded ops a.tmps) = true then Oper.wp P o a w K' Q else K' (a.put o.dst undef) w)
    (hs : AllReadyG P md ops Q S z fuel listed a w rs) : AllReadyG P md ops Q S z fuel listed a w (i :: rs) := fun j hj => by
  rcases List.mem_cons.1 hj with rfl | hj
  · exact wpOp_step ho (fun K' hK => h K' (fun a w hS hW => hK a w ⟨.inr hS, hW hS⟩))
  · exact hs j hj
/-- Number z, the last. -/
theorem wpAnyG_last {fuel : Nat} {listed : Array Bool} {a : Act} {w : World} {o : Oper} (ho : ops[z]? = some o) (hr : Region.ready md ops listed = [z]) (hn : Region.ready md ops (listed.setIfInBounds z true) = [])
    (h : ∀ K' : Act → World → Prop, Shut (∀ a w, Q .normal a w → K' a w) → if Region.wanted o (yielded ops a.tmps) = true then Oper.wp P o a w K' Q else K' (a.put o.dst undef) w) : wpAnyG P md ops Q S z (fuel + 1) listed a w := by
  refine ⟨fun h0 => (by rw [hr] at h0; cases h0), ?_⟩
  rw [hr]
  intro j hj
  obtain rfl : j = z := by simpa using hj
  refine wpOp_step ho (fun K' hK => h K' fun a w hq => hK a w ⟨.inl rfl, ?_⟩)
  cases fuel with
  | zero => exact ⟨hn, hq⟩
  | succ n => exact ⟨fun _ => hq, by rw [hn]; simp⟩
theorem wpAnyG_ready {rs : List Nat} {fuel : Nat} {listed : Array Bool} {a : Act} {w : World} (hr : Region.ready md ops listed = rs) (hne : rs ≠ [])
    (h : AllReadyG P md ops Q S z fuel listed a w rs) : wpAnyG P md ops Q S z (fuel + 1) listed a w :=
  ⟨fun h0 => absurd (hr ▸ h0) hne, hr ▸ h⟩
theorem wp_region_G (z : Nat) {id : Nat} {a : Act} {w : World} (hm : P.follows .mixedOrders = true) (hS : S w.drew)
    (h : S w.drew → wpAnyG P .any ops Q S z ops.size (Array.replicate ops.size false) a w.drew) : (Code.region id ops true).wp P Q a w :=
  wp_region_any hm (wpAny_of_G _ _ _ _ (h hS))
end
end Go.Proofs.Ytdegfnejhamejaa
