/-
  A region that draws its order, most of whose operations leave a fact that lasts (a value in a slot of its own, new memory): whatever order is drawn, each operation is looked at once.
-/
import Derived.Test.YteigopmdhhgnfaaHeldG
namespace Go.Proofs.Yteigopmdhhgnfaa
set_option linter.unusedVariables false
set_option linter.unusedSimpArgs false

section
variable {P : Program} {ops : Array Oper} {Q : Exit → Act → World → Prop} {md : Region.Mode}
def dstOf (ops : Array Oper) (j : Nat) : Nat := ((ops[j]?).bind (·.dst)).getD 0
def waitsB (md : Region.Mode) (ops : Array Oper) (k i : Nat) : Bool := ((ops[k]?).map fun o => o.after.any fun e => Region.binds md e && e.on == i).getD false
/-- Waits for it, directly or through others. -/
def waitsN (md : Region.Mode) (ops : Array Oper) : Nat → Nat → Nat → Bool
  | 0, k, i => waitsB md ops k i
  | n + 1, k, i => waitsB md ops k i || (List.range ops.size).any fun m => waitsB md ops k m && waitsN md ops n m i
/-- What is asked of a region: the operations of js and opt write each a slot of its own, wait for earlier ones of these alone; the others wait for all of js, or for one another. -/
def factsB (md : Region.Mode) (ops : Array Oper) (N : Nat) (ms opt : List Nat) : Bool :=
  let js := ms ++ opt
  (js.all fun j => decide (dstOf ops j < N) && ((ops[j]?).map fun o => o.dst.isSome && o.guard.isNone && o.after.all fun e => !Region.binds md e || (decide (e.on < j) && js.contains e.on)).getD false) &&
  decide js.Nodup && decide ((js.map (dstOf ops)).Nodup) &&
  (List.range ops.size).all fun k => js.contains k || (ms.all fun i => waitsN md ops 8 k i) || ((ops[k]?).map fun o => o.after.any fun e => Region.binds md e && !js.contains e.on).getD false
def putAll (ops : Array Oper) (v : Nat → Value) : List Nat → Act → Act
  | [], a => a
  | j :: js, a => putAll ops v js (a.put (some (dstOf ops j)) (v j))
def listedOf (ops : Array Oper) (js : List Nat) : Array Bool := ((List.range ops.size).map fun i => js.contains i).toArray
/-- The values of the operations' slots. -/
def valOf (ops : Array Oper) (a : Act) : Nat → Value := fun k => a.tmps.getD (dstOf ops k) undef
def setV (val : Nat → Value) (j : Nat) (v : Value) : Nat → Value := fun k => if k = j then v else val k
structure StF (md : Region.Mode) (ops : Array Oper) (js : List Nat) (F : Nat → (Nat → Value) → Nat × Nat → World → Prop) (a0 : Act) (w0 : World) (L : List Nat) (r : Nat → Nat × Nat) (listed : Array Bool) (a : Act) (w : World) : Prop where
  size : listed.size = ops.size
  mem : ∀ j, listed.getD j false = decide (j ∈ L)
  sub : ∀ j ∈ L, j ∈ js
  nd : L.Nodup
  closed : ∀ j ∈ L, ∀ k, waitsB md ops j k = true → k ∈ L
  facts : ∀ j ∈ L, F j (valOf ops a) (r j) w
  rng : ∀ j ∈ L, w0.heap.size ≤ (r j).1 ∧ (r j).1 ≤ (r j).2 ∧ (r j).2 ≤ w.heap.size
  apart : ∀ i ∈ L, ∀ j ∈ L, i ≠ j → (r i).2 ≤ (r j).1 ∨ (r j).2 ≤ (r i).1
  same : ∀ s, (∀ j ∈ L, dstOf ops j ≠ s) → a.tmps.getD s undef = a0.tmps.getD s undef
  asz : a.tmps.size = a0.tmps.size
  adf : a.defers = a0.defers
  chg : Chg (fun _ _ => False) w0 w
theorem put_getD_ne (a : Act) (d s : Nat) (v : Value) (h : d ≠ s) : (a.put (some d) v).tmps.getD s undef = a.tmps.getD s undef := by
  simp [Act.put, Array.getD_eq_getD_getElem?, Array.getElem?_setIfInBounds, h]
theorem put_getD_eq (a : Act) (d : Nat) (v : Value) (h : d < a.tmps.size) : (a.put (some d) v).tmps.getD d undef = v := by
  simp [Act.put, Array.getD_eq_getD_getElem?, Array.getElem?_setIfInBounds, h]
theorem put_size (a : Act) (d : Option Nat) (v : Value) : (a.put d v).tmps.size = a.tmps.size := by
  cases d <;> simp [Act.put]
theorem put_defers (a : Act) (d : Option Nat) (v : Value) : (a.put d v).defers = a.defers := by
  cases d <;> rfl
theorem putAll_size (v : Nat → Value) : ∀ (js : List Nat) (a : Act), (putAll ops v js a).tmps.size = a.tmps.size
  | [], a => rfl
  | j :: js, a => by rw [putAll, putAll_size v js, put_size]
theorem putAll_defers (v : Nat → Value) : ∀ (js : List Nat) (a : Act), (putAll ops v js a).defers = a.defers
  | [], a => rfl
  | j :: js, a => by rw [putAll, putAll_defers v js, put_defers]
theorem putAll_out (v : Nat → Value) : ∀ (js : List Nat) (a : Act) (s : Nat), (∀ j ∈ js, dstOf ops j ≠ s) → (putAll ops v js a).tmps.getD s undef = a.tmps.getD s undef
  | [], a, s, _ => rfl
  | j :: js, a, s, h => by
    rw [putAll, putAll_out v js _ s fun j hj => h j (by simp [hj]), put_getD_ne _ _ _ _ (h j (by simp))]
theorem putAll_in (v : Nat → Value) : ∀ (js : List Nat) (a : Act) (j : Nat), j ∈ js → (js.map (dstOf ops)).Nodup → (∀ j ∈ js, dstOf ops j < a.tmps.size) → (putAll ops v js a).tmps.getD (dstOf ops j) undef = v j
  | [], a, j, h, _, _ => by cases h
  | i :: js, a, j, h, hn, hs => by
    rw [List.map_cons, List.nodup_cons] at hn
    rw [putAll]
    rcases List.mem_cons.1 h with rfl | hj
    · rw [putAll_out v js _ _ fun k hk he => hn.1 (by rw [← he]; exact List.mem_map.2 ⟨k, hk, rfl⟩)]
      exact put_getD_eq _ _ _ (hs j (by simp))
    · exact putAll_in v js _ j hj hn.2 fun k hk => by rw [put_size]; exact hs k (by simp [hk])
theorem act_ext {a b : Act} (hs : a.tmps.size = b.tmps.size) (hd : a.defers = b.defers) (h : ∀ s, a.tmps.getD s undef = b.tmps.getD s undef) : a = b := by
  obtain ⟨x, dx⟩ := a
  obtain ⟨y, dy⟩ := b
  simp only at hs hd h
  subst hd
  congr 1
  refine Array.ext hs fun i h1 h2 => ?_
  have := h i
  simpa [Array.getD_eq_getD_getElem?, h1, h2] using this
theorem listedOf_getD (js : List Nat) (j : Nat) (hj : ∀ k ∈ js, k < ops.size) : (listedOf ops js).getD j false = decide (j ∈ js) := by
  unfold listedOf
  rw [Array.getD_eq_getD_getElem?]
  by_cases h : j < ops.size
  · simp [List.getElem?_map, List.getElem?_range, h]
  · simp [List.getElem?_map, h]
    exact fun hm => h (hj j hm)
theorem length_le_of_sub : ∀ {L js : List Nat}, L.Nodup → (∀ j ∈ L, j ∈ js) → L.length ≤ js.length
  | [], _, _, _ => Nat.zero_le _
  | x :: L, js, hn, hs => by
    rw [List.nodup_cons] at hn
    have h1 : L.length ≤ (js.erase x).length := length_le_of_sub hn.2 fun j hj => (List.mem_erase_of_ne fun e => hn.1 (by rw [← e]; exact hj)).2 (hs j (by simp [hj]))
    have h2 := List.length_erase_of_mem (hs x (by simp))
    have h3 : 0 < js.length := List.length_pos_of_mem (hs x (by simp))
    rw [List.length_cons]
    omega
theorem exists_out {L js : List Nat} (hj : js.Nodup) (h : L.length < js.length) : ∃ j ∈ js, j ∉ L := by
  refine Classical.byContradiction fun hn => ?_
  have : ∀ j ∈ js, j ∈ L := fun j hjs => Classical.byContradiction fun hl => hn ⟨j, hjs, hl⟩
  have := length_le_of_sub hj this
  omega
theorem all_of_length {L js : List Nat} (hL : L.Nodup) (hs : ∀ j ∈ L, j ∈ js) (h : js.length ≤ L.length) : ∀ j ∈ js, j ∈ L := by
  intro j hj
  refine Classical.byContradiction fun hn => ?_
  have := length_le_of_sub (L := j :: L) (js := js) (List.nodup_cons.2 ⟨hn, hL⟩) fun k hk => (List.mem_cons.1 hk).elim (fun e => e ▸ hj) (hs k)
  rw [List.length_cons] at this
  omega
/-- What is to be shown of one operation. -/
def OpF (P : Program) (md : Region.Mode) (ops : Array Oper) (Q : Exit → Act → World → Prop) (js : List Nat) (F : Nat → (Nat → Value) → Nat × Nat → World → Prop) (a0 : Act) (w0 : World) (j : Nat) : Prop :=
  ∀ o d, ops[j]? = some o → o.dst = some d → ∀ a w, Chg (fun _ _ => False) w0 w → (∀ s, (js.all fun j => dstOf ops j != s) = true → a.tmps.getD s undef = a0.tmps.getD s undef) →
    (∀ k, waitsB md ops j k = true → ∃ r, F k (valOf ops a) r w) → ∀ K, (∀ v w', F j (setV (valOf ops a) j v) (w.heap.size, w'.heap.size) w' → Chg (fun _ _ => False) w w' → K (a.put (some d) v) w') → Oper.wp P o a w K Q
theorem wpAny_facts (ms opt js : List Nat) (hjs : ms ++ opt = js) (F : Nat → (Nat → Value) → Nat × Nat → World → Prop) {a0 : Act} {w0 : World} (hc : factsB md ops a0.tmps.size ms opt = true)
    (hdep : ∀ j val val' r w, val j = val' j → (∀ k, waitsB md ops j k = true → val k = val' k) → F j val r w → F j val' r w)
    (hmono : ∀ j ∈ js, ∀ val r w w', Chg (fun _ _ => False) w w' → F j val r w → F j val r w')
    (hop : ∀ j ∈ js, OpF P md ops Q js F a0 w0 j)
    (hlast : ∀ (p : Nat → Bool) (v : Nat → Value) (r : Nat → Nat × Nat) w, (∀ j ∈ ms ++ opt.filter p, F j v (r j) w) → (∀ j ∈ ms ++ opt.filter p, w0.heap.size ≤ (r j).1 ∧ (r j).1 ≤ (r j).2 ∧ (r j).2 ≤ w.heap.size) → (∀ i ∈ ms ++ opt.filter p, ∀ j ∈ ms ++ opt.filter p, i ≠ j → (r i).2 ≤ (r j).1 ∨ (r j).2 ≤ (r i).1) → Chg (fun _ _ => False) w0 w →
      wpAny P md ops Q (ops.size - (ms ++ opt.filter p).length) (listedOf ops (ms ++ opt.filter p)) (putAll ops v (ms ++ opt.filter p) a0) w) :
    wpAny P md ops Q ops.size (Array.replicate ops.size false) a0 w0 := by
  unfold factsB at hc
  simp only [hjs] at hc
  rw [Bool.and_eq_true, Bool.and_eq_true, Bool.and_eq_true, List.all_eq_true, List.all_eq_true, decide_eq_true_eq, decide_eq_true_eq] at hc
  obtain ⟨⟨⟨hA, hnd⟩, hdd⟩, hB⟩ := hc
  have hA' : ∀ j ∈ js, dstOf ops j < a0.tmps.size ∧ ∃ o d, ops[j]? = some o ∧ o.dst = some d ∧ o.guard = none ∧ ∀ e ∈ o.after, Region.binds md e = true → e.on < j ∧ e.on ∈ js := by
    intro j hj
    have h := hA j hj
    rw [Bool.and_eq_true, decide_eq_true_eq] at h
    refine ⟨h.1, ?_⟩
    cases ho : ops[j]? with
    | none => rw [ho] at h; simp at h
    | some o =>
      rw [ho] at h
      simp only [Option.map_some, Option.getD_some, Bool.and_eq_true] at h
      obtain ⟨_, ⟨hd, hg⟩, he⟩ := h
      obtain ⟨d, hd⟩ := Option.isSome_iff_exists.1 hd
      refine ⟨o, d, rfl, hd, by simpa using hg, fun e hem hb => ?_⟩
      have := Array.all_eq_true_iff_forall_mem.1 he e hem
      simp [hb] at this
      exact this
  have hlt : ∀ j ∈ js, j < ops.size := fun j hj => by
    obtain ⟨_, o, _, ho, _⟩ := hA' j hj
    exact (Array.getElem?_eq_some_iff.1 ho).1
  have hlen : js.length ≤ ops.size := by
    have := length_le_of_sub hnd (js := List.range ops.size) fun j hj => List.mem_range.2 (hlt j hj)
    simpa using this
  have key : ∀ (n : Nat) (L : List Nat) (r : Nat → Nat × Nat) (listed : Array Bool) (a : Act) (w : World), js.length - L.length = n → StF md ops js F a0 w0 L r listed a w → wpAny P md ops Q (ops.size - L.length) listed a w := by
    intro n
    induction n using Nat.strongRecOn with
    | _ n ih =>
      intro L r listed a w hn h
      have hL := length_le_of_sub h.nd h.sub
      by_cases hall : ∀ j ∈ ms, j ∈ L
      · obtain ⟨M, hM⟩ : ∃ M, M = ms ++ opt.filter (fun x => decide (x ∈ L)) := ⟨_, rfl⟩
        have hMsub : ∀ j, j ∈ M ↔ j ∈ L := fun j => by
          rw [hM, List.mem_append, List.mem_filter]
          constructor
          · rintro (hj | hj)
            · exact hall j hj
            · simpa using hj.2
          · intro hj
            have := h.sub j hj
            rw [← hjs, List.mem_append] at this
            exact this.imp id fun ho => ⟨ho, by simpa using hj⟩
        have hMnd : M.Nodup := by
          rw [hM]
          rw [← hjs] at hnd
          exact hnd.sublist (List.Sublist.append_left List.filter_sublist ms)
        have hMdd : (M.map (dstOf ops)).Nodup := by
          rw [hM]
          rw [← hjs] at hdd
          exact hdd.sublist ((List.Sublist.append_left List.filter_sublist ms).map _)
        have heq : L.length = M.length := Nat.le_antisymm (length_le_of_sub h.nd fun j hj => (hMsub j).2 hj) (length_le_of_sub hMnd fun j hj => (hMsub j).1 hj)
        have hli : listed = listedOf ops M := by
          refine Array.ext (by rw [h.size]; simp [listedOf]) fun i h1 h2 => ?_
          have e1 := h.mem i
          have e2 := listedOf_getD (ops := ops) M i fun k hk => hlt k (h.sub k ((hMsub k).1 hk))
          rw [Array.getD_eq_getD_getElem?, Array.getElem?_eq_getElem h1] at e1
          rw [Array.getD_eq_getD_getElem?, Array.getElem?_eq_getElem h2] at e2
          simp only [Option.getD_some] at e1 e2
          rw [e1, e2]
          by_cases hi : i ∈ L
          · rw [decide_eq_true hi, decide_eq_true ((hMsub i).2 hi)]
          · rw [decide_eq_false hi, decide_eq_false fun hj => hi ((hMsub i).1 hj)]
        have ha : a = putAll ops (valOf ops a) M a0 := by
          refine act_ext (by rw [putAll_size]; exact h.asz) (by rw [putAll_defers]; exact h.adf) fun s => ?_
          by_cases hs : ∃ j ∈ M, dstOf ops j = s
          · obtain ⟨j, hj, rfl⟩ := hs
            rw [putAll_in _ M a0 j hj hMdd fun k hk => (hA' k (h.sub k ((hMsub k).1 hk))).1]
            rfl
          · have hs' : ∀ j ∈ M, dstOf ops j ≠ s := fun j hj he => hs ⟨j, hj, he⟩
            rw [putAll_out _ M a0 s hs']
            exact h.same s fun j hj => hs' j ((hMsub j).2 hj)
        rw [heq, hli]
        have := hlast (fun x => decide (x ∈ L)) (valOf ops a) r w (fun j hj => h.facts j ((hMsub j).1 (hM ▸ hj))) (fun j hj => h.rng j ((hMsub j).1 (hM ▸ hj))) (fun i hi j hj => h.apart i ((hMsub i).1 (hM ▸ hi)) j ((hMsub j).1 (hM ▸ hj))) h.chg
        rw [← hM, ← ha] at this
        exact this
      obtain ⟨k0, hk0⟩ := Classical.not_forall.1 hall
      obtain ⟨hk0m, hk0L⟩ := Classical.not_imp.1 hk0
      have hk0 : k0 ∈ js := by rw [← hjs]; exact List.mem_append_left _ hk0m
      have hlt2 : L.length < js.length := by
        refine Nat.lt_of_le_of_ne hL fun he => hk0L ?_
        exact all_of_length h.nd h.sub (by omega) k0 hk0
      obtain ⟨fuel, hf⟩ : ∃ f, ops.size - L.length = f + 1 := ⟨ops.size - L.length - 1, by omega⟩
      rw [hf]
      have hlist : ∀ j, j < ops.size → listed.getD j true = listed.getD j false := fun j hj => by
        rw [Array.getD_eq_getD_getElem?, Array.getD_eq_getD_getElem?, Array.getElem?_eq_getElem (by rw [h.size]; exact hj)]
        rfl
      -- one of js that has not come up has all it waits for
      have hex : ∀ k, k ∈ js → k ∉ L → ∃ i, i ∈ Region.ready md ops listed := by
        intro k
        induction k using Nat.strongRecOn with
        | _ k ihk =>
          intro hk hkL
          obtain ⟨_, o, d, ho, hd, hg, haf⟩ := hA' k hk
          by_cases hall : ∀ e ∈ o.after, Region.binds md e = true → e.on ∈ L
          · refine ⟨k, mem_ready.2 ⟨?_, o, ho, fun e he hb => ?_⟩⟩
            · rw [hlist k (hlt k hk), h.mem k, decide_eq_false hkL]
            · rw [h.mem, decide_eq_true (hall e he hb)]
          · obtain ⟨e, he⟩ := Classical.not_forall.1 hall
            obtain ⟨hem, he⟩ := Classical.not_imp.1 he
            obtain ⟨hb, hne⟩ := Classical.not_imp.1 he
            obtain ⟨h1, h2⟩ := haf e hem hb
            exact ihk e.on h1 h2 hne
      refine ⟨fun h0 => ?_, fun i hi => ?_⟩
      · obtain ⟨i, hi⟩ := hex k0 hk0 hk0L
        rw [h0] at hi
        cases hi
      · obtain ⟨hun, oi, hoi, haft⟩ := mem_ready.1 hi
        have hilt : i < ops.size := (Array.getElem?_eq_some_iff.1 hoi).1
        have hwait : ∀ k, waitsB md ops i k = true → k ∈ L := by
          intro k hk
          unfold waitsB at hk
          rw [hoi] at hk
          simp only [Option.map_some, Option.getD_some] at hk
          rw [← Array.any_toList, List.any_eq_true] at hk
          obtain ⟨e, hem, he⟩ := hk
          rw [Array.mem_toList_iff] at hem
          rw [Bool.and_eq_true, beq_iff_eq] at he
          have := haft e hem he.1
          rw [he.2, h.mem, decide_eq_true_eq] at this
          exact this
        have hclo : ∀ n m, m ∈ L → ∀ k, waitsN md ops n m k = true → k ∈ L := by
          intro n
          induction n with
          | zero => exact fun m hm k hk => h.closed m hm k hk
          | succ n ihn =>
            intro m hm k hk
            unfold waitsN at hk
            rw [Bool.or_eq_true, List.any_eq_true] at hk
            rcases hk with hk | ⟨q, _, hq⟩
            · exact h.closed m hm k hk
            · rw [Bool.and_eq_true] at hq
              exact ihn q (h.closed m hm q hq.1) k hq.2
        have hijs : i ∈ js := by
          have hb := hB i (List.mem_range.2 hilt)
          rw [Bool.or_eq_true, Bool.or_eq_true] at hb
          rcases hb with (hb | hb) | hb
          · simpa using hb
          · exfalso
            rw [List.all_eq_true] at hb
            have hw := hb k0 hk0m
            unfold waitsN at hw
            rw [Bool.or_eq_true, List.any_eq_true] at hw
            rcases hw with hw | ⟨q, _, hq⟩
            · exact hk0L (hwait k0 hw)
            · rw [Bool.and_eq_true] at hq
              exact hk0L (hclo 7 q (hwait q hq.1) k0 hq.2)
          · exfalso
            rw [hoi] at hb
            simp only [Option.map_some, Option.getD_some] at hb
            rw [← Array.any_toList, List.any_eq_true] at hb
            obtain ⟨e, hem, he⟩ := hb
            rw [Array.mem_toList_iff] at hem
            rw [Bool.and_eq_true] at he
            have := haft e hem he.1
            rw [h.mem, decide_eq_true_eq] at this
            have h2 := h.sub _ this
            simp [h2] at he
        obtain ⟨hds, o', d, ho', hd, hg, _⟩ := hA' i hijs
        rw [hoi] at ho'
        injection ho' with ho'
        subst ho'
        have hdo : dstOf ops i = d := by simp [dstOf, hoi, hd]
        have hiL : i ∉ L := fun hm => by
          rw [hlist i hilt, h.mem i, decide_eq_true hm] at hun
          cases hun
        refine wpOp_step hoi fun K hK => ?_
        have hw : Region.wanted oi (yielded ops a.tmps) = true := by simp [Region.wanted, hg]
        rw [if_pos hw]
        refine hop i hijs oi d hoi hd a w h.chg (fun s hs => h.same s fun j hj => ?_) (fun k hk => ⟨_, h.facts k ?_⟩) K fun v w' hv hcw => hK _ _ ?_
        · rw [List.all_eq_true] at hs
          simpa using hs j (h.sub j hj)
        · exact hwait k hk
        · have hne : ∀ j ∈ L, d ≠ dstOf ops j := fun j hj he => by
            have hjm := h.sub j hj
            have : j = i := by
              obtain ⟨x, hx, hx2⟩ := List.mem_iff_getElem.1 hjm
              obtain ⟨y, hy, hy2⟩ := List.mem_iff_getElem.1 hijs
              have hp := List.pairwise_iff_getElem.1 hdd
              rcases Nat.lt_trichotomy x y with hxy | hxy | hxy
              · have := hp x y (by simpa using hx) (by simpa using hy) hxy
                rw [List.getElem_map, List.getElem_map, hx2, hy2, hdo, he] at this
                exact absurd rfl this
              · subst hxy; rw [← hx2, hy2]
              · have := hp y x (by simpa using hy) (by simpa using hx) hxy
                rw [List.getElem_map, List.getElem_map, hx2, hy2, hdo, he] at this
                exact absurd rfl this
            exact hiL (this ▸ hj)
          have hfu : fuel = ops.size - (i :: L).length := by rw [List.length_cons]; omega
          rw [hfu]
          have hda : d < a.tmps.size := by rw [h.asz, ← hdo]; exact hds
          have hval : ∀ k ∈ L, valOf ops a k = valOf ops (a.put (some d) v) k := fun k hk => (put_getD_ne _ _ _ _ (hne k hk)).symm
          have hvali : setV (valOf ops a) i v i = valOf ops (a.put (some d) v) i := by
            show (if i = i then v else _) = _
            rw [if_pos rfl]
            unfold valOf
            rw [hdo, put_getD_eq _ _ _ hda]
          refine ih (js.length - (i :: L).length) (by rw [List.length_cons]; omega) (i :: L) (fun k => if k = i then (w.heap.size, w'.heap.size) else r k) _ _ _ rfl ⟨by simp [h.size], fun j => ?_, fun j hj => ?_, List.nodup_cons.2 ⟨hiL, h.nd⟩, fun j hj k hk => ?_, fun j hj => ?_, fun j hj => ?_, fun x hx y hy hxy => ?_, fun s hs => ?_, by rw [put_size]; exact h.asz, by rw [put_defers]; exact h.adf, h.chg.trans hcw⟩
          · by_cases hji : i = j
            · subst hji
              rw [Array.getD_eq_getD_getElem?, Array.getElem?_setIfInBounds, if_pos rfl, if_pos (by rw [h.size]; exact hilt)]
              simp
            · rw [getD_set_ne false hji, h.mem j]
              simp [Ne.symm hji]
          · exact (List.mem_cons.1 hj).elim (fun e => e ▸ hijs) (h.sub j)
          · rcases List.mem_cons.1 hj with rfl | hj
            · exact List.mem_cons_of_mem _ (hwait k hk)
            · exact List.mem_cons_of_mem _ (h.closed j hj k hk)
          · rcases List.mem_cons.1 hj with rfl | hj
            · simp only [if_pos]
              refine hdep _ _ _ _ _ hvali (fun k hk => ?_) hv
              have hkL := hwait k hk
              show (if k = j then v else _) = _
              rw [if_neg (show ¬ k = j from fun e => hiL (e ▸ hkL))]
              exact hval k hkL
            · have hji : ¬ j = i := fun e => hiL (e ▸ hj)
              simp only [if_neg hji]
              exact hdep _ _ _ _ _ (hval j hj) (fun k hk => hval k (h.closed j hj k hk)) (hmono j (h.sub j hj) _ _ _ _ hcw (h.facts j hj))
          · rcases List.mem_cons.1 hj with rfl | hj
            · simp only [if_pos]
              exact ⟨h.chg.size, hcw.size, Nat.le_refl _⟩
            · have hji : ¬ j = i := fun e => hiL (e ▸ hj)
              simp only [if_neg hji]
              have := h.rng j hj
              exact ⟨this.1, this.2.1, Nat.le_trans this.2.2 hcw.size⟩
          · by_cases hxi : x = i
            · have hyi : ¬ y = i := fun e => hxy (hxi.trans e.symm)
              simp only [if_pos hxi, if_neg hyi]
              exact .inr (h.rng y ((List.mem_cons.1 hy).resolve_left hyi)).2.2
            · by_cases hyi : y = i
              · simp only [if_pos hyi, if_neg hxi]
                exact .inl (h.rng x ((List.mem_cons.1 hx).resolve_left hxi)).2.2
              · simp only [if_neg hxi, if_neg hyi]
                exact h.apart x ((List.mem_cons.1 hx).resolve_left hxi) y ((List.mem_cons.1 hy).resolve_left hyi) hxy
          · rw [put_getD_ne _ _ _ _ (by rw [← hdo]; exact hs i (by simp))]
            exact h.same s fun j hj => hs j (by simp [hj])
  have := key (js.length - 0) [] (fun _ => (0, 0)) (Array.replicate ops.size false) a0 w0 rfl ⟨by simp, fun j => (by simp [Array.getD_eq_getD_getElem?, Array.getElem?_replicate]; try (split <;> rfl)), fun j hj => (by cases hj), List.nodup_nil, fun j hj => (by cases hj), fun j hj => (by cases hj), fun j hj => (by cases hj), fun j hj => (by cases hj), fun s _ => rfl, rfl, rfl, Chg.refl _ _⟩
  simpa using this
def putL (v : Nat → Value) : List (Nat × Nat) → Act → Act
  | [], a => a
  | p :: l, a => putL v l (a.put (some p.2) (v p.1))
theorem putAll_L (v : Nat → Value) : ∀ (jd : List (Nat × Nat)) (a : Act), jd.map (fun p => dstOf ops p.1) = jd.map (·.2) → putAll ops v (jd.map (·.1)) a = putL v jd a
  | [], a, _ => rfl
  | p :: l, a, h => by
    rw [List.map_cons, List.map_cons] at h
    injection h with h1 h2
    rw [List.map_cons, putAll, putL, h1]
    exact putAll_L v l _ h2
/-- The region's walk: jd: the operations that leave facts, with their slots; jo: those of them that the last ones do not wait for. -/
theorem wpAny_region_facts (jd jo : List (Nat × Nat)) (F : Nat → (Nat → Value) → Nat × Nat → World → Prop) {a : Act} {w : World}
    (hc : (factsB .any ops a.tmps.size (jd.map (·.1)) (jo.map (·.1)) && ((jd ++ jo).map (fun p => dstOf ops p.1) == (jd ++ jo).map (·.2))) = true)
    (hdep : ∀ j val val' r w, val j = val' j → (∀ k, waitsB .any ops j k = true → val k = val' k) → F j val r w → F j val' r w)
    (hmono : ∀ j val r w w', Chg (fun _ _ => False) w w' → F j val r w → F j val r w') (hop : ∀ p ∈ jd ++ jo, OpF P .any ops Q ((jd ++ jo).map (·.1)) F a w.drew p.1)
    (hlast : ∀ (p : Nat → Bool) (v : Nat → Value) (r : Nat → Nat × Nat) w', (∀ q ∈ jd ++ jo.filter (fun q => p q.1), F q.1 v (r q.1) w') → (∀ q ∈ jd ++ jo.filter (fun q => p q.1), w.heap.size ≤ (r q.1).1 ∧ (r q.1).1 ≤ (r q.1).2 ∧ (r q.1).2 ≤ w'.heap.size) →
      (∀ q ∈ jd ++ jo.filter (fun q => p q.1), ∀ q' ∈ jd ++ jo.filter (fun q => p q.1), q.1 ≠ q'.1 → (r q.1).2 ≤ (r q'.1).1 ∨ (r q'.1).2 ≤ (r q.1).1) → Chg (fun _ _ => False) w.drew w' →
      wpAny P .any ops Q (ops.size - (jd ++ jo.filter (fun q => p q.1)).length) (listedOf ops ((jd ++ jo.filter (fun q => p q.1)).map (·.1))) (putL v (jd ++ jo.filter (fun q => p q.1)) a) w') : wpAny P .any ops Q ops.size (Array.replicate ops.size false) a w.drew := by
  rw [Bool.and_eq_true, beq_iff_eq] at hc
  have hfl : ∀ p : Nat → Bool, jd.map (·.1) ++ (jo.map (·.1)).filter p = (jd ++ jo.filter (fun q => p q.1)).map (·.1) := fun p => by
    rw [List.map_append, List.filter_map]
    rfl
  refine (wpAny_facts (jd.map (·.1)) (jo.map (·.1)) ((jd ++ jo).map (·.1)) (by rw [List.map_append]) F hc.1 hdep (fun j _ => hmono j) (fun j hj => ?_) fun p v r w' hv hr hap hcw => ?_)
  · obtain ⟨p, hp, rfl⟩ := List.mem_map.1 hj
    exact hop p hp
  · have hpa : (jd ++ jo.filter (fun q => p q.1)).map (fun p => dstOf ops p.1) = (jd ++ jo.filter (fun q => p q.1)).map (·.2) := by
      have hs : ∀ q ∈ jd ++ jo.filter (fun q => p q.1), dstOf ops q.1 = q.2 := fun q hq => by
        have hq' : q ∈ jd ++ jo := by
          rcases List.mem_append.1 hq with h | h
          · exact List.mem_append_left _ h
          · exact List.mem_append_right _ (List.mem_filter.1 h).1
        exact (List.map_inj_left.1 hc.2) q hq'
      exact List.map_congr_left hs
    rw [hfl p] at hv hr hap ⊢
    rw [putAll_L v _ a hpa, List.length_map]
    have hm : ∀ q ∈ jd ++ jo.filter (fun q => p q.1), q.1 ∈ (jd ++ jo.filter (fun q => p q.1)).map (·.1) := fun p hp => List.mem_map.2 ⟨p, hp, rfl⟩
    exact hlast p v r w' (fun p hp => hv p.1 (hm p hp)) (fun p hp => hr p.1 (hm p hp)) (fun p hp q hq => hap p.1 (hm p hp) q.1 (hm q hq)) hcw
theorem wp_region_facts (jd jo : List (Nat × Nat)) (F : Nat → (Nat → Value) → Nat × Nat → World → Prop) {id : Nat} {a : Act} {w : World} (hm : P.follows .mixedOrders = true)
    (hc : (factsB .any ops a.tmps.size (jd.map (·.1)) (jo.map (·.1)) && ((jd ++ jo).map (fun p => dstOf ops p.1) == (jd ++ jo).map (·.2))) = true)
    (hdep : ∀ j val val' r w, val j = val' j → (∀ k, waitsB .any ops j k = true → val k = val' k) → F j val r w → F j val' r w)
    (hmono : ∀ j val r w w', Chg (fun _ _ => False) w w' → F j val r w → F j val r w') (hop : ∀ p ∈ jd ++ jo, OpF P .any ops Q ((jd ++ jo).map (·.1)) F a w.drew p.1)
    (hlast : ∀ (p : Nat → Bool) (v : Nat → Value) (r : Nat → Nat × Nat) w', (∀ q ∈ jd ++ jo.filter (fun q => p q.1), F q.1 v (r q.1) w') → (∀ q ∈ jd ++ jo.filter (fun q => p q.1), w.heap.size ≤ (r q.1).1 ∧ (r q.1).1 ≤ (r q.1).2 ∧ (r q.1).2 ≤ w'.heap.size) →
      (∀ q ∈ jd ++ jo.filter (fun q => p q.1), ∀ q' ∈ jd ++ jo.filter (fun q => p q.1), q.1 ≠ q'.1 → (r q.1).2 ≤ (r q'.1).1 ∨ (r q'.1).2 ≤ (r q.1).1) → Chg (fun _ _ => False) w.drew w' →
      wpAny P .any ops Q (ops.size - (jd ++ jo.filter (fun q => p q.1)).length) (listedOf ops ((jd ++ jo.filter (fun q => p q.1)).map (·.1))) (putL v (jd ++ jo.filter (fun q => p q.1)) a) w') : (Code.region id ops true).wp P Q a w :=
  wp_region_any hm (wpAny_region_facts jd jo F hc hdep hmono hop hlast)
theorem putL_append (v : Nat → Value) (q : Nat × Nat) : ∀ (l : List (Nat × Nat)) (a : Act), putL v (l ++ [q]) a = (putL v l a).put (some q.2) (v q.1)
  | [], a => rfl
  | p :: l, a => putL_append v q l _
theorem putL_setV (v : Nat → Value) (k : Nat) (x : Value) : ∀ (l : List (Nat × Nat)) (a : Act), (∀ q ∈ l, q.1 ≠ k) → putL (setV v k x) l a = putL v l a
  | [], a, _ => rfl
  | p :: l, a, h => by
    rw [putL, putL, putL_setV v k x l _ fun q hq => h q (by simp [hq])]
    unfold setV
    rw [if_neg (h p (by simp))]
/-- Likewise, with one operation q that yields a value from slots alone, and that the last ones do not wait for: it is taken ahead of them. -/
theorem wp_region_facts1 (jd : List (Nat × Nat)) (q : Nat × Nat) {o : Oper} (F : Nat → (Nat → Value) → Nat × Nat → World → Prop) {id : Nat} {a : Act} {w : World} (hm : P.follows .mixedOrders = true)
    (hc : (factsB .any ops a.tmps.size (jd.map (·.1)) [q.1] && ((jd ++ [q]).map (fun p => dstOf ops p.1) == (jd ++ [q]).map (·.2))) = true)
    (hfr : (Region.noSelect ops && Region.free .any ops (listedOf ops (jd.map (·.1))) q.1 && (Region.ready .any ops (listedOf ops (jd.map (·.1)))).contains q.1 && decide (q.1 < ops.size) && (jd.all fun p => p.1 != q.1 && !waitsB .any ops p.1 q.1) && decide (jd.length < ops.size)) = true) (ho : ops[q.1]? = some o) (hod : o.dst = some q.2)
    (hQ : ∀ c v a w, Q (.panic c) (a.put (some q.2) v) w → Q (.panic c) a w)
    (hdep : ∀ j val val' r w, val j = val' j → (∀ k, waitsB .any ops j k = true → val k = val' k) → F j val r w → F j val' r w)
    (hmono : ∀ j val r w w', Chg (fun _ _ => False) w w' → F j val r w → F j val r w') (hop : ∀ p ∈ jd ++ [q], OpF P .any ops Q ((jd ++ [q]).map (·.1)) F a w.drew p.1)
    (hy : ∀ (v : Nat → Value) (r : Nat → Nat × Nat) w', (∀ p ∈ jd, F p.1 v (r p.1) w') → (∀ p ∈ jd, (putL v jd a).eval (.tmp p.2) = v p.1) → ∃ x, Yields P ops o x (putL v jd a) ∧ F q.1 (setV v q.1 x) (r q.1) w')
    (hlast : ∀ (v : Nat → Value) (r : Nat → Nat × Nat) w', (∀ p ∈ jd, F p.1 v (r p.1) w') → F q.1 v (r q.1) w' → (∀ p ∈ jd, w.heap.size ≤ (r p.1).1 ∧ (r p.1).1 ≤ (r p.1).2 ∧ (r p.1).2 ≤ w'.heap.size) →
      (∀ p ∈ jd, ∀ p' ∈ jd, p.1 ≠ p'.1 → (r p.1).2 ≤ (r p'.1).1 ∨ (r p'.1).2 ≤ (r p.1).1) → Chg (fun _ _ => False) w.drew w' →
      wpAny P .any ops Q (ops.size - (jd ++ [q]).length) (listedOf ops ((jd ++ [q]).map (·.1))) (putL v (jd ++ [q]) a) w') : (Code.region id ops true).wp P Q a w := by
  simp only [Bool.and_eq_true, decide_eq_true_eq] at hfr
  obtain ⟨⟨⟨⟨⟨f1, f2⟩, f3⟩, f4⟩, f5⟩, f6⟩ := hfr
  have hne2 : ∀ p ∈ jd, p.1 ≠ q.1 ∧ waitsB .any ops p.1 q.1 = false := fun p hp => by
    rw [List.all_eq_true] at f5
    simpa using f5 p hp
  have hne : ∀ p ∈ jd, p.1 ≠ q.1 := fun p hp => (hne2 p hp).1
  refine wp_region_facts jd [q] F hm hc hdep hmono hop fun p v r w' hv hr hap hcw => ?_
  cases hp : p q.1 with
  | true =>
    simp only [List.filter_cons, hp, if_true, List.filter_nil] at hv hr hap ⊢
    exact hlast v r w' (fun p hp => hv p (List.mem_append_left _ hp)) (hv q (by simp)) (fun p hp => hr p (List.mem_append_left _ hp)) (fun p hp p' hp' => hap p (List.mem_append_left _ hp) p' (List.mem_append_left _ hp')) hcw
  | false =>
    simp only [List.filter_cons, hp, List.filter_nil, List.append_nil, Bool.false_eq_true, if_false] at hv hr hap ⊢
    have hc' := hc
    rw [Bool.and_eq_true, beq_iff_eq] at hc'
    have hmap : jd.map (fun p => dstOf ops p.1) = jd.map (·.2) := List.map_congr_left fun p hp => (List.map_inj_left.1 hc'.2) p (List.mem_append_left _ hp)
    have hcf := hc'.1
    unfold factsB at hcf
    simp only [Bool.and_eq_true, List.all_eq_true, decide_eq_true_eq] at hcf
    have hvals : ∀ p ∈ jd, (putL v jd a).eval (.tmp p.2) = v p.1 := fun p hp => by
      rw [← putAll_L v jd a hmap, ← show dstOf ops p.1 = p.2 from (List.map_inj_left.1 hc'.2) p (List.mem_append_left _ hp)]
      refine putAll_in v _ a p.1 (List.mem_map.2 ⟨p, hp, rfl⟩) ?_ fun k hk => (hcf.1.1.1 k (List.mem_append_left _ hk)).1
      have := hcf.1.2
      rw [List.map_append] at this
      exact (List.nodup_append.1 this).1
    obtain ⟨x, hyl, hv2⟩ := hy v r w' hv hvals
    have hv1 : ∀ p ∈ jd, F p.1 (setV v q.1 x) (r p.1) w' := fun p hp => hdep p.1 v _ _ _ (by unfold setV; rw [if_neg (hne p hp)]) (fun k hk => by
      unfold setV
      rw [if_neg]
      rintro rfl
      rw [(hne2 p hp).2] at hk
      cases hk) (hv p hp)
    obtain ⟨fuel, hf⟩ : ∃ f, ops.size - jd.length = f + 1 := ⟨ops.size - jd.length - 1, by omega⟩
    have hl := hlast (setV v q.1 x) r w' hv1 hv2 hr hap hcw
    rw [putL_append, putL_setV v q.1 x jd a hne, List.map_append, List.map_cons, List.map_nil] at hl
    rw [show (setV v q.1 x) q.1 = x by unfold setV; rw [if_pos rfl]] at hl
    rw [hf]
    refine wpAny_take ho f1 f2 f3 (fun c a w h => hQ c x a w (by rw [hod] at h; exact h)) hyl ?_
    rw [hod]
    have hle : ops.size - (jd ++ [q]).length = fuel := by rw [List.length_append, List.length_cons, List.length_nil]; omega
    have hli : listedOf ops (jd.map (·.1) ++ [q.1]) = (listedOf ops (jd.map (·.1))).setIfInBounds q.1 true := by
      refine Array.ext (by simp [listedOf]) fun i h1 h2 => ?_
      by_cases hi : q.1 = i
      · subst hi
        simp [listedOf]
      · rw [Array.getElem_setIfInBounds_ne (by simpa using h2) hi]
        simp only [listedOf, List.getElem_toArray, List.getElem_map, List.getElem_range]
        by_cases hm : i ∈ jd.map (·.1)
        · rw [List.contains_iff_mem.2 hm, List.contains_iff_mem.2 (List.mem_append_left _ hm)]
        · have h1 : ¬ i ∈ jd.map (·.1) ++ [q.1] := fun h => (List.mem_append.1 h).elim hm fun h => hi (List.mem_singleton.1 h).symm
          rw [Bool.eq_false_iff.2 fun h => hm (List.contains_iff_mem.1 h), Bool.eq_false_iff.2 fun h => h1 (List.contains_iff_mem.1 h)]
    rw [hle, hli] at hl
    exact hl
theorem ops_cons {R : Nat × Nat → Prop} {p : Nat × Nat} {l : List (Nat × Nat)} (h : R p) (hl : ∀ q ∈ l, R q) : ∀ q ∈ p :: l, R q := fun q hq => (List.mem_cons.1 hq).elim (fun e => e ▸ h) (hl q)
theorem ops_nil {R : Nat × Nat → Prop} : ∀ q ∈ ([] : List (Nat × Nat)), R q := fun q hq => by cases hq
section
variable {js : List Nat} {F : Nat → (Nat → Value) → Nat × Nat → World → Prop} {a0 : Act} {w0 : World} {j d : Nat} {o : Oper}
/-- What an operation may lean on. -/
structure OpH (md : Region.Mode) (ops : Array Oper) (js : List Nat) (F : Nat → (Nat → Value) → Nat × Nat → World → Prop) (a0 : Act) (w0 : World) (j : Nat) (a : Act) (w : World) : Prop where
  chg : Chg (fun _ _ => False) w0 w
  same : ∀ s, (js.all fun j => dstOf ops j != s) = true → a.tmps.getD s undef = a0.tmps.getD s undef
  fact : ∀ k, waitsB md ops j k = true → ∃ r, F k (valOf ops a) r w
/-- An operation that runs to a value. -/
theorem OpF.run (ho : ops[j]? = some o) (hd : o.dst = some d) (h : ∀ a w, OpH md ops js F a0 w0 j a w → ∃ v w', (execOp a.eval o).run P w = .ok (.value v) w' ∧ F j (setV (valOf ops a) j v) (w.heap.size, w'.heap.size) w' ∧ Chg (fun _ _ => False) w w') : OpF P md ops Q js F a0 w0 j := by
  intro o' d' ho' hd' a w h1 h2 h3 K hK
  rw [ho] at ho'
  injection ho' with ho'
  subst ho'
  rw [hd] at hd'
  injection hd' with hd'
  subst hd'
  obtain ⟨v, w', hr, hv, hc⟩ := h a w ⟨h1, h2, h3⟩
  unfold Oper.wp
  rw [hr, Oper.upon_value, hd]
  exact hK v w' hv hc
/-- A call. -/
theorem OpF.call (ho : ops[j]? = some o) (hd : o.dst = some d) (h : ∀ a w, OpH md ops js F a0 w0 j a w → ∃ f args, (execOp a.eval o).run P w = .ok (.enter f args) w ∧ Calls P f args w fun e w' => ∃ v, e = .returned v ∧ F j (setV (valOf ops a) j v) (w.heap.size, w'.heap.size) w' ∧ Chg (fun _ _ => False) w w') : OpF P md ops Q js F a0 w0 j := by
  intro o' d' ho' hd' a w h1 h2 h3 K hK
  rw [ho] at ho'
  injection ho' with ho'
  subst ho'
  rw [hd] at hd'
  injection hd' with hd'
  subst hd'
  obtain ⟨f, args, hr, hcall⟩ := h a w ⟨h1, h2, h3⟩
  unfold Oper.wp
  rw [hr, Oper.upon_enter]
  refine hcall.mono fun e w' ⟨v, he, hv, hc⟩ => ?_
  subst he
  rw [hd]
  exact hK v w' hv hc
end
section
variable {a : Act} {w : World} {dst : Option Nat} {ty : TypeId} {pos : String} {af : Array Edge} {g : Option (Nat × Bool)}
theorem exec_call (f : FuncId) (xs : Array Operand) (ts : Array TypeId) (hf : ∀ ys, (callFunc f ys).run P w = .ok (.enter f ys) w) : (execOp a.eval { dst := dst, op := .call { callee := .value (.func f), args := xs, argTypes := ts }, type := ty, pos := pos, after := af, guard := g }).run P w = .ok (.enter f (xs.map a.eval)) w := by
  simp [execOp, resolve, invoke, go_sem, Act.eval, hf]
theorem exec_move (x : Operand) : (execOp a.eval { dst := dst, op := .move x, type := ty, pos := pos, after := af, guard := g }).run P w = .ok (.value (a.eval x)) w := by
  simp [execOp, go_sem]
theorem exec_extract {vs : Array Value} {v : Value} (x : Operand) (i : Nat) (hx : a.eval x = .tuple vs) (hv : vs[i]? = some v) : (execOp a.eval { dst := dst, op := .extract x i, type := ty, pos := pos, after := af, guard := g }).run P w = .ok (.value v) w := by
  unfold execOp
  simp only [hx, hv]
  simp [go_sem, hv]
theorem exec_load {cs : Array Value} {t gb : Nat} {td : TypeDesc} (T : TypeId) (x : Operand) (hx : a.eval x = .pointer (some ⟨gb, 0, none⟩)) (hg : Blk w gb t cs) (hu : P.underlying T = some td) (hd : (match td with | .struct _ | .array _ _ => true | _ => false) = true) (hi : (P.info? T).map (·.size) = some cs.size) :
    (execOp a.eval { dst := dst, op := .load T x, type := ty, pos := pos, after := af, guard := g }).run P w = .ok (.value (.agg cs)) w := by
  unfold execOp
  simp only [hx, Instr.loadAt, Instr.sureAddr, Sem.run_bind, Sem.run_pure, Result.andThen_ok, run_loadVar_row w gb t T cs (0, 0) td hg hu hd hi]
end
end
end Go.Proofs.Yteigopmdhhgnfaa
