/-
  The checker while it looks at one instruction: a copy of it in a block of our own.
-/
import Derived.Test.YtdegfnejhamejaaCkWZk
namespace Go.Proofs.Ytdegfnejhamejaa
open Go.RowKit
set_option linter.unusedVariables false
set_option linter.unusedSimpArgs false

/-! ## Shapes of a formed module -/
theorem wid_sound {l p : List ShapeD} {c : List Nat} (h : wid l = some (p, c)) {k : Nat} {s : ShapeD} (hk : l[k]? = some s) : ∃ c', c'.length = k ∧ soundS (l.take k) c' s = true := by
  have hlt : k < l.length := (List.getElem?_eq_some_iff.1 hk).1
  have hw : ∀ j, wid (l.take j) = none → False := fun j hj => by
    rw [← List.take_append_drop j l, wid_append, hj, fold_none] at h
    cases h
  cases hp : wid (l.take k) with
  | none => exact (hw k hp).elim
  | some pc =>
    obtain ⟨p', c'⟩ := pc
    have hpe := wid_eq hp
    subst hpe
    have hl := (wid_len hp).1
    rw [List.length_take, Nat.min_eq_left (by omega)] at hl
    refine ⟨c', hl, ?_⟩
    cases hs : soundS (l.take k) c' s with
    | true => rfl
    | false =>
      refine (hw (k + 1) ?_).elim
      rw [wid_take hk, hp]
      simp [wStep, hs]
theorem formed_shape {m : ModD} (h : formedMod m = true) {k : Nat} {s : ShapeD} (hk : m.types[k]? = some s) :
    (∀ p ∈ s.list, 0 ≤ p ∧ p < (k : Int)) ∧ (s.kind = 9 ∨ s.kind = 10 ∨ s.kind = 13 → s.list.length = 1) ∧ s.list.length ≤ 16 ∧ 0 ≤ s.res ∧ s.res ≤ (k : Int) ∧ s.kind ≠ 0 := by
  unfold formedMod at h
  simp only [Bool.and_eq_true] at h
  obtain ⟨⟨⟨⟨⟨h1, _⟩, _⟩, _⟩, _⟩, _⟩ := h
  unfold widths at h1
  obtain ⟨c, hc⟩ := Option.isSome_iff_exists.1 h1
  obtain ⟨⟨p, c2⟩, hw, _⟩ := Option.map_eq_some_iff.1 hc
  obtain ⟨c', hl, hs⟩ := wid_sound hw hk
  simp only [soundS, headOk, partsIn, kindOk, hl, Bool.and_eq_true, decide_eq_true_eq, List.all_eq_true] at hs
  obtain ⟨⟨⟨⟨⟨⟨a1, a2⟩, a3⟩, a4⟩, a5⟩, a6⟩, _⟩ := hs
  refine ⟨fun p hp => by have := a5 p hp; simpa using this, fun hk => ?_, a1, a2, a3, fun h0 => ?_⟩
  · rw [if_neg (by omega), if_pos (by omega)] at a6
    simpa using a6
  · rw [if_neg (by omega), if_neg (by omega), if_neg (by omega)] at a6
    simp [h0] at a6
theorem formed_len {m : ModD} (h : formedMod m = true) : m.types.length ≤ 256 ∧ m.funcs.length ≤ 256 := by
  unfold formedMod at h
  simp only [Bool.and_eq_true, decide_eq_true_eq] at h
  omega
theorem listN_lt {m : ModD} (h : formedMod m = true) {t p : Int} (ht : 0 ≤ t ∧ t < (m.types.length : Int)) (hp : p ∈ listN m.types t) : 0 ≤ p ∧ p < t := by
  have hk : m.types[t.toNat]? = some m.types[t.toNat] := List.getElem?_eq_getElem (by omega)
  have hl : listN m.types t = m.types[t.toNat].list := by simp [listN, hk]
  rw [hl] at hp
  have := (formed_shape h hk).1 p hp
  omega
theorem all_same {f g : Int → Bool} : ∀ (l : List Int), (∀ x ∈ l, f x = g x) → l.all f = l.all g
  | [], _ => rfl
  | x :: l, h => by simp only [List.all_cons]; rw [h x (by simp), all_same l fun y hy => h y (by simp [hy])]
theorem cmp_fuel {m : ModD} (h : formedMod m = true) : ∀ (n k : Nat) (t : Int), 0 ≤ t ∧ t < (m.types.length : Int) → t.toNat < n → t.toNat < k → cmpF m.types n t = cmpF m.types k t
  | 0, k, t, _, h1, _ => absurd h1 (Nat.not_lt_zero _)
  | n + 1, 0, t, _, _, h2 => absurd h2 (Nat.not_lt_zero _)
  | n + 1, k + 1, t, ht, h1, h2 => by
    simp only [cmpF]
    split
    · rfl
    · split
      · exact all_same _ fun p hp => by
          have hl := listN_lt h ht hp
          exact cmp_fuel h n k p ⟨hl.1, by omega⟩ (by omega) (by omega)
      · rfl
theorem cmpN_eq {m : ModD} (h : formedMod m = true) {t : Int} (ht : 0 ≤ t ∧ t < (m.types.length : Int)) :
    cmpN m.types t = if kindN m.types t = 9 ∨ kindN m.types t = 11 ∨ kindN m.types t = 13 then false else if kindN m.types t = 8 then (listN m.types t).all (cmpN m.types) else true := by
  unfold cmpN
  rw [cmpF]
  split
  · rfl
  · split
    · exact all_same _ fun p hp => by
        have hl := listN_lt h ht hp
        exact cmp_fuel h _ _ p ⟨hl.1, by omega⟩ (by omega) (by omega)
    · rfl
/-! ## What is known -/
theorem cnt_le (f : Int → Option Value) (L : Nat) : cntK f L ≤ L := by
  unfold cntK
  have := List.length_filter_le (fun k : Nat => (f (k : Int)).isSome) (List.range L)
  simpa using this
theorem cnt_upd {f : Int → Option Value} {v : Value} : ∀ (L : Nat) (t : Nat), f (t : Int) = none → cntK (updI f (t : Int) v) L = cntK f L + if t < L then 1 else 0
  | 0, t, _ => by simp [cntK]
  | L + 1, t, h => by
    have ih := cnt_upd (v := v) L t h
    unfold cntK at ih ⊢
    rw [List.range_succ, List.filter_append, List.filter_append, List.length_append, List.length_append, ih]
    by_cases ht : t = L
    · subst ht
      simp [updI_same, h]
    · have hne : (L : Int) ≠ (t : Int) := by omega
      simp only [List.filter_cons, List.filter_nil, updI_other f v hne]
      by_cases hl : t < L
      · have : t < L + 1 := by omega
        simp only [hl, this, if_true]
        split <;> simp <;> omega
      · have : ¬ t < L + 1 := by omega
        simp only [hl, this, if_false]
        omega
/-- The checker, and what it knows: the map is there. -/
structure CkM (h : Hd) (k : Nat) (w : World) (s : VSt) (f : Int → Option Value) (b mm : Nat) : Prop where
  q : ∃ As cs At ct Al cl, CkR h k w s As cs At ct Al cl (.map (some b))
  map : IMap w b (cntK f h.m.types.length) mm f
  ge : h.base ≤ b
  nk : ¬ h.K b
  val : ∀ t v, I64 t → f t = some v → v = .bool (cmpN h.m.types t)
theorem CkM.d12 {h : Hd} {k : Nat} {w : World} {s : VSt} {f : Int → Option Value} {b mm : Nat} (H : CkM h k w s f b mm) : w.cell? ⟨h.p, 12, none⟩ = some (.map (some b)) := by
  obtain ⟨As, cs, At, ct, Al, cl, h1⟩ := H.q
  simpa using h1.blk.cell 12
def CkQ (h : Hd) (k : Nat) (w : World) (s : VSt) (f : Int → Option Value) : Prop := ∃ b mm, CkM h k w s f b mm
theorem CkQ.toI {h : Hd} {k : Nat} {w : World} {s : VSt} {f : Int → Option Value} (H : CkQ h k w s f) : CkI h k w s := by
  obtain ⟨b, mm, H⟩ := H
  obtain ⟨As, cs, At, ct, Al, cl, h1⟩ := H.q
  exact ⟨As, cs, At, ct, Al, cl, _, h1⟩
theorem CkQ.same {h : Hd} {k : Nat} {w w' : World} {s : VSt} {f : Int → Option Value} (H : CkQ h k w s f) (hc : Chg (fun _ _ => False) w w') : CkQ h k w' s f := by
  obtain ⟨b, mm, H⟩ := H
  obtain ⟨As, cs, At, ct, Al, cl, h1⟩ := H.q
  exact ⟨b, mm, ⟨As, cs, At, ct, Al, cl, h1.same hc⟩, H.map.keep hc id, H.ge, H.nk, H.val⟩
theorem CkQ.zone {h : Hd} {k : Nat} {w : World} {s : VSt} {f : Int → Option Value} (H : CkQ h k w s f) (o : Obj) : CkQ (h.zone w.heap.size) k (w.alloc o) s f := by
  obtain ⟨b, mm, H⟩ := H
  obtain ⟨As, cs, At, ct, Al, cl, h1⟩ := H.q
  exact ⟨b, mm, ⟨As, cs, At, ct, Al, cl, h1.zone o⟩, H.map.keep (chg_alloc w o) id, H.ge, fun hh => hh.elim H.nk fun e => by have := H.map.lt; omega, H.val⟩
theorem CkQ.unzone {h : Hd} {k g : Nat} {w : World} {s : VSt} {f : Int → Option Value} (H : CkQ (h.zone g) k w s f) : CkQ h k w s f := by
  obtain ⟨b, mm, H⟩ := H
  obtain ⟨As, cs, At, ct, Al, cl, h1⟩ := H.q
  exact ⟨b, mm, ⟨As, cs, At, ct, Al, cl, h1.unzone⟩, H.map, H.ge, fun hh => H.nk (.inl hh), H.val⟩
/-- What is known afterwards: no more than before from shape z on. -/
def KnA (h : Hd) (k : Nat) (w : World) (s : VSt) (f : Int → Option Value) (z : Int) : Prop := ∃ f', CkQ h k w s f' ∧ ∀ x, z ≤ x → f' x = f x
theorem KnA.unzone {h : Hd} {k g : Nat} {w : World} {s : VSt} {f : Int → Option Value} {z : Int} (H : KnA (h.zone g) k w s f z) : KnA h k w s f z := by
  obtain ⟨f', H, h1⟩ := H
  exact ⟨f', H.unzone, h1⟩
theorem KnA.then_ {h : Hd} {k : Nat} {w : World} {s : VSt} {f f1 : Int → Option Value} {y z : Int} (H : KnA h k w s f1 y) (hy : y ≤ z) (h1 : ∀ x, z ≤ x → f1 x = f x) : KnA h k w s f z := by
  obtain ⟨f', H, h2⟩ := H
  exact ⟨f', H, fun x hx => (h2 x (by omega)).trans (h1 x hx)⟩
def CmpRes (h : Hd) (k : Nat) (w : World) (s : VSt) (f : Int → Option Value) (z : Int) (b : Bool) (e : Ending) (w' : World) : Prop := e = .returned (.bool b) ∧ KnA h k w' s f z ∧ Chg (MC h) w w'
def CmpC (n : Nat) : Prop := ∀ (h : Hd) (k : Nat) (w : World) (s : VSt) (f : Int → Option Value) (t : Int), 0 ≤ t ∧ t < (h.m.types.length : Int) → t.toNat < n → CkQ h k w s f → Calls Try.prog 68 #[.pointer (some ⟨h.p, 0, none⟩), .int .i64 t] w (CmpRes h k w s f (t + 1) (cmpN h.m.types t))
set_option maxRecDepth 100000 in
theorem alike1_of {n : Nat} (hC : CmpC n) (h : Hd) (k : Nat) (w : World) (s : VSt) (f : Int → Option Value) (g : Nat) (t : Int) (ht : 0 ≤ t ∧ t < (h.m.types.length : Int)) (hn : t.toNat < n) (H : CkQ h k w s f) (hb : Blk w g 62 #[.pointer (some ⟨h.p, 0, none⟩)]) :
    Calls Try.prog 79 #[.int .i64 t, .pointer (some ⟨g, 0, none⟩)] w (CmpRes h k w s f (t + 1) (!cmpN h.m.types t)) := by
  have x0 : w.cell? ⟨g, 0, none⟩ = some (.pointer (some ⟨h.p, 0, none⟩)) := by simpa using hb.cell 0
  have hcall := hC h k w s f t ht hn H
  clear H hb
  go_enter Try.func79, Try.ntmps79
  go_wp2_with fail
  refine hcall.mono fun e w1 hh => ?_
  obtain ⟨rfl, hk, hc⟩ := hh
  have HK := Lib.hid (And.intro hk hc)
  clear hk hc hcall
  cases hb : cmpN h.m.types t
  · have HB := Lib.hid hb
    go_wp2_with fail
    go_ret
    exact ⟨by rw [HB.out]; rfl, HK.out.1, HK.out.2⟩
  · have HB := Lib.hid hb
    go_wp2_with fail
    go_ret
    exact ⟨by rw [HB.out]; rfl, HK.out.1, HK.out.2⟩
def IdxC (h : Hd) (k : Nat) (w : World) (s : VSt) (f : Int → Option Value) (z : Int) (b : Bool) (e : Ending) (w' : World) : Prop := ∃ j : Int, e = .returned (.int .i64 j) ∧ decide (0 ≤ j) = b ∧ KnA h k w' s f z ∧ Chg (MC h) w w'
def idxRelC (h : Hd) (kk : Nat) (w : World) (s : VSt) (f : Int → Option Value) (z : Int) (l : List Int) (i : Value) (wr : World) : Prop := ∃ k : Nat, k ≤ l.length ∧ i = .int .i64 k ∧ (l.take k).any (fun p => !cmpN h.m.types p) = false ∧ KnA h kk wr s f z ∧ Chg (MC h) w wr
set_option maxRecDepth 100000 in
set_option maxHeartbeats 2000000 in
theorem idxC_of {n : Nat} (hC : CmpC n) (h : Hd) (kk : Nat) (w : World) (s : VSt) (f : Int → Option Value) (z : Int) (g : Nat) (A1 : Option Addr) (c1 : Nat) (l : List Int) (hg : h.K g) (H : CkQ h kk w s f) (hb : Blk w g 62 #[.pointer (some ⟨h.p, 0, none⟩)]) (hl : IntsR h.B w (.slice A1 l.length c1) l)
    (hn : l.length ≤ 1024) (hlt : ∀ p ∈ l, (0 ≤ p ∧ p < (h.m.types.length : Int)) ∧ p.toNat < n ∧ p < z) :
    Calls Try.prog 51 #[.slice A1 l.length c1, .func (.func 79) #[] #[.pointer (some ⟨g, 0, none⟩)]] w (IdxC h kk w s f z (l.any fun p => !cmpN h.m.types p)) := by
  have HB := Lib.hid (And.intro hb (And.intro H (And.intro hl (And.intro hlt (And.intro hn (And.intro hg H.toI.base_le))))))
  clear hb H hl hlt hn hg
  go_enter Try.func51, Try.ntmps51
  go_wp2_with fail
  go_loopw [8] (fun i wr => idxRelC h kk w s f z l i wr) (fun i _ => l.length - (intOf i).toNat)
  case atStart => exact ⟨0, Nat.zero_le _, rfl, rfl, ⟨f, HB.out.2.1, fun _ _ => rfl⟩, Chg.refl _ _⟩
  case round =>
    obtain ⟨k, hk, rfl, ht, hI, hch⟩ := hrel
    have hn := HB.out.2.2.2.2.1
    have q3 : IntKind.i64.wrap ((k : Int) + 1) = (k : Int) + 1 := IntWalk.i64_in _ ⟨by omega, by omega⟩
    by_cases hlt : k < l.length
    · have q1 : decide (k < l.length) = true := decide_eq_true hlt
      have q2 : (k : Int) < (l.length : Int) := by omega
      obtain ⟨b, o, x, rfl, hkx, _, d0⟩ := (HB.out.2.2.1.keep hch (letsC HB.out.2.2.2.2.2.2.1)).at_ (k := k) hlt
      have hbb := hch.blk HB.out.1 fun hm => hm.2 HB.out.2.2.2.2.2.1
      have hxp := HB.out.2.2.2.1 x (List.mem_of_getElem? hkx)
      obtain ⟨f1, hI, hf1⟩ := hI
      have hcall := alike1_of hC h kk wr s f1 g x hxp.1 hxp.2.1 hI hbb
      have hz1 := hxp.2.2
      have Hk := Lib.hid (And.intro hkx (And.intro ht (And.intro hch (And.intro hz1 hf1))))
      clear hkx hbb ht hch hxp hI hn hz1 hf1
      cases he : !cmpN h.m.types x
      all_goals
        rw [he] at hcall
        have He := Lib.hid he
        clear he
        go_wp2_with fail
        refine hcall.mono fun e w1 hh => ?_
        obtain ⟨rfl, hI1, hc1⟩ := hh
        have HC := Lib.hid (And.intro hI1 hc1)
        clear hc1 hI1 hcall
        go_wp2_with fail
      · go_roundw
        case rel => exact ⟨k + 1, hlt, by simp, any_snoc Hk.out.1 He.out Hk.out.2.1, HC.out.1.then_ (by have := Hk.out.2.2.2.1; omega) Hk.out.2.2.2.2, Hk.out.2.2.1.trans HC.out.2⟩
        case measure => simp [intOf]; omega
      · go_ret
        exact ⟨k, rfl, by rw [any_at Hk.out.1 He.out]; simp, HC.out.1.then_ (by have := Hk.out.2.2.2.1; omega) Hk.out.2.2.2.2, Hk.out.2.2.1.trans HC.out.2⟩
    · have q1 : decide (k < l.length) = false := decide_eq_false hlt
      have Ht := Lib.hid (And.intro ht (And.intro hI hch))
      clear ht hI hch
      go_wp2_with fail
      go_ret
      have h1 := Ht.out.1
      rw [List.take_of_length_le (by omega)] at h1
      exact ⟨-1, rfl, by rw [h1]; rfl, Ht.out.2⟩
set_option maxRecDepth 100000 in
theorem contC_of {n : Nat} (hC : CmpC n) (h : Hd) (kk : Nat) (w : World) (s : VSt) (f : Int → Option Value) (z : Int) (g : Nat) (A1 : Option Addr) (c1 : Nat) (l : List Int) (hg : h.K g) (H : CkQ h kk w s f) (hb : Blk w g 62 #[.pointer (some ⟨h.p, 0, none⟩)]) (hl : IntsR h.B w (.slice A1 l.length c1) l)
    (hn : l.length ≤ 1024) (hlt : ∀ p ∈ l, (0 ≤ p ∧ p < (h.m.types.length : Int)) ∧ p.toNat < n ∧ p < z) :
    Calls Try.prog 23 #[.slice A1 l.length c1, .func (.func 79) #[] #[.pointer (some ⟨g, 0, none⟩)]] w (CmpRes h kk w s f z (l.any fun p => !cmpN h.m.types p)) := by
  have hcall := idxC_of hC h kk w s f z g A1 c1 l hg H hb hl hn hlt
  clear hg H hb hl hn hlt
  go_enter Try.func23, Try.ntmps23
  go_wp2_with fail
  refine hcall.mono fun e w1 hh => ?_
  obtain ⟨j, rfl, hj, hI, hc⟩ := hh
  have HJ := Lib.hid (And.intro hj (And.intro hI hc))
  clear hj hc hI hcall
  go_wp2_with fail
  go_ret
  exact ⟨by rw [← HJ.out.1]; rfl, HJ.out.2.1, HJ.out.2.2⟩
set_option maxRecDepth 100000 in
set_option maxHeartbeats 2000000 in
theorem alike_of {n : Nat} (hC : CmpC n) (h : Hd) (kk : Nat) (w : World) (s : VSt) (f : Int → Option Value) (t : Int) (ht : 0 ≤ t ∧ t < (h.m.types.length : Int)) (hn : t.toNat ≤ n) (H : CkQ h kk w s f) :
    Calls Try.prog 77 #[.pointer (some ⟨h.p, 0, none⟩), .int .i64 t] w (CmpRes h kk w s f t (cmpN h.m.types t)) := by
  have hF := H.toI.fix
  obtain ⟨b, o, A', c', hA, hl, _, _, hcell⟩ := hF.mod.shape ht
  have heq := cmpN_eq hF.mod.formed ht
  have hparts : ∀ p ∈ listN h.m.types t, (0 ≤ p ∧ p < (h.m.types.length : Int)) ∧ p.toNat < n ∧ p < t := fun p hp => by have := listN_lt hF.mod.formed ht hp; omega
  have hlen : (listN h.m.types t).length ≤ 1024 := by
    have hk : h.m.types[t.toNat]? = some h.m.types[t.toNat] := List.getElem?_eq_getElem (by omega)
    have := (formed_shape hF.mod.formed hk).2.2.1
    have hll : listN h.m.types t = h.m.types[t.toNat].list := by simp [listN, hk]
    rw [hll]; omega
  have hc1 := chg_alloc w (.cells #[.pointer (some ⟨h.p, 0, none⟩)] 62)
  obtain ⟨e0, e1, e2⟩ := hcell _ _ hc1 (fun _ _ _ h => h)
  have d0 := hc1.cell hF.d0 fun _ => id
  rw [hA] at d0
  obtain ⟨m, rfl⟩ : ∃ m : Nat, t = (m : Int) := ⟨t.toNat, by omega⟩
  have q1 : (m : Int) < (h.m.types.length : Int) := ht.2
  have q2 : m < h.m.types.length := by omega
  rw [Int.toNat_natCast] at e0 e1 e2
  obtain ⟨LL, hLL⟩ : ∃ LL, listN h.m.types (m : Int) = LL := ⟨_, rfl⟩
  obtain ⟨rs, hrs⟩ : ∃ rs, resN h.m.types (m : Int) = rs := ⟨_, rfl⟩
  obtain ⟨kd, hkd⟩ : ∃ kd, kindN h.m.types (m : Int) = kd := ⟨_, rfl⟩
  rw [hkd] at heq e0
  rw [hLL] at e1 hl hparts hlen heq
  rw [hrs] at e2
  have HZ := Lib.hid (And.intro H (And.intro hl (And.intro hparts (And.intro hlen (And.intro hc1 (And.intro (Blk.new w 62 #[.pointer (some ⟨h.p, 0, none⟩)]) (And.intro hA heq)))))))
  clear H hl hparts hlen hA heq hcell hF hLL hrs hkd hc1 ht hn
  obtain ⟨bb, hbb⟩ : ∃ bb, cmpN h.m.types (m : Int) = bb := ⟨_, rfl⟩
  have HBB := Lib.hid hbb
  clear hbb
  by_cases h9 : kd = 9
  · subst h9
    go_enter Try.func77, Try.ntmps77
    go_wp2_with fail
    go_ret
    exact ⟨by rw [HBB.out]; have := HZ.out.2.2.2.2.2.2.2; rw [HBB.out] at this; rw [this]; simp, ⟨f, HZ.out.1.same (HZ.out.2.2.2.2.1.alloc _), fun _ _ => rfl⟩, (HZ.out.2.2.2.2.1.alloc _).toMC⟩
  · skip
    by_cases h11 : kd = 11
    · subst h11
      go_enter Try.func77, Try.ntmps77
      go_wp2_with fail
      go_ret
      exact ⟨by rw [HBB.out]; have := HZ.out.2.2.2.2.2.2.2; rw [HBB.out] at this; rw [this]; simp, ⟨f, HZ.out.1.same (HZ.out.2.2.2.2.1.alloc _), fun _ _ => rfl⟩, (HZ.out.2.2.2.2.1.alloc _).toMC⟩
    · skip
      by_cases h13 : kd = 13
      · subst h13
        go_enter Try.func77, Try.ntmps77
        go_wp2_with fail
        go_ret
        exact ⟨by rw [HBB.out]; have := HZ.out.2.2.2.2.2.2.2; rw [HBB.out] at this; rw [this]; simp, ⟨f, HZ.out.1.same (HZ.out.2.2.2.2.1.alloc _), fun _ _ => rfl⟩, (HZ.out.2.2.2.2.1.alloc _).toMC⟩
      · skip
        by_cases h8 : kd = 8
        · subst h8
          have hzc := ((HZ.out.1.zone (.cells #[.pointer (some ⟨h.p, 0, none⟩)] 62)).same (chg_alloc _ (.cells #[.int .i64 8, .slice A' LL.length c', .int .i64 rs] 37)))
          have hlw := HZ.out.2.1.keep (HZ.out.2.2.2.2.1.alloc (.cells #[.int .i64 8, .slice A' LL.length c', .int .i64 rs] 37)) fun _ _ _ h => h
          have hcall := contC_of hC (h.zone w.heap.size) kk _ s f m w.heap.size A' c' LL (.inr rfl) hzc (HZ.out.2.2.2.2.2.1.alloc _) hlw HZ.out.2.2.2.1 HZ.out.2.2.1
          clear hzc hlw h9 h11 h13
          go_enter Try.func77, Try.ntmps77
          go_wp2_with fail
          refine hcall.mono fun e w1 hh => ?_
          obtain ⟨rfl, hI, hc⟩ := hh
          have HJ := Lib.hid (And.intro hI hc)
          clear hI hc hcall
          cases ha : LL.any fun p => !cmpN (h.zone w.heap.size).m.types p
          all_goals
            have HA := Lib.hid ha
            go_wp2_with fail
            go_ret
            refine ⟨?_, HJ.out.1.unzone, ((HZ.out.2.2.2.2.1.alloc _).toMC).trans HJ.out.2.unzone⟩
            have := HZ.out.2.2.2.2.2.2.2
            rw [this, List.all_eq_not_any_not]
            have h2 := HA.out
            have h3 : (LL.any fun x => !cmpN h.m.types x) = _ := h2
            rw [h3]
            simp
        · have g9 : (kd == 9) = false := by simpa using h9
          have g11 : (kd == 11) = false := by simpa using h11
          have g13 : (kd == 13) = false := by simpa using h13
          have g8 : (kd == 8) = false := by simpa using h8
          have HN := Lib.hid (And.intro h9 (And.intro h11 (And.intro h13 h8)))
          clear h9 h11 h13 h8
          go_enter Try.func77, Try.ntmps77
          go_wp2_with fail
          go_ret
          refine ⟨?_, ⟨f, HZ.out.1.same (HZ.out.2.2.2.2.1.alloc _), fun _ _ => rfl⟩, (HZ.out.2.2.2.2.1.alloc _).toMC⟩
          have := HZ.out.2.2.2.2.2.2.2
          rw [this, if_neg (by have := HN.out; omega), if_neg HN.out.2.2.2]
          rfl
/-- The map of what is known is another one, or has turned. -/
theorem CkR.setK {h : Hd} {k : Nat} {w w2 : World} {s : VSt} {As : Option Addr} {cs : Nat} {At : Option Addr} {ct : Nat} {Al : Option Addr} {cl : Nat} {kn kn2 : Value} (H : CkR h k w s As cs At ct Al cl kn) {M : Nat → Nat → Prop}
    (hc : Chg M w w2) (hM : ∀ b t, M b t → h.base ≤ b ∧ (t = 74 ∨ t = 0)) (hb : Blk w2 h.p 74 #[.slice h.A1 h.m.types.length h.c1, .slice h.A2 h.m.funcs.length h.c2, .int .i64 h.f.params, .slice h.A3 h.f.locals.length h.c3, .slice h.A4 h.f.caps.length h.c4, .int .i64 h.f.res, .slice h.A5 h.f.code.length h.c5,
    .int .i64 h.pos, .slice As s.stack.length cs, .slice At s.taken.length ct, .slice Al s.left.length cl, h.pl, kn2, h.dn]) (hk : KnR h w2 kn2) : CkR h k w2 s As cs At ct Al cl kn2 := by
  have hB := H.mod.le
  have hl : LetsM M h.B := fun b t hb hm => by have := (hM b t hm).1; omega
  have hi : ∀ b, M b 3 → False := fun b hm => by have := (hM b _ hm).2; simp at this
  exact {
    blk := hb
    stack := H.stack.keep hc (fun b _ => hi b) fun _ _ h => h
    taken := H.taken.keep hc (fun b _ => hi b) fun _ _ h => h
    left := H.left.keep hc (fun b _ => hi b) fun _ _ h => h
    ks := H.ks, kt := H.kt, kl := H.kl, dst := H.dst, dsl := H.dsl, dtl := H.dtl
    known := hk
    mod := H.mod.far hc hl
    ps := H.ps, pt := H.pt, plf := H.plf, place := H.place
    low := fun b hb => Nat.lt_of_lt_of_le (H.low b hb) hc.size
    bw := Nat.le_trans H.bw hc.size }
theorem CkI.split {h : Hd} {k : Nat} {w : World} {s : VSt} (H : CkI h k w s) : (∃ f, CkQ h k w s f) ∨ (w.cell? ⟨h.p, 12, none⟩ = some (.map none) ∧ w.frozen? ⟨h.p, 12, none⟩ = false ∧ h.p < w.heap.size ∧
    CkQ h k ((w.alloc (.map #[] 0)).setCell ⟨h.p, 12, none⟩ (.map (some w.heap.size))) s (fun _ => none) ∧ Chg (MC h) w ((w.alloc (.map #[] 0)).setCell ⟨h.p, 12, none⟩ (.map (some w.heap.size)))) := by
  obtain ⟨As, cs, At, ct, Al, cl, kn, H⟩ := H
  obtain ⟨f, hf⟩ := H.known
  rcases hf with ⟨rfl, rfl⟩ | ⟨b, mm, rfl, h1, h2, h3, h4⟩
  · have hlow := H.low
    have hnk : ¬ h.K w.heap.size := fun hh => by have := hlow _ hh; omega
    have ha := chg_alloc w (.map #[] 0)
    have hb1 := ha.blk H.blk id
    have hs := chg_set (j := 12) hb1 (.map (some w.heap.size))
    have hc : Chg (fun b t => b = h.p ∧ t = 74) w ((w.alloc (.map #[] 0)).setCell ⟨h.p, 12, none⟩ (.map (some w.heap.size))) := (ha.mono fun _ _ _ h => h.elim : Chg (fun b t => b = h.p ∧ t = 74) w _).trans hs
    have hm : IMap ((w.alloc (.map #[] 0)).setCell ⟨h.p, 12, none⟩ (.map (some w.heap.size))) w.heap.size 0 0 (fun _ => none) := (IMap.made w).keep hs fun hh => absurd hh.2 (by decide)
    have hct : cntK (fun _ => none) h.m.types.length = 0 := by simp [cntK]
    have hk : KnF h ((w.alloc (.map #[] 0)).setCell ⟨h.p, 12, none⟩ (.map (some w.heap.size))) (.map (some w.heap.size)) (fun _ => none) := .inr ⟨w.heap.size, 0, rfl, by rw [hct]; exact hm, H.bw, hnk, fun _ _ _ hh => by cases hh⟩
    refine .inr ⟨by simpa using H.blk.cell 12, H.blk.frozen 12, H.blk.lt, ⟨w.heap.size, 0, ⟨As, cs, At, ct, Al, cl, H.setK hc (fun b t hm => ⟨by rw [hm.1]; exact H.place.1, .inl hm.2⟩) ?_ ⟨_, hk⟩⟩, by rw [hct]; exact hm, H.bw, hnk, fun _ _ _ hh => by cases hh⟩, hc.mono fun b t _ hm => by rw [hm.1]; exact H.place⟩
    have := hb1.set_ 12 (.map (some w.heap.size))
    simpa using this
  · exact .inl ⟨f, b, mm, ⟨As, cs, At, ct, Al, cl, H⟩, h1, h2, h3, h4⟩
/-- One more is known. -/
theorem CkM.put {h : Hd} {k : Nat} {w : World} {s : VSt} {f : Int → Option Value} {b mm : Nat} (H : CkM h k w s f b mm) {t : Int} (ht : 0 ≤ t ∧ t < (h.m.types.length : Int)) (hl : h.m.types.length ≤ 256) (hn : f t = none) :
    ∃ w', (Instr.mapUpdate 71 (.map (some b)) (.int .i64 t) (.bool (cmpN h.m.types t))).run Try.prog w = .ok () w' ∧ CkM h k w' s (updI f t (.bool (cmpN h.m.types t))) b (mm + 1) ∧ Chg (MC h) w w' := by
  have hm0 : 256 < maxLen := by decide
  have hml : cntK f h.m.types.length < maxLen := by have := cnt_le f h.m.types.length; omega
  have hI : I64 t := ⟨by omega, by omega⟩
  obtain ⟨w', hrun, h1, h2⟩ := H.map.put (t := 71) (e := 4) Try.underlying71 hml hI (.bool (cmpN h.m.types t))
  rw [hn] at h1
  have hcnt : cntK (updI f t (.bool (cmpN h.m.types t))) h.m.types.length = cntK f h.m.types.length + 1 := by
    obtain ⟨n, rfl⟩ : ∃ n : Nat, t = (n : Int) := ⟨t.toNat, by omega⟩
    rw [cnt_upd _ _ hn, if_pos (by omega)]
  have hval : ∀ x v, I64 x → updI f t (.bool (cmpN h.m.types t)) x = some v → v = .bool (cmpN h.m.types x) := fun x v hx hv => by
    by_cases he : x = t
    · subst he
      rw [updI_same] at hv
      exact (Option.some.inj hv).symm
    · rw [updI_other f _ he] at hv
      exact H.val x v hx hv
  refine ⟨w', hrun, ⟨?_, by rw [hcnt]; exact h1, H.ge, H.nk, hval⟩, h2.mono fun b' t' _ hm => by rw [hm.1]; exact ⟨H.ge, H.nk⟩⟩
  obtain ⟨As, cs, At, ct, Al, cl, h3⟩ := H.q
  refine ⟨As, cs, At, ct, Al, cl, h3.setK h2 (fun b' t' hm => ⟨by rw [hm.1]; exact H.ge, .inr hm.2⟩) (h2.blk h3.blk fun hm => absurd hm.2 (by decide)) ⟨_, .inr ⟨b, _, rfl, by rw [hcnt]; exact h1, H.ge, H.nk, hval⟩⟩⟩
set_option maxRecDepth 100000 in
set_option maxHeartbeats 2000000 in
theorem compares_in {n : Nat} (hC : CmpC n) (h : Hd) (kk : Nat) (w : World) (s : VSt) (f : Int → Option Value) (t : Int) (ht : 0 ≤ t ∧ t < (h.m.types.length : Int)) (hn : t.toNat ≤ n) (H : CkQ h kk w s f) :
    Calls Try.prog 68 #[.pointer (some ⟨h.p, 0, none⟩), .int .i64 t] w (CmpRes h kk w s f (t + 1) (cmpN h.m.types t)) := by
  have hF := H.toI.fix
  have hl := (formed_len hF.mod.formed).1
  have hI : I64 t := ⟨by omega, by omega⟩
  have HT := Lib.hid (And.intro ht (And.intro hn (And.intro hl hI)))
  have hnil : ∀ W b, (binOp .eql 71 (.map (some b)) (.map none)).run Try.prog W = .ok (.bool false) W := fun W b => run_eql_map_nil W _ _ _ (some b) Try.underlying71
  clear hF hl hI ht hn
  obtain ⟨b, mm, hm⟩ := H
  have d12 := hm.d12
  have hlook := hm.map.look_ok (t := 71) (e := 4) Try.underlying71 (z := .bool false) rfl HT.out.2.2.2
  cases hq : f t with
  | some v =>
    have hv := hm.val t v HT.out.2.2.2 hq
    subst hv
    simp only [hq, Option.getD_some, Option.isSome_some] at hlook
    have HQ := Lib.hid hm
    clear hm hq
    go_enter Try.func68, Try.ntmps68
    go_wp2_with fail
    go_ret
    exact ⟨rfl, ⟨f, ⟨b, mm, HQ.out⟩, fun _ _ => rfl⟩, Chg.refl _ _⟩
  | none =>
    simp only [hq, Option.getD_none, Option.isSome_none] at hlook
    have hcall := alike_of hC h kk w s f t HT.out.1 HT.out.2.1 ⟨b, mm, hm⟩
    have HQ := Lib.hid (And.intro hq hC)
    clear hm hq hC
    go_enter Try.func68, Try.ntmps68
    go_wp2_with fail
    refine hcall.mono fun e w1 hh => ?_
    obtain ⟨rfl, ⟨f1, ⟨b1, mm1, hm1⟩, hf1⟩, hc1⟩ := hh
    obtain ⟨w2, hput, hm2, hc2⟩ := hm1.put HT.out.1 HT.out.2.2.1 ((hf1 t (Int.le_refl t)).trans HQ.out.1)
    have d12' := hm1.d12
    have HP := Lib.hid (And.intro hm2 (And.intro (hc1.trans hc2) hf1))
    clear hm2 hc1 hc2 hf1 hcall hm1
    generalize cmpN h.m.types t = bb at *
    go_wp2_with fail
    go_ret
    refine ⟨rfl, ⟨_, ⟨_, _, HP.out.1⟩, fun x hx => ?_⟩, HP.out.2.1⟩
    rw [updI_other f1 _ (by omega)]
    exact HP.out.2.2 x (by omega)
theorem cmpC_all : ∀ n, CmpC n
  | 0 => fun _ _ _ _ _ _ _ hn _ => absurd hn (Nat.not_lt_zero _)
  | n + 1 => fun h k w s f t ht hn H => compares_in (cmpC_all n) h k w s f t ht (by omega) H
/-- compares, from any state of the checker. -/
def CmpO (h : Hd) (k : Nat) (w : World) (s : VSt) (b : Bool) (e : Ending) (w' : World) : Prop := e = .returned (.bool b) ∧ CkI h k w' s ∧ Chg (MC h) w w'
set_option maxRecDepth 100000 in
set_option maxHeartbeats 2000000 in
theorem compares_any (h : Hd) (kk : Nat) (w : World) (s : VSt) (t : Int) (ht : 0 ≤ t ∧ t < (h.m.types.length : Int)) (H : CkI h kk w s) :
    Calls Try.prog 68 #[.pointer (some ⟨h.p, 0, none⟩), .int .i64 t] w (CmpO h kk w s (cmpN h.m.types t)) := by
  have hl := (formed_len H.fix.mod.formed).1
  have hI : I64 t := ⟨by omega, by omega⟩
  rcases H.split with ⟨f, hq⟩ | ⟨d12, f12, hlt, hq, hch⟩
  · refine (cmpC_all (t.toNat + 1) h kk w s f t ht (by omega) hq).mono fun e w1 hh => ?_
    obtain ⟨rfl, ⟨f1, h1, _⟩, hc⟩ := hh
    exact ⟨rfl, h1.toI, hc⟩
  · have hnil : ∀ W, (binOp .eql 71 (.map none) (.map none)).run Try.prog W = .ok (.bool true) W := fun W => run_eql_map_nil W _ _ _ none Try.underlying71
    rw [World.setCell_alloc_past (w := w) (.map #[] 0) h.p 12 (.map (some w.heap.size)) hlt] at hq hch
    have HT := Lib.hid (And.intro ht (And.intro hl (And.intro hI (And.intro hq hch))))
    obtain ⟨b, mm, hm⟩ := hq
    have e12 := hm.d12
    have hlook := hm.map.look_ok (t := 71) (e := 4) Try.underlying71 (z := .bool false) rfl hI
    simp only [Option.getD_none, Option.isSome_none] at hlook
    have hcall := alike_of (cmpC_all t.toNat) h kk _ s _ t ht (Nat.le_refl _) HT.out.2.2.2.1
    clear hm hl hI ht hch H
    have hne : h.p ≠ w.heap.size := by omega
    have hmm := @run_makeMap Try.prog
    go_enter Try.func68, Try.ntmps68
    go_wp2_with fail
    refine hcall.mono fun e w1 hh => ?_
    obtain ⟨rfl, ⟨f1, ⟨b1, mm1, hm1⟩, hf1⟩, hc1⟩ := hh
    obtain ⟨w2, hput, hm2, hc2⟩ := hm1.put HT.out.1 HT.out.2.1 (hf1 t (Int.le_refl t))
    have d12' := hm1.d12
    have HP := Lib.hid (And.intro hm2 (And.intro (hc1.trans hc2) hf1))
    clear hm2 hc1 hc2 hf1 hcall hm1
    generalize cmpN h.m.types t = bb at *
    go_wp2_with fail
    go_ret
    exact ⟨rfl, CkQ.toI ⟨_, _, HP.out.1⟩, HT.out.2.2.2.2.trans HP.out.2.1⟩
end Go.Proofs.Ytdegfnejhamejaa
namespace Go.Proofs.Ytdegfnejhamejaa
open Go.RowKit
set_option linter.unusedVariables false
set_option linter.unusedSimpArgs false

theorem SlR.take_ {α : Type} {B e size n c i : Nat} {R : World → List Value → α → Prop} {w : World} {A : Option Addr} {l : List α} (h : SlR B e size R w (.slice A n c) l) (hi : i ≤ n) : SlR B e size R w (.slice A i c) (l.take i) := by
  obtain ⟨A', c', hv, hl, h⟩ := h
  injection hv with h1 h2 h3
  subst h1 h2 h3
  have hlen : (l.take i).length = i := by simp; omega
  refine ⟨A, c, by rw [hlen], by omega, fun h0 => ?_⟩
  obtain ⟨b, o, hA, hL, hlt, hk⟩ := h (by omega)
  refine ⟨b, o, hA, hL, hlt, fun k x hx => hk k x ?_⟩
  rw [List.getElem?_take] at hx
  split at hx
  · exact hx
  · cases hx
def ValS (m : ModD) (t : Int) : Prop := 0 ≤ t ∧ t < (m.types.length : Int)
/-- The stack holds shapes, and not too many. -/
def StV (m : ModD) (st : List Int) : Prop := st.length ≤ 64 ∧ ∀ t ∈ st, ValS m t
theorem StV.pop {m : ModD} {s : VSt} {r : Int × VSt} (h : StV m s.stack) (hr : popN s = some r) : StV m r.2.stack ∧ ValS m r.1 := by
  rcases List.eq_nil_or_concat s.stack with hn | ⟨l, t, hl⟩
  · rw [popN_nil hn] at hr; cases hr
  · rw [List.concat_eq_append] at hl
    rw [popN_snoc hl] at hr
    injection hr with hr
    subst hr
    rw [hl] at h
    refine ⟨⟨?_, fun x hx => h.2 x (by simp [show x ∈ l from hx])⟩, h.2 t (by simp)⟩
    have := h.1
    simp at this
    show l.length ≤ 64
    omega
theorem needN_false (s : VSt) : needN false s = none := rfl
theorem needN_some {b : Bool} {s s' : VSt} (h : needN b s = some s') : b = true ∧ s' = s := by
  unfold needN at h
  split at h
  · rename_i hb
    injection h with h
    exact ⟨hb, h.symm⟩
  · cases h
theorem StV.push {m : ModD} {s s' : VSt} {t : Int} (h : StV m s.stack) (ht : ValS m t) (hr : pushN t s = some s') : StV m s'.stack := by
  unfold pushN at hr
  obtain ⟨hb, rfl⟩ := needN_some hr
  have hb := of_decide_eq_true hb
  refine ⟨by simp only [List.length_append, List.length_singleton] at hb ⊢; omega, fun x hx => ?_⟩
  rcases List.mem_append.1 hx with hx | hx
  · exact h.2 x hx
  · rw [List.mem_singleton.1 hx]; exact ht
theorem StV.need {m : ModD} {b : Bool} {s s' : VSt} (h : StV m s.stack) (hr : needN b s = some s') : StV m s'.stack := by rw [(needN_some hr).2]; exact h
theorem StV.want {m : ModD} {s s' : VSt} {t : Int} (h : StV m s.stack) (hr : wantN t s = some s') : StV m s'.stack := by
  unfold wantN at hr
  rcases hq : popN s with _ | r
  · rw [hq] at hr; cases hr
  · rw [hq] at hr
    exact (h.pop hq).1.need hr
theorem StV.wantsR {m : ModD} : ∀ {l : List Int} {s s' : VSt}, StV m s.stack → wantsR l s = some s' → StV m s'.stack
  | [], s, s', h, hr => by injection hr with hr; rw [← hr]; exact h
  | t :: l, s, s', h, hr => by
    rw [Go.Proofs.Ytdegfnejhamejaa.wantsR] at hr
    rcases hq : wantN t s with _ | r
    · rw [hq] at hr; cases hr
    · rw [hq] at hr
      exact StV.wantsR (h.want hq) hr
theorem StV.res {m : ModD} {s s' : VSt} {t : Int} (h : StV m s.stack) (ht : 0 ≤ t ∧ t ≤ (m.types.length : Int)) (hr : resS t s = some s') : StV m s'.stack := by
  unfold resS at hr
  split at hr
  · exact h.push ⟨by omega, by omega⟩ hr
  · injection hr with hr; rw [← hr]; exact h
theorem is_valid {m : ModD} {t k : Int} {s s' : VSt} (h : isKN m.types t k s = some s') (hk : k ≠ 0) : ValS m t := kind_in (needN_some h).1 hk
theorem whole_valid {m : ModD} {t : Int} {s s' : VSt} (h : wholeN m.types t s = some s') : ValS m t := by
  have h1 := (needN_some h).1
  refine kind_in (k := kindN m.types t) (by simp) fun h0 => ?_
  rw [h0] at h1
  exact absurd h1 (by decide)

structure Mid (h : Hd) (w : World) (x : InstrD) (A : Option Addr) (c k : Nat) (w1 : World) (s : VSt) : Prop where
  ck : CkI (h.zone w.heap.size) k w1 s
  chg : Chg (MC h) w w1
  box : Blk w1 w.heap.size 50 #[.int .i64 x.op, .int .i64 x.a, .int .i64 x.b, .int .u64 (x.n : Int), .slice A x.cases.length c]
  val : StV h.m s.stack
section
variable {h : Hd} {w w1 w2 : World} {x : InstrD} {A : Option Addr} {c k k' : Nat} {s s' : VSt} {e : Ending} {v : Value}
theorem Mid.start (x : InstrD) (A : Option Addr) (c : Nat) (H : CkI h k w s) (HV : StV h.m s.stack) : Mid h w x A c k (w.alloc (.cells #[.int .i64 x.op, .int .i64 x.a, .int .i64 x.b, .int .u64 (x.n : Int), .slice A x.cases.length c] 50)) s :=
  ⟨H.zone _, (chg_alloc w _).mono fun _ _ _ h => h.elim, Blk.new w _ _, HV⟩
theorem Mid.same (H : Mid h w x A c k w1 s) (hc : Chg (fun _ _ => False) w1 w2) : Mid h w x A c k w2 s := ⟨H.ck.same hc, H.chg.trans hc.toMC, hc.blk H.box id, H.val⟩
theorem Mid.less (H : Mid h w x A c k w1 s) (hk : k' ≤ k) : Mid h w x A c k' w1 s := ⟨H.ck.less hk, H.chg, H.box, H.val⟩
theorem Mid.go (H : Mid h w x A c k w1 s) (hk : CkI (h.zone w.heap.size) k' w2 s') (hc : Chg (MC (h.zone w.heap.size)) w1 w2) (hv : StV h.m s'.stack) : Mid h w x A c k' w2 s' := ⟨hk, H.chg.trans hc.unzone, hc.zblk H.box, hv⟩
theorem Mid.cells (H : Mid h w x A c k w1 s) : w1.cell? ⟨w.heap.size, 0, none⟩ = some (.int .i64 x.op) ∧ w1.cell? ⟨w.heap.size, 1, none⟩ = some (.int .i64 x.a) ∧ w1.cell? ⟨w.heap.size, 2, none⟩ = some (.int .i64 x.b) ∧ w1.cell? ⟨w.heap.size, 3, none⟩ = some (.int .u64 (x.n : Int)) ∧ w1.cell? ⟨w.heap.size, 4, none⟩ = some (.slice A x.cases.length c) :=
  ⟨by simpa using H.box.cell 0, by simpa using H.box.cell 1, by simpa using H.box.cell 2, by simpa using H.box.cell 3, by simpa using H.box.cell 4⟩
theorem Mid.fix (H : Mid h w x A c k w1 s) : CkF h w1 := H.ck.fix.unzone
theorem Mid.i64 (H : Mid h w x A c k w1 s) {t : Int} (ht : ValS h.m t) : I64 t := by
  have := (formed_len H.fix.mod.formed).1
  have h1 := ht.1
  have h2 := ht.2
  exact ⟨by omega, by omega⟩
/-- What is behind a call within an instruction. -/
def OutM (h : Hd) (w : World) (x : InstrD) (A : Option Addr) (c k : Nat) (o : Option VSt) (v : Value) (e : Ending) (w2 : World) : Prop := match o with
  | some s => e = .returned v ∧ Mid h w x A c k w2 s
  | none => e = wrongE h ∧ Chg (MC h) w w2
theorem OutM.none_ {o : Option VSt} (H : OutM h w x A c k o v e w2) (ho : o = none) : e = wrongE h ∧ Chg (MC h) w w2 := by subst ho; exact H
theorem OutM.some_ {o : Option VSt} (H : OutM h w x A c k o v e w2) (ho : o = some s) : e = .returned v ∧ Mid h w x A c k w2 s := by subst ho; exact H
def OutV (h : Hd) (w : World) (x : InstrD) (A : Option Addr) (c k : Nat) (o : Option (Int × VSt)) (e : Ending) (w2 : World) : Prop := match o with
  | some r => e = .returned (.int .i64 r.1) ∧ Mid h w x A c k w2 r.2 ∧ ValS h.m r.1
  | none => e = wrongE h ∧ Chg (MC h) w w2
theorem OutV.none_ {o : Option (Int × VSt)} (H : OutV h w x A c k o e w2) (ho : o = none) : e = wrongE h ∧ Chg (MC h) w w2 := by subst ho; exact H
theorem OutV.some_ {o : Option (Int × VSt)} {t : Int} (H : OutV h w x A c k o e w2) (ho : o = some (t, s)) : e = .returned (.int .i64 t) ∧ Mid h w x A c k w2 s ∧ ValS h.m t := by subst ho; exact H
def OutS (h : Hd) (w : World) (x : InstrD) (A : Option Addr) (c k : Nat) (kk : Int) (o : Option (Int × VSt)) (e : Ending) (w2 : World) : Prop := match o with
  | some r => (∃ A' c' rs, e = .returned (.agg #[.int .i64 kk, .slice A' (listN h.m.types r.1).length c', .int .i64 rs]) ∧ IntsR h.B w2 (.slice A' (listN h.m.types r.1).length c') (listN h.m.types r.1)) ∧ Mid h w x A c k w2 r.2 ∧ ValS h.m r.1 ∧ kindN h.m.types r.1 = kk
  | none => e = wrongE h ∧ Chg (MC h) w w2
theorem OutS.none_ {o : Option (Int × VSt)} {kk : Int} (H : OutS h w x A c k kk o e w2) (ho : o = none) : e = wrongE h ∧ Chg (MC h) w w2 := by subst ho; exact H
theorem OutS.some_ {o : Option (Int × VSt)} {t kk : Int} (H : OutS h w x A c k kk o e w2) (ho : o = some (t, s)) :
    ∃ A' c' rs, e = .returned (.agg #[.int .i64 kk, .slice A' (listN h.m.types t).length c', .int .i64 rs]) ∧ IntsR h.B w2 (.slice A' (listN h.m.types t).length c') (listN h.m.types t) ∧ Mid h w x A c k w2 s ∧ ValS h.m t ∧ kindN h.m.types t = kk := by
  subst ho
  obtain ⟨⟨A', c', rs, h1, h2⟩, h3⟩ := H
  exact ⟨A', c', rs, h1, h2, h3⟩
/-- What an instruction answers. -/
def OutO (h : Hd) (k : Nat) (w : World) (o : Option (Bool × VSt)) (e : Ending) (w' : World) : Prop := Chg (MC h) w w' ∧ match o with
  | some r => e = .returned (.bool r.1) ∧ CkI h k w' r.2 ∧ StV h.m r.2.stack
  | none => e = wrongE h
theorem OutO.bad {o : Option (Bool × VSt)} (hc : Chg (MC h) w w2) (ho : o = none) : OutO h k w o (wrongE h) w2 := by subst ho; exact ⟨hc, rfl⟩
theorem OutO.good {o : Option (Bool × VSt)} {b : Bool} (H : Mid h w x A c k w2 s) (ho : o = some (b, s)) : OutO h k w o (.returned (.bool b)) w2 := by subst ho; exact ⟨H.chg, rfl, H.ck.unzone, H.val⟩
theorem OutO.none_ {o : Option (Bool × VSt)} (H : OutO h k w o e w2) (ho : o = none) : e = wrongE h ∧ Chg (MC h) w w2 := by subst ho; exact ⟨H.2, H.1⟩
theorem OutO.some_ {o : Option (Bool × VSt)} {b : Bool} (H : OutO h k w o e w2) (ho : o = some (b, s)) : e = .returned (.bool b) ∧ CkI h k w2 s ∧ StV h.m s.stack ∧ Chg (MC h) w w2 := by subst ho; exact ⟨H.2.1, H.2.2.1, H.2.2.2, H.1⟩
theorem OutO.as {o o' : Option (Bool × VSt)} (H : OutO h k w o e w2) (ho : o = o') : OutO h k w o' e w2 := ho ▸ H
theorem pure_mid {b : Bool} (H : Mid h w x A c k w1 s) (hp : Pure (h.zone w.heap.size) w1 b v e w2) : OutM h w x A c k (needN b s) v e w2 := by
  cases b
  · obtain ⟨rfl, rfl⟩ := hp.bad rfl
    exact ⟨rfl, H.chg⟩
  · obtain ⟨rfl, rfl⟩ := hp.ok rfl
    exact ⟨rfl, H⟩
theorem mid_fields (a b n : Bool) (H : Mid h w x A c k w1 s) : Calls Try.prog 60 #[.pointer (some ⟨h.p, 0, none⟩), instrV x A c, .bool a, .bool b, .bool n] w1 (OutM h w x A c k (fieldsN x a b n s) (.tuple #[])) :=
  (fields_any (h.zone w.heap.size) w1 x A c a b n H.ck.fix).mono fun e w2 hp => by
    rw [fieldsN_eq]
    cases hb : fieldsB x a b n
    · obtain ⟨rfl, hc⟩ := hp.bad hb
      exact ⟨rfl, H.chg.trans hc.toMC⟩
    · obtain ⟨rfl, hc⟩ := hp.ok hb
      exact ⟨rfl, H.same hc⟩
theorem mid_need (b : Bool) (H : Mid h w x A c k w1 s) : Calls Try.prog 52 #[.pointer (some ⟨h.p, 0, none⟩), .bool b] w1 (OutM h w x A c k (needN b s) (.tuple #[])) :=
  (need_any (h.zone w.heap.size) w1 b H.ck.fix.d7).mono fun _ _ hp => pure_mid H hp
theorem mid_whole (t : Int) (H : Mid h w x A c k w1 s) : Calls Try.prog 63 #[.pointer (some ⟨h.p, 0, none⟩), .int .i64 t] w1 (OutM h w x A c k (wholeN h.m.types t s) (.int .i64 t)) :=
  (whole_any (h.zone w.heap.size) w1 t H.ck.fix).mono fun _ _ hp => pure_mid H hp
theorem mid_is (t kk : Int) (H : Mid h w x A c k w1 s) : Calls Try.prog 65 #[.pointer (some ⟨h.p, 0, none⟩), .int .i64 t, .int .i64 kk] w1 (OutM h w x A c k (isKN h.m.types t kk s) (.tuple #[])) :=
  (is_any (h.zone w.heap.size) w1 t kk H.ck.fix).mono fun _ _ hp => pure_mid H hp
theorem mid_local (t : Int) (H : Mid h w x A c k w1 s) : Calls Try.prog 69 #[.pointer (some ⟨h.p, 0, none⟩), .int .i64 t] w1 (OutM h w x A c k (localN h.f t s) (.int .i64 (locV h.f t))) :=
  (local_any (h.zone w.heap.size) w1 t H.ck.fix).mono fun _ _ hp => pure_mid H hp
theorem mid_place (t : Int) (H : Mid h w x A c k w1 s) : Calls Try.prog 75 #[.pointer (some ⟨h.p, 0, none⟩), .int .i64 t] w1 (OutM h w x A c k (placeN h.f t s) (.tuple #[])) :=
  (place_any (h.zone w.heap.size) w1 t H.ck.fix).mono fun _ _ hp => pure_mid H hp
theorem mid_kind (t : Int) (H : Mid h w x A c k w1 s) : Calls Try.prog 62 #[.pointer (some ⟨h.p, 0, none⟩), .int .i64 t] w1 fun e w' => e = .returned (.int .i64 (kindN h.m.types t)) ∧ w' = w1 := kind_any (h.zone w.heap.size) w1 t H.ck.fix
theorem mid_pop (H : Mid h w x A c (k + 1) w1 s) : Calls Try.prog 66 #[.pointer (some ⟨h.p, 0, none⟩)] w1 (OutV h w x A c k (popN s)) :=
  (pop_any (h.zone w.heap.size) k w1 s H.ck).mono fun e w2 hp => by
    rcases hq : popN s with _ | ⟨t, s1⟩
    · obtain ⟨rfl, hc⟩ := hp.none_ hq
      exact ⟨rfl, H.chg.trans hc.unzone⟩
    · obtain ⟨rfl, hI, hk, hc⟩ := hp.some_ hq
      have hv := H.val.pop hq
      exact ⟨rfl, H.go hk hc hv.1, hv.2⟩
theorem mid_push (t : Int) (ht : ValS h.m t) (H : Mid h w x A c (k + 2) w1 s) : Calls Try.prog 64 #[.pointer (some ⟨h.p, 0, none⟩), .int .i64 t] w1 (OutM h w x A c k (pushN t s) (.tuple #[])) :=
  (push_any (h.zone w.heap.size) k w1 s t (H.i64 ht) H.ck).mono fun e w2 hp => by
    rcases hq : pushN t s with _ | s1
    · obtain ⟨rfl, hc⟩ := hp.none_ hq
      exact ⟨rfl, H.chg.trans hc.unzone⟩
    · obtain ⟨rfl, hk, hc⟩ := hp.some_ hq
      exact ⟨rfl, H.go hk hc (H.val.push ht hq)⟩
theorem mid_want (t : Int) (H : Mid h w x A c (k + 1) w1 s) : Calls Try.prog 67 #[.pointer (some ⟨h.p, 0, none⟩), .int .i64 t] w1 (OutM h w x A c k (wantN t s) (.tuple #[])) :=
  (want_any (h.zone w.heap.size) k w1 s t H.ck).mono fun e w2 hp => by
    rcases hq : wantN t s with _ | s1
    · obtain ⟨rfl, hc⟩ := hp.none_ hq
      exact ⟨rfl, H.chg.trans hc.unzone⟩
    · obtain ⟨rfl, hk, hc⟩ := hp.some_ hq
      exact ⟨rfl, H.go hk hc (H.val.want hq)⟩
theorem mid_res (t : Int) (ht : 0 ≤ t ∧ t ≤ (h.m.types.length : Int)) (H : Mid h w x A c (k + 2) w1 s) : Calls Try.prog 73 #[.pointer (some ⟨h.p, 0, none⟩), .int .i64 t] w1 (OutM h w x A c k (resS t s) (.tuple #[])) :=
  (res_any (h.zone w.heap.size) k w1 s t ⟨ht.1, by have := (formed_len H.fix.mod.formed).1; omega⟩ H.ck).mono fun e w2 hp => by
    rcases hq : resS t s with _ | s1
    · obtain ⟨rfl, hc⟩ := hp.none_ hq
      exact ⟨rfl, H.chg.trans hc.unzone⟩
    · obtain ⟨rfl, hk, hc⟩ := hp.some_ hq
      exact ⟨rfl, H.go hk hc (H.val.res ht hq)⟩
theorem mid_wants {A' : Option Addr} {c' : Nat} (l : List Int) (hl : IntsR h.B w1 (.slice A' l.length c') l) (hn : l.length ≤ 1024) (H : Mid h w x A c (k + 1024) w1 s) : Calls Try.prog 70 #[.pointer (some ⟨h.p, 0, none⟩), .slice A' l.length c'] w1 (OutM h w x A c k (wantsN l s) (.tuple #[])) :=
  (wants_any (h.zone w.heap.size) k w1 s A' c' l hl hn H.ck).mono fun e w2 hp => by
    rcases hq : wantsN l s with _ | s1
    · obtain ⟨rfl, hc⟩ := hp.none_ hq
      exact ⟨rfl, H.chg.trans hc.unzone⟩
    · obtain ⟨rfl, hk, hc⟩ := hp.some_ hq
      exact ⟨rfl, H.go hk hc (H.val.wantsR hq)⟩
theorem mid_compares (t : Int) (ht : ValS h.m t) (H : Mid h w x A c k w1 s) : Calls Try.prog 68 #[.pointer (some ⟨h.p, 0, none⟩), .int .i64 t] w1 fun e w2 => e = .returned (.bool (cmpN h.m.types t)) ∧ Mid h w x A c k w2 s :=
  (compares_any (h.zone w.heap.size) k w1 s t ht H.ck).mono fun e w2 hp => by
    obtain ⟨rfl, hk, hc⟩ := hp
    exact ⟨rfl, H.go hk hc H.val⟩
theorem mid_pops (kk : Int) (hkk : kk ≠ 0) (H : Mid h w x A c (k + 1) w1 s) : Calls Try.prog 71 #[.pointer (some ⟨h.p, 0, none⟩), .int .i64 kk] w1 (OutS h w x A c k kk (popsN h.m.types kk s)) :=
  (pops_any (h.zone w.heap.size) k w1 s kk hkk H.ck).mono fun e w2 hp => by
    rcases hq : popsN h.m.types kk s with _ | ⟨t, s1⟩
    · obtain ⟨rfl, hc⟩ := hp.none_ hq
      exact ⟨rfl, H.chg.trans hc.unzone⟩
    · obtain ⟨A', c', rs, rfl, hl, ht, hk, hc⟩ := hp.some_ hq
      have hv : StV h.m s1.stack ∧ kindN h.m.types t = kk := by
        unfold popsN at hq
        rcases hq1 : popN s with _ | r
        · rw [hq1] at hq; cases hq
        · rw [hq1, Option.bind_some, Option.map_eq_some_iff] at hq
          obtain ⟨s2, h1, h2⟩ := hq
          injection h2 with h2 h3
          subst h2 h3
          exact ⟨(H.val.pop hq1).1.need h1, by have := (needN_some h1).1; simpa using this⟩
      exact ⟨⟨A', c', rs, rfl, hl⟩, H.go hk hc hv.1, ht, hv.2⟩
theorem nz_valid {m : ModD} {t : Int} (hk : kindN m.types t ≠ 0) : ValS m t := kind_in (k := kindN m.types t) (by simp) hk
theorem formed_func {m : ModD} (hm : formedMod m = true) {f : FuncD} (hf : f ∈ m.funcs) :
    (∀ t ∈ f.locals, ValS m t) ∧ (∀ t ∈ f.caps, ValS m t) ∧ f.locals.length ≤ 1024 ∧ f.caps.length ≤ 1024 ∧ 0 ≤ f.params ∧ f.params ≤ (f.locals.length : Int) ∧ 0 ≤ f.res ∧ f.res ≤ (m.types.length : Int) := by
  unfold formedMod at hm
  simp only [Bool.and_eq_true, List.all_eq_true] at hm
  obtain ⟨⟨⟨⟨_, h1⟩, _⟩, _⟩, _⟩ := hm
  have h2 := h1 f hf
  simp only [funcOk, idsOk, partsIn, Bool.and_eq_true, decide_eq_true_eq, List.all_eq_true] at h2
  obtain ⟨⟨⟨⟨⟨a, b⟩, c⟩, d⟩, e⟩, g⟩ := h2
  exact ⟨fun t ht => by have := a.2 t ht; simpa [ValS] using this, fun t ht => by have := b.2 t ht; simpa [ValS] using this, a.1, b.1, c, d, e, g⟩
theorem loc_valid (H : Mid h w x A c k w1 s) {t : Int} {s1 s2 : VSt} (hl : localN h.f t s1 = some s2) : ValS h.m (locV h.f t) := by
  have h1 := (needN_some hl).1
  simp only [inB, Bool.and_eq_true, decide_eq_true_eq] at h1
  refine (formed_func H.fix.mod.formed H.fix.mod.func).1 _ ?_
  unfold locV
  rw [List.getD_eq_getElem?_getD, List.getElem?_eq_getElem (show t.toNat < h.f.locals.length by omega)]
  exact List.getElem_mem _
/-- The one part of a slice's, a channel's or a variable's shape. -/
theorem head_at {t kk : Int} {A' : Option Addr} {c' : Nat} (H : CkF h w1) (hl : IntsR h.B w1 (.slice A' (listN h.m.types t).length c') (listN h.m.types t)) (ht : ValS h.m t) (hk : kindN h.m.types t = kk) (hkk : kk = 9 ∨ kk = 10 ∨ kk = 13) :
    ∃ b o, A' = some ⟨b, o, none⟩ ∧ (listN h.m.types t).length = 1 ∧ w1.cell? ⟨b, o, none⟩ = some (.int .i64 (headN h.m.types t)) ∧ ValS h.m (headN h.m.types t) := by
  have ht1 := ht.1
  have ht2 := ht.2
  have hge : h.m.types[t.toNat]? = some h.m.types[t.toNat] := List.getElem?_eq_getElem (by omega)
  have hll : listN h.m.types t = h.m.types[t.toNat].list := by simp [listN, hge]
  have hkd : kindN h.m.types t = h.m.types[t.toNat].kind := kindN_in ht1 hge
  have h1 := (formed_shape H.mod.formed hge).2.1 (by rw [← hkd, hk]; exact hkk)
  rw [← hll] at h1
  obtain ⟨b, o, y, hA, hy, _, hcell⟩ := IntsR.at_ hl (k := 0) (by omega)
  have hhd : headN h.m.types t = y := by unfold headN; rw [List.getD_eq_getElem?_getD, hy]; rfl
  have hmem : y ∈ listN h.m.types t := List.mem_of_getElem? hy
  have hlt := listN_lt H.mod.formed ⟨ht1, ht2⟩ hmem
  rw [hhd]
  exact ⟨b, o, hA, h1, hcell, hlt.1, by omega⟩
theorem OutS.head_ {o : Option (Int × VSt)} {t kk : Int} (hkk : kk = 9 ∨ kk = 10 ∨ kk = 13) (H : OutS h w x A c k kk o e w2) (ho : o = some (t, s)) :
    ∃ b o' c' rs, e = .returned (.agg #[.int .i64 kk, .slice (some ⟨b, o', none⟩) 1 c', .int .i64 rs]) ∧ w2.cell? ⟨b, o', none⟩ = some (.int .i64 (headN h.m.types t)) ∧ Mid h w x A c k w2 s ∧ ValS h.m t ∧ ValS h.m (headN h.m.types t) := by
  obtain ⟨A', c', rs, h1, h2, h3, h4, h5⟩ := H.some_ ho
  obtain ⟨b, o', rfl, hl, hc, hv⟩ := head_at h3.fix h2 h4 h5 hkk
  rw [hl] at h1
  exact ⟨b, o', c', rs, h1, hc, h3, h4, hv⟩
theorem run_fld (kk rs : Int) (b o' n c' : Nat) (w : World) : (Instr.field 37 (.agg #[.int .i64 kk, .slice (some ⟨b, o', none⟩) n c', .int .i64 rs]) 1).run Try.prog w = .ok (.slice (some ⟨b, o', none⟩) n c') w := by kernel_rfl
theorem list_valid (H : CkF h w1) {t : Int} (ht : ValS h.m t) : (∀ p ∈ listN h.m.types t, ValS h.m p) ∧ (listN h.m.types t).length ≤ 1024 := by
  have ht1 := ht.1
  have ht2 := ht.2
  have hge : h.m.types[t.toNat]? = some h.m.types[t.toNat] := List.getElem?_eq_getElem (by omega)
  have hll : listN h.m.types t = h.m.types[t.toNat].list := by simp [listN, hge]
  refine ⟨fun p hp => by have := listN_lt H.mod.formed ⟨ht1, ht2⟩ hp; exact ⟨this.1, by omega⟩, ?_⟩
  have := (formed_shape H.mod.formed hge).2.2.1
  rw [hll]
  omega
theorem res_valid (H : CkF h w1) {t : Int} (ht : ValS h.m t) : 0 ≤ resN h.m.types t ∧ resN h.m.types t ≤ (h.m.types.length : Int) := by
  have ht1 := ht.1
  have ht2 := ht.2
  have hge : h.m.types[t.toNat]? = some h.m.types[t.toNat] := List.getElem?_eq_getElem (by omega)
  have hll : resN h.m.types t = h.m.types[t.toNat].res := by simp [resN, hge]
  have := (formed_shape H.mod.formed hge).2.2.2
  rw [hll]
  omega
theorem Mid.stack8 (H : Mid h w x A c k w1 s) : ∃ As cs, w1.cell? ⟨h.p, 8, none⟩ = some (.slice As s.stack.length cs) := by
  obtain ⟨As, cs, At, ct, Al, cl, kn, H⟩ := H.ck
  exact ⟨As, cs, by have := H.blk.cell 8; simpa [Hd.zone] using this⟩
theorem Mid.pure {b : Bool} (H : Mid h w x A c k w1 s) : Calls Try.prog 52 #[.pointer (some ⟨h.p, 0, none⟩), .bool b] w1 (Pure h w1 b (.tuple #[])) := need_any h w1 b H.fix.d7
end
end Go.Proofs.Ytdegfnejhamejaa
