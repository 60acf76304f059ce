/-
  run: what one function's checking needs besides: the places that something jumps to; a new instruction; those who listen.
-/
import Derived.Test.YtdegfnejhamejaaCkOZk
namespace Go.Proofs.Ytdegfnejhamejaa
open Go.RowKit
set_option linter.unusedVariables false
set_option linter.unusedSimpArgs false

/-- Block b is the map of the places in l. -/
def PlR (w : World) (b : Nat) (l : List Int) : Prop := ∃ n mm g, IMap w b n mm g ∧ n ≤ l.length ∧ ∀ t, I64 t → g t = if l.contains t then some (.bool true) else none
theorem PlR.made (w : World) : PlR (w.alloc (.map #[] 0)) w.heap.size [] := ⟨0, 0, _, IMap.made w, Nat.le_refl _, fun _ _ => rfl⟩
theorem PlR.keep {M : Nat → Nat → Prop} {w w' : World} {b : Nat} {l : List Int} (H : PlR w b l) (hc : Chg M w w') (hM : ¬ M b 0) : PlR w' b l := by
  obtain ⟨n, mm, g, h1, h2⟩ := H
  exact ⟨n, mm, g, h1.keep hc hM, h2⟩
def MP (b : Nat) : Nat → Nat → Prop := fun b' t => b' = b ∧ t = 0
theorem PlR.put {w : World} {b : Nat} {l : List Int} (H : PlR w b l) {t : Int} (ht : I64 t) (hl : l.length < 4611686018427387904) :
    ∃ w', (Instr.mapUpdate 71 (.map (some b)) (.int .i64 t) (.bool true)).run Try.prog w = .ok () w' ∧ PlR w' b (l ++ [t]) ∧ Chg (MP b) w w' := by
  obtain ⟨n, mm, g, h1, h2, h3⟩ := H
  have hm : (4611686018427387904 : Nat) < maxLen := by unfold maxLen; omega
  obtain ⟨w', hrun, k1, k2⟩ := h1.put (t := 71) (e := 4) Try.underlying71 (by omega) ht (.bool true)
  refine ⟨w', hrun, ⟨n + 1, _, _, k1, by rw [List.length_append, List.length_singleton]; omega, fun x hx => ?_⟩, k2⟩
  by_cases he : x = t
  · subst he
    rw [updI_same]
    simp
  · rw [updI_other g _ he, h3 x hx]
    simp [he]
set_option maxRecDepth 100000 in
theorem PlR.look {w : World} {b : Nat} {l : List Int} (H : PlR w b l) {t : Int} (ht : I64 t) : (Instr.lookup 71 (.map (some b)) (.int .i64 t) false).run Try.prog w = .ok (.bool (l.contains t)) w := by
  obtain ⟨n, mm, g, h1, h2, h3⟩ := H
  have h4 := h1.look (t := 71) (e := 4) Try.underlying71 (z := .bool false) rfl ht
  rw [h3 t ht] at h4
  rw [h4]
  cases l.contains t <;> rfl
theorem places_take (l : List InstrD) {j : Nat} {x : InstrD} (hx : l[j]? = some x) : placesOf (l.take (j + 1)) = placesOf (l.take j) ++ jumpsOf x := by
  unfold placesOf
  rw [List.take_add_one, hx, List.flatMap_append]
  simp
theorem places_le (l : List InstrD) (j : Nat) : (placesOf (l.take j)).length ≤ (placesOf l).length := by
  have : placesOf l = placesOf (l.take j) ++ placesOf (l.drop j) := by
    unfold placesOf
    rw [← List.flatMap_append, List.take_append_drop]
  rw [this, List.length_append]
  omega
/-- The map of the places is made. -/
def Hd.places (h : Hd) (b : Nat) : Hd := { h with pl := .map (some b), K := fun x => h.K x ∨ x = b }
def Hd.at_ (h : Hd) (t : Int) : Hd := { h with pos := t }
theorem KnF.places {h : Hd} {w : World} {kn : Value} {f : Int → Option Value} {b : Nat} (H : KnF h w kn f) (hb : w.heap.size ≤ b) : KnF (h.places b) w kn f := by
  rcases H with h1 | ⟨c, mm, h1, h2, h3, h4, h5⟩
  · exact .inl h1
  · exact .inr ⟨c, mm, h1, h2, h3, fun hh => hh.elim h4 fun e => by have := h2.lt; omega, h5⟩
theorem CkI.places {h : Hd} {k : Nat} {w : World} {s : VSt} (H : CkI h k w s) :
    CkI (h.places w.heap.size) k ((w.setCell ⟨h.p, 11, none⟩ (.map (some w.heap.size))).alloc (.map #[] 0)) s ∧ PlR ((w.setCell ⟨h.p, 11, none⟩ (.map (some w.heap.size))).alloc (.map #[] 0)) w.heap.size [] ∧
      Chg (fun b t => b = h.p ∧ t = 74) w ((w.setCell ⟨h.p, 11, none⟩ (.map (some w.heap.size))).alloc (.map #[] 0)) ∧ h.p < w.heap.size ∧ w.frozen? ⟨h.p, 11, none⟩ = false ∧ w.cell? ⟨h.p, 11, none⟩ = some h.pl := by
  obtain ⟨As, cs, At, ct, Al, cl, kn, H⟩ := H
  have hset := chg_set (j := 11) H.blk (.map (some w.heap.size))
  have hlp := H.blk.lt
  have hal := chg_alloc (w.setCell ⟨h.p, 11, none⟩ (.map (some w.heap.size))) (.map #[] 0)
  have hall : Chg (fun b t => b = h.p ∧ t = 74) w ((w.setCell ⟨h.p, 11, none⟩ (.map (some w.heap.size))).alloc (.map #[] 0)) := hset.trans (hal.mono fun _ _ _ h => h.elim)
  have hB := H.mod.le
  have hp := H.place
  have hl2 : LetsM (fun b t => b = h.p ∧ t = 74) h.B := fun b t hb hh => by have := hh.1; omega
  have hsz : (w.setCell ⟨h.p, 11, none⟩ (.map (some w.heap.size))).heap.size = w.heap.size := by simp [World.setCell]
  have hmod := H.mod.far hall hl2
  obtain ⟨f, hf⟩ := H.known
  refine ⟨⟨As, cs, At, ct, Al, cl, kn, {
    blk := by have := (H.blk.set_ 11 (.map (some w.heap.size))).alloc (.map #[] 0); simpa [Hd.places] using this
    stack := H.stack.keep hall (fun _ _ hh => absurd hh.2 (by decide)) fun _ _ h => h
    taken := H.taken.keep hall (fun _ _ hh => absurd hh.2 (by decide)) fun _ _ h => h
    left := H.left.keep hall (fun _ _ hh => absurd hh.2 (by decide)) fun _ _ h => h
    ks := fun b hb hh => hh.elim (H.ks b hb) fun e => by have := (H.stack.ownIn hb).2; omega
    kt := fun b hb hh => hh.elim (H.kt b hb) fun e => by have := (H.taken.ownIn hb).2; omega
    kl := fun b hb hh => hh.elim (H.kl b hb) fun e => by have := (H.left.ownIn hb).2; omega
    dst := H.dst, dsl := H.dsl, dtl := H.dtl
    known := ⟨f, by have := hf.places (Nat.le_refl _); exact KnF.far this hall fun b _ _ hh => absurd hh.2 (by decide)⟩
    mod := ⟨hmod.types, hmod.funcs, hmod.locals, hmod.caps, hmod.code, hmod.le, hmod.formed, hmod.func⟩
    ps := H.ps, pt := H.pt, plf := H.plf
    place := ⟨hp.1, fun hh => hh.elim hp.2 fun e => by have e : h.p = w.heap.size := e; omega⟩
    low := fun b hb => by
      rw [World.size_alloc, hsz]
      rcases hb with hb | hb
      · have := H.low b hb; omega
      · omega
    bw := by rw [World.size_alloc, hsz]; exact Nat.le_succ_of_le H.bw }⟩, ?_, hall, hlp, H.blk.frozen 11, by simpa using H.blk.cell 11⟩
  have := PlR.made (w.setCell ⟨h.p, 11, none⟩ (.map (some w.heap.size)))
  rw [hsz] at this
  exact this
/-- A new instruction begins. -/
theorem CkI.fresh {h : Hd} {k k' : Nat} {w : World} {s : VSt} (H : CkI h k w s) (t : Int) (hs : s.stack.length + k' ≤ 100000) :
    ∃ u9 u10, w.cell? ⟨h.p, 7, none⟩ = some (.int .i64 h.pos) ∧ w.cell? ⟨h.p, 9, none⟩ = some u9 ∧ w.cell? ⟨h.p, 10, none⟩ = some u10 ∧ (∀ i, w.frozen? ⟨h.p, i, none⟩ = false) ∧
    CkI (h.at_ t) k' (((w.setCell ⟨h.p, 7, none⟩ (.int .i64 t)).setCell ⟨h.p, 9, none⟩ (.slice none 0 0)).setCell ⟨h.p, 10, none⟩ (.slice none 0 0)) ⟨s.stack, [], []⟩ ∧
      Chg (fun b t => b = h.p ∧ t = 74) w (((w.setCell ⟨h.p, 7, none⟩ (.int .i64 t)).setCell ⟨h.p, 9, none⟩ (.slice none 0 0)).setCell ⟨h.p, 10, none⟩ (.slice none 0 0)) := by
  obtain ⟨As, cs, At, ct, Al, cl, kn, H⟩ := H
  have b1 := H.blk.set_ 7 (.int .i64 t)
  have b2 := b1.set_ 9 (.slice none 0 0)
  have b3 := b2.set_ 10 (.slice none 0 0)
  have hall := ((chg_set (j := 7) H.blk (.int .i64 t)).trans (chg_set (j := 9) b1 (.slice none 0 0))).trans (chg_set (j := 10) b2 (.slice none 0 0))
  have hB := H.mod.le
  have hp := H.place
  have hl2 : LetsM (fun b t => b = h.p ∧ t = 74) h.B := fun b t hb hh => by have := hh.1; omega
  have hmod := H.mod.far hall hl2
  have hno : ∀ b, ¬ OwnB (none : Option Addr) 0 0 b := fun b hb => by simp [OwnB, Value.ownBlock] at hb
  refine ⟨_, _, by simpa using H.blk.cell 7, by simpa using H.blk.cell 9, by simpa using H.blk.cell 10, H.blk.frozen, ⟨As, cs, none, 0, none, 0, kn, {
    blk := by simpa [Hd.at_] using b3
    stack := H.stack.keep hall (fun _ _ hh => absurd hh.2 (by decide)) fun _ _ h => h
    taken := RowR.nil _ _ _ _ _
    left := RowR.nil _ _ _ _ _
    ks := H.ks
    kt := fun b hb => absurd hb (hno b)
    kl := fun b hb => absurd hb (hno b)
    dst := fun b _ hb => hno b hb
    dsl := fun b _ hb => hno b hb
    dtl := fun b _ hb => hno b hb
    known := H.known.far hall fun b _ _ hh => absurd hh.2 (by decide)
    mod := ⟨hmod.types, hmod.funcs, hmod.locals, hmod.caps, hmod.code, hmod.le, hmod.formed, hmod.func⟩
    ps := hs
    pt := by show 0 + k' ≤ 100000; omega
    plf := by show 0 + k' ≤ 100000; omega
    place := H.place
    low := fun b hb => Nat.lt_of_lt_of_le (H.low b hb) hall.size
    bw := Nat.le_trans H.bw hall.size }⟩, hall⟩
/-- What those who listen may turn: blocks of their own. -/
def MJ (h : Hd) (G0 G : Nat → Prop) : Nat → Nat → Prop := fun b _ => (G0 b ∨ G b) ∧ h.B ≤ b
def MB (h : Hd) (G0 : Nat → Prop) : Nat → Nat → Prop := fun b _ => (h.base ≤ b ∧ ¬ h.K b) ∨ (G0 b ∧ h.B ≤ b)
/-- Blocks G of those who listen are let be too. -/
def Hd.own (h : Hd) (G : Nat → Prop) : Hd := { h with K := fun b => h.K b ∨ G b }
theorem KnF.grow {h : Hd} {w w' : World} {kn : Value} {f : Int → Option Value} {M : Nat → Nat → Prop} (H : KnF h w kn f) (hc : Chg M w w') (hM : ∀ b t, M b t → h.K b ∧ h.B ≤ b) (K2 : Nat → Prop) (h2 : ∀ b, K2 b → h.K b ∨ w.heap.size ≤ b) : KnF { h with K := K2 } w' kn f := by
  rcases H with h1 | ⟨c, mm, h1, k2, h3, h4, h5⟩
  · exact .inl h1
  · exact .inr ⟨c, mm, h1, k2.keep hc (fun hm => h4 (hM _ _ hm).1), h3, fun hh => (h2 c hh).elim h4 fun e => by have := k2.lt; omega, h5⟩
/-- Those who listen have done something: what is theirs may be more. -/
theorem CkI.grow {h : Hd} {k : Nat} {M : Nat → Nat → Prop} {w w' : World} {s : VSt} (H : CkI h k w s) (hc : Chg M w w') (hM : ∀ b t, M b t → h.K b ∧ h.B ≤ b) (K2 : Nat → Prop) (h1 : ∀ b, h.K b → K2 b) (h2 : ∀ b, K2 b → h.K b ∨ (w.heap.size ≤ b ∧ b < w'.heap.size)) : CkI { h with K := K2 } k w' s := by
  obtain ⟨As, cs, At, ct, Al, cl, kn, H⟩ := H
  have hl : LetsM M h.B := fun b t hb hm => by have := (hM b t hm).2; omega
  have hmod := H.mod.far hc hl
  have hlp := H.blk.lt
  obtain ⟨f, hf⟩ := H.known
  exact ⟨As, cs, At, ct, Al, cl, kn, {
    blk := hc.blk H.blk fun hm => H.place.2 (hM _ _ hm).1
    stack := H.stack.keep1 hc (fun b hb hm => H.ks b hb (hM _ _ hm).1) fun _ _ h => h
    taken := H.taken.keep1 hc (fun b hb hm => H.kt b hb (hM _ _ hm).1) fun _ _ h => h
    left := H.left.keep1 hc (fun b hb hm => H.kl b hb (hM _ _ hm).1) fun _ _ h => h
    ks := fun b hb hh => (h2 b hh).elim (H.ks b hb) fun e => by have := (H.stack.ownIn hb).2; omega
    kt := fun b hb hh => (h2 b hh).elim (H.kt b hb) fun e => by have := (H.taken.ownIn hb).2; omega
    kl := fun b hb hh => (h2 b hh).elim (H.kl b hb) fun e => by have := (H.left.ownIn hb).2; omega
    dst := H.dst, dsl := H.dsl, dtl := H.dtl
    known := ⟨f, hf.grow hc hM K2 fun b hb => (h2 b hb).imp id fun e => e.1⟩
    mod := ⟨hmod.types, hmod.funcs, hmod.locals, hmod.caps, hmod.code, hmod.le, hmod.formed, hmod.func⟩
    ps := H.ps, pt := H.pt, plf := H.plf
    place := ⟨H.place.1, fun hh => (h2 h.p hh).elim H.place.2 fun e => by have := e.1; omega⟩
    low := fun b hb => (h2 b hb).elim (fun hh => Nat.lt_of_lt_of_le (H.low b hh) hc.size) fun e => e.2
    bw := Nat.le_trans H.bw hc.size }⟩
/-- Those who listen: each is told of each instruction ahead of it, done behind it; G: what is theirs. -/
structure Cli (h : Hd) where
  G0 : Nat → Prop
  sub : ∀ b, G0 b → h.K b
  J : Nat → (Nat → Prop) → World → Prop
  J2 : Nat → (Nat → Prop) → World → Prop
  keep : ∀ k G w w', J k G w → Chg (MC (h.own G)) w w' → J k G w'
  keep2 : ∀ k G w w', J2 k G w → Chg (MC (h.own G)) w w' → J2 k G w'
  fe : FuncId
  env : Array Value
  enters : ∀ args w, (callFunc fe args).run Try.prog w = .ok (.enter fe args) w
  each : ∀ (k : Nat) G w (st : List Int) As cs, J k G w → atN h.m h.f k = some st → st.length ≤ 64 → RowR h.base 3 1 IntV w As cs st → h.base ≤ w.heap.size → (∀ b, (h.own G).K b → b < w.heap.size) → (∀ b, G b → ¬ h.K b) →
    Calls Try.prog fe (#[.int .i64 (k : Int), .slice As st.length cs] ++ env) w fun e w' => e = .returned (.tuple #[]) ∧ Chg (MJ h G0 G) w w' ∧ ∃ G', J2 k G' w' ∧ (∀ b, G b → G' b) ∧ ∀ b, G' b → G b ∨ (w.heap.size ≤ b ∧ b < w'.heap.size)
  next : (h.dn = .nilFunc ∧ ∀ k G w, J2 k G w → J (k + 1) G w) ∨ ∃ fd envd, h.dn = .func (.func fd) #[] envd ∧ (∀ args w, (callFunc fd args).run Try.prog w = .ok (.enter fd args) w) ∧
    ∀ (k : Nat) G w x (st : List Int) (s : VSt) (hh : Hd) kk, J2 k G w → atN h.m h.f k = some st → h.f.code[k]? = some x → stepN h.m h.f k x st = some s → hh.p = h.p → hh.base = h.base → hh.B = h.B → (∀ b, (h.own G).K b → hh.K b) → (∀ b, G b → ¬ h.K b) → CkI hh kk w s →
      Calls Try.prog fd (#[.int .i64 (k : Int)] ++ envd) w fun e w' => e = .returned (.tuple #[]) ∧ Chg (MJ h G0 G) w w' ∧ ∃ G', J (k + 1) G' w' ∧ (∀ b, G b → G' b) ∧ ∀ b, G' b → G b ∨ (w.heap.size ≤ b ∧ b < w'.heap.size)
def RunRes (h : Hd) (G0 : Nat → Prop) (J : Nat → (Nat → Prop) → World → Prop) (w : World) (e : Ending) (w' : World) : Prop := Chg (MB h G0) w w' ∧ ((funcAt h.m h.f = -1 ∧ e = .returned (.tuple #[]) ∧ ∃ G, J h.f.code.length G w' ∧ ∀ x, G x → w.heap.size < x) ∨ (0 ≤ funcAt h.m h.f ∧ e = .panicked [{ v := .iface 90 (.agg #[.int .i64 (funcAt h.m h.f)]), recovered := false }]))
abbrev hzD (h : Hd) (b : Nat) (j : Int) (g : Nat) : Hd := ((h.places b).at_ j).zone g
theorem Chg.hz {h : Hd} {b g : Nat} {j : Int} {w w' : World} (hc : Chg (MC (hzD h b j g)) w w') : Chg (MC h) w w' := hc.mono fun _ _ _ hm => ⟨hm.1, fun hk => hm.2 (.inl (.inl hk))⟩
theorem Chg.owned {h : Hd} {G : Nat → Prop} {w w' : World} (hc : Chg (MC (h.own G)) w w') : Chg (MC h) w w' := hc.mono fun _ _ _ hm => ⟨hm.1, fun hk => hm.2 (.inl hk)⟩
theorem Chg.toMB {h : Hd} {G0 : Nat → Prop} {w w' : World} (hc : Chg (MC h) w w') : Chg (MB h G0) w w' := hc.mono fun _ _ _ hm => .inl hm
theorem Chg.jMB {h : Hd} {G0 G : Nat → Prop} {w w' : World} (hc : Chg (MJ h G0 G) w w') (hg : ∀ b, G b → h.base ≤ b ∧ ¬ h.K b) : Chg (MB h G0) w w' := hc.mono fun b _ _ hm => hm.1.elim (fun h0 => .inr ⟨h0, hm.2⟩) fun h1 => .inl (hg b h1)
section
variable {m : ModD} {f : FuncD} {x : InstrD} {st : List Int} {s s1 s2 : VSt} {j : Nat}
theorem step_bad1 (h : (!(placesOf f.code).contains (j : Int) || ((st.length : Int) == 0)) = false) : stepN m f j x st = none := by
  unfold stepN; rw [h]; rfl
theorem step_ops (h : (!(placesOf f.code).contains (j : Int) || ((st.length : Int) == 0)) = true) : stepN m f j x st = (opsN m f x ⟨st, [], []⟩).bind fun bs => (needN bs.1 bs.2).bind fun s => needN (decide ((j : Int) + 1 < (f.code.length : Int)) || endsB x.op) s := by
  unfold stepN; rw [h]; rfl
theorem step_end {b : Bool} (h : (!(placesOf f.code).contains (j : Int) || ((st.length : Int) == 0)) = true) (h1 : opsN m f x ⟨st, [], []⟩ = some (true, s1)) (h2 : (decide ((j : Int) + 1 < (f.code.length : Int)) || endsB x.op) = b) : stepN m f j x st = needN b s1 := by
  rw [step_ops h, h1, Option.bind_some, h2]; rfl
theorem from_at (hj : j < f.code.length) (hx : f.code[j]? = some x) : fromN m f (f.code.length - j) j st = match stepN m f j x st with
    | some s => fromN m f (f.code.length - (j + 1)) (j + 1) s.stack
    | none => (j : Int) := by
  obtain ⟨n, hn⟩ : ∃ n, f.code.length - j = n + 1 := ⟨f.code.length - j - 1, by omega⟩
  have hn2 : f.code.length - (j + 1) = n := by omega
  rw [hn, hn2, fromN, hx, Option.bind_some]
  cases stepN m f j x st <;> rfl
theorem from_bad (hj : j < f.code.length) (hx : f.code[j]? = some x) (h : stepN m f j x st = none) : fromN m f (f.code.length - j) j st = (j : Int) := by rw [from_at hj hx, h]
theorem from_good (hj : j < f.code.length) (hx : f.code[j]? = some x) (h : stepN m f j x st = some s) : fromN m f (f.code.length - j) j st = fromN m f (f.code.length - (j + 1)) (j + 1) s.stack := by rw [from_at hj hx, h]
theorem at_step (ha : atN m f j = some st) (hx : f.code[j]? = some x) (h : stepN m f j x st = some s) : atN m f (j + 1) = some s.stack := by
  rw [atN, ha, Option.bind_some, hx, Option.bind_some, h]; rfl
theorem funcAt_pos (h : 0 < f.code.length) : funcAt m f = fromN m f f.code.length 0 [] := by unfold funcAt; rw [if_neg (by omega)]
end
theorem RunRes.bad {h : Hd} {G0 : Nat → Prop} {J : Nat → (Nat → Prop) → World → Prop} {w w' : World} {j : Nat} {x : InstrD} {st : List Int} (hc : Chg (MB h G0) w w') (hj : j < h.f.code.length) (hx : h.f.code[j]? = some x)
    (hr : fromN h.m h.f (h.f.code.length - j) j st = fromN h.m h.f h.f.code.length 0 []) (hs : stepN h.m h.f j x st = none) : RunRes h G0 J w (.panicked [{ v := .iface 90 (.agg #[.int .i64 (j : Int)]), recovered := false }]) w' := by
  have h1 : funcAt h.m h.f = (j : Int) := by rw [funcAt_pos (by omega), ← hr, from_bad hj hx hs]
  exact ⟨hc, .inr ⟨by rw [h1]; omega, by rw [h1]⟩⟩
end Go.Proofs.Ytdegfnejhamejaa
