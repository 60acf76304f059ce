/-
  The checker in memory; its small functions: need, kind, is, whole, local, place.
-/
import Derived.Test.YtdegfnejhamejaaVeNZk
import Derived.Test.YtdegfnejhamejaaRowPZk
import Derived.Test.YtdegfnejhamejaaIMapZk
import Derived.Test.YtdegfnejhamejaaFactsZk
namespace Go.Proofs.Ytdegfnejhamejaa
open Go.RowKit
set_option linter.unusedVariables false
set_option linter.unusedSimpArgs false

/-- What stands fast while a function is gone through. K: blocks that the checker's calls do not touch. -/
structure Hd where
  K : Nat → Prop
  B : Nat
  base : Nat
  p : Nat
  m : ModD
  f : FuncD
  A1 : Option Addr
  c1 : Nat
  A2 : Option Addr
  c2 : Nat
  A3 : Option Addr
  c3 : Nat
  A4 : Option Addr
  c4 : Nat
  A5 : Option Addr
  c5 : Nat
  pos : Int
  pl : Value
  dn : Value
/-- What the checker's calls may turn. -/
def MC (h : Hd) : Nat → Nat → Prop := fun b _ => h.base ≤ b ∧ ¬ h.K b
structure ModH (h : Hd) (w : World) : Prop where
  types : ShapesR h.B w (.slice h.A1 h.m.types.length h.c1) h.m.types
  funcs : FuncsR h.B w (.slice h.A2 h.m.funcs.length h.c2) h.m.funcs
  locals : IntsR h.B w (.slice h.A3 h.f.locals.length h.c3) h.f.locals
  caps : IntsR h.B w (.slice h.A4 h.f.caps.length h.c4) h.f.caps
  code : InstrsR h.B w (.slice h.A5 h.f.code.length h.c5) h.f.code
  le : h.B ≤ h.base
  formed : formedMod h.m = true
  func : h.f ∈ h.m.funcs
theorem letsC {h : Hd} (hB : h.B ≤ h.base) : LetsM (MC h) h.B := fun b _ hb hm => by have := hm.1; omega
def IntV (_ : World) (cs : List Value) (x : Int) : Prop := cs = [.int .i64 x] ∧ I64 x
def cntK (f : Int → Option Value) (L : Nat) : Nat := ((List.range L).filter fun k : Nat => (f (k : Int)).isSome).length
/-- What is known of the shapes that were looked at. -/
def KnF (h : Hd) (w : World) (kn : Value) (f : Int → Option Value) : Prop := (kn = .map none ∧ f = fun _ => none) ∨ ∃ b mm, kn = .map (some b) ∧ IMap w b (cntK f h.m.types.length) mm f ∧ h.base ≤ b ∧ ¬ h.K b ∧ ∀ t v, I64 t → f t = some v → v = .bool (cmpN h.m.types t)
def KnR (h : Hd) (w : World) (kn : Value) : Prop := ∃ f, KnF h w kn f
structure CkR (h : Hd) (k : Nat) (w : World) (s : VSt) (As : Option Addr) (cs : Nat) (At : Option Addr) (ct : Nat) (Al : Option Addr) (cl : Nat) (kn : Value) : Prop where
  blk : Blk w h.p 74 #[.slice h.A1 h.m.types.length h.c1, .slice h.A2 h.m.funcs.length h.c2, .int .i64 h.f.params, .slice h.A3 h.f.locals.length h.c3, .slice h.A4 h.f.caps.length h.c4, .int .i64 h.f.res, .slice h.A5 h.f.code.length h.c5,
    .int .i64 h.pos, .slice As s.stack.length cs, .slice At s.taken.length ct, .slice Al s.left.length cl, h.pl, kn, h.dn]
  stack : RowR h.base 3 1 IntV w As cs s.stack
  taken : RowR h.base 3 1 IntV w At ct s.taken
  left : RowR h.base 3 1 IntV w Al cl s.left
  ks : ∀ b, OwnB As s.stack.length cs b → ¬ h.K b
  kt : ∀ b, OwnB At s.taken.length ct b → ¬ h.K b
  kl : ∀ b, OwnB Al s.left.length cl b → ¬ h.K b
  dst : ∀ b, OwnB As s.stack.length cs b → ¬ OwnB At s.taken.length ct b
  dsl : ∀ b, OwnB As s.stack.length cs b → ¬ OwnB Al s.left.length cl b
  dtl : ∀ b, OwnB At s.taken.length ct b → ¬ OwnB Al s.left.length cl b
  known : KnR h w kn
  mod : ModH h w
  ps : s.stack.length + k ≤ 100000
  pt : s.taken.length + k ≤ 100000
  plf : s.left.length + k ≤ 100000
  place : h.base ≤ h.p ∧ ¬ h.K h.p
  low : ∀ b, h.K b → b < w.heap.size
  bw : h.base ≤ w.heap.size
def CkI (h : Hd) (k : Nat) (w : World) (s : VSt) : Prop := ∃ As cs At ct Al cl kn, CkR h k w s As cs At ct Al cl kn
theorem CkI.less {h : Hd} {k k' : Nat} {w : World} {s : VSt} (H : CkI h k w s) (hk : k' ≤ k) : CkI h k' w s := by
  obtain ⟨As, cs, At, ct, Al, cl, kn, H⟩ := H
  exact ⟨As, cs, At, ct, Al, cl, kn, { H with ps := by have := H.ps; omega, pt := by have := H.pt; omega, plf := by have := H.plf; omega }⟩
theorem KnF.far {h : Hd} {M : Nat → Nat → Prop} {w w' : World} {kn : Value} {f : Int → Option Value} (H : KnF h w kn f) (hc : Chg M w w') (hM : ∀ b, h.base ≤ b → ¬ h.K b → ¬ M b 0) : KnF h w' kn f := by
  rcases H with H | ⟨b, mm, h1, h2, h3, h4, h5⟩
  · exact .inl H
  · exact .inr ⟨b, mm, h1, h2.keep hc (hM b h3 h4), h3, h4, h5⟩
theorem KnR.far {h : Hd} {M : Nat → Nat → Prop} {w w' : World} {kn : Value} (H : KnR h w kn) (hc : Chg M w w') (hM : ∀ b, h.base ≤ b → ¬ h.K b → ¬ M b 0) : KnR h w' kn := by
  obtain ⟨f, H⟩ := H
  exact ⟨f, H.far hc hM⟩
/-- The same, where nothing at all turns. -/
theorem CkR.same {h : Hd} {k : Nat} {w w' : World} {s : VSt} {As : Option Addr} {cs : Nat} {At : Option Addr} {ct : Nat} {Al : Option Addr} {cl : Nat} {kn : Value} (H : CkR h k w s As cs At ct Al cl kn) (hc : Chg (fun _ _ => False) w w') : CkR h k w' s As cs At ct Al cl kn := by
  have hl : LetsM (fun _ _ => False) h.B := fun _ _ _ h => h
  exact {
    blk := hc.blk H.blk id
    stack := H.stack.keep hc (fun _ _ => id) fun _ _ h => h
    taken := H.taken.keep hc (fun _ _ => id) fun _ _ h => h
    left := H.left.keep hc (fun _ _ => id) fun _ _ h => h
    ks := H.ks, kt := H.kt, kl := H.kl, dst := H.dst, dsl := H.dsl, dtl := H.dtl
    known := H.known.far hc fun _ _ _ => id
    mod := ⟨H.mod.types.keep hc hl, H.mod.funcs.keep hc hl, H.mod.locals.keep hc hl, H.mod.caps.keep hc hl, H.mod.code.keep hc hl, H.mod.le, H.mod.formed, H.mod.func⟩
    ps := H.ps, pt := H.pt, plf := H.plf, place := H.place, low := fun b hb => Nat.lt_of_lt_of_le (H.low b hb) hc.size, bw := Nat.le_trans H.bw hc.size }
theorem CkI.same {h : Hd} {k : Nat} {w w' : World} {s : VSt} (H : CkI h k w s) (hc : Chg (fun _ _ => False) w w') : CkI h k w' s := by
  obtain ⟨As, cs, At, ct, Al, cl, kn, H⟩ := H
  exact ⟨As, cs, At, ct, Al, cl, kn, H.same hc⟩
/-- The panic that tells where it is wrong. -/
def wrongC (h : Hd) : List PanicEntry := [{ v := .iface 90 (.agg #[.int .i64 h.pos]), recovered := false }]
abbrev wrongE (h : Hd) : Ending := .panicked (wrongC h)
def OutU (h : Hd) (k : Nat) (w : World) (o : Option VSt) (v : Value) (e : Ending) (w' : World) : Prop :=
  Chg (MC h) w w' ∧ match o with
    | some s => e = .returned v ∧ CkI h k w' s
    | none => e = wrongE h
def OutI (h : Hd) (k : Nat) (w : World) (o : Option (Int × VSt)) (e : Ending) (w' : World) : Prop :=
  Chg (MC h) w w' ∧ match o with
    | some s => e = .returned (.int .i64 s.1) ∧ I64 s.1 ∧ CkI h k w' s.2
    | none => e = wrongE h
theorem OutU.bad {h : Hd} {k : Nat} {w w' : World} {o : Option VSt} {v : Value} (hc : Chg (MC h) w w') (ho : o = none) : OutU h k w o v (wrongE h) w' := by subst ho; exact ⟨hc, rfl⟩
theorem OutU.good {h : Hd} {k : Nat} {w w' : World} {o : Option VSt} {v : Value} {s : VSt} (hc : Chg (MC h) w w') (ho : o = some s) (hk : CkI h k w' s) : OutU h k w o v (.returned v) w' := by subst ho; exact ⟨hc, rfl, hk⟩
theorem OutI.bad {h : Hd} {k : Nat} {w w' : World} {o : Option (Int × VSt)} (hc : Chg (MC h) w w') (ho : o = none) : OutI h k w o (wrongE h) w' := by subst ho; exact ⟨hc, rfl⟩
theorem OutI.good {h : Hd} {k : Nat} {w w' : World} {o : Option (Int × VSt)} {t : Int} {s : VSt} (hc : Chg (MC h) w w') (ho : o = some (t, s)) (ht : I64 t) (hk : CkI h k w' s) : OutI h k w o (.returned (.int .i64 t)) w' := by subst ho; exact ⟨hc, rfl, ht, hk⟩
theorem OutU.none_ {h : Hd} {k : Nat} {w w' : World} {o : Option VSt} {v : Value} {e : Ending} (H : OutU h k w o v e w') (ho : o = none) : e = wrongE h ∧ Chg (MC h) w w' := by subst ho; exact ⟨H.2, H.1⟩
theorem OutU.some_ {h : Hd} {k : Nat} {w w' : World} {o : Option VSt} {v : Value} {e : Ending} {s : VSt} (H : OutU h k w o v e w') (ho : o = some s) : e = .returned v ∧ CkI h k w' s ∧ Chg (MC h) w w' := by subst ho; exact ⟨H.2.1, H.2.2, H.1⟩
theorem OutI.none_ {h : Hd} {k : Nat} {w w' : World} {o : Option (Int × VSt)} {e : Ending} (H : OutI h k w o e w') (ho : o = none) : e = wrongE h ∧ Chg (MC h) w w' := by subst ho; exact ⟨H.2, H.1⟩
theorem OutI.some_ {h : Hd} {k : Nat} {w w' : World} {o : Option (Int × VSt)} {e : Ending} {t : Int} {s : VSt} (H : OutI h k w o e w') (ho : o = some (t, s)) : e = .returned (.int .i64 t) ∧ I64 t ∧ CkI h k w' s ∧ Chg (MC h) w w' := by subst ho; exact ⟨H.2.1, H.2.2.1, H.2.2.2, H.1⟩
theorem needN_ok {b : Bool} {s : VSt} (h : b = true) : needN b s = some s := by subst h; rfl
theorem needN_bad {b : Bool} {s : VSt} (h : b = false) : needN b s = none := by subst h; rfl
theorem CkI.pos_at {h : Hd} {k : Nat} {w : World} {s : VSt} (H : CkI h k w s) : w.cell? ⟨h.p, 7, none⟩ = some (.int .i64 h.pos) := by
  obtain ⟨As, cs, At, ct, Al, cl, kn, H⟩ := H
  simpa using H.blk.cell 7
set_option maxRecDepth 100000 in
theorem need_ok (h : Hd) (w : World) : Calls Try.prog 52 #[.pointer (some ⟨h.p, 0, none⟩), .bool true] w fun e w' => e = .returned (.tuple #[]) ∧ w' = w := by
  go_enter Try.func52, Try.ntmps52
  go_wp2_with fail
  go_end0
  exact ⟨rfl, rfl⟩
set_option maxRecDepth 100000 in
theorem need_bad (h : Hd) (w : World) (hp : w.cell? ⟨h.p, 7, none⟩ = some (.int .i64 h.pos)) : Calls Try.prog 52 #[.pointer (some ⟨h.p, 0, none⟩), .bool false] w fun e w' => e = wrongE h ∧ w' = w := by
  go_enter Try.func52, Try.ntmps52
  go_wp2_with fail
  exact ⟨rfl, rfl, rfl⟩
/-- A call that turns nothing: it goes on, or it is wrong. -/
def Pure (h : Hd) (w : World) (b : Bool) (v : Value) (e : Ending) (w' : World) : Prop := w' = w ∧ match b with
  | true => e = .returned v
  | false => e = wrongE h
theorem Pure.of_ok {h : Hd} {w : World} {b : Bool} {v : Value} (hb : b = true) : Pure h w b v (.returned v) w := by subst hb; exact ⟨rfl, rfl⟩
theorem Pure.of_bad {h : Hd} {w : World} {b : Bool} {v : Value} (hb : b = false) : Pure h w b v (wrongE h) w := by subst hb; exact ⟨rfl, rfl⟩
theorem Pure.ok {h : Hd} {w w' : World} {b : Bool} {v : Value} {e : Ending} (H : Pure h w b v e w') (hb : b = true) : e = .returned v ∧ w' = w := by subst hb; exact ⟨H.2, H.1⟩
theorem Pure.bad {h : Hd} {w w' : World} {b : Bool} {v : Value} {e : Ending} (H : Pure h w b v e w') (hb : b = false) : e = wrongE h ∧ w' = w := by subst hb; exact ⟨H.2, H.1⟩
theorem need_any (h : Hd) (w : World) (b : Bool) (hp : w.cell? ⟨h.p, 7, none⟩ = some (.int .i64 h.pos)) : Calls Try.prog 52 #[.pointer (some ⟨h.p, 0, none⟩), .bool b] w (Pure h w b (.tuple #[])) := by
  cases b
  · exact (need_bad h w hp).mono fun e w' hh => ⟨hh.2, hh.1⟩
  · exact (need_ok h w).mono fun e w' hh => ⟨hh.2, hh.1⟩
structure CkF (h : Hd) (w : World) : Prop where
  d0 : w.cell? ⟨h.p, 0, none⟩ = some (.slice h.A1 h.m.types.length h.c1)
  d1 : w.cell? ⟨h.p, 1, none⟩ = some (.slice h.A2 h.m.funcs.length h.c2)
  d2 : w.cell? ⟨h.p, 2, none⟩ = some (.int .i64 h.f.params)
  d3 : w.cell? ⟨h.p, 3, none⟩ = some (.slice h.A3 h.f.locals.length h.c3)
  d4 : w.cell? ⟨h.p, 4, none⟩ = some (.slice h.A4 h.f.caps.length h.c4)
  d5 : w.cell? ⟨h.p, 5, none⟩ = some (.int .i64 h.f.res)
  d6 : w.cell? ⟨h.p, 6, none⟩ = some (.slice h.A5 h.f.code.length h.c5)
  d7 : w.cell? ⟨h.p, 7, none⟩ = some (.int .i64 h.pos)
  mod : ModH h w
theorem CkI.fix {h : Hd} {k : Nat} {w : World} {s : VSt} (H : CkI h k w s) : CkF h w := by
  obtain ⟨As, cs, At, ct, Al, cl, kn, H⟩ := H
  exact ⟨by simpa using H.blk.cell 0, by simpa using H.blk.cell 1, by simpa using H.blk.cell 2, by simpa using H.blk.cell 3, by simpa using H.blk.cell 4, by simpa using H.blk.cell 5, by simpa using H.blk.cell 6, by simpa using H.blk.cell 7, H.mod⟩
theorem kindN_in {T : List ShapeD} {t : Int} {s : ShapeD} (h0 : 0 ≤ t) (h : T[t.toNat]? = some s) : kindN T t = s.kind := by simp [kindN, h0, h]
theorem kindN_neg {T : List ShapeD} {t : Int} (h0 : t < 0) : kindN T t = 0 := by unfold kindN; rw [if_neg (by omega)]
theorem kindN_out {T : List ShapeD} {t : Int} (h0 : (T.length : Int) ≤ t) : kindN T t = 0 := by unfold kindN; rw [if_pos (by omega), List.getElem?_eq_none (by omega)]; rfl
set_option maxRecDepth 100000 in
theorem kind_any (h : Hd) (w : World) (t : Int) (H : CkF h w) : Calls Try.prog 62 #[.pointer (some ⟨h.p, 0, none⟩), .int .i64 t] w fun e w' => e = .returned (.int .i64 (kindN h.m.types t)) ∧ w' = w := by
  have d0 := H.d0
  by_cases h0 : 0 ≤ t
  · by_cases h1 : t < (h.m.types.length : Int)
    · have q0 : decide (0 ≤ t) = true := decide_eq_true h0
      have q1 : decide (t < (h.m.types.length : Int)) = true := decide_eq_true h1
      obtain ⟨n, rfl⟩ : ∃ n : Nat, t = (n : Int) := ⟨t.toNat, by omega⟩
      have hn : n < h.m.types.length := by omega
      obtain ⟨b, o, s, A', c', hA, hs, _, _, _, e0, e1, e2⟩ := H.mod.types.at_ hn
      rw [hA] at d0
      rw [kindN_in (by omega) (by simpa using hs)]
      have HS := Lib.hid (And.intro hs hA)
      clear hs hA H e1 e2
      go_enter Try.func62, Try.ntmps62
      go_wp2_with fail
      go_ret
      exact ⟨rfl, rfl⟩
    · have q0 : decide (0 ≤ t) = true := decide_eq_true h0
      have q1 : decide (t < (h.m.types.length : Int)) = false := decide_eq_false h1
      rw [kindN_out (by omega)]
      go_enter Try.func62, Try.ntmps62
      go_wp2_with fail
      go_ret
      exact ⟨rfl, rfl⟩
  · have q0 : decide (0 ≤ t) = false := decide_eq_false h0
    rw [kindN_neg (by omega)]
    go_enter Try.func62, Try.ntmps62
    go_wp2_with fail
    go_ret
    exact ⟨rfl, rfl⟩
set_option maxRecDepth 100000 in
theorem wwhole_any (w : World) (k : Int) : Calls Try.prog 74 #[.int .i64 k] w fun e w' => e = .returned (.bool (wholeB k)) ∧ w' = w := by
  unfold wholeB
  by_cases h0 : 2 ≤ k
  · by_cases h1 : k ≤ 7
    · have q0 : decide (2 ≤ k) = true := decide_eq_true h0
      have q1 : decide (k ≤ 7) = true := decide_eq_true h1
      rw [q0, q1]
      go_enter Try.func74, Try.ntmps74
      go_wp2_with fail
      go_ret
      exact ⟨rfl, rfl⟩
    · have q0 : decide (2 ≤ k) = true := decide_eq_true h0
      have q1 : decide (k ≤ 7) = false := decide_eq_false h1
      rw [q0, q1]
      go_enter Try.func74, Try.ntmps74
      go_wp2_with fail
      go_ret
      exact ⟨rfl, rfl⟩
  · have q0 : decide (2 ≤ k) = false := decide_eq_false h0
    rw [q0]
    go_enter Try.func74, Try.ntmps74
    go_wp2_with fail
    go_ret
    exact ⟨rfl, rfl⟩
set_option maxRecDepth 100000 in
theorem is_any (h : Hd) (w : World) (t k : Int) (H : CkF h w) : Calls Try.prog 65 #[.pointer (some ⟨h.p, 0, none⟩), .int .i64 t, .int .i64 k] w (Pure h w (kindN h.m.types t == k) (.tuple #[])) := by
  go_enter Try.func65, Try.ntmps65
  go_wp2_with fail
  refine (kind_any h w t H).mono ?_
  rintro e w1 ⟨rfl, rfl⟩
  obtain ⟨kk, hk⟩ : ∃ kk, kindN h.m.types t = kk := ⟨_, rfl⟩
  rw [hk]
  have HK := Lib.hid hk
  clear hk
  cases hb : (kk == k)
  · have HB := Lib.hid hb
    go_wp2_with fail
    refine (need_bad h w1 H.d7).mono ?_
    rintro e w2 ⟨rfl, rfl⟩
    go_wp2_with fail
    exact ⟨rfl, Pure.of_bad (by rw [HK.out]; exact HB.out)⟩
  · have HB := Lib.hid hb
    go_wp2_with fail
    refine (need_ok h w1).mono ?_
    rintro e w2 ⟨rfl, rfl⟩
    go_wp2_with fail
    go_end0
    exact Pure.of_ok (by rw [HK.out]; exact HB.out)
end Go.Proofs.Ytdegfnejhamejaa
