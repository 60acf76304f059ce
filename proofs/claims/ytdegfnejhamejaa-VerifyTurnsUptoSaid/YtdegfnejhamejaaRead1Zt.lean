/-
  Reading in the program: its boxes, a fault told (Decode$1), a number (Decode$2).
-/
import Derived.Test.YtdegfnejhamejaaReadNZt
import Derived.Test.YtdegfnejhamejaaOwnZt
import Derived.IntWalk
namespace Go.Proofs.Ytdegfnejhamejaa
open Go.RowKit
set_option linter.unusedVariables false
set_option linter.unusedSimpArgs false

/-- Where Decode's variables lie. -/
structure EnvB where
  ba : Nat
  bb : Nat
  bs : Nat
  bf : Nat
  bn : Nat
  bm : Nat
  be : Nat
  bi : Nat
  bl : Nat
  A : Option Addr
  c : Nat
abbrev ptr (b : Nat) : Value := .pointer (some ⟨b, 0, none⟩)
def ByteV (_ : World) (cs : List Value) (x : Nat) : Prop := cs = [.int .u8 (x : Int)] ∧ x < 256
structure Boxes (E : EnvB) (B : Nat) (bs : List Nat) (w : World) (at_ : Nat) (bad : Int) : Prop where
  at_ : Blk w E.ba 3 #[.int .i64 (at_ : Int)]
  bad : Blk w E.bb 3 #[.int .i64 bad]
  text : Blk w E.bs 56 #[.slice E.A bs.length E.c]
  fail : Blk w E.bf 72 #[.func (.func 37) #[] #[ptr E.bb]]
  num : Blk w E.bn 85 #[.func (.func 38) #[] #[ptr E.bb, ptr E.ba, ptr E.bs, ptr E.bf]]
  small : Blk w E.bm 86 #[.func (.func 39) #[] #[ptr E.ba, ptr E.bn, ptr E.bf]]
  each : Blk w E.be 87 #[.func (.func 40) #[] #[ptr E.bm, ptr E.bb]]
  ints : Blk w E.bi 88 #[.func (.func 41) #[] #[ptr E.be, ptr E.bm]]
  flag : Blk w E.bl 30 #[.func (.func 43) #[] #[ptr E.ba, ptr E.bn, ptr E.bf]]
  bytes : SlR B 0 1 ByteV w (.slice E.A bs.length E.c) bs
  low : B ≤ E.ba ∧ B ≤ E.bb ∧ B ≤ w.heap.size
  two : E.ba ≠ E.bb
def badI (st : Except Nat Nat) : Int := match st with
  | .ok _ => -1
  | .error f => (f : Int)
/-- The reader's state in memory. -/
def Env (E : EnvB) (B : Nat) (bs : List Nat) (w : World) (st : Except Nat Nat) : Prop := ∃ a : Nat, Boxes E B bs w a (badI st) ∧ a ≤ bs.length ∧ (∀ a', st = .ok a' → a' = a) ∧ ∀ f, st = .error f → f ≤ bs.length
/-- What reading may turn. -/
def ME (E : EnvB) (b t : Nat) : Prop := (b = E.ba ∨ b = E.bb) ∧ t = 3
section
variable {E : EnvB} {B : Nat} {bs : List Nat} {w w' : World} {a : Nat} {bad : Int} {st : Except Nat Nat} {M : Nat → Nat → Prop}
/-- What a frame lets be: the boxes and the bytes. -/
def LetsE (M : Nat → Nat → Prop) (E : EnvB) (B : Nat) : Prop := (∀ b t, b < B → ¬ M b t) ∧ (∀ t, ¬ M E.ba t) ∧ (∀ t, ¬ M E.bb t) ∧ (∀ t, ¬ M E.bs t) ∧ (∀ t, ¬ M E.bf t) ∧ (∀ t, ¬ M E.bn t) ∧ (∀ t, ¬ M E.bm t) ∧ (∀ t, ¬ M E.be t) ∧ (∀ t, ¬ M E.bi t) ∧ (∀ t, ¬ M E.bl t)
theorem Boxes.keep (h : Boxes E B bs w a bad) (hc : Chg M w w') (hm : LetsE M E B) : Boxes E B bs w' a bad :=
  ⟨hc.blk h.at_ (hm.2.1 _), hc.blk h.bad (hm.2.2.1 _), hc.blk h.text (hm.2.2.2.1 _), hc.blk h.fail (hm.2.2.2.2.1 _), hc.blk h.num (hm.2.2.2.2.2.1 _), hc.blk h.small (hm.2.2.2.2.2.2.1 _), hc.blk h.each (hm.2.2.2.2.2.2.2.1 _), hc.blk h.ints (hm.2.2.2.2.2.2.2.2.1 _), hc.blk h.flag (hm.2.2.2.2.2.2.2.2.2 _),
    SlR.keep h.bytes hc ⟨hm.1, fun h => absurd rfl h⟩ fun _ _ h => h, ⟨h.low.1, h.low.2.1, Nat.le_trans h.low.2.2 hc.size⟩, h.two⟩
theorem Env.keep (h : Env E B bs w st) (hc : Chg M w w') (hm : LetsE M E B) : Env E B bs w' st := by
  obtain ⟨a, h1, h2⟩ := h
  exact ⟨a, h1.keep hc hm, h2⟩
theorem LetsE.no (E : EnvB) (B : Nat) : LetsE (fun _ _ => False) E B := ⟨fun _ _ _ => id, fun _ => id, fun _ => id, fun _ => id, fun _ => id, fun _ => id, fun _ => id, fun _ => id, fun _ => id, fun _ => id⟩
/-- The place is set. -/
theorem Boxes.setAt (h : Boxes E B bs w a bad) (a' : Nat) : Boxes E B bs (w.setCell ⟨E.ba, 0, none⟩ (.int .i64 (a' : Int))) a' bad ∧ Chg (ME E) w (w.setCell ⟨E.ba, 0, none⟩ (.int .i64 (a' : Int))) := by
  have hc := chg_set (j := 0) h.at_ (.int .i64 (a' : Int))
  refine ⟨⟨by simpa using h.at_.set_ 0 (.int .i64 (a' : Int)), hc.blk h.bad fun h' => h.two h'.1.symm, hc.blk h.text fun h' => absurd h'.2 (by decide), hc.blk h.fail fun h' => absurd h'.2 (by decide), hc.blk h.num fun h' => absurd h'.2 (by decide), hc.blk h.small fun h' => absurd h'.2 (by decide), hc.blk h.each fun h' => absurd h'.2 (by decide), hc.blk h.ints fun h' => absurd h'.2 (by decide), hc.blk h.flag fun h' => absurd h'.2 (by decide),
    SlR.keep h.bytes hc ⟨fun b t hb h' => by have := h.low.1; have := h'.1; omega, fun h => absurd rfl h⟩ fun _ _ h => h, ⟨h.low.1, h.low.2.1, Nat.le_trans h.low.2.2 hc.size⟩, h.two⟩, hc.mono fun b t _ h => ⟨.inl h.1, h.2⟩⟩
theorem Boxes.setBad (h : Boxes E B bs w a bad) (bad' : Int) : Boxes E B bs (w.setCell ⟨E.bb, 0, none⟩ (.int .i64 bad')) a bad' ∧ Chg (ME E) w (w.setCell ⟨E.bb, 0, none⟩ (.int .i64 bad')) := by
  have hc := chg_set (j := 0) h.bad (.int .i64 bad')
  refine ⟨⟨hc.blk h.at_ fun h' => h.two h'.1, by simpa using h.bad.set_ 0 (.int .i64 bad'), hc.blk h.text fun h' => absurd h'.2 (by decide), hc.blk h.fail fun h' => absurd h'.2 (by decide), hc.blk h.num fun h' => absurd h'.2 (by decide), hc.blk h.small fun h' => absurd h'.2 (by decide), hc.blk h.each fun h' => absurd h'.2 (by decide), hc.blk h.ints fun h' => absurd h'.2 (by decide), hc.blk h.flag fun h' => absurd h'.2 (by decide),
    SlR.keep h.bytes hc ⟨fun b t hb h' => by have := h.low.2.1; have := h'.1; omega, fun h => absurd rfl h⟩ fun _ _ h => h, ⟨h.low.1, h.low.2.1, Nat.le_trans h.low.2.2 hc.size⟩, h.two⟩, hc.mono fun b t _ h => ⟨.inr h.1, h.2⟩⟩
end
/-- A fault at a place: only the first is kept. -/
def failS (st : Except Nat Nat) (place : Nat) : Except Nat Nat := match st with
  | .ok _ => .error place
  | .error f => .error f
def FailRes (E : EnvB) (B : Nat) (bs : List Nat) (st : Except Nat Nat) (w : World) (e : Ending) (w' : World) : Prop := e = .returned (.tuple #[]) ∧ Env E B bs w' st ∧ Chg (ME E) w w'
set_option maxRecDepth 100000 in
theorem fail_any (E : EnvB) (B : Nat) (bs : List Nat) (w : World) (st : Except Nat Nat) (h : Env E B bs w st) (place : Nat) (hp : place ≤ bs.length) :
    Calls Try.prog 37 #[.int .i64 (place : Int), ptr E.bb] w (FailRes E B bs (failS st place) w) := by
  obtain ⟨a, hb, ha, h1, h2⟩ := h
  have c0 := hb.bad.cell 0
  have z0 := hb.bad.frozen 0
  have HB := Lib.hid (And.intro hb (And.intro ha (And.intro h1 h2)))
  clear hb ha h1 h2
  cases st with
  | ok a' =>
    have hbi : badI (.ok a') = -1 := rfl
    rw [hbi] at c0
    go_enter Try.func37, Try.ntmps37
    go_wp2_with fail
    go_end0
    obtain ⟨h3, h4⟩ := HB.out.1.setBad (place : Int)
    exact ⟨rfl, ⟨a, h3, HB.out.2.1, (fun a h => by cases h), fun f h => by injection h with h; omega⟩, h4⟩
  | error f =>
    have hbi : badI (.error f) = (f : Int) := rfl
    rw [hbi] at c0
    have hlt : decide ((f : Int) < 0) = false := decide_eq_false (by omega)
    go_enter Try.func37, Try.ntmps37
    go_wp2_with fail
    go_end0
    exact ⟨rfl, ⟨a, HB.out.1, HB.out.2⟩, Chg.refl _ _⟩
end Go.Proofs.Ytdegfnejhamejaa
