/-
  The program's heap in memory: a struct, a map of objects, each of two rows. All blocks that its calls may turn are in the set G.
-/
import Derived.Test.YteigopmdhhgnfaaHpD
import Derived.Test.YteigopmdhhgnfaaIMap
import Derived.Test.YteigopmdhhgnfaaRowP
namespace Go.Proofs.Yteigopmdhhgnfaa
open Go.RowKit
set_option linter.unusedVariables false
set_option linter.unusedSimpArgs false

def U64V (_ : World) (cs : List Value) (k : Nat) : Prop := cs = [.int .u64 (k : Int)]
def BooV (_ : World) (cs : List Value) (k : Bool) : Prop := cs = [.bool k]
/-- An object: its block, its row of cells, its row of marks. -/
def ObjV (G : Nat → Prop) (w : World) (b : Nat) (A : Option Addr) (c : Nat) (o : ObjD) : Prop :=
  ∃ A' c', Blk w b 78 #[.slice A o.cells.length c, .slice A' o.refs.length c'] ∧ RowR 0 44 1 U64V w A c o.cells ∧ RowR 0 4 1 BooV w A' c' o.refs ∧
    (∀ g, OwnB A o.cells.length c g → G g) ∧ (∀ g, OwnB A' o.refs.length c' g → G g) ∧ G b
structure HpI (G : Nat → Prop) (w : World) (p m n cnt : Nat) (bo : Nat → Nat) (A : Nat → Option Addr) (c : Nat → Nat) (S : List ObjD) (bud least : Nat) : Prop where
  blk : Blk w p 75 #[.map (some m), .int .i64 (bud : Int), .int .i64 ((usedO S : Nat) : Int), .int .i64 (least : Int)]
  map : IMap w m n cnt (fun x => (findO S x).map fun o => .pointer (some ⟨bo o.name, 0, none⟩))
  obj : ∀ o ∈ S, ObjV G w (bo o.name) (A o.name) (c o.name) o
  dist : ∀ o ∈ S, ∀ o' ∈ S, ∀ g, OwnB (A o.name) o.cells.length (c o.name) g → OwnB (A o'.name) o'.cells.length (c o'.name) g → o.name = o'.name
  own : G p ∧ G m
  lt : ∀ b, G b → b < w.heap.size
  good : GoodO S
  low : 1 ≤ least ∧ ∀ i : Nat, 1 ≤ i → i < least → (findO S i).isSome = true
  room : usedO S ≤ bud ∧ bud ≤ 65536
/-- The heap at p: what it holds, its budget; at most N objects have been made. -/
def HpR (G : Nat → Prop) (w : World) (p N : Nat) (S : List ObjD) (bud : Nat) : Prop := ∃ m n cnt bo A c least, HpI G w p m n cnt bo A c S bud least ∧ n ≤ N
/-- What a call on a heap may turn. -/
def MH (G : Nat → Prop) (b t : Nat) : Prop := G b ∧ (t = 75 ∨ t = 44 ∨ t = 0)
/-- A heap behind a call: the same blocks, or new ones. -/
def HpP (G : Nat → Prop) (w w' : World) (p N : Nat) (S : List ObjD) (bud : Nat) : Prop := ∃ G' : Nat → Prop, HpR G' w' p N S bud ∧ (∀ b, G' b → G b ∨ w.heap.size ≤ b) ∧ Chg (MH G) w w'
section
variable {M : Nat → Nat → Prop} {G G' : Nat → Prop} {w w' w1 : World} {p m n cnt N bud least b c : Nat} {A : Option Addr} {S S' : List ObjD} {bo cc : Nat → Nat} {AA : Nat → Option Addr} {o : ObjD}
theorem ObjV.keep (h : ObjV G w b A c o) (hc : Chg M w w') (hm : ∀ b, G b → ¬ M b 44 ∧ ¬ M b 4 ∧ ¬ M b 78) : ObjV G w' b A c o := by
  obtain ⟨A', c', h1, h2, h3, h4, h5, h6⟩ := h
  exact ⟨A', c', hc.blk h1 (hm b h6).2.2, h2.keep1 hc (fun g hg => (hm g (h4 g hg)).1) fun _ _ h => h, h3.keep1 hc (fun g hg => (hm g (h5 g hg)).2.1) fun _ _ h => h, h4, h5, h6⟩
theorem HpI.keep (h : HpI G w p m n cnt bo AA cc S bud least) (hc : Chg M w w') (hm : ∀ b t, G b → ¬ M b t) : HpI G w' p m n cnt bo AA cc S bud least :=
  ⟨hc.blk h.blk (hm p _ h.own.1), h.map.keep hc (hm m _ h.own.2), fun o ho => (h.obj o ho).keep hc fun b hb => ⟨hm b _ hb, hm b _ hb, hm b _ hb⟩, h.dist, h.own, fun b hb => Nat.lt_of_lt_of_le (h.lt b hb) hc.size, h.good, h.low, h.room⟩
theorem HpR.keep (h : HpR G w p N S bud) (hc : Chg M w w') (hm : ∀ b t, G b → ¬ M b t) : HpR G w' p N S bud := by
  obtain ⟨m, n, cnt, bo, A, c, least, h, hn⟩ := h
  exact ⟨m, n, cnt, bo, A, c, least, h.keep hc hm, hn⟩
theorem HpR.lt (h : HpR G w p N S bud) {b : Nat} (hb : G b) : b < w.heap.size := by
  obtain ⟨m, n, cnt, bo, A, c, least, h, hn⟩ := h
  exact h.lt b hb
theorem HpP.same (h : HpR G w p N S bud) (hc : Chg (fun _ _ => False) w w') : HpP G w w' p N S bud :=
  ⟨G, h.keep hc fun _ _ _ => id, fun _ h => .inl h, hc.mono fun _ _ _ h => h.elim⟩
theorem HpP.chg (h : HpP G w w' p N S bud) : Chg (MH G) w w' := h.choose_spec.2.2
theorem HpP.then_new (k : HpP G w w1 p N S bud) (h : Chg (fun _ _ => False) w1 w') : HpP G w w' p N S bud := by
  obtain ⟨G', h1, h2, h3⟩ := k
  exact ⟨G', h1.keep h fun _ _ _ => id, h2, h3.trans (h.mono fun _ _ _ h => h.elim)⟩
theorem HpP.trans_new (h : Chg (fun _ _ => False) w w1) (k : HpP G w1 w' p N S bud) : HpP G w w' p N S bud := by
  obtain ⟨G', h1, h2, h3⟩ := k
  exact ⟨G', h1, fun b hb => (h2 b hb).imp id fun h' => Nat.le_trans h.size h', (h.mono fun _ _ _ h => h.elim).trans h3⟩
theorem HpI.r (h : HpI G w p m n cnt bo AA cc S bud least) (hn : n ≤ N) : HpR G w p N S bud := ⟨m, n, cnt, bo, AA, cc, least, h, hn⟩
end
/-- What cell answers: the object, or why there is none. -/
def cellV (bo : Nat → Nat) (S : List ObjD) (o i : Int) : Value × Int :=
  match findO S o with
  | none => (.pointer none, 15)
  | some x => if 0 ≤ i ∧ i < (x.cells.length : Int) then (.pointer (some ⟨bo x.name, 0, none⟩), 0) else (.pointer none, 16)
set_option maxRecDepth 100000 in
set_option maxHeartbeats 1000000 in
theorem hcell_any (G : Nat → Prop) (w : World) (p m n cnt : Nat) (bo : Nat → Nat) (A : Nat → Option Addr) (c : Nat → Nat) (S : List ObjD) (bud least : Nat) (o i : Int) (h : HpI G w p m n cnt bo A c S bud least) (ho : I64 o) :
    Calls Try.prog 34 #[.pointer (some ⟨p, 0, none⟩), .int .i64 o, .int .i64 i] w fun e w' => e = .returned (.tuple #[(cellV bo S o i).1, .int .i64 (cellV bo S o i).2]) ∧ Chg (fun _ _ => False) w w' := by
  have x0 : w.cell? ⟨p, 0, none⟩ = some (.map (some m)) := by simpa using h.blk.cell 0
  have hlk : (Instr.lookup 73 (.map (some m)) (.int .i64 o) false).run Try.prog w = .ok (((findO S o).map fun o => Value.pointer (some ⟨bo o.name, 0, none⟩)).getD (.pointer none)) w := h.map.look Try.underlying73 rfl ho
  unfold cellV
  cases hf : findO S o with
  | none =>
    rw [hf] at hlk
    simp only [Option.map_none, Option.getD_none] at hlk
    clear h hf
    go_enter Try.func34, Try.ntmps34
    go_wp2_with fail
    go_ret2
    exact ⟨rfl, Chg.refl _ _⟩
  | some x =>
    rw [hf] at hlk
    simp only [Option.map_some, Option.getD_some] at hlk
    obtain ⟨hx, hxo⟩ := findO_mem hf
    obtain ⟨A', c', hb, _⟩ := h.obj x hx
    have y0 : w.cell? ⟨bo x.name, 0, none⟩ = some (.slice (A x.name) x.cells.length (c x.name)) := by simpa using hb.cell 0
    clear h hf hb hx hxo
    by_cases h1 : i < 0
    · have r1 : ¬ (0 ≤ i ∧ i < (x.cells.length : Int)) := by omega
      simp only [r1, if_false]
      clear r1
      go_enter Try.func34, Try.ntmps34
      go_wp2_with fail
      go_ret2
      exact ⟨rfl, Chg.refl _ _⟩
    · by_cases h2 : (x.cells.length : Int) ≤ i
      · have r1 : ¬ (0 ≤ i ∧ i < (x.cells.length : Int)) := by omega
        simp only [r1, if_false]
        clear r1
        go_enter Try.func34, Try.ntmps34
        go_wp2_with fail
        go_ret2
        exact ⟨rfl, Chg.refl _ _⟩
      · have r1 : (0 ≤ i ∧ i < (x.cells.length : Int)) := by omega
        simp only [r1, and_self, if_true]
        clear r1
        go_enter Try.func34, Try.ntmps34
        go_wp2_with fail
        go_ret2
        exact ⟨rfl, Chg.refl _ _⟩
end Go.Proofs.Yteigopmdhhgnfaa
