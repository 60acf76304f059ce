/-
  The program's hub in memory: a struct of two rows, of channels (each with a queue of its own) and of those who wait. All blocks that its calls may turn are in the set G.
-/
import Derived.Test.YtclllnoohoonoaaRow
import Derived.Test.YtclllnoohoonoaaHubN
namespace Go.Proofs.Ytclllnoohoonoaa
open Go.RowKit
set_option linter.unusedVariables false
set_option linter.unusedSimpArgs false

def I64 (x : Int) : Prop := -9223372036854775808 ≤ x ∧ x ≤ 9223372036854775807
def U64 (x : Nat) : Prop := x < 18446744073709551616
def u64V (l : List Nat) : List Value := l.map fun x : Nat => Value.int .u64 (x : Int)
def CaseV (_ : World) (cs : List Value) (x : CaseC) : Prop := cs = [.bool x.send, .int .i64 x.chan, .int .u64 x.val] ∧ I64 x.chan ∧ U64 x.val
def CasesC (w : World) (v : Value) (l : List CaseC) : Prop := SlR 0 52 3 CaseV w v l
def WaitV (w : World) (cs : List Value) (x : WaitD) : Prop := ∃ A c, cs = [.int .i64 x.who, .slice A x.cases.length c] ∧ I64 x.who ∧ CasesC w (.slice A x.cases.length c) x.cases
def ChanV (w : World) (cs : List Value) (x : ChanD) : Prop := ∃ v, cs = [.int .i64 x.size, v, .bool x.shut] ∧ I64 x.size ∧ QR w 41 v (u64V x.buf) ∧ ∀ y ∈ x.buf, U64 y
def bufOf (cs : List Value) : Option Nat := (cs.getD 1 default).ownBlock
def ChansI (G : Nat → Prop) (w : World) (A : Option Addr) (c : Nat) (l : List ChanD) : Prop :=
  ∃ xss : List (List Value), w.ownsRow 0 78 3 (.slice A l.length c) l.length xss.flatten ∧ xss.length = l.length ∧ (∀ cs ∈ xss, cs.length = 3) ∧ (∀ (k : Nat) x cs, l[k]? = some x → xss[k]? = some cs → ChanV w cs x) ∧
    (∀ (i j : Nat) ci cj g, xss[i]? = some ci → xss[j]? = some cj → bufOf ci = some g → bufOf cj = some g → i = j) ∧ (∀ (i : Nat) ci g, xss[i]? = some ci → bufOf ci = some g → G g) ∧ (∀ g, (Value.slice A l.length c).ownBlock = some g → G g)
structure HubI (G : Nat → Prop) (w : World) (p : Nat) (A : Option Addr) (c : Nat) (A' : Option Addr) (c' : Nat) (H : HubD) : Prop where
  blk : Blk w p 75 #[.slice A H.list.length c, .slice A' H.wait.length c']
  chans : ChansI G w A c H.list
  waits : RowR 0 80 2 WaitV w A' c' H.wait
  wown : ∀ b, (Value.slice A' H.wait.length c').ownBlock = some b → G b
  own : G p
  lt : ∀ b, G b → b < w.heap.size
def HubR (G : Nat → Prop) (w : World) (p : Nat) (H : HubD) : Prop := ∃ A c A' c', HubI G w p A c A' c' H
/-- What a call on a hub may turn. -/
def MI (G : Nat → Prop) (b t : Nat) : Prop := G b ∧ (t = 75 ∨ t = 78 ∨ t = 80 ∨ t = 41)
/-- A hub behind a call: the same blocks, or new ones. -/
def HubP (G : Nat → Prop) (w w' : World) (p : Nat) (H : HubD) : Prop := ∃ G' : Nat → Prop, HubR G' w' p H ∧ (∀ b, G' b → G b ∨ w.heap.size ≤ b) ∧ Chg (MI G) w w'

section
variable {M : Nat → Nat → Prop} {G G' : Nat → Prop} {w w' w1 : World} {v : Value} {cs : List Value} {A A' : Option Addr} {c c' p : Nat} {H : HubD}
theorem CasesC.keep {l : List CaseC} (h : CasesC w v l) (hc : Chg M w w') (hm : ∀ b, ¬ M b 52) : CasesC w' v l := SlR.keep h hc ⟨fun b _ hb => absurd hb (Nat.not_lt_zero _), fun _ => hm⟩ fun _ _ h => h
theorem CasesC.at_ {n k : Nat} {l : List CaseC} (h : CasesC w (.slice A n c) l) (hk : k < l.length) : ∃ b o x, A = some ⟨b, o, none⟩ ∧ l[k]? = some x ∧ I64 x.chan ∧ U64 x.val ∧
    w.cell? ⟨b, o + k * 3, none⟩ = some (.bool x.send) ∧ w.cell? ⟨b, o + k * 3 + 1, none⟩ = some (.int .i64 x.chan) ∧ w.cell? ⟨b, o + k * 3 + 2, none⟩ = some (.int .u64 x.val) := by
  obtain ⟨b, o, c', cs, hv, _, _, _, h1, ⟨rfl, h2, h3⟩, h4⟩ := SlR.at_ h hk
  injection hv with hA
  exact ⟨b, o, l[k], hA, List.getElem?_eq_getElem hk, h2, h3, by simpa using h4 0 _ rfl, h4 1 _ rfl, h4 2 _ rfl⟩
theorem WaitV.keep {x : WaitD} (h : WaitV w cs x) (hc : Chg M w w') (hm : ∀ b, ¬ M b 52) : WaitV w' cs x := by
  obtain ⟨A, c, h1, h2, h3⟩ := h
  exact ⟨A, c, h1, h2, h3.keep hc hm⟩
theorem ChanV.keep {x : ChanD} (h : ChanV w cs x) (hc : Chg M w w') (hm : ∀ g, bufOf cs = some g → ¬ M g 41) : ChanV w' cs x := by
  obtain ⟨v, rfl, h1, h2, h3⟩ := h
  exact ⟨v, rfl, h1, h2.keep hc hm, h3⟩
theorem ChansI.keep {l : List ChanD} (h : ChansI G w A c l) (hc : Chg M w w') (hm : ∀ b t, G b → ¬ M b t) : ChansI G w' A c l := by
  obtain ⟨xss, h1, h2, h3, h4, h5, h6, h7⟩ := h
  exact ⟨xss, hc.own h1 fun g hg => hm g _ (h7 g hg), h2, h3, fun k x cs a b => (h4 k x cs a b).keep hc fun g hg => hm g _ (h6 k cs g b hg), h5, h6, h7⟩
theorem ChansI.more {l : List ChanD} (h : ChansI G w A c l) (hG : ∀ b, G b → G' b) : ChansI G' w A c l := by
  obtain ⟨xss, h1, h2, h3, h4, h5, h6, h7⟩ := h
  exact ⟨xss, h1, h2, h3, h4, h5, fun i ci g a b => hG _ (h6 i ci g a b), fun g a => hG _ (h7 g a)⟩
theorem HubI.keep (h : HubI G w p A c A' c' H) (hc : Chg M w w') (hm : ∀ b t, G b → ¬ M b t) (hm2 : ∀ b, ¬ M b 52) : HubI G w' p A c A' c' H :=
  ⟨hc.blk h.blk (hm p _ h.own), h.chans.keep hc hm, h.waits.keep1 hc (fun b hb => hm b _ (h.wown b hb)) fun _ _ h => h.keep hc hm2, h.wown, h.own, fun b hb => Nat.lt_of_lt_of_le (h.lt b hb) hc.size⟩
theorem HubR.keep (h : HubR G w p H) (hc : Chg M w w') (hm : ∀ b t, G b → ¬ M b t) (hm2 : ∀ b, ¬ M b 52) : HubR G w' p H := by
  obtain ⟨A, c, A', c', h⟩ := h
  exact ⟨A, c, A', c', h.keep hc hm hm2⟩
theorem HubR.lt (h : HubR G w p H) {b : Nat} (hb : G b) : b < w.heap.size := by
  obtain ⟨A, c, A', c', h⟩ := h
  exact h.lt b hb
theorem HubP.same (h : HubR G w p H) (hc : Chg (fun _ _ => False) w w') : HubP G w w' p H :=
  ⟨G, h.keep hc (fun _ _ _ => id) (fun _ => id), fun _ h => .inl h, hc.mono fun _ _ _ h => h.elim⟩
theorem HubP.trans_new {H' : HubD} (h : Chg (fun _ _ => False) w w1) (k : HubP G w1 w' p H') (hlt : ∀ b, G b → b < w.heap.size) : HubP G w w' p H' := by
  obtain ⟨G', h1, h2, h3⟩ := k
  exact ⟨G', h1, fun b hb => (h2 b hb).imp id fun h' => Nat.le_trans h.size h', (h.mono fun _ _ _ h => h.elim).trans h3⟩
theorem HubP.chg (h : HubP G w w' p H) : Chg (MI G) w w' := h.choose_spec.2.2
theorem HubP.then_new (k : HubP G w w1 p H) (h : Chg (fun _ _ => False) w1 w') : HubP G w w' p H := by
  obtain ⟨G', h1, h2, h3⟩ := k
  exact ⟨G', h1.keep h (fun _ _ _ => id) (fun _ => id), h2, h3.trans (h.mono fun _ _ _ h => h.elim)⟩
theorem HubP.trans {H' : HubD} (h : HubP G w w1 p H) (k : ∀ G', HubR G' w1 p H → (∀ b, G' b → G b ∨ w.heap.size ≤ b) → HubP G' w1 w' p H') : HubP G w w' p H' := by
  obtain ⟨G', h1, h2, h3⟩ := h
  obtain ⟨G'', k1, k2, k3⟩ := k G' h1 h2
  refine ⟨G'', k1, fun b hb => ?_, h3.trans_le k3 fun b t hb h => ?_⟩
  · rcases k2 b hb with h | h
    · exact h2 b h
    · exact .inr (Nat.le_trans h3.size h)
  · rcases h2 b h.1 with h' | h'
    · exact ⟨h', h.2⟩
    · omega
end
end Go.Proofs.Ytclllnoohoonoaa
