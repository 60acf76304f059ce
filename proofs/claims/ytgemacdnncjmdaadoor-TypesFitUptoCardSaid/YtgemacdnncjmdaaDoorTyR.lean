/-
  Types in memory: as they came in (TyR: below a bound), as they were made (TyN: rows of their own in new blocks).
-/
import Derived.Test.YtgemacdnncjmdaaDoorGrow
import Derived.Test.YtgemacdnncjmdaaDoorTyN
namespace Go.Proofs.YtgemacdnncjmdaaDoor
open Go.RowKit
set_option linter.unusedVariables false
set_option linter.unusedSimpArgs false

def StrV (_ : World) (cs : List Value) (s : ByteArray) : Prop := cs = [.string s] ∧ s.size ≤ 1048576
abbrev StrsR (B : Nat) (w : World) (v : Value) (l : List ByteArray) : Prop := SlR B 0 1 StrV w v l
/-- The six cells of a type. -/
def tyCells (k : Int) (nm : ByteArray) (c : Int) (Af : Option Addr) (nf cf : Nat) (Al : Option Addr) (nl cl : Nat) (Ar : Option Addr) (nr cr : Nat) : List Value :=
  [.int .i64 k, .string nm, .int .i64 c, .slice Af nf cf, .slice Al nl cl, .slice Ar nr cr]
/-- What is asked of a type but for its parts. -/
def Small (t : Ty) : Prop := I64 t.kind ∧ I64 t.con ∧ t.name.size ≤ 1048576 ∧ t.fields.length ≤ 1048576 ∧ t.list.length ≤ 1048576 ∧ t.res.length ≤ 1048576
def FdR (R : World → List Value → Ty → Prop) (w : World) (cs : List Value) (p : ByteArray × Ty) : Prop := ∃ ds, cs = .string p.1 :: ds ∧ p.1.size ≤ 1048576 ∧ R w ds p.2
/-- A type no deeper than n, in memory that lies below B. -/
def TyR : Nat → Nat → World → List Value → Ty → Prop
  | 0, _, _, _, _ => False
  | n + 1, B, w, cs, t => Small t ∧ ∃ Af cf Al cl Ar cr, cs = tyCells t.kind t.name t.con Af t.fields.length cf Al t.list.length cl Ar t.res.length cr ∧
      SlR B 0 7 (FdR (TyR n B)) w (.slice Af t.fields.length cf) t.fields ∧ SlR B 0 6 (TyR n B) w (.slice Al t.list.length cl) t.list ∧ SlR B 0 6 (TyR n B) w (.slice Ar t.res.length cr) t.res
/-- A row in a block of the set G. -/
def RowG {α : Type} (G : Nat → Prop) (e size : Nat) (R : World → List Value → α → Prop) (w : World) (A : Option Addr) (c : Nat) (l : List α) : Prop :=
  RowR 0 e size R w A c l ∧ ∀ g, (Value.slice A l.length c).ownBlock = some g → G g
/-- A type no deeper than n, all of whose rows are of their own, in blocks of the set G. -/
def TyN : Nat → (Nat → Prop) → World → List Value → Ty → Prop
  | 0, _, _, _, _ => False
  | n + 1, G, w, cs, t => Small t ∧ ∃ Af cf Al cl Ar cr, cs = tyCells t.kind t.name t.con Af t.fields.length cf Al t.list.length cl Ar t.res.length cr ∧
      RowG G 35 7 (FdR (TyN n G)) w Af cf t.fields ∧ RowG G 33 6 (TyN n G) w Al cl t.list ∧ RowG G 33 6 (TyN n G) w Ar cr t.res
abbrev TysR (n B : Nat) (w : World) (v : Value) (l : List Ty) : Prop := SlR B 0 6 (TyR n B) w v l
section
variable {M : Nat → Nat → Prop} {B B' D : Nat} {w w' : World} {cs : List Value} {t : Ty} {v : Value}
theorem FdR.imp {R R' : World → List Value → Ty → Prop} {w w' : World} {p : ByteArray × Ty} (h : FdR R w cs p) (hR : ∀ cs x, R w cs x → R' w' cs x) : FdR R' w' cs p := by
  obtain ⟨ds, h1, h2, h3⟩ := h
  exact ⟨ds, h1, h2, hR _ _ h3⟩
theorem TyR.small : ∀ {n : Nat}, TyR n B w cs t → Small t
  | _ + 1, h => h.1
theorem TyR.len : ∀ {n : Nat}, TyR n B w cs t → cs.length = 6
  | _ + 1, ⟨_, _, _, _, _, _, _, h, _⟩ => by rw [h]; rfl
theorem TyN.small {G : Nat → Prop} : ∀ {n : Nat}, TyN n G w cs t → Small t
  | _ + 1, h => h.1
theorem TyN.len {G : Nat → Prop} : ∀ {n : Nat}, TyN n G w cs t → cs.length = 6
  | _ + 1, ⟨_, _, _, _, _, _, _, h, _⟩ => by rw [h]; rfl
theorem TyR.keep (hc : Chg M w w') (hm : LetsM M B) : ∀ {n : Nat} {cs : List Value} {t : Ty}, TyR n B w cs t → TyR n B w' cs t
  | n + 1, cs, t, ⟨hs, Af, cf, Al, cl, Ar, cr, h1, h2, h3, h4⟩ =>
    ⟨hs, Af, cf, Al, cl, Ar, cr, h1, h2.keep hc hm.lets fun _ _ h => h.imp fun _ _ h => TyR.keep hc hm h, h3.keep hc hm.lets fun _ _ h => TyR.keep hc hm h, h4.keep hc hm.lets fun _ _ h => TyR.keep hc hm h⟩
theorem TyR.more (hB : B ≤ B') : ∀ {n : Nat} {cs : List Value} {t : Ty}, TyR n B w cs t → TyR n B' w cs t
  | n + 1, cs, t, ⟨hs, Af, cf, Al, cl, Ar, cr, h1, h2, h3, h4⟩ =>
    ⟨hs, Af, cf, Al, cl, Ar, cr, h1, h2.imp (fun b _ hl => hl.imp (fun h => by omega) id) fun _ _ h => h.imp fun _ _ h => TyR.more hB h,
      h3.imp (fun b _ hl => hl.imp (fun h => by omega) id) fun _ _ h => TyR.more hB h, h4.imp (fun b _ hl => hl.imp (fun h => by omega) id) fun _ _ h => TyR.more hB h⟩
theorem TyR.deep : ∀ {n : Nat} {cs : List Value} {t : Ty}, TyR n B w cs t → ∀ {m : Nat}, n ≤ m → TyR m B w cs t
  | n + 1, cs, t, ⟨hs, Af, cf, Al, cl, Ar, cr, h1, h2, h3, h4⟩, 0, hm => absurd hm (Nat.not_succ_le_zero n)
  | n + 1, cs, t, ⟨hs, Af, cf, Al, cl, Ar, cr, h1, h2, h3, h4⟩, m + 1, hm =>
    ⟨hs, Af, cf, Al, cl, Ar, cr, h1, h2.imp (fun _ _ h => h) fun _ _ h => h.imp fun _ _ h => TyR.deep h (Nat.le_of_succ_le_succ hm), h3.imp (fun _ _ h => h) fun _ _ h => TyR.deep h (Nat.le_of_succ_le_succ hm),
      h4.imp (fun _ _ h => h) fun _ _ h => TyR.deep h (Nat.le_of_succ_le_succ hm)⟩
theorem RowG.keep {α : Type} {G : Nat → Prop} {e size : Nat} {R : World → List Value → α → Prop} {A : Option Addr} {c : Nat} {l : List α} (h : RowG G e size R w A c l) (hc : Chg M w w') (hm : ∀ b, G b → ¬ M b e) (hR : ∀ cs x, R w cs x → R w' cs x) : RowG G e size R w' A c l :=
  ⟨h.1.keep1 hc (fun b hb => hm b (h.2 b hb)) hR, h.2⟩
theorem RowG.imp {α : Type} {G G' : Nat → Prop} {e size : Nat} {R R' : World → List Value → α → Prop} {A : Option Addr} {c : Nat} {l : List α} (h : RowG G e size R w A c l) (hG : ∀ b, b < w.heap.size → G b → G' b) (hR : ∀ cs x, R w cs x → R' w cs x) : RowG G' e size R' w A c l :=
  ⟨h.1.imp hR, fun b hb => hG b (h.1.lt hb).1 (h.2 b hb)⟩
theorem TyN.keep {G : Nat → Prop} (hc : Chg M w w') (hm : ∀ b t, G b → (t = 35 ∨ t = 33) → ¬ M b t) : ∀ {n : Nat} {cs : List Value} {t : Ty}, TyN n G w cs t → TyN n G w' cs t
  | n + 1, cs, t, ⟨hs, Af, cf, Al, cl, Ar, cr, h1, h2, h3, h4⟩ =>
    ⟨hs, Af, cf, Al, cl, Ar, cr, h1, h2.keep hc (fun b h => hm b _ h (.inl rfl)) fun _ _ h => h.imp fun _ _ h => TyN.keep hc hm h, h3.keep hc (fun b h => hm b _ h (.inr rfl)) fun _ _ h => TyN.keep hc hm h, h4.keep hc (fun b h => hm b _ h (.inr rfl)) fun _ _ h => TyN.keep hc hm h⟩
theorem TyN.sub {G G' : Nat → Prop} (hG : ∀ b, b < w.heap.size → G b → G' b) : ∀ {n : Nat} {cs : List Value} {t : Ty}, TyN n G w cs t → TyN n G' w cs t
  | n + 1, cs, t, ⟨hs, Af, cf, Al, cl, Ar, cr, h1, h2, h3, h4⟩ =>
    ⟨hs, Af, cf, Al, cl, Ar, cr, h1, h2.imp hG fun _ _ h => h.imp fun _ _ h => TyN.sub hG h, h3.imp hG fun _ _ h => TyN.sub hG h, h4.imp hG fun _ _ h => TyN.sub hG h⟩
theorem TyN.deep {G : Nat → Prop} : ∀ {n : Nat} {cs : List Value} {t : Ty}, TyN n G w cs t → ∀ {m : Nat}, n ≤ m → TyN m G w cs t
  | n + 1, cs, t, ⟨hs, Af, cf, Al, cl, Ar, cr, h1, h2, h3, h4⟩, 0, hm => absurd hm (Nat.not_succ_le_zero n)
  | n + 1, cs, t, ⟨hs, Af, cf, Al, cl, Ar, cr, h1, h2, h3, h4⟩, m + 1, hm =>
    ⟨hs, Af, cf, Al, cl, Ar, cr, h1, h2.imp (fun _ _ h => h) fun _ _ h => h.imp fun _ _ h => TyN.deep h (Nat.le_of_succ_le_succ hm), h3.imp (fun _ _ h => h) fun _ _ h => TyN.deep h (Nat.le_of_succ_le_succ hm), h4.imp (fun _ _ h => h) fun _ _ h => TyN.deep h (Nat.le_of_succ_le_succ hm)⟩
theorem TyN.tyR {G : Nat → Prop} : ∀ {n : Nat} {cs : List Value} {t : Ty}, TyN n G w cs t → TyR n w.heap.size w cs t
  | n + 1, cs, t, ⟨hs, Af, cf, Al, cl, Ar, cr, h1, h2, h3, h4⟩ =>
    ⟨hs, Af, cf, Al, cl, Ar, cr, h1, h2.1.settleT (by decide) fun _ _ h => h.imp fun _ _ h => TyN.tyR h, h3.1.settleT (by decide) fun _ _ h => TyN.tyR h, h4.1.settleT (by decide) fun _ _ h => TyN.tyR h⟩
end
end Go.Proofs.YtgemacdnncjmdaaDoor
