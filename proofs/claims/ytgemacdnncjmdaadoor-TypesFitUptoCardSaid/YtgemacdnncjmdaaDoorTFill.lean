/-
  ref02.Fill, FillAll: types in new memory, with what names stand for.
-/
import Derived.Test.YtgemacdnncjmdaaDoorTyR
import Derived.Test.YtgemacdnncjmdaaDoorHeldG
namespace Go.Proofs.YtgemacdnncjmdaaDoor
open Go.RowKit
set_option linter.unusedVariables false
set_option linter.unusedSimpArgs false

theorem infoType : (Tryd.prog.info? 33).map (fun i => (i.zero, i.size, i.bytes)) = some (some (.agg #[.int .i64 0, .string ByteArray.empty, .int .i64 0, .slice none 0 0, .slice none 0 0, .slice none 0 0]), 6, 104) := by kernel_rfl
theorem infoField : (Tryd.prog.info? 35).map (fun i => (i.zero, i.size, i.bytes)) = some (some (.agg #[.string ByteArray.empty, .int .i64 0, .string ByteArray.empty, .int .i64 0, .slice none 0 0, .slice none 0 0, .slice none 0 0]), 7, 120) := by kernel_rfl
/-- What the names stand for. -/
noncomputable def assoc : List ByteArray → List Ty → ByteArray → Option Ty
  | n :: ns, t :: ts, x => if eqB x n then some t else assoc ns ts x
  | _, _, _ => none
/-- What Fill answers: that type, in new memory. -/
def FillRes (n : Nat) (u : Ty) (w : World) (e : Ending) (w' : World) : Prop :=
  ∃ Af cf Al cl Ar cr, e = .returned (.agg #[.int .i64 u.kind, .string u.name, .int .i64 u.con, .slice Af u.fields.length cf, .slice Al u.list.length cl, .slice Ar u.res.length cr]) ∧
    TyN n (fun b => w.heap.size ≤ b) w' (tyCells u.kind u.name u.con Af u.fields.length cf Al u.list.length cl Ar u.res.length cr) u ∧ Chg (fun _ _ => False) w w'
def FillsRes (n : Nat) (us : List Ty) (w : World) (e : Ending) (w' : World) : Prop :=
  ∃ A c, e = .returned (.slice A us.length c) ∧ RowG (fun b => w.heap.size ≤ b) 33 6 (TyN n fun b => w.heap.size ≤ b) w' A c us ∧ Chg (fun _ _ => False) w w'
/-- The contract of Fill at types no deeper than n. -/
def FillC (n m B : Nat) (f : ByteArray → Option Ty) (vn va : Value) (Pre : World → Prop) : Prop :=
  ∀ (w : World) (t : Ty) Af cf Al cl Ar cr, B ≤ w.heap.size → Pre w → TyR n B w (tyCells t.kind t.name t.con Af t.fields.length cf Al t.list.length cl Ar t.res.length cr) t →
    Calls Tryd.prog 14 #[.agg #[.int .i64 t.kind, .string t.name, .int .i64 t.con, .slice Af t.fields.length cf, .slice Al t.list.length cl, .slice Ar t.res.length cr], vn, va] w (FillRes m (t.fill f) w)
def Stays (Pre : World → Prop) : Prop := ∀ w w', Chg (fun _ _ => False) w w' → Pre w → Pre w'
theorem no_lets (B e : Nat) : Lets (fun _ _ => False) B e := ⟨fun _ _ _ => id, fun _ _ => id⟩
theorem TyR.keep0 {n B : Nat} {w w' : World} {cs : List Value} {t : Ty} (hc : Chg (fun _ _ => False) w w') (h : TyR n B w cs t) : TyR n B w' cs t := TyR.keep hc (fun _ _ _ => id) h
theorem TysR.keep0 {n B : Nat} {w w' : World} {v : Value} {l : List Ty} (hc : Chg (fun _ _ => False) w w') (h : TysR n B w v l) : TysR n B w' v l := SlR.keep h hc (no_lets _ _) fun _ _ h => TyR.keep0 hc h
/-- A type of a row: its six cells. -/
theorem TysR.at_ {n B k len c : Nat} {w : World} {A : Option Addr} {l : List Ty} (h : TysR n B w (.slice A len c) l) (hk : k < l.length) :
    ∃ b o t Af cf Al cl Ar cr, A = some ⟨b, o, none⟩ ∧ l[k]? = some t ∧ TyR n B w (tyCells t.kind t.name t.con Af t.fields.length cf Al t.list.length cl Ar t.res.length cr) t ∧
      w.cell? ⟨b, o + k * 6, none⟩ = some (.int .i64 t.kind) ∧ w.cell? ⟨b, o + k * 6 + 1, none⟩ = some (.string t.name) ∧ w.cell? ⟨b, o + k * 6 + 2, none⟩ = some (.int .i64 t.con) ∧
      w.cell? ⟨b, o + k * 6 + 3, none⟩ = some (.slice Af t.fields.length cf) ∧ w.cell? ⟨b, o + k * 6 + 4, none⟩ = some (.slice Al t.list.length cl) ∧ w.cell? ⟨b, o + k * 6 + 5, none⟩ = some (.slice Ar t.res.length cr) := by
  obtain ⟨b, o, t, cs, hA, ht, hl, hR, hc⟩ := SlR.at2 h hk
  cases n with
  | zero => exact hR.elim
  | succ n =>
    have hR' := hR
    obtain ⟨hs, Af, cf, Al, cl, Ar, cr, rfl, _⟩ := hR
    exact ⟨b, o, t, Af, cf, Al, cl, Ar, cr, hA, ht, hR', by simpa using hc 0 _ rfl, hc 1 _ rfl, hc 2 _ rfl, hc 3 _ rfl, hc 4 _ rfl, hc 5 _ rfl⟩
/-- A row that grows, whose elements lie in other blocks. -/
def GrowR {α : Type} (D e size : Nat) (R : (Nat → Prop) → World → List Value → α → Prop) (w : World) (A : Option Addr) (c : Nat) (l : List α) : Prop :=
  RowR 0 e size (R fun b => D ≤ b ∧ ¬ (Value.slice A l.length c).ownBlock = some b) w A c l ∧ ∀ g, (Value.slice A l.length c).ownBlock = some g → D ≤ g
theorem GrowR.nil {α : Type} (D e size : Nat) (R : (Nat → Prop) → World → List Value → α → Prop) (w : World) : GrowR D e size R w none 0 ([] : List α) := ⟨RowR.nil _ _ _ _ _, fun g h => by cases h⟩
theorem GrowR.rowG {α : Type} {D e size : Nat} {R : (Nat → Prop) → World → List Value → α → Prop} {w : World} {A : Option Addr} {c : Nat} {l : List α} (h : GrowR D e size R w A c l) (hs : ∀ G G' : Nat → Prop, (∀ b, b < w.heap.size → G b → G' b) → ∀ cs x, R G w cs x → R G' w cs x) : RowG (fun b => D ≤ b) e size (R fun b => D ≤ b) w A c l :=
  ⟨h.1.imp fun cs x hx => hs _ _ (fun b _ hb => hb.1) cs x hx, h.2⟩
theorem GrowR.keep {α : Type} {D e size : Nat} {R : (Nat → Prop) → World → List Value → α → Prop} {w w' : World} {A : Option Addr} {c : Nat} {l : List α} {M : Nat → Nat → Prop} (h : GrowR D e size R w A c l) (hc : Chg M w w') (hm : ∀ b, D ≤ b → ¬ M b e) (hR : ∀ G : Nat → Prop, (∀ b, G b → D ≤ b) → ∀ cs x, R G w cs x → R G w' cs x) : GrowR D e size R w' A c l :=
  ⟨h.1.keep1 hc (fun b hb => hm b (h.2 b hb)) fun cs x hx => hR _ (fun b hb => hb.1) cs x hx, h.2⟩
/-- One more at its end. -/
theorem GrowR.push {α : Type} {D e size c c2 : Nat} {R : (Nat → Prop) → World → List Value → α → Prop} {w w1 w2 : World} {l : List α} {x : α} {A A2 : Option Addr} {o : Obj} {xss : List (List Value)} {cs : List Value}
    (hk : ∀ (G : Nat → Prop) (M : Nat → Nat → Prop) (w w' : World), Chg M w w' → (∀ b t, G b → (t = 35 ∨ t = 33) → ¬ M b t) → ∀ cs x, R G w cs x → R G w' cs x) (hs : ∀ (G G' : Nat → Prop) (w : World), (∀ b, b < w.heap.size → G b → G' b) → ∀ cs x, R G w cs x → R G' w cs x)
    (x2 : xss.length = l.length) (x3 : ∀ cs ∈ xss, cs.length = size) (x4 : ∀ (j : Nat) y cs, l[j]? = some y → xss[j]? = some cs → R (fun b => D ≤ b ∧ ¬ (Value.slice A l.length c).ownBlock = some b) w cs y) (hD : ∀ g, (Value.slice A l.length c).ownBlock = some g → D ≤ g)
    (hDw : D ≤ w.heap.size) (hc : Chg (fun _ _ => False) w w1) (how : w1.ownsRow 0 e size (.slice A l.length c) l.length xss.flatten) (hold : ∀ g, (Value.slice A l.length c).ownBlock = some g → g < w.heap.size) (hx : R (fun b => w.heap.size ≤ b) w1 cs x) (hcs : cs.length = size)
    (hap : Apd (w1.alloc o) w2 0 e size A A2 l.length c (l.length + 1) c2 (xss.flatten ++ cs)) : GrowR D e size R w2 A2 c2 (l ++ [x]) ∧ Chg (fun b t => (Value.slice A l.length c).ownBlock = some b ∧ t = e) w1 w2 := by
  have hch := hap.chg1 how
  have hlen : (l ++ [x]).length = l.length + 1 := by simp
  have hpl := hap.place
  have hD2 : ∀ g, (Value.slice A2 (l ++ [x]).length c2).ownBlock = some g → D ≤ g := fun g hg => by
    rw [hlen] at hg
    rcases hpl with h | h
    · rw [h] at hg; exact hD g hg
    · rw [h] at hg
      injection hg with hg
      have := hc.size
      simp at hg
      omega
  have hno : ∀ b, b < w1.heap.size → ¬ (Value.slice A l.length c).ownBlock = some b → ¬ (Value.slice A2 (l ++ [x]).length c2).ownBlock = some b := fun b hb h1 h2 => by
    rw [hlen] at h2
    rcases hpl with h | h
    · rw [h] at h2; exact h1 h2
    · rw [h] at h2
      injection h2 with h2
      simp at h2
      omega
  refine ⟨⟨RowR.snoc (w := w2) x2 x3 ?_ (fun _ _ h => h) hap.own hcs ?_, hD2⟩, hch⟩
  · intro j y ds hj hd
    have h1 := hk _ _ _ _ hc (fun b t _ _ => id) _ _ (x4 j y ds hj hd)
    have h2 := hs _ (fun b => (D ≤ b ∧ ¬ (Value.slice A l.length c).ownBlock = some b) ∧ ¬ (Value.slice A2 (l ++ [x]).length c2).ownBlock = some b) w1 (fun b hb h => ⟨h, hno b hb h.2⟩) _ _ h1
    have h3 := hk _ _ _ _ hch (fun b t hb _ hm => hb.1.2 hm.1) _ _ h2
    exact hs _ _ w2 (fun b _ h => ⟨h.1.1, h.2⟩) _ _ h3
  · have h2 := hs _ (fun b => w.heap.size ≤ b ∧ ¬ (Value.slice A2 (l ++ [x]).length c2).ownBlock = some b) w1 (fun b hb h => ⟨h, hno b hb fun h' => by have := hold b h'; omega⟩) _ _ hx
    have h3 := hk _ _ _ _ hch (fun b t hb _ hm => by have := hold b hm.1; have := hb.1; omega) _ _ h2
    exact hs _ _ w2 (fun b _ h => ⟨Nat.le_trans hDw h.1, h.2⟩) _ _ h3
theorem tyN_keepR (n : Nat) (G : Nat → Prop) (M : Nat → Nat → Prop) (w w' : World) (hc : Chg M w w') (hm : ∀ b t, G b → (t = 35 ∨ t = 33) → ¬ M b t) (cs : List Value) (t : Ty) (h : TyN n G w cs t) : TyN n G w' cs t := TyN.keep hc hm h
theorem tyN_subR (n : Nat) (G G' : Nat → Prop) (w : World) (hG : ∀ b, b < w.heap.size → G b → G' b) (cs : List Value) (t : Ty) (h : TyN n G w cs t) : TyN n G' w cs t := TyN.sub hG h
end Go.Proofs.YtgemacdnncjmdaaDoor
