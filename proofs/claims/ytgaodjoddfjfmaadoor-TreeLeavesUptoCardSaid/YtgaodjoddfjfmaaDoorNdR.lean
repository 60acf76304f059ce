/-
  Trees in memory: as they came in (NdR: below a bound), as they were made (NdN: rows of their own in new blocks).
-/
import Derived.Test.YtgaodjoddfjfmaaDoorGrow
import Derived.Test.YtgaodjoddfjfmaaDoorHeldG
import Derived.Test.YtgaodjoddfjfmaaDoorNd
namespace Go.Proofs.YtgaodjoddfjfmaaDoor
open Go.RowKit
set_option linter.unusedVariables false
set_option linter.unusedSimpArgs false

def U64 (x : Nat) : Prop := x < 18446744073709551616
/-- The five cells of a node. -/
def ndCells (k : Int) (tx : ByteArray) (n : Nat) (p : Int) (A : Option Addr) (len c : Nat) : List Value :=
  [.int .i64 k, .string tx, .int .u64 n, .int .i64 p, .slice A len c]
/-- What is asked of a node but for its parts. -/
def SmallN (t : Nd) : Prop := I64 t.kind ∧ I64 t.at_ ∧ U64 t.n ∧ t.text.size ≤ 1048576 ∧ t.list.length ≤ 1048576
/-- A tree no deeper than n, in memory that lies below B. -/
def NdR : Nat → Nat → World → List Value → Nd → Prop
  | 0, _, _, _, _ => False
  | n + 1, B, w, cs, t => SmallN t ∧ ∃ A c, cs = ndCells t.kind t.text t.n t.at_ A t.list.length c ∧ SlR B 0 5 (NdR n B) w (.slice A t.list.length c) t.list
/-- A row in a block of the set G. -/
def RowG {α : Type} (G : Nat → Prop) (e size : Nat) (R : World → List Value → α → Prop) (w : World) (A : Option Addr) (c : Nat) (l : List α) : Prop :=
  RowR 0 e size R w A c l ∧ ∀ g, (Value.slice A l.length c).ownBlock = some g → G g
/-- A tree no deeper than n, all of whose rows are of their own, in blocks of the set G. -/
def NdN : Nat → (Nat → Prop) → World → List Value → Nd → Prop
  | 0, _, _, _, _ => False
  | n + 1, G, w, cs, t => SmallN t ∧ ∃ A c, cs = ndCells t.kind t.text t.n t.at_ A t.list.length c ∧ RowG G 25 5 (NdN n G) w A c t.list
abbrev NdsR (n B : Nat) (w : World) (v : Value) (l : List Nd) : Prop := SlR B 0 5 (NdR n B) w v l
theorem no_lets (B e : Nat) : Lets (fun _ _ => False) B e := ⟨fun _ _ _ => id, fun _ _ => id⟩
section
variable {M : Nat → Nat → Prop} {B B' D : Nat} {w w' : World} {cs : List Value} {t : Nd} {v : Value}
theorem NdR.small : ∀ {n : Nat}, NdR n B w cs t → SmallN t
  | _ + 1, h => h.1
theorem NdR.len : ∀ {n : Nat}, NdR n B w cs t → cs.length = 5
  | _ + 1, ⟨_, _, _, h, _⟩ => by rw [h]; rfl
theorem NdN.small {G : Nat → Prop} : ∀ {n : Nat}, NdN n G w cs t → SmallN t
  | _ + 1, h => h.1
theorem NdN.len {G : Nat → Prop} : ∀ {n : Nat}, NdN n G w cs t → cs.length = 5
  | _ + 1, ⟨_, _, _, h, _⟩ => by rw [h]; rfl
theorem NdR.keep (hc : Chg M w w') (hm : LetsM M B) : ∀ {n : Nat} {cs : List Value} {t : Nd}, NdR n B w cs t → NdR n B w' cs t
  | n + 1, cs, t, ⟨hs, A, c, h1, h2⟩ => ⟨hs, A, c, h1, h2.keep hc hm.lets fun _ _ h => NdR.keep hc hm h⟩
theorem NdR.keep0 {n : Nat} (hc : Chg (fun _ _ => False) w w') (h : NdR n B w cs t) : NdR n B w' cs t := NdR.keep hc (fun _ _ _ => id) h
theorem NdsR.keep0 {n : Nat} {l : List Nd} (hc : Chg (fun _ _ => False) w w') (h : NdsR n B w v l) : NdsR n B w' v l := SlR.keep h hc (no_lets _ _) fun _ _ h => NdR.keep0 hc h
theorem NdR.more (hB : B ≤ B') : ∀ {n : Nat} {cs : List Value} {t : Nd}, NdR n B w cs t → NdR n B' w cs t
  | n + 1, cs, t, ⟨hs, A, c, h1, h2⟩ => ⟨hs, A, c, h1, h2.imp (fun b _ hl => hl.imp (fun h => by omega) id) fun _ _ h => NdR.more hB h⟩
theorem NdR.deep : ∀ {n : Nat} {cs : List Value} {t : Nd}, NdR n B w cs t → ∀ {m : Nat}, n ≤ m → NdR m B w cs t
  | n + 1, cs, t, ⟨hs, A, c, h1, h2⟩, 0, hm => absurd hm (Nat.not_succ_le_zero n)
  | n + 1, cs, t, ⟨hs, A, c, h1, h2⟩, m + 1, hm => ⟨hs, A, c, h1, h2.imp (fun _ _ h => h) fun _ _ h => NdR.deep h (Nat.le_of_succ_le_succ hm)⟩
theorem RowG.keep {α : Type} {G : Nat → Prop} {e size : Nat} {R : World → List Value → α → Prop} {A : Option Addr} {c : Nat} {l : List α} (h : RowG G e size R w A c l) (hc : Chg M w w') (hm : ∀ b, G b → ¬ M b e) (hR : ∀ cs x, R w cs x → R w' cs x) : RowG G e size R w' A c l :=
  ⟨h.1.keep1 hc (fun b hb => hm b (h.2 b hb)) hR, h.2⟩
theorem RowG.imp {α : Type} {G G' : Nat → Prop} {e size : Nat} {R : World → List Value → α → Prop} {R' : World → List Value → α → Prop} {A : Option Addr} {c : Nat} {l : List α} (h : RowG G e size R w A c l) (hG : ∀ b, b < w.heap.size → G b → G' b) (hR : ∀ cs x, R w cs x → R' w cs x) : RowG G' e size R' w A c l :=
  ⟨h.1.imp hR, fun b hb => hG b (h.1.lt hb).1 (h.2 b hb)⟩
theorem NdN.keep {G : Nat → Prop} (hc : Chg M w w') (hm : ∀ b, G b → ¬ M b 25) : ∀ {n : Nat} {cs : List Value} {t : Nd}, NdN n G w cs t → NdN n G w' cs t
  | n + 1, cs, t, ⟨hs, A, c, h1, h2⟩ => ⟨hs, A, c, h1, h2.keep hc (fun b h => hm b h) fun _ _ h => NdN.keep hc hm h⟩
theorem NdN.sub {G G' : Nat → Prop} (hG : ∀ b, b < w.heap.size → G b → G' b) : ∀ {n : Nat} {cs : List Value} {t : Nd}, NdN n G w cs t → NdN n G' w cs t
  | n + 1, cs, t, ⟨hs, A, c, h1, h2⟩ => ⟨hs, A, c, h1, h2.imp hG fun _ _ h => NdN.sub hG h⟩
theorem NdN.deep {G : Nat → Prop} : ∀ {n : Nat} {cs : List Value} {t : Nd}, NdN n G w cs t → ∀ {m : Nat}, n ≤ m → NdN m G w cs t
  | n + 1, cs, t, ⟨hs, A, c, h1, h2⟩, 0, hm => absurd hm (Nat.not_succ_le_zero n)
  | n + 1, cs, t, ⟨hs, A, c, h1, h2⟩, m + 1, hm => ⟨hs, A, c, h1, h2.imp (fun _ _ h => h) fun _ _ h => NdN.deep h (Nat.le_of_succ_le_succ hm)⟩
theorem NdN.ndR {G : Nat → Prop} : ∀ {n : Nat} {cs : List Value} {t : Nd}, NdN n G w cs t → NdR n w.heap.size w cs t
  | n + 1, cs, t, ⟨hs, A, c, h1, h2⟩ => ⟨hs, A, c, h1, h2.1.settleT (by decide) fun _ _ h => NdN.ndR h⟩
/-- A node of a row: its five cells. -/
theorem NdsR.at_ {n k len c D : Nat} {A : Option Addr} {l : List Nd} (h : SlR D 0 5 (NdR n B) w (.slice A len c) l) (hk : k < l.length) :
    ∃ b o t A' c', A = some ⟨b, o, none⟩ ∧ l[k]? = some t ∧ NdR n B w (ndCells t.kind t.text t.n t.at_ A' t.list.length c') t ∧
      w.cell? ⟨b, o + k * 5, none⟩ = some (.int .i64 t.kind) ∧ w.cell? ⟨b, o + k * 5 + 1, none⟩ = some (.string t.text) ∧ w.cell? ⟨b, o + k * 5 + 2, none⟩ = some (.int .u64 t.n) ∧
      w.cell? ⟨b, o + k * 5 + 3, none⟩ = some (.int .i64 t.at_) ∧ w.cell? ⟨b, o + k * 5 + 4, none⟩ = some (.slice A' t.list.length c') := by
  obtain ⟨b, o, t, cs, hA, ht, hl, hR, hc⟩ := SlR.at2 h hk
  cases n with
  | zero => exact hR.elim
  | succ n =>
    have hR' := hR
    obtain ⟨hs, A', c', rfl, _⟩ := hR
    exact ⟨b, o, t, A', c', hA, ht, hR', by simpa using hc 0 _ rfl, hc 1 _ rfl, hc 2 _ rfl, hc 3 _ rfl, hc 4 _ rfl⟩
theorem one_nd (a : Int) (b : ByteArray) (n : Nat) (p : Int) (A : Option Addr) (l c : Nat) : ∀ u ∈ [Value.int .i64 a, .string b, .int .u64 n, .int .i64 p, .slice A l c], u.oneCell' = true := by
  intro u hu
  simp at hu
  rcases hu with rfl | rfl | rfl | rfl | rfl <;> rfl
/-- A row that grows, whose elements lie in other blocks. -/
def GrowR {α : Type} (D e size : Nat) (R : (Nat → Prop) → World → List Value → α → Prop) (w : World) (A : Option Addr) (c : Nat) (l : List α) : Prop :=
  RowR 0 e size (R fun b => D ≤ b ∧ ¬ (Value.slice A l.length c).ownBlock = some b) w A c l ∧ ∀ g, (Value.slice A l.length c).ownBlock = some g → D ≤ g
theorem GrowR.nil {α : Type} (D e size : Nat) (R : (Nat → Prop) → World → List Value → α → Prop) (w : World) : GrowR D e size R w none 0 ([] : List α) := ⟨RowR.nil _ _ _ _ _, fun g h => by cases h⟩
theorem GrowR.rowG {α : Type} {D e size : Nat} {R : (Nat → Prop) → World → List Value → α → Prop} {w : World} {A : Option Addr} {c : Nat} {l : List α} (h : GrowR D e size R w A c l) (hs : ∀ G G' : Nat → Prop, (∀ b, b < w.heap.size → G b → G' b) → ∀ cs x, R G w cs x → R G' w cs x) : RowG (fun b => D ≤ b) e size (R fun b => D ≤ b) w A c l :=
  ⟨h.1.imp fun cs x hx => hs _ _ (fun b _ hb => hb.1) cs x hx, h.2⟩
theorem GrowR.keep {α : Type} {D e size : Nat} {R : (Nat → Prop) → World → List Value → α → Prop} {w w' : World} {A : Option Addr} {c : Nat} {l : List α} {M : Nat → Nat → Prop} (h : GrowR D e size R w A c l) (hc : Chg M w w') (hm : ∀ b, D ≤ b → ¬ M b e) (hR : ∀ G : Nat → Prop, (∀ b, G b → D ≤ b) → ∀ cs x, R G w cs x → R G w' cs x) : GrowR D e size R w' A c l :=
  ⟨h.1.keep1 hc (fun b hb => hm b (h.2 b hb)) fun cs x hx => hR _ (fun b hb => hb.1) cs x hx, h.2⟩
/-- One more at its end. -/
theorem GrowR.push {α : Type} {D e size c c2 : Nat} {R : (Nat → Prop) → World → List Value → α → Prop} {w w1 w2 : World} {l : List α} {x : α} {A A2 : Option Addr} {o : Obj} {xss : List (List Value)} {cs : List Value}
    (hk : ∀ (G : Nat → Prop) (M : Nat → Nat → Prop) (w w' : World), Chg M w w' → (∀ b, G b → ¬ M b 25) → ∀ cs x, R G w cs x → R G w' cs x) (hs : ∀ (G G' : Nat → Prop) (w : World), (∀ b, b < w.heap.size → G b → G' b) → ∀ cs x, R G w cs x → R G' w cs x)
    (x2 : xss.length = l.length) (x3 : ∀ cs ∈ xss, cs.length = size) (x4 : ∀ (j : Nat) y cs, l[j]? = some y → xss[j]? = some cs → R (fun b => D ≤ b ∧ ¬ (Value.slice A l.length c).ownBlock = some b) w cs y) (hD : ∀ g, (Value.slice A l.length c).ownBlock = some g → D ≤ g)
    (hDw : D ≤ w.heap.size) (hc : Chg (fun _ _ => False) w w1) (how : w1.ownsRow 0 e size (.slice A l.length c) l.length xss.flatten) (hold : ∀ g, (Value.slice A l.length c).ownBlock = some g → g < w.heap.size) (hx : R (fun b => w.heap.size ≤ b) w1 cs x) (hcs : cs.length = size)
    (hap : Apd (w1.alloc o) w2 0 e size A A2 l.length c (l.length + 1) c2 (xss.flatten ++ cs)) : GrowR D e size R w2 A2 c2 (l ++ [x]) ∧ Chg (fun b t => (Value.slice A l.length c).ownBlock = some b ∧ t = e) w1 w2 := by
  have hch := hap.chg1 how
  have hlen : (l ++ [x]).length = l.length + 1 := by simp
  have hpl := hap.place
  have hD2 : ∀ g, (Value.slice A2 (l ++ [x]).length c2).ownBlock = some g → D ≤ g := fun g hg => by
    rw [hlen] at hg
    rcases hpl with h | h
    · rw [h] at hg; exact hD g hg
    · rw [h] at hg
      injection hg with hg
      have := hc.size
      simp at hg
      omega
  have hno : ∀ b, b < w1.heap.size → ¬ (Value.slice A l.length c).ownBlock = some b → ¬ (Value.slice A2 (l ++ [x]).length c2).ownBlock = some b := fun b hb h1 h2 => by
    rw [hlen] at h2
    rcases hpl with h | h
    · rw [h] at h2; exact h1 h2
    · rw [h] at h2
      injection h2 with h2
      simp at h2
      omega
  refine ⟨⟨RowR.snoc (w := w2) x2 x3 ?_ (fun _ _ h => h) hap.own hcs ?_, hD2⟩, hch⟩
  · intro j y ds hj hd
    have h1 := hk _ _ _ _ hc (fun b _ => id) _ _ (x4 j y ds hj hd)
    have h2 := hs _ (fun b => (D ≤ b ∧ ¬ (Value.slice A l.length c).ownBlock = some b) ∧ ¬ (Value.slice A2 (l ++ [x]).length c2).ownBlock = some b) w1 (fun b hb h => ⟨h, hno b hb h.2⟩) _ _ h1
    have h3 := hk _ _ _ _ hch (fun b hb hm => hb.1.2 hm.1) _ _ h2
    exact hs _ _ w2 (fun b _ h => ⟨h.1.1, h.2⟩) _ _ h3
  · have h2 := hs _ (fun b => w.heap.size ≤ b ∧ ¬ (Value.slice A2 (l ++ [x]).length c2).ownBlock = some b) w1 (fun b hb h => ⟨h, hno b hb fun h' => by have := hold b h'; omega⟩) _ _ hx
    have h3 := hk _ _ _ _ hch (fun b hb hm => by have := hold b hm.1; have := hb.1; omega) _ _ h2
    exact hs _ _ w2 (fun b _ h => ⟨Nat.le_trans hDw h.1, h.2⟩) _ _ h3
theorem ndN_keepR (n : Nat) (G : Nat → Prop) (M : Nat → Nat → Prop) (w w' : World) (hc : Chg M w w') (hm : ∀ b, G b → ¬ M b 25) (cs : List Value) (t : Nd) (h : NdN n G w cs t) : NdN n G w' cs t := NdN.keep hc hm h
theorem ndN_subR (n : Nat) (G G' : Nat → Prop) (w : World) (hG : ∀ b, b < w.heap.size → G b → G' b) (cs : List Value) (t : Nd) (h : NdN n G w cs t) : NdN n G' w cs t := NdN.sub hG h
end
end Go.Proofs.YtgaodjoddfjfmaaDoor
