/-
  What spoil may walk: rows of their own; a leaf in the place of an element spoils no other.
-/
import Derived.Test.YtlbcaiohjghclaaDoorTFill3
namespace Go.Proofs.YtlbcaiohjghclaaDoor
open Go.RowKit
set_option linter.unusedVariables false
set_option linter.unusedSimpArgs false

def setL (w : World) (b : Nat) : Nat → List Value → World
  | _, [] => w
  | p, v :: vs => setL (w.setCell ⟨b, p, none⟩ v) b (p + 1) vs
theorem setL_blk {b e : Nat} : ∀ (vs : List Value) (p : Nat) (w : World) (cs : Array Value), Blk w b e cs → p + vs.length ≤ cs.size → ∃ cs', Blk (setL w b p vs) b e cs' ∧ cs'.size = cs.size ∧ (∀ m, m < p ∨ p + vs.length ≤ m → cs'[m]? = cs[m]?) ∧ (∀ j, j < vs.length → cs'[p + j]? = vs[j]?) ∧ Chg (fun b' t => b' = b ∧ t = e) w (setL w b p vs)
  | [], p, w, cs, h, hp => ⟨cs, h, rfl, fun _ _ => rfl, fun j hj => absurd hj (Nat.not_lt_zero _), Chg.refl _ _⟩
  | v :: vs, p, w, cs, h, hp => by
    simp only [List.length_cons] at hp
    obtain ⟨cs', h1, h2, h3, h4, h5⟩ := setL_blk vs (p + 1) _ _ (h.set_ p v) (by simp only [Array.size_setIfInBounds]; omega)
    refine ⟨cs', h1, by rw [h2]; simp, fun m hm => ?_, fun j hj => ?_, (chg_set h v).trans h5⟩
    · simp only [List.length_cons] at hm
      rw [h3 m (by omega), Array.getElem?_setIfInBounds, if_neg (by omega)]
    · cases j with
      | zero => rw [Nat.add_zero, h3 p (.inl (by omega)), Array.getElem?_setIfInBounds, if_pos rfl, if_pos (by omega)]; rfl
      | succ j =>
        have := h4 j (by simp only [List.length_cons] at hj; omega)
        rw [show p + (j + 1) = p + 1 + j by omega, this]
        rfl
/-- A row of own whose elements may be walked. -/
def ShRow (G : Nat → Prop) (e size : Nat) (R : List Value → Prop) (w : World) (A : Option Addr) (n : Nat) : Prop :=
  n ≤ 1048576 ∧ (0 < n → ∃ b cs, A = some ⟨b, 0, none⟩ ∧ G b ∧ Blk w b e cs ∧ n * size ≤ cs.size ∧ ∀ i, i < n → ∃ ds, ds.length = size ∧ (∀ j, j < size → cs[i * size + j]? = ds[j]?) ∧ R ds)
def FdSh (R : List Value → Prop) (ds : List Value) : Prop := ∃ s ds', ds = .string s :: ds' ∧ R ds'
def six (k : Int) (s : ByteArray) (c : Int) (Af : Option Addr) (nf cf : Nat) (Al : Option Addr) (nl cl : Nat) (Ar : Option Addr) (nr cr : Nat) : List Value := [.int .i64 k, .string s, .int .i64 c, .slice Af nf cf, .slice Al nl cl, .slice Ar nr cr]
def ShR : Nat → (Nat → Prop) → World → List Value → Prop
  | 0, _, _, _ => False
  | n + 1, G, w, cs => ∃ k s c Af nf cf Al nl cl Ar nr cr, cs = six k s c Af nf cf Al nl cl Ar nr cr ∧
      ShRow G 61 7 (FdSh (ShR n G w)) w Af nf ∧ ShRow G 42 6 (ShR n G w) w Al nl ∧ ShRow G 42 6 (ShR n G w) w Ar nr
theorem ShRow.keep {G : Nat → Prop} {e size n : Nat} {R R' : List Value → Prop} {w w' : World} {A : Option Addr} {M : Nat → Nat → Prop} (h : ShRow G e size R w A n) (hc : Chg M w w') (hm : ∀ b, b < w.heap.size → G b → ¬ M b e) (hR : ∀ ds, R ds → R' ds) : ShRow G e size R' w' A n :=
  ⟨h.1, fun h0 => by
    obtain ⟨b, cs, hA, hG, hB, hs, hel⟩ := h.2 h0
    exact ⟨b, cs, hA, hG, hc.blk hB (hm b hB.lt hG), hs, fun i hi => by
      obtain ⟨ds, h1, h2, h3⟩ := hel i hi
      exact ⟨ds, h1, h2, hR ds h3⟩⟩⟩
theorem ShR.keep {G : Nat → Prop} {w w' : World} {M : Nat → Nat → Prop} (hc : Chg M w w') (hm : ∀ b t, b < w.heap.size → G b → (t = 61 ∨ t = 42) → ¬ M b t) : ∀ (n : Nat) (ds : List Value), ShR n G w ds → ShR n G w' ds
  | 0, _, h => h
  | n + 1, ds, ⟨k, s, c, Af, nf, cf, Al, nl, cl, Ar, nr, cr, h0, h1, h2, h3⟩ =>
    ⟨k, s, c, Af, nf, cf, Al, nl, cl, Ar, nr, cr, h0, h1.keep hc (fun b hb hG => hm b _ hb hG (.inl rfl)) (fun ds ⟨s, ds', e, h⟩ => ⟨s, ds', e, ShR.keep hc hm n ds' h⟩), h2.keep hc (fun b hb hG => hm b _ hb hG (.inr rfl)) (ShR.keep hc hm n), h3.keep hc (fun b hb hG => hm b _ hb hG (.inr rfl)) (ShR.keep hc hm n)⟩
theorem RowG.sh {α : Type} {G : Nat → Prop} {e size c : Nat} {R : World → List Value → α → Prop} {R' : List Value → Prop} {w : World} {A : Option Addr} {l : List α} (h : RowG G e size R w A c l) (hl : l.length ≤ 1048576) (hR : ∀ cs x, R w cs x → R' cs) : ShRow G e size R' w A l.length := by
  obtain ⟨⟨xss, how, h2, h3, h4⟩, hG⟩ := h
  refine ⟨hl, fun h0 => ?_⟩
  obtain ⟨h5, h6⟩ := how
  rcases h6 with ⟨hv, h0'⟩ | ⟨g, cap, cur, hv, hg, hh, hnc, hcm, hcs, htake⟩
  · omega
  · injection hv with hA hn hc
    subst hA
    refine ⟨g, cur, rfl, hG g rfl, hh, by rw [hcs]; exact Nat.mul_le_mul_right _ hnc, fun i hi => ?_⟩
    have hi' : i < xss.length := by omega
    refine ⟨xss[i], h3 _ (List.getElem_mem hi'), fun j hj => ?_, hR _ _ (h4 i l[i] xss[i] (List.getElem?_eq_getElem hi) (List.getElem?_eq_getElem hi'))⟩
    have h7 : (i + 1) * size ≤ l.length * size := Nat.mul_le_mul_right _ hi
    rw [Nat.succ_mul] at h7
    rw [← flatten_at xss h3 i j hi' hj, ← htake, List.getElem?_take, if_pos (by omega)]
    simp
theorem TyN.sh {G : Nat → Prop} {w : World} : ∀ {n : Nat} {cs : List Value} {t : Ty}, TyN n G w cs t → ShR n G w cs
  | 0, _, _, h => h
  | n + 1, cs, t, ⟨hs, Af, cf, Al, cl, Ar, cr, h1, h2, h3, h4⟩ =>
    ⟨_, _, _, _, _, _, _, _, _, _, _, _, h1, h2.sh hs.2.2.2.1 (fun cs x ⟨ds, e, _, h⟩ => ⟨_, _, e, TyN.sh h⟩), h3.sh hs.2.2.2.2.1 (fun cs x h => TyN.sh h), h4.sh hs.2.2.2.2.2 (fun cs x h => TyN.sh h)⟩
theorem ShR.sub {G G' : Nat → Prop} {w : World} (hG : ∀ b, b < w.heap.size → G b → G' b) : ∀ (n : Nat) (ds : List Value), ShR n G w ds → ShR n G' w ds
  | 0, _, h => h
  | n + 1, ds, ⟨k, s, c, Af, nf, cf, Al, nl, cl, Ar, nr, cr, h0, h1, h2, h3⟩ => by
    have hr : ∀ {e size n : Nat} {R R' : List Value → Prop} {A : Option Addr}, ShRow G e size R w A n → (∀ ds, R ds → R' ds) → ShRow G' e size R' w A n := fun h hR => ⟨h.1, fun h0 => by
      obtain ⟨b, cs, hA, hg, hB, hs, hel⟩ := h.2 h0
      exact ⟨b, cs, hA, hG b hB.lt hg, hB, hs, fun i hi => by
        obtain ⟨ds, h1, h2, h3⟩ := hel i hi
        exact ⟨ds, h1, h2, hR ds h3⟩⟩⟩
    exact ⟨k, s, c, Af, nf, cf, Al, nl, cl, Ar, nr, cr, h0, hr h1 (fun ds ⟨s, ds', e, h⟩ => ⟨s, ds', e, ShR.sub hG n ds' h⟩), hr h2 (ShR.sub hG n), hr h3 (ShR.sub hG n)⟩
/-! ## A leaf in an element's place -/
def leaf6 (k : Int) : List Value := six k ⟨#[]⟩ 0 none 0 0 none 0 0 none 0 0
theorem leaf_sh (n : Nat) (k : Int) (G : Nat → Prop) (w : World) : ShR (n + 1) G w (leaf6 k) :=
  ⟨_, _, _, _, _, _, _, _, _, _, _, _, rfl, ⟨by omega, fun h => absurd h (Nat.lt_irrefl _)⟩, ⟨by omega, fun h => absurd h (Nat.lt_irrefl _)⟩, ⟨by omega, fun h => absurd h (Nat.lt_irrefl _)⟩⟩
theorem ShRow.leaf {G : Nat → Prop} {E S n b e size i : Nat} {R R' : List Value → Prop} {w w' : World} {A : Option Addr} {cs cs' : Array Value} {lf : List Value} (h : ShRow G E S R w A n) (hb : Blk w b e cs) (hb' : Blk w' b e cs') (hsz : cs'.size = cs.size)
    (hcs : ∀ m, m < i * size ∨ i * size + size ≤ m → cs'[m]? = cs[m]?) (hlf : ∀ j, j < size → cs'[i * size + j]? = lf[j]?) (hll : lf.length = size) (hc : Chg (fun b' t => b' = b ∧ t = e) w w') (hES : E = e → S = size) (hR : ∀ ds, R ds → R' ds) (hlR : E = e → (∃ ds, R ds) → R' lf) : ShRow G E S R' w' A n :=
  ⟨h.1, fun h0 => by
    obtain ⟨b1, cs1, hA, hG, hB, hs, hel⟩ := h.2 h0
    by_cases hbb : b1 = b
    · subst hbb
      have hEe : E = e := by
        rcases Nat.decEq E e with h | h
        · exact absurd rfl (Blk.ne_ hB hb h)
        · exact h
      subst hEe
      have hcc : cs1 = cs := by
        have h1 : some (Obj.cells cs1 E (0, 0)) = some (Obj.cells cs E (0, 0)) := hB.symm.trans hb
        injection h1 with h1
        injection h1
      subst hcc
      have hSs := hES rfl
      subst hSs
      refine ⟨b1, cs', hA, hG, hb', by rw [hsz]; exact hs, fun i1 hi1 => ?_⟩
      obtain ⟨ds, h1, h2, h3⟩ := hel i1 hi1
      by_cases hii : i1 = i
      · subst hii
        exact ⟨lf, hll, hlf, hlR rfl ⟨ds, h3⟩⟩
      · refine ⟨ds, h1, fun j hj => ?_, hR ds h3⟩
        rw [hcs _ (by
          rcases Nat.lt_or_gt_of_ne hii with hlt | hgt
          · have := Nat.mul_le_mul_right S (show i1 + 1 ≤ i from hlt)
            rw [Nat.succ_mul] at this
            omega
          · have := Nat.mul_le_mul_right S (show i + 1 ≤ i1 from hgt)
            rw [Nat.succ_mul] at this
            omega)]
        exact h2 j hj
    · exact ⟨b1, cs1, hA, hG, hc.blk hB (fun h => hbb h.1), hs, fun i1 hi1 => by
        obtain ⟨ds, h1, h2, h3⟩ := hel i1 hi1
        exact ⟨ds, h1, h2, hR ds h3⟩⟩⟩
theorem leaf_type {G : Nat → Prop} {w : World} {b i : Nat} {cs : Array Value} (k : Int) (hb : Blk w b 42 cs) (hi : i * 6 + 6 ≤ cs.size) : ∀ (n : Nat) (ds : List Value), ShR n G w ds → ShR n G (setL w b (i * 6) (leaf6 k)) ds := by
  obtain ⟨cs', h1, h2, h3, h4, h5⟩ := setL_blk (leaf6 k) (i * 6) w cs hb hi
  intro n
  induction n with
  | zero => exact fun ds h => False.elim h
  | succ n ih =>
    rintro ds ⟨k', s, c, Af, nf, cf, Al, nl, cl, Ar, nr, cr, h0, k1, k2, k3⟩
    have hl : (∃ ds, ShR n G w ds) → ShR n G (setL w b (i * 6) (leaf6 k)) (leaf6 k) := fun ⟨ds, h⟩ => by
      cases n with
      | zero => exact h.elim
      | succ n => exact leaf_sh n k G _
    refine ⟨k', s, c, Af, nf, cf, Al, nl, cl, Ar, nr, cr, h0, ?_, ?_, ?_⟩
    · exact k1.leaf hb h1 h2 h3 h4 rfl h5 (fun h => absurd h (by decide)) (fun ds ⟨s, ds', e, h⟩ => ⟨s, ds', e, ih ds' h⟩) (fun h => absurd h (by decide))
    · exact k2.leaf hb h1 h2 h3 h4 rfl h5 (fun _ => rfl) ih (fun _ => hl)
    · exact k3.leaf hb h1 h2 h3 h4 rfl h5 (fun _ => rfl) ih (fun _ => hl)
theorem leaf_field {G : Nat → Prop} {w : World} {b i : Nat} {cs : Array Value} (s0 : ByteArray) (k : Int) (hb : Blk w b 61 cs) (hi : i * 7 + 7 ≤ cs.size) : ∀ (n : Nat) (ds : List Value), ShR n G w ds → ShR n G (setL w b (i * 7) (.string s0 :: leaf6 k)) ds := by
  obtain ⟨cs', h1, h2, h3, h4, h5⟩ := setL_blk (.string s0 :: leaf6 k) (i * 7) w cs hb hi
  intro n
  induction n with
  | zero => exact fun ds h => False.elim h
  | succ n ih =>
    rintro ds ⟨k', s, c, Af, nf, cf, Al, nl, cl, Ar, nr, cr, h0, k1, k2, k3⟩
    have hl : (∃ ds, FdSh (ShR n G w) ds) → FdSh (ShR n G (setL w b (i * 7) (.string s0 :: leaf6 k))) (.string s0 :: leaf6 k) := fun ⟨ds, s', ds', e, h⟩ => by
      cases n with
      | zero => exact h.elim
      | succ n => exact ⟨_, _, rfl, leaf_sh n k G _⟩
    refine ⟨k', s, c, Af, nf, cf, Al, nl, cl, Ar, nr, cr, h0, ?_, ?_, ?_⟩
    · exact k1.leaf hb h1 h2 h3 h4 rfl h5 (fun _ => rfl) (fun ds ⟨s, ds', e, h⟩ => ⟨s, ds', e, ih ds' h⟩) (fun _ => hl)
    · exact k2.leaf hb h1 h2 h3 h4 rfl h5 (fun h => absurd h (by decide)) ih (fun h => absurd h (by decide))
    · exact k3.leaf hb h1 h2 h3 h4 rfl h5 (fun h => absurd h (by decide)) ih (fun h => absurd h (by decide))
/-- What spoil does. -/
def Sp (G : Nat → Prop) (w w' : World) : Prop := (∀ n ds, ShR n G w ds → ShR n G w' ds) ∧ Chg (fun b t => G b ∧ (t = 61 ∨ t = 42)) w w'
theorem Sp.trans {G : Nat → Prop} {w w1 w2 : World} (h : Sp G w w1) (h2 : Sp G w1 w2) : Sp G w w2 := ⟨fun n ds k => h2.1 n ds (h.1 n ds k), h.2.trans h2.2⟩
theorem Sp.of0 {G : Nat → Prop} {w w' : World} (h : Chg (fun _ _ => False) w w') : Sp G w w' := ⟨ShR.keep h fun _ _ _ _ _ h => h, h.mono fun _ _ _ h => h.elim⟩
theorem sp_type {G : Nat → Prop} {w : World} {b i : Nat} {cs : Array Value} (k : Int) (hG : G b) (hb : Blk w b 42 cs) (hi : i * 6 + 6 ≤ cs.size) : Sp G w (setL w b (i * 6) (leaf6 k)) := by
  obtain ⟨cs', h1, h2, h3, h4, h5⟩ := setL_blk (leaf6 k) (i * 6) w cs hb hi
  exact ⟨leaf_type k hb hi, h5.mono fun b' t _ h => ⟨h.1 ▸ hG, .inr h.2⟩⟩
theorem sp_field {G : Nat → Prop} {w : World} {b i : Nat} {cs : Array Value} (s0 : ByteArray) (k : Int) (hG : G b) (hb : Blk w b 61 cs) (hi : i * 7 + 7 ≤ cs.size) : Sp G w (setL w b (i * 7) (.string s0 :: leaf6 k)) := by
  obtain ⟨cs', h1, h2, h3, h4, h5⟩ := setL_blk (.string s0 :: leaf6 k) (i * 7) w cs hb hi
  exact ⟨leaf_field s0 k hb hi, h5.mono fun b' t _ h => ⟨h.1 ▸ hG, .inl h.2⟩⟩
theorem ShRow.addr {G : Nat → Prop} {e size n k : Nat} {R : List Value → Prop} {w : World} {A : Option Addr} (h : ShRow G e size R w A n) (hk : k < n) : ∃ b o, A = some ⟨b, o, none⟩ := by
  obtain ⟨b, cs, hA, _⟩ := h.2 (by omega)
  exact ⟨b, 0, hA⟩
theorem sh_type {G : Nat → Prop} {n N k b o : Nat} {w : World} (h : ShRow G 42 6 (ShR n G w) w (some ⟨b, o, none⟩) N) (hk : k < N) :
    o = 0 ∧ G b ∧ ∃ cs x0 x1 x2 Xf nf xf Xl nl xl Xr nr xr, Blk w b 42 cs ∧ k * 6 + 6 ≤ cs.size ∧ ShR n G w (six x0 x1 x2 Xf nf xf Xl nl xl Xr nr xr) ∧
      w.cell? ⟨b, o + k * 6, none⟩ = some (.int .i64 x0) ∧ w.cell? ⟨b, o + k * 6 + 1, none⟩ = some (.string x1) ∧ w.cell? ⟨b, o + k * 6 + 2, none⟩ = some (.int .i64 x2) ∧ w.cell? ⟨b, o + k * 6 + 3, none⟩ = some (.slice Xf nf xf) ∧ w.cell? ⟨b, o + k * 6 + 4, none⟩ = some (.slice Xl nl xl) ∧ w.cell? ⟨b, o + k * 6 + 5, none⟩ = some (.slice Xr nr xr) := by
  obtain ⟨b', cs, hA, hG, hB, hs, hel⟩ := h.2 (by omega)
  injection hA with hA
  injection hA with h1 h2
  subst h1 h2
  obtain ⟨ds, h1, h2, h3⟩ := hel k hk
  have hm := Nat.mul_le_mul_right 6 (show k + 1 ≤ N from hk)
  rw [Nat.succ_mul] at hm
  cases n with
  | zero => exact h3.elim
  | succ n =>
    have h3' := h3
    obtain ⟨x0, x1, x2, Xf, nf, xf, Xl, nl, xl, Xr, nr, xr, rfl, _⟩ := h3
    simp only [Nat.zero_add]
    refine ⟨trivial, hG, cs, x0, x1, x2, Xf, nf, xf, Xl, nl, xl, Xr, nr, xr, hB, by omega, h3', ?_⟩
    simp only [hB.cell]
    exact ⟨by simpa [six] using h2 0 (by omega), h2 1 (by omega), h2 2 (by omega), h2 3 (by omega), h2 4 (by omega), h2 5 (by omega)⟩
theorem sh_field {G : Nat → Prop} {n N k b o : Nat} {w : World} (h : ShRow G 61 7 (FdSh (ShR n G w)) w (some ⟨b, o, none⟩) N) (hk : k < N) :
    o = 0 ∧ G b ∧ ∃ cs nm x0 x1 x2 Xf nf xf Xl nl xl Xr nr xr, Blk w b 61 cs ∧ k * 7 + 7 ≤ cs.size ∧ ShR n G w (six x0 x1 x2 Xf nf xf Xl nl xl Xr nr xr) ∧ w.cell? ⟨b, o + k * 7, none⟩ = some (.string nm) ∧
      w.cell? ⟨b, o + k * 7 + 1, none⟩ = some (.int .i64 x0) ∧ w.cell? ⟨b, o + k * 7 + 2, none⟩ = some (.string x1) ∧ w.cell? ⟨b, o + k * 7 + 3, none⟩ = some (.int .i64 x2) ∧ w.cell? ⟨b, o + k * 7 + 4, none⟩ = some (.slice Xf nf xf) ∧ w.cell? ⟨b, o + k * 7 + 5, none⟩ = some (.slice Xl nl xl) ∧ w.cell? ⟨b, o + k * 7 + 6, none⟩ = some (.slice Xr nr xr) := by
  obtain ⟨b', cs, hA, hG, hB, hs, hel⟩ := h.2 (by omega)
  injection hA with hA
  injection hA with h1 h2
  subst h1 h2
  obtain ⟨ds, h1, h2, nm, ds', rfl, h3⟩ := hel k hk
  have hm := Nat.mul_le_mul_right 7 (show k + 1 ≤ N from hk)
  rw [Nat.succ_mul] at hm
  cases n with
  | zero => exact h3.elim
  | succ n =>
    have h3' := h3
    obtain ⟨x0, x1, x2, Xf, nf, xf, Xl, nl, xl, Xr, nr, xr, rfl, _⟩ := h3
    simp only [Nat.zero_add]
    refine ⟨trivial, hG, cs, nm, x0, x1, x2, Xf, nf, xf, Xl, nl, xl, Xr, nr, xr, hB, by omega, h3', ?_⟩
    simp only [hB.cell]
    exact ⟨by simpa [six] using h2 0 (by omega), h2 1 (by omega), h2 2 (by omega), h2 3 (by omega), h2 4 (by omega), h2 5 (by omega), h2 6 (by omega)⟩
theorem ShR.open_ {n : Nat} {G : Nat → Prop} {w : World} {k : Int} {s : ByteArray} {c : Int} {Af : Option Addr} {nf cf : Nat} {Al : Option Addr} {nl cl : Nat} {Ar : Option Addr} {nr cr : Nat} (h : ShR (n + 1) G w (six k s c Af nf cf Al nl cl Ar nr cr)) :
    ShRow G 61 7 (FdSh (ShR n G w)) w Af nf ∧ ShRow G 42 6 (ShR n G w) w Al nl ∧ ShRow G 42 6 (ShR n G w) w Ar nr := by
  obtain ⟨_, _, _, _, _, _, _, _, _, _, _, _, h0, h1, h2, h3⟩ := h
  unfold six at h0
  injection h0 with _ h0; injection h0 with _ h0; injection h0 with _ h0; injection h0 with e1 h0; injection h0 with e2 h0; injection h0 with e3 _
  injection e1 with e1 e1'; injection e2 with e2 e2'; injection e3 with e3 e3'
  subst e1 e1' e2 e2' e3 e3'
  exact ⟨h1, h2, h3⟩
end Go.Proofs.YtlbcaiohjghclaaDoor
