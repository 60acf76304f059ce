/-
  Rows that are written: a store leaves every row as long as it was.
-/
import Derived.Test.YtfmhedpjkpaohaaOwnD
import Derived.Test.YtfmhedpjkpaohaaBackN
namespace Go.Proofs.Ytfmhedpjkpaohaa
open Go.RowKit
set_option linter.unusedVariables false
set_option linter.unusedSimpArgs false

/-- Every row is there still, as long as it was. -/
def Sz (w w' : World) : Prop := ∀ b e cur, Blk w b e cur → ∃ cur', Blk w' b e cur' ∧ cur'.size = cur.size
theorem Sz.refl (w : World) : Sz w w := fun b e cur h => ⟨cur, h, rfl⟩
theorem Sz.trans {w w' w'' : World} (h : Sz w w') (k : Sz w' w'') : Sz w w'' := fun b e cur hb => by
  obtain ⟨c1, h1, h2⟩ := h b e cur hb
  obtain ⟨c2, h3, h4⟩ := k b e c1 h1
  exact ⟨c2, h3, h4.trans h2⟩
theorem Sz.chg {w w' : World} (h : Chg (fun _ _ => False) w w') : Sz w w' := fun b e cur hb => ⟨cur, h.blk hb id, rfl⟩
theorem Sz.set {w : World} {b T : Nat} {cs : Array Value} (h : Blk w b T cs) (j : Nat) (u : Value) : Sz w (w.setCell ⟨b, j, none⟩ u) := fun b' e cur hb => by
  by_cases hbb : b' = b
  · subst hbb
    have h1 : some (Obj.cells cur e (0, 0)) = some (Obj.cells cs T (0, 0)) := hb.symm.trans h
    injection h1 with h1
    injection h1 with h1 h2
    subst h1 h2
    exact ⟨_, h.set_ j u, by simp⟩
  · exact ⟨cur, (chg_set h u).blk hb fun hm => hbb hm.1, rfl⟩
/-- A row of n elements that may be written: in a block from lo up to hi. -/
def HasRow (w : World) (lo hi e size n : Nat) (A : Option Addr) : Prop := 0 < n → ∃ b cur, A = some ⟨b, 0, none⟩ ∧ lo ≤ b ∧ b < hi ∧ Blk w b e cur ∧ n * size ≤ cur.size
theorem HasRow.keep {w w' : World} {lo hi e size n : Nat} {A : Option Addr} (h : HasRow w lo hi e size n A) (hs : Sz w w') : HasRow w' lo hi e size n A := fun h0 => by
  obtain ⟨b, cur, h1, h2, h3, h4, h5⟩ := h h0
  obtain ⟨c, h6, h7⟩ := hs b e cur h4
  exact ⟨b, c, h1, h2, h3, h6, by omega⟩
theorem HasRow.of_own {w : World} {base e size n c : Nat} {A : Option Addr} {xs : List Value} (h : w.ownsRow base e size (.slice A n c) n xs) : HasRow w base w.heap.size e size n A := fun h0 => by
  obtain ⟨_, h1⟩ := h
  rcases h1 with ⟨_, h2⟩ | ⟨g, cap, cur, hv, hg, hh, hnc, _, hcs, _⟩
  · omega
  · injection hv with hA _ _
    exact ⟨g, cur, hA, hg, Blk.lt hh, hh, by rw [hcs]; exact Nat.mul_le_mul_right _ hnc⟩
def FuncX (w : World) (lo hi : Nat) (_ : World) (cs : List Value) (x : FuncD) : Prop :=
  ∃ u0 A1 c1 u2 u3 A3 c3, cs = [u0, .slice A1 x.locals.length c1, u2, u3, .slice A3 x.code.length c3] ∧ HasRow w lo hi 3 1 x.locals.length A1 ∧ HasRow w lo hi 55 5 x.code.length A3
theorem FuncX.keep {w w' w1 w2 : World} {lo hi : Nat} {cs : List Value} {x : FuncD} (h : FuncX w lo hi w1 cs x) (hs : Sz w w') : FuncX w' lo hi w2 cs x := by
  obtain ⟨u0, A1, c1, u2, u3, A3, c3, rfl, h1, h2⟩ := h
  exact ⟨u0, A1, c1, u2, u3, A3, c3, rfl, h1.keep hs, h2.keep hs⟩
theorem FuncP.funcX {D : Nat} {w : World} {cs : List Value} {x : FuncD} (h : FuncP D w cs x) : FuncX w D w.heap.size w cs x := by
  obtain ⟨A, c, A', c', A'', c'', rfl, _, _, h1, h2, h3⟩ := h
  exact ⟨_, A, c, _, _, A'', c'', rfl, .of_own h1.choose_spec.1, .of_own h3.choose_spec.1⟩
/-- What a loop of stores has done. -/
def wrRel (M : Nat → Nat → Prop) (n : Nat) (wL : World) (i : Value) (wr : World) : Prop := ∃ k : Nat, k ≤ n ∧ i = .int .i64 k ∧ Sz wL wr ∧ Chg M wL wr
/-- What is turned: rows of type t in blocks from lo up to hi. -/
def MA (lo hi : Nat) (b t : Nat) : Prop := lo ≤ b ∧ b < hi ∧ t = 5
def MX (lo hi : Nat) (b t : Nat) : Prop := lo ≤ b ∧ b < hi ∧ (t = 55 ∨ t = 3)
theorem set_one {M : Nat → Nat → Prop} {w0 w : World} {b T : Nat} {cs : Array Value} (hs : Sz w0 w) (hc : Chg M w0 w) (h : Blk w b T cs) (hM : M b T) (j : Nat) (u : Value) : Sz w0 (w.setCell ⟨b, j, none⟩ u) ∧ Chg M w0 (w.setCell ⟨b, j, none⟩ u) :=
  ⟨hs.trans (Sz.set h j u), hc.trans ((chg_set h u).mono fun b' t _ h => by obtain ⟨rfl, rfl⟩ := h; exact hM)⟩
theorem set_five {M : Nat → Nat → Prop} {w0 w : World} {b T : Nat} {cs : Array Value} (hs : Sz w0 w) (hc : Chg M w0 w) (h : Blk w b T cs) (hM : M b T) (j0 j1 j2 j3 j4 : Nat) (u0 u1 u2 u3 u4 : Value) :
    Sz w0 (((((w.setCell ⟨b, j0, none⟩ u0).setCell ⟨b, j1, none⟩ u1).setCell ⟨b, j2, none⟩ u2).setCell ⟨b, j3, none⟩ u3).setCell ⟨b, j4, none⟩ u4) ∧
      Chg M w0 (((((w.setCell ⟨b, j0, none⟩ u0).setCell ⟨b, j1, none⟩ u1).setCell ⟨b, j2, none⟩ u2).setCell ⟨b, j3, none⟩ u3).setCell ⟨b, j4, none⟩ u4) := by
  have k0 := set_one hs hc h hM j0 u0
  have k1 := set_one k0.1 k0.2 (h.set_ j0 u0) hM j1 u1
  have k2 := set_one k1.1 k1.2 ((h.set_ j0 u0).set_ j1 u1) hM j2 u2
  have k3 := set_one k2.1 k2.2 (((h.set_ j0 u0).set_ j1 u1).set_ j2 u2) hM j3 u3
  exact set_one k3.1 k3.2 ((((h.set_ j0 u0).set_ j1 u1).set_ j2 u2).set_ j3 u3) hM j4 u4

/-! ## A module that was read: where it lies -/
theorem DecP.keep {D : Nat} {w w' : World} {v : Value} {m : ModD} {M : Nat → Nat → Prop} (h : DecP D w v m) (hc : Chg M w w') (hm : ∀ b t, D ≤ b → ¬ M b t) : DecP D w' v m := by
  obtain ⟨A, c, A', c', h1, h2, h3⟩ := h
  exact ⟨A, c, A', c', h1, h2.keep hc (fun b h => hm b _ h) fun _ _ h => h.keep hc fun b h => hm b _ h, h3.keep hc (fun b h => hm b _ h) fun _ _ h => h.keep hc (fun b h => hm b _ h) (fun b h => hm b _ h) fun b h => hm b _ h⟩
theorem DecP.modR_ {D : Nat} {w : World} {v : Value} {m : ModD} (h : DecP D w v m) : ModR w.heap.size w v m := by
  obtain ⟨A, c, A', c', h1, h2⟩ := h.modR
  rw [h1]
  exact h2
theorem DecRes.own {bs : List Nat} {w w' : World} {e : Ending} (h : DecRes bs w e w') :
    ∃ A c A' c', e = .returned (.tuple #[.agg #[.slice A (decAns bs).1.types.length c, .slice A' (decAns bs).1.funcs.length c'], .int .i64 ((decAns bs).2.1 : Int), .int .i64 ((decAns bs).2.2 : Int)]) ∧ Chg (fun _ _ => False) w w' ∧
      DecP w.heap.size w' (.agg #[.slice A (decAns bs).1.types.length c, .slice A' (decAns bs).1.funcs.length c']) (decAns bs).1 ∧ RowR w.heap.size 51 5 (FuncP w.heap.size) w' A' c' (decAns bs).1.funcs := by
  have hno : DecP w.heap.size w' zeroM noMod := ⟨none, 0, none, 0, rfl, RowR.nil _ _ _ _ _, RowR.nil _ _ _ _ _⟩
  obtain ⟨v, z, y, rfl, hc, h⟩ := h
  rcases h with ⟨hl, rfl, rfl, rfl⟩ | ⟨hl, ⟨f, hf, rfl, rfl, rfl⟩ | ⟨m, hm, rfl, rfl, h'⟩⟩
  · rw [decAns_large hl]
    exact ⟨none, 0, none, 0, rfl, hc, hno, RowR.nil _ _ _ _ _⟩
  · rw [decAns_error hl hf]
    exact ⟨none, 0, none, 0, rfl, hc, hno, RowR.nil _ _ _ _ _⟩
  · rw [decAns_ok hl hm]
    obtain ⟨A, c, A', c', rfl, h2, h3⟩ := h'
    exact ⟨A, c, A', c', rfl, hc, ⟨A, c, A', c', rfl, h2, h3⟩, h3⟩
theorem decAns_split (bs : List Nat) : (decAns bs).2.2 = 0 ∨ (decAns bs).2.2 ≠ 0 ∧ (decAns bs).1.funcs = [] := by
  by_cases hl : 1048576 < bs.length
  · rw [decAns_large hl]; exact .inr ⟨by decide, rfl⟩
  · cases h : readP bs with
    | error f => rw [decAns_error (by omega) h]; exact .inr ⟨(by decide : 5 ≠ 0), rfl⟩
    | ok m => rw [decAns_ok (by omega) h]; exact .inl rfl
end Go.Proofs.Ytfmhedpjkpaohaa
