/-
  Values that read as types, texts, slices of them, wherever they lie; contracts in these words.
-/
import Derived.Test.YtgemacdnncjmdaaDoorFacts
import Derived.Test.YtgemacdnncjmdaaDoorTSubst5
namespace Go.Proofs.YtgemacdnncjmdaaDoor
open Go.RowKit
set_option linter.unusedVariables false
set_option linter.unusedSimpArgs false

theorem enters_own2 (w : World) (xs : Array Value) : (callFunc 18 xs).run Tryd.prog w = .ok (.enter 18 xs) w := by
  show (callFunc _ _).run _ _ = _
  simp [callFunc, Tryd.func18, go_sem]
  rw [if_neg (by decide +kernel), if_neg (fun h => by cases h)]
theorem enters_subst (w : World) (xs : Array Value) : (callFunc 13 xs).run Tryd.prog w = .ok (.enter 13 xs) w := by
  show (callFunc _ _).run _ _ = _
  simp [callFunc, Tryd.func13, go_sem]
  rw [if_neg (by decide +kernel), if_neg (fun h => by cases h)]
def TyU (n : Nat) (w : World) (v : Value) (t : Ty) : Prop := ∃ D Xf xf Xl xl Xr xr, D ≤ w.heap.size ∧ v = .agg #[.int .i64 t.kind, .string t.name, .int .i64 t.con, .slice Xf t.fields.length xf, .slice Xl t.list.length xl, .slice Xr t.res.length xr] ∧ TyR n D w (tyCells t.kind t.name t.con Xf t.fields.length xf Xl t.list.length xl Xr t.res.length xr) t
def StrsU (w : World) (v : Value) (l : List ByteArray) : Prop := ∃ D A c, D ≤ w.heap.size ∧ v = .slice A l.length c ∧ StrsR D w (.slice A l.length c) l
def TysU (n : Nat) (w : World) (v : Value) (l : List Ty) : Prop := ∃ D A c, D ≤ w.heap.size ∧ v = .slice A l.length c ∧ TysR n D w (.slice A l.length c) l
section
variable {n B : Nat} {w w' : World} {v : Value} {t : Ty}
theorem TyU.keep (h : TyU n w v t) (hc : Chg (fun _ _ => False) w w') : TyU n w' v t := by
  obtain ⟨D, Xf, xf, Xl, xl, Xr, xr, h1, h2, h3⟩ := h
  exact ⟨D, Xf, xf, Xl, xl, Xr, xr, Nat.le_trans h1 hc.size, h2, TyR.keep0 hc h3⟩
theorem StrsU.keep {l : List ByteArray} (h : StrsU w v l) (hc : Chg (fun _ _ => False) w w') : StrsU w' v l := by
  obtain ⟨D, A, c, h1, h2, h3⟩ := h
  exact ⟨D, A, c, Nat.le_trans h1 hc.size, h2, SlR.keep h3 hc (no_lets _ _) fun _ _ h => h⟩
theorem TysU.keep {l : List Ty} (h : TysU n w v l) (hc : Chg (fun _ _ => False) w w') : TysU n w' v l := by
  obtain ⟨D, A, c, h1, h2, h3⟩ := h
  exact ⟨D, A, c, Nat.le_trans h1 hc.size, h2, TysR.keep0 hc h3⟩
theorem TyU.of {Xf : Option Addr} {xf : Nat} {Xl : Option Addr} {xl : Nat} {Xr : Option Addr} {xr : Nat} (hB : B ≤ w.heap.size) (h : TyR n B w (tyCells t.kind t.name t.con Xf t.fields.length xf Xl t.list.length xl Xr t.res.length xr) t) : TyU n w (.agg #[.int .i64 t.kind, .string t.name, .int .i64 t.con, .slice Xf t.fields.length xf, .slice Xl t.list.length xl, .slice Xr t.res.length xr]) t := ⟨B, Xf, xf, Xl, xl, Xr, xr, hB, rfl, h⟩
theorem TyU.deep {m : Nat} (h : TyU n w v t) (hm : n ≤ m) : TyU m w v t := by
  obtain ⟨D, Xf, xf, Xl, xl, Xr, xr, h1, h2, h3⟩ := h
  exact ⟨D, Xf, xf, Xl, xl, Xr, xr, h1, h2, TyR.deep h3 hm⟩
theorem TysU.deep {m : Nat} {l : List Ty} (h : TysU n w v l) (hm : n ≤ m) : TysU m w v l := by
  obtain ⟨D, A, c, h1, h2, h3⟩ := h
  exact ⟨D, A, c, h1, h2, SlR.imp h3 (fun _ _ h => h) fun _ _ h => TyR.deep h hm⟩
theorem TysU.of {A : Option Addr} {c : Nat} {l : List Ty} (hB : B ≤ w.heap.size) (h : TysR n B w (.slice A l.length c) l) : TysU n w (.slice A l.length c) l := ⟨B, A, c, hB, rfl, h⟩
theorem StrsU.of {A : Option Addr} {c : Nat} {l : List ByteArray} (hB : B ≤ w.heap.size) (h : StrsR B w (.slice A l.length c) l) : StrsU w (.slice A l.length c) l := ⟨B, A, c, hB, rfl, h⟩
theorem TyU.pos (h : TyU n w v t) : 0 < n := by
  obtain ⟨D, Xf, xf, Xl, xl, Xr, xr, h1, h2, h3⟩ := h
  cases n with
  | zero => exact h3.elim
  | succ n => omega
/-- One text in a row just built. -/
theorem StrsU.built {s : ByteArray} (hs : s.size ≤ 1048576) : StrsU (w.alloc (.cells #[.string s] 9)) (.slice (some ⟨w.heap.size, 0, none⟩) 1 1) [s] := by
  refine ⟨_, some ⟨w.heap.size, 0, none⟩, 1, Nat.le_refl _, rfl, _, _, rfl, Nat.le_refl _, fun _ => ⟨w.heap.size, 0, rfl, .inl (by simp), by simp, fun k x hx => ?_⟩⟩
  match k, hx with
  | 0, hx =>
    injection hx with hx
    subst hx
    refine ⟨[.string s], rfl, ⟨rfl, hs⟩, fun j u hu => ?_⟩
    match j, hu with
    | 0, hu =>
      injection hu with hu
      subst hu
      exact (Blk.new w 9 #[.string s]).cell 0
    | j + 1, hu => simp at hu
  | k + 1, hx => simp at hx
theorem StrsU.built2 {s s' : ByteArray} (hs : s.size ≤ 1048576) (hs' : s'.size ≤ 1048576) : StrsU (w.alloc (.cells #[.string s, .string s'] 9)) (.slice (some ⟨w.heap.size, 0, none⟩) 2 2) [s, s'] := by
  refine ⟨_, some ⟨w.heap.size, 0, none⟩, 2, Nat.le_refl _, rfl, _, _, rfl, Nat.le_refl _, fun _ => ⟨w.heap.size, 0, rfl, .inl (by simp), by simp, fun k x hx => ?_⟩⟩
  match k, hx with
  | 0, hx =>
    injection hx with hx
    subst hx
    refine ⟨[.string s], rfl, ⟨rfl, hs⟩, fun j u hu => ?_⟩
    match j, hu with
    | 0, hu =>
      injection hu with hu
      subst hu
      exact (Blk.new w 9 #[.string s, .string s']).cell 0
    | j + 1, hu => simp at hu
  | 1, hx =>
    injection hx with hx
    subst hx
    refine ⟨[.string s'], rfl, ⟨rfl, hs'⟩, fun j u hu => ?_⟩
    match j, hu with
    | 0, hu =>
      injection hu with hu
      subst hu
      exact (Blk.new w 9 #[.string s, .string s']).cell 1
    | j + 1, hu => simp at hu
  | k + 2, hx => simp at hx
theorem TysU.built {cs : Array Value} (h : TyU n w (.agg cs) t) : TysU n (w.alloc (.cells cs 33)) (.slice (some ⟨w.heap.size, 0, none⟩) 1 1) [t] := by
  have hb := Blk.new w 33 cs
  have hk := h.keep (chg_alloc w (.cells cs 33))
  refine ⟨_, some ⟨w.heap.size, 0, none⟩, 1, Nat.le_refl _, rfl, _, _, rfl, Nat.le_refl _, fun _ => ⟨w.heap.size, 0, rfl, .inl (by simp), by simp, fun k x hx => ?_⟩⟩
  match k, hx with
  | 0, hx =>
    injection hx with hx
    subst hx
    obtain ⟨D, Xf, xf, Xl, xl, Xr, xr, h1, h2, h3⟩ := hk
    injection h2 with h2
    refine ⟨_, rfl, TyR.more h1 h3, fun j u hu => ?_⟩
    rw [show 0 + 0 * 6 + j = j by omega, hb.cell j, h2, ← Array.getElem?_toList]
    exact hu
  | k + 1, hx => simp at hx
theorem TysU.built2 {t' : Ty} {cs cs' : Array Value} (h : TyU n w (.agg cs) t) (h' : TyU n w (.agg cs') t') : TysU n (w.alloc (.cells (cs ++ cs') 33)) (.slice (some ⟨w.heap.size, 0, none⟩) 2 2) [t, t'] := by
  have hb := Blk.new w 33 (cs ++ cs')
  have hk := h.keep (chg_alloc w (.cells (cs ++ cs') 33))
  have hk' := h'.keep (chg_alloc w (.cells (cs ++ cs') 33))
  have hsz : cs.size = 6 := by
    obtain ⟨D, Xf, xf, Xl, xl, Xr, xr, h1, h2, h3⟩ := hk
    injection h2 with h2
    rw [h2]; rfl
  refine ⟨_, some ⟨w.heap.size, 0, none⟩, 2, Nat.le_refl _, rfl, _, _, rfl, Nat.le_refl _, fun _ => ⟨w.heap.size, 0, rfl, .inl (by simp), by simp, fun k x hx => ?_⟩⟩
  match k, hx with
  | 0, hx =>
    injection hx with hx
    subst hx
    obtain ⟨D, Xf, xf, Xl, xl, Xr, xr, h1, h2, h3⟩ := hk
    injection h2 with h2
    refine ⟨_, rfl, TyR.more h1 h3, fun j u hu => ?_⟩
    have hj : j < 6 := (List.getElem?_eq_some_iff.1 hu).1
    rw [show 0 + 0 * 6 + j = j by omega, hb.cell j, Array.getElem?_append_left (by omega), h2, ← Array.getElem?_toList]
    exact hu
  | 1, hx =>
    injection hx with hx
    subst hx
    obtain ⟨D, Xf, xf, Xl, xl, Xr, xr, h1, h2, h3⟩ := hk'
    injection h2 with h2
    refine ⟨_, rfl, TyR.more h1 h3, fun j u hu => ?_⟩
    rw [show 0 + 1 * 6 + j = 6 + j by omega, hb.cell (6 + j), Array.getElem?_append_right (by omega), hsz, Nat.add_sub_cancel_left, h2, ← Array.getElem?_toList]
    exact hu
  | k + 2, hx => simp at hx
end
/-- What lies in a box of its own. -/
def BoxU (n : Nat) (w : World) (g : Nat) (t : Ty) : Prop := ∃ cs, Blk w g 33 cs ∧ cs.size = 6 ∧ TyU n w (.agg cs) t
theorem BoxU.keep {n g : Nat} {w w' : World} {t : Ty} (h : BoxU n w g t) (hc : Chg (fun _ _ => False) w w') : BoxU n w' g t := by
  obtain ⟨cs, h1, h2, h3⟩ := h
  exact ⟨cs, hc.blk h1 id, h2, h3.keep hc⟩
theorem BoxU.deep {n m g : Nat} {w : World} {t : Ty} (h : BoxU n w g t) (hm : n ≤ m) : BoxU m w g t := by
  obtain ⟨cs, h1, h2, h3⟩ := h
  exact ⟨cs, h1, h2, h3.deep hm⟩
theorem ownU {n : Nat} {w : World} {v : Value} {t : Ty} (h : TyU n w v t) : Calls Tryd.prog 18 #[v] w fun e w' => ∃ v', e = .returned v' ∧ TyU n w' v' t ∧ Chg (fun _ _ => False) w w' := by
  obtain ⟨D, Xf, xf, Xl, xl, Xr, xr, h1, rfl, h3⟩ := h
  refine (own2_any n D w t Xf xf Xl xl Xr xr h1 h3).mono fun e w' h => ?_
  obtain ⟨Bf, bf, Bl, bl, Br, br, rfl, hN, hc⟩ := h
  exact ⟨_, rfl, ⟨_, _, _, _, _, _, _, Nat.le_refl _, rfl, TyN.tyR hN⟩, hc⟩
/-- What Subst answers, its type lying in blocks of a range. -/
def SubV (n : Nat) (u : Ty) (c : Int) (r : Nat × Nat) (w : World) (v : Value) : Prop :=
  ∃ Xf xf Xl xl Xr xr, v = .tuple #[.agg #[.int .i64 u.kind, .string u.name, .int .i64 u.con, .slice Xf u.fields.length xf, .slice Xl u.list.length xl, .slice Xr u.res.length xr], .int .i64 c] ∧ TyN n (fun b => r.1 ≤ b ∧ b < r.2) w (tyCells u.kind u.name u.con Xf u.fields.length xf Xl u.list.length xl Xr u.res.length xr) u
theorem SubV.keep {n : Nat} {u : Ty} {c : Int} {r : Nat × Nat} {w w' : World} {v : Value} (h : SubV n u c r w v) (hc : Chg (fun _ _ => False) w w') : SubV n u c r w' v := by
  obtain ⟨Xf, xf, Xl, xl, Xr, xr, h1, h2⟩ := h
  exact ⟨Xf, xf, Xl, xl, Xr, xr, h1, TyN.keep hc (fun _ _ _ _ => id) h2⟩
theorem substU {n ma : Nat} {w : World} {v1 v2 v3 : Value} {t : Ty} {names : List ByteArray} {args : List Ty} (hTab : Tabs w) (h1 : TyU n w v1 t) (h2 : StrsU w v2 names) (h3 : TysU ma w v3 args) (hnl : names.length ≤ 1048576) (hal : args.length ≤ 1048576) :
    Calls Tryd.prog 13 #[v1, v2, v3] w fun e w' => ∃ v, e = .returned v ∧ SubV (n + ma) (subT t names args) (subE t names args) (w.heap.size, w'.heap.size) w' v ∧ Chg (fun _ _ => False) w w' := by
  obtain ⟨D1, Xf, xf, Xl, xl, Xr, xr, k1, rfl, k3⟩ := h1
  obtain ⟨D2, A2, c2, l1, rfl, l3⟩ := h2
  obtain ⟨D3, A3, c3, m1, rfl, m3⟩ := h3
  refine (subst_any n ma w.heap.size w t names args Xf xf Xl xl Xr xr A2 c2 A3 c3 (Nat.le_refl _) hTab (TyR.more k1 k3) (SlR.imp l3 (fun b _ hl => hl.imp (fun h => Nat.lt_of_lt_of_le h l1) id) fun _ _ h => h) hnl (SlR.imp m3 (fun b _ hl => hl.imp (fun h => Nat.lt_of_lt_of_le h m1) id) fun _ _ h => TyR.more m1 h) hal).mono fun e w' h => ?_
  obtain ⟨Bf, bf, Bl, bl, Br, br, rfl, hN, hc⟩ := h
  exact ⟨_, rfl, ⟨Bf, bf, Bl, bl, Br, br, rfl, TyN.sub (fun b hb h => ⟨h, hb⟩) hN⟩, hc⟩
end Go.Proofs.YtgemacdnncjmdaaDoor
