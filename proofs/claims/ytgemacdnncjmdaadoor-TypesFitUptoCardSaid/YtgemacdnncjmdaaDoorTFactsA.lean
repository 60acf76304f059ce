/-
  Values that read as types, texts, slices of them, wherever they lie; contracts in these words.
-/
import Derived.Test.YtgemacdnncjmdaaDoorFacts
import Derived.Test.YtgemacdnncjmdaaDoorTFill4
namespace Go.Proofs.YtgemacdnncjmdaaDoor
open Go.RowKit
set_option linter.unusedVariables false
set_option linter.unusedSimpArgs false

theorem enters_own2 (w : World) (xs : Array Value) : (callFunc 18 xs).run Tryd.prog w = .ok (.enter 18 xs) w := by
  show (callFunc _ _).run _ _ = _
  simp [callFunc, Tryd.func18, go_sem]
  rw [if_neg (by decide +kernel), if_neg (fun h => by cases h)]
def TyU (n : Nat) (w : World) (v : Value) (t : Ty) : Prop := ∃ D Xf xf Xl xl Xr xr, D ≤ w.heap.size ∧ v = .agg #[.int .i64 t.kind, .string t.name, .int .i64 t.con, .slice Xf t.fields.length xf, .slice Xl t.list.length xl, .slice Xr t.res.length xr] ∧ TyR n D w (tyCells t.kind t.name t.con Xf t.fields.length xf Xl t.list.length xl Xr t.res.length xr) t
def StrsU (w : World) (v : Value) (l : List ByteArray) : Prop := ∃ D A c, D ≤ w.heap.size ∧ v = .slice A l.length c ∧ StrsR D w (.slice A l.length c) l
def TysU (n : Nat) (w : World) (v : Value) (l : List Ty) : Prop := ∃ D A c, D ≤ w.heap.size ∧ v = .slice A l.length c ∧ TysR n D w (.slice A l.length c) l
section
variable {n B : Nat} {w w' : World} {v : Value} {t : Ty}
theorem TyU.keep (h : TyU n w v t) (hc : Chg (fun _ _ => False) w w') : TyU n w' v t := by
  obtain ⟨D, Xf, xf, Xl, xl, Xr, xr, h1, h2, h3⟩ := h
  exact ⟨D, Xf, xf, Xl, xl, Xr, xr, Nat.le_trans h1 hc.size, h2, TyR.keep0 hc h3⟩
theorem StrsU.keep {l : List ByteArray} (h : StrsU w v l) (hc : Chg (fun _ _ => False) w w') : StrsU w' v l := by
  obtain ⟨D, A, c, h1, h2, h3⟩ := h
  exact ⟨D, A, c, Nat.le_trans h1 hc.size, h2, SlR.keep h3 hc (no_lets _ _) fun _ _ h => h⟩
theorem TysU.keep {l : List Ty} (h : TysU n w v l) (hc : Chg (fun _ _ => False) w w') : TysU n w' v l := by
  obtain ⟨D, A, c, h1, h2, h3⟩ := h
  exact ⟨D, A, c, Nat.le_trans h1 hc.size, h2, TysR.keep0 hc h3⟩
theorem TyU.of {Xf : Option Addr} {xf : Nat} {Xl : Option Addr} {xl : Nat} {Xr : Option Addr} {xr : Nat} (hB : B ≤ w.heap.size) (h : TyR n B w (tyCells t.kind t.name t.con Xf t.fields.length xf Xl t.list.length xl Xr t.res.length xr) t) : TyU n w (.agg #[.int .i64 t.kind, .string t.name, .int .i64 t.con, .slice Xf t.fields.length xf, .slice Xl t.list.length xl, .slice Xr t.res.length xr]) t := ⟨B, Xf, xf, Xl, xl, Xr, xr, hB, rfl, h⟩
theorem TyU.deep {m : Nat} (h : TyU n w v t) (hm : n ≤ m) : TyU m w v t := by
  obtain ⟨D, Xf, xf, Xl, xl, Xr, xr, h1, h2, h3⟩ := h
  exact ⟨D, Xf, xf, Xl, xl, Xr, xr, h1, h2, TyR.deep h3 hm⟩
theorem TysU.deep {m : Nat} {l : List Ty} (h : TysU n w v l) (hm : n ≤ m) : TysU m w v l := by
  obtain ⟨D, A, c, h1, h2, h3⟩ := h
  exact ⟨D, A, c, h1, h2, SlR.imp h3 (fun _ _ h => h) fun _ _ h => TyR.deep h hm⟩
theorem TysU.of {A : Option Addr} {c : Nat} {l : List Ty} (hB : B ≤ w.heap.size) (h : TysR n B w (.slice A l.length c) l) : TysU n w (.slice A l.length c) l := ⟨B, A, c, hB, rfl, h⟩
theorem StrsU.of {A : Option Addr} {c : Nat} {l : List ByteArray} (hB : B ≤ w.heap.size) (h : StrsR B w (.slice A l.length c) l) : StrsU w (.slice A l.length c) l := ⟨B, A, c, hB, rfl, h⟩
theorem TyU.pos (h : TyU n w v t) : 0 < n := by
  obtain ⟨D, Xf, xf, Xl, xl, Xr, xr, h1, h2, h3⟩ := h
  cases n with
  | zero => exact h3.elim
  | succ n => omega
/-- One text in a row just built. -/
theorem StrsU.built {s : ByteArray} (hs : s.size ≤ 1048576) : StrsU (w.alloc (.cells #[.string s] 9)) (.slice (some ⟨w.heap.size, 0, none⟩) 1 1) [s] := by
  refine ⟨_, some ⟨w.heap.size, 0, none⟩, 1, Nat.le_refl _, rfl, _, _, rfl, Nat.le_refl _, fun _ => ⟨w.heap.size, 0, rfl, .inl (by simp), by simp, fun k x hx => ?_⟩⟩
  match k, hx with
  | 0, hx =>
    injection hx with hx
    subst hx
    refine ⟨[.string s], rfl, ⟨rfl, hs⟩, fun j u hu => ?_⟩
    match j, hu with
    | 0, hu =>
      injection hu with hu
      subst hu
      exact (Blk.new w 9 #[.string s]).cell 0
    | j + 1, hu => simp at hu
  | k + 1, hx => simp at hx
theorem StrsU.built2 {s s' : ByteArray} (hs : s.size ≤ 1048576) (hs' : s'.size ≤ 1048576) : StrsU (w.alloc (.cells #[.string s, .string s'] 9)) (.slice (some ⟨w.heap.size, 0, none⟩) 2 2) [s, s'] := by
  refine ⟨_, some ⟨w.heap.size, 0, none⟩, 2, Nat.le_refl _, rfl, _, _, rfl, Nat.le_refl _, fun _ => ⟨w.heap.size, 0, rfl, .inl (by simp), by simp, fun k x hx => ?_⟩⟩
  match k, hx with
  | 0, hx =>
    injection hx with hx
    subst hx
    refine ⟨[.string s], rfl, ⟨rfl, hs⟩, fun j u hu => ?_⟩
    match j, hu with
    | 0, hu =>
      injection hu with hu
      subst hu
      exact (Blk.new w 9 #[.string s, .string s']).cell 0
    | j + 1, hu => simp at hu
  | 1, hx =>
    injection hx with hx
    subst hx
    refine ⟨[.string s'], rfl, ⟨rfl, hs'⟩, fun j u hu => ?_⟩
    match j, hu with
    | 0, hu =>
      injection hu with hu
      subst hu
      exact (Blk.new w 9 #[.string s, .string s']).cell 1
    | j + 1, hu => simp at hu
  | k + 2, hx => simp at hx
theorem TysU.built {cs : Array Value} (h : TyU n w (.agg cs) t) : TysU n (w.alloc (.cells cs 33)) (.slice (some ⟨w.heap.size, 0, none⟩) 1 1) [t] := by
  have hb := Blk.new w 33 cs
  have hk := h.keep (chg_alloc w (.cells cs 33))
  refine ⟨_, some ⟨w.heap.size, 0, none⟩, 1, Nat.le_refl _, rfl, _, _, rfl, Nat.le_refl _, fun _ => ⟨w.heap.size, 0, rfl, .inl (by simp), by simp, fun k x hx => ?_⟩⟩
  match k, hx with
  | 0, hx =>
    injection hx with hx
    subst hx
    obtain ⟨D, Xf, xf, Xl, xl, Xr, xr, h1, h2, h3⟩ := hk
    injection h2 with h2
    refine ⟨_, rfl, TyR.more h1 h3, fun j u hu => ?_⟩
    rw [show 0 + 0 * 6 + j = j by omega, hb.cell j, h2, ← Array.getElem?_toList]
    exact hu
  | k + 1, hx => simp at hx
theorem TysU.built2 {t' : Ty} {cs cs' : Array Value} (h : TyU n w (.agg cs) t) (h' : TyU n w (.agg cs') t') : TysU n (w.alloc (.cells (cs ++ cs') 33)) (.slice (some ⟨w.heap.size, 0, none⟩) 2 2) [t, t'] := by
  have hb := Blk.new w 33 (cs ++ cs')
  have hk := h.keep (chg_alloc w (.cells (cs ++ cs') 33))
  have hk' := h'.keep (chg_alloc w (.cells (cs ++ cs') 33))
  have hsz : cs.size = 6 := by
    obtain ⟨D, Xf, xf, Xl, xl, Xr, xr, h1, h2, h3⟩ := hk
    injection h2 with h2
    rw [h2]; rfl
  refine ⟨_, some ⟨w.heap.size, 0, none⟩, 2, Nat.le_refl _, rfl, _, _, rfl, Nat.le_refl _, fun _ => ⟨w.heap.size, 0, rfl, .inl (by simp), by simp, fun k x hx => ?_⟩⟩
  match k, hx with
  | 0, hx =>
    injection hx with hx
    subst hx
    obtain ⟨D, Xf, xf, Xl, xl, Xr, xr, h1, h2, h3⟩ := hk
    injection h2 with h2
    refine ⟨_, rfl, TyR.more h1 h3, fun j u hu => ?_⟩
    have hj : j < 6 := (List.getElem?_eq_some_iff.1 hu).1
    rw [show 0 + 0 * 6 + j = j by omega, hb.cell j, Array.getElem?_append_left (by omega), h2, ← Array.getElem?_toList]
    exact hu
  | 1, hx =>
    injection hx with hx
    subst hx
    obtain ⟨D, Xf, xf, Xl, xl, Xr, xr, h1, h2, h3⟩ := hk'
    injection h2 with h2
    refine ⟨_, rfl, TyR.more h1 h3, fun j u hu => ?_⟩
    rw [show 0 + 1 * 6 + j = 6 + j by omega, hb.cell (6 + j), Array.getElem?_append_right (by omega), hsz, Nat.add_sub_cancel_left, h2, ← Array.getElem?_toList]
    exact hu
  | k + 2, hx => simp at hx
end
/-- What lies in a box of its own. -/
def BoxU (n : Nat) (w : World) (g : Nat) (t : Ty) : Prop := ∃ cs, Blk w g 33 cs ∧ cs.size = 6 ∧ TyU n w (.agg cs) t
theorem BoxU.keep {n g : Nat} {w w' : World} {t : Ty} (h : BoxU n w g t) (hc : Chg (fun _ _ => False) w w') : BoxU n w' g t := by
  obtain ⟨cs, h1, h2, h3⟩ := h
  exact ⟨cs, hc.blk h1 id, h2, h3.keep hc⟩
theorem BoxU.deep {n m g : Nat} {w : World} {t : Ty} (h : BoxU n w g t) (hm : n ≤ m) : BoxU m w g t := by
  obtain ⟨cs, h1, h2, h3⟩ := h
  exact ⟨cs, h1, h2, h3.deep hm⟩
theorem ownU {n : Nat} {w : World} {v : Value} {t : Ty} (h : TyU n w v t) : Calls Tryd.prog 18 #[v] w fun e w' => ∃ v', e = .returned v' ∧ TyU n w' v' t ∧ Chg (fun _ _ => False) w w' := by
  obtain ⟨D, Xf, xf, Xl, xl, Xr, xr, h1, rfl, h3⟩ := h
  refine (own2_any n D w t Xf xf Xl xl Xr xr h1 h3).mono fun e w' h => ?_
  obtain ⟨Bf, bf, Bl, bl, Br, br, rfl, hN, hc⟩ := h
  exact ⟨_, rfl, ⟨_, _, _, _, _, _, _, Nat.le_refl _, rfl, TyN.tyR hN⟩, hc⟩
def hasRel (l : List ByteArray) (s : ByteArray) (W : World) (i : Value) (wr : World) : Prop := ∃ k : Nat, k ≤ l.length ∧ i = .int .i64 k ∧ s ∉ l.take k ∧ Chg (fun _ _ => False) W wr
theorem nodup_snoc (l : List ByteArray) (x : ByteArray) : (l ++ [x]).Nodup ↔ l.Nodup ∧ x ∉ l := by
  rw [List.nodup_append]
  constructor
  · intro h
    exact ⟨h.1, fun hx => h.2.2 x hx x (by simp) rfl⟩
  · intro h
    refine ⟨h.1, by simp, fun a ha b hb => ?_⟩
    simp at hb
    subst hb
    exact fun e => h.2 (e ▸ ha)
theorem StrV.one (w : World) (cs : List Value) (y : ByteArray) (h : StrV w cs y) : ∀ u ∈ cs, u.oneCell' = true := by
  rw [h.1]
  intro u hu
  simp at hu
  subst hu
  rfl
set_option maxRecDepth 100000 in
set_option maxHeartbeats 1000000 in
theorem has_any (B : Nat) (w : World) (l : List ByteArray) (s : ByteArray) (A : Option Addr) (c : Nat) (hl : StrsR B w (.slice A l.length c) l) (hl20 : l.length ≤ 1000000000000) :
    Calls Tryd.prog 38 #[.slice A l.length c, .string s] w fun e w' => ∃ b, e = .returned (.bool b) ∧ (b = true ↔ s ∈ l) ∧ Chg (fun _ _ => False) w w' := by
  have HP := Lib.hid hl
  clear hl
  go_enter Tryd.func38, Tryd.ntmps38
  go_wp2_with fail
  go_loopw [5] (fun i wr => hasRel l s w i wr) (fun i _ => l.length - (intOf i).toNat)
  case atStart => exact ⟨0, Nat.zero_le _, rfl, by simp, Chg.refl _ _⟩
  case round =>
    obtain ⟨k, hk, rfl, hn, hch⟩ := hrel
    have q3 : IntKind.i64.wrap ((k : Int) + 1) = (k : Int) + 1 := IntWalk.i64_in _ ⟨by omega, by omega⟩
    by_cases hlt : k < l.length
    · have q1 : decide (k < l.length) = true := decide_eq_true hlt
      have q2 : (k : Int) < (l.length : Int) := by omega
      obtain ⟨b, o, x, cs, rfl, hkx, _, ⟨rfl, hxs⟩, hcell⟩ := SlR.at2 (SlR.keep HP.out hch (no_lets _ _) fun _ _ h => h) hlt
      have z0 : wr.cell? ⟨b, o + k, none⟩ = some (.string x) := by simpa using hcell 0 _ rfl
      by_cases hxs' : x = s
      · have q5 := str_eq hxs'
        have HX := Lib.hid (And.intro hxs' (And.intro hkx hch))
        clear hxs' hkx hch hn hcell hxs
        go_wp2_with fail
        go_ret
        exact ⟨true, rfl, ⟨fun _ => HX.out.1 ▸ List.mem_of_getElem? HX.out.2.1, fun _ => rfl⟩, HX.out.2.2⟩
      · have q5 := str_ne hxs'
        have HX := Lib.hid (And.intro hxs' (And.intro hkx (And.intro hch hn)))
        clear hxs' hkx hch hn hcell hxs
        go_wp2_with fail
        go_roundw
        case rel =>
          obtain ⟨hne, hkx, hch, hn⟩ := HX.out
          obtain ⟨h1, h2⟩ := List.getElem?_eq_some_iff.1 hkx
          refine ⟨k + 1, hlt, by simp, ?_, hch⟩
          rw [List.take_succ_eq_append_getElem h1, h2, List.mem_append, List.mem_singleton]
          exact fun h => h.elim hn fun h => hne h.symm
        case measure => simp [intOf]; omega
    · have q1 : decide (k < l.length) = false := decide_eq_false hlt
      obtain rfl : k = l.length := by omega
      rw [List.take_length] at hn
      have HX := Lib.hid (And.intro hn hch)
      clear hn hch
      go_wp2_with fail
      go_ret
      exact ⟨false, rfl, ⟨fun h => absurd h (by decide), fun h => absurd h HX.out.1⟩, HX.out.2⟩
/-- No name of the first k stands again behind it. -/
def OnceTo (l : List ByteArray) (k : Nat) : Prop := ∀ j, j < k → ∀ x, l[j]? = some x → x ∉ l.drop (j + 1)
theorem once_nodup {l : List ByteArray} (h : OnceTo l l.length) : l.Nodup := by
  rw [List.Nodup, List.pairwise_iff_getElem]
  intro i j hi hj hij he
  refine h i hi _ (List.getElem?_eq_getElem hi) ?_
  refine List.mem_of_getElem? (i := j - (i + 1)) ?_
  rw [List.getElem?_drop, show i + 1 + (j - (i + 1)) = j by omega, List.getElem?_eq_getElem hj, he]
theorem not_nodup {l : List ByteArray} {k : Nat} {x : ByteArray} (hx : l[k]? = some x) (h : x ∈ l.drop (k + 1)) : ¬ l.Nodup := by
  intro hn
  obtain ⟨hk, hk2⟩ := List.getElem?_eq_some_iff.1 hx
  obtain ⟨j, hj, hj2⟩ := List.mem_iff_getElem.1 h
  rw [List.length_drop] at hj
  rw [List.getElem_drop] at hj2
  exact List.pairwise_iff_getElem.1 hn k (k + 1 + j) hk (by omega) (by omega) (by rw [hk2, hj2])
theorem StrsR.drop {B : Nat} {w : World} {l : List ByteArray} {b o c k : Nat} (h : StrsR B w (.slice (some ⟨b, o, none⟩) l.length c) l) : StrsR B w (.slice (some ⟨b, o + k, none⟩) (l.drop k).length (c - k)) (l.drop k) := by
  obtain ⟨A, c', hv, hlc, hk⟩ := h
  injection hv with hA _ hc
  subst hA hc
  refine ⟨_, _, rfl, by rw [List.length_drop]; omega, fun h0 => ?_⟩
  rw [List.length_drop] at h0
  obtain ⟨b', o', hA, h1, h2, h3⟩ := hk (by omega)
  injection hA with hA
  injection hA with e1 e2
  subst e1 e2
  refine ⟨b, o + k, rfl, h1, h2, fun i x hx => ?_⟩
  rw [List.getElem?_drop] at hx
  obtain ⟨cs, k1, k2, k3⟩ := h3 _ x hx
  refine ⟨cs, k1, k2, fun j u hu => ?_⟩
  have := k3 j u hu
  rw [show o + k + i * 1 + j = o + (k + i) * 1 + j by omega]
  exact this
theorem slice_strs (w : World) (b o n c k : Nat) (hk : k ≤ n) : (Instr.slice 22 (.slice (some ⟨b, o, none⟩) n c) (some (.int .i64 (k : Int))) none none).run Tryd.prog w = .ok (.slice (if c = k then some ⟨b, o, none⟩ else some ⟨b, o + k, none⟩) (n - k) (c - k)) w := by
  obtain ⟨i9, hi9, hz9, hs9, hb9⟩ := info_parts infoStr
  have he : Tryd.prog.elem 22 = 9 := by kernel_rfl
  have h := run_slice_l (P := Tryd.prog) (w := w) (t := 22) (a := some ⟨b, o, none⟩) (len := n) (cap := c) (by rw [he]; exact Tryd.underlying22) .i64 (k : Int) (by omega) (by omega)
  rw [h, he]
  simp [sizeOf, typeInfo, hi9, hs9, sliced, Addr.add, Result.andThen]
  by_cases hk0 : k = 0
  · subst hk0; simp
  · simp [hk0]
def twRel (l : List ByteArray) (W : World) (i : Value) (wr : World) : Prop := ∃ k : Nat, k ≤ l.length ∧ i = .int .i64 k ∧ OnceTo l k ∧ Chg (fun _ _ => False) W wr
set_option maxRecDepth 100000 in
set_option maxHeartbeats 2000000 in
theorem twice_any (B : Nat) (w : World) (l : List ByteArray) (A : Option Addr) (c : Nat) (hl : StrsR B w (.slice A l.length c) l) (hl20 : l.length ≤ 1048576) :
    Calls Tryd.prog 66 #[.slice A l.length c] w fun e w' => ∃ b, e = .returned (.bool b) ∧ (b = true ↔ ¬ l.Nodup) ∧ Chg (fun _ _ => False) w w' := by
  have hlc := hl.len.2
  have HP := Lib.hid hl
  clear hl
  go_enter Tryd.func66, Tryd.ntmps66
  go_wp2_with fail
  go_loopw [3] (fun i wr => twRel l w i wr) (fun i _ => l.length - (intOf i).toNat)
  case atStart => exact ⟨0, Nat.zero_le _, rfl, fun j hj => absurd hj (Nat.not_lt_zero _), Chg.refl _ _⟩
  case round =>
    obtain ⟨k, hk, rfl, hn, hch⟩ := hrel
    have q3 : IntKind.i64.wrap ((k : Int) + 1) = (k : Int) + 1 := IntWalk.i64_in _ ⟨by omega, by omega⟩
    by_cases hlt : k < l.length
    · have q1 : decide (k < l.length) = true := decide_eq_true hlt
      have q2 : (k : Int) < (l.length : Int) := by omega
      have hlw := SlR.keep HP.out hch (no_lets _ _) fun _ _ h => h
      obtain ⟨b, o, x, cs, rfl, hkx, _, ⟨rfl, hxs⟩, hcell⟩ := SlR.at2 hlw hlt
      have z0 : wr.cell? ⟨b, o + k, none⟩ = some (.string x) := by simpa using hcell 0 _ rfl
      obtain ⟨A1, hsl, hdl⟩ : ∃ A1, (∀ w', (Instr.slice 22 (.slice (some ⟨b, o, none⟩) l.length c) (some (.int .i64 ((k : Int) + 1))) none none).run Tryd.prog w' = .ok (.slice A1 (l.length - (k + 1)) (c - (k + 1))) w') ∧ StrsR B wr.drew (.slice A1 (l.drop (k + 1)).length (c - (k + 1))) (l.drop (k + 1)) := by
        refine ⟨_, fun w' => slice_strs w' b o l.length c (k + 1) (by omega), ?_⟩
        have hd := SlR.keep (StrsR.drop (k := k + 1) hlw) ((Chg.refl (fun _ _ => False) wr).drew) (no_lets _ _) fun _ _ h => h
        by_cases hck : c = k + 1
        · rw [if_pos hck]
          have h0 : l.drop (k + 1) = [] := List.drop_of_length_le (by omega)
          rw [h0]
          exact ⟨_, _, rfl, Nat.zero_le _, fun h => absurd h (Nat.lt_irrefl _)⟩
        · rw [if_neg hck]
          exact hd
      have hcall := has_any B wr.drew (l.drop (k + 1)) x A1 (c - (k + 1)) hdl (by rw [List.length_drop]; omega)
      rw [List.length_drop] at hcall
      clear hdl
      have HX := Lib.hid (And.intro hkx (And.intro hn hch))
      clear hkx hn hch hcell hxs hlw
      go_wp2_with fail
      go_still_tail 8, (by kernel_rfl)
      change wpList _ _ _ _ _ wr.drew
      have HD := Lib.hid ((Chg.refl (fun _ _ => False) wr).drew)
      clear z0 hsl
      generalize wr.drew = w4 at hcall HD ⊢
      go_wp2_with fail
      refine hcall.mono fun e w5 h => ?_
      obtain ⟨bb, rfl, hbb, hc5⟩ := h
      clear hcall
      cases bb with
      | true =>
        have HM := Lib.hid (hbb.1 rfl)
        clear hbb
        go_wp2_with fail
        go_ret
        exact ⟨true, rfl, ⟨fun _ => not_nodup HX.out.1 HM.out, fun _ => rfl⟩, (HX.out.2.2.trans HD.out).trans hc5⟩
      | false =>
        have HM := Lib.hid (show ¬ x ∈ l.drop (k + 1) from fun h => absurd (hbb.2 h) (by decide))
        clear hbb
        go_wp2_with fail
        go_roundw
        case rel =>
          refine ⟨k + 1, hlt, by simp, fun j hj y hy => ?_, (HX.out.2.2.trans HD.out).trans hc5⟩
          rcases Nat.lt_or_ge j k with hjk | hjk
          · exact HX.out.2.1 j hjk y hy
          · obtain rfl : j = k := by omega
            rw [HX.out.1] at hy
            injection hy with hy
            rw [← hy]
            exact HM.out
        case measure => simp [intOf]; omega
    · have q1 : decide (k < l.length) = false := decide_eq_false hlt
      obtain rfl : k = l.length := by omega
      have HX := Lib.hid (And.intro hn hch)
      clear hn hch
      go_wp2_with fail
      go_ret
      exact ⟨false, rfl, ⟨fun h => absurd h (by decide), fun h => absurd (once_nodup HX.out.1) h⟩, HX.out.2⟩
def zeroT : Ty := .mk 0 ⟨#[]⟩ 0 [] [] []
end Go.Proofs.YtgemacdnncjmdaaDoor
