/-
  code.Encode: the bytes of a module, or why there are none.
-/
import Derived.Test.YtdegfnejhamejaaBaseZt
import Derived.Test.YtdegfnejhamejaaDataZt
namespace Go.Proofs.Ytdegfnejhamejaa
open Go.RowKit
set_option linter.unusedVariables false
set_option linter.unusedSimpArgs false

def u8s (l : List Nat) : List Value := l.map (fun (x : Nat) => Value.int .u8 (x : Int))
theorem infoU8 : (Try.prog.info? 5).map (fun i => (i.zero, i.size, i.bytes)) = some (some (.int .u8 0), 1, 1) := by kernel_rfl

/-- A buffer behind a pointer: block g of type T is the buffer and a flag. -/
def Wr (T : Nat) (w : World) (g base : Nat) (form : Bool) (bs : List Nat) : Prop :=
  base ≤ g ∧ ∃ A c, Blk w g T #[.slice A bs.length c, .bool form] ∧ w.ownsRow base 5 1 (.slice A bs.length c) bs.length (u8s bs)
/-- What writing may turn. -/
def MW (T base : Nat) : Nat → Nat → Prop := fun b t => base ≤ b ∧ (t = T ∨ t = 5)

section
variable {T g base : Nat} {w w' : World} {form : Bool} {bs : List Nat}
theorem Wr.keep {M : Nat → Nat → Prop} (h : Wr T w g base form bs) (hc : Chg M w w') (h1 : ¬ M g T) (h2 : ∀ b, ¬ M b 5) : Wr T w' g base form bs := by
  obtain ⟨hb, A, c, h3, h4⟩ := h
  exact ⟨hb, A, c, hc.blk h3 h1, hc.own h4 fun k _ => h2 k⟩
theorem Wr.old (h : Wr T w g base form bs) (hc : Chg (fun _ _ => False) w w') : Wr T w' g base form bs := h.keep hc id fun _ => id
/-- One byte has been appended, and stored back. -/
theorem Wr.push {A A' : Option Addr} {c c' : Nat} {w1 : World} {o : Obj} (x : Nat) (hT : T ≠ 5) (hb : base ≤ g) (h3 : Blk w g T #[.slice A bs.length c, .bool form]) (h4 : w.ownsRow base 5 1 (.slice A bs.length c) bs.length (u8s bs))
    (hap : Apd (w.alloc o) w1 base 5 1 A A' bs.length c (bs.length + 1) c' (u8s bs ++ [Value.int .u8 (x : Int)])) :
    Wr T (w1.setCell ⟨g, 0, none⟩ (.slice A' (bs.length + 1) c')) g base form (bs ++ [x]) ∧ Chg (MW T base) w (w1.setCell ⟨g, 0, none⟩ (.slice A' (bs.length + 1) c')) ∧
      w1.cell? ⟨g, 0, none⟩ = some (.slice A bs.length c) ∧ w1.frozen? ⟨g, 0, none⟩ = false := by
  have hchg := hap.chg h4
  have hb1 : Blk w1 g T #[.slice A bs.length c, .bool form] := hchg.blk h3 fun h => hT h.2
  have hstep : Chg (MW T base) w1 (w1.setCell ⟨g, 0, none⟩ (.slice A' (bs.length + 1) c')) := (Chg.refl _ _).setCell _ _ fun o ho => by
    have : w1.heap[g]? = some o := ho
    rw [show w1.heap[g]? = _ from hb1] at this
    injection this with this
    subst this
    exact ⟨hb, .inl rfl⟩
  refine ⟨⟨hb, A', c', ?_, ?_⟩, (hchg.mono fun b t _ h => ⟨h.1, .inr h.2⟩).trans hstep, by simpa using hb1.cell 0, hb1.frozen 0⟩
  · have := hb1.set_ 0 (.slice A' (bs.length + 1) c')
    simpa using this
  · have h5 := hap.own
    have h6 : Chg (fun b t => t = T) w1 (w1.setCell ⟨g, 0, none⟩ (.slice A' (bs.length + 1) c')) := (Chg.refl _ _).setCell _ _ fun o ho => by
      have : w1.heap[g]? = some o := ho
      rw [show w1.heap[g]? = _ from hb1] at this
      injection this with this
      subst this
      rfl
    have h7 := h6.own h5 (fun k _ => fun h => hT h.symm)
    simpa [u8s] using h7
end

/-- What a writing has done: what was wanted stands behind what was there; or, where a number can't be written, something, and the flag is set. -/
structure EmitX (T g base : Nat) (form : Bool) (bs : List Nat) (form' : Bool) (ys : List Nat) (most : Nat) (want : Option (List Nat)) (w w' : World) : Prop where
  wr : Wr T w' g base form' (bs ++ ys)
  len : ys.length ≤ most
  want : match want with | some l => form' = form ∧ ys = l | none => form' = true
  flag : form = true → form' = true
  chg : Chg (MW T base) w w'
def Emit (T g base : Nat) (form : Bool) (bs : List Nat) (most : Nat) (want : Option (List Nat)) (w w' : World) : Prop := ∃ form' ys, EmitX T g base form bs form' ys most want w w'
def EmitE (T g base : Nat) (form : Bool) (bs : List Nat) (most : Nat) (want : Option (List Nat)) (w : World) (e : Ending) (w' : World) : Prop :=
  e = .returned (.tuple #[]) ∧ Emit T g base form bs most want w w'
theorem EmitX.then {T g base : Nat} {form form' : Bool} {bs ys : List Nat} {most most' : Nat} {want want' : Option (List Nat)} {w w' w'' : World} (h : EmitX T g base form bs form' ys most want w w')
    (k : Emit T g base form' (bs ++ ys) most' want' w' w'') : Emit T g base form bs (most + most') (seqO want want') w w'' := by
  obtain ⟨h1, h2, h3, h4, h5⟩ := h
  obtain ⟨form'', zs, k1, k2, k3, k4, k5⟩ := k
  refine ⟨form'', ys ++ zs, by rw [← List.append_assoc]; exact k1, by simp; omega, ?_, fun h => k4 (h4 h), h5.trans k5⟩
  cases want with
  | none => exact k4 h3
  | some l =>
    cases want' with
    | none => exact k3
    | some l' => exact ⟨k3.1.trans h3.1, by rw [h3.2, k3.2]⟩
theorem EmitX.refl {T g base : Nat} {form : Bool} {bs : List Nat} {w : World} (h : Wr T w g base form bs) : EmitX T g base form bs form [] 0 (some []) w w :=
  ⟨by simpa using h, Nat.le_refl _, ⟨rfl, rfl⟩, id, Chg.refl _ _⟩
theorem EmitX.mono {T g base : Nat} {form form' : Bool} {bs ys : List Nat} {most most' : Nat} {want want' : Option (List Nat)} {w w' : World} (h : EmitX T g base form bs form' ys most want w w') (hm : most ≤ most') (hw : want = want') : EmitX T g base form bs form' ys most' want' w w' := by
  subst hw
  exact ⟨h.wr, Nat.le_trans h.len hm, h.want, h.flag, h.chg⟩
theorem Emit.mono {T g base : Nat} {form : Bool} {bs : List Nat} {most most' : Nat} {want want' : Option (List Nat)} {w w' : World} (h : Emit T g base form bs most want w w') (hm : most ≤ most') (hw : want = want') : Emit T g base form bs most' want' w w' := by
  obtain ⟨form', ys, h⟩ := h
  exact ⟨form', ys, h.mono hm hw⟩
/-- A world in which nothing old has turned comes next. -/
theorem EmitX.old {T g base : Nat} {form form' : Bool} {bs ys : List Nat} {most : Nat} {want : Option (List Nat)} {w w' w'' : World} (h : EmitX T g base form bs form' ys most want w w') (hc : Chg (fun _ _ => False) w' w'') : EmitX T g base form bs form' ys most want w w'' :=
  ⟨h.wr.old hc, h.len, h.want, h.flag, h.chg.trans (hc.mono fun _ _ _ h => h.elim)⟩
theorem EmitX.length {T g base : Nat} {form form' : Bool} {bs ys : List Nat} {most : Nat} {want : Option (List Nat)} {w w' : World} (h : EmitX T g base form bs form' ys most want w w') : (bs ++ ys).length ≤ bs.length + most := by
  have := h.len
  simp
  omega

/-- The relation of a loop that writes the parts of a list, one by one. -/
def EmitRel {α : Type} (T g base : Nat) (form : Bool) (w : World) (bs : List Nat) (m0 : Nat) (c : α → Nat) (pre : Option (List Nat)) (f : α → Option (List Nat)) (l : List α) (i : Value) (wr : World) : Prop :=
  ∃ k : Nat, k ≤ l.length ∧ i = .int .i64 k ∧ Emit T g base form bs (m0 + ((l.take k).map c).sum) (seqO pre (allO f (l.take k))) w wr
theorem EmitRel.start {α : Type} {T g base : Nat} {form : Bool} {w wr : World} {bs : List Nat} {m0 : Nat} {c : α → Nat} {pre : Option (List Nat)} {f : α → Option (List Nat)} {l : List α} (h : Emit T g base form bs m0 pre w wr) :
    EmitRel T g base form w bs m0 c pre f l (.int .i64 0) wr := ⟨0, Nat.zero_le _, rfl, h.mono (by simp) (by simp [allO, seqO_nil_r])⟩
theorem sum_take {α : Type} (c : α → Nat) : ∀ (l : List α) (k : Nat), ((l.take k).map c).sum ≤ (l.map c).sum
  | [], k => by simp
  | x :: l, 0 => by simp
  | x :: l, k + 1 => by have := sum_take c l k; simp only [List.take_succ_cons, List.map_cons, List.sum_cons]; omega
theorem sum_at {α : Type} (c : α → Nat) {l : List α} {k : Nat} {x : α} (h : l[k]? = some x) : ((l.take k).map c).sum + c x ≤ (l.map c).sum := by
  obtain ⟨hlt, hxe⟩ := List.getElem?_eq_some_iff.1 h
  have h1 := sum_take c l (k + 1)
  rw [List.take_succ_eq_append_getElem hlt, hxe, List.map_append, List.sum_append] at h1
  simpa using h1
theorem EmitX.step {α : Type} {T g base : Nat} {form form' : Bool} {w wr w'' : World} {bs ys : List Nat} {m0 k : Nat} {c : α → Nat} {pre : Option (List Nat)} {f : α → Option (List Nat)} {l : List α} {x : α} (hx : l[k]? = some x)
    (h : EmitX T g base form bs form' ys (m0 + ((l.take k).map c).sum) (seqO pre (allO f (l.take k))) w wr) (hk : Emit T g base form' (bs ++ ys) (c x) (f x) wr w'') : EmitRel T g base form w bs m0 c pre f l (.int .i64 ((k : Int) + 1)) w'' := by
  obtain ⟨hlt, hxe⟩ := List.getElem?_eq_some_iff.1 hx
  refine ⟨k + 1, hlt, by simp, (h.then hk).mono ?_ ?_⟩
  · rw [List.take_succ_eq_append_getElem hlt, hxe, List.map_append, List.sum_append]; simp only [List.map_cons, List.map_nil, List.sum_cons, List.sum_nil]; omega
  · rw [allO_take f l k hlt, hxe, seqO_assoc]

theorem or128 : ∀ b : Fin 256, bits .or .u8 ((b.val : Nat) : Int) 128 = ((b.val % 128 + 128 : Nat) : Int) := by decide +kernel
theorem or128' (y : Nat) : bits .or .u8 ((y : Int) % 256) 128 = ((y % 128 + 128 : Nat) : Int) := by
  have h := or128 ⟨y % 256, Nat.mod_lt _ (by omega)⟩
  simp only at h
  rw [show ((y : Int) % 256) = ((y % 256 : Nat) : Int) by omega, h]
  congr 1
  omega

def NumRel (T g base : Nat) (form : Bool) (w : World) (bs full : List Nat) (i : Value) (wr : World) : Prop :=
  ∃ (y : Nat) (ys : List Nat), i = .int .u64 y ∧ U64 y ∧ ys ++ encN y = full ∧ ys.length + (encN y).length ≤ 10 ∧ Wr T wr g base form (bs ++ ys) ∧ Chg (MW T base) w wr
theorem encN_u64 {x : Nat} (h : U64 x) : (encN x).length ≤ 10 := encN_len 9 x (by unfold U64 at h; omega)
theorem encN_pos (x : Nat) : 1 ≤ (encN x).length := by
  by_cases h : 128 ≤ x
  · rw [encN_ge h]; simp
  · rw [encN_lt (by omega)]; simp

def NumPost (T g base : Nat) (form : Bool) (bs : List Nat) (ys : List Nat) (w : World) (e : Ending) (w' : World) : Prop :=
  e = .returned (.tuple #[]) ∧ Wr T w' g base form (bs ++ ys) ∧ Chg (MW T base) w w'

set_option maxRecDepth 100000 in
theorem num_any (g base : Nat) (w : World) (bs : List Nat) (form : Bool) (x : Nat) (hx : U64 x) (hwr : Wr 82 w g base form bs) (hlen : bs.length ≤ 1099511627776) :
   Calls Try.prog 58 #[.pointer (some ⟨g, 0, none⟩), .int .u64 x] w (NumPost 82 g base form bs (encN x) w) := by
  obtain ⟨i0, hi0, hz0, hz1, hz2⟩ := info_parts infoU8
  have hmax : 1099511627776 + 11 ≤ maxLen := by unfold maxLen; omega
  have Hmax := Lib.hid hmax
  clear hmax
  go_enter Try.func58, Try.ntmps58
  go_wp2_with fail
  go_loopw [1] (fun i wr => NumRel 82 g base form w bs (encN x) i wr) (fun i _ => (intOf i).toNat)
  case atStart => exact ⟨x, [], rfl, hx, rfl, by simpa using encN_u64 hx, by simpa using hwr, Chg.refl _ _⟩
  case round =>
    obtain ⟨y, ys, rfl, hy, he, hl, ⟨hbg, A', c', hb', how'⟩, hchg⟩ := hrel
    have He := Lib.hid he; clear he
    obtain ⟨cur, hcur⟩ : ∃ cur, bs ++ ys = cur := ⟨_, rfl⟩
    have hcl : cur.length ≤ 1099511627776 + 10 := by rw [← hcur, List.length_append]; omega
    rw [hcur] at hb' how'
    have Hcur := Lib.hid hcur; clear hcur
    have c0 : wr.cell? ⟨g, 0, none⟩ = some (.slice A' cur.length c') := by simpa using hb'.cell 0
    have hwrb : base ≤ wr.heap.size := by have := hb'.lt; omega
    have hyp := encN_pos y
    by_cases hge : 128 ≤ y
    · go_wp2_with (at_builtin; go_must (refine wpList_append_new rfl (.tmp 12) (.tmp 16) 56 rfl base 5 i0 _ 1 1 Try.underlying56 hi0 hz0 hz1 hz2 rfl (by omega) A' cur.length c' (u8s cur) rfl how' 1 1 [_] rfl rfl rfl (by simp; rfl) (by have := Hmax.out; omega) (by omega) hwrb ?_))
      intro A1 c1' w1 hap
      rw [or128'] at hap
      obtain ⟨p1, p2, c0', f0'⟩ := Wr.push (y % 128 + 128) (by decide) hbg hb' how' hap
      have HH := Lib.hid (And.intro p1 (And.intro p2 hchg))
      clear hap hb' how' hchg c0 p1 p2
      go_wp2
      go_roundw
      case rel =>
        obtain ⟨p1, p2, hchg⟩ := HH.out
        refine ⟨y / 128, ys ++ [y % 128 + 128], by simp, by unfold U64 at hy ⊢; omega, by rw [← He.out, encN_ge hge]; simp, by rw [encN_ge hge] at hl; simp at hl ⊢; omega, by rw [← List.append_assoc, Hcur.out]; exact p1, hchg.trans p2⟩
      case measure => simp [intOf]; omega
    · go_wp2_with (at_builtin; go_must (refine wpList_append_new rfl (.tmp 24) (.tmp 27) 56 rfl base 5 i0 _ 1 1 Try.underlying56 hi0 hz0 hz1 hz2 rfl (by omega) A' cur.length c' (u8s cur) rfl how' 1 1 [_] rfl rfl rfl (by simp; rfl) (by have := Hmax.out; omega) (by omega) hwrb ?_))
      intro A1 c1' w1 hap
      obtain ⟨p1, p2, c0', f0'⟩ := Wr.push y (by decide) hbg hb' how' hap
      have HH := Lib.hid (And.intro p1 (And.intro p2 hchg))
      clear hap hb' how' hchg c0 p1 p2
      go_wp2
      go_end0
      obtain ⟨p1, p2, hchg⟩ := HH.out
      refine ⟨rfl, ?_, hchg.trans p2⟩
      rw [← He.out, encN_lt (by omega), ← List.append_assoc, Hcur.out]
      exact p1

theorem u64_wrap (z : Int) : 0 ≤ IntKind.u64.wrap z ∧ U64 (IntKind.u64.wrap z).toNat := by
  have h : IntKind.u64.wrap z = z % 18446744073709551616 := by simp [IntKind.wrap, IntKind.signed, IntKind.bits]
  rw [h]; unfold U64; omega
theorem num_z (g base : Nat) (w : World) (bs : List Nat) (form : Bool) (z : Int) (h0 : 0 ≤ z) (hx : U64 z.toNat) (hwr : Wr 82 w g base form bs) (hlen : bs.length ≤ 1099511627776) :
   Calls Try.prog 58 #[.pointer (some ⟨g, 0, none⟩), .int .u64 z] w (NumPost 82 g base form bs (encN z.toNat) w) := by
  have h := num_any g base w bs form z.toNat hx hwr hlen
  rwa [Int.toNat_of_nonneg h0] at h

/-- The flag is written. -/
theorem Wr.flag {T g base : Nat} {w : World} {form : Bool} {bs : List Nat} (hT : T ≠ 5) (h : Wr T w g base form bs) (f : Bool) : Wr T (w.setCell ⟨g, 1, none⟩ (.bool f)) g base f bs ∧ Chg (MW T base) w (w.setCell ⟨g, 1, none⟩ (.bool f)) := by
  obtain ⟨hb, A, c, h3, h4⟩ := h
  have hc : Chg (fun b t => base ≤ b ∧ t = T) w (w.setCell ⟨g, 1, none⟩ (.bool f)) := (Chg.refl _ _).setCell _ _ fun o ho => by
    have : w.heap[g]? = some o := ho
    rw [show w.heap[g]? = _ from h3] at this
    injection this with this
    subst this
    exact ⟨hb, rfl⟩
  refine ⟨⟨hb, A, c, by simpa using h3.set_ 1 (.bool f), hc.own h4 fun k _ h => hT h.2.symm⟩, hc.mono fun b t _ h => ⟨h.1, .inl h.2⟩⟩

theorem int_end {T g base : Nat} {w w1 : World} {bs ys : List Nat} {form form' : Bool} {least n : Int} {e : Ending} {w' : World} (hc : Chg (MW T base) w w1) (hn : NumPost T g base form' bs ys w1 e w') (hy : ys.length ≤ 10)
    (hgood : least ≤ n → n ≤ 2147483647 → form' = form ∧ ys = encN (n - least).toNat) (hbad : ¬ (least ≤ n ∧ n ≤ 2147483647) → form' = true) : EmitE T g base form bs 10 (encI least n) w e w' := by
  obtain ⟨rfl, h1, h2⟩ := hn
  refine ⟨rfl, form', ys, h1, hy, ?_, ?_, hc.trans h2⟩
  · unfold encI
    by_cases h : least ≤ n ∧ n ≤ 2147483647
    · rw [if_pos h]
      exact hgood h.1 h.2
    · rw [if_neg h]
      exact hbad h
  · intro hf
    by_cases h : least ≤ n ∧ n ≤ 2147483647
    · exact (hgood h.1 h.2).1.trans hf
    · exact hbad h

set_option maxRecDepth 100000 in
theorem int_any (g base : Nat) (w : World) (bs : List Nat) (form : Bool) (n least : Int) (hl : -1 ≤ least ∧ least ≤ 0) (hn : I64 n) (hwr : Wr 82 w g base form bs) (hlen : bs.length ≤ 1099511627776) :
   Calls Try.prog 34 #[.pointer (some ⟨g, 0, none⟩), .int .i64 n, .int .i64 least] w (EmitE 82 g base form bs 10 (encI least n) w) := by
  have hwt := hwr.flag (by decide) true
  have hwf := hwr.flag (by decide) false
  obtain ⟨hbg, A, c, hb, how⟩ := hwr
  have c0 : w.cell? ⟨g, 0, none⟩ = some (.slice A bs.length c) := by simpa using hb.cell 0
  have c1 : w.cell? ⟨g, 1, none⟩ = some (.bool form) := by simpa using hb.cell 1
  have f1 := hb.frozen 1
  obtain ⟨hl1, hl2⟩ := hl
  clear hb how
  have HF := Lib.hid hwf
  have HT := Lib.hid hwt
  clear hwf hwt
  by_cases hgood : least ≤ n ∧ n ≤ 2147483647
  · obtain ⟨g1, g2⟩ := hgood
    have hz : U64 (n - least).toNat := by unfold U64; omega
    cases form
    · have d1 : decide (n < least) = false := by simpa using g1
      have d2 : decide (2147483647 < n) = false := by simpa using g2
      go_enter Try.func34, Try.ntmps34
      go_wp2_with fail
      refine (num_z g base _ bs false _ (by omega) hz HF.out.1 hlen).mono fun e w' h => ?_
      have hH := Lib.hid (int_end (form := false) (least := least) (n := n) HF.out.2 h (encN_u64 hz) (fun _ _ => ⟨rfl, rfl⟩) (fun h => absurd ⟨g1, g2⟩ h))
      obtain ⟨rfl, _, _⟩ := h
      go_wp2_with fail
      go_end0
      exact hH.out
    · go_enter Try.func34, Try.ntmps34
      go_wp2_with fail
      refine (num_z g base _ bs true _ (by omega) hz HT.out.1 hlen).mono fun e w' h => ?_
      have hH := Lib.hid (int_end (form := true) (least := least) (n := n) HT.out.2 h (encN_u64 hz) (fun _ _ => ⟨rfl, rfl⟩) (fun h => absurd ⟨g1, g2⟩ h))
      obtain ⟨rfl, _, _⟩ := h
      go_wp2_with fail
      go_end0
      exact hH.out
  · have Hbad := Lib.hid hgood
    clear hgood
    cases form
    · by_cases h1 : n < least
      all_goals
        have h2 : 2147483647 < n ∨ n < least := by have := Hbad.out; omega
        go_enter Try.func34, Try.ntmps34
        first | (have h3 : 2147483647 < n := by omega) | skip
        clear h2
        go_wp2_with fail
        refine (num_z g base _ bs true _ (u64_wrap _).1 (u64_wrap _).2 HT.out.1 hlen).mono fun e w' h => ?_
        have hH := Lib.hid (int_end (form := false) (least := least) (n := n) HT.out.2 h (encN_u64 (u64_wrap _).2) (fun a b => absurd ⟨a, b⟩ Hbad.out) (fun _ => rfl))
        obtain ⟨rfl, _, _⟩ := h
        go_wp2_with fail
        go_end0
        exact hH.out
    · go_enter Try.func34, Try.ntmps34
      go_wp2_with fail
      refine (num_z g base _ bs true _ (u64_wrap _).1 (u64_wrap _).2 HT.out.1 hlen).mono fun e w' h => ?_
      have hH := Lib.hid (int_end (form := true) (least := least) (n := n) HT.out.2 h (encN_u64 (u64_wrap _).2) (fun a b => absurd ⟨a, b⟩ Hbad.out) (fun _ => rfl))
      obtain ⟨rfl, _, _⟩ := h
      go_wp2_with fail
      go_end0
      exact hH.out
end Go.Proofs.Ytdegfnejhamejaa
namespace Go.Proofs.Ytdegfnejhamejaa
open Go.RowKit
set_option linter.unusedVariables false
set_option linter.unusedSimpArgs false

theorem letsM_MW {T base B : Nat} (hB : B ≤ base) : LetsM (MW T base) B := fun b t h1 h2 => by have := h2.1; omega

set_option maxRecDepth 100000 in
theorem ints_any (g base B : Nat) (w : World) (bs : List Nat) (form : Bool) (A : Option Addr) (n c : Nat) (l : List Int) (hB : B ≤ base) (hl : IntsR B w (.slice A n c) l) (hwr : Wr 82 w g base form bs) (hlen : bs.length + (10 + (l.map fun _ => 10).sum) ≤ 1099511627776) (hn : n ≤ 1099511627776) :
   Calls Try.prog 35 #[.pointer (some ⟨g, 0, none⟩), .slice A n c] w (EmitE 82 g base form bs (10 + (l.map fun _ => 10).sum) (encL (encI 0) l) w) := by
  have hlenl := hl.len.1
  have Hn := Lib.hid hlenl
  clear hlenl
  go_enter Try.func35, Try.ntmps35
  go_wp2_with fail
  refine (int_any g base _ bs form _ _ (by omega) (by unfold I64; omega) hwr (by omega)).mono fun e w1 h1 => ?_
  obtain ⟨rfl, h1⟩ := h1
  rw [Hn.out] at h1
  have H1 := Lib.hid h1
  clear h1
  go_wp2_with fail
  go_loopw [12] (fun i wr => EmitRel 82 g base form w bs 10 (fun _ => 10) (encI 0 l.length) (encI 0) l i wr) (fun i _ => n - (intOf i).toNat)
  case atStart => exact EmitRel.start H1.out
  case round =>
    clear H1
    obtain ⟨k, hk, rfl, form', ys, hx⟩ := hrel
    have Hx := Lib.hid hx
    by_cases hlt : k < n
    · obtain ⟨b, o, x, rfl, hkx, hi, hcell⟩ := (hl.keep hx.chg (letsM_MW hB)).at_ (k := k) (by have := Hn.out; omega)
      have hsum := sum_take (fun _ : Int => 10) l k
      have hll := hx.length
      have Hkx := Lib.hid hkx
      clear hx hkx hk
      go_wp2_with fail
      refine (int_any g base _ (bs ++ ys) form' x 0 (by omega) hi Hx.out.wr (by omega)).mono fun e w2 h2 => ?_
      obtain ⟨rfl, h2⟩ := h2
      have H2 := Lib.hid h2
      clear h2
      go_wp2_with fail
      go_roundw
      case rel => exact Hx.out.step Hkx.out H2.out
      case measure => simp [intOf]; omega
    · clear hx
      go_wp2_with fail
      go_end0
      have h3 : l.take k = l := List.take_of_length_le (by have := Hn.out; omega)
      have h4 := Hx.out
      rw [h3] at h4
      exact ⟨rfl, form', ys, h4⟩

theorem NumPost.emit {T g base : Nat} {form : Bool} {bs ys : List Nat} {w w' : World} {e : Ending} {most : Nat} (h : NumPost T g base form bs ys w e w') (hm : ys.length ≤ most) : EmitE T g base form bs most (some ys) w e w' :=
  ⟨h.1, form, ys, h.2.1, hm, ⟨rfl, rfl⟩, id, h.2.2⟩

set_option maxRecDepth 100000 in
theorem flag_any (g base : Nat) (w : World) (bs : List Nat) (form b : Bool) (hwr : Wr 82 w g base form bs) (hlen : bs.length ≤ 1099511627776) :
   Calls Try.prog 59 #[.pointer (some ⟨g, 0, none⟩), .bool b] w (EmitE 82 g base form bs 10 (encFlag b) w) := by
  cases b
  · go_enter Try.func59, Try.ntmps59
    go_wp2_with fail
    refine (num_z g base _ bs form _ (by omega) (by unfold U64; omega) hwr hlen).mono fun e w' h => ?_
    have hH := Lib.hid (h.emit (most := 10) (encN_u64 (by unfold U64; omega)))
    obtain ⟨rfl, _, _⟩ := h
    go_wp2_with fail
    go_end0
    have := hH.out
    rw [encN_lt (by omega)] at this
    exact this
  · go_enter Try.func59, Try.ntmps59
    go_wp2_with fail
    refine (num_z g base _ bs form _ (by omega) (by unfold U64; omega) hwr hlen).mono fun e w' h => ?_
    have hH := Lib.hid (h.emit (most := 10) (encN_u64 (by unfold U64; omega)))
    obtain ⟨rfl, _, _⟩ := h
    go_wp2_with fail
    go_end0
    have := hH.out
    rw [encN_lt (by omega)] at this
    exact this

def cCase (_ : CaseD) : Nat := 40
def cInstr (x : InstrD) : Nat := 50 + (x.cases.map cCase).sum

theorem chg_alloc (w : World) (o : Obj) : Chg (fun _ _ => False) w (w.alloc o) := (Chg.refl _ w).alloc o

theorem Blk.cells4 {w : World} {g t : Nat} {a b c d : Value} (h : Blk w g t #[a, b, c, d]) : w.cell? ⟨g, 0, none⟩ = some a ∧ w.cell? ⟨g, 1, none⟩ = some b ∧ w.cell? ⟨g, 2, none⟩ = some c ∧ w.cell? ⟨g, 3, none⟩ = some d :=
  ⟨by simpa using h.cell 0, by simpa using h.cell 1, by simpa using h.cell 2, by simpa using h.cell 3⟩
theorem Blk.cells5 {w : World} {g t : Nat} {a b c d e : Value} (h : Blk w g t #[a, b, c, d, e]) :
    w.cell? ⟨g, 0, none⟩ = some a ∧ w.cell? ⟨g, 1, none⟩ = some b ∧ w.cell? ⟨g, 2, none⟩ = some c ∧ w.cell? ⟨g, 3, none⟩ = some d ∧ w.cell? ⟨g, 4, none⟩ = some e :=
  ⟨by simpa using h.cell 0, by simpa using h.cell 1, by simpa using h.cell 2, by simpa using h.cell 3, by simpa using h.cell 4⟩
theorem Blk.cells3 {w : World} {g t : Nat} {a b c : Value} (h : Blk w g t #[a, b, c]) : w.cell? ⟨g, 0, none⟩ = some a ∧ w.cell? ⟨g, 1, none⟩ = some b ∧ w.cell? ⟨g, 2, none⟩ = some c :=
  ⟨by simpa using h.cell 0, by simpa using h.cell 1, by simpa using h.cell 2⟩
theorem Blk.cells2 {w : World} {g t : Nat} {a b : Value} (h : Blk w g t #[a, b]) : w.cell? ⟨g, 0, none⟩ = some a ∧ w.cell? ⟨g, 1, none⟩ = some b :=
  ⟨by simpa using h.cell 0, by simpa using h.cell 1⟩

set_option maxRecDepth 100000 in
theorem instr_any (g base B : Nat) (w : World) (bs : List Nat) (form : Bool) (x : InstrD) (A : Option Addr) (c : Nat) (hB : B ≤ base) (hi1 : I64 x.op) (hi2 : I64 x.a) (hi3 : I64 x.b) (hi4 : U64 x.n) (hl : CasesR B w (.slice A x.cases.length c) x.cases)
   (hwr : Wr 82 w g base form bs) (hlen : bs.length + cInstr x ≤ 1099511627776) :
   Calls Try.prog 36 #[.pointer (some ⟨g, 0, none⟩), .agg #[.int .i64 x.op, .int .i64 x.a, .int .i64 x.b, .int .u64 x.n, .slice A x.cases.length c]] w (EmitE 82 g base form bs (cInstr x) (encInstr x) w) := by
  obtain ⟨op, a, b, n, cases⟩ := x
  simp only at hi1 hi2 hi3 hi4 hl ⊢
  unfold cInstr at hlen ⊢
  simp only at hlen ⊢
  have hnl : cases.length ≤ 1099511627776 := by
    have : cases.length ≤ (cases.map cCase).sum := by
      clear hlen hl
      induction cases with
      | nil => simp
      | cons y ys ih => simp [cCase] at ih ⊢; omega
    omega
  have hb := Blk.new w 50 #[.int .i64 op, .int .i64 a, .int .i64 b, .int .u64 n, .slice A cases.length c]
  have hc0 := chg_alloc w (.cells #[.int .i64 op, .int .i64 a, .int .i64 b, .int .u64 n, .slice A cases.length c] 50)
  have hx0 := (EmitX.refl hwr).old hc0
  have hlw := hl
  replace hl := hl.keep hc0 (fun _ _ _ => id)
  clear hwr hc0
  have Hm := Lib.hid (letsM_MW (T := 82) hB)
  go_enter Try.func36, Try.ntmps36
  go_wp2_with fail
  refine (int_any g base _ _ _ op 0 (by omega) hi1 hx0.wr (by have := hx0.length; omega)).mono fun e w1 h => ?_
  obtain ⟨rfl, h⟩ := h
  obtain ⟨f1, y1, hx1⟩ := hx0.then h
  obtain ⟨_, _, hch⟩ := h
  replace hch := hch.chg
  replace hb := hch.blk hb (by rintro ⟨_, h | h⟩ <;> exact absurd h (by decide))
  obtain ⟨c0, c1, c2, c3, c4⟩ := hb.cells5
  replace hl := hl.keep hch Hm.out
  clear hch hx0
  go_wp2_with fail
  refine (int_any g base _ _ _ a (-1) (by omega) hi2 hx1.wr (by have := hx1.length; omega)).mono fun e w2 h => ?_
  obtain ⟨rfl, h⟩ := h
  obtain ⟨f2, y2, hx2⟩ := hx1.then h
  obtain ⟨_, _, hch⟩ := h
  replace hch := hch.chg
  clear c0 c1 c2 c3 c4
  replace hb := hch.blk hb (by rintro ⟨_, h | h⟩ <;> exact absurd h (by decide))
  obtain ⟨c0, c1, c2, c3, c4⟩ := hb.cells5
  replace hl := hl.keep hch Hm.out
  clear hch hx1
  go_wp2_with fail
  refine (int_any g base _ _ _ b (-1) (by omega) hi3 hx2.wr (by have := hx2.length; omega)).mono fun e w3 h => ?_
  obtain ⟨rfl, h⟩ := h
  obtain ⟨f3, y3, hx3⟩ := hx2.then h
  obtain ⟨_, _, hch⟩ := h
  replace hch := hch.chg
  clear c0 c1 c2 c3 c4
  replace hb := hch.blk hb (by rintro ⟨_, h | h⟩ <;> exact absurd h (by decide))
  obtain ⟨c0, c1, c2, c3, c4⟩ := hb.cells5
  replace hl := hl.keep hch Hm.out
  clear hch hx2
  go_wp2_with fail
  refine (num_any g base _ _ _ n hi4 hx3.wr (by have := hx3.length; omega)).mono fun e w4 h => ?_
  replace h := h.emit (most := 10) (encN_u64 hi4)
  obtain ⟨rfl, h⟩ := h
  obtain ⟨f4, y4, hx4⟩ := hx3.then h
  obtain ⟨_, _, hch⟩ := h
  replace hch := hch.chg
  clear c0 c1 c2 c3 c4
  replace hb := hch.blk hb (by rintro ⟨_, h | h⟩ <;> exact absurd h (by decide))
  obtain ⟨c0, c1, c2, c3, c4⟩ := hb.cells5
  replace hl := hl.keep hch Hm.out
  clear hch hx3
  go_wp2_with fail
  refine (int_any g base _ _ _ _ 0 (by omega) (by unfold I64; omega) hx4.wr (by have := hx4.length; omega)).mono fun e w5 h => ?_
  obtain ⟨rfl, h⟩ := h
  obtain ⟨f5, y5, hx5⟩ := hx4.then h
  obtain ⟨_, _, hch⟩ := h
  replace hch := hch.chg
  clear c0 c1 c2 c3 c4
  replace hb := hch.blk hb (by rintro ⟨_, h | h⟩ <;> exact absurd h (by decide))
  obtain ⟨c0, c1, c2, c3, c4⟩ := hb.cells5
  replace hl := hl.keep hch Hm.out
  clear hch hx4
  clear hb hi1 hi2 hi3 hi4 c0 c1 c2 c3
  have Hx5 := Lib.hid hx5
  clear hx5
  go_wp2_with fail
  go_loopw [30] (fun i wr => EmitRel 82 g base form w bs (0 + 10 + 10 + 10 + 10 + 10) cCase (seqO (seqO (seqO (seqO (seqO (some []) (encI 0 op)) (encI (-1) a)) (encI (-1) b)) (some (encN n))) (encI 0 cases.length)) encCase cases i wr) (fun i _ => cases.length - (intOf i).toNat)
  case atStart => exact EmitRel.start ⟨_, _, Hx5.out⟩
  case round =>
    clear Hx5 hl
    obtain ⟨k, hk, rfl, f0, y0, hx⟩ := hrel
    by_cases hlt : k < cases.length
    · obtain ⟨bb, o, x, rfl, hkx, hj1, hj2, hj3, d0, d1, d2, d3⟩ := (hlw.keep hx.chg Hm.out).at_ hlt
      have hsum := sum_at cCase hkx
      rw [show cCase x = 40 from rfl] at hsum
      have Hkx := Lib.hid hkx
      have Hx := Lib.hid hx
      have hb := Blk.new wr 52 #[.bool x.send, .int .i64 x.chan, .int .i64 x.val, .int .i64 x.to]
      have hc0 := chg_alloc wr (.cells #[.bool x.send, .int .i64 x.chan, .int .i64 x.val, .int .i64 x.to] 52)
      have hxl := hx.length
      have hx0 := (EmitX.refl hx.wr).old hc0
      clear hkx hk hx hc0
      go_wp2_with fail
      refine (flag_any g base _ _ _ x.send hx0.wr (by have := hx0.length; omega)).mono fun e w1 h => ?_
      obtain ⟨rfl, h⟩ := h
      obtain ⟨f1, y1, hx1⟩ := hx0.then h
      obtain ⟨_, _, hch⟩ := h
      replace hch := hch.chg
      replace hb := hch.blk hb (by rintro ⟨_, h | h⟩ <;> exact absurd h (by decide))
      obtain ⟨c0, c1, c2, c3⟩ := hb.cells4
      clear hch hx0
      go_wp2_with fail
      refine (int_any g base _ _ _ x.chan 0 (by omega) hj1 hx1.wr (by have := hx1.length; omega)).mono fun e w2 h => ?_
      obtain ⟨rfl, h⟩ := h
      obtain ⟨f2, y2, hx2⟩ := hx1.then h
      obtain ⟨_, _, hch⟩ := h
      replace hch := hch.chg
      clear c0 c1 c2 c3
      replace hb := hch.blk hb (by rintro ⟨_, h | h⟩ <;> exact absurd h (by decide))
      obtain ⟨c0, c1, c2, c3⟩ := hb.cells4
      clear hch hx1
      go_wp2_with fail
      refine (int_any g base _ _ _ x.val (-1) (by omega) hj2 hx2.wr (by have := hx2.length; omega)).mono fun e w3 h => ?_
      obtain ⟨rfl, h⟩ := h
      obtain ⟨f3, y3, hx3⟩ := hx2.then h
      obtain ⟨_, _, hch⟩ := h
      replace hch := hch.chg
      clear c0 c1 c2 c3
      replace hb := hch.blk hb (by rintro ⟨_, h | h⟩ <;> exact absurd h (by decide))
      obtain ⟨c0, c1, c2, c3⟩ := hb.cells4
      clear hch hx2
      go_wp2_with fail
      refine (int_any g base _ _ _ x.to 0 (by omega) hj3 hx3.wr (by have := hx3.length; omega)).mono fun e w4 h => ?_
      obtain ⟨rfl, h⟩ := h
      obtain ⟨f4, y4, hx4⟩ := hx3.then h
      obtain ⟨_, _, hch⟩ := h
      replace hch := hch.chg
      clear c0 c1 c2 c3
      replace hb := hch.blk hb (by rintro ⟨_, h | h⟩ <;> exact absurd h (by decide))
      obtain ⟨c0, c1, c2, c3⟩ := hb.cells4
      clear hch hx3
      clear c0 c1 c2 c3 hb
      have Hx4 := Lib.hid hx4
      clear hx4
      go_wp2_with fail
      go_roundw
      case rel => exact Hx.out.step Hkx.out (Emit.mono ⟨_, _, Hx4.out⟩ (by unfold cCase; omega) (by simp [encCase, seqO_assoc, seqO_nil_l]))
      case measure => simp [intOf]; omega
    · have Hx := Lib.hid hx
      clear hx
      go_wp2_with fail
      go_end0
      have h3 : cases.take k = cases := List.take_of_length_le (by omega)
      have h4 := Hx.out
      rw [h3] at h4
      exact ⟨rfl, f0, y0, h4.mono (by omega) (by simp [encInstr, encL, seqO_assoc, seqO_nil_l])⟩
end Go.Proofs.Ytdegfnejhamejaa
namespace Go.Proofs.Ytdegfnejhamejaa
open Go.RowKit
set_option linter.unusedVariables false
set_option linter.unusedSimpArgs false

def cInts (l : List Int) : Nat := 10 + (l.map fun _ => 10).sum
def cShape (s : ShapeD) : Nat := 20 + cInts s.list
def cFunc (f : FuncD) : Nat := 30 + cInts f.locals + cInts f.caps + (f.code.map cInstr).sum
def cMod (m : ModD) : Nat := 20 + (m.types.map cShape).sum + (m.funcs.map cFunc).sum
theorem len_le_sum {α : Type} (c : α → Nat) (h : ∀ x, 1 ≤ c x) : ∀ l : List α, l.length ≤ (l.map c).sum
  | [] => by simp
  | x :: l => by have := len_le_sum c h l; have := h x; simp only [List.length_cons, List.map_cons, List.sum_cons]; omega

/-- What Encode answers. -/
def encAns (m : ModD) : Int × List Nat := match encMod m with
  | none => (1, [])
  | some l => if 1048576 < l.length then (6, []) else (0, l)
def EncRes (m : ModD) (w : World) (e : Ending) (w' : World) : Prop :=
  ∃ A n c, e = .returned (.tuple #[.slice A n c, .int .i64 (encAns m).1]) ∧ Below w.heap.size w w' ∧ w'.ownsRow w.heap.size 5 1 (.slice A n c) n (u8s (encAns m).2) ∧ (encAns m).2.length = n

theorem enc_end {T : Nat} {m : ModD} {w w0 w' : World} {e : Ending} {g : Nat} {bs ys : List Nat} {form' : Bool} {most : Nat} (hw : Below w.heap.size w w0) (hx : EmitX T g w.heap.size false [] form' ys most (encMod m) w0 w')
   (he : (form' = true → e = .returned (.tuple #[.slice none 0 0, .int .i64 1])) ∧ (form' = false → 1048576 < ys.length → e = .returned (.tuple #[.slice none 0 0, .int .i64 6])) ∧
     (form' = false → ¬ 1048576 < ys.length → ∀ A c, w'.cell? ⟨g, 0, none⟩ = some (.slice A ys.length c) → e = .returned (.tuple #[.slice A ys.length c, .int .i64 0]))) : EncRes m w e w' := by
  have hb : Below w.heap.size w w' := hw.trans (hx.chg.below (fun b t h => h.1) hw.size)
  obtain ⟨hg, A, c, h1, h2⟩ := hx.wr
  simp only [List.nil_append] at h1 h2
  have c0 : w'.cell? ⟨g, 0, none⟩ = some (.slice A ys.length c) := by simpa using h1.cell 0
  have hwant := hx.want
  unfold EncRes encAns
  cases hm : encMod m with
  | none =>
    rw [hm] at hwant
    exact ⟨none, 0, 0, he.1 hwant, hb, World.ownsRow_nil _ _ _ _, rfl⟩
  | some l =>
    rw [hm] at hwant
    obtain ⟨rfl, rfl⟩ := hwant
    by_cases hl : 1048576 < ys.length
    · simp only [hl, if_true]
      exact ⟨none, 0, 0, he.2.1 rfl hl, hb, World.ownsRow_nil _ _ _ _, rfl⟩
    · simp only [hl, if_false]
      exact ⟨A, ys.length, c, he.2.2 rfl hl A c c0, hb, h2, rfl⟩

set_option maxRecDepth 100000 in
set_option maxHeartbeats 1000000 in
theorem encode_any (w : World) (B : Nat) (v : Value) (m : ModD) (hBw : B ≤ w.heap.size) (hm : ModR B w v m) (hlen : cMod m ≤ 1099511627776) :
   Calls Try.prog 17 #[v] w (EncRes m w) := by
  obtain ⟨types, funcs⟩ := m
  obtain ⟨A, c, A', c', rfl, hT, hF⟩ := hm
  simp only at hT hF ⊢
  unfold cMod at hlen
  simp only at hlen
  have hnT := len_le_sum cShape (fun _ => by unfold cShape cInts; omega) types
  have hnF := len_le_sum cFunc (fun _ => by unfold cFunc cInts; omega) funcs
  have hw00 := chg_alloc w (.cells #[.slice A types.length c, .slice A' funcs.length c'] 25)
  have hw0 := hw00.alloc (.cells #[.slice none 0 0, .bool false] 82)
  have hbel : Below w.heap.size w ((w.alloc (.cells #[.slice A types.length c, .slice A' funcs.length c'] 25)).alloc (.cells #[.slice none 0 0, .bool false] 82)) := hw0.below (fun _ _ h => h.elim) (Nat.le_refl _)
  have hb := (Blk.new w 25 #[.slice A types.length c, .slice A' funcs.length c']).alloc (.cells #[.slice none 0 0, .bool false] 82)
  obtain ⟨bs0, hbs, hbl⟩ : ∃ l : List Nat, l = [] ∧ l.length ≤ 0 := ⟨[], rfl, by simp⟩
  have hwr : Wr 82 ((w.alloc (.cells #[.slice A types.length c, .slice A' funcs.length c'] 25)).alloc (.cells #[.slice none 0 0, .bool false] 82)) (w.heap.size + 1) w.heap.size false bs0 := by
    rw [hbs]
    have h := Blk.new (w.alloc (.cells #[.slice A types.length c, .slice A' funcs.length c'] 25)) 82 #[.slice none 0 0, .bool false]
    exact ⟨by omega, none, 0, by simpa using h, World.ownsRow_nil _ _ _ _⟩
  replace hT := hT.keep hw0 (fun _ _ _ => id)
  replace hF := hF.keep hw0 (fun _ _ _ => id)
  have hx0 := EmitX.refl hwr
  have Hbs := Lib.hid hbs
  clear hbs
  have Hm := Lib.hid (letsM_MW (T := 82) hBw)
  have hB := hBw
  go_enter Try.func17, Try.ntmps17
  go_wp2_with fail
  clear hw00 hw0 hwr
  generalize hw0e : (w.alloc (.cells #[.slice A types.length c, .slice A' funcs.length c'] 25)).alloc (.cells #[.slice none 0 0, .bool false] 82) = w0 at hb hT hF hx0 hbel ⊢
  generalize hg : w.heap.size + 1 = g at hx0 ⊢
  generalize hbase : w.heap.size = base at hb hx0 Hm hB hbel ⊢
  obtain ⟨c0, c1⟩ := hb.cells2
  have Hbel := Lib.hid hbel
  have HW := Lib.hid hbase
  clear hbel hbase hg hw0e
  refine (int_any g base _ _ _ _ 0 (by omega) (by unfold I64; omega) hx0.wr (by have := hx0.length; omega)).mono fun e w1 h => ?_
  obtain ⟨rfl, h⟩ := h
  obtain ⟨f1, y1, hx1⟩ := hx0.then h
  obtain ⟨_, _, hch⟩ := h
  replace hch := hch.chg
  have hb1 := hch.blk hb (by rintro ⟨_, h | h⟩ <;> exact absurd h (by decide))
  clear c0 c1
  obtain ⟨c0, c1⟩ := hb1.cells2
  clear hch hx0
  clear hb1
  have Hx1 := Lib.hid hx1
  clear hx1
  go_wp2_with fail
  go_loopw [21] (fun i wr => EmitRel 82 g base false w0 bs0 (0 + 10) cShape (seqO (some []) (encI 0 types.length)) encShape types i wr) (fun i _ => types.length - (intOf i).toNat)
  case atStart => exact EmitRel.start ⟨_, _, Hx1.out⟩
  case round =>
    clear Hx1 c0 c1
    obtain ⟨k, hk, rfl, f0, y0, hx⟩ := hrel
    have hxl := hx.length
    by_cases hlt : k < types.length
    · obtain ⟨bb, o, x, A2, c2, rfl, hkx, hj1, hj2, hl2, d0, d1, d2⟩ := (hT.keep hx.chg Hm.out).at_ hlt
      have hsum := sum_at cShape hkx
      unfold cShape at hsum
      rw [show (List.map (fun s : ShapeD => 20 + cInts s.list) types) = types.map cShape from rfl, show (List.map (fun s : ShapeD => 20 + cInts s.list) (types.take k)) = (types.take k).map cShape from rfl] at hsum
      unfold cInts at hsum
      have hnl : x.list.length ≤ 1099511627776 := by have := len_le_sum (fun _ : Int => 10) (fun _ => by omega) x.list; omega
      have Hkx := Lib.hid hkx
      have Hx := Lib.hid hx
      have hbx := Blk.new wr 37 #[.int .i64 x.kind, .slice A2 x.list.length c2, .int .i64 x.res]
      have hc0 := chg_alloc wr (.cells #[.int .i64 x.kind, .slice A2 x.list.length c2, .int .i64 x.res] 37)
      have hx0 := (EmitX.refl hx.wr).old hc0
      replace hl2 := hl2.keep hc0 (fun _ _ _ => id)
      clear hkx hk hx hc0 hT hF hb
      go_wp2_with fail
      refine (int_any g base _ _ _ x.kind 0 (by omega) hj1 hx0.wr (by have := hx0.length; omega)).mono fun e w1 h => ?_
      obtain ⟨rfl, h⟩ := h
      obtain ⟨f1, y1, hx1⟩ := hx0.then h
      obtain ⟨_, _, hch⟩ := h
      replace hch := hch.chg
      replace hbx := hch.blk hbx (by rintro ⟨_, h | h⟩ <;> exact absurd h (by decide))
      obtain ⟨e0, e1, e2⟩ := hbx.cells3
      replace hl2 := hl2.keep hch Hm.out
      clear hch hx0
      go_wp2_with fail
      refine (ints_any g base B _ _ _ _ _ _ _ hB hl2 hx1.wr (by have := hx1.length; omega) (by omega)).mono fun e w2 h => ?_
      obtain ⟨rfl, h⟩ := h
      obtain ⟨f2, y2, hx2⟩ := hx1.then h
      obtain ⟨_, _, hch⟩ := h
      replace hch := hch.chg
      clear e0 e1 e2
      replace hbx := hch.blk hbx (by rintro ⟨_, h | h⟩ <;> exact absurd h (by decide))
      obtain ⟨e0, e1, e2⟩ := hbx.cells3
      replace hl2 := hl2.keep hch Hm.out
      clear hch hx1
      go_wp2_with fail
      refine (int_any g base _ _ _ x.res 0 (by omega) hj2 hx2.wr (by have := hx2.length; omega)).mono fun e w3 h => ?_
      obtain ⟨rfl, h⟩ := h
      obtain ⟨f3, y3, hx3⟩ := hx2.then h
      obtain ⟨_, _, hch⟩ := h
      replace hch := hch.chg
      clear e0 e1 e2
      replace hbx := hch.blk hbx (by rintro ⟨_, h | h⟩ <;> exact absurd h (by decide))
      obtain ⟨e0, e1, e2⟩ := hbx.cells3
      replace hl2 := hl2.keep hch Hm.out
      clear hch hx2
      clear e0 e1 e2 hbx hl2
      have Hx3 := Lib.hid hx3
      clear hx3
      go_wp2_with fail
      go_roundw
      case rel => exact Hx.out.step Hkx.out (Emit.mono ⟨_, _, Hx3.out⟩ (by unfold cShape cInts; omega) (by simp [encShape, seqO_assoc, seqO_nil_l]))
      case measure => simp [intOf]; omega
    · have h3 : types.take k = types := List.take_of_length_le (by omega)
      rw [h3] at hx hxl
      clear hT
      replace hb := hx.chg.blk hb (by rintro ⟨_, h | h⟩ <;> exact absurd h (by decide))
      obtain ⟨c0, c1⟩ := hb.cells2
      obtain ⟨hx1, hq⟩ : (EmitX 82 g base false bs0 f0 y0 (0 + 10 + (types.map cShape).sum) (seqO (seqO (some []) (encI 0 types.length)) (allO encShape types)) w0 wr) ∧ True := ⟨hx, trivial⟩
      clear hx hq hk h3
      go_wp2_with fail
      refine (int_any g base _ _ _ _ 0 (by omega) (by unfold I64; omega) hx1.wr (by have := hx1.length; omega)).mono fun e w2 h => ?_
      obtain ⟨rfl, h⟩ := h
      obtain ⟨f2, y2, hx2⟩ := hx1.then h
      obtain ⟨_, _, hch⟩ := h
      replace hch := hch.chg
      replace hb := hch.blk hb (by rintro ⟨_, h | h⟩ <;> exact absurd h (by decide))
      clear c0 c1
      obtain ⟨c0, c1⟩ := hb.cells2
      clear hch hx1
      clear hb
      have Hx2 := Lib.hid hx2
      clear hx2
      go_wp2_with fail
      go_loopw [46] (fun i wr => EmitRel 82 g base false w0 bs0 (0 + 10 + (types.map cShape).sum + 10) cFunc (seqO (seqO (seqO (some []) (encI 0 types.length)) (allO encShape types)) (encI 0 funcs.length)) encFunc funcs i wr) (fun i _ => funcs.length - (intOf i).toNat)
      case atStart => exact EmitRel.start ⟨_, _, Hx2.out⟩
      case round =>
        clear Hx2 c0 c1
        obtain ⟨k, hk, rfl, f0, y0, hx⟩ := hrel
        have hxl := hx.length
        by_cases hlt : k < funcs.length
        · obtain ⟨bb, o, x, A1, c1, A2, c2, A3, c3, rfl, hkx, hj1, hj2, hl1, hl2, hl3, d0, d1, d2, d3, d4⟩ := (hF.keep hx.chg Hm.out).at_ hlt
          have hsum := sum_at cFunc hkx
          have hcx : cFunc x = 30 + (10 + (x.locals.map fun _ => 10).sum) + (10 + (x.caps.map fun _ => 10).sum) + (x.code.map cInstr).sum := rfl
          rw [hcx] at hsum
          have hn1 : x.locals.length ≤ 1099511627776 := by have := len_le_sum (fun _ : Int => 10) (fun _ => by omega) x.locals; omega
          have hn2 : x.caps.length ≤ 1099511627776 := by have := len_le_sum (fun _ : Int => 10) (fun _ => by omega) x.caps; omega
          have hn3 : x.code.length ≤ 1099511627776 := by have := len_le_sum cInstr (fun _ => by unfold cInstr; omega) x.code; omega
          have Hkx := Lib.hid hkx
          have Hx := Lib.hid hx
          have Hcx := Lib.hid hcx
          have hbx := Blk.new wr 34 #[.int .i64 x.params, .slice A1 x.locals.length c1, .slice A2 x.caps.length c2, .int .i64 x.res, .slice A3 x.code.length c3]
          have hc0 := chg_alloc wr (.cells #[.int .i64 x.params, .slice A1 x.locals.length c1, .slice A2 x.caps.length c2, .int .i64 x.res, .slice A3 x.code.length c3] 34)
          have hx0 := (EmitX.refl hx.wr).old hc0
          have hl3w := hl3
          replace hl1 := hl1.keep hc0 (fun _ _ _ => id)
          replace hl2 := hl2.keep hc0 (fun _ _ _ => id)
          replace hl3 := hl3.keep hc0 (fun _ _ _ => id)
          clear hkx hk hx hc0 hF hcx
          obtain ⟨wo, rfl⟩ : ∃ wo : World, wo = wr := ⟨_, rfl⟩
          go_wp2_with fail
          refine (int_any g base _ _ _ x.params 0 (by omega) hj1 hx0.wr (by have := hx0.length; omega)).mono fun e w1 h => ?_
          obtain ⟨rfl, h⟩ := h
          obtain ⟨f1, y1, hx1⟩ := hx0.then h
          obtain ⟨_, _, hch⟩ := h
          replace hch := hch.chg
          replace hbx := hch.blk hbx (by rintro ⟨_, h | h⟩ <;> exact absurd h (by decide))
          obtain ⟨e0, e1, e2, e3, e4⟩ := hbx.cells5
          replace hl1 := hl1.keep hch Hm.out
          replace hl2 := hl2.keep hch Hm.out
          replace hl3 := hl3.keep hch Hm.out
          clear hch hx0
          go_wp2_with fail
          refine (ints_any g base B _ _ _ _ _ _ _ hB hl1 hx1.wr (by have := hx1.length; omega) (by omega)).mono fun e w2 h => ?_
          obtain ⟨rfl, h⟩ := h
          obtain ⟨f2, y2, hx2⟩ := hx1.then h
          obtain ⟨_, _, hch⟩ := h
          replace hch := hch.chg
          clear e0 e1 e2 e3 e4
          replace hbx := hch.blk hbx (by rintro ⟨_, h | h⟩ <;> exact absurd h (by decide))
          obtain ⟨e0, e1, e2, e3, e4⟩ := hbx.cells5
          replace hl1 := hl1.keep hch Hm.out
          replace hl2 := hl2.keep hch Hm.out
          replace hl3 := hl3.keep hch Hm.out
          clear hch hx1
          go_wp2_with fail
          refine (ints_any g base B _ _ _ _ _ _ _ hB hl2 hx2.wr (by have := hx2.length; omega) (by omega)).mono fun e w3 h => ?_
          obtain ⟨rfl, h⟩ := h
          obtain ⟨f3, y3, hx3⟩ := hx2.then h
          obtain ⟨_, _, hch⟩ := h
          replace hch := hch.chg
          clear e0 e1 e2 e3 e4
          replace hbx := hch.blk hbx (by rintro ⟨_, h | h⟩ <;> exact absurd h (by decide))
          obtain ⟨e0, e1, e2, e3, e4⟩ := hbx.cells5
          replace hl1 := hl1.keep hch Hm.out
          replace hl2 := hl2.keep hch Hm.out
          replace hl3 := hl3.keep hch Hm.out
          clear hch hx2
          go_wp2_with fail
          refine (int_any g base _ _ _ x.res 0 (by omega) hj2 hx3.wr (by have := hx3.length; omega)).mono fun e w4 h => ?_
          obtain ⟨rfl, h⟩ := h
          obtain ⟨f4, y4, hx4⟩ := hx3.then h
          obtain ⟨_, _, hch⟩ := h
          replace hch := hch.chg
          clear e0 e1 e2 e3 e4
          replace hbx := hch.blk hbx (by rintro ⟨_, h | h⟩ <;> exact absurd h (by decide))
          obtain ⟨e0, e1, e2, e3, e4⟩ := hbx.cells5
          replace hl1 := hl1.keep hch Hm.out
          replace hl2 := hl2.keep hch Hm.out
          replace hl3 := hl3.keep hch Hm.out
          clear hch hx3
          go_wp2_with fail
          refine (int_any g base _ _ _ _ 0 (by omega) (by unfold I64; omega) hx4.wr (by have := hx4.length; omega)).mono fun e w5 h => ?_
          obtain ⟨rfl, h⟩ := h
          obtain ⟨f5, y5, hx5⟩ := hx4.then h
          obtain ⟨_, _, hch⟩ := h
          replace hch := hch.chg
          clear e0 e1 e2 e3 e4
          replace hbx := hch.blk hbx (by rintro ⟨_, h | h⟩ <;> exact absurd h (by decide))
          obtain ⟨e0, e1, e2, e3, e4⟩ := hbx.cells5
          replace hl1 := hl1.keep hch Hm.out
          replace hl2 := hl2.keep hch Hm.out
          replace hl3 := hl3.keep hch Hm.out
          clear hch hx4
          have Hx5 := Lib.hid hx5
          clear hx5 e0 e1 e2 e3 hbx hl1 hl2 hl3 hj1 hj2
          go_wp2_with fail
          go_loopw [74] (fun i wr => EmitRel 82 g base f0 wo (bs0 ++ y0) (0 + 10 + (10 + (x.locals.map fun _ => 10).sum) + (10 + (x.caps.map fun _ => 10).sum) + 10 + 10) cInstr (seqO (seqO (seqO (seqO (seqO (some []) (encI 0 x.params)) (encL (encI 0) x.locals)) (encL (encI 0) x.caps)) (encI 0 x.res)) (encI 0 x.code.length)) encInstr x.code i wr) (fun i _ => x.code.length - (intOf i).toNat)
          case atStart => exact EmitRel.start ⟨_, _, Hx5.out⟩
          case round =>
            clear Hx5 e4
            obtain ⟨q, hq, rfl, f6, y6, hx6⟩ := hrel
            have hxl6 := hx6.length
            by_cases hltq : q < x.code.length
            · obtain ⟨bb, o, z, A4, c4, rfl, hqz, hz1, hz2, hz3, hz4, hz5, z0, z1, z2, z3, z4⟩ := (hl3w.keep hx6.chg Hm.out).at_ hltq
              have hsumz := sum_at cInstr hqz
              have hb0 := Blk.new wr 50 #[.int .i64 z.op, .int .i64 z.a, .int .i64 z.b, .int .u64 z.n, .slice A4 z.cases.length c4]
              obtain ⟨e0, e1, e2, e3, e4⟩ := hb0.cells5
              have hc0 := chg_alloc wr (.cells #[.int .i64 z.op, .int .i64 z.a, .int .i64 z.b, .int .u64 z.n, .slice A4 z.cases.length c4] 50)
              have hx0 := (EmitX.refl hx6.wr).old hc0
              replace hz5 := hz5.keep hc0 (fun _ _ _ => id)
              have Hqz := Lib.hid hqz
              have Hx6 := Lib.hid hx6
              clear hqz hx6 hq hc0 hb0 hl3w
              go_wp2_with fail
              refine (instr_any g base B _ _ _ z _ _ hB hz1 hz2 hz3 hz4 hz5 hx0.wr (by have := hx0.length; omega)).mono fun e w7 h => ?_
              obtain ⟨rfl, h⟩ := h
              obtain ⟨f7, y7, hx7⟩ := hx0.then h
              have Hx7 := Lib.hid hx7
              clear h hx7 hx0 hz1 hz2 hz3 hz4 hz5
              go_wp2_with fail
              go_roundw
              case rel => exact Hx6.out.step Hqz.out (Emit.mono ⟨_, _, Hx7.out⟩ (by omega) (by rw [seqO_nil_l]))
              case measure => simp [intOf]; omega
            · have h3 : x.code.take q = x.code := List.take_of_length_le (by omega)
              rw [h3] at hx6
              have Hx6 := Lib.hid hx6
              clear hx6 hl3w hq h3
              go_wp2_with fail
              go_roundw
              case rel => exact Hx.out.step Hkx.out (Emit.mono ⟨_, _, Hx6.out⟩ (by rw [Hcx.out]; omega) (by simp [encFunc, encL, seqO_assoc, seqO_nil_l]))
              case measure => simp [intOf]; omega
        · have h3 : funcs.take k = funcs := List.take_of_length_le (by omega)
          rw [h3] at hx hxl
          have hx := hx.mono (Nat.le_refl _) (show _ = encMod ⟨types, funcs⟩ by simp [encMod, encL, seqO_assoc, seqO_nil_l])
          rw [Hbs.out] at hx
          obtain ⟨hbg, A5, c5, h5, _⟩ := hx.wr
          simp only [List.nil_append] at h5
          have hyl : y0.length ≤ 1099511627776 := by have := hx.len; omega
          obtain ⟨e0, e1⟩ := h5.cells2
          have Hfin := Lib.hid (fun e => enc_end (e := e) (g := g) (bs := []) (by rw [HW.out]; exact Hbel.out) (by rw [HW.out]; exact hx))
          clear hF h3 hk hx h5
          cases f0
          · by_cases hbig : 1048576 < y0.length
            · go_wp2_with fail
              go_ret2
              exact Hfin.out _ ⟨(fun h => by cases h), fun _ _ => rfl, fun _ h => absurd hbig h⟩
            · go_wp2_with fail
              go_ret2
              refine Hfin.out _ ⟨(fun h => by cases h), fun _ h => absurd h hbig, fun _ _ A6 c6 h6 => ?_⟩
              have h7 := e0.symm.trans h6
              injection h7 with h7
              injection h7 with h7 _ h8
              subst h7 h8
              rfl
          · go_wp2_with fail
            go_ret2
            exact Hfin.out _ ⟨fun _ => rfl, (fun h => by cases h), (fun h => by cases h)⟩
end Go.Proofs.Ytdegfnejhamejaa
