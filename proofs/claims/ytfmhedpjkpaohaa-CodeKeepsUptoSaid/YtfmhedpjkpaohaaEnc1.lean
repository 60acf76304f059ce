/-
  The writer's methods: each writes onto its buffer what the plain side says.
-/
import Derived.Test.YtfmhedpjkpaohaaBase
import Derived.Test.YtfmhedpjkpaohaaData
namespace Go.Proofs.Ytfmhedpjkpaohaa
open Go.RowKit
set_option linter.unusedVariables false
set_option linter.unusedSimpArgs false

def u8s (l : List Nat) : List Value := l.map (fun (x : Nat) => Value.int .u8 (x : Int))
theorem u8s_append (a b : List Nat) : u8s (a ++ b) = u8s a ++ u8s b := by simp [u8s]
theorem infoU8 : (Try.prog.info? 5).map (fun i => (i.zero, i.size, i.bytes)) = some (some (.int .u8 0), 1, 1) := by kernel_rfl

/-- A buffer behind a pointer: block g of type T is the buffer and a flag. -/
def Wr (T : Nat) (w : World) (g base : Nat) (form : Bool) (bs : List Nat) : Prop :=
  base ≤ g ∧ ∃ A c, Blk w g T #[.slice A bs.length c, .bool form] ∧ w.ownsRow base 5 1 (.slice A bs.length c) bs.length (u8s bs)
/-- What writing may turn. -/
def MW (T base : Nat) : Nat → Nat → Prop := fun b t => base ≤ b ∧ (t = T ∨ t = 5)

section
variable {T g base : Nat} {w w' : World} {form : Bool} {bs : List Nat}
theorem Wr.keep {M : Nat → Nat → Prop} (h : Wr T w g base form bs) (hc : Chg M w w') (h1 : ¬ M g T) (h2 : ∀ b, ¬ M b 5) : Wr T w' g base form bs := by
  obtain ⟨hb, A, c, h3, h4⟩ := h
  exact ⟨hb, A, c, hc.blk h3 h1, hc.own h4 fun k _ => h2 k⟩
theorem Wr.old (h : Wr T w g base form bs) (hc : Chg (fun _ _ => False) w w') : Wr T w' g base form bs := h.keep hc id fun _ => id
/-- One byte has been appended, and stored back. -/
theorem Wr.push {A A' : Option Addr} {c c' : Nat} {w1 : World} {o : Obj} (x : Nat) (hT : T ≠ 5) (hb : base ≤ g) (h3 : Blk w g T #[.slice A bs.length c, .bool form]) (h4 : w.ownsRow base 5 1 (.slice A bs.length c) bs.length (u8s bs))
    (hap : Apd (w.alloc o) w1 base 5 1 A A' bs.length c (bs.length + 1) c' (u8s bs ++ [Value.int .u8 (x : Int)])) :
    Wr T (w1.setCell ⟨g, 0, none⟩ (.slice A' (bs.length + 1) c')) g base form (bs ++ [x]) ∧ Chg (MW T base) w (w1.setCell ⟨g, 0, none⟩ (.slice A' (bs.length + 1) c')) ∧
      w1.cell? ⟨g, 0, none⟩ = some (.slice A bs.length c) ∧ w1.frozen? ⟨g, 0, none⟩ = false := by
  have hchg := hap.chg h4
  have hb1 : Blk w1 g T #[.slice A bs.length c, .bool form] := hchg.blk h3 fun h => hT h.2
  have hstep : Chg (MW T base) w1 (w1.setCell ⟨g, 0, none⟩ (.slice A' (bs.length + 1) c')) := (Chg.refl _ _).setCell _ _ fun o ho => by
    have : w1.heap[g]? = some o := ho
    rw [show w1.heap[g]? = _ from hb1] at this
    injection this with this
    subst this
    exact ⟨hb, .inl rfl⟩
  refine ⟨⟨hb, A', c', ?_, ?_⟩, (hchg.mono fun b t _ h => ⟨h.1, .inr h.2⟩).trans hstep, by simpa using hb1.cell 0, hb1.frozen 0⟩
  · have := hb1.set_ 0 (.slice A' (bs.length + 1) c')
    simpa using this
  · have h5 := hap.own
    have h6 : Chg (fun b t => t = T) w1 (w1.setCell ⟨g, 0, none⟩ (.slice A' (bs.length + 1) c')) := (Chg.refl _ _).setCell _ _ fun o ho => by
      have : w1.heap[g]? = some o := ho
      rw [show w1.heap[g]? = _ from hb1] at this
      injection this with this
      subst this
      rfl
    have h7 := h6.own h5 (fun k _ => fun h => hT h.symm)
    simpa [u8s] using h7
end

/-- What a writing has done: what was wanted stands behind what was there; or, where a number can't be written, something, and the flag is set. -/
structure EmitX (T g base : Nat) (form : Bool) (bs : List Nat) (form' : Bool) (ys : List Nat) (most : Nat) (want : Option (List Nat)) (w w' : World) : Prop where
  wr : Wr T w' g base form' (bs ++ ys)
  len : ys.length ≤ most
  want : match want with | some l => form' = form ∧ ys = l | none => form' = true
  flag : form = true → form' = true
  chg : Chg (MW T base) w w'
def Emit (T g base : Nat) (form : Bool) (bs : List Nat) (most : Nat) (want : Option (List Nat)) (w w' : World) : Prop := ∃ form' ys, EmitX T g base form bs form' ys most want w w'
def EmitE (T g base : Nat) (form : Bool) (bs : List Nat) (most : Nat) (want : Option (List Nat)) (w : World) (e : Ending) (w' : World) : Prop :=
  e = .returned (.tuple #[]) ∧ Emit T g base form bs most want w w'
theorem EmitX.then {T g base : Nat} {form form' : Bool} {bs ys : List Nat} {most most' : Nat} {want want' : Option (List Nat)} {w w' w'' : World} (h : EmitX T g base form bs form' ys most want w w')
    (k : Emit T g base form' (bs ++ ys) most' want' w' w'') : Emit T g base form bs (most + most') (seqO want want') w w'' := by
  obtain ⟨h1, h2, h3, h4, h5⟩ := h
  obtain ⟨form'', zs, k1, k2, k3, k4, k5⟩ := k
  refine ⟨form'', ys ++ zs, by rw [← List.append_assoc]; exact k1, by simp; omega, ?_, fun h => k4 (h4 h), h5.trans k5⟩
  cases want with
  | none => exact k4 h3
  | some l =>
    cases want' with
    | none => exact k3
    | some l' => exact ⟨k3.1.trans h3.1, by rw [h3.2, k3.2]⟩
theorem EmitX.refl {T g base : Nat} {form : Bool} {bs : List Nat} {w : World} (h : Wr T w g base form bs) : EmitX T g base form bs form [] 0 (some []) w w :=
  ⟨by simpa using h, Nat.le_refl _, ⟨rfl, rfl⟩, id, Chg.refl _ _⟩
theorem EmitX.mono {T g base : Nat} {form form' : Bool} {bs ys : List Nat} {most most' : Nat} {want want' : Option (List Nat)} {w w' : World} (h : EmitX T g base form bs form' ys most want w w') (hm : most ≤ most') (hw : want = want') : EmitX T g base form bs form' ys most' want' w w' := by
  subst hw
  exact ⟨h.wr, Nat.le_trans h.len hm, h.want, h.flag, h.chg⟩
theorem Emit.mono {T g base : Nat} {form : Bool} {bs : List Nat} {most most' : Nat} {want want' : Option (List Nat)} {w w' : World} (h : Emit T g base form bs most want w w') (hm : most ≤ most') (hw : want = want') : Emit T g base form bs most' want' w w' := by
  obtain ⟨form', ys, h⟩ := h
  exact ⟨form', ys, h.mono hm hw⟩
/-- A world in which nothing old has turned comes next. -/
theorem EmitX.old {T g base : Nat} {form form' : Bool} {bs ys : List Nat} {most : Nat} {want : Option (List Nat)} {w w' w'' : World} (h : EmitX T g base form bs form' ys most want w w') (hc : Chg (fun _ _ => False) w' w'') : EmitX T g base form bs form' ys most want w w'' :=
  ⟨h.wr.old hc, h.len, h.want, h.flag, h.chg.trans (hc.mono fun _ _ _ h => h.elim)⟩
theorem EmitX.length {T g base : Nat} {form form' : Bool} {bs ys : List Nat} {most : Nat} {want : Option (List Nat)} {w w' : World} (h : EmitX T g base form bs form' ys most want w w') : (bs ++ ys).length ≤ bs.length + most := by
  have := h.len
  simp
  omega

/-- The relation of a loop that writes the parts of a list, one by one. -/
def EmitRel {α : Type} (T g base : Nat) (form : Bool) (w : World) (bs : List Nat) (m0 : Nat) (c : α → Nat) (pre : Option (List Nat)) (f : α → Option (List Nat)) (l : List α) (i : Value) (wr : World) : Prop :=
  ∃ k : Nat, k ≤ l.length ∧ i = .int .i64 k ∧ Emit T g base form bs (m0 + ((l.take k).map c).sum) (seqO pre (allO f (l.take k))) w wr
theorem EmitRel.start {α : Type} {T g base : Nat} {form : Bool} {w wr : World} {bs : List Nat} {m0 : Nat} {c : α → Nat} {pre : Option (List Nat)} {f : α → Option (List Nat)} {l : List α} (h : Emit T g base form bs m0 pre w wr) :
    EmitRel T g base form w bs m0 c pre f l (.int .i64 0) wr := ⟨0, Nat.zero_le _, rfl, h.mono (by simp) (by simp [allO, seqO_nil_r])⟩
theorem sum_take {α : Type} (c : α → Nat) : ∀ (l : List α) (k : Nat), ((l.take k).map c).sum ≤ (l.map c).sum
  | [], k => by simp
  | x :: l, 0 => by simp
  | x :: l, k + 1 => by have := sum_take c l k; simp only [List.take_succ_cons, List.map_cons, List.sum_cons]; omega
theorem sum_at {α : Type} (c : α → Nat) {l : List α} {k : Nat} {x : α} (h : l[k]? = some x) : ((l.take k).map c).sum + c x ≤ (l.map c).sum := by
  obtain ⟨hlt, hxe⟩ := List.getElem?_eq_some_iff.1 h
  have h1 := sum_take c l (k + 1)
  rw [List.take_succ_eq_append_getElem hlt, hxe, List.map_append, List.sum_append] at h1
  simpa using h1
theorem EmitX.step {α : Type} {T g base : Nat} {form form' : Bool} {w wr w'' : World} {bs ys : List Nat} {m0 k : Nat} {c : α → Nat} {pre : Option (List Nat)} {f : α → Option (List Nat)} {l : List α} {x : α} (hx : l[k]? = some x)
    (h : EmitX T g base form bs form' ys (m0 + ((l.take k).map c).sum) (seqO pre (allO f (l.take k))) w wr) (hk : Emit T g base form' (bs ++ ys) (c x) (f x) wr w'') : EmitRel T g base form w bs m0 c pre f l (.int .i64 ((k : Int) + 1)) w'' := by
  obtain ⟨hlt, hxe⟩ := List.getElem?_eq_some_iff.1 hx
  refine ⟨k + 1, hlt, by simp, (h.then hk).mono ?_ ?_⟩
  · rw [List.take_succ_eq_append_getElem hlt, hxe, List.map_append, List.sum_append]; simp only [List.map_cons, List.map_nil, List.sum_cons, List.sum_nil]; omega
  · rw [allO_take f l k hlt, hxe, seqO_assoc]

theorem or128 : ∀ b : Fin 256, bits .or .u8 ((b.val : Nat) : Int) 128 = ((b.val % 128 + 128 : Nat) : Int) := by decide +kernel
theorem or128' (y : Nat) : bits .or .u8 ((y : Int) % 256) 128 = ((y % 128 + 128 : Nat) : Int) := by
  have h := or128 ⟨y % 256, Nat.mod_lt _ (by omega)⟩
  simp only at h
  rw [show ((y : Int) % 256) = ((y % 256 : Nat) : Int) by omega, h]
  congr 1
  omega

def NumRel (T g base : Nat) (form : Bool) (w : World) (bs full : List Nat) (i : Value) (wr : World) : Prop :=
  ∃ (y : Nat) (ys : List Nat), i = .int .u64 y ∧ U64 y ∧ ys ++ encN y = full ∧ ys.length + (encN y).length ≤ 10 ∧ Wr T wr g base form (bs ++ ys) ∧ Chg (MW T base) w wr
theorem encN_u64 {x : Nat} (h : U64 x) : (encN x).length ≤ 10 := encN_len 9 x (by unfold U64 at h; omega)
theorem encN_pos (x : Nat) : 1 ≤ (encN x).length := by
  by_cases h : 128 ≤ x
  · rw [encN_ge h]; simp
  · rw [encN_lt (by omega)]; simp

def NumPost (T g base : Nat) (form : Bool) (bs : List Nat) (ys : List Nat) (w : World) (e : Ending) (w' : World) : Prop :=
  e = .returned (.tuple #[]) ∧ Wr T w' g base form (bs ++ ys) ∧ Chg (MW T base) w w'

set_option maxRecDepth 100000 in
theorem num_any (g base : Nat) (w : World) (bs : List Nat) (form : Bool) (x : Nat) (hx : U64 x) (hwr : Wr 59 w g base form bs) (hlen : bs.length ≤ 1099511627776) :
   Calls Try.prog 59 #[.pointer (some ⟨g, 0, none⟩), .int .u64 x] w (NumPost 59 g base form bs (encN x) w) := by
  obtain ⟨i0, hi0, hz0, hz1, hz2⟩ := info_parts infoU8
  have hmax : 1099511627776 + 11 ≤ maxLen := by unfold maxLen; omega
  have Hmax := Lib.hid hmax
  clear hmax
  go_enter Try.func59, Try.ntmps59
  go_wp2_with fail
  go_loopw [1] (fun i wr => NumRel 59 g base form w bs (encN x) i wr) (fun i _ => (intOf i).toNat)
  case atStart => exact ⟨x, [], rfl, hx, rfl, by simpa using encN_u64 hx, by simpa using hwr, Chg.refl _ _⟩
  case round =>
    obtain ⟨y, ys, rfl, hy, he, hl, ⟨hbg, A', c', hb', how'⟩, hchg⟩ := hrel
    have He := Lib.hid he; clear he
    obtain ⟨cur, hcur⟩ : ∃ cur, bs ++ ys = cur := ⟨_, rfl⟩
    have hcl : cur.length ≤ 1099511627776 + 10 := by rw [← hcur, List.length_append]; omega
    rw [hcur] at hb' how'
    have Hcur := Lib.hid hcur; clear hcur
    have c0 : wr.cell? ⟨g, 0, none⟩ = some (.slice A' cur.length c') := by simpa using hb'.cell 0
    have hwrb : base ≤ wr.heap.size := by have := hb'.lt; omega
    have hyp := encN_pos y
    by_cases hge : 128 ≤ y
    · go_wp2_with (at_builtin; go_must (refine wpList_append_new rfl (.tmp 12) (.tmp 16) 26 rfl base 5 i0 _ 1 1 Try.underlying26 hi0 hz0 hz1 hz2 rfl (by omega) A' cur.length c' (u8s cur) rfl how' 1 1 [_] rfl rfl rfl (by simp; rfl) (by have := Hmax.out; omega) (by omega) hwrb ?_))
      intro A1 c1' w1 hap
      rw [or128'] at hap
      obtain ⟨p1, p2, c0', f0'⟩ := Wr.push (y % 128 + 128) (by decide) hbg hb' how' hap
      have HH := Lib.hid (And.intro p1 (And.intro p2 hchg))
      clear hap hb' how' hchg c0 p1 p2
      go_wp2
      go_roundw
      case rel =>
        obtain ⟨p1, p2, hchg⟩ := HH.out
        refine ⟨y / 128, ys ++ [y % 128 + 128], by simp, by unfold U64 at hy ⊢; omega, by rw [← He.out, encN_ge hge]; simp, by rw [encN_ge hge] at hl; simp at hl ⊢; omega, by rw [← List.append_assoc, Hcur.out]; exact p1, hchg.trans p2⟩
      case measure => simp [intOf]; omega
    · go_wp2_with (at_builtin; go_must (refine wpList_append_new rfl (.tmp 24) (.tmp 27) 26 rfl base 5 i0 _ 1 1 Try.underlying26 hi0 hz0 hz1 hz2 rfl (by omega) A' cur.length c' (u8s cur) rfl how' 1 1 [_] rfl rfl rfl (by simp; rfl) (by have := Hmax.out; omega) (by omega) hwrb ?_))
      intro A1 c1' w1 hap
      obtain ⟨p1, p2, c0', f0'⟩ := Wr.push y (by decide) hbg hb' how' hap
      have HH := Lib.hid (And.intro p1 (And.intro p2 hchg))
      clear hap hb' how' hchg c0 p1 p2
      go_wp2
      go_end0
      obtain ⟨p1, p2, hchg⟩ := HH.out
      refine ⟨rfl, ?_, hchg.trans p2⟩
      rw [← He.out, encN_lt (by omega), ← List.append_assoc, Hcur.out]
      exact p1

theorem u64_wrap (z : Int) : 0 ≤ IntKind.u64.wrap z ∧ U64 (IntKind.u64.wrap z).toNat := by
  have h : IntKind.u64.wrap z = z % 18446744073709551616 := by simp [IntKind.wrap, IntKind.signed, IntKind.bits]
  rw [h]; unfold U64; omega
theorem num_z (g base : Nat) (w : World) (bs : List Nat) (form : Bool) (z : Int) (h0 : 0 ≤ z) (hx : U64 z.toNat) (hwr : Wr 59 w g base form bs) (hlen : bs.length ≤ 1099511627776) :
   Calls Try.prog 59 #[.pointer (some ⟨g, 0, none⟩), .int .u64 z] w (NumPost 59 g base form bs (encN z.toNat) w) := by
  have h := num_any g base w bs form z.toNat hx hwr hlen
  rwa [Int.toNat_of_nonneg h0] at h

/-- The flag is written. -/
theorem Wr.flag {T g base : Nat} {w : World} {form : Bool} {bs : List Nat} (hT : T ≠ 5) (h : Wr T w g base form bs) (f : Bool) : Wr T (w.setCell ⟨g, 1, none⟩ (.bool f)) g base f bs ∧ Chg (MW T base) w (w.setCell ⟨g, 1, none⟩ (.bool f)) := by
  obtain ⟨hb, A, c, h3, h4⟩ := h
  have hc : Chg (fun b t => base ≤ b ∧ t = T) w (w.setCell ⟨g, 1, none⟩ (.bool f)) := (Chg.refl _ _).setCell _ _ fun o ho => by
    have : w.heap[g]? = some o := ho
    rw [show w.heap[g]? = _ from h3] at this
    injection this with this
    subst this
    exact ⟨hb, rfl⟩
  refine ⟨⟨hb, A, c, by simpa using h3.set_ 1 (.bool f), hc.own h4 fun k _ h => hT h.2.symm⟩, hc.mono fun b t _ h => ⟨h.1, .inl h.2⟩⟩

theorem int_end {T g base : Nat} {w w1 : World} {bs ys : List Nat} {form form' : Bool} {least n : Int} {e : Ending} {w' : World} (hc : Chg (MW T base) w w1) (hn : NumPost T g base form' bs ys w1 e w') (hy : ys.length ≤ 10)
    (hgood : least ≤ n → n ≤ 2147483647 → form' = form ∧ ys = encN (n - least).toNat) (hbad : ¬ (least ≤ n ∧ n ≤ 2147483647) → form' = true) : EmitE T g base form bs 10 (encI least n) w e w' := by
  obtain ⟨rfl, h1, h2⟩ := hn
  refine ⟨rfl, form', ys, h1, hy, ?_, ?_, hc.trans h2⟩
  · unfold encI
    by_cases h : least ≤ n ∧ n ≤ 2147483647
    · rw [if_pos h]
      exact hgood h.1 h.2
    · rw [if_neg h]
      exact hbad h
  · intro hf
    by_cases h : least ≤ n ∧ n ≤ 2147483647
    · exact (hgood h.1 h.2).1.trans hf
    · exact hbad h

set_option maxRecDepth 100000 in
theorem int_any (g base : Nat) (w : World) (bs : List Nat) (form : Bool) (n least : Int) (hl : -1 ≤ least ∧ least ≤ 0) (hn : I64 n) (hwr : Wr 59 w g base form bs) (hlen : bs.length ≤ 1099511627776) :
   Calls Try.prog 22 #[.pointer (some ⟨g, 0, none⟩), .int .i64 n, .int .i64 least] w (EmitE 59 g base form bs 10 (encI least n) w) := by
  have hwt := hwr.flag (by decide) true
  have hwf := hwr.flag (by decide) false
  obtain ⟨hbg, A, c, hb, how⟩ := hwr
  have c0 : w.cell? ⟨g, 0, none⟩ = some (.slice A bs.length c) := by simpa using hb.cell 0
  have c1 : w.cell? ⟨g, 1, none⟩ = some (.bool form) := by simpa using hb.cell 1
  have f1 := hb.frozen 1
  obtain ⟨hl1, hl2⟩ := hl
  clear hb how
  have HF := Lib.hid hwf
  have HT := Lib.hid hwt
  clear hwf hwt
  by_cases hgood : least ≤ n ∧ n ≤ 2147483647
  · obtain ⟨g1, g2⟩ := hgood
    have hz : U64 (n - least).toNat := by unfold U64; omega
    cases form
    · have d1 : decide (n < least) = false := by simpa using g1
      have d2 : decide (2147483647 < n) = false := by simpa using g2
      go_enter Try.func22, Try.ntmps22
      go_wp2_with fail
      refine (num_z g base _ bs false _ (by omega) hz HF.out.1 hlen).mono fun e w' h => ?_
      have hH := Lib.hid (int_end (form := false) (least := least) (n := n) HF.out.2 h (encN_u64 hz) (fun _ _ => ⟨rfl, rfl⟩) (fun h => absurd ⟨g1, g2⟩ h))
      obtain ⟨rfl, _, _⟩ := h
      go_wp2_with fail
      go_end0
      exact hH.out
    · go_enter Try.func22, Try.ntmps22
      go_wp2_with fail
      refine (num_z g base _ bs true _ (by omega) hz HT.out.1 hlen).mono fun e w' h => ?_
      have hH := Lib.hid (int_end (form := true) (least := least) (n := n) HT.out.2 h (encN_u64 hz) (fun _ _ => ⟨rfl, rfl⟩) (fun h => absurd ⟨g1, g2⟩ h))
      obtain ⟨rfl, _, _⟩ := h
      go_wp2_with fail
      go_end0
      exact hH.out
  · have Hbad := Lib.hid hgood
    clear hgood
    cases form
    · by_cases h1 : n < least
      all_goals
        have h2 : 2147483647 < n ∨ n < least := by have := Hbad.out; omega
        go_enter Try.func22, Try.ntmps22
        first | (have h3 : 2147483647 < n := by omega) | skip
        clear h2
        go_wp2_with fail
        refine (num_z g base _ bs true _ (u64_wrap _).1 (u64_wrap _).2 HT.out.1 hlen).mono fun e w' h => ?_
        have hH := Lib.hid (int_end (form := false) (least := least) (n := n) HT.out.2 h (encN_u64 (u64_wrap _).2) (fun a b => absurd ⟨a, b⟩ Hbad.out) (fun _ => rfl))
        obtain ⟨rfl, _, _⟩ := h
        go_wp2_with fail
        go_end0
        exact hH.out
    · go_enter Try.func22, Try.ntmps22
      go_wp2_with fail
      refine (num_z g base _ bs true _ (u64_wrap _).1 (u64_wrap _).2 HT.out.1 hlen).mono fun e w' h => ?_
      have hH := Lib.hid (int_end (form := true) (least := least) (n := n) HT.out.2 h (encN_u64 (u64_wrap _).2) (fun a b => absurd ⟨a, b⟩ Hbad.out) (fun _ => rfl))
      obtain ⟨rfl, _, _⟩ := h
      go_wp2_with fail
      go_end0
      exact hH.out
end Go.Proofs.Ytfmhedpjkpaohaa
