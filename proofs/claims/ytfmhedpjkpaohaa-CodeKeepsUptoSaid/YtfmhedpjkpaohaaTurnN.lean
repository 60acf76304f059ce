/-
  The plain laws of reading and writing: what was written is read, what was read is written, and what a beginning is read as.
-/
import Derived.Test.YtfmhedpjkpaohaaReadN
namespace Go.Proofs.Ytfmhedpjkpaohaa
set_option linter.unusedVariables false

theorem seqO_some {a b : Option (List Nat)} {l : List Nat} (h : seqO a b = some l) : ∃ x y, a = some x ∧ b = some y ∧ l = x ++ y := by
  cases a with
  | none => cases h
  | some x =>
    cases b with
    | none => cases h
    | some y => injection h with h; exact ⟨x, y, rfl, rfl, h.symm⟩
theorem bind_ok {α β : Type} {p : Pr α} {f : α → Pr β} {at_ at1 : Nat} {a : α} (h : p at_ = .ok (a, at1)) : p.bind_ f at_ = f a at1 := by
  unfold Pr.bind_; rw [h]
theorem bind_error {α β : Type} {p : Pr α} {f : α → Pr β} {at_ e : Nat} (h : p at_ = .error e) : p.bind_ f at_ = .error e := by
  unfold Pr.bind_; rw [h]
theorem bind_inv {α β : Type} {p : Pr α} {f : α → Pr β} {at_ at' : Nat} {y : β} (h : p.bind_ f at_ = .ok (y, at')) : ∃ a at1, p at_ = .ok (a, at1) ∧ f a at1 = .ok (y, at') := by
  unfold Pr.bind_ at h
  cases hp : p at_ with
  | error e => rw [hp] at h; cases h
  | ok q => rw [hp] at h; exact ⟨q.1, q.2, rfl, h⟩
theorem pure_inv {α : Type} {x y : α} {at_ at' : Nat} (h : Pr.pure_ x at_ = .ok (y, at')) : y = x ∧ at' = at_ := by
  unfold Pr.pure_ at h
  injection h with h; injection h with h1 h2
  exact ⟨h1.symm, h2.symm⟩

/-! ## What was written is read -/
/-- P reads the bytes e as x. -/
def WrR {α : Type} (P : List Nat → Pr α) (e : Option (List Nat)) (x : α) : Prop := ∀ l, e = some l → ∀ bs at_ r, bs.drop at_ = l ++ r → P bs at_ = .ok (x, at_ + l.length)
theorem WrR.pure {α : Type} (x : α) : WrR (fun _ => Pr.pure_ x) (some []) x := by
  intro l hl bs at_ r _
  injection hl with hl
  subst hl
  rfl
theorem WrR.bind {α β : Type} {P : List Nat → Pr α} {F : α → List Nat → Pr β} {e e' : Option (List Nat)} {x : α} {y : β} (h : WrR P e x) (h' : WrR (F x) e' y) : WrR (fun bs => (P bs).bind_ fun a => F a bs) (seqO e e') y := by
  intro l hl bs at_ r hd
  obtain ⟨l1, l2, h1, h2, rfl⟩ := seqO_some hl
  have k1 := h l1 h1 bs at_ (l2 ++ r) (by rw [hd, List.append_assoc])
  have hd2 : bs.drop (at_ + l1.length) = l2 ++ r := by
    rw [← List.drop_drop, hd, List.append_assoc, List.drop_left]
  have k2 := h' l2 h2 bs _ r hd2
  show (P bs).bind_ (fun a => F a bs) at_ = _
  rw [bind_ok k1, k2, List.length_append, Nat.add_assoc]
theorem WrR.last {α β : Type} {P : List Nat → Pr α} {e : Option (List Nat)} {x : α} (g : α → β) (h : WrR P e x) : WrR (fun bs => (P bs).bind_ fun a => Pr.pure_ (g a)) e (g x) := by
  have := WrR.bind (F := fun a _ => Pr.pure_ (g a)) h (WrR.pure (g x))
  rwa [seqO_nil_r] at this
theorem numFrom_enc : ∀ (fuel i x : Nat) (r : List Nat), fuel + i = 10 → (0 < x ∨ i = 0) → x * 128 ^ i < 18446744073709551616 → i ≤ 9 → numFrom fuel i (encN x ++ r) = some (x * 128 ^ i, (encN x).length)
  | 0, i, x, r, hf, _, _, hi => by omega
  | fuel + 1, i, x, r, hf, hx, hlt, hi => by
    have h9 : i = 9 → x ≤ 1 := by
      rintro rfl
      rcases Nat.lt_or_ge 1 x with h | h
      · have : 2 * 128 ^ 9 ≤ x * 128 ^ 9 := Nat.mul_le_mul_right _ h
        omega
      · exact h
    by_cases hb : 128 ≤ x
    · have hi8 : i ≤ 8 := by
        rcases Nat.lt_or_ge i 9 with h | h
        · omega
        · have := h9 (by omega); omega
      rw [encN_ge hb, List.cons_append]
      unfold numFrom
      rw [if_neg (by omega), if_neg (by omega)]
      have hdm := Nat.div_add_mod x 128
      have hpow : 128 ^ (i + 1) = 128 * 128 ^ i := by rw [Nat.pow_succ, Nat.mul_comm]
      have hsum : x % 128 * 128 ^ i + x / 128 * 128 ^ (i + 1) = x * 128 ^ i := by
        rw [hpow]
        rw [show x / 128 * (128 * 128 ^ i) = (128 * (x / 128)) * 128 ^ i by rw [← Nat.mul_assoc, Nat.mul_comm (x / 128) 128]]
        rw [← Nat.add_mul]
        rw [show x % 128 + 128 * (x / 128) = x by omega]
      have ih := numFrom_enc fuel (i + 1) (x / 128) r (by omega) (.inl (by omega)) (by omega) (by omega)
      rw [ih]
      simp only [Option.map_some, List.length_cons]
      rw [show (x % 128 + 128) % 128 = x % 128 by omega, hsum]
    · have hb' : x < 128 := by omega
      rw [encN_lt hb']
      simp only [List.cons_append, List.nil_append]
      unfold numFrom
      rw [if_neg (by omega), if_pos hb']
      rfl
theorem num_wr {x : Nat} (hx : x < 18446744073709551616) : WrR numP (some (encN x)) x := by
  intro l hl bs at_ r hd
  injection hl with hl
  subst hl
  unfold numP
  rw [hd, numFrom_enc 10 0 x r (by omega) (.inr rfl) (by simpa using hx) (by omega)]
  simp
theorem upto_wr {x most : Nat} (hx : x ≤ most) (hm : most < 18446744073709551616) : WrR (fun bs => uptoP bs most) (some (encN x)) x := by
  intro l hl bs at_ r hd
  show uptoP bs most at_ = _
  unfold uptoP
  rw [num_wr (by omega) l hl bs at_ r hd]
  simp only
  rw [if_neg (by omega)]
theorem small_wr {least n : Int} (h0 : -1 ≤ least) (h1 : least ≤ 0) : WrR (fun bs => smallP bs least) (encI least n) n := by
  intro l hl bs at_ r hd
  unfold encI at hl
  split at hl
  · rename_i hn
    injection hl with hl
    show smallP bs least at_ = _
    unfold smallP
    have hu : uptoP bs (2147483647 - least).toNat at_ = _ := upto_wr (x := (n - least).toNat) (most := (2147483647 - least).toNat) (by omega) (by omega) l (by rw [hl]) bs at_ r hd
    rw [hu]
    simp only
    rw [show ((n - least).toNat : Int) + least = n by omega]
  · cases hl
theorem flag_wr (b : Bool) : WrR flagP (encFlag b) b := by
  intro l hl bs at_ r hd
  unfold encFlag at hl
  show flagP bs at_ = _
  unfold flagP
  cases b with
  | true =>
    have he : some (encN 1) = some l := by rw [encN_lt (by omega)]; exact hl
    have hu : uptoP bs 1 at_ = _ := upto_wr (x := 1) (most := 1) (by omega) (by omega) l he bs at_ r hd
    rw [hu]
    rfl
  | false =>
    have he : some (encN 0) = some l := by rw [encN_lt (by omega)]; exact hl
    have hu : uptoP bs 1 at_ = _ := upto_wr (x := 0) (most := 1) (by omega) (by omega) l he bs at_ r hd
    rw [hu]
    rfl
theorem rep_wr {α : Type} {P : List Nat → Pr α} {enc : α → Option (List Nat)} : ∀ (l : List α), (∀ x ∈ l, WrR P (enc x) x) → WrR (fun bs => repP (P bs) l.length) (allO enc l) l
  | [], _ => WrR.pure []
  | x :: l, h => by
    have h1 := h x (by simp)
    have h2 := rep_wr l fun y hy => h y (by simp [hy])
    exact WrR.bind (F := fun a bs => (repP (P bs) l.length).bind_ fun l => Pr.pure_ (a :: l)) h1 (h2.last fun l => x :: l)
theorem list_wr {α : Type} {P : List Nat → Pr α} {enc : α → Option (List Nat)} (l : List α) (h : ∀ x ∈ l, WrR P (enc x) x) : WrR (fun bs => listP bs (P bs)) (encL enc l) l :=
  WrR.bind (P := fun bs => smallP bs 0) (F := fun n bs => repP (P bs) n.toNat) (small_wr (by omega) (by omega)) (by simpa using rep_wr l h)
theorem ints_wr (l : List Int) : WrR (fun bs => listP bs (smallP bs 0)) (encL (encI 0) l) l := list_wr (P := fun bs => smallP bs 0) l fun x _ => small_wr (by omega) (by omega)
theorem shape_wr (s : ShapeD) : WrR shapeP (encShape s) s :=
  WrR.bind (P := fun bs => smallP bs 0) (F := fun k bs => (listP bs (smallP bs 0)).bind_ fun l => (smallP bs 0).bind_ fun r => Pr.pure_ (⟨k, l, r⟩ : ShapeD)) (small_wr (by omega) (by omega))
    (WrR.bind (P := fun bs => listP bs (smallP bs 0)) (F := fun l bs => (smallP bs 0).bind_ fun r => Pr.pure_ (⟨s.kind, l, r⟩ : ShapeD)) (ints_wr _) (WrR.last (P := fun bs => smallP bs 0) (fun r => (⟨s.kind, s.list, r⟩ : ShapeD)) (small_wr (by omega) (by omega))))
theorem case_wr (c : CaseD) : WrR caseP (encCase c) c :=
  WrR.bind (P := flagP) (F := fun s bs => (smallP bs 0).bind_ fun c => (smallP bs (-1)).bind_ fun v => (smallP bs 0).bind_ fun t => Pr.pure_ (⟨s, c, v, t⟩ : CaseD)) (flag_wr _)
    (WrR.bind (P := fun bs => smallP bs 0) (F := fun k bs => (smallP bs (-1)).bind_ fun v => (smallP bs 0).bind_ fun t => Pr.pure_ (⟨c.send, k, v, t⟩ : CaseD)) (small_wr (by omega) (by omega))
      (WrR.bind (P := fun bs => smallP bs (-1)) (F := fun v bs => (smallP bs 0).bind_ fun t => Pr.pure_ (⟨c.send, c.chan, v, t⟩ : CaseD)) (small_wr (by omega) (by omega))
        (WrR.last (P := fun bs => smallP bs 0) (fun t => (⟨c.send, c.chan, c.val, t⟩ : CaseD)) (small_wr (by omega) (by omega)))))
theorem instr_wr (x : InstrD) (hn : x.n < 18446744073709551616) : WrR instrP (encInstr x) x :=
  WrR.bind (P := fun bs => smallP bs 0) (F := fun o bs => (smallP bs (-1)).bind_ fun a => (smallP bs (-1)).bind_ fun b => (numP bs).bind_ fun n => (listP bs (caseP bs)).bind_ fun l => Pr.pure_ (⟨o, a, b, n, l⟩ : InstrD)) (small_wr (by omega) (by omega))
    (WrR.bind (P := fun bs => smallP bs (-1)) (F := fun a bs => (smallP bs (-1)).bind_ fun b => (numP bs).bind_ fun n => (listP bs (caseP bs)).bind_ fun l => Pr.pure_ (⟨x.op, a, b, n, l⟩ : InstrD)) (small_wr (by omega) (by omega))
      (WrR.bind (P := fun bs => smallP bs (-1)) (F := fun b bs => (numP bs).bind_ fun n => (listP bs (caseP bs)).bind_ fun l => Pr.pure_ (⟨x.op, x.a, b, n, l⟩ : InstrD)) (small_wr (by omega) (by omega))
        (WrR.bind (P := numP) (F := fun n bs => (listP bs (caseP bs)).bind_ fun l => Pr.pure_ (⟨x.op, x.a, x.b, n, l⟩ : InstrD)) (num_wr hn)
          (WrR.last (P := fun bs => listP bs (caseP bs)) (fun l => (⟨x.op, x.a, x.b, x.n, l⟩ : InstrD)) (list_wr _ fun c _ => case_wr c)))))
def okFunc (f : FuncD) : Prop := ∀ x ∈ f.code, x.n < 18446744073709551616
def okMod (m : ModD) : Prop := ∀ f ∈ m.funcs, okFunc f
theorem func_wr (f : FuncD) (hf : okFunc f) : WrR funcP (encFunc f) f :=
  WrR.bind (P := fun bs => smallP bs 0) (F := fun p bs => (listP bs (smallP bs 0)).bind_ fun l => (listP bs (smallP bs 0)).bind_ fun c => (smallP bs 0).bind_ fun r => (listP bs (instrP bs)).bind_ fun k => Pr.pure_ (⟨p, l, c, r, k⟩ : FuncD)) (small_wr (by omega) (by omega))
    (WrR.bind (P := fun bs => listP bs (smallP bs 0)) (F := fun l bs => (listP bs (smallP bs 0)).bind_ fun c => (smallP bs 0).bind_ fun r => (listP bs (instrP bs)).bind_ fun k => Pr.pure_ (⟨f.params, l, c, r, k⟩ : FuncD)) (ints_wr _)
      (WrR.bind (P := fun bs => listP bs (smallP bs 0)) (F := fun c bs => (smallP bs 0).bind_ fun r => (listP bs (instrP bs)).bind_ fun k => Pr.pure_ (⟨f.params, f.locals, c, r, k⟩ : FuncD)) (ints_wr _)
        (WrR.bind (P := fun bs => smallP bs 0) (F := fun r bs => (listP bs (instrP bs)).bind_ fun k => Pr.pure_ (⟨f.params, f.locals, f.caps, r, k⟩ : FuncD)) (small_wr (by omega) (by omega))
          (WrR.last (P := fun bs => listP bs (instrP bs)) (fun k => (⟨f.params, f.locals, f.caps, f.res, k⟩ : FuncD)) (list_wr _ fun x hx => instr_wr x (hf x hx))))))
theorem mod_wr (m : ModD) (hm : okMod m) : WrR modP (encMod m) m :=
  WrR.bind (P := fun bs => listP bs (shapeP bs)) (F := fun t bs => (listP bs (funcP bs)).bind_ fun f => Pr.pure_ (⟨t, f⟩ : ModD)) (list_wr _ fun s _ => shape_wr s)
    (WrR.last (P := fun bs => listP bs (funcP bs)) (fun f => (⟨m.types, f⟩ : ModD)) (list_wr _ fun f hf => func_wr f (hm f hf)))

/-! ## What was read is written -/
/-- What P reads are the bytes that enc tells. -/
def RdW {α : Type} (P : List Nat → Pr α) (enc : α → Option (List Nat)) : Prop := ∀ bs at_ x at', (∀ c ∈ bs, c < 256) → P bs at_ = .ok (x, at') → ∃ l, enc x = some l ∧ bs.drop at_ = l ++ bs.drop at'
theorem numFrom_rd : ∀ (fuel i : Nat) (l : List Nat) (n k : Nat), (∀ c ∈ l, c < 256) → numFrom fuel i l = some (n, k) → ∃ m, n = m * 128 ^ i ∧ (0 < m ∨ i = 0) ∧ l = encN m ++ l.drop k
  | 0, _, _, _, _, _, h => by cases h
  | _ + 1, _, [], _, _, _, h => by cases h
  | fuel + 1, i, c :: l, n, k, hl, h => by
    unfold numFrom at h
    split at h
    · cases h
    rename_i hno
    have hc := hl c (by simp)
    split at h
    · rename_i hlt
      injection h with h; injection h with h1 h2
      subst h1 h2
      refine ⟨c, rfl, ?_, by rw [encN_lt hlt]; rfl⟩
      rcases Nat.eq_zero_or_pos i with h | h
      · exact .inr h
      · refine .inl ?_
        rcases Nat.eq_zero_or_pos c with h0 | h0
        · exact absurd (.inr ⟨h0, h⟩) hno
        · exact h0
    · rename_i hge
      obtain ⟨⟨n', k'⟩, h1, h2⟩ := Option.map_eq_some_iff.1 h
      injection h2 with h2 h3
      subst h2 h3
      obtain ⟨m, hm1, hm2, hm3⟩ := numFrom_rd fuel (i + 1) l n' k' (fun c hc => hl c (by simp [hc])) h1
      have hm : 0 < m := by omega
      refine ⟨c % 128 + 128 * m, ?_, .inl (by omega), ?_⟩
      · show c % 128 * 128 ^ i + n' = _
        rw [hm1, Nat.add_mul, show 128 ^ (i + 1) = 128 * 128 ^ i by rw [Nat.pow_succ, Nat.mul_comm], ← Nat.mul_assoc, Nat.mul_comm m 128]
      · rw [encN_ge (by omega), List.cons_append, List.drop_succ_cons, show (c % 128 + 128 * m) / 128 = m by omega, ← hm3]
        rw [show (c % 128 + 128 * m) % 128 + 128 = c by omega]
theorem num_rd : RdW numP (fun n => some (encN n)) := by
  intro bs at_ x at' hl h
  unfold numP at h
  split at h
  · cases h
  · rename_i n k hk
    injection h with h; injection h with h1 h2
    subst h1 h2
    obtain ⟨m, hm1, _, hm3⟩ := numFrom_rd 10 0 _ _ _ (fun c hc => hl c (List.mem_of_mem_drop hc)) hk
    rw [Nat.pow_zero, Nat.mul_one] at hm1
    subst hm1
    refine ⟨_, rfl, ?_⟩
    rw [List.drop_drop] at hm3
    exact hm3
theorem upto_rd (most : Nat) {bs : List Nat} {at_ x at' : Nat} (hl : ∀ c ∈ bs, c < 256) (h : uptoP bs most at_ = .ok (x, at')) : x ≤ most ∧ bs.drop at_ = encN x ++ bs.drop at' := by
  unfold uptoP at h
  cases hn : numP bs at_ with
  | error e => rw [hn] at h; cases h
  | ok q =>
    obtain ⟨n, a⟩ := q
    rw [hn] at h
    simp only at h
    split at h
    · cases h
    · injection h with h; injection h with h1 h2
      subst h1 h2
      obtain ⟨l, h3, h4⟩ := num_rd bs at_ n a hl hn
      injection h3 with h3
      subst h3
      exact ⟨by omega, h4⟩
theorem small_rd {least : Int} (h0 : -1 ≤ least) (h1 : least ≤ 0) : RdW (fun bs => smallP bs least) (encI least) := by
  intro bs at_ x at' hl h
  replace h : smallP bs least at_ = .ok (x, at') := h
  unfold smallP at h
  cases hn : uptoP bs (2147483647 - least).toNat at_ with
  | error e => rw [hn] at h; cases h
  | ok q =>
    obtain ⟨n, a⟩ := q
    rw [hn] at h
    injection h with h; injection h with h2 h3
    subst h2 h3
    obtain ⟨h4, h5⟩ := upto_rd _ hl hn
    refine ⟨_, ?_, h5⟩
    unfold encI
    rw [if_pos (by omega), show ((n : Int) + least - least).toNat = n by omega]
theorem flag_rd : RdW flagP encFlag := by
  intro bs at_ x at' hl h
  unfold flagP at h
  cases hn : uptoP bs 1 at_ with
  | error e => rw [hn] at h; cases h
  | ok q =>
    obtain ⟨n, a⟩ := q
    rw [hn] at h
    injection h with h; injection h with h2 h3
    subst h2 h3
    obtain ⟨h4, h5⟩ := upto_rd _ hl hn
    refine ⟨_, ?_, h5⟩
    unfold encFlag
    rcases Nat.eq_zero_or_pos n with h | h
    · subst h; rw [encN_lt (by omega)]; rfl
    · obtain rfl : n = 1 := by omega
      rw [encN_lt (by omega)]; rfl
theorem rep_rd {α : Type} {P : List Nat → Pr α} {enc : α → Option (List Nat)} (hP : RdW P enc) : ∀ (n : Nat) bs at_ x at', (∀ c ∈ bs, c < 256) → repP (P bs) n at_ = .ok (x, at') → x.length = n ∧ ∃ l, allO enc x = some l ∧ bs.drop at_ = l ++ bs.drop at'
  | 0, bs, at_, x, at', hl, h => by
    obtain ⟨rfl, rfl⟩ := pure_inv h
    exact ⟨rfl, [], rfl, rfl⟩
  | n + 1, bs, at_, x, at', hl, h => by
    obtain ⟨a, a1, h1, h⟩ := bind_inv h
    obtain ⟨l, a2, h2, h⟩ := bind_inv h
    obtain ⟨rfl, rfl⟩ := pure_inv h
    obtain ⟨l1, e1, d1⟩ := hP bs at_ a a1 hl h1
    obtain ⟨hn, l2, e2, d2⟩ := rep_rd hP n bs a1 l _ hl h2
    refine ⟨by simp [hn], l1 ++ l2, ?_, by rw [d1, d2, List.append_assoc]⟩
    show seqO (enc a) (allO enc l) = _
    rw [e1, e2]; rfl
theorem list_rd {α : Type} {P : List Nat → Pr α} {enc : α → Option (List Nat)} (hP : RdW P enc) : RdW (fun bs => listP bs (P bs)) (encL enc) := by
  intro bs at_ x at' hl h
  obtain ⟨n, a1, h1, h⟩ := bind_inv h
  obtain ⟨l1, e1, d1⟩ := small_rd (by omega) (by omega) bs at_ n a1 hl h1
  obtain ⟨hn, l2, e2, d2⟩ := rep_rd hP n.toNat bs a1 x at' hl h
  refine ⟨l1 ++ l2, ?_, by rw [d1, d2, List.append_assoc]⟩
  have h0 : (x.length : Int) = n := by
    have : 0 ≤ n := by
      unfold encI at e1
      split at e1
      · rename_i h; exact h.1
      · cases e1
    omega
  unfold encL
  rw [h0, e1, e2]; rfl
theorem ints_rd : RdW (fun bs => listP bs (smallP bs 0)) (encL (encI 0)) := list_rd (P := fun bs => smallP bs 0) (small_rd (by omega) (by omega))
theorem shape_rd : RdW shapeP encShape := by
  intro bs at_ x at' hl h
  obtain ⟨k, a1, h1, h⟩ := bind_inv h
  obtain ⟨l, a2, h2, h⟩ := bind_inv h
  obtain ⟨r, a3, h3, h⟩ := bind_inv h
  obtain ⟨rfl, rfl⟩ := pure_inv h
  obtain ⟨l1, e1, d1⟩ := small_rd (by omega) (by omega) bs _ _ _ hl h1
  obtain ⟨l2, e2, d2⟩ := ints_rd bs _ _ _ hl h2
  obtain ⟨l3, e3, d3⟩ := small_rd (by omega) (by omega) bs _ _ _ hl h3
  refine ⟨l1 ++ (l2 ++ l3), ?_, by rw [d1, d2, d3]; simp⟩
  simp only [encShape, e1, e2, e3, seqO]
theorem case_rd : RdW caseP encCase := by
  intro bs at_ x at' hl h
  obtain ⟨k, a1, h1, h⟩ := bind_inv h
  obtain ⟨l, a2, h2, h⟩ := bind_inv h
  obtain ⟨r, a3, h3, h⟩ := bind_inv h
  obtain ⟨t, a4, h4, h⟩ := bind_inv h
  obtain ⟨rfl, rfl⟩ := pure_inv h
  obtain ⟨l1, e1, d1⟩ := flag_rd bs _ _ _ hl h1
  obtain ⟨l2, e2, d2⟩ := small_rd (by omega) (by omega) bs _ _ _ hl h2
  obtain ⟨l3, e3, d3⟩ := small_rd (by omega) (by omega) bs _ _ _ hl h3
  obtain ⟨l4, e4, d4⟩ := small_rd (by omega) (by omega) bs _ _ _ hl h4
  refine ⟨l1 ++ (l2 ++ (l3 ++ l4)), ?_, by rw [d1, d2, d3, d4]; simp⟩
  simp only [encCase, e1, e2, e3, e4, seqO]
theorem instr_rd : RdW instrP encInstr := by
  intro bs at_ x at' hl h
  obtain ⟨k, a1, h1, h⟩ := bind_inv h
  obtain ⟨l, a2, h2, h⟩ := bind_inv h
  obtain ⟨r, a3, h3, h⟩ := bind_inv h
  obtain ⟨t, a4, h4, h⟩ := bind_inv h
  obtain ⟨u, a5, h5, h⟩ := bind_inv h
  obtain ⟨rfl, rfl⟩ := pure_inv h
  obtain ⟨l1, e1, d1⟩ := small_rd (by omega) (by omega) bs _ _ _ hl h1
  obtain ⟨l2, e2, d2⟩ := small_rd (by omega) (by omega) bs _ _ _ hl h2
  obtain ⟨l3, e3, d3⟩ := small_rd (by omega) (by omega) bs _ _ _ hl h3
  obtain ⟨l4, e4, d4⟩ := num_rd bs _ _ _ hl h4
  obtain ⟨l5, e5, d5⟩ := list_rd case_rd bs _ _ _ hl h5
  refine ⟨l1 ++ (l2 ++ (l3 ++ (l4 ++ l5))), ?_, by rw [d1, d2, d3, d4, d5]; simp⟩
  simp only [encInstr, e1, e2, e3, e4, e5, seqO]
theorem func_rd : RdW funcP encFunc := by
  intro bs at_ x at' hl h
  obtain ⟨k, a1, h1, h⟩ := bind_inv h
  obtain ⟨l, a2, h2, h⟩ := bind_inv h
  obtain ⟨r, a3, h3, h⟩ := bind_inv h
  obtain ⟨t, a4, h4, h⟩ := bind_inv h
  obtain ⟨u, a5, h5, h⟩ := bind_inv h
  obtain ⟨rfl, rfl⟩ := pure_inv h
  obtain ⟨l1, e1, d1⟩ := small_rd (by omega) (by omega) bs _ _ _ hl h1
  obtain ⟨l2, e2, d2⟩ := ints_rd bs _ _ _ hl h2
  obtain ⟨l3, e3, d3⟩ := ints_rd bs _ _ _ hl h3
  obtain ⟨l4, e4, d4⟩ := small_rd (by omega) (by omega) bs _ _ _ hl h4
  obtain ⟨l5, e5, d5⟩ := list_rd instr_rd bs _ _ _ hl h5
  refine ⟨l1 ++ (l2 ++ (l3 ++ (l4 ++ l5))), ?_, by rw [d1, d2, d3, d4, d5]; simp⟩
  simp only [encFunc, e1, e2, e3, e4, e5, seqO]
theorem mod_rd : RdW modP encMod := by
  intro bs at_ x at' hl h
  obtain ⟨k, a1, h1, h⟩ := bind_inv h
  obtain ⟨l, a2, h2, h⟩ := bind_inv h
  obtain ⟨rfl, rfl⟩ := pure_inv h
  obtain ⟨l1, e1, d1⟩ := list_rd shape_rd bs _ _ _ hl h1
  obtain ⟨l2, e2, d2⟩ := list_rd func_rd bs _ _ _ hl h2
  refine ⟨l1 ++ l2, ?_, by rw [d1, d2]; simp⟩
  simp only [encMod, e1, e2, seqO]

/-! ## Beginnings -/
/-- Reading goes on, never back; a beginning is read as the whole, as far as it goes. -/
def LocP {α : Type} (P : List Nat → Pr α) : Prop :=
  (∀ bs at_ x at', P bs at_ = .ok (x, at') → at_ ≤ at') ∧ (∀ bs at_ e, P bs at_ = .error e → at_ ≤ e) ∧
  (∀ bs k at_ x at', k ≤ bs.length → at_ ≤ k → P bs at_ = .ok (x, at') → at' ≤ k → P (bs.take k) at_ = .ok (x, at')) ∧
  (∀ bs k at_ x at', k ≤ bs.length → at_ ≤ k → P bs at_ = .ok (x, at') → k < at' → ∃ f, P (bs.take k) at_ = .error f ∧ f ≤ k) ∧
  (∀ bs k at_ e, k ≤ bs.length → at_ ≤ k → P bs at_ = .error e → ∃ f, P (bs.take k) at_ = .error f ∧ f ≤ e)
theorem LocP.pure {α : Type} (x : α) : LocP (fun _ => Pr.pure_ x) := by
  refine ⟨fun bs a y a' h => ?_, fun bs a e h => (by cases h), fun bs k a y a' _ _ h _ => h, fun bs k a y a' _ h1 h h2 => ?_, fun bs k a e _ _ h => (by cases h)⟩
  · obtain ⟨_, rfl⟩ := pure_inv h; exact Nat.le_refl _
  · obtain ⟨_, rfl⟩ := pure_inv h; omega
theorem bind_fault {α β : Type} {p : Pr α} {f : α → Pr β} {at_ e : Nat} (h : p.bind_ f at_ = .error e) : p at_ = .error e ∨ ∃ a at1, p at_ = .ok (a, at1) ∧ f a at1 = .error e := by
  unfold Pr.bind_ at h
  cases hp : p at_ with
  | error e' => rw [hp] at h; injection h with h; exact .inl (by rw [h])
  | ok q => rw [hp] at h; exact .inr ⟨q.1, q.2, rfl, h⟩
theorem LocP.bind {α β : Type} {P : List Nat → Pr α} {F : α → List Nat → Pr β} (h : LocP P) (hF : ∀ a, LocP (F a)) : LocP (fun bs => (P bs).bind_ fun a => F a bs) := by
  obtain ⟨h1, h2, h3, h4, h5⟩ := h
  refine ⟨fun bs a y a' h => ?_, fun bs a e h => ?_, fun bs k a y a' hk ha h hle => ?_, fun bs k a y a' hk ha h hlt => ?_, fun bs k a e hk ha h => ?_⟩
  · obtain ⟨x, a1, k1, k2⟩ := bind_inv h
    exact Nat.le_trans (h1 _ _ _ _ k1) ((hF x).1 _ _ _ _ k2)
  · rcases bind_fault h with h | ⟨x, a1, k1, k2⟩
    · exact h2 _ _ _ h
    · exact Nat.le_trans (h1 _ _ _ _ k1) ((hF x).2.1 _ _ _ k2)
  · obtain ⟨x, a1, k1, k2⟩ := bind_inv h
    have hle1 := (hF x).1 _ _ _ _ k2
    have k3 := h3 bs k a x a1 hk ha k1 (by omega)
    show (P (bs.take k)).bind_ (fun x => F x (bs.take k)) a = _
    rw [bind_ok k3]
    exact (hF x).2.2.1 bs k a1 y a' hk (by omega) k2 hle
  · obtain ⟨x, a1, k1, k2⟩ := bind_inv h
    show ∃ f, (P (bs.take k)).bind_ (fun x => F x (bs.take k)) a = .error f ∧ f ≤ k
    by_cases hc : a1 ≤ k
    · rw [bind_ok (h3 bs k a x a1 hk ha k1 hc)]
      exact (hF x).2.2.2.1 bs k a1 y a' hk hc k2 hlt
    · obtain ⟨f, k3, k4⟩ := h4 bs k a x a1 hk ha k1 (by omega)
      exact ⟨f, bind_error k3, k4⟩
  · show ∃ f, (P (bs.take k)).bind_ (fun x => F x (bs.take k)) a = .error f ∧ f ≤ e
    rcases bind_fault h with h | ⟨x, a1, k1, k2⟩
    · obtain ⟨f, k3, k4⟩ := h5 bs k a e hk ha h
      exact ⟨f, bind_error k3, k4⟩
    · by_cases hc : a1 ≤ k
      · rw [bind_ok (h3 bs k a x a1 hk ha k1 hc)]
        exact (hF x).2.2.2.2 bs k a1 e hk hc k2
      · obtain ⟨f, k3, k4⟩ := h4 bs k a x a1 hk ha k1 (by omega)
        exact ⟨f, bind_error k3, by have := (hF x).2.1 _ _ _ k2; omega⟩
theorem numFrom_take : ∀ (fuel i : Nat) (l : List Nat) (j : Nat), numFrom fuel i (l.take j) = none ∨ numFrom fuel i (l.take j) = numFrom fuel i l
  | 0, _, _, _ => .inl rfl
  | _ + 1, _, [], j => by simp
  | fuel + 1, i, c :: l, 0 => .inl rfl
  | fuel + 1, i, c :: l, j + 1 => by
    rw [List.take_succ_cons]
    unfold numFrom
    split
    · exact .inl rfl
    split
    · exact .inr rfl
    rcases numFrom_take fuel (i + 1) l j with h | h
    · rw [h]; exact .inl rfl
    · rw [h]; exact .inr rfl
theorem numFrom_short : ∀ (fuel i : Nat) (l : List Nat) (j n k : Nat), numFrom fuel i l = some (n, k) → k ≤ j → numFrom fuel i (l.take j) = some (n, k)
  | 0, _, _, _, _, _, h, _ => by cases h
  | _ + 1, _, [], _, _, _, h, _ => by cases h
  | fuel + 1, i, c :: l, 0, n, k, h, hk => by
    have := numFrom_len _ _ _ _ _ h
    omega
  | fuel + 1, i, c :: l, j + 1, n, k, h, hk => by
    rw [List.take_succ_cons]
    unfold numFrom at h ⊢
    split at h
    · cases h
    rename_i hno
    rw [if_neg hno]
    split at h
    · rename_i hlt; rw [if_pos hlt]; exact h
    · rename_i hge
      rw [if_neg hge]
      obtain ⟨⟨n', k'⟩, h1, h2⟩ := Option.map_eq_some_iff.1 h
      injection h2 with h2 h3
      rw [numFrom_short fuel (i + 1) l j n' k' h1 (by omega)]
      simp only [Option.map_some]
      rw [h2, h3]
theorem drop_take (bs : List Nat) (k a : Nat) : (bs.take k).drop a = (bs.drop a).take (k - a) := by
  rw [List.drop_take]
theorem num_loc : LocP numP := by
  refine ⟨fun bs a x a' h => by have := numP_ok h; omega, fun bs a e h => ?_, fun bs k a x a' hk ha h hle => ?_, fun bs k a x a' hk ha h hlt => ?_, fun bs k a e hk ha h => ?_⟩
  · unfold numP at h
    split at h
    · injection h with h; omega
    · cases h
  · unfold numP at h ⊢
    split at h
    · cases h
    · rename_i n j hj
      injection h with h; injection h with h1 h2
      rw [drop_take, numFrom_short _ _ _ _ _ _ hj (by omega)]
      simp only
      rw [h1, h2]
  · unfold numP at h ⊢
    split at h
    · cases h
    · rename_i n j hj
      injection h with h; injection h with h1 h2
      rw [drop_take]
      rcases numFrom_take 10 0 (bs.drop a) (k - a) with h3 | h3
      · rw [h3]; exact ⟨a, rfl, ha⟩
      · have h4 := h3.trans hj
        have := (numFrom_len _ _ _ _ _ h4).2
        rw [List.length_take] at this
        omega
  · unfold numP at h ⊢
    split at h
    · rename_i hj
      injection h with h
      subst h
      rw [drop_take]
      rcases numFrom_take 10 0 (bs.drop a) (k - a) with h3 | h3
      · rw [h3]; exact ⟨a, rfl, Nat.le_refl _⟩
      · rw [h3, hj]; exact ⟨a, rfl, Nat.le_refl _⟩
    · cases h
theorem upto_inv {bs : List Nat} {most a n a' : Nat} (h : uptoP bs most a = .ok (n, a')) : numP bs a = .ok (n, a') ∧ n ≤ most := by
  unfold uptoP at h
  cases hn : numP bs a with
  | error e => rw [hn] at h; cases h
  | ok q =>
    rw [hn] at h
    simp only at h
    split at h
    · cases h
    · rename_i hle
      injection h with h; injection h with h1 h2
      refine ⟨by rw [← h1, ← h2], by omega⟩
theorem upto_of {bs : List Nat} {most a n a' : Nat} (h : numP bs a = .ok (n, a')) (hm : n ≤ most) : uptoP bs most a = .ok (n, a') := by
  unfold uptoP; rw [h]; simp only; rw [if_neg (by omega)]
theorem upto_of_error {bs : List Nat} {most a e : Nat} (h : numP bs a = .error e) : uptoP bs most a = .error e := by
  unfold uptoP; rw [h]
theorem num_error {bs : List Nat} {a e : Nat} (h : numP bs a = .error e) : e = a := by
  unfold numP at h
  split at h
  · injection h with h; exact h.symm
  · cases h
theorem upto_error {bs : List Nat} {most a e : Nat} (h : uptoP bs most a = .error e) : e = a := by
  unfold uptoP at h
  cases hn : numP bs a with
  | error e' => rw [hn] at h; injection h with h; rw [← h]; exact num_error hn
  | ok q =>
    rw [hn] at h
    simp only at h
    split at h
    · injection h with h; exact h.symm
    · cases h
theorem upto_loc (most : Nat) : LocP (fun bs => uptoP bs most) := by
  obtain ⟨n1, n2, n3, n4, n5⟩ := num_loc
  refine ⟨fun bs a x a' h => n1 _ _ _ _ (upto_inv h).1, fun bs a e h => by rw [upto_error h]; exact Nat.le_refl _, fun bs k a x a' hk ha h hle => upto_of (n3 bs k a x a' hk ha (upto_inv h).1 hle) (upto_inv h).2, fun bs k a x a' hk ha h hlt => ?_, fun bs k a e hk ha h => ?_⟩
  · obtain ⟨f, h1, h2⟩ := n4 bs k a x a' hk ha (upto_inv h).1 hlt
    exact ⟨f, upto_of_error h1, h2⟩
  · have he := upto_error h
    subst he
    replace h : uptoP bs most e = .error e := h
    show ∃ f, uptoP (bs.take k) most e = .error f ∧ f ≤ e
    cases hq : uptoP (bs.take k) most e with
    | error f => exact ⟨f, rfl, by rw [upto_error hq]; exact Nat.le_refl _⟩
    | ok q =>
      obtain ⟨n, a'⟩ := q
      exfalso
      obtain ⟨h1, h2⟩ := upto_inv hq
      cases hw : numP bs e with
      | error e' =>
        obtain ⟨f, h3, _⟩ := n5 bs k e e' hk ha hw
        rw [h1] at h3; cases h3
      | ok q' =>
        obtain ⟨n', a''⟩ := q'
        by_cases hle : a'' ≤ k
        · have h3 := n3 bs k e n' a'' hk ha hw hle
          rw [h1] at h3
          injection h3 with h3; injection h3 with h3 h4
          subst h3 h4
          rw [upto_of hw h2] at h; cases h
        · obtain ⟨f, h3, _⟩ := n4 bs k e n' a'' hk ha hw (by omega)
          rw [h1] at h3; cases h3
/-- A parser's answer turned by a function of the value alone. -/
theorem LocP.map {α β : Type} {P : List Nat → Pr α} (h : LocP P) (g : α → β) {Q : List Nat → Pr β} (hQ : ∀ bs a, Q bs a = (P bs).bind_ (fun x => Pr.pure_ (g x)) a) : LocP Q := by
  have : Q = fun bs => (P bs).bind_ fun x => Pr.pure_ (g x) := by funext bs a; exact hQ bs a
  rw [this]
  exact LocP.bind h fun x => LocP.pure (g x)
theorem small_loc (least : Int) : LocP (fun bs => smallP bs least) := (upto_loc _).map (fun n => (n : Int) + least) fun bs a => by
  unfold smallP Pr.bind_
  cases uptoP bs (2147483647 - least).toNat a <;> rfl
theorem flag_loc : LocP flagP := (upto_loc 1).map (fun n => decide (n = 1)) fun bs a => by
  unfold flagP Pr.bind_
  cases uptoP bs 1 a <;> rfl
theorem rep_loc {α : Type} {P : List Nat → Pr α} (h : LocP P) : ∀ n : Nat, LocP (fun bs => repP (P bs) n)
  | 0 => LocP.pure []
  | n + 1 => LocP.bind (F := fun a bs => (repP (P bs) n).bind_ fun l => Pr.pure_ (a :: l)) h fun a => LocP.bind (F := fun l _ => Pr.pure_ (a :: l)) (rep_loc h n) fun l => LocP.pure _
theorem list_loc {α : Type} {P : List Nat → Pr α} (h : LocP P) : LocP (fun bs => listP bs (P bs)) :=
  LocP.bind (P := fun bs => smallP bs 0) (F := fun n bs => repP (P bs) n.toNat) (small_loc 0) fun n => rep_loc h _
theorem ints_loc : LocP (fun bs => listP bs (smallP bs 0)) := list_loc (small_loc 0)
theorem shape_loc : LocP shapeP :=
  LocP.bind (P := fun bs => smallP bs 0) (F := fun k bs => (listP bs (smallP bs 0)).bind_ fun l => (smallP bs 0).bind_ fun r => Pr.pure_ (⟨k, l, r⟩ : ShapeD)) (small_loc 0) fun k =>
    LocP.bind (P := fun bs => listP bs (smallP bs 0)) (F := fun l bs => (smallP bs 0).bind_ fun r => Pr.pure_ (⟨k, l, r⟩ : ShapeD)) ints_loc fun l => LocP.bind (P := fun bs => smallP bs 0) (F := fun r _ => Pr.pure_ (⟨k, l, r⟩ : ShapeD)) (small_loc 0) fun r => LocP.pure _
theorem case_loc : LocP caseP :=
  LocP.bind (P := flagP) (F := fun s bs => (smallP bs 0).bind_ fun c => (smallP bs (-1)).bind_ fun v => (smallP bs 0).bind_ fun t => Pr.pure_ (⟨s, c, v, t⟩ : CaseD)) flag_loc fun s =>
    LocP.bind (P := fun bs => smallP bs 0) (F := fun c bs => (smallP bs (-1)).bind_ fun v => (smallP bs 0).bind_ fun t => Pr.pure_ (⟨s, c, v, t⟩ : CaseD)) (small_loc 0) fun c =>
      LocP.bind (P := fun bs => smallP bs (-1)) (F := fun v bs => (smallP bs 0).bind_ fun t => Pr.pure_ (⟨s, c, v, t⟩ : CaseD)) (small_loc (-1)) fun v => LocP.bind (P := fun bs => smallP bs 0) (F := fun t _ => Pr.pure_ (⟨s, c, v, t⟩ : CaseD)) (small_loc 0) fun t => LocP.pure _
theorem instr_loc : LocP instrP :=
  LocP.bind (P := fun bs => smallP bs 0) (F := fun o bs => (smallP bs (-1)).bind_ fun a => (smallP bs (-1)).bind_ fun b => (numP bs).bind_ fun n => (listP bs (caseP bs)).bind_ fun l => Pr.pure_ (⟨o, a, b, n, l⟩ : InstrD)) (small_loc 0) fun o =>
    LocP.bind (P := fun bs => smallP bs (-1)) (F := fun a bs => (smallP bs (-1)).bind_ fun b => (numP bs).bind_ fun n => (listP bs (caseP bs)).bind_ fun l => Pr.pure_ (⟨o, a, b, n, l⟩ : InstrD)) (small_loc (-1)) fun a =>
      LocP.bind (P := fun bs => smallP bs (-1)) (F := fun b bs => (numP bs).bind_ fun n => (listP bs (caseP bs)).bind_ fun l => Pr.pure_ (⟨o, a, b, n, l⟩ : InstrD)) (small_loc (-1)) fun b =>
        LocP.bind (P := numP) (F := fun n bs => (listP bs (caseP bs)).bind_ fun l => Pr.pure_ (⟨o, a, b, n, l⟩ : InstrD)) num_loc fun n => LocP.bind (P := fun bs => listP bs (caseP bs)) (F := fun l _ => Pr.pure_ (⟨o, a, b, n, l⟩ : InstrD)) (list_loc case_loc) fun l => LocP.pure _
theorem func_loc : LocP funcP :=
  LocP.bind (P := fun bs => smallP bs 0) (F := fun p bs => (listP bs (smallP bs 0)).bind_ fun l => (listP bs (smallP bs 0)).bind_ fun c => (smallP bs 0).bind_ fun r => (listP bs (instrP bs)).bind_ fun k => Pr.pure_ (⟨p, l, c, r, k⟩ : FuncD)) (small_loc 0) fun p =>
    LocP.bind (P := fun bs => listP bs (smallP bs 0)) (F := fun l bs => (listP bs (smallP bs 0)).bind_ fun c => (smallP bs 0).bind_ fun r => (listP bs (instrP bs)).bind_ fun k => Pr.pure_ (⟨p, l, c, r, k⟩ : FuncD)) ints_loc fun l =>
      LocP.bind (P := fun bs => listP bs (smallP bs 0)) (F := fun c bs => (smallP bs 0).bind_ fun r => (listP bs (instrP bs)).bind_ fun k => Pr.pure_ (⟨p, l, c, r, k⟩ : FuncD)) ints_loc fun c =>
        LocP.bind (P := fun bs => smallP bs 0) (F := fun r bs => (listP bs (instrP bs)).bind_ fun k => Pr.pure_ (⟨p, l, c, r, k⟩ : FuncD)) (small_loc 0) fun r => LocP.bind (P := fun bs => listP bs (instrP bs)) (F := fun k _ => Pr.pure_ (⟨p, l, c, r, k⟩ : FuncD)) (list_loc instr_loc) fun k => LocP.pure _
theorem mod_loc : LocP modP :=
  LocP.bind (P := fun bs => listP bs (shapeP bs)) (F := fun t bs => (listP bs (funcP bs)).bind_ fun f => Pr.pure_ (⟨t, f⟩ : ModD)) (list_loc shape_loc) fun t =>
    LocP.bind (P := fun bs => listP bs (funcP bs)) (F := fun f _ => Pr.pure_ (⟨t, f⟩ : ModD)) (list_loc func_loc) fun f => LocP.pure _

/-! ## All bytes -/
theorem read_of_enc {m : ModD} {l r : List Nat} (hm : okMod m) (h : encMod m = some l) : modP (l ++ r) 0 = .ok (m, l.length) := by
  have := mod_wr m hm l h (l ++ r) 0 r rfl
  simpa using this
theorem read_whole {m : ModD} {l : List Nat} (hm : okMod m) (h : encMod m = some l) : readP l = .ok m := by
  unfold readP
  have := read_of_enc (r := []) hm h
  rw [List.append_nil] at this
  rw [this]
  simp
theorem read_more {m : ModD} {l : List Nat} (hm : okMod m) (h : encMod m = some l) : readP (l ++ [0]) = .error l.length := by
  unfold readP
  rw [read_of_enc hm h]
  simp
theorem read_cut {m : ModD} {l : List Nat} {k : Nat} (hm : okMod m) (h : encMod m = some l) (hk : k < l.length) : ∃ f, readP (l.take k) = .error f := by
  have h1 := read_of_enc (r := []) hm h
  rw [List.append_nil] at h1
  obtain ⟨f, h2, _⟩ := mod_loc.2.2.2.1 l k 0 m l.length (by omega) (Nat.zero_le _) h1 hk
  exact ⟨f, by unfold readP; rw [h2]⟩
theorem read_enc {bs : List Nat} {m : ModD} (hb : ∀ c ∈ bs, c < 256) (h : readP bs = .ok m) : encMod m = some bs := by
  unfold readP at h
  cases hm : modP bs 0 with
  | error e => rw [hm] at h; cases h
  | ok q =>
    obtain ⟨m', a⟩ := q
    rw [hm] at h
    simp only at h
    split at h
    · cases h
    · rename_i hlen
      injection h with h
      subst h
      obtain ⟨l, h1, h2⟩ := mod_rd bs 0 m' a hb hm
      rw [List.drop_eq_nil_of_le (by omega : bs.length ≤ a)] at h2
      simp at h2
      rw [h1, h2]
/-- A beginning is never at fault further on than the whole. -/
theorem read_part {bs : List Nat} {k f : Nat} (hk : k ≤ bs.length) (h : readP (bs.take k) = .error f) : f ≤ (match readP bs with | .error f0 => f0 | .ok _ => bs.length) := by
  obtain ⟨n1, n2, n3, n4, n5⟩ := mod_loc
  have hlen : (bs.take k).length = k := by simp; omega
  cases hm : modP bs 0 with
  | error e =>
    obtain ⟨f', h1, h2⟩ := n5 bs k 0 e hk (Nat.zero_le _) hm
    unfold readP at h ⊢
    rw [h1] at h
    rw [hm]
    injection h with h
    simp only
    omega
  | ok q =>
    obtain ⟨m, a⟩ := q
    by_cases hle : a ≤ k
    · have h1 := n3 bs k 0 m a hk (Nat.zero_le _) hm hle
      unfold readP at h ⊢
      rw [h1] at h
      rw [hm]
      simp only [hlen] at h ⊢
      split at h
      · rename_i hlt
        injection h with h
        rw [if_pos (by omega)]
        simp only
        omega
      · cases h
    · obtain ⟨f', h1, h2⟩ := n4 bs k 0 m a hk (Nat.zero_le _) hm (by omega)
      unfold readP at h ⊢
      rw [h1] at h
      rw [hm]
      injection h with h
      simp only
      by_cases hlt : a < bs.length
      · rw [if_pos hlt]; simp only; omega
      · rw [if_neg hlt]; simp only; omega
theorem enc_pos {m : ModD} {l : List Nat} (h : encMod m = some l) : 0 < l.length := by
  obtain ⟨x, y, h1, _, rfl⟩ := seqO_some h
  obtain ⟨x1, y1, h2, _, rfl⟩ := seqO_some h1
  unfold encI at h2
  split at h2
  · injection h2 with h2
    subst h2
    unfold encN
    split <;> simp <;> omega
  · cases h2
end Go.Proofs.Ytfmhedpjkpaohaa
