/-
  The plain laws of reading and writing: what was written is read, what was read is written, and what a beginning is read as.
-/
import Derived.Test.YtdegfnejhamejaaReadNZt
namespace Go.Proofs.Ytdegfnejhamejaa
set_option linter.unusedVariables false

theorem seqO_some {a b : Option (List Nat)} {l : List Nat} (h : seqO a b = some l) : ∃ x y, a = some x ∧ b = some y ∧ l = x ++ y := by
  cases a with
  | none => cases h
  | some x =>
    cases b with
    | none => cases h
    | some y => injection h with h; exact ⟨x, y, rfl, rfl, h.symm⟩
theorem bind_ok {α β : Type} {p : Pr α} {f : α → Pr β} {at_ at1 : Nat} {a : α} (h : p at_ = .ok (a, at1)) : p.bind_ f at_ = f a at1 := by
  unfold Pr.bind_; rw [h]

/-! ## What was written is read -/
/-- P reads the bytes e as x. -/
def WrR {α : Type} (P : List Nat → Pr α) (e : Option (List Nat)) (x : α) : Prop := ∀ l, e = some l → ∀ bs at_ r, bs.drop at_ = l ++ r → P bs at_ = .ok (x, at_ + l.length)
theorem WrR.pure {α : Type} (x : α) : WrR (fun _ => Pr.pure_ x) (some []) x := by
  intro l hl bs at_ r _
  injection hl with hl
  subst hl
  rfl
theorem WrR.bind {α β : Type} {P : List Nat → Pr α} {F : α → List Nat → Pr β} {e e' : Option (List Nat)} {x : α} {y : β} (h : WrR P e x) (h' : WrR (F x) e' y) : WrR (fun bs => (P bs).bind_ fun a => F a bs) (seqO e e') y := by
  intro l hl bs at_ r hd
  obtain ⟨l1, l2, h1, h2, rfl⟩ := seqO_some hl
  have k1 := h l1 h1 bs at_ (l2 ++ r) (by rw [hd, List.append_assoc])
  have hd2 : bs.drop (at_ + l1.length) = l2 ++ r := by
    rw [← List.drop_drop, hd, List.append_assoc, List.drop_left]
  have k2 := h' l2 h2 bs _ r hd2
  show (P bs).bind_ (fun a => F a bs) at_ = _
  rw [bind_ok k1, k2, List.length_append, Nat.add_assoc]
theorem WrR.last {α β : Type} {P : List Nat → Pr α} {e : Option (List Nat)} {x : α} (g : α → β) (h : WrR P e x) : WrR (fun bs => (P bs).bind_ fun a => Pr.pure_ (g a)) e (g x) := by
  have := WrR.bind (F := fun a _ => Pr.pure_ (g a)) h (WrR.pure (g x))
  rwa [seqO_nil_r] at this
theorem numFrom_enc : ∀ (fuel i x : Nat) (r : List Nat), fuel + i = 10 → (0 < x ∨ i = 0) → x * 128 ^ i < 18446744073709551616 → i ≤ 9 → numFrom fuel i (encN x ++ r) = some (x * 128 ^ i, (encN x).length)
  | 0, i, x, r, hf, _, _, hi => by omega
  | fuel + 1, i, x, r, hf, hx, hlt, hi => by
    have h9 : i = 9 → x ≤ 1 := by
      rintro rfl
      rcases Nat.lt_or_ge 1 x with h | h
      · have : 2 * 128 ^ 9 ≤ x * 128 ^ 9 := Nat.mul_le_mul_right _ h
        omega
      · exact h
    by_cases hb : 128 ≤ x
    · have hi8 : i ≤ 8 := by
        rcases Nat.lt_or_ge i 9 with h | h
        · omega
        · have := h9 (by omega); omega
      rw [encN_ge hb, List.cons_append]
      unfold numFrom
      rw [if_neg (by omega), if_neg (by omega)]
      have hdm := Nat.div_add_mod x 128
      have hpow : 128 ^ (i + 1) = 128 * 128 ^ i := by rw [Nat.pow_succ, Nat.mul_comm]
      have hsum : x % 128 * 128 ^ i + x / 128 * 128 ^ (i + 1) = x * 128 ^ i := by
        rw [hpow]
        rw [show x / 128 * (128 * 128 ^ i) = (128 * (x / 128)) * 128 ^ i by rw [← Nat.mul_assoc, Nat.mul_comm (x / 128) 128]]
        rw [← Nat.add_mul]
        rw [show x % 128 + 128 * (x / 128) = x by omega]
      have ih := numFrom_enc fuel (i + 1) (x / 128) r (by omega) (.inl (by omega)) (by omega) (by omega)
      rw [ih]
      simp only [Option.map_some, List.length_cons]
      rw [show (x % 128 + 128) % 128 = x % 128 by omega, hsum]
    · have hb' : x < 128 := by omega
      rw [encN_lt hb']
      simp only [List.cons_append, List.nil_append]
      unfold numFrom
      rw [if_neg (by omega), if_pos hb']
      rfl
theorem num_wr {x : Nat} (hx : x < 18446744073709551616) : WrR numP (some (encN x)) x := by
  intro l hl bs at_ r hd
  injection hl with hl
  subst hl
  unfold numP
  rw [hd, numFrom_enc 10 0 x r (by omega) (.inr rfl) (by simpa using hx) (by omega)]
  simp
theorem upto_wr {x most : Nat} (hx : x ≤ most) (hm : most < 18446744073709551616) : WrR (fun bs => uptoP bs most) (some (encN x)) x := by
  intro l hl bs at_ r hd
  show uptoP bs most at_ = _
  unfold uptoP
  rw [num_wr (by omega) l hl bs at_ r hd]
  simp only
  rw [if_neg (by omega)]
theorem small_wr {least n : Int} (h0 : -1 ≤ least) (h1 : least ≤ 0) : WrR (fun bs => smallP bs least) (encI least n) n := by
  intro l hl bs at_ r hd
  unfold encI at hl
  split at hl
  · rename_i hn
    injection hl with hl
    show smallP bs least at_ = _
    unfold smallP
    have hu : uptoP bs (2147483647 - least).toNat at_ = _ := upto_wr (x := (n - least).toNat) (most := (2147483647 - least).toNat) (by omega) (by omega) l (by rw [hl]) bs at_ r hd
    rw [hu]
    simp only
    rw [show ((n - least).toNat : Int) + least = n by omega]
  · cases hl
theorem flag_wr (b : Bool) : WrR flagP (encFlag b) b := by
  intro l hl bs at_ r hd
  unfold encFlag at hl
  show flagP bs at_ = _
  unfold flagP
  cases b with
  | true =>
    have he : some (encN 1) = some l := by rw [encN_lt (by omega)]; exact hl
    have hu : uptoP bs 1 at_ = _ := upto_wr (x := 1) (most := 1) (by omega) (by omega) l he bs at_ r hd
    rw [hu]
    rfl
  | false =>
    have he : some (encN 0) = some l := by rw [encN_lt (by omega)]; exact hl
    have hu : uptoP bs 1 at_ = _ := upto_wr (x := 0) (most := 1) (by omega) (by omega) l he bs at_ r hd
    rw [hu]
    rfl
theorem rep_wr {α : Type} {P : List Nat → Pr α} {enc : α → Option (List Nat)} : ∀ (l : List α), (∀ x ∈ l, WrR P (enc x) x) → WrR (fun bs => repP (P bs) l.length) (allO enc l) l
  | [], _ => WrR.pure []
  | x :: l, h => by
    have h1 := h x (by simp)
    have h2 := rep_wr l fun y hy => h y (by simp [hy])
    exact WrR.bind (F := fun a bs => (repP (P bs) l.length).bind_ fun l => Pr.pure_ (a :: l)) h1 (h2.last fun l => x :: l)
theorem list_wr {α : Type} {P : List Nat → Pr α} {enc : α → Option (List Nat)} (l : List α) (h : ∀ x ∈ l, WrR P (enc x) x) : WrR (fun bs => listP bs (P bs)) (encL enc l) l :=
  WrR.bind (P := fun bs => smallP bs 0) (F := fun n bs => repP (P bs) n.toNat) (small_wr (by omega) (by omega)) (by simpa using rep_wr l h)
theorem ints_wr (l : List Int) : WrR (fun bs => listP bs (smallP bs 0)) (encL (encI 0) l) l := list_wr (P := fun bs => smallP bs 0) l fun x _ => small_wr (by omega) (by omega)
theorem shape_wr (s : ShapeD) : WrR shapeP (encShape s) s :=
  WrR.bind (P := fun bs => smallP bs 0) (F := fun k bs => (listP bs (smallP bs 0)).bind_ fun l => (smallP bs 0).bind_ fun r => Pr.pure_ (⟨k, l, r⟩ : ShapeD)) (small_wr (by omega) (by omega))
    (WrR.bind (P := fun bs => listP bs (smallP bs 0)) (F := fun l bs => (smallP bs 0).bind_ fun r => Pr.pure_ (⟨s.kind, l, r⟩ : ShapeD)) (ints_wr _) (WrR.last (P := fun bs => smallP bs 0) (fun r => (⟨s.kind, s.list, r⟩ : ShapeD)) (small_wr (by omega) (by omega))))
theorem case_wr (c : CaseD) : WrR caseP (encCase c) c :=
  WrR.bind (P := flagP) (F := fun s bs => (smallP bs 0).bind_ fun c => (smallP bs (-1)).bind_ fun v => (smallP bs 0).bind_ fun t => Pr.pure_ (⟨s, c, v, t⟩ : CaseD)) (flag_wr _)
    (WrR.bind (P := fun bs => smallP bs 0) (F := fun k bs => (smallP bs (-1)).bind_ fun v => (smallP bs 0).bind_ fun t => Pr.pure_ (⟨c.send, k, v, t⟩ : CaseD)) (small_wr (by omega) (by omega))
      (WrR.bind (P := fun bs => smallP bs (-1)) (F := fun v bs => (smallP bs 0).bind_ fun t => Pr.pure_ (⟨c.send, c.chan, v, t⟩ : CaseD)) (small_wr (by omega) (by omega))
        (WrR.last (P := fun bs => smallP bs 0) (fun t => (⟨c.send, c.chan, c.val, t⟩ : CaseD)) (small_wr (by omega) (by omega)))))
theorem instr_wr (x : InstrD) (hn : x.n < 18446744073709551616) : WrR instrP (encInstr x) x :=
  WrR.bind (P := fun bs => smallP bs 0) (F := fun o bs => (smallP bs (-1)).bind_ fun a => (smallP bs (-1)).bind_ fun b => (numP bs).bind_ fun n => (listP bs (caseP bs)).bind_ fun l => Pr.pure_ (⟨o, a, b, n, l⟩ : InstrD)) (small_wr (by omega) (by omega))
    (WrR.bind (P := fun bs => smallP bs (-1)) (F := fun a bs => (smallP bs (-1)).bind_ fun b => (numP bs).bind_ fun n => (listP bs (caseP bs)).bind_ fun l => Pr.pure_ (⟨x.op, a, b, n, l⟩ : InstrD)) (small_wr (by omega) (by omega))
      (WrR.bind (P := fun bs => smallP bs (-1)) (F := fun b bs => (numP bs).bind_ fun n => (listP bs (caseP bs)).bind_ fun l => Pr.pure_ (⟨x.op, x.a, b, n, l⟩ : InstrD)) (small_wr (by omega) (by omega))
        (WrR.bind (P := numP) (F := fun n bs => (listP bs (caseP bs)).bind_ fun l => Pr.pure_ (⟨x.op, x.a, x.b, n, l⟩ : InstrD)) (num_wr hn)
          (WrR.last (P := fun bs => listP bs (caseP bs)) (fun l => (⟨x.op, x.a, x.b, x.n, l⟩ : InstrD)) (list_wr _ fun c _ => case_wr c)))))
def okFunc (f : FuncD) : Prop := ∀ x ∈ f.code, x.n < 18446744073709551616
def okMod (m : ModD) : Prop := ∀ f ∈ m.funcs, okFunc f
theorem func_wr (f : FuncD) (hf : okFunc f) : WrR funcP (encFunc f) f :=
  WrR.bind (P := fun bs => smallP bs 0) (F := fun p bs => (listP bs (smallP bs 0)).bind_ fun l => (listP bs (smallP bs 0)).bind_ fun c => (smallP bs 0).bind_ fun r => (listP bs (instrP bs)).bind_ fun k => Pr.pure_ (⟨p, l, c, r, k⟩ : FuncD)) (small_wr (by omega) (by omega))
    (WrR.bind (P := fun bs => listP bs (smallP bs 0)) (F := fun l bs => (listP bs (smallP bs 0)).bind_ fun c => (smallP bs 0).bind_ fun r => (listP bs (instrP bs)).bind_ fun k => Pr.pure_ (⟨f.params, l, c, r, k⟩ : FuncD)) (ints_wr _)
      (WrR.bind (P := fun bs => listP bs (smallP bs 0)) (F := fun c bs => (smallP bs 0).bind_ fun r => (listP bs (instrP bs)).bind_ fun k => Pr.pure_ (⟨f.params, f.locals, c, r, k⟩ : FuncD)) (ints_wr _)
        (WrR.bind (P := fun bs => smallP bs 0) (F := fun r bs => (listP bs (instrP bs)).bind_ fun k => Pr.pure_ (⟨f.params, f.locals, f.caps, r, k⟩ : FuncD)) (small_wr (by omega) (by omega))
          (WrR.last (P := fun bs => listP bs (instrP bs)) (fun k => (⟨f.params, f.locals, f.caps, f.res, k⟩ : FuncD)) (list_wr _ fun x hx => instr_wr x (hf x hx))))))
theorem mod_wr (m : ModD) (hm : okMod m) : WrR modP (encMod m) m :=
  WrR.bind (P := fun bs => listP bs (shapeP bs)) (F := fun t bs => (listP bs (funcP bs)).bind_ fun f => Pr.pure_ (⟨t, f⟩ : ModD)) (list_wr _ fun s _ => shape_wr s)
    (WrR.last (P := fun bs => listP bs (funcP bs)) (fun f => (⟨m.types, f⟩ : ModD)) (list_wr _ fun f hf => func_wr f (hm f hf)))

/-! ## What was read is written -/

/-! ## Beginnings -/

/-! ## All bytes -/
theorem read_of_enc {m : ModD} {l r : List Nat} (hm : okMod m) (h : encMod m = some l) : modP (l ++ r) 0 = .ok (m, l.length) := by
  have := mod_wr m hm l h (l ++ r) 0 r rfl
  simpa using this
theorem read_whole {m : ModD} {l : List Nat} (hm : okMod m) (h : encMod m = some l) : readP l = .ok m := by
  unfold readP
  have := read_of_enc (r := []) hm h
  rw [List.append_nil] at this
  rw [this]
  simp
end Go.Proofs.Ytdegfnejhamejaa
