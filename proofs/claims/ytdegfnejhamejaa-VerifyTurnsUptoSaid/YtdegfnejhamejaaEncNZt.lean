/-
  The plain side of writing numbers: what bytes a number, a list of numbers, an instruction and a module are.
-/
namespace Go.Proofs.Ytdegfnejhamejaa

/-- Seven bits a byte, the lowest first. -/
def encN (x : Nat) : List Nat := if 128 ≤ x then (x % 128 + 128) :: encN (x / 128) else [x]
termination_by x
decreasing_by omega
theorem encN_ge {x : Nat} (h : 128 ≤ x) : encN x = (x % 128 + 128) :: encN (x / 128) := by rw [encN, if_pos h]
theorem encN_lt {x : Nat} (h : x < 128) : encN x = [x] := by rw [encN, if_neg (by omega)]
theorem encN_len : ∀ (k x : Nat), x < 128 ^ (k + 1) → (encN x).length ≤ k + 1
  | 0, x, h => by rw [encN_lt (by simpa using h)]; simp
  | k + 1, x, h => by
    by_cases hx : 128 ≤ x
    · rw [encN_ge hx, List.length_cons]
      have := encN_len k (x / 128) (by rw [Nat.div_lt_iff_lt_mul (by omega)]; rw [Nat.pow_succ] at h; omega)
      omega
    · rw [encN_lt (by omega)]; simp

structure ShapeD where
  kind : Int
  list : List Int
  res : Int
structure CaseD where
  send : Bool
  chan : Int
  val : Int
  to : Int
structure InstrD where
  op : Int
  a : Int
  b : Int
  n : Nat
  cases : List CaseD
structure FuncD where
  params : Int
  locals : List Int
  caps : List Int
  res : Int
  code : List InstrD
structure ModD where
  types : List ShapeD
  funcs : List FuncD

/-- A number from 'least' on; none: it can't be written. -/
def encI (least n : Int) : Option (List Nat) := if least ≤ n ∧ n ≤ 2147483647 then some (encN (n - least).toNat) else none
def seqO (a b : Option (List Nat)) : Option (List Nat) := match a, b with
  | some x, some y => some (x ++ y)
  | _, _ => none
def allO {α : Type} (f : α → Option (List Nat)) : List α → Option (List Nat)
  | [] => some []
  | x :: l => seqO (f x) (allO f l)
def encL {α : Type} (f : α → Option (List Nat)) (l : List α) : Option (List Nat) := seqO (encI 0 l.length) (allO f l)
def encShape (s : ShapeD) : Option (List Nat) := seqO (encI 0 s.kind) (seqO (encL (encI 0) s.list) (encI 0 s.res))
def encFlag (b : Bool) : Option (List Nat) := some (if b then [1] else [0])
def encCase (c : CaseD) : Option (List Nat) := seqO (encFlag c.send) (seqO (encI 0 c.chan) (seqO (encI (-1) c.val) (encI 0 c.to)))
def encInstr (x : InstrD) : Option (List Nat) := seqO (encI 0 x.op) (seqO (encI (-1) x.a) (seqO (encI (-1) x.b) (seqO (some (encN x.n)) (encL encCase x.cases))))
def encFunc (f : FuncD) : Option (List Nat) := seqO (encI 0 f.params) (seqO (encL (encI 0) f.locals) (seqO (encL (encI 0) f.caps) (seqO (encI 0 f.res) (encL encInstr f.code))))
def encMod (m : ModD) : Option (List Nat) := seqO (encL encShape m.types) (encL encFunc m.funcs)

theorem seqO_nil_l (a : Option (List Nat)) : seqO (some []) a = a := by cases a <;> simp [seqO]
theorem seqO_nil_r (a : Option (List Nat)) : seqO a (some []) = a := by cases a <;> simp [seqO]
theorem seqO_assoc (a b c : Option (List Nat)) : seqO (seqO a b) c = seqO a (seqO b c) := by cases a <;> cases b <;> cases c <;> simp [seqO]
theorem allO_append {α : Type} (f : α → Option (List Nat)) (l r : List α) : allO f (l ++ r) = seqO (allO f l) (allO f r) := by
  induction l with
  | nil => simp [allO, seqO_nil_l]
  | cons x l ih => simp [allO, ih, seqO_assoc]
theorem allO_take {α : Type} (f : α → Option (List Nat)) (l : List α) (k : Nat) (h : k < l.length) : allO f (l.take (k + 1)) = seqO (allO f (l.take k)) (f l[k]) := by
  rw [List.take_succ_eq_append_getElem h, allO_append]
  simp [allO, seqO_nil_r]
end Go.Proofs.Ytdegfnejhamejaa
