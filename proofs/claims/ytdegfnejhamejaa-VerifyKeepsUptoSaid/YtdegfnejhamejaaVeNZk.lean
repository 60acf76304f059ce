/-
  Which instructions are right, in plain words: the checker as a step on lists of shapes; where a function and a module are wrong.
-/
import Derived.Test.YtdegfnejhamejaaFormNZk
import GoSem.Core.View
namespace Go.Proofs.Ytdegfnejhamejaa
open Go
set_option linter.unusedVariables false
set_option linter.unusedSimpArgs false

structure VSt where
  stack : List Int
  taken : List Int
  left : List Int

def kindN (T : List ShapeD) (t : Int) : Int := if 0 ≤ t then ((T[t.toNat]?).map (·.kind)).getD 0 else 0
def listN (T : List ShapeD) (t : Int) : List Int := ((T[t.toNat]?).map (·.list)).getD []
def resN (T : List ShapeD) (t : Int) : Int := ((T[t.toNat]?).map (·.res)).getD 0
def wholeB (k : Int) : Bool := decide (2 ≤ k) && decide (k ≤ 7)
def wrapN (k : Int) (n : Nat) : Int :=
  if k = 2 then IntKind.u64.wrap (IntKind.i8.wrap n) else if k = 3 then (n : Int) % 256 else if k = 4 then IntKind.u64.wrap (IntKind.i32.wrap n) else if k = 5 then (n : Int) % 4294967296 else n
def isB (k : Int) (n : Nat) : Bool := wholeB k && (wrapN k n == (n : Int))
def needN (b : Bool) (s : VSt) : Option VSt := if b = true then some s else none
def popN (s : VSt) : Option (Int × VSt) := (s.stack.getLast?).map fun t => (t, { stack := s.stack.dropLast, taken := s.taken ++ [t], left := s.left })
def pushN (t : Int) (s : VSt) : Option VSt := needN (decide ((s.stack.length : Int) + 1 ≤ 64)) { stack := s.stack ++ [t], taken := s.taken, left := s.left ++ [t] }
def wantN (t : Int) (s : VSt) : Option VSt := (popN s).bind fun us => needN (us.1 == t) us.2
def wantsR : List Int → VSt → Option VSt
  | [], s => some s
  | t :: l, s => (wantN t s).bind (wantsR l)
def wantsN (l : List Int) (s : VSt) : Option VSt := wantsR l.reverse s
def isKN (T : List ShapeD) (t k : Int) (s : VSt) : Option VSt := needN (kindN T t == k) s
def wholeN (T : List ShapeD) (t : Int) (s : VSt) : Option VSt := needN (wholeB (kindN T t)) s
def popsN (T : List ShapeD) (k : Int) (s : VSt) : Option (Int × VSt) := (popN s).bind fun us => (isKN T us.1 k us.2).map fun s1 => (us.1, s1)
def resS (t : Int) (s : VSt) : Option VSt := if 0 < t then pushN (t - 1) s else some s
def inB (i : Int) (n : Nat) : Bool := decide (0 ≤ i) && decide (i < (n : Int))
def localN (f : FuncD) (i : Int) (s : VSt) : Option VSt := needN (inB i f.locals.length) s
def placeN (f : FuncD) (i : Int) (s : VSt) : Option VSt := needN (inB i f.code.length) s
def locV (f : FuncD) (i : Int) : Int := f.locals.getD i.toNat 0
def fieldsN (x : InstrD) (a b n : Bool) (s : VSt) : Option VSt := needN (((a || (x.a == 0)) && (b || (x.b == 0))) && (n || ((x.n : Int) == 0)) && ((x.op == 32) || ((x.cases.length : Int) == 0))) s
/-- May values of a shape be compared? -/
def cmpF (T : List ShapeD) : Nat → Int → Bool
  | 0, _ => true
  | n + 1, t => if kindN T t = 9 ∨ kindN T t = 11 ∨ kindN T t = 13 then false else if kindN T t = 8 then (listN T t).all (cmpF T n) else true
def cmpN (T : List ShapeD) (t : Int) : Bool := cmpF T (t.toNat + 1) t
def headN (T : List ShapeD) (t : Int) : Int := (listN T t).getD 0 0

section
variable (m : ModD) (f : FuncD) (x : InstrD) (s : VSt)
def op1 : Option VSt := (fieldsN x true false true s).bind fun s => (wholeN m.types x.a s).bind fun s => (needN (isB (kindN m.types x.a) x.n) s).bind fun s => pushN x.a s
def op2 : Option VSt := (fieldsN x true false true s).bind fun s => (isKN m.types x.a 1 s).bind fun s => (needN (decide ((x.n : Int) ≤ 1)) s).bind fun s => pushN x.a s
def op7 : Option VSt := (fieldsN x true false false s).bind fun s => (needN (decide (0 ≤ x.a) && decide (x.a ≤ 8)) s).bind fun s => (popN s).bind fun r => (wholeN m.types r.1 r.2).bind fun s => (wantN r.1 s).bind fun s => pushN r.1 s
def op8 : Option VSt := (fieldsN x true false false s).bind fun s => (needN ((x.a == 0) || (x.a == 1)) s).bind fun s => (popN s).bind fun r => (wholeN m.types r.1 r.2).bind fun s => (popN s).bind fun q => (wholeN m.types q.1 q.2).bind fun s => pushN q.1 s
def op9 : Option VSt := (fieldsN x false true false s).bind fun s => (isKN m.types x.b 1 s).bind fun s => (popN s).bind fun r => (wholeN m.types r.1 r.2).bind fun s => (wantN r.1 s).bind fun s => pushN x.b s
def op10 : Option VSt := (fieldsN x false true false s).bind fun s => (isKN m.types x.b 1 s).bind fun s => (popN s).bind fun r => (needN (cmpN m.types r.1) r.2).bind fun s => (wantN r.1 s).bind fun s => pushN x.b s
def op11 : Option VSt := (fieldsN x false false false s).bind fun s => (popN s).bind fun r => (isKN m.types r.1 1 r.2).bind fun s => pushN r.1 s
def op12 : Option VSt := (fieldsN x true false false s).bind fun s => (wholeN m.types x.a s).bind fun s => (popN s).bind fun r => (wholeN m.types r.1 r.2).bind fun s => pushN x.a s
def op3 : Option VSt := (fieldsN x true false false s).bind fun s => (needN (kindN m.types x.a != 0) s).bind fun s => pushN x.a s
def op4 : Option VSt := (fieldsN x true false false s).bind fun s => (localN f x.a s).bind fun s => pushN (locV f x.a) s
def op5 : Option VSt := (fieldsN x true false false s).bind fun s => (localN f x.a s).bind fun s => wantN (locV f x.a) s
def op6 : Option VSt := (fieldsN x false false false s).bind fun s => (popN s).bind fun r => some r.2
def op13 : Option VSt := (fieldsN x true false false s).bind fun s => (isKN m.types x.a 8 s).bind fun s => (wantsN (listN m.types x.a) s).bind fun s => pushN x.a s
def op14 : Option VSt := (fieldsN x true false false s).bind fun s => (popsN m.types 8 s).bind fun r => (needN (inB x.a (listN m.types r.1).length) r.2).bind fun s => pushN ((listN m.types r.1).getD x.a.toNat 0) s
def op15 : Option VSt := (fieldsN x true false false s).bind fun s => (popN s).bind fun r => (popN r.2).bind fun q => (isKN m.types q.1 8 q.2).bind fun s => (needN (inB x.a (listN m.types q.1).length && ((listN m.types q.1).getD x.a.toNat 0 == r.1)) s).bind fun s => pushN q.1 s
def op16 : Option VSt := (fieldsN x true true false s).bind fun s => (needN ((kindN m.types x.a == 9) || (kindN m.types x.a == 10)) s).bind fun s => (wholeN m.types x.b s).bind fun s => (wantN x.b s).bind fun s => pushN x.a s
def op17 : Option VSt := (fieldsN x false true false s).bind fun s => (isKN m.types x.b 6 s).bind fun s => (popsN m.types 9 s).bind fun r => pushN x.b r.2
def op18 : Option VSt := (fieldsN x false false false s).bind fun s => (popN s).bind fun r => (wholeN m.types r.1 r.2).bind fun s => (popsN m.types 9 s).bind fun q => pushN (headN m.types q.1) q.2
def op19 : Option VSt := (fieldsN x false false false s).bind fun s => (popN s).bind fun r => (popN r.2).bind fun q => (wholeN m.types q.1 q.2).bind fun s => (popsN m.types 9 s).bind fun u => needN (headN m.types u.1 == r.1) u.2
def op21 : Option VSt := (fieldsN x true false false s).bind fun s => (isKN m.types x.a 13 s).bind fun s => (wantN (headN m.types x.a) s).bind fun s => pushN x.a s
def op22 : Option VSt := (fieldsN x false false false s).bind fun s => (popsN m.types 13 s).bind fun r => pushN (headN m.types r.1) r.2
def op23 : Option VSt := (fieldsN x false false false s).bind fun s => (popN s).bind fun r => (popsN m.types 13 r.2).bind fun u => needN (headN m.types u.1 == r.1) u.2
def op24 : Option VSt := (fieldsN x true false false s).bind fun s => (needN (inB x.a f.caps.length) s).bind fun s => pushN (f.caps.getD x.a.toNat 0) s
def funN (i : Int) : Option FuncD := m.funcs[i.toNat]?
def parN (g : FuncD) : List Int := g.locals.take g.params.toNat
def op20 : Option VSt := (fieldsN x true true false s).bind fun s => (needN (inB x.a m.funcs.length) s).bind fun s => (isKN m.types x.b 11 s).bind fun s => (funN m x.a).bind fun g =>
  (needN (sameL sameInt (parN g) (listN m.types x.b) && (g.res == resN m.types x.b)) s).bind fun s => (wantsN g.caps s).bind fun s => pushN x.b s
def op25 : Option VSt := (fieldsN x true false false s).bind fun s => (needN (inB x.a m.funcs.length) s).bind fun s => (funN m x.a).bind fun g => (needN ((g.caps.length : Int) == 0) s).bind fun s => (wantsN (parN g) s).bind fun s => resS g.res s
def op26 : Option VSt := (fieldsN x true false false s).bind fun s => (isKN m.types x.a 11 s).bind fun s => (wantsN (listN m.types x.a) s).bind fun s => (wantN x.a s).bind fun s => resS (resN m.types x.a) s
def op27 : Option VSt := (fieldsN x true false false s).bind fun s => (isKN m.types x.a 11 s).bind fun s => (wantsN (listN m.types x.a) s).bind fun s => wantN x.a s
def op29 : Option VSt := (fieldsN x false false false s).bind fun s => (popN s).bind fun r => (popsN m.types 10 r.2).bind fun u => needN (headN m.types u.1 == r.1) u.2
def op30 : Option VSt := (fieldsN x false false false s).bind fun s => (popsN m.types 10 s).bind fun r => pushN (headN m.types r.1) r.2
def op31 : Option VSt := (fieldsN x false false false s).bind fun s => (popsN m.types 10 s).bind fun r => some r.2
def op37 : Option VSt := (fieldsN x false true false s).bind fun s => (isKN m.types x.b 6 s).bind fun s => pushN x.b s
def op38 : Option VSt := (fieldsN x false false false s).bind fun s => (popN s).bind fun r => needN (wholeB (kindN m.types r.1) || (kindN m.types r.1 == 1)) r.2
def endN : Option VSt := needN ((s.stack.length : Int) == 0) s
def op33 : Option VSt := (fieldsN x true false false s).bind fun s => placeN f x.a s
def op34 : Option VSt := (fieldsN x true false false s).bind fun s => (placeN f x.a s).bind fun s => (popN s).bind fun r => isKN m.types r.1 1 r.2
def op35 : Option VSt := (fieldsN x false false false s).bind fun s => if 0 < f.res then wantN (f.res - 1) s else some s
def op36 : Option VSt := (fieldsN x false false false s).bind fun s => (popN s).bind fun r => isKN m.types r.1 6 r.2
def caseN (k : CaseD) : Option VSt := (localN f k.chan s).bind fun s => (isKN m.types (locV f k.chan) 10 s).bind fun s => (placeN f k.to s).bind fun s =>
  if (k.send || k.val != -1) = true then (localN f k.val s).bind fun s => needN (locV f k.val == headN m.types (locV f k.chan)) s else some s
def casesN : List CaseD → VSt → Option VSt
  | [], s => some s
  | k :: l, s => (caseN m f s k).bind (casesN l)
def op32 : Option VSt := (fieldsN x false true false s).bind fun s => (needN (decide ((x.cases.length : Int) ≤ 16) && decide (0 ≤ x.b) && decide (x.b ≤ (f.code.length : Int))) s).bind fun s => casesN m f x.cases s
def numsN : Option (Bool × VSt) :=
  if x.op = 1 then (op1 m x s).map (true, ·) else if x.op = 2 then (op2 m x s).map (true, ·) else if x.op = 7 then (op7 m x s).map (true, ·) else if x.op = 8 then (op8 m x s).map (true, ·)
  else if x.op = 9 then (op9 m x s).map (true, ·) else if x.op = 10 then (op10 m x s).map (true, ·) else if x.op = 11 then (op11 m x s).map (true, ·) else if x.op = 12 then (op12 m x s).map (true, ·) else some (false, s)
def valsN : Option (Bool × VSt) :=
  if x.op = 3 then (op3 m x s).map (true, ·) else if x.op = 4 then (op4 f x s).map (true, ·) else if x.op = 5 then (op5 f x s).map (true, ·) else if x.op = 6 then (op6 x s).map (true, ·)
  else if x.op = 13 then (op13 m x s).map (true, ·) else if x.op = 14 then (op14 m x s).map (true, ·) else if x.op = 15 then (op15 m x s).map (true, ·) else if x.op = 16 then (op16 m x s).map (true, ·)
  else if x.op = 17 then (op17 m x s).map (true, ·) else if x.op = 18 then (op18 m x s).map (true, ·) else if x.op = 19 then (op19 m x s).map (true, ·) else if x.op = 21 then (op21 m x s).map (true, ·)
  else if x.op = 22 then (op22 m x s).map (true, ·) else if x.op = 23 then (op23 m x s).map (true, ·) else if x.op = 24 then (op24 f x s).map (true, ·) else some (false, s)
def callsN : Option (Bool × VSt) :=
  if x.op = 20 then (op20 m x s).map (true, ·) else if x.op = 25 then (op25 m x s).map (true, ·) else if x.op = 26 then (op26 m x s).map (true, ·) else if x.op = 27 then (op27 m x s).map (true, ·) else if x.op = 28 then (op27 m x s).map (true, ·)
  else if x.op = 29 then (op29 m x s).map (true, ·) else if x.op = 30 then (op30 m x s).map (true, ·) else if x.op = 31 then (op31 m x s).map (true, ·) else if x.op = 37 then (op37 m x s).map (true, ·) else if x.op = 38 then (op38 m x s).map (true, ·) else some (false, s)
def flowN : Option (Bool × VSt) :=
  if x.op = 33 then ((op33 f x s).bind endN).map (true, ·) else if x.op = 34 then ((op34 m f x s).bind endN).map (true, ·) else if x.op = 35 then ((op35 f x s).bind endN).map (true, ·)
  else if x.op = 36 then ((op36 m x s).bind endN).map (true, ·) else if x.op = 32 then ((op32 m f x s).bind endN).map (true, ·) else some (false, s)
/-- What an instruction does; none: it is wrong. -/
def orN (r : Option (Bool × VSt)) (next : VSt → Option (Bool × VSt)) : Option (Bool × VSt) := r.bind fun bs => if bs.1 = true then some bs else next bs.2
def opsN : Option (Bool × VSt) := orN (orN (orN (numsN m x s) (valsN m f x)) (callsN m x)) (flowN m f x)
end
/-- The places that something jumps to. -/
def jumpsOf (x : InstrD) : List Int := if x.op = 33 ∨ x.op = 34 then [x.a] else if x.op = 32 then (if 0 < x.b then [x.b - 1] else []) ++ x.cases.map (·.to) else []
def placesOf (l : List InstrD) : List Int := l.flatMap jumpsOf
def endsB (op : Int) : Bool := (op == 33) || (op == 35) || (op == 36)
def stepN (m : ModD) (f : FuncD) (k : Nat) (x : InstrD) (stack : List Int) : Option VSt :=
  (needN (!(placesOf f.code).contains (k : Int) || ((stack.length : Int) == 0)) { stack := stack, taken := [], left := [] }).bind fun s =>
    (opsN m f x s).bind fun bs => (needN bs.1 bs.2).bind fun s => needN (decide ((k : Int) + 1 < (f.code.length : Int)) || endsB x.op) s
/-- The stack ahead of instruction k; none: one ahead of it is wrong. -/
def atN (m : ModD) (f : FuncD) : Nat → Option (List Int)
  | 0 => some []
  | k + 1 => (atN m f k).bind fun st => (f.code[k]?).bind fun x => (stepN m f k x st).map (·.stack)
/-- The first instruction from k on that is wrong; -1: none. -/
def fromN (m : ModD) (f : FuncD) : Nat → Nat → List Int → Int
  | 0, _, _ => -1
  | n + 1, k, st => match (f.code[k]?).bind fun x => stepN m f k x st with
    | some s => fromN m f n (k + 1) s.stack
    | none => k
/-- Where a function is wrong; -1: nowhere. -/
def funcAt (m : ModD) (f : FuncD) : Int := if f.code.length = 0 then 0 else fromN m f f.code.length 0 []
def firstBad (m : ModD) : List FuncD → Nat → Option (Nat × Int)
  | [], _ => none
  | f :: l, i => if 0 ≤ funcAt m f then some (i, funcAt m f) else firstBad m l (i + 1)
def soloB (m : ModD) : Bool := match m.funcs with
  | f :: _ => decide (f.params + (f.caps.length : Int) + f.res ≤ 0)
  | [] => false
/-- What Check answers. -/
def chkN (m : ModD) : Int × Int × Int := if (formedMod m && soloB m) = true then (match firstBad m m.funcs 0 with
  | some (i, a) => ((i : Int), a, 9)
  | none => (0, 0, 0)) else (-1, -1, 1)
end Go.Proofs.Ytdegfnejhamejaa
