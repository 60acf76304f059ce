/-
  Channels and those who wait, in plain words: what each call answers, and what becomes of them.
-/
import Derived.Test.YtclllnoohoonoaaBase
namespace Go.Proofs.Ytclllnoohoonoaa
set_option linter.unusedVariables false
set_option linter.unusedSimpArgs false

structure CaseC where
  send : Bool
  chan : Int
  val : Nat
structure SrvD where
  who : Int
  at_ : Int
  val : Nat
  ok : Bool
structure ChanD where
  size : Int
  buf : List Nat
  shut : Bool
structure WaitD where
  who : Int
  cases : List CaseC
structure HubD where
  list : List ChanD
  wait : List WaitD
structure DoneD where
  at_ : Int
  val : Nat
  ok : Bool
  served : List SrvD
  e : Int

/-- The first case of some at a channel, on a side. -/
def caseAt (c : Int) (send : Bool) : List CaseC → Option Nat
  | [] => none
  | x :: l => if decide (x.chan = c) && (x.send == send) then some 0 else (caseAt c send l).map (· + 1)
/-- The first who waits at a channel, on a side, and its case. -/
def findW (c : Int) (send : Bool) : List WaitD → Option (Nat × Nat)
  | [] => none
  | x :: l => match caseAt c send x.cases with
    | some k => some (0, k)
    | none => (findW c send l).map fun p => (p.1 + 1, p.2)
def roomC (ch : ChanD) (send : Bool) : Bool := if send then decide ((ch.buf.length : Int) < ch.size) else decide (0 < ch.buf.length)
def canC (h : HubD) (x : CaseC) : Bool :=
  if x.chan = 0 then false else match h.list[(x.chan - 1).toNat]? with
    | none => false
    | some ch => roomC ch x.send || (findW x.chan (!x.send) h.wait).isSome || ch.shut
def knownC (n : Nat) (l : List CaseC) : Bool := l.all fun x => decide (0 ≤ x.chan) && decide (x.chan ≤ (n : Int))
/-- The places of those that can go on. -/
def readyFrom (h : HubD) : Nat → List CaseC → List Int
  | _, [] => []
  | i, x :: l => if canC h x then (i : Int) :: readyFrom h (i + 1) l else readyFrom h (i + 1) l
def readyC (h : HubD) (l : List CaseC) : List Int := readyFrom h 0 l
def readyE (h : HubD) (l : List CaseC) : Int := if knownC h.list.length l then 0 else 15
def readyA (h : HubD) (l : List CaseC) : List Int := if knownC h.list.length l then readyC h l else []
def setCh (h : HubD) (k : Nat) (ch : ChanD) : HubD := { h with list := h.list.set k ch }
def unwait (h : HubD) (i : Nat) : HubD := { h with wait := h.wait.eraseIdx i }
/-- What the i-th who waits is told. -/
def srvOf (h : HubD) (i at_ val : Nat) (ok : Bool) : SrvD := ⟨(h.wait.map (·.who)).getD i 0, (at_ : Int), val, ok⟩
/-- What the i-th who waits would send by its case. -/
def valOf (h : HubD) (i k : Nat) : Nat := match h.wait[i]? with
  | none => 0
  | some x => (x.cases.map (·.val)).getD k 0
def recvC (h : HubD) (c : Int) : HubD × (Nat × Bool × List SrvD) :=
  match h.list[(c - 1).toNat]? with
  | none => (h, 0, false, [])
  | some ch => match ch.buf, findW c true h.wait with
    | [], none => (h, 0, false, [])
    | [], some (i, k) => (unwait h i, valOf h i k, true, [srvOf h i k 0 true])
    | x :: r, none => (setCh h (c - 1).toNat { ch with buf := r }, x, true, [])
    | x :: r, some (i, k) => (unwait (setCh h (c - 1).toNat { ch with buf := r ++ [valOf h i k] }) i, x, true, [srvOf h i k 0 true])
def sendC (h : HubD) (x : CaseC) : HubD × List SrvD :=
  match findW x.chan false h.wait with
  | some (i, k) => (unwait h i, [srvOf h i k x.val true])
  | none => match h.list[(x.chan - 1).toNat]? with
    | none => (h, [])
    | some ch => (setCh h (x.chan - 1).toNat { ch with buf := ch.buf ++ [x.val] }, [])
def shutOf (h : HubD) (c : Int) : Bool := match h.list[(c - 1).toNat]? with
  | none => false
  | some ch => ch.shut
def bad (e : Int) : DoneD := ⟨0, 0, false, [], e⟩
def doC (h : HubD) (who : Int) (cases : List CaseC) (pick : Int) (wait : Bool) : HubD × DoneD :=
  if pick < 0 then (h, bad 2)
  else if (h.wait.map (·.who)).contains who then (h, bad 8)
  else if knownC h.list.length cases = false then (h, bad 15)
  else match readyC h cases with
    | [] => (if wait then { h with wait := h.wait ++ [⟨who, cases⟩] } else h, bad 22)
    | a :: r =>
      let at_ := (a :: r).getD (pick.toNat % (r.length + 1)) 0
      match cases[at_.toNat]? with
      | none => (h, bad 0)
      | some x =>
        if x.send = false then ((recvC h x.chan).1, ⟨at_, (recvC h x.chan).2.1, (recvC h x.chan).2.2.1, (recvC h x.chan).2.2.2, 0⟩)
        else if shutOf h x.chan then (h, ⟨at_, 0, false, [], 21⟩)
        else ((sendC h x).1, ⟨at_, 0, true, (sendC h x).2, 0⟩)
/-- The first case of some at a channel. -/
def anyAt (c : Int) : List CaseC → Option Nat
  | [] => none
  | x :: l => if x.chan = c then some 0 else (anyAt c l).map (· + 1)
def leave (c : Int) (l : List WaitD) : List WaitD := l.filter fun x => (anyAt c x.cases).isNone
def told (c : Int) (l : List WaitD) : List SrvD := l.filterMap fun x => (anyAt c x.cases).map fun k => ⟨x.who, (k : Int), 0, false⟩
def shutC (h : HubD) (c : Int) : HubD × (List SrvD × Int) :=
  if c = 0 then (h, [], 2)
  else if c < 0 ∨ (h.list.length : Int) < c then (h, [], 15)
  else match h.list[(c - 1).toNat]? with
    | none => (h, [], 15)
    | some ch => if ch.shut then (h, [], 21) else ({ list := h.list.set (c - 1).toNat { ch with shut := true }, wait := leave c h.wait }, told c h.wait, 0)
def makeC (h : HubD) (size : Int) : HubD × (Int × Int) :=
  if size < 0 ∨ 1024 < size then (h, 0, 2) else ({ h with list := h.list ++ [⟨size, [], false⟩] }, ((h.list.length : Int) + 1, 0))
def dropC (h : HubD) (who : Int) : HubD × Int :=
  match (h.wait.map (·.who)).findIdx? (· == who) with
  | none => (h, 15)
  | some i => (unwait h i, 0)
/-- What all channels keep to. -/
def okH (h : HubD) : Prop := ∀ (k : Nat) (ch : ChanD), h.list[k]? = some ch → 0 ≤ ch.size ∧ ch.size ≤ 1024 ∧ (ch.buf.length : Int) ≤ ch.size

/-- Not too much of anything. -/
structure SmallH (h : HubD) : Prop where
  list : h.list.length ≤ 1099511627776
  wait : h.wait.length ≤ 1099511627776
  cases : ∀ x ∈ h.wait, x.cases.length ≤ 1099511627776
theorem caseAt_none {c : Int} {s : Bool} : ∀ {l : List CaseC}, caseAt c s l = none → ∀ x ∈ l, ¬ (x.chan = c ∧ x.send = s)
  | [], _ => by simp
  | x :: l, h => by
    unfold caseAt at h
    split at h
    · cases h
    · rename_i h1
      intro y hy
      rcases List.mem_cons.1 hy with rfl | hy
      · simpa using h1
      · exact caseAt_none (by simpa using h) y hy
theorem caseAt_some {c : Int} {s : Bool} : ∀ {l : List CaseC} {k : Nat}, caseAt c s l = some k → ∃ x, l[k]? = some x ∧ x.chan = c ∧ x.send = s
  | [], _, h => by cases h
  | x :: l, k, h => by
    unfold caseAt at h
    split at h
    · rename_i h1
      injection h with h
      subst h
      exact ⟨x, rfl, by simpa using h1⟩
    · obtain ⟨j, hj, rfl⟩ := Option.map_eq_some_iff.1 h
      obtain ⟨y, hy⟩ := caseAt_some hj
      exact ⟨y, by simpa using hy⟩
theorem caseAt_lt {c : Int} {s : Bool} {l : List CaseC} {k : Nat} (h : caseAt c s l = some k) : k < l.length := by
  obtain ⟨x, hx, _⟩ := caseAt_some h
  exact (List.getElem?_eq_some_iff.1 hx).1
theorem findW_some {c : Int} {s : Bool} : ∀ {l : List WaitD} {i k : Nat}, findW c s l = some (i, k) → ∃ x, l[i]? = some x ∧ caseAt c s x.cases = some k
  | [], _, _, h => by cases h
  | x :: l, i, k, h => by
    unfold findW at h
    split at h
    · rename_i k' h1
      injection h with h
      injection h with h2 h3
      subst h2 h3
      exact ⟨x, rfl, h1⟩
    · obtain ⟨⟨j, k'⟩, hj, h2⟩ := Option.map_eq_some_iff.1 h
      injection h2 with h2 h3
      subst h2 h3
      obtain ⟨y, hy⟩ := findW_some hj
      exact ⟨y, by simpa using hy⟩
theorem findW_none {c : Int} {s : Bool} : ∀ {l : List WaitD}, findW c s l = none → ∀ x ∈ l, caseAt c s x.cases = none
  | [], _ => by simp
  | x :: l, h => by
    unfold findW at h
    split at h
    · cases h
    · rename_i h1
      intro y hy
      rcases List.mem_cons.1 hy with rfl | hy
      · exact h1
      · exact findW_none (by simpa using h) y hy
end Go.Proofs.Ytclllnoohoonoaa
