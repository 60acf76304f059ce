/-
  A module's data in memory: lists of numbers, shapes, cases, instructions, functions, modules.
-/
import Derived.Test.YtdegfnejhamejaaBaseZk
import Derived.Test.YtdegfnejhamejaaEncNZk
namespace Go.Proofs.Ytdegfnejhamejaa
open Go.RowKit
set_option linter.unusedVariables false
set_option linter.unusedSimpArgs false

def I64 (x : Int) : Prop := -9223372036854775808 ≤ x ∧ x ≤ 9223372036854775807
def U64 (x : Nat) : Prop := x < 18446744073709551616

theorem SlR.at2 {α : Type} {B e size n c k : Nat} {R : World → List Value → α → Prop} {w : World} {A : Option Addr} {l : List α} (h : SlR B e size R w (.slice A n c) l) (hk : k < l.length) :
    ∃ b o x cs, A = some ⟨b, o, none⟩ ∧ l[k]? = some x ∧ cs.length = size ∧ R w cs x ∧ ∀ j u, cs[j]? = some u → w.cell? ⟨b, o + k * size + j, none⟩ = some u := by
  obtain ⟨b, o, c', cs, hv, _, _, _, h1, h2, h3⟩ := h.at_ hk
  injection hv with hA
  exact ⟨b, o, l[k], cs, hA, List.getElem?_eq_getElem hk, h1, h2, h3⟩
theorem SlR.len {α : Type} {B e size n c : Nat} {R : World → List Value → α → Prop} {w : World} {A : Option Addr} {l : List α} (h : SlR B e size R w (.slice A n c) l) : n = l.length ∧ n ≤ c := by
  obtain ⟨A', c', hv, hl, _⟩ := h
  injection hv with _ h1 h2
  subst h1
  subst h2
  exact ⟨rfl, hl⟩

/-- An element's cells, in every later world. -/
theorem SlR.at3 {α : Type} {B e size n c k : Nat} {R : World → List Value → α → Prop} {w : World} {A : Option Addr} {l : List α} (h : SlR B e size R w (.slice A n c) l) (hk : k < l.length) :
    ∃ b o x cs, A = some ⟨b, o, none⟩ ∧ l[k]? = some x ∧ cs.length = size ∧ R w cs x ∧ ∀ M w', Chg M w w' → Lets M B e → ∀ j u, cs[j]? = some u → w'.cell? ⟨b, o + k * size + j, none⟩ = some u := by
  obtain ⟨b, o, c', cs, hv, _, hL, _, h1, h2, h3⟩ := h.at_ hk
  injection hv with hA
  exact ⟨b, o, l[k], cs, hA, List.getElem?_eq_getElem hk, h1, h2, fun M w' hc hm j u hu => hL.cell hc hm (h3 j u hu)⟩

def IntsR (B : Nat) (w : World) (v : Value) (l : List Int) : Prop := SlR B 0 1 (fun _ cs x => cs = [.int .i64 x] ∧ I64 x) w v l
theorem IntsR.at_ {B n c k : Nat} {w : World} {A : Option Addr} {l : List Int} (h : IntsR B w (.slice A n c) l) (hk : k < l.length) :
    ∃ b o x, A = some ⟨b, o, none⟩ ∧ l[k]? = some x ∧ I64 x ∧ w.cell? ⟨b, o + k, none⟩ = some (.int .i64 x) := by
  obtain ⟨b, o, x, cs, hA, hx, _, ⟨rfl, hi⟩, h3⟩ := SlR.at2 h hk
  exact ⟨b, o, x, hA, hx, hi, by simpa using h3 0 _ rfl⟩

/-- The frame 'M' lets be what lies below B. -/
def LetsM (M : Nat → Nat → Prop) (B : Nat) : Prop := ∀ b t, b < B → ¬ M b t
theorem LetsM.lets {M : Nat → Nat → Prop} {B : Nat} (h : LetsM M B) : Lets M B 0 := ⟨h, fun h => absurd rfl h⟩
theorem IntsR.keep {M : Nat → Nat → Prop} {B : Nat} {w w' : World} {v : Value} {l : List Int} (h : IntsR B w v l) (hc : Chg M w w') (hm : LetsM M B) : IntsR B w' v l :=
  SlR.keep h hc hm.lets fun _ _ h => h
theorem IntsR.settle {B : Nat} {w : World} {v : Value} {l : List Int} (h : IntsR B w v l) : IntsR w.heap.size w v l := SlR.settle h fun _ _ h => h
theorem IntsR.more {B B' : Nat} {w : World} {v : Value} {l : List Int} (h : IntsR B w v l) (hB : B ≤ B') : IntsR B' w v l :=
  SlR.imp h (fun b _ hl => hl.imp (fun h => by omega) id) fun _ _ h => h

def ShapeR (B : Nat) (w : World) (cs : List Value) (s : ShapeD) : Prop :=
  ∃ A c, cs = [.int .i64 s.kind, .slice A s.list.length c, .int .i64 s.res] ∧ I64 s.kind ∧ I64 s.res ∧ IntsR B w (.slice A s.list.length c) s.list
def ShapesR (B : Nat) (w : World) (v : Value) (l : List ShapeD) : Prop := SlR B 0 3 (ShapeR B) w v l
def CaseR (w : World) (cs : List Value) (x : CaseD) : Prop := cs = [.bool x.send, .int .i64 x.chan, .int .i64 x.val, .int .i64 x.to] ∧ I64 x.chan ∧ I64 x.val ∧ I64 x.to
def CasesR (B : Nat) (w : World) (v : Value) (l : List CaseD) : Prop := SlR B 0 4 CaseR w v l
def InstrR (B : Nat) (w : World) (cs : List Value) (x : InstrD) : Prop :=
  ∃ A c, cs = [.int .i64 x.op, .int .i64 x.a, .int .i64 x.b, .int .u64 x.n, .slice A x.cases.length c] ∧ I64 x.op ∧ I64 x.a ∧ I64 x.b ∧ U64 x.n ∧ CasesR B w (.slice A x.cases.length c) x.cases
def InstrsR (B : Nat) (w : World) (v : Value) (l : List InstrD) : Prop := SlR B 0 5 (InstrR B) w v l
def FuncR (B : Nat) (w : World) (cs : List Value) (x : FuncD) : Prop :=
  ∃ A c A' c' A'' c'', cs = [.int .i64 x.params, .slice A x.locals.length c, .slice A' x.caps.length c', .int .i64 x.res, .slice A'' x.code.length c''] ∧ I64 x.params ∧ I64 x.res ∧
    IntsR B w (.slice A x.locals.length c) x.locals ∧ IntsR B w (.slice A' x.caps.length c') x.caps ∧ InstrsR B w (.slice A'' x.code.length c'') x.code
def FuncsR (B : Nat) (w : World) (v : Value) (l : List FuncD) : Prop := SlR B 0 5 (FuncR B) w v l
def ModR (B : Nat) (w : World) (v : Value) (m : ModD) : Prop :=
  ∃ A c A' c', v = .agg #[.slice A m.types.length c, .slice A' m.funcs.length c'] ∧ ShapesR B w (.slice A m.types.length c) m.types ∧ FuncsR B w (.slice A' m.funcs.length c') m.funcs

section
variable {M : Nat → Nat → Prop} {B B' : Nat} {w w' : World} {v : Value} {cs : List Value}
theorem ShapeR.keep {s : ShapeD} (h : ShapeR B w cs s) (hc : Chg M w w') (hm : LetsM M B) : ShapeR B w' cs s := by
  obtain ⟨A, c, h1, h2, h3, h4⟩ := h
  exact ⟨A, c, h1, h2, h3, h4.keep hc hm⟩
theorem ShapesR.keep {l : List ShapeD} (h : ShapesR B w v l) (hc : Chg M w w') (hm : LetsM M B) : ShapesR B w' v l := SlR.keep h hc hm.lets fun _ _ h => h.keep hc hm
theorem CasesR.keep {l : List CaseD} (h : CasesR B w v l) (hc : Chg M w w') (hm : LetsM M B) : CasesR B w' v l := SlR.keep h hc hm.lets fun _ _ h => h
theorem InstrR.keep {s : InstrD} (h : InstrR B w cs s) (hc : Chg M w w') (hm : LetsM M B) : InstrR B w' cs s := by
  obtain ⟨A, c, h1, h2, h3, h4, h5, h6⟩ := h
  exact ⟨A, c, h1, h2, h3, h4, h5, h6.keep hc hm⟩
theorem InstrsR.keep {l : List InstrD} (h : InstrsR B w v l) (hc : Chg M w w') (hm : LetsM M B) : InstrsR B w' v l := SlR.keep h hc hm.lets fun _ _ h => h.keep hc hm
theorem FuncR.keep {s : FuncD} (h : FuncR B w cs s) (hc : Chg M w w') (hm : LetsM M B) : FuncR B w' cs s := by
  obtain ⟨A, c, A', c', A'', c'', h1, h2, h3, h4, h5, h6⟩ := h
  exact ⟨A, c, A', c', A'', c'', h1, h2, h3, h4.keep hc hm, h5.keep hc hm, h6.keep hc hm⟩
theorem FuncsR.keep {l : List FuncD} (h : FuncsR B w v l) (hc : Chg M w w') (hm : LetsM M B) : FuncsR B w' v l := SlR.keep h hc hm.lets fun _ _ h => h.keep hc hm
theorem ModR.keep {m : ModD} (h : ModR B w v m) (hc : Chg M w w') (hm : LetsM M B) : ModR B w' v m := by
  obtain ⟨A, c, A', c', h1, h2, h3⟩ := h
  exact ⟨A, c, A', c', h1, h2.keep hc hm, h3.keep hc hm⟩

theorem CasesR.settle {l : List CaseD} (h : CasesR B w v l) : CasesR w.heap.size w v l := SlR.settle h fun _ _ h => h
theorem ShapesR.settle {l : List ShapeD} (h : ShapesR B w v l) : ShapesR w.heap.size w v l := SlR.settle h fun _ _ ⟨A, c, h1, h2, h3, h4⟩ => ⟨A, c, h1, h2, h3, h4.settle⟩
theorem InstrsR.settle {l : List InstrD} (h : InstrsR B w v l) : InstrsR w.heap.size w v l := SlR.settle h fun _ _ ⟨A, c, h1, h2, h3, h4, h5, h6⟩ => ⟨A, c, h1, h2, h3, h4, h5, h6.settle⟩
theorem FuncsR.settle {l : List FuncD} (h : FuncsR B w v l) : FuncsR w.heap.size w v l :=
  SlR.settle h fun _ _ ⟨A, c, A', c', A'', c'', h1, h2, h3, h4, h5, h6⟩ => ⟨A, c, A', c', A'', c'', h1, h2, h3, h4.settle, h5.settle, h6.settle⟩

theorem CasesR.more {l : List CaseD} (h : CasesR B w v l) (hB : B ≤ B') : CasesR B' w v l := SlR.imp h (fun b _ hl => hl.imp (fun h => by omega) id) fun _ _ h => h
theorem ShapesR.more {l : List ShapeD} (h : ShapesR B w v l) (hB : B ≤ B') : ShapesR B' w v l := SlR.imp h (fun b _ hl => hl.imp (fun h => by omega) id) fun _ _ ⟨A, c, h1, h2, h3, h4⟩ => ⟨A, c, h1, h2, h3, h4.more hB⟩
theorem InstrsR.more {l : List InstrD} (h : InstrsR B w v l) (hB : B ≤ B') : InstrsR B' w v l := SlR.imp h (fun b _ hl => hl.imp (fun h => by omega) id) fun _ _ ⟨A, c, h1, h2, h3, h4, h5, h6⟩ => ⟨A, c, h1, h2, h3, h4, h5, h6.more hB⟩
theorem FuncsR.more {l : List FuncD} (h : FuncsR B w v l) (hB : B ≤ B') : FuncsR B' w v l :=
  SlR.imp h (fun b _ hl => hl.imp (fun h => by omega) id) fun _ _ ⟨A, c, A', c', A'', c'', h1, h2, h3, h4, h5, h6⟩ => ⟨A, c, A', c', A'', c'', h1, h2, h3, h4.more hB, h5.more hB, h6.more hB⟩
theorem ModR.more {m : ModD} (h : ModR B w v m) (hB : B ≤ B') : ModR B' w v m := by
  obtain ⟨A, c, A', c', h1, h2, h3⟩ := h
  exact ⟨A, c, A', c', h1, h2.more hB, h3.more hB⟩

theorem ShapesR.at_ {n c k : Nat} {A : Option Addr} {l : List ShapeD} (h : ShapesR B w (.slice A n c) l) (hk : k < l.length) :
    ∃ b o s A' c', A = some ⟨b, o, none⟩ ∧ l[k]? = some s ∧ I64 s.kind ∧ I64 s.res ∧ IntsR B w (.slice A' s.list.length c') s.list ∧
      w.cell? ⟨b, o + k * 3, none⟩ = some (.int .i64 s.kind) ∧ w.cell? ⟨b, o + k * 3 + 1, none⟩ = some (.slice A' s.list.length c') ∧ w.cell? ⟨b, o + k * 3 + 2, none⟩ = some (.int .i64 s.res) := by
  obtain ⟨b, o, x, cs, hA, hx, _, ⟨A', c', rfl, h1, h2, h4⟩, h3⟩ := SlR.at2 h hk
  exact ⟨b, o, x, A', c', hA, hx, h1, h2, h4, by simpa using h3 0 _ rfl, h3 1 _ rfl, h3 2 _ rfl⟩
theorem CasesR.at_ {n c k : Nat} {A : Option Addr} {l : List CaseD} (h : CasesR B w (.slice A n c) l) (hk : k < l.length) :
    ∃ b o x, A = some ⟨b, o, none⟩ ∧ l[k]? = some x ∧ I64 x.chan ∧ I64 x.val ∧ I64 x.to ∧
      w.cell? ⟨b, o + k * 4, none⟩ = some (.bool x.send) ∧ w.cell? ⟨b, o + k * 4 + 1, none⟩ = some (.int .i64 x.chan) ∧ w.cell? ⟨b, o + k * 4 + 2, none⟩ = some (.int .i64 x.val) ∧ w.cell? ⟨b, o + k * 4 + 3, none⟩ = some (.int .i64 x.to) := by
  obtain ⟨b, o, x, cs, hA, hx, _, ⟨rfl, h1, h2, h4⟩, h3⟩ := SlR.at2 h hk
  exact ⟨b, o, x, hA, hx, h1, h2, h4, by simpa using h3 0 _ rfl, h3 1 _ rfl, h3 2 _ rfl, h3 3 _ rfl⟩
theorem InstrsR.at_ {n c k : Nat} {A : Option Addr} {l : List InstrD} (h : InstrsR B w (.slice A n c) l) (hk : k < l.length) :
    ∃ b o x A' c', A = some ⟨b, o, none⟩ ∧ l[k]? = some x ∧ I64 x.op ∧ I64 x.a ∧ I64 x.b ∧ U64 x.n ∧ CasesR B w (.slice A' x.cases.length c') x.cases ∧
      w.cell? ⟨b, o + k * 5, none⟩ = some (.int .i64 x.op) ∧ w.cell? ⟨b, o + k * 5 + 1, none⟩ = some (.int .i64 x.a) ∧ w.cell? ⟨b, o + k * 5 + 2, none⟩ = some (.int .i64 x.b) ∧ w.cell? ⟨b, o + k * 5 + 3, none⟩ = some (.int .u64 x.n) ∧
      w.cell? ⟨b, o + k * 5 + 4, none⟩ = some (.slice A' x.cases.length c') := by
  obtain ⟨b, o, x, cs, hA, hx, _, ⟨A', c', rfl, h1, h2, h4, h5, h6⟩, h3⟩ := SlR.at2 h hk
  exact ⟨b, o, x, A', c', hA, hx, h1, h2, h4, h5, h6, by simpa using h3 0 _ rfl, h3 1 _ rfl, h3 2 _ rfl, h3 3 _ rfl, h3 4 _ rfl⟩
theorem FuncsR.at_ {n c k : Nat} {A : Option Addr} {l : List FuncD} (h : FuncsR B w (.slice A n c) l) (hk : k < l.length) :
    ∃ b o x A1 c1 A2 c2 A3 c3, A = some ⟨b, o, none⟩ ∧ l[k]? = some x ∧ I64 x.params ∧ I64 x.res ∧ IntsR B w (.slice A1 x.locals.length c1) x.locals ∧ IntsR B w (.slice A2 x.caps.length c2) x.caps ∧ InstrsR B w (.slice A3 x.code.length c3) x.code ∧
      w.cell? ⟨b, o + k * 5, none⟩ = some (.int .i64 x.params) ∧ w.cell? ⟨b, o + k * 5 + 1, none⟩ = some (.slice A1 x.locals.length c1) ∧ w.cell? ⟨b, o + k * 5 + 2, none⟩ = some (.slice A2 x.caps.length c2) ∧ w.cell? ⟨b, o + k * 5 + 3, none⟩ = some (.int .i64 x.res) ∧
      w.cell? ⟨b, o + k * 5 + 4, none⟩ = some (.slice A3 x.code.length c3) := by
  obtain ⟨b, o, x, cs, hA, hx, _, ⟨A1, c1, A2, c2, A3, c3, rfl, h1, h2, h4, h5, h6⟩, h3⟩ := SlR.at2 h hk
  exact ⟨b, o, x, A1, c1, A2, c2, A3, c3, hA, hx, h1, h2, h4, h5, h6, by simpa using h3 0 _ rfl, h3 1 _ rfl, h3 2 _ rfl, h3 3 _ rfl, h3 4 _ rfl⟩
theorem ShapesR.at3 {n c k : Nat} {A : Option Addr} {l : List ShapeD} (h : ShapesR B w (.slice A n c) l) (hk : k < l.length) :
    ∃ b o s A' c', A = some ⟨b, o, none⟩ ∧ l[k]? = some s ∧ I64 s.kind ∧ I64 s.res ∧ IntsR B w (.slice A' s.list.length c') s.list ∧ ∀ M w', Chg M w w' → LetsM M B →
      w'.cell? ⟨b, o + k * 3, none⟩ = some (.int .i64 s.kind) ∧ w'.cell? ⟨b, o + k * 3 + 1, none⟩ = some (.slice A' s.list.length c') ∧ w'.cell? ⟨b, o + k * 3 + 2, none⟩ = some (.int .i64 s.res) := by
  obtain ⟨b, o, x, cs, hA, hx, _, ⟨A', c', rfl, h1, h2, h4⟩, h3⟩ := SlR.at3 h hk
  refine ⟨b, o, x, A', c', hA, hx, h1, h2, h4, fun M w' hc hm => ?_⟩
  have h7 := h3 M w' hc hm.lets
  exact ⟨by simpa using h7 0 _ rfl, h7 1 _ rfl, h7 2 _ rfl⟩
end
end Go.Proofs.Ytdegfnejhamejaa
