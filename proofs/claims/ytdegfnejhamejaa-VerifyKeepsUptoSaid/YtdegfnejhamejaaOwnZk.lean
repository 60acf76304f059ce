/-
  ref11.Own: a module in new memory, all of its parts copied.
-/
import Derived.Test.YtdegfnejhamejaaEnc3Zk
namespace Go.Proofs.Ytdegfnejhamejaa
open Go.RowKit
set_option linter.unusedVariables false
set_option linter.unusedSimpArgs false

/-! ## A row that grows, element by element -/
def RowR {α : Type} (base e size : Nat) (R : World → List Value → α → Prop) (w : World) (A : Option Addr) (c : Nat) (l : List α) : Prop :=
  ∃ xss : List (List Value), w.ownsRow base e size (.slice A l.length c) l.length xss.flatten ∧ xss.length = l.length ∧ (∀ cs ∈ xss, cs.length = size) ∧ ∀ (k : Nat) x cs, l[k]? = some x → xss[k]? = some cs → R w cs x
section
variable {α : Type} {base e size : Nat} {R : World → List Value → α → Prop} {w w' : World} {A : Option Addr} {c : Nat} {l : List α}
theorem RowR.nil (base e size : Nat) (R : World → List Value → α → Prop) (w : World) : RowR base e size R w none 0 ([] : List α) := ⟨[], World.ownsRow_nil _ _ _ _, rfl, by simp, by simp⟩
theorem RowR.slr (he : e ≠ 0) (h : RowR base e size R w A c l) (B : Nat) : SlR B e size R w (.slice A l.length c) l := by
  obtain ⟨xss, h1, h2, h3, h4⟩ := h
  exact SlR.of_own he h1 h2 rfl h3 h4
theorem RowR.keep {M : Nat → Nat → Prop} (h : RowR base e size R w A c l) (hc : Chg M w w') (hm : ∀ b, base ≤ b → ¬ M b e) (hR : ∀ cs x, R w cs x → R w' cs x) : RowR base e size R w' A c l := by
  obtain ⟨xss, h1, h2, h3, h4⟩ := h
  exact ⟨xss, hc.own h1 fun g hg => hm g ((own_blk h1 hg).1), h2, h3, fun k x cs a b => hR _ _ (h4 k x cs a b)⟩
theorem RowR.rebase {base' : Nat} (h : RowR base e size R w A c l) (hb : base' ≤ base) : RowR base' e size R w A c l := by
  obtain ⟨xss, ⟨h0, h1⟩, h2, h3, h4⟩ := h
  refine ⟨xss, ⟨h0, ?_⟩, h2, h3, h4⟩
  rcases h1 with h1 | ⟨g, cap, cur, hv, hg, r⟩
  · exact .inl h1
  · exact .inr ⟨g, cap, cur, hv, Nat.le_trans hb hg, r⟩
theorem RowR.snoc {xss : List (List Value)} {cs : List Value} {x : α} {A' : Option Addr} {c' : Nat} (h2 : xss.length = l.length) (h3 : ∀ cs ∈ xss, cs.length = size) (h4 : ∀ (k : Nat) x cs, l[k]? = some x → xss[k]? = some cs → R w cs x)
    (hR : ∀ cs x, R w cs x → R w' cs x) (how : w'.ownsRow base e size (.slice A' (l.length + 1) c') (l.length + 1) (xss.flatten ++ cs)) (hcs : cs.length = size) (hx : R w' cs x) : RowR base e size R w' A' c' (l ++ [x]) := by
  refine ⟨xss ++ [cs], by simpa using how, by simp [h2], ?_, ?_⟩
  · intro cs' h
    rcases List.mem_append.1 h with h | h
    · exact h3 _ h
    · simp at h; subst h; exact hcs
  · intro k y ds hy hds
    by_cases hk : k < l.length
    · rw [List.getElem?_append_left hk] at hy
      rw [List.getElem?_append_left (by omega)] at hds
      exact hR _ _ (h4 k y ds hy hds)
    · rw [List.getElem?_append_right (by omega)] at hy
      rw [List.getElem?_append_right (by omega), h2] at hds
      have h0 : k - l.length = 0 := by
        rcases Nat.eq_zero_or_pos (k - l.length) with h | h
        · exact h
        · rw [List.getElem?_eq_none (by simp; omega)] at hy; cases hy
      rw [h0] at hy hds
      simp at hy hds
      subst hy hds
      exact hx
end

/-! ## Parts in new memory: rows of their own types -/
def IntsO (B : Nat) (w : World) (v : Value) (l : List Int) : Prop := SlR B 3 1 (fun _ cs x => cs = [.int .i64 x] ∧ I64 x) w v l
def ShapeO (B : Nat) (w : World) (cs : List Value) (s : ShapeD) : Prop :=
  ∃ A c, cs = [.int .i64 s.kind, .slice A s.list.length c, .int .i64 s.res] ∧ I64 s.kind ∧ I64 s.res ∧ IntsO B w (.slice A s.list.length c) s.list
def CasesO (B : Nat) (w : World) (v : Value) (l : List CaseD) : Prop := SlR B 52 4 CaseR w v l
def InstrO (B : Nat) (w : World) (cs : List Value) (x : InstrD) : Prop :=
  ∃ A c, cs = [.int .i64 x.op, .int .i64 x.a, .int .i64 x.b, .int .u64 x.n, .slice A x.cases.length c] ∧ I64 x.op ∧ I64 x.a ∧ I64 x.b ∧ U64 x.n ∧ CasesO B w (.slice A x.cases.length c) x.cases
def InstrsO (B : Nat) (w : World) (v : Value) (l : List InstrD) : Prop := SlR B 50 5 (InstrO B) w v l
def FuncO (B : Nat) (w : World) (cs : List Value) (x : FuncD) : Prop :=
  ∃ A c A' c' A'' c'', cs = [.int .i64 x.params, .slice A x.locals.length c, .slice A' x.caps.length c', .int .i64 x.res, .slice A'' x.code.length c''] ∧ I64 x.params ∧ I64 x.res ∧
    IntsO B w (.slice A x.locals.length c) x.locals ∧ IntsO B w (.slice A' x.caps.length c') x.caps ∧ InstrsO B w (.slice A'' x.code.length c'') x.code
section
variable {M : Nat → Nat → Prop} {B : Nat} {w w' : World} {v : Value} {cs : List Value}
theorem IntsO.keep {l : List Int} (h : IntsO B w v l) (hc : Chg M w w') (hm : LetsM M B) (h1 : ∀ b, ¬ M b 3) : IntsO B w' v l := SlR.keep h hc ⟨hm, fun _ => h1⟩ fun _ _ h => h
theorem ShapeO.keep {s : ShapeD} (h : ShapeO B w cs s) (hc : Chg M w w') (hm : LetsM M B) (h1 : ∀ b, ¬ M b 3) : ShapeO B w' cs s := by
  obtain ⟨A, c, a1, a2, a3, a4⟩ := h
  exact ⟨A, c, a1, a2, a3, a4.keep hc hm h1⟩
theorem CasesO.keep {l : List CaseD} (h : CasesO B w v l) (hc : Chg M w w') (hm : LetsM M B) (h1 : ∀ b, ¬ M b 52) : CasesO B w' v l := SlR.keep h hc ⟨hm, fun _ => h1⟩ fun _ _ h => h
theorem InstrO.keep {s : InstrD} (h : InstrO B w cs s) (hc : Chg M w w') (hm : LetsM M B) (h1 : ∀ b, ¬ M b 52) : InstrO B w' cs s := by
  obtain ⟨A, c, a1, a2, a3, a4, a5, a6⟩ := h
  exact ⟨A, c, a1, a2, a3, a4, a5, a6.keep hc hm h1⟩
theorem InstrsO.keep {l : List InstrD} (h : InstrsO B w v l) (hc : Chg M w w') (hm : LetsM M B) (h1 : ∀ b, ¬ M b 52) (h2 : ∀ b, ¬ M b 50) : InstrsO B w' v l := SlR.keep h hc ⟨hm, fun _ => h2⟩ fun _ _ h => h.keep hc hm h1
theorem FuncO.keep {s : FuncD} (h : FuncO B w cs s) (hc : Chg M w w') (hm : LetsM M B) (h1 : ∀ b, ¬ M b 52) (h2 : ∀ b, ¬ M b 50) (h3 : ∀ b, ¬ M b 3) : FuncO B w' cs s := by
  obtain ⟨A, c, A', c', A'', c'', a1, a2, a3, a4, a5, a6⟩ := h
  exact ⟨A, c, A', c', A'', c'', a1, a2, a3, a4.keep hc hm h3, a5.keep hc hm h3, a6.keep hc hm h1 h2⟩
theorem IntsO.settle {l : List Int} (h : IntsO B w v l) : IntsR w.heap.size w v l := SlR.settle h fun _ _ h => h
theorem CasesO.settle {l : List CaseD} (h : CasesO B w v l) : CasesR w.heap.size w v l := SlR.settle h fun _ _ h => h
theorem ShapeO.settle {s : ShapeD} (h : ShapeO B w cs s) : ShapeR w.heap.size w cs s := by
  obtain ⟨A, c, a1, a2, a3, a4⟩ := h
  exact ⟨A, c, a1, a2, a3, a4.settle⟩
theorem InstrO.settle {s : InstrD} (h : InstrO B w cs s) : InstrR w.heap.size w cs s := by
  obtain ⟨A, c, a1, a2, a3, a4, a5, a6⟩ := h
  exact ⟨A, c, a1, a2, a3, a4, a5, a6.settle⟩
theorem InstrsO.settle {l : List InstrD} (h : InstrsO B w v l) : InstrsR w.heap.size w v l := SlR.settle h fun _ _ h => h.settle
theorem FuncO.settle {s : FuncD} (h : FuncO B w cs s) : FuncR w.heap.size w cs s := by
  obtain ⟨A, c, A', c', A'', c'', a1, a2, a3, a4, a5, a6⟩ := h
  exact ⟨A, c, A', c', A'', c'', a1, a2, a3, a4.settle, a5.settle, a6.settle⟩
end

/-! ## Pushing onto a row that stands in a field of the struct in block g -/
/-- What one push may turn. -/
def MO (T base g e : Nat) : Nat → Nat → Prop := fun b t => b = g ∧ t = T ∨ base ≤ b ∧ t = e
theorem own_push {α : Type} {T base g e size j : Nat} {R : World → List Value → α → Prop} {wr W w3 : World} {o : Obj} {A A2 : Option Addr} {c c2 : Nat} {l : List α} {xss : List (List Value)} {cs : List Value} {x : α} {cells : Array Value} (he : e ≠ T)
    (hb : Blk wr g T cells) (how : wr.ownsRow base e size (.slice A l.length c) l.length xss.flatten) (h2 : xss.length = l.length) (h3 : ∀ cs ∈ xss, cs.length = size) (h4 : ∀ (k : Nat) x cs, l[k]? = some x → xss[k]? = some cs → R wr cs x)
    (hR : ∀ w w', Chg (MO T base g e) w w' → ∀ cs x, R w cs x → R w' cs x) (hc : Chg (fun _ _ => False) wr W) (hx : R W cs x) (hcs : cs.length = size)
    (hap : Apd (W.alloc o) w3 base e size A A2 l.length c (l.length + 1) c2 (xss.flatten ++ cs)) (v : Value) :
    Blk (w3.setCell ⟨g, j, none⟩ v) g T (cells.setIfInBounds j v) ∧ RowR base e size R (w3.setCell ⟨g, j, none⟩ v) A2 c2 (l ++ [x]) ∧ Chg (MO T base g e) wr (w3.setCell ⟨g, j, none⟩ v) ∧ Blk w3 g T cells := by
  have howW := hc.own how fun _ _ => id
  have hchg : Chg (MO T base g e) W w3 := (hap.chg howW).mono fun b t _ h => .inr h
  have hbW : Blk w3 g T cells := (hap.chg howW).blk (hc.blk hb id) fun h => he h.2.symm
  have hset : Chg (fun b t => b = g ∧ t = T) w3 (w3.setCell ⟨g, j, none⟩ v) := (Chg.refl _ _).setCell _ _ fun o ho => by
    have : w3.heap[g]? = some o := ho
    rw [show w3.heap[g]? = _ from hbW] at this
    injection this with this
    subst this
    exact ⟨rfl, rfl⟩
  have hset' : Chg (MO T base g e) w3 (w3.setCell ⟨g, j, none⟩ v) := hset.mono fun b t _ h => .inl h
  have hall : Chg (MO T base g e) wr (w3.setCell ⟨g, j, none⟩ v) := ((hc.mono fun _ _ _ h => h.elim).trans hchg).trans hset'
  refine ⟨hbW.set_ j v, ?_, hall, hbW⟩
  exact RowR.snoc h2 h3 h4 (hR _ _ hall) (hset.own hap.own fun k _ h => he h.2) hcs (hR _ _ (hchg.trans hset') _ _ hx)

theorem infoInt : (Try.prog.info? 3).map (fun i => (i.zero, i.size, i.bytes)) = some (some (.int .i64 0), 1, 8) := by kernel_rfl
theorem infoShape : (Try.prog.info? 37).map (fun i => (i.zero, i.size, i.bytes)) = some (some (.agg #[.int .i64 0, .slice none 0 0, .int .i64 0]), 3, 40) := by kernel_rfl
theorem infoFunc : (Try.prog.info? 34).map (fun i => (i.zero, i.size, i.bytes)) = some (some (.agg #[.int .i64 0, .slice none 0 0, .slice none 0 0, .int .i64 0, .slice none 0 0]), 5, 88) := by kernel_rfl
theorem infoInstr : (Try.prog.info? 50).map (fun i => (i.zero, i.size, i.bytes)) = some (some (.agg #[.int .i64 0, .int .i64 0, .int .i64 0, .int .u64 0, .slice none 0 0]), 5, 56) := by kernel_rfl
theorem infoCase : (Try.prog.info? 52).map (fun i => (i.zero, i.size, i.bytes)) = some (some (.agg #[.bool false, .int .i64 0, .int .i64 0, .int .i64 0]), 4, 32) := by kernel_rfl
theorem ints_own {base n c : Nat} {w' : World} {A : Option Addr} {l : List Int} {xss : List (List Value)} {b : Nat} (h : w'.ownsRow b 3 1 (.slice A n c) n xss.flatten) (hn : n = l.length) (h1 : xss.length = l.length) (h2 : ∀ cs ∈ xss, cs.length = 1)
    (h3 : ∀ (k : Nat) x cs, l[k]? = some x → xss[k]? = some cs → cs = [.int .i64 x] ∧ I64 x) : IntsO base w' (.slice A n c) l := SlR.of_own (by decide) h h1 hn h2 h3
theorem one_int (cs : List Value) (y : Int) (h : cs = [Value.int .i64 y] ∧ I64 y) : ∀ u ∈ cs, u.oneCell' = true := by
  obtain ⟨rfl, _⟩ := h
  intro u hu; simp at hu; subst hu; rfl

theorem one_case (cs : List Value) (y : CaseD) (h : ∀ W, CaseR W cs y) : ∀ u ∈ cs, u.oneCell' = true := by
  obtain ⟨rfl, _⟩ := h default
  intro u hu; simp at hu; rcases hu with rfl | rfl | rfl | rfl <;> rfl
theorem cases_own {base n c : Nat} {w' W : World} {A : Option Addr} {l : List CaseD} {xss : List (List Value)} {b : Nat} (h : w'.ownsRow b 52 4 (.slice A n c) n xss.flatten) (hn : n = l.length) (h1 : xss.length = l.length) (h2 : ∀ cs ∈ xss, cs.length = 4)
    (h3 : ∀ (k : Nat) x cs, l[k]? = some x → xss[k]? = some cs → CaseR W cs x) : CasesO base w' (.slice A n c) l := SlR.of_own (by decide) h h1 hn h2 fun k x cs a b => h3 k x cs a b
/-- A cell of a block that was not there. -/
theorem Chg.setNew {M : Nat → Nat → Prop} {w w' : World} (h : Chg M w w') (j : Nat) (u : Value) {b : Nat} (hb : w.heap.size ≤ b) : Chg M w (w'.setCell ⟨b, j, none⟩ u) :=
  h.setCell _ _ fun o ho => by rw [Array.getElem?_eq_none hb] at ho; cases ho
/-- A store into a block of type T turns blocks of type T alone. -/
theorem chg_set {w : World} {b T j : Nat} {cs : Array Value} (h : Blk w b T cs) (u : Value) : Chg (fun b' t => b' = b ∧ t = T) w (w.setCell ⟨b, j, none⟩ u) :=
  (Chg.refl _ _).setCell _ _ fun o ho => by
    have : w.heap[b]? = some o := ho
    rw [show w.heap[b]? = _ from h] at this
    injection this with this
    subst this
    exact ⟨rfl, rfl⟩

/-- What turns only what was not there is not seen from before. -/
theorem Chg.trans_new {M : Nat → Nat → Prop} {w w' w'' : World} (h : Chg (fun _ _ => False) w w') (k : Chg M w' w'') (hM : ∀ b t, b < w.heap.size → ¬ M b t) : Chg (fun _ _ => False) w w'' :=
  ((h.mono fun _ _ _ h => h.elim : Chg M w w').trans k).mono fun b t hb h => hM b t hb h

def OwnT (base g : Nat) (w0 : World) (types : List ShapeD) (i : Value) (wr : World) : Prop :=
  ∃ (k : Nat) (A : Option Addr) (c : Nat), i = .int .i64 k ∧ k ≤ types.length ∧ Blk wr g 25 #[.slice A k c, .slice none 0 0] ∧ RowR base 37 3 (ShapeO 0) wr A c (types.take k) ∧ Chg (fun b t => b = g ∧ t = 25) w0 wr
def OwnF (base g : Nat) (w0 : World) (types : List ShapeD) (funcs : List FuncD) (i : Value) (wr : World) : Prop :=
  ∃ (k : Nat) (At : Option Addr) (ct : Nat) (A : Option Addr) (c : Nat), i = .int .i64 k ∧ k ≤ funcs.length ∧ Blk wr g 25 #[.slice At types.length ct, .slice A k c] ∧ RowR base 37 3 (ShapeO 0) wr At ct types ∧
    RowR base 34 5 (FuncO 0) wr A c (funcs.take k) ∧ Chg (fun b t => b = g ∧ t = 25) w0 wr
def OwnC (wi : World) (code : List InstrD) (v i : Value) (wr : World) : Prop :=
  ∃ (k : Nat) (A : Option Addr) (c : Nat), v = .slice A k c ∧ i = .int .i64 k ∧ k ≤ code.length ∧ RowR wi.heap.size 50 5 (InstrO 0) wr A c (code.take k) ∧ Chg (fun _ _ => False) wi wr

/-- What Own answers: the same module, in new memory. -/
def OwnRes (m : ModD) (w : World) (e : Ending) (w' : World) : Prop :=
  ∃ A c A' c', e = .returned (.agg #[.slice A m.types.length c, .slice A' m.funcs.length c']) ∧ Below w.heap.size w w' ∧ RowR w.heap.size 37 3 (ShapeO 0) w' A c m.types ∧ RowR w.heap.size 34 5 (FuncO 0) w' A' c' m.funcs
theorem OwnRes.modR {m : ModD} {w w' : World} {e : Ending} (h : OwnRes m w e w') : ∃ v, e = .returned v ∧ ModR w'.heap.size w' v m := by
  obtain ⟨A, c, A', c', rfl, _, h1, h2⟩ := h
  exact ⟨_, rfl, A, c, A', c', rfl, SlR.settle (h1.slr (by decide) 0) fun _ _ h => h.settle, SlR.settle (h2.slr (by decide) 0) fun _ _ h => h.settle⟩

set_option maxRecDepth 100000 in
set_option maxHeartbeats 1000000 in
theorem own_any (w : World) (B : Nat) (v : Value) (m : ModD) (hBw : B ≤ w.heap.size) (hm : ModR B w v m) (h1 : cMod m ≤ 1099511627776) :
   Calls Try.prog 8 #[v] w (OwnRes m w) := by
  obtain ⟨types, funcs⟩ := m
  obtain ⟨A, c, A', c', rfl, hT, hF⟩ := hm
  unfold cMod at h1
  simp only at hT hF h1 ⊢
  have hnT := len_le_sum cShape (fun _ => by unfold cShape cInts; omega) types
  have hnF := len_le_sum cFunc (fun _ => by unfold cFunc cInts; omega) funcs
  obtain ⟨i3, hi3, hz3, hs3, hb3⟩ := info_parts infoInt
  obtain ⟨i51, hi51, hz51, hs51, hb51⟩ := info_parts infoFunc
  obtain ⟨i55, hi55, hz55, hs55, hb55⟩ := info_parts infoInstr
  obtain ⟨i79, hi79, hz79, hs79, hb79⟩ := info_parts infoCase
  obtain ⟨i41, hi41, hz41, hs41, hb41⟩ := info_parts infoShape
  have hw00 := chg_alloc w (.cells #[.slice A types.length c, .slice A' funcs.length c'] 25)
  have hw01 := hw00.alloc (.cells #[.slice none 0 0, .slice none 0 0] 25)
  have hw0 := hw01.alloc (.cells #[.slice none 0 0, .slice none 0 0] 25)
  have hbm := ((Blk.new w 25 #[.slice A types.length c, .slice A' funcs.length c']).alloc (.cells #[.slice none 0 0, .slice none 0 0] 25)).alloc (.cells #[.slice none 0 0, .slice none 0 0] 25)
  have hbr := (Blk.new (w.alloc (.cells #[.slice A types.length c, .slice A' funcs.length c'] 25)) 25 #[.slice none 0 0, .slice none 0 0]).alloc (.cells #[.slice none 0 0, .slice none 0 0] 25)
  have hbo := Blk.new ((w.alloc (.cells #[.slice A types.length c, .slice A' funcs.length c'] 25)).alloc (.cells #[.slice none 0 0, .slice none 0 0] 25)) 25 #[.slice none 0 0, .slice none 0 0]
  replace hT := hT.keep hw0 (fun _ _ _ => id)
  replace hF := hF.keep hw0 (fun _ _ _ => id)
  simp only [World.size_alloc] at hbr hbo
  go_enter Try.func8, Try.ntmps8
  go_wp2_with fail
  clear hw00 hw01
  generalize hw0e : ((w.alloc (.cells #[.slice A types.length c, .slice A' funcs.length c'] 25)).alloc (.cells #[.slice none 0 0, .slice none 0 0] 25)).alloc (.cells #[.slice none 0 0, .slice none 0 0] 25) = w0 at hbm hbr hbo hT hF hw0 ⊢
  have hgs : w.heap.size + 1 + 1 < w0.heap.size := hbo.lt
  generalize hg : w.heap.size + 1 + 1 = g at hbo hgs ⊢
  generalize hr : w.heap.size + 1 = r at hbr ⊢
  generalize hb0 : w.heap.size = b0 at hbm hBw ⊢
  have hrg : r < g ∧ b0 < r ∧ B ≤ b0 := by omega
  obtain ⟨hrg, hbr0, hBb⟩ := hrg
  generalize hbase : w0.heap.size = base at hgs
  have hbase' : w0.heap.size ≤ base ∧ base ≤ w0.heap.size := by omega
  have HW := Lib.hid (And.intro hb0 (And.intro hw0 hbase'))
  clear hw0e hg hr hb0 hw0 hbase hbase'
  have HB := Lib.hid (And.intro hbm (And.intro hbr hbo))
  obtain ⟨c0, c1⟩ := hbm.cells2
  clear hbm hbr
  go_loopw [4] (fun i wr => OwnT base g w0 types i wr) (fun i _ => types.length - (intOf i).toNat)
  case atStart => exact ⟨0, none, 0, rfl, Nat.zero_le _, hbo, RowR.nil _ _ _ _ _, Chg.refl _ _⟩
  case round =>
    clear hbo c0 c1
    obtain ⟨k, A1, c1, rfl, hk, hb, ⟨xss, how, hx2, hx3, hx4⟩, hchg⟩ := hrel
    have htk : (types.take k).length = k := by simp; omega
    obtain ⟨d0, d1⟩ := (hchg.blk HB.out.1 (by rintro ⟨h, _⟩; omega)).cells2
    obtain ⟨e0, e1⟩ := hb.cells2
    have hbase : base ≤ wr.heap.size := Nat.le_trans HW.out.2.2.2 hchg.size
    by_cases hlt : k < types.length
    · obtain ⟨bb, o, x, A2, c2, rfl, hkx, hi1, hi2, hl2, z0, z1, z2⟩ := (hT.keep hchg (fun b t hb h => by omega)).at_ hlt
      have hsum := sum_at cShape hkx
      rw [show cShape x = 20 + (10 + (x.list.map fun _ => 10).sum) from rfl] at hsum
      have hnx : x.list.length ≤ 1099511627776 := by have := len_le_sum (fun _ : Int => 10) (fun _ => by omega) x.list; omega
      have hbx := Blk.new wr 37 #[.int .i64 x.kind, .slice A2 x.list.length c2, .int .i64 x.res]
      have hcb := chg_alloc wr (.cells #[.int .i64 x.kind, .slice A2 x.list.length c2, .int .i64 x.res] 37)
      replace hl2 := hl2.keep hcb (fun _ _ _ => id)
      have HX := Lib.hid (And.intro hkx (And.intro htk (And.intro hx2 (And.intro hx3 (And.intro hx4 hchg)))))
      clear hkx htk hx2 hx3 hx4 hchg
      go_wp2_with (at_builtin; go_must (refine wpList_copy_slr rfl (.tmp 24) (.tmp 26) 31 rfl 3 i3 (.int .i64 0) 8 Try.underlying31 hi3 hz3 hs3 hb3 rfl (by omega) A2 x.list.length c2 rfl (by simp) rfl hl2 one_int hnx (by omega) ?_))
      intro A3 c3 w2 yss k1 k2 k3 k4 k5
      have hI : IntsO 0 w2 (.slice A3 x.list.length c3) x.list := ints_own k1 rfl k2 k3 k4
      obtain ⟨f0, f1, f2⟩ := (k5.blk hbx id).cells3
      have fz := (k5.blk hbx id).frozen 1
      have hc2 : Chg (fun _ _ => False) wr w2 := hcb.trans k5
      obtain ⟨g0, g1⟩ := (hc2.blk hb id).cells2
      have gz := (hc2.blk hb id).frozen 0
      have hcs := hc2.setNew 1 (.slice A3 x.list.length c3) (Nat.le_refl wr.heap.size)
      have hI' : IntsO 0 (w2.setCell ⟨wr.heap.size, 1, none⟩ (.slice A3 x.list.length c3)) (.slice A3 x.list.length c3) x.list := hI.keep (chg_set (k5.blk hbx id) _) (fun _ _ h => absurd h (Nat.not_lt_zero _)) (fun b h => absurd h.2 (by decide))
      have hows := hcs.own how (fun _ _ => id)
      have HX2 := Lib.hid (And.intro hcs (And.intro hI' (And.intro hb how)))
      have hbase2 : base ≤ (w2.setCell ⟨wr.heap.size, 1, none⟩ (.slice A3 x.list.length c3)).heap.size := Nat.le_trans hbase hcs.size
      have htk := HX.out.2.1
      rw [htk] at hows
      clear htk k1 k2 k3 k4 k5 hI hbx hcb hl2 hc2 hcs hI' z0 z1 z2 d0 d1 e0 e1 hb how
      go_wp2_with (at_builtin; go_must (refine wpList_append_new rfl (.tmp 30) (.tmp 32) 22 rfl base 37 i41 _ 3 40 Try.underlying22 hi41 hz41 hs41 hb41 rfl (by omega) A1 k c1 xss.flatten rfl hows 1 1 [.int .i64 x.kind, .slice A3 x.list.length c3, .int .i64 x.res] rfl (by simp [World.setCell]) rfl (by simp; exact ⟨rfl, rfl, rfl⟩) (by simp only [maxLen]; omega) (by omega) hbase2 ?_))
      intro A4 c4 w3 hap
      obtain ⟨hkx, htk, hx2, hx3, hx4, hchg⟩ := HX.out
      obtain ⟨hcs, hI', hb, how⟩ := HX2.out
      have hap' : Apd ((w2.setCell ⟨wr.heap.size, 1, none⟩ (.slice A3 x.list.length c3)).alloc (.cells #[.int .i64 x.kind, .slice A3 x.list.length c3, .int .i64 x.res] 37)) w3 base 37 3 A1 A4 (types.take k).length c1 ((types.take k).length + 1) c4 (xss.flatten ++ [.int .i64 x.kind, .slice A3 x.list.length c3, .int .i64 x.res]) := by rw [htk]; exact hap
      have hp := own_push (T := 25) (j := 0) (by decide) hb how hx2 hx3 hx4 (fun w w' hc cs x h => h.keep hc (fun _ _ h => absurd h (Nat.not_lt_zero _)) (fun b h => by rcases h with h | h <;> exact absurd h.2 (by decide))) hcs (x := x) ⟨A3, c3, rfl, hi1, hi2, hI'⟩ rfl hap' (.slice A4 (k + 1) c4)
      have htk1 : types.take (k + 1) = types.take k ++ [x] := by
        obtain ⟨h1, h2⟩ := List.getElem?_eq_some_iff.1 hkx
        rw [List.take_succ_eq_append_getElem h1, h2]
      obtain ⟨g0, g1⟩ := hp.2.2.2.cells2
      have gz := hp.2.2.2.frozen 0
      have HP := Lib.hid (And.intro hp (And.intro htk1 hchg))
      clear hp htk1 hchg hap hap' hkx htk hx2 hx3 hx4 hcs hI' hb how hows
      go_wp2
      go_roundw
      case rel =>
        obtain ⟨⟨p1, p2, p3, _⟩, htk1, hchg⟩ := HP.out
        exact ⟨k + 1, A4, c4, by simp, hlt, by simpa using p1, by rw [htk1]; exact p2, ((hchg.mono fun b t _ h => .inl h).trans p3).mono fun b t hb h => h.elim id fun h => absurd h.1 (by have := HW.out.2.2.1; omega)⟩
      case measure => simp [intOf]; omega
    · have hke : k = types.length := by omega
      have h3 : types.take k = types := List.take_of_length_le (by omega)
      have hrt : RowR base 37 3 (ShapeO 0) wr A1 c1 types := by rw [← h3]; exact ⟨xss, how, hx2, hx3, hx4⟩
      rw [hke] at hb e0
      have HR := Lib.hid (And.intro hrt (And.intro hb hchg))
      have hchgw := hchg
      clear hx2 hx3 hx4 how htk hb hchg h3 hk hrt hT
      go_wp2_with fail
      go_loopw [6] (fun i wr => OwnF base g w0 types funcs i wr) (fun i _ => funcs.length - (intOf i).toNat)
      case atStart => exact ⟨0, A1, c1, none, 0, rfl, Nat.zero_le _, HR.out.2.1, HR.out.1, RowR.nil _ _ _ _ _, HR.out.2.2⟩
      case round =>
        clear HR hke hlt d0 d1 e0 e1 hchgw hbase
        obtain ⟨k, At, ct, A1, c1, rfl, hk, hb, hrt, ⟨xss, how, hx2, hx3, hx4⟩, hchg⟩ := hrel
        have htk : (funcs.take k).length = k := by simp; omega
        obtain ⟨d0, d1⟩ := (hchg.blk HB.out.1 (by rintro ⟨h, _⟩; omega)).cells2
        obtain ⟨e0, e1⟩ := hb.cells2
        have hbase : base ≤ wr.heap.size := Nat.le_trans HW.out.2.2.2 hchg.size
        obtain ⟨wo, rfl⟩ : ∃ wo : World, wo = wr := ⟨_, rfl⟩
        by_cases hlt : k < funcs.length
        · obtain ⟨bb, o, x, A2, c2, A3, c3, A4, c4, rfl, hkx, hi1, hi2, hl1, hl2, hl3, z0, z1, z2, z3, z4⟩ := (hF.keep hchg (fun b t hb h => by omega)).at_ hlt
          have hsum := sum_at cFunc hkx
          rw [show cFunc x = 30 + (10 + (x.locals.map fun _ => 10).sum) + (10 + (x.caps.map fun _ => 10).sum) + (x.code.map cInstr).sum from rfl] at hsum
          have hn1 : x.locals.length ≤ 1099511627776 := by have := len_le_sum (fun _ : Int => 10) (fun _ => by omega) x.locals; omega
          have hn2 : x.caps.length ≤ 1099511627776 := by have := len_le_sum (fun _ : Int => 10) (fun _ => by omega) x.caps; omega
          have hn3 : (x.code.map cInstr).sum ≤ 1099511627776 := by omega
          have hn4 := len_le_sum cInstr (fun _ => by unfold cInstr; omega) x.code
          have hbx := Blk.new wo 34 #[.int .i64 x.params, .slice A2 x.locals.length c2, .slice A3 x.caps.length c3, .int .i64 x.res, .slice A4 x.code.length c4]
          have hcb := chg_alloc wo (.cells #[.int .i64 x.params, .slice A2 x.locals.length c2, .slice A3 x.caps.length c3, .int .i64 x.res, .slice A4 x.code.length c4] 34)
          replace hl1 := hl1.keep hcb (fun _ _ _ => id)
          have HX := Lib.hid (And.intro hkx (And.intro htk (And.intro hx2 (And.intro hx3 (And.intro hx4 (And.intro hchg (And.intro hb (And.intro how hrt))))))))
          clear hkx htk hx2 hx3 hx4 hchg hb how hrt hF
          go_wp2_with (at_builtin; go_must (refine wpList_copy_slr rfl (.tmp 47) (.tmp 49) 31 rfl 3 i3 (.int .i64 0) 8 Try.underlying31 hi3 hz3 hs3 hb3 rfl (by omega) A2 x.locals.length c2 rfl (by simp [World.setCell]) rfl hl1 one_int (by omega) (by omega) ?_))
          intro A5 c5 w2 yss k1 k2 k3 k4 k5
          have hI1 : IntsO 0 w2 (.slice A5 x.locals.length c5) x.locals := ints_own k1 rfl k2 k3 k4
          replace hbx := k5.blk hbx id
          have hI1' : IntsO 0 (w2.setCell ⟨wo.heap.size, 1, none⟩ (.slice A5 x.locals.length c5)) (.slice A5 x.locals.length c5) x.locals := hI1.keep (chg_set hbx _) (fun _ _ h => absurd h (Nat.not_lt_zero _)) (fun b h => absurd h.2 (by decide))
          have hc2 : Chg (fun _ _ => False) wo (w2.setCell ⟨wo.heap.size, 1, none⟩ (.slice A5 x.locals.length c5)) := (hcb.trans k5).setNew 1 _ (Nat.le_refl _)
          obtain ⟨f0, f1, f2, f3, f4⟩ := hbx.cells5
          have fz := hbx.frozen 1
          have hs2 := hbx.lt
          have hbx2 : Blk (w2.setCell ⟨wo.heap.size, 1, none⟩ (.slice A5 x.locals.length c5)) wo.heap.size 34 #[.int .i64 x.params, .slice A5 x.locals.length c5, .slice A3 x.caps.length c3, .int .i64 x.res, .slice A4 x.code.length c4] := by simpa using hbx.set_ 1 (.slice A5 x.locals.length c5)
          replace hl2 := hl2.keep hc2 (fun _ _ _ => id)
          clear k1 k2 k3 k4 k5 hI1 hbx hcb hl1 z0 z1 z2 z3 z4 d0 d1 e0 e1
          go_wp2_with (at_builtin; go_must (refine wpList_copy_slr rfl (.tmp 52) (.tmp 54) 31 rfl 3 i3 (.int .i64 0) 8 Try.underlying31 hi3 hz3 hs3 hb3 rfl (by omega) A3 x.caps.length c3 rfl (by simp [World.setCell]) rfl hl2 one_int (by omega) (by omega) ?_))
          intro A6 c6 w3 yss k1 k2 k3 k4 k5
          have hI2 : IntsO 0 w3 (.slice A6 x.caps.length c6) x.caps := ints_own k1 rfl k2 k3 k4
          replace hbx2 := k5.blk hbx2 id
          have hI2' : IntsO 0 (w3.setCell ⟨wo.heap.size, 2, none⟩ (.slice A6 x.caps.length c6)) (.slice A6 x.caps.length c6) x.caps := hI2.keep (chg_set hbx2 _) (fun _ _ h => absurd h (Nat.not_lt_zero _)) (fun b h => absurd h.2 (by decide))
          have hI1'' : IntsO 0 (w3.setCell ⟨wo.heap.size, 2, none⟩ (.slice A6 x.caps.length c6)) (.slice A5 x.locals.length c5) x.locals := (hI1'.keep k5 (fun _ _ _ => id) (fun _ => id)).keep (chg_set hbx2 _) (fun _ _ h => absurd h (Nat.not_lt_zero _)) (fun b h => absurd h.2 (by decide))
          have hc3 : Chg (fun _ _ => False) wo (w3.setCell ⟨wo.heap.size, 2, none⟩ (.slice A6 x.caps.length c6)) := (hc2.trans k5).setNew 2 _ (Nat.le_refl _)
          clear f0 f1 f2 f3 f4 fz
          obtain ⟨f0, f1, f2, f3, f4⟩ := hbx2.cells5
          have fz := hbx2.frozen 2
          have hbx3 : Blk (w3.setCell ⟨wo.heap.size, 2, none⟩ (.slice A6 x.caps.length c6)) wo.heap.size 34 #[.int .i64 x.params, .slice A5 x.locals.length c5, .slice A6 x.caps.length c6, .int .i64 x.res, .slice A4 x.code.length c4] := by simpa using hbx2.set_ 2 (.slice A6 x.caps.length c6)
          replace hl3 := hl3.keep hc3 (fun _ _ _ => id)
          clear k1 k2 k3 k4 k5 hI2 hbx2 hl2 hI1' hc2
          go_wp2_with fail
          generalize hwi : w3.setCell ⟨wo.heap.size, 2, none⟩ (.slice A6 x.caps.length c6) = wi at hI1'' hI2' hc3 hbx3 hl3 ⊢
          clear f0 f1 f2 f3 f4 fz hwi
          obtain ⟨-, -, -, -, f4⟩ := hbx3.cells5
          go_loopw [8, 9] (fun v i wr => OwnC wi x.code v i wr) (fun _ i _ => x.code.length - (intOf i).toNat)
          case atStart => exact ⟨0, none, 0, rfl, rfl, Nat.zero_le _, RowR.nil _ _ _ _ _, Chg.refl _ _⟩
          case round =>
            clear f4
            obtain ⟨q, Aq, cq, rfl, rfl, hq, ⟨zss, hzo, hz2, hz3, hz4⟩, hzc⟩ := hrel
            have htq : (x.code.take q).length = q := by simp; omega
            obtain ⟨-, -, -, -, f4⟩ := (hzc.blk hbx3 id).cells5
            by_cases hltq : q < x.code.length
            · obtain ⟨bi, oi, z, A7, c7, rfl, hqz, hj1, hj2, hj3, hj4, hl4, z0, z1, z2, z3, z4⟩ := (hl3.keep hzc (fun _ _ _ => id)).at_ hltq
              have hsumz := sum_at cInstr hqz
              rw [show cInstr z = 50 + (z.cases.map cCase).sum from rfl] at hsumz
              have hn5 := len_le_sum cCase (fun _ => by unfold cCase; omega) z.cases
              have hbz := Blk.new wr 50 #[.int .i64 z.op, .int .i64 z.a, .int .i64 z.b, .int .u64 z.n, .slice A7 z.cases.length c7]
              have hcz := chg_alloc wr (.cells #[.int .i64 z.op, .int .i64 z.a, .int .i64 z.b, .int .u64 z.n, .slice A7 z.cases.length c7] 50)
              replace hl4 := hl4.keep hcz (fun _ _ _ => id)
              have HZ := Lib.hid (And.intro hqz (And.intro htq (And.intro hz2 (And.intro hz3 (And.intro hz4 (And.intro hzc hzo))))))
              have hwis := hzc.size
              clear hqz htq hz2 hz3 hz4 hzc hzo hl3 hI1'' hI2' hc3 hbx3
              go_wp2_with (at_builtin; go_must (refine wpList_copy_slr rfl (.tmp 69) (.tmp 71) 48 rfl 52 i79 _ 32 Try.underlying48 hi79 hz79 hs79 hb79 rfl (by omega) A7 z.cases.length c7 rfl (by simp [World.setCell]) rfl hl4 (fun cs y h => one_case cs y fun _ => h) (by omega) (by omega) ?_))
              intro A8 c8 w4 yss k1 k2 k3 k4 k5
              have hC : CasesO 0 w4 (.slice A8 z.cases.length c8) z.cases := cases_own k1 rfl k2 k3 k4
              replace hbz := k5.blk hbz id
              have hC' : CasesO 0 (w4.setCell ⟨wr.heap.size, 4, none⟩ (.slice A8 z.cases.length c8)) (.slice A8 z.cases.length c8) z.cases := hC.keep (chg_set hbz _) (fun _ _ h => absurd h (Nat.not_lt_zero _)) (fun b h => absurd h.2 (by decide))
              have hc4 : Chg (fun _ _ => False) wr (w4.setCell ⟨wr.heap.size, 4, none⟩ (.slice A8 z.cases.length c8)) := (hcz.trans k5).setNew 4 _ (Nat.le_refl _)
              obtain ⟨f0, f1, f2, f3, f5⟩ := hbz.cells5
              have fz := hbz.frozen 4
              have hzo := hc4.own HZ.out.2.2.2.2.2.2 (fun _ _ => id)
              have htq := HZ.out.2.1
              rw [htq] at hzo
              have HC := Lib.hid (And.intro hC' hc4)
              have hwi4 : wi.heap.size ≤ (w4.setCell ⟨wr.heap.size, 4, none⟩ (.slice A8 z.cases.length c8)).heap.size := Nat.le_trans hwis hc4.size
              clear htq k1 k2 k3 k4 k5 hC hbz hcz hl4 z0 z1 z2 z3 z4 f4 hC' hc4
              go_wp2_with (at_builtin; go_must (refine wpList_append_new rfl (.tmp 74) (.tmp 76) 32 rfl wi.heap.size 50 i55 _ 5 56 Try.underlying32 hi55 hz55 hs55 hb55 rfl (by omega) Aq q cq zss.flatten rfl hzo 1 1 [.int .i64 z.op, .int .i64 z.a, .int .i64 z.b, .int .u64 z.n, .slice A8 z.cases.length c8] rfl (by simp [World.setCell]) rfl (by simp; exact ⟨rfl, rfl, rfl, rfl, rfl⟩) (by simp only [maxLen]; omega) (by omega) hwi4 ?_))
              intro A9 c9 w5 hap
              have HAP := Lib.hid hap
              clear hap hzo
              go_wp2
              go_roundw
              case rel =>
                obtain ⟨hqz, htq, hz2, hz3, hz4, hzc, hzo⟩ := HZ.out
                obtain ⟨hC', hc4⟩ := HC.out
                have hap := HAP.out
                have hzo' := hc4.own hzo (fun _ _ => id)
                rw [htq] at hzo'
                have hch := hap.chg hzo'
                have htk1 : x.code.take (q + 1) = x.code.take q ++ [z] := by
                  obtain ⟨h1, h2⟩ := List.getElem?_eq_some_iff.1 hqz
                  rw [List.take_succ_eq_append_getElem h1, h2]
                refine ⟨q + 1, A9, c9, rfl, by simp, hltq, ?_, ?_⟩
                · rw [htk1]
                  refine RowR.snoc (w := wr) hz2 hz3 hz4 (fun cs y h => (h.keep hc4 (fun _ _ _ => id) (fun _ => id)).keep hch (fun _ _ h => absurd h (Nat.not_lt_zero _)) (fun b h => absurd h.2 (by decide))) (by rw [htq]; exact hap.own) rfl ⟨A8, c8, rfl, hj1, hj2, hj3, hj4, hC'.keep hch (fun _ _ h => absurd h (Nat.not_lt_zero _)) (fun b h => absurd h.2 (by decide))⟩
                · exact (hzc.trans hc4).trans_new hch fun b t hb h => by omega
              case measure => simp [intOf]; omega
            · have hqe : q = x.code.length := by omega
              have h3 : x.code.take q = x.code := List.take_of_length_le (by omega)
              have hrz : RowR wi.heap.size 50 5 (InstrO 0) wr Aq cq x.code := by rw [← h3]; exact ⟨zss, hzo, hz2, hz3, hz4⟩
              rw [hqe]
              have hbx4 := hzc.blk hbx3 id
              have hJ1 := hI1''.keep hzc (fun _ _ _ => id) (fun _ => id)
              have hJ2 := hI2'.keep hzc (fun _ _ _ => id) (fun _ => id)
              have hc5 := (hc3.trans hzc).setNew 4 (.slice Aq x.code.length cq) (Nat.le_refl wo.heap.size)
              have hJ1' := hJ1.keep (chg_set (j := 4) hbx4 (.slice Aq x.code.length cq)) (fun _ _ h => absurd h (Nat.not_lt_zero _)) (fun b h => absurd h.2 (by decide))
              have hJ2' := hJ2.keep (chg_set (j := 4) hbx4 (.slice Aq x.code.length cq)) (fun _ _ h => absurd h (Nat.not_lt_zero _)) (fun b h => absurd h.2 (by decide))
              have hJ3 : InstrsO 0 wr (.slice Aq x.code.length cq) x.code := hrz.slr (by decide) 0
              have hJ3' := hJ3.keep (chg_set (j := 4) hbx4 (.slice Aq x.code.length cq)) (fun _ _ h => absurd h (Nat.not_lt_zero _)) (fun b h => absurd h.2 (by decide)) (fun b h => absurd h.2 (by decide))
              obtain ⟨f0, f1, f2, f3, f4⟩ := hbx4.cells5
              have fz := hbx4.frozen 4
              have how5 := hc5.own HX.out.2.2.2.2.2.2.2.1 (fun _ _ => id)
              have htk := HX.out.2.1
              rw [htk] at how5
              have hb5 := hc5.blk HX.out.2.2.2.2.2.2.1 id
              have hbwr := (hc3.trans hzc).blk HX.out.2.2.2.2.2.2.1 id
              obtain ⟨e0, e1⟩ := hbwr.cells2
              have hbase5 := Nat.le_trans hbase hc5.size
              have HJ := Lib.hid (And.intro hJ1' (And.intro hJ2' (And.intro hJ3' hc5)))
              clear hqe h3 hrz hzo hz2 hz3 hz4 hzc htq hq hltq hbx4 hJ1 hJ2 hJ1' hJ2' hJ3 hJ3' hc5 hc3 hl3 hI1'' hI2' hbx3 htk hb5 hbwr
              go_wp2_with (at_builtin; go_must (refine wpList_append_new rfl (.tmp 81) (.tmp 83) 23 rfl base 34 i51 _ 5 88 Try.underlying23 hi51 hz51 hs51 hb51 rfl (by omega) A1 k c1 xss.flatten rfl how5 1 1 [.int .i64 x.params, .slice A5 x.locals.length c5, .slice A6 x.caps.length c6, .int .i64 x.res, .slice Aq x.code.length cq] rfl (by simp [World.setCell]) rfl (by simp; exact ⟨rfl, rfl, rfl, rfl, rfl⟩) (by simp only [maxLen]; omega) (by omega) hbase5 ?_))
              intro A9 c9 w5 hap
              have HAP := Lib.hid hap
              obtain ⟨hkx, htk, hx2, hx3, hx4, hchg, hb, how, hrt⟩ := HX.out
              obtain ⟨hJ1, hJ2, hJ3, hc5⟩ := HJ.out
              have htk1 : funcs.take (k + 1) = funcs.take k ++ [x] := by
                obtain ⟨h1, h2⟩ := List.getElem?_eq_some_iff.1 hkx
                rw [List.take_succ_eq_append_getElem h1, h2]
              have hap' : Apd ((wr.setCell ⟨wo.heap.size, 4, none⟩ (.slice Aq x.code.length cq)).alloc (.cells #[.int .i64 x.params, .slice A5 x.locals.length c5, .slice A6 x.caps.length c6, .int .i64 x.res, .slice Aq x.code.length cq] 34)) w5 base 34 5 A1 A9 (funcs.take k).length c1 ((funcs.take k).length + 1) c9 (xss.flatten ++ [.int .i64 x.params, .slice A5 x.locals.length c5, .slice A6 x.caps.length c6, .int .i64 x.res, .slice Aq x.code.length cq]) := by rw [htk]; exact hap
              have hp := own_push (T := 25) (j := 1) (by decide) hb how hx2 hx3 hx4 (fun w w' hc cs x h => h.keep hc (fun _ _ h => absurd h (Nat.not_lt_zero _)) (fun b h => by rcases h with h | h <;> exact absurd h.2 (by decide)) (fun b h => by rcases h with h | h <;> exact absurd h.2 (by decide)) (fun b h => by rcases h with h | h <;> exact absurd h.2 (by decide))) hc5 (x := x) ⟨A5, c5, A6, c6, Aq, cq, rfl, hi1, hi2, hJ1, hJ2, hJ3⟩ rfl hap' (.slice A9 (k + 1) c9)
              obtain ⟨g0, g1⟩ := hp.2.2.2.cells2
              have gz := hp.2.2.2.frozen 1
              have HP := Lib.hid (And.intro hp (And.intro htk1 (And.intro hchg hrt)))
              clear hp htk1 hchg hap hap' hkx htk hx2 hx3 hx4 hb how hrt hJ1 hJ2 hJ3 hc5 how5 HAP f0 f1 f2 f3 f4 fz e0 e1
              go_wp2
              go_roundw
              case rel =>
                obtain ⟨⟨p1, p2, p3, _⟩, htk1, hchg, hrt⟩ := HP.out
                refine ⟨k + 1, At, ct, A9, c9, by simp, hlt, by simpa using p1, ?_, by rw [htk1]; exact p2, ((hchg.mono fun b t _ h => .inl h).trans p3).mono fun b t hb h => h.elim id fun h => absurd h.1 (by have := HW.out.2.2.1; omega)⟩
                exact hrt.keep p3 (fun b _ h => by rcases h with h | h <;> exact absurd h.2 (by decide)) fun cs y h => h.keep p3 (fun _ _ h => absurd h (Nat.not_lt_zero _)) (fun b h => by rcases h with h | h <;> exact absurd h.2 (by decide))
              case measure => simp [intOf]; omega
        · have hke : k = funcs.length := by omega
          have h3 : funcs.take k = funcs := List.take_of_length_le (by omega)
          have hrf : RowR base 34 5 (FuncO 0) wo A1 c1 funcs := by rw [← h3]; exact ⟨xss, how, hx2, hx3, hx4⟩
          rw [hke] at hb e1
          have hbr := hchg.blk HB.out.2.1 (by rintro ⟨h, _⟩; omega)
          obtain ⟨q0, q1⟩ := hbr.cells2
          have fq0 := hbr.frozen 0
          have fq1 := hbr.frozen 1
          have HE := Lib.hid (And.intro hrt (And.intro hrf (And.intro hchg hbr)))
          clear hx2 hx3 hx4 how htk hb hchg h3 hk hrt hF hrf hke hbr d0
          go_wp2
          refine bodyPost_ret (v := .agg #[.slice At types.length ct, .slice A1 funcs.length c1]) (by simp [results, Try.results8, go_sem, q0, q1]) rfl ?_
          obtain ⟨hrt, hrf, hchg, hbr⟩ := HE.out
          obtain ⟨hW1, hW2, hW3, hW4⟩ := HW.out
          have hs : Chg (fun b t => b = r ∧ t = 25) wo ((wo.setCell ⟨r, 0, none⟩ (.slice At types.length ct)).setCell ⟨r, 1, none⟩ (.slice A1 funcs.length c1)) := (chg_set hbr _).trans (chg_set (hbr.set_ 0 _) _)
          refine ⟨At, ct, A1, c1, rfl, ?_, ?_, ?_⟩
          · exact Chg.below (M := fun b t => b0 ≤ b) ((hW2.mono fun _ _ _ h => h.elim).trans ((hchg.mono fun b t _ h => by obtain ⟨rfl, _⟩ := h; omega).trans (hs.mono fun b t _ h => by obtain ⟨rfl, _⟩ := h; omega))) (fun b t h => by omega) (Nat.le_refl _)
          · exact (hrt.keep hs (fun b _ h => absurd h.2 (by decide)) fun cs y h => h.keep hs (fun _ _ h => absurd h (Nat.not_lt_zero _)) (fun b h => absurd h.2 (by decide))).rebase (by omega)
          · exact (hrf.keep hs (fun b _ h => absurd h.2 (by decide)) fun cs y h => h.keep hs (fun _ _ h => absurd h (Nat.not_lt_zero _)) (fun b h => absurd h.2 (by decide)) (fun b h => absurd h.2 (by decide)) (fun b h => absurd h.2 (by decide))).rebase (by omega)
end Go.Proofs.Ytdegfnejhamejaa
