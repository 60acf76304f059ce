/-
  The reference: one of some cases goes on, or all wait (Do): words for its walk.
-/
import Derived.Test.YtclllnoohoonoaaRClose
namespace Go.Proofs.Ytclllnoohoonoaa
open Go.RowKit
set_option linter.unusedVariables false
set_option linter.unusedSimpArgs false

theorem HubF.setBuf {F : Nat → Prop} {w : World} {A1 A3 A4 : Option Addr} {c1 c2 c3 c4 p gb k : Nat} {H : HubD} {ch : ChanD} {v' : Value} {buf' : List Nat} (hI : HubF F w p A1 c1 (some ⟨gb, 0, none⟩) c2 A3 c3 A4 c4 H) (hk : H.list[k]? = some ch) (hq : QR w 41 v' (u64V buf')) (hu : ∀ y ∈ buf', U64 y) :
    HubF (fun b => F b ∨ v'.ownBlock = some b) (w.setCell ⟨gb, k, none⟩ v') p A1 c1 (some ⟨gb, 0, none⟩) c2 A3 c3 A4 c4 (setCh H k { ch with buf := buf' }) ∧ Chg (MR F) w (w.setCell ⟨gb, k, none⟩ v') := by
  have hkl : k < H.list.length := (List.getElem?_eq_some_iff.1 hk).1
  obtain ⟨g, cs, hA, _, _, _, ⟨cur, hb⟩, _⟩ := own_at hI.bufs.choose_spec.1 hI.bufs.choose_spec.2.1 hI.bufs.choose_spec.2.2.1 hkl
  injection hA with hA
  injection hA with hA
  subst hA
  have hs := chg_set (j := k) hb v'
  refine ⟨⟨?_, ?_, ?_, ?_, ?_, ?_, ?_, ?_, fun b hb => .inl (hI.own4 b hb), .inl hI.own, fun b hb => ?_⟩, hs.mono fun b t _ h => ⟨by rw [h.1]; exact hI.own2 gb rfl, .inr (.inr (.inl h.2))⟩⟩
  · have := hs.blk hI.blk fun h => absurd h.2 (by decide)
    simpa [setCh] using this
  · exact (RowR.set_same (x' := { ch with buf := buf' }) hI.sizes hk fun cs h => h).keep1 hs (fun b hb h => absurd h.2 (by decide)) fun _ _ h => h
  · exact RowR.set1 (x' := { ch with buf := buf' }) (hI.bufs.imp fun _ _ h => h.more fun b hb => Or.inl hb) hkl (fun _ _ h => h.keep hs fun b hb h => absurd h.2 (by decide)) ⟨v', rfl, hq.keep hs (fun b hb h => absurd h.2 (by decide)), hu, fun b hb => .inr hb⟩
  · exact (RowR.set_same (x' := { ch with buf := buf' }) hI.shuts hk fun cs h => h).keep1 hs (fun b hb h => absurd h.2 (by decide)) fun _ _ h => h
  · exact hI.line.keep1 hs (fun b hb h => absurd h.2 (by decide)) fun _ _ h => h.keep hs fun b h => absurd h.2 (by decide)
  · intro b hb; exact .inl (hI.own1 b (by simpa [setCh] using hb))
  · intro b hb; exact .inl (hI.own2 b (by simpa [setCh] using hb))
  · intro b hb; exact .inl (hI.own3 b (by simpa [setCh] using hb))
  · have : b < w.heap.size := hb.elim (hI.lt b) fun h => (hq.lt h).1
    simpa [World.setCell] using this
theorem HubF.keepT {M : Nat → Nat → Prop} {F : Nat → Prop} {w w1 : World} {A1 A2 A3 A4 : Option Addr} {c1 c2 c3 c4 p : Nat} {H : HubD} (h : HubF F w p A1 c1 A2 c2 A3 c3 A4 c4 H) (hc : Chg M w w1) (hm : ∀ b t, (t = 33 ∨ t = 3 ∨ t = 34 ∨ t = 4 ∨ t = 40 ∨ t = 41 ∨ t = 43) → ¬ M b t) : HubF F w1 p A1 c1 A2 c2 A3 c3 A4 c4 H :=
  ⟨hc.blk h.blk (hm p _ (by simp)), h.sizes.keep1 hc (fun b hb => hm b _ (by simp)) fun _ _ h => h, h.bufs.keep1 hc (fun b hb => hm b _ (by simp)) fun _ _ h => h.keep hc fun b hb => hm b _ (by simp),
    h.shuts.keep1 hc (fun b hb => hm b _ (by simp)) fun _ _ h => h, h.line.keep1 hc (fun b hb => hm b _ (by simp)) fun _ _ h => h.keep hc fun b => hm b _ (by simp), h.own1, h.own2, h.own3, h.own4, h.own, fun b hb => Nat.lt_of_lt_of_le (h.lt b hb) hc.size⟩
theorem HubFR.keepT {M : Nat → Nat → Prop} {F : Nat → Prop} {w w1 : World} {p : Nat} {H : HubD} (h : HubFR F w p H) (hc : Chg M w w1) (hm : ∀ b t, (t = 33 ∨ t = 3 ∨ t = 34 ∨ t = 4 ∨ t = 40 ∨ t = 41 ∨ t = 43) → ¬ M b t) : HubFR F w1 p H := by
  obtain ⟨A1, c1, A2, c2, A3, c3, A4, c4, h⟩ := h
  exact ⟨A1, c1, A2, c2, A3, c3, A4, c4, h.keepT hc hm⟩
/-- Behind a call on the reference's hub, new memory of another type is written. -/
theorem HubQ.other {M : Nat → Nat → Prop} {F : Nat → Prop} {w w1 w' : World} {p : Nat} {H : HubD} (k : HubQ F w w1 p H) (h : Chg M w1 w') (hm : ∀ b t, (t = 33 ∨ t = 3 ∨ t = 34 ∨ t = 4 ∨ t = 40 ∨ t = 41 ∨ t = 43) → ¬ M b t) (hn : ∀ b t, M b t → w.heap.size ≤ b) : HubQ F w w' p H := by
  obtain ⟨F', h1, h2, h3⟩ := k
  exact ⟨F', h1.keepT h hm, h2, h3.trans_le h fun b t hb hM => absurd (hn b t hM) (by omega)⟩
def RDoRes (d : DoneD) (F : Nat → Prop) (p : Nat) (H' : HubD) (w : World) (e : Ending) (w' : World) : Prop :=
  ∃ v, e = .returned (.agg #[.int .i64 d.at_, .int .u64 (d.val : Int), .bool d.ok, v, .int .i64 d.e]) ∧ RSrvsT w' v d.served ∧ HubQ F w w' p H'
/-- The answer is laid into the result's block. -/
def set5 (w : World) (r : Nat) (a b c d e : Value) : World := ((((w.setCell ⟨r, 0, none⟩ a).setCell ⟨r, 1, none⟩ b).setCell ⟨r, 2, none⟩ c).setCell ⟨r, 3, none⟩ d).setCell ⟨r, 4, none⟩ e
theorem chg_set5 {w : World} {r : Nat} {cs : Array Value} (hb : Blk w r 95 cs) (a b c d e : Value) : Chg (fun b' t => b' = r ∧ t = 95) w (set5 w r a b c d e) :=
  ((((chg_set (j := 0) hb a).trans (chg_set (j := 1) (hb.set_ 0 _) b)).trans (chg_set (j := 2) ((hb.set_ 0 _).set_ 1 _) c)).trans (chg_set (j := 3) (((hb.set_ 0 _).set_ 1 _).set_ 2 _) d)).trans (chg_set (j := 4) ((((hb.set_ 0 _).set_ 1 _).set_ 2 _).set_ 3 _) e)
theorem done_ty (b t : Nat) (r : Nat) (ht : t = 33 ∨ t = 3 ∨ t = 34 ∨ t = 4 ∨ t = 40 ∨ t = 41 ∨ t = 43) : ¬ (b = r ∧ t = 95) := by
  intro h
  rcases ht with h' | h' | h' | h' | h' | h' | h' <;> (rw [h'] at h; exact absurd h.2 (by decide))
theorem done_end {F : Nat → Prop} {w w1 : World} {p r : Nat} {H' : HubD} {d : DoneD} {v : Value} {cs : Array Value} (hb : Blk w1 r 95 cs) (hr : w.heap.size ≤ r) (hQ : HubQ F w w1 p H') (hsv : RSrvsT w1 v d.served) (a b c d' e : Value) :
    RDoRes d F p H' w (.returned (.agg #[.int .i64 d.at_, .int .u64 (d.val : Int), .bool d.ok, v, .int .i64 d.e])) (set5 w1 r a b c d' e) :=
  ⟨v, rfl, hsv.keep (chg_set5 hb a b c d' e) fun b h => absurd h.2 (by decide), hQ.other (chg_set5 hb a b c d' e) (fun b t ht => done_ty b t r ht) fun b t h => by rw [h.1]; exact hr⟩
theorem set5_blk {w : World} {r : Nat} {x0 x1 x2 x3 x4 : Value} (hb : Blk w r 95 #[x0, x1, x2, x3, x4]) (a b c d e : Value) : Blk (set5 w r a b c d e) r 95 #[a, b, c, d, e] := by
  have := ((((hb.set_ 0 a).set_ 1 b).set_ 2 c).set_ 3 d).set_ 4 e
  simpa [set5] using this
theorem rdo_results {w : World} {r : Nat} {a b c d e : Value} {tmps : Array Value} (h : tmps.getD 10 undef = .pointer (some ⟨r, 0, none⟩)) (hb : Blk w r 95 #[a, b, c, d, e]) : (results Try.f41 tmps).run Try.prog w = .ok (.agg #[a, b, c, d, e]) w := by
  obtain ⟨q0, q1, q2, q3, q4⟩ := hb.cells5
  have h' : tmps[10]?.getD undef = .pointer (some ⟨r, 0, none⟩) := by simpa using h
  simp [results, Try.results41, go_sem, h, h', q0, q1, q2, q3, q4]
theorem own_made {w : World} {b0 e size base : Nat} (hb : Blk w b0 e #[]) (hg : base ≤ b0) : w.ownsRow base e size (.slice (some ⟨b0, 0, none⟩) 0 0) 0 [] :=
  ⟨by simp, .inr ⟨b0, 0, #[], rfl, hg, hb, Nat.le_refl _, by simp [maxLen], by simp, by simp⟩⟩
/-- 'append([]T{}, xs...)' as a step of a region that draws its order. -/
theorem step_copy_row {α : Type} {P : Program} (w : World) {ops : Array Oper} {o : Oper} {a : Act} {K : Act → World → Prop} {Q : Exit → Act → World → Prop} {E : Prop} {B e size : Nat} {R : World → List Value → α → Prop} {l : List α} (hgd : o.guard = none) (s x : Operand) (t : TypeId)
    (ho : o.op = .call { callee := .builtin .append, args := #[s, x], argTypes := #[t, t] })
    (i : TypeInfo) (z : Value) (bytes : Nat) (ht : P.underlying t = some (.slice e)) (hi : P.info? e = some i) (hz : i.zero = some z)
    (hsize : i.size = size) (hby : i.bytes = bytes) (hzs : z.cells.size = size) (hsz : 0 < size)
    (A : Option Addr) (n c : Nat) (b0 : Nat) (hs : a.eval s = .slice (some ⟨b0, 0, none⟩) 0 0) (hb0 : Blk w b0 e #[]) (hx : a.eval x = .slice A n c) (hr : SlR B e size R w (.slice A n c) l) (hone : ∀ cs y, R w cs y → ∀ u ∈ cs, u.oneCell' = true)
    (hn : n ≤ 1099511627776) (hb : bytes ≤ 127) (hR : ∀ w' cs y, R w cs y → R w' cs y)
    (h : ∀ A' c' w', RowR b0 e size R w' A' c' l → Chg (fun b t => b = b0 ∧ t = e) w w' → K (a.put o.dst (.slice A' l.length c')) w') :
    if Region.wanted o (yielded ops a.tmps) = true then Oper.wp P o a w K Q else E := by
  obtain ⟨xss, h1, h2, h3, h4⟩ := hr.reads
  have hl : n = l.length := by
    obtain ⟨A', c', hv, _⟩ := hr
    injection hv
  have honeF : ∀ u ∈ xss.flatten, u.oneCell' = true := by
    intro u hu
    obtain ⟨cs, hcs, hu⟩ := List.mem_flatten.1 hu
    obtain ⟨k, hk, hk2⟩ := List.mem_iff_getElem.1 hcs
    have hkl : k < l.length := by omega
    exact hone cs l[k] (h3 k _ _ (List.getElem?_eq_getElem hkl) (by rw [List.getElem?_eq_getElem hk, hk2])) u hu
  have hbn : n * bytes ≤ 1099511627776 * 127 := Nat.mul_le_mul hn hb
  refine step_append_any w hgd s x t ho b0 e i z size bytes ht hi hz hsize hby hzs hsz _ 0 [] hs (own_made hb0 (Nat.le_refl _)) w.heap.size A n c xss.flatten hx h4 honeF (by simp only [maxLen]; omega) (by rw [Nat.zero_add]; omega) (Nat.le_of_lt hb0.lt) ?_
  intro v' w' k1 k2 k3
  rw [Nat.zero_add, List.nil_append] at k1
  obtain ⟨A', c', rfl⟩ := own_form k1
  subst hl
  refine h A' c' w' ⟨xss, k1, h1, h2, fun k x cs ha hb => hR _ _ _ (h3 k x cs ha hb)⟩ ?_
  exact (Chg.refl _ w).grown k2 fun g o' hg ho' => by
    have : b0 = g := by simpa [Value.ownBlock] using hg
    subst this
    rw [show w.heap[b0]? = _ from hb0] at ho'
    injection ho' with ho'
    subst ho'
    exact ⟨rfl, rfl⟩
theorem rwait_end {F : Nat → Prop} {W0 W w6 : World} {A1 A2 A3 A4 A5 A6 : Option Addr} {c1 c2 c3 c4 c5 c6 p : Nat} {H : HubD} {xss : List (List Value)} {who : Int} {cases : List CaseC} (hI : HubF F W0 p A1 c1 A2 c2 A3 c3 A4 c4 H) (h2 : xss.length = H.wait.length) (h3 : ∀ cs ∈ xss, cs.length = 2) (h4 : ∀ (k : Nat) x cs, H.wait[k]? = some x → xss[k]? = some cs → RWaitV W0 cs x)
    (how : W0.ownsRow 0 40 2 (.slice A4 H.wait.length c4) H.wait.length xss.flatten) (hc : Chg (fun _ _ => False) W0 W) (hown6 : w6.ownsRow 0 40 2 (.slice A6 (H.wait.length + 1) c6) (H.wait.length + 1) (xss.flatten ++ [.int .i64 who, .slice A5 cases.length c5])) (hg : W.grownBy w6 (Value.slice A4 H.wait.length c4).ownBlock)
    (hpl : (Value.slice A6 (H.wait.length + 1) c6).ownBlock = (Value.slice A4 H.wait.length c4).ownBlock ∨ (Value.slice A6 (H.wait.length + 1) c6).ownBlock = some W.heap.size) (hcl : CasesX 0 W (.slice A5 cases.length c5) cases) (hwho : I64 who) :
    HubQ F W0 (w6.setCell ⟨p, 3, none⟩ (.slice A6 (H.wait.length + 1) c6)) p { H with wait := H.wait ++ [⟨who, cases⟩] } ∧ w6.cell? ⟨p, 3, none⟩ = some (.slice A4 H.wait.length c4) ∧ w6.frozen? ⟨p, 3, none⟩ = false := by
  have hcW := own_chg (hc.own how fun _ _ => id) hg
  have hc6 : Chg (fun b t => F b ∧ t = 40) W0 w6 := (hc.mono fun _ _ _ h => h.elim).trans (hcW.mono fun b t _ h => ⟨hI.own4 b h.1, h.2⟩)
  have hrow : RowR 0 40 2 RWaitV w6 A6 c6 (H.wait ++ [⟨who, cases⟩]) := RowR.snoc (w := W0) h2 h3 h4 (fun cs x h => (h.keep hc fun _ => id).keep hcW fun b h => absurd h.2 (by decide)) hown6 rfl ⟨A5, c5, rfl, hwho, hcl.keep hcW (fun b t h => absurd h (Nat.not_lt_zero _)) fun b h => absurd h.2 (by decide)⟩
  have hset := hI.setLine (l' := H.wait ++ [⟨who, cases⟩]) hc6 hrow (fun b hb => by
    simp only [List.length_append, List.length_singleton] at hb
    rcases hpl with h | h
    · rw [h] at hb; exact .inl (hI.own4 b hb)
    · rw [h] at hb; injection hb with hb; exact .inr (by rw [← hb]; exact hc.size))
  simp only [List.length_append, List.length_singleton] at hset
  exact ⟨hset.1, hset.2.cells4.2.2.2, hset.2.frozen 3⟩
theorem one_rcase {w : World} (cs : List Value) (x : CaseC) (h : CaseV w cs x) : ∀ u ∈ cs, u.oneCell' = true := by
  obtain ⟨rfl, _⟩ := h
  intro u hu
  simp at hu
  rcases hu with rfl | rfl | rfl <;> rfl
theorem RSrvsT.one {w : World} {b : Nat} {s : SrvD} (h : Blk w b 105 #[.int .i64 s.who, .int .i64 s.at_, .int .u64 s.val, .bool s.ok]) : RSrvsT w (.slice (some ⟨b, 0, none⟩) 1 1) [s] := by
  refine ⟨_, _, rfl, Nat.le_refl _, fun _ => ⟨b, 0, rfl, .inr ⟨by decide, _, _, h⟩, h.lt, fun k x hx => ?_⟩⟩
  match k, hx with
  | 0, hx =>
    simp at hx
    subst hx
    refine ⟨_, rfl, rfl, fun j u hu => ?_⟩
    rw [h.cell]
    simpa using hu
  | k + 1, hx => simp at hx
theorem HubQ.pre {M : Nat → Nat → Prop} {F : Nat → Prop} {w w1 w' : World} {p : Nat} {H' : HubD} (h : Chg M w w1) (hn : ∀ b t, M b t → w.heap.size ≤ b) (k : HubQ F w1 w' p H') : HubQ F w w' p H' := by
  obtain ⟨F', h1, h2, h3⟩ := k
  exact ⟨F', h1, fun b hb => (h2 b hb).imp id fun h' => Nat.le_trans h.size h', (h.mono fun b t hb hM => absurd (hn b t hM) (by omega)).trans h3⟩
theorem one_u64V (l : List Nat) : ∀ u ∈ u64V l, u.oneCell' = true := by
  intro u hu
  obtain ⟨x, _, rfl⟩ := List.mem_map.1 hu
  rfl
/-- 'append([]T{}, q...)' of a queue, as a step of a region that draws its order. -/
theorem step_copy_q {P : Program} (w : World) {ops : Array Oper} {o : Oper} {a : Act} {K : Act → World → Prop} {Q : Exit → Act → World → Prop} {E : Prop} (hgd : o.guard = none) (s x : Operand) (t : TypeId)
    (ho : o.op = .call { callee := .builtin .append, args := #[s, x], argTypes := #[t, t] })
    (e : TypeId) (i : TypeInfo) (z : Value) (bytes : Nat) (ht : P.underlying t = some (.slice e)) (hi : P.info? e = some i) (hz : i.zero = some z)
    (hsize : i.size = 1) (hby : i.bytes = bytes) (hzs : z.cells.size = 1)
    (b0 : Nat) (hs : a.eval s = .slice (some ⟨b0, 0, none⟩) 0 0) (hb0 : Blk w b0 e #[]) (v : Value) (xs : List Value) (hx : a.eval x = v) (hq : QR w e v xs) (n : Nat) (hxn : xs.length = n) (hone : ∀ u ∈ xs, u.oneCell' = true)
    (hn : n ≤ 1099511627776) (hb : bytes ≤ 127)
    (h : ∀ A' c' w', QR w' e (.slice A' n c') xs → Chg (fun b t => b = b0 ∧ t = e) w w' → (∀ b, (Value.slice A' n c').ownBlock = some b → b0 ≤ b) → K (a.put o.dst (.slice A' n c')) w') :
    if Region.wanted o (yielded ops a.tmps) = true then Oper.wp P o a w K Q else E := by
  obtain ⟨A, c, rfl, hr⟩ := hq.reads
  subst hxn
  have hbn : xs.length * bytes ≤ 1099511627776 * 127 := Nat.mul_le_mul hn hb
  refine step_append_any w hgd s x t ho b0 e i z 1 bytes ht hi hz hsize hby hzs (by omega) _ 0 [] hs (own_made hb0 (Nat.le_refl _)) w.heap.size A xs.length c xs hx hr hone (by simp only [maxLen]; omega) (by rw [Nat.zero_add]; omega) (Nat.le_of_lt hb0.lt) ?_
  intro v' w' k1 k2 k3
  rw [Nat.zero_add, List.nil_append] at k1
  obtain ⟨A', c', rfl⟩ := own_form k1
  refine h A' c' w' (QR.of_own k1).1 ?_ (QR.of_own k1).2
  exact (Chg.refl _ w).grown k2 fun g o' hg ho' => by
    have : b0 = g := by simpa [Value.ownBlock] using hg
    subst this
    rw [show w.heap[b0]? = _ from hb0] at ho'
    injection ho' with ho'
    subst ho'
    exact ⟨rfl, rfl⟩
theorem rbuf_end {F : Nat → Prop} {w7 w9 : World} {A1 A3 A4 : Option Addr} {c1 c2 c3 c4 p gb k : Nat} {H : HubD} {ch : ChanD} {v' : Value} {buf' : List Nat} (hI : HubF F w7 p A1 c1 (some ⟨gb, 0, none⟩) c2 A3 c3 A4 c4 H) (hk : H.list[k]? = some ch) (hc : Chg (fun _ _ => False) w7 w9) (hq : QR w9 41 v' (u64V buf')) (hu : ∀ y ∈ buf', U64 y)
    (hnew : ∀ b, v'.ownBlock = some b → F b ∨ w7.heap.size ≤ b) : HubQ F w7 (w9.setCell ⟨gb, k, none⟩ v') p (setCh H k { ch with buf := buf' }) ∧ w9.frozen? ⟨gb, k, none⟩ = false := by
  have hI9 := hI.keep hc (fun _ _ _ => id) (fun _ => id)
  obtain ⟨h1, h2⟩ := hI9.setBuf hk hq hu
  have hkl : k < H.list.length := (List.getElem?_eq_some_iff.1 hk).1
  obtain ⟨g, x, v, hA, _, _, _, _, _, _, hz⟩ := BufsR.at_ hI9.bufs hkl
  injection hA with hA
  injection hA with hA
  subst hA
  exact ⟨⟨_, ⟨_, _, _, _, _, _, _, _, h1⟩, fun b hb => hb.elim .inl (hnew b), (hc.mono fun _ _ _ h => h.elim).trans h2⟩, hz k⟩
/-- 'append([]T{}, q...)' of a queue. -/
theorem wpList_copy_q {P : Program} {w : World} {ops : Array Oper} {rest : List Oper} {o : Oper} {a : Act} {Q : Exit → Act → World → Prop} (hgd : o.guard = none) (s x : Operand) (t : TypeId)
    (ho : o.op = .call { callee := .builtin .append, args := #[s, x], argTypes := #[t, t] })
    (e : TypeId) (i : TypeInfo) (z : Value) (bytes : Nat) (ht : P.underlying t = some (.slice e)) (hi : P.info? e = some i) (hz : i.zero = some z)
    (hsize : i.size = 1) (hby : i.bytes = bytes) (hzs : z.cells.size = 1)
    (b0 : Nat) (hs : a.eval s = .slice (some ⟨b0, 0, none⟩) 0 0) (hb0 : Blk w b0 e #[]) (v : Value) (xs : List Value) (hx : a.eval x = v) (hq : QR w e v xs) (n : Nat) (hxn : xs.length = n) (hone : ∀ u ∈ xs, u.oneCell' = true)
    (hn : n ≤ 1099511627776) (hb : bytes ≤ 127)
    (h : ∀ A' c' w', QR w' e (.slice A' n c') xs → Chg (fun b t => b = b0 ∧ t = e) w w' → (∀ b, (Value.slice A' n c').ownBlock = some b → b0 ≤ b) → wpList P ops Q rest (a.put o.dst (.slice A' n c')) w') : wpList P ops Q (o :: rest) a w := by
  obtain ⟨A, c, rfl, hr⟩ := hq.reads
  subst hxn
  have hbn : xs.length * bytes ≤ 1099511627776 * 127 := Nat.mul_le_mul hn hb
  refine wpList_append_any w hgd s x t ho b0 e i z 1 bytes ht hi hz hsize hby hzs (by omega) _ 0 [] hs (own_made hb0 (Nat.le_refl _)) w.heap.size A xs.length c xs hx hr hone (by simp only [maxLen]; omega) (by rw [Nat.zero_add]; omega) (Nat.le_of_lt hb0.lt) ?_
  intro v' w' k1 k2 k3
  rw [Nat.zero_add, List.nil_append] at k1
  obtain ⟨A', c', rfl⟩ := own_form k1
  refine h A' c' w' (QR.of_own k1).1 ?_ (QR.of_own k1).2
  exact (Chg.refl _ w).grown k2 fun g o' hg ho' => by
    have : b0 = g := by simpa [Value.ownBlock] using hg
    subst this
    rw [show w.heap[b0]? = _ from hb0] at ho'
    injection ho' with ho'
    subst ho'
    exact ⟨rfl, rfl⟩
theorem rbuf_end2 {F F' : Nat → Prop} {w w9 : World} {A1 A3 A4 : Option Addr} {c1 c2 c3 c4 p gb k : Nat} {H : HubD} {ch : ChanD} {v' : Value} {buf' : List Nat} (hI : HubF F' w9 p A1 c1 (some ⟨gb, 0, none⟩) c2 A3 c3 A4 c4 H) (hk : H.list[k]? = some ch) (hq : QR w9 41 v' (u64V buf')) (hu : ∀ y ∈ buf', U64 y)
    (hnew : ∀ b, v'.ownBlock = some b → w.heap.size ≤ b) (hsub : ∀ b, F' b → F b ∨ w.heap.size ≤ b) (hc : Chg (MR F) w w9) : HubQ F w (w9.setCell ⟨gb, k, none⟩ v') p (setCh H k { ch with buf := buf' }) := by
  obtain ⟨h1, h2⟩ := hI.setBuf hk hq hu
  refine ⟨_, ⟨_, _, _, _, _, _, _, _, h1⟩, fun b hb => hb.elim (hsub b) fun h => .inr (hnew b h), hc.trans_le h2 fun b t hb h => ⟨?_, h.2⟩⟩
  rcases hsub b h.1 with h' | h'
  · exact h'
  · omega
theorem setCh_same {H : HubD} {k : Nat} {ch : ChanD} (hk : H.list[k]? = some ch) : setCh H k ch = H := by
  obtain ⟨hl, he⟩ := List.getElem?_eq_some_iff.1 hk
  unfold setCh
  rw [← he, List.set_getElem_self]
theorem recv_none {H : HubD} {k x : Nat} {r : List Nat} {ch : ChanD} (hk : H.list[k]? = some ch) (hf : findW ((k : Int) + 1) true H.wait = none) (hb : ch.buf = x :: r) : recvC H ((k : Int) + 1) = (setCh H k { ch with buf := r }, x, true, []) := by
  simp only [recvC]
  rw [show ((k : Int) + 1 - 1).toNat = k by omega, hk]
  simp only [hb, hf]
theorem recv_nil {H : HubD} {k : Nat} {ch : ChanD} (hk : H.list[k]? = some ch) (hf : findW ((k : Int) + 1) true H.wait = none) (hb : ch.buf = []) : recvC H ((k : Int) + 1) = (H, 0, false, []) := by
  simp only [recvC]
  rw [show ((k : Int) + 1 - 1).toNat = k by omega, hk]
  simp only [hb, hf]
theorem recv_some {H : HubD} {k x i q : Nat} {r : List Nat} {ch : ChanD} (hk : H.list[k]? = some ch) (hf : findW ((k : Int) + 1) true H.wait = some (i, q)) (hb : ch.buf ++ [valOf H i q] = x :: r) : recvC H ((k : Int) + 1) = (setCh (unwait H i) k { ch with buf := r }, x, true, [srvOf H i q 0 true]) := by
  simp only [recvC]
  rw [show ((k : Int) + 1 - 1).toNat = k by omega, hk]
  obtain ⟨size, buf, shut⟩ := ch
  simp only at hb ⊢
  cases buf with
  | nil =>
    simp only [List.nil_append, List.cons.injEq] at hb
    obtain ⟨rfl, rfl⟩ := hb
    simp only [hf]
    rw [setCh_same (H := unwait H i) hk]
  | cons y r' =>
    simp only [List.cons_append, List.cons.injEq] at hb
    obtain ⟨rfl, rfl⟩ := hb
    simp only [hf]
    rfl
end Go.Proofs.Ytclllnoohoonoaa
