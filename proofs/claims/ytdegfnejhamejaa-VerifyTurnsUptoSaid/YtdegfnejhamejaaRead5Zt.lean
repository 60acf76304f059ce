/-
  Reading in the program: a list of numbers (Decode$5, Decode$5$1).
-/
import Derived.Test.YtdegfnejhamejaaRead4Zt
import Derived.Test.YtdegfnejhamejaaHeldGZt
import Derived.Test.YtdegfnejhamejaaGrowZt
namespace Go.Proofs.Ytdegfnejhamejaa
open Go.RowKit
set_option linter.unusedVariables false
set_option linter.unusedSimpArgs false

/-- An append of what has just been built, as a step of a region that draws its order. -/
theorem step_append_blkR {P : Program} (w : World) {ops : Array Oper} {o : Oper} {a : Act} {K : Act → World → Prop} {Q : Exit → Act → World → Prop} {E : Prop} (hgd : o.guard = none) (s x : Operand) (t : TypeId)
    (ho : o.op = .call { callee := .builtin .append, args := #[s, x], argTypes := #[t, t] })
    (base : Nat) (e : TypeId) (i : TypeInfo) (z : Value) (size bytes : Nat) (ht : P.underlying t = some (.slice e)) (hi : P.info? e = some i) (hz : i.zero = some z)
    (hsize : i.size = size) (hby : i.bytes = bytes) (hzs : z.cells.size = size) (hsz : 0 < size)
    (A : Option Addr) (n c : Nat) (xs : List Value) (hs : a.eval s = .slice A n c) (hown : w.ownsRow base e size (.slice A n c) n xs)
    (m k : Nat) (news : List Value) (b0 : Nat) (hx : a.eval x = .slice (some ⟨b0, 0, none⟩) m k) (hb : Blk w b0 e news.toArray) (hl : news.length = m * size) (h1 : ∀ u ∈ news, u.oneCell' = true)
    (h63 : n + m ≤ maxLen) (hbytes : (n + m) * bytes ≤ 140737488355328) (hbase : base ≤ w.heap.size)
    (h : ∀ A' c' w', w'.ownsRow base e size (.slice A' (n + m) c') (n + m) (xs ++ news) → w.grownBy w' (Value.slice A n c).ownBlock → K (a.put o.dst (.slice A' (n + m) c')) w') :
    if Region.wanted o (yielded ops a.tmps) = true then Oper.wp P o a w K Q else E :=
  step_append_any w hgd s x t ho base e i z size bytes ht hi hz hsize hby hzs hsz (.slice A n c) n xs hs hown w.heap.size (some ⟨b0, 0, none⟩) m k news hx (Reads.blk hb hl) h1 h63 hbytes hbase fun v' w' k1 k2 k3 => by
    obtain ⟨A', c', rfl⟩ := own_form k1
    exact h A' c' w' k1 k2
theorem own_chg {w w' : World} {base e size n c : Nat} {A : Option Addr} {xs : List Value} (how : w.ownsRow base e size (.slice A n c) n xs) (hg : w.grownBy w' (Value.slice A n c).ownBlock) : Chg (fun b t => base ≤ b ∧ t = e) w w' :=
  (Chg.refl _ w).grown hg fun g o hgo ho => by
    obtain ⟨h1, cs, h2⟩ := own_blk how hgo
    rw [h2] at ho
    injection ho with ho
    subst ho
    exact ⟨h1, rfl⟩
def intP (_ : World) (cs : List Value) (x : Int) : Prop := cs = [.int .i64 x] ∧ I64 x
/-- Numbers that Decode has read, in memory of its own from D on. -/
def IntsP (D : Nat) (w : World) (v : Value) (l : List Int) : Prop := ∃ A c, v = .slice A l.length c ∧ RowR D 3 1 intP w A c l
/-- The variable in which a list grows. -/
def GrowJ {α : Type} (D gl T e size : Nat) (R : World → List Value → α → Prop) (l : List α) (w : World) : Prop := ∃ A c, Blk w gl T #[.slice A l.length c] ∧ RowR D e size R w A c l
def MD (E : EnvB) (D b t : Nat) : Prop := ME E b t ∨ D ≤ b
structure Low (E : EnvB) (B D : Nat) : Prop where
  all : B ≤ D ∧ E.ba < D ∧ E.bb < D ∧ E.bs < D ∧ E.bf < D ∧ E.bn < D ∧ E.bm < D ∧ E.be < D ∧ E.bi < D ∧ E.bl < D
theorem LetsE.far {E : EnvB} {B D : Nat} (h : Low E B D) {M : Nat → Nat → Prop} (hM : ∀ b t, M b t → D ≤ b) : LetsE M E B := by
  obtain ⟨h0, h1, h2, h3, h4, h5, h6, h7, h8, h9⟩ := h.all
  exact ⟨fun b t hb hm => by have := hM b t hm; omega, fun t hm => by have := hM _ t hm; omega, fun t hm => by have := hM _ t hm; omega, fun t hm => by have := hM _ t hm; omega, fun t hm => by have := hM _ t hm; omega, fun t hm => by have := hM _ t hm; omega, fun t hm => by have := hM _ t hm; omega, fun t hm => by have := hM _ t hm; omega, fun t hm => by have := hM _ t hm; omega, fun t hm => by have := hM _ t hm; omega⟩
theorem Low.more {E : EnvB} {B D D' : Nat} (h : Low E B D) (hd : D ≤ D') : Low E B D' := by
  obtain ⟨h0, h1, h2, h3, h4, h5, h6, h7, h8, h9⟩ := h.all
  exact ⟨by omega, by omega, by omega, by omega, by omega, by omega, by omega, by omega, by omega, by omega⟩
theorem ME.low {E : EnvB} {B D b t : Nat} (h : Low E B D) (hm : ME E b t) : b < D := by
  obtain ⟨h0, h1, h2, _⟩ := h.all
  rcases hm.1 with h | h <;> omega
theorem GrowJ.keepE {α : Type} {E : EnvB} {B D gl T e size : Nat} {R : World → List Value → α → Prop} {l : List α} {w w' : World} (hl : Low E B D) (hg : D ≤ gl) (h : GrowJ D gl T e size R l w) (hc : Chg (ME E) w w') (hR : ∀ cs x, R w cs x → R w' cs x) : GrowJ D gl T e size R l w' := by
  obtain ⟨A, c, h1, h2⟩ := h
  exact ⟨A, c, hc.blk h1 fun hm => by have := ME.low hl hm; omega, h2.keep hc (fun b hb hm => by have := ME.low hl hm; omega) hR⟩
set_option maxRecDepth 100000 in
set_option maxHeartbeats 4000000 in
theorem ints1_any (E : EnvB) (B D : Nat) (bs : List Nat) (hl : Low E B D) (hn : bs.length ≤ 1048576) (gl : Nat) (hgl : D ≤ gl) (l : List Int) (w : World) (st : Except Nat Nat) (h : Env E B bs w st) (hJ : GrowJ D gl 31 3 1 intP l w) (hln : l.length ≤ 2147483647) (hD : D ≤ w.heap.size) :
    Calls Try.prog 42 #[ptr gl, ptr E.bm] w (OneRes E B bs (MD E D) (GrowJ D gl 31 3 1 intP) (smallP bs 0) l st w) := by
  obtain ⟨i0, hi0, hz0, hs0, hb0⟩ := info_parts infoInt
  have HE := Lib.hid h
  obtain ⟨a, hb, _⟩ := h
  have c3 := hb.small.cell 0
  obtain ⟨A, c, hbl, xss, how, h2, h3, h4⟩ := hJ
  have g0 := hbl.cell 0
  simp only [List.getElem?_toArray, List.getElem?_cons_zero] at c3 g0
  have HG := Lib.hid (And.intro hbl (And.intro how (And.intro h2 (And.intro h3 (And.intro h4 (And.intro hl (And.intro hgl hD)))))))
  clear hb hbl how h2 h3 h4 hl
  have e3 : ∀ (xs : Array Value) (w' : World), (callFunc 39 xs).run Try.prog w' = .ok (.enter 39 xs) w' := enters3
  go_enter Try.func42, Try.ntmps42
  go_wp2_with fail
  have hS0 : w.drew.cell? ⟨gl, 0, none⟩ = some (.slice A l.length c) ∧ w.drew.cell? ⟨E.bm, 0, none⟩ = some (.func (.func 39) #[] #[ptr E.ba, ptr E.bn, ptr E.bf]) := ⟨g0, c3⟩
  refine wp_region_G (S := fun w' => w'.cell? ⟨gl, 0, none⟩ = some (.slice A l.length c) ∧ w'.cell? ⟨E.bm, 0, none⟩ = some (.func (.func 39) #[] #[ptr E.ba, ptr E.bn, ptr E.bf])) 5 (by kernel_rfl) hS0 (fun hHeld => ?_)
  refine wpAnyG_take (i := 0) (v := ?va1) rfl (by kernel_rfl) (fun _ _ _ h => h) (Or.inl ⟨by rfl, ?hy1⟩) (by assumption) ?ra1
  case hy1 => (intro w hSw; (try dsimp only at hSw); go_simp; all_goals (with_reducible rfl))
  simp only [Act.put, List.setIfInBounds_toArray, List.set_cons_zero, List.set_cons_succ]
  refine wpAnyG_take (i := 1) (v := ?va2) rfl (by kernel_rfl) (fun _ _ _ h => h) (Or.inl ⟨by rfl, ?hy2⟩) (by assumption) ?ra2
  case hy2 => (intro w hSw; (try dsimp only at hSw); go_simp; all_goals (with_reducible rfl))
  simp only [Act.put, List.setIfInBounds_toArray, List.set_cons_zero, List.set_cons_succ]
  refine wpAnyG_ready (rs := [2]) (by kernel_rfl) (by simp) ?_
  refine AllReadyG.cons rfl (fun K hK => ?_) ?_
  · skip
    go_simp
    refine (small_any E B bs _ st (HE.out.keep ((by repeat' (first | exact Chg.refl (fun _ _ => False) _ | apply Chg.drew | apply Chg.drewN | apply Chg.alloc)) : Chg (fun _ _ => False) w w.drew) (LetsE.no E B)) hn 0 (.inl rfl)).mono ?_
    rintro e w1 ⟨x, rfl, hx0, hx1, hxv, hE1, hc1'⟩
    have hc1 : Chg (ME E) w w1 := (((by repeat' (first | exact Chg.refl (fun _ _ => False) _ | apply Chg.drew | apply Chg.drewN | apply Chg.alloc)) : Chg (fun _ _ => False) w w.drew).mono fun _ _ _ h => h.elim).trans hc1'
    have q0 := hc1.blk HG.out.1 fun hm => by have h8 := ME.low HG.out.2.2.2.2.2.1 hm; have h9 := HG.out.2.2.2.2.2.2.1; omega
    have q1 := hE1.choose_spec.1.small
    have hown1 := hc1.own HG.out.2.1 fun g hg hm => by have h8 := ME.low HG.out.2.2.2.2.2.1 hm; have h9 := (own_blk HG.out.2.1 hg).1; omega
    have g0 := q0.cell 0
    have g1 := q1.cell 0
    simp only [List.getElem?_toArray, List.getElem?_cons_zero] at g0 g1
    have s0 := fun o => (chg_alloc w1 o).cell g0 fun _ => id
    have t0 := fun o => (chg_alloc w1 o).cell g1 fun _ => id
    have H1 := Lib.hid (And.intro hxv (And.intro hE1 (And.intro hc1 (And.intro q1 (And.intro q0 (And.intro hown1 trivial))))))
    clear hxv hE1 hc1 hc1' q0 q1 hown1
    try simp only []
    refine hK.out _ _ ⟨g0, g1⟩ (fun hHeld => ?_)
    clear hK K
    try simp only [Act.put, List.setIfInBounds_toArray, List.set_cons_zero, List.set_cons_succ]
    refine wpAnyG_ready (rs := [3]) (by kernel_rfl) (by simp) ?_
    refine AllReadyG.cons rfl (fun K hK => ?_) ?_
    · skip
      go_simp
      refine hK.out _ _ ⟨s0 _, t0 _⟩ (fun hHeld => ?_)
      clear hK K
      try simp only [Act.put, List.setIfInBounds_toArray, List.set_cons_zero, List.set_cons_succ]
      clear s0 t0
      refine wpAnyG_ready (rs := [4]) (by kernel_rfl) (by simp) ?_
      refine AllReadyG.cons rfl (fun K hK => ?_) ?_
      · skip
        refine step_append_blkR _ rfl (.tmp 2) (.tmp 5) 31 rfl D 3 i0 _ 1 8 Try.underlying31 hi0 hz0 hs0 hb0 rfl (by omega) A l.length c xss.flatten (by first | rfl | simp [Act.eval, Act.put]) (H1.out.2.2.2.2.2.1.alloc _) 1 1 [.int .i64 x] _ (by first | rfl | simp [Act.eval, Act.put]) (Blk.new _ _ _) rfl (by intro u hu; simp at hu; subst hu; rfl) (by unfold maxLen; omega) (by omega) (Nat.le_trans HG.out.2.2.2.2.2.2.2 (Nat.le_trans H1.out.2.2.1.size (by simp))) ?_
        intro A6 c6 w6 hown6 hg6
        have hcg := own_chg (H1.out.2.2.2.2.2.1.alloc (.cells #[.int .i64 x] 3)) hg6
        have hc16 : Chg (fun b t => D ≤ b ∧ t = 3) w1 w6 := ((chg_alloc w1 _).mono fun _ _ _ h => h.elim).trans hcg
        have f0 := hc16.blk H1.out.2.2.2.2.1 (fun h => absurd h.2 (by decide))
        have f1 := hc16.blk H1.out.2.2.2.1 (fun h => absurd h.2 (by decide))
        have s0 := f0.cell 0
        have s1 := f1.cell 0
        have sz := f0.frozen 0
        simp only [List.getElem?_toArray, List.getElem?_cons_zero] at s0 s1
        have HP := Lib.hid (And.intro hown6 (And.intro hc16 f0))
        clear hown6 hg6 hcg hc16 f0 f1
        refine hK.out _ _ ⟨s0, s1⟩ (fun hHeld => ?_)
        clear hK K
        try simp only [Act.put, List.setIfInBounds_toArray, List.set_cons_zero, List.set_cons_succ]
        refine wpAnyG_last rfl (by kernel_rfl) (by kernel_rfl) (fun K hK => ?_)
        go_simp
        refine hK.out _ _ ?_
        clear hK K
        try simp only [Act.put, List.setIfInBounds_toArray, List.set_cons_zero, List.set_cons_succ]
        go_wp2_with fail
        go_end0
        obtain ⟨k1, k2, k3⟩ := HP.out
        have hset := chg_set (j := 0) k3 (.slice A6 (l.length + 1) c6)
        have hE6 : Env E B bs w6 (endS (runS (smallP bs 0) st)) := H1.out.2.1.keep k2 (LetsE.far HG.out.2.2.2.2.2.1 fun b t h => h.1)
        have hrow : RowR D 3 1 intP w6 A6 c6 (l ++ [x]) := RowR.snoc (w := w) HG.out.2.2.1 HG.out.2.2.2.1 HG.out.2.2.2.2.1 (fun _ _ h => h) k1 rfl ⟨rfl, by unfold I64; omega⟩
        refine ⟨rfl, x, ⟨A6, c6, ?_, ?_⟩, H1.out.1, hE6.keep hset (LetsE.far HG.out.2.2.2.2.2.1 fun b t h => by rw [h.1]; exact HG.out.2.2.2.2.2.2.1), ?_⟩
        · have := k3.set_ 0 (.slice A6 (l.length + 1) c6)
          simpa using this
        · exact hrow.keep hset (fun b hb h => absurd h.2 (by decide)) fun _ _ h => h
        · exact ((H1.out.2.2.1.mono fun b t _ h => .inl h).trans (k2.mono fun b t _ h => .inr h.1)).trans (hset.mono fun b t _ h => .inr (by rw [h.1]; exact HG.out.2.2.2.2.2.2.1))
      exact AllReadyG.nil
    exact AllReadyG.nil
  exact AllReadyG.nil
def IntsRes2 (E : EnvB) (B D : Nat) (bs : List Nat) (st : Except Nat Nat) (w : World) (e : Ending) (w' : World) : Prop :=
  ∃ v l, e = .returned v ∧ IntsP D w' v l ∧ (∀ l' a', runS (listP bs (smallP bs 0)) st = .ok (l', a') → l = l') ∧ Env E B bs w' (endS (runS (listP bs (smallP bs 0)) st)) ∧ Chg (ME E) w w'
theorem enters51 : EntersC 42 := by
  intro xs w'; show (callFunc _ _).run _ _ = _
  simp [callFunc, Try.func42, go_sem]
  rw [if_neg (by decide +kernel), if_neg (fun h => by cases h)]
set_option maxRecDepth 100000 in
set_option maxHeartbeats 4000000 in
theorem dints_any (E : EnvB) (B D : Nat) (bs : List Nat) (hl : Low E B D) (hn : bs.length ≤ 1048576) (w : World) (st : Except Nat Nat) (h : Env E B bs w st) (hD : D ≤ w.heap.size) :
    Calls Try.prog 41 #[ptr E.be, ptr E.bm] w (IntsRes2 E B D bs st w) := by
  have HE := Lib.hid (And.intro h (And.intro hl hD))
  obtain ⟨a, hb, _⟩ := h
  have hca := chg_alloc w (.cells #[.slice none 0 0] 31)
  have hbl := Blk.new w 31 #[.slice none 0 0]
  have c3 := (hca.blk hb.each id).cell 0
  simp only [List.getElem?_toArray, List.getElem?_cons_zero] at c3
  have HA := Lib.hid (And.intro hca hbl)
  clear hb hca hbl
  have e4 : ∀ (xs : Array Value) (w' : World), (callFunc 40 xs).run Try.prog w' = .ok (.enter 40 xs) w' := enters4
  go_enter Try.func41, Try.ntmps41
  go_wp2_with fail
  refine (each_any E B bs _ st (HE.out.1.keep HA.out.1 (LetsE.no E B)) hn 42 #[ptr w.heap.size, ptr E.bm] enters51 (MD E w.heap.size) (fun b t h => .inl h) (GrowJ w.heap.size w.heap.size 31 3 1 intP) (smallP bs 0) ⟨none, 0, HA.out.2, RowR.nil _ _ _ _ _⟩
    (fun w' hc => GrowJ.keepE (HE.out.2.1.more HE.out.2.2) (Nat.le_refl _) ⟨none, 0, HA.out.2, RowR.nil _ _ _ _ _⟩ hc fun _ _ h => h)
    (fun l w1 st1 hE1 hJ1 hl1 hc1 => ints1_any E B w.heap.size bs (HE.out.2.1.more HE.out.2.2) hn w.heap.size (Nat.le_refl _) l w1 st1 hE1 hJ1 hl1 (Nat.le_trans HA.out.1.size hc1.size))).mono fun e w2 hh => ?_
  obtain ⟨rfl, l, ⟨A, c, hb2, hrow⟩, hv, hE2, hc2⟩ := hh
  have g0 := hb2.cell 0
  simp only [List.getElem?_toArray, List.getElem?_cons_zero] at g0
  have H2 := Lib.hid (And.intro hrow (And.intro hv (And.intro hE2 hc2)))
  clear hb2 hrow hv hE2 hc2
  go_wp2_with fail
  go_ret
  exact ⟨_, l, rfl, ⟨A, c, rfl, H2.out.1.rebase HE.out.2.2⟩, H2.out.2.1, H2.out.2.2.1, (HA.out.1.mono fun _ _ _ h => h.elim).trans_le H2.out.2.2.2 fun b t hb h => h.resolve_right (by omega)⟩
end Go.Proofs.Ytdegfnejhamejaa
