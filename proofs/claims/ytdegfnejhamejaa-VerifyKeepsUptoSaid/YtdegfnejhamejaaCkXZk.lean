/-
  run: the program's walk through one function's instructions.
-/
import Derived.Test.YtdegfnejhamejaaCkUZk
namespace Go.Proofs.Ytdegfnejhamejaa
open Go.RowKit
set_option linter.unusedVariables false
set_option linter.unusedSimpArgs false

def run1Rel (h : Hd) (b : Nat) (w1 : World) (i : Value) (wr : World) : Prop := ∃ j : Nat, j ≤ h.f.code.length ∧ i = .int .i64 j ∧ PlR wr b (placesOf (h.f.code.take j)) ∧ Chg (MP b) w1 wr
def runInRel (h : Hd) (b : Nat) (w1 : World) (x : InstrD) (l : List Int) (i : Value) (wr : World) : Prop := ∃ k : Nat, k ≤ x.cases.length ∧ i = .int .i64 k ∧ PlR wr b (l ++ (x.cases.take k).map (·.to)) ∧ Chg (MP b) w1 wr
def run2Rel (h : Hd) (G0 : Nat → Prop) (J : Nat → (Nat → Prop) → World → Prop) (b : Nat) (w : World) (i : Value) (wr : World) : Prop :=
  ∃ (j : Nat) (pos : Int) (s : VSt) (G : Nat → Prop), (∀ x, G x → b < x) ∧ j ≤ h.f.code.length ∧ i = .int .i64 j ∧ atN h.m h.f j = some s.stack ∧ fromN h.m h.f (h.f.code.length - j) j s.stack = fromN h.m h.f h.f.code.length 0 [] ∧ StV h.m s.stack ∧ CkI (((h.own G).places b).at_ pos) 1000 wr s ∧ PlR wr b (placesOf h.f.code) ∧ J j G wr ∧ Chg (MB h G0) w wr
set_option maxRecDepth 100000 in
theorem neq_nilF (W : World) : (binOp .neq 72 .nilFunc .nilFunc).run Try.prog W = .ok (.bool false) W := by
  first | kernel_rfl | rfl | (go_simp; rfl) | go_simp
set_option maxRecDepth 100000 in
theorem neq_funF (fd : FuncId) (env : Array Value) (W : World) : (binOp .neq 72 (.func (.func fd) #[] env) .nilFunc).run Try.prog W = .ok (.bool true) W := by
  first | kernel_rfl | rfl | (go_simp; rfl) | go_simp
theorem PlR.lt {w : World} {b : Nat} {l : List Int} (H : PlR w b l) : b < w.heap.size := by obtain ⟨n, mm, g, h1, _⟩ := H; exact h1.lt
theorem sum_ge : ∀ (l : List Nat) (x : Nat), x ∈ l → x ≤ l.sum
  | y :: l, x, h => by
    rw [List.sum_cons]
    rcases List.mem_cons.1 h with rfl | h
    · omega
    · have := sum_ge l x h; omega
theorem CkI.d13 {h : Hd} {k : Nat} {w : World} {s : VSt} (H : CkI h k w s) : w.cell? ⟨h.p, 13, none⟩ = some h.dn ∧ w.cell? ⟨h.p, 11, none⟩ = some h.pl := by
  obtain ⟨As, cs, At, ct, Al, cl, kn, H⟩ := H
  exact ⟨by simpa using H.blk.cell 13, by simpa using H.blk.cell 11⟩
set_option maxRecDepth 100000 in
set_option maxHeartbeats 8000000 in
theorem run_any (h : Hd) (cl : Cli h) (w : World) (hpos : h.pos = 0) (H : CkI h 6000 w ⟨[], [], []⟩) (hJ : cl.J 0 (fun _ => False) w) (hp : (placesOf h.f.code).length < 4611686018427387904) (hpt : ∀ x ∈ h.f.code, x.cases.length < 4611686018427387904) :
    Calls Try.prog 30 #[.pointer (some ⟨h.p, 0, none⟩), .func (.func cl.fe) #[] cl.env] w (RunRes h cl.G0 cl.J w) := by
  obtain ⟨hI, hP, hc1, hlp, f11, d11⟩ := H.places
  have hbase := H.base_le
  have hlow : ∀ b, h.K b → b < w.heap.size := by
    obtain ⟨As, cs, At, ct, Al, cl', kn, H⟩ := H
    exact H.low
  have hplace : h.base ≤ h.p ∧ ¬ h.K h.p := by
    obtain ⟨As, cs, At, ct, Al, cl', kn, H⟩ := H
    exact H.place
  have hbn : ¬ h.K w.heap.size := fun hk => Nat.lt_irrefl _ (hlow _ hk)
  have hmc1 : Chg (MC h) w ((w.setCell ⟨h.p, 11, none⟩ (.map (some w.heap.size))).alloc (.map #[] 0)) := hc1.mono fun b t _ hm => by rw [hm.1]; exact hplace
  have hJ1 := cl.keep 0 _ _ _ hJ (hmc1.mono fun _ _ _ hm => ⟨hm.1, fun hh => hh.elim hm.2 id⟩)
  have hmm := @run_makeMap Try.prog
  have hne : h.p ≠ w.heap.size := by omega
  obtain ⟨A5, hA5⟩ : ∃ A, h.A5 = A := ⟨_, rfl⟩
  have HH := Lib.hid (And.intro hbase (And.intro hlow (And.intro hplace (And.intro hbn (And.intro hp (And.intro hpt (And.intro hA5 hpos)))))))
  have hl62 : h.f.code.length < 9223372036854775807 := by
    have h1 := formed_len H.fix.mod.formed
    have h2 := H.fix.mod.formed
    unfold formedMod at h2
    simp only [Bool.and_eq_true, decide_eq_true_eq] at h2
    have h3 : h.f.code.length ≤ codeAll h.m.funcs := by
      unfold codeAll
      exact sum_ge _ _ (List.mem_map.2 ⟨h.f, H.fix.mod.func, rfl⟩)
    omega
  have d6 := (hI.fix).d6
  have d6 : ((w.setCell ⟨h.p, 11, none⟩ (.map (some w.heap.size))).alloc (.map #[] 0)).cell? ⟨h.p, 6, none⟩ = some (.slice A5 h.f.code.length h.c5) := by rw [← hA5]; exact d6
  have H1 := Lib.hid (And.intro hI (And.intro hP (And.intro hmc1 hJ1)))
  clear hI hP hc1 hbase hlow hplace hbn hmc1 hJ1 H hJ hp hpt hA5 hpos
  go_enter Try.func30, Try.ntmps30
  go_wp2_with fail
  clear d11 f11 hmm
  generalize ((w.setCell ⟨h.p, 11, none⟩ (.map (some w.heap.size))).alloc (.map #[] 0)) = w1 at d6 H1 ⊢
  go_loopw [20] (fun i wr => run1Rel h w.heap.size w1 i wr) (fun i _ => h.f.code.length - (intOf i).toNat)
  case atStart => exact ⟨0, Nat.zero_le _, rfl, by simpa [placesOf] using H1.out.2.1, Chg.refl _ _⟩
  case round =>
    obtain ⟨j, hj, rfl, hP, hch⟩ := hrel
    have q3 : IntKind.i64.wrap ((j : Int) + 1) = (j : Int) + 1 := IntWalk.i64_in _ ⟨by omega, by omega⟩
    by_cases hlt : j < h.f.code.length
    · have q1 : decide (j < h.f.code.length) = true := decide_eq_true hlt
      have q2 : (j : Int) < (h.f.code.length : Int) := by omega
      have hCI := H1.out.1.far hch (fun b' t hm => ⟨.inr hm.1, by have := hm.1; have := HH.out.1; show h.B ≤ b'; omega⟩)
      have d11 : wr.cell? ⟨h.p, 11, none⟩ = some (.map (some w.heap.size)) := hCI.d13.2
      obtain ⟨cb, co, x, CA, cc, hA5', hx, hIo, hIa, hIb, hUn, hcs, y0, y1, y2, y3, y4⟩ := (hCI.fix.mod.code).at_ (k := j) hlt
      obtain rfl : A5 = some ⟨cb, co, none⟩ := HH.out.2.2.2.2.2.2.1.symm.trans hA5'
      obtain ⟨op, xa, xb, xn, cs⟩ := x
      simp only at *
      have hcl : cs.length < 4611686018427387904 := HH.out.2.2.2.2.2.1 _ (List.mem_of_getElem? hx)
      have HX := Lib.hid (And.intro hx (And.intro hP (And.intro hch (And.intro hIa (And.intro hIb (And.intro hcs hIo))))))
      have HL62 := Lib.hid hcl
      clear hx hP hch hIo hIa hIb hUn hcs hA5' hCI hcl
      by_cases h33 : op = 33
      · subst h33
        have hca := chg_alloc wr (.cells #[.int .i64 33, .int .i64 xa, .int .i64 xb, .int .u64 (xn : Int), .slice CA cs.length cc] 50)
        have hbx := Blk.new wr 50 #[.int .i64 33, .int .i64 xa, .int .i64 xb, .int .u64 (xn : Int), .slice CA cs.length cc]
        have z1 : (wr.alloc (.cells #[.int .i64 33, .int .i64 xa, .int .i64 xb, .int .u64 (xn : Int), .slice CA cs.length cc] 50)).cell? ⟨wr.heap.size, 1, none⟩ = some (.int .i64 xa) := by simp
        have e11 := hca.cell d11 (fun _ => id)
        go_wp2_with fail
        have hPa := HX.out.2.1.keep hca id
        clear hbx d11
        generalize (wr.alloc (.cells #[.int .i64 33, .int .i64 xa, .int .i64 xb, .int .u64 (xn : Int), .slice CA cs.length cc] 50)) = W at z1 e11 hPa hca ⊢
        obtain ⟨w4, hput, hP4, hc4⟩ := (hPa.keep (Chg.refl (fun _ _ => False) W).drew id).put HX.out.2.2.2.1 (by have := places_le h.f.code j; have := HH.out.2.2.2.2.1; omega)
        have HP := Lib.hid (And.intro hP4 (HX.out.2.2.1.trans ((hca.drew.mono fun _ _ _ h => h.elim : Chg (MP w.heap.size) _ _).trans hc4)))
        clear hP4 hc4 hca hPa y0 y1 y2 y3 y4
        refine wp_region_still_tail 6 (by kernel_rfl) (by kernel_rfl) ?_
        simp only [List.take_succ_cons, List.take_zero, List.drop_succ_cons, List.drop_zero]
        repeat (with_reducible refine wpStill_step (fun K hK => ?_); go_simp; with_reducible refine hK _ ?_; clear hK K)
        try with_reducible refine wpStill_nil ?_
        change wpList _ _ _ _ _ (World.drew W)
        go_wp2_with fail
        go_roundw
        case rel => exact ⟨j + 1, hlt, by simp, by rw [places_take h.f.code HX.out.1]; simpa [jumpsOf] using HP.out.1, HP.out.2⟩
        case measure => simp [intOf]; omega
      · by_cases h34 : op = 34
        · subst h34
          have hca := chg_alloc wr (.cells #[.int .i64 34, .int .i64 xa, .int .i64 xb, .int .u64 (xn : Int), .slice CA cs.length cc] 50)
          have hbx := Blk.new wr 50 #[.int .i64 34, .int .i64 xa, .int .i64 xb, .int .u64 (xn : Int), .slice CA cs.length cc]
          have z1 : (wr.alloc (.cells #[.int .i64 34, .int .i64 xa, .int .i64 xb, .int .u64 (xn : Int), .slice CA cs.length cc] 50)).cell? ⟨wr.heap.size, 1, none⟩ = some (.int .i64 xa) := by simp
          have e11 := hca.cell d11 (fun _ => id)
          go_wp2_with fail
          have hPa := HX.out.2.1.keep hca id
          clear hbx d11
          generalize (wr.alloc (.cells #[.int .i64 34, .int .i64 xa, .int .i64 xb, .int .u64 (xn : Int), .slice CA cs.length cc] 50)) = W at z1 e11 hPa hca ⊢
          obtain ⟨w4, hput, hP4, hc4⟩ := (hPa.keep (Chg.refl (fun _ _ => False) W).drew id).put HX.out.2.2.2.1 (by have := places_le h.f.code j; have := HH.out.2.2.2.2.1; omega)
          have HP := Lib.hid (And.intro hP4 (HX.out.2.2.1.trans ((hca.drew.mono fun _ _ _ h => h.elim : Chg (MP w.heap.size) _ _).trans hc4)))
          clear hP4 hc4 hca hPa y0 y1 y2 y3 y4
          refine wp_region_still_tail 6 (by kernel_rfl) (by kernel_rfl) ?_
          simp only [List.take_succ_cons, List.take_zero, List.drop_succ_cons, List.drop_zero]
          repeat (with_reducible refine wpStill_step (fun K hK => ?_); go_simp; with_reducible refine hK _ ?_; clear hK K)
          try with_reducible refine wpStill_nil ?_
          change wpList _ _ _ _ _ (World.drew W)
          go_wp2_with fail
          go_roundw
          case rel => exact ⟨j + 1, hlt, by simp, by rw [places_take h.f.code HX.out.1]; simpa [jumpsOf] using HP.out.1, HP.out.2⟩
          case measure => simp [intOf]; omega
        · by_cases h32 : op = 32
          · subst h32
            cases hb : decide (0 < xb)
            · have HB := Lib.hid hb
              have hjq : jumpsOf ⟨32, xa, xb, xn, cs⟩ = [] ++ cs.map (·.to) := by have := of_decide_eq_false hb; simp [jumpsOf, this]
              have HJQ := Lib.hid hjq
              clear hjq
              have hca := chg_alloc wr (.cells #[.int .i64 32, .int .i64 xa, .int .i64 xb, .int .u64 (xn : Int), .slice CA cs.length cc] 50)
              have hbx := Blk.new wr 50 #[.int .i64 32, .int .i64 xa, .int .i64 xb, .int .u64 (xn : Int), .slice CA cs.length cc]
              have z2 : (wr.alloc (.cells #[.int .i64 32, .int .i64 xa, .int .i64 xb, .int .u64 (xn : Int), .slice CA cs.length cc] 50)).cell? ⟨wr.heap.size, 2, none⟩ = some (.int .i64 xb) := by simp
              have z4 : (wr.alloc (.cells #[.int .i64 32, .int .i64 xa, .int .i64 xb, .int .u64 (xn : Int), .slice CA cs.length cc] 50)).cell? ⟨wr.heap.size, 4, none⟩ = some (.slice CA cs.length cc) := by simp
              have e11 := hca.cell d11 (fun _ => id)
              go_wp2_with fail
              have hPa := HX.out.2.1.keep hca id
              have hmp : Chg (MP w.heap.size) wr (wr.alloc (.cells #[.int .i64 32, .int .i64 xa, .int .i64 xb, .int .u64 (xn : Int), .slice CA cs.length cc] 50)) := hca.mono fun _ _ _ h => h.elim
              have HP := Lib.hid (And.intro (show PlR (wr.alloc (.cells #[.int .i64 32, .int .i64 xa, .int .i64 xb, .int .u64 (xn : Int), .slice CA cs.length cc] 50)) w.heap.size (placesOf (h.f.code.take j) ++ []) by rw [List.append_nil]; exact hPa) (And.intro (HX.out.2.2.1.trans hmp) hmp))
              clear hbx hPa hmp hca y0 y1 y2 y3 y4 e11
              generalize (wr.alloc (.cells #[.int .i64 32, .int .i64 xa, .int .i64 xb, .int .u64 (xn : Int), .slice CA cs.length cc] 50)) = W0 at HP z2 z4 ⊢
              go_loopw [50] (fun i ws => runInRel h w.heap.size W0 ⟨32, xa, xb, xn, cs⟩ (placesOf (h.f.code.take j) ++ []) i ws) (fun i _ => cs.length - (intOf i).toNat)
              case atStart => exact ⟨0, Nat.zero_le _, rfl, by simpa using HP.out.1, Chg.refl _ _⟩
              case round =>
                obtain ⟨i, hi, rfl, hPi, hci⟩ := hrel
                have hi : i ≤ cs.length := hi
                have q5 : IntKind.i64.wrap ((i : Int) + 1) = (i : Int) + 1 := IntWalk.i64_in _ ⟨by omega, by have := HL62.out; omega⟩
                by_cases hlt2 : i < cs.length
                · have q6 : decide (i < cs.length) = true := decide_eq_true hlt2
                  have q7 : (i : Int) < (cs.length : Int) := by omega
                  have hcj := HX.out.2.2.2.2.2.1
                  obtain ⟨kb, ko, k, rfl, hk, _, _, hIt, u0, u1, u2, u3⟩ := (CasesR.keep hcj (HP.out.2.2.trans hci) (fun b _ hb hm => by have := hm.1; have := HH.out.1; have h9 : b < h.B := hb; omega)).at_ (k := i) hlt2
                  have f11 := (HP.out.2.2.trans hci).cell d11 (fun t hm => hne hm.1)
                  have HQ0 := Lib.hid (And.intro hPi (And.intro hci (And.intro hk hIt)))
                  clear hPi hci hk hIt hcj
                  have hca := chg_alloc wr (.cells #[.bool k.send, .int .i64 k.chan, .int .i64 k.val, .int .i64 k.to] 52)
                  have hbx := Blk.new wr 52 #[.bool k.send, .int .i64 k.chan, .int .i64 k.val, .int .i64 k.to]
                  have z3 : (wr.alloc (.cells #[.bool k.send, .int .i64 k.chan, .int .i64 k.val, .int .i64 k.to] 52)).cell? ⟨wr.heap.size, 3, none⟩ = some (.int .i64 k.to) := by simp
                  have e11 := hca.cell f11 (fun _ => id)
                  go_wp2_with fail

                  have hPa := HQ0.out.1.keep hca id
                  clear hbx f11 u0 u1 u2 u3
                  generalize (wr.alloc (.cells #[.bool k.send, .int .i64 k.chan, .int .i64 k.val, .int .i64 k.to] 52)) = W at z3 e11 hPa hca ⊢
                  obtain ⟨w6, hput, hP6, hc6⟩ := (hPa.keep (Chg.refl (fun _ _ => False) W).drew id).put HQ0.out.2.2.2 (by
                    have := places_le h.f.code (j + 1); have h5 := HH.out.2.2.2.2.1
                    rw [places_take h.f.code HX.out.1, HJQ.out] at this
                    simp only [List.length_append, List.length_map, List.length_take] at this ⊢
                    omega)
                  have HQ := Lib.hid (And.intro hP6 (HQ0.out.2.1.trans ((hca.drew.mono fun _ _ _ h => h.elim : Chg (MP w.heap.size) _ _).trans hc6)))
                  clear hP6 hc6 hca hPa
                  refine wp_region_still_tail 6 (by kernel_rfl) (by kernel_rfl) ?_
                  simp only [List.take_succ_cons, List.take_zero, List.drop_succ_cons, List.drop_zero]
                  repeat (with_reducible refine wpStill_step (fun K hK => ?_); go_simp; with_reducible refine hK _ ?_; clear hK K)
                  try with_reducible refine wpStill_nil ?_
                  change wpList _ _ _ _ _ (World.drew W)
                  go_wp2_with fail
                  go_roundw
                  case rel => exact ⟨i + 1, hlt2, by simp, by rw [List.take_add_one, HQ0.out.2.2.1, List.map_append, ← List.append_assoc]; simpa using HQ.out.1, HQ.out.2⟩
                  case measure => simp [intOf]; omega
                · have q6 : decide (i < cs.length) = false := decide_eq_false hlt2
                  obtain rfl : i = cs.length := by omega
                  have hPe := hPi
                  rw [List.take_of_length_le (Nat.le_refl _)] at hPe
                  have HQ := Lib.hid (And.intro hPe hci)
                  clear hPi hci hPe
                  go_wp2_with fail
                  go_roundw
                  case rel => exact ⟨j + 1, hlt, by simp, by rw [places_take h.f.code HX.out.1, HJQ.out, ← List.append_assoc]; exact HQ.out.1, HP.out.2.1.trans HQ.out.2⟩
                  case measure => simp [intOf]; omega

            · have HB := Lib.hid hb
              have q8 : IntKind.i64.wrap (xb - 1) = xb - 1 := IntWalk.i64_in _ ⟨by have := of_decide_eq_true hb; omega, by have := HX.out.2.2.2.2.1.2; omega⟩
              have hI1 : I64 (xb - 1) := ⟨by have := of_decide_eq_true hb; omega, by have := HX.out.2.2.2.2.1.2; omega⟩
              have hjq : jumpsOf ⟨32, xa, xb, xn, cs⟩ = [xb - 1] ++ cs.map (·.to) := by have := of_decide_eq_true hb; simp [jumpsOf, this]
              have HJQ := Lib.hid (And.intro hjq hI1)
              have HJQ2 := Lib.hid hjq
              clear hjq hI1
              have hca := chg_alloc wr (.cells #[.int .i64 32, .int .i64 xa, .int .i64 xb, .int .u64 (xn : Int), .slice CA cs.length cc] 50)
              have hbx := Blk.new wr 50 #[.int .i64 32, .int .i64 xa, .int .i64 xb, .int .u64 (xn : Int), .slice CA cs.length cc]
              have z2 : (wr.alloc (.cells #[.int .i64 32, .int .i64 xa, .int .i64 xb, .int .u64 (xn : Int), .slice CA cs.length cc] 50)).cell? ⟨wr.heap.size, 2, none⟩ = some (.int .i64 xb) := by simp
              have z4 : (wr.alloc (.cells #[.int .i64 32, .int .i64 xa, .int .i64 xb, .int .u64 (xn : Int), .slice CA cs.length cc] 50)).cell? ⟨wr.heap.size, 4, none⟩ = some (.slice CA cs.length cc) := by simp
              have e11 := hca.cell d11 (fun _ => id)
              go_wp2_with fail
              have hPa := HX.out.2.1.keep hca id
              clear hbx y0 y1 y2 y3 y4
              generalize (wr.alloc (.cells #[.int .i64 32, .int .i64 xa, .int .i64 xb, .int .u64 (xn : Int), .slice CA cs.length cc] 50)) = W at z2 z4 e11 hPa hca ⊢
              obtain ⟨w4, hput, hP4, hc4⟩ := (hPa.keep (Chg.refl (fun _ _ => False) W).drew id).put HJQ.out.2 (by have := places_le h.f.code j; have := HH.out.2.2.2.2.1; omega)
              have hmp : Chg (MP w.heap.size) wr w4 := (hca.drew.mono fun _ _ _ h => h.elim : Chg (MP w.heap.size) _ _).trans hc4
              have hblt := HX.out.2.1.lt
              have g4 := hc4.cell (show W.drew.cell? ⟨wr.heap.size, 4, none⟩ = some (.slice CA cs.length cc) from z4) (fun t hm => by have e : wr.heap.size = w.heap.size := hm.1; omega)
              have HP := Lib.hid (And.intro hP4 (And.intro (HX.out.2.2.1.trans hmp) hmp))
              clear hP4 hc4 hca hPa hmp
              refine wp_region_still_tail 7 (by kernel_rfl) (by kernel_rfl) ?_
              simp only [List.take_succ_cons, List.take_zero, List.drop_succ_cons, List.drop_zero]
              repeat (with_reducible refine wpStill_step (fun K hK => ?_); go_simp; with_reducible refine hK _ ?_; clear hK K)
              try with_reducible refine wpStill_nil ?_
              change wpList _ _ _ _ _ (World.drew W)
              clear z2 z4 e11
              go_wp2_with fail
              go_loopw [50] (fun i ws => runInRel h w.heap.size w4 ⟨32, xa, xb, xn, cs⟩ (placesOf (h.f.code.take j) ++ [xb - 1]) i ws) (fun i _ => cs.length - (intOf i).toNat)
              case atStart => exact ⟨0, Nat.zero_le _, rfl, by simpa using HP.out.1, Chg.refl _ _⟩
              case round =>
                obtain ⟨i, hi, rfl, hPi, hci⟩ := hrel
                have hi : i ≤ cs.length := hi
                have q5 : IntKind.i64.wrap ((i : Int) + 1) = (i : Int) + 1 := IntWalk.i64_in _ ⟨by omega, by have := HL62.out; omega⟩
                by_cases hlt2 : i < cs.length
                · have q6 : decide (i < cs.length) = true := decide_eq_true hlt2
                  have q7 : (i : Int) < (cs.length : Int) := by omega
                  have hcj := HX.out.2.2.2.2.2.1
                  obtain ⟨kb, ko, k, rfl, hk, _, _, hIt, u0, u1, u2, u3⟩ := (CasesR.keep hcj (HP.out.2.2.trans hci) (fun b _ hb hm => by have := hm.1; have := HH.out.1; have h9 : b < h.B := hb; omega)).at_ (k := i) hlt2
                  have f11 := (HP.out.2.2.trans hci).cell d11 (fun t hm => hne hm.1)
                  have HQ0 := Lib.hid (And.intro hPi (And.intro hci (And.intro hk hIt)))
                  clear hPi hci hk hIt hcj
                  have hca := chg_alloc wr (.cells #[.bool k.send, .int .i64 k.chan, .int .i64 k.val, .int .i64 k.to] 52)
                  have hbx := Blk.new wr 52 #[.bool k.send, .int .i64 k.chan, .int .i64 k.val, .int .i64 k.to]
                  have z3 : (wr.alloc (.cells #[.bool k.send, .int .i64 k.chan, .int .i64 k.val, .int .i64 k.to] 52)).cell? ⟨wr.heap.size, 3, none⟩ = some (.int .i64 k.to) := by simp
                  have e11 := hca.cell f11 (fun _ => id)
                  go_wp2_with fail

                  have hPa := HQ0.out.1.keep hca id
                  clear hbx f11 u0 u1 u2 u3
                  generalize (wr.alloc (.cells #[.bool k.send, .int .i64 k.chan, .int .i64 k.val, .int .i64 k.to] 52)) = W at z3 e11 hPa hca ⊢
                  obtain ⟨w6, hput, hP6, hc6⟩ := (hPa.keep (Chg.refl (fun _ _ => False) W).drew id).put HQ0.out.2.2.2 (by
                    have := places_le h.f.code (j + 1); have h5 := HH.out.2.2.2.2.1
                    rw [places_take h.f.code HX.out.1, HJQ2.out] at this
                    simp only [List.length_append, List.length_map, List.length_take] at this ⊢
                    omega)
                  have HQ := Lib.hid (And.intro hP6 (HQ0.out.2.1.trans ((hca.drew.mono fun _ _ _ h => h.elim : Chg (MP w.heap.size) _ _).trans hc6)))
                  clear hP6 hc6 hca hPa
                  refine wp_region_still_tail 6 (by kernel_rfl) (by kernel_rfl) ?_
                  simp only [List.take_succ_cons, List.take_zero, List.drop_succ_cons, List.drop_zero]
                  repeat (with_reducible refine wpStill_step (fun K hK => ?_); go_simp; with_reducible refine hK _ ?_; clear hK K)
                  try with_reducible refine wpStill_nil ?_
                  change wpList _ _ _ _ _ (World.drew W)
                  go_wp2_with fail
                  go_roundw
                  case rel => exact ⟨i + 1, hlt2, by simp, by rw [List.take_add_one, HQ0.out.2.2.1, List.map_append, ← List.append_assoc]; simpa using HQ.out.1, HQ.out.2⟩
                  case measure => simp [intOf]; omega
                · have q6 : decide (i < cs.length) = false := decide_eq_false hlt2
                  obtain rfl : i = cs.length := by omega
                  have hPe := hPi
                  rw [List.take_of_length_le (Nat.le_refl _)] at hPe
                  have HQ := Lib.hid (And.intro hPe hci)
                  clear hPi hci hPe
                  go_wp2_with fail
                  go_roundw
                  case rel => exact ⟨j + 1, hlt, by simp, by rw [places_take h.f.code HX.out.1, HJQ2.out, ← List.append_assoc]; exact HQ.out.1, HP.out.2.1.trans HQ.out.2⟩
                  case measure => simp [intOf]; omega

          · have g33 : (op == 33) = false := by simpa using h33
            have g34 : (op == 34) = false := by simpa using h34
            have g32 : (op == 32) = false := by simpa using h32
            have hj0 : jumpsOf ⟨op, xa, xb, xn, cs⟩ = [] := by simp [jumpsOf, h33, h34, h32]
            have HJ0 := Lib.hid hj0
            clear h33 h34 h32 hj0
            go_wp2_with fail
            go_roundw
            case rel => exact ⟨j + 1, hlt, by simp, by rw [places_take h.f.code HX.out.1, HJ0.out, List.append_nil]; exact HX.out.2.1.keep (chg_alloc _ _) id, HX.out.2.2.1.trans ((chg_alloc _ _).mono fun _ _ _ h => h.elim)⟩
            case measure => simp [intOf]; omega
    · have q1 : decide (j < h.f.code.length) = false := decide_eq_false hlt
      obtain rfl : j = h.f.code.length := by omega
      have hPe := hP
      rw [List.take_of_length_le (Nat.le_refl _)] at hPe
      have hCI := H1.out.1.far hch (fun b' t hm => ⟨.inr hm.1, by have e : b' = w.heap.size := hm.1; have := HH.out.1; show h.B ≤ b'; omega⟩)
      have hmc : Chg (MC h) w1 wr := hch.mono fun b' t _ hm => by rw [hm.1]; exact ⟨HH.out.1.2, HH.out.2.2.2.1⟩
      have hJw := cl.keep 0 _ _ _ H1.out.2.2.2 (hmc.mono fun _ _ _ hm => ⟨hm.1, fun hh => hh.elim hm.2 id⟩)
      have hF := hCI.fix
      have c7 : wr.cell? ⟨h.p, 7, none⟩ = some (.int .i64 h.pos) := hF.d7
      have e6 : wr.cell? ⟨h.p, 6, none⟩ = some (.slice A5 h.f.code.length h.c5) := by rw [← HH.out.2.2.2.2.2.2.1]; exact hF.d6
      have H2 := Lib.hid (And.intro hCI (And.intro hPe (And.intro hJw (H1.out.2.2.1.trans hmc))))
      clear hP hPe hCI hmc hJw hF hch q3 hj hlt d6
      by_cases hz0 : h.f.code.length = 0
      · have q8 : decide ((0 : Int) < (h.f.code.length : Int)) = false := by rw [hz0]; rfl
        have q9 : decide (0 < h.f.code.length) = false := by rw [hz0]; rfl
        have HZ0 := Lib.hid hz0
        clear hz0
        go_wp2_with fail
        refine (need_any (h.places w.heap.size) wr false c7).mono fun e v hp => ?_
        obtain ⟨rfl, rfl⟩ := hp.bad rfl
        go_wp2_with fail
        have hfa : funcAt h.m h.f = 0 := by unfold funcAt; rw [if_pos HZ0.out]
        refine ⟨rfl, H2.out.2.2.2.toMB, .inr ⟨by rw [hfa]; omega, ?_⟩⟩
        rw [hfa, ← HH.out.2.2.2.2.2.2.2]
        rfl
      · have q8 : decide ((0 : Int) < (h.f.code.length : Int)) = true := decide_eq_true (by omega)
        have q9 : decide (0 < h.f.code.length) = true := decide_eq_true (by omega)
        have HZ0 := Lib.hid (show 0 < h.f.code.length by omega)
        clear hz0
        go_wp2_with fail
        refine (need_any (h.places w.heap.size) wr true c7).mono fun e v hp => ?_
        obtain ⟨rfl, rfl⟩ := hp.ok rfl
        clear hp
        go_wp2_with fail
        clear q8 q9 c7 e6
        go_loopw [77] (fun i wr => run2Rel h cl.G0 cl.J w.heap.size w i wr) (fun i _ => h.f.code.length - (intOf i).toNat)
        case atStart => exact ⟨0, h.pos, ⟨[], [], []⟩, fun _ => False, fun _ hx => hx.elim, Nat.zero_le _, rfl, rfl, rfl, ⟨by simp, by simp⟩, (H2.out.1.grow (Chg.refl (fun _ _ => False) _) (fun _ _ hm => hm.elim) (((h.own fun _ => False).places w.heap.size).K) (fun b hb => hb.elim (fun hh => .inl (.inl hh)) .inr) (fun b hb => .inl (hb.elim (fun hh => hh.elim .inl False.elim) .inr))).less (by omega), H2.out.2.1, H2.out.2.2.1, H2.out.2.2.2.toMB⟩
        case round =>
          obtain ⟨j, pos, s, G, hG, hj, rfl, hat, hfr, hst, hCI, hP, hJ, hch⟩ := hrel
          have q3 : IntKind.i64.wrap ((j : Int) + 1) = (j : Int) + 1 := IntWalk.i64_in _ ⟨by omega, by omega⟩
          by_cases hlt : j < h.f.code.length
          · have q1 : decide (j < h.f.code.length) = true := decide_eq_true hlt
            have q2 : (j : Int) < (h.f.code.length : Int) := by omega
            obtain ⟨cb, co, x, CA, cc, hA5', hx, hIo, hIa, hIb, hUn, hcs, y0, y1, y2, y3, y4⟩ := (hCI.fix.mod.code).at_ (k := j) hlt
            obtain rfl : A5 = some ⟨cb, co, none⟩ := HH.out.2.2.2.2.2.2.1.symm.trans hA5'
            obtain ⟨u9, u10, c7, c9, c10, hfz, hCI2, hc2⟩ := hCI.fresh (k' := 6000) (j : Int) (by have := hst.1; omega)
            have hZ : CkI (hzD (h.own G) w.heap.size (j : Int) (((wr.setCell ⟨h.p, 7, none⟩ (.int .i64 (j : Int))).setCell ⟨h.p, 9, none⟩ (.slice none 0 0)).setCell ⟨h.p, 10, none⟩ (.slice none 0 0)).heap.size) 6000 ((((wr.setCell ⟨h.p, 7, none⟩ (.int .i64 (j : Int))).setCell ⟨h.p, 9, none⟩ (.slice none 0 0)).setCell ⟨h.p, 10, none⟩ (.slice none 0 0)).alloc (.cells #[.int .i64 x.op, .int .i64 x.a, .int .i64 x.b, .int .u64 (x.n : Int), .slice CA x.cases.length cc] 50)) ⟨s.stack, [], []⟩ := hCI2.zone (.cells #[.int .i64 x.op, .int .i64 x.a, .int .i64 x.b, .int .u64 (x.n : Int), .slice CA x.cases.length cc] 50)
            have hsz : (((wr.setCell ⟨h.p, 7, none⟩ (.int .i64 (j : Int))).setCell ⟨h.p, 9, none⟩ (.slice none 0 0)).setCell ⟨h.p, 10, none⟩ (.slice none 0 0)).heap.size = wr.heap.size := by simp [World.setCell]
            have hbx := Blk.new (((wr.setCell ⟨h.p, 7, none⟩ (.int .i64 (j : Int))).setCell ⟨h.p, 9, none⟩ (.slice none 0 0)).setCell ⟨h.p, 10, none⟩ (.slice none 0 0)) 50 #[.int .i64 x.op, .int .i64 x.a, .int .i64 x.b, .int .u64 (x.n : Int), .slice CA x.cases.length cc]
            have hca := chg_alloc (((wr.setCell ⟨h.p, 7, none⟩ (.int .i64 (j : Int))).setCell ⟨h.p, 9, none⟩ (.slice none 0 0)).setCell ⟨h.p, 10, none⟩ (.slice none 0 0)) (.cells #[.int .i64 x.op, .int .i64 x.a, .int .i64 x.b, .int .u64 (x.n : Int), .slice CA x.cases.length cc] 50)
            have hpG : ¬ (h.own G).K h.p := fun hh => hh.elim HH.out.2.2.1.2 fun hg => by have := hG _ hg; omega
            have hch3 : Chg (MC (h.own G)) wr ((((wr.setCell ⟨h.p, 7, none⟩ (.int .i64 (j : Int))).setCell ⟨h.p, 9, none⟩ (.slice none 0 0)).setCell ⟨h.p, 10, none⟩ (.slice none 0 0)).alloc (.cells #[.int .i64 x.op, .int .i64 x.a, .int .i64 x.b, .int .u64 (x.n : Int), .slice CA x.cases.length cc] 50)) := (hc2.mono fun b t _ hm => by rw [hm.1]; exact ⟨HH.out.2.2.1.1, hpG⟩ : Chg (MC (h.own G)) _ _).trans (hca.mono fun _ _ _ h => h.elim)
            have hJ3 := cl.keep j G _ _ hJ hch3
            have hP3 := (hP.keep hc2 (fun hm => absurd hm.2 (by decide))).keep hca id
            rw [hsz] at hZ hbx
            have hwlt : h.p < wr.heap.size := by have := hch.size; omega
            have hne3 : h.p ≠ wr.heap.size := by omega
            have c7 : wr.cell? ⟨h.p, 7, none⟩ = some (.int .i64 pos) := c7
            have c9 : wr.cell? ⟨h.p, 9, none⟩ = some u9 := c9
            have c10 : wr.cell? ⟨h.p, 10, none⟩ = some u10 := c10
            have f7 : wr.frozen? ⟨h.p, 7, none⟩ = false := hfz 7
            have f9 : wr.frozen? ⟨h.p, 9, none⟩ = false := hfz 9
            have f10 : wr.frozen? ⟨h.p, 10, none⟩ = false := hfz 10
            obtain ⟨As, cs8, At, ct, Al, cl8, kn, HR⟩ := hZ
            have d8 : ((((wr.setCell ⟨h.p, 7, none⟩ (.int .i64 (j : Int))).setCell ⟨h.p, 9, none⟩ (.slice none 0 0)).setCell ⟨h.p, 10, none⟩ (.slice none 0 0)).alloc (.cells #[.int .i64 x.op, .int .i64 x.a, .int .i64 x.b, .int .u64 (x.n : Int), .slice CA x.cases.length cc] 50)).cell? ⟨h.p, 8, none⟩ = some (.slice As s.stack.length cs8) := by have := HR.blk.cell 8; simpa [Hd.zone, Hd.at_, Hd.places, Hd.own] using this
            have hZ : CkI (hzD (h.own G) w.heap.size (j : Int) wr.heap.size) 6000 ((((wr.setCell ⟨h.p, 7, none⟩ (.int .i64 (j : Int))).setCell ⟨h.p, 9, none⟩ (.slice none 0 0)).setCell ⟨h.p, 10, none⟩ (.slice none 0 0)).alloc (.cells #[.int .i64 x.op, .int .i64 x.a, .int .i64 x.b, .int .u64 (x.n : Int), .slice CA x.cases.length cc] 50)) ⟨s.stack, [], []⟩ := ⟨As, cs8, At, ct, Al, cl8, kn, HR⟩
            have hrow : RowR h.base 3 1 IntV ((((wr.setCell ⟨h.p, 7, none⟩ (.int .i64 (j : Int))).setCell ⟨h.p, 9, none⟩ (.slice none 0 0)).setCell ⟨h.p, 10, none⟩ (.slice none 0 0)).alloc (.cells #[.int .i64 x.op, .int .i64 x.a, .int .i64 x.b, .int .u64 (x.n : Int), .slice CA x.cases.length cc] 50)) As cs8 s.stack := HR.stack
            have hcall := cl.each j G ((((wr.setCell ⟨h.p, 7, none⟩ (.int .i64 (j : Int))).setCell ⟨h.p, 9, none⟩ (.slice none 0 0)).setCell ⟨h.p, 10, none⟩ (.slice none 0 0)).alloc (.cells #[.int .i64 x.op, .int .i64 x.a, .int .i64 x.b, .int .u64 (x.n : Int), .slice CA x.cases.length cc] 50)) s.stack As cs8 hJ3 hat hst.1 hrow HR.bw (fun b hb => HR.low b (.inl (.inl hb))) (fun b hb hk => by have := hG b hb; have := HH.out.2.1 b hk; omega)
            have HGG := Lib.hid (And.intro hG (fun b (hb : (h.own G).K b) => (show b < wr.heap.size from by obtain ⟨_, _, _, _, _, _, _, hcr⟩ := hCI; exact hcr.low b (.inl hb))))
            have hent := cl.enters
            have HWS := Lib.hid hch.size
            have HX := Lib.hid (And.intro hx (And.intro hfr (And.intro hat (And.intro hA5' hcs))))
            have HQ := Lib.hid (And.intro hZ (And.intro hP3 (And.intro hbx (And.intro (hch.trans hch3.owned.toMB) (And.intro hst (hch3.owned.toMB : Chg (MB h cl.G0) _ _))))))
            clear hx hfr hat hA5' hcs hZ hP3 hbx hca hch3 hJ3 hpG hG hrow HR hCI hCI2 hc2 hP hJ hch hst hIo hIa hIb hUn hfz
            go_wp2_with fail
            refine hcall.mono fun e v1 hh => ?_
            obtain ⟨rfl, hcj, G1, hj2, hg1, hg2⟩ := hh
            have hgl : ¬ (h.own G).K wr.heap.size := fun hk => Nat.lt_irrefl _ (HGG.out.2 _ hk)
            have hz1 : CkI (hzD (h.own G1) w.heap.size (j : Int) wr.heap.size) 6000 v1 ⟨s.stack, [], []⟩ := HQ.out.1.grow hcj (fun b t hm => ⟨.inl (.inl (hm.1.imp (cl.sub b) id)), hm.2⟩) _ (fun b hb => by
              rcases hb with ((hb | hb) | hb) | hb
              · exact .inl (.inl (.inl hb))
              · exact .inl (.inl (.inr (hg1 b hb)))
              · exact .inl (.inr hb)
              · exact .inr hb) (fun b hb => by
              rcases hb with ((hb | hb) | hb) | hb
              · exact .inl (.inl (.inl (.inl hb)))
              · rcases hg2 b hb with hb | hb
                · exact .inl (.inl (.inl (.inr hb)))
                · exact .inr hb
              · exact .inl (.inl (.inr hb))
              · exact .inl (.inr hb))
            have hp1 := HQ.out.2.1.keep hcj (fun hm => hm.1.elim (fun h0 => HH.out.2.2.2.1 (cl.sub _ h0)) fun hg => Nat.lt_irrefl _ (HGG.out.1 _ hg))
            have hG1 : ∀ b, G1 b → w.heap.size < b := fun b hb => (hg2 b hb).elim (HGG.out.1 b) fun e => by
              have h1 := e.1
              rw [World.size_alloc, hsz] at h1
              have := HWS.out
              omega
            have HG1 := Lib.hid hG1
            have hb1 := hcj.blk HQ.out.2.2.1 (fun hm => hgl (hm.1.imp (cl.sub _) id))
            have HK1 := Lib.hid (And.intro hz1 (show StV h.m (VSt.mk s.stack [] []).stack from HQ.out.2.2.2.2.1))
            have HP1 := Lib.hid hp1
            have HB1 := Lib.hid hb1
            have HJ1 := Lib.hid hj2
            have hgb : ∀ b, G b → h.base ≤ b ∧ ¬ h.K b := fun b hb => ⟨by have := HGG.out.1 b hb; have := HH.out.1.2; omega, fun hk => by have := HGG.out.1 b hb; have := HH.out.2.1 b hk; omega⟩
            have HC1 := Lib.hid (HQ.out.2.2.2.1.trans (hcj.jMB hgb))
            have HC1w := Lib.hid (HQ.out.2.2.2.2.2.trans (hcj.jMB hgb))
            clear hgb
            obtain ⟨As1, cs1, At1, ct1, Al1, cl1, kn1, HR1⟩ := hz1
            have d8' : v1.cell? ⟨h.p, 8, none⟩ = some (.slice As1 s.stack.length cs1) := by have := HR1.blk.cell 8; simpa [Hd.zone, Hd.at_, Hd.places, Hd.own] using this
            have d11 : v1.cell? ⟨h.p, 11, none⟩ = some (.map (some w.heap.size)) := HK1.out.1.d13.2
            have hlook := hp1.look (t := (j : Int)) ⟨by omega, by omega⟩
            clear hgl hp1 hb1 hj2 hcj hg1 hg2 hG1 HR1 hcall hent d8 y0 y1 y2 y3 y4 c7 c9 c10 f7 f9 f10 hsz
            generalize wr.heap.size = g at *
            cases hcn : (placesOf h.f.code).contains (j : Int)
            · have GC := Lib.hid hcn
              rw [hcn] at hlook
              have HT := Lib.hid (show (!(placesOf h.f.code).contains (j : Int) || ((s.stack.length : Int) == 0)) = true by rw [GC.out]; rfl)
              go_wp2_with fail
              refine (need_any (hzD (h.own G1) w.heap.size (j : Int) g) v1 true HK1.out.1.fix.d7).mono fun e vv hp => ?_
              obtain ⟨rfl, hvv⟩ := hp.ok rfl
              subst hvv
              clear hp d11 hlook d8'
              have z0 : vv.cell? ⟨g, 0, none⟩ = some (.int .i64 x.op) := by simpa using HB1.out.cell 0
              have z1 : vv.cell? ⟨g, 1, none⟩ = some (.int .i64 x.a) := by simpa using HB1.out.cell 1
              have z2 : vv.cell? ⟨g, 2, none⟩ = some (.int .i64 x.b) := by simpa using HB1.out.cell 2
              have z3 : vv.cell? ⟨g, 3, none⟩ = some (.int .u64 (x.n : Int)) := by simpa using HB1.out.cell 3
              have z4 : vv.cell? ⟨g, 4, none⟩ = some (.slice CA x.cases.length cc) := by simpa using HB1.out.cell 4
              go_wp2_with fail
              refine (numbers_any (hzD (h.own G1) w.heap.size (j : Int) g) 4900 vv ⟨s.stack, [], []⟩ x CA cc HK1.out.1 HK1.out.2).mono fun e n2 hh => ?_
              rcases hq : numsN h.m x ⟨s.stack, [], []⟩ with _ | ⟨bo, s2⟩
              · obtain ⟨rfl, hc⟩ := hh.none_ hq
                have EQ0 := Lib.hid hq
                have CB := Lib.hid (HC1.out.trans hc.hz.owned.toMB)
                have SBX := Lib.hid (show stepN h.m h.f j x s.stack = none by rw [step_ops HT.out, show opsN h.m h.f x ⟨s.stack, [], []⟩ = none from (by simp only [opsN, orN, EQ0.out, Option.bind_some, Option.bind_none, if_true, if_false, Bool.false_eq_true])]; rfl)
                clear hh hq hc
                go_wp2_with fail
                exact ⟨rfl, RunRes.bad CB.out hlt HX.out.1 HX.out.2.1 SBX.out⟩
              · cases bo
                · obtain ⟨rfl, hk, hv, hc⟩ := hh.some_ hq
                  have EQ0 := Lib.hid hq
                  have HK2 := Lib.hid (And.intro hk hv)
                  have HC2 := Lib.hid (HC1.out.trans hc.hz.owned.toMB)
                  have HC2w := Lib.hid (HC1w.out.trans hc.hz.owned.toMB)
                  have HJ2 := Lib.hid (cl.keep2 j _ _ _ HJ1.out hc.hz)
                  have HP2 := Lib.hid (HP1.out.keep hc (fun hm => hm.2 (.inl (.inr rfl))))
                  have HB2 := Lib.hid (hc.zblk HB1.out)
                  clear hh hq hk hv hc z0 z1 z2 z3 z4
                  have z0 : n2.cell? ⟨g, 0, none⟩ = some (.int .i64 x.op) := by simpa using HB2.out.cell 0
                  have z1 : n2.cell? ⟨g, 1, none⟩ = some (.int .i64 x.a) := by simpa using HB2.out.cell 1
                  have z2 : n2.cell? ⟨g, 2, none⟩ = some (.int .i64 x.b) := by simpa using HB2.out.cell 2
                  have z3 : n2.cell? ⟨g, 3, none⟩ = some (.int .u64 (x.n : Int)) := by simpa using HB2.out.cell 3
                  have z4 : n2.cell? ⟨g, 4, none⟩ = some (.slice CA x.cases.length cc) := by simpa using HB2.out.cell 4
                  go_wp2_with fail
                  refine (values_any (hzD (h.own G1) w.heap.size (j : Int) g) 3800 n2 s2 x CA cc HK2.out.1 HK2.out.2).mono fun e n3 hh => ?_
                  rcases hq : valsN h.m h.f x s2 with _ | ⟨bo, s3⟩
                  · obtain ⟨rfl, hc⟩ := hh.none_ hq
                    have EQ1 := Lib.hid hq
                    have CB := Lib.hid (HC2.out.trans hc.hz.owned.toMB)
                    have SBX := Lib.hid (show stepN h.m h.f j x s.stack = none by rw [step_ops HT.out, show opsN h.m h.f x ⟨s.stack, [], []⟩ = none from (by simp only [opsN, orN, EQ0.out, EQ1.out, Option.bind_some, Option.bind_none, if_true, if_false, Bool.false_eq_true])]; rfl)
                    clear hh hq hc
                    go_wp2_with fail
                    exact ⟨rfl, RunRes.bad CB.out hlt HX.out.1 HX.out.2.1 SBX.out⟩
                  · cases bo
                    · obtain ⟨rfl, hk, hv, hc⟩ := hh.some_ hq
                      have EQ1 := Lib.hid hq
                      have HK3 := Lib.hid (And.intro hk hv)
                      have HC3 := Lib.hid (HC2.out.trans hc.hz.owned.toMB)
                      have HC3w := Lib.hid (HC2w.out.trans hc.hz.owned.toMB)
                      have HJ3 := Lib.hid (cl.keep2 j _ _ _ HJ2.out hc.hz)
                      have HP3 := Lib.hid (HP2.out.keep hc (fun hm => hm.2 (.inl (.inr rfl))))
                      have HB3 := Lib.hid (hc.zblk HB2.out)
                      clear hh hq hk hv hc z0 z1 z2 z3 z4
                      have z0 : n3.cell? ⟨g, 0, none⟩ = some (.int .i64 x.op) := by simpa using HB3.out.cell 0
                      have z1 : n3.cell? ⟨g, 1, none⟩ = some (.int .i64 x.a) := by simpa using HB3.out.cell 1
                      have z2 : n3.cell? ⟨g, 2, none⟩ = some (.int .i64 x.b) := by simpa using HB3.out.cell 2
                      have z3 : n3.cell? ⟨g, 3, none⟩ = some (.int .u64 (x.n : Int)) := by simpa using HB3.out.cell 3
                      have z4 : n3.cell? ⟨g, 4, none⟩ = some (.slice CA x.cases.length cc) := by simpa using HB3.out.cell 4
                      go_wp2_with fail
                      refine (calls_any (hzD (h.own G1) w.heap.size (j : Int) g) 2700 n3 s3 x CA cc HK3.out.1 HK3.out.2).mono fun e n4 hh => ?_
                      rcases hq : callsN h.m x s3 with _ | ⟨bo, s4⟩
                      · obtain ⟨rfl, hc⟩ := hh.none_ hq
                        have EQ2 := Lib.hid hq
                        have CB := Lib.hid (HC3.out.trans hc.hz.owned.toMB)
                        have SBX := Lib.hid (show stepN h.m h.f j x s.stack = none by rw [step_ops HT.out, show opsN h.m h.f x ⟨s.stack, [], []⟩ = none from (by simp only [opsN, orN, EQ0.out, EQ1.out, EQ2.out, Option.bind_some, Option.bind_none, if_true, if_false, Bool.false_eq_true])]; rfl)
                        clear hh hq hc
                        go_wp2_with fail
                        exact ⟨rfl, RunRes.bad CB.out hlt HX.out.1 HX.out.2.1 SBX.out⟩
                      · cases bo
                        · obtain ⟨rfl, hk, hv, hc⟩ := hh.some_ hq
                          have EQ2 := Lib.hid hq
                          have HK4 := Lib.hid (And.intro hk hv)
                          have HC4 := Lib.hid (HC3.out.trans hc.hz.owned.toMB)
                          have HC4w := Lib.hid (HC3w.out.trans hc.hz.owned.toMB)
                          have HJ4 := Lib.hid (cl.keep2 j _ _ _ HJ3.out hc.hz)
                          have HP4 := Lib.hid (HP3.out.keep hc (fun hm => hm.2 (.inl (.inr rfl))))
                          have HB4 := Lib.hid (hc.zblk HB3.out)
                          clear hh hq hk hv hc z0 z1 z2 z3 z4
                          have z0 : n4.cell? ⟨g, 0, none⟩ = some (.int .i64 x.op) := by simpa using HB4.out.cell 0
                          have z1 : n4.cell? ⟨g, 1, none⟩ = some (.int .i64 x.a) := by simpa using HB4.out.cell 1
                          have z2 : n4.cell? ⟨g, 2, none⟩ = some (.int .i64 x.b) := by simpa using HB4.out.cell 2
                          have z3 : n4.cell? ⟨g, 3, none⟩ = some (.int .u64 (x.n : Int)) := by simpa using HB4.out.cell 3
                          have z4 : n4.cell? ⟨g, 4, none⟩ = some (.slice CA x.cases.length cc) := by simpa using HB4.out.cell 4
                          go_wp2_with fail
                          refine (flow_any (hzD (h.own G1) w.heap.size (j : Int) g) 1600 n4 s4 x CA cc HK4.out.1 HK4.out.2 (CasesR.keep HX.out.2.2.2.2 HC4w.out (fun b _ hb hm => by have := HH.out.1; have h9 : b < h.B := hb; rcases hm with hm | hm <;> (first | (have h8 : h.base ≤ b := hm.1; omega) | (have h8 : h.B ≤ b := hm.2; omega))))).mono fun e n5 hh => ?_
                          rcases hq : flowN h.m h.f x s4 with _ | ⟨bo, s5⟩
                          · obtain ⟨rfl, hc⟩ := hh.none_ hq
                            have EQ3 := Lib.hid hq
                            have CB := Lib.hid (HC4.out.trans hc.hz.owned.toMB)
                            have SBX := Lib.hid (show stepN h.m h.f j x s.stack = none by rw [step_ops HT.out, show opsN h.m h.f x ⟨s.stack, [], []⟩ = none from (by simp only [opsN, orN, EQ0.out, EQ1.out, EQ2.out, EQ3.out, Option.bind_some, Option.bind_none, if_true, if_false, Bool.false_eq_true])]; rfl)
                            clear hh hq hc
                            go_wp2_with fail
                            exact ⟨rfl, RunRes.bad CB.out hlt HX.out.1 HX.out.2.1 SBX.out⟩
                          · cases bo
                            · obtain ⟨rfl, hk, hv, hc⟩ := hh.some_ hq
                              have EQ3 := Lib.hid hq
                              have HK5 := Lib.hid (And.intro hk hv)
                              have HC5 := Lib.hid (HC4.out.trans hc.hz.owned.toMB)
                              have HC5w := Lib.hid (HC4w.out.trans hc.hz.owned.toMB)
                              have HJ5 := Lib.hid (cl.keep2 j _ _ _ HJ4.out hc.hz)
                              have HP5 := Lib.hid (HP4.out.keep hc (fun hm => hm.2 (.inl (.inr rfl))))
                              have HB5 := Lib.hid (hc.zblk HB4.out)
                              clear hh hq hk hv hc z0 z1 z2 z3 z4
                              have SBX := Lib.hid (show stepN h.m h.f j x s.stack = none by rw [step_ops HT.out, show opsN h.m h.f x ⟨s.stack, [], []⟩ = some (false, s5) from (by simp only [opsN, orN, EQ0.out, EQ1.out, EQ2.out, EQ3.out, Option.bind_some, Option.bind_none, if_true, if_false, Bool.false_eq_true])]; rfl)
                              go_wp2_with fail
                              refine (need_any (hzD (h.own G1) w.heap.size (j : Int) g) n5 false HK5.out.1.fix.d7).mono fun e vv hp => ?_
                              obtain ⟨rfl, rfl⟩ := hp.bad rfl
                              go_wp2_with fail
                              exact ⟨rfl, RunRes.bad HC5.out hlt HX.out.1 HX.out.2.1 SBX.out⟩
                            · obtain ⟨rfl, hk, hv, hc⟩ := hh.some_ hq
                              have EQ3 := Lib.hid hq
                              have HK5 := Lib.hid (And.intro hk hv)
                              have HC5 := Lib.hid (HC4.out.trans hc.hz.owned.toMB)
                              have HC5w := Lib.hid (HC4w.out.trans hc.hz.owned.toMB)
                              have HJ5 := Lib.hid (cl.keep2 j _ _ _ HJ4.out hc.hz)
                              have HP5 := Lib.hid (HP4.out.keep hc (fun hm => hm.2 (.inl (.inr rfl))))
                              have HB5 := Lib.hid (hc.zblk HB4.out)
                              clear hh hq hk hv hc z0 z1 z2 z3 z4
                              have HS := Lib.hid (show opsN h.m h.f x ⟨s.stack, [], []⟩ = some (true, s5) from (by simp only [opsN, orN, EQ0.out, EQ1.out, EQ2.out, EQ3.out, Option.bind_some, Option.bind_none, if_true, if_false, Bool.false_eq_true]))
                              go_wp2_with fail
                              refine (need_any (hzD (h.own G1) w.heap.size (j : Int) g) n5 true HK5.out.1.fix.d7).mono fun e vv hp => ?_
                              obtain ⟨rfl, hvv⟩ := hp.ok rfl
                              subst hvv
                              clear hp
                              have zz : vv.cell? ⟨g, 0, none⟩ = some (.int .i64 x.op) := by simpa using HB5.out.cell 0
                              have e6 : vv.cell? ⟨h.p, 6, none⟩ = some (.slice (some ⟨cb, co, none⟩) h.f.code.length h.c5) := by rw [← HX.out.2.2.2.1]; exact HK5.out.1.fix.d6
                              cases hb : decide ((j : Int) + 1 < (h.f.code.length : Int))
                              · have GB := Lib.hid hb
                                go_wp2_with fail
                                refine (last_any _ x.op).mono fun e vl hl => ?_
                                obtain ⟨rfl, hvl⟩ := hl
                                subst hvl
                                cases he : endsB x.op
                                · have GE := Lib.hid he
                                  have SBX := Lib.hid (step_end (x := x) HT.out HS.out (show (decide ((j : Int) + 1 < (h.f.code.length : Int)) || endsB x.op) = false by rw [GB.out, GE.out]; rfl))
                                  go_wp2_with fail
                                  refine (need_any (hzD (h.own G1) w.heap.size (j : Int) g) _ false HK5.out.1.fix.d7).mono fun e vv hp => ?_
                                  obtain ⟨rfl, hvv⟩ := hp.bad rfl
                                  subst hvv
                                  go_wp2_with fail
                                  exact ⟨rfl, RunRes.bad HC5.out hlt HX.out.1 HX.out.2.1 SBX.out⟩
                                · have GE := Lib.hid he
                                  have SBX := Lib.hid (step_end (x := x) HT.out HS.out (show (decide ((j : Int) + 1 < (h.f.code.length : Int)) || endsB x.op) = true by rw [GB.out, GE.out]; rfl))
                                  go_wp2_with fail
                                  refine (need_any (hzD (h.own G1) w.heap.size (j : Int) g) _ true HK5.out.1.fix.d7).mono fun e vv hp => ?_
                                  obtain ⟨rfl, hvv⟩ := hp.ok rfl
                                  subst hvv
                                  clear hp
                                  have HS2 := Lib.hid (show stepN h.m h.f j x s.stack = some s5 from SBX.out)
                                  have d13o : vv.cell? ⟨h.p, 13, none⟩ = some h.dn := HK5.out.1.d13.1
                                  rcases cl.next with ⟨hdn, hjn⟩ | ⟨fd, envd, hdn, hent2, hcall⟩
                                  · have d13 : vv.cell? ⟨h.p, 13, none⟩ = some Value.nilFunc := d13o.trans (congrArg some hdn)
                                    have HN := Lib.hid hjn
                                    clear hjn hdn d13o
                                    have hneq := neq_nilF
                                    go_wp2_with fail
                                    go_roundw
                                    case rel => exact ⟨j + 1, (j : Int), s5, G1, HG1.out, hlt, by simp, at_step HX.out.2.2.1 HX.out.1 HS2.out, (from_good hlt HX.out.1 HS2.out).symm.trans HX.out.2.1, HK5.out.2, (HK5.out.1.unzone).less (by omega), HP5.out, HN.out j _ _ HJ5.out, HC5.out⟩
                                    case measure => simp [intOf]; omega
                                  · have d13 : vv.cell? ⟨h.p, 13, none⟩ = some (Value.func (.func fd) #[] envd) := d13o.trans (congrArg some hdn)
                                    have hcall := hcall j _ _ x s.stack s5 (hzD (h.own G1) w.heap.size (j : Int) g) _ HJ5.out HX.out.2.2.1 HX.out.1 HS2.out rfl rfl rfl (fun b hb => .inl (.inl hb)) (fun b hb hk => by have := HG1.out b hb; have := HH.out.2.1 b hk; omega) HK5.out.1
                                    clear hdn d13o
                                    have hneq := neq_funF fd envd
                                    go_wp2_with fail
                                    refine hcall.mono fun e vd hh => ?_
                                    obtain ⟨rfl, hcd, G2, hjd, hg1, hg2⟩ := hh
                                    have hz2 : CkI (hzD (h.own G2) w.heap.size (j : Int) g) _ vd s5 := HK5.out.1.grow hcd (fun b t hm => ⟨.inl (.inl (hm.1.imp (cl.sub b) id)), hm.2⟩) _ (fun b hb => by
                                      rcases hb with ((hb | hb) | hb) | hb
                                      · exact .inl (.inl (.inl hb))
                                      · exact .inl (.inl (.inr (hg1 b hb)))
                                      · exact .inl (.inr hb)
                                      · exact .inr hb) (fun b hb => by
                                      rcases hb with ((hb | hb) | hb) | hb
                                      · exact .inl (.inl (.inl (.inl hb)))
                                      · rcases hg2 b hb with hb | hb
                                        · exact .inl (.inl (.inl (.inr hb)))
                                        · exact .inr hb
                                      · exact .inl (.inl (.inr hb))
                                      · exact .inl (.inr hb))
                                    have HG2 := Lib.hid (fun b (hb : G2 b) => show w.heap.size < b from (hg2 b hb).elim (HG1.out b) fun e => by have := HP5.out.lt; omega)
                                    have HD := Lib.hid (And.intro hjd (And.intro hcd hz2))
                                    clear hjd hcd hcall hz2 hg1 hg2
                                    go_wp2_with fail
                                    go_roundw
                                    case rel => exact ⟨j + 1, (j : Int), s5, G2, HG2.out, hlt, by simp, at_step HX.out.2.2.1 HX.out.1 HS2.out, (from_good hlt HX.out.1 HS2.out).symm.trans HX.out.2.1, HK5.out.2, (HD.out.2.2.unzone).less (by omega), HP5.out.keep HD.out.2.1 (fun hm => hm.1.elim (fun h0 => HH.out.2.2.2.1 (cl.sub _ h0)) fun hg => Nat.lt_irrefl _ (HG1.out _ hg)), HD.out.1, HC5.out.trans (HD.out.2.1.jMB fun b hb => ⟨by have := HG1.out b hb; have := HH.out.1.2; omega, fun hk => by have := HG1.out b hb; have := HH.out.2.1 b hk; omega⟩)⟩
                                    case measure => simp [intOf]; omega
                              · have GB := Lib.hid hb
                                have SBX := Lib.hid (step_end (x := x) HT.out HS.out (show (decide ((j : Int) + 1 < (h.f.code.length : Int)) || endsB x.op) = true by rw [GB.out]; rfl))
                                go_wp2_with fail
                                refine (need_any (hzD (h.own G1) w.heap.size (j : Int) g) _ true HK5.out.1.fix.d7).mono fun e vv hp => ?_
                                obtain ⟨rfl, hvv⟩ := hp.ok rfl
                                subst hvv
                                clear hp
                                have HS2 := Lib.hid (show stepN h.m h.f j x s.stack = some s5 from SBX.out)
                                have d13o : vv.cell? ⟨h.p, 13, none⟩ = some h.dn := HK5.out.1.d13.1
                                rcases cl.next with ⟨hdn, hjn⟩ | ⟨fd, envd, hdn, hent2, hcall⟩
                                · have d13 : vv.cell? ⟨h.p, 13, none⟩ = some Value.nilFunc := d13o.trans (congrArg some hdn)
                                  have HN := Lib.hid hjn
                                  clear hjn hdn d13o
                                  have hneq := neq_nilF
                                  go_wp2_with fail
                                  go_roundw
                                  case rel => exact ⟨j + 1, (j : Int), s5, G1, HG1.out, hlt, by simp, at_step HX.out.2.2.1 HX.out.1 HS2.out, (from_good hlt HX.out.1 HS2.out).symm.trans HX.out.2.1, HK5.out.2, (HK5.out.1.unzone).less (by omega), HP5.out, HN.out j _ _ HJ5.out, HC5.out⟩
                                  case measure => simp [intOf]; omega
                                · have d13 : vv.cell? ⟨h.p, 13, none⟩ = some (Value.func (.func fd) #[] envd) := d13o.trans (congrArg some hdn)
                                  have hcall := hcall j _ _ x s.stack s5 (hzD (h.own G1) w.heap.size (j : Int) g) _ HJ5.out HX.out.2.2.1 HX.out.1 HS2.out rfl rfl rfl (fun b hb => .inl (.inl hb)) (fun b hb hk => by have := HG1.out b hb; have := HH.out.2.1 b hk; omega) HK5.out.1
                                  clear hdn d13o
                                  have hneq := neq_funF fd envd
                                  go_wp2_with fail
                                  refine hcall.mono fun e vd hh => ?_
                                  obtain ⟨rfl, hcd, G2, hjd, hg1, hg2⟩ := hh
                                  have hz2 : CkI (hzD (h.own G2) w.heap.size (j : Int) g) _ vd s5 := HK5.out.1.grow hcd (fun b t hm => ⟨.inl (.inl (hm.1.imp (cl.sub b) id)), hm.2⟩) _ (fun b hb => by
                                    rcases hb with ((hb | hb) | hb) | hb
                                    · exact .inl (.inl (.inl hb))
                                    · exact .inl (.inl (.inr (hg1 b hb)))
                                    · exact .inl (.inr hb)
                                    · exact .inr hb) (fun b hb => by
                                    rcases hb with ((hb | hb) | hb) | hb
                                    · exact .inl (.inl (.inl (.inl hb)))
                                    · rcases hg2 b hb with hb | hb
                                      · exact .inl (.inl (.inl (.inr hb)))
                                      · exact .inr hb
                                    · exact .inl (.inl (.inr hb))
                                    · exact .inl (.inr hb))
                                  have HG2 := Lib.hid (fun b (hb : G2 b) => show w.heap.size < b from (hg2 b hb).elim (HG1.out b) fun e => by have := HP5.out.lt; omega)
                                  have HD := Lib.hid (And.intro hjd (And.intro hcd hz2))
                                  clear hjd hcd hcall hz2 hg1 hg2
                                  go_wp2_with fail
                                  go_roundw
                                  case rel => exact ⟨j + 1, (j : Int), s5, G2, HG2.out, hlt, by simp, at_step HX.out.2.2.1 HX.out.1 HS2.out, (from_good hlt HX.out.1 HS2.out).symm.trans HX.out.2.1, HK5.out.2, (HD.out.2.2.unzone).less (by omega), HP5.out.keep HD.out.2.1 (fun hm => hm.1.elim (fun h0 => HH.out.2.2.2.1 (cl.sub _ h0)) fun hg => Nat.lt_irrefl _ (HG1.out _ hg)), HD.out.1, HC5.out.trans (HD.out.2.1.jMB fun b hb => ⟨by have := HG1.out b hb; have := HH.out.1.2; omega, fun hk => by have := HG1.out b hb; have := HH.out.2.1 b hk; omega⟩)⟩
                                  case measure => simp [intOf]; omega
                        · obtain ⟨rfl, hk, hv, hc⟩ := hh.some_ hq
                          have EQ2 := Lib.hid hq
                          have HK4 := Lib.hid (And.intro hk hv)
                          have HC4 := Lib.hid (HC3.out.trans hc.hz.owned.toMB)
                          have HC4w := Lib.hid (HC3w.out.trans hc.hz.owned.toMB)
                          have HJ4 := Lib.hid (cl.keep2 j _ _ _ HJ3.out hc.hz)
                          have HP4 := Lib.hid (HP3.out.keep hc (fun hm => hm.2 (.inl (.inr rfl))))
                          have HB4 := Lib.hid (hc.zblk HB3.out)
                          clear hh hq hk hv hc z0 z1 z2 z3 z4
                          have HS := Lib.hid (show opsN h.m h.f x ⟨s.stack, [], []⟩ = some (true, s4) from (by simp only [opsN, orN, EQ0.out, EQ1.out, EQ2.out, Option.bind_some, Option.bind_none, if_true, if_false, Bool.false_eq_true]))
                          go_wp2_with fail
                          refine (need_any (hzD (h.own G1) w.heap.size (j : Int) g) n4 true HK4.out.1.fix.d7).mono fun e vv hp => ?_
                          obtain ⟨rfl, hvv⟩ := hp.ok rfl
                          subst hvv
                          clear hp
                          have zz : vv.cell? ⟨g, 0, none⟩ = some (.int .i64 x.op) := by simpa using HB4.out.cell 0
                          have e6 : vv.cell? ⟨h.p, 6, none⟩ = some (.slice (some ⟨cb, co, none⟩) h.f.code.length h.c5) := by rw [← HX.out.2.2.2.1]; exact HK4.out.1.fix.d6
                          cases hb : decide ((j : Int) + 1 < (h.f.code.length : Int))
                          · have GB := Lib.hid hb
                            go_wp2_with fail
                            refine (last_any _ x.op).mono fun e vl hl => ?_
                            obtain ⟨rfl, hvl⟩ := hl
                            subst hvl
                            cases he : endsB x.op
                            · have GE := Lib.hid he
                              have SBX := Lib.hid (step_end (x := x) HT.out HS.out (show (decide ((j : Int) + 1 < (h.f.code.length : Int)) || endsB x.op) = false by rw [GB.out, GE.out]; rfl))
                              go_wp2_with fail
                              refine (need_any (hzD (h.own G1) w.heap.size (j : Int) g) _ false HK4.out.1.fix.d7).mono fun e vv hp => ?_
                              obtain ⟨rfl, hvv⟩ := hp.bad rfl
                              subst hvv
                              go_wp2_with fail
                              exact ⟨rfl, RunRes.bad HC4.out hlt HX.out.1 HX.out.2.1 SBX.out⟩
                            · have GE := Lib.hid he
                              have SBX := Lib.hid (step_end (x := x) HT.out HS.out (show (decide ((j : Int) + 1 < (h.f.code.length : Int)) || endsB x.op) = true by rw [GB.out, GE.out]; rfl))
                              go_wp2_with fail
                              refine (need_any (hzD (h.own G1) w.heap.size (j : Int) g) _ true HK4.out.1.fix.d7).mono fun e vv hp => ?_
                              obtain ⟨rfl, hvv⟩ := hp.ok rfl
                              subst hvv
                              clear hp
                              have HS2 := Lib.hid (show stepN h.m h.f j x s.stack = some s4 from SBX.out)
                              have d13o : vv.cell? ⟨h.p, 13, none⟩ = some h.dn := HK4.out.1.d13.1
                              rcases cl.next with ⟨hdn, hjn⟩ | ⟨fd, envd, hdn, hent2, hcall⟩
                              · have d13 : vv.cell? ⟨h.p, 13, none⟩ = some Value.nilFunc := d13o.trans (congrArg some hdn)
                                have HN := Lib.hid hjn
                                clear hjn hdn d13o
                                have hneq := neq_nilF
                                go_wp2_with fail
                                go_roundw
                                case rel => exact ⟨j + 1, (j : Int), s4, G1, HG1.out, hlt, by simp, at_step HX.out.2.2.1 HX.out.1 HS2.out, (from_good hlt HX.out.1 HS2.out).symm.trans HX.out.2.1, HK4.out.2, (HK4.out.1.unzone).less (by omega), HP4.out, HN.out j _ _ HJ4.out, HC4.out⟩
                                case measure => simp [intOf]; omega
                              · have d13 : vv.cell? ⟨h.p, 13, none⟩ = some (Value.func (.func fd) #[] envd) := d13o.trans (congrArg some hdn)
                                have hcall := hcall j _ _ x s.stack s4 (hzD (h.own G1) w.heap.size (j : Int) g) _ HJ4.out HX.out.2.2.1 HX.out.1 HS2.out rfl rfl rfl (fun b hb => .inl (.inl hb)) (fun b hb hk => by have := HG1.out b hb; have := HH.out.2.1 b hk; omega) HK4.out.1
                                clear hdn d13o
                                have hneq := neq_funF fd envd
                                go_wp2_with fail
                                refine hcall.mono fun e vd hh => ?_
                                obtain ⟨rfl, hcd, G2, hjd, hg1, hg2⟩ := hh
                                have hz2 : CkI (hzD (h.own G2) w.heap.size (j : Int) g) _ vd s4 := HK4.out.1.grow hcd (fun b t hm => ⟨.inl (.inl (hm.1.imp (cl.sub b) id)), hm.2⟩) _ (fun b hb => by
                                  rcases hb with ((hb | hb) | hb) | hb
                                  · exact .inl (.inl (.inl hb))
                                  · exact .inl (.inl (.inr (hg1 b hb)))
                                  · exact .inl (.inr hb)
                                  · exact .inr hb) (fun b hb => by
                                  rcases hb with ((hb | hb) | hb) | hb
                                  · exact .inl (.inl (.inl (.inl hb)))
                                  · rcases hg2 b hb with hb | hb
                                    · exact .inl (.inl (.inl (.inr hb)))
                                    · exact .inr hb
                                  · exact .inl (.inl (.inr hb))
                                  · exact .inl (.inr hb))
                                have HG2 := Lib.hid (fun b (hb : G2 b) => show w.heap.size < b from (hg2 b hb).elim (HG1.out b) fun e => by have := HP4.out.lt; omega)
                                have HD := Lib.hid (And.intro hjd (And.intro hcd hz2))
                                clear hjd hcd hcall hz2 hg1 hg2
                                go_wp2_with fail
                                go_roundw
                                case rel => exact ⟨j + 1, (j : Int), s4, G2, HG2.out, hlt, by simp, at_step HX.out.2.2.1 HX.out.1 HS2.out, (from_good hlt HX.out.1 HS2.out).symm.trans HX.out.2.1, HK4.out.2, (HD.out.2.2.unzone).less (by omega), HP4.out.keep HD.out.2.1 (fun hm => hm.1.elim (fun h0 => HH.out.2.2.2.1 (cl.sub _ h0)) fun hg => Nat.lt_irrefl _ (HG1.out _ hg)), HD.out.1, HC4.out.trans (HD.out.2.1.jMB fun b hb => ⟨by have := HG1.out b hb; have := HH.out.1.2; omega, fun hk => by have := HG1.out b hb; have := HH.out.2.1 b hk; omega⟩)⟩
                                case measure => simp [intOf]; omega
                          · have GB := Lib.hid hb
                            have SBX := Lib.hid (step_end (x := x) HT.out HS.out (show (decide ((j : Int) + 1 < (h.f.code.length : Int)) || endsB x.op) = true by rw [GB.out]; rfl))
                            go_wp2_with fail
                            refine (need_any (hzD (h.own G1) w.heap.size (j : Int) g) _ true HK4.out.1.fix.d7).mono fun e vv hp => ?_
                            obtain ⟨rfl, hvv⟩ := hp.ok rfl
                            subst hvv
                            clear hp
                            have HS2 := Lib.hid (show stepN h.m h.f j x s.stack = some s4 from SBX.out)
                            have d13o : vv.cell? ⟨h.p, 13, none⟩ = some h.dn := HK4.out.1.d13.1
                            rcases cl.next with ⟨hdn, hjn⟩ | ⟨fd, envd, hdn, hent2, hcall⟩
                            · have d13 : vv.cell? ⟨h.p, 13, none⟩ = some Value.nilFunc := d13o.trans (congrArg some hdn)
                              have HN := Lib.hid hjn
                              clear hjn hdn d13o
                              have hneq := neq_nilF
                              go_wp2_with fail
                              go_roundw
                              case rel => exact ⟨j + 1, (j : Int), s4, G1, HG1.out, hlt, by simp, at_step HX.out.2.2.1 HX.out.1 HS2.out, (from_good hlt HX.out.1 HS2.out).symm.trans HX.out.2.1, HK4.out.2, (HK4.out.1.unzone).less (by omega), HP4.out, HN.out j _ _ HJ4.out, HC4.out⟩
                              case measure => simp [intOf]; omega
                            · have d13 : vv.cell? ⟨h.p, 13, none⟩ = some (Value.func (.func fd) #[] envd) := d13o.trans (congrArg some hdn)
                              have hcall := hcall j _ _ x s.stack s4 (hzD (h.own G1) w.heap.size (j : Int) g) _ HJ4.out HX.out.2.2.1 HX.out.1 HS2.out rfl rfl rfl (fun b hb => .inl (.inl hb)) (fun b hb hk => by have := HG1.out b hb; have := HH.out.2.1 b hk; omega) HK4.out.1
                              clear hdn d13o
                              have hneq := neq_funF fd envd
                              go_wp2_with fail
                              refine hcall.mono fun e vd hh => ?_
                              obtain ⟨rfl, hcd, G2, hjd, hg1, hg2⟩ := hh
                              have hz2 : CkI (hzD (h.own G2) w.heap.size (j : Int) g) _ vd s4 := HK4.out.1.grow hcd (fun b t hm => ⟨.inl (.inl (hm.1.imp (cl.sub b) id)), hm.2⟩) _ (fun b hb => by
                                rcases hb with ((hb | hb) | hb) | hb
                                · exact .inl (.inl (.inl hb))
                                · exact .inl (.inl (.inr (hg1 b hb)))
                                · exact .inl (.inr hb)
                                · exact .inr hb) (fun b hb => by
                                rcases hb with ((hb | hb) | hb) | hb
                                · exact .inl (.inl (.inl (.inl hb)))
                                · rcases hg2 b hb with hb | hb
                                  · exact .inl (.inl (.inl (.inr hb)))
                                  · exact .inr hb
                                · exact .inl (.inl (.inr hb))
                                · exact .inl (.inr hb))
                              have HG2 := Lib.hid (fun b (hb : G2 b) => show w.heap.size < b from (hg2 b hb).elim (HG1.out b) fun e => by have := HP4.out.lt; omega)
                              have HD := Lib.hid (And.intro hjd (And.intro hcd hz2))
                              clear hjd hcd hcall hz2 hg1 hg2
                              go_wp2_with fail
                              go_roundw
                              case rel => exact ⟨j + 1, (j : Int), s4, G2, HG2.out, hlt, by simp, at_step HX.out.2.2.1 HX.out.1 HS2.out, (from_good hlt HX.out.1 HS2.out).symm.trans HX.out.2.1, HK4.out.2, (HD.out.2.2.unzone).less (by omega), HP4.out.keep HD.out.2.1 (fun hm => hm.1.elim (fun h0 => HH.out.2.2.2.1 (cl.sub _ h0)) fun hg => Nat.lt_irrefl _ (HG1.out _ hg)), HD.out.1, HC4.out.trans (HD.out.2.1.jMB fun b hb => ⟨by have := HG1.out b hb; have := HH.out.1.2; omega, fun hk => by have := HG1.out b hb; have := HH.out.2.1 b hk; omega⟩)⟩
                              case measure => simp [intOf]; omega
                    · obtain ⟨rfl, hk, hv, hc⟩ := hh.some_ hq
                      have EQ1 := Lib.hid hq
                      have HK3 := Lib.hid (And.intro hk hv)
                      have HC3 := Lib.hid (HC2.out.trans hc.hz.owned.toMB)
                      have HC3w := Lib.hid (HC2w.out.trans hc.hz.owned.toMB)
                      have HJ3 := Lib.hid (cl.keep2 j _ _ _ HJ2.out hc.hz)
                      have HP3 := Lib.hid (HP2.out.keep hc (fun hm => hm.2 (.inl (.inr rfl))))
                      have HB3 := Lib.hid (hc.zblk HB2.out)
                      clear hh hq hk hv hc z0 z1 z2 z3 z4
                      have HS := Lib.hid (show opsN h.m h.f x ⟨s.stack, [], []⟩ = some (true, s3) from (by simp only [opsN, orN, EQ0.out, EQ1.out, Option.bind_some, Option.bind_none, if_true, if_false, Bool.false_eq_true]))
                      go_wp2_with fail
                      refine (need_any (hzD (h.own G1) w.heap.size (j : Int) g) n3 true HK3.out.1.fix.d7).mono fun e vv hp => ?_
                      obtain ⟨rfl, hvv⟩ := hp.ok rfl
                      subst hvv
                      clear hp
                      have zz : vv.cell? ⟨g, 0, none⟩ = some (.int .i64 x.op) := by simpa using HB3.out.cell 0
                      have e6 : vv.cell? ⟨h.p, 6, none⟩ = some (.slice (some ⟨cb, co, none⟩) h.f.code.length h.c5) := by rw [← HX.out.2.2.2.1]; exact HK3.out.1.fix.d6
                      cases hb : decide ((j : Int) + 1 < (h.f.code.length : Int))
                      · have GB := Lib.hid hb
                        go_wp2_with fail
                        refine (last_any _ x.op).mono fun e vl hl => ?_
                        obtain ⟨rfl, hvl⟩ := hl
                        subst hvl
                        cases he : endsB x.op
                        · have GE := Lib.hid he
                          have SBX := Lib.hid (step_end (x := x) HT.out HS.out (show (decide ((j : Int) + 1 < (h.f.code.length : Int)) || endsB x.op) = false by rw [GB.out, GE.out]; rfl))
                          go_wp2_with fail
                          refine (need_any (hzD (h.own G1) w.heap.size (j : Int) g) _ false HK3.out.1.fix.d7).mono fun e vv hp => ?_
                          obtain ⟨rfl, hvv⟩ := hp.bad rfl
                          subst hvv
                          go_wp2_with fail
                          exact ⟨rfl, RunRes.bad HC3.out hlt HX.out.1 HX.out.2.1 SBX.out⟩
                        · have GE := Lib.hid he
                          have SBX := Lib.hid (step_end (x := x) HT.out HS.out (show (decide ((j : Int) + 1 < (h.f.code.length : Int)) || endsB x.op) = true by rw [GB.out, GE.out]; rfl))
                          go_wp2_with fail
                          refine (need_any (hzD (h.own G1) w.heap.size (j : Int) g) _ true HK3.out.1.fix.d7).mono fun e vv hp => ?_
                          obtain ⟨rfl, hvv⟩ := hp.ok rfl
                          subst hvv
                          clear hp
                          have HS2 := Lib.hid (show stepN h.m h.f j x s.stack = some s3 from SBX.out)
                          have d13o : vv.cell? ⟨h.p, 13, none⟩ = some h.dn := HK3.out.1.d13.1
                          rcases cl.next with ⟨hdn, hjn⟩ | ⟨fd, envd, hdn, hent2, hcall⟩
                          · have d13 : vv.cell? ⟨h.p, 13, none⟩ = some Value.nilFunc := d13o.trans (congrArg some hdn)
                            have HN := Lib.hid hjn
                            clear hjn hdn d13o
                            have hneq := neq_nilF
                            go_wp2_with fail
                            go_roundw
                            case rel => exact ⟨j + 1, (j : Int), s3, G1, HG1.out, hlt, by simp, at_step HX.out.2.2.1 HX.out.1 HS2.out, (from_good hlt HX.out.1 HS2.out).symm.trans HX.out.2.1, HK3.out.2, (HK3.out.1.unzone).less (by omega), HP3.out, HN.out j _ _ HJ3.out, HC3.out⟩
                            case measure => simp [intOf]; omega
                          · have d13 : vv.cell? ⟨h.p, 13, none⟩ = some (Value.func (.func fd) #[] envd) := d13o.trans (congrArg some hdn)
                            have hcall := hcall j _ _ x s.stack s3 (hzD (h.own G1) w.heap.size (j : Int) g) _ HJ3.out HX.out.2.2.1 HX.out.1 HS2.out rfl rfl rfl (fun b hb => .inl (.inl hb)) (fun b hb hk => by have := HG1.out b hb; have := HH.out.2.1 b hk; omega) HK3.out.1
                            clear hdn d13o
                            have hneq := neq_funF fd envd
                            go_wp2_with fail
                            refine hcall.mono fun e vd hh => ?_
                            obtain ⟨rfl, hcd, G2, hjd, hg1, hg2⟩ := hh
                            have hz2 : CkI (hzD (h.own G2) w.heap.size (j : Int) g) _ vd s3 := HK3.out.1.grow hcd (fun b t hm => ⟨.inl (.inl (hm.1.imp (cl.sub b) id)), hm.2⟩) _ (fun b hb => by
                              rcases hb with ((hb | hb) | hb) | hb
                              · exact .inl (.inl (.inl hb))
                              · exact .inl (.inl (.inr (hg1 b hb)))
                              · exact .inl (.inr hb)
                              · exact .inr hb) (fun b hb => by
                              rcases hb with ((hb | hb) | hb) | hb
                              · exact .inl (.inl (.inl (.inl hb)))
                              · rcases hg2 b hb with hb | hb
                                · exact .inl (.inl (.inl (.inr hb)))
                                · exact .inr hb
                              · exact .inl (.inl (.inr hb))
                              · exact .inl (.inr hb))
                            have HG2 := Lib.hid (fun b (hb : G2 b) => show w.heap.size < b from (hg2 b hb).elim (HG1.out b) fun e => by have := HP3.out.lt; omega)
                            have HD := Lib.hid (And.intro hjd (And.intro hcd hz2))
                            clear hjd hcd hcall hz2 hg1 hg2
                            go_wp2_with fail
                            go_roundw
                            case rel => exact ⟨j + 1, (j : Int), s3, G2, HG2.out, hlt, by simp, at_step HX.out.2.2.1 HX.out.1 HS2.out, (from_good hlt HX.out.1 HS2.out).symm.trans HX.out.2.1, HK3.out.2, (HD.out.2.2.unzone).less (by omega), HP3.out.keep HD.out.2.1 (fun hm => hm.1.elim (fun h0 => HH.out.2.2.2.1 (cl.sub _ h0)) fun hg => Nat.lt_irrefl _ (HG1.out _ hg)), HD.out.1, HC3.out.trans (HD.out.2.1.jMB fun b hb => ⟨by have := HG1.out b hb; have := HH.out.1.2; omega, fun hk => by have := HG1.out b hb; have := HH.out.2.1 b hk; omega⟩)⟩
                            case measure => simp [intOf]; omega
                      · have GB := Lib.hid hb
                        have SBX := Lib.hid (step_end (x := x) HT.out HS.out (show (decide ((j : Int) + 1 < (h.f.code.length : Int)) || endsB x.op) = true by rw [GB.out]; rfl))
                        go_wp2_with fail
                        refine (need_any (hzD (h.own G1) w.heap.size (j : Int) g) _ true HK3.out.1.fix.d7).mono fun e vv hp => ?_
                        obtain ⟨rfl, hvv⟩ := hp.ok rfl
                        subst hvv
                        clear hp
                        have HS2 := Lib.hid (show stepN h.m h.f j x s.stack = some s3 from SBX.out)
                        have d13o : vv.cell? ⟨h.p, 13, none⟩ = some h.dn := HK3.out.1.d13.1
                        rcases cl.next with ⟨hdn, hjn⟩ | ⟨fd, envd, hdn, hent2, hcall⟩
                        · have d13 : vv.cell? ⟨h.p, 13, none⟩ = some Value.nilFunc := d13o.trans (congrArg some hdn)
                          have HN := Lib.hid hjn
                          clear hjn hdn d13o
                          have hneq := neq_nilF
                          go_wp2_with fail
                          go_roundw
                          case rel => exact ⟨j + 1, (j : Int), s3, G1, HG1.out, hlt, by simp, at_step HX.out.2.2.1 HX.out.1 HS2.out, (from_good hlt HX.out.1 HS2.out).symm.trans HX.out.2.1, HK3.out.2, (HK3.out.1.unzone).less (by omega), HP3.out, HN.out j _ _ HJ3.out, HC3.out⟩
                          case measure => simp [intOf]; omega
                        · have d13 : vv.cell? ⟨h.p, 13, none⟩ = some (Value.func (.func fd) #[] envd) := d13o.trans (congrArg some hdn)
                          have hcall := hcall j _ _ x s.stack s3 (hzD (h.own G1) w.heap.size (j : Int) g) _ HJ3.out HX.out.2.2.1 HX.out.1 HS2.out rfl rfl rfl (fun b hb => .inl (.inl hb)) (fun b hb hk => by have := HG1.out b hb; have := HH.out.2.1 b hk; omega) HK3.out.1
                          clear hdn d13o
                          have hneq := neq_funF fd envd
                          go_wp2_with fail
                          refine hcall.mono fun e vd hh => ?_
                          obtain ⟨rfl, hcd, G2, hjd, hg1, hg2⟩ := hh
                          have hz2 : CkI (hzD (h.own G2) w.heap.size (j : Int) g) _ vd s3 := HK3.out.1.grow hcd (fun b t hm => ⟨.inl (.inl (hm.1.imp (cl.sub b) id)), hm.2⟩) _ (fun b hb => by
                            rcases hb with ((hb | hb) | hb) | hb
                            · exact .inl (.inl (.inl hb))
                            · exact .inl (.inl (.inr (hg1 b hb)))
                            · exact .inl (.inr hb)
                            · exact .inr hb) (fun b hb => by
                            rcases hb with ((hb | hb) | hb) | hb
                            · exact .inl (.inl (.inl (.inl hb)))
                            · rcases hg2 b hb with hb | hb
                              · exact .inl (.inl (.inl (.inr hb)))
                              · exact .inr hb
                            · exact .inl (.inl (.inr hb))
                            · exact .inl (.inr hb))
                          have HG2 := Lib.hid (fun b (hb : G2 b) => show w.heap.size < b from (hg2 b hb).elim (HG1.out b) fun e => by have := HP3.out.lt; omega)
                          have HD := Lib.hid (And.intro hjd (And.intro hcd hz2))
                          clear hjd hcd hcall hz2 hg1 hg2
                          go_wp2_with fail
                          go_roundw
                          case rel => exact ⟨j + 1, (j : Int), s3, G2, HG2.out, hlt, by simp, at_step HX.out.2.2.1 HX.out.1 HS2.out, (from_good hlt HX.out.1 HS2.out).symm.trans HX.out.2.1, HK3.out.2, (HD.out.2.2.unzone).less (by omega), HP3.out.keep HD.out.2.1 (fun hm => hm.1.elim (fun h0 => HH.out.2.2.2.1 (cl.sub _ h0)) fun hg => Nat.lt_irrefl _ (HG1.out _ hg)), HD.out.1, HC3.out.trans (HD.out.2.1.jMB fun b hb => ⟨by have := HG1.out b hb; have := HH.out.1.2; omega, fun hk => by have := HG1.out b hb; have := HH.out.2.1 b hk; omega⟩)⟩
                          case measure => simp [intOf]; omega
                · obtain ⟨rfl, hk, hv, hc⟩ := hh.some_ hq
                  have EQ0 := Lib.hid hq
                  have HK2 := Lib.hid (And.intro hk hv)
                  have HC2 := Lib.hid (HC1.out.trans hc.hz.owned.toMB)
                  have HC2w := Lib.hid (HC1w.out.trans hc.hz.owned.toMB)
                  have HJ2 := Lib.hid (cl.keep2 j _ _ _ HJ1.out hc.hz)
                  have HP2 := Lib.hid (HP1.out.keep hc (fun hm => hm.2 (.inl (.inr rfl))))
                  have HB2 := Lib.hid (hc.zblk HB1.out)
                  clear hh hq hk hv hc z0 z1 z2 z3 z4
                  have HS := Lib.hid (show opsN h.m h.f x ⟨s.stack, [], []⟩ = some (true, s2) from (by simp only [opsN, orN, EQ0.out, Option.bind_some, Option.bind_none, if_true, if_false, Bool.false_eq_true]))
                  go_wp2_with fail
                  refine (need_any (hzD (h.own G1) w.heap.size (j : Int) g) n2 true HK2.out.1.fix.d7).mono fun e vv hp => ?_
                  obtain ⟨rfl, hvv⟩ := hp.ok rfl
                  subst hvv
                  clear hp
                  have zz : vv.cell? ⟨g, 0, none⟩ = some (.int .i64 x.op) := by simpa using HB2.out.cell 0
                  have e6 : vv.cell? ⟨h.p, 6, none⟩ = some (.slice (some ⟨cb, co, none⟩) h.f.code.length h.c5) := by rw [← HX.out.2.2.2.1]; exact HK2.out.1.fix.d6
                  cases hb : decide ((j : Int) + 1 < (h.f.code.length : Int))
                  · have GB := Lib.hid hb
                    go_wp2_with fail
                    refine (last_any _ x.op).mono fun e vl hl => ?_
                    obtain ⟨rfl, hvl⟩ := hl
                    subst hvl
                    cases he : endsB x.op
                    · have GE := Lib.hid he
                      have SBX := Lib.hid (step_end (x := x) HT.out HS.out (show (decide ((j : Int) + 1 < (h.f.code.length : Int)) || endsB x.op) = false by rw [GB.out, GE.out]; rfl))
                      go_wp2_with fail
                      refine (need_any (hzD (h.own G1) w.heap.size (j : Int) g) _ false HK2.out.1.fix.d7).mono fun e vv hp => ?_
                      obtain ⟨rfl, hvv⟩ := hp.bad rfl
                      subst hvv
                      go_wp2_with fail
                      exact ⟨rfl, RunRes.bad HC2.out hlt HX.out.1 HX.out.2.1 SBX.out⟩
                    · have GE := Lib.hid he
                      have SBX := Lib.hid (step_end (x := x) HT.out HS.out (show (decide ((j : Int) + 1 < (h.f.code.length : Int)) || endsB x.op) = true by rw [GB.out, GE.out]; rfl))
                      go_wp2_with fail
                      refine (need_any (hzD (h.own G1) w.heap.size (j : Int) g) _ true HK2.out.1.fix.d7).mono fun e vv hp => ?_
                      obtain ⟨rfl, hvv⟩ := hp.ok rfl
                      subst hvv
                      clear hp
                      have HS2 := Lib.hid (show stepN h.m h.f j x s.stack = some s2 from SBX.out)
                      have d13o : vv.cell? ⟨h.p, 13, none⟩ = some h.dn := HK2.out.1.d13.1
                      rcases cl.next with ⟨hdn, hjn⟩ | ⟨fd, envd, hdn, hent2, hcall⟩
                      · have d13 : vv.cell? ⟨h.p, 13, none⟩ = some Value.nilFunc := d13o.trans (congrArg some hdn)
                        have HN := Lib.hid hjn
                        clear hjn hdn d13o
                        have hneq := neq_nilF
                        go_wp2_with fail
                        go_roundw
                        case rel => exact ⟨j + 1, (j : Int), s2, G1, HG1.out, hlt, by simp, at_step HX.out.2.2.1 HX.out.1 HS2.out, (from_good hlt HX.out.1 HS2.out).symm.trans HX.out.2.1, HK2.out.2, (HK2.out.1.unzone).less (by omega), HP2.out, HN.out j _ _ HJ2.out, HC2.out⟩
                        case measure => simp [intOf]; omega
                      · have d13 : vv.cell? ⟨h.p, 13, none⟩ = some (Value.func (.func fd) #[] envd) := d13o.trans (congrArg some hdn)
                        have hcall := hcall j _ _ x s.stack s2 (hzD (h.own G1) w.heap.size (j : Int) g) _ HJ2.out HX.out.2.2.1 HX.out.1 HS2.out rfl rfl rfl (fun b hb => .inl (.inl hb)) (fun b hb hk => by have := HG1.out b hb; have := HH.out.2.1 b hk; omega) HK2.out.1
                        clear hdn d13o
                        have hneq := neq_funF fd envd
                        go_wp2_with fail
                        refine hcall.mono fun e vd hh => ?_
                        obtain ⟨rfl, hcd, G2, hjd, hg1, hg2⟩ := hh
                        have hz2 : CkI (hzD (h.own G2) w.heap.size (j : Int) g) _ vd s2 := HK2.out.1.grow hcd (fun b t hm => ⟨.inl (.inl (hm.1.imp (cl.sub b) id)), hm.2⟩) _ (fun b hb => by
                          rcases hb with ((hb | hb) | hb) | hb
                          · exact .inl (.inl (.inl hb))
                          · exact .inl (.inl (.inr (hg1 b hb)))
                          · exact .inl (.inr hb)
                          · exact .inr hb) (fun b hb => by
                          rcases hb with ((hb | hb) | hb) | hb
                          · exact .inl (.inl (.inl (.inl hb)))
                          · rcases hg2 b hb with hb | hb
                            · exact .inl (.inl (.inl (.inr hb)))
                            · exact .inr hb
                          · exact .inl (.inl (.inr hb))
                          · exact .inl (.inr hb))
                        have HG2 := Lib.hid (fun b (hb : G2 b) => show w.heap.size < b from (hg2 b hb).elim (HG1.out b) fun e => by have := HP2.out.lt; omega)
                        have HD := Lib.hid (And.intro hjd (And.intro hcd hz2))
                        clear hjd hcd hcall hz2 hg1 hg2
                        go_wp2_with fail
                        go_roundw
                        case rel => exact ⟨j + 1, (j : Int), s2, G2, HG2.out, hlt, by simp, at_step HX.out.2.2.1 HX.out.1 HS2.out, (from_good hlt HX.out.1 HS2.out).symm.trans HX.out.2.1, HK2.out.2, (HD.out.2.2.unzone).less (by omega), HP2.out.keep HD.out.2.1 (fun hm => hm.1.elim (fun h0 => HH.out.2.2.2.1 (cl.sub _ h0)) fun hg => Nat.lt_irrefl _ (HG1.out _ hg)), HD.out.1, HC2.out.trans (HD.out.2.1.jMB fun b hb => ⟨by have := HG1.out b hb; have := HH.out.1.2; omega, fun hk => by have := HG1.out b hb; have := HH.out.2.1 b hk; omega⟩)⟩
                        case measure => simp [intOf]; omega
                  · have GB := Lib.hid hb
                    have SBX := Lib.hid (step_end (x := x) HT.out HS.out (show (decide ((j : Int) + 1 < (h.f.code.length : Int)) || endsB x.op) = true by rw [GB.out]; rfl))
                    go_wp2_with fail
                    refine (need_any (hzD (h.own G1) w.heap.size (j : Int) g) _ true HK2.out.1.fix.d7).mono fun e vv hp => ?_
                    obtain ⟨rfl, hvv⟩ := hp.ok rfl
                    subst hvv
                    clear hp
                    have HS2 := Lib.hid (show stepN h.m h.f j x s.stack = some s2 from SBX.out)
                    have d13o : vv.cell? ⟨h.p, 13, none⟩ = some h.dn := HK2.out.1.d13.1
                    rcases cl.next with ⟨hdn, hjn⟩ | ⟨fd, envd, hdn, hent2, hcall⟩
                    · have d13 : vv.cell? ⟨h.p, 13, none⟩ = some Value.nilFunc := d13o.trans (congrArg some hdn)
                      have HN := Lib.hid hjn
                      clear hjn hdn d13o
                      have hneq := neq_nilF
                      go_wp2_with fail
                      go_roundw
                      case rel => exact ⟨j + 1, (j : Int), s2, G1, HG1.out, hlt, by simp, at_step HX.out.2.2.1 HX.out.1 HS2.out, (from_good hlt HX.out.1 HS2.out).symm.trans HX.out.2.1, HK2.out.2, (HK2.out.1.unzone).less (by omega), HP2.out, HN.out j _ _ HJ2.out, HC2.out⟩
                      case measure => simp [intOf]; omega
                    · have d13 : vv.cell? ⟨h.p, 13, none⟩ = some (Value.func (.func fd) #[] envd) := d13o.trans (congrArg some hdn)
                      have hcall := hcall j _ _ x s.stack s2 (hzD (h.own G1) w.heap.size (j : Int) g) _ HJ2.out HX.out.2.2.1 HX.out.1 HS2.out rfl rfl rfl (fun b hb => .inl (.inl hb)) (fun b hb hk => by have := HG1.out b hb; have := HH.out.2.1 b hk; omega) HK2.out.1
                      clear hdn d13o
                      have hneq := neq_funF fd envd
                      go_wp2_with fail
                      refine hcall.mono fun e vd hh => ?_
                      obtain ⟨rfl, hcd, G2, hjd, hg1, hg2⟩ := hh
                      have hz2 : CkI (hzD (h.own G2) w.heap.size (j : Int) g) _ vd s2 := HK2.out.1.grow hcd (fun b t hm => ⟨.inl (.inl (hm.1.imp (cl.sub b) id)), hm.2⟩) _ (fun b hb => by
                        rcases hb with ((hb | hb) | hb) | hb
                        · exact .inl (.inl (.inl hb))
                        · exact .inl (.inl (.inr (hg1 b hb)))
                        · exact .inl (.inr hb)
                        · exact .inr hb) (fun b hb => by
                        rcases hb with ((hb | hb) | hb) | hb
                        · exact .inl (.inl (.inl (.inl hb)))
                        · rcases hg2 b hb with hb | hb
                          · exact .inl (.inl (.inl (.inr hb)))
                          · exact .inr hb
                        · exact .inl (.inl (.inr hb))
                        · exact .inl (.inr hb))
                      have HG2 := Lib.hid (fun b (hb : G2 b) => show w.heap.size < b from (hg2 b hb).elim (HG1.out b) fun e => by have := HP2.out.lt; omega)
                      have HD := Lib.hid (And.intro hjd (And.intro hcd hz2))
                      clear hjd hcd hcall hz2 hg1 hg2
                      go_wp2_with fail
                      go_roundw
                      case rel => exact ⟨j + 1, (j : Int), s2, G2, HG2.out, hlt, by simp, at_step HX.out.2.2.1 HX.out.1 HS2.out, (from_good hlt HX.out.1 HS2.out).symm.trans HX.out.2.1, HK2.out.2, (HD.out.2.2.unzone).less (by omega), HP2.out.keep HD.out.2.1 (fun hm => hm.1.elim (fun h0 => HH.out.2.2.2.1 (cl.sub _ h0)) fun hg => Nat.lt_irrefl _ (HG1.out _ hg)), HD.out.1, HC2.out.trans (HD.out.2.1.jMB fun b hb => ⟨by have := HG1.out b hb; have := HH.out.1.2; omega, fun hk => by have := HG1.out b hb; have := HH.out.2.1 b hk; omega⟩)⟩
                      case measure => simp [intOf]; omega
            · have GC := Lib.hid hcn
              rw [hcn] at hlook
              cases hl0 : ((s.stack.length : Int) == 0)
              · have SBX := Lib.hid (step_bad1 (m := h.m) (x := x) (show (!(placesOf h.f.code).contains (j : Int) || ((s.stack.length : Int) == 0)) = false by rw [GC.out, hl0]; rfl))
                go_wp2_with fail
                refine (need_any (hzD (h.own G1) w.heap.size (j : Int) g) v1 false HK1.out.1.fix.d7).mono fun e vv hp => ?_
                obtain ⟨rfl, hvv⟩ := hp.bad rfl
                subst hvv
                go_wp2_with fail
                exact ⟨rfl, RunRes.bad HC1.out hlt HX.out.1 HX.out.2.1 SBX.out⟩
              · have HT := Lib.hid (show (!(placesOf h.f.code).contains (j : Int) || ((s.stack.length : Int) == 0)) = true by rw [GC.out, hl0]; rfl)
                go_wp2_with fail
                refine (need_any (hzD (h.own G1) w.heap.size (j : Int) g) v1 true HK1.out.1.fix.d7).mono fun e vv hp => ?_
                obtain ⟨rfl, hvv⟩ := hp.ok rfl
                subst hvv
                clear hp d11 hlook d8'
                have z0 : vv.cell? ⟨g, 0, none⟩ = some (.int .i64 x.op) := by simpa using HB1.out.cell 0
                have z1 : vv.cell? ⟨g, 1, none⟩ = some (.int .i64 x.a) := by simpa using HB1.out.cell 1
                have z2 : vv.cell? ⟨g, 2, none⟩ = some (.int .i64 x.b) := by simpa using HB1.out.cell 2
                have z3 : vv.cell? ⟨g, 3, none⟩ = some (.int .u64 (x.n : Int)) := by simpa using HB1.out.cell 3
                have z4 : vv.cell? ⟨g, 4, none⟩ = some (.slice CA x.cases.length cc) := by simpa using HB1.out.cell 4
                go_wp2_with fail
                refine (numbers_any (hzD (h.own G1) w.heap.size (j : Int) g) 4900 vv ⟨s.stack, [], []⟩ x CA cc HK1.out.1 HK1.out.2).mono fun e n2 hh => ?_
                rcases hq : numsN h.m x ⟨s.stack, [], []⟩ with _ | ⟨bo, s2⟩
                · obtain ⟨rfl, hc⟩ := hh.none_ hq
                  have EQ0 := Lib.hid hq
                  have CB := Lib.hid (HC1.out.trans hc.hz.owned.toMB)
                  have SBX := Lib.hid (show stepN h.m h.f j x s.stack = none by rw [step_ops HT.out, show opsN h.m h.f x ⟨s.stack, [], []⟩ = none from (by simp only [opsN, orN, EQ0.out, Option.bind_some, Option.bind_none, if_true, if_false, Bool.false_eq_true])]; rfl)
                  clear hh hq hc
                  go_wp2_with fail
                  exact ⟨rfl, RunRes.bad CB.out hlt HX.out.1 HX.out.2.1 SBX.out⟩
                · cases bo
                  · obtain ⟨rfl, hk, hv, hc⟩ := hh.some_ hq
                    have EQ0 := Lib.hid hq
                    have HK2 := Lib.hid (And.intro hk hv)
                    have HC2 := Lib.hid (HC1.out.trans hc.hz.owned.toMB)
                    have HC2w := Lib.hid (HC1w.out.trans hc.hz.owned.toMB)
                    have HJ2 := Lib.hid (cl.keep2 j _ _ _ HJ1.out hc.hz)
                    have HP2 := Lib.hid (HP1.out.keep hc (fun hm => hm.2 (.inl (.inr rfl))))
                    have HB2 := Lib.hid (hc.zblk HB1.out)
                    clear hh hq hk hv hc z0 z1 z2 z3 z4
                    have z0 : n2.cell? ⟨g, 0, none⟩ = some (.int .i64 x.op) := by simpa using HB2.out.cell 0
                    have z1 : n2.cell? ⟨g, 1, none⟩ = some (.int .i64 x.a) := by simpa using HB2.out.cell 1
                    have z2 : n2.cell? ⟨g, 2, none⟩ = some (.int .i64 x.b) := by simpa using HB2.out.cell 2
                    have z3 : n2.cell? ⟨g, 3, none⟩ = some (.int .u64 (x.n : Int)) := by simpa using HB2.out.cell 3
                    have z4 : n2.cell? ⟨g, 4, none⟩ = some (.slice CA x.cases.length cc) := by simpa using HB2.out.cell 4
                    go_wp2_with fail
                    refine (values_any (hzD (h.own G1) w.heap.size (j : Int) g) 3800 n2 s2 x CA cc HK2.out.1 HK2.out.2).mono fun e n3 hh => ?_
                    rcases hq : valsN h.m h.f x s2 with _ | ⟨bo, s3⟩
                    · obtain ⟨rfl, hc⟩ := hh.none_ hq
                      have EQ1 := Lib.hid hq
                      have CB := Lib.hid (HC2.out.trans hc.hz.owned.toMB)
                      have SBX := Lib.hid (show stepN h.m h.f j x s.stack = none by rw [step_ops HT.out, show opsN h.m h.f x ⟨s.stack, [], []⟩ = none from (by simp only [opsN, orN, EQ0.out, EQ1.out, Option.bind_some, Option.bind_none, if_true, if_false, Bool.false_eq_true])]; rfl)
                      clear hh hq hc
                      go_wp2_with fail
                      exact ⟨rfl, RunRes.bad CB.out hlt HX.out.1 HX.out.2.1 SBX.out⟩
                    · cases bo
                      · obtain ⟨rfl, hk, hv, hc⟩ := hh.some_ hq
                        have EQ1 := Lib.hid hq
                        have HK3 := Lib.hid (And.intro hk hv)
                        have HC3 := Lib.hid (HC2.out.trans hc.hz.owned.toMB)
                        have HC3w := Lib.hid (HC2w.out.trans hc.hz.owned.toMB)
                        have HJ3 := Lib.hid (cl.keep2 j _ _ _ HJ2.out hc.hz)
                        have HP3 := Lib.hid (HP2.out.keep hc (fun hm => hm.2 (.inl (.inr rfl))))
                        have HB3 := Lib.hid (hc.zblk HB2.out)
                        clear hh hq hk hv hc z0 z1 z2 z3 z4
                        have z0 : n3.cell? ⟨g, 0, none⟩ = some (.int .i64 x.op) := by simpa using HB3.out.cell 0
                        have z1 : n3.cell? ⟨g, 1, none⟩ = some (.int .i64 x.a) := by simpa using HB3.out.cell 1
                        have z2 : n3.cell? ⟨g, 2, none⟩ = some (.int .i64 x.b) := by simpa using HB3.out.cell 2
                        have z3 : n3.cell? ⟨g, 3, none⟩ = some (.int .u64 (x.n : Int)) := by simpa using HB3.out.cell 3
                        have z4 : n3.cell? ⟨g, 4, none⟩ = some (.slice CA x.cases.length cc) := by simpa using HB3.out.cell 4
                        go_wp2_with fail
                        refine (calls_any (hzD (h.own G1) w.heap.size (j : Int) g) 2700 n3 s3 x CA cc HK3.out.1 HK3.out.2).mono fun e n4 hh => ?_
                        rcases hq : callsN h.m x s3 with _ | ⟨bo, s4⟩
                        · obtain ⟨rfl, hc⟩ := hh.none_ hq
                          have EQ2 := Lib.hid hq
                          have CB := Lib.hid (HC3.out.trans hc.hz.owned.toMB)
                          have SBX := Lib.hid (show stepN h.m h.f j x s.stack = none by rw [step_ops HT.out, show opsN h.m h.f x ⟨s.stack, [], []⟩ = none from (by simp only [opsN, orN, EQ0.out, EQ1.out, EQ2.out, Option.bind_some, Option.bind_none, if_true, if_false, Bool.false_eq_true])]; rfl)
                          clear hh hq hc
                          go_wp2_with fail
                          exact ⟨rfl, RunRes.bad CB.out hlt HX.out.1 HX.out.2.1 SBX.out⟩
                        · cases bo
                          · obtain ⟨rfl, hk, hv, hc⟩ := hh.some_ hq
                            have EQ2 := Lib.hid hq
                            have HK4 := Lib.hid (And.intro hk hv)
                            have HC4 := Lib.hid (HC3.out.trans hc.hz.owned.toMB)
                            have HC4w := Lib.hid (HC3w.out.trans hc.hz.owned.toMB)
                            have HJ4 := Lib.hid (cl.keep2 j _ _ _ HJ3.out hc.hz)
                            have HP4 := Lib.hid (HP3.out.keep hc (fun hm => hm.2 (.inl (.inr rfl))))
                            have HB4 := Lib.hid (hc.zblk HB3.out)
                            clear hh hq hk hv hc z0 z1 z2 z3 z4
                            have z0 : n4.cell? ⟨g, 0, none⟩ = some (.int .i64 x.op) := by simpa using HB4.out.cell 0
                            have z1 : n4.cell? ⟨g, 1, none⟩ = some (.int .i64 x.a) := by simpa using HB4.out.cell 1
                            have z2 : n4.cell? ⟨g, 2, none⟩ = some (.int .i64 x.b) := by simpa using HB4.out.cell 2
                            have z3 : n4.cell? ⟨g, 3, none⟩ = some (.int .u64 (x.n : Int)) := by simpa using HB4.out.cell 3
                            have z4 : n4.cell? ⟨g, 4, none⟩ = some (.slice CA x.cases.length cc) := by simpa using HB4.out.cell 4
                            go_wp2_with fail
                            refine (flow_any (hzD (h.own G1) w.heap.size (j : Int) g) 1600 n4 s4 x CA cc HK4.out.1 HK4.out.2 (CasesR.keep HX.out.2.2.2.2 HC4w.out (fun b _ hb hm => by have := HH.out.1; have h9 : b < h.B := hb; rcases hm with hm | hm <;> (first | (have h8 : h.base ≤ b := hm.1; omega) | (have h8 : h.B ≤ b := hm.2; omega))))).mono fun e n5 hh => ?_
                            rcases hq : flowN h.m h.f x s4 with _ | ⟨bo, s5⟩
                            · obtain ⟨rfl, hc⟩ := hh.none_ hq
                              have EQ3 := Lib.hid hq
                              have CB := Lib.hid (HC4.out.trans hc.hz.owned.toMB)
                              have SBX := Lib.hid (show stepN h.m h.f j x s.stack = none by rw [step_ops HT.out, show opsN h.m h.f x ⟨s.stack, [], []⟩ = none from (by simp only [opsN, orN, EQ0.out, EQ1.out, EQ2.out, EQ3.out, Option.bind_some, Option.bind_none, if_true, if_false, Bool.false_eq_true])]; rfl)
                              clear hh hq hc
                              go_wp2_with fail
                              exact ⟨rfl, RunRes.bad CB.out hlt HX.out.1 HX.out.2.1 SBX.out⟩
                            · cases bo
                              · obtain ⟨rfl, hk, hv, hc⟩ := hh.some_ hq
                                have EQ3 := Lib.hid hq
                                have HK5 := Lib.hid (And.intro hk hv)
                                have HC5 := Lib.hid (HC4.out.trans hc.hz.owned.toMB)
                                have HC5w := Lib.hid (HC4w.out.trans hc.hz.owned.toMB)
                                have HJ5 := Lib.hid (cl.keep2 j _ _ _ HJ4.out hc.hz)
                                have HP5 := Lib.hid (HP4.out.keep hc (fun hm => hm.2 (.inl (.inr rfl))))
                                have HB5 := Lib.hid (hc.zblk HB4.out)
                                clear hh hq hk hv hc z0 z1 z2 z3 z4
                                have SBX := Lib.hid (show stepN h.m h.f j x s.stack = none by rw [step_ops HT.out, show opsN h.m h.f x ⟨s.stack, [], []⟩ = some (false, s5) from (by simp only [opsN, orN, EQ0.out, EQ1.out, EQ2.out, EQ3.out, Option.bind_some, Option.bind_none, if_true, if_false, Bool.false_eq_true])]; rfl)
                                go_wp2_with fail
                                refine (need_any (hzD (h.own G1) w.heap.size (j : Int) g) n5 false HK5.out.1.fix.d7).mono fun e vv hp => ?_
                                obtain ⟨rfl, rfl⟩ := hp.bad rfl
                                go_wp2_with fail
                                exact ⟨rfl, RunRes.bad HC5.out hlt HX.out.1 HX.out.2.1 SBX.out⟩
                              · obtain ⟨rfl, hk, hv, hc⟩ := hh.some_ hq
                                have EQ3 := Lib.hid hq
                                have HK5 := Lib.hid (And.intro hk hv)
                                have HC5 := Lib.hid (HC4.out.trans hc.hz.owned.toMB)
                                have HC5w := Lib.hid (HC4w.out.trans hc.hz.owned.toMB)
                                have HJ5 := Lib.hid (cl.keep2 j _ _ _ HJ4.out hc.hz)
                                have HP5 := Lib.hid (HP4.out.keep hc (fun hm => hm.2 (.inl (.inr rfl))))
                                have HB5 := Lib.hid (hc.zblk HB4.out)
                                clear hh hq hk hv hc z0 z1 z2 z3 z4
                                have HS := Lib.hid (show opsN h.m h.f x ⟨s.stack, [], []⟩ = some (true, s5) from (by simp only [opsN, orN, EQ0.out, EQ1.out, EQ2.out, EQ3.out, Option.bind_some, Option.bind_none, if_true, if_false, Bool.false_eq_true]))
                                go_wp2_with fail
                                refine (need_any (hzD (h.own G1) w.heap.size (j : Int) g) n5 true HK5.out.1.fix.d7).mono fun e vv hp => ?_
                                obtain ⟨rfl, hvv⟩ := hp.ok rfl
                                subst hvv
                                clear hp
                                have zz : vv.cell? ⟨g, 0, none⟩ = some (.int .i64 x.op) := by simpa using HB5.out.cell 0
                                have e6 : vv.cell? ⟨h.p, 6, none⟩ = some (.slice (some ⟨cb, co, none⟩) h.f.code.length h.c5) := by rw [← HX.out.2.2.2.1]; exact HK5.out.1.fix.d6
                                cases hb : decide ((j : Int) + 1 < (h.f.code.length : Int))
                                · have GB := Lib.hid hb
                                  go_wp2_with fail
                                  refine (last_any _ x.op).mono fun e vl hl => ?_
                                  obtain ⟨rfl, hvl⟩ := hl
                                  subst hvl
                                  cases he : endsB x.op
                                  · have GE := Lib.hid he
                                    have SBX := Lib.hid (step_end (x := x) HT.out HS.out (show (decide ((j : Int) + 1 < (h.f.code.length : Int)) || endsB x.op) = false by rw [GB.out, GE.out]; rfl))
                                    go_wp2_with fail
                                    refine (need_any (hzD (h.own G1) w.heap.size (j : Int) g) _ false HK5.out.1.fix.d7).mono fun e vv hp => ?_
                                    obtain ⟨rfl, hvv⟩ := hp.bad rfl
                                    subst hvv
                                    go_wp2_with fail
                                    exact ⟨rfl, RunRes.bad HC5.out hlt HX.out.1 HX.out.2.1 SBX.out⟩
                                  · have GE := Lib.hid he
                                    have SBX := Lib.hid (step_end (x := x) HT.out HS.out (show (decide ((j : Int) + 1 < (h.f.code.length : Int)) || endsB x.op) = true by rw [GB.out, GE.out]; rfl))
                                    go_wp2_with fail
                                    refine (need_any (hzD (h.own G1) w.heap.size (j : Int) g) _ true HK5.out.1.fix.d7).mono fun e vv hp => ?_
                                    obtain ⟨rfl, hvv⟩ := hp.ok rfl
                                    subst hvv
                                    clear hp
                                    have HS2 := Lib.hid (show stepN h.m h.f j x s.stack = some s5 from SBX.out)
                                    have d13o : vv.cell? ⟨h.p, 13, none⟩ = some h.dn := HK5.out.1.d13.1
                                    rcases cl.next with ⟨hdn, hjn⟩ | ⟨fd, envd, hdn, hent2, hcall⟩
                                    · have d13 : vv.cell? ⟨h.p, 13, none⟩ = some Value.nilFunc := d13o.trans (congrArg some hdn)
                                      have HN := Lib.hid hjn
                                      clear hjn hdn d13o
                                      have hneq := neq_nilF
                                      go_wp2_with fail
                                      go_roundw
                                      case rel => exact ⟨j + 1, (j : Int), s5, G1, HG1.out, hlt, by simp, at_step HX.out.2.2.1 HX.out.1 HS2.out, (from_good hlt HX.out.1 HS2.out).symm.trans HX.out.2.1, HK5.out.2, (HK5.out.1.unzone).less (by omega), HP5.out, HN.out j _ _ HJ5.out, HC5.out⟩
                                      case measure => simp [intOf]; omega
                                    · have d13 : vv.cell? ⟨h.p, 13, none⟩ = some (Value.func (.func fd) #[] envd) := d13o.trans (congrArg some hdn)
                                      have hcall := hcall j _ _ x s.stack s5 (hzD (h.own G1) w.heap.size (j : Int) g) _ HJ5.out HX.out.2.2.1 HX.out.1 HS2.out rfl rfl rfl (fun b hb => .inl (.inl hb)) (fun b hb hk => by have := HG1.out b hb; have := HH.out.2.1 b hk; omega) HK5.out.1
                                      clear hdn d13o
                                      have hneq := neq_funF fd envd
                                      go_wp2_with fail
                                      refine hcall.mono fun e vd hh => ?_
                                      obtain ⟨rfl, hcd, G2, hjd, hg1, hg2⟩ := hh
                                      have hz2 : CkI (hzD (h.own G2) w.heap.size (j : Int) g) _ vd s5 := HK5.out.1.grow hcd (fun b t hm => ⟨.inl (.inl (hm.1.imp (cl.sub b) id)), hm.2⟩) _ (fun b hb => by
                                        rcases hb with ((hb | hb) | hb) | hb
                                        · exact .inl (.inl (.inl hb))
                                        · exact .inl (.inl (.inr (hg1 b hb)))
                                        · exact .inl (.inr hb)
                                        · exact .inr hb) (fun b hb => by
                                        rcases hb with ((hb | hb) | hb) | hb
                                        · exact .inl (.inl (.inl (.inl hb)))
                                        · rcases hg2 b hb with hb | hb
                                          · exact .inl (.inl (.inl (.inr hb)))
                                          · exact .inr hb
                                        · exact .inl (.inl (.inr hb))
                                        · exact .inl (.inr hb))
                                      have HG2 := Lib.hid (fun b (hb : G2 b) => show w.heap.size < b from (hg2 b hb).elim (HG1.out b) fun e => by have := HP5.out.lt; omega)
                                      have HD := Lib.hid (And.intro hjd (And.intro hcd hz2))
                                      clear hjd hcd hcall hz2 hg1 hg2
                                      go_wp2_with fail
                                      go_roundw
                                      case rel => exact ⟨j + 1, (j : Int), s5, G2, HG2.out, hlt, by simp, at_step HX.out.2.2.1 HX.out.1 HS2.out, (from_good hlt HX.out.1 HS2.out).symm.trans HX.out.2.1, HK5.out.2, (HD.out.2.2.unzone).less (by omega), HP5.out.keep HD.out.2.1 (fun hm => hm.1.elim (fun h0 => HH.out.2.2.2.1 (cl.sub _ h0)) fun hg => Nat.lt_irrefl _ (HG1.out _ hg)), HD.out.1, HC5.out.trans (HD.out.2.1.jMB fun b hb => ⟨by have := HG1.out b hb; have := HH.out.1.2; omega, fun hk => by have := HG1.out b hb; have := HH.out.2.1 b hk; omega⟩)⟩
                                      case measure => simp [intOf]; omega
                                · have GB := Lib.hid hb
                                  have SBX := Lib.hid (step_end (x := x) HT.out HS.out (show (decide ((j : Int) + 1 < (h.f.code.length : Int)) || endsB x.op) = true by rw [GB.out]; rfl))
                                  go_wp2_with fail
                                  refine (need_any (hzD (h.own G1) w.heap.size (j : Int) g) _ true HK5.out.1.fix.d7).mono fun e vv hp => ?_
                                  obtain ⟨rfl, hvv⟩ := hp.ok rfl
                                  subst hvv
                                  clear hp
                                  have HS2 := Lib.hid (show stepN h.m h.f j x s.stack = some s5 from SBX.out)
                                  have d13o : vv.cell? ⟨h.p, 13, none⟩ = some h.dn := HK5.out.1.d13.1
                                  rcases cl.next with ⟨hdn, hjn⟩ | ⟨fd, envd, hdn, hent2, hcall⟩
                                  · have d13 : vv.cell? ⟨h.p, 13, none⟩ = some Value.nilFunc := d13o.trans (congrArg some hdn)
                                    have HN := Lib.hid hjn
                                    clear hjn hdn d13o
                                    have hneq := neq_nilF
                                    go_wp2_with fail
                                    go_roundw
                                    case rel => exact ⟨j + 1, (j : Int), s5, G1, HG1.out, hlt, by simp, at_step HX.out.2.2.1 HX.out.1 HS2.out, (from_good hlt HX.out.1 HS2.out).symm.trans HX.out.2.1, HK5.out.2, (HK5.out.1.unzone).less (by omega), HP5.out, HN.out j _ _ HJ5.out, HC5.out⟩
                                    case measure => simp [intOf]; omega
                                  · have d13 : vv.cell? ⟨h.p, 13, none⟩ = some (Value.func (.func fd) #[] envd) := d13o.trans (congrArg some hdn)
                                    have hcall := hcall j _ _ x s.stack s5 (hzD (h.own G1) w.heap.size (j : Int) g) _ HJ5.out HX.out.2.2.1 HX.out.1 HS2.out rfl rfl rfl (fun b hb => .inl (.inl hb)) (fun b hb hk => by have := HG1.out b hb; have := HH.out.2.1 b hk; omega) HK5.out.1
                                    clear hdn d13o
                                    have hneq := neq_funF fd envd
                                    go_wp2_with fail
                                    refine hcall.mono fun e vd hh => ?_
                                    obtain ⟨rfl, hcd, G2, hjd, hg1, hg2⟩ := hh
                                    have hz2 : CkI (hzD (h.own G2) w.heap.size (j : Int) g) _ vd s5 := HK5.out.1.grow hcd (fun b t hm => ⟨.inl (.inl (hm.1.imp (cl.sub b) id)), hm.2⟩) _ (fun b hb => by
                                      rcases hb with ((hb | hb) | hb) | hb
                                      · exact .inl (.inl (.inl hb))
                                      · exact .inl (.inl (.inr (hg1 b hb)))
                                      · exact .inl (.inr hb)
                                      · exact .inr hb) (fun b hb => by
                                      rcases hb with ((hb | hb) | hb) | hb
                                      · exact .inl (.inl (.inl (.inl hb)))
                                      · rcases hg2 b hb with hb | hb
                                        · exact .inl (.inl (.inl (.inr hb)))
                                        · exact .inr hb
                                      · exact .inl (.inl (.inr hb))
                                      · exact .inl (.inr hb))
                                    have HG2 := Lib.hid (fun b (hb : G2 b) => show w.heap.size < b from (hg2 b hb).elim (HG1.out b) fun e => by have := HP5.out.lt; omega)
                                    have HD := Lib.hid (And.intro hjd (And.intro hcd hz2))
                                    clear hjd hcd hcall hz2 hg1 hg2
                                    go_wp2_with fail
                                    go_roundw
                                    case rel => exact ⟨j + 1, (j : Int), s5, G2, HG2.out, hlt, by simp, at_step HX.out.2.2.1 HX.out.1 HS2.out, (from_good hlt HX.out.1 HS2.out).symm.trans HX.out.2.1, HK5.out.2, (HD.out.2.2.unzone).less (by omega), HP5.out.keep HD.out.2.1 (fun hm => hm.1.elim (fun h0 => HH.out.2.2.2.1 (cl.sub _ h0)) fun hg => Nat.lt_irrefl _ (HG1.out _ hg)), HD.out.1, HC5.out.trans (HD.out.2.1.jMB fun b hb => ⟨by have := HG1.out b hb; have := HH.out.1.2; omega, fun hk => by have := HG1.out b hb; have := HH.out.2.1 b hk; omega⟩)⟩
                                    case measure => simp [intOf]; omega
                          · obtain ⟨rfl, hk, hv, hc⟩ := hh.some_ hq
                            have EQ2 := Lib.hid hq
                            have HK4 := Lib.hid (And.intro hk hv)
                            have HC4 := Lib.hid (HC3.out.trans hc.hz.owned.toMB)
                            have HC4w := Lib.hid (HC3w.out.trans hc.hz.owned.toMB)
                            have HJ4 := Lib.hid (cl.keep2 j _ _ _ HJ3.out hc.hz)
                            have HP4 := Lib.hid (HP3.out.keep hc (fun hm => hm.2 (.inl (.inr rfl))))
                            have HB4 := Lib.hid (hc.zblk HB3.out)
                            clear hh hq hk hv hc z0 z1 z2 z3 z4
                            have HS := Lib.hid (show opsN h.m h.f x ⟨s.stack, [], []⟩ = some (true, s4) from (by simp only [opsN, orN, EQ0.out, EQ1.out, EQ2.out, Option.bind_some, Option.bind_none, if_true, if_false, Bool.false_eq_true]))
                            go_wp2_with fail
                            refine (need_any (hzD (h.own G1) w.heap.size (j : Int) g) n4 true HK4.out.1.fix.d7).mono fun e vv hp => ?_
                            obtain ⟨rfl, hvv⟩ := hp.ok rfl
                            subst hvv
                            clear hp
                            have zz : vv.cell? ⟨g, 0, none⟩ = some (.int .i64 x.op) := by simpa using HB4.out.cell 0
                            have e6 : vv.cell? ⟨h.p, 6, none⟩ = some (.slice (some ⟨cb, co, none⟩) h.f.code.length h.c5) := by rw [← HX.out.2.2.2.1]; exact HK4.out.1.fix.d6
                            cases hb : decide ((j : Int) + 1 < (h.f.code.length : Int))
                            · have GB := Lib.hid hb
                              go_wp2_with fail
                              refine (last_any _ x.op).mono fun e vl hl => ?_
                              obtain ⟨rfl, hvl⟩ := hl
                              subst hvl
                              cases he : endsB x.op
                              · have GE := Lib.hid he
                                have SBX := Lib.hid (step_end (x := x) HT.out HS.out (show (decide ((j : Int) + 1 < (h.f.code.length : Int)) || endsB x.op) = false by rw [GB.out, GE.out]; rfl))
                                go_wp2_with fail
                                refine (need_any (hzD (h.own G1) w.heap.size (j : Int) g) _ false HK4.out.1.fix.d7).mono fun e vv hp => ?_
                                obtain ⟨rfl, hvv⟩ := hp.bad rfl
                                subst hvv
                                go_wp2_with fail
                                exact ⟨rfl, RunRes.bad HC4.out hlt HX.out.1 HX.out.2.1 SBX.out⟩
                              · have GE := Lib.hid he
                                have SBX := Lib.hid (step_end (x := x) HT.out HS.out (show (decide ((j : Int) + 1 < (h.f.code.length : Int)) || endsB x.op) = true by rw [GB.out, GE.out]; rfl))
                                go_wp2_with fail
                                refine (need_any (hzD (h.own G1) w.heap.size (j : Int) g) _ true HK4.out.1.fix.d7).mono fun e vv hp => ?_
                                obtain ⟨rfl, hvv⟩ := hp.ok rfl
                                subst hvv
                                clear hp
                                have HS2 := Lib.hid (show stepN h.m h.f j x s.stack = some s4 from SBX.out)
                                have d13o : vv.cell? ⟨h.p, 13, none⟩ = some h.dn := HK4.out.1.d13.1
                                rcases cl.next with ⟨hdn, hjn⟩ | ⟨fd, envd, hdn, hent2, hcall⟩
                                · have d13 : vv.cell? ⟨h.p, 13, none⟩ = some Value.nilFunc := d13o.trans (congrArg some hdn)
                                  have HN := Lib.hid hjn
                                  clear hjn hdn d13o
                                  have hneq := neq_nilF
                                  go_wp2_with fail
                                  go_roundw
                                  case rel => exact ⟨j + 1, (j : Int), s4, G1, HG1.out, hlt, by simp, at_step HX.out.2.2.1 HX.out.1 HS2.out, (from_good hlt HX.out.1 HS2.out).symm.trans HX.out.2.1, HK4.out.2, (HK4.out.1.unzone).less (by omega), HP4.out, HN.out j _ _ HJ4.out, HC4.out⟩
                                  case measure => simp [intOf]; omega
                                · have d13 : vv.cell? ⟨h.p, 13, none⟩ = some (Value.func (.func fd) #[] envd) := d13o.trans (congrArg some hdn)
                                  have hcall := hcall j _ _ x s.stack s4 (hzD (h.own G1) w.heap.size (j : Int) g) _ HJ4.out HX.out.2.2.1 HX.out.1 HS2.out rfl rfl rfl (fun b hb => .inl (.inl hb)) (fun b hb hk => by have := HG1.out b hb; have := HH.out.2.1 b hk; omega) HK4.out.1
                                  clear hdn d13o
                                  have hneq := neq_funF fd envd
                                  go_wp2_with fail
                                  refine hcall.mono fun e vd hh => ?_
                                  obtain ⟨rfl, hcd, G2, hjd, hg1, hg2⟩ := hh
                                  have hz2 : CkI (hzD (h.own G2) w.heap.size (j : Int) g) _ vd s4 := HK4.out.1.grow hcd (fun b t hm => ⟨.inl (.inl (hm.1.imp (cl.sub b) id)), hm.2⟩) _ (fun b hb => by
                                    rcases hb with ((hb | hb) | hb) | hb
                                    · exact .inl (.inl (.inl hb))
                                    · exact .inl (.inl (.inr (hg1 b hb)))
                                    · exact .inl (.inr hb)
                                    · exact .inr hb) (fun b hb => by
                                    rcases hb with ((hb | hb) | hb) | hb
                                    · exact .inl (.inl (.inl (.inl hb)))
                                    · rcases hg2 b hb with hb | hb
                                      · exact .inl (.inl (.inl (.inr hb)))
                                      · exact .inr hb
                                    · exact .inl (.inl (.inr hb))
                                    · exact .inl (.inr hb))
                                  have HG2 := Lib.hid (fun b (hb : G2 b) => show w.heap.size < b from (hg2 b hb).elim (HG1.out b) fun e => by have := HP4.out.lt; omega)
                                  have HD := Lib.hid (And.intro hjd (And.intro hcd hz2))
                                  clear hjd hcd hcall hz2 hg1 hg2
                                  go_wp2_with fail
                                  go_roundw
                                  case rel => exact ⟨j + 1, (j : Int), s4, G2, HG2.out, hlt, by simp, at_step HX.out.2.2.1 HX.out.1 HS2.out, (from_good hlt HX.out.1 HS2.out).symm.trans HX.out.2.1, HK4.out.2, (HD.out.2.2.unzone).less (by omega), HP4.out.keep HD.out.2.1 (fun hm => hm.1.elim (fun h0 => HH.out.2.2.2.1 (cl.sub _ h0)) fun hg => Nat.lt_irrefl _ (HG1.out _ hg)), HD.out.1, HC4.out.trans (HD.out.2.1.jMB fun b hb => ⟨by have := HG1.out b hb; have := HH.out.1.2; omega, fun hk => by have := HG1.out b hb; have := HH.out.2.1 b hk; omega⟩)⟩
                                  case measure => simp [intOf]; omega
                            · have GB := Lib.hid hb
                              have SBX := Lib.hid (step_end (x := x) HT.out HS.out (show (decide ((j : Int) + 1 < (h.f.code.length : Int)) || endsB x.op) = true by rw [GB.out]; rfl))
                              go_wp2_with fail
                              refine (need_any (hzD (h.own G1) w.heap.size (j : Int) g) _ true HK4.out.1.fix.d7).mono fun e vv hp => ?_
                              obtain ⟨rfl, hvv⟩ := hp.ok rfl
                              subst hvv
                              clear hp
                              have HS2 := Lib.hid (show stepN h.m h.f j x s.stack = some s4 from SBX.out)
                              have d13o : vv.cell? ⟨h.p, 13, none⟩ = some h.dn := HK4.out.1.d13.1
                              rcases cl.next with ⟨hdn, hjn⟩ | ⟨fd, envd, hdn, hent2, hcall⟩
                              · have d13 : vv.cell? ⟨h.p, 13, none⟩ = some Value.nilFunc := d13o.trans (congrArg some hdn)
                                have HN := Lib.hid hjn
                                clear hjn hdn d13o
                                have hneq := neq_nilF
                                go_wp2_with fail
                                go_roundw
                                case rel => exact ⟨j + 1, (j : Int), s4, G1, HG1.out, hlt, by simp, at_step HX.out.2.2.1 HX.out.1 HS2.out, (from_good hlt HX.out.1 HS2.out).symm.trans HX.out.2.1, HK4.out.2, (HK4.out.1.unzone).less (by omega), HP4.out, HN.out j _ _ HJ4.out, HC4.out⟩
                                case measure => simp [intOf]; omega
                              · have d13 : vv.cell? ⟨h.p, 13, none⟩ = some (Value.func (.func fd) #[] envd) := d13o.trans (congrArg some hdn)
                                have hcall := hcall j _ _ x s.stack s4 (hzD (h.own G1) w.heap.size (j : Int) g) _ HJ4.out HX.out.2.2.1 HX.out.1 HS2.out rfl rfl rfl (fun b hb => .inl (.inl hb)) (fun b hb hk => by have := HG1.out b hb; have := HH.out.2.1 b hk; omega) HK4.out.1
                                clear hdn d13o
                                have hneq := neq_funF fd envd
                                go_wp2_with fail
                                refine hcall.mono fun e vd hh => ?_
                                obtain ⟨rfl, hcd, G2, hjd, hg1, hg2⟩ := hh
                                have hz2 : CkI (hzD (h.own G2) w.heap.size (j : Int) g) _ vd s4 := HK4.out.1.grow hcd (fun b t hm => ⟨.inl (.inl (hm.1.imp (cl.sub b) id)), hm.2⟩) _ (fun b hb => by
                                  rcases hb with ((hb | hb) | hb) | hb
                                  · exact .inl (.inl (.inl hb))
                                  · exact .inl (.inl (.inr (hg1 b hb)))
                                  · exact .inl (.inr hb)
                                  · exact .inr hb) (fun b hb => by
                                  rcases hb with ((hb | hb) | hb) | hb
                                  · exact .inl (.inl (.inl (.inl hb)))
                                  · rcases hg2 b hb with hb | hb
                                    · exact .inl (.inl (.inl (.inr hb)))
                                    · exact .inr hb
                                  · exact .inl (.inl (.inr hb))
                                  · exact .inl (.inr hb))
                                have HG2 := Lib.hid (fun b (hb : G2 b) => show w.heap.size < b from (hg2 b hb).elim (HG1.out b) fun e => by have := HP4.out.lt; omega)
                                have HD := Lib.hid (And.intro hjd (And.intro hcd hz2))
                                clear hjd hcd hcall hz2 hg1 hg2
                                go_wp2_with fail
                                go_roundw
                                case rel => exact ⟨j + 1, (j : Int), s4, G2, HG2.out, hlt, by simp, at_step HX.out.2.2.1 HX.out.1 HS2.out, (from_good hlt HX.out.1 HS2.out).symm.trans HX.out.2.1, HK4.out.2, (HD.out.2.2.unzone).less (by omega), HP4.out.keep HD.out.2.1 (fun hm => hm.1.elim (fun h0 => HH.out.2.2.2.1 (cl.sub _ h0)) fun hg => Nat.lt_irrefl _ (HG1.out _ hg)), HD.out.1, HC4.out.trans (HD.out.2.1.jMB fun b hb => ⟨by have := HG1.out b hb; have := HH.out.1.2; omega, fun hk => by have := HG1.out b hb; have := HH.out.2.1 b hk; omega⟩)⟩
                                case measure => simp [intOf]; omega
                      · obtain ⟨rfl, hk, hv, hc⟩ := hh.some_ hq
                        have EQ1 := Lib.hid hq
                        have HK3 := Lib.hid (And.intro hk hv)
                        have HC3 := Lib.hid (HC2.out.trans hc.hz.owned.toMB)
                        have HC3w := Lib.hid (HC2w.out.trans hc.hz.owned.toMB)
                        have HJ3 := Lib.hid (cl.keep2 j _ _ _ HJ2.out hc.hz)
                        have HP3 := Lib.hid (HP2.out.keep hc (fun hm => hm.2 (.inl (.inr rfl))))
                        have HB3 := Lib.hid (hc.zblk HB2.out)
                        clear hh hq hk hv hc z0 z1 z2 z3 z4
                        have HS := Lib.hid (show opsN h.m h.f x ⟨s.stack, [], []⟩ = some (true, s3) from (by simp only [opsN, orN, EQ0.out, EQ1.out, Option.bind_some, Option.bind_none, if_true, if_false, Bool.false_eq_true]))
                        go_wp2_with fail
                        refine (need_any (hzD (h.own G1) w.heap.size (j : Int) g) n3 true HK3.out.1.fix.d7).mono fun e vv hp => ?_
                        obtain ⟨rfl, hvv⟩ := hp.ok rfl
                        subst hvv
                        clear hp
                        have zz : vv.cell? ⟨g, 0, none⟩ = some (.int .i64 x.op) := by simpa using HB3.out.cell 0
                        have e6 : vv.cell? ⟨h.p, 6, none⟩ = some (.slice (some ⟨cb, co, none⟩) h.f.code.length h.c5) := by rw [← HX.out.2.2.2.1]; exact HK3.out.1.fix.d6
                        cases hb : decide ((j : Int) + 1 < (h.f.code.length : Int))
                        · have GB := Lib.hid hb
                          go_wp2_with fail
                          refine (last_any _ x.op).mono fun e vl hl => ?_
                          obtain ⟨rfl, hvl⟩ := hl
                          subst hvl
                          cases he : endsB x.op
                          · have GE := Lib.hid he
                            have SBX := Lib.hid (step_end (x := x) HT.out HS.out (show (decide ((j : Int) + 1 < (h.f.code.length : Int)) || endsB x.op) = false by rw [GB.out, GE.out]; rfl))
                            go_wp2_with fail
                            refine (need_any (hzD (h.own G1) w.heap.size (j : Int) g) _ false HK3.out.1.fix.d7).mono fun e vv hp => ?_
                            obtain ⟨rfl, hvv⟩ := hp.bad rfl
                            subst hvv
                            go_wp2_with fail
                            exact ⟨rfl, RunRes.bad HC3.out hlt HX.out.1 HX.out.2.1 SBX.out⟩
                          · have GE := Lib.hid he
                            have SBX := Lib.hid (step_end (x := x) HT.out HS.out (show (decide ((j : Int) + 1 < (h.f.code.length : Int)) || endsB x.op) = true by rw [GB.out, GE.out]; rfl))
                            go_wp2_with fail
                            refine (need_any (hzD (h.own G1) w.heap.size (j : Int) g) _ true HK3.out.1.fix.d7).mono fun e vv hp => ?_
                            obtain ⟨rfl, hvv⟩ := hp.ok rfl
                            subst hvv
                            clear hp
                            have HS2 := Lib.hid (show stepN h.m h.f j x s.stack = some s3 from SBX.out)
                            have d13o : vv.cell? ⟨h.p, 13, none⟩ = some h.dn := HK3.out.1.d13.1
                            rcases cl.next with ⟨hdn, hjn⟩ | ⟨fd, envd, hdn, hent2, hcall⟩
                            · have d13 : vv.cell? ⟨h.p, 13, none⟩ = some Value.nilFunc := d13o.trans (congrArg some hdn)
                              have HN := Lib.hid hjn
                              clear hjn hdn d13o
                              have hneq := neq_nilF
                              go_wp2_with fail
                              go_roundw
                              case rel => exact ⟨j + 1, (j : Int), s3, G1, HG1.out, hlt, by simp, at_step HX.out.2.2.1 HX.out.1 HS2.out, (from_good hlt HX.out.1 HS2.out).symm.trans HX.out.2.1, HK3.out.2, (HK3.out.1.unzone).less (by omega), HP3.out, HN.out j _ _ HJ3.out, HC3.out⟩
                              case measure => simp [intOf]; omega
                            · have d13 : vv.cell? ⟨h.p, 13, none⟩ = some (Value.func (.func fd) #[] envd) := d13o.trans (congrArg some hdn)
                              have hcall := hcall j _ _ x s.stack s3 (hzD (h.own G1) w.heap.size (j : Int) g) _ HJ3.out HX.out.2.2.1 HX.out.1 HS2.out rfl rfl rfl (fun b hb => .inl (.inl hb)) (fun b hb hk => by have := HG1.out b hb; have := HH.out.2.1 b hk; omega) HK3.out.1
                              clear hdn d13o
                              have hneq := neq_funF fd envd
                              go_wp2_with fail
                              refine hcall.mono fun e vd hh => ?_
                              obtain ⟨rfl, hcd, G2, hjd, hg1, hg2⟩ := hh
                              have hz2 : CkI (hzD (h.own G2) w.heap.size (j : Int) g) _ vd s3 := HK3.out.1.grow hcd (fun b t hm => ⟨.inl (.inl (hm.1.imp (cl.sub b) id)), hm.2⟩) _ (fun b hb => by
                                rcases hb with ((hb | hb) | hb) | hb
                                · exact .inl (.inl (.inl hb))
                                · exact .inl (.inl (.inr (hg1 b hb)))
                                · exact .inl (.inr hb)
                                · exact .inr hb) (fun b hb => by
                                rcases hb with ((hb | hb) | hb) | hb
                                · exact .inl (.inl (.inl (.inl hb)))
                                · rcases hg2 b hb with hb | hb
                                  · exact .inl (.inl (.inl (.inr hb)))
                                  · exact .inr hb
                                · exact .inl (.inl (.inr hb))
                                · exact .inl (.inr hb))
                              have HG2 := Lib.hid (fun b (hb : G2 b) => show w.heap.size < b from (hg2 b hb).elim (HG1.out b) fun e => by have := HP3.out.lt; omega)
                              have HD := Lib.hid (And.intro hjd (And.intro hcd hz2))
                              clear hjd hcd hcall hz2 hg1 hg2
                              go_wp2_with fail
                              go_roundw
                              case rel => exact ⟨j + 1, (j : Int), s3, G2, HG2.out, hlt, by simp, at_step HX.out.2.2.1 HX.out.1 HS2.out, (from_good hlt HX.out.1 HS2.out).symm.trans HX.out.2.1, HK3.out.2, (HD.out.2.2.unzone).less (by omega), HP3.out.keep HD.out.2.1 (fun hm => hm.1.elim (fun h0 => HH.out.2.2.2.1 (cl.sub _ h0)) fun hg => Nat.lt_irrefl _ (HG1.out _ hg)), HD.out.1, HC3.out.trans (HD.out.2.1.jMB fun b hb => ⟨by have := HG1.out b hb; have := HH.out.1.2; omega, fun hk => by have := HG1.out b hb; have := HH.out.2.1 b hk; omega⟩)⟩
                              case measure => simp [intOf]; omega
                        · have GB := Lib.hid hb
                          have SBX := Lib.hid (step_end (x := x) HT.out HS.out (show (decide ((j : Int) + 1 < (h.f.code.length : Int)) || endsB x.op) = true by rw [GB.out]; rfl))
                          go_wp2_with fail
                          refine (need_any (hzD (h.own G1) w.heap.size (j : Int) g) _ true HK3.out.1.fix.d7).mono fun e vv hp => ?_
                          obtain ⟨rfl, hvv⟩ := hp.ok rfl
                          subst hvv
                          clear hp
                          have HS2 := Lib.hid (show stepN h.m h.f j x s.stack = some s3 from SBX.out)
                          have d13o : vv.cell? ⟨h.p, 13, none⟩ = some h.dn := HK3.out.1.d13.1
                          rcases cl.next with ⟨hdn, hjn⟩ | ⟨fd, envd, hdn, hent2, hcall⟩
                          · have d13 : vv.cell? ⟨h.p, 13, none⟩ = some Value.nilFunc := d13o.trans (congrArg some hdn)
                            have HN := Lib.hid hjn
                            clear hjn hdn d13o
                            have hneq := neq_nilF
                            go_wp2_with fail
                            go_roundw
                            case rel => exact ⟨j + 1, (j : Int), s3, G1, HG1.out, hlt, by simp, at_step HX.out.2.2.1 HX.out.1 HS2.out, (from_good hlt HX.out.1 HS2.out).symm.trans HX.out.2.1, HK3.out.2, (HK3.out.1.unzone).less (by omega), HP3.out, HN.out j _ _ HJ3.out, HC3.out⟩
                            case measure => simp [intOf]; omega
                          · have d13 : vv.cell? ⟨h.p, 13, none⟩ = some (Value.func (.func fd) #[] envd) := d13o.trans (congrArg some hdn)
                            have hcall := hcall j _ _ x s.stack s3 (hzD (h.own G1) w.heap.size (j : Int) g) _ HJ3.out HX.out.2.2.1 HX.out.1 HS2.out rfl rfl rfl (fun b hb => .inl (.inl hb)) (fun b hb hk => by have := HG1.out b hb; have := HH.out.2.1 b hk; omega) HK3.out.1
                            clear hdn d13o
                            have hneq := neq_funF fd envd
                            go_wp2_with fail
                            refine hcall.mono fun e vd hh => ?_
                            obtain ⟨rfl, hcd, G2, hjd, hg1, hg2⟩ := hh
                            have hz2 : CkI (hzD (h.own G2) w.heap.size (j : Int) g) _ vd s3 := HK3.out.1.grow hcd (fun b t hm => ⟨.inl (.inl (hm.1.imp (cl.sub b) id)), hm.2⟩) _ (fun b hb => by
                              rcases hb with ((hb | hb) | hb) | hb
                              · exact .inl (.inl (.inl hb))
                              · exact .inl (.inl (.inr (hg1 b hb)))
                              · exact .inl (.inr hb)
                              · exact .inr hb) (fun b hb => by
                              rcases hb with ((hb | hb) | hb) | hb
                              · exact .inl (.inl (.inl (.inl hb)))
                              · rcases hg2 b hb with hb | hb
                                · exact .inl (.inl (.inl (.inr hb)))
                                · exact .inr hb
                              · exact .inl (.inl (.inr hb))
                              · exact .inl (.inr hb))
                            have HG2 := Lib.hid (fun b (hb : G2 b) => show w.heap.size < b from (hg2 b hb).elim (HG1.out b) fun e => by have := HP3.out.lt; omega)
                            have HD := Lib.hid (And.intro hjd (And.intro hcd hz2))
                            clear hjd hcd hcall hz2 hg1 hg2
                            go_wp2_with fail
                            go_roundw
                            case rel => exact ⟨j + 1, (j : Int), s3, G2, HG2.out, hlt, by simp, at_step HX.out.2.2.1 HX.out.1 HS2.out, (from_good hlt HX.out.1 HS2.out).symm.trans HX.out.2.1, HK3.out.2, (HD.out.2.2.unzone).less (by omega), HP3.out.keep HD.out.2.1 (fun hm => hm.1.elim (fun h0 => HH.out.2.2.2.1 (cl.sub _ h0)) fun hg => Nat.lt_irrefl _ (HG1.out _ hg)), HD.out.1, HC3.out.trans (HD.out.2.1.jMB fun b hb => ⟨by have := HG1.out b hb; have := HH.out.1.2; omega, fun hk => by have := HG1.out b hb; have := HH.out.2.1 b hk; omega⟩)⟩
                            case measure => simp [intOf]; omega
                  · obtain ⟨rfl, hk, hv, hc⟩ := hh.some_ hq
                    have EQ0 := Lib.hid hq
                    have HK2 := Lib.hid (And.intro hk hv)
                    have HC2 := Lib.hid (HC1.out.trans hc.hz.owned.toMB)
                    have HC2w := Lib.hid (HC1w.out.trans hc.hz.owned.toMB)
                    have HJ2 := Lib.hid (cl.keep2 j _ _ _ HJ1.out hc.hz)
                    have HP2 := Lib.hid (HP1.out.keep hc (fun hm => hm.2 (.inl (.inr rfl))))
                    have HB2 := Lib.hid (hc.zblk HB1.out)
                    clear hh hq hk hv hc z0 z1 z2 z3 z4
                    have HS := Lib.hid (show opsN h.m h.f x ⟨s.stack, [], []⟩ = some (true, s2) from (by simp only [opsN, orN, EQ0.out, Option.bind_some, Option.bind_none, if_true, if_false, Bool.false_eq_true]))
                    go_wp2_with fail
                    refine (need_any (hzD (h.own G1) w.heap.size (j : Int) g) n2 true HK2.out.1.fix.d7).mono fun e vv hp => ?_
                    obtain ⟨rfl, hvv⟩ := hp.ok rfl
                    subst hvv
                    clear hp
                    have zz : vv.cell? ⟨g, 0, none⟩ = some (.int .i64 x.op) := by simpa using HB2.out.cell 0
                    have e6 : vv.cell? ⟨h.p, 6, none⟩ = some (.slice (some ⟨cb, co, none⟩) h.f.code.length h.c5) := by rw [← HX.out.2.2.2.1]; exact HK2.out.1.fix.d6
                    cases hb : decide ((j : Int) + 1 < (h.f.code.length : Int))
                    · have GB := Lib.hid hb
                      go_wp2_with fail
                      refine (last_any _ x.op).mono fun e vl hl => ?_
                      obtain ⟨rfl, hvl⟩ := hl
                      subst hvl
                      cases he : endsB x.op
                      · have GE := Lib.hid he
                        have SBX := Lib.hid (step_end (x := x) HT.out HS.out (show (decide ((j : Int) + 1 < (h.f.code.length : Int)) || endsB x.op) = false by rw [GB.out, GE.out]; rfl))
                        go_wp2_with fail
                        refine (need_any (hzD (h.own G1) w.heap.size (j : Int) g) _ false HK2.out.1.fix.d7).mono fun e vv hp => ?_
                        obtain ⟨rfl, hvv⟩ := hp.bad rfl
                        subst hvv
                        go_wp2_with fail
                        exact ⟨rfl, RunRes.bad HC2.out hlt HX.out.1 HX.out.2.1 SBX.out⟩
                      · have GE := Lib.hid he
                        have SBX := Lib.hid (step_end (x := x) HT.out HS.out (show (decide ((j : Int) + 1 < (h.f.code.length : Int)) || endsB x.op) = true by rw [GB.out, GE.out]; rfl))
                        go_wp2_with fail
                        refine (need_any (hzD (h.own G1) w.heap.size (j : Int) g) _ true HK2.out.1.fix.d7).mono fun e vv hp => ?_
                        obtain ⟨rfl, hvv⟩ := hp.ok rfl
                        subst hvv
                        clear hp
                        have HS2 := Lib.hid (show stepN h.m h.f j x s.stack = some s2 from SBX.out)
                        have d13o : vv.cell? ⟨h.p, 13, none⟩ = some h.dn := HK2.out.1.d13.1
                        rcases cl.next with ⟨hdn, hjn⟩ | ⟨fd, envd, hdn, hent2, hcall⟩
                        · have d13 : vv.cell? ⟨h.p, 13, none⟩ = some Value.nilFunc := d13o.trans (congrArg some hdn)
                          have HN := Lib.hid hjn
                          clear hjn hdn d13o
                          have hneq := neq_nilF
                          go_wp2_with fail
                          go_roundw
                          case rel => exact ⟨j + 1, (j : Int), s2, G1, HG1.out, hlt, by simp, at_step HX.out.2.2.1 HX.out.1 HS2.out, (from_good hlt HX.out.1 HS2.out).symm.trans HX.out.2.1, HK2.out.2, (HK2.out.1.unzone).less (by omega), HP2.out, HN.out j _ _ HJ2.out, HC2.out⟩
                          case measure => simp [intOf]; omega
                        · have d13 : vv.cell? ⟨h.p, 13, none⟩ = some (Value.func (.func fd) #[] envd) := d13o.trans (congrArg some hdn)
                          have hcall := hcall j _ _ x s.stack s2 (hzD (h.own G1) w.heap.size (j : Int) g) _ HJ2.out HX.out.2.2.1 HX.out.1 HS2.out rfl rfl rfl (fun b hb => .inl (.inl hb)) (fun b hb hk => by have := HG1.out b hb; have := HH.out.2.1 b hk; omega) HK2.out.1
                          clear hdn d13o
                          have hneq := neq_funF fd envd
                          go_wp2_with fail
                          refine hcall.mono fun e vd hh => ?_
                          obtain ⟨rfl, hcd, G2, hjd, hg1, hg2⟩ := hh
                          have hz2 : CkI (hzD (h.own G2) w.heap.size (j : Int) g) _ vd s2 := HK2.out.1.grow hcd (fun b t hm => ⟨.inl (.inl (hm.1.imp (cl.sub b) id)), hm.2⟩) _ (fun b hb => by
                            rcases hb with ((hb | hb) | hb) | hb
                            · exact .inl (.inl (.inl hb))
                            · exact .inl (.inl (.inr (hg1 b hb)))
                            · exact .inl (.inr hb)
                            · exact .inr hb) (fun b hb => by
                            rcases hb with ((hb | hb) | hb) | hb
                            · exact .inl (.inl (.inl (.inl hb)))
                            · rcases hg2 b hb with hb | hb
                              · exact .inl (.inl (.inl (.inr hb)))
                              · exact .inr hb
                            · exact .inl (.inl (.inr hb))
                            · exact .inl (.inr hb))
                          have HG2 := Lib.hid (fun b (hb : G2 b) => show w.heap.size < b from (hg2 b hb).elim (HG1.out b) fun e => by have := HP2.out.lt; omega)
                          have HD := Lib.hid (And.intro hjd (And.intro hcd hz2))
                          clear hjd hcd hcall hz2 hg1 hg2
                          go_wp2_with fail
                          go_roundw
                          case rel => exact ⟨j + 1, (j : Int), s2, G2, HG2.out, hlt, by simp, at_step HX.out.2.2.1 HX.out.1 HS2.out, (from_good hlt HX.out.1 HS2.out).symm.trans HX.out.2.1, HK2.out.2, (HD.out.2.2.unzone).less (by omega), HP2.out.keep HD.out.2.1 (fun hm => hm.1.elim (fun h0 => HH.out.2.2.2.1 (cl.sub _ h0)) fun hg => Nat.lt_irrefl _ (HG1.out _ hg)), HD.out.1, HC2.out.trans (HD.out.2.1.jMB fun b hb => ⟨by have := HG1.out b hb; have := HH.out.1.2; omega, fun hk => by have := HG1.out b hb; have := HH.out.2.1 b hk; omega⟩)⟩
                          case measure => simp [intOf]; omega
                    · have GB := Lib.hid hb
                      have SBX := Lib.hid (step_end (x := x) HT.out HS.out (show (decide ((j : Int) + 1 < (h.f.code.length : Int)) || endsB x.op) = true by rw [GB.out]; rfl))
                      go_wp2_with fail
                      refine (need_any (hzD (h.own G1) w.heap.size (j : Int) g) _ true HK2.out.1.fix.d7).mono fun e vv hp => ?_
                      obtain ⟨rfl, hvv⟩ := hp.ok rfl
                      subst hvv
                      clear hp
                      have HS2 := Lib.hid (show stepN h.m h.f j x s.stack = some s2 from SBX.out)
                      have d13o : vv.cell? ⟨h.p, 13, none⟩ = some h.dn := HK2.out.1.d13.1
                      rcases cl.next with ⟨hdn, hjn⟩ | ⟨fd, envd, hdn, hent2, hcall⟩
                      · have d13 : vv.cell? ⟨h.p, 13, none⟩ = some Value.nilFunc := d13o.trans (congrArg some hdn)
                        have HN := Lib.hid hjn
                        clear hjn hdn d13o
                        have hneq := neq_nilF
                        go_wp2_with fail
                        go_roundw
                        case rel => exact ⟨j + 1, (j : Int), s2, G1, HG1.out, hlt, by simp, at_step HX.out.2.2.1 HX.out.1 HS2.out, (from_good hlt HX.out.1 HS2.out).symm.trans HX.out.2.1, HK2.out.2, (HK2.out.1.unzone).less (by omega), HP2.out, HN.out j _ _ HJ2.out, HC2.out⟩
                        case measure => simp [intOf]; omega
                      · have d13 : vv.cell? ⟨h.p, 13, none⟩ = some (Value.func (.func fd) #[] envd) := d13o.trans (congrArg some hdn)
                        have hcall := hcall j _ _ x s.stack s2 (hzD (h.own G1) w.heap.size (j : Int) g) _ HJ2.out HX.out.2.2.1 HX.out.1 HS2.out rfl rfl rfl (fun b hb => .inl (.inl hb)) (fun b hb hk => by have := HG1.out b hb; have := HH.out.2.1 b hk; omega) HK2.out.1
                        clear hdn d13o
                        have hneq := neq_funF fd envd
                        go_wp2_with fail
                        refine hcall.mono fun e vd hh => ?_
                        obtain ⟨rfl, hcd, G2, hjd, hg1, hg2⟩ := hh
                        have hz2 : CkI (hzD (h.own G2) w.heap.size (j : Int) g) _ vd s2 := HK2.out.1.grow hcd (fun b t hm => ⟨.inl (.inl (hm.1.imp (cl.sub b) id)), hm.2⟩) _ (fun b hb => by
                          rcases hb with ((hb | hb) | hb) | hb
                          · exact .inl (.inl (.inl hb))
                          · exact .inl (.inl (.inr (hg1 b hb)))
                          · exact .inl (.inr hb)
                          · exact .inr hb) (fun b hb => by
                          rcases hb with ((hb | hb) | hb) | hb
                          · exact .inl (.inl (.inl (.inl hb)))
                          · rcases hg2 b hb with hb | hb
                            · exact .inl (.inl (.inl (.inr hb)))
                            · exact .inr hb
                          · exact .inl (.inl (.inr hb))
                          · exact .inl (.inr hb))
                        have HG2 := Lib.hid (fun b (hb : G2 b) => show w.heap.size < b from (hg2 b hb).elim (HG1.out b) fun e => by have := HP2.out.lt; omega)
                        have HD := Lib.hid (And.intro hjd (And.intro hcd hz2))
                        clear hjd hcd hcall hz2 hg1 hg2
                        go_wp2_with fail
                        go_roundw
                        case rel => exact ⟨j + 1, (j : Int), s2, G2, HG2.out, hlt, by simp, at_step HX.out.2.2.1 HX.out.1 HS2.out, (from_good hlt HX.out.1 HS2.out).symm.trans HX.out.2.1, HK2.out.2, (HD.out.2.2.unzone).less (by omega), HP2.out.keep HD.out.2.1 (fun hm => hm.1.elim (fun h0 => HH.out.2.2.2.1 (cl.sub _ h0)) fun hg => Nat.lt_irrefl _ (HG1.out _ hg)), HD.out.1, HC2.out.trans (HD.out.2.1.jMB fun b hb => ⟨by have := HG1.out b hb; have := HH.out.1.2; omega, fun hk => by have := HG1.out b hb; have := HH.out.2.1 b hk; omega⟩)⟩
                        case measure => simp [intOf]; omega
          · have q1 : decide (j < h.f.code.length) = false := decide_eq_false hlt
            obtain rfl : j = h.f.code.length := by omega
            have hfa : funcAt h.m h.f = -1 := by rw [funcAt_pos HZ0.out, ← hfr, Nat.sub_self]; rfl
            have HE := Lib.hid (And.intro hfa (And.intro hJ (And.intro hch hG)))
            clear hfa hJ hch hat hfr hst hCI hP hG
            go_wp2_with fail
            go_end0
            exact ⟨HE.out.2.2.1, .inl ⟨HE.out.1, rfl, _, HE.out.2.1, HE.out.2.2.2⟩⟩
end Go.Proofs.Ytdegfnejhamejaa

