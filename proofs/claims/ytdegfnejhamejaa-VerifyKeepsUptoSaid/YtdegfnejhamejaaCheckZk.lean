/-
  code.Check: is a module formed?
-/
import Derived.Test.YtdegfnejhamejaaMeasZk
import Derived.Test.YtdegfnejhamejaaSame1Zk
namespace Go.Proofs.Ytdegfnejhamejaa
open Go.RowKit
set_option linter.unusedVariables false
set_option linter.unusedSimpArgs false

def outT (nt : Nat) (x : Int) : Bool := decide (x < 0) || decide ((nt : Int) ≤ x)
set_option maxRecDepth 100000 in
theorem check11_any (w : World) (g nt c : Nat) (A : Option Addr) (u : Value) (x : Int) (hb : Blk w g 25 #[.slice A nt c, u]) :
    Calls Try.prog 24 #[.int .i64 x, .pointer (some ⟨g, 0, none⟩)] w (BoolRes (outT nt x) w) := by
  obtain ⟨d0, d1⟩ := hb.cells2
  by_cases h1 : x < 0
  · go_enter Try.func24, Try.ntmps24
    go_wp2_with fail
    go_ret
    exact BoolRes.of (b := true) ⟨rfl, Chg.refl _ _⟩ (by simp [outT, h1])
  · by_cases h2 : (nt : Int) ≤ x
    · go_enter Try.func24, Try.ntmps24
      go_wp2_with fail
      go_ret
      exact BoolRes.of (b := true) ⟨rfl, Chg.refl _ _⟩ (by simp [outT, h2])
    · have H1 := Lib.hid h1
      have H2 := Lib.hid h2
      go_enter Try.func24, Try.ntmps24
      go_wp2_with fail
      go_ret
      exact BoolRes.of (b := false) ⟨rfl, Chg.refl _ _⟩ (by have a := H1.out; have b := H2.out; simp only [outT]; rw [decide_eq_false (by omega), decide_eq_false (by omega)]; rfl)
def IdxRes (b : Bool) (w : World) (e : Ending) (w' : World) : Prop := ∃ j : Int, e = .returned (.int .i64 j) ∧ decide (0 ≤ j) = b ∧ Chg (fun _ _ => False) w w'
def idxRel (nt : Nat) (w : World) (l : List Int) (i : Value) (wr : World) : Prop := ∃ k : Nat, k ≤ l.length ∧ i = .int .i64 k ∧ (l.take k).any (outT nt) = false ∧ Chg (fun _ _ => False) w wr
theorem any_at {f : Int → Bool} {l : List Int} {k : Nat} {x : Int} (h : l[k]? = some x) (hf : f x = true) : l.any f = true := by
  rw [List.any_eq_true]; exact ⟨x, List.mem_of_getElem? h, hf⟩
theorem any_snoc {f : Int → Bool} {l : List Int} {k : Nat} {x : Int} (h : l[k]? = some x) (hf : f x = false) (ht : (l.take k).any f = false) : (l.take (k + 1)).any f = false := by
  rw [List.take_add_one, h, List.any_append, ht]; simp [hf]
set_option maxRecDepth 100000 in
theorem idxInt_any (w : World) (B g nt c : Nat) (A : Option Addr) (u : Value) (A1 : Option Addr) (c1 : Nat) (l : List Int) (hb : Blk w g 25 #[.slice A nt c, u]) (hl : IntsR B w (.slice A1 l.length c1) l) (hn : l.length ≤ 1099511627776) :
    Calls Try.prog 51 #[.slice A1 l.length c1, .func (.func 24) #[] #[.pointer (some ⟨g, 0, none⟩)]] w (IdxRes (l.any (outT nt)) w) := by
  have HB := Lib.hid hb
  clear hb
  go_enter Try.func51, Try.ntmps51
  go_wp2_with fail
  go_loopw [8] (fun i wr => idxRel nt w l i wr) (fun i _ => l.length - (intOf i).toNat)
  case atStart => exact ⟨0, Nat.zero_le _, rfl, rfl, Chg.refl _ _⟩
  case round =>
    obtain ⟨k, hk, rfl, ht, hch⟩ := hrel
    have Ht := Lib.hid (And.intro ht hch)
    by_cases hlt : k < l.length
    · obtain ⟨b, o, x, rfl, hkx, _, d0⟩ := (hl.keep hch (fun _ _ _ => id)).at_ (k := k) hlt
      have hbl : b < wr.heap.size := World.block_lt_of_cell? wr _ d0
      have hbb := hch.blk HB.out id
      have Hk := Lib.hid (And.intro hkx hbb)
      clear hkx hbb hl ht hch
      cases he : outT nt x
      all_goals
        have He := Lib.hid he
        clear he
        go_wp2_with fail
        refine (check11_any _ g nt c A u x ?_).mono fun e w1 hh => ?_
        · first | exact Hk.out.2 | exact Hk.out.2.alloc _
        replace hh := hh.of He.out
        obtain ⟨rfl, hc1⟩ := hh
        have HC := Lib.hid hc1
        clear hc1
        go_wp2_with fail
      · go_roundw
        case rel => exact ⟨k + 1, hlt, by simp, any_snoc Hk.out.1 He.out Ht.out.1, Ht.out.2.trans HC.out⟩
        case measure => simp [intOf]; omega
      · go_ret
        exact ⟨k, rfl, by rw [any_at Hk.out.1 He.out]; simp, Ht.out.2.trans HC.out⟩
    · clear hl ht hch
      go_wp2_with fail
      go_ret
      have h1 := Ht.out.1
      rw [List.take_of_length_le (by omega)] at h1
      exact ⟨-1, rfl, by rw [h1]; rfl, Ht.out.2⟩
set_option maxRecDepth 100000 in
theorem contInt_any (w : World) (B g nt c : Nat) (A : Option Addr) (u : Value) (A1 : Option Addr) (c1 : Nat) (l : List Int) (hb : Blk w g 25 #[.slice A nt c, u]) (hl : IntsR B w (.slice A1 l.length c1) l) (hn : l.length ≤ 1099511627776) :
    Calls Try.prog 23 #[.slice A1 l.length c1, .func (.func 24) #[] #[.pointer (some ⟨g, 0, none⟩)]] w (BoolRes (l.any (outT nt)) w) := by
  go_enter Try.func23, Try.ntmps23
  go_wp2_with fail
  refine (idxInt_any w B g nt c A u A1 c1 l hb hl hn).mono fun e w1 hh => ?_
  obtain ⟨j, rfl, hj, hc⟩ := hh
  have HJ := Lib.hid (And.intro hj hc)
  clear hb hl hj hc
  go_wp2_with fail
  go_ret
  exact BoolRes.of (b := decide (0 ≤ j)) ⟨rfl, HJ.out.2⟩ HJ.out.1
theorem any_parts (nt : Nat) (l : List Int) : l.any (outT nt) = !partsIn nt l := by
  unfold partsIn
  rw [List.any_eq_not_all_not]
  congr 1
  apply List.all_congr rfl
  intro x
  by_cases h1 : x < 0 <;> by_cases h2 : (nt : Int) ≤ x <;> simp [outT, h1, h2] <;> omega
set_option maxRecDepth 100000 in
theorem check1_any (w : World) (B g nt c : Nat) (A : Option Addr) (u : Value) (A1 : Option Addr) (c1 : Nat) (l : List Int) (hb : Blk w g 25 #[.slice A nt c, u]) (hl : IntsR B w (.slice A1 l.length c1) l) (hn : l.length ≤ 1099511627776) :
    Calls Try.prog 22 #[.slice A1 l.length c1, .pointer (some ⟨g, 0, none⟩)] w (BoolRes (idsOk nt l) w) := by
  by_cases h1 : (l.length : Int) ≤ 1024
  · have H1 := Lib.hid h1
    go_enter Try.func22, Try.ntmps22
    go_wp2_with fail
    refine (contInt_any w B g nt c A u A1 c1 l hb hl hn).mono fun e w1 hh => ?_
    obtain ⟨rfl, hc⟩ := hh
    have HC := Lib.hid hc
    clear hc hb hl
    rw [any_parts]
    cases hp : partsIn nt l
    all_goals
      have HP := Lib.hid hp
      clear hp
      go_wp2_with fail
      go_ret
      exact BoolRes.of ⟨rfl, HC.out⟩ (by have := H1.out; unfold idsOk; rw [HP.out, decide_eq_true (show l.length ≤ 1024 by omega)]; simp)
  · have H1 := Lib.hid h1
    go_enter Try.func22, Try.ntmps22
    go_wp2_with fail
    go_ret
    exact BoolRes.of (b := false) ⟨rfl, Chg.refl _ _⟩ (by have := H1.out; unfold idsOk; rw [decide_eq_false (show ¬ l.length ≤ 1024 by omega)]; rfl)

def checkRel (w2 : World) (m : ModD) (ok0 : Bool) (v z i : Value) (wr : World) : Prop :=
  ∃ k : Nat, k ≤ m.funcs.length ∧ i = .int .i64 k ∧ v = .bool (ok0 && (m.funcs.take k).all (funcOk m.types.length)) ∧ z = .int .i64 (codeAll (m.funcs.take k) : Nat) ∧ Chg (fun _ _ => False) w2 wr
theorem all_take {f : FuncD → Bool} {l : List FuncD} {k : Nat} {x : FuncD} (h : l[k]? = some x) : (l.take (k + 1)).all f = ((l.take k).all f && f x) := by
  rw [List.take_add_one, h, List.all_append]; simp
theorem codeAll_take {l : List FuncD} {k : Nat} {x : FuncD} (h : l[k]? = some x) : codeAll (l.take (k + 1)) = codeAll (l.take k) + x.code.length := by
  rw [List.take_add_one, h]; simp [codeAll]
theorem codeAll_le : ∀ l : List FuncD, codeAll l ≤ (l.map cFunc).sum
  | [] => by simp [codeAll]
  | x :: l => by
    have := codeAll_le l
    have := len_le_sum cInstr (fun _ => by unfold cInstr; omega) x.code
    simp only [codeAll, List.map_cons, List.sum_cons, cFunc] at *
    omega
theorem codeAll_take_le (l : List FuncD) (k : Nat) : codeAll (l.take k) ≤ codeAll l := by
  have : l = l.take k ++ l.drop k := (List.take_append_drop k l).symm
  have h : codeAll l = codeAll (l.take k) + codeAll (l.drop k) := by
    conv => lhs; rw [this]
    simp only [codeAll, List.map_append, List.sum_append]
  omega
theorem sum_le_of' {l : List FuncD} {k : Nat} {x : FuncD} {N : Nat} (h : l[k]? = some x) (hl : (l.map cFunc).sum ≤ N) : cFunc x ≤ N := by have := sum_at cFunc h; omega
theorem func_lens {x : FuncD} {N : Nat} (h : cFunc x ≤ N) : x.locals.length ≤ N ∧ x.caps.length ≤ N ∧ x.code.length ≤ N := by
  have h1 := len_le_sum cInstr (fun _ => by unfold cInstr; omega) x.code
  have h2 := len_le_sum (fun _ : Int => 10) (fun _ => by omega) x.locals
  have h3 := len_le_sum (fun _ : Int => 10) (fun _ => by omega) x.caps
  simp only [cFunc, cInts] at h
  omega
def CheckRes (m : ModD) (w : World) (e : Ending) (w' : World) : Prop := e = .returned (.int .i64 (if formedMod m = true then 0 else 1)) ∧ Chg (fun _ _ => False) w w'
theorem CheckRes.of {m : ModD} {w w' : World} {e : Ending} (hc : Chg (fun _ _ => False) w w') (h : (formedMod m = false ∧ e = .returned (.int .i64 1)) ∨ (formedMod m = true ∧ e = .returned (.int .i64 0))) : CheckRes m w e w' := by
  rcases h with ⟨h, rfl⟩ | ⟨h, rfl⟩ <;> exact ⟨by rw [h]; rfl, hc⟩
section
variable {m : ModD} {ok0 : Bool}
theorem formed_eq (h : ok0 = ((widths m.types).isSome && decide (m.types.length ≤ 256))) : formedMod m = (ok0 && m.funcs.all (funcOk m.types.length) && decide (1 ≤ m.funcs.length) && decide (m.funcs.length ≤ 256) && decide (codeAll m.funcs ≤ 65536)) := by
  subst h; rfl
theorem formed_bad (h : ok0 = ((widths m.types).isSome && decide (m.types.length ≤ 256))) (h2 : (ok0 && m.funcs.all (funcOk m.types.length)) = false) : formedMod m = false := by rw [formed_eq h, h2]; rfl
theorem formed_few (h : m.funcs.length < 1) : formedMod m = false := by unfold formedMod; rw [decide_eq_false (p := 1 ≤ m.funcs.length) (by omega)]; simp
theorem formed_many (h : 256 < m.funcs.length) : formedMod m = false := by unfold formedMod; rw [decide_eq_false (p := m.funcs.length ≤ 256) (by omega)]; simp
theorem formed_long (h : 65536 < codeAll m.funcs) : formedMod m = false := by unfold formedMod; rw [decide_eq_false (p := codeAll m.funcs ≤ 65536) (by omega)]; simp
theorem formed_good (h : ok0 = ((widths m.types).isSome && decide (m.types.length ≤ 256))) (h2 : (ok0 && m.funcs.all (funcOk m.types.length)) = true) (h3 : 1 ≤ m.funcs.length) (h4 : m.funcs.length ≤ 256) (h5 : codeAll m.funcs ≤ 65536) : formedMod m = true := by
  rw [formed_eq h, h2, decide_eq_true h3, decide_eq_true h4, decide_eq_true h5]; rfl
end
set_option maxRecDepth 100000 in
set_option maxHeartbeats 1000000 in
theorem check_any (w : World) (B : Nat) (v : Value) (m : ModD) (hBw : B ≤ w.heap.size) (hm : ModR B w v m) (hn : cMod m ≤ 1099511627776) :
    Calls Try.prog 11 #[v] w (CheckRes m w) := by
  obtain ⟨A, c, A', c', rfl, hT, hF⟩ := hm
  have hm0 : ModR B w (.agg #[.slice A m.types.length c, .slice A' m.funcs.length c']) m := ⟨A, c, A', c', rfl, hT, hF⟩
  have hb0 := Blk.new w 25 #[.slice A m.types.length c, .slice A' m.funcs.length c']
  have hc0 := chg_alloc w (.cells #[.slice A m.types.length c, .slice A' m.funcs.length c'] 25)
  have hm1 := hm0.keep hc0 (fun _ _ _ => id)
  go_enter Try.func11, Try.ntmps11
  go_wp2_with fail
  refine (measure_any _ B _ m (by simp; omega) hm1 hn).mono fun e w2 hh => ?_
  obtain ⟨hbel, hh⟩ := hh
  have hc2 := Chg.of_below hbel (fun _ _ => False)
  obtain ⟨ok0, V, rfl, hok⟩ : ∃ (ok0 : Bool) (V : Value), e = .returned (.tuple #[V, .bool ok0]) ∧ ok0 = ((widths m.types).isSome && decide (m.types.length ≤ 256)) := by
    cases hwd : widths m.types with
    | none => rw [hwd] at hh; exact ⟨_, _, hh, rfl⟩
    | some l =>
      rw [hwd] at hh
      obtain ⟨A5, c5, h, _⟩ := hh
      exact ⟨_, _, h, by simp; omega⟩
  have hb2 := hc2.blk hb0 id
  obtain ⟨e0, e1⟩ := hb2.cells2
  have HW := Lib.hid (And.intro hok (And.intro (hc0.trans hc2) hb2))
  have HF := Lib.hid (hF.keep (hc0.trans hc2) (fun _ _ _ => id))
  clear hbel hh hc2 hok hb0 hc0 hm1 hm0 hT hF hb2
  go_wp2_with fail
  have hsum := codeAll_le m.funcs
  have hcm : (m.funcs.map cFunc).sum ≤ 1099511627776 := by unfold cMod at hn; omega
  have hnf : m.funcs.length ≤ 1099511627776 := by have := len_le_sum cFunc (fun _ => by unfold cFunc cInts; omega) m.funcs; omega
  go_loopw [4, 5, 18] (fun v z i wr => checkRel w2 m ok0 v z i wr) (fun _ _ i _ => m.funcs.length - (intOf i).toNat)
  case atStart => exact ⟨0, Nat.zero_le _, rfl, by simp, rfl, Chg.refl _ _⟩
  case round =>
    obtain ⟨k, hk, rfl, rfl, rfl, hch⟩ := hrel
    obtain ⟨sm, hsm⟩ : ∃ sm, codeAll (m.funcs.take k) = sm := ⟨_, rfl⟩
    obtain ⟨ov, hov⟩ : ∃ ov, (ok0 && (m.funcs.take k).all (funcOk m.types.length)) = ov := ⟨_, rfl⟩
    have hsml := codeAll_take_le m.funcs k
    rw [hsm] at hsml ⊢
    rw [hov]
    have hbw := hch.blk HW.out.2.2 id
    obtain ⟨e0, e1⟩ := hbw.cells2
    obtain ⟨wo, rfl⟩ : ∃ wo : World, wo = wr := ⟨_, rfl⟩
    by_cases hlt : k < m.funcs.length
    · obtain ⟨bb, o, x, A5, c5, A6, c6, A7, c7, rfl, hkx, _, _, hl1, hl2, hl3, z0, z1, z2, z3, z4⟩ := (HF.out.keep hch (fun _ _ _ => id)).at_ hlt
      have hcx : cFunc x ≤ 1099511627776 := sum_le_of' hkx hcm
      have hll : x.locals.length ≤ 1099511627776 ∧ x.caps.length ≤ 1099511627776 ∧ x.code.length ≤ 1099511627776 := func_lens hcx
      have hbx := Blk.new wo 34 #[.int .i64 x.params, .slice A5 x.locals.length c5, .slice A6 x.caps.length c6, .int .i64 x.res, .slice A7 x.code.length c7]
      have hcb := chg_alloc wo (.cells #[.int .i64 x.params, .slice A5 x.locals.length c5, .slice A6 x.caps.length c6, .int .i64 x.res, .slice A7 x.code.length c7] 34)
      have hzz : wrap64 ((sm : Int) + (x.code.length : Int)) = ((codeAll (m.funcs.take (k + 1)) : Nat) : Int) := by
        rw [codeAll_take hkx, hsm, wrap64_id] <;> omega
      have HZ := Lib.hid hzz
      have HZ2 := Lib.hid (show ((sm : Int) + (x.code.length : Int)) = ((codeAll (m.funcs.take (k + 1)) : Nat) : Int) by rw [codeAll_take hkx, hsm]; omega)
      have Hk := Lib.hid (And.intro hkx (And.intro hov (And.intro hch (And.intro hcb hsml))))
      have HI := Lib.hid (And.intro (hl1.keep hcb (fun _ _ _ => id)) (And.intro (hl2.keep hcb (fun _ _ _ => id)) (And.intro (hbw.alloc (.cells #[.int .i64 x.params, .slice A5 x.locals.length c5, .slice A6 x.caps.length c6, .int .i64 x.res, .slice A7 x.code.length c7] 34)) hbx)))
      have HLL := Lib.hid hll
      clear hkx hov hch hcb hl1 hl2 hl3 hbw hzz hbx hsm hll hsml hcx
      cases ov
      · go_wp2_with fail
        go_roundw
        case rel => exact ⟨k + 1, hlt, by simp, congrArg Value.bool (by rw [all_take Hk.out.1, ← Bool.and_assoc, Hk.out.2.1]; rfl), by first | exact congrArg (Value.int .i64) HZ.out | exact congrArg (Value.int .i64) HZ2.out, Hk.out.2.2.1.trans Hk.out.2.2.2.1⟩
        case measure => simp [intOf]; omega
      · go_wp2_with fail
        refine (check1_any _ B w.heap.size m.types.length c A _ A5 c5 x.locals HI.out.2.2.1 HI.out.1 HLL.out.1).mono fun e w3 hh => ?_
        obtain ⟨rfl, hc3⟩ := hh
        obtain ⟨f0, f1, f2, f3, f4⟩ := (hc3.blk HI.out.2.2.2 id).cells5
        have hm3 := hc3.blk HI.out.2.2.1 id
        have hca := HI.out.2.1.keep hc3 (fun _ _ _ => id)
        obtain ⟨g0, g1⟩ := hm3.cells2
        have H3 := Lib.hid (And.intro hc3 (And.intro hm3 (And.intro hca (hc3.blk HI.out.2.2.2 id))))
        clear hc3 hm3 hca z0 z1 z2 z3 z4 e0 e1
        obtain ⟨p1, hp1⟩ : ∃ p1, idsOk m.types.length x.locals = p1 := ⟨_, rfl⟩
        rw [hp1]
        have HP1 := Lib.hid hp1
        clear hp1
        cases p1
        · go_wp2_with fail
          go_roundw
          case rel => exact ⟨k + 1, hlt, by simp, congrArg Value.bool (by rw [all_take Hk.out.1, ← Bool.and_assoc, Hk.out.2.1]; unfold funcOk; rw [HP1.out]; rfl), by first | exact congrArg (Value.int .i64) HZ.out | exact congrArg (Value.int .i64) HZ2.out, Hk.out.2.2.1.trans (Hk.out.2.2.2.1.trans H3.out.1)⟩
          case measure => simp [intOf]; omega
        · go_wp2_with fail
          refine (check1_any _ B w.heap.size m.types.length c A _ A6 c6 x.caps H3.out.2.1 H3.out.2.2.1 HLL.out.2.1).mono fun e w4 hh => ?_
          obtain ⟨rfl, hc4⟩ := hh
          obtain ⟨f0, f1, f2, f3, f4⟩ := (hc4.blk H3.out.2.2.2 id).cells5
          obtain ⟨g0, g1⟩ := (hc4.blk H3.out.2.1 id).cells2
          have H4 := Lib.hid hc4
          clear hc4
          obtain ⟨p2, hp2⟩ : ∃ p2, idsOk m.types.length x.caps = p2 := ⟨_, rfl⟩
          rw [hp2]
          have HP2 := Lib.hid hp2
          clear hp2
          cases p2
          · go_wp2_with fail
            go_roundw
            case rel => exact ⟨k + 1, hlt, by simp, congrArg Value.bool (by rw [all_take Hk.out.1, ← Bool.and_assoc, Hk.out.2.1]; unfold funcOk; rw [HP1.out, HP2.out]; rfl), by first | exact congrArg (Value.int .i64) HZ.out | exact congrArg (Value.int .i64) HZ2.out, Hk.out.2.2.1.trans (Hk.out.2.2.2.1.trans (H3.out.1.trans H4.out))⟩
            case measure => simp [intOf]; omega
          · by_cases h3 : 0 ≤ x.params
            · by_cases h4 : x.params ≤ (x.locals.length : Int)
              · by_cases h5 : 0 ≤ x.res
                · have HQ := Lib.hid (And.intro h3 (And.intro h4 h5))
                  go_wp2_with fail
                  go_roundw
                  case rel => exact ⟨k + 1, hlt, by simp, congrArg Value.bool (by rw [all_take Hk.out.1, ← Bool.and_assoc, Hk.out.2.1]; have a := HQ.out; unfold funcOk; rw [HP1.out, HP2.out]; rw [decide_eq_true a.1, decide_eq_true a.2.1, decide_eq_true a.2.2]; rfl), by first | exact congrArg (Value.int .i64) HZ.out | exact congrArg (Value.int .i64) HZ2.out, Hk.out.2.2.1.trans (Hk.out.2.2.2.1.trans (H3.out.1.trans H4.out))⟩
                  case measure => simp [intOf]; omega
                · have HQ := Lib.hid h5
                  go_wp2_with fail
                  go_roundw
                  case rel => exact ⟨k + 1, hlt, by simp, congrArg Value.bool (by rw [all_take Hk.out.1, ← Bool.and_assoc, Hk.out.2.1]; have a := HQ.out; unfold funcOk; rw [HP1.out, HP2.out]; rw [decide_eq_false (p := 0 ≤ x.res) (by omega)]; simp), by first | exact congrArg (Value.int .i64) HZ.out | exact congrArg (Value.int .i64) HZ2.out, Hk.out.2.2.1.trans (Hk.out.2.2.2.1.trans (H3.out.1.trans H4.out))⟩
                  case measure => simp [intOf]; omega
              · have HQ := Lib.hid h4
                go_wp2_with fail
                go_roundw
                case rel => exact ⟨k + 1, hlt, by simp, congrArg Value.bool (by rw [all_take Hk.out.1, ← Bool.and_assoc, Hk.out.2.1]; have a := HQ.out; unfold funcOk; rw [HP1.out, HP2.out]; rw [decide_eq_false (p := x.params ≤ (x.locals.length : Int)) (by omega)]; simp), by first | exact congrArg (Value.int .i64) HZ.out | exact congrArg (Value.int .i64) HZ2.out, Hk.out.2.2.1.trans (Hk.out.2.2.2.1.trans (H3.out.1.trans H4.out))⟩
                case measure => simp [intOf]; omega
            · have HQ := Lib.hid h3
              go_wp2_with fail
              go_roundw
              case rel => exact ⟨k + 1, hlt, by simp, congrArg Value.bool (by rw [all_take Hk.out.1, ← Bool.and_assoc, Hk.out.2.1]; have a := HQ.out; unfold funcOk; rw [HP1.out, HP2.out]; rw [decide_eq_false (p := 0 ≤ x.params) (by omega)]; simp), by first | exact congrArg (Value.int .i64) HZ.out | exact congrArg (Value.int .i64) HZ2.out, Hk.out.2.2.1.trans (Hk.out.2.2.2.1.trans (H3.out.1.trans H4.out))⟩
              case measure => simp [intOf]; omega
    · obtain rfl : k = m.funcs.length := by omega
      rw [List.take_length] at hsm hov
      have HH := Lib.hid (And.intro hov (And.intro hsm hch))
      have HK := Lib.hid hk
      clear hov hsm hch hbw hk hlt hsml
      cases ov
      · go_wp2_with fail
        go_ret
        exact CheckRes.of (HW.out.2.1.trans HH.out.2.2) (by have a := HH.out; exact .inl ⟨formed_bad HW.out.1 a.1, rfl⟩)
      · by_cases h1 : (m.funcs.length : Int) < 1
        · have H1 := Lib.hid h1
          go_wp2_with fail
          go_ret
          exact CheckRes.of (HW.out.2.1.trans HH.out.2.2) (by have a := HH.out; exact .inl ⟨formed_few (by have := H1.out; omega), rfl⟩)
        · by_cases h2 : (256 : Int) < (m.funcs.length : Int)
          · have H1 := Lib.hid h2
            go_wp2_with fail
            go_ret
            exact CheckRes.of (HW.out.2.1.trans HH.out.2.2) (by have a := HH.out; exact .inl ⟨formed_many (by have := H1.out; omega), rfl⟩)
          · by_cases h3 : (65536 : Int) < (sm : Int)
            · have H1 := Lib.hid h3
              go_wp2_with fail
              go_ret
              exact CheckRes.of (HW.out.2.1.trans HH.out.2.2) (by have a := HH.out; exact .inl ⟨formed_long (by have := H1.out; omega), rfl⟩)
            · have H1 := Lib.hid (And.intro h1 (And.intro h2 h3))
              go_wp2_with fail
              go_ret
              exact CheckRes.of (HW.out.2.1.trans HH.out.2.2) (by have a := HH.out; exact .inr ⟨formed_good HW.out.1 a.1 (by have := H1.out; omega) (by have := H1.out; omega) (by have := H1.out; omega), rfl⟩)
end Go.Proofs.Ytdegfnejhamejaa
