/-
  What roots reach: the program's mark.
-/
import Derived.Test.YteigopmdhhgnfaaHpMk
import Derived.Test.YteigopmdhhgnfaaHpSet
import Derived.Test.YteigopmdhhgnfaaHpAns
namespace Go.Proofs.Yteigopmdhhgnfaa
open Go.RowKit
set_option linter.unusedVariables false
set_option linter.unusedSimpArgs false

theorem no_letsH (B e : Nat) : Lets (fun _ _ => False) B e := ⟨fun _ _ _ => id, fun _ _ => id⟩
def IntZ (_ : World) (cs : List Value) (x : Int) : Prop := cs = [.int .i64 x]
theorem infoInt : (Try.prog.info? 3).map (fun i => (i.zero, i.size, i.bytes)) = some (some (.int .i64 0), 1, 8) := by kernel_rfl
set_option maxRecDepth 100000 in
theorem cloneI_any (B : Nat) (w : World) (l : List Int) (A : Option Addr) (c : Nat) (hl : SlR B 0 1 IntZ w (.slice A l.length c) l) (hn : l.length ≤ 1048576) :
    Calls Try.prog 45 #[.slice A l.length c] w fun e w' => ∃ A' c', e = .returned (.slice A' l.length c') ∧ RowR w.heap.size 3 1 IntZ w' A' c' l ∧ Chg (fun _ _ => False) w w' := by
  obtain ⟨i0, hi0, hz0, hs0, hb0⟩ := info_parts infoInt
  rcases A with _ | a
  · have h0 : l.length = 0 := by
      obtain ⟨A', c', hv, _, h⟩ := hl
      rcases Nat.eq_zero_or_pos l.length with h0 | h0
      · exact h0
      · obtain ⟨b, o, hA, _⟩ := h h0
        injection hv with hv
        rw [hA] at hv
        cases hv
    have hl0 : l = [] := List.eq_nil_of_length_eq_zero h0
    subst hl0
    have hnil : ∀ w', (binOp .eql 24 (.slice none 0 c) (.slice none 0 0)).run Try.prog w' = .ok (.bool true) w' := fun w' => Lib.run_eql_slice_nil (P := Try.prog) w' 24 3 none 0 c 0 0 Try.underlying24
    go_enter Try.func45, Try.ntmps45
    go_wp2_with fail
    go_ret
    exact ⟨none, 0, rfl, RowR.nil _ _ _ _ _, Chg.refl _ _⟩
  · have hnil : ∀ w', (binOp .eql 24 (.slice (some a) l.length c) (.slice none 0 0)).run Try.prog w' = .ok (.bool false) w' := fun w' => Lib.run_eql_slice_nil (P := Try.prog) w' 24 3 (some a) l.length c 0 0 Try.underlying24
    go_enter Try.func45, Try.ntmps45
    go_wp2_with (at_builtin; go_must (refine wpList_copy_slr rfl (.tmp 5) (.tmp 6) 24 rfl 3 i0 _ 8 Try.underlying24 hi0 hz0 hs0 hb0 rfl (by omega) (some a) l.length c rfl (by simp) rfl hl (fun cs y h => by subst h; intro u hu; simp at hu; subst hu; rfl) (by omega) (by omega) ?_))
    intro A3 c3 w2 yss k1 k2 k3 k4 k5
    have HC := Lib.hid (And.intro (show RowR w.heap.size 3 1 IntZ w2 A3 c3 l from ⟨yss, k1, k2, k3, k4⟩) k5)
    clear k1 k2 k3 k4 k5 hl
    go_wp2
    go_ret
    exact ⟨A3, c3, rfl, HC.out.1, HC.out.2⟩
theorem int_at {w : World} {A : Option Addr} {c k n B : Nat} {l : List Int} (h : SlR B 0 1 IntZ w (.slice A n c) l) (hk : k < l.length) : ∃ b o, A = some ⟨b, o, none⟩ ∧ w.cell? ⟨b, o + k, none⟩ = some (.int .i64 (l.getD k 0)) := by
  obtain ⟨b, o, x, cs, hA, hx, _, rfl, h3⟩ := SlR.at2 h hk
  refine ⟨b, o, hA, ?_⟩
  rw [List.getD_eq_getElem?_getD, hx]
  simpa using h3 0 _ rfl
/-- A row of one's own, its last element taken away. -/
theorem RowR.pop {α : Type} {base e size : Nat} {R : World → List Value → α → Prop} {w : World} {A : Option Addr} {c : Nat} {l : List α} {x : α} (h : RowR base e size R w A c (l ++ [x])) : RowR base e size R w A c l := by
  obtain ⟨xss, ⟨h0, h1⟩, h2, h3, h4⟩ := h
  have hlen : (l ++ [x]).length = l.length + 1 := by simp
  rw [hlen] at h0 h1 h2
  obtain ⟨yss, y, rfl⟩ : ∃ yss y, xss = yss ++ [y] := by
    rcases List.eq_nil_or_concat xss with h | ⟨ys, y, h⟩
    · rw [h] at h2; simp at h2
    · exact ⟨ys, y, by simpa using h⟩
  have h2' : yss.length = l.length := by simpa using h2
  have hy : y.length = size := h3 y (by simp)
  have hf : (yss ++ [y]).flatten = yss.flatten ++ y := by simp
  rw [hf] at h0 h1
  have hyl : yss.flatten.length = l.length * size := by
    rw [List.length_append, hy, Nat.add_mul, Nat.one_mul] at h0
    omega
  refine ⟨yss, ⟨hyl, ?_⟩, h2', fun cs hcs => h3 cs (List.mem_append_left _ hcs), fun k z cs hz hcs => h4 k z cs ?_ ?_⟩
  · rcases h1 with ⟨_, h1⟩ | ⟨g, cap, cur, hv, hg, hb, hnc, hm, hs, ht⟩
    · exact absurd h1 (Nat.succ_ne_zero _)
    · injection hv with hA _ hc
      subst hA hc
      refine .inr ⟨g, c, cur, rfl, hg, hb, by omega, hm, hs, ?_⟩
      have := congrArg (List.take (l.length * size)) ht
      rw [List.take_take, Nat.min_eq_left (Nat.mul_le_mul_right _ (Nat.le_succ _)), List.take_left' hyl] at this
      exact this
  · rw [List.getElem?_append_left (List.getElem?_eq_some_iff.1 hz).1]; exact hz
  · rw [List.getElem?_append_left (List.getElem?_eq_some_iff.1 hcs).1]; exact hcs
/-- What has been seen, as a map. -/
def setI (K : List Nat) : Int → Option Value := fun x => if K.any (fun k => decide ((k : Int) = x)) = true then some (.bool true) else none
theorem setI_in {K : List Nat} {x : Nat} (h : x ∈ K) : setI K x = some (.bool true) := by unfold setI; rw [if_pos (List.any_eq_true.2 ⟨x, h, by simp⟩)]
theorem setI_out {K : List Nat} {x : Nat} (h : x ∉ K) : setI K x = none := by
  unfold setI
  rw [if_neg fun h' => ?_]
  obtain ⟨k, hk, he⟩ := List.any_eq_true.1 h'
  exact h (by rw [show x = k by have := of_decide_eq_true he; omega]; exact hk)
theorem setI_put (K : List Nat) (x : Nat) : updI (setI K) x (.bool true) = setI (x :: K) := by
  funext y
  unfold updI setI
  by_cases h : y = (x : Int)
  · subst h; simp
  · rw [if_neg h]
    have : decide ((x : Int) = y) = false := decide_eq_false fun h' => h h'.symm
    simp [this]
theorem least_ex {P : Nat → Prop} (h : ∃ k, P k) : ∃ k, P k ∧ ∀ j, P j → k ≤ j := by
  obtain ⟨k, hk⟩ := h
  induction k using Nat.strongRecOn with
  | ind k ih =>
    by_cases hj : ∃ j, j < k ∧ P j
    · obtain ⟨j, h1, h2⟩ := hj
      exact ih j h1 h2
    · exact ⟨k, hk, fun j h1 => Nat.le_of_not_lt fun h2 => hj ⟨j, h2, h1⟩⟩
noncomputable def leastN (P : Nat → Prop) : Nat := @dite _ (∃ k, P k ∧ ∀ j, P j → k ≤ j) (Classical.propDecidable _) (fun h => h.choose) fun _ => 0
theorem leastN_spec {P : Nat → Prop} (h : ∃ k, P k) : P (leastN P) ∧ ∀ j, P j → leastN P ≤ j := by
  have h' := least_ex h
  unfold leastN
  rw [dif_pos h']
  exact h'.choose_spec
def MarkRes (S : List ObjD) (roots : List Int) (w : World) (e : Ending) (w' : World) : Prop :=
  (knownO S roots = true → ∃ b K n, e = .returned (.tuple #[.map (some b), .int .i64 0]) ∧ w.heap.size ≤ b ∧ IMap w' b n K.length (setI K) ∧ n ≤ K.length ∧ K.Nodup ∧ ∀ x, x ∈ K ↔ Rch S roots x) ∧
  (knownO S roots = false → e = .returned (.tuple #[.map none, .int .i64 15])) ∧ Chg (fun _ _ => False) w w'
def mkS (b D : Nat) (S : List ObjD) (roots : List Int) (w : World) (v : Value) (wr : World) (k : Nat) : Prop :=
  ∃ K L A c n, MkI S roots K L ∧ v = .slice A L.length c ∧ RowR D 3 1 IntZ wr A c L ∧ IMap wr b n K.length (setI K) ∧ n ≤ K.length ∧ Chg (fun _ _ => False) w wr ∧ k = L.length + restO S K
def mkIn (D : Nat) (o : ObjD) (L : List Int) (w : World) (v i : Value) (wr : World) : Prop :=
  ∃ (j : Nat) (A : Option Addr) (c : Nat), j ≤ o.refs.length ∧ i = .int .i64 j ∧ v = .slice A (L ++ (outsI o j).map fun y : Nat => (y : Int)).length c ∧ RowR D 3 1 IntZ wr A c (L ++ (outsI o j).map fun y : Nat => (y : Int)) ∧ Chg (fun q t => D ≤ q ∧ t = 3) w wr
set_option maxRecDepth 100000 in
set_option maxHeartbeats 8000000 in
theorem hmark_any (G : Nat → Prop) (B : Nat) (w : World) (p m n cnt : Nat) (bo : Nat → Nat) (A : Nat → Option Addr) (c : Nat → Nat) (S : List ObjD) (bud least : Nat) (roots : List Int) (RA : Option Addr) (rc : Nat) (h : HpI G w p m n cnt bo A c S bud least)
    (hr : SlR B 0 1 IntZ w (.slice RA roots.length rc) roots) (hB : B ≤ w.heap.size) (hI : ∀ r ∈ roots, I64 r) (hl : roots.length ≤ 1048576) :
    Calls Try.prog 35 #[.pointer (some ⟨p, 0, none⟩), .slice RA roots.length rc] w (MarkRes S roots w) := by
  obtain ⟨i0, hi0, hz0, hs0, hb0⟩ := info_parts infoInt
  have hmm := @run_makeMap Try.prog
  have hc1 := chg_alloc w (.map #[] 0)
  have hm1 := IMap.made w
  have hcl := cloneI_any B (w.alloc (.map #[] 0)) roots RA rc (SlR.keep hr hc1 (no_letsH _ _) fun _ _ h => h) hl
  have HH := Lib.hid (And.intro h (And.intro hr (And.intro hB (And.intro hI (And.intro hc1 hm1)))))
  clear h hr hB hI hc1 hm1
  go_enter Try.func35, Try.ntmps35
  go_wp2_with fail
  refine hcl.mono fun e w2 h => ?_
  obtain ⟨A1, c1, rfl, hL, hc2⟩ := h
  clear hcl
  rw [World.size_alloc] at hL
  have hcw := HH.out.2.2.2.2.1.trans hc2
  have HC := Lib.hid (And.intro hcw (And.intro hL (HH.out.2.2.2.2.2.keep hc2 id)))
  have hH := HH.out.1.keep hcw fun _ _ _ => id
  have x0 : w2.cell? ⟨p, 0, none⟩ = some (.map (some m)) := by simpa using hH.blk.cell 0
  have HM := Lib.hid hH
  clear hc2 hL hcw hH
  go_wp2_with fail
  go_loopw [21] (fun i wr => ∃ k : Nat, k ≤ roots.length ∧ i = .int .i64 k ∧ (∀ j, j < k → roots.getD j 0 = 0 ∨ (findO S (roots.getD j 0)).isSome = true) ∧ wr = w2) (fun i _ => roots.length - (intOf i).toNat)
  case atStart => exact ⟨0, Nat.zero_le _, rfl, fun j hj => absurd hj (Nat.not_lt_zero _), rfl⟩
  case round =>
    obtain ⟨k, hk, rfl, hkn, rfl⟩ := hrel
    have q3 : IntKind.i64.wrap ((k : Int) + 1) = (k : Int) + 1 := IntWalk.i64_in _ ⟨by omega, by omega⟩
    by_cases hlt : k < roots.length
    · have q1 : decide (k < roots.length) = true := decide_eq_true hlt
      have q2 : (k : Int) < (roots.length : Int) := by omega
      obtain ⟨rb, ro, rfl, z0⟩ := int_at (SlR.keep HH.out.2.1 HC.out.1 (no_letsH _ _) fun _ _ h => h) hlt
      obtain ⟨y, hy⟩ : ∃ y, roots.getD k 0 = y := ⟨_, rfl⟩
      rw [hy] at z0
      have hym : y ∈ roots := by rw [← hy, List.getD_eq_getElem?_getD, List.getElem?_eq_getElem hlt]; exact List.getElem_mem hlt
      have hlo := HM.out.map.look_ok (t := 73) Try.underlying73 rfl (HH.out.2.2.2.1 y hym)
      have HY := Lib.hid (And.intro hy (And.intro hym hkn))
      clear hy hym hkn
      have hfin : (y = 0 ∨ (findO S y).isSome = true) → ∀ j, j < k + 1 → roots.getD j 0 = 0 ∨ (findO S (roots.getD j 0)).isSome = true := fun hh j hj => by
        rcases Nat.lt_or_ge j k with h1 | h1
        · exact HY.out.2.2 j h1
        · rw [show j = k by omega, HY.out.1]
          exact hh
      have HN := Lib.hid hfin
      clear hfin
      cases hq : findO S y with
      | none =>
        rw [hq] at hlo
        simp only [Option.map_none, Option.getD_none, Option.isSome_none] at hlo
        by_cases hy0 : y = 0
        · have q4 : (y != 0) = false := by simp [hy0]
          have HR := Lib.hid (HN.out (.inl hy0))
          clear hq hy0
          go_wp2_with fail
          go_roundw
          case rel => exact ⟨k + 1, hlt, by simp, HR.out, by first | rfl | trivial⟩
          case measure => simp [intOf]; omega
        · have q4 : (y != 0) = true := by simp [hy0]
          have HR := Lib.hid (And.intro hq hy0)
          clear hq hy0
          go_wp2_with fail
          go_ret2
          refine ⟨fun hh => ?_, fun _ => rfl, HC.out.1⟩
          rcases knownO_iff.1 hh y HY.out.2.1 with h1 | h1
          · exact absurd h1 HR.out.2
          · rw [HR.out.1] at h1
            cases h1
      | some x =>
        rw [hq] at hlo
        simp only [Option.map_some, Option.getD_some, Option.isSome_some] at hlo
        have HR := Lib.hid (HN.out (.inr (by rw [hq]; rfl)))
        clear hq
        by_cases hy0 : y = 0
        · have q4 : (y != 0) = false := by simp [hy0]
          clear hy0
          go_wp2_with fail
          go_roundw
          case rel => exact ⟨k + 1, hlt, by simp, HR.out, by first | rfl | trivial⟩
          case measure => simp [intOf]; omega
        · have q4 : (y != 0) = true := by simp [hy0]
          clear hy0
          go_wp2_with fail
          go_roundw
          case rel => exact ⟨k + 1, hlt, by simp, HR.out, by first | rfl | trivial⟩
          case measure => simp [intOf]; omega
    · have q1 : decide (k < roots.length) = false := decide_eq_false hlt
      obtain rfl : k = roots.length := by omega
      have hkw : knownO S roots = true := knownO_iff.2 fun r hr => by
        obtain ⟨j, hj, he⟩ := List.mem_iff_getElem.1 hr
        have := hkn j hj
        rw [List.getD_eq_getElem?_getD, List.getElem?_eq_getElem hj, he] at this
        exact this
      have HK := Lib.hid hkw
      clear hkn hkw
      go_wp2_with fail
      have hst : ∃ k, mkS w.heap.size (w.heap.size + 1) S roots w (.slice A1 roots.length c1) wr k := ⟨_, [], roots, A1, c1, 0, MkI.start HK.out, rfl, HC.out.2.1, HC.out.2.2.ext fun x _ => rfl, Nat.le_refl _, HC.out.1, rfl⟩
      have HS := Lib.hid hst
      clear hst x0
      go_loopw [7] (fun v wr => ∃ k, mkS w.heap.size (w.heap.size + 1) S roots w v wr k) (fun v wr => leastN (mkS w.heap.size (w.heap.size + 1) S roots w v wr))
      case atStart => exact HS.out
      case round =>
        obtain ⟨hsp, hmin⟩ := leastN_spec hrel
        clear hrel hmin
        generalize hms : leastN _ = mz at hsp ⊢
        obtain ⟨K, L, LA, lc, nn, hMk, rfl, hrow, hmap, hnK, hcw, hmz⟩ := hsp
        rcases List.eq_nil_or_concat L with rfl | ⟨L0, y, rfl⟩
        · have HF := Lib.hid (And.intro hMk (And.intro hmap (And.intro hnK hcw)))
          clear hMk hrow hmap hnK hcw hms hmz
          go_wp2_with fail
          go_ret2
          refine ⟨fun _ => ⟨w.heap.size, K, nn, rfl, Nat.le_refl _, HF.out.2.1, HF.out.2.2.1, HF.out.1.nodup, HF.out.1.done HH.out.1.good.pos⟩, fun hh => ?_, HF.out.2.2.2⟩
          rw [HK.out] at hh
          cases hh
        · rw [List.concat_eq_append] at hMk hrow hms hmz ⊢
          have hlen : (L0 ++ [y]).length = L0.length + 1 := by simp
          rw [hlen]
          have hsl := hrow.settleT (R' := IntZ) (by decide) fun _ _ h => h
          have hcap := (SlR.len hsl).2
          rw [hlen] at hcap
          obtain ⟨gb, go, rfl, z0⟩ := int_at hsl (show L0.length < (L0 ++ [y]).length by rw [hlen]; omega)
          have hy : (L0 ++ [y]).getD L0.length 0 = y := by rw [List.getD_eq_getElem?_getD]; simp
          rw [hy] at z0
          have hpop := hrow.pop
          have hcost := hMk.cost
          have hKS := seen_le hMk
          have hSu := len_le_used S
          have hroom := HH.out.1.room
          rw [hlen] at hcost hmz
          have q1 : (0 : Int) < ((L0.length + 1 : Nat) : Int) := by omega
          have q2 : IntKind.i64.wrap (((L0.length + 1 : Nat) : Int) - 1) = (L0.length : Int) := by rw [show (((L0.length + 1 : Nat) : Int) - 1) = (L0.length : Int) by omega]; exact IntWalk.i64_in _ ⟨by omega, by omega⟩
          have q2' : IntKind.i64.wrap ((L0.length : Int) + 1 - 1) = (L0.length : Int) := by rw [show ((L0.length : Int) + 1 - 1) = (L0.length : Int) by omega]; exact IntWalk.i64_in _ ⟨by omega, by omega⟩
          have q4 : IntKind.i64.wrap (L0.length : Int) = (L0.length : Int) := IntWalk.i64_in _ ⟨by omega, by omega⟩
          have q3 : (L0.length : Int) < ((L0.length + 1 : Nat) : Int) := by omega
          have q5 : L0.length ≤ lc := by omega
          have q6 : (L0.length : Int) ≤ (lc : Int) := by omega
          have HF := Lib.hid (And.intro hMk (And.intro hmap (And.intro hnK (And.intro hcw (And.intro hms (And.intro hmz (And.intro hpop (And.intro hcost (And.intro hKS (And.intro hSu (And.intro hroom hcap)))))))))))
          have htodo := hMk.todo y (by simp)
          clear hMk hrow hmap hnK hcw hms hmz hsl hpop hcost hKS hSu hroom hcap hlen hy
          have hmz : leastN (mkS w.heap.size (w.heap.size + 1) S roots w (.slice (some ⟨gb, go, none⟩) (L0.length + 1) lc) wr) = L0.length + 1 + restO S K := by
            have h1 := HF.out.2.2.2.2.1
            rw [show (L0 ++ [y]).length = L0.length + 1 by simp] at h1
            rw [h1]
            exact HF.out.2.2.2.2.2.1
          have HMZ := Lib.hid hmz
          clear hmz
          have hskip : (y = 0 ∨ ∃ x : Nat, y = (x : Int) ∧ x ∈ K) → mkS w.heap.size (w.heap.size + 1) S roots w (.slice (some ⟨gb, go, none⟩) L0.length lc) wr (L0.length + restO S K) := fun hh =>
            ⟨K, L0, some ⟨gb, go, none⟩, lc, nn, HF.out.1.skip hh, rfl, HF.out.2.2.2.2.2.2.1, HF.out.2.1, HF.out.2.2.1, HF.out.2.2.2.1, rfl⟩
          have HSK := Lib.hid hskip
          clear hskip
          by_cases hy0 : y = 0
          · have HY := Lib.hid (HSK.out (.inl hy0))
            have q7 : (y == 0) = true := by simp [hy0]
            clear hy0 htodo
            go_wp2_with fail
            go_roundw
            case rel => exact ⟨_, HY.out⟩
            case measure =>
              refine Nat.lt_of_le_of_lt ((leastN_spec ⟨_, HY.out⟩).2 _ HY.out) ?_
              rw [HMZ.out]
              omega
          · have q7 : (y == 0) = false := by simp [hy0]
            rcases htodo with h0 | ⟨x, rfl, hrx⟩
            · exact absurd h0 hy0
            · obtain ⟨o, ho⟩ := Option.isSome_iff_exists.1 hrx.known
              obtain ⟨hoS, hon⟩ := findO_mem ho
              have htop := HH.out.1.good.top o hoS
              have hxI : I64 (x : Int) := by unfold I64; omega
              have hlk := HF.out.2.1.look (t := 81) (z := .bool false) Try.underlying81 rfl hxI
              by_cases hk : x ∈ K
              · rw [setI_in hk] at hlk
                simp only [Option.getD_some] at hlk
                have HY := Lib.hid (HSK.out (.inr ⟨x, rfl, hk⟩))
                clear hk ho hoS hon htop hxI hrx hy0
                go_wp2_with fail
                go_roundw
                case rel => exact ⟨_, HY.out⟩
                case measure =>
                  refine Nat.lt_of_le_of_lt ((leastN_spec ⟨_, HY.out⟩).2 _ HY.out) ?_
                  rw [HMZ.out]
                  omega
              · rw [setI_out hk] at hlk
                simp only [Option.getD_none] at hlk
                obtain ⟨w6, hmu, hm6, hc6⟩ := HF.out.2.1.put (t := 81) Try.underlying81 (show nn < maxLen by have h1 := HF.out.2.2.1; have h2 := HF.out.2.2.2.2.2.2.2.2; simp only [maxLen]; omega) hxI (.bool true)
                rw [setI_out hk, setI_put] at hm6
                simp only [Option.isSome_none, if_false, Bool.false_eq_true] at hm6
                have hcw6 := HF.out.2.2.2.1.trans_new hc6 fun b t hb h => by have := h.1; omega
                have hH6 := HH.out.1.keep hcw6 fun _ _ _ => id
                have hlo := hH6.map.look (t := 73) (z := .pointer none) Try.underlying73 rfl hxI
                rw [ho] at hlo
                simp only [Option.map_some, Option.getD_some] at hlo
                have x0 : w6.cell? ⟨p, 0, none⟩ = some (.map (some m)) := by simpa using hH6.blk.cell 0
                obtain ⟨A', c', hb, hcells, hmarks, _⟩ := hH6.obj o hoS
                have hlen2 := HH.out.1.good.len o hoS
                have y1 : w6.cell? ⟨bo o.name, 1, none⟩ = some (.slice A' o.refs.length c') := by simpa using hb.cell 1
                have hMark := HF.out.1.mark HH.out.1.good hk ho (by omega)
                have hrow6 := HF.out.2.2.2.2.2.2.1.keep1 hc6 (fun b _ h => absurd h.2 (by decide)) fun _ _ h => h
                have HON := Lib.hid (show o.name = x by omega)
                have HN := Lib.hid (And.intro hMark (And.intro hrow6 (And.intro hm6 (And.intro hcw6 (And.intro hb (And.intro hcells (And.intro hmarks (And.intro hlen2 (And.intro hoS (And.intro hk hc6))))))))))
                clear hMark hrow6 hm6 hcw6 hb hcells hmarks hlen2 hk ho hoS hon htop hxI hrx hy0 hc6 hH6
                go_wp2_with fail
                go_loopw [7, 75] (fun v i wz => mkIn (w.heap.size + 1) o L0 w6 v i wz) (fun _ i _ => o.refs.length - (intOf i).toNat)
                case atStart => exact ⟨0, some ⟨gb, go, none⟩, lc, Nat.zero_le _, rfl, by simp [outsI_zero], by simpa [outsI_zero] using HN.out.2.1, Chg.refl _ _⟩
                case round =>
                  rename World => wz
                  obtain ⟨j, LB, ld, hj, rfl, rfl, hrow, hch⟩ := hrel
                  have hl65 : o.refs.length ≤ 65536 := by have h1 := used_ge HN.out.2.2.2.2.2.2.2.2.1; have h2 := HN.out.2.2.2.2.2.2.2.1; have h3 := HH.out.1.room; omega
                  have q3' : IntKind.i64.wrap ((j : Int) + 1) = (j : Int) + 1 := IntWalk.i64_in _ ⟨by omega, by omega⟩
                  by_cases hlt : j < o.refs.length
                  · have q1' : decide (j < o.refs.length) = true := decide_eq_true hlt
                    have q2x : (j : Int) < (o.refs.length : Int) := by omega
                    obtain ⟨gm, gmo, rfl, z1⟩ := boo_at (HN.out.2.2.2.2.2.2.1.keep1 hch (fun _ _ h => absurd h.2 (by decide)) fun _ _ h => h) hlt
                    have y1w : wz.cell? ⟨bo o.name, 1, none⟩ = some (.slice (some ⟨gm, gmo, none⟩) o.refs.length c') := by simpa using (hch.blk HN.out.2.2.2.2.1 fun h => absurd h.2 (by decide)).cell 1
                    have hsucc := outsI_succ HN.out.2.2.2.2.2.2.2.1 hlt
                    cases hb1 : o.refs.getD j false with
                    | false =>
                      rw [hb1] at z1 hsucc
                      have HR := Lib.hid (And.intro hrow (And.intro hch hsucc))
                      clear hrow hch hsucc hb1
                      go_wp2_with fail
                      go_roundw
                      case rel =>
                        refine ⟨j + 1, LB, ld, hlt, by simp, ?_, ?_, HR.out.2.1⟩
                        · rw [HR.out.2.2]; simp
                        · rw [HR.out.2.2]; simpa using HR.out.1
                      case measure => simp [intOf]; omega
                    | true =>
                      obtain ⟨gc, gco, hA0, z2⟩ := u64_at (HN.out.2.2.2.2.2.1.keep1 hch (fun _ _ h => absurd h.2 (by decide)) fun _ _ h => h) (show j < o.cells.length by have := HN.out.2.2.2.2.2.2.2.1; omega)
                      have y0w : wz.cell? ⟨bo o.name, 0, none⟩ = some (.slice (some ⟨gc, gco, none⟩) o.cells.length (c o.name)) := by rw [← hA0]; simpa using (hch.blk HN.out.2.2.2.2.1 fun h => absurd h.2 (by decide)).cell 0
                      have hmem := outs_mem HN.out.2.2.2.2.2.2.2.1 hlt hb1
                      rw [hb1] at z1 hsucc
                      obtain ⟨v, hv⟩ : ∃ v, o.cells.getD j 0 = v := ⟨_, rfl⟩
                      rw [hv] at z2 hmem hsucc
                      have hv65 : v ≤ 65536 := by
                        rcases HH.out.1.good.closed o HN.out.2.2.2.2.2.2.2.2.1 v hmem with h0 | h0
                        · omega
                        · obtain ⟨o2, ho2, he2⟩ := findO_isSome.1 h0
                          have := HH.out.1.good.top o2 ho2
                          omega
                      have q8 : IntKind.i64.wrap (v : Int) = (v : Int) := IntWalk.i64_in _ ⟨by omega, by omega⟩
                      have q9 : (j : Int) < (o.cells.length : Int) := by have := HN.out.2.2.2.2.2.2.2.1; omega
                      have hDo : ∀ q, OwnB LB (L0 ++ (outsI o j).map fun y : Nat => (y : Int)).length ld q → w.heap.size + 1 ≤ q := fun q hq => (own_blk hrow.choose_spec.1 hq).1
                      have hlen9 : (L0 ++ (outsI o j).map fun y : Nat => (y : Int)).length ≤ 2000000 := by
                        have h1 := HF.out.2.2.2.2.2.2.2.1
                        have h2 := HH.out.1.room
                        have h3 : (outsI o j).length ≤ 65536 := by
                          unfold outsI
                          refine Nat.le_trans (List.length_filterMap_le _ _) ?_
                          rw [List.length_zip, List.length_take, List.length_take]
                          omega
                        simp only [List.length_append, List.length_map]
                        omega
                      have hDz : w.heap.size + 1 ≤ wz.heap.size := by have h1 := HN.out.2.2.1.lt; have h2 := hch.size; omega
                      have HR := Lib.hid (And.intro hrow (And.intro hch (And.intro hsucc (And.intro hDo (And.intro hlen9 hDz)))))
                      clear hrow hch hsucc hb1 hmem hv hv65 hA0 hDo hlen9 hDz
                      go_wp2_with (at_builtin; go_must (refine wpList_push1 rfl (.tmp 81) (.tmp 90) 24 rfl (w.heap.size + 1) 3 i0 _ 1 8 Try.underlying24 hi0 hz0 hs0 hb0 rfl (by omega) IntZ LB ld (L0 ++ (outsI o j).map fun y : Nat => (y : Int)) rfl (by first | rfl | simp) HR.out.1 1 [.int .i64 (v : Int)] (v : Int) (by first | rfl | simp) (by first | rfl | simp) rfl (by intro u hu; simp at hu; subst hu; rfl) rfl (by have := HR.out.2.2.2.2.1; omega) (by omega) HR.out.2.2.2.2.2 (fun _ _ _ _ h => h) ?_))
                      intro A8 c8 w8 hr8 hc8 hp8
                      have HW := Lib.hid (And.intro hr8 (HR.out.2.1.trans (hc8.mono fun q t _ h => ⟨HR.out.2.2.2.1 q (by rw [List.length_append, List.length_map]; exact h.1), h.2⟩)))
                      clear hr8 hc8 hp8
                      go_wp2_with fail
                      go_roundw
                      case rel =>
                        refine ⟨j + 1, A8, c8, hlt, by simp, ?_, ?_, HW.out.2⟩
                        · rw [HR.out.2.2.1]; simp [Nat.add_assoc]
                        · rw [HR.out.2.2.1]
                          have := HW.out.1
                          simp only [if_true, List.map_append, List.map_cons, List.map_nil, ← List.append_assoc] at this ⊢
                          exact this
                      case measure => simp [intOf]; omega
                  · have q1' : decide (j < o.refs.length) = false := decide_eq_false hlt
                    obtain rfl : j = o.refs.length := by omega
                    have hall := outsI_all HN.out.2.2.2.2.2.2.2.1
                    have hfin : mkS w.heap.size (w.heap.size + 1) S roots w (.slice LB (L0 ++ (outsI o o.refs.length).map fun y : Nat => (y : Int)).length ld) wz ((L0 ++ (outsO o).map fun y : Nat => (y : Int)).length + restO S (x :: K)) := by
                      rw [hall] at hrow ⊢
                      exact ⟨x :: K, L0 ++ (outsO o).map fun y : Nat => (y : Int), LB, ld, nn + 1, HN.out.1, rfl, hrow, HN.out.2.2.1.keep hch fun h => absurd h.2 (by decide), Nat.succ_le_succ HF.out.2.2.1, HN.out.2.2.2.1.trans_new hch fun b t hb h => by have := h.1; omega, rfl⟩
                    have hadd : restO S (x :: K) + (outsO o).length = restO S K := by
                      have h1 := rest_add HH.out.1.good.sorted HN.out.2.2.2.2.2.2.2.2.1 (K := K)
                      have h2 : o.name = x := HON.out
                      rw [h2] at h1
                      exact h1 HN.out.2.2.2.2.2.2.2.2.2.1
                    have HY := Lib.hid (And.intro hfin hadd)
                    clear hrow hch hfin hall hadd
                    go_wp2_with fail
                    go_roundw
                    case rel => exact ⟨_, HY.out.1⟩
                    case measure =>
                      refine Nat.lt_of_le_of_lt ((leastN_spec ⟨_, HY.out.1⟩).2 _ HY.out.1) ?_
                      rw [HMZ.out]
                      have := HY.out.2
                      simp only [List.length_append, List.length_map]
                      omega
end Go.Proofs.Yteigopmdhhgnfaa
