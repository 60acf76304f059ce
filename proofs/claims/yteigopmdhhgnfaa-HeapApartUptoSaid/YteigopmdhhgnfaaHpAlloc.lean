/-
  Alloc of the program's heap.
-/
import Derived.Test.YteigopmdhhgnfaaHpAlR
namespace Go.Proofs.Yteigopmdhhgnfaa
open Go.RowKit
set_option linter.unusedVariables false
set_option linter.unusedSimpArgs false

def AllocRes (G : Nat → Prop) (p n : Nat) (S : List ObjD) (bud : Nat) (refs : List Bool) (roots : List Int) (w : World) (e : Ending) (w' : World) : Prop :=
  e = .returned (.tuple #[.int .i64 (allocV S bud refs roots).1, .int .i64 (allocV S bud refs roots).2]) ∧ Chg (MH G) w w' ∧
  ∃ (G' : Nat → Prop) (m' n' cnt' : Nat) (bo' : Nat → Nat) (A' : Nat → Option Addr) (c' : Nat → Nat) (least' : Nat), HpI G' w' p m' n' cnt' bo' A' c' (allocT S bud refs roots) bud least' ∧ n' ≤ n + 1 ∧ ∀ b, G' b → G b ∨ w.heap.size ≤ b
set_option maxRecDepth 100000 in
theorem cloneBB_any (B : Nat) (w : World) (l : List Bool) (A : Option Addr) (c : Nat) (hl : SlR B 0 1 BoolV w (.slice A l.length c) l) (hn : l.length ≤ 1048576) :
    Calls Try.prog 33 #[.slice A l.length c] w fun e w' => ∃ A' c', e = .returned (.slice A' l.length c') ∧ RowR w.heap.size 4 1 BoolV w' A' c' l ∧ Chg (fun _ _ => False) w w' := by
  rcases A with _ | a
  · have h0 : l.length = 0 := by
      obtain ⟨A', c', hv, _, h⟩ := hl
      rcases Nat.eq_zero_or_pos l.length with h0 | h0
      · exact h0
      · obtain ⟨b, o, hA, _⟩ := h h0
        injection hv with hv
        rw [hA] at hv
        cases hv
    have hl0 : l = [] := List.eq_nil_of_length_eq_zero h0
    subst hl0
    have hnil : ∀ w', (binOp .eql 23 (.slice none 0 c) (.slice none 0 0)).run Try.prog w' = .ok (.bool true) w' := fun w' => Lib.run_eql_slice_nil (P := Try.prog) w' 23 4 none 0 c 0 0 Try.underlying23
    go_enter Try.func33, Try.ntmps33
    go_wp2_with fail
    go_ret
    exact ⟨none, 0, rfl, RowR.nil _ _ _ _ _, Chg.refl _ _⟩
  · exact cloneB_any B w l a c hl hn
section
variable {a : Act} {w : World} {dst : Option Nat} {ty : TypeId} {pos : String} {af : Array Edge} {g : Option (Nat × Bool)}
theorem exec_mk0 {N : Nat} (x y : Operand) (hx : a.eval x = .int .i64 N) (hy : a.eval y = .int .i64 N) (hN : N ≤ 1048576) : (execOp a.eval { dst := dst, op := .makeSlice 37 x y, type := ty, pos := pos, after := af, guard := g }).run Try.prog w = .ok (.value (.slice (some ⟨w.heap.size, 0, none⟩) N N)) (w.alloc (.cells (madeCells #[.int .u64 (0 : Int)] (N * 1)) 44)) := by
  obtain ⟨i, hi, hz, hs, hb⟩ := info_parts infoU64
  have hr := run_make (P := Try.prog) w 37 44 i _ Try.underlying37 hi hz .i64 .i64 N N (by omega) (by omega) (by rw [hb]; omega) (by omega)
  rw [hs] at hr
  simp only [Int.toNat_natCast] at hr
  unfold execOp
  simp only [hx, hy, Sem.run_bind, hr, Result.andThen_ok, Sem.run_pure]
  rfl
end
/-- What the operations ahead of the store into the map leave. -/
def halF (p m le : Nat) (FA : Option Addr) (fc : Nat) (refs : List Bool) (B0 : Nat) : Nat → (Nat → Value) → Nat × Nat → World → Prop
  | 0, v, _, _ => v 0 = .pointer (some ⟨p, 0, none⟩)
  | 1, v, _, _ => v 1 = .pointer (some ⟨p, 0, none⟩)
  | 2, v, _, _ => v 2 = .pointer (some ⟨p, 0, none⟩)
  | 3, v, _, _ => v 3 = .map (some m)
  | 4, v, _, _ => v 4 = .pointer (some ⟨p, 0, none⟩)
  | 5, v, _, _ => v 5 = .pointer (some ⟨p, 0, none⟩)
  | 6, v, _, _ => v 6 = .pointer (some ⟨p, 3, none⟩)
  | 7, v, _, _ => v 7 = .int .i64 (le : Int)
  | 8, v, _, _ => v 8 = .slice FA refs.length fc
  | 9, v, _, _ => v 9 = .int .i64 (refs.length : Nat)
  | 10, v, _, w => ∃ A c, v 10 = .slice A refs.length c ∧ RowR B0 44 1 U64V w A c (List.replicate refs.length 0)
  | 11, v, _, _ => v 11 = .slice FA refs.length fc
  | 12, v, _, w => ∃ A c, v 12 = .slice A refs.length c ∧ RowR B0 4 1 BooV w A c refs
  | 13, v, _, w => ∃ A c A' c', v 13 = .agg #[.slice A refs.length c, .slice A' refs.length c'] ∧ RowR B0 44 1 U64V w A c (List.replicate refs.length 0) ∧ RowR B0 4 1 BooV w A' c' refs
  | 14, v, _, w => ∃ b A c A' c', v 14 = .pointer (some ⟨b, 0, none⟩) ∧ B0 ≤ b ∧ Blk w b 78 #[.slice A refs.length c, .slice A' refs.length c'] ∧ RowR B0 44 1 U64V w A c (List.replicate refs.length 0) ∧ RowR B0 4 1 BooV w A' c' refs
  | _, _, _, _ => True
theorem halF_dep {p m le : Nat} {FA : Option Addr} {fc : Nat} {refs : List Bool} {B0 : Nat} {md : Region.Mode} {ops : Array Oper} (j : Nat) (val val' : Nat → Value) (r : Nat × Nat) (w : World) (h : val j = val' j) (hk : ∀ k, waitsB md ops j k = true → val k = val' k) (hF : halF p m le FA fc refs B0 j val r w) : halF p m le FA fc refs B0 j val' r w := by
  unfold halF at hF ⊢
  split at hF <;> first | (rw [← h]; exact hF) | trivial
theorem row_keepF {α : Type} {base e size : Nat} {R : World → List Value → α → Prop} {w w' : World} {A : Option Addr} {c : Nat} {l : List α} (h : RowR base e size R w A c l) (hc : Chg (fun _ _ => False) w w') (hR : ∀ cs x, R w cs x → R w' cs x) : RowR base e size R w' A c l := h.keep hc (fun _ _ => id) hR
theorem halF_mono {p m le : Nat} {FA : Option Addr} {fc : Nat} {refs : List Bool} {B0 : Nat} (j : Nat) (val : Nat → Value) (r : Nat × Nat) (w w' : World) (hc : Chg (fun _ _ => False) w w') (hF : halF p m le FA fc refs B0 j val r w) : halF p m le FA fc refs B0 j val r w' := by
  unfold halF at hF ⊢
  split at hF
  case h_11 => obtain ⟨A, c, h1, h2⟩ := hF; exact ⟨A, c, h1, row_keepF h2 hc fun _ _ h => h⟩
  case h_13 => obtain ⟨A, c, h1, h2⟩ := hF; exact ⟨A, c, h1, row_keepF h2 hc fun _ _ h => h⟩
  case h_14 => obtain ⟨A, c, A', c', h1, h2, h3⟩ := hF; exact ⟨A, c, A', c', h1, row_keepF h2 hc fun _ _ h => h, row_keepF h3 hc fun _ _ h => h⟩
  case h_15 => obtain ⟨b, A, c, A', c', h1, h0, h4, h2, h3⟩ := hF; exact ⟨b, A, c, A', c', h1, h0, hc.blk h4 id, row_keepF h2 hc fun _ _ h => h, row_keepF h3 hc fun _ _ h => h⟩
  all_goals exact hF
theorem allocE_none {S : List ObjD} {bud : Nat} {refs : List Bool} {roots : List Int} (h1 : ¬ 262146 < refs.length) (h2 : knownO S roots = false) : allocV S bud refs roots = (0, 15) ∧ allocT S bud refs roots = S := by
  simp [allocV, allocT, h1, h2]
theorem allocE_full {S : List ObjD} {bud : Nat} {refs : List Bool} {roots : List Int} (h1 : ¬ 262146 < refs.length) (h2 : knownO S roots = true) (h3 : bud < usedO (allocIn S bud refs roots) + (1 + refs.length)) : allocV S bud refs roots = (0, 20) ∧ allocT S bud refs roots = allocIn S bud refs roots := by
  simp [allocV, allocT, h1, h2, h3]
theorem allocE_ok {S : List ObjD} {bud : Nat} {refs : List Bool} {roots : List Int} (h1 : ¬ 262146 < refs.length) (h2 : knownO S roots = true) (h3 : ¬ bud < usedO (allocIn S bud refs roots) + (1 + refs.length)) : allocV S bud refs roots = (((gapS (allocIn S bud refs roots) + 1 : Nat) : Int), 0) ∧ allocT S bud refs roots = allocO (allocIn S bud refs roots) refs := by
  simp [allocV, allocT, h1, h2, h3]
def lsR (p m bud V : Nat) (Sx : List ObjD) (w4 wr : World) : Prop := ∃ le : Nat, 1 ≤ le ∧ (∀ i : Nat, 1 ≤ i → i < le → (findO Sx i).isSome = true) ∧ Blk wr p 75 #[.map (some m), .int .i64 (bud : Int), .int .i64 (V : Int), .int .i64 (le : Int)] ∧ Chg (fun x t => x = p ∧ t = 75) w4 wr
theorem objsF_some {bo : Nat → Nat} {S : List ObjD} {x : Int} {o : ObjD} (h : findO S x = some o) : ((findO S x).map fun o => Value.pointer (some ⟨bo o.name, 0, none⟩)) = some (.pointer (some ⟨bo o.name, 0, none⟩)) := by rw [h]; rfl
theorem objsF_none {bo : Nat → Nat} {S : List ObjD} {x : Int} (h : findO S x = none) : ((findO S x).map fun o => Value.pointer (some ⟨bo o.name, 0, none⟩)) = none := by rw [h]; rfl
theorem setE_least (M : Option Nat) (b u l l' : Int) : (#[Value.map M, .int .i64 b, .int .i64 u, .int .i64 l].setIfInBounds 3 (.int .i64 l')) = #[Value.map M, .int .i64 b, .int .i64 u, .int .i64 l'] := rfl
set_option maxRecDepth 100000 in
set_option maxHeartbeats 8000000 in
theorem halloc_any (G : Nat → Prop) (w : World) (p m n cnt : Nat) (bo : Nat → Nat) (A : Nat → Option Addr) (c : Nat → Nat) (S : List ObjD) (bud least : Nat) (refs : List Bool) (FA : Option Addr) (fc : Nat) (roots : List Int) (RA : Option Addr) (rc : Nat) (h : HpI G w p m n cnt bo A c S bud least)
    (hf : SlR 0 4 1 BoolV w (.slice FA refs.length fc) refs) (hr : SlR 0 3 1 IntZ w (.slice RA roots.length rc) roots) (hI : ∀ r ∈ roots, I64 r) (hl : roots.length ≤ 1048576) (hfl : refs.length ≤ 1048576) (hn : n < maxLen) :
    Calls Try.prog 13 #[.pointer (some ⟨p, 0, none⟩), .slice FA refs.length fc, .slice RA roots.length rc] w (AllocRes G p n S bud refs roots w) := by
  by_cases hbig : 262146 < refs.length
  · have q1 : decide (262146 < refs.length) = true := decide_eq_true hbig
    have q2 : (262146 : Int) < (refs.length : Int) := by omega
    have hv : allocV S bud refs roots = (0, 2) := by unfold allocV; rw [if_pos hbig]
    have ht : allocT S bud refs roots = S := by unfold allocT; rw [if_pos hbig]
    have HH := Lib.hid (And.intro h (And.intro hv ht))
    clear hbig h hf hr hI hl hfl hn hv ht
    go_enter Try.func13, Try.ntmps13
    go_wp2_with fail
    go_ret2
    exact ⟨by rw [HH.out.2.1]; rfl, Chg.refl _ _, G, m, n, cnt, bo, A, c, least, by rw [HH.out.2.2]; exact HH.out.1, Nat.le_succ _, fun b hb => .inl hb⟩
  · have q1 : decide (262146 < refs.length) = false := decide_eq_false hbig
    have q2 : ¬ (262146 : Int) < (refs.length : Int) := by omega
    have HV := Lib.hid (And.intro (fun hk => allocE_none hbig hk) (And.intro (fun hk hb => allocE_full hbig hk hb) (fun hk hb => allocE_ok hbig hk hb)) : (knownO S roots = false → allocV S bud refs roots = (0, 15) ∧ allocT S bud refs roots = S) ∧ (knownO S roots = true → bud < usedO (allocIn S bud refs roots) + (1 + refs.length) → allocV S bud refs roots = (0, 20) ∧ allocT S bud refs roots = allocIn S bud refs roots) ∧ (knownO S roots = true → ¬ bud < usedO (allocIn S bud refs roots) + (1 + refs.length) → allocV S bud refs roots = (((gapS (allocIn S bud refs roots) + 1 : Nat) : Int), 0) ∧ allocT S bud refs roots = allocO (allocIn S bud refs roots) refs))
    have hfl' : refs.length ≤ 262146 := by omega
    have x0 : w.cell? ⟨p, 0, none⟩ = some (.map (some m)) := by simpa using h.blk.cell 0
    have HH := Lib.hid (And.intro h (And.intro hr (And.intro hf hI)))
    clear h hr hf hbig hI hfl
    go_enter Try.func13, Try.ntmps13
    go_wp2_with fail
    go_loopw [22] (fun i wr => ∃ k : Nat, k ≤ roots.length ∧ i = .int .i64 k ∧ (∀ j, j < k → roots.getD j 0 = 0 ∨ (findO S (roots.getD j 0)).isSome = true) ∧ wr = w) (fun i _ => roots.length - (intOf i).toNat)
    case atStart => exact ⟨0, Nat.zero_le _, rfl, fun j hj => absurd hj (Nat.not_lt_zero _), rfl⟩
    case round =>
      obtain ⟨k, hk, rfl, hkn, rfl⟩ := hrel
      have q3 : IntKind.i64.wrap ((k : Int) + 1) = (k : Int) + 1 := IntWalk.i64_in _ ⟨by omega, by omega⟩
      by_cases hlt : k < roots.length
      · have q1 : decide (k < roots.length) = true := decide_eq_true hlt
        have q2 : (k : Int) < (roots.length : Int) := by omega
        obtain ⟨rb, ro, rfl, z0⟩ := int_at (HH.out.2.1.settle fun _ _ h => h) hlt
        obtain ⟨y, hy⟩ : ∃ y, roots.getD k 0 = y := ⟨_, rfl⟩
        rw [hy] at z0
        have hym : y ∈ roots := by rw [← hy, List.getD_eq_getElem?_getD, List.getElem?_eq_getElem hlt]; exact List.getElem_mem hlt
        have hlo := HH.out.1.map.look_ok (t := 73) Try.underlying73 rfl (HH.out.2.2.2 y hym)
        have HY := Lib.hid (And.intro hy (And.intro hym hkn))
        clear hy hym hkn
        have hfin : (y = 0 ∨ (findO S y).isSome = true) → ∀ j, j < k + 1 → roots.getD j 0 = 0 ∨ (findO S (roots.getD j 0)).isSome = true := fun hh j hj => by
          rcases Nat.lt_or_ge j k with h1 | h1
          · exact HY.out.2.2 j h1
          · rw [show j = k by omega, HY.out.1]
            exact hh
        have HN := Lib.hid hfin
        clear hfin
        cases hq : findO S y with
        | none =>
          rw [objsF_none hq] at hlo
          simp only [Option.getD_none, Option.isSome_none] at hlo
          by_cases hy0 : y = 0
          · have q4 : (y != 0) = false := by simp [hy0]
            have HR := Lib.hid (HN.out (.inl hy0))
            clear hq hy0
            go_wp2_with fail
            go_roundw
            case rel => exact ⟨k + 1, hlt, by simp, HR.out, by first | rfl | trivial⟩
            case measure => simp [intOf]; omega
          · have q4 : (y != 0) = true := by simp [hy0]
            have HR := Lib.hid (And.intro hq hy0)
            clear hq hy0
            go_wp2_with fail
            go_ret2
            have hkf : knownO S roots = false := by
              cases hh : knownO S roots with
              | false => rfl
              | true =>
                rcases knownO_iff.1 hh y HY.out.2.1 with h1 | h1
                · exact absurd h1 HR.out.2
                · rw [HR.out.1] at h1
                  cases h1
            exact ⟨by rw [(HV.out.1 hkf).1]; rfl, Chg.refl _ _, G, m, n, cnt, bo, A, c, least, by rw [(HV.out.1 hkf).2]; exact HH.out.1, Nat.le_succ _, fun b hb => .inl hb⟩
        | some x =>
          rw [objsF_some hq] at hlo
          simp only [Option.getD_some, Option.isSome_some] at hlo
          have HR := Lib.hid (HN.out (.inr (by rw [hq]; rfl)))
          clear hq
          by_cases hy0 : y = 0
          · have q4 : (y != 0) = false := by simp [hy0]
            clear hy0
            go_wp2_with fail
            go_roundw
            case rel => exact ⟨k + 1, hlt, by simp, HR.out, by first | rfl | trivial⟩
            case measure => simp [intOf]; omega
          · have q4 : (y != 0) = true := by simp [hy0]
            clear hy0
            go_wp2_with fail
            go_roundw
            case rel => exact ⟨k + 1, hlt, by simp, HR.out, by first | rfl | trivial⟩
            case measure => simp [intOf]; omega
      · have q1 : decide (k < roots.length) = false := decide_eq_false hlt
        obtain rfl : k = roots.length := by omega
        have hkw : knownO S roots = true := knownO_iff.2 fun r hr => by
          obtain ⟨j, hj, he⟩ := List.mem_iff_getElem.1 hr
          have := hkn j hj
          rw [List.getD_eq_getElem?_getD, List.getElem?_eq_getElem hj, he] at this
          exact this
        have HK := Lib.hid hkw
        clear hkn hkw hlt hk q1 q3
        have hru := HH.out.1.room
        obtain ⟨U, hU⟩ : ∃ U, usedO S = U := ⟨_, rfl⟩
        rw [hU] at hru
        have x1 : wr.cell? ⟨p, 1, none⟩ = some (.int .i64 (bud : Int)) := by simpa using HH.out.1.blk.cell 1
        have x2 : wr.cell? ⟨p, 2, none⟩ = some (.int .i64 (U : Int)) := by have := HH.out.1.blk.cell 2; rw [hU] at this; simpa using this
        have qa : IntKind.i64.wrap (1 + (refs.length : Int)) = 1 + (refs.length : Int) := IntWalk.i64_in _ ⟨by omega, by omega⟩
        have qb : IntKind.i64.wrap ((U : Int) + (1 + (refs.length : Int))) = (U : Int) + (1 + (refs.length : Int)) := IntWalk.i64_in _ ⟨by omega, by omega⟩
        go_wp2_with fail
        by_cases hbr : bud < U + (1 + refs.length)
        · have q5 : (bud : Int) < (U : Int) + (1 + (refs.length : Int)) := by omega
          have q6 : decide ((bud : Int) < (U : Int) + (1 + (refs.length : Int))) = true := decide_eq_true q5
          have HU := Lib.hid (And.intro (show allocIn S bud refs roots = liveO S roots by unfold allocIn; rw [hU, if_pos hbr]) hru)
          clear hbr hru hU
          go_quiet (fail)
          go_wp2_with fail
          have hd1 := (Chg.refl (fun _ _ => False) wr).drewN nq
          generalize wr.drewN nq = w2 at hd1 ⊢
          have hco := hcollect_any G w2.heap.size w2 p m n cnt bo A c S bud least roots RA rc (HH.out.1.keep hd1 fun _ _ _ => id) ((SlR.keep HH.out.2.1 hd1 (no_letsH _ _) fun _ _ h => h).settle fun _ _ h => h) (Nat.le_refl _) HH.out.2.2.2 hl (Nat.le_trans HH.out.1.le (by decide))
          have HD := Lib.hid hd1
          clear hd1 x0 x1 x2 q2 qb q5 q6
          go_wp2_with fail
          refine hco.mono fun e w3 h => ?_
          obtain ⟨_, h⟩ := h
          obtain ⟨lx, ct, rfl, _, hi, hcc⟩ := h HK.out
          clear hco
          have hch := (HD.out.mono fun _ _ _ h => h.elim).trans hcc
          have HT := Lib.hid (And.intro hi (And.intro hch HU.out.1))
          clear hi hcc hch
          obtain ⟨Sx, hSx⟩ : ∃ Sx, liveO S roots = Sx := ⟨_, rfl⟩
          rw [hSx] at HT
          clear hSx HU HD
          go_wp2_with fail
          have hrs := HT.out.1.room
          obtain ⟨V, hV⟩ : ∃ V, usedO Sx = V := ⟨_, rfl⟩
          rw [hV] at hrs
          have x0 : w3.cell? ⟨p, 0, none⟩ = some (.map (some m)) := by simpa using HT.out.1.blk.cell 0
          have x1 : w3.cell? ⟨p, 1, none⟩ = some (.int .i64 (bud : Int)) := by simpa using HT.out.1.blk.cell 1
          have x2 : w3.cell? ⟨p, 2, none⟩ = some (.int .i64 (V : Int)) := by have := HT.out.1.blk.cell 2; rw [hV] at this; simpa using this
          have qb : IntKind.i64.wrap ((V : Int) + (1 + (refs.length : Int))) = (V : Int) + (1 + (refs.length : Int)) := IntWalk.i64_in _ ⟨by omega, by omega⟩
          by_cases hfu : bud < V + (1 + refs.length)
          · have q5 : (bud : Int) < (V : Int) + (1 + (refs.length : Int)) := by omega
            have q6 : decide ((bud : Int) < (V : Int) + (1 + (refs.length : Int))) = true := decide_eq_true q5
            have HF := Lib.hid (show bud < usedO (allocIn S bud refs roots) + (1 + refs.length) by rw [HT.out.2.2, hV]; exact hfu)
            clear hfu hrs hV
            go_quiet (fail)
            go_wp2_with fail
            go_ret2
            have hd := (Chg.refl (fun _ _ => False) w3).drewN nq
            exact ⟨by rw [(HV.out.2.1 HK.out HF.out).1]; rfl, HT.out.2.1.trans (hd.mono fun _ _ _ h => h.elim), G, m, n, ct, bo, A, c, lx, by rw [(HV.out.2.1 HK.out HF.out).2, HT.out.2.2]; exact HT.out.1.keep hd fun _ _ _ => id, Nat.le_succ _, fun b hb => .inl hb⟩
          · have q5 : ¬ (bud : Int) < (V : Int) + (1 + (refs.length : Int)) := by omega
            have q6 : decide ((bud : Int) < (V : Int) + (1 + (refs.length : Int))) = false := decide_eq_false q5
            have HF := Lib.hid (And.intro (show ¬ bud < usedO (allocIn S bud refs roots) + (1 + refs.length) by rw [HT.out.2.2, hV]; exact hfu) (And.intro hV (And.intro hrs hfu)))
            clear hfu hrs hV
            go_quiet (fail)
            go_wp2_with fail
            have hd3 := (Chg.refl (fun _ _ => False) w3).drewN nq
            generalize w3.drewN nq = w4 at hd3 ⊢
            have hH4 := HT.out.1.keep hd3 fun _ _ _ => id
            have hl0 : lsR p m bud V Sx w4 w4 := ⟨lx, hH4.low.1, hH4.low.2, by have := hH4.blk; rw [HF.out.2.1] at this; exact this, Chg.refl _ _⟩
            have HL := Lib.hid (And.intro hl0 (And.intro hd3 hH4))
            clear hl0 hd3 hH4 x0 x1 x2 q5 q6
            go_loopw [70] (fun _ wr => lsR p m bud V Sx w4 wr) (fun _ wr => gapS Sx + 2 - (intOf ((wr.cell? ⟨p, 3, none⟩).getD undef)).toNat)
            case atStart => exact HL.out.1
            case round =>
              obtain ⟨le, hl1, hl2, hb, hc⟩ := hrel
              have hle := low_gap HL.out.2.2.good hl2
              have hle2 := Nat.le_trans hle (Nat.succ_le_succ (gapS_le Sx))
              have hSx := len_le_used Sx
              rw [HF.out.2.1] at hSx
              have hrr := HF.out.2.2.1
              have x0 : wr.cell? ⟨p, 0, none⟩ = some (.map (some m)) := by simpa using hb.cell 0
              have x3 : wr.cell? ⟨p, 3, none⟩ = some (.int .i64 (le : Int)) := by simpa using hb.cell 3
              have q7 : IntKind.i64.wrap ((le : Int) + 1) = (le : Int) + 1 := IntWalk.i64_in _ ⟨by omega, by omega⟩
              have hleI : I64 (le : Int) := by unfold I64; omega
              have hlk := fun k => (HL.out.2.2.map.keep (hc.trans ((Chg.refl _ wr).drewN k)) fun h => absurd h.2 (by decide)).look (t := 73) (z := .pointer none) Try.underlying73 rfl hleI
              have HX3 := Lib.hid (And.intro x3 (And.intro hle (And.intro hl1 (And.intro hl2 (And.intro hb (And.intro hc hleI))))))
              clear hle hle2 hSx hrr hl1 hl2 hb hc hleI
              cases hq : findO Sx le with
              | some y =>
                rw [objsF_some hq] at hlk
                simp only [Option.getD_some] at hlk
                have HQ := Lib.hid hq
                clear hq
                have x3f := HX3.out.2.2.2.2.1.frozen 3
                go_wp2_with fail
                go_quiet (fail)
                go_wp2_with fail
                go_roundw
                case rel =>
                  have hd5 := (Chg.refl (fun _ _ => False) wr).drewN nq
                  have hb5 := hd5.blk HX3.out.2.2.2.2.1 id
                  have hb6 := hb5.set_ 3 (.int .i64 ((le : Int) + 1))
                  refine ⟨le + 1, by omega, fun i h1 h2 => ?_, by simpa using hb6, HX3.out.2.2.2.2.2.1.trans ((hd5.mono fun _ _ _ h => h.elim).trans (chg_set (j := 3) hb5 (.int .i64 ((le : Int) + 1))))⟩
                  rcases Nat.lt_or_ge i le with h3 | h3
                  · exact HX3.out.2.2.2.1 i h1 h3
                  · rw [show i = le by omega, HQ.out]; rfl
                case measure =>
                  have hb6 := (((Chg.refl (fun _ _ => False) wr).drewN nq).blk HX3.out.2.2.2.2.1 id).set_ 3 (.int .i64 ((le : Int) + 1))
                  have hx6 : ((wr.drewN nq).setCell ⟨p, 3, none⟩ (.int .i64 ((le : Int) + 1))).cell? ⟨p, 3, none⟩ = some (.int .i64 ((le : Int) + 1)) := by simpa using hb6.cell 3
                  have hle := HX3.out.2.1
                  rw [HX3.out.1, hx6]
                  simp [intOf]
                  omega
              | none =>
                rw [objsF_none hq] at hlk
                simp only [Option.getD_none] at hlk
                have HQ := Lib.hid hq
                clear hq
                go_wp2_with fail
                go_quiet (fail)
                go_wp2_with fail
                clear hlk x0 x3
                have hd5 := (Chg.refl (fun _ _ => False) wr).drewN nq
                generalize wr.drewN nq = w6 at hd5 ⊢
                have HB6 := Lib.hid (hd5.blk HX3.out.2.2.2.2.1 id)
                have hch6 : Chg (fun x t => x = p ∧ t = 75) w3 w6 := (HL.out.2.1.mono fun _ _ _ h => h.elim).trans (HX3.out.2.2.2.2.2.1.trans (hd5.mono fun _ _ _ h => h.elim))
                have hle : le = gapS Sx + 1 := by
                  have h1 := HX3.out.2.1
                  rcases Nat.lt_or_ge (gapS Sx) le with h2 | h2
                  · omega
                  · have h3 := gapS_taken (S := Sx) HX3.out.2.2.1 h2
                    rw [HQ.out] at h3
                    cases h3
                have HC6 := Lib.hid (And.intro hch6 hle)
                have HSL := Lib.hid (SlR.keep (SlR.keep HH.out.2.2.1 HT.out.2.1 ⟨fun b t hb => absurd hb (Nat.not_lt_zero _), fun _ b h => by rcases h.2 with h | h | h <;> exact absurd h (by decide)⟩ fun _ _ h => h) hch6 ⟨fun b t hb => absurd hb (Nat.not_lt_zero _), fun _ b h => absurd h.2 (by decide)⟩ fun _ _ h => h)
                have hdr := (Chg.refl (fun _ _ => False) w6).drew
                clear hch6 hle hd5
                refine wp_region_facts [(0, 87), (1, 88), (2, 89), (3, 90), (4, 91), (5, 92), (6, 93), (7, 94), (8, 95), (9, 96), (10, 97), (11, 98), (12, 99), (13, 100), (14, 101)] [] (halF p m le FA fc refs w6.heap.size) (by kernel_rfl) (by kernel_rfl) halF_dep halF_mono (ops_cons (OpF.run rfl rfl fun q w H => by
                  exact ⟨_, w, exec_mv (.tmp 0), H.same 0 (by kernel_rfl), Chg.refl _ _⟩) (ops_cons (OpF.run rfl rfl fun q w H => by
                  obtain ⟨r0, h0⟩ := H.fact 0 (by kernel_rfl)
                  have h0 := factH (p := fun v => v = .pointer (some ⟨p, 0, none⟩)) (k := 0) (d := 87) h0 (by kernel_rfl)
                  exact ⟨_, w, exec_nc (.tmp 87) h0, rfl, Chg.refl _ _⟩) (ops_cons (OpF.run rfl rfl fun q w H => by
                  obtain ⟨r1, h1⟩ := H.fact 1 (by kernel_rfl)
                  have h1 := factH (p := fun v => v = .pointer (some ⟨p, 0, none⟩)) (k := 1) (d := 88) h1 (by kernel_rfl)
                  exact ⟨_, w, exec_fa0 (.tmp 88) h1, rfl, Chg.refl _ _⟩) (ops_cons (OpF.run rfl rfl fun q w H => by
                  obtain ⟨r2, h2⟩ := H.fact 2 (by kernel_rfl)
                  have h2 := factH (p := fun v => v = .pointer (some ⟨p, 0, none⟩)) (k := 2) (d := 89) h2 (by kernel_rfl)
                  exact ⟨_, w, exec_ldM (.tmp 89) h2 (by simpa using ((hdr.trans H.chg).blk HB6.out id).cell 0), rfl, Chg.refl _ _⟩) (ops_cons (OpF.run rfl rfl fun q w H => by
                  exact ⟨_, w, exec_mv (.tmp 0), H.same 0 (by kernel_rfl), Chg.refl _ _⟩) (ops_cons (OpF.run rfl rfl fun q w H => by
                  obtain ⟨r4, h4⟩ := H.fact 4 (by kernel_rfl)
                  have h4 := factH (p := fun v => v = .pointer (some ⟨p, 0, none⟩)) (k := 4) (d := 91) h4 (by kernel_rfl)
                  exact ⟨_, w, exec_nc (.tmp 91) h4, rfl, Chg.refl _ _⟩) (ops_cons (OpF.run rfl rfl fun q w H => by
                  obtain ⟨r5, h5⟩ := H.fact 5 (by kernel_rfl)
                  have h5 := factH (p := fun v => v = .pointer (some ⟨p, 0, none⟩)) (k := 5) (d := 92) h5 (by kernel_rfl)
                  exact ⟨_, w, exec_fa3 (.tmp 92) h5, rfl, Chg.refl _ _⟩) (ops_cons (OpF.run rfl rfl fun q w H => by
                  obtain ⟨r6, h6⟩ := H.fact 6 (by kernel_rfl)
                  have h6 := factH (p := fun v => v = .pointer (some ⟨p, 3, none⟩)) (k := 6) (d := 93) h6 (by kernel_rfl)
                  exact ⟨_, w, exec_ldI (.tmp 93) h6 (by simpa using ((hdr.trans H.chg).blk HB6.out id).cell 3), rfl, Chg.refl _ _⟩) (ops_cons (OpF.run rfl rfl fun q w H => by
                  exact ⟨_, w, exec_mv (.tmp 1), H.same 1 (by kernel_rfl), Chg.refl _ _⟩) (ops_cons (OpF.run rfl rfl fun q w H => by
                  obtain ⟨r8, h8⟩ := H.fact 8 (by kernel_rfl)
                  have h8 := factH (p := fun v => v = .slice FA refs.length fc) (k := 8) (d := 95) h8 (by kernel_rfl)
                  exact ⟨_, w, exec_lenB (.tmp 95) h8, rfl, Chg.refl _ _⟩) (ops_cons (OpF.run rfl rfl fun q w H => by
                  obtain ⟨r9, h9⟩ := H.fact 9 (by kernel_rfl)
                  have h9 := factH (p := fun v => v = .int .i64 (refs.length : Nat)) (k := 9) (d := 96) h9 (by kernel_rfl)
                  exact ⟨_, _, exec_mk0 (.tmp 96) (.tmp 96) h9 h9 (by omega), ⟨_, _, rfl, made_row w6.heap.size refs.length (fun _ => rfl) (Nat.le_trans hdr.size H.chg.size) (by simp only [maxLen]; omega)⟩, chg_alloc _ _⟩) (ops_cons (OpF.run rfl rfl fun q w H => by
                  exact ⟨_, w, exec_mv (.tmp 1), H.same 1 (by kernel_rfl), Chg.refl _ _⟩) (ops_cons (OpF.call rfl rfl fun q w H => by
                  obtain ⟨r11, h11⟩ := H.fact 11 (by kernel_rfl)
                  have h11 := factH (p := fun v => v = .slice FA refs.length fc) (k := 11) (d := 98) h11 (by kernel_rfl)
                  exact ⟨_, _, exec_cl _ _ _ (cloneB_enters w), by rw [h11]; exact (cloneBB_any w.heap.size w refs FA fc ((SlR.keep HSL.out (hdr.trans H.chg) (no_letsH _ _) fun _ _ h => h).settle fun _ _ h => h) (by omega)).mono fun e w' ⟨A, c, he, hrow, hc⟩ => ⟨_, he, ⟨_, _, rfl, hrow.rebase (Nat.le_trans hdr.size H.chg.size)⟩, hc⟩⟩) (ops_cons (OpF.run rfl rfl fun q w H => by
                  obtain ⟨r10, h10⟩ := H.fact 10 (by kernel_rfl)
                  obtain ⟨A1, c1, h10, k10⟩ := h10
                  have h10 := factH (p := fun v => v = .slice A1 refs.length c1) (k := 10) (d := 97) h10 (by kernel_rfl)
                  obtain ⟨r12, h12⟩ := H.fact 12 (by kernel_rfl)
                  obtain ⟨A2, c2, h12, k12⟩ := h12
                  have h12 := factH (p := fun v => v = .slice A2 refs.length c2) (k := 12) (d := 99) h12 (by kernel_rfl)
                  exact ⟨_, w, exec_bd (.tmp 97) (.tmp 99) h10 h12, ⟨_, _, _, _, rfl, k10, k12⟩, Chg.refl _ _⟩) (ops_cons (OpF.run rfl rfl fun q w H => by
                  obtain ⟨r13, h13⟩ := H.fact 13 (by kernel_rfl)
                  obtain ⟨A1, c1, A2, c2, h13, k10, k12⟩ := h13
                  have h13 := factH (p := fun v => v = .agg #[.slice A1 refs.length c1, .slice A2 refs.length c2]) (k := 13) (d := 100) h13 (by kernel_rfl)
                  exact ⟨_, _, exec_bx (.tmp 100) h13, ⟨_, _, _, _, _, rfl, Nat.le_trans hdr.size H.chg.size, Blk.new w 78 _, row_keepF k10 (chg_alloc _ _) fun _ _ h => h, row_keepF k12 (chg_alloc _ _) fun _ _ h => h⟩, chg_alloc _ _⟩) ops_nil))))))))))))))) ?_
                intro pp v r w7 hv _ _ hcw
                have e3 : v 3 = _ := hv (3, 90) (by simp)
                have e7 : v 7 = _ := hv (7, 94) (by simp)
                obtain ⟨bx, A1, c1, A2, c2, e14, hbx0, hbx, hr1, hr2⟩ := hv (14, 101) (by simp)
                have e14 : v 14 = _ := e14
                clear hv
                simp only [List.filter_nil, List.append_nil, putL, Act.put, List.setIfInBounds_toArray, List.set_cons_zero, List.set_cons_succ]
                rw [e3, e7, e14]
                clear e3 e7 e14
                have hd7 := hdr.trans hcw
                obtain ⟨w8, hmu, hm8, hc8⟩ := (HT.out.1.map.keep (HC6.out.1.trans (hd7.mono fun _ _ _ h => h.elim)) fun h => absurd h.2 (by decide)).put (t := 73) Try.underlying73 hn HX3.out.2.2.2.2.2.2 (.pointer (some ⟨bx, 0, none⟩))
                refine wpAny_ready (rs := [15]) (by kernel_rfl) (by simp) ?_
                refine AllReady.cons rfl (fun K hK => ?_) AllReady.nil
                go_simp
                refine hK _ _ ?_
                clear hK K hmu
                try simp only [Act.put, List.setIfInBounds_toArray, List.set_cons_zero, List.set_cons_succ]
                refine ⟨by kernel_rfl, ?_⟩
                have hb8 := hc8.blk (hd7.blk HB6.out id) fun h => absurd h.2 (by decide)
                have x2 : w8.cell? ⟨p, 2, none⟩ = some (.int .i64 (V : Int)) := by simpa using hb8.cell 2
                have x2f := hb8.frozen 2
                have hb9 := hb8.set_ 2 (.int .i64 ((V : Int) + (1 + (refs.length : Int))))
                have hc9 := chg_set (j := 2) hb8 (.int .i64 ((V : Int) + (1 + (refs.length : Int))))
                have x3 : (w8.setCell ⟨p, 2, none⟩ (.int .i64 ((V : Int) + (1 + (refs.length : Int))))).cell? ⟨p, 3, none⟩ = some (.int .i64 (le : Int)) := by simpa using hb9.cell 3
                have hcf : Chg (fun x t => (x = p ∧ t = 75) ∨ (x = m ∧ t = 0)) w3 (w8.setCell ⟨p, 2, none⟩ (.int .i64 ((V : Int) + (1 + (refs.length : Int))))) := (HC6.out.1.mono fun _ _ _ h => .inl h).trans ((hd7.mono fun _ _ _ h => h.elim).trans ((hc8.mono fun _ _ _ h => .inr h).trans (hc9.mono fun _ _ _ h => .inl h)))
                have hc79 : Chg (fun x t => t = 75 ∨ t = 0) w7 (w8.setCell ⟨p, 2, none⟩ (.int .i64 ((V : Int) + (1 + (refs.length : Int))))) := (hc8.mono fun _ _ _ h => .inr h.2).trans (hc9.mono fun _ _ _ h => .inl h.2)
                have HZ := Lib.hid (And.intro hcf (And.intro hc79 (And.intro hb9 (And.intro (hm8.keep hc9 fun h => absurd h.2 (by decide)) (And.intro hbx0 (And.intro hbx (And.intro hr1 hr2)))))))
                clear hb8 hb9 hc9 hcf hc8 hd7 hcw hc79 hm8 hbx0 hbx hr1 hr2 hdr
                go_wp2_with fail
                go_ret2
                obtain ⟨hcf, hc79, hb9, hm9, hbx0, hbx, hr1, hr2⟩ := HZ.out
                obtain ⟨hch6, hle⟩ := HC6.out
                subst hle
                refine ⟨by rw [(HV.out.2.2 HK.out HF.out.1).1, HT.out.2.2]; rfl, HT.out.2.1.trans (hcf.mono fun b t _ h => ?_), _, m, n + 1, _, _, _, _, gapS Sx + 1, by rw [(HV.out.2.2 HK.out HF.out.1).2, HT.out.2.2]; exact HT.out.1.alloc (refs := refs) (B0 := w6.heap.size) (bx := bx) (A1 := A1) (A2 := A2) (c1 := c1) (c2 := c2) hcf (fun b t h => h.imp (fun h => h.2) fun h => h.2) (by have h2 := HF.out.2.1; rw [h2]; simpa using hb9) hm9 (hc79.blk hbx fun h => by rcases h with h | h <;> exact absurd h (by decide)) (hr1.keep hc79 (fun b _ h => by rcases h with h | h <;> exact absurd h (by decide)) fun _ _ h => h) (hr2.keep hc79 (fun b _ h => by rcases h with h | h <;> exact absurd h (by decide)) fun _ _ h => h) hch6.size hbx0 (by rw [HF.out.2.1]; exact HF.out.2.2.2), Nat.le_refl _, fun b hb => ?_⟩
                · rcases h with ⟨rfl, rfl⟩ | ⟨rfl, rfl⟩
                  · exact ⟨HT.out.1.own.1, .inl rfl⟩
                  · exact ⟨HT.out.1.own.2, .inr (.inr rfl)⟩
                · rcases hb with hb | hb
                  · exact .inl hb
                  · exact .inr (Nat.le_trans HT.out.2.1.size hb.1)
        · have q5 : ¬ (bud : Int) < (U : Int) + (1 + (refs.length : Int)) := by omega
          have q6 : decide ((bud : Int) < (U : Int) + (1 + (refs.length : Int))) = false := decide_eq_false q5
          have HU := Lib.hid (show allocIn S bud refs roots = S by unfold allocIn; rw [hU, if_neg hbr])
          clear hbr hru hU
          go_quiet (fail)
          go_wp2_with fail
          have hd1 := (Chg.refl (fun _ _ => False) wr).drewN nq
          generalize wr.drewN nq = w3 at hd1 ⊢
          have HT : Hid (HpI G w3 p m n cnt bo A c S bud least ∧ Chg (MH G) wr w3 ∧ allocIn S bud refs roots = S) := Lib.hid ⟨HH.out.1.keep hd1 fun _ _ _ => id, hd1.mono fun _ _ _ h => h.elim, HU.out⟩
          obtain ⟨Sx, lx, ct, hSx⟩ : ∃ Sx lx ct, Sx = S ∧ lx = least ∧ ct = cnt := ⟨_, _, _, rfl, rfl, rfl⟩
          have HT : Hid (HpI G w3 p m n ct bo A c Sx bud lx ∧ Chg (MH G) wr w3 ∧ allocIn S bud refs roots = Sx) := by rw [hSx.1, hSx.2.1, hSx.2.2]; exact HT
          clear hSx
          clear HU hd1 x0 x1 x2 q2 qb q5 q6
          have hrs := HT.out.1.room
          obtain ⟨V, hV⟩ : ∃ V, usedO Sx = V := ⟨_, rfl⟩
          rw [hV] at hrs
          have x0 : w3.cell? ⟨p, 0, none⟩ = some (.map (some m)) := by simpa using HT.out.1.blk.cell 0
          have x1 : w3.cell? ⟨p, 1, none⟩ = some (.int .i64 (bud : Int)) := by simpa using HT.out.1.blk.cell 1
          have x2 : w3.cell? ⟨p, 2, none⟩ = some (.int .i64 (V : Int)) := by have := HT.out.1.blk.cell 2; rw [hV] at this; simpa using this
          have qb : IntKind.i64.wrap ((V : Int) + (1 + (refs.length : Int))) = (V : Int) + (1 + (refs.length : Int)) := IntWalk.i64_in _ ⟨by omega, by omega⟩
          by_cases hfu : bud < V + (1 + refs.length)
          · have q5 : (bud : Int) < (V : Int) + (1 + (refs.length : Int)) := by omega
            have q6 : decide ((bud : Int) < (V : Int) + (1 + (refs.length : Int))) = true := decide_eq_true q5
            have HF := Lib.hid (show bud < usedO (allocIn S bud refs roots) + (1 + refs.length) by rw [HT.out.2.2, hV]; exact hfu)
            clear hfu hrs hV
            go_quiet (fail)
            go_wp2_with fail
            go_ret2
            have hd := (Chg.refl (fun _ _ => False) w3).drewN nq
            exact ⟨by rw [(HV.out.2.1 HK.out HF.out).1]; rfl, HT.out.2.1.trans (hd.mono fun _ _ _ h => h.elim), G, m, n, ct, bo, A, c, lx, by rw [(HV.out.2.1 HK.out HF.out).2, HT.out.2.2]; exact HT.out.1.keep hd fun _ _ _ => id, Nat.le_succ _, fun b hb => .inl hb⟩
          · have q5 : ¬ (bud : Int) < (V : Int) + (1 + (refs.length : Int)) := by omega
            have q6 : decide ((bud : Int) < (V : Int) + (1 + (refs.length : Int))) = false := decide_eq_false q5
            have HF := Lib.hid (And.intro (show ¬ bud < usedO (allocIn S bud refs roots) + (1 + refs.length) by rw [HT.out.2.2, hV]; exact hfu) (And.intro hV (And.intro hrs hfu)))
            clear hfu hrs hV
            go_quiet (fail)
            go_wp2_with fail
            have hd3 := (Chg.refl (fun _ _ => False) w3).drewN nq
            generalize w3.drewN nq = w4 at hd3 ⊢
            have hH4 := HT.out.1.keep hd3 fun _ _ _ => id
            have hl0 : lsR p m bud V Sx w4 w4 := ⟨lx, hH4.low.1, hH4.low.2, by have := hH4.blk; rw [HF.out.2.1] at this; exact this, Chg.refl _ _⟩
            have HL := Lib.hid (And.intro hl0 (And.intro hd3 hH4))
            clear hl0 hd3 hH4 x0 x1 x2 q5 q6
            go_loopw [70] (fun _ wr => lsR p m bud V Sx w4 wr) (fun _ wr => gapS Sx + 2 - (intOf ((wr.cell? ⟨p, 3, none⟩).getD undef)).toNat)
            case atStart => exact HL.out.1
            case round =>
              obtain ⟨le, hl1, hl2, hb, hc⟩ := hrel
              have hle := low_gap HL.out.2.2.good hl2
              have hle2 := Nat.le_trans hle (Nat.succ_le_succ (gapS_le Sx))
              have hSx := len_le_used Sx
              rw [HF.out.2.1] at hSx
              have hrr := HF.out.2.2.1
              have x0 : wr.cell? ⟨p, 0, none⟩ = some (.map (some m)) := by simpa using hb.cell 0
              have x3 : wr.cell? ⟨p, 3, none⟩ = some (.int .i64 (le : Int)) := by simpa using hb.cell 3
              have q7 : IntKind.i64.wrap ((le : Int) + 1) = (le : Int) + 1 := IntWalk.i64_in _ ⟨by omega, by omega⟩
              have hleI : I64 (le : Int) := by unfold I64; omega
              have hlk := fun k => (HL.out.2.2.map.keep (hc.trans ((Chg.refl _ wr).drewN k)) fun h => absurd h.2 (by decide)).look (t := 73) (z := .pointer none) Try.underlying73 rfl hleI
              have HX3 := Lib.hid (And.intro x3 (And.intro hle (And.intro hl1 (And.intro hl2 (And.intro hb (And.intro hc hleI))))))
              clear hle hle2 hSx hrr hl1 hl2 hb hc hleI
              cases hq : findO Sx le with
              | some y =>
                rw [objsF_some hq] at hlk
                simp only [Option.getD_some] at hlk
                have HQ := Lib.hid hq
                clear hq
                have x3f := HX3.out.2.2.2.2.1.frozen 3
                go_wp2_with fail
                go_quiet (fail)
                go_wp2_with fail
                go_roundw
                case rel =>
                  have hd5 := (Chg.refl (fun _ _ => False) wr).drewN nq
                  have hb5 := hd5.blk HX3.out.2.2.2.2.1 id
                  have hb6 := hb5.set_ 3 (.int .i64 ((le : Int) + 1))
                  refine ⟨le + 1, by omega, fun i h1 h2 => ?_, by simpa using hb6, HX3.out.2.2.2.2.2.1.trans ((hd5.mono fun _ _ _ h => h.elim).trans (chg_set (j := 3) hb5 (.int .i64 ((le : Int) + 1))))⟩
                  rcases Nat.lt_or_ge i le with h3 | h3
                  · exact HX3.out.2.2.2.1 i h1 h3
                  · rw [show i = le by omega, HQ.out]; rfl
                case measure =>
                  have hb6 := (((Chg.refl (fun _ _ => False) wr).drewN nq).blk HX3.out.2.2.2.2.1 id).set_ 3 (.int .i64 ((le : Int) + 1))
                  have hx6 : ((wr.drewN nq).setCell ⟨p, 3, none⟩ (.int .i64 ((le : Int) + 1))).cell? ⟨p, 3, none⟩ = some (.int .i64 ((le : Int) + 1)) := by simpa using hb6.cell 3
                  have hle := HX3.out.2.1
                  rw [HX3.out.1, hx6]
                  simp [intOf]
                  omega
              | none =>
                rw [objsF_none hq] at hlk
                simp only [Option.getD_none] at hlk
                have HQ := Lib.hid hq
                clear hq
                go_wp2_with fail
                go_quiet (fail)
                go_wp2_with fail
                clear hlk x0 x3
                have hd5 := (Chg.refl (fun _ _ => False) wr).drewN nq
                generalize wr.drewN nq = w6 at hd5 ⊢
                have HB6 := Lib.hid (hd5.blk HX3.out.2.2.2.2.1 id)
                have hch6 : Chg (fun x t => x = p ∧ t = 75) w3 w6 := (HL.out.2.1.mono fun _ _ _ h => h.elim).trans (HX3.out.2.2.2.2.2.1.trans (hd5.mono fun _ _ _ h => h.elim))
                have hle : le = gapS Sx + 1 := by
                  have h1 := HX3.out.2.1
                  rcases Nat.lt_or_ge (gapS Sx) le with h2 | h2
                  · omega
                  · have h3 := gapS_taken (S := Sx) HX3.out.2.2.1 h2
                    rw [HQ.out] at h3
                    cases h3
                have HC6 := Lib.hid (And.intro hch6 hle)
                have HSL := Lib.hid (SlR.keep (SlR.keep HH.out.2.2.1 HT.out.2.1 ⟨fun b t hb => absurd hb (Nat.not_lt_zero _), fun _ b h => by rcases h.2 with h | h | h <;> exact absurd h (by decide)⟩ fun _ _ h => h) hch6 ⟨fun b t hb => absurd hb (Nat.not_lt_zero _), fun _ b h => absurd h.2 (by decide)⟩ fun _ _ h => h)
                have hdr := (Chg.refl (fun _ _ => False) w6).drew
                clear hch6 hle hd5
                refine wp_region_facts [(0, 87), (1, 88), (2, 89), (3, 90), (4, 91), (5, 92), (6, 93), (7, 94), (8, 95), (9, 96), (10, 97), (11, 98), (12, 99), (13, 100), (14, 101)] [] (halF p m le FA fc refs w6.heap.size) (by kernel_rfl) (by kernel_rfl) halF_dep halF_mono (ops_cons (OpF.run rfl rfl fun q w H => by
                  exact ⟨_, w, exec_mv (.tmp 0), H.same 0 (by kernel_rfl), Chg.refl _ _⟩) (ops_cons (OpF.run rfl rfl fun q w H => by
                  obtain ⟨r0, h0⟩ := H.fact 0 (by kernel_rfl)
                  have h0 := factH (p := fun v => v = .pointer (some ⟨p, 0, none⟩)) (k := 0) (d := 87) h0 (by kernel_rfl)
                  exact ⟨_, w, exec_nc (.tmp 87) h0, rfl, Chg.refl _ _⟩) (ops_cons (OpF.run rfl rfl fun q w H => by
                  obtain ⟨r1, h1⟩ := H.fact 1 (by kernel_rfl)
                  have h1 := factH (p := fun v => v = .pointer (some ⟨p, 0, none⟩)) (k := 1) (d := 88) h1 (by kernel_rfl)
                  exact ⟨_, w, exec_fa0 (.tmp 88) h1, rfl, Chg.refl _ _⟩) (ops_cons (OpF.run rfl rfl fun q w H => by
                  obtain ⟨r2, h2⟩ := H.fact 2 (by kernel_rfl)
                  have h2 := factH (p := fun v => v = .pointer (some ⟨p, 0, none⟩)) (k := 2) (d := 89) h2 (by kernel_rfl)
                  exact ⟨_, w, exec_ldM (.tmp 89) h2 (by simpa using ((hdr.trans H.chg).blk HB6.out id).cell 0), rfl, Chg.refl _ _⟩) (ops_cons (OpF.run rfl rfl fun q w H => by
                  exact ⟨_, w, exec_mv (.tmp 0), H.same 0 (by kernel_rfl), Chg.refl _ _⟩) (ops_cons (OpF.run rfl rfl fun q w H => by
                  obtain ⟨r4, h4⟩ := H.fact 4 (by kernel_rfl)
                  have h4 := factH (p := fun v => v = .pointer (some ⟨p, 0, none⟩)) (k := 4) (d := 91) h4 (by kernel_rfl)
                  exact ⟨_, w, exec_nc (.tmp 91) h4, rfl, Chg.refl _ _⟩) (ops_cons (OpF.run rfl rfl fun q w H => by
                  obtain ⟨r5, h5⟩ := H.fact 5 (by kernel_rfl)
                  have h5 := factH (p := fun v => v = .pointer (some ⟨p, 0, none⟩)) (k := 5) (d := 92) h5 (by kernel_rfl)
                  exact ⟨_, w, exec_fa3 (.tmp 92) h5, rfl, Chg.refl _ _⟩) (ops_cons (OpF.run rfl rfl fun q w H => by
                  obtain ⟨r6, h6⟩ := H.fact 6 (by kernel_rfl)
                  have h6 := factH (p := fun v => v = .pointer (some ⟨p, 3, none⟩)) (k := 6) (d := 93) h6 (by kernel_rfl)
                  exact ⟨_, w, exec_ldI (.tmp 93) h6 (by simpa using ((hdr.trans H.chg).blk HB6.out id).cell 3), rfl, Chg.refl _ _⟩) (ops_cons (OpF.run rfl rfl fun q w H => by
                  exact ⟨_, w, exec_mv (.tmp 1), H.same 1 (by kernel_rfl), Chg.refl _ _⟩) (ops_cons (OpF.run rfl rfl fun q w H => by
                  obtain ⟨r8, h8⟩ := H.fact 8 (by kernel_rfl)
                  have h8 := factH (p := fun v => v = .slice FA refs.length fc) (k := 8) (d := 95) h8 (by kernel_rfl)
                  exact ⟨_, w, exec_lenB (.tmp 95) h8, rfl, Chg.refl _ _⟩) (ops_cons (OpF.run rfl rfl fun q w H => by
                  obtain ⟨r9, h9⟩ := H.fact 9 (by kernel_rfl)
                  have h9 := factH (p := fun v => v = .int .i64 (refs.length : Nat)) (k := 9) (d := 96) h9 (by kernel_rfl)
                  exact ⟨_, _, exec_mk0 (.tmp 96) (.tmp 96) h9 h9 (by omega), ⟨_, _, rfl, made_row w6.heap.size refs.length (fun _ => rfl) (Nat.le_trans hdr.size H.chg.size) (by simp only [maxLen]; omega)⟩, chg_alloc _ _⟩) (ops_cons (OpF.run rfl rfl fun q w H => by
                  exact ⟨_, w, exec_mv (.tmp 1), H.same 1 (by kernel_rfl), Chg.refl _ _⟩) (ops_cons (OpF.call rfl rfl fun q w H => by
                  obtain ⟨r11, h11⟩ := H.fact 11 (by kernel_rfl)
                  have h11 := factH (p := fun v => v = .slice FA refs.length fc) (k := 11) (d := 98) h11 (by kernel_rfl)
                  exact ⟨_, _, exec_cl _ _ _ (cloneB_enters w), by rw [h11]; exact (cloneBB_any w.heap.size w refs FA fc ((SlR.keep HSL.out (hdr.trans H.chg) (no_letsH _ _) fun _ _ h => h).settle fun _ _ h => h) (by omega)).mono fun e w' ⟨A, c, he, hrow, hc⟩ => ⟨_, he, ⟨_, _, rfl, hrow.rebase (Nat.le_trans hdr.size H.chg.size)⟩, hc⟩⟩) (ops_cons (OpF.run rfl rfl fun q w H => by
                  obtain ⟨r10, h10⟩ := H.fact 10 (by kernel_rfl)
                  obtain ⟨A1, c1, h10, k10⟩ := h10
                  have h10 := factH (p := fun v => v = .slice A1 refs.length c1) (k := 10) (d := 97) h10 (by kernel_rfl)
                  obtain ⟨r12, h12⟩ := H.fact 12 (by kernel_rfl)
                  obtain ⟨A2, c2, h12, k12⟩ := h12
                  have h12 := factH (p := fun v => v = .slice A2 refs.length c2) (k := 12) (d := 99) h12 (by kernel_rfl)
                  exact ⟨_, w, exec_bd (.tmp 97) (.tmp 99) h10 h12, ⟨_, _, _, _, rfl, k10, k12⟩, Chg.refl _ _⟩) (ops_cons (OpF.run rfl rfl fun q w H => by
                  obtain ⟨r13, h13⟩ := H.fact 13 (by kernel_rfl)
                  obtain ⟨A1, c1, A2, c2, h13, k10, k12⟩ := h13
                  have h13 := factH (p := fun v => v = .agg #[.slice A1 refs.length c1, .slice A2 refs.length c2]) (k := 13) (d := 100) h13 (by kernel_rfl)
                  exact ⟨_, _, exec_bx (.tmp 100) h13, ⟨_, _, _, _, _, rfl, Nat.le_trans hdr.size H.chg.size, Blk.new w 78 _, row_keepF k10 (chg_alloc _ _) fun _ _ h => h, row_keepF k12 (chg_alloc _ _) fun _ _ h => h⟩, chg_alloc _ _⟩) ops_nil))))))))))))))) ?_
                intro pp v r w7 hv _ _ hcw
                have e3 : v 3 = _ := hv (3, 90) (by simp)
                have e7 : v 7 = _ := hv (7, 94) (by simp)
                obtain ⟨bx, A1, c1, A2, c2, e14, hbx0, hbx, hr1, hr2⟩ := hv (14, 101) (by simp)
                have e14 : v 14 = _ := e14
                clear hv
                simp only [List.filter_nil, List.append_nil, putL, Act.put, List.setIfInBounds_toArray, List.set_cons_zero, List.set_cons_succ]
                rw [e3, e7, e14]
                clear e3 e7 e14
                have hd7 := hdr.trans hcw
                obtain ⟨w8, hmu, hm8, hc8⟩ := (HT.out.1.map.keep (HC6.out.1.trans (hd7.mono fun _ _ _ h => h.elim)) fun h => absurd h.2 (by decide)).put (t := 73) Try.underlying73 hn HX3.out.2.2.2.2.2.2 (.pointer (some ⟨bx, 0, none⟩))
                refine wpAny_ready (rs := [15]) (by kernel_rfl) (by simp) ?_
                refine AllReady.cons rfl (fun K hK => ?_) AllReady.nil
                go_simp
                refine hK _ _ ?_
                clear hK K hmu
                try simp only [Act.put, List.setIfInBounds_toArray, List.set_cons_zero, List.set_cons_succ]
                refine ⟨by kernel_rfl, ?_⟩
                have hb8 := hc8.blk (hd7.blk HB6.out id) fun h => absurd h.2 (by decide)
                have x2 : w8.cell? ⟨p, 2, none⟩ = some (.int .i64 (V : Int)) := by simpa using hb8.cell 2
                have x2f := hb8.frozen 2
                have hb9 := hb8.set_ 2 (.int .i64 ((V : Int) + (1 + (refs.length : Int))))
                have hc9 := chg_set (j := 2) hb8 (.int .i64 ((V : Int) + (1 + (refs.length : Int))))
                have x3 : (w8.setCell ⟨p, 2, none⟩ (.int .i64 ((V : Int) + (1 + (refs.length : Int))))).cell? ⟨p, 3, none⟩ = some (.int .i64 (le : Int)) := by simpa using hb9.cell 3
                have hcf : Chg (fun x t => (x = p ∧ t = 75) ∨ (x = m ∧ t = 0)) w3 (w8.setCell ⟨p, 2, none⟩ (.int .i64 ((V : Int) + (1 + (refs.length : Int))))) := (HC6.out.1.mono fun _ _ _ h => .inl h).trans ((hd7.mono fun _ _ _ h => h.elim).trans ((hc8.mono fun _ _ _ h => .inr h).trans (hc9.mono fun _ _ _ h => .inl h)))
                have hc79 : Chg (fun x t => t = 75 ∨ t = 0) w7 (w8.setCell ⟨p, 2, none⟩ (.int .i64 ((V : Int) + (1 + (refs.length : Int))))) := (hc8.mono fun _ _ _ h => .inr h.2).trans (hc9.mono fun _ _ _ h => .inl h.2)
                have HZ := Lib.hid (And.intro hcf (And.intro hc79 (And.intro hb9 (And.intro (hm8.keep hc9 fun h => absurd h.2 (by decide)) (And.intro hbx0 (And.intro hbx (And.intro hr1 hr2)))))))
                clear hb8 hb9 hc9 hcf hc8 hd7 hcw hc79 hm8 hbx0 hbx hr1 hr2 hdr
                go_wp2_with fail
                go_ret2
                obtain ⟨hcf, hc79, hb9, hm9, hbx0, hbx, hr1, hr2⟩ := HZ.out
                obtain ⟨hch6, hle⟩ := HC6.out
                subst hle
                refine ⟨by rw [(HV.out.2.2 HK.out HF.out.1).1, HT.out.2.2]; rfl, HT.out.2.1.trans (hcf.mono fun b t _ h => ?_), _, m, n + 1, _, _, _, _, gapS Sx + 1, by rw [(HV.out.2.2 HK.out HF.out.1).2, HT.out.2.2]; exact HT.out.1.alloc (refs := refs) (B0 := w6.heap.size) (bx := bx) (A1 := A1) (A2 := A2) (c1 := c1) (c2 := c2) hcf (fun b t h => h.imp (fun h => h.2) fun h => h.2) (by have h2 := HF.out.2.1; rw [h2]; simpa using hb9) hm9 (hc79.blk hbx fun h => by rcases h with h | h <;> exact absurd h (by decide)) (hr1.keep hc79 (fun b _ h => by rcases h with h | h <;> exact absurd h (by decide)) fun _ _ h => h) (hr2.keep hc79 (fun b _ h => by rcases h with h | h <;> exact absurd h (by decide)) fun _ _ h => h) hch6.size hbx0 (by rw [HF.out.2.1]; exact HF.out.2.2.2), Nat.le_refl _, fun b hb => ?_⟩
                · rcases h with ⟨rfl, rfl⟩ | ⟨rfl, rfl⟩
                  · exact ⟨HT.out.1.own.1, .inl rfl⟩
                  · exact ⟨HT.out.1.own.2, .inr (.inr rfl)⟩
                · rcases hb with hb | hb
                  · exact .inl hb
                  · exact .inr (Nat.le_trans HT.out.2.1.size hb.1)
end Go.Proofs.Yteigopmdhhgnfaa
