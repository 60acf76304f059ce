/-
  Collect of the program's heap.
-/
import Derived.Test.YteigopmdhhgnfaaHpNames
import Derived.Test.YteigopmdhhgnfaaHpSw
import Derived.StillTail
namespace Go.Proofs.Yteigopmdhhgnfaa
open Go.RowKit
set_option linter.unusedVariables false
set_option linter.unusedSimpArgs false

theorem used_filter (S : List ObjD) (q : ObjD → Bool) : usedO (S.filter q) ≤ usedO S := by
  induction S with
  | nil => exact Nat.le_refl _
  | cons a S ih =>
    rw [List.filter_cons]
    split <;> simp only [usedO] <;> omega
theorem sweep_le (S : List ObjD) (roots : List Int) (j : Nat) : usedO (sweepO S roots j) ≤ usedO S := by
  have h1 := used_filter (S.take j) (fun o => rchB S roots o.name)
  have h2 := used_append (S.take j) (S.drop j)
  rw [List.take_append_drop] at h2
  unfold sweepO
  rw [used_append]
  omega
theorem sweep_len {S : List ObjD} {roots : List Int} {j : Nat} {o : ObjD} (h : S[j]? = some o) (hr : rchB S roots o.name = false) : (sweepO S roots (j + 1)).length + 1 = (sweepO S roots j).length := by
  rw [sweep_drop h hr, sweep_cut h]
  simp only [List.length_append, List.length_cons]
  omega
theorem sweep_len_le (S : List ObjD) (roots : List Int) (j : Nat) : (sweepO S roots j).length ≤ S.length := by
  unfold sweepO
  have h1 := List.length_filter_le (fun o : ObjD => rchB S roots o.name) (S.take j)
  have h2 := congrArg List.length (List.take_append_drop j S)
  rw [List.length_append] at h2 ⊢
  omega
def ptrF (bo : Nat → Nat) (S : List ObjD) : Int → Option Value := fun x => (findO S x).map fun o => Value.pointer (some ⟨bo o.name, 0, none⟩)
/-- What Collect turns. -/
def MC (p m : Nat) (q t : Nat) : Prop := (q = p ∧ t = 75) ∨ (q = m ∧ t = 0)
def collRel (p m n : Nat) (bo : Nat → Nat) (S : List ObjD) (roots : List Int) (bud : Nat) (w2 : World) (vg i : Value) (wr : World) : Prop :=
  ∃ j least cnt : Nat, j ≤ S.length ∧ i = .int .i64 (j : Int) ∧ vg = .int .i64 ((S.length - (sweepO S roots j).length : Nat) : Int) ∧ Blk wr p 75 #[.map (some m), .int .i64 (bud : Int), .int .i64 ((usedO (sweepO S roots j) : Nat) : Int), .int .i64 (least : Int)] ∧
    IMap wr m n cnt (ptrF bo (sweepO S roots j)) ∧ (1 ≤ least ∧ least ≤ 70000 ∧ ∀ k : Nat, 1 ≤ k → k < least → (findO (sweepO S roots j) k).isSome = true) ∧ Chg (MC p m) w2 wr
def CollRes (G : Nat → Prop) (p m n : Nat) (bo : Nat → Nat) (A : Nat → Option Addr) (c : Nat → Nat) (S : List ObjD) (bud : Nat) (roots : List Int) (w : World) (e : Ending) (w' : World) : Prop :=
  (knownO S roots = false → e = .returned (.tuple #[.int .i64 0, .int .i64 15]) ∧ Chg (fun _ _ => False) w w') ∧
  (knownO S roots = true → ∃ least cnt, e = .returned (.tuple #[.int .i64 ((S.length - (liveO S roots).length : Nat) : Int), .int .i64 0]) ∧ least ≤ 70000 ∧ HpI G w' p m n cnt bo A c (liveO S roots) bud least ∧ Chg (MH G) w w')
set_option maxRecDepth 100000 in
set_option maxHeartbeats 8000000 in
theorem hcollect_any (G : Nat → Prop) (B : Nat) (w : World) (p m n cnt : Nat) (bo : Nat → Nat) (A : Nat → Option Addr) (c : Nat → Nat) (S : List ObjD) (bud least : Nat) (roots : List Int) (RA : Option Addr) (rc : Nat) (h : HpI G w p m n cnt bo A c S bud least)
    (hr : SlR B 0 1 IntZ w (.slice RA roots.length rc) roots) (hB : B ≤ w.heap.size) (hI : ∀ r ∈ roots, I64 r) (hl : roots.length ≤ 1048576) (hle : least ≤ 70000) :
    Calls Try.prog 23 #[.pointer (some ⟨p, 0, none⟩), .slice RA roots.length rc] w (CollRes G p m n bo A c S bud roots w) := by
  have hmk := hmark_any G B w p m n cnt bo A c S bud least roots RA rc h hr hB hI hl
  have HH := Lib.hid h
  clear h hr hB hI
  cases hk : knownO S roots with
  | false =>
    go_enter Try.func23, Try.ntmps23
    go_wp2_with fail
    refine hmk.mono fun e w1 h => ?_
    obtain ⟨_, h1, hc1⟩ := h
    obtain rfl := h1 hk
    have HM := Lib.hid (And.intro hc1 hk)
    clear hmk hc1 hk
    go_wp2_with fail
    go_ret2
    exact ⟨fun _ => ⟨rfl, HM.out.1⟩, fun h => by rw [HM.out.2] at h; cases h⟩
  | true =>
    go_enter Try.func23, Try.ntmps23
    go_wp2_with fail
    refine hmk.mono fun e w1 h => ?_
    obtain ⟨h1, _, hc1⟩ := h
    obtain ⟨b, K, nn, rfl, hb, hm, hnn, hnd, hK⟩ := h1 hk
    have hna := hnames_any G w1 p m n cnt bo A c S bud least (HH.out.keep hc1 fun _ _ _ => id)
    have HM := Lib.hid (And.intro hb (And.intro hm (And.intro hK (And.intro hc1 hk))))
    clear hb hm hnn hnd hK hc1 hk hmk
    go_wp2_with fail
    refine hna.mono fun e w2 h => ?_
    obtain ⟨A2, c2, rfl, hrow, hc2⟩ := h
    have hcw := HM.out.2.2.2.1.trans hc2
    have hH2 := HH.out.keep hcw fun _ _ _ => id
    have H2 := Lib.hid (And.intro hrow (And.intro hcw (And.intro hH2 (HM.out.2.1.keep hc2 id))))
    clear hna hrow hc2 hcw hH2
    go_wp2_with fail
    go_loopw [8, 25] (fun vg i wr => collRel p m n bo S roots bud w2 vg i wr) (fun _ i _ => S.length - (intOf i).toNat)
    case atStart =>
      refine ⟨0, least, cnt, Nat.zero_le _, rfl, by rw [sweep_zero]; simp, by rw [sweep_zero]; exact H2.out.2.2.1.blk, by rw [sweep_zero]; exact H2.out.2.2.1.map, ⟨H2.out.2.2.1.low.1, hle, by rw [sweep_zero]; exact H2.out.2.2.1.low.2⟩, Chg.refl _ _⟩
    case round =>
      obtain ⟨j, le, ct, hj, rfl, rfl, hblk, hmap, hlow, hch⟩ := hrel
      have hS := Nat.le_trans (len_le_used S) (Nat.le_trans HH.out.room.1 HH.out.room.2)
      have q3 : IntKind.i64.wrap ((j : Int) + 1) = (j : Int) + 1 := IntWalk.i64_in _ ⟨by omega, by omega⟩
      by_cases hlt : j < S.length
      · have q1 : decide (j < S.length) = true := decide_eq_true hlt
        have q2 : (j : Int) < (S.length : Int) := by omega
        obtain ⟨o, ho⟩ : ∃ o, S[j]? = some o := ⟨_, List.getElem?_eq_getElem hlt⟩
        have hoS := List.mem_of_getElem? ho
        have htop := HH.out.good.top o hoS
        have hoI : I64 (o.name : Int) := by unfold I64; omega
        obtain ⟨gb, go, rfl, z0⟩ := int_at ((H2.out.1.keep1 hch (fun _ _ h => by rcases h with h | h <;> exact absurd h.2 (by decide)) fun _ _ h => h).settleT (R' := IntZ) (by decide) fun _ _ h => h) (show j < (S.map fun o => (o.name : Int)).length by simpa using hlt)
        have hgd : (S.map fun o => (o.name : Int)).getD j 0 = (o.name : Int) := by rw [List.getD_eq_getElem?_getD, List.getElem?_map, ho]; rfl
        rw [hgd] at z0
        have hmb : ¬ MC p m b 0 := fun h => by
          have h1 := HM.out.1
          have h2 := HH.out.lt m HH.out.own.2
          rcases h with h | h
          · exact absurd h.2 (by decide)
          · have := h.1; omega
        have hlk := (H2.out.2.2.2.keep hch hmb).look (t := 81) (z := .bool false) Try.underlying81 rfl hoI
        cases hr : rchB S roots o.name with
        | true =>
          rw [setI_in ((HM.out.2.2.1 _).2 (rchB_iff.1 hr))] at hlk
          simp only [Option.getD_some] at hlk
          have hkp := sweep_keep ho hr
          have HR := Lib.hid (show collRel p m n bo S roots bud w2 (.int .i64 ((S.length - (sweepO S roots j).length : Nat) : Int)) (.int .i64 ((j : Int) + 1)) wr from ⟨j + 1, le, ct, hlt, by simp, by rw [hkp], by rw [hkp]; exact hblk, by rw [hkp]; exact hmap, by rw [hkp]; exact hlow, hch⟩)
          clear hblk hmap hlow hch hkp hr ho hoS htop hoI hgd hmb
          go_wp2_with fail
          go_roundw
          case rel => exact HR.out
          case measure => simp [intOf]; omega
        | false =>
          rw [setI_out (fun hk => by have := rchB_iff.2 ((HM.out.2.2.1 _).1 hk); rw [hr] at this; cases this)] at hlk
          simp only [Option.getD_none] at hlk
          have hun := sweep_used ho hr
          have hfo := sweep_find HH.out.good.sorted ho hr
          have HL := Lib.hid (And.intro (sweep_len ho hr) (And.intro (sweep_len_le S roots j) (HH.out.good.pos o hoS)))
          have hob : o ∈ sweepO S roots j := by rw [sweep_cut ho]; simp
          have hfn := findO_some (sweep_sorted HH.out.good.sorted roots j) hob
          obtain ⟨A', c', hb0, _⟩ := H2.out.2.2.1.obj o hoS
          have y0 : wr.cell? ⟨bo o.name, 0, none⟩ = some (.slice (A o.name) o.cells.length (c o.name)) := by simpa using (hch.blk hb0 fun h => by rcases h with h | h <;> exact absurd h.2 (by decide)).cell 0
          have hlo := (hmap.keep (Chg.refl (fun _ _ => False) wr).drew id).look (t := 73) (z := .pointer none) Try.underlying73 rfl hoI
          unfold ptrF at hlo
          rw [hfn] at hlo
          simp only [Option.map_some, Option.getD_some] at hlo
          obtain ⟨U, hU⟩ : ∃ U, usedO (sweepO S roots j) = U := ⟨_, rfl⟩
          obtain ⟨V, hV⟩ : ∃ V, usedO (sweepO S roots (j + 1)) = V := ⟨_, rfl⟩
          have hcl := used_ge hoS
          have hUS : U ≤ 65536 := by rw [← hU]; exact Nat.le_trans (sweep_le S roots j) (Nat.le_trans HH.out.room.1 HH.out.room.2)
          rw [hU] at hblk hun
          rw [hV] at hun
          have x0 : wr.cell? ⟨p, 0, none⟩ = some (.map (some m)) := by simpa using hblk.cell 0
          have x2 : wr.cell? ⟨p, 2, none⟩ = some (.int .i64 (U : Int)) := by simpa using hblk.cell 2
          have x2f := hblk.frozen 2
          have qa : IntKind.i64.wrap (1 + (o.cells.length : Int)) = 1 + (o.cells.length : Int) := IntWalk.i64_in _ ⟨by omega, by omega⟩
          have qb : IntKind.i64.wrap ((U : Int) - (1 + (o.cells.length : Int))) = (V : Int) := by rw [show (U : Int) - (1 + (o.cells.length : Int)) = (V : Int) by omega]; exact IntWalk.i64_in _ ⟨by omega, by omega⟩
          have HD := Lib.hid (And.intro hblk (And.intro hmap (And.intro hlow (And.intro hch (And.intro hU (And.intro hV (And.intro hun (And.intro hfo (And.intro hoI htop)))))))))
          clear hblk hmap hlow hch hU hV hun hfo hob hfn hb0 hr ho hoS htop hoI hgd hmb hcl hUS
          go_wp2_with fail
          refine wp_region_still_tail 18 (by kernel_rfl) (by kernel_rfl) ?_
          simp only [List.take_succ_cons, List.take_zero, List.drop_succ_cons, List.drop_zero]
          repeat (with_reducible refine wpStill_step (fun K hK => ?_); go_simp; with_reducible refine hK _ ?_; clear hK K)
          try with_reducible refine wpStill_nil ?_
          clear y0 hlo z0 hlk
          have hdr := (Chg.refl (fun _ _ => False) wr).drew
          have hb1 := hdr.blk HD.out.1 id
          have hm1 := HD.out.2.1.keep hdr id
          have HE := Lib.hid hdr
          clear hdr x0 x2 x2f
          change wpList _ _ _ _ _ wr.drew
          generalize wr.drew = w3 at hb1 hm1 HE ⊢
          have x2 : w3.cell? ⟨p, 2, none⟩ = some (.int .i64 (U : Int)) := by simpa using hb1.cell 2
          have x2f := hb1.frozen 2
          have hb2 := hb1.set_ 2 (.int .i64 (V : Int))
          have hc2 := chg_set (j := 2) hb1 (.int .i64 (V : Int))
          have x0 : (w3.setCell ⟨p, 2, none⟩ (.int .i64 (V : Int))).cell? ⟨p, 0, none⟩ = some (.map (some m)) := by simpa using hb2.cell 0
          obtain ⟨w4, hdel, hm4, hc4⟩ := (hm1.keep hc2 fun h => absurd h.2 (by decide)).del (t := 73) Try.underlying73 HD.out.2.2.2.2.2.2.2.2.1 0
          have hb4 := hc4.blk (show Blk (w3.setCell ⟨p, 2, none⟩ (.int .i64 (V : Int))) p 75 #[.map (some m), .int .i64 (bud : Int), .int .i64 (V : Int), .int .i64 (le : Int)] by simpa using hb2) fun h => absurd h.2 (by decide)
          have x3 : w4.cell? ⟨p, 3, none⟩ = some (.int .i64 (le : Int)) := by simpa using hb4.cell 3
          have x3f := hb4.frozen 3
          have HB4 := Lib.hid hb4
          clear hb4
          have HG := Lib.hid (And.intro (show Blk (w3.setCell ⟨p, 2, none⟩ (.int .i64 (V : Int))) p 75 #[.map (some m), .int .i64 (bud : Int), .int .i64 (V : Int), .int .i64 (le : Int)] by simpa using hb2) (And.intro hc2 (And.intro hm4 hc4)))
          clear hb1 hm1 hb2 hc2 hm4 hc4
          go_wp2_with fail
          go_roundw
          case rel =>
            have hmin : ((min le o.name : Nat) : Int) = min (le : Int) (o.name : Int) := by omega
            have hb5 := HB4.out.set_ 3 (.int .i64 (min (le : Int) (o.name : Int)))
            have hc5 := chg_set (j := 3) HB4.out (.int .i64 (min (le : Int) (o.name : Int)))
            refine ⟨j + 1, min le o.name, _, hlt, by simp, ?_, ?_, (HG.out.2.2.1.keep hc5 fun h => absurd h.2 (by decide)).ext fun x _ => ?_, ⟨?_, ?_, fun k h1 h2 => ?_⟩, ?_⟩
            · have h1 := HL.out.1
              have h2 := HL.out.2.1
              congr 1
              omega
            · rw [HD.out.2.2.2.2.2.1, hmin]
              simpa using hb5
            · unfold delI ptrF
              rw [HD.out.2.2.2.2.2.2.2.1]
              split <;> simp_all
            · have h1 := HL.out.2.2
              have h2 := HD.out.2.2.1.1
              omega
            · have h2 := HD.out.2.2.1.2.1
              omega
            · rw [HD.out.2.2.2.2.2.2.2.1, if_neg (by omega)]
              exact HD.out.2.2.1.2.2 k h1 (by omega)
            · exact HD.out.2.2.2.1.trans ((HE.out.mono fun _ _ _ h => h.elim).trans ((HG.out.2.1.mono fun _ _ _ h => .inl h).trans ((HG.out.2.2.2.mono fun _ _ _ h => .inr h).trans (hc5.mono fun _ _ _ h => .inl h))))
          case measure => simp [intOf]; omega
      · have q1 : decide (j < S.length) = false := decide_eq_false hlt
        obtain rfl : j = S.length := by omega
        rw [sweep_all] at hblk hmap hlow ⊢
        have HF := Lib.hid (And.intro hblk (And.intro hmap (And.intro hlow hch)))
        clear hblk hmap hlow hch
        go_wp2_with fail
        go_ret2
        refine ⟨fun h => (by rw [HM.out.2.2.2.2] at h; cases h), fun _ => ⟨le, ct, rfl, HF.out.2.2.1.2.1, ⟨HF.out.1, HF.out.2.1, fun o ho => ?_, fun o ho o' ho' g h1 h2 => HH.out.dist o (liveO_mem.1 ho).1 o' (liveO_mem.1 ho').1 g h1 h2, HH.out.own, fun q hq => Nat.lt_of_lt_of_le (H2.out.2.2.1.lt q hq) HF.out.2.2.2.size, liveO_good HH.out.good roots, ⟨HF.out.2.2.1.1, HF.out.2.2.1.2.2⟩, ⟨Nat.le_trans (used_filter _ _) HH.out.room.1, HH.out.room.2⟩⟩, ?_⟩⟩
        · exact (H2.out.2.2.1.obj o (liveO_mem.1 ho).1).keep HF.out.2.2.2 fun q hq => ⟨fun h => by rcases h with h | h <;> exact absurd h.2 (by decide), fun h => by rcases h with h | h <;> exact absurd h.2 (by decide), fun h => by rcases h with h | h <;> exact absurd h.2 (by decide)⟩
        · refine (H2.out.2.1.mono fun _ _ _ h => h.elim).trans (HF.out.2.2.2.mono fun q t _ h => ?_)
          rcases h with ⟨rfl, rfl⟩ | ⟨rfl, rfl⟩
          · exact ⟨HH.out.own.1, .inl rfl⟩
          · exact ⟨HH.out.own.2, .inr (.inr rfl)⟩
end Go.Proofs.Yteigopmdhhgnfaa
