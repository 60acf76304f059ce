/-
  code.measure: the cells of all shapes, or that one is not sound.
-/
import Derived.Test.YtdegfnejhamejaaShapeZk
namespace Go.Proofs.Ytdegfnejhamejaa
open Go.RowKit
set_option linter.unusedVariables false
set_option linter.unusedSimpArgs false

/-- A row of natural numbers in new memory. -/
def natV (l : List Nat) : List Value := l.map fun x : Nat => Value.int .i64 (x : Int)
def CellsR (base : Nat) (w : World) (A : Option Addr) (c : Nat) (l : List Nat) : Prop := w.ownsRow base 3 1 (.slice A l.length c) l.length (natV l)
theorem CellsR.nil (base : Nat) (w : World) : CellsR base w none 0 [] := World.ownsRow_nil _ _ _ _
theorem natV_flat : ∀ l : List Nat, (l.map fun x : Nat => [Value.int .i64 (x : Int)]).flatten = natV l
  | [] => rfl
  | x :: l => by rw [List.map_cons, List.flatten_cons, natV_flat l]; rfl
theorem CellsR.ints {base c : Nat} {w : World} {A : Option Addr} {l : List Nat} (h : CellsR base w A c l) (h64 : ∀ x ∈ l, x ≤ 9223372036854775807) : IntsR w.heap.size w (.slice A l.length c) (l.map Int.ofNat) := by
  have h' : w.ownsRow base 3 1 (.slice A l.length c) l.length (l.map fun x : Nat => [Value.int .i64 (x : Int)]).flatten := by rw [natV_flat]; exact h
  have := SlR.of_own (B := 0) (e := 3) (R := fun _ cs (x : Int) => cs = [.int .i64 x] ∧ I64 x) (l := l.map Int.ofNat) (by decide) h' (by simp) (by simp) (by simp) (fun k x cs hx hcs => by
    rw [List.getElem?_map] at hx hcs
    obtain ⟨y, hy, rfl⟩ := Option.map_eq_some_iff.1 hx
    rw [hy] at hcs
    simp at hcs
    subst hcs
    have := h64 y (List.mem_of_getElem? hy)
    exact ⟨rfl, by unfold I64; constructor <;> simp only [Int.ofNat_eq_natCast] <;> omega⟩)
  exact SlR.settle this fun _ _ h => h
theorem natV_snoc (l : List Nat) (x : Nat) : natV (l ++ [x]) = natV l ++ [.int .i64 (x : Int)] := by simp [natV]
theorem Seen.keep {M : Nat → Nat → Prop} {b n : Nat} {ks : List (List Int)} {w w' : World} (h : Seen w b n ks) (hc : Chg M w w') (hm : ∀ t, ¬ M b t) : Seen w' b n ks := by
  have hlt := h.lt
  refine h.of_block ?_
  rw [Array.getElem?_eq_getElem hlt]
  exact hc.keep b _ (Array.getElem?_eq_getElem hlt) (hm _)
theorem okS_sound {l : List ShapeD} {k : Nat} {cells : List Nat} {x : ShapeD} (h : wid (l.take k) = some (l.take k, cells)) : okS cells (keysOf (l.take k)) x = soundS (l.take k) cells x := by
  unfold okS soundS
  cases hh : headOk cells.length x
  · simp
  · have h16 : x.list.length ≤ 16 := by simp [headOk] at hh; exact hh.1.1.1
    by_cases h8 : x.kind = 8
    · simp [dupOf, h8]
    · rw [dup_keys (wid_parts h) h16 h8]; simp [h8]
theorem ShapeRes.no {b n : Nat} {ks : List (List Int)} {cells : List Nat} {s : ShapeD} {w w' : World} {e : Ending} (h : ShapeRes b n ks cells s w e w') (ho : okS cells ks s = false) : Chg (fun b' _ => b' = b) w w' ∧ e = .returned (.int .i64 0) := by
  obtain ⟨h1, h2⟩ := h
  unfold okS at ho
  rw [if_neg (by rw [ho]; simp)] at h2
  exact ⟨h1, h2⟩
theorem ShapeRes.yes {b n : Nat} {ks : List (List Int)} {cells : List Nat} {s : ShapeD} {w w' : World} {e : Ending} (h : ShapeRes b n ks cells s w e w') (ho : okS cells ks s = true) :
    Chg (fun b' _ => b' = b) w w' ∧ e = .returned (.int .i64 ((cellsOfS cells s : Nat) + 1)) ∧ Seen w' b (n + 1) (ks ++ if s.kind = 8 then [] else [keyL s]) := by
  obtain ⟨h1, h2⟩ := h
  unfold okS at ho
  rw [if_pos ho] at h2
  exact ⟨h1, h2.1, h2.2⟩
theorem CellsR.drewN {base c : Nat} {w : World} {A : Option Addr} {l : List Nat} (h : CellsR base w A c l) (q : Nat) : CellsR base (w.drewN q) A c l := h
theorem CellsR.rebase {base base' c : Nat} {w : World} {A : Option Addr} {l : List Nat} (h : CellsR base w A c l) (hb : base' ≤ base) : CellsR base' w A c l := by
  obtain ⟨h0, h1⟩ := h
  refine ⟨h0, ?_⟩
  rcases h1 with h1 | ⟨g, cap, cur, hv, hg, r⟩
  · exact .inl h1
  · exact .inr ⟨g, cap, cur, hv, Nat.le_trans hb hg, r⟩
def MeasRes (m : ModD) (w : World) (e : Ending) (w' : World) : Prop :=
  Below w.heap.size w w' ∧ match widths m.types with
    | none => e = .returned (.tuple #[.slice none 0 0, .bool false])
    | some l => ∃ A c, e = .returned (.tuple #[.slice A l.length c, .bool (decide ((m.types.length : Int) ≤ 256))]) ∧ CellsR w.heap.size w' A c l
theorem MeasRes.bad {m : ModD} {w w' : World} (h : Below w.heap.size w w') (hw : widths m.types = none) : MeasRes m w (.returned (.tuple #[.slice none 0 0, .bool false])) w' := by
  refine ⟨h, ?_⟩
  rw [hw]
theorem MeasRes.good {m : ModD} {w w' : World} {l : List Nat} {A : Option Addr} {c : Nat} {b : Bool} (h : Below w.heap.size w w') (hw : widths m.types = some l) (hb : decide ((m.types.length : Int) ≤ 256) = b) (hc : CellsR w.heap.size w' A c l) :
    MeasRes m w (.returned (.tuple #[.slice A l.length c, .bool b])) w' := by
  refine ⟨h, ?_⟩
  rw [hw]
  exact ⟨A, c, by rw [hb], hc⟩
def MeasL (w1 : World) (b : Nat) (types : List ShapeD) (v i : Value) (wr : World) : Prop :=
  ∃ (k : Nat) (cells : List Nat) (A : Option Addr) (c : Nat), k ≤ types.length ∧ i = .int .i64 k ∧ v = .slice A cells.length c ∧ wid (types.take k) = some (types.take k, cells) ∧ CellsR w1.heap.size wr A c cells ∧ Seen wr b k (keysOf (types.take k)) ∧ Chg (fun b' t => b' = b) w1 wr

set_option maxRecDepth 100000 in
set_option maxHeartbeats 1000000 in
theorem measure_any (w : World) (B : Nat) (v : Value) (m : ModD) (hBw : B ≤ w.heap.size) (hm : ModR B w v m) (h1 : cMod m ≤ 1099511627776) :
    Calls Try.prog 21 #[v] w (MeasRes m w) := by
  have hmm := @run_makeMap Try.prog
  obtain ⟨types, funcs⟩ := m
  obtain ⟨A, c, A', c', rfl, hT, hF⟩ := hm
  unfold cMod at h1
  simp only at hT hF h1 ⊢
  obtain ⟨i3, hi3, hz3, hs3, hb3⟩ := info_parts infoInt
  have hnT := len_le_sum cShape (fun _ => by unfold cShape cInts; omega) types
  have hb0 := (Blk.new w 25 #[.slice A types.length c, .slice A' funcs.length c']).alloc (.map #[] 0)
  have hc0 := (chg_alloc w (.cells #[.slice A types.length c, .slice A' funcs.length c'] 25)).alloc (.map #[] 0)
  have hs0 := Seen.made (w.alloc (.cells #[.slice A types.length c, .slice A' funcs.length c'] 25))
  rw [World.size_alloc] at hs0
  have hsz : ((w.alloc (.cells #[.slice A types.length c, .slice A' funcs.length c'] 25)).alloc (.map #[] 0)).heap.size = w.heap.size + 1 + 1 := by simp
  go_enter Try.func21, Try.ntmps21
  go_wp2_with fail
  generalize hw1 : (w.alloc (.cells #[.slice A types.length c, .slice A' funcs.length c'] 25)).alloc (.map #[] 0) = w1 at hb0 hc0 hs0 hsz ⊢
  replace hT := hT.keep hc0 (fun _ _ _ => id)
  have HW := Lib.hid (And.intro hc0 (And.intro hb0 (And.intro hs0 hsz)))
  have HT := Lib.hid hT
  clear hw1 hF hc0 hs0 hb0 hsz hT
  go_loopw [4, 13] (fun v i wr => MeasL w1 (w.heap.size + 1) types v i wr) (fun _ i _ => types.length - (intOf i).toNat)
  case atStart => exact ⟨0, [], none, 0, Nat.zero_le _, rfl, rfl, rfl, CellsR.nil _ _, HW.out.2.2.1, Chg.refl _ _⟩
  case round =>
    obtain ⟨k, cells, A2, c2, hk, rfl, rfl, hwid, hcl, hsn, hch⟩ := hrel
    obtain ⟨hlen, h64⟩ := wid_len hwid
    rw [List.length_take] at hlen
    obtain ⟨e0, e1⟩ := (hch.blk HW.out.2.1 (by omega)).cells2
    obtain ⟨wo, rfl⟩ : ∃ wo : World, wo = wr := ⟨_, rfl⟩
    by_cases hlt : k < types.length
    · obtain ⟨bb, o, x, A3, c3, rfl, hkx, hi1, hi2, hl, z0, z1, z2⟩ := (HT.out.keep hch (fun b t hb h => by omega)).at_ hlt
      have hsum := sum_at cShape hkx
      rw [show cShape x = 20 + (10 + (x.list.map fun _ => 10).sum) from rfl] at hsum
      have hnx : x.list.length ≤ 1099511627776 := by have := len_le_sum (fun _ : Int => 10) (fun _ => by omega) x.list; omega
      have hbx := Blk.new wo 37 #[.int .i64 x.kind, .slice A3 x.list.length c3, .int .i64 x.res]
      have hcb := chg_alloc wo (.cells #[.int .i64 x.kind, .slice A3 x.list.length c3, .int .i64 x.res] 37)
      have hbase := hch.size
      have HX := Lib.hid (And.intro hkx (And.intro hwid (And.intro hch hcb)))
      have HC := Lib.hid (And.intro (hcb.own hcl (fun _ _ => id)) (And.intro (hl.keep hcb (fun _ _ _ => id)) (hsn.keep hcb (fun _ => id))))
      have HL := Lib.hid (And.intro hlen h64)
      clear hkx hwid hch hcb hcl hl hsn hlen h64 e0 e1
      go_wp2_with fail
      refine (shape_any _ x A3 c3 cells A2 c2 (w.heap.size + 1) k B (keysOf (types.take k)) HC.out.2.1 hi1 hi2 (CellsR.ints (base := w1.heap.size) HC.out.1 (fun x hx => by have := HL.out.2 x hx; omega)) HL.out.2 HC.out.2.2 (by omega) (by have := HL.out.1; omega) hnx).mono fun e w3 hh => ?_
      cases hok : soundS (types.take k) cells x
      · obtain ⟨hc3, rfl⟩ := hh.no ((okS_sound HX.out.2.1).trans hok)
        have Hok := Lib.hid hok
        have HH := Lib.hid hc3
        clear hok hc3 z0 z1 z2 hbx
        go_wp2_with fail
        go_ret2
        refine MeasRes.bad ?_ (wid_bad HX.out.2.1 HX.out.1 Hok.out)
        exact Chg.below (M := fun b' _ => b' = w.heap.size + 1) (((HW.out.1.mono fun _ _ _ h => h.elim).trans HX.out.2.2.1).trans ((HX.out.2.2.2.mono fun _ _ _ h => h.elim).trans HH.out)) (fun b t h => by omega) (Nat.le_refl _)
      · obtain ⟨hc3, rfl, hsn3⟩ := hh.yes ((okS_sound HX.out.2.1).trans hok)
        obtain ⟨nc, hnc⟩ : ∃ nc, cellsOfS cells x = nc := ⟨_, rfl⟩
        have hcw := wid_snoc HX.out.2.1 HX.out.1 hok
        rw [hnc] at hcw
        have hn64 : nc ≤ 64 := (wid_len hcw).2 nc (by simp)
        have how := hc3.own HC.out.1 (fun g hg h => by have := (own_blk HC.out.1 hg).1; have := HW.out.2.2.2; omega)
        have hbase3 := Nat.le_trans hbase (Nat.le_trans HX.out.2.2.2.size hc3.size)
        have hle : cells.length ≤ 1099511627776 := by have := HL.out.1; omega
        have Hok := Lib.hid hok
        have HH := Lib.hid (And.intro hc3 (And.intro hsn3 hcw))
        have hne : ¬ ((nc : Int) + 1 = 0) := by omega
        have HN := Lib.hid hn64
        clear hn64
        have HR := Lib.hid (show wrap64 (nc : Int) = nc from wrap64_id (by omega) (by have := HN.out; omega))
        rw [hnc]
        clear hok hc3 z0 z1 z2 hbx hsn3 hcw
        go_wp2_with (at_builtin; go_must (refine wpList_append_new rfl (.tmp 23) (.tmp 26) 31 rfl w1.heap.size 3 i3 (.int .i64 0) 1 8 Try.underlying31 hi3 hz3 hs3 hb3 rfl (by omega) A2 cells.length c2 (natV cells) rfl how 1 1 [.int .i64 (wrap64 (nc : Int))] rfl (by first | rfl | simp) rfl (by intro u hu; simp at hu; subst hu; rfl) (by simp only [maxLen]; omega) (by omega) hbase3 ?_))
        intro A4 c4 w4 hap
        have hapc := hap.chg how
        have HAP := Lib.hid (And.intro hap hapc)
        clear hap hapc how
        go_wp2
        go_roundw
        case rel =>
          obtain ⟨hap, hapc⟩ := HAP.out
          obtain ⟨hc3, hsn3, hcw⟩ := HH.out
          refine ⟨k + 1, cells ++ [nc], A4, c4, hlt, by simp, by simp, hcw, ?_, ?_, ?_⟩
          · have := hap.own
            rw [HR.out] at this
            unfold CellsR
            rw [natV_snoc, List.length_append]
            exact this
          · have h1 : keysOf (types.take (k + 1)) = keysOf (types.take k) ++ if x.kind = 8 then [] else [keyL x] := by
              rw [List.take_add_one, HX.out.1]
              exact keysOf_snoc _ _
            rw [h1]
            exact hsn3.keep hapc (fun t h => by have := HW.out.2.2.2; omega)
          · have h1 : Chg (fun b' t => b' = w.heap.size + 1 ∨ (w1.heap.size ≤ b' ∧ t = 3)) w1 w4 :=
              ((HX.out.2.2.1.mono fun _ _ _ h => .inl h).trans ((HX.out.2.2.2.mono fun _ _ _ h => h.elim).trans (hc3.mono fun _ _ _ h => .inl h))).trans (hapc.mono fun _ _ _ h => .inr h)
            exact h1.mono fun b t hb h => h.elim id fun h => by omega
        case measure => simp [intOf]; omega
    · obtain rfl : k = types.length := by omega
      rw [List.take_length] at hwid hsn
      have HE := Lib.hid (And.intro hwid (And.intro hcl hch))
      clear hwid hcl hch hsn
      have HL := Lib.hid (And.intro hlen h64)
      clear hlen h64
      go_wp2_with fail
      go_quiet (fail)
      go_wp2
      go_ret2
      refine MeasRes.good (m := ⟨types, funcs⟩) (l := cells) ?_ (wid_full (k := types.length) (by simp only [List.take_length]; exact HE.out.1) (Nat.le_refl _)) rfl ?_
      · exact below_drewN (Chg.below (M := fun b' _ => b' = w.heap.size + 1) ((HW.out.1.mono fun _ _ _ h => h.elim).trans HE.out.2.2) (fun b t h => by omega) (Nat.le_refl _)) _
      · exact CellsR.rebase (CellsR.drewN HE.out.2.1 _) (by have := HW.out.2.2.2; omega)
end Go.Proofs.Ytdegfnejhamejaa
