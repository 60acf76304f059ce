/-
  maps.Keys over maps with int keys: what its iterator hands out.
-/
import Derived.Test.YteigopmdhhgnfaaHRange
import Derived.Test.YteigopmdhhgnfaaIMap
import Derived.Maps.RangeWalk
import Derived.Sort.MapsRangeIn
namespace Go.Proofs.Yteigopmdhhgnfaa
open Go.RowKit Go.Maps Go.ChangeMaps
attribute [local go_sem] Oper.semAt_some
set_option linter.unusedVariables false
set_option linter.unusedSimpArgs false

theorem ranges_keep {k b r n cnt : Nat} {R : Value → Option (DataW Value × List MemPlace)} {D : DataW Value} {left : Lit → Bool} {w w' : World} {M : Nat → Nat → Prop} (h : w.ranges Try.prog k R b r n D left cnt) (hc : Chg M w w') (hb : ¬ M b 0) (hr : ¬ M r 0) : w'.ranges Try.prog k R b r n D left cnt := by
  obtain ⟨es, clock, since, seen, c0, h1, F, h2, h3, h4, h5⟩ := h
  exact ⟨es, clock, since, seen, c0, hc.keep _ _ h1 hb, F, h2, h3, hc.keep _ _ h4 hr, h5⟩
/-- What may be handed out next: a key that has not been handed out. -/
def KeyG (f : Int → Option Value) (h : List Value) (x : Value) (args : Array Value) (A B : World) : Prop := args = #[x] ∧ ∃ z : Int, x = .int .i64 z ∧ I64 z ∧ (f z).isSome = true ∧ x ∉ h
/-- At the end: all keys have been handed out. -/
def KeyF (f : Int → Option Value) (h : List Value) : Prop := ∀ z, I64 z → (f z).isSome = true → Value.int .i64 z ∈ h
set_option maxRecDepth 100000 in
set_option maxHeartbeats 4000000 in
theorem keysB_walks (gb b n m D : Nat) (f : Int → Option Value) (w : World) (hb : Blk w gb 81 #[.map (some b)]) (hm : IMap w b n m f) (hbD : b < D) (hD : D ≤ w.heap.size) : WalksL Try.prog 48 #[.pointer (some ⟨gb, 0, none⟩)] D (KeyG f) (KeyF f) w := by
  intro l J Jx O W hc hJ hJx hJO hY h0
  have y0 : W.cell? ⟨gb, 0, none⟩ = some (.map (some b)) := by simpa using (hc.blk hb id).cell 0
  obtain ⟨D0, hown, hhas, hat0, hsz⟩ := hm.keep hc id
  have hOr : ∀ q, O q → q ≠ W.heap.size := fun q hq => by have := (hJO [] O W h0 q hq).2; omega
  have HJ := Lib.hid (And.intro h0 (And.intro hOr (And.intro hhas (And.intro hJ (And.intro hJO (And.intro hY (Nat.le_trans hD hc.size)))))))
  clear hb hm hc hJ hJx hJO hY h0 hOr hD
  have hdd : ∀ k : Nat, (Fence.wide.depth.isSome = true → 1 ≤ k) := fun k h => (by cases h)
  show Calls Try.prog 48 #[.func (.yield l) #[] #[], .pointer (some ⟨gb, 0, none⟩)] W _
  refine (callsIn_wide (n := 3)).1 ?_
  refine callsIn_of_wp Try.func48 rfl trivial ?_ rfl
  simp only [Try.ntmps48, List.size_toArray, List.length_cons, List.length_nil, Nat.reduceAdd, Nat.reduceSub, Array.replicate_succ, Array.replicate_zero, List.push_toArray, List.append_toArray, List.nil_append, List.cons_append]
  gi_wp2_with (gi_at_range; go_must (refine wpListIn_range_own _ rfl _ 81 rfl 3 _ int_law Try.underlying81 heldE b n D0 rfl hown ?_))
  intro W1 hrg hgr hs1
  have hcr : Chg (fun _ _ => False) W W1 := (Chg.refl (fun _ _ => False) W).grown hgr fun g o hg _ => (by cases hg)
  have hJ1 := HJ.out.2.2.2.1 [] O W W1 (hcr.toL _) HJ.out.1
  have hlk0 : ∀ z, I64 z → (has D0 (keyI z) = true ↔ (f z).isSome = true ∧ Value.int .i64 z ∉ ([] : List Value)) := fun z hz => by rw [hhas z hz]; simp
  have H1 := Lib.hid (And.intro hrg (And.intro hlk0 (And.intro hJ1 hs1)))
  clear hrg hgr hs1 hcr hJ1 hlk0 y0 hown hhas hat0 hsz
  gi_wp2_with fail
  gi_loopw [3] (fun _ wr => ∃ (h : List Value) (O' : Nat → Prop) (left : Lit → Bool) (cnt : Nat), wr.ranges Try.prog 3 heldE b W.heap.size n D0 left cnt ∧ (∀ z, I64 z → (left (keyI z) = true ↔ (f z).isSome = true ∧ Value.int .i64 z ∉ h)) ∧ J h O' wr ∧ (∀ q, O' q → q ≠ W.heap.size) ∧ W1.heap.size ≤ wr.heap.size) (fun _ wr => wr.rangeLeft b W.heap.size)
  case atStart => exact ⟨[], O, _, _, H1.out.1, H1.out.2.1, H1.out.2.2.1, HJ.out.2.1, Nat.le_refl _⟩
  case round =>
    obtain ⟨h, O1, left, cnt, hrg, hlk, hJ1, hO1, hsz⟩ := hrel
    have hmeas := hrg.left_eq
    have H2 := Lib.hid (And.intro hlk (And.intro hJ1 (And.intro hO1 (And.intro hsz hmeas))))
    clear hlk hJ1 hO1 hsz hmeas
    gi_wp2_with (gi_at_next; go_must (refine wpListIn_next_ranges _ rfl _ rfl 3 int_law heldE (Value.int .i64) id (fun key kl hk => by obtain ⟨x, rfl, _⟩ := Maps.keyOf_int_inv Try.underlying3 hk; exact ⟨x, rfl⟩) (fun v _ _ => ⟨v, rfl⟩) b W.heap.size n D0 left cnt rfl hrg ?_ ?_))
    · intro hc0 hl0
      have HE := Lib.hid hl0
      clear hc0 hl0 hrg
      gi_wp2_with fail
      go_end0
      refine ⟨⟨_, rfl⟩, .inl ⟨h, O1, fun z hz hf => ?_, H2.out.2.1⟩⟩
      by_cases hm : Value.int .i64 z ∈ h
      · exact hm
      · have h1 := (H2.out.1 z hz).2 ⟨hf, hm⟩
        rw [HE.out] at h1
        cases h1
    · intro x c kl y1 y2 w' cnt' hkey hlx hv hat hrg' hlt hgs hs hen
      obtain ⟨x', e1, rfl, hwf⟩ := Maps.keyOf_int_inv Try.underlying3 hkey
      cases e1
      have hxI : I64 x := by
        unfold I64
        simp [Lit.wf, IntKind.min, IntKind.max, IntKind.bits, IntKind.signed] at hwf
        omega
      have hch : ChgL W.heap.size wr w' := (Chg.refl _ wr).grown hgs fun g o hg ho => by
        injection hg with hg
        subst hg
        obtain ⟨es, clock, since, seen, c0, _, _, _, _, hr, _⟩ := hrg
        rw [hr] at ho
        injection ho with ho
        subst ho
        exact ⟨Nat.le_refl _, rfl⟩
      have hJ2 := HJ.out.2.2.2.1 h O1 wr w' hch H2.out.2.1
      have hl2 := (H2.out.1 x hxI).1 hlx
      obtain ⟨fn, tmps, assign, body, hy, hR⟩ := HJ.out.2.2.2.2.2.1 2 h (.int .i64 x) O1 #[.int .i64 x] w' w' hJ2 (Chg.refl _ _) ⟨rfl, x, rfl, hxI, hl2.1, hl2.2⟩
      have HN := Lib.hid (And.intro hrg' (And.intro hlt (And.intro hs (And.intro hJ2 hl2))))
      clear hkey hlx hv hat hrg' hlt hgs hs hwf hch hJ2 hl2 hrg
      gi_wp2_with fail
      refine hR.mono fun e W3 h3 => ?_
      rcases h3 with ⟨rfl, O3, hJ3, hc3, hO3⟩ | ⟨rfl, hx3⟩
      · have hJO := HJ.out.2.2.2.2.1 h O1 w' HN.out.2.2.2.1
        have hrgN := HN.out.1
        have hbl : b < w'.heap.size := by obtain ⟨es, clock, since, seen, c0, h1, _⟩ := hrgN; exact (Array.getElem?_eq_some_iff.1 h1).1
        have hrl : W.heap.size < w'.heap.size := by obtain ⟨es, clock, since, seen, c0, _, _, _, _, hr, _⟩ := hrgN; exact (Array.getElem?_eq_some_iff.1 hr).1
        have hrg3 : W3.ranges Try.prog 3 heldE b W.heap.size n D0 (fun z => left z && !z.sameKey (.int .i64 x)) cnt' := ranges_keep hrgN hc3 (fun hh => hh.elim (fun h1 => by have := (hJO b h1).1; omega) fun h1 => by omega) (fun hh => hh.elim (fun h1 => H2.out.2.2.1 _ h1 rfl) fun h1 => by omega)
        have hlk3 : ∀ z, I64 z → ((left (keyI z) && !(keyI z).sameKey (.int .i64 x)) = true ↔ (f z).isSome = true ∧ Value.int .i64 z ∉ h ++ [Value.int .i64 x]) := fun z hz => by
          have h1 := H2.out.1 z hz
          rw [Bool.and_eq_true, h1]
          by_cases he : z = x
          · subst he
            simp [keyI, Lit.sameKey]
          · simp [keyI, Lit.sameKey, he]
        have hO3' : ∀ q, O3 q → q ≠ W.heap.size := fun q hq => (hO3 q hq).elim (fun h1 => H2.out.2.2.1 q h1) fun h1 => by omega
        have HZ := Lib.hid (And.intro hrg3 (And.intro hlk3 (And.intro hJ3 (And.intro hO3' (show W1.heap.size ≤ W3.heap.size by have h1 := hc3.size; have h2 := H2.out.2.2.2.1; have h3 := HN.out.2.2.1; omega)))))
        clear hJ3 hc3 hO3 hJO hrgN hbl hrl hrg3 hlk3 hO3' hR hy hen
        gi_wp2_with fail
        go_roundw
        case rel => exact ⟨_, O3, _, cnt', HZ.out.1, HZ.out.2.1, HZ.out.2.2.1, HZ.out.2.2.2.1, HZ.out.2.2.2.2⟩
        case measure =>
          rw [HZ.out.1.left_eq, H2.out.2.2.2.2]
          exact HN.out.2.1
      · clear hR hy hen
        gi_wp2_with fail
        refine bodyPost_ret (results_none rfl _ _ _) rfl ?_
        exact ⟨⟨_, rfl⟩, .inr ⟨_, hx3⟩⟩
set_option maxRecDepth 100000 in
set_option maxHeartbeats 4000000 in
theorem keysO_walks (gb b n m D : Nat) (f : Int → Option Value) (w : World) (hb : Blk w gb 73 #[.map (some b)]) (hm : IMap w b n m f) (hbD : b < D) (hD : D ≤ w.heap.size) : WalksL Try.prog 54 #[.pointer (some ⟨gb, 0, none⟩)] D (KeyG f) (KeyF f) w := by
  intro l J Jx O W hc hJ hJx hJO hY h0
  have y0 : W.cell? ⟨gb, 0, none⟩ = some (.map (some b)) := by simpa using (hc.blk hb id).cell 0
  obtain ⟨D0, hown, hhas, hat0, hsz⟩ := hm.keep hc id
  have hOr : ∀ q, O q → q ≠ W.heap.size := fun q hq => by have := (hJO [] O W h0 q hq).2; omega
  have HJ := Lib.hid (And.intro h0 (And.intro hOr (And.intro hhas (And.intro hJ (And.intro hJO (And.intro hY (Nat.le_trans hD hc.size)))))))
  clear hb hm hc hJ hJx hJO hY h0 hOr hD
  have hdd : ∀ k : Nat, (Fence.wide.depth.isSome = true → 1 ≤ k) := fun k h => (by cases h)
  show Calls Try.prog 54 #[.func (.yield l) #[] #[], .pointer (some ⟨gb, 0, none⟩)] W _
  refine (callsIn_wide (n := 3)).1 ?_
  refine callsIn_of_wp Try.func54 rfl trivial ?_ rfl
  simp only [Try.ntmps54, List.size_toArray, List.length_cons, List.length_nil, Nat.reduceAdd, Nat.reduceSub, Array.replicate_succ, Array.replicate_zero, List.push_toArray, List.append_toArray, List.nil_append, List.cons_append]
  gi_wp2_with (gi_at_range; go_must (refine wpListIn_range_own _ rfl _ 73 rfl 3 _ int_law Try.underlying73 heldE b n D0 rfl hown ?_))
  intro W1 hrg hgr hs1
  have hcr : Chg (fun _ _ => False) W W1 := (Chg.refl (fun _ _ => False) W).grown hgr fun g o hg _ => (by cases hg)
  have hJ1 := HJ.out.2.2.2.1 [] O W W1 (hcr.toL _) HJ.out.1
  have hlk0 : ∀ z, I64 z → (has D0 (keyI z) = true ↔ (f z).isSome = true ∧ Value.int .i64 z ∉ ([] : List Value)) := fun z hz => by rw [hhas z hz]; simp
  have H1 := Lib.hid (And.intro hrg (And.intro hlk0 (And.intro hJ1 hs1)))
  clear hrg hgr hs1 hcr hJ1 hlk0 y0 hown hhas hat0 hsz
  gi_wp2_with fail
  gi_loopw [3] (fun _ wr => ∃ (h : List Value) (O' : Nat → Prop) (left : Lit → Bool) (cnt : Nat), wr.ranges Try.prog 3 heldE b W.heap.size n D0 left cnt ∧ (∀ z, I64 z → (left (keyI z) = true ↔ (f z).isSome = true ∧ Value.int .i64 z ∉ h)) ∧ J h O' wr ∧ (∀ q, O' q → q ≠ W.heap.size) ∧ W1.heap.size ≤ wr.heap.size) (fun _ wr => wr.rangeLeft b W.heap.size)
  case atStart => exact ⟨[], O, _, _, H1.out.1, H1.out.2.1, H1.out.2.2.1, HJ.out.2.1, Nat.le_refl _⟩
  case round =>
    obtain ⟨h, O1, left, cnt, hrg, hlk, hJ1, hO1, hsz⟩ := hrel
    have hmeas := hrg.left_eq
    have H2 := Lib.hid (And.intro hlk (And.intro hJ1 (And.intro hO1 (And.intro hsz hmeas))))
    clear hlk hJ1 hO1 hsz hmeas
    gi_wp2_with (gi_at_next; go_must (refine wpListIn_next_ranges _ rfl _ rfl 3 int_law heldE (Value.int .i64) id (fun key kl hk => by obtain ⟨x, rfl, _⟩ := Maps.keyOf_int_inv Try.underlying3 hk; exact ⟨x, rfl⟩) (fun v _ _ => ⟨v, rfl⟩) b W.heap.size n D0 left cnt rfl hrg ?_ ?_))
    · intro hc0 hl0
      have HE := Lib.hid hl0
      clear hc0 hl0 hrg
      gi_wp2_with fail
      go_end0
      refine ⟨⟨_, rfl⟩, .inl ⟨h, O1, fun z hz hf => ?_, H2.out.2.1⟩⟩
      by_cases hm : Value.int .i64 z ∈ h
      · exact hm
      · have h1 := (H2.out.1 z hz).2 ⟨hf, hm⟩
        rw [HE.out] at h1
        cases h1
    · intro x c kl y1 y2 w' cnt' hkey hlx hv hat hrg' hlt hgs hs hen
      obtain ⟨x', e1, rfl, hwf⟩ := Maps.keyOf_int_inv Try.underlying3 hkey
      cases e1
      have hxI : I64 x := by
        unfold I64
        simp [Lit.wf, IntKind.min, IntKind.max, IntKind.bits, IntKind.signed] at hwf
        omega
      have hch : ChgL W.heap.size wr w' := (Chg.refl _ wr).grown hgs fun g o hg ho => by
        injection hg with hg
        subst hg
        obtain ⟨es, clock, since, seen, c0, _, _, _, _, hr, _⟩ := hrg
        rw [hr] at ho
        injection ho with ho
        subst ho
        exact ⟨Nat.le_refl _, rfl⟩
      have hJ2 := HJ.out.2.2.2.1 h O1 wr w' hch H2.out.2.1
      have hl2 := (H2.out.1 x hxI).1 hlx
      obtain ⟨fn, tmps, assign, body, hy, hR⟩ := HJ.out.2.2.2.2.2.1 2 h (.int .i64 x) O1 #[.int .i64 x] w' w' hJ2 (Chg.refl _ _) ⟨rfl, x, rfl, hxI, hl2.1, hl2.2⟩
      have HN := Lib.hid (And.intro hrg' (And.intro hlt (And.intro hs (And.intro hJ2 hl2))))
      clear hkey hlx hv hat hrg' hlt hgs hs hwf hch hJ2 hl2 hrg
      gi_wp2_with fail
      refine hR.mono fun e W3 h3 => ?_
      rcases h3 with ⟨rfl, O3, hJ3, hc3, hO3⟩ | ⟨rfl, hx3⟩
      · have hJO := HJ.out.2.2.2.2.1 h O1 w' HN.out.2.2.2.1
        have hrgN := HN.out.1
        have hbl : b < w'.heap.size := by obtain ⟨es, clock, since, seen, c0, h1, _⟩ := hrgN; exact (Array.getElem?_eq_some_iff.1 h1).1
        have hrl : W.heap.size < w'.heap.size := by obtain ⟨es, clock, since, seen, c0, _, _, _, _, hr, _⟩ := hrgN; exact (Array.getElem?_eq_some_iff.1 hr).1
        have hrg3 : W3.ranges Try.prog 3 heldE b W.heap.size n D0 (fun z => left z && !z.sameKey (.int .i64 x)) cnt' := ranges_keep hrgN hc3 (fun hh => hh.elim (fun h1 => by have := (hJO b h1).1; omega) fun h1 => by omega) (fun hh => hh.elim (fun h1 => H2.out.2.2.1 _ h1 rfl) fun h1 => by omega)
        have hlk3 : ∀ z, I64 z → ((left (keyI z) && !(keyI z).sameKey (.int .i64 x)) = true ↔ (f z).isSome = true ∧ Value.int .i64 z ∉ h ++ [Value.int .i64 x]) := fun z hz => by
          have h1 := H2.out.1 z hz
          rw [Bool.and_eq_true, h1]
          by_cases he : z = x
          · subst he
            simp [keyI, Lit.sameKey]
          · simp [keyI, Lit.sameKey, he]
        have hO3' : ∀ q, O3 q → q ≠ W.heap.size := fun q hq => (hO3 q hq).elim (fun h1 => H2.out.2.2.1 q h1) fun h1 => by omega
        have HZ := Lib.hid (And.intro hrg3 (And.intro hlk3 (And.intro hJ3 (And.intro hO3' (show W1.heap.size ≤ W3.heap.size by have h1 := hc3.size; have h2 := H2.out.2.2.2.1; have h3 := HN.out.2.2.1; omega)))))
        clear hJ3 hc3 hO3 hJO hrgN hbl hrl hrg3 hlk3 hO3' hR hy hen
        gi_wp2_with fail
        go_roundw
        case rel => exact ⟨_, O3, _, cnt', HZ.out.1, HZ.out.2.1, HZ.out.2.2.1, HZ.out.2.2.2.1, HZ.out.2.2.2.2⟩
        case measure =>
          rw [HZ.out.1.left_eq, H2.out.2.2.2.2]
          exact HN.out.2.1
      · clear hR hy hen
        gi_wp2_with fail
        refine bodyPost_ret (results_none rfl _ _ _) rfl ?_
        exact ⟨⟨_, rfl⟩, .inr ⟨_, hx3⟩⟩
theorem keysB_enters (args : Array Value) (w : World) : (callFunc 48 args).run Try.prog w = .ok (.enter 48 args) w := by
  simp [callFunc, Try.func48, go_sem]
  rw [if_neg (by decide +kernel), if_neg (fun h => by cases h)]
set_option maxRecDepth 100000 in
theorem keysB_any (w : World) (mb : Option Nat) : Calls Try.prog 37 #[.map mb] w fun e w' => e = .returned (.func (.func 48) #[] #[.pointer (some ⟨w.heap.size, 0, none⟩)]) ∧ Blk w' w.heap.size 81 #[.map mb] ∧ Chg (fun _ _ => False) w w' := by
  have hb := Blk.new w 81 #[.map mb]
  have hc := chg_alloc w (.cells #[.map mb] 81)
  have HC := Lib.hid (And.intro hb hc)
  clear hb hc
  go_enter Try.func37, Try.ntmps37
  go_wp2_with fail
  go_ret
  exact ⟨rfl, HC.out⟩
theorem keysO_enters (args : Array Value) (w : World) : (callFunc 54 args).run Try.prog w = .ok (.enter 54 args) w := by
  simp [callFunc, Try.func54, go_sem]
  rw [if_neg (by decide +kernel), if_neg (fun h => by cases h)]
set_option maxRecDepth 100000 in
theorem keysO_any (w : World) (mb : Option Nat) : Calls Try.prog 49 #[.map mb] w fun e w' => e = .returned (.func (.func 54) #[] #[.pointer (some ⟨w.heap.size, 0, none⟩)]) ∧ Blk w' w.heap.size 73 #[.map mb] ∧ Chg (fun _ _ => False) w w' := by
  have hb := Blk.new w 73 #[.map mb]
  have hc := chg_alloc w (.cells #[.map mb] 73)
  have HC := Lib.hid (And.intro hb hc)
  clear hb hc
  go_enter Try.func49, Try.ntmps49
  go_wp2_with fail
  go_ret
  exact ⟨rfl, HC.out⟩
end Go.Proofs.Yteigopmdhhgnfaa
