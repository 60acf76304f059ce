/-
  chans: Ready, Waiting; slices.Index and Contains over numbers, slices.Clone of cases and of numbers.
-/
import Derived.Test.YtclllnoohoonoaaReady
namespace Go.Proofs.Ytclllnoohoonoaa
open Go.RowKit
set_option linter.unusedVariables false
set_option linter.unusedSimpArgs false

theorem infoInt : (Try.prog.info? 3).map (fun i => (i.zero, i.size, i.bytes)) = some (some (.int .i64 0), 1, 8) := by kernel_rfl
theorem infoU64 : (Try.prog.info? 41).map (fun i => (i.zero, i.size, i.bytes)) = some (some (.int .u64 0), 1, 8) := by kernel_rfl
theorem infoCaseC : (Try.prog.info? 52).map (fun i => (i.zero, i.size, i.bytes)) = some (some (.agg #[.bool false, .int .i64 0, .int .u64 0]), 3, 24) := by kernel_rfl
theorem infoChan : (Try.prog.info? 78).map (fun i => (i.zero, i.size, i.bytes)) = some (some (.agg #[.int .i64 0, .slice none 0 0, .bool false]), 3, 40) := by kernel_rfl
theorem infoWaiter : (Try.prog.info? 80).map (fun i => (i.zero, i.size, i.bytes)) = some (some (.agg #[.int .i64 0, .slice none 0 0]), 2, 32) := by kernel_rfl
theorem infoServed : (Try.prog.info? 59).map (fun i => (i.zero, i.size, i.bytes)) = some (some (.agg #[.int .i64 0, .int .i64 0, .int .u64 0, .bool false]), 4, 32) := by kernel_rfl
def intV (l : List Int) : List Value := l.map fun x => Value.int .i64 x
/-- A row of numbers that the call has made. -/
def IntsN (base : Nat) (w : World) (A : Option Addr) (c : Nat) (l : List Int) : Prop := w.ownsRow base 3 1 (.slice A l.length c) l.length (intV l)
def intE (_ : World) (cs : List Value) (x : Int) : Prop := cs = [.int .i64 x]
/-- Numbers that are read. -/
def IntsT (w : World) (v : Value) (l : List Int) : Prop := SlR 0 3 1 intE w v l
section
variable {M : Nat → Nat → Prop} {base c : Nat} {w w' : World} {A : Option Addr} {l : List Int} {v : Value}
theorem intV_flat : ∀ l : List Int, (l.map fun x => [Value.int .i64 x]).flatten = intV l
  | [] => rfl
  | x :: l => by rw [List.map_cons, List.flatten_cons, intV_flat l]; rfl
theorem IntsN.nil (base : Nat) (w : World) : IntsN base w none 0 [] := World.ownsRow_nil _ _ _ _
theorem IntsN.read (h : IntsN base w A c l) : IntsT w (.slice A l.length c) l := by
  have h' : w.ownsRow base 3 1 (.slice A l.length c) l.length (l.map fun x => [Value.int .i64 x]).flatten := by rw [intV_flat]; exact h
  exact SlR.of_own (by decide) h' (by simp) rfl (by simp) fun k x cs hx hcs => by
    rw [List.getElem?_map, hx] at hcs
    injection hcs with hcs
    exact hcs.symm
theorem IntsT.keep (h : IntsT w v l) (hc : Chg M w w') (hm : ∀ b, ¬ M b 3) : IntsT w' v l := SlR.keep h hc ⟨fun b _ hb => absurd hb (Nat.not_lt_zero _), fun _ => hm⟩ fun _ _ h => h
theorem IntsT.at_ {n k : Nat} (h : IntsT w (.slice A n c) l) (hk : k < l.length) : ∃ b o x, A = some ⟨b, o, none⟩ ∧ l[k]? = some x ∧ w.cell? ⟨b, o + k, none⟩ = some (.int .i64 x) := by
  obtain ⟨b, o, c', cs, hv, _, _, _, h1, rfl, h4⟩ := SlR.at_ h hk
  injection hv with hA
  exact ⟨b, o, l[k], hA, List.getElem?_eq_getElem hk, by simpa using h4 0 _ rfl⟩
theorem IntsN.more {base' : Nat} (h : IntsN base w A c l) (hb : base' ≤ base) : IntsN base' w A c l := by
  obtain ⟨h0, h1⟩ := h
  refine ⟨h0, ?_⟩
  rcases h1 with h1 | ⟨g, cap, cur, hv, hg, r⟩
  · exact .inl h1
  · exact .inr ⟨g, cap, cur, hv, Nat.le_trans hb hg, r⟩
theorem intV_snoc (l : List Int) (x : Int) : intV (l ++ [x]) = intV l ++ [.int .i64 x] := by simp [intV]
end

def eqI (n x : Int) : Bool := decide (n = x)
set_option maxRecDepth 100000 in
set_option maxHeartbeats 1000000 in
theorem indexI_any (w : World) (A1 : Option Addr) (c1 : Nat) (l : List Int) (n : Int) (hl : IntsT w (.slice A1 l.length c1) l) (hn : l.length ≤ 1099511627776) :
    Calls Try.prog 45 #[.slice A1 l.length c1, .int .i64 n] w (IntRes (idxI (eqI n) l) w) := by
  have HL := Lib.hid hl
  clear hl
  go_enter Try.func45, Try.ntmps45
  go_wp2_with fail
  go_loopw [8] (fun i wr => idxRel (eqI n) w l i wr) (fun i _ => l.length - (intOf i).toNat)
  case atStart => exact ⟨0, Nat.zero_le _, rfl, fun j y h => absurd h (Nat.not_lt_zero _), Chg.refl _ _⟩
  case round =>
    obtain ⟨k, hk, rfl, hb, hch⟩ := hrel
    by_cases hlt : k < l.length
    · obtain ⟨b, o, x, rfl, hkx, z0⟩ := (HL.out.keep hch (fun _ => id)).at_ hlt
      have HK := Lib.hid (And.intro hkx (And.intro hb hch))
      clear hkx hb hch
      by_cases hp : n = x
      · have Hp := Lib.hid hp
        have hp' : (n == x) = true := by simpa using hp
        clear hp
        go_wp2_with fail
        go_ret
        exact IntRes.of (idx_at HK.out.1 (decide_eq_true Hp.out) HK.out.2.1).symm HK.out.2.2
      · have Hp := Lib.hid hp
        have hp' : (n == x) = false := by simpa using hp
        clear hp
        go_wp2_with fail
        go_roundw
        case rel => exact ⟨k + 1, hlt, by simp, idx_step HK.out.1 (decide_eq_false Hp.out) HK.out.2.1, HK.out.2.2⟩
        case measure => simp [intOf]; omega
    · obtain rfl : k = l.length := by omega
      have HK := Lib.hid (And.intro hb hch)
      clear hb hch
      go_wp2_with fail
      go_ret
      exact IntRes.of (idx_none (fun j y hy => HK.out.1 j y (List.getElem?_eq_some_iff.1 hy).1 hy)).symm HK.out.2
set_option maxRecDepth 100000 in
theorem contI_any (w : World) (A1 : Option Addr) (c1 : Nat) (l : List Int) (n : Int) (hl : IntsT w (.slice A1 l.length c1) l) (hn : l.length ≤ 1099511627776) :
    Calls Try.prog 28 #[.slice A1 l.length c1, .int .i64 n] w (BoolRes (l.any (eqI n)) w) := by
  have HL := Lib.hid hl
  clear hl
  go_enter Try.func28, Try.ntmps28
  go_wp2_with fail
  refine (indexI_any w A1 c1 l n HL.out hn).mono fun e w2 hh => ?_
  obtain ⟨rfl, hc2⟩ := hh
  have H2 := Lib.hid hc2
  have HA := Lib.hid (idx_any (eqI n) l)
  clear hc2
  generalize idxI (eqI n) l = i at HA ⊢
  go_wp2
  go_ret
  exact BoolRes.of HA.out H2.out
/-- A list of numbers that is answered, with an error's number. -/
def IntsRes (l : List Int) (e0 : Int) (w : World) (e : Ending) (w' : World) : Prop := ∃ A c, e = .returned (.tuple #[.slice A l.length c, .int .i64 e0]) ∧ IntsN w.heap.size w' A c l ∧ Chg (fun _ _ => False) w w'
def IntsRes1 (l : List Int) (w : World) (e : Ending) (w' : World) : Prop := ∃ A c, e = .returned (.slice A l.length c) ∧ IntsN w.heap.size w' A c l ∧ Chg (fun _ _ => False) w w'
theorem ready_snoc (h : HubD) (x : CaseC) : ∀ (l : List CaseC) (i : Nat), readyFrom h i (l ++ [x]) = readyFrom h i l ++ if canC h x then [((i + l.length : Nat) : Int)] else []
  | [], i => by simp only [List.nil_append, readyFrom]; split <;> simp
  | y :: l, i => by
    rw [List.cons_append, readyFrom, readyFrom, ready_snoc h x l (i + 1)]
    rw [show i + 1 + l.length = i + (y :: l).length by simp; omega]
    split <;> simp
theorem ready_take {h : HubD} {l : List CaseC} {k : Nat} {x : CaseC} (hx : l[k]? = some x) : readyFrom h 0 (l.take (k + 1)) = readyFrom h 0 (l.take k) ++ if canC h x then [(k : Int)] else [] := by
  obtain ⟨h1, h2⟩ := List.getElem?_eq_some_iff.1 hx
  rw [List.take_succ_eq_append_getElem h1, h2, ready_snoc, List.length_take, Nat.min_eq_left (by omega), Nat.zero_add]
theorem ready_len (h : HubD) : ∀ (l : List CaseC) (i : Nat), (readyFrom h i l).length ≤ l.length
  | [], i => Nat.le_refl _
  | y :: l, i => by
    rw [readyFrom]
    have := ready_len h l (i + 1)
    split <;> simp only [List.length_cons] <;> omega
theorem known_in {n : Nat} {l : List CaseC} (h : knownC n l = true) {k : Nat} {x : CaseC} (hx : l[k]? = some x) : 0 ≤ x.chan ∧ x.chan ≤ (n : Int) := by
  have := (List.all_eq_true.1 h) x (List.mem_of_getElem? hx)
  simpa using this
def readyRel (H : HubD) (w : World) (l : List CaseC) (v i : Value) (wr : World) : Prop :=
  ∃ (k : Nat) (row : List Int) (A : Option Addr) (c : Nat), k ≤ l.length ∧ i = .int .i64 k ∧ v = .slice A row.length c ∧ row = readyFrom H 0 (l.take k) ∧ IntsN w.heap.size wr A c row ∧ Chg (fun _ _ => False) w wr
set_option maxRecDepth 100000 in
set_option maxHeartbeats 2000000 in
theorem ready_any (w : World) (G : Nat → Prop) (p : Nat) (H : HubD) (hH : HubR G w p H) (hs : SmallH H) (A1 : Option Addr) (c1 : Nat) (l : List CaseC) (hl : CasesC w (.slice A1 l.length c1) l) (hn : l.length ≤ 1099511627776) :
    Calls Try.prog 25 #[.pointer (some ⟨p, 0, none⟩), .slice A1 l.length c1] w (IntsRes (readyA H l) (readyE H l) w) := by
  obtain ⟨i3, hi3, hz3, hs3, hb3⟩ := info_parts infoInt
  have HH := Lib.hid (And.intro hH (And.intro hs hl))
  clear hH hs hl
  go_enter Try.func25, Try.ntmps25
  go_wp2_with fail
  refine (known_any w G p H HH.out.1 A1 c1 l HH.out.2.2 hn).mono fun e w1 hh => ?_
  obtain ⟨rfl, hc1⟩ := hh
  have H1 := Lib.hid hc1
  clear hc1
  cases hk : knownC H.list.length l
  · have HK := Lib.hid hk
    clear hk
    go_wp2_with fail
    go_ret2
    exact ⟨none, 0, by simp [readyA, readyE, HK.out], by simp only [readyA, HK.out]; exact IntsN.nil _ _, H1.out⟩
  · have HK := Lib.hid hk
    clear hk
    go_wp2_with fail
    go_loopw [6, 19] (fun v i wr => readyRel H w l v i wr) (fun _ i _ => l.length - (intOf i).toNat)
    case atStart => exact ⟨0, [], none, 0, Nat.zero_le _, rfl, rfl, rfl, IntsN.nil _ _, H1.out⟩
    case round =>
      obtain ⟨k, row, A2, c2, hkl, rfl, rfl, hrow, hown, hch⟩ := hrel
      have hrl : row.length ≤ l.length := by rw [hrow]; exact Nat.le_trans (ready_len _ _ _) (List.length_take_le' _ _)
      obtain ⟨wo, rfl⟩ : ∃ wo : World, wo = wr := ⟨_, rfl⟩
      by_cases hlt : k < l.length
      · obtain ⟨b, o, x, rfl, hkx, _, _, z0, z1, z2⟩ := (HH.out.2.2.keep hch (fun _ => id)).at_ hlt
        obtain ⟨hx0, hx1⟩ := known_in HK.out hkx
        have hcb := chg_alloc wo (.cells #[.bool x.send, .int .i64 x.chan, .int .u64 x.val] 52)
        have HR := Lib.hid (And.intro hkx (And.intro hrow (And.intro (hcb.own hown (fun _ _ => id)) (hch.trans hcb))))
        have HX := Lib.hid (And.intro hx0 hx1)
        clear hkx hrow hown hch hcb hx0 hx1
        go_wp2_with fail
        refine (can_any _ G p H (HH.out.1.keep HR.out.2.2.2 (fun _ _ _ => id) (fun _ => id)) x HX.out.1 HX.out.2 HH.out.2.1).mono fun e w2 hh => ?_
        obtain ⟨rfl, hc2⟩ := hh
        have hown2 := hc2.own HR.out.2.2.1 (fun _ _ => id)
        have hch2 := HR.out.2.2.2.trans hc2
        have H2 := Lib.hid (And.intro hown2 hch2)
        have hsz2 := hch2.size
        clear hc2 hch2 z0 z1 z2
        cases hcn : canC H x
        · have HC := Lib.hid hcn
          clear hcn hown2
          go_wp2_with fail
          go_roundw
          case rel => exact ⟨k + 1, row, A2, c2, hlt, by simp, rfl, by rw [ready_take HR.out.1, HC.out, ← HR.out.2.1]; simp, H2.out.1, H2.out.2⟩
          case measure => simp [intOf]; omega
        · have HC := Lib.hid hcn
          clear hcn
          go_wp2_with (at_builtin; go_must (refine wpList_append_new rfl (.tmp 27) (.tmp 29) 28 rfl w.heap.size 3 i3 (.int .i64 0) 1 8 Try.underlying28 hi3 hz3 hs3 hb3 rfl (by omega) A2 row.length c2 (intV row) rfl hown2 1 1 [.int .i64 (k : Int)] rfl (by first | rfl | simp) rfl (by intro u hu; simp at hu; subst hu; rfl) (by simp only [maxLen]; omega) (by omega) hsz2 ?_))
          intro A3 c3 w3 hap
          have hapc := hap.chg hown2
          have HA := Lib.hid (And.intro hap.own hapc)
          clear hap hapc hown2
          go_wp2
          go_roundw
          case rel =>
            refine ⟨k + 1, row ++ [(k : Int)], A3, c3, hlt, by simp, by simp, by rw [ready_take HR.out.1, HC.out, ← HR.out.2.1]; simp, ?_, H2.out.2.trans_new HA.out.2 fun b t hb h => by omega⟩
            have := HA.out.1
            unfold IntsN
            rw [intV_snoc, List.length_append]
            exact this
          case measure => simp [intOf]; omega
      · obtain rfl : k = l.length := by omega
        rw [List.take_length] at hrow
        have hrow' : readyA H l = row := by rw [hrow]; simp [readyA, HK.out, readyC]
        have HR := Lib.hid (And.intro hrow' (And.intro hown hch))
        clear hrow hrow' hown hch
        go_wp2_with fail
        go_ret2
        exact ⟨A2, c2, by rw [HR.out.1]; simp [readyE, HK.out], by rw [HR.out.1]; exact HR.out.2.1, HR.out.2.2⟩
def waitRel (w : World) (l : List WaitD) (v i : Value) (wr : World) : Prop :=
  ∃ (k : Nat) (row : List Int) (A : Option Addr) (c : Nat), k ≤ l.length ∧ i = .int .i64 k ∧ v = .slice A row.length c ∧ row = (l.take k).map (·.who) ∧ IntsN w.heap.size wr A c row ∧ Chg (fun _ _ => False) w wr
set_option maxRecDepth 100000 in
set_option maxHeartbeats 2000000 in
theorem waiting_any (w : World) (G : Nat → Prop) (p : Nat) (H : HubD) (hH : HubR G w p H) (hs : SmallH H) :
    Calls Try.prog 14 #[.pointer (some ⟨p, 0, none⟩)] w (IntsRes1 (H.wait.map (·.who)) w) := by
  obtain ⟨i3, hi3, hz3, hs3, hb3⟩ := info_parts infoInt
  obtain ⟨A, cc, A', c', hI⟩ := hH
  have hn := hs.wait
  obtain ⟨d0, d1⟩ := hI.blk.cells2
  have hw := Lib.hid (hI.waits.slr (by decide) 0)
  clear hI hs
  generalize hl : H.wait = l at d1 hw hn ⊢
  clear hl
  go_enter Try.func14, Try.ntmps14
  go_wp2_with fail
  go_loopw [3, 13] (fun v i wr => waitRel w l v i wr) (fun _ i _ => l.length - (intOf i).toNat)
  case atStart => exact ⟨0, [], none, 0, Nat.zero_le _, rfl, rfl, rfl, IntsN.nil _ _, Chg.refl _ _⟩
  case round =>
    obtain ⟨k, row, A2, c2, hkl, rfl, rfl, hrow, hown, hch⟩ := hrel
    have hrl : row.length ≤ l.length := by rw [hrow, List.length_map]; exact List.length_take_le' _ _
    obtain ⟨wo, rfl⟩ : ∃ wo : World, wo = wr := ⟨_, rfl⟩
    by_cases hlt : k < l.length
    · obtain ⟨b, o, x, A3, c3, rfl, hkx, _, _, z0, z1⟩ := WaitsR.at_ (WaitsR.keep hw.out hch (fun _ => id) (fun _ => id)) hlt
      have hcb := chg_alloc wo (.cells #[.int .i64 x.who, .slice A3 x.cases.length c3] 80)
      have hown2 := hcb.own hown (fun _ _ => id)
      have hch2 := hch.trans hcb
      have hsz2 := hch2.size
      have HR := Lib.hid (And.intro hkx (And.intro hrow hch2))
      clear hkx hrow hown hch hcb hch2
      go_wp2_with (at_builtin; go_must (refine wpList_append_new rfl (.tmp 17) (.tmp 20) 28 rfl w.heap.size 3 i3 (.int .i64 0) 1 8 Try.underlying28 hi3 hz3 hs3 hb3 rfl (by omega) A2 row.length c2 (intV row) rfl hown2 1 1 [.int .i64 x.who] rfl (by first | rfl | simp) rfl (by intro u hu; simp at hu; subst hu; rfl) (by simp only [maxLen]; omega) (by omega) hsz2 ?_))
      intro A4 c4 w3 hap
      have hapc := hap.chg hown2
      have HA := Lib.hid (And.intro hap.own hapc)
      clear hap hapc hown2
      go_wp2
      go_roundw
      case rel =>
        refine ⟨k + 1, row ++ [x.who], A4, c4, hlt, by simp, by simp, ?_, ?_, HR.out.2.2.trans_new HA.out.2 fun b t hb h => by omega⟩
        · obtain ⟨h1, h2⟩ := List.getElem?_eq_some_iff.1 HR.out.1
          rw [List.take_succ_eq_append_getElem h1, h2, List.map_append, ← HR.out.2.1]; rfl
        · have := HA.out.1
          unfold IntsN
          rw [intV_snoc, List.length_append]
          exact this
      case measure => simp [intOf]; omega
    · obtain rfl : k = l.length := by omega
      rw [List.take_length] at hrow
      have HR := Lib.hid (And.intro hrow.symm (And.intro hown hch))
      clear hrow hown hch
      go_wp2_with fail
      go_ret
      exact ⟨A2, c2, by rw [HR.out.1]; rfl, by rw [HR.out.1]; exact HR.out.2.1, HR.out.2.2⟩
end Go.Proofs.Ytclllnoohoonoaa
