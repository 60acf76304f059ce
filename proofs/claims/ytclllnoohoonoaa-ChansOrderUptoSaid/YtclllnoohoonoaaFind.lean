/-
  chans: who is the first that waits at a channel, on a side (find); can a case go on (can).
-/
import Derived.Test.YtclllnoohoonoaaHub
import Derived.StillTailTactics
namespace Go.Proofs.Ytclllnoohoonoaa
open Go.RowKit
set_option linter.unusedVariables false
set_option linter.unusedSimpArgs false

def findV (r : Option (Nat × Nat)) : Value := match r with
  | none => .tuple #[.int .i64 0, .int .i64 0, .bool false]
  | some (i, k) => .tuple #[.int .i64 (i : Int), .int .i64 (k : Int), .bool true]
def FindRes (r : Option (Nat × Nat)) (w : World) (e : Ending) (w' : World) : Prop := e = .returned (findV r) ∧ Chg (fun _ _ => False) w w'
theorem FindRes.no {r : Option (Nat × Nat)} {w w' : World} (hr : r = none) (h : Chg (fun _ _ => False) w w') : FindRes r w (.returned (.tuple #[.int .i64 0, .int .i64 0, .bool false])) w' := by subst hr; exact ⟨rfl, h⟩
theorem FindRes.yes {r : Option (Nat × Nat)} {i k : Nat} {w w' : World} (hr : r = some (i, k)) (h : Chg (fun _ _ => False) w w') : FindRes r w (.returned (.tuple #[.int .i64 (i : Int), .int .i64 (k : Int), .bool true])) w' := by subst hr; exact ⟨rfl, h⟩
theorem findW_drop {c : Int} {s : Bool} {l : List WaitD} {k : Nat} {x : WaitD} (hx : l[k]? = some x) (h : findW c s l = (findW c s (l.drop k)).map fun p => (p.1 + k, p.2)) :
    findW c s l = match caseAt c s x.cases with
      | some j => some (k, j)
      | none => (findW c s (l.drop (k + 1))).map fun p => (p.1 + (k + 1), p.2) := by
  obtain ⟨h1, h2⟩ := List.getElem?_eq_some_iff.1 hx
  rw [h, List.drop_eq_getElem_cons h1, h2]
  rw [findW]
  cases hj : caseAt c s x.cases with
  | some j => simp
  | none =>
    simp only [Option.map_map]
    cases findW c s (l.drop (k + 1)) with
    | none => rfl
    | some p => simp; omega
theorem caseAt_drop {c : Int} {s : Bool} {l : List CaseC} {k : Nat} {x : CaseC} (hx : l[k]? = some x) (h : caseAt c s l = (caseAt c s (l.drop k)).map fun p => p + k) :
    caseAt c s l = if decide (x.chan = c) && (x.send == s) then some k else (caseAt c s (l.drop (k + 1))).map fun p => p + (k + 1) := by
  obtain ⟨h1, h2⟩ := List.getElem?_eq_some_iff.1 hx
  rw [h, List.drop_eq_getElem_cons h1, h2]
  rw [caseAt]
  split
  · simp
  · simp only [Option.map_map]
    cases caseAt c s (l.drop (k + 1)) with
    | none => rfl
    | some p => simp; omega
def findRel (c : Int) (s : Bool) (w : World) (l : List WaitD) (i : Value) (wr : World) : Prop :=
  ∃ k : Nat, k ≤ l.length ∧ i = .int .i64 k ∧ (findW c s l = (findW c s (l.drop k)).map fun p => (p.1 + k, p.2)) ∧ Chg (fun _ _ => False) w wr
def caseRel (c : Int) (s : Bool) (w : World) (l : List CaseC) (i : Value) (wr : World) : Prop :=
  ∃ k : Nat, k ≤ l.length ∧ i = .int .i64 k ∧ (caseAt c s l = (caseAt c s (l.drop k)).map fun p => p + k) ∧ Chg (fun _ _ => False) w wr
theorem WaitsR.at_ {w : World} {A : Option Addr} {c k : Nat} {l : List WaitD} (h : SlR 0 80 2 WaitV w (.slice A l.length c) l) (hk : k < l.length) : ∃ b o x A' c', A = some ⟨b, o, none⟩ ∧ l[k]? = some x ∧ I64 x.who ∧ CasesC w (.slice A' x.cases.length c') x.cases ∧
    w.cell? ⟨b, o + k * 2, none⟩ = some (.int .i64 x.who) ∧ w.cell? ⟨b, o + k * 2 + 1, none⟩ = some (.slice A' x.cases.length c') := by
  obtain ⟨b, o, c', cs, hv, _, _, _, h1, ⟨A', c'', rfl, h2, h3⟩, h4⟩ := SlR.at_ h hk
  injection hv with hA
  exact ⟨b, o, l[k], A', c'', hA, List.getElem?_eq_getElem hk, h2, h3, by simpa using h4 0 _ rfl, h4 1 _ rfl⟩
theorem WaitsR.keep {M : Nat → Nat → Prop} {w w' : World} {v : Value} {l : List WaitD} (h : SlR 0 80 2 WaitV w v l) (hc : Chg M w w') (h1 : ∀ b, ¬ M b 80) (h2 : ∀ b, ¬ M b 52) : SlR 0 80 2 WaitV w' v l :=
  SlR.keep h hc ⟨fun b _ hb => absurd hb (Nat.not_lt_zero _), fun _ => h1⟩ fun _ _ h => h.keep hc h2

set_option maxRecDepth 100000 in
set_option maxHeartbeats 1000000 in
theorem find_any (w : World) (G : Nat → Prop) (p : Nat) (H : HubD) (hH : HubR G w p H) (c : Int) (s : Bool) (hs : SmallH H) :
    Calls Try.prog 47 #[.pointer (some ⟨p, 0, none⟩), .int .i64 c, .bool s] w (FindRes (findW c s H.wait) w) := by
  obtain ⟨_, hn, hn2⟩ := hs
  obtain ⟨A, cc, A', c', hI⟩ := hH
  obtain ⟨d0, d1⟩ := hI.blk.cells2
  have hw := Lib.hid (hI.waits.slr (by decide) 0)
  have HN := Lib.hid hn2
  clear hI hn2
  generalize hl : H.wait = l at d1 hw hn HN ⊢
  clear hl
  go_enter Try.func47, Try.ntmps47
  go_wp2_with fail
  go_loopw [18] (fun i wr => findRel c s w l i wr) (fun i _ => l.length - (intOf i).toNat)
  case atStart => exact ⟨0, Nat.zero_le _, rfl, by cases hf : findW c s l <;> simp [hf], Chg.refl _ _⟩
  case round =>
    obtain ⟨k, hk, rfl, hf, hch⟩ := hrel
    obtain ⟨wo, rfl⟩ : ∃ wo : World, wo = wr := ⟨_, rfl⟩
    by_cases hlt : k < l.length
    · obtain ⟨b, o, x, A2, c2, rfl, hkx, _, hcs, z0, z1⟩ := WaitsR.at_ (WaitsR.keep hw.out hch (fun _ => id) (fun _ => id)) hlt
      have hnx := HN.out x (List.mem_of_getElem? hkx)
      have hb1 := Blk.new wo 80 #[.int .i64 x.who, .slice A2 x.cases.length c2]
      have hc1 := chg_alloc wo (.cells #[.int .i64 x.who, .slice A2 x.cases.length c2] 80)
      have HX := Lib.hid (And.intro hkx (And.intro hf (And.intro hch (And.intro hc1 (hcs.keep hc1 (fun _ => id))))))
      clear hkx hf hch hcs hc1 hb1
      go_wp2_with fail
      generalize hw1 : wo.alloc (.cells #[.int .i64 x.who, .slice A2 x.cases.length c2] 80) = w1 at HX ⊢
      clear hw1
      go_loopw [26] (fun i wr => caseRel c s w1 x.cases i wr) (fun i _ => x.cases.length - (intOf i).toNat)
      case atStart => exact ⟨0, Nat.zero_le _, rfl, by cases hf : caseAt c s x.cases <;> simp [hf], Chg.refl _ _⟩
      case round =>
        obtain ⟨j, hj, rfl, hg, hch2⟩ := hrel
        obtain ⟨wi, rfl⟩ : ∃ wi : World, wi = wr := ⟨_, rfl⟩
        by_cases hltj : j < x.cases.length
        · obtain ⟨b2, o2, y, rfl, hjy, _, _, y0, y1, y2⟩ := (HX.out.2.2.2.2.keep hch2 (fun _ => id)).at_ hltj
          have hc2 := chg_alloc wi (.cells #[.bool y.send, .int .i64 y.chan, .int .u64 y.val] 52)
          have HY := Lib.hid (And.intro hjy (And.intro hg (And.intro hch2 hc2)))
          clear hjy hg hch2 hc2
          by_cases e1 : y.chan = c
          · cases e2 : (y.send == s)
            · have HE := Lib.hid (And.intro e1 e2)
              have e1' : (y.chan == c) = true := by simpa using e1
              clear e1
              go_wp2_with fail
              go_roundw
              case rel =>
                obtain ⟨hjy, hg, hch2, hc2⟩ := HY.out
                refine ⟨j + 1, hltj, by simp, ?_, hch2.trans hc2⟩
                rw [caseAt_drop hjy hg, HE.out.2]; simp
              case measure => simp [intOf]; omega
            · have HE := Lib.hid (And.intro e1 e2)
              have e1' : (y.chan == c) = true := by simpa using e1
              clear e1
              go_wp2_with fail
              go_ret3
              obtain ⟨hjy, hg, hch2, hc2⟩ := HY.out
              obtain ⟨hkx, hf, hch, hc1, _⟩ := HX.out
              refine FindRes.yes ?_ ((hch.trans hc1).trans (hch2.trans hc2))
              rw [findW_drop hkx hf, caseAt_drop hjy hg, HE.out.2, HE.out.1]; simp
          · have HE := Lib.hid e1
            have e1' : (y.chan == c) = false := by simpa using e1
            clear e1
            go_wp2_with fail
            go_roundw
            case rel =>
              obtain ⟨hjy, hg, hch2, hc2⟩ := HY.out
              refine ⟨j + 1, hltj, by simp, ?_, hch2.trans hc2⟩
              rw [caseAt_drop hjy hg, decide_eq_false HE.out]; simp
            case measure => simp [intOf]; omega
        · obtain rfl : j = x.cases.length := by omega
          have HY := Lib.hid (And.intro hg hch2)
          clear hg hch2
          go_wp2_with fail
          go_roundw
          case rel =>
            obtain ⟨hg, hch2⟩ := HY.out
            obtain ⟨hkx, hf, hch, hc1, _⟩ := HX.out
            refine ⟨k + 1, hlt, by simp, ?_, (hch.trans hc1).trans hch2⟩
            rw [findW_drop hkx hf, hg, List.drop_length]; rfl
          case measure => simp [intOf]; omega
    · obtain rfl : k = l.length := by omega
      have HY := Lib.hid (And.intro hf hch)
      clear hf hch
      go_wp2_with fail
      go_ret3
      exact FindRes.no (by rw [HY.out.1, List.drop_length]; rfl) HY.out.2
end Go.Proofs.Ytclllnoohoonoaa
