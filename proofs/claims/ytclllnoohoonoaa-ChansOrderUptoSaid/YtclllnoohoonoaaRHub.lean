/-
  The reference's hub in memory: a struct of four rows: sizes, buffers, which are shut, and who waits. All blocks that its calls may turn, and the buffers' own, are in the set F. The first who waits on a side (peer).
-/
import Derived.Test.YtclllnoohoonoaaClone
namespace Go.Proofs.Ytclllnoohoonoaa
open Go.RowKit
set_option linter.unusedVariables false
set_option linter.unusedSimpArgs false

/-- Cases of the reference: below B, or rows of their own type. -/
def CasesX (B : Nat) (w : World) (v : Value) (l : List CaseC) : Prop := SlR B 43 3 CaseV w v l
def RWaitV (w : World) (cs : List Value) (x : WaitD) : Prop := ∃ A c, cs = [.int .i64 x.who, .slice A x.cases.length c] ∧ I64 x.who ∧ CasesX 0 w (.slice A x.cases.length c) x.cases
def SizeV (_ : World) (cs : List Value) (x : ChanD) : Prop := cs = [.int .i64 x.size] ∧ I64 x.size
def ShutV (_ : World) (cs : List Value) (x : ChanD) : Prop := cs = [.bool x.shut]
def BufV (F : Nat → Prop) (w : World) (cs : List Value) (x : ChanD) : Prop := ∃ v, cs = [v] ∧ QR w 41 v (u64V x.buf) ∧ (∀ y ∈ x.buf, U64 y) ∧ ∀ b, v.ownBlock = some b → F b
structure HubF (F : Nat → Prop) (w : World) (p : Nat) (A1 : Option Addr) (c1 : Nat) (A2 : Option Addr) (c2 : Nat) (A3 : Option Addr) (c3 : Nat) (A4 : Option Addr) (c4 : Nat) (H : HubD) : Prop where
  blk : Blk w p 33 #[.slice A1 H.list.length c1, .slice A2 H.list.length c2, .slice A3 H.list.length c3, .slice A4 H.wait.length c4]
  sizes : RowR 0 3 1 SizeV w A1 c1 H.list
  bufs : RowR 0 34 1 (BufV F) w A2 c2 H.list
  shuts : RowR 0 4 1 ShutV w A3 c3 H.list
  line : RowR 0 40 2 RWaitV w A4 c4 H.wait
  own1 : ∀ b, (Value.slice A1 H.list.length c1).ownBlock = some b → F b
  own2 : ∀ b, (Value.slice A2 H.list.length c2).ownBlock = some b → F b
  own3 : ∀ b, (Value.slice A3 H.list.length c3).ownBlock = some b → F b
  own4 : ∀ b, (Value.slice A4 H.wait.length c4).ownBlock = some b → F b
  own : F p
  lt : ∀ b, F b → b < w.heap.size
def HubFR (F : Nat → Prop) (w : World) (p : Nat) (H : HubD) : Prop := ∃ A1 c1 A2 c2 A3 c3 A4 c4, HubF F w p A1 c1 A2 c2 A3 c3 A4 c4 H
/-- What a call on the reference's hub may turn. -/
def MR (F : Nat → Prop) (b t : Nat) : Prop := F b ∧ (t = 33 ∨ t = 3 ∨ t = 34 ∨ t = 4 ∨ t = 40)
def HubQ (F : Nat → Prop) (w w' : World) (p : Nat) (H : HubD) : Prop := ∃ F' : Nat → Prop, HubFR F' w' p H ∧ (∀ b, F' b → F b ∨ w.heap.size ≤ b) ∧ Chg (MR F) w w'
section
variable {M : Nat → Nat → Prop} {F F' : Nat → Prop} {w w' w1 : World} {v : Value} {cs : List Value} {A A1 A2 A3 A4 : Option Addr} {c c1 c2 c3 c4 p B : Nat} {H : HubD}
theorem CasesX.keep {l : List CaseC} (h : CasesX B w v l) (hc : Chg M w w') (hB : ∀ b t, b < B → ¬ M b t) (hm : ∀ b, ¬ M b 43) : CasesX B w' v l := SlR.keep h hc ⟨hB, fun _ => hm⟩ fun _ _ h => h
theorem CasesX.at_ {n k : Nat} {l : List CaseC} (h : CasesX B w (.slice A n c) l) (hk : k < l.length) : ∃ b o x, A = some ⟨b, o, none⟩ ∧ l[k]? = some x ∧ I64 x.chan ∧ U64 x.val ∧
    w.cell? ⟨b, o + k * 3, none⟩ = some (.bool x.send) ∧ w.cell? ⟨b, o + k * 3 + 1, none⟩ = some (.int .i64 x.chan) ∧ w.cell? ⟨b, o + k * 3 + 2, none⟩ = some (.int .u64 x.val) := by
  obtain ⟨b, o, c', cs, hv, _, _, _, h1, ⟨rfl, h2, h3⟩, h4⟩ := SlR.at_ h hk
  injection hv with hA
  exact ⟨b, o, l[k], hA, List.getElem?_eq_getElem hk, h2, h3, by simpa using h4 0 _ rfl, h4 1 _ rfl, h4 2 _ rfl⟩
theorem CasesX.more {B' : Nat} {l : List CaseC} (h : CasesX B w v l) (hB : B ≤ B') : CasesX B' w v l := SlR.imp h (fun b _ hl => hl.imp (fun h => by omega) id) fun _ _ h => h
theorem RWaitV.keep {x : WaitD} (h : RWaitV w cs x) (hc : Chg M w w') (hm : ∀ b, ¬ M b 43) : RWaitV w' cs x := by
  obtain ⟨A, c, h1, h2, h3⟩ := h
  exact ⟨A, c, h1, h2, h3.keep hc (fun b t h => absurd h (Nat.not_lt_zero _)) hm⟩
theorem BufV.keep {x : ChanD} (h : BufV F w cs x) (hc : Chg M w w') (hm : ∀ b, F b → ¬ M b 41) : BufV F w' cs x := by
  obtain ⟨v, h1, h2, h3, h4⟩ := h
  exact ⟨v, h1, h2.keep hc fun g hg => hm g (h4 g hg), h3, h4⟩
theorem BufV.more {x : ChanD} (h : BufV F w cs x) (hF : ∀ b, F b → F' b) : BufV F' w cs x := by
  obtain ⟨v, h1, h2, h3, h4⟩ := h
  exact ⟨v, h1, h2, h3, fun b hb => hF b (h4 b hb)⟩
theorem RowR.imp {α : Type} {base e size : Nat} {R R' : World → List Value → α → Prop} {l : List α} (h : RowR base e size R w A c l) (hR : ∀ cs x, R w cs x → R' w cs x) : RowR base e size R' w A c l := by
  obtain ⟨xss, h1, h2, h3, h4⟩ := h
  exact ⟨xss, h1, h2, h3, fun k x cs a b => hR _ _ (h4 k x cs a b)⟩
theorem HubF.keep (h : HubF F w p A1 c1 A2 c2 A3 c3 A4 c4 H) (hc : Chg M w w') (hm : ∀ b t, F b → ¬ M b t) (hm2 : ∀ b, ¬ M b 43) : HubF F w' p A1 c1 A2 c2 A3 c3 A4 c4 H :=
  ⟨hc.blk h.blk (hm p _ h.own), h.sizes.keep1 hc (fun b hb => hm b _ (h.own1 b hb)) fun _ _ h => h, h.bufs.keep1 hc (fun b hb => hm b _ (h.own2 b hb)) fun _ _ h => h.keep hc fun b hb => hm b _ hb,
    h.shuts.keep1 hc (fun b hb => hm b _ (h.own3 b hb)) fun _ _ h => h, h.line.keep1 hc (fun b hb => hm b _ (h.own4 b hb)) fun _ _ h => h.keep hc hm2, h.own1, h.own2, h.own3, h.own4, h.own, fun b hb => Nat.lt_of_lt_of_le (h.lt b hb) hc.size⟩
theorem HubFR.keep (h : HubFR F w p H) (hc : Chg M w w') (hm : ∀ b t, F b → ¬ M b t) (hm2 : ∀ b, ¬ M b 43) : HubFR F w' p H := by
  obtain ⟨A1, c1, A2, c2, A3, c3, A4, c4, h⟩ := h
  exact ⟨A1, c1, A2, c2, A3, c3, A4, c4, h.keep hc hm hm2⟩
theorem HubFR.lt (h : HubFR F w p H) {b : Nat} (hb : F b) : b < w.heap.size := by
  obtain ⟨A1, c1, A2, c2, A3, c3, A4, c4, h⟩ := h
  exact h.lt b hb
theorem HubQ.same (h : HubFR F w p H) (hc : Chg (fun _ _ => False) w w') : HubQ F w w' p H :=
  ⟨F, h.keep hc (fun _ _ _ => id) (fun _ => id), fun _ h => .inl h, hc.mono fun _ _ _ h => h.elim⟩
theorem HubQ.trans_new {H' : HubD} (h : Chg (fun _ _ => False) w w1) (k : HubQ F w1 w' p H') : HubQ F w w' p H' := by
  obtain ⟨F', h1, h2, h3⟩ := k
  exact ⟨F', h1, fun b hb => (h2 b hb).imp id fun h' => Nat.le_trans h.size h', (h.mono fun _ _ _ h => h.elim).trans h3⟩
theorem HubQ.then_new (k : HubQ F w w1 p H) (h : Chg (fun _ _ => False) w1 w') : HubQ F w w' p H := by
  obtain ⟨F', h1, h2, h3⟩ := k
  exact ⟨F', h1.keep h (fun _ _ _ => id) (fun _ => id), h2, h3.trans (h.mono fun _ _ _ h => h.elim)⟩
theorem HubQ.comp {F1 : Nat → Prop} {H' : HubD} (hsub : ∀ b, F1 b → F b ∨ w.heap.size ≤ b) (hch : Chg (MR F) w w1) (k : HubQ F1 w1 w' p H') : HubQ F w w' p H' := by
  obtain ⟨F'', k1, k2, k3⟩ := k
  refine ⟨F'', k1, fun b hb => ?_, hch.trans_le k3 fun b t hb h => ?_⟩
  · rcases k2 b hb with h | h
    · exact hsub b h
    · exact .inr (Nat.le_trans hch.size h)
  · rcases hsub b h.1 with h' | h'
    · exact ⟨h', h.2⟩
    · omega
theorem HubQ.chg (h : HubQ F w w' p H) : Chg (MR F) w w' := h.choose_spec.2.2
end
theorem LineR.at3 {w : World} {A : Option Addr} {c k : Nat} {l : List WaitD} (h : SlR 0 40 2 RWaitV w (.slice A l.length c) l) (hk : k < l.length) : ∃ b o x A' c', A = some ⟨b, o, none⟩ ∧ l[k]? = some x ∧ I64 x.who ∧ CasesX 0 w (.slice A' x.cases.length c') x.cases ∧
    ∀ M w', Chg M w w' → (∀ b, ¬ M b 40) → w'.cell? ⟨b, o + k * 2, none⟩ = some (.int .i64 x.who) ∧ w'.cell? ⟨b, o + k * 2 + 1, none⟩ = some (.slice A' x.cases.length c') := by
  obtain ⟨b, o, x, cs, hA, hx, _, ⟨A', c'', rfl, h2, h3⟩, h4⟩ := SlR.at3' h hk
  exact ⟨b, o, x, A', c'', hA, hx, h2, h3, fun M w' hc hm => ⟨by simpa using h4 M w' hc ⟨fun b _ hb => absurd hb (Nat.not_lt_zero _), fun _ => hm⟩ 0 _ rfl, h4 M w' hc ⟨fun b _ hb => absurd hb (Nat.not_lt_zero _), fun _ => hm⟩ 1 _ rfl⟩⟩
def peerV (r : Option (Nat × Nat)) : Value := match r with
  | none => .tuple #[.int .i64 (-1), .int .i64 (-1)]
  | some (i, k) => .tuple #[.int .i64 (i : Int), .int .i64 (k : Int)]
def PeerRes (r : Option (Nat × Nat)) (w : World) (e : Ending) (w' : World) : Prop := e = .returned (peerV r) ∧ w' = w
theorem PeerRes.no {r : Option (Nat × Nat)} {w : World} (hr : r = none) : PeerRes r w (.returned (.tuple #[.int .i64 (-1), .int .i64 (-1)])) w := by subst hr; exact ⟨rfl, rfl⟩
theorem PeerRes.yes {r : Option (Nat × Nat)} {i k : Nat} {w : World} (hr : r = some (i, k)) : PeerRes r w (.returned (.tuple #[.int .i64 (i : Int), .int .i64 (k : Int)])) w := by subst hr; exact ⟨rfl, rfl⟩
def peerRel (c : Int) (s : Bool) (w : World) (l : List WaitD) (i : Value) (wr : World) : Prop :=
  ∃ k : Nat, k ≤ l.length ∧ i = .int .i64 k ∧ (findW c s l = (findW c s (l.drop k)).map fun p => (p.1 + k, p.2)) ∧ wr = w
def peerRel2 (c : Int) (s : Bool) (w : World) (l : List CaseC) (i : Value) (wr : World) : Prop :=
  ∃ k : Nat, k ≤ l.length ∧ i = .int .i64 k ∧ (caseAt c s l = (caseAt c s (l.drop k)).map fun p => p + k) ∧ wr = w
set_option maxRecDepth 100000 in
set_option maxHeartbeats 2000000 in
theorem peer_any (w : World) (F : Nat → Prop) (p : Nat) (H : HubD) (hH : HubFR F w p H) (c : Int) (s : Bool) (hs : SmallH H) :
    Calls Try.prog 42 #[.pointer (some ⟨p, 0, none⟩), .int .i64 c, .bool s] w (PeerRes (findW c s H.wait) w) := by
  obtain ⟨_, hn, hn2⟩ := hs
  obtain ⟨A1, c1, A2, c2, A3, c3, A4, c4, hI⟩ := hH
  obtain ⟨d0, d1, d2, d3⟩ := hI.blk.cells4
  have hw := Lib.hid (hI.line.slr (by decide) 0)
  have HN := Lib.hid hn2
  clear hI hn2 d0 d1 d2
  generalize hl : H.wait = l at d3 hw hn HN ⊢
  clear hl
  go_enter Try.func42, Try.ntmps42
  go_wp2_with fail
  go_loopw [8] (fun i wr => peerRel c s w l i wr) (fun i _ => l.length - (intOf i).toNat)
  case atStart => exact ⟨0, Nat.zero_le _, rfl, by cases hf : findW c s l <;> simp [hf], rfl⟩
  case round =>
    obtain ⟨k, hk, rfl, hf, rfl⟩ := hrel
    by_cases hlt : k < l.length
    · obtain ⟨b, o, x, A5, c5, rfl, hkx, _, hcs, hz⟩ := LineR.at3 hw.out hlt
      obtain ⟨z0, z1⟩ := hz _ _ (Chg.refl (fun _ _ => False) wr) fun _ => id
      have hnx := HN.out x (List.mem_of_getElem? hkx)
      have HX := Lib.hid (And.intro hkx (And.intro hf hcs))
      clear hkx hf hcs hz
      go_wp2_with fail
      go_loopw [9] (fun i wr' => peerRel2 c s wr x.cases i wr') (fun i _ => x.cases.length - (intOf i).toNat)
      case atStart => exact ⟨0, Nat.zero_le _, rfl, by cases hf : caseAt c s x.cases <;> simp [hf], rfl⟩
      case round =>
        obtain ⟨j, hj, rfl, hg, rfl⟩ := hrel
        by_cases hltj : j < x.cases.length
        · obtain ⟨b2, o2, y, rfl, hjy, _, _, y0, y1, y2⟩ := HX.out.2.2.at_ hltj
          have HY := Lib.hid (And.intro hjy hg)
          clear hjy hg
          by_cases e1 : y.chan = c
          · cases e2 : (y.send == s)
            · have HE := Lib.hid (And.intro e1 e2)
              have e1' : (y.chan == c) = true := by simpa using e1
              clear e1
              go_wp2_with fail
              go_roundw
              case rel =>
                refine ⟨j + 1, hltj, by simp, ?_, rfl⟩
                rw [caseAt_drop HY.out.1 HY.out.2, HE.out.2]; simp
              case measure => simp [intOf]; omega
            · have HE := Lib.hid (And.intro e1 e2)
              have e1' : (y.chan == c) = true := by simpa using e1
              clear e1
              go_wp2_with fail
              go_ret2
              refine PeerRes.yes ?_
              rw [findW_drop HX.out.1 HX.out.2.1, caseAt_drop HY.out.1 HY.out.2, HE.out.2, HE.out.1]; simp
          · have HE := Lib.hid e1
            have e1' : (y.chan == c) = false := by simpa using e1
            clear e1
            go_wp2_with fail
            go_roundw
            case rel =>
              refine ⟨j + 1, hltj, by simp, ?_, rfl⟩
              rw [caseAt_drop HY.out.1 HY.out.2, decide_eq_false HE.out]; simp
            case measure => simp [intOf]; omega
        · obtain rfl : j = x.cases.length := by omega
          have HY := Lib.hid hg
          clear hg
          go_wp2_with fail
          go_roundw
          case rel =>
            refine ⟨k + 1, hlt, by simp, ?_, rfl⟩
            rw [findW_drop HX.out.1 HX.out.2.1, HY.out, List.drop_length]; rfl
          case measure => simp [intOf]; omega
    · obtain rfl : k = l.length := by omega
      have HY := Lib.hid hf
      clear hf
      go_wp2_with fail
      go_ret2
      exact PeerRes.no (by rw [HY.out, List.drop_length]; rfl)
end Go.Proofs.Ytclllnoohoonoaa
