/-
  Are both hubs alike (alike); hubs on which acts were done (grown).
-/
import Derived.Test.YtclllnoohoonoaaAct4
import Derived.Test.YtclllnoohoonoaaHAns
namespace Go.Proofs.Ytclllnoohoonoaa
open Go.RowKit
set_option linter.unusedVariables false
set_option linter.unusedSimpArgs false

def alRel (n : Nat) (w : World) (i : Value) (wr : World) : Prop := ∃ k : Nat, k ≤ n ∧ i = .int .i64 ((k : Int) + 1) ∧ Chg (fun _ _ => False) w wr
def YesRes (w : World) (e : Ending) (w' : World) : Prop := e = .returned (.bool true) ∧ Chg (fun _ _ => False) w w'
set_option maxRecDepth 100000 in
set_option maxHeartbeats 4000000 in
theorem alike_any (w : World) (base p q : Nat) (H : HubD) (h2 : Two base w p q H H) (hs : SmallH H) (hok : okH H) :
    Calls Try.prog 22 #[.pointer (some ⟨p, 0, none⟩), .pointer (some ⟨q, 0, none⟩)] w (YesRes w) := by
  have HH := Lib.hid (And.intro h2 (And.intro hs hok))
  have hnl := hs.list
  obtain ⟨ws, hws⟩ : ∃ ws, (H.wait.map fun x => x.who) = ws := ⟨_, rfl⟩
  have hwl : ws.length ≤ 1099511627776 := by rw [← hws, List.length_map]; exact hs.wait
  have HW := Lib.hid (And.intro hwl hws)
  clear h2 hs hok hwl hws
  go_enter Try.func22, Try.ntmps22
  go_wp2_with fail
  go_loopw [5] (fun i wr => alRel H.list.length w i wr) (fun i _ => H.list.length + 1 - (intOf i).toNat)
  case atStart => exact ⟨0, Nat.zero_le _, rfl, Chg.refl _ _⟩
  case round =>
    obtain ⟨k, hkl, rfl, hch⟩ := hrel
    obtain ⟨wo, rfl⟩ : ∃ wo : World, wo = wr := ⟨_, rfl⟩
    have h2 := HH.out.1.same hch
    obtain ⟨G, hG⟩ := h2.hub
    obtain ⟨F, B1, b1, B2, b2, B3, b3, B4, b4, hI⟩ := h2.ref
    obtain ⟨d0, d1, d2, d3⟩ := hI.blk.cells4
    have HR := Lib.hid (And.intro hch (And.intro h2 hG))
    by_cases hlt : k < H.list.length
    · obtain ⟨gb, ch, v, rfl, hcc, hkx, e1, hq, hu, hF, hfz⟩ := BufsR.at_ hI.bufs hlt
      have hbc : bufC H ((k : Int) + 1) = (ch.buf, 0) := by
        unfold bufC
        rw [if_neg (by omega), show ((k : Int) + 1 - 1).toNat = k by omega, hkx]
      have hbl : ch.buf.length ≤ 1099511627776 := by have := HH.out.2.2 k _ hkx; omega
      have hkb : (k : Int) ≤ 1099511627776 := by omega
      have hk0 : (0 : Int) ≤ (k : Int) := by omega
      have hk1 : (k : Int) < (H.list.length : Int) := by omega
      have hw1 : IntKind.i64.wrap ((k : Int) + 1 - 1) = (k : Int) := by rw [show ((k : Int) + 1 - 1) = (k : Int) by omega]; exact IntWalk.i64_in _ (by omega)
      have q1 : decide ((k : Int) + 1 ≤ (H.list.length : Int)) = true := decide_eq_true (by omega)
      have HE := Lib.hid (And.intro hbc (And.intro hbl (And.intro hI hq)))
      clear hch h2 hG hI hkx hq hu hF hfz hbc hbl d2 d3
      go_wp2_with fail
      refine (buffer_any _ G p H HR.out.2.2 HH.out.2.1 HH.out.2.2 ((k : Int) + 1)).mono fun e w1 hh => ?_
      rw [HE.out.1] at hh
      obtain ⟨A5, c5, rfl, hq5, _, hc1⟩ := hh
      have f1 := hc1.cell d1 fun _ => id
      have f2 := hc1.cell e1 fun _ => id
      have H1 := Lib.hid (And.intro hc1 (And.intro hq5 (HE.out.2.2.2.keep hc1 fun _ _ => id)))
      clear hc1 hq5 d0 d1 e1
      simp only
      go_wp2_with fail
      refine (same_any _ _ _ _ H1.out.2.1 H1.out.2.2 HE.out.2.1).mono fun e w2 hh => ?_
      obtain ⟨rfl, n, rfl⟩ := hh
      go_wp2_with fail
      go_roundw
      case rel => exact ⟨k + 1, hlt, by simp, HR.out.1.trans (H1.out.1.drewN n)⟩
      case measure => simp [intOf]; omega
    · obtain rfl : k = H.list.length := by omega
      have q1 : decide ((H.list.length : Int) + 1 ≤ (H.list.length : Int)) = false := decide_eq_false (by omega)
      clear hch h2 hG hI d1 d2 d3
      go_wp2_with fail
      refine (waiting_any _ G p H HR.out.2.2 HH.out.2.1).mono fun e w1 hh => ?_
      rw [HW.out.2] at hh
      obtain ⟨A2, c2, rfl, hrow, hc1⟩ := hh
      obtain ⟨F, hF⟩ := (HR.out.2.1.same hc1).ref
      have H1 := Lib.hid (And.intro hc1 (And.intro hrow.read hF))
      clear hrow hc1 hF
      go_wp2_with fail
      refine (rwaiting_any _ F q H H1.out.2.2 HH.out.2.1).mono fun e w2 hh => ?_
      rw [HW.out.2] at hh
      obtain ⟨A3, c3, rfl, hrow, hc2⟩ := hh
      have H2 := Lib.hid (And.intro (H1.out.1.trans hc2) (And.intro (H1.out.2.1.keep hc2 fun _ => id) hrow.read))
      clear hrow hc2
      go_wp2_with fail
      refine (sameI_any _ _ _ _ _ _ _ _ H2.out.2.1 H2.out.2.2 HW.out.1).mono fun e w3 hh => ?_
      obtain ⟨rfl, n, rfl⟩ := hh
      go_wp2_with fail
      go_ret
      exact ⟨rfl, HR.out.1.trans (H2.out.1.drewN n)⟩
/-- Acts as the arguments hold them. -/
def ActE (base : Nat) (w : World) (cs : List Value) (a : ActD) : Prop := ∃ A c, cs = (actV a A c).toList ∧ ActOk base w a A c
def ActsA (base : Nat) (w : World) (v : Value) (l : List ActD) : Prop := SlR base 0 6 (ActE base) w v l
theorem ActOk.keep {base : Nat} {w w' : World} {a : ActD} {A : Option Addr} {c : Nat} (h : ActOk base w a A c) (hc : Chg (ML base) w w') : ActOk base w' a A c := ⟨h.who, h.chan, h.pick, h.cases.keep hc, h.small⟩
theorem ActsA.keep {base : Nat} {w w' : World} {v : Value} {l : List ActD} (h : ActsA base w v l) (hc : Chg (ML base) w w') : ActsA base w' v l :=
  SlR.keep h hc ⟨fun b t hb hm => absurd hm.1 (by omega), fun h => absurd rfl h⟩ fun cs x ⟨A, c, h1, h2⟩ => ⟨A, c, h1, h2.keep hc⟩
theorem ActsA.at_ {base : Nat} {w : World} {A : Option Addr} {n c k : Nat} {l : List ActD} (h : ActsA base w (.slice A n c) l) (hk : k < l.length) : ∃ b o a A' c', A = some ⟨b, o, none⟩ ∧ l[k]? = some a ∧ ActOk base w a A' c' ∧
    w.cell? ⟨b, o + k * 6, none⟩ = some (.int .i64 a.kind) ∧ w.cell? ⟨b, o + k * 6 + 1, none⟩ = some (.int .i64 a.who) ∧ w.cell? ⟨b, o + k * 6 + 2, none⟩ = some (.int .i64 a.chan) ∧ w.cell? ⟨b, o + k * 6 + 3, none⟩ = some (.int .i64 a.pick) ∧ w.cell? ⟨b, o + k * 6 + 4, none⟩ = some (.slice A' a.cases.length c') ∧ w.cell? ⟨b, o + k * 6 + 5, none⟩ = some (.bool a.wait) := by
  obtain ⟨b, o, c', cs, hv, _, _, _, h1, ⟨A', c'', rfl, h3⟩, h4⟩ := SlR.at_ h hk
  injection hv with hA
  exact ⟨b, o, l[k], A', c'', hA, List.getElem?_eq_getElem hk, h3, by simpa [actV] using h4 0 _ rfl, h4 1 _ rfl, h4 2 _ rfl, h4 3 _ rfl, h4 4 _ rfl, h4 5 _ rfl⟩
def TwoRes (base : Nat) (H' : HubD) (w : World) (e : Ending) (w' : World) : Prop := ∃ p q, e = .returned (.tuple #[.pointer (some ⟨p, 0, none⟩), .pointer (some ⟨q, 0, none⟩)]) ∧ Two base w' p q H' H' ∧ Chg (ML base) w w'
def grRel (base p q : Nat) (w : World) (l : List ActD) (i : Value) (wr : World) : Prop := ∃ k : Nat, k ≤ l.length ∧ i = .int .i64 k ∧ Two base wr p q (grownC (l.take k)) (grownC (l.take k)) ∧ Chg (ML base) w wr
theorem HubF.empty (w : World) : HubF (fun b => b = w.heap.size) (w.alloc (.cells #[.slice none 0 0, .slice none 0 0, .slice none 0 0, .slice none 0 0] 33)) w.heap.size none 0 none 0 none 0 none 0 emptyH :=
  ⟨Blk.new w _ _, RowR.nil _ _ _ _ _, RowR.nil _ _ _ _ _, RowR.nil _ _ _ _ _, RowR.nil _ _ _ _ _, fun b hb => by simp [Value.ownBlock] at hb, fun b hb => by simp [Value.ownBlock] at hb, fun b hb => by simp [Value.ownBlock] at hb, fun b hb => by simp [Value.ownBlock] at hb, rfl, fun b hb => by rw [hb]; simp⟩
set_option maxRecDepth 100000 in
set_option maxHeartbeats 4000000 in
theorem grown_any (w : World) (base : Nat) (hb : base ≤ w.heap.size) (A : Option Addr) (c : Nat) (l : List ActD) (hl : ActsA base w (.slice A l.length c) l) (hn : l.length ≤ 1099511627776) (hm : ∀ a ∈ l, a.cases.length ≤ 1099511627776) :
    Calls Try.prog 9 #[.slice A l.length c] w (TwoRes base (grownC l) w) := by
  have HH := Lib.hid (And.intro hl (And.intro hm hb))
  clear hl hm hb
  go_enter Try.func9, Try.ntmps9
  go_wp2_with fail
  refine (new_any w).mono fun e w1 hh => ?_
  obtain ⟨p, G, rfl, hH, hG, hc⟩ := hh
  have hc2 := chg_alloc w1 (.cells #[.slice none 0 0, .slice none 0 0, .slice none 0 0, .slice none 0 0] 33)
  have h2 : Two base (w1.alloc (.cells #[.slice none 0 0, .slice none 0 0, .slice none 0 0, .slice none 0 0] 33)) p w1.heap.size emptyH emptyH :=
    ⟨G, _, hH.keep hc2 (fun _ _ _ => id) fun _ => id, ⟨_, _, _, _, _, _, _, _, HubF.empty w1⟩, fun b hg hf => by have := hH.lt hg; rw [hf] at this; omega, fun b hg => Nat.le_trans HH.out.2.2 (hG b hg), fun b hf => by rw [hf]; exact Nat.le_trans HH.out.2.2 hc.size⟩
  have H1 := Lib.hid (And.intro h2 (hc.trans hc2))
  clear h2 hc2 hH hG hc
  go_wp2_with fail
  generalize w1.heap.size = q at H1 ⊢
  generalize w1.alloc (.cells #[.slice none 0 0, .slice none 0 0, .slice none 0 0, .slice none 0 0] 33) = w2 at H1 ⊢
  go_loopw [6] (fun i wr => grRel base p q w l i wr) (fun i _ => l.length - (intOf i).toNat)
  case atStart => exact ⟨0, Nat.zero_le _, rfl, H1.out.1, H1.out.2.no⟩
  case round =>
    obtain ⟨k, hkl, rfl, h2, hch⟩ := hrel
    obtain ⟨wo, rfl⟩ : ∃ wo : World, wo = wr := ⟨_, rfl⟩
    by_cases hlt : k < l.length
    · obtain ⟨b, o, a, A', c', rfl, hx, ha, z0, z1, z2, z3, z4, z5⟩ := (HH.out.1.keep hch).at_ hlt
      have hgo := grownC_good HH.out.2.1 k hkl
      have hk0 : (0 : Int) ≤ (k : Int) := by omega
      have hk1 : (k : Int) < (l.length : Int) := by omega
      have HR := Lib.hid (And.intro h2 (And.intro hch (And.intro hx (And.intro ha (And.intro hgo (Nat.le_trans HH.out.2.2 hch.size))))))
      clear h2 hch hx ha hgo
      go_wp2_with fail
      refine (act_any wo base p q _ HR.out.2.2.2.2.2 HR.out.1 (HR.out.2.2.2.2.1.small (by omega) (Nat.le_refl _)) HR.out.2.2.2.2.1.ok a A' c' HR.out.2.2.2.1).mono fun e w3 hh => ?_
      obtain ⟨rfl, h3, hc3⟩ := hh
      have H3 := Lib.hid (And.intro h3 hc3)
      clear h3 hc3
      go_wp2_with fail
      go_roundw
      case rel => exact ⟨k + 1, hlt, by simp, by rw [grownC_succ HR.out.2.2.1]; exact H3.out.1, HR.out.2.1.trans H3.out.2⟩
      case measure => simp [intOf]; omega
    · obtain rfl : k = l.length := by omega
      rw [List.take_length] at h2
      have HR := Lib.hid (And.intro h2 hch)
      clear h2 hch
      go_wp2_with fail
      go_ret2
      exact ⟨p, q, rfl, HR.out.1, HR.out.2⟩
end Go.Proofs.Ytclllnoohoonoaa
