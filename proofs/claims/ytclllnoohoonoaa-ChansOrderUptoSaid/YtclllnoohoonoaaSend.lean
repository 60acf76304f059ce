/-
  chans: a sending that can go on (send).
-/
import Derived.Test.YtclllnoohoonoaaServe
namespace Go.Proofs.Ytclllnoohoonoaa
open Go.RowKit
set_option linter.unusedVariables false
set_option linter.unusedSimpArgs false

theorem ChansI.core {G : Nat → Prop} {w w1 : World} {g c k j : Nat} {l : List ChanD} {x x' : ChanD} {u v v' : Value} (h : ChansI G w (some ⟨g, 0, none⟩) c l) (hk : l[k]? = some x) (hv : w.cell? ⟨g, k * 3 + 1, none⟩ = some v) (hc : Chg (fun b t => v.ownBlock = some b ∧ t = 41) w w1) (hj : j < 3)
    (hcs : [Value.int .i64 x.size, v, .bool x.shut].set j u = [.int .i64 x'.size, v', .bool x'.shut]) (hi : I64 x'.size) (hq : QR w1 41 v' (u64V x'.buf)) (hu : ∀ y ∈ x'.buf, U64 y) (hown : ∀ b, v'.ownBlock = some b → v.ownBlock = some b ∨ w.heap.size ≤ b) :
    ChansI (fun b => G b ∨ v'.ownBlock = some b) (w1.setCell ⟨g, k * 3 + j, none⟩ u) (some ⟨g, 0, none⟩) c (l.set k x') ∧ (∃ cur, Blk w1 g 78 cur ∧ Blk w g 78 cur) ∧ G g ∧ (∀ b, v.ownBlock = some b → G b) := by
  obtain ⟨xss, h1, h2, h3, h4, h5, h6, h7⟩ := h
  have hkl : k < l.length := (List.getElem?_eq_some_iff.1 hk).1
  obtain ⟨g', cs, hA, hcc, hcs', hgl, ⟨cur, hcur⟩, hcell, hfz⟩ := own_at h1 h2 h3 hkl
  injection hA with hA
  injection hA with hA
  subst hA
  obtain ⟨v0, rfl, _⟩ := h4 k x cs hk hcs'
  have hv0 : v0 = v := by
    have := hcell 1 v0 rfl
    rw [hv] at this
    injection this with this
    exact this.symm
  subst hv0
  have hb1 : Blk w1 g 78 cur := hc.blk hcur fun h => absurd h.2 (by decide)
  have hs := chg_set (j := k * 3 + j) hb1 u
  have how1 := hc.own h1 fun g hg h => absurd h.2 (by decide)
  have how2 := own_set (i := k * 3 + j) how1 u
  rw [set_flat xss h3 k j u hj] at how2
  have hkx : k < xss.length := by omega
  have hmod : xss.modify k (fun cs => cs.set j u) = xss.set k [.int .i64 x'.size, v', .bool x'.shut] := by
    apply List.ext_getElem?
    intro i
    rw [List.getElem?_modify, List.getElem?_set]
    by_cases hik : k = i
    · subst hik
      rw [hcs']
      simp [hkx, hcs]
    · simp [hik]
  rw [hmod] at how2
  have hget : ∀ (i : Nat) ci, (xss.set k [.int .i64 x'.size, v', .bool x'.shut])[i]? = some ci → (i = k ∧ ci = [.int .i64 x'.size, v', .bool x'.shut]) ∨ (i ≠ k ∧ xss[i]? = some ci) := by
    intro i ci hi
    by_cases hik : i = k
    · subst hik
      rw [List.getElem?_set_self hkx] at hi
      injection hi with hi
      exact .inl ⟨rfl, hi.symm⟩
    · rw [List.getElem?_set_ne (Ne.symm hik)] at hi
      exact .inr ⟨hik, hi⟩
  have hbk : ∀ b, v0.ownBlock = some b → G b := fun b hb => h6 k _ b hcs' hb
  have hfar : ∀ (i : Nat) ci b, xss[i]? = some ci → i ≠ k → bufOf ci = some b → ¬ (v0.ownBlock = some b) := fun i ci b hi hik hb hb' => hik (h5 i k ci _ b hi hcs' hb hb')
  refine ⟨⟨xss.set k [.int .i64 x'.size, v', .bool x'.shut], by rw [List.length_set]; exact how2, by simp [h2], ?_, ?_, ?_, ?_, fun b hb => .inl (h7 b (by rw [List.length_set] at hb; exact hb))⟩, ⟨cur, hb1, hcur⟩, h7 g rfl, hbk⟩
  · intro ci hci
    obtain ⟨i, hi⟩ := List.getElem?_of_mem hci
    rcases hget i ci hi with ⟨_, rfl⟩ | ⟨_, hi⟩
    · rfl
    · exact h3 ci (List.mem_of_getElem? hi)
  · intro i y ci hy hci
    rcases hget i ci hci with ⟨rfl, rfl⟩ | ⟨hik, hi'⟩
    · rw [List.getElem?_set_self hkl] at hy
      injection hy with hy
      subst hy
      exact ⟨v', rfl, hi, hq.keep hs (fun b hb h => absurd h.2 (by decide)), hu⟩
    · rw [List.getElem?_set_ne (Ne.symm hik)] at hy
      exact ((h4 i y ci hy hi').keep hc fun b hb h => hfar i ci b hi' hik hb h.1).keep hs fun b hb h => absurd h.2 (by decide)
  · intro i j' ci cj b hi hj' hb1 hb2
    rcases hget i ci hi with ⟨rfl, rfl⟩ | ⟨hik, hi'⟩ <;> rcases hget j' cj hj' with ⟨rfl, rfl⟩ | ⟨hjk, hj''⟩
    · rfl
    · rcases hown b hb1 with h | h
      · exact absurd h (hfar j' cj b hj'' hjk hb2)
      · exfalso
        obtain ⟨v2, hcj, _, hq2, _⟩ := h4 j' _ cj (List.getElem?_eq_getElem (by have := (List.getElem?_eq_some_iff.1 hj'').1; omega)) hj''
        rw [hcj] at hb2
        have := (hq2.lt hb2).1
        omega
    · rcases hown b hb2 with h | h
      · exact absurd h (hfar i ci b hi' hik hb1)
      · exfalso
        obtain ⟨v2, hci, _, hq2, _⟩ := h4 i _ ci (List.getElem?_eq_getElem (by have := (List.getElem?_eq_some_iff.1 hi').1; omega)) hi'
        rw [hci] at hb1
        have := (hq2.lt hb1).1
        omega
    · exact h5 i j' ci cj b hi' hj'' hb1 hb2
  · intro i ci b hi hb
    rcases hget i ci hi with ⟨rfl, rfl⟩ | ⟨hik, hi'⟩
    · exact .inr hb
    · exact .inl (h6 i ci b hi' hb)
theorem QR.chg_grown {w w1 : World} {e : TypeId} {v : Value} {xs : List Value} (hq : QR w e v xs) (hg : w.grownBy w1 v.ownBlock) : Chg (fun b t => v.ownBlock = some b ∧ t = e) w w1 :=
  (Chg.refl _ w).grown hg fun g o hgo ho => by
    obtain ⟨_, cur, hb⟩ := hq.lt hgo
    rw [show w.heap[g]? = _ from hb] at ho
    injection ho with ho
    subst ho
    exact ⟨hgo, rfl⟩
theorem HubI.setCoreI {G : Nat → Prop} {w w1 : World} {A' : Option Addr} {c c' p g k j : Nat} {H : HubD} {x x' : ChanD} {u v v' : Value} (hI : HubI G w p (some ⟨g, 0, none⟩) c A' c' H) (hk : H.list[k]? = some x) (hv : w.cell? ⟨g, k * 3 + 1, none⟩ = some v) (hc : Chg (fun b t => v.ownBlock = some b ∧ t = 41) w w1) (hj : j < 3)
    (hcs : [Value.int .i64 x.size, v, .bool x.shut].set j u = [.int .i64 x'.size, v', .bool x'.shut]) (hi : I64 x'.size) (hq : QR w1 41 v' (u64V x'.buf)) (hu : ∀ y ∈ x'.buf, U64 y) (hown : ∀ b, v'.ownBlock = some b → v.ownBlock = some b ∨ w.heap.size ≤ b) :
    HubI (fun b => G b ∨ v'.ownBlock = some b) (w1.setCell ⟨g, k * 3 + j, none⟩ u) p (some ⟨g, 0, none⟩) c A' c' (setCh H k x') ∧ (∀ b, (G b ∨ v'.ownBlock = some b) → G b ∨ w.heap.size ≤ b) ∧ Chg (MI G) w (w1.setCell ⟨g, k * 3 + j, none⟩ u) ∧ (∀ i, w1.cell? ⟨g, i, none⟩ = w.cell? ⟨g, i, none⟩) ∧ ∀ i, w1.frozen? ⟨g, i, none⟩ = false := by
  obtain ⟨hch, ⟨cur, hb1, hb0⟩, hGg, hGv⟩ := hI.chans.core hk hv hc hj hcs hi hq hu hown
  have hs := chg_set (j := k * 3 + j) hb1 u
  refine ⟨⟨?_, hch, ?_, fun b hb => .inl (hI.wown b hb), .inl hI.own, ?_⟩, fun b hb => ?_, ?_, fun i => by rw [hb1.cell, hb0.cell], fun i => hb1.frozen i⟩
  · have := hs.blk (hc.blk hI.blk fun h => absurd h.2 (by decide)) fun h => absurd h.2 (by decide)
    simpa [setCh] using this
  · exact (hI.waits.keep1 hc (fun b hb h => absurd h.2 (by decide)) fun _ _ h => h.keep hc fun b h => absurd h.2 (by decide)).keep1 hs (fun b hb h => absurd h.2 (by decide)) fun _ _ h => h.keep hs fun b h => absurd h.2 (by decide)
  · intro b hb
    have : b < w1.heap.size := by
      rcases hb with h | h
      · exact Nat.lt_of_lt_of_le (hI.lt b h) hc.size
      · exact (hq.lt h).1
    simpa [World.setCell] using this
  · rcases hb with h | h
    · exact .inl h
    · exact (hown b h).imp (hGv b) id
  · refine (hc.mono fun b t _ h => ⟨hGv b h.1, .inr (.inr (.inr h.2))⟩).trans_le (hs.mono fun b t _ h => ?_) fun b t hb h => h
    exact ⟨by rw [h.1]; exact hGg, .inr (.inl h.2)⟩
theorem HubI.setCore {G : Nat → Prop} {w w1 : World} {A' : Option Addr} {c c' p g k j : Nat} {H : HubD} {x x' : ChanD} {u v v' : Value} (hI : HubI G w p (some ⟨g, 0, none⟩) c A' c' H) (hk : H.list[k]? = some x) (hv : w.cell? ⟨g, k * 3 + 1, none⟩ = some v) (hc : Chg (fun b t => v.ownBlock = some b ∧ t = 41) w w1) (hj : j < 3)
    (hcs : [Value.int .i64 x.size, v, .bool x.shut].set j u = [.int .i64 x'.size, v', .bool x'.shut]) (hi : I64 x'.size) (hq : QR w1 41 v' (u64V x'.buf)) (hu : ∀ y ∈ x'.buf, U64 y) (hown : ∀ b, v'.ownBlock = some b → v.ownBlock = some b ∨ w.heap.size ≤ b) :
    HubP G w (w1.setCell ⟨g, k * 3 + j, none⟩ u) p (setCh H k x') ∧ (∀ i, w1.cell? ⟨g, i, none⟩ = w.cell? ⟨g, i, none⟩) ∧ ∀ i, w1.frozen? ⟨g, i, none⟩ = false := by
  obtain ⟨h1, h2, h3, h4⟩ := hI.setCoreI hk hv hc hj hcs hi hq hu hown
  exact ⟨⟨_, ⟨_, _, _, _, h1⟩, h2, h3⟩, h4⟩
end Go.Proofs.Ytclllnoohoonoaa
