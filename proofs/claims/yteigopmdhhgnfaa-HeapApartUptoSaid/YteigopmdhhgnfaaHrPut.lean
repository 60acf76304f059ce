/-
  The reference's heap behind a cell written.
-/
import Derived.Test.YteigopmdhhgnfaaHrCell
namespace Go.Proofs.Yteigopmdhhgnfaa
open Go.RowKit
set_option linter.unusedVariables false
set_option linter.unusedSimpArgs false

theorem RhI.put {F : Nat → Prop} {w : World} {q : Nat} {A : Option Addr} {c : Nat} {S : List ObjD} {bud : Nat} (h : RhI F w q A c S bud) {j : Nat} {x : ObjD} (hj : S[j]? = some x) {k v : Nat} (hk : k < x.cells.length) (hv : v < 18446744073709551616) (hr : x.refs[k]? = some true → v = 0 ∨ (findO S v).isSome = true) :
    ∃ b g cur c1, A = some ⟨b, 0, none⟩ ∧ w.cell? ⟨b, j * 3 + 1, none⟩ = some (.slice (some ⟨g, 0, none⟩) x.cells.length c1) ∧ Blk w g 44 cur ∧ k < cur.size ∧
      RhI F (w.setCell ⟨g, k, none⟩ (.int .u64 (v : Int))) q A c (putO S x.name k v) bud ∧ Chg (MR F) w (w.setCell ⟨g, k, none⟩ (.int .u64 (v : Int))) := by
  have hjl := (List.getElem?_eq_some_iff.1 hj).1
  obtain ⟨b, x', A1, c1, A2, c2, hA, hx', _, _, z1, _⟩ := h.objs.at_ hjl
  obtain rfl : x' = x := by rw [hj] at hx'; exact (Option.some.inj hx').symm
  obtain ⟨xss, h1, h2, h3, h4, h5, h6⟩ := h.objs
  have hjx : j < xss.length := by rw [h2]; exact hjl
  have hcs := List.getElem?_eq_getElem hjx
  obtain ⟨B1, d1, B2, d2, he, hr1, hr2, ho1, ho2⟩ := h4 j x' xss[j] hj hcs
  -- the same slice as the cell shows
  have hrow : RowR 0 39 3 (RObjV F) w A c S := ⟨xss, h1, h2, h3, h4⟩
  have hsl : A1 = B1 ∧ c1 = d1 := by
    have hfl : xss.flatten[j * 3 + 1]? = some (.slice B1 x'.cells.length d1) := by
      rw [flatten_at xss h3 j 1 hjx (by omega), he]
      rfl
    rcases h1.2 with ⟨_, h0⟩ | ⟨g, cap, cur, hv', hg, hb, hnc, hm, hs, ht⟩
    · omega
    · injection hv' with hv' _ _
      rw [hA] at hv'
      injection hv' with hv'
      injection hv' with hv'
      subst hv'
      have hcell := hb
      have : w.cell? ⟨b, j * 3 + 1, none⟩ = cur[j * 3 + 1]? := (show Blk w b 39 cur from hb).cell _
      rw [z1] at this
      rw [← ht, List.getElem?_take_of_lt (by omega), Array.getElem?_toList, ← this] at hfl
      injection hfl with hfl
      injection hfl with e1 e2 e3
      exact ⟨e1, e3⟩
  obtain ⟨rfl, rfl⟩ := hsl
  obtain ⟨g, cur, rfl, hbg, hkc, hrow'⟩ := u64_set hr1 hk v
  have hch := chg_set (j := k) hbg (.int .u64 (v : Int))
  have hFg : F g := ho1 g rfl
  have hgd : ∀ x'' ∈ S, x''.name = x'.name → x'' = x' := fun y hy he => by
    have e1 := findO_some h.good.sorted (List.mem_of_getElem? hj)
    have e2 := findO_some h.good.sorted hy
    rw [he, e1] at e2
    injection e2 with e2
    exact e2.symm
  refine ⟨b, g, cur, c1, hA, z1, hbg, hkc, ⟨?_, ⟨xss, ?_, ?_, h3, fun i y cs hy hcs' => ?_, h5, ?_⟩, h.own, fun b' hb' => ?_, good_put h.good hv fun y hy he hrr => ?_, by rw [usedO_put]; exact h.room⟩, hch.mono fun b' t _ hm => ⟨hm.1 ▸ hFg, .inr hm.2⟩⟩
  · have hlen : (putO S x'.name k v).length = S.length := by simp [putO]
    rw [hlen]
    exact hch.blk h.blk fun hm => absurd hm.2 (by decide)
  · have hlen : (putO S x'.name k v).length = S.length := by simp [putO]
    rw [hlen]
    exact hch.own h1 fun g' _ hm => absurd hm.2 (by decide)
  · simp [putO, h2]
  · rw [show (putO S x'.name k v)[i]? = (S[i]?).map (putX x'.name k v) by simp [putO]] at hy
    obtain ⟨z, hz, rfl⟩ := Option.map_eq_some_iff.1 hy
    obtain ⟨E1, e1, E2, e2, hce, k1, k2, k3, k4⟩ := h4 i z cs hz hcs'
    by_cases hn : z.name = x'.name
    · obtain rfl := hgd z (List.mem_of_getElem? hz) hn
      have hij : i = j := by
        obtain ⟨p1, p2⟩ := List.getElem?_eq_some_iff.1 hz
        obtain ⟨p3, p4⟩ := List.getElem?_eq_some_iff.1 hj
        rcases Nat.lt_trichotomy i j with hlt | hlt | hlt
        · have := List.pairwise_iff_getElem.1 h.good.sorted i j p1 p3 hlt; rw [p2, p4] at this; omega
        · exact hlt
        · have := List.pairwise_iff_getElem.1 h.good.sorted j i p3 p1 hlt; rw [p2, p4] at this; omega
      subst hij
      rw [hcs] at hcs'
      injection hcs' with hcs'
      rw [← hcs', he] at hce
      have hce' : some (Addr.mk g 0 none) = E1 ∧ c1 = e1 ∧ B2 = E2 ∧ d2 = e2 := by simpa [and_assoc] using hce
      obtain ⟨rfl, rfl, rfl, rfl⟩ := hce'
      rw [putX_same rfl]
      refine ⟨some ⟨g, 0, none⟩, c1, B2, d2, ?_, hrow', k2.keep1 hch (fun _ _ hm => absurd hm.2 (by decide)) fun _ _ h => h, ?_, k4⟩
      · rw [← hcs', he]
        simp
      · simp only [List.length_set]
        exact k3
    · rw [putX_other hn]
      refine ⟨E1, e1, E2, e2, hce, k1.keep1 hch (fun g' hg' hm => hn ?_) fun _ _ h => h, k2.keep1 hch (fun _ _ hm => absurd hm.2 (by decide)) fun _ _ h => h, k3, k4⟩
      have hgg : g' = g := hm.1
      subst hgg
      have := h5 i j cs xss[j] g' hcs' hcs (by rw [hce]; exact hg') (by rw [he]; rfl)
      subst this
      rw [hj] at hz
      injection hz with hz
      rw [hz]
  · have hlen : (putO S x'.name k v).length = S.length := by simp [putO]
    rw [hlen]
    exact h6
  · simpa [World.setCell] using h.lt b' hb'
  · obtain rfl := hgd y hy he
    exact hr hrr
end Go.Proofs.Yteigopmdhhgnfaa
