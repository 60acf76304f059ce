/-
  The names of all objects of the program's heap, rising.
-/
import Derived.Test.YteigopmdhhgnfaaHpReach
namespace Go.Proofs.Yteigopmdhhgnfaa
open Go.RowKit
set_option linter.unusedVariables false
set_option linter.unusedSimpArgs false

theorem keys_names {S : List ObjD} (hg : GoodO S) {f : Int → Option Value} (hf : ∀ z, (f z).isSome = (findO S z).isSome) {zs : List Int} (h : KeysOf f zs) (hs : zs.Pairwise fun x y => x ≤ y) : zs = S.map fun o => (o.name : Int) := by
  refine (sorted_eq ?_ hs h.1 fun x => ?_).symm
  · rw [List.pairwise_map]
    exact hg.sorted.imp fun h => by omega
  · rw [List.mem_map]
    constructor
    · rintro ⟨o, ho, rfl⟩
      have h3 := hg.top o ho
      exact h.2.2 _ (by unfold I64; omega) (by rw [hf]; exact findO_isSome.2 ⟨o, ho, rfl⟩)
    · intro hx
      have h1 := (h.2.1 x hx).2
      rw [hf] at h1
      obtain ⟨o, ho, he⟩ := findO_isSome.1 h1
      exact ⟨o, ho, he⟩
set_option maxRecDepth 100000 in
set_option maxHeartbeats 1000000 in
theorem hnames_any (G : Nat → Prop) (w : World) (p m n cnt : Nat) (bo : Nat → Nat) (A : Nat → Option Addr) (c : Nat → Nat) (S : List ObjD) (bud least : Nat) (h : HpI G w p m n cnt bo A c S bud least) :
    Calls Try.prog 38 #[.pointer (some ⟨p, 0, none⟩)] w fun e w' => ∃ A' c', e = .returned (.slice A' S.length c') ∧ RowR w.heap.size 3 1 IntZ w' A' c' (S.map fun o => (o.name : Int)) ∧ Chg (fun _ _ => False) w w' := by
  have x0 : w.cell? ⟨p, 0, none⟩ = some (.map (some m)) := by simpa using h.blk.cell 0
  have HH := Lib.hid h
  clear h
  go_enter Try.func38, Try.ntmps38
  go_wp2_with fail
  refine (keysO_any w (some m)).mono fun e w2 h => ?_
  obtain ⟨rfl, hbx, hc2⟩ := h
  have hf : ∀ z, ((fun x => (findO S x).map fun o => Value.pointer (some ⟨bo o.name, 0, none⟩)) z).isSome = (findO S z).isSome := fun z => by simp
  have hso := sortedI_any w2 54 #[.pointer (some ⟨w.heap.size, 0, none⟩)] (fun x => (findO S x).map fun o => Value.pointer (some ⟨bo o.name, 0, none⟩)) keysO_enters (fun W0 hc => keysO_walks w.heap.size m n cnt w2.heap.size _ W0 (hc.blk hbx id) ((HH.out.map.keep hc2 id).keep hc id) (Nat.lt_of_lt_of_le HH.out.map.lt hc2.size) hc.size) (fun zs h1 h2 => by
    have k1 : zs.length ≤ (S.map fun o => (o.name : Int)).length := nodup_le h1 fun z hz => by
      have h3 := (h2 z hz).2
      rw [hf] at h3
      obtain ⟨o, ho, he⟩ := findO_isSome.1 h3
      exact List.mem_map.2 ⟨o, ho, he⟩
    have k3 := len_le_used S
    have k4 := HH.out.room
    simp only [List.length_map] at k1
    omega)
  have HS := Lib.hid hc2
  clear hbx hc2
  go_wp2_with fail
  refine hso.mono fun e w3 h => ?_
  obtain ⟨zs, A3, c3, rfl, hrow, hks, hsd, hc3⟩ := h
  clear hso
  have hzs := keys_names HH.out.good hf hks hsd
  have hlen : zs.length = S.length := by rw [hzs]; simp
  rw [hlen]
  have HZ := Lib.hid (And.intro hrow (And.intro hzs hc3))
  clear hrow hks hsd hc3 hzs hlen hf
  go_wp2_with fail
  go_ret
  refine ⟨A3, c3, rfl, ?_, HS.out.trans HZ.out.2.2⟩
  rw [← HZ.out.2.1]
  exact HZ.out.1.rebase HS.out.size
end Go.Proofs.Yteigopmdhhgnfaa
