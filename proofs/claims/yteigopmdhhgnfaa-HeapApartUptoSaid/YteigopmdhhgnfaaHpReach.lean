/-
  Reach of the program's heap: the names of what roots reach, rising.
-/
import Derived.Test.YteigopmdhhgnfaaHSorted
import Derived.Laws.IdiomRangeMap
namespace Go.Proofs.Yteigopmdhhgnfaa
open Go.RowKit
attribute [local go_sem] Oper.semAt_some
set_option linter.unusedVariables false
set_option linter.unusedSimpArgs false

set_option maxRecDepth 100000 in
set_option maxHeartbeats 1000000 in
theorem keysB_none (gb D : Nat) (w : World) (hb : Blk w gb 81 #[.map none]) : WalksL Try.prog 48 #[.pointer (some ⟨gb, 0, none⟩)] D (KeyG fun _ => none) (KeyF fun _ => none) w := by
  intro l J Jx O W hc hJ hJx hJO hY h0
  have y0 : W.cell? ⟨gb, 0, none⟩ = some (.map none) := by simpa using (hc.blk hb id).cell 0
  have HJ := Lib.hid (And.intro h0 hJ)
  clear hb hc hJ hJx hJO hY h0
  have hdd : ∀ k : Nat, (Fence.wide.depth.isSome = true → 1 ≤ k) := fun k h => (by cases h)
  show Calls Try.prog 48 #[.func (.yield l) #[] #[], .pointer (some ⟨gb, 0, none⟩)] W _
  have hrg := run_range_nilMap (P := Try.prog) W 81 3 4 Try.underlying81
  have hnx : ∀ ty, (Instr.next (.pointer (some ⟨W.heap.size, 0, none⟩)) false ty).run Try.prog (W.alloc (.mapIter none 0 #[] 0)) = _ := fun ty => run_next_nilMap _ ty 0 0 #[]
  have HC := Lib.hid (chg_alloc W (.mapIter none 0 #[] 0))
  go_enter Try.func48, Try.ntmps48
  go_wp2_with fail
  go_loopw [3] (fun _ wr => wr = W.alloc (.mapIter none 0 #[] 0)) (fun _ _ => 0)
  case atStart => rfl
  case round =>
    subst hrel
    go_wp2_with fail
    go_end0
    exact ⟨⟨_, rfl⟩, .inl ⟨[], O, fun z _ hz => (by cases hz), HJ.out.2 [] O W _ (HC.out.toL _) HJ.out.1⟩⟩
/-- What Reach answers. -/
noncomputable def reachL (S : List ObjD) (roots : List Int) : List Int := (liveO S roots).map fun o => (o.name : Int)
theorem sorted_eq : ∀ {a b : List Int}, a.Pairwise (fun x y => x < y) → b.Pairwise (fun x y => x ≤ y) → b.Nodup → (∀ x, x ∈ a ↔ x ∈ b) → a = b
  | [], [], _, _, _, _ => rfl
  | [], y :: b, _, _, _, h => by have := (h y).2 (by simp); cases this
  | x :: a, [], _, _, _, h => by have := (h x).1 (by simp); cases this
  | x :: a, y :: b, ha, hb, hn, h => by
    rw [List.pairwise_cons] at ha hb
    rw [List.nodup_cons] at hn
    have hxy : x = y := by
      rcases List.mem_cons.1 ((h x).1 (by simp)) with h1 | h1
      · exact h1
      · have h2 := hb.1 x h1
        rcases List.mem_cons.1 ((h y).2 (by simp)) with h3 | h3
        · exact h3.symm
        · have := ha.1 y h3; omega
    subst hxy
    have : a = b := sorted_eq ha.2 hb.2 hn.2 fun z => by
      constructor
      · intro hz
        rcases List.mem_cons.1 ((h z).1 (List.mem_cons_of_mem _ hz)) with h1 | h1
        · have := ha.1 z hz; omega
        · exact h1
      · intro hz
        rcases List.mem_cons.1 ((h z).2 (List.mem_cons_of_mem _ hz)) with h1 | h1
        · subst h1; exact absurd hz hn.1
        · exact h1
    rw [this]
theorem keys_reach {S : List ObjD} (hg : GoodO S) {roots : List Int} {K : List Nat} (hK : ∀ x, x ∈ K ↔ Rch S roots x) {zs : List Int} (h : KeysOf (setI K) zs) (hs : zs.Pairwise fun x y => x ≤ y) : zs = reachL S roots := by
  refine (sorted_eq ?_ hs h.1 fun x => ?_).symm
  · unfold reachL
    rw [List.pairwise_map]
    exact (liveO_good hg roots).sorted.imp fun h => by omega
  · unfold reachL
    rw [List.mem_map]
    constructor
    · rintro ⟨o, ho, rfl⟩
      obtain ⟨h1, h2⟩ := liveO_mem.1 ho
      have h3 := hg.top o h1
      exact h.2.2 _ (by unfold I64; omega) (by rw [setI_in ((hK _).2 h2)]; rfl)
    · intro hx
      obtain ⟨hI, hf⟩ := h.2.1 x hx
      unfold setI at hf
      split at hf
      · rename_i hany
        obtain ⟨k, hk, he⟩ := List.any_eq_true.1 hany
        have he := of_decide_eq_true he
        have hr := (hK k).1 hk
        obtain ⟨o, ho, hon⟩ := findO_isSome.1 hr.known
        have : o.name = k := by omega
        exact ⟨o, liveO_mem.2 ⟨ho, by rw [this]; exact hr⟩, by omega⟩
      · cases hf
set_option maxRecDepth 100000 in
set_option maxHeartbeats 2000000 in
theorem hreach_any (G : Nat → Prop) (B : Nat) (w : World) (p m n cnt : Nat) (bo : Nat → Nat) (A : Nat → Option Addr) (c : Nat → Nat) (S : List ObjD) (bud least : Nat) (roots : List Int) (RA : Option Addr) (rc : Nat) (h : HpI G w p m n cnt bo A c S bud least)
    (hr : SlR B 0 1 IntZ w (.slice RA roots.length rc) roots) (hB : B ≤ w.heap.size) (hI : ∀ r ∈ roots, I64 r) (hl : roots.length ≤ 1048576) :
    Calls Try.prog 18 #[.pointer (some ⟨p, 0, none⟩), .slice RA roots.length rc] w fun e w' => ∃ zs A' c', e = .returned (.tuple #[.slice A' zs.length c', .int .i64 (if knownO S roots = true then 0 else 15)]) ∧ RowR w.heap.size 3 1 IntZ w' A' c' zs ∧ zs = (if knownO S roots = true then reachL S roots else []) ∧ Chg (fun _ _ => False) w w' := by
  have hmk := hmark_any G B w p m n cnt bo A c S bud least roots RA rc h hr hB hI hl
  have HG := Lib.hid (And.intro h.good h.room)
  clear h hr hB hI
  cases hk : knownO S roots with
  | true =>
    simp only [if_true]
    go_enter Try.func18, Try.ntmps18
    go_wp2_with fail
    refine hmk.mono fun e w1 h => ?_
    obtain ⟨h1, _, hc1⟩ := h
    obtain ⟨b, K, nn, rfl, hb, hm, hnn, hnd, hK⟩ := h1 hk
    clear hmk
    have HM := Lib.hid (And.intro hb (And.intro hm (And.intro hnd (And.intro hK hc1))))
    clear hb hm hnn hnd hK hc1 hk
    go_wp2_with fail
    refine (keysB_any w1 (some b)).mono fun e w2 h => ?_
    obtain ⟨rfl, hbx, hc2⟩ := h
    have hso := sortedI_any w2 48 #[.pointer (some ⟨w1.heap.size, 0, none⟩)] (setI K) keysB_enters (fun W0 hc => keysB_walks w1.heap.size b nn K.length w2.heap.size (setI K) W0 (hc.blk hbx id) ((HM.out.2.1.keep hc2 id).keep hc id) (Nat.lt_of_lt_of_le HM.out.2.1.lt hc2.size) hc.size) (fun zs h1 h2 => by
      have k1 : zs.length ≤ (K.map fun x : Nat => (x : Int)).length := nodup_le h1 fun z hz => by
        have := (h2 z hz).2
        unfold setI at this
        split at this
        · rename_i hany
          obtain ⟨k, hk, he⟩ := List.any_eq_true.1 hany
          exact List.mem_map.2 ⟨k, hk, of_decide_eq_true he⟩
        · cases this
      have k2 : K.length ≤ (S.map fun o => o.name).length := nodup_le HM.out.2.2.1 fun x hx => by
        obtain ⟨o, ho, he⟩ := findO_isSome.1 ((HM.out.2.2.2.1 x).1 hx).known
        exact List.mem_map.2 ⟨o, ho, by omega⟩
      have k3 := len_le_used S
      have k4 := HG.out.2
      simp only [List.length_map] at k1 k2
      omega)
    have HS := Lib.hid (HM.out.2.2.2.2.trans hc2)
    clear hbx hc2
    go_wp2_with fail
    refine hso.mono fun e w3 h => ?_
    obtain ⟨zs, A3, c3, rfl, hrow, hks, hsd, hc3⟩ := h
    clear hso
    have HZ := Lib.hid (And.intro hrow (And.intro (keys_reach HG.out.1 HM.out.2.2.2.1 hks hsd) hc3))
    clear hrow hks hsd hc3
    go_wp2_with fail
    go_ret2
    exact ⟨zs, A3, c3, rfl, HZ.out.1.rebase HS.out.size, HZ.out.2.1, HS.out.trans HZ.out.2.2⟩
  | false =>
    simp only [if_false, Bool.false_eq_true]
    go_enter Try.func18, Try.ntmps18
    go_wp2_with fail
    refine hmk.mono fun e w1 h => ?_
    obtain ⟨_, h1, hc1⟩ := h
    obtain rfl := h1 hk
    clear hmk hk
    have HM := Lib.hid hc1
    clear hc1
    go_wp2_with fail
    refine (keysB_any w1 none).mono fun e w2 h => ?_
    obtain ⟨rfl, hbx, hc2⟩ := h
    have hso := sortedI_any w2 48 #[.pointer (some ⟨w1.heap.size, 0, none⟩)] (fun _ => none) keysB_enters (fun W0 hc => keysB_none w1.heap.size w2.heap.size W0 (hc.blk hbx id)) (fun zs h1 h2 => by
      cases zs with
      | nil => exact Nat.zero_le _
      | cons z zs => have := (h2 z (by simp)).2; cases this)
    have HS := Lib.hid (HM.out.trans hc2)
    clear hbx hc2
    go_wp2_with fail
    refine hso.mono fun e w3 h => ?_
    obtain ⟨zs, A3, c3, rfl, hrow, hks, hsd, hc3⟩ := h
    clear hso
    have hz0 : zs = [] := by
      cases zs with
      | nil => rfl
      | cons z zs => have := (hks.2.1 z (by simp)).2; cases this
    have HZ := Lib.hid (And.intro hrow (And.intro hz0 hc3))
    clear hrow hks hsd hc3 hz0
    go_wp2_with fail
    go_ret2
    exact ⟨zs, A3, c3, rfl, HZ.out.1.rebase HS.out.size, HZ.out.2.1, HS.out.trans HZ.out.2.2⟩
end Go.Proofs.Yteigopmdhhgnfaa
