/-
  The reference: a waiter waits no more (remove).
-/
import Derived.Test.YtclllnoohoonoaaRHub
namespace Go.Proofs.Ytclllnoohoonoaa
open Go.RowKit
set_option linter.unusedVariables false
set_option linter.unusedSimpArgs false

theorem infoRWaiter : (Try.prog.info? 40).map (fun i => (i.zero, i.size, i.bytes)) = some (some (.agg #[.int .i64 0, .slice none 0 0]), 2, 32) := by kernel_rfl
theorem infoRCase : (Try.prog.info? 43).map (fun i => (i.zero, i.size, i.bytes)) = some (some (.agg #[.bool false, .int .i64 0, .int .u64 0]), 3, 24) := by kernel_rfl
theorem infoBool : (Try.prog.info? 4).map (fun i => (i.zero, i.size, i.bytes)) = some (some (.bool false), 1, 1) := by kernel_rfl
theorem infoU64s : (Try.prog.info? 34).map (fun i => (i.zero, i.size, i.bytes)) = some (some (.slice none 0 0), 1, 24) := by kernel_rfl
theorem infoRServed : (Try.prog.info? 105).map (fun i => (i.zero, i.size, i.bytes)) = some (some (.agg #[.int .i64 0, .int .i64 0, .int .u64 0, .bool false]), 4, 32) := by kernel_rfl
/-- Another list of those who wait is laid into the reference's hub. -/
theorem HubF.setLine {F : Nat → Prop} {w w1 : World} {A1 A2 A3 A4 A5 : Option Addr} {c1 c2 c3 c4 c5 p : Nat} {H : HubD} {l' : List WaitD} (hI : HubF F w p A1 c1 A2 c2 A3 c3 A4 c4 H) (hc : Chg (fun b t => F b ∧ t = 40) w w1) (hrow : RowR 0 40 2 RWaitV w1 A5 c5 l') (hown : ∀ b, (Value.slice A5 l'.length c5).ownBlock = some b → F b ∨ w.heap.size ≤ b) :
    HubQ F w (w1.setCell ⟨p, 3, none⟩ (.slice A5 l'.length c5)) p { H with wait := l' } ∧ Blk w1 p 33 #[.slice A1 H.list.length c1, .slice A2 H.list.length c2, .slice A3 H.list.length c3, .slice A4 H.wait.length c4] := by
  have hb1 := hc.blk hI.blk fun h => absurd h.2 (by decide)
  have hs := chg_set (j := 3) hb1 (.slice A5 l'.length c5)
  have hlt : ∀ b, (Value.slice A5 l'.length c5).ownBlock = some b → b < w1.heap.size := fun b hb => (hrow.lt hb).1
  refine ⟨⟨fun b => F b ∨ (Value.slice A5 l'.length c5).ownBlock = some b, ⟨A1, c1, A2, c2, A3, c3, A5, c5, ?_, ?_, ?_, ?_, ?_, fun b hb => .inl (hI.own1 b hb), fun b hb => .inl (hI.own2 b hb), fun b hb => .inl (hI.own3 b hb), fun b hb => .inr hb, .inl hI.own, ?_⟩, fun b hb => hb.elim .inl (hown b), ?_⟩, hb1⟩
  · simpa using hb1.set_ 3 (.slice A5 l'.length c5)
  · exact (hI.sizes.keep1 hc (fun b hb h => absurd h.2 (by decide)) fun _ _ h => h).keep1 hs (fun b hb h => absurd h.2 (by decide)) fun _ _ h => h
  · exact ((hI.bufs.keep1 hc (fun b hb h => absurd h.2 (by decide)) fun _ _ h => h.keep hc fun b hb h => absurd h.2 (by decide)).keep1 hs (fun b hb h => absurd h.2 (by decide)) fun _ _ h => h.keep hs fun b hb h => absurd h.2 (by decide)).imp fun _ _ h => h.more fun b hb => Or.inl hb
  · exact (hI.shuts.keep1 hc (fun b hb h => absurd h.2 (by decide)) fun _ _ h => h).keep1 hs (fun b hb h => absurd h.2 (by decide)) fun _ _ h => h
  · exact hrow.keep1 hs (fun b hb h => absurd h.2 (by decide)) fun _ _ h => h.keep hs fun b h => absurd h.2 (by decide)
  · intro b hb
    have : b < w1.heap.size := hb.elim (fun h => Nat.lt_of_lt_of_le (hI.lt b h) hc.size) (hlt b)
    simpa [World.setCell] using this
  · refine (hc.mono fun b t _ h => ⟨h.1, .inr (.inr (.inr (.inr h.2)))⟩).trans_le (hs.mono fun b t _ h => ?_) fun b t hb h => h
    exact ⟨by rw [h.1]; exact hI.own, .inl h.2⟩
theorem SlR.take_ {α : Type} {B e size n c i : Nat} {R : World → List Value → α → Prop} {w : World} {A : Option Addr} {l : List α} (h : SlR B e size R w (.slice A n c) l) (hi : i ≤ n) : SlR B e size R w (.slice A i c) (l.take i) := by
  obtain ⟨A', c', hv, hl, h⟩ := h
  injection hv with h1 h2 h3
  subst h1 h2 h3
  have hlen : (l.take i).length = i := by simp; omega
  refine ⟨A, c, by rw [hlen], by omega, fun h0 => ?_⟩
  obtain ⟨b, o, hA, hL, hlt, hk⟩ := h (by omega)
  refine ⟨b, o, hA, hL, hlt, fun k x hx => hk k x ?_⟩
  rw [List.getElem?_take] at hx
  split at hx
  · exact hx
  · cases hx
theorem one_rwait {w : World} (cs : List Value) (x : WaitD) (h : RWaitV w cs x) : ∀ u ∈ cs, u.oneCell' = true := by
  obtain ⟨A, c, rfl, _⟩ := h
  intro u hu
  simp at hu
  rcases hu with rfl | rfl <;> rfl
theorem one_flat {α : Type} {w : World} {R : World → List Value → α → Prop} {l : List α} {xss : List (List Value)} (h2 : xss.length = l.length) (h4 : ∀ (k : Nat) x cs, l[k]? = some x → xss[k]? = some cs → R w cs x) (h1 : ∀ cs x, R w cs x → ∀ u ∈ cs, u.oneCell' = true) : ∀ u ∈ xss.flatten, u.oneCell' = true := by
  intro u hu
  obtain ⟨cs, hcs, hu⟩ := List.mem_flatten.1 hu
  obtain ⟨k, hk⟩ := List.getElem?_of_mem hcs
  have hkl : k < l.length := by have := (List.getElem?_eq_some_iff.1 hk).1; omega
  exact h1 cs _ (h4 k _ cs (List.getElem?_eq_getElem hkl) hk) u hu
theorem drop_flat {β : Type} {size : Nat} : ∀ (xss : List (List β)) (_ : ∀ cs ∈ xss, cs.length = size) (k : Nat), xss.flatten.drop (k * size) = (xss.drop k).flatten
  | [], _, k => by simp
  | x :: xss, h, 0 => by simp
  | x :: xss, h, k + 1 => by
    have hx := h x (by simp)
    rw [List.flatten_cons, List.drop_succ_cons, Nat.succ_mul, Nat.add_comm, List.drop_append, List.drop_eq_nil_of_le (by omega), hx, show size + k * size - size = k * size by omega, drop_flat xss (fun cs hc => h cs (by simp [hc])) k]
    rfl
theorem erase_split {α : Type} (l : List α) (i : Nat) : l.eraseIdx i = l.take i ++ l.drop (i + 1) := List.eraseIdx_eq_take_drop_succ l i
set_option maxRecDepth 100000 in
set_option maxHeartbeats 4000000 in
theorem rremove_any (w : World) (F : Nat → Prop) (p : Nat) (H : HubD) (hH : HubFR F w p H) (hs : SmallH H) (i : Nat) (hi : i < H.wait.length) :
    Calls Try.prog 48 #[.pointer (some ⟨p, 0, none⟩), .int .i64 i] w fun e w' => e = .returned (.tuple #[]) ∧ HubQ F w w' p (unwait H i) := by
  obtain ⟨i0, hi0, hz0, hs0, hb0⟩ := info_parts infoRWaiter
  obtain ⟨A1, c1, A2, c2, A3, c3, A4, c4, hI⟩ := hH
  obtain ⟨d0, d1, d2, d3⟩ := hI.blk.cells4
  obtain ⟨xss, how, h2, h3, h4⟩ := hI.line
  obtain ⟨g, cs, rfl, hnc, hcs, hgl, ⟨cur, hgb⟩, hcell, hfz⟩ := own_at how h2 h3 hi
  have hsl : SlR 0 40 2 RWaitV w (.slice (some ⟨g, 0, none⟩) i c4) (H.wait.take i) := (RowR.slr (by decide) hI.line 0).take_ (by omega)
  have hn := hs.wait
  have hpl : p < w.heap.size := hI.blk.lt
  obtain ⟨A5, hA5, hrd⟩ : ∃ A5, (if c4 = i + 1 then some (⟨g, 0, none⟩ : Addr) else some ⟨g, (i + 1) * 2, none⟩) = A5 ∧ Reads w w.heap.size 2 A5 (H.wait.length - (i + 1)) (xss.drop (i + 1)).flatten := by
    have hr := (Reads.of_own how).cut (k := i + 1) (cap := c4) (by omega) hnc
    rw [drop_flat xss h3] at hr
    refine ⟨_, rfl, ?_⟩
    have e : (if c4 = i + 1 then some (⟨g, 0, none⟩ : Addr) else (some (⟨g, 0, none⟩ : Addr)).map (·.add ((i + 1) * 2))) = if c4 = i + 1 then some (⟨g, 0, none⟩ : Addr) else some ⟨g, (i + 1) * 2, none⟩ := by
      simp [add_flat]
    rw [← e]
    exact hr
  have HI := Lib.hid (And.intro hI (And.intro h2 (And.intro h3 (And.intro h4 (And.intro hrd hgb)))))
  have hii : (0 : Int) ≤ (i : Int) := by omega
  have hin : (i : Int) ≤ (H.wait.length : Int) := by omega
  have hin1 : (i : Int) + 1 ≤ (H.wait.length : Int) := by omega
  have hic : i ≤ c4 := by omega
  have hic1 : i + 1 ≤ c4 := by omega
  have hin2 : i + 1 ≤ H.wait.length := by omega
  clear hI how h2 h3 h4 hcs hgb hcell hfz hrd hs
  go_enter Try.func48, Try.ntmps48
  go_wp2_with (at_builtin; go_must (refine wpList_copy_slr rfl (.tmp 5) (.tmp 11) 31 rfl 40 i0 _ 32 Try.underlying31 hi0 hz0 hs0 hb0 rfl (by omega) (some ⟨g, 0, none⟩) i c4 rfl (by simp) rfl hsl one_rwait (by omega) (by omega) ?_))
  intro A6 c6 w2 yss k1 k2 k3 k4 k5
  have e3 := k5.cell d3 fun _ => id
  have hrd2 : Reads w2 w.heap.size 2 A5 (H.wait.length - (i + 1)) (xss.drop (i + 1)).flatten := HI.out.2.2.2.2.1.keep fun q hq => by
    rw [World.cell?_of_block (w := w)]
    rw [Array.getElem?_eq_getElem hq]
    exact k5.keep q.block _ (Array.getElem?_eq_getElem hq) id
  have HK := Lib.hid (And.intro k1 (And.intro k2 (And.intro k3 (And.intro k4 k5))))
  have hsz2 := k5.size
  clear k2 k3 k4 k5 hsl d3
  have h1' : ∀ u ∈ (xss.drop (i + 1)).flatten, u.oneCell' = true := fun u hu => one_flat HI.out.2.1 HI.out.2.2.2.1 one_rwait u (by
    obtain ⟨cs, hcs, hu⟩ := List.mem_flatten.1 hu
    exact List.mem_flatten.2 ⟨cs, List.mem_of_mem_drop hcs, hu⟩)
  go_wp2_with (at_builtin; go_must (refine wpList_append_any w2 rfl (.tmp 14) (.tmp 21) 31 rfl w.heap.size 40 i0 _ 2 32 Try.underlying31 hi0 hz0 hs0 hb0 rfl (by omega) (.slice A6 i c6) i yss.flatten rfl k1 w.heap.size A5 (H.wait.length - (i + 1)) (c4 - (i + 1)) (xss.drop (i + 1)).flatten rfl hrd2 h1' (by unfold maxLen; omega) (by omega) hsz2 ?_))
  intro v7 w7 r1 r2 r3
  obtain ⟨A7, c7, rfl⟩ := own_form r1
  have hel : (H.wait.eraseIdx i).length = i + (H.wait.length - (i + 1)) := by rw [List.length_eraseIdx_of_lt hi]; omega
  have hc7 : Chg (fun _ _ => False) w w7 := HK.out.2.2.2.2.trans_new (own_chg k1 r2) fun b t hb h => by
    have := (own_blk k1 h.1).1
    omega
  have hyl : yss.length = i := by
    have hh := HK.out.2.1
    first
      | (rw [List.length_take] at hh; omega)
      | omega
  have hrow : RowR 0 40 2 RWaitV w7 A7 c7 (H.wait.eraseIdx i) := by
    refine RowR.rebase (base := w.heap.size) ⟨yss ++ xss.drop (i + 1), by rw [hel, List.flatten_append]; exact r1, ?_, ?_, ?_⟩ (Nat.zero_le _)
    · rw [hel, List.length_append, hyl, List.length_drop, HI.out.2.1]
    · intro cs hcs
      rcases List.mem_append.1 hcs with h | h
      · exact HK.out.2.2.1 cs h
      · exact HI.out.2.2.1 cs (List.mem_of_mem_drop h)
    · intro k x cs hx hcs
      rw [erase_split] at hx
      by_cases hk : k < i
      · rw [List.getElem?_append_left (by rw [List.length_take]; omega)] at hx
        rw [List.getElem?_append_left (by omega)] at hcs
        exact (HK.out.2.2.2.1 k x cs hx hcs).keep hc7 fun _ => id
      · rw [List.getElem?_append_right (by rw [List.length_take]; omega), List.length_take, Nat.min_eq_left (by omega), List.getElem?_drop] at hx
        rw [List.getElem?_append_right (by omega), hyl, List.getElem?_drop] at hcs
        exact (HI.out.2.2.2.1 _ x cs hx hcs).keep hc7 fun _ => id
  obtain ⟨hP, hb7⟩ := HI.out.1.setLine (l' := H.wait.eraseIdx i) (hc7.mono fun _ _ _ h => h.elim) hrow (fun b hb => by
    rw [hel] at hb
    exact .inr (own_blk r1 hb).1)
  rw [hel] at hP
  obtain ⟨f0, f1, f2, f3⟩ := hb7.cells4
  have fz := hb7.frozen 3
  have HP := Lib.hid hP
  clear hP hb7 hrow hc7 r1 r2 r3 k1 hrd2 h1' hel e3 hA5
  go_wp2_with fail
  go_end0
  exact ⟨rfl, HP.out⟩
end Go.Proofs.Ytclllnoohoonoaa
