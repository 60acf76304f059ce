/-
  The reference: Waiting, Drop.
-/
import Derived.Test.YtclllnoohoonoaaROps
namespace Go.Proofs.Ytclllnoohoonoaa
open Go.RowKit
set_option linter.unusedVariables false
set_option linter.unusedSimpArgs false

set_option maxRecDepth 100000 in
set_option maxHeartbeats 2000000 in
theorem rwaiting_any (w : World) (F : Nat → Prop) (p : Nat) (H : HubD) (hH : HubFR F w p H) (hs : SmallH H) :
    Calls Try.prog 18 #[.pointer (some ⟨p, 0, none⟩)] w (IntsRes1 (H.wait.map (·.who)) w) := by
  obtain ⟨i3, hi3, hz3, hs3, hb3⟩ := info_parts infoInt
  obtain ⟨A1, c1, A2, c2, A3, c3, A4, c4, hI⟩ := hH
  have hn := hs.wait
  obtain ⟨d0, d1, d2, d3⟩ := hI.blk.cells4
  have hw := Lib.hid (hI.line.slr (by decide) 0)
  clear hI hs d0 d1 d2
  generalize hl : H.wait = l at d3 hw hn ⊢
  clear hl
  have HD := Lib.hid d3
  clear d3
  go_enter Try.func18, Try.ntmps18
  go_wp2_with fail
  go_loopw [3, 4] (fun v i wr => waitRel w l v i wr) (fun _ i _ => l.length - (intOf i).toNat)
  case atStart => exact ⟨0, [], none, 0, Nat.zero_le _, rfl, rfl, rfl, IntsN.nil _ _, Chg.refl _ _⟩
  case round =>
    obtain ⟨k, row, A2, c2, hkl, rfl, rfl, hrow, hown, hch⟩ := hrel
    have hrl : row.length ≤ l.length := by rw [hrow, List.length_map]; exact List.length_take_le' _ _
    obtain ⟨wo, rfl⟩ : ∃ wo : World, wo = wr := ⟨_, rfl⟩
    have e3 := hch.cell HD.out fun _ => id
    by_cases hlt : k < l.length
    · obtain ⟨b, o, x, A5, c5, rfl, hkx, _, _, hz⟩ := LineR.at3 hw.out hlt
      obtain ⟨z0, z1⟩ := hz _ _ hch fun _ => id
      have hsz2 := hch.size
      have HR := Lib.hid (And.intro hkx (And.intro hrow hch))
      clear hkx hrow hch hz
      go_wp2_with (at_builtin; go_must (refine wpList_append_new rfl (.tmp 14) (.tmp 23) 28 rfl w.heap.size 3 i3 (.int .i64 0) 1 8 Try.underlying28 hi3 hz3 hs3 hb3 rfl (by omega) A2 row.length c2 (intV row) rfl hown 1 1 [.int .i64 x.who] rfl (by first | rfl | simp) rfl (by intro u hu; simp at hu; subst hu; rfl) (by simp only [maxLen]; omega) (by omega) hsz2 ?_))
      intro A6 c6 w3 hap
      have hapc := hap.chg hown
      have HA := Lib.hid (And.intro hap.own hapc)
      clear hap hapc hown
      go_wp2
      go_roundw
      case rel =>
        refine ⟨k + 1, row ++ [x.who], A6, c6, hlt, by simp, by simp, ?_, ?_, HR.out.2.2.trans_new HA.out.2 fun b t hb h => by omega⟩
        · obtain ⟨h1, h2⟩ := List.getElem?_eq_some_iff.1 HR.out.1
          rw [List.take_succ_eq_append_getElem h1, h2, List.map_append, ← HR.out.2.1]; rfl
        · have := HA.out.1
          unfold IntsN
          rw [intV_snoc, List.length_append]
          exact this
      case measure => simp [intOf]; omega
    · obtain rfl : k = l.length := by omega
      rw [List.take_length] at hrow
      have HR := Lib.hid (And.intro hrow.symm (And.intro hown hch))
      clear hrow hown hch
      go_wp2_with fail
      go_ret
      exact ⟨A2, c2, by rw [HR.out.1]; rfl, by rw [HR.out.1]; exact HR.out.2.1, HR.out.2.2⟩
def DropRes2 (r : Int) (F : Nat → Prop) (p : Nat) (H' : HubD) (w : World) (e : Ending) (w' : World) : Prop := e = .returned (.int .i64 r) ∧ HubQ F w w' p H'
def seekRel (who : Int) (w : World) (l : List WaitD) (i : Value) (wr : World) : Prop := ∃ k : Nat, k ≤ l.length ∧ i = .int .i64 k ∧ (∀ (j : Nat) y, j < k → (l.map (·.who))[j]? = some y → eqI who y = false) ∧ wr = w
theorem who_at {l : List WaitD} {k : Nat} {x : WaitD} (h : l[k]? = some x) : (l.map (·.who))[k]? = some x.who := by rw [List.getElem?_map, h]; rfl
set_option maxRecDepth 100000 in
set_option maxHeartbeats 2000000 in
theorem rdrop_any (w : World) (F : Nat → Prop) (p : Nat) (H : HubD) (hH : HubFR F w p H) (hs : SmallH H) (who : Int) :
    Calls Try.prog 38 #[.pointer (some ⟨p, 0, none⟩), .int .i64 who] w (DropRes2 (dropC H who).2 F p (dropC H who).1 w) := by
  have HH := Lib.hid (And.intro hH hs)
  have HE := Lib.hid (drop_eq H who)
  obtain ⟨A1, c1, A2, c2, A3, c3, A4, c4, hI⟩ := hH
  have hn := hs.wait
  obtain ⟨d0, d1, d2, d3⟩ := hI.blk.cells4
  have hw := Lib.hid (hI.line.slr (by decide) 0)
  clear hI hs d0 d1 d2
  go_enter Try.func38, Try.ntmps38
  go_wp2_with fail
  go_loopw [5] (fun i wr => seekRel who w H.wait i wr) (fun i _ => H.wait.length - (intOf i).toNat)
  case atStart => exact ⟨0, Nat.zero_le _, rfl, fun j y h => absurd h (Nat.not_lt_zero _), rfl⟩
  case round =>
    obtain ⟨k, hkl, rfl, hb, rfl⟩ := hrel
    by_cases hlt : k < H.wait.length
    · obtain ⟨b, o, x, A5, c5, rfl, hkx, _, _, hz⟩ := LineR.at3 hw.out hlt
      obtain ⟨z0, z1⟩ := hz _ _ (Chg.refl (fun _ _ => False) wr) fun _ => id
      have HK := Lib.hid (And.intro hkx hb)
      clear hkx hb hz
      by_cases hp : x.who = who
      · have hp' : (x.who == who) = true := by simpa using hp
        have hidx : idxI (eqI who) (whos H) = (k : Int) := idx_at (who_at HK.out.1) (by simp [eqI, hp]) HK.out.2
        have HX := Lib.hid (HE.out.trans (by rw [hidx, if_neg (by omega), Int.toNat_natCast]))
        clear hp hidx
        go_wp2_with fail
        refine (rremove_any _ F p H HH.out.1 HH.out.2 k hlt).mono fun e w2 hh => ?_
        obtain ⟨rfl, hQ⟩ := hh
        have HQ := Lib.hid hQ
        clear hQ
        go_wp2_with fail
        go_ret
        rw [HX.out]
        exact ⟨rfl, HQ.out⟩
      · have hp' : (x.who == who) = false := by simpa using hp
        have HP := Lib.hid hp
        clear hp
        go_wp2_with fail
        go_roundw
        case rel => exact ⟨k + 1, hlt, by simp, idx_step (who_at HK.out.1) (decide_eq_false fun h => HP.out h.symm) HK.out.2, rfl⟩
        case measure => simp [intOf]; omega
    · obtain rfl : k = H.wait.length := by omega
      have hidx : idxI (eqI who) (whos H) = -1 := idx_none (fun j y hy => hb j y (by have := (List.getElem?_eq_some_iff.1 hy).1; simpa [whos] using this) hy)
      have HX := Lib.hid (HE.out.trans (by rw [hidx, if_pos (by omega)]))
      clear hb hidx
      go_wp2_with fail
      go_ret
      rw [HX.out]
      exact ⟨rfl, HubQ.same HH.out.1 (Chg.refl _ _)⟩
end Go.Proofs.Ytclllnoohoonoaa
