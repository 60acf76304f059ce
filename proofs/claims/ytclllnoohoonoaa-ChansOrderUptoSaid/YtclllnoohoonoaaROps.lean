/-
  The reference: New, Waiting, Drop.
-/
import Derived.Test.YtclllnoohoonoaaRRem
import Derived.Test.YtclllnoohoonoaaOps2
namespace Go.Proofs.Ytclllnoohoonoaa
open Go.RowKit
set_option linter.unusedVariables false
set_option linter.unusedSimpArgs false

def PairRes2 (a b : Int) (F : Nat → Prop) (p : Nat) (H' : HubD) (w : World) (e : Ending) (w' : World) : Prop := e = .returned (.tuple #[.int .i64 a, .int .i64 b]) ∧ HubQ F w w' p H'
theorem RowR.snoc1 {α : Type} {e : TypeId} {R : World → List Value → α → Prop} {w w' : World} {l : List α} {xss : List (List Value)} {u : Value} {x : α} {A' : Option Addr} {c' : Nat} (h2 : xss.length = l.length) (h3 : ∀ cs ∈ xss, cs.length = 1) (h4 : ∀ (k : Nat) x cs, l[k]? = some x → xss[k]? = some cs → R w cs x)
    (hR : ∀ cs x, R w cs x → R w' cs x) (how : w'.ownsRow 0 e 1 (.slice A' (l.length + 1) c') (l.length + 1) (xss.flatten ++ [u])) (hx : R w' [u] x) : RowR 0 e 1 R w' A' c' (l ++ [x]) := RowR.snoc h2 h3 h4 hR how rfl hx
set_option maxRecDepth 100000 in
set_option maxHeartbeats 4000000 in
theorem rnew_any (w : World) (F : Nat → Prop) (p : Nat) (H : HubD) (hH : HubFR F w p H) (hs : SmallH H) (size : Int) :
    Calls Try.prog 35 #[.pointer (some ⟨p, 0, none⟩), .int .i64 size] w (PairRes2 (makeC H size).2.1 (makeC H size).2.2 F p (makeC H size).1 w) := by
  obtain ⟨i3, hi3, hz3, hs3, hb3⟩ := info_parts infoInt
  obtain ⟨i34, hi34, hz34, hs34, hb34⟩ := info_parts infoU64s
  obtain ⟨i4, hi4, hz4, hs4, hb4⟩ := info_parts infoBool
  by_cases h1 : size < 0
  · have HE := Lib.hid (show makeC H size = (H, 0, 2) by simp [makeC, h1])
    have HH := Lib.hid hH
    have h1' : decide (size < 0) = true := decide_eq_true h1
    clear h1 hH
    go_enter Try.func35, Try.ntmps35
    go_wp2_with fail
    go_ret2
    rw [HE.out]
    exact ⟨rfl, HubQ.same HH.out (Chg.refl _ _)⟩
  · by_cases h2 : 1024 < size
    · have HE := Lib.hid (show makeC H size = (H, 0, 2) by simp [makeC, h2])
      have HH := Lib.hid hH
      have h1' : decide (size < 0) = false := decide_eq_false h1
      have h2' : decide (1024 < size) = true := decide_eq_true h2
      clear h1 h2 hH
      go_enter Try.func35, Try.ntmps35
      go_wp2_with fail
      go_ret2
      rw [HE.out]
      exact ⟨rfl, HubQ.same HH.out (Chg.refl _ _)⟩
    · have HE := Lib.hid (show makeC H size = ({ H with list := H.list ++ [⟨size, [], false⟩] }, ((H.list.length : Int) + 1, 0)) by unfold makeC; rw [if_neg (by omega)])
      have hnl := hs.list
      have hsi : I64 size := by unfold I64; omega
      have h1' : decide (size < 0) = false := decide_eq_false h1
      have h2' : decide (1024 < size) = false := decide_eq_false h2
      obtain ⟨A1, c1, A2, c2, A3, c3, A4, c4, hI⟩ := hH
      obtain ⟨d0, d1, d2, d3⟩ := hI.blk.cells4
      obtain ⟨xs1, how1, a2, a3, a4⟩ := hI.sizes
      have HI := Lib.hid (And.intro hI (And.intro a2 (And.intro a3 (And.intro a4 hsi))))
      clear h1 h2 hI a2 a3 a4 hs hsi
      go_enter Try.func35, Try.ntmps35
      go_wp2_with (at_builtin; go_must (refine wpList_append_new rfl (.tmp 16) (.tmp 18) 28 rfl 0 3 i3 (.int .i64 0) 1 8 Try.underlying28 hi3 hz3 hs3 hb3 rfl (by omega) A1 H.list.length c1 xs1.flatten rfl how1 1 1 [.int .i64 size] rfl (by first | rfl | simp) rfl (by intro u hu; simp at hu; subst hu; rfl) (by simp only [maxLen]; omega) (by omega) (Nat.zero_le _) ?_))
      intro A5 c5 w5 hap5
      have g5 := hap5.chg1 how1
      have b5 := g5.blk HI.out.1.blk fun h => absurd h.2 (by decide)
      have s5 := chg_set (j := 0) b5 (.slice A5 (H.list.length + 1) c5)
      have b6 : Blk (w5.setCell ⟨p, 0, none⟩ (.slice A5 (H.list.length + 1) c5)) p 33 #[.slice A5 (H.list.length + 1) c5, .slice A2 H.list.length c2, .slice A3 H.list.length c3, .slice A4 H.wait.length c4] := by simpa using b5.set_ 0 (.slice A5 (H.list.length + 1) c5)
      obtain ⟨e0, e1, e2, e3⟩ := b5.cells4
      have ez := b5.frozen 0
      obtain ⟨f0, f1, f2, f3⟩ := b6.cells4
      obtain ⟨xs2, how2, b2, b3, b4⟩ := HI.out.1.bufs
      have how2' := s5.own (g5.own how2 fun b hb h => absurd h.2 (by decide)) fun b hb h => absurd h.2 (by decide)
      have H5 := Lib.hid (And.intro hap5 (And.intro g5 (And.intro b5 (And.intro s5 (And.intro b6 (And.intro b2 (And.intro b3 b4)))))))
      clear hap5 g5 b5 s5 b6 b2 b3 b4 how1 how2 d0 d1 d2 d3
      go_wp2_with (at_builtin; go_must (refine wpList_append_new rfl (.tmp 26) (.tmp 27) 29 rfl 0 34 i34 (.slice none 0 0) 1 24 Try.underlying29 hi34 hz34 hs34 hb34 rfl (by omega) A2 H.list.length c2 xs2.flatten rfl how2' 1 1 [.slice none 0 0] rfl (by first | rfl | simp) rfl (by intro u hu; simp at hu; subst hu; rfl) (by simp only [maxLen]; omega) (by omega) (Nat.zero_le _) ?_))
      intro A6 c6 w7 hap7
      have g7 := hap7.chg1 how2'
      have b7 := g7.blk H5.out.2.2.2.2.1 fun h => absurd h.2 (by decide)
      have s7 := chg_set (j := 1) b7 (.slice A6 (H.list.length + 1) c6)
      have b8 : Blk (w7.setCell ⟨p, 1, none⟩ (.slice A6 (H.list.length + 1) c6)) p 33 #[.slice A5 (H.list.length + 1) c5, .slice A6 (H.list.length + 1) c6, .slice A3 H.list.length c3, .slice A4 H.wait.length c4] := by simpa using b7.set_ 1 (.slice A6 (H.list.length + 1) c6)
      clear e0 e1 e2 e3 f0 f1 f2 f3 ez
      obtain ⟨e0, e1, e2, e3⟩ := b7.cells4
      have ez := b7.frozen 1
      obtain ⟨f0, f1, f2, f3⟩ := b8.cells4
      obtain ⟨xs3, how3, q2, q3, q4⟩ := HI.out.1.shuts
      have how3' := s7.own (g7.own (H5.out.2.2.2.1.own (H5.out.2.1.own how3 fun b hb h => absurd h.2 (by decide)) fun b hb h => absurd h.2 (by decide)) fun b hb h => absurd h.2 (by decide)) fun b hb h => absurd h.2 (by decide)
      have H7 := Lib.hid (And.intro hap7 (And.intro g7 (And.intro b7 (And.intro s7 (And.intro b8 (And.intro q2 (And.intro q3 (And.intro q4 how2'))))))))
      clear hap7 g7 b7 s7 b8 q2 q3 q4 how3 how2'
      go_wp2_with (at_builtin; go_must (refine wpList_append_new rfl (.tmp 35) (.tmp 36) 30 rfl 0 4 i4 (.bool false) 1 1 Try.underlying30 hi4 hz4 hs4 hb4 rfl (by omega) A3 H.list.length c3 xs3.flatten rfl how3' 1 1 [.bool false] rfl (by first | rfl | simp) rfl (by intro u hu; simp at hu; subst hu; rfl) (by simp only [maxLen]; omega) (by omega) (Nat.zero_le _) ?_))
      intro A7 c7 w9 hap9
      have g9 := hap9.chg1 how3'
      have b9 := g9.blk H7.out.2.2.2.2.1 fun h => absurd h.2 (by decide)
      have s9 := chg_set (j := 2) b9 (.slice A7 (H.list.length + 1) c7)
      have b10 : Blk (w9.setCell ⟨p, 2, none⟩ (.slice A7 (H.list.length + 1) c7)) p 33 #[.slice A5 (H.list.length + 1) c5, .slice A6 (H.list.length + 1) c6, .slice A7 (H.list.length + 1) c7, .slice A4 H.wait.length c4] := by simpa using b9.set_ 2 (.slice A7 (H.list.length + 1) c7)
      clear e0 e1 e2 e3 f0 f1 f2 f3 ez
      obtain ⟨e0, e1, e2, e3⟩ := b9.cells4
      have ez := b9.frozen 2
      obtain ⟨f0, f1, f2, f3⟩ := b10.cells4
      have H9 := Lib.hid (And.intro hap9 (And.intro g9 (And.intro b9 (And.intro s9 (And.intro b10 how3')))))
      clear hap9 g9 b9 s9 b10 how3'
      go_wp2_with fail
      go_ret2
      rw [HE.out]
      refine ⟨by simp, ?_⟩
      obtain ⟨hI, a2, a3, a4, hsi⟩ := HI.out
      obtain ⟨hap5, g5, b5, s5, b6, b2, b3, b4⟩ := H5.out
      obtain ⟨hap7, g7, b7, s7, b8, q2, q3, q4, how2'⟩ := H7.out
      obtain ⟨hap9, g9, b9, s9, b10, how3'⟩ := H9.out
      have hl1 : (H.list ++ [(⟨size, [], false⟩ : ChanD)]).length = H.list.length + 1 := by simp
      -- the rows, one by one, at the end
      have r1 : RowR 0 3 1 SizeV w5 A5 c5 (H.list ++ [⟨size, [], false⟩]) := RowR.snoc1 (w := w) a2 a3 a4 (fun _ _ h => h) hap5.own ⟨rfl, hsi⟩
      have t5 : Chg (fun b t => t = 33 ∨ t = 34 ∨ t = 4) w5 (w9.setCell ⟨p, 2, none⟩ (.slice A7 (H.list.length + 1) c7)) :=
        (s5.mono fun b t _ h => .inl h.2).trans ((g7.mono fun b t _ h => .inr (.inl h.2)).trans ((s7.mono fun b t _ h => .inl h.2).trans ((g9.mono fun b t _ h => .inr (.inr h.2)).trans (s9.mono fun b t _ h => .inl h.2))))
      have t5b : Chg (fun b t => t = 3 ∨ t = 33) w (w5.setCell ⟨p, 0, none⟩ (.slice A5 (H.list.length + 1) c5)) := (g5.mono fun b t _ h => .inl h.2).trans (s5.mono fun b t _ h => .inr h.2)
      have r2 : RowR 0 34 1 (BufV F) w7 A6 c6 (H.list ++ [⟨size, [], false⟩]) := by
        refine RowR.snoc1 (w := w) b2 b3 b4 (fun cs x h => ?_) hap7.own ⟨_, rfl, QR.nil _ _, by simp, by simp [Value.ownBlock]⟩
        exact (h.keep t5b fun b hb h => by rcases h with h | h <;> exact absurd h (by decide)).keep g7 fun b hb h => absurd h.2 (by decide)
      have t7 : Chg (fun b t => t = 33 ∨ t = 4) w7 (w9.setCell ⟨p, 2, none⟩ (.slice A7 (H.list.length + 1) c7)) := (s7.mono fun b t _ h => .inl h.2).trans ((g9.mono fun b t _ h => .inr h.2).trans (s9.mono fun b t _ h => .inl h.2))
      have r3 : RowR 0 4 1 ShutV w9 A7 c7 (H.list ++ [⟨size, [], false⟩]) := RowR.snoc1 (w := w) q2 q3 q4 (fun _ _ h => h) hap9.own rfl
      have tall : Chg (fun b t => t = 3 ∨ t = 33 ∨ t = 34 ∨ t = 4) w (w9.setCell ⟨p, 2, none⟩ (.slice A7 (H.list.length + 1) c7)) := (g5.mono fun b t _ h => .inl h.2).trans (t5.mono fun b t _ h => .inr h)
      let F' : Nat → Prop := fun b => F b ∨ (Value.slice A5 (H.list.length + 1) c5).ownBlock = some b ∨ (Value.slice A6 (H.list.length + 1) c6).ownBlock = some b ∨ (Value.slice A7 (H.list.length + 1) c7).ownBlock = some b
      have z5 : w.heap.size ≤ w5.heap.size := g5.size
      have z7 : w5.heap.size ≤ w7.heap.size := Nat.le_trans s5.size g7.size
      have z9 : w7.heap.size ≤ w9.heap.size := Nat.le_trans s7.size g9.size
      have hfr : ∀ b, F' b → F b ∨ w.heap.size ≤ b := by
        intro b hb
        rcases hb with h | h | h | h
        · exact .inl h
        · rcases hap5.place with h' | h'
          · rw [h] at h'; exact .inl (hI.own1 b h'.symm)
          · rw [h] at h'; injection h' with h'; rw [h']; exact .inr (by simp)
        · rcases hap7.place with h' | h'
          · rw [h] at h'; exact .inl (hI.own2 b h'.symm)
          · rw [h] at h'; injection h' with h'; rw [h']; exact .inr (by simp [World.setCell]; omega)
        · rcases hap9.place with h' | h'
          · rw [h] at h'; exact .inl (hI.own3 b h'.symm)
          · rw [h] at h'; injection h' with h'; rw [h']; exact .inr (by simp [World.setCell]; omega)
      refine ⟨F', ⟨A5, c5, A6, c6, A7, c7, A4, c4, by rw [hl1]; exact b10, ?_, ?_, ?_, ?_, ?_, ?_, ?_, ?_, .inl hI.own, ?_⟩, hfr, ?_⟩
      · exact r1.keep1 t5 (fun b hb h => by rcases h with h | h | h <;> exact absurd h (by decide)) fun _ _ h => h
      · exact (r2.keep1 t7 (fun b hb h => by rcases h with h | h <;> exact absurd h (by decide)) fun _ _ h => h.keep t7 fun b hb h => by rcases h with h | h <;> exact absurd h (by decide)).imp fun _ _ h => h.more fun b hb => Or.inl hb
      · exact r3.keep1 s9 (fun b hb h => absurd h.2 (by decide)) fun _ _ h => h
      · exact hI.line.keep1 tall (fun b hb h => by rcases h with h | h | h | h <;> exact absurd h (by decide)) fun _ _ h => h.keep tall fun b h => by rcases h with h | h | h | h <;> exact absurd h (by decide)
      · intro b hb; rw [hl1] at hb; exact .inr (.inl hb)
      · intro b hb; rw [hl1] at hb; exact .inr (.inr (.inl hb))
      · intro b hb; rw [hl1] at hb; exact .inr (.inr (.inr hb))
      · intro b hb; exact .inl (hI.own4 b hb)
      · intro b hb
        have : b < w9.heap.size := by
          rcases hb with h | h | h | h
          · have := hI.lt b h; omega
          · have := (own_blk hap5.own h).2.choose_spec.lt; omega
          · have := (own_blk hap7.own h).2.choose_spec.lt; omega
          · exact (own_blk hap9.own h).2.choose_spec.lt
        simpa [World.setCell] using this
      · have m5 : Chg (MR F) w w5 := g5.mono fun b t _ h => ⟨hI.own1 b h.1, .inr (.inl h.2)⟩
        have mp : ∀ {a b : World} {j : Nat} {cs : Array Value} {u : Value}, Blk a p 33 cs → b = a.setCell ⟨p, j, none⟩ u → Chg (MR F) a b := fun {a b j cs u} hb he => by
          rw [he]
          exact (chg_set (j := j) hb u).mono fun b t _ h => ⟨by rw [h.1]; exact hI.own, .inl h.2⟩
        have m7 : Chg (MR F) (w5.setCell ⟨p, 0, none⟩ (.slice A5 (H.list.length + 1) c5)) w7 := g7.mono fun b t _ h => ⟨hI.own2 b h.1, .inr (.inr (.inl h.2))⟩
        have m9 : Chg (MR F) (w7.setCell ⟨p, 1, none⟩ (.slice A6 (H.list.length + 1) c6)) w9 := g9.mono fun b t _ h => ⟨hI.own3 b h.1, .inr (.inr (.inr (.inl h.2)))⟩
        exact m5.trans ((mp b5 rfl).trans (m7.trans ((mp b7 rfl).trans (m9.trans (mp b9 rfl)))))
end Go.Proofs.Ytclllnoohoonoaa
