/-
  verify.Takes: what an instruction takes and leaves, in memory of its own.
-/
import Derived.Test.YtdegfnejhamejaaVTkZk
namespace Go.Proofs.Ytdegfnejhamejaa
open Go.RowKit
set_option linter.unusedVariables false
set_option linter.unusedSimpArgs false

theorem TkS.keep {n0 gt gl : Nat} {G : Nat → Prop} {M : Nat → Nat → Prop} {w w' : World} {a b : List Int} (H : TkS n0 gt gl G w a b) (hc : Chg M w w') (hM : ∀ x t, M x t → ¬ (x = gt ∨ x = gl ∨ G x)) : TkS n0 gt gl G w' a b := by
  obtain ⟨A, c, A', c', h1, h2, h3, h4, h5, h6⟩ := H
  exact ⟨A, c, A', c', hc.blk h1 fun hm => hM _ _ hm (.inl rfl), hc.blk h2 fun hm => hM _ _ hm (.inr (.inl rfl)), h3.keep1 hc (fun x hx hm => hM _ _ hm (.inr (.inr (h5 x hx)))) fun _ _ h => h, h4.keep1 hc (fun x hx hm => hM _ _ hm (.inr (.inr (h6 x hx)))) fun _ _ h => h, h5, h6⟩
theorem TkS.more {n0 n1 gt gl : Nat} {G G' : Nat → Prop} {w : World} {a b : List Int} (H : TkS n1 gt gl G w a b) (hn : n0 ≤ n1) (hG : ∀ x, G x → G' x) : TkS n0 gt gl G' w a b := by
  obtain ⟨A, c, A', c', h1, h2, h3, h4, h5, h6⟩ := H
  exact ⟨A, c, A', c', h1, h2, h3.rebase hn, h4.rebase hn, fun x hx => hG x (h5 x hx), fun x hx => hG x (h6 x hx)⟩
/-- Between two instructions: what stands in the two variables. -/
def TkJ (m : ModD) (f : FuncD) (a0 n0 ga gc gt gl p : Nat) (k : Nat) (G : Nat → Prop) (w : World) : Prop :=
  Blk w ga 3 #[.int .i64 (a0 : Int)] ∧ Blk w gc 62 #[.pointer (some ⟨p, 0, none⟩)] ∧ (∀ b, G b → n0 ≤ b) ∧
    ((k ≤ a0 ∧ Blk w gt 31 #[.slice none 0 0] ∧ Blk w gl 31 #[.slice none 0 0]) ∨ (a0 < k ∧ ∃ x st s, f.code[a0]? = some x ∧ atN m f a0 = some st ∧ stepN m f a0 x st = some s ∧ TkS n0 gt gl G w s.taken.reverse s.left))
theorem TkJ.keep {m : ModD} {f : FuncD} {a0 n0 ga gc gt gl p k : Nat} {G : Nat → Prop} {M : Nat → Nat → Prop} {w w' : World} (H : TkJ m f a0 n0 ga gc gt gl p k G w) (hc : Chg M w w') (hM : ∀ x t, M x t → ¬ (x = ga ∨ x = gc ∨ x = gt ∨ x = gl ∨ G x)) : TkJ m f a0 n0 ga gc gt gl p k G w' := by
  obtain ⟨h1, h2, h3, h4⟩ := H
  refine ⟨hc.blk h1 fun hm => hM _ _ hm (.inl rfl), hc.blk h2 fun hm => hM _ _ hm (.inr (.inl rfl)), h3, ?_⟩
  rcases h4 with ⟨h5, h6, h7⟩ | ⟨h5, x, st, s, h6, h7, h8, h9⟩
  · exact .inl ⟨h5, hc.blk h6 fun hm => hM _ _ hm (.inr (.inr (.inl rfl))), hc.blk h7 fun hm => hM _ _ hm (.inr (.inr (.inr (.inl rfl))))⟩
  · exact .inr ⟨h5, x, st, s, h6, h7, h8, h9.keep hc fun x t hm hh => hM x t hm (.inr (.inr hh))⟩
set_option maxRecDepth 100000 in
theorem takes2_any (w : World) (a b : Value) : Calls Try.prog 31 (#[a, b] ++ #[]) w fun e w' => e = .returned (.tuple #[]) ∧ w' = w := by
  simp only [List.append_toArray, List.append_nil, Array.append_empty]
  go_enter Try.func31, Try.ntmps31
  go_wp2_with fail
  go_end0
  exact ⟨rfl, rfl⟩
def hdT (B p n0 n1 ga gc gt gl : Nat) (m : ModD) (f : FuncD) (A1 : Option Addr) (c1 : Nat) (A2 : Option Addr) (c2 : Nat) (F1 : Option Addr) (f1 : Nat) (F2 : Option Addr) (f2 : Nat) (F3 : Option Addr) (f3 : Nat) : Hd :=
  { K := fun b => n0 ≤ b ∧ b < n1 ∧ b ≠ p, B := B, base := n0, p := p, m := m, f := f, A1 := A1, c1 := c1, A2 := A2, c2 := c2, A3 := F1, c3 := f1, A4 := F2, c4 := f2, A5 := F3, c5 := f3, pos := 0, pl := .map none,
    dn := .func (.func 28) #[] #[.pointer (some ⟨ga, 0, none⟩), .pointer (some ⟨gc, 0, none⟩), .pointer (some ⟨gt, 0, none⟩), .pointer (some ⟨gl, 0, none⟩)] }
def cliT (B p n0 n1 ga gc gt gl a0 : Nat) (m : ModD) (f : FuncD) (A1 : Option Addr) (c1 : Nat) (A2 : Option Addr) (c2 : Nat) (F1 : Option Addr) (f1 : Nat) (F2 : Option Addr) (f2 : Nat) (F3 : Option Addr) (f3 : Nat) (hB : B ≤ n0)
    (ha : n0 ≤ ga ∧ ga < n1 ∧ ga ≠ p) (hc : n0 ≤ gc ∧ gc < n1 ∧ gc ≠ p) (ht : n0 ≤ gt ∧ gt < n1 ∧ gt ≠ p) (hl : n0 ≤ gl ∧ gl < n1 ∧ gl ≠ p) (hne : gt ≠ gl) (hat : ga ≠ gt ∧ ga ≠ gl ∧ gc ≠ gt ∧ gc ≠ gl) :
    Cli (hdT B p n0 n1 ga gc gt gl m f A1 c1 A2 c2 F1 f1 F2 f2 F3 f3) where
  G0 := fun b => b = gt ∨ b = gl
  sub := fun b hb => hb.elim (fun e => by rw [e]; exact ht) fun e => by rw [e]; exact hl
  J := fun k G w => TkJ m f a0 n0 ga gc gt gl p k G w
  J2 := fun k G w => TkJ m f a0 n0 ga gc gt gl p k G w
  keep := fun k G w w' hJ hcg => hJ.keep hcg fun x t hm hh => hm.2 (by rcases hh with rfl | rfl | rfl | rfl | hh <;> first | exact .inl ha | exact .inl hc | exact .inl ht | exact .inl hl | exact .inr hh)
  keep2 := fun k G w w' hJ hcg => hJ.keep hcg fun x t hm hh => hm.2 (by rcases hh with rfl | rfl | rfl | rfl | hh <;> first | exact .inl ha | exact .inl hc | exact .inl ht | exact .inl hl | exact .inr hh)
  fe := 31
  env := #[]
  enters := fun _ _ => rfl
  each := fun k G w st As cs hJ _ _ _ _ _ _ => (takes2_any w _ _).mono fun e w' hh => by
    obtain ⟨rfl, rfl⟩ := hh
    exact ⟨rfl, Chg.refl _ _, G, hJ, fun _ h => h, fun _ h => .inl h⟩
  next := .inr ⟨28, _, rfl, fun _ _ => rfl, fun k G w x st s hh kk hJ hat' hx hs hp hb hB' hK hGK hC => by
    obtain ⟨h1, h2, h3, h4⟩ := hJ
    have hbw : n0 ≤ w.heap.size := by
      obtain ⟨As, cs, At, ct, Al, cl, kn, HR⟩ := hC
      have h5 := HR.bw
      rw [hb] at h5
      exact h5
    by_cases hk : k = a0
    · subst hk
      rcases h4 with ⟨_, h6, h7⟩ | ⟨h5, _⟩
      · refine (takes1_met ga gc gt gl p k kk hh w s hC hp h1 h2 _ _ h6 h7 hne).mono fun e w' hr => ?_
        obtain ⟨rfl, hcw, hT⟩ := hr
        refine ⟨rfl, hcw.mono fun b _ _ hm => ⟨.inl hm, hm.elim (fun e => by rw [e]; exact Nat.le_trans hB ht.1) fun e => by rw [e]; exact Nat.le_trans hB hl.1⟩, fun b => G b ∨ (w.heap.size ≤ b ∧ b < w'.heap.size), ⟨?_, ?_, ?_, .inr ⟨Nat.lt_succ_self _, x, st, s, hx, hat', hs, hT.more hbw fun _ => .inr⟩⟩, fun _ => .inl, fun _ h => h⟩
        · exact hcw.blk h1 fun hm => hm.elim hat.1 hat.2.1
        · exact hcw.blk h2 fun hm => hm.elim hat.2.2.1 hat.2.2.2
        · exact fun b hb => hb.elim (h3 b) fun h => by omega
      · omega
    · refine (takes1_other ga gc gt gl a0 k hk w h1).mono fun e w' hr => ?_
      obtain ⟨rfl, rfl⟩ := hr
      refine ⟨rfl, Chg.refl _ _, G, ⟨h1, h2, h3, ?_⟩, fun _ h => h, fun _ h => .inl h⟩
      rcases h4 with ⟨h5, h6⟩ | ⟨h5, h6⟩
      · exact .inl ⟨by omega, h6⟩
      · exact .inr ⟨by omega, h6⟩⟩
end Go.Proofs.Ytdegfnejhamejaa

