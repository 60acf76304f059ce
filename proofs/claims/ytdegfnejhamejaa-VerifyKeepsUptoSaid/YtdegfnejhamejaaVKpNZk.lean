/-
  Rows of ints that are spoilt: what stays of them; what Stacks and Takes answer, each the same every time.
-/
import Derived.Test.YtdegfnejhamejaaVTk3Zk
namespace Go.Proofs.Ytdegfnejhamejaa
open Go.RowKit
set_option linter.unusedVariables false
set_option linter.unusedSimpArgs false

/-- A row of n ints, whichever. -/
def LenR (n0 : Nat) (A : Option Addr) (c n : Nat) (w : World) : Prop := ∃ x : List Int, x.length = n ∧ RowR n0 3 1 IntV w A c x
section
variable {n0 c n : Nat} {A : Option Addr} {w w' : World}
theorem LenR.of {x : List Int} (H : RowR n0 3 1 IntV w A c x) : LenR n0 A c x.length w := ⟨x, rfl, H⟩
theorem LenR.own (H : LenR n0 A c n w) {b : Nat} (hb : OwnB A n c b) : n0 ≤ b ∧ b < w.heap.size := by
  obtain ⟨x, rfl, hx⟩ := H
  exact hx.ownIn hb
theorem LenR.keep {M : Nat → Nat → Prop} (H : LenR n0 A c n w) (hc : Chg M w w') (hM : ∀ b, OwnB A n c b → ¬ M b 3) : LenR n0 A c n w' := by
  obtain ⟨x, rfl, hx⟩ := H
  exact ⟨x, rfl, hx.keep1 hc hM fun _ _ h => h⟩
theorem LenR.set (H : LenR n0 A c n w) {g j : Nat} {cs : Array Value} (hg : Blk w g 3 cs) {t : Int} (ht : I64 t) : LenR n0 A c n (w.setCell ⟨g, j, none⟩ (.int .i64 t)) := by
  obtain ⟨x, rfl, hx⟩ := H
  obtain ⟨⟨hl, h2⟩, hI⟩ := rowV.1 hx
  rcases h2 with ⟨hv, h0⟩ | ⟨g', cap, cur, hv, hb, hh, h1, h2, h3, h4⟩
  · obtain rfl := List.eq_nil_of_length_eq_zero h0
    injection hv with hA _ hc
    subst hA hc
    exact ⟨[], rfl, RowR.nil _ _ _ _ _⟩
  · injection hv with hA _ hc
    subst hA hc
    by_cases he : g' = g
    · subst he
      refine ⟨x.set j t, by simp, rowV.2 ⟨⟨by simp, .inr ⟨g', c, cur.setIfInBounds j (.int .i64 t), by simp, hb, ?_, by simpa using h1, h2, by simpa using h3, ?_⟩⟩, fun y hy => ?_⟩⟩
      · exact Blk.set_ (show Blk w g' 3 cur from hh) j (.int .i64 t)
      · rw [Nat.mul_one] at h4
        simp [List.take_set, h4, List.map_set]
      · rcases List.mem_or_eq_of_mem_set hy with h | h
        · exact hI y h
        · rw [h]; exact ht
    · exact ⟨x, rfl, rowV.2 ⟨⟨hl, .inr ⟨g', c, cur, rfl, hb, Blk.far (show Blk w g' 3 cur from hh) (by exact he) _, h1, h2, h3, h4⟩⟩, hI⟩⟩
theorem LenR.at_ {j : Nat} (H : LenR n0 A c n w) (hj : j < n) : ∃ g cs y, A = some ⟨g, 0, none⟩ ∧ Blk w g 3 cs ∧ w.cell? ⟨g, j, none⟩ = some (.int .i64 y) ∧ OwnB A n c g := by
  obtain ⟨x, rfl, hx⟩ := H
  obtain ⟨⟨hl, h2⟩, hI⟩ := rowV.1 hx
  rcases h2 with ⟨hv, h0⟩ | ⟨g', cap, cur, hv, hb, hh, h1, h2, h3, h4⟩
  · omega
  · injection hv with hA _ hc
    subst hA hc
    have hB : Blk w g' 3 cur := hh
    refine ⟨g', cur, x[j], rfl, hB, ?_, by simp [OwnB, Value.ownBlock]⟩
    rw [hB.cell]
    rw [Nat.mul_one] at h4
    have h5 : (cur.toList.take x.length)[j]? = (x.map (Value.int .i64))[j]? := by rw [h4]
    rw [List.getElem?_take_of_lt hj] at h5
    rw [← Array.getElem?_toList, h5]
    simp [hj]
/-- A stack in a row, whichever ints it holds. -/
def LkR (N1 N2 : Nat) (w : World) (cs : List Value) (x : List Int) : Prop := ∃ n1 A c, cs = [.slice A x.length c] ∧ LenR n1 A c x.length w ∧ ∀ b, OwnB A x.length c b → N1 ≤ b ∧ b < N2
theorem LkR.keep {N1 N2 : Nat} {M : Nat → Nat → Prop} {cs : List Value} {x : List Int} (H : LkR N1 N2 w cs x) (hc : Chg M w w') (hM : ∀ b, N1 ≤ b → b < N2 → ¬ M b 3) : LkR N1 N2 w' cs x := by
  obtain ⟨n1, A, c, h1, h2, h3⟩ := H
  exact ⟨n1, A, c, h1, h2.keep hc fun b hb => hM b (h3 b hb).1 (h3 b hb).2, h3⟩
theorem LkR.set {N1 N2 g j : Nat} {cs : List Value} {x : List Int} {ds : Array Value} (H : LkR N1 N2 w cs x) (hg : Blk w g 3 ds) {t : Int} (ht : I64 t) : LkR N1 N2 (w.setCell ⟨g, j, none⟩ (.int .i64 t)) cs x := by
  obtain ⟨n1, A, c, h1, h2, h3⟩ := H
  exact ⟨n1, A, c, h1, h2.set hg ht, h3⟩
variable {G : Nat → Prop} {L : List (List Int)}
theorem st_tight (H : RowR n0 31 1 (StG G) w A c L) (hG : ∀ b, G b → n0 ≤ b) : RowR n0 31 1 (StG fun b => n0 ≤ b ∧ b < w.heap.size) w A c L := by
  obtain ⟨xss, h1, h2, h3, h4⟩ := H
  refine ⟨xss, h1, h2, h3, fun k x cs a b => ?_⟩
  obtain ⟨n1, A1, c1, k1, k2, k3⟩ := h4 k x cs a b
  exact ⟨n1, A1, c1, k1, k2, fun b hb => ⟨hG b (k3 b hb), (k2.ownIn hb).2⟩⟩
theorem lk_of (H : RowR n0 31 1 (StG G) w A c L) (hG : ∀ b, G b → n0 ≤ b) : RowR n0 31 1 (LkR n0 w.heap.size) w A c L := by
  obtain ⟨xss, h1, h2, h3, h4⟩ := st_tight H hG
  refine ⟨xss, h1, h2, h3, fun k x cs a b => ?_⟩
  obtain ⟨n1, A1, c1, k1, k2, k3⟩ := h4 k x cs a b
  exact ⟨n1, A1, c1, k1, LenR.of k2, k3⟩
theorem lk_at {N1 N2 i : Nat} (H : RowR n0 31 1 (LkR N1 N2) w A c L) (hi : i < L.length) : ∃ b o Ai ci n1, A = some ⟨b, o, none⟩ ∧ w.cell? ⟨b, o + i, none⟩ = some (.slice Ai L[i].length ci) ∧ LenR n1 Ai ci L[i].length w ∧ ∀ b', OwnB Ai L[i].length ci b' → N1 ≤ b' ∧ b' < N2 := by
  obtain ⟨A2, c2, hv, _, h⟩ := H.slr (by decide) 0
  obtain ⟨b, o, hA, _, _, h⟩ := h (by omega)
  injection hv with hv _ _
  obtain ⟨cs, _, hR, hcell⟩ := h i _ (List.getElem?_eq_getElem hi)
  obtain ⟨n1, Ai, ci, rfl, hr, hb⟩ := hR
  exact ⟨b, o, Ai, ci, n1, by rw [hv, hA], by simpa using hcell 0 _ rfl, hr, hb⟩
theorem st_at {i : Nat} (H : RowR n0 31 1 (StG G) w A c L) (hi : i < L.length) : ∃ b o Ai ci, A = some ⟨b, o, none⟩ ∧ w.cell? ⟨b, o + i, none⟩ = some (.slice Ai L[i].length ci) ∧ IntsR w.heap.size w (.slice Ai L[i].length ci) L[i] := by
  obtain ⟨A2, c2, hv, _, h⟩ := H.slr (by decide) 0
  obtain ⟨b, o, hA, _, _, h⟩ := h (by omega)
  injection hv with hv _ _
  obtain ⟨cs, _, hR, hcell⟩ := h i _ (List.getElem?_eq_getElem hi)
  obtain ⟨n1, Ai, ci, rfl, hr, _⟩ := hR
  exact ⟨b, o, Ai, ci, by rw [hv, hA], by simpa using hcell 0 _ rfl, SlR.settle (hr.slr (by decide) 0) fun _ _ h => h⟩
end
/-- The stacks that are told. -/
def StL (m : ModD) (fn : Int) (L : List (List Int)) : Prop := if headE m fn = 0 then ∃ f, m.funcs[fn.toNat]? = some f ∧ L.length = f.code.length ∧ ∀ j, j < L.length → atN m f j = L[j]? else L = []
theorem StL.uniq {m : ModD} {fn : Int} {L L' : List (List Int)} (h : StL m fn L) (h' : StL m fn L') : L = L' := by
  unfold StL at h h'
  split at h
  · rename_i he
    rw [if_pos he] at h'
    obtain ⟨f, h1, h2, h3⟩ := h
    obtain ⟨f', k1, k2, k3⟩ := h'
    obtain rfl : f = f' := by rw [h1] at k1; injection k1
    apply List.ext_getElem?
    intro j
    by_cases hj : j < L.length
    · rw [← h3 j hj, ← k3 j (by omega)]
    · rw [List.getElem?_eq_none (by omega), List.getElem?_eq_none (by omega)]
  · rename_i he
    rw [if_neg he] at h'
    rw [h, h']
theorem stk_form {w w' : World} {m : ModD} {fn : Int} {v : Value} (H : StkOut w m fn v w') : ∃ L A c, v = .slice A L.length c ∧ RowR w.heap.size 31 1 (StG fun b => w.heap.size ≤ b ∧ b < w'.heap.size) w' A c L ∧ StL m fn L ∧ (headE m fn ≠ 0 → L = []) := by
  unfold StkOut at H
  split at H
  · rename_i he
    obtain ⟨f, L, A, c, G, h1, h2, h3, h4, h5, h6, h7⟩ := H
    exact ⟨L, A, c, h4, st_tight h5 h7, by unfold StL; rw [if_pos he]; exact ⟨f, h1, h2, h3⟩, fun hn => absurd he hn⟩
  · rename_i he
    exact ⟨[], none, 0, H, RowR.nil _ _ _ _ _, by unfold StL; rw [if_neg he], fun _ => rfl⟩
/-- How many an instruction takes and leaves. -/
def TkL (m : ModD) (fn at_ : Int) (la lb : Nat) : Prop := if takeE m fn at_ = 0 then ∃ f x st s, m.funcs[fn.toNat]? = some f ∧ f.code[at_.toNat]? = some x ∧ atN m f at_.toNat = some st ∧ stepN m f at_.toNat x st = some s ∧ la = s.taken.reverse.length ∧ lb = s.left.length else la = 0 ∧ lb = 0
theorem TkL.uniq {m : ModD} {fn at_ : Int} {la lb la' lb' : Nat} (h : TkL m fn at_ la lb) (h' : TkL m fn at_ la' lb') : la = la' ∧ lb = lb' := by
  unfold TkL at h h'
  split at h
  · rename_i he
    rw [if_pos he] at h'
    obtain ⟨f, x, st, s, h1, h2, h3, h4, rfl, rfl⟩ := h
    obtain ⟨f', x', st', s', k1, k2, k3, k4, rfl, rfl⟩ := h'
    obtain rfl : f = f' := by rw [h1] at k1; injection k1
    obtain rfl : x = x' := by rw [h2] at k2; injection k2
    obtain rfl : st = st' := by rw [h3] at k3; injection k3
    obtain rfl : s = s' := by rw [h4] at k4; injection k4
    exact ⟨rfl, rfl⟩
  · rename_i he
    rw [if_neg he] at h'
    exact ⟨h.1.trans h'.1.symm, h.2.trans h'.2.symm⟩
theorem tk_form {w w' : World} {m : ModD} {fn at_ : Int} {a b : Value} (H : TkOut w m fn at_ a b w') : ∃ la lb A c A' c', a = .slice A la c ∧ b = .slice A' lb c' ∧ LenR w.heap.size A c la w' ∧ LenR w.heap.size A' c' lb w' ∧ TkL m fn at_ la lb ∧ (takeE m fn at_ ≠ 0 → la = 0) := by
  unfold TkOut at H
  split at H
  · rename_i he
    obtain ⟨f, x, st, s, A, c, A', c', h1, h2, h3, h4, h5, h6, h7, h8⟩ := H
    exact ⟨_, _, A, c, A', c', h5, h6, LenR.of h7, LenR.of h8, by unfold TkL; rw [if_pos he]; exact ⟨f, x, st, s, h1, h2, h3, h4, rfl, rfl⟩, fun hn => absurd he hn⟩
  · rename_i he
    exact ⟨0, 0, none, 0, none, 0, H.1, H.2, ⟨[], rfl, RowR.nil _ _ _ _ _⟩, ⟨[], rfl, RowR.nil _ _ _ _ _⟩, by unfold TkL; rw [if_neg he]; exact ⟨rfl, rfl⟩, fun _ => rfl⟩
end Go.Proofs.Ytdegfnejhamejaa
