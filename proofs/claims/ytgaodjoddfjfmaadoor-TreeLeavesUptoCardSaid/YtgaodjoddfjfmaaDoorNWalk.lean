/-
  tree.walk, Walk: an iterator over a tree's nodes, each ahead of those in it, a copy of each handed out.
-/
import Derived.Test.YtgaodjoddfjfmaaDoorNClone
import Derived.Test.YtgaodjoddfjfmaaDoorNRange
import Derived.Test.YtgaodjoddfjfmaaDoorNFlat
namespace Go.Proofs.YtgaodjoddfjfmaaDoor
open Go.RowKit
attribute [local go_sem] Oper.semAt_some
set_option linter.unusedVariables false
set_option linter.unusedSimpArgs false

/-- What round k is handed: the depth and a copy of node k of the tree T, in new memory. -/
def WkG (T : Nd) (nm k : Nat) (args : Array Value) (A B : World) : Prop :=
  ∃ x d X cx, T.flat[k]? = some x ∧ (T.flatD 0)[k]? = some d ∧ args = #[.int .i64 (d : Nat), .agg #[.int .i64 x.kind, .string x.text, .int .u64 x.n, .int .i64 x.at_, .slice X x.list.length cx]] ∧ NdN nm (fun b => A.heap.size ≤ b) B (ndCells x.kind x.text x.n x.at_ X x.list.length cx) x
def walkC (l D N nm : Nat) (T : Nd) (J : Nat → (Nat → Prop) → World → Prop) (Jx : Nat → World → Prop) (n : Nat) : Prop :=
  ∀ (k d : Nat) (O : Nat → Prop) (w : World) (t : Nd) (A : Option Addr) (c : Nat), NdR n D w (ndCells t.kind t.text t.n t.at_ A t.list.length c) t → D ≤ w.heap.size → J k O w → n ≤ nm →
    (∀ j x, t.flat[j]? = some x → T.flat[k + j]? = some x) → (∀ j x, (t.flatD d)[j]? = some x → (T.flatD 0)[k + j]? = some x) → k + t.size ≤ N → d + t.size ≤ 1048577 →
    Calls Tryd.prog 38 #[.agg #[.int .i64 t.kind, .string t.text, .int .u64 t.n, .int .i64 t.at_, .slice A t.list.length c], .int .i64 (d : Nat), .func (.yield l) #[] #[]] w fun e W' =>
      (e = .returned (.bool true) ∧ ∃ O', J (k + t.size) O' W' ∧ Chg (fun b _ => O b ∨ w.heap.size ≤ b) w W' ∧ ∀ b, O' b → O b ∨ w.heap.size ≤ b) ∨ (e = .returned (.bool false) ∧ ∃ q, q ≤ N ∧ Jx q W')
def wkRel (k g1 : Nat) (t : Nd) (J : Nat → (Nat → Prop) → World → Prop) (O : Nat → Prop) (W : World) (i : Value) (wr : World) : Prop :=
  ∃ (j : Nat) (O' : Nat → Prop), j ≤ t.list.length ∧ i = .int .i64 j ∧ J (k + 1 + sizeL (t.list.take j)) O' wr ∧ Chg (fun b _ => O b ∨ W.heap.size ≤ b) W wr ∧ ∀ b, O' b → O b ∨ W.heap.size ≤ b
theorem flat_child {t x : Nd} {j : Nat} (hx : t.list[j]? = some x) {i : Nat} {y : Nd} (hy : x.flat[i]? = some y) : t.flat[1 + sizeL (t.list.take j) + i]? = some y := by
  obtain ⟨h1, h2⟩ := List.getElem?_eq_some_iff.1 hx
  have he : t.list = t.list.take j ++ x :: t.list.drop (j + 1) := by rw [← h2]; exact (List.take_append_drop j t.list).symm.trans (by rw [List.drop_eq_getElem_cons h1])
  have hl : ∀ a b, flatL (a ++ b) = flatL a ++ flatL b := fun a b => by
    induction a with
    | nil => simp [flatL]
    | cons z a ih => simp [flatL, ih]
  have hf : flatL t.list = flatL (t.list.take j) ++ (x.flat ++ flatL (t.list.drop (j + 1))) := (congrArg flatL he).trans (by rw [hl]; rfl)
  rw [flat_eq, hf, show 1 + sizeL (t.list.take j) + i = (sizeL (t.list.take j) + i) + 1 by omega, List.getElem?_cons_succ, List.getElem?_append_right (by rw [flatL_len]; omega), flatL_len, show sizeL (t.list.take j) + i - sizeL (t.list.take j) = i by omega, List.getElem?_append_left (List.getElem?_eq_some_iff.1 hy).1]
  exact hy
theorem flatD_child {t x : Nd} {j d : Nat} (hx : t.list[j]? = some x) {i e : Nat} (hy : (x.flatD (d + 1))[i]? = some e) : (t.flatD d)[1 + sizeL (t.list.take j) + i]? = some e := by
  obtain ⟨h1, h2⟩ := List.getElem?_eq_some_iff.1 hx
  have he : t.list = t.list.take j ++ x :: t.list.drop (j + 1) := by rw [← h2]; exact (List.take_append_drop j t.list).symm.trans (by rw [List.drop_eq_getElem_cons h1])
  have hl : ∀ a b, flatDL (d + 1) (a ++ b) = flatDL (d + 1) a ++ flatDL (d + 1) b := fun a b => by
    induction a with
    | nil => simp [flatDL]
    | cons z a ih => simp [flatDL, ih]
  have hf : flatDL (d + 1) t.list = flatDL (d + 1) (t.list.take j) ++ (x.flatD (d + 1) ++ flatDL (d + 1) (t.list.drop (j + 1))) := (congrArg (flatDL (d + 1)) he).trans (by rw [hl]; rfl)
  rw [flatD_eq, hf, show 1 + sizeL (t.list.take j) + i = (sizeL (t.list.take j) + i) + 1 by omega, List.getElem?_cons_succ, List.getElem?_append_right (by rw [flatDL_len]; omega), flatDL_len, show sizeL (t.list.take j) + i - sizeL (t.list.take j) = i by omega, List.getElem?_append_left (List.getElem?_eq_some_iff.1 hy).1]
  exact hy
section
variable {l D N nm : Nat} {T : Nd} {J : Nat → (Nat → Prop) → World → Prop} {Jx : Nat → World → Prop}
  (hJ : ∀ k O A B, Chg (fun _ _ => False) A B → J k O A → J k O B) (hJx : ∀ k A B, Chg (fun _ _ => False) A B → Jx k A → Jx k B) (hJO : ∀ k O A, J k O A → ∀ b, O b → D ≤ b ∧ b < A.heap.size)
  (hY : ∀ m k O args A B, J k O A → Chg (fun _ _ => False) A B → k < N → WkG T nm k args A B → YieldAt Fence.wide m Tryd.prog l args B fun e W' =>
      (e = .returned (.bool true) ∧ ∃ O', J (k + 1) O' W' ∧ Chg (fun b _ => O b ∨ A.heap.size ≤ b) A W' ∧ ∀ b, O' b → O b ∨ A.heap.size ≤ b) ∨ (e = .returned (.bool false) ∧ Jx (k + 1) W'))
include hJ hJO hY
set_option maxRecDepth 100000 in
set_option maxHeartbeats 4000000 in
theorem walk_step (n : Nat) (IH : walkC l D N nm T J Jx n) : walkC l D N nm T J Jx (n + 1) := by
  intro k d O w t A c hT hD hJk hnm hfl hfd hkN hdz
  obtain ⟨hsm, hLl⟩ := NdR.open_ hT
  have hll : t.list.length ≤ 1048576 := hsm.2.2.2.2
  have hb1 := Blk.new w 25 #[.int .i64 t.kind, .string t.text, .int .u64 t.n, .int .i64 t.at_, .slice A t.list.length c]
  have hc1 := chg_alloc w (.cells #[.int .i64 t.kind, .string t.text, .int .u64 t.n, .int .i64 t.at_, .slice A t.list.length c] 25)
  obtain ⟨W1, hW1⟩ : ∃ W1, w.alloc (.cells #[.int .i64 t.kind, .string t.text, .int .u64 t.n, .int .i64 t.at_, .slice A t.list.length c] 25) = W1 := ⟨_, rfl⟩
  obtain ⟨g1, hg1⟩ : ∃ g1, w.heap.size = g1 := ⟨_, rfl⟩
  have hsz1 : W1.heap.size = g1 + 1 := by rw [← hW1, ← hg1]; simp
  rw [hW1] at hb1 hc1
  have hcl := clone_any (n + 1) D W1 t A c (Nat.le_trans hD hc1.size) (NdR.keep0 hc1 hT)
  have hOg : ∀ b, O b → D ≤ b ∧ b < g1 := fun b hb => by rw [← hg1]; exact hJO k O w hJk b hb
  have hy := fun m X cx w2 (hN : NdN (n + 1) (fun b => W1.heap.size ≤ b) w2 (ndCells t.kind t.text t.n t.at_ X t.list.length cx) t) (hc : Chg (fun _ _ => False) W1 w2) =>
    hY m k O #[.int .i64 (d : Nat), .agg #[.int .i64 t.kind, .string t.text, .int .u64 t.n, .int .i64 t.at_, .slice X t.list.length cx]] W1 w2 (hJ k O w W1 hc1 hJk) hc (by have := size_pos t; omega)
      ⟨t, d, X, cx, by simpa using hfl 0 t (by rw [flat_eq]; rfl), by simpa using hfd 0 d (by rw [flatD_eq]; rfl), rfl, NdN.deep hN hnm⟩
  have HP := Lib.hid (And.intro hD (And.intro hLl (And.intro hOg (And.intro hsz1 (And.intro hb1 (And.intro hc1 (And.intro IH (And.intro hnm (And.intro hfl (And.intro hfd (And.intro hkN hdz)))))))))))
  have HY := Lib.hid hy
  obtain ⟨c0, c1, c2, c3, c4⟩ := (show Blk W1 g1 25 _ by rw [← hg1]; exact hb1).cells5
  clear hT hD hLl hOg hb1 hc1 IH hnm hfl hfd hsm hJk hy
  have hdd : ∀ k : Nat, (Fence.wide.depth.isSome = true → 1 ≤ k) := fun k h => (by cases h)
  refine (callsIn_wide (n := 3)).1 ?_
  refine callsIn_of_wp Tryd.func38 rfl trivial ?_ rfl
  simp only [Tryd.ntmps38, List.size_toArray, List.length_cons, List.length_nil, Nat.reduceAdd, Nat.reduceSub, Array.replicate_succ, Array.replicate_zero, List.push_toArray, List.append_toArray, List.nil_append, List.cons_append]
  gi_wp2_with fail
  refine ⟨trivial, (callsIn_wide.2 hcl).mono fun e w2 h => ?_⟩
  obtain ⟨X, cx, rfl, hN, hc2⟩ := h
  clear hcl c0 c1 c2 c3 c4
  obtain ⟨fn, tmps, assign, body, hy, hR⟩ := HY.out 2 X cx w2 hN hc2
  clear hN
  gi_wp2_with fail
  refine hR.mono fun e W3 h => ?_
  rcases h with ⟨rfl, O1, hJ1, hc3, hO1⟩ | ⟨rfl, hx3⟩
  · have hb3 := hc3.blk HP.out.2.2.2.2.1 (fun h => by have h1 := HP.out.2.2.1 w.heap.size; have h2 := HP.out.2.2.2.1; exact h.elim (fun h => by have := h1 h; omega) (fun h => by omega))
    rw [hg1] at hb3
    obtain ⟨c0, c1, c2, c3, c4⟩ := hb3.cells5
    have H3 := Lib.hid (And.intro hJ1 (And.intro hc3 hO1))
    clear hJ1 hc3 hO1 hR hy hb3
    gi_wp2_with fail
    gi_loopw [18] (fun i wr => wkRel k g1 t J O W1 i wr) (fun i _ => t.list.length - (intOf i).toNat)
    case atStart => exact ⟨0, O1, Nat.zero_le _, rfl, by simpa [sizeL] using H3.out.1, H3.out.2.1, H3.out.2.2⟩
    case round =>
      obtain ⟨j, O2, hj, rfl, hJ2, hch, hO2⟩ := hrel
      clear c0 c1 c2 c3 c4
      have hMD : LetsM (fun b _ => O b ∨ W1.heap.size ≤ b) D := fun b _ hb h => by have h1 := HP.out.2.2.1 b; have h2 := HP.out.2.2.2.1; have h3 := HP.out.1; exact h.elim (fun h => by have := h1 h; omega) (fun h => by omega)
      have hcw : Chg (fun b _ => O b ∨ W1.heap.size ≤ b) w wr := (HP.out.2.2.2.2.2.1.mono fun _ _ _ h => h.elim).trans hch
      by_cases hlt : j < t.list.length
      · have q1 : decide (j < t.list.length) = true := decide_eq_true hlt
        have q2 : (j : Int) < (t.list.length : Int) := by omega
        have q3 : IntKind.i64.wrap ((j : Int) + 1) = (j : Int) + 1 := IntWalk.i64_in _ ⟨by omega, by omega⟩
        have q4 : IntKind.i64.wrap ((d : Int) + 1) = ((d + 1 : Nat) : Int) := by rw [IntWalk.i64_in _ ⟨by omega, by omega⟩]; omega
        obtain ⟨b, o, x, X2, cx2, rfl, hkx, hRx, z0, z1, z2, z3, z4⟩ := NdsR.at_ (SlR.keep HP.out.2.1 hcw hMD.lets fun _ _ h => NdR.keep hcw hMD h) hlt
        have hca := chg_alloc wr (.cells #[.int .i64 x.kind, .string x.text, .int .u64 x.n, .int .i64 x.at_, .slice X2 x.list.length cx2] 25)
        have hbx := Blk.new wr 25 #[.int .i64 x.kind, .string x.text, .int .u64 x.n, .int .i64 x.at_, .slice X2 x.list.length cx2]
        have hsx : sizeL (t.list.take j) + x.size ≤ sizeL t.list := by
          obtain ⟨h1, h2⟩ := List.getElem?_eq_some_iff.1 hkx
          rw [← sizeL_snoc, ← h2, ← List.take_succ_eq_append_getElem h1]
          exact sizeL_take _ _
        have htk : sizeL (t.list.take (j + 1)) = sizeL (t.list.take j) + x.size := by
          obtain ⟨h1, h2⟩ := List.getElem?_eq_some_iff.1 hkx
          rw [List.take_succ_eq_append_getElem h1, h2, sizeL_snoc]
        have hcall := HP.out.2.2.2.2.2.2.1 (k + 1 + sizeL (t.list.take j)) (d + 1) O2 (wr.alloc (.cells #[.int .i64 x.kind, .string x.text, .int .u64 x.n, .int .i64 x.at_, .slice X2 x.list.length cx2] 25)) x X2 cx2 (NdR.keep0 hca hRx) (Nat.le_trans HP.out.1 (hcw.trans (hca.mono fun _ _ _ h => h.elim)).size) (hJ _ _ _ _ hca hJ2) (by have := HP.out.2.2.2.2.2.2.2.1; omega)
          (fun i y hy => by rw [show k + 1 + sizeL (t.list.take j) + i = k + (1 + sizeL (t.list.take j) + i) by omega]; exact HP.out.2.2.2.2.2.2.2.2.1 _ _ (flat_child hkx hy))
          (fun i y hy => by rw [show k + 1 + sizeL (t.list.take j) + i = k + (1 + sizeL (t.list.take j) + i) by omega]; exact HP.out.2.2.2.2.2.2.2.2.2.1 _ _ (flatD_child hkx hy))
          (by rw [size_eq] at hkN; omega) (by rw [size_eq] at hdz; omega)
        obtain ⟨y0, y1, y2, y3, y4⟩ := hbx.cells5
        have HK := Lib.hid (And.intro hch (And.intro hO2 (And.intro htk hca)))
        clear hcw hch hO2 hkx hRx hJ2 hMD hsx htk hca hbx
        gi_wp2_with fail
        refine ⟨trivial, (callsIn_wide.2 hcall).mono fun e w5 h => ?_⟩
        rcases h with ⟨rfl, O3, hJ3, hc5, hO3⟩ | ⟨rfl, q, hq, hx5⟩
        · have hle : W1.heap.size ≤ (wr.alloc (.cells #[.int .i64 x.kind, .string x.text, .int .u64 x.n, .int .i64 x.at_, .slice X2 x.list.length cx2] 25)).heap.size := Nat.le_trans HK.out.1.size HK.out.2.2.2.size
          have hto : ∀ b, (O2 b ∨ (wr.alloc (.cells #[.int .i64 x.kind, .string x.text, .int .u64 x.n, .int .i64 x.at_, .slice X2 x.list.length cx2] 25)).heap.size ≤ b) → O b ∨ W1.heap.size ≤ b := fun b h => h.elim (HK.out.2.1 b) fun h => .inr (Nat.le_trans hle h)
          have hc6 : Chg (fun b _ => O b ∨ W1.heap.size ≤ b) W1 w5 := (HK.out.1.trans (HK.out.2.2.2.mono fun _ _ _ h => h.elim)).trans (hc5.mono fun b _ _ h => hto b h)
          have hO6 : ∀ b, O3 b → O b ∨ W1.heap.size ≤ b := fun b h => hto b (hO3 b h)
          have H6 := Lib.hid (And.intro hJ3 (And.intro hc6 hO6))
          clear hcall y0 y1 y2 y3 y4 z0 z1 z2 z3 z4 hJ3 hc5 hO3 hle hto hc6 hO6
          gi_wp2_with fail
          go_roundw
          case rel => exact ⟨j + 1, O3, hlt, by simp, by rw [HK.out.2.2.1, ← Nat.add_assoc]; exact H6.out.1, H6.out.2.1, H6.out.2.2⟩
          case measure => simp [intOf]; omega
        · clear hcall y0 y1 y2 y3 y4 z0 z1 z2 z3 z4
          gi_wp2_with fail
          go_ret
          exact .inr ⟨rfl, q, hq, hx5⟩
      · have q1 : decide (j < t.list.length) = false := decide_eq_false hlt
        obtain rfl : j = t.list.length := by omega
        rw [List.take_length, show k + 1 + sizeL t.list = k + t.size by rw [size_eq]; omega] at hJ2
        have HK := Lib.hid (And.intro hJ2 (And.intro hcw hO2))
        clear hJ2 hch hcw hO2 hMD
        gi_wp2_with fail
        go_ret
        exact .inl ⟨rfl, O2, HK.out.1, HK.out.2.1.mono fun b _ hb h => h.imp id fun h => by have := HP.out.2.2.2.1; omega, fun b hb => (HK.out.2.2 b hb).imp id fun h => by have := HP.out.2.2.2.1; omega⟩
  · gi_wp2_with fail
    go_ret
    exact .inr ⟨rfl, _, by have := size_pos t; omega, hx3⟩
theorem walk_any : ∀ n, walkC l D N nm T J Jx n
  | 0 => fun k d O w t A c hT => hT.elim
  | n + 1 => walk_step hJ hJO hY n (walk_any n)
end
set_option maxRecDepth 100000 in
theorem walk1_walks (n nm : Nat) (gb D : Nat) (w : World) (t : Nd) (A : Option Addr) (c : Nat) (hb : Blk w gb 25 #[.int .i64 t.kind, .string t.text, .int .u64 t.n, .int .i64 t.at_, .slice A t.list.length c]) (hT : NdR n D w (ndCells t.kind t.text t.n t.at_ A t.list.length c) t) (hD : D ≤ w.heap.size) (hn : n ≤ nm) (hS : t.size ≤ 1048576) :
    WalksN Tryd.prog 37 #[.pointer (some ⟨gb, 0, none⟩)] t.size D (WkG t nm) w := by
  intro l J Jx O W hc hJ hJx hJO hY h0
  have hcall := walk_any (l := l) (D := D) (N := t.size) (nm := nm) (T := t) (J := J) (Jx := Jx) hJ hJO hY n 0 0 O W t A c (NdR.keep0 hc hT) (Nat.le_trans hD hc.size) h0 hn (fun j x h => by simpa using h) (fun j x h => by simpa using h) (by omega) (by omega)
  obtain ⟨c0, c1, c2, c3, c4⟩ := (hc.blk hb id).cells5
  clear hb hT hD hJ hJx hJO hY h0 hc
  show Calls Tryd.prog 37 #[.func (.yield l) #[] #[], .pointer (some ⟨gb, 0, none⟩)] W _
  go_enter Tryd.func37, Tryd.ntmps37
  go_wp2_with fail
  refine hcall.mono fun e w1 h => ?_
  rcases h with ⟨rfl, O', hJ', _⟩ | ⟨rfl, q, hq, hx⟩
  · have HJ := Lib.hid hJ'
    clear hcall hJ'
    go_wp2_with fail
    go_end0
    exact ⟨⟨_, rfl⟩, .inl ⟨O', by simpa using HJ.out⟩⟩
  · have HJ := Lib.hid (And.intro hq hx)
    clear hcall hq hx
    go_wp2_with fail
    go_end0
    exact ⟨⟨_, rfl⟩, .inr ⟨q, HJ.out⟩⟩
theorem walk1_enters (args : Array Value) (w : World) : (callFunc 37 args).run Tryd.prog w = .ok (.enter 37 args) w := by
  simp [callFunc, Tryd.func37, go_sem]
  rw [if_neg (by decide +kernel), if_neg (fun h => by cases h)]
set_option maxRecDepth 100000 in
set_option maxHeartbeats 1000000 in
theorem walkF_any (n B : Nat) (w : World) (t : Nd) (A : Option Addr) (c : Nat) (hB : B ≤ w.heap.size) (hT : NdR n B w (ndCells t.kind t.text t.n t.at_ A t.list.length c) t) :
    Calls Tryd.prog 27 #[.agg #[.int .i64 t.kind, .string t.text, .int .u64 t.n, .int .i64 t.at_, .slice A t.list.length c]] w fun e w' => ∃ A2 c2, e = .returned (.func (.func 37) #[] #[.pointer (some ⟨w.heap.size, 0, none⟩)]) ∧ Blk w' w.heap.size 25 #[.int .i64 t.kind, .string t.text, .int .u64 t.n, .int .i64 t.at_, .slice A2 t.list.length c2] ∧
      NdN n (fun b => w.heap.size < b) w' (ndCells t.kind t.text t.n t.at_ A2 t.list.length c2) t ∧ Chg (fun _ _ => False) w w' := by
  have hb1 := Blk.new w 25 #[.int .i64 t.kind, .string t.text, .int .u64 t.n, .int .i64 t.at_, .slice A t.list.length c]
  have hc1 := chg_alloc w (.cells #[.int .i64 t.kind, .string t.text, .int .u64 t.n, .int .i64 t.at_, .slice A t.list.length c] 25)
  have hcl := clone_any n B (w.alloc (.cells #[.int .i64 t.kind, .string t.text, .int .u64 t.n, .int .i64 t.at_, .slice A t.list.length c] 25)) t A c (Nat.le_trans hB hc1.size) (NdR.keep0 hc1 hT)
  have H1 := Lib.hid (And.intro hb1 hc1)
  clear hb1 hc1 hB hT
  go_enter Tryd.func27, Tryd.ntmps27
  go_wp2_with fail
  refine hcl.mono fun e w2 h => ?_
  obtain ⟨A2, c2, rfl, hN, hc2⟩ := h
  clear hcl
  have hb2 := hc2.blk H1.out.1 id
  obtain ⟨d0, d1, d2, d3, d4⟩ := hb2.cells5
  have e0 := hb2.frozen 0
  have e1 := hb2.frozen 1
  have e2 := hb2.frozen 2
  have e3 := hb2.frozen 3
  have e4 := hb2.frozen 4
  have H2 := Lib.hid (And.intro hN (And.intro hb2 (H1.out.2.trans hc2)))
  clear hN hc2 hb2
  go_wp2_with fail
  clear d0 d1 d2 d3 d4 e0 e1 e2 e3 e4
  obtain ⟨hbz, hcz⟩ := blk_set5 H2.out.2.1 (.int .i64 t.kind) (.string t.text) (.int .u64 t.n) (.int .i64 t.at_) (.slice A2 t.list.length c2)
  go_ret
  refine ⟨A2, c2, rfl, hbz, ?_, H2.out.2.2.trans_new hcz fun b t hb h => by have := h.1; omega⟩
  exact NdN.keep hcz (fun b hb h => by have := h.1; omega) (NdN.sub (fun b _ h => by simp at h; omega) H2.out.1)
end Go.Proofs.YtgaodjoddfjfmaaDoor
