/-
  wants: the stack has to end so: a range over slices.Backward.
-/
import Derived.Test.YtdegfnejhamejaaCk3Zk
import Derived.Test.YtdegfnejhamejaaRPanZk
namespace Go.Proofs.Ytdegfnejhamejaa
open Go.RowKit
attribute [local go_sem] Oper.semAt_some
set_option linter.unusedVariables false
set_option linter.unusedSimpArgs false

theorem wantsR_append : ∀ (a b : List Int) (s : VSt), wantsR (a ++ b) s = (wantsR a s).bind (wantsR b)
  | [], b, s => rfl
  | t :: a, b, s => by
    simp only [List.cons_append, wantsR]
    cases wantN t s with
    | none => rfl
    | some s1 => simp only [Option.bind_some]; exact wantsR_append a b s1
set_option maxRecDepth 100000 in
theorem back_any (w : World) (A : Option Addr) (n c : Nat) : Calls Try.prog 78 #[.slice A n c] w fun e w' => e = .returned (.func (.func 80) #[] #[.pointer (some ⟨w.heap.size, 0, none⟩)]) ∧ w' = w.alloc (.cells #[.slice A n c] 31) := by
  go_enter Try.func78, Try.ntmps78
  go_wp2_with fail
  go_ret
  exact ⟨rfl, rfl⟩
theorem back_enters : ∀ args w, (callFunc 80 args).run Try.prog w = .ok (.enter 80 args) w := fun _ _ => rfl
theorem ints_at {B n c k : Nat} {w : World} {A : Option Addr} {l : List Int} (h : IntsR B w (.slice A n c) l) (hk : k < l.length) : ∃ b o, A = some ⟨b, o, none⟩ ∧ I64 (l.getD k 0) ∧ w.cell? ⟨b, o + k, none⟩ = some (.int .i64 (l.getD k 0)) := by
  obtain ⟨b, o, x, hA, hx, hi, hc⟩ := h.at_ hk
  have : l.getD k 0 = x := by rw [List.getD_eq_getElem?_getD, hx]; rfl
  rw [this]
  exact ⟨b, o, hA, hi, hc⟩
def backA (zs : List Int) (k : Nat) : Array Value := #[.int .i64 ((zs.length - 1 - k : Nat) : Int), .int .i64 (zs.getD (zs.length - 1 - k) 0)]
set_option maxRecDepth 100000 in
set_option maxHeartbeats 4000000 in
theorem back_walks (gb B : Nat) (M : Nat → Nat → Prop) (w : World) (R : Option Addr) (c : Nat) (zs : List Int) (hb : Blk w gb 31 #[.slice R zs.length c]) (hr : IntsR B w (.slice R zs.length c) zs) (hN : zs.length ≤ 1048576) (hMg : ¬ M gb 31) (hMB : LetsM M B) :
    WalksP Try.prog 80 #[.pointer (some ⟨gb, 0, none⟩)] zs.length (backA zs) M w := by
  intro l J Jp W hc hY h0
  have hbW := hc.blk hb id
  have hrW := hr.keep hc fun _ _ _ h => h
  have HJ := Lib.hid (And.intro h0 (And.intro hY (And.intro hbW (And.intro hrW (And.intro hMg hMB)))))
  have y0 : W.cell? ⟨gb, 0, none⟩ = some (.slice R zs.length c) := by simpa using hbW.cell 0
  have q0 : IntKind.i64.wrap ((zs.length : Int) - 1) = (zs.length : Int) - 1 := IntWalk.i64_in _ ⟨by omega, by omega⟩
  clear hb hr hc hY h0 hMg hMB hrW hbW
  have hdd : ∀ k : Nat, (Fence.wide.depth.isSome = true → 1 ≤ k) := fun k h => (by cases h)
  show Calls Try.prog 80 #[.func (.yield l) #[] #[], .pointer (some ⟨gb, 0, none⟩)] W _
  refine (callsIn_wide (n := 3)).1 ?_
  refine callsIn_of_wp Try.func80 rfl trivial ?_ rfl
  simp only [Try.ntmps80, List.size_toArray, List.length_cons, List.length_nil, Nat.reduceAdd, Nat.reduceSub, Array.replicate_succ, Array.replicate_zero, List.push_toArray, List.append_toArray, List.nil_append, List.cons_append]
  gi_wp2_with fail
  clear y0
  gi_loopw [3] (fun i wr => ∃ k : Nat, k ≤ zs.length ∧ i = .int .i64 ((zs.length : Int) - 1 - (k : Int)) ∧ J k wr ∧ Chg M W wr) (fun i _ => (intOf i + 1).toNat)
  case atStart => exact ⟨0, Nat.zero_le _, by simp, HJ.out.1, Chg.refl _ _⟩
  case round =>
    obtain ⟨k, hk, rfl, hJ1, hch⟩ := hrel
    by_cases hlt : k < zs.length
    · obtain ⟨j, hj⟩ : ∃ j : Nat, zs.length - 1 - k = j := ⟨_, rfl⟩
      have hji : (zs.length : Int) - 1 - (k : Int) = (j : Int) := by omega
      have q1 : decide ((0 : Int) ≤ (j : Int)) = true := decide_eq_true (by omega)
      have q2 : (j : Int) < (zs.length : Int) := by omega
      have q4 : j < zs.length := by omega
      have q3 : IntKind.i64.wrap ((j : Int) - 1) = (j : Int) - 1 := IntWalk.i64_in _ ⟨by omega, by omega⟩
      have x0 : wr.cell? ⟨gb, 0, none⟩ = some (.slice R zs.length c) := by simpa using (hch.blk HJ.out.2.2.1 HJ.out.2.2.2.2.1).cell 0
      obtain ⟨rb, ro, hR, hI, z0⟩ := ints_at (HJ.out.2.2.2.1.keep hch HJ.out.2.2.2.2.2) q4
      have hyy := HJ.out.2.1 2 k wr hJ1 hlt
      unfold backA at hyy
      rw [hj] at hyy
      obtain ⟨y, hy⟩ : ∃ y, zs.getD j 0 = y := ⟨_, rfl⟩
      rw [hy] at z0 hyy
      obtain ⟨fn, tmps, assign, body, hyr, hRd⟩ := hyy
      rw [hji]
      rw [hR] at x0
      have HK := Lib.hid (And.intro hch (And.intro hJ1 (And.intro hlt hji)))
      clear hch hJ1 hlt hji hj hy hI hR
      gi_wp2_with fail
      refine hRd.mono fun e W3 h3 => ?_
      rcases h3 with ⟨rfl, hJ3, hc3⟩ | ⟨ch, rfl, hp⟩
      · have HZ := Lib.hid (And.intro hJ3 (HK.out.1.trans hc3))
        clear hJ3 hc3 hRd hyr z0 x0
        gi_wp2_with fail
        go_roundw
        case rel => exact ⟨k + 1, HK.out.2.2.1, by have := HK.out.2.2.2; congr 1; omega, HZ.out.1, HZ.out.2⟩
        case measure => simp [intOf]
      · have HZ := Lib.hid hp
        clear hp hRd hyr z0 x0
        gi_wp2_with fail
        exact ⟨rfl, .inr ⟨ch, rfl, HZ.out⟩⟩
    · obtain rfl : k = zs.length := by omega
      have q1 : decide ((0 : Int) ≤ (zs.length : Int) - 1 - (zs.length : Int)) = false := decide_eq_false (by omega)
      have HF := Lib.hid hJ1
      clear hJ1 hch
      gi_wp2_with fail
      go_end0
      exact .inl ⟨⟨_, rfl⟩, HF.out⟩
/-- Blocks from a on, below b, that the calls do not touch besides. -/
def Hd.zones (h : Hd) (a b : Nat) : Hd := { h with K := fun g => h.K g ∨ (a ≤ g ∧ g < b) }
section
variable {h : Hd} {k a b : Nat} {w w' : World} {s : VSt}
theorem ModH.zones (H : ModH h w) : ModH (h.zones a b) w := ⟨H.types, H.funcs, H.locals, H.caps, H.code, H.le, H.formed, H.func⟩
theorem ModH.unzones (H : ModH (h.zones a b) w) : ModH h w := ⟨H.types, H.funcs, H.locals, H.caps, H.code, H.le, H.formed, H.func⟩
theorem CkI.zones (H : CkI h k w s) (hc : Chg (fun _ _ => False) w w') (hb : b ≤ w'.heap.size) : CkI (h.zones w.heap.size b) k w' s := by
  obtain ⟨As, cs, At, ct, Al, cl, kn, H⟩ := H
  have hlp := H.blk.lt
  exact ⟨As, cs, At, ct, Al, cl, kn, {
    blk := hc.blk H.blk id
    stack := H.stack.keep hc (fun _ _ => id) fun _ _ h => h
    taken := H.taken.keep hc (fun _ _ => id) fun _ _ h => h
    left := H.left.keep hc (fun _ _ => id) fun _ _ h => h
    ks := fun b hb hh => hh.elim (H.ks b hb) fun e => by have := (H.stack.ownIn hb).2; omega
    kt := fun b hb hh => hh.elim (H.kt b hb) fun e => by have := (H.taken.ownIn hb).2; omega
    kl := fun b hb hh => hh.elim (H.kl b hb) fun e => by have := (H.left.ownIn hb).2; omega
    dst := H.dst, dsl := H.dsl, dtl := H.dtl
    known := by
      obtain ⟨f, hf⟩ := H.known
      refine ⟨f, ?_⟩
      rcases hf with h1 | ⟨b, mm, h1, h2, h3, h4, h5⟩
      · exact .inl h1
      · exact .inr ⟨b, mm, h1, h2.keep hc id, h3, fun hh => hh.elim h4 fun e => by have := h2.lt; omega, h5⟩
    mod := (H.mod.far hc fun _ _ _ h => h).zones
    ps := H.ps, pt := H.pt, plf := H.plf
    place := ⟨H.place.1, fun hh => hh.elim H.place.2 fun e => by have e : w.heap.size ≤ h.p ∧ h.p < _ := e; omega⟩
    low := fun g hg => by
      rcases hg with hg | hg
      · have := H.low g hg; have := hc.size; omega
      · omega
    bw := Nat.le_trans H.bw hc.size }⟩
theorem CkI.unzones (H : CkI (h.zones a b) k w s) : CkI h k w s := by
  obtain ⟨As, cs, At, ct, Al, cl, kn, H⟩ := H
  exact ⟨As, cs, At, ct, Al, cl, kn, {
    blk := H.blk, stack := H.stack, taken := H.taken, left := H.left
    ks := fun b hb hh => H.ks b hb (.inl hh), kt := fun b hb hh => H.kt b hb (.inl hh), kl := fun b hb hh => H.kl b hb (.inl hh), dst := H.dst, dsl := H.dsl, dtl := H.dtl
    known := by
      obtain ⟨f, hf⟩ := H.known
      refine ⟨f, ?_⟩
      rcases hf with h1 | ⟨b, mm, h1, h2, h3, h4, h5⟩
      · exact .inl h1
      · exact .inr ⟨b, mm, h1, h2, h3, fun hh => h4 (.inl hh), h5⟩
    mod := H.mod.unzones, ps := H.ps, pt := H.pt, plf := H.plf
    place := ⟨H.place.1, fun hh => H.place.2 (.inl hh)⟩
    low := fun b hb => H.low b (.inl hb), bw := H.bw }⟩
theorem mc_zones {g t : Nat} (hm : MC (h.zones a b) g t) : MC h g t := ⟨hm.1, fun hh => hm.2 (.inl hh)⟩
theorem not_mc_zones {g t : Nat} (h1 : a ≤ g) (h2 : g < b) : ¬ MC (h.zones a b) g t := fun hm => hm.2 (.inr ⟨h1, h2⟩)
end
theorem take_rev {l : List Int} {k : Nat} (hk : k < l.length) : l.reverse.take (k + 1) = l.reverse.take k ++ [l.getD (l.length - 1 - k) 0] := by
  rw [List.take_succ_eq_append_getElem (by simpa using hk)]
  congr 1
  rw [List.getElem_reverse, List.getD_eq_getElem?_getD, List.getElem?_eq_getElem (by omega)]
  rfl
theorem wants_step {l : List Int} {s s1 : VSt} {k : Nat} (hk : k < l.length) (h : wantsR (l.reverse.take k) s = some s1) : wantsR (l.reverse.take (k + 1)) s = wantN (l.getD (l.length - 1 - k) 0) s1 := by
  rw [take_rev hk, wantsR_append, h, Option.bind_some]
  simp only [wantsR]
  cases wantN (l.getD (l.length - 1 - k) 0) s1 <;> rfl
theorem wants_none {l : List Int} {s : VSt} {k : Nat} (h : wantsR (l.reverse.take k) s = none) : wantsN l s = none := by
  unfold wantsN
  rw [← List.take_append_drop k l.reverse, wantsR_append, h]
  rfl
set_option maxRecDepth 100000 in
set_option maxHeartbeats 4000000 in
theorem wants_any (h : Hd) (k : Nat) (w : World) (s : VSt) (A : Option Addr) (c : Nat) (l : List Int) (hl : IntsR h.B w (.slice A l.length c) l) (hn : l.length ≤ 1024) (H : CkI h (k + 1024) w s) :
    Calls Try.prog 70 #[.pointer (some ⟨h.p, 0, none⟩), .slice A l.length c] w (OutU h k w (wantsN l s) (.tuple #[])) := by
  have hB := H.base_le
  have HH := Lib.hid (And.intro H (And.intro hl (And.intro hn hB)))
  clear H hl hn hB
  refine calls_of_wpAt Try.func70 rfl ?_
  simp only [Try.ntmps70, List.size_toArray, List.length_cons, List.length_nil, Nat.reduceAdd, Nat.reduceSub, Array.replicate_succ, Array.replicate_zero, List.push_toArray, List.append_toArray, List.nil_append, List.cons_append]
  refine wpAt_seq (wpAt_of ?_)
  go_wp2_with fail
  refine wpAt_seq (wpAt_of ?_)
  go_wp2_with fail
  refine (back_any (w.alloc (.cells #[.pointer (some ⟨h.p, 0, none⟩)] 62)) A l.length c).mono ?_
  rintro e w1 ⟨rfl, rfl⟩
  go_wp2_with fail
  refine wpAt_block ?_
  have hc1 := chg_alloc w (.cells #[.pointer (some ⟨h.p, 0, none⟩)] 62)
  have hb0 := Blk.new w 62 #[.pointer (some ⟨h.p, 0, none⟩)]
  have hb1 := Blk.new (w.alloc (.cells #[.pointer (some ⟨h.p, 0, none⟩)] 62)) 31 #[.slice A l.length c]
  have hc2 := hc1.alloc (.cells #[.slice A l.length c] 31)
  obtain ⟨W0, hW0⟩ : ∃ W0, (w.alloc (.cells #[.pointer (some ⟨h.p, 0, none⟩)] 62)).alloc (.cells #[.slice A l.length c] 31) = W0 := ⟨_, rfl⟩
  have hs0 : W0.heap.size = w.heap.size + 2 := by rw [← hW0]; simp
  have hbp : Blk W0 w.heap.size 62 #[.pointer (some ⟨h.p, 0, none⟩)] := by rw [← hW0]; exact hb0.alloc _
  rw [World.size_alloc] at hb1
  rw [hW0] at hc2 hb1 ⊢
  clear hW0 hb0 hc1
  have hlets : LetsM (MC (h.zones w.heap.size (w.heap.size + 4))) h.B := fun b t hb hm => by have h1 : h.base ≤ b := hm.1; have := HH.out.2.2.2.1; omega
  refine range_panics (M := MC (h.zones w.heap.size (w.heap.size + 4))) (N := l.length) (args := backA l) Try.func70 rfl back_enters
    (back_walks (w.heap.size + 1) h.B _ W0 A c l hb1 (HH.out.2.1.keep hc2 fun _ _ _ h => h) (by have := HH.out.2.2.1; omega) (not_mc_zones (by omega) (by omega)) hlets) (fun _ => rfl) (not_mc_zones (by omega) (by omega)) (not_mc_zones (by omega) (by omega))
    (fun j A' => ∃ s', wantsR (l.reverse.take j) s = some s' ∧ CkI (h.zones w.heap.size (w.heap.size + 4)) (k + 1024 - j) A' s' ∧ Blk A' w.heap.size 62 #[.pointer (some ⟨h.p, 0, none⟩)] ∧ Chg (MC h) w A')
    (fun ch A' => ch = wrongC h ∧ wantsN l s = none ∧ Chg (MC h) w A') ?_ ?_ ?_ ?_ ?_
  · rintro j A' B' hch ⟨s', e1, e2, e3, e4⟩
    refine ⟨s', e1, e2.far hch fun b t hm => ?_, hch.blk e3 fun hm => absurd hm.2 (by decide), e4.trans_le hch fun b t hb hm => ?_⟩
    · have h1 := hm.1
      refine ⟨.inr ⟨by omega, by omega⟩, ?_⟩
      show h.B ≤ b
      have := HH.out.2.2.2
      omega
    · have := hm.1; omega
  · intro W hch hsz
    exact ⟨s, rfl, HH.out.1.zones (hc2.trans hch) (by omega), hch.blk hbp id, (hc2.trans hch).toMC⟩
  · rintro m j A' ⟨s', e1, e2, e3, e4⟩ hj
    have HI := Lib.hid (And.intro e1 (And.intro e2 (And.intro e3 (And.intro e4 hj))))
    clear e1 e2 e3 e4 hj hbp hb1 hlets
    obtain ⟨y, hy⟩ : ∃ y, l.getD (l.length - 1 - j) 0 = y := ⟨_, rfl⟩
    obtain ⟨jj, hjj⟩ : ∃ jj : Int, ((l.length - 1 - j : Nat) : Int) = jj := ⟨_, rfl⟩
    have hz : backA l j = #[.int .i64 jj, .int .i64 y] := by unfold backA; rw [hy, hjj]
    rw [hz]
    have HY := Lib.hid hy
    clear hy hjj hz
    gi_wp2_with fail
    refine ⟨by first | rfl | trivial, fun W2 hch => ?_⟩
    have x0 : W2.cell? ⟨w.heap.size, 0, none⟩ = some (.pointer (some ⟨h.p, 0, none⟩)) := by simpa using (hch.blk HI.out.2.2.1 fun hm => absurd hm.2 (by decide)).cell 0
    gi_wp2_with fail
    have hC2 : CkI (h.zones w.heap.size (w.heap.size + 4)) ((k + 1024 - (j + 1)) + 1) W2 s' := (HI.out.2.1.far hch fun b t hm => ⟨.inr ⟨by have := hm.1; omega, by have := hm.1; omega⟩, by have := hm.1; have := HH.out.2.2.2; show h.B ≤ b; omega⟩).less (by have := HI.out.2.2.2.2; have := HH.out.2.2.1; omega)
    have hb2 := hch.blk HI.out.2.2.1 fun hm => absurd hm.2 (by decide)
    have hcw : Chg (MC h) w W2 := HI.out.2.2.2.1.trans_le hch fun b t hb hm => by have := hm.1; omega
    have HD := Lib.hid (And.intro hb2 hcw)
    clear hb2 hcw x0 hch
    refine ⟨trivial, fun h => (by cases h), CallsIn.inRound _ (callsIn_wide.2 ((want_any (h.zones w.heap.size (w.heap.size + 4)) _ W2 s' y hC2).mono fun e W3 hh => ?_))⟩
    have hst : wantsR (l.reverse.take (j + 1)) s = wantN y s' := by rw [wants_step HI.out.2.2.2.2 HI.out.1, HY.out]
    rw [← hst] at hh
    rcases hq : wantsR (l.reverse.take (j + 1)) s with _ | s3
    · obtain ⟨rfl, hc⟩ := hh.none_ hq
      have HQ := Lib.hid (And.intro hq hc)
      clear hh hq hc hst hC2
      gi_wp2_with fail
      exact ⟨rfl, HQ.out.2, rfl, wants_none HQ.out.1, HD.out.2.trans (HQ.out.2.mono fun _ _ _ => mc_zones)⟩
    · obtain ⟨rfl, hk, hc⟩ := hh.some_ hq
      have HQ := Lib.hid (And.intro hq (And.intro hk hc))
      clear hh hq hk hc hst hC2
      gi_wp2_with fail
      exact ⟨HQ.out.2.2, s3, HQ.out.1, HQ.out.2.1, HQ.out.2.2.blk HD.out.1 (not_mc_zones (by omega) (by omega)), HD.out.2.trans (HQ.out.2.2.mono fun _ _ _ => mc_zones)⟩
  · rintro W ⟨s', e1, e2, e3, e4⟩ hE
    have hcp := chgAt_put (.deferred none) hE rfl
    refine ⟨by simp, .inl ⟨_, _, rfl, run_takeDeferred hE, ?_⟩⟩
    refine ⟨.tuple #[], by simp [results, Try.results70, go_sem], ?_⟩
    have hf := e2.far hcp fun b t hm => ⟨.inr ⟨by have := hm.1; omega, by have := hm.1; omega⟩, by have := hm.1; have := HH.out.2.2.2; show h.B ≤ b; omega⟩
    refine OutU.good (e4.trans_le hcp fun b t hb hm => by have := hm.1; omega) ?_ (hf.unzones.less (by have := HH.out.2.2.1; omega))
    rw [List.take_of_length_le (by simp)] at e1
    exact e1
  · rintro ch W ⟨rfl, e1, e2⟩ hE
    have hcp := chgAt_put (.deferred none) hE rfl
    refine ⟨by simp, .inl ⟨_, _, rfl, run_takeDeferred hE, ?_⟩⟩
    exact OutU.bad (e2.trans_le hcp fun b t hb hm => by have := hm.1; omega) e1
end Go.Proofs.Ytdegfnejhamejaa
