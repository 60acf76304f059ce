/-
  chans: a sending that can go on (send).
-/
import Derived.Test.YtclllnoohoonoaaSend
import Derived.Deep.RegionLaw
namespace Go.Proofs.Ytclllnoohoonoaa
open Go.RowKit
set_option linter.unusedVariables false
set_option linter.unusedSimpArgs false

def SrvV (_ : World) (cs : List Value) (s : SrvD) : Prop := cs = [.int .i64 s.who, .int .i64 s.at_, .int .u64 s.val, .bool s.ok]
def SrvsT (w : World) (v : Value) (l : List SrvD) : Prop := SlR 0 59 4 SrvV w v l
theorem SrvsT.nil (w : World) (c : Nat) : SrvsT w (.slice none 0 c) [] := SlR.nil _ _ _ _ _ _ _
theorem SrvsT.keep {M : Nat → Nat → Prop} {w w' : World} {v : Value} {l : List SrvD} (h : SrvsT w v l) (hc : Chg M w w') (hm : ∀ b, ¬ M b 59) : SrvsT w' v l := SlR.keep h hc ⟨fun b _ hb => absurd hb (Nat.not_lt_zero _), fun _ => hm⟩ fun _ _ h => h
theorem SrvsT.one {w : World} {b : Nat} {s : SrvD} (h : Blk w b 59 #[.int .i64 s.who, .int .i64 s.at_, .int .u64 s.val, .bool s.ok]) : SrvsT w (.slice (some ⟨b, 0, none⟩) 1 1) [s] := by
  refine ⟨_, _, rfl, Nat.le_refl _, fun _ => ⟨b, 0, rfl, .inr ⟨by decide, _, _, h⟩, h.lt, fun k x hx => ?_⟩⟩
  match k, hx with
  | 0, hx =>
    simp at hx
    subst hx
    refine ⟨_, rfl, rfl, fun j u hu => ?_⟩
    rw [h.cell]
    simpa using hu
  | k + 1, hx => simp at hx
def SendRes (l : List SrvD) (G : Nat → Prop) (p : Nat) (H' : HubD) (w : World) (e : Ending) (w' : World) : Prop := ∃ v, e = .returned v ∧ SrvsT w' v l ∧ HubP G w w' p H'
theorem findW_lt {c : Int} {s : Bool} {l : List WaitD} {i k : Nat} (h : findW c s l = some (i, k)) : i < l.length := by
  obtain ⟨x, hx, _⟩ := findW_some h
  exact (List.getElem?_eq_some_iff.1 hx).1
theorem cell_new1 (W : World) (t : TypeId) (u : Value) : (W.alloc (.cells #[u] t)).cell? ⟨W.heap.size, 0, none⟩ = some u := by simp
theorem u64V_snoc (l : List Nat) (x : Nat) : u64V (l ++ [x]) = u64V l ++ [.int .u64 (x : Int)] := by simp [u64V]
theorem push_end {G : Nat → Prop} {W0 W w3 : World} {A' : Option Addr} {c c' p g k : Nat} {H : HubD} {ch : ChanD} {v v' : Value} {val : Nat} (hI : HubI G W0 p (some ⟨g, 0, none⟩) c A' c' H) (hk : H.list[k]? = some ch) (hsi : I64 ch.size) (hv : W0.cell? ⟨g, k * 3 + 1, none⟩ = some v) (hq : QR W0 41 v (u64V ch.buf)) (hu : ∀ y ∈ ch.buf, U64 y) (hx : U64 val)
    (hc : Chg (fun _ _ => False) W0 W) (hg : W.grownBy w3 v.ownBlock) (hq3 : QR w3 41 v' (u64V ch.buf ++ [.int .u64 (val : Int)])) (hb3 : v'.ownBlock = v.ownBlock ∨ v'.ownBlock = some W.heap.size) :
    HubP G W0 (w3.setCell ⟨g, k * 3 + 1, none⟩ v') p (setCh H k { ch with buf := ch.buf ++ [val] }) ∧ w3.cell? ⟨g, k * 3 + 1, none⟩ = some v ∧ w3.frozen? ⟨g, k * 3 + 1, none⟩ = false := by
  have hqW := hq.keep hc fun _ _ => id
  have hcc := (hc.mono fun _ _ _ h => h.elim).trans (QR.chg_grown hqW hg)
  obtain ⟨h1, h2, h3⟩ := hI.setCore (x' := { ch with buf := ch.buf ++ [val] }) (j := 1) (u := v') (v' := v') hk hv hcc (by decide) rfl hsi (by rw [u64V_snoc]; exact hq3) (fun y hy => by
    rcases List.mem_append.1 hy with hy | hy
    · exact hu y hy
    · simp at hy; subst hy; exact hx) (fun b hb => by
    rcases hb3 with h | h
    · exact .inl (by rw [← h]; exact hb)
    · rw [hb] at h; injection h with h; exact .inr (by rw [h]; exact hc.size))
  exact ⟨h1, (h2 _).trans hv, h3 _⟩
set_option maxRecDepth 100000 in
set_option maxHeartbeats 4000000 in
theorem send_any (w : World) (G : Nat → Prop) (p : Nat) (H : HubD) (hH : HubR G w p H) (hs : SmallH H) (hok : okH H) (x : CaseC) (hx0 : 1 ≤ x.chan) (hx1 : x.chan ≤ (H.list.length : Int)) (hxv : U64 x.val) :
    Calls Try.prog 31 #[.pointer (some ⟨p, 0, none⟩), caseAgg x] w (SendRes (sendC H x).2 G p (sendC H x).1 w) := by
  obtain ⟨i8, hi8, hz8, hs8, hb8⟩ := info_parts infoU64
  unfold caseAgg
  have hb0 := Blk.new w 52 #[.bool x.send, .int .i64 x.chan, .int .u64 x.val]
  have hc0 := chg_alloc w (.cells #[.bool x.send, .int .i64 x.chan, .int .u64 x.val] 52)
  have hlt := fun b hb => hH.lt (b := b) hb
  have hH1 := hH.keep hc0 (fun _ _ _ => id) (fun _ => id)
  have HH := Lib.hid (And.intro hH (And.intro hs (And.intro hok (And.intro hH1 (And.intro hlt hc0)))))
  clear hH hs hok hH1 hlt
  cases hf : findW x.chan false H.wait with
  | some ik =>
    obtain ⟨i, k⟩ := ik
    have hil := findW_lt hf
    have hsend : sendC H x = (unwait H i, [srvOf H i k x.val true]) := by simp [sendC, hf]
    obtain ⟨sv, hsv⟩ : ∃ sv, srvOf H i k x.val true = sv := ⟨_, rfl⟩
    rw [hsend, hsv]
    have HF := Lib.hid (And.intro hf hsv)
    clear hf hsend hsv
    go_enter Try.func31, Try.ntmps31
    go_wp2_with fail
    refine (find_any _ G p H HH.out.2.2.2.1 x.chan false HH.out.2.1).mono fun e w2 hh => ?_
    obtain ⟨rfl, hc2⟩ := hh
    rw [HF.out.1]
    have hb2 := hc2.blk hb0 id
    obtain ⟨b0, b1, b2⟩ := hb2.cells3
    have H2 := Lib.hid (And.intro hc2 hb2)
    clear hc2 hb2 hb0 hc0
    unfold findV
    go_wp2_with fail
    refine (serve_any _ G p H (HH.out.2.2.2.1.keep H2.out.1 (fun _ _ _ => id) (fun _ => id)) HH.out.2.1 i k x.val true hil).mono fun e w3 hh => ?_
    obtain ⟨rfl, hP⟩ := hh
    have HP := Lib.hid hP
    clear hP
    rw [HF.out.2]
    unfold srvAgg
    go_wp2
    go_ret
    exact ⟨_, rfl, SrvsT.one (Blk.new _ _ _), (HubP.trans_new (HH.out.2.2.2.2.2.trans H2.out.1) HP.out HH.out.2.2.2.2.1).then_new (chg_alloc _ _)⟩
  | none =>
    obtain ⟨send, chan, val⟩ := x
    obtain ⟨k, hk⟩ : ∃ k : Nat, chan = (k : Int) + 1 := ⟨(chan - 1).toNat, by simp only at hx0; omega⟩
    simp only at hx0 hx1 hxv hf hb0 hc0 HH ⊢
    subst hk
    have hkl : k < H.list.length := by omega
    obtain ⟨A, cc, A', c', hI⟩ := HH.out.2.2.2.1
    obtain ⟨g, ch, v, rfl, hlc, hkx, hGg, hgb, hsi, hq, hu, hvG, z0, z1, z2, hfz⟩ := hI.chans.at_ hkl
    obtain ⟨o0, o1, o2⟩ := HH.out.2.2.1 k ch hkx
    have hsend : sendC H ⟨send, (k : Int) + 1, val⟩ = (setCh H k { ch with buf := ch.buf ++ [val] }, []) := by
      simp only [sendC, hf]
      rw [show ((k : Int) + 1 - 1).toNat = k by omega, hkx]
    rw [hsend]
    obtain ⟨nA, cq, hv, hnn⟩ := hq.form
    rw [u64V_len] at hv hnn
    subst hv
    have hkb : (k : Int) ≤ 1099511627776 := by have := HH.out.2.1.list; omega
    have hk0 : (0 : Int) ≤ (k : Int) := by omega
    have hk1 : (k : Int) < (H.list.length : Int) := by omega
    have hw1 : IntKind.i64.wrap ((k : Int) + 1 - 1) = (k : Int) := by rw [show ((k : Int) + 1 - 1) = (k : Int) by omega]; exact IntWalk.i64_in _ (by omega)
    have hbl : ch.buf.length ≤ 1024 := by omega
    have HF := Lib.hid (And.intro hf (And.intro hI (And.intro hkx (And.intro hsi (And.intro hq (And.intro hu hxv))))))
    obtain ⟨d0, d1⟩ := hI.blk.cells2
    have z1k := z1
    have hgb' := hgb
    have hgl : g < w.heap.size + 1 := by have := hgb.choose_spec.lt; simpa using this
    have hpl : p < w.heap.size + 1 := by have := hI.blk.lt; simpa using this
    clear hf hsend hI hkx hsi hq hu hxv hfz hgb hvG hGg hnn hx0 hx1 o0 o1 o2
    go_enter Try.func31, Try.ntmps31
    go_wp2_with fail
    refine (find_any _ G p H HH.out.2.2.2.1 ((k : Int) + 1) false HH.out.2.1).mono fun e w2 hh => ?_
    obtain ⟨rfl, hc2⟩ := hh
    rw [HF.out.1]
    unfold findV
    have hb2 := hc2.blk hb0 id
    obtain ⟨b0, b1, b2⟩ := hb2.cells3
    have y0 := hc2.cell z0 fun _ => id
    have y1 := hc2.cell z1 fun _ => id
    have e0 := hc2.cell d0 fun _ => id
    have H2 := Lib.hid hc2
    have hsz2 := hc2.size
    simp only [World.size_alloc] at hsz2
    have hg2 : g < w2.heap.size := by omega
    have hp2 : p < w2.heap.size := by omega
    clear hc2 hb2 hb0 hc0 z0 z1 z2 d0 d1
    go_wp2_with fail
    go_quiet (fail)
    rename_i nq
    go_wp2_with fail
    have y1n : ∀ n, ((w2.drewN n).alloc (.cells #[.int .u64 val] 41)).cell? ⟨g, k * 3 + 1, none⟩ = some (.slice nA ch.buf.length cq) := fun n => (((Chg.refl (fun _ _ => False) w2).drewN n).alloc _).cell y1 fun _ => id
    have HZ := Lib.hid (And.intro z1k hgb')
    clear z1k hgb'
    go_region_law (
      refine step_append_q _ rfl (.tmp 37) (.tmp 40) 34 rfl 41 i8 (.int .u64 0) 8 Try.underlying34 hi8 hz8 hs8 hb8 rfl (.slice nA ch.buf.length cq) (u64V ch.buf) (by simp [Act.eval, Act.put]) (HF.out.2.2.2.2.1.keep (H2.out.trans (by repeat' (first | exact Chg.refl (fun _ _ => False) _ | apply Chg.drew | apply Chg.drewN | apply Chg.alloc))) fun _ _ => id) _ _ (.int .u64 val) (by rfl) (by first | rfl | exact cell_new1 _ _ _ | (simp only [World.cell?_drew]; exact cell_new1 _ _ _)) rfl (by rw [u64V_len]; unfold maxLen; omega) (by rw [u64V_len]; omega) ?_
      intro A2 c2 w3 hq3 hg3 hb3
      obtain ⟨hP, f0, f1⟩ := push_end HF.out.2.1 HF.out.2.2.1 HF.out.2.2.2.1 HZ.out.1 HF.out.2.2.2.2.1 HF.out.2.2.2.2.2.1 HF.out.2.2.2.2.2.2 (H2.out.trans (by repeat' (first | exact Chg.refl (fun _ _ => False) _ | apply Chg.drew | apply Chg.drewN | apply Chg.alloc))) hg3 hq3 hb3
      have HP := Lib.hid hP
      clear hq3 hg3 hb3 hP)
    all_goals
      go_wp2
      go_ret
      exact ⟨_, rfl, SrvsT.nil _ _, (HubP.trans_new HH.out.2.2.2.2.2 HP.out HH.out.2.2.2.2.1).then_new (by repeat' (first | exact Chg.refl (fun _ _ => False) _ | apply Chg.drew | apply Chg.drewN))⟩
end Go.Proofs.Ytclllnoohoonoaa
