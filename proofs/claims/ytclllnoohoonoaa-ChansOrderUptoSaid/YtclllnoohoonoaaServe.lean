/-
  chans: one who waited goes on (serve).
-/
import Derived.Test.YtclllnoohoonoaaDel
namespace Go.Proofs.Ytclllnoohoonoaa
open Go.RowKit
set_option linter.unusedVariables false
set_option linter.unusedSimpArgs false

theorem RowR.erase {α : Type} {base e size : Nat} {R : World → List Value → α → Prop} {w w' : World} {l : List α} {xss : List (List Value)} {A : Option Addr} {c i : Nat} (h2 : xss.length = l.length) (h3 : ∀ cs ∈ xss, cs.length = size) (h4 : ∀ (k : Nat) x cs, l[k]? = some x → xss[k]? = some cs → R w cs x)
    (hR : ∀ cs x, R w cs x → R w' cs x) (hi : i < l.length) (how : w'.ownsRow base e size (.slice A (l.length - 1) c) (l.length - 1) (xss.eraseIdx i).flatten) : RowR base e size R w' A c (l.eraseIdx i) := by
  have hl : (l.eraseIdx i).length = l.length - 1 := List.length_eraseIdx_of_lt hi
  refine ⟨xss.eraseIdx i, by rw [hl]; exact how, by rw [hl, List.length_eraseIdx_of_lt (by omega), h2], fun cs hcs => h3 cs (List.mem_of_mem_eraseIdx hcs), fun k x cs hx hcs => ?_⟩
  rw [List.getElem?_eraseIdx] at hx hcs
  split at hx
  · rename_i hk
    rw [if_pos hk] at hcs
    exact hR _ _ (h4 k x cs hx hcs)
  · rename_i hk
    rw [if_neg hk] at hcs
    exact hR _ _ (h4 (k + 1) x cs hx hcs)
section
variable {G G' : Nat → Prop} {w w1 : World} {A A' A2 : Option Addr} {c c' c2 p : Nat} {H : HubD}
theorem hub_ne : (75 : Nat) ≠ 80 ∧ (75 : Nat) ≠ 78 ∧ (75 : Nat) ≠ 41 ∧ (75 : Nat) ≠ 52 := by decide
/-- Another list of those who wait is laid into the hub. -/
theorem HubI.setWait {l' : List WaitD} (hI : HubI G w p A c A' c' H) (hc : Chg (fun b t => G b ∧ t = 80) w w1) (hrow : RowR 0 80 2 WaitV w1 A2 c2 l') (hown : ∀ b, (Value.slice A2 l'.length c2).ownBlock = some b → G b ∨ w.heap.size ≤ b) :
    HubP G w (w1.setCell ⟨p, 1, none⟩ (.slice A2 l'.length c2)) p { H with wait := l' } ∧ Blk w1 p 75 #[.slice A H.list.length c, .slice A' H.wait.length c'] := by
  have hb1 := hc.blk hI.blk fun h => absurd h.2 (by decide)
  have hs := chg_set (j := 1) hb1 (.slice A2 l'.length c2)
  have hlt : ∀ b, (Value.slice A2 l'.length c2).ownBlock = some b → b < w1.heap.size := fun b hb => (hrow.lt hb).1
  refine ⟨⟨fun b => G b ∨ (Value.slice A2 l'.length c2).ownBlock = some b, ⟨A, c, A2, c2, ?_, ?_, ?_, fun b hb => .inr hb, .inl hI.own, ?_⟩, fun b hb => hb.elim .inl (hown b), ?_⟩, hb1⟩
  · simpa using hb1.set_ 1 (.slice A2 l'.length c2)
  · have h1 := hI.chans
    have h2 : ChansI G w1 A c H.list := by
      obtain ⟨xss, a1, a2, a3, a4, a5, a6, a7⟩ := h1
      exact ⟨xss, hc.own a1 fun g hg h => absurd h.2 (by decide), a2, a3, fun k x cs a b => (a4 k x cs a b).keep hc fun g hg h => absurd h.2 (by decide), a5, a6, a7⟩
    obtain ⟨xss, a1, a2, a3, a4, a5, a6, a7⟩ := h2
    exact ⟨xss, hs.own a1 fun g hg h => absurd h.2 (by decide), a2, a3, fun k x cs a b => (a4 k x cs a b).keep hs fun g hg h => absurd h.2 (by decide), a5, fun i ci g a b => .inl (a6 i ci g a b), fun g a => .inl (a7 g a)⟩
  · exact hrow.keep1 hs (fun b hb h => absurd h.2 (by decide)) fun _ _ h => h.keep hs fun b h => absurd h.2 (by decide)
  · intro b hb
    have : b < w1.heap.size := hb.elim (fun h => Nat.lt_of_lt_of_le (hI.lt b h) hc.size) (hlt b)
    simpa [World.setCell] using this
  · refine (hc.mono fun b t _ h => ⟨h.1, .inr (.inr (.inl h.2))⟩).trans_le (hs.mono fun b t _ h => ?_) fun b t hb h => h
    exact ⟨by rw [h.1]; exact hI.own, .inl h.2⟩
/-- Another list of channels is laid into the hub. -/
theorem HubI.setList {l' : List ChanD} (hI : HubI G w p A c A' c' H) (hc : Chg (fun b t => G b ∧ t = 78) w w1) (hrow : ChansI G' w1 A2 c2 l') (hG : ∀ b, G' b → (G b ∨ w.heap.size ≤ b) ∧ b < w1.heap.size) :
    HubP G w (w1.setCell ⟨p, 0, none⟩ (.slice A2 l'.length c2)) p { H with list := l' } ∧ Blk w1 p 75 #[.slice A H.list.length c, .slice A' H.wait.length c'] := by
  have hb1 := hc.blk hI.blk fun h => absurd h.2 (by decide)
  have hs := chg_set (j := 0) hb1 (.slice A2 l'.length c2)
  refine ⟨⟨fun b => G b ∨ G' b, ⟨A2, c2, A', c', ?_, ?_, ?_, fun b hb => .inl (hI.wown b hb), .inl hI.own, ?_⟩, fun b hb => hb.elim .inl fun h => (hG b h).1, ?_⟩, hb1⟩
  · simpa using hb1.set_ 0 (.slice A2 l'.length c2)
  · obtain ⟨xss, a1, a2, a3, a4, a5, a6, a7⟩ := hrow
    exact ⟨xss, hs.own a1 fun g hg h => absurd h.2 (by decide), a2, a3, fun k x cs a b => (a4 k x cs a b).keep hs fun g hg h => absurd h.2 (by decide), a5, fun i ci g a b => .inr (a6 i ci g a b), fun g a => .inr (a7 g a)⟩
  · exact (hI.waits.keep1 hc (fun b hb h => absurd h.2 (by decide)) fun _ _ h => h.keep hc fun b h => absurd h.2 (by decide)).keep1 hs (fun b hb h => absurd h.2 (by decide)) fun _ _ h => h.keep hs fun b h => absurd h.2 (by decide)
  · intro b hb
    have : b < w1.heap.size := hb.elim (fun h => Nat.lt_of_lt_of_le (hI.lt b h) hc.size) fun h => (hG b h).2
    simpa [World.setCell] using this
  · refine (hc.mono fun b t _ h => ⟨h.1, .inr (.inl h.2)⟩).trans_le (hs.mono fun b t _ h => ?_) fun b t hb h => h
    exact ⟨by rw [h.1]; exact hI.own, .inl h.2⟩
end
theorem HubI.keepT {M : Nat → Nat → Prop} {G : Nat → Prop} {w w1 : World} {A A' : Option Addr} {c c' p : Nat} {H : HubD} (h : HubI G w p A c A' c' H) (hc : Chg M w w1) (hm : ∀ b t, (t = 75 ∨ t = 78 ∨ t = 80 ∨ t = 41 ∨ t = 52) → ¬ M b t) : HubI G w1 p A c A' c' H := by
  refine ⟨hc.blk h.blk (hm p _ (.inl rfl)), ?_, h.waits.keep1 hc (fun b hb => hm b _ (by simp)) fun _ _ h => h.keep hc fun b => hm b _ (by simp), h.wown, h.own, fun b hb => Nat.lt_of_lt_of_le (h.lt b hb) hc.size⟩
  obtain ⟨xss, a1, a2, a3, a4, a5, a6, a7⟩ := h.chans
  exact ⟨xss, hc.own a1 fun g hg => hm g _ (by simp), a2, a3, fun k x cs a b => (a4 k x cs a b).keep hc fun g hg => hm g _ (by simp), a5, a6, a7⟩
/-- Behind a call on a hub, new memory of other types is written. -/
theorem HubP.other {M : Nat → Nat → Prop} {G : Nat → Prop} {w w1 w' : World} {p : Nat} {H : HubD} (k : HubP G w w1 p H) (h : Chg M w1 w') (hm : ∀ b t, (t = 75 ∨ t = 78 ∨ t = 80 ∨ t = 41 ∨ t = 52) → ¬ M b t) (hn : ∀ b t, M b t → w.heap.size ≤ b) : HubP G w w' p H := by
  obtain ⟨G', ⟨A, c, A', c', h1⟩, h2, h3⟩ := k
  exact ⟨G', ⟨A, c, A', c', h1.keepT h hm⟩, h2, h3.trans_le h fun b t hb hM => absurd (hn b t hM) (by omega)⟩
def srvAgg (s : SrvD) : Value := .agg #[.int .i64 s.who, .int .i64 s.at_, .int .u64 s.val, .bool s.ok]
def ServeRes (s : SrvD) (G : Nat → Prop) (p : Nat) (H' : HubD) (w : World) (e : Ending) (w' : World) : Prop := e = .returned (srvAgg s) ∧ HubP G w w' p H'
theorem one_wait {w : World} {l : List WaitD} {xss : List (List Value)} (h2 : xss.length = l.length) (h4 : ∀ (k : Nat) x cs, l[k]? = some x → xss[k]? = some cs → WaitV w cs x) : ∀ u ∈ xss.flatten, u.oneCell' = true := by
  intro u hu
  obtain ⟨cs, hcs, hu⟩ := List.mem_flatten.1 hu
  obtain ⟨k, hk⟩ := List.getElem?_of_mem hcs
  have hkl : k < l.length := by have := (List.getElem?_eq_some_iff.1 hk).1; omega
  obtain ⟨A, c, rfl, _⟩ := h4 k _ cs (List.getElem?_eq_getElem hkl) hk
  simp at hu
  rcases hu with rfl | rfl <;> rfl
set_option maxRecDepth 100000 in
set_option maxHeartbeats 4000000 in
theorem serve_any (w : World) (G : Nat → Prop) (p : Nat) (H : HubD) (hH : HubR G w p H) (hs : SmallH H) (i at_ val : Nat) (ok : Bool) (hi : i < H.wait.length) :
    Calls Try.prog 34 #[.pointer (some ⟨p, 0, none⟩), .int .i64 i, .int .i64 at_, .int .u64 val, .bool ok] w (ServeRes (srvOf H i at_ val ok) G p (unwait H i) w) := by
  obtain ⟨A, c, A', c', hI0⟩ := hH
  have hca := chg_alloc w (.cells #[.int .i64 0, .int .i64 0, .int .u64 0, .bool false] 59)
  have hI := hI0.keep hca (fun _ _ _ => id) (fun _ => id)
  obtain ⟨d0, d1⟩ := hI.blk.cells2
  obtain ⟨xss, how, h2, h3, h4⟩ := hI.waits
  obtain ⟨g, cs, hA2, hnc, hcs, hgl, hgb, hcell, hfz⟩ := own_at how h2 h3 hi
  subst hA2
  obtain ⟨x, hix⟩ : ∃ x, H.wait[i]? = some x := ⟨_, List.getElem?_eq_getElem hi⟩
  obtain ⟨A2, c2, rfl, hwi, _⟩ := h4 i x cs hix hcs
  have z0 := hcell 0 _ rfl
  rw [Nat.add_zero] at z0
  have hwho : srvOf H i at_ val ok = ⟨x.who, (at_ : Int), val, ok⟩ := by simp [srvOf, List.getElem?_map, hix]
  have hn := hs.wait
  rw [hwho]
  have hpl : p < w.heap.size := hI0.lt p hI0.own
  have hpl1 : p < w.heap.size + 1 := by omega
  have hcb := hca.trans (chg_alloc _ (.cells #[.int .i64 x.who, .int .i64 at_, .int .u64 val, .bool ok] 59))
  have hbs := Blk.new (w.alloc (.cells #[.int .i64 0, .int .i64 0, .int .u64 0, .bool false] 59)) 59 #[.int .i64 x.who, .int .i64 at_, .int .u64 val, .bool ok]
  have hbr := (Blk.new w 59 #[.int .i64 0, .int .i64 0, .int .u64 0, .bool false]).alloc (.cells #[.int .i64 x.who, .int .i64 at_, .int .u64 val, .bool ok] 59)
  simp only [World.size_alloc] at hbs
  have how' := (chg_alloc _ (.cells #[.int .i64 x.who, .int .i64 at_, .int .u64 val, .bool ok] 59)).own how fun _ _ => id
  have hI2 := hI0.keep hcb (fun _ _ _ => id) (fun _ => id)
  have HI := Lib.hid (And.intro hI2 (And.intro hcb (And.intro how' (And.intro h2 (And.intro h3 (And.intro (fun k y cs a b => (h4 k y cs a b).keep (chg_alloc _ (.cells #[.int .i64 x.who, .int .i64 at_, .int .u64 val, .bool ok] 59)) fun _ => id : ∀ (k : Nat) y cs, H.wait[k]? = some y → xss[k]? = some cs → WaitV _ cs y) (And.intro hbs hbr)))))))
  have H4 := Lib.hid (And.intro (one_wait h2 h4) (And.intro hI0.wown hI0.lt))
  clear hI hca hI0 hwho hs hix how h2 h3 h4 hcs hgb hcell hfz how' hbs hbr hcb hI2
  go_enter Try.func34, Try.ntmps34
  go_wp2_with fail
  have hd := del_any _ g c' H.wait.length i (i + 1) xss HI.out.2.2.1 HI.out.2.2.2.1 HI.out.2.2.2.2.1 H4.out.1 hi rfl
  rw [show ((i + 1 : Nat) : Int) = (i : Int) + 1 by omega] at hd
  refine hd.mono fun e w3 hh => ?_
  clear hd
  obtain ⟨rfl, how3, hc3⟩ := hh
  obtain ⟨hI2, hcb, how2, h2, h3, h4, hbs, hbr⟩ := HI.out
  have hG : G g := H4.out.2.1 g rfl
  have hel : (H.wait.eraseIdx i).length = H.wait.length - 1 := List.length_eraseIdx_of_lt hi
  have hrow := RowR.erase (R := WaitV) (w' := w3) h2 h3 h4 (fun cs x h => WaitV.keep h hc3 fun b h => absurd h.2 (by decide)) hi how3
  have hset := hI2.setWait (l' := H.wait.eraseIdx i) (hc3.mono fun b t _ h => ⟨by rw [h.1]; exact hG, h.2⟩) hrow (fun b hb => by
    have : g = b := by simpa [Value.ownBlock] using hb
    subst this
    exact .inl hG)
  rw [hel] at hset
  obtain ⟨hP, hb3⟩ := hset
  obtain ⟨e0, e1⟩ := hb3.cells2
  have ez := hb3.frozen 1
  have hs3 := hc3.blk hbs fun h => absurd h.2 (by decide)
  have hr3 := hc3.blk hbr fun h => absurd h.2 (by decide)
  have hpn : w.heap.size ≠ p ∧ w.heap.size + 1 ≠ p := by omega
  have hs4 := (hs3.far (p := ⟨p, 1, none⟩) hpn.2 (.slice (some ⟨g, 0, none⟩) (H.wait.length - 1) c'))
  have hr4 := (hr3.far (p := ⟨p, 1, none⟩) hpn.1 (.slice (some ⟨g, 0, none⟩) (H.wait.length - 1) c'))
  have HP := Lib.hid (And.intro (HubP.trans_new hcb hP H4.out.2.2) (And.intro hs4 hr4))
  obtain ⟨s0, s1, s2, s3⟩ := hs4.cells4
  obtain ⟨r0, r1, r2, r3⟩ := hr4.cells4
  have rz := hr4.frozen
  clear hP hb3 hs3 hr3 hs4 hr4 hrow how3 hc3 hI2 hcb how2 h2 h3 h4 hbs hbr hel
  go_wp2_with fail
  refine bodyPost_ret (v := srvAgg ⟨x.who, (at_ : Int), val, ok⟩) (by simp [results, Try.results34, go_sem, srvAgg, r0, r1, r2, r3]) rfl ?_
  refine ⟨rfl, ?_⟩
  obtain ⟨hP, hs4, hr4⟩ := HP.out
  have hb : Chg (fun b t => b = w.heap.size ∧ t = 59) _ _ := (((chg_set (j := 0) hr4 (.int .i64 x.who)).trans (chg_set (j := 1) (hr4.set_ 0 _) (.int .i64 at_))).trans (chg_set (j := 2) ((hr4.set_ 0 _).set_ 1 _) (.int .u64 val))).trans (chg_set (j := 3) (((hr4.set_ 0 _).set_ 1 _).set_ 2 _) (.bool ok))
  exact hP.other hb (fun b t ht h => by rcases ht with h' | h' | h' | h' | h' <;> (rw [h'] at h; exact absurd h.2 (by decide))) fun b t h => by rw [h.1]; exact Nat.le_refl _
end Go.Proofs.Ytclllnoohoonoaa
