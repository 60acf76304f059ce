/-
  chans: can a case go on (can)?
-/
import Derived.Test.YtclllnoohoonoaaFind
import Derived.Deep.QuietTactic
import Derived.BigQuiet
import Derived.IntWalk
namespace Go.Proofs.Ytclllnoohoonoaa
open Go.RowKit
set_option linter.unusedVariables false
set_option linter.unusedSimpArgs false

def BoolRes (b : Bool) (w : World) (e : Ending) (w' : World) : Prop := e = .returned (.bool b) ∧ Chg (fun _ _ => False) w w'
theorem BoolRes.of {a b : Bool} {w w' : World} (hb : a = b) (h : Chg (fun _ _ => False) w w') : BoolRes b w (.returned (.bool a)) w' := by subst hb; exact ⟨rfl, h⟩
theorem ChansI.at_ {G : Nat → Prop} {w : World} {A : Option Addr} {c k : Nat} {l : List ChanD} (h : ChansI G w A c l) (hk : k < l.length) : ∃ g x v, A = some ⟨g, 0, none⟩ ∧ l.length ≤ c ∧ l[k]? = some x ∧ G g ∧ (∃ cur, Blk w g 78 cur) ∧ I64 x.size ∧ QR w 41 v (u64V x.buf) ∧ (∀ y ∈ x.buf, U64 y) ∧ (∀ b, v.ownBlock = some b → G b) ∧
    w.cell? ⟨g, k * 3, none⟩ = some (.int .i64 x.size) ∧ w.cell? ⟨g, k * 3 + 1, none⟩ = some v ∧ w.cell? ⟨g, k * 3 + 2, none⟩ = some (.bool x.shut) ∧ (∀ i, w.frozen? ⟨g, i, none⟩ = false) := by
  obtain ⟨xss, h1, h2, h3, h4, h5, h6, h7⟩ := h
  obtain ⟨g, cs, rfl, hc, hcs, hg, hb, hcell, hfz⟩ := own_at h1 h2 h3 hk
  obtain ⟨v, rfl, hi, hq, hu⟩ := h4 k _ cs (List.getElem?_eq_getElem hk) hcs
  exact ⟨g, l[k], v, rfl, hc, List.getElem?_eq_getElem hk, h7 g rfl, hb, hi, hq, hu, fun b hb => h6 k _ b hcs hb, by simpa using hcell 0 _ rfl, hcell 1 _ rfl, hcell 2 _ rfl, hfz⟩
theorem u64V_len (l : List Nat) : (u64V l).length = l.length := by simp [u64V]
theorem canC_zero {h : HubD} {x : CaseC} (hx : x.chan = 0) : canC h x = false := by simp [canC, hx]
theorem canC_at {h : HubD} {x : CaseC} {k : Nat} {ch : ChanD} (hx : x.chan = (k : Int) + 1) (hk : h.list[k]? = some ch) : canC h x = (roomC ch x.send || (findW x.chan (!x.send) h.wait).isSome || ch.shut) := by
  unfold canC
  rw [if_neg (by omega), show (x.chan - 1).toNat = k by omega, hk]
def findI (r : Option (Nat × Nat)) : Int := match r with
  | none => 0
  | some (i, _) => i
def findK (r : Option (Nat × Nat)) : Int := match r with
  | none => 0
  | some (_, k) => k
theorem findV_eq (r : Option (Nat × Nat)) : findV r = .tuple #[.int .i64 (findI r), .int .i64 (findK r), .bool r.isSome] := by
  rcases r with _ | ⟨i, k⟩ <;> rfl
set_option maxRecDepth 100000 in
set_option maxHeartbeats 2000000 in
theorem can_any (w : World) (G : Nat → Prop) (p : Nat) (H : HubD) (hH : HubR G w p H) (x : CaseC) (hx0 : 0 ≤ x.chan) (hx1 : x.chan ≤ (H.list.length : Int)) (hs : SmallH H) :
    Calls Try.prog 44 #[.pointer (some ⟨p, 0, none⟩), .agg #[.bool x.send, .int .i64 x.chan, .int .u64 x.val]] w (BoolRes (canC H x) w) := by
  have hb0 := Blk.new w 52 #[.bool x.send, .int .i64 x.chan, .int .u64 x.val]
  have hc0 := chg_alloc w (.cells #[.bool x.send, .int .i64 x.chan, .int .u64 x.val] 52)
  by_cases h0 : x.chan = 0
  · have H0 := Lib.hid h0
    have h0' : (x.chan == 0) = true := by simpa using h0
    clear h0 hx0 hx1
    go_enter Try.func44, Try.ntmps44
    go_wp2_with fail
    go_ret
    exact BoolRes.of (canC_zero H0.out).symm hc0
  · obtain ⟨k, hk⟩ : ∃ k : Nat, x.chan = (k : Int) + 1 := ⟨(x.chan - 1).toNat, by omega⟩
    have hkl : k < H.list.length := by omega
    have hH' := hH
    obtain ⟨A, cc, A', c', hI⟩ := hH'
    have hI1 := hI.keep hc0 (fun _ _ _ => id) (fun _ => id)
    obtain ⟨d0, d1⟩ := hI1.blk.cells2
    obtain ⟨g, ch, v, rfl, hlc, hkx, hGg, hgb, hsi, hq, hu, hvG, z0, z1, z2, hfz⟩ := hI1.chans.at_ hkl
    obtain ⟨send, chan, val⟩ := x
    simp only at *
    subst hk
    obtain ⟨n, cq, hv, hnn⟩ := hq.form
    rw [u64V_len] at hv
    subst hv
    have hcan := canC_at (x := ⟨send, (k : Int) + 1, val⟩) rfl hkx
    have HI := Lib.hid (And.intro hH (And.intro hcan (And.intro hc0 hs)))
    have hk0 : (0 : Int) ≤ (k : Int) := by omega
    have hk1 : (k : Int) < (H.list.length : Int) := by omega
    have hkb : (k : Int) ≤ 1099511627776 := by have := hs.list; omega
    have hw1 : IntKind.i64.wrap ((k : Int) + 1 - 1) = (k : Int) := by rw [show ((k : Int) + 1 - 1) = (k : Int) by omega]; exact IntWalk.i64_in _ (by omega)
    clear hs hI hI1 hkx hGg hgb hu hvG hq hfz hcan hnn hx0 hx1 h0
    go_enter Try.func44, Try.ntmps44
    go_wp2_with fail
    go_quiet (fail)
    rename_i nq
    go_wp2_with fail
    refine (find_any _ G p H (HI.out.1.keep (HI.out.2.2.1.drewN nq) (fun _ _ _ => id) (fun _ => id)) ((k : Int) + 1) (!send) HI.out.2.2.2).mono fun e w2 hh => ?_
    obtain ⟨rfl, hc2⟩ := hh
    rw [findV_eq]
    have hcd := ((Chg.refl (fun _ _ => False) (w.alloc (.cells #[.bool send, .int .i64 ((k : Int) + 1), .int .u64 val] 52))).drewN nq).trans hc2
    have y0 := hcd.cell z0 fun _ => id
    have y1 := hcd.cell z1 fun _ => id
    have y2 := hcd.cell z2 fun _ => id
    obtain ⟨b0, b1, b2⟩ := (hcd.blk hb0 id).cells3
    obtain ⟨e0, e1⟩ : w2.cell? ⟨p, 0, none⟩ = _ ∧ w2.cell? ⟨p, 1, none⟩ = _ := ⟨hcd.cell d0 fun _ => id, hcd.cell d1 fun _ => id⟩
    have HC := Lib.hid (HI.out.2.2.1.trans hcd)
    obtain ⟨fi, hfi⟩ : ∃ fi, findI (findW ((k : Int) + 1) (!send) H.wait) = fi := ⟨_, rfl⟩
    obtain ⟨fk, hfk⟩ : ∃ fk, findK (findW ((k : Int) + 1) (!send) H.wait) = fk := ⟨_, rfl⟩
    obtain ⟨fo, hfo⟩ : ∃ fo, (findW ((k : Int) + 1) (!send) H.wait).isSome = fo := ⟨_, rfl⟩
    rw [hfi, hfk, hfo]
    have HF := Lib.hid hfo
    clear hfi hfk hfo hc2 hcd z0 z1 z2 d0 d1 hb0 hc0 hH
    have HCan := HI.out.2.1
    cases send
    · cases hr : decide (0 < ch.buf.length)
      · have HR := Lib.hid (of_decide_eq_false hr)
        cases fo
        · go_wp2_with fail
          go_ret
          exact BoolRes.of (by rw [HCan]; simp only [roomC]; rw [show (!false) = true from rfl] at *; rw [HF.out]; rw [if_neg (by simp), decide_eq_false HR.out]; simp) HC.out
        · go_wp2_with fail
          go_ret
          exact BoolRes.of (by rw [HCan]; simp only [roomC]; rw [show (!false) = true from rfl] at *; rw [HF.out]; simp) HC.out
      · have HR := Lib.hid (of_decide_eq_true hr)
        go_wp2_with fail
        go_ret
        exact BoolRes.of (by rw [HCan]; simp only [roomC]; rw [if_neg (by simp), decide_eq_true HR.out]; simp) HC.out
    · cases hr : decide ((ch.buf.length : Int) < ch.size)
      · have HR := Lib.hid (of_decide_eq_false hr)
        cases fo
        · go_wp2_with fail
          go_quiet (fail)
          go_wp2
          go_ret
          exact BoolRes.of (by rw [HCan]; simp only [roomC]; rw [show (!true) = false from rfl] at *; rw [HF.out]; have := HR.out; rw [if_pos trivial, decide_eq_false (by omega)]; simp) (by first | exact HC.out.drewN _ | exact HC.out)
        · go_wp2_with fail
          go_quiet (fail)
          go_wp2
          go_ret
          exact BoolRes.of (by rw [HCan]; simp only [roomC]; rw [show (!true) = false from rfl] at *; rw [HF.out]; simp) (by first | exact HC.out.drewN _ | exact HC.out)
      · have HR := Lib.hid (of_decide_eq_true hr)
        go_wp2_with fail
        go_quiet (fail)
        go_wp2
        go_ret
        exact BoolRes.of (by rw [HCan]; simp only [roomC]; have := HR.out; rw [if_pos trivial, decide_eq_true this]; simp) (by first | exact HC.out.drewN _ | exact HC.out)
end Go.Proofs.Ytclllnoohoonoaa
