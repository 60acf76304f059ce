/-
  The walk of UnifyInfers.
-/
import Derived.Test.YtgemacdnncjmdaaDoorTInfer
import Derived.Test.YtgemacdnncjmdaaDoorUniU
namespace Go.Proofs.YtgemacdnncjmdaaDoor
open Go.RowKit
set_option linter.unusedVariables false
set_option linter.unusedSimpArgs false

/-- What Infer answers, somewhere in memory. -/
def InfV (n m : Nat) (params want have_ : List Ty) (w : World) (v : Value) : Prop :=
  ∃ (l : List Ty) (at_ : Nat) (c : Int) (D : Nat) (A : Option Addr) (cA : Nat), v = .tuple #[.slice A l.length cA, .int .i64 at_, .int .i64 c] ∧ D ≤ w.heap.size ∧ TysR m D w (.slice A l.length cA) l ∧ InfP n params want have_ l at_ c
theorem tinferU {n : Nat} {w : World} {v1 v2 v3 : Value} {params want have_ : List Ty} (hTab : Tabs w) (h1 : TysU n w v1 params) (h2 : TysU n w v2 want) (h3 : TysU n w v3 have_) (hpl : params.length ≤ 1048576) (hwl : want.length ≤ 1048576) (hhl : have_.length ≤ 1048576) :
    Calls Tryd.prog 24 #[v1, v2, v3] w fun e w' => ∃ v, e = .returned v ∧ InfV n (n + 1) params want have_ w' v ∧ Chg (fun _ _ => False) w w' := by
  obtain ⟨D1, A1, c1, hD1, rfl, h1⟩ := h1
  obtain ⟨D2, A2, c2, hD2, rfl, h2⟩ := h2
  obtain ⟨D3, A3, c3, hD3, rfl, h3⟩ := h3
  refine (tinfer_any n w.heap.size w params want have_ A1 c1 A2 c2 A3 c3 (Nat.le_refl _) hTab (TysR.more hD1 h1) hpl (TysR.more hD2 h2) hwl (TysR.more hD3 h3) hhl).mono fun e w' h => ?_
  obtain ⟨hc, l, a, c, A, cA, rfl, hT, hI⟩ := h
  exact ⟨_, rfl, ⟨l, a, c, _, A, cA, rfl, Nat.le_refl _, hT, hI⟩, hc⟩
set_option maxRecDepth 100000 in
set_option maxHeartbeats 4000000 in
theorem unifyInfers_walk (n B : Nat) (w : World) (params want have_ : List Ty) (Ap : Option Addr) (cp : Nat) (Aw : Option Addr) (cw : Nat) (Ah : Option Addr) (ch : Nat) (hB : B ≤ w.heap.size) (hTab : Tabs w)
    (hP : TysR n B w (.slice Ap params.length cp) params) (hpl : params.length ≤ 1048576) (hW : TysR n B w (.slice Aw want.length cw) want) (hwl : want.length ≤ 1048576) (hH : TysR n B w (.slice Ah have_.length ch) have_) (hhl : have_.length ≤ 1048576) :
    Calls Tryd.prog 7 #[.slice Ap params.length cp, .slice Aw want.length cw, .slice Ah have_.length ch] w fun e w' => e = .returned (.bool true) ∧ Chg (fun _ _ => False) w w' := by
  have how := owns8U (TysU.of hB hP) hpl
  have HP := Lib.hid (And.intro hB (And.intro hTab (And.intro hP (And.intro hW hH))))
  clear hB hTab hP hW hH
  go_enter Tryd.func7, Tryd.ntmps7
  go_wp2_with fail
  refine how.mono fun e w1 h => ?_
  obtain ⟨v1, rfl, hv1, hc1⟩ := h
  clear how
  have how := owns8U (TysU.of (Nat.le_trans HP.out.1 hc1.size) (TysR.keep0 hc1 HP.out.2.2.2.1)) hwl
  have H1 := Lib.hid (And.intro hv1 hc1)
  clear hv1 hc1
  go_wp2_with fail
  refine how.mono fun e w2 h => ?_
  obtain ⟨v2, rfl, hv2, hc2⟩ := h
  clear how
  have hcw := H1.out.2.trans hc2
  have how := owns8U (TysU.of (Nat.le_trans HP.out.1 hcw.size) (TysR.keep0 hcw HP.out.2.2.2.2)) hhl
  have H2 := Lib.hid (And.intro (H1.out.1.keep hc2) (And.intro hv2 hcw))
  clear hv2 hc2 hcw H1
  go_wp2_with fail
  refine how.mono fun e w3 h => ?_
  obtain ⟨v3, rfl, hv3, hc3⟩ := h
  clear how
  have hcw := H2.out.2.2.trans hc3
  have hun := tinferU (n := n) (params := params) (want := want) (have_ := have_) (HP.out.2.1.keep0 hcw) (H2.out.1.keep hc3) (H2.out.2.1.keep hc3) hv3 hpl hwl hhl
  have H3 := Lib.hid hcw
  clear hv3 hc3 hcw H2
  go_wp2_with fail
  refine hun.mono fun e w4 h => ?_
  obtain ⟨v, rfl, ⟨l, a, c, D, A, cA, rfl, hD, hT, hI⟩, hc4⟩ := h
  clear hun
  have hcw := H3.out.trans hc4
  have hri := rinfer_any n B w4 params want have_ Ap cp Aw cw Ah ch (Nat.le_trans HP.out.1 hcw.size) (TysR.keep0 hcw HP.out.2.2.1) hpl (TysR.keep0 hcw HP.out.2.2.2.1) hwl (TysR.keep0 hcw HP.out.2.2.2.2) hhl
  have H4 := Lib.hid (And.intro (TysR.more hD hT) (And.intro hI hcw))
  clear hT hI hcw hc4 hD
  go_wp2_with fail
  refine hri.mono fun e w5 h => ?_
  obtain ⟨hc5, l2, a2, c2, A2, cA2, rfl, hT2, hI2⟩ := h
  obtain ⟨rfl, rfl, rfl⟩ := H4.out.2.1.one hI2
  clear hri
  have hcw := H4.out.2.2.trans hc5
  have hans := answers8_any w5 (HP.out.2.1.keep0 hcw)
  have hll : l.length ≤ 1048576 := infP_len H4.out.2.1 hpl
  have H5 := Lib.hid (And.intro (TysR.keep0 hc5 H4.out.1) (And.intro hT2 hcw))
  have HLE := Lib.hid hc5.size
  have q1 : (c == c) = true := by simp
  have q2 : ((a : Int) == (a : Int)) = true := by simp
  have q2' : (a == a) = true := by simp
  clear hT2 hI2 hcw hc5 H4
  go_wp2_with fail
  refine hans.mono fun e w6 h => ?_
  obtain ⟨rfl, hc6⟩ := h
  clear hans
  have hcw := H5.out.2.2.trans hc6
  have hsm := rsameAll_any (n + 1) w6.heap.size w6 l l A cA A2 cA2 (Nat.le_refl _) (TysR.more (Nat.le_trans HLE.out hc6.size) (TysR.keep0 hc6 H5.out.1)) (TysR.more hc6.size (TysR.keep0 hc6 H5.out.2.1)) (by omega) (by omega)
  rw [eqB_self] at hsm
  have H6 := Lib.hid hcw
  clear hcw hc6
  go_wp2_with fail
  refine hsm.mono fun e w7 h => ?_
  obtain ⟨rfl, hc7⟩ := h
  clear hsm
  go_wp2_with fail
  go_ret
  exact ⟨rfl, H6.out.trans hc7⟩
end Go.Proofs.YtgemacdnncjmdaaDoor
