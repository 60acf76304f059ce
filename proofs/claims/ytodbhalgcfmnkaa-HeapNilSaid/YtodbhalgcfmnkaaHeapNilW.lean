/-
  The walk of HeapNil: a nil heap is refused.
-/
import Derived.Test.YtodbhalgcfmnkaaHpAns
namespace Go.Proofs.Ytodbhalgcfmnkaa
open Go.RowKit
set_option linter.unusedVariables false
set_option linter.unusedSimpArgs false

set_option maxRecDepth 100000 in
set_option maxHeartbeats 2000000 in
theorem heapNil_walk (w : World) : Calls Try.prog 3 #[] w fun e w' => e = .returned (.bool true) ∧ Chg (fun _ _ => False) w w' := by
  go_enter Try.func3, Try.ntmps3
  go_wp2_with fail
  refine (halloc_nil w ).mono fun e w1 h => ?_
  obtain ⟨rfl, hc1⟩ := h
  have H1 := Lib.hid hc1
  clear hc1
  go_wp2_with fail
  refine (hget_nil w1 1 0).mono fun e w2 h => ?_
  obtain ⟨rfl, hc2⟩ := h
  have H2 := Lib.hid (H1.out.trans hc2)
  clear hc2
  go_wp2_with fail
  refine (hlen_nil w2 1).mono fun e w3 h => ?_
  obtain ⟨rfl, hc3⟩ := h
  have H3 := Lib.hid (H2.out.trans hc3)
  clear hc3
  go_wp2_with fail
  refine (hcollect_nil w3 ).mono fun e w4 h => ?_
  obtain ⟨rfl, hc4⟩ := h
  have H4 := Lib.hid (H3.out.trans hc4)
  clear hc4
  go_wp2_with fail
  refine (hreach_nil w4 ).mono fun e w5 h => ?_
  obtain ⟨rfl, hc5⟩ := h
  have H5 := Lib.hid (H4.out.trans hc5)
  clear hc5
  go_wp2_with fail
  refine (names_nil w5 ).mono fun e w6 h => ?_
  obtain ⟨rfl, hc6⟩ := h
  have H6 := Lib.hid (H5.out.trans hc6)
  clear hc6
  go_wp2_with fail
  refine (answers12_any w6 ).mono fun e w7 h => ?_
  obtain ⟨rfl, hc7⟩ := h
  have H7 := Lib.hid (H6.out.trans hc7)
  clear hc7
  go_wp2_with fail
  refine (hset_nil w7 1 0 0).mono fun e w8 h => ?_
  obtain ⟨rfl, hc8⟩ := h
  have H8 := Lib.hid (H7.out.trans hc8)
  clear hc8
  go_wp2_with fail
  refine (hused_nil w8 ).mono fun e w9 h => ?_
  obtain ⟨rfl, hc9⟩ := h
  have H9 := Lib.hid (H8.out.trans hc9)
  clear hc9
  go_wp2_with fail
  refine (hcopy_nil w9 ).mono fun e w10 h => ?_
  obtain ⟨rfl, hc10⟩ := h
  have H10 := Lib.hid (H9.out.trans hc10)
  clear hc10
  go_wp2_with fail
  go_ret
  exact ⟨rfl, H10.out⟩
end Go.Proofs.Ytodbhalgcfmnkaa
