/-
  The walk of the statement VerifyTurns: a module that was written and read again is verified as it was.
-/
import Derived.Test.YtdegfnejhamejaaTurnWZt
import Derived.Test.YtdegfnejhamejaaVAnsZt
namespace Go.Proofs.Ytdegfnejhamejaa
open Go.RowKit
set_option linter.unusedVariables false
set_option linter.unusedSimpArgs false

def AllB (e : Option (List Nat)) : Prop := ∀ l, e = some l → ∀ c ∈ l, c < 256
theorem encN_byte (x : Nat) : ∀ c ∈ encN x, c < 256 := by
  induction x using Nat.strongRecOn with
  | ind x ih =>
    by_cases hx : 128 ≤ x
    · rw [encN_ge hx]
      intro c hc
      rcases List.mem_cons.1 hc with rfl | hc
      · omega
      · exact ih (x / 128) (by omega) c hc
    · rw [encN_lt (by omega)]
      intro c hc
      simp at hc
      omega
theorem AllB.seq {a b : Option (List Nat)} (h : AllB a) (h' : AllB b) : AllB (seqO a b) := by
  intro l hl c hc
  obtain ⟨x, y, h1, h2, rfl⟩ := seqO_some hl
  rcases List.mem_append.1 hc with hc | hc
  · exact h x h1 c hc
  · exact h' y h2 c hc
theorem allB_N (x : Nat) : AllB (some (encN x)) := by
  intro l hl
  injection hl with hl
  subst hl
  exact encN_byte x
theorem allB_I (a n : Int) : AllB (encI a n) := by
  intro l hl
  unfold encI at hl
  split at hl
  · exact allB_N _ l hl
  · cases hl
theorem allB_F (b : Bool) : AllB (encFlag b) := by
  intro l hl c hc
  unfold encFlag at hl
  injection hl with hl
  subst hl
  split at hc <;> simp at hc <;> omega
theorem AllB.all {α : Type} {f : α → Option (List Nat)} (h : ∀ x, AllB (f x)) : ∀ l, AllB (allO f l)
  | [] => by intro l hl c hc; injection hl with hl; subst hl; cases hc
  | x :: l => AllB.seq (h x) (AllB.all h l)
theorem AllB.list {α : Type} {f : α → Option (List Nat)} (h : ∀ x, AllB (f x)) (l : List α) : AllB (encL f l) := AllB.seq (allB_I _ _) (AllB.all h l)
theorem allB_mod (m : ModD) : AllB (encMod m) :=
  AllB.seq (AllB.list (fun s => AllB.seq (allB_I _ _) (AllB.seq (AllB.list (fun _ => allB_I _ _) _) (allB_I _ _))) _)
    (AllB.list (fun f => AllB.seq (allB_I _ _) (AllB.seq (AllB.list (fun _ => allB_I _ _) _) (AllB.seq (AllB.list (fun _ => allB_I _ _) _) (AllB.seq (allB_I _ _)
      (AllB.list (fun x => AllB.seq (allB_I _ _) (AllB.seq (allB_I _ _) (AllB.seq (allB_I _ _) (AllB.seq (allB_N _)
        (AllB.list (fun c => AllB.seq (allB_F _) (AllB.seq (allB_I _ _) (AllB.seq (allB_I _ _) (allB_I _ _)))) _))))) _))))) _)
theorem encAns_split (m : ModD) : (∃ l, encMod m = some l ∧ l.length ≤ 1048576 ∧ encAns m = (0, l)) ∨ (∃ k : Nat, k ≠ 0 ∧ encAns m = ((k : Int), [])) := by
  unfold encAns
  cases h : encMod m with
  | none => exact .inr ⟨1, by decide, rfl⟩
  | some l =>
    by_cases hl : 1048576 < l.length
    · refine .inr ⟨6, by decide, ?_⟩
      simp only [hl, if_true]
      rfl
    · refine .inl ⟨l, rfl, by omega, ?_⟩
      simp only [hl, if_false]

end Go.Proofs.Ytdegfnejhamejaa
namespace Go.Proofs.Ytdegfnejhamejaa
open Go.RowKit
set_option linter.unusedVariables false
set_option linter.unusedSimpArgs false

set_option maxRecDepth 100000 in
set_option maxHeartbeats 8000000 in
theorem verifyTurns_walk (w : World) (B : Nat) (hBw : B ≤ w.heap.size) (v : Value) (m : ModD) (hm : ModR B w v m) (hcost : cMod m ≤ 1099511627776) :
    Calls Try.prog 6 #[v] w fun e w' => e = .returned (.bool true) ∧ Below w.heap.size w w' := by
  have hok := hm.okMod
  have hs := small_of_cost hcost
  obtain ⟨Am, cm, Am', cm', rfl, hT, hF⟩ := hm
  have hm0 : ModR B w (.agg #[.slice Am m.types.length cm, .slice Am' m.funcs.length cm']) m := ⟨Am, cm, Am', cm', rfl, hT, hF⟩
  clear hT hF
  have hb0 := Blk.new w 25 #[.slice Am m.types.length cm, .slice Am' m.funcs.length cm']
  have hc0 := chg_alloc w (.cells #[.slice Am m.types.length cm, .slice Am' m.funcs.length cm'] 25)
  have hm1 := hm0.keep hc0 (fun _ _ _ => id)
  obtain ⟨d0, d1⟩ := hb0.cells2
  have HV := Lib.hid (And.intro hBw (And.intro hok (And.intro hm0 (And.intro hcost hs))))
  clear hok hm0 hs
  go_enter Try.func6, Try.ntmps6
  go_wp2_with fail
  refine (own_any _ B _ m (by simp; omega) hm1 hcost).mono fun e w1 h => ?_
  have hb1 : Below _ _ _ := h.choose_spec.choose_spec.choose_spec.choose_spec.2.1
  obtain ⟨v1, rfl, hv1⟩ := h.modR
  have hc1 : Chg (fun _ _ => False) w w1 := hc0.trans (Chg.of_below hb1 _)
  have hbk1 := (Chg.of_below hb1 (fun _ _ => False)).blk hb0 id
  clear hb0 hc0 hm1 hb1 d0 d1
  go_wp2_with fail
  refine (encode_any _ w1.heap.size _ m (Nat.le_refl _) hv1 hcost).mono fun e w2 h => ?_
  obtain ⟨A2, n2, c2, rfl, hb2, how2, hl2⟩ := h
  have hc2 := hc1.trans (Chg.of_below hb2 _)
  have hbk2 := (Chg.of_below hb2 (fun _ _ => False)).blk hbk1 id
  clear hv1 hc1 hbk1 hb2 hcost hBw
  go_wp2_with fail
  refine (vans_any _).mono fun e w3 h => ?_
  obtain ⟨rfl, hca3⟩ := h
  have hc3 := hc2.trans hca3
  have hbk3 := hca3.blk hbk2 id
  have how3 := hca3.own how2 fun _ _ => id
  clear hca3 hbk2 hc2 how2
  rcases encAns_split m with ⟨l, hl, hll, hans⟩ | ⟨kk, hkk, hans⟩
  · rw [hans] at how3 hl2 ⊢
    simp only at how3 hl2 ⊢
    have hlb := allB_mod m l hl
    have hav := byteV_own how3 hl2 hlb
    subst hl2
    have hdec := decode_any w3.heap.size l A2 c2 w3 hav (Nat.le_refl _)
    have HL := Lib.hid (And.intro hl (And.intro hll (And.intro hc3 hbk3)))
    clear how3 hlb hl hav hc3 hbk3 hans
    go_wp2_with fail
    refine hdec.mono fun e w4 h => ?_
    obtain ⟨A4, c4, A5, c5, rfl, hc4, hm4⟩ := h.ans
    rw [decAns_ok HL.out.2.1 (read_whole HV.out.2.1 HL.out.1)] at hm4 ⊢
    simp only at hm4 ⊢
    clear h hdec
    have hca5 := chg_alloc w4 (.cells #[.slice A4 m.types.length c4, .slice A5 m.funcs.length c5] 25)
    have hm5 := (hm4.keep hca5 (fun _ _ _ => id)).more (B' := (w4.alloc (.cells #[.slice A4 m.types.length c4, .slice A5 m.funcs.length c5] 25)).heap.size) (by simp)
    obtain ⟨d0, d1⟩ := (Blk.new w4 25 #[.slice A4 m.types.length c4, .slice A5 m.funcs.length c5]).cells2
    have hchk := vcheck_any _ _ (.agg #[.slice A4 m.types.length c4, .slice A5 m.funcs.length c5]) m (Nat.le_refl _) hm5 HV.out.2.2.2.1 HV.out.2.2.2.2
    have hc5 := HL.out.2.2.1.trans (hc4.trans hca5)
    have hbk5 := (hc4.trans hca5).blk HL.out.2.2.2 id
    have H5 := Lib.hid (And.intro hc5 hbk5)
    clear hc4 hca5 hm4 hm5 hc5 hbk5
    go_wp2_with fail
    refine hchk.mono fun e w6 h => ?_
    obtain ⟨rfl, hc6⟩ := h
    have hbk6 := hc6.blk H5.out.2 id
    have hc7 := H5.out.1.trans hc6
    obtain ⟨e0, e1⟩ := hbk6.cells2
    have hm6 := HV.out.2.2.1.keep hc7 (fun _ _ _ => id)
    have hB6 := Nat.le_trans HV.out.1 hc7.size
    have hown := own_any w6 B _ m hB6 hm6 HV.out.2.2.2.1
    have H7 := Lib.hid hc7
    clear hchk hc6 hbk6 hc7 hm6 hB6 d0 d1
    go_wp2_with fail
    refine hown.mono fun e w8 h => ?_
    have hb8 : Below _ _ _ := h.choose_spec.choose_spec.choose_spec.choose_spec.2.1
    obtain ⟨v8, rfl, hv8⟩ := h.modR
    have hchk := vcheck_any w8 _ v8 m (Nat.le_refl _) hv8 HV.out.2.2.2.1 HV.out.2.2.2.2
    have H8 := Lib.hid (H7.out.trans (Chg.of_below hb8 _))
    clear hb8 hv8 h hown
    go_wp2_with fail
    refine hchk.mono fun e w9 h => ?_
    obtain ⟨rfl, hc9⟩ := h
    have H9 := Lib.hid ((H8.out.trans hc9).below (B := w.heap.size) (fun _ _ h => h.elim) (Nat.le_refl _))
    clear hc9 hchk
    obtain ⟨x1, x2, x3⟩ := chkN m
    have g1 : (x1 == x1) = true := beq_self_eq_true _
    have g2 : (x2 == x2) = true := beq_self_eq_true _
    have g3 : (x3 == x3) = true := beq_self_eq_true _
    go_wp2_with fail
    go_ret
    exact ⟨rfl, H9.out⟩
  · rw [hans]
    simp only
    have q1 : ((kk : Int) != 0) = true := by simpa using hkk
    have H3 := Lib.hid hc3
    clear how3 hl2 hans hbk3 hc3
    go_wp2_with fail
    refine (vans_any _).mono fun e w4 h => ?_
    obtain ⟨rfl, hc4⟩ := h
    have H4 := Lib.hid ((H3.out.trans hc4).below (B := w.heap.size) (fun _ _ h => h.elim) (Nat.le_refl _))
    clear hc4
    go_wp2_with fail
    go_ret
    exact ⟨rfl, H4.out⟩
end Go.Proofs.Ytdegfnejhamejaa
