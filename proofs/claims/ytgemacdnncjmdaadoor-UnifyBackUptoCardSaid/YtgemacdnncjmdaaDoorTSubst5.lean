/-
  types.Subst: what it answers, in one contract.
-/
import Derived.Test.YtgemacdnncjmdaaDoorTSubst4
namespace Go.Proofs.YtgemacdnncjmdaaDoor
open Go.RowKit
set_option linter.unusedVariables false
set_option linter.unusedSimpArgs false

/-- The error of Subst. -/
noncomputable def subE (t : Ty) (names : List ByteArray) (args : List Ty) : Int :=
  if (soundT t && args.all soundT) = true then (@ite _ (names.length = args.length ∧ names.Nodup) (Classical.propDecidable _) (if soundT (t.fill (assoc names args)) = true then 0 else 6) 2) else 1
def zeroT : Ty := .mk 0 ⟨#[]⟩ 0 [] [] []
noncomputable def subT (t : Ty) (names : List ByteArray) (args : List Ty) : Ty := if subE t names args = 0 then t.fill (assoc names args) else zeroT
theorem subE_form {t : Ty} {names : List ByteArray} {args : List Ty} (h : (soundT t && args.all soundT) = false) : subE t names args = 1 := by
  unfold subE
  rw [h, if_neg (by decide)]
theorem subE_arg {t : Ty} {names : List ByteArray} {args : List Ty} (h : (soundT t && args.all soundT) = true) (h2 : ¬ (names.length = args.length ∧ names.Nodup)) : subE t names args = 2 := by
  unfold subE
  rw [if_pos h, if_neg h2]
theorem subE_large {t : Ty} {names : List ByteArray} {args : List Ty} (h : (soundT t && args.all soundT) = true) (h2 : names.length = args.length ∧ names.Nodup) (h3 : soundT (t.fill (assoc names args)) = false) : subE t names args = 6 := by
  unfold subE
  rw [if_pos h, if_pos h2, h3, if_neg (by decide)]
theorem subE_ok {t : Ty} {names : List ByteArray} {args : List Ty} (h : (soundT t && args.all soundT) = true) (h2 : names.length = args.length ∧ names.Nodup) (h3 : soundT (t.fill (assoc names args)) = true) : subE t names args = 0 := by
  unfold subE
  rw [if_pos h, if_pos h2, h3, if_pos rfl]
theorem subE_zero {t : Ty} {names : List ByteArray} {args : List Ty} (h : subE t names args = 0) : soundT t = true ∧ args.all soundT = true ∧ (names.length = args.length ∧ names.Nodup) ∧ soundT (t.fill (assoc names args)) = true := by
  cases h1 : (soundT t && args.all soundT) with
  | false => rw [subE_form h1] at h; cases h
  | true =>
    by_cases h2 : names.length = args.length ∧ names.Nodup
    · cases h3 : soundT (t.fill (assoc names args)) with
      | false => rw [subE_large h1 h2 h3] at h; cases h
      | true =>
        rw [Bool.and_eq_true] at h1
        exact ⟨h1.1, h1.2, h2, rfl⟩
    · rw [subE_arg h1 h2] at h; cases h
theorem zeroT_tyN {n : Nat} (hn : 0 < n) (G : Nat → Prop) (w : World) : TyN n G w (tyCells zeroT.kind zeroT.name zeroT.con none zeroT.fields.length 0 none zeroT.list.length 0 none zeroT.res.length 0) zeroT := by
  obtain ⟨n, rfl⟩ : ∃ m, n = m + 1 := ⟨n - 1, by omega⟩
  exact ⟨⟨by unfold I64; decide, by unfold I64; decide, by decide, by decide, by decide, by decide⟩, none, 0, none, 0, none, 0, rfl, ⟨RowR.nil _ _ _ _ _, fun g h => by cases h⟩, ⟨RowR.nil _ _ _ _ _, fun g h => by cases h⟩, ⟨RowR.nil _ _ _ _ _, fun g h => by cases h⟩⟩
/-- What Subst answers: a type in new memory, and the error. -/
def SubRes (n : Nat) (u : Ty) (c : Int) (w : World) (e : Ending) (w' : World) : Prop :=
  ∃ Af cf Al cl Ar cr, e = .returned (.tuple #[.agg #[.int .i64 u.kind, .string u.name, .int .i64 u.con, .slice Af u.fields.length cf, .slice Al u.list.length cl, .slice Ar u.res.length cr], .int .i64 c]) ∧ TyN n (fun b => w.heap.size ≤ b) w' (tyCells u.kind u.name u.con Af u.fields.length cf Al u.list.length cl Ar u.res.length cr) u ∧ Chg (fun _ _ => False) w w'
theorem sub_bad {n : Nat} (hn : 0 < n) {c : Int} {w w' : World} {e : Ending} (h : SubBad c w e w') : SubRes n zeroT c w e w' :=
  ⟨none, 0, none, 0, none, 0, h.1, zeroT_tyN hn _ _, h.2⟩
theorem subst_any (n ma B : Nat) (w : World) (t : Ty) (names : List ByteArray) (args : List Ty) (Af : Option Addr) (cf : Nat) (Al : Option Addr) (cl : Nat) (Ar : Option Addr) (cr : Nat) (An : Option Addr) (cn : Nat) (Aa : Option Addr) (ca : Nat) (hB : B ≤ w.heap.size) (hTab : Tabs w)
    (hT : TyR n B w (tyCells t.kind t.name t.con Af t.fields.length cf Al t.list.length cl Ar t.res.length cr) t) (hN : StrsR B w (.slice An names.length cn) names) (hnl : names.length ≤ 1048576) (hA : TysR ma B w (.slice Aa args.length ca) args) (hal : args.length ≤ 1048576) :
    Calls Tryd.prog 13 #[.agg #[.int .i64 t.kind, .string t.name, .int .i64 t.con, .slice Af t.fields.length cf, .slice Al t.list.length cl, .slice Ar t.res.length cr], .slice An names.length cn, .slice Aa args.length ca] w (SubRes (n + ma) (subT t names args) (subE t names args) w) := by
  have hn : 0 < n + ma := by
    cases n with
    | zero => exact hT.elim
    | succ n => omega
  cases hs : soundT t with
  | false =>
    have he := subE_form (names := names) (show (soundT t && args.all soundT) = false by rw [hs]; rfl)
    rw [show subT t names args = zeroT by unfold subT; rw [he]; rfl, he]
    exact (subst_form1 n ma B w t names args Af cf Al cl Ar cr An cn Aa ca hB hTab hT hN hnl hA hal hs).mono fun _ _ h => sub_bad hn h
  | true =>
    cases hs2 : args.all soundT with
    | false =>
      have he := subE_form (names := names) (show (soundT t && args.all soundT) = false by rw [hs2, Bool.and_false])
      rw [show subT t names args = zeroT by unfold subT; rw [he]; rfl, he]
      exact (subst_form2 n ma B w t names args Af cf Al cl Ar cr An cn Aa ca hB hTab hT hN hnl hA hal hs hs2).mono fun _ _ h => sub_bad hn h
    | true =>
      have hg : (soundT t && args.all soundT) = true := by rw [hs, hs2]; rfl
      by_cases hok : names.length = args.length ∧ names.Nodup
      · cases hso : soundT (t.fill (assoc names args)) with
        | false =>
          have he := subE_large hg hok hso
          rw [show subT t names args = zeroT by unfold subT; rw [he]; rfl, he]
          exact (subst_large n ma B w t names args Af cf Al cl Ar cr An cn Aa ca hB hTab hT hN hnl hA hal hs hs2 hok hso).mono fun _ _ h => sub_bad hn h
        | true =>
          have he := subE_ok hg hok hso
          rw [show subT t names args = t.fill (assoc names args) by unfold subT; rw [he]; rfl, he]
          exact subst_ok n ma B w t names args Af cf Al cl Ar cr An cn Aa ca hB hTab hT hN hnl hA hal hs hs2 hok hso
      · have he := subE_arg hg hok
        rw [show subT t names args = zeroT by unfold subT; rw [he]; rfl, he]
        exact (subst_arg n ma B w t names args Af cf Al cl Ar cr An cn Aa ca hB hTab hT hN hnl hA hal hs hs2 hok).mono fun _ _ h => sub_bad hn h
end Go.Proofs.YtgemacdnncjmdaaDoor
