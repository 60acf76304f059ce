/-
  slices.Contains at []string; unify's match: a type that is wanted on one that is had, with what names stand for.
-/
import Derived.Test.YtlbcaiohjghclaaDoorTUniN
import Derived.Test.YtlbcaiohjghclaaDoorTFactsA
import Derived.Test.YtlbcaiohjghclaaDoorTCopy
namespace Go.Proofs.YtlbcaiohjghclaaDoor
open Go.RowKit
set_option linter.unusedVariables false
set_option linter.unusedSimpArgs false

set_option maxRecDepth 100000 in
set_option maxHeartbeats 1000000 in
theorem idx2_any (B : Nat) (w : World) (l : List ByteArray) (s : ByteArray) (A : Option Addr) (c : Nat) (hl : StrsR B w (.slice A l.length c) l) (hl20 : l.length ≤ 1048576) :
    Calls Tryd.prog 34 #[.slice A l.length c, .string s] w fun e w' => ∃ r : Int, e = .returned (.int .i64 r) ∧ (0 ≤ r ↔ s ∈ l) ∧ Chg (fun _ _ => False) w w' := by
  have HP := Lib.hid hl
  clear hl
  go_enter Tryd.func34, Tryd.ntmps34
  go_wp2_with fail
  go_loopw [5, 8] (fun _ i wr => hasRel l s w i wr) (fun _ i _ => l.length - (intOf i).toNat)
  case atStart => exact ⟨0, Nat.zero_le _, rfl, by simp, Chg.refl _ _⟩
  case round =>
    obtain ⟨k, hk, rfl, hn, hch⟩ := hrel
    have q3 : IntKind.i64.wrap ((k : Int) + 1) = (k : Int) + 1 := IntWalk.i64_in _ ⟨by omega, by omega⟩
    by_cases hlt : k < l.length
    · have q1 : decide (k < l.length) = true := decide_eq_true hlt
      have q2 : (k : Int) < (l.length : Int) := by omega
      obtain ⟨b, o, x, cs, rfl, hkx, _, ⟨rfl, hxs⟩, hcell⟩ := SlR.at2 (SlR.keep HP.out hch (no_lets _ _) fun _ _ h => h) hlt
      have z0 : wr.cell? ⟨b, o + k, none⟩ = some (.string x) := by simpa using hcell 0 _ rfl
      by_cases hxs' : s = x
      · have q5 := str_eq hxs'
        have HX := Lib.hid (And.intro hxs' (And.intro hkx hch))
        clear hxs' hkx hch hn hcell hxs
        go_wp2_with fail
        go_ret
        exact ⟨k, rfl, ⟨fun _ => HX.out.1 ▸ List.mem_of_getElem? HX.out.2.1, fun _ => by omega⟩, HX.out.2.2⟩
      · have q5 := str_ne hxs'
        have HX := Lib.hid (And.intro hxs' (And.intro hkx (And.intro hch hn)))
        clear hxs' hkx hch hn hcell hxs
        go_wp2_with fail
        go_roundw
        case rel =>
          obtain ⟨hne, hkx, hch, hn⟩ := HX.out
          obtain ⟨h1, h2⟩ := List.getElem?_eq_some_iff.1 hkx
          refine ⟨k + 1, hlt, by simp, ?_, hch⟩
          rw [List.take_succ_eq_append_getElem h1, h2, List.mem_append, List.mem_singleton]
          exact fun h => h.elim hn fun h => hne h
        case measure => simp [intOf]; omega
    · have q1 : decide (k < l.length) = false := decide_eq_false hlt
      obtain rfl : k = l.length := by omega
      rw [List.take_length] at hn
      have HX := Lib.hid (And.intro hn hch)
      clear hn hch
      go_wp2_with fail
      go_ret
      exact ⟨-1, rfl, ⟨fun h => absurd h (by decide), fun h => absurd h HX.out.1⟩, HX.out.2⟩
set_option maxRecDepth 100000 in
set_option maxHeartbeats 1000000 in
theorem cont2_any (B : Nat) (w : World) (l : List ByteArray) (s : ByteArray) (A : Option Addr) (c : Nat) (hl : StrsR B w (.slice A l.length c) l) (hl20 : l.length ≤ 1048576) :
    Calls Tryd.prog 26 #[.slice A l.length c, .string s] w fun e w' => ∃ r : Bool, e = .returned (.bool r) ∧ (r = true ↔ s ∈ l) ∧ Chg (fun _ _ => False) w w' := by
  have hcall := idx2_any B w l s A c hl hl20
  clear hl
  go_enter Tryd.func26, Tryd.ntmps26
  go_wp2_with fail
  refine hcall.mono fun e w5 h => ?_
  obtain ⟨r, rfl, hr, hc5⟩ := h
  have HR := Lib.hid hr
  clear hcall hr
  go_wp2_with fail
  go_ret
  exact ⟨_, rfl, by rw [← HR.out]; simp, hc5⟩

/-! ## What is known in memory -/
def Mb (q : Nat) (b t : Nat) : Prop := b = q ∧ t = 0
def MapM (m B q : Nat) (names : List ByteArray) (f : ByteArray → Option Ty) (w : World) : Prop := ∃ N k g, SMap w q N k g ∧ N + names.countP (fun s => (f s).isNone) ≤ names.length ∧ ∀ s : ByteArray, s.size ≤ 1048576 → (f s = none ∧ g s = none) ∨
  ∃ u Af cf Al cl Ar cr, f s = some u ∧ g s = some (.agg #[.int .i64 u.kind, .string u.name, .int .i64 u.con, .slice Af u.fields.length cf, .slice Al u.list.length cl, .slice Ar u.res.length cr]) ∧ TyR m B w (tyCells u.kind u.name u.con Af u.fields.length cf Al u.list.length cl Ar u.res.length cr) u
def FinR (B gF q : Nat) (names : List ByteArray) (An : Option Addr) (cn : Nat) (w : World) : Prop := Blk w gF 53 #[.slice An names.length cn, .map (some q)] ∧ StrsR B w (.slice An names.length cn) names
section
variable {m B gF q : Nat} {names : List ByteArray} {An : Option Addr} {cn : Nat} {w w' : World}
theorem mb_lets (h : B ≤ q) : LetsM (Mb q) B := fun b t hb h' => by have := h'.1; omega
theorem MapM.keep {f : ByteArray → Option Ty} (h : MapM m B q names f w) (hc : Chg (fun _ _ => False) w w') : MapM m B q names f w' := by
  obtain ⟨N, k, g, h1, h2, h3⟩ := h
  exact ⟨N, k, g, h1.keep hc id, h2, fun s hs => (h3 s hs).imp id fun ⟨u, Af, cf, Al, cl, Ar, cr, h3, h4, h5⟩ => ⟨u, Af, cf, Al, cl, Ar, cr, h3, h4, TyR.keep0 hc h5⟩⟩
theorem FinR.keep (h : FinR B gF q names An cn w) (hc : Chg (Mb q) w w') (hq : B ≤ q) : FinR B gF q names An cn w' :=
  ⟨hc.blk h.1 fun h => by have := h.2; exact absurd this (by decide), SlR.keep h.2 hc (mb_lets hq).lets fun _ _ h => h⟩
theorem Chg.toMb (h : Chg (fun _ _ => False) w w') : Chg (Mb q) w w' := h.mono fun _ _ _ h => h.elim
/-- One more is known. -/
theorem MapM.put {f : ByteArray → Option Ty} (h : MapM m B q names f w) (hq : B ≤ q) (hnl : names.length ≤ 1048576) {s : ByteArray} (hs : s.size ≤ 1048576) (hin : s ∈ names) (hn : f s = none) {u : Ty} {Af : Option Addr} {cf : Nat} {Al : Option Addr} {cl : Nat} {Ar : Option Addr} {cr : Nat} (hu : TyR m B w (tyCells u.kind u.name u.con Af u.fields.length cf Al u.list.length cl Ar u.res.length cr) u) :
    ∃ w', (Instr.mapUpdate 37 (.map (some q)) (.string s) (.agg #[.int .i64 u.kind, .string u.name, .int .i64 u.con, .slice Af u.fields.length cf, .slice Al u.list.length cl, .slice Ar u.res.length cr])).run Tryd.prog w = .ok () w' ∧ MapM m B q names (updT f s u) w' ∧ Chg (Mb q) w w' := by
  obtain ⟨N, k, g, h1, h2, h3⟩ := h
  have hlt : names.countP (fun x => (updT f s u x).isNone) + 1 ≤ names.countP (fun x => (f x).isNone) := by
    have hle : ∀ x ∈ names, (updT f s u x).isNone = true → (f x).isNone = true := fun x _ hx => by
      by_cases he : x = s
      · subst he; rw [hn]; rfl
      · rw [updT_other _ _ he] at hx; exact hx
    obtain ⟨l1, l2, rfl⟩ := List.append_of_mem hin
    have e1 := List.countP_mono_left (l := l1) (p := fun x => (updT f s u x).isNone) (q := fun x => (f x).isNone) fun x hx => hle x (by simp [hx])
    have e2 := List.countP_mono_left (l := l2) (p := fun x => (updT f s u x).isNone) (q := fun x => (f x).isNone) fun x hx => hle x (by simp [hx])
    rw [List.countP_append, List.countP_append, List.countP_cons, List.countP_cons]
    simp only [updT_same, hn, Option.isNone_none, if_true, Option.isNone_some, Bool.false_eq_true, if_false]
    omega
  obtain ⟨w', hrun, hm, hc⟩ := h1.put (e := 42) (v := .agg #[.int .i64 u.kind, .string u.name, .int .i64 u.con, .slice Af u.fields.length cf, .slice Al u.list.length cl, .slice Ar u.res.length cr]) Tryd.underlying37 (by simp only [maxLen]; omega) (s := s) (by simp only [maxLen]; omega)
  refine ⟨w', hrun, ⟨_, _, _, hm, by omega, fun x hx => ?_⟩, hc⟩
  by_cases he : x = s
  · subst he
    exact .inr ⟨u, Af, cf, Al, cl, Ar, cr, updT_same _ _ _, upd_same _ _ _, TyR.keep hc (mb_lets hq) hu⟩
  · rw [updT_other _ _ he, upd_other _ _ he]
    exact (h3 x hx).imp id fun ⟨u, Af, cf, Al, cl, Ar, cr, h3, h4, h5⟩ => ⟨u, Af, cf, Al, cl, Ar, cr, h3, h4, TyR.keep hc (mb_lets hq) h5⟩
end
def MatchRes (r : Option (ByteArray → Option Ty)) (m B q : Nat) (names : List ByteArray) (w : World) (e : Ending) (w' : World) : Prop :=
  e = .returned (.bool r.isSome) ∧ (∀ f, r = some f → MapM m B q names f w') ∧ Chg (Mb q) w w'
/-- The contract of match at types no deeper than n. -/
def MatchC (n m B gF q : Nat) (names : List ByteArray) (An : Option Addr) (cn : Nat) : Prop := ∀ (w : World) (a b : Ty) (Af : Option Addr) (cf : Nat) (Al : Option Addr) (cl : Nat) (Ar : Option Addr) (cr : Nat) (Bf : Option Addr) (df : Nat) (Bl : Option Addr) (dl : Nat) (Br : Option Addr) (dr : Nat) (f : ByteArray → Option Ty), B ≤ w.heap.size → FinR B gF q names An cn w → MapM m B q names f w → TyR n B w (tyCells a.kind a.name a.con Af a.fields.length cf Al a.list.length cl Ar a.res.length cr) a → TyR m B w (tyCells b.kind b.name b.con Bf b.fields.length df Bl b.list.length dl Br b.res.length dr) b →
    Calls Tryd.prog 18 #[.pointer (some ⟨gF, 0, none⟩), .agg #[.int .i64 a.kind, .string a.name, .int .i64 a.con, .slice Af a.fields.length cf, .slice Al a.list.length cl, .slice Ar a.res.length cr], .agg #[.int .i64 b.kind, .string b.name, .int .i64 b.con, .slice Bf b.fields.length df, .slice Bl b.list.length dl, .slice Br b.res.length dr]] w (MatchRes (matchT names n a b f) m B q names w)
noncomputable def stepM (names : List ByteArray) (n : Nat) (p r : ByteArray × Ty) (f : ByteArray → Option Ty) : Option (ByteArray → Option Ty) := if eqB p.1 r.1 = true then matchT names n p.2 r.2 f else none
theorem TyR.small_name {n B : Nat} {w : World} {cs : List Value} {t : Ty} (h : TyR n B w cs t) : t.name.size ≤ 1048576 := h.small.2.2.1
set_option maxRecDepth 100000 in
set_option maxHeartbeats 2000000 in
theorem match1_of (n m B gF q : Nat) (names : List ByteArray) (An : Option Addr) (cn : Nat) (gx : Nat) (hq : B ≤ q) (IH : MatchC n m B gF q names An cn) (w : World) (x y : ByteArray) (a b : Ty) (Af : Option Addr) (cf : Nat) (Al : Option Addr) (cl : Nat) (Ar : Option Addr) (cr : Nat) (Bf : Option Addr) (df : Nat) (Bl : Option Addr) (dl : Nat) (Br : Option Addr) (dr : Nat) (f : ByteArray → Option Ty) (hB : B ≤ w.heap.size) (hbx : Blk w gx 51 #[.pointer (some ⟨gF, 0, none⟩)]) (hF : FinR B gF q names An cn w) (hM : MapM m B q names f w) (hA : TyR n B w (tyCells a.kind a.name a.con Af a.fields.length cf Al a.list.length cl Ar a.res.length cr) a) (hC : TyR m B w (tyCells b.kind b.name b.con Bf b.fields.length df Bl b.list.length dl Br b.res.length dr) b) :
    Calls Tryd.prog 29 #[.agg #[.string x, .int .i64 a.kind, .string a.name, .int .i64 a.con, .slice Af a.fields.length cf, .slice Al a.list.length cl, .slice Ar a.res.length cr], .agg #[.string y, .int .i64 b.kind, .string b.name, .int .i64 b.con, .slice Bf b.fields.length df, .slice Bl b.list.length dl, .slice Br b.res.length dr], .pointer (some ⟨gx, 0, none⟩)] w (MatchRes (stepM names n (x, a) (y, b) f) m B q names w) := by
  have hc1 := (chg_alloc w (.cells #[.string x, .int .i64 a.kind, .string a.name, .int .i64 a.con, .slice Af a.fields.length cf, .slice Al a.list.length cl, .slice Ar a.res.length cr] 61)).alloc (.cells #[.string y, .int .i64 b.kind, .string b.name, .int .i64 b.con, .slice Bf b.fields.length df, .slice Bl b.list.length dl, .slice Br b.res.length dr] 61)
  have hcall := IH _ a b Af cf Al cl Ar cr Bf df Bl dl Br dr f (Nat.le_trans hB hc1.size) (hF.keep hc1.toMb hq) (hM.keep hc1) (TyR.keep0 hc1 hA) (TyR.keep0 hc1 hC)
  have hz : w.cell? ⟨gx, 0, none⟩ = some (.pointer (some ⟨gF, 0, none⟩)) := by simpa using hbx.cell 0
  have HZ := Lib.hid (And.intro hbx hM)
  have hz2 := hc1.cell hz fun _ => id
  clear hA hC hF hM hbx hz
  by_cases he : x = y
  · have q5 := str_eq he
    rw [show stepM names n (x, a) (y, b) f = matchT names n a b f by unfold stepM; rw [if_pos (eqB_true.2 he)]]
    replace he := Lib.hid he
    generalize matchT names n a b f = r at hcall ⊢
    go_enter Tryd.func29, Tryd.ntmps29
    go_wp2_with fail
    refine hcall.mono fun e w2 h => ?_
    obtain ⟨rfl, hm2, hc2⟩ := h
    have HC := Lib.hid (And.intro hm2 (hc1.toMb.trans hc2))
    clear hcall hc1 hc2 hm2 hz2
    go_wp2_with fail
    go_ret
    exact ⟨rfl, HC.out.1, HC.out.2⟩
  · have q5 := str_ne he
    rw [show stepM names n (x, a) (y, b) f = none by unfold stepM; rw [if_neg (by rw [eqB_false.2 he]; decide)]]
    replace he := Lib.hid he
    clear hcall
    go_enter Tryd.func29, Tryd.ntmps29
    go_wp2_with fail
    go_ret
    exact ⟨rfl, fun f h => (by cases h), hc1.toMb⟩
def uRel (n m B gF q : Nat) (names : List ByteArray) (An : Option Addr) (cn : Nat) (l r : List (ByteArray × Ty)) (f : ByteArray → Option Ty) (W : World) (i : Value) (wr : World) : Prop :=
  ∃ k : Nat, k ≤ l.length ∧ i = .int .i64 k ∧ (∃ g, matchL (matchT names n) (l.take k) (r.take k) f = some g ∧ MapM m B q names g wr) ∧ Chg (Mb q) W wr
theorem matchL_take {names : List ByteArray} {n k : Nat} {l r : List (ByteArray × Ty)} {f g : ByteArray → Option Ty} {p p' : ByteArray × Ty} (h : matchL (matchT names n) (l.take k) (r.take k) f = some g) (hl : l[k]? = some p) (hr : r[k]? = some p') :
    matchL (matchT names n) (l.take (k + 1)) (r.take (k + 1)) f = stepM names n p p' g := by
  obtain ⟨h1, h2⟩ := List.getElem?_eq_some_iff.1 hl
  obtain ⟨h3, h4⟩ := List.getElem?_eq_some_iff.1 hr
  rw [List.take_succ_eq_append_getElem h1, List.take_succ_eq_append_getElem h3, h2, h4, matchL_snoc (by rw [List.length_take, List.length_take]; omega), h]
  rfl
theorem noNm_get {l : List Ty} {k : Nat} {x : Ty} (h : l[k]? = some x) : (noNm l)[k]? = some (ByteArray.empty, x) := by
  unfold noNm
  rw [List.getElem?_map, h]
  rfl
theorem noNm_len (l : List Ty) : (noNm l).length = l.length := by simp [noNm]
theorem stepM_bare (names : List ByteArray) (n : Nat) (x y : Ty) (f : ByteArray → Option Ty) : stepM names n (ByteArray.empty, x) (ByteArray.empty, y) f = matchT names n x y f := by
  unfold stepM
  rw [if_pos (eqB_self _)]
set_option maxRecDepth 100000 in
set_option maxHeartbeats 2000000 in
theorem ueqfField_of (n m B gF q : Nat) (names : List ByteArray) (An : Option Addr) (cn : Nat) (gx : Nat) (hq : B ≤ q) (IH : MatchC n m B gF q names An cn) (w : World) (l r : List (ByteArray × Ty)) (A : Option Addr) (c : Nat) (A' : Option Addr) (c' : Nat) (f : ByteArray → Option Ty) (hB : B ≤ w.heap.size) (hbx : Blk w gx 51 #[.pointer (some ⟨gF, 0, none⟩)]) (hF : FinR B gF q names An cn w) (hM : MapM m B q names f w) (hl : SlR B 0 7 (FdR (TyR n B)) w (.slice A l.length c) l) (hm : SlR B 0 7 (FdR (TyR m B)) w (.slice A' r.length c') r) (hl20 : l.length ≤ 1048576) (hm20 : r.length ≤ 1048576) :
    Calls Tryd.prog 28 #[.slice A l.length c, .slice A' r.length c', .func (.func 29) #[] #[.pointer (some ⟨gx, 0, none⟩)]] w (MatchRes (matchL (matchT names n) l r f) m B q names w) := by
  by_cases hlm : l.length = r.length
  · have q4 : ((l.length : Int) != (r.length : Int)) = false := by simp [hlm]
    have p4 : (l.length != r.length) = false := by simp [hlm]
    have H0 := Lib.hid (And.intro hB (And.intro hl (And.intro hm (And.intro hlm (And.intro hF hbx)))))
    have HM := Lib.hid hM
    clear hB hl hm hlm hF hM hbx
    go_enter Tryd.func28, Tryd.ntmps28
    go_wp2_with fail
    go_loopw [17] (fun i wr => uRel n m B gF q names An cn l r f w i wr) (fun i _ => l.length - (intOf i).toNat)
    case atStart => exact ⟨0, Nat.zero_le _, rfl, ⟨f, by simp [matchL], HM.out⟩, Chg.refl _ _⟩
    case round =>
      obtain ⟨k, hk, rfl, ⟨g, hg, hMg⟩, hch⟩ := hrel
      
      have q3 : IntKind.i64.wrap ((k : Int) + 1) = (k : Int) + 1 := IntWalk.i64_in _ ⟨by omega, by omega⟩
      by_cases hlt : k < l.length
      · have q1 : decide (k < l.length) = true := decide_eq_true hlt
        have q2 : (k : Int) < (l.length : Int) := by omega
        have q2m : (k : Int) < (r.length : Int) := by have := H0.out.2.2.2.1; omega
        obtain ⟨bb, oo, nx, x, Xf, xf, Xl, xl, Xr, xr, rfl, hbB, hkx, hnms, hRx, z0, z1, z2, z3, z4, z5, z6⟩ := fld_at (SlR.keep H0.out.2.1 hch (mb_lets hq).lets fun _ _ h => h.imp fun _ _ h => TyR.keep hch (mb_lets hq) h) hlt
        obtain ⟨bb', oo', ny, y, Yf, yf, Yl, yl, Yr, yr, rfl, hbB', hky, hnms', hRy, v0, v1, v2, v3, v4, v5, v6⟩ := fld_at (SlR.keep H0.out.2.2.1 hch (mb_lets hq).lets fun _ _ h => h.imp fun _ _ h => TyR.keep hch (mb_lets hq) h) (k := k) (by have := H0.out.2.2.2.1; omega)
        have u0 := (chg_alloc wr (.cells #[.string nx, .int .i64 x.kind, .string x.name, .int .i64 x.con, .slice Xf x.fields.length xf, .slice Xl x.list.length xl, .slice Xr x.res.length xr] 61)).cell v0 fun _ => id
        have u1 := (chg_alloc wr (.cells #[.string nx, .int .i64 x.kind, .string x.name, .int .i64 x.con, .slice Xf x.fields.length xf, .slice Xl x.list.length xl, .slice Xr x.res.length xr] 61)).cell v1 fun _ => id
        have u2 := (chg_alloc wr (.cells #[.string nx, .int .i64 x.kind, .string x.name, .int .i64 x.con, .slice Xf x.fields.length xf, .slice Xl x.list.length xl, .slice Xr x.res.length xr] 61)).cell v2 fun _ => id
        have u3 := (chg_alloc wr (.cells #[.string nx, .int .i64 x.kind, .string x.name, .int .i64 x.con, .slice Xf x.fields.length xf, .slice Xl x.list.length xl, .slice Xr x.res.length xr] 61)).cell v3 fun _ => id
        have u4 := (chg_alloc wr (.cells #[.string nx, .int .i64 x.kind, .string x.name, .int .i64 x.con, .slice Xf x.fields.length xf, .slice Xl x.list.length xl, .slice Xr x.res.length xr] 61)).cell v4 fun _ => id
        have u5 := (chg_alloc wr (.cells #[.string nx, .int .i64 x.kind, .string x.name, .int .i64 x.con, .slice Xf x.fields.length xf, .slice Xl x.list.length xl, .slice Xr x.res.length xr] 61)).cell v5 fun _ => id
        have u6 := (chg_alloc wr (.cells #[.string nx, .int .i64 x.kind, .string x.name, .int .i64 x.con, .slice Xf x.fields.length xf, .slice Xl x.list.length xl, .slice Xr x.res.length xr] 61)).cell v6 fun _ => id
        have hca2 := (chg_alloc wr (.cells #[.string nx, .int .i64 x.kind, .string x.name, .int .i64 x.con, .slice Xf x.fields.length xf, .slice Xl x.list.length xl, .slice Xr x.res.length xr] 61)).alloc (.cells #[.string ny, .int .i64 y.kind, .string y.name, .int .i64 y.con, .slice Yf y.fields.length yf, .slice Yl y.list.length yl, .slice Yr y.res.length yr] 61)
        have hca := hch.trans (hca2.toMb (q := q))
        have hcall := match1_of n m B gF q names An cn gx hq IH _ nx ny x y Xf xf Xl xl Xr xr Yf yf Yl yl Yr yr g (Nat.le_trans H0.out.1 hca.size) (hca.blk H0.out.2.2.2.2.2 fun h => absurd h.2 (by decide)) (H0.out.2.2.2.2.1.keep hca hq) (hMg.keep hca2) (TyR.keep0 hca2 hRx) (TyR.keep0 hca2 hRy)
        have hst := matchL_take hg hkx hky
        have HK := Lib.hid (And.intro hca hst)
        clear hMg hch hkx hky hca hca2 hg hst hbB hbB' hnms hnms' hRx hRy
        go_wp2_with fail
        generalize (wr.alloc (.cells #[.string nx, .int .i64 x.kind, .string x.name, .int .i64 x.con, .slice Xf x.fields.length xf, .slice Xl x.list.length xl, .slice Xr x.res.length xr] 61)).alloc (.cells #[.string ny, .int .i64 y.kind, .string y.name, .int .i64 y.con, .slice Yf y.fields.length yf, .slice Yl y.list.length yl, .slice Yr y.res.length yr] 61) = w4 at hcall HK ⊢
        generalize stepM names n (nx, x) (ny, y) g = rr at hcall HK
        refine hcall.mono fun e w5 h => ?_
        obtain ⟨rfl, hm5, hc5⟩ := h
        clear hcall
        cases rr with
        | some g' =>
          have HM5 := Lib.hid (hm5 g' rfl)
          clear hm5
          go_wp2_with fail
          go_roundw
          case rel => exact ⟨k + 1, hlt, by simp, ⟨g', HK.out.2, HM5.out⟩, HK.out.1.trans hc5⟩
          case measure => simp [intOf]; omega
        | none =>
          clear hm5
          go_wp2_with fail
          go_ret
          have hbad : matchL (matchT names n) l r f = none := matchL_bad (k := k + 1) (by omega) (by exact H0.out.2.2.2.1) HK.out.2
          rw [hbad]
          exact ⟨rfl, fun f h => (by cases h), HK.out.1.trans hc5⟩
      · have q1 : decide (k < l.length) = false := decide_eq_false hlt
        obtain rfl : k = l.length := by omega
        have hall : matchL (matchT names n) l r f = some g := by
          rw [← hg, List.take_of_length_le (Nat.le_refl _), List.take_of_length_le (by have := H0.out.2.2.2.1; omega)]
        have HK := Lib.hid (And.intro hall (And.intro hMg hch))
        clear hg hch hMg hall
        go_wp2_with fail
        go_ret
        rw [HK.out.1]
        exact ⟨rfl, fun f h => (by injection h with h; subst h; exact HK.out.2.1), HK.out.2.2⟩
  · have q4 : ((l.length : Int) != (r.length : Int)) = true := by simp only [bne_iff_ne, ne_eq]; omega
    have p4 : (l.length != r.length) = true := by simp only [bne_iff_ne, ne_eq]; omega
    have HS := Lib.hid (show matchL (matchT names n) l r f = none from matchL_nlen (hlm))
    clear hl hm hlm hF hM hbx
    go_enter Tryd.func28, Tryd.ntmps28
    go_wp2_with fail
    go_ret
    rw [HS.out]
    exact ⟨rfl, fun f h => (by cases h), Chg.refl _ _⟩
set_option maxRecDepth 100000 in
set_option maxHeartbeats 2000000 in
theorem ueqfType_of (n m B gF q : Nat) (names : List ByteArray) (An : Option Addr) (cn : Nat) (hq : B ≤ q) (IH : MatchC n m B gF q names An cn) (w : World) (l r : List (Ty)) (A : Option Addr) (c : Nat) (A' : Option Addr) (c' : Nat) (f : ByteArray → Option Ty) (hB : B ≤ w.heap.size) (hF : FinR B gF q names An cn w) (hM : MapM m B q names f w) (hl : SlR B 0 6 (TyR n B) w (.slice A l.length c) l) (hm : SlR B 0 6 (TyR m B) w (.slice A' r.length c') r) (hl20 : l.length ≤ 1048576) (hm20 : r.length ≤ 1048576) :
    Calls Tryd.prog 30 #[.slice A l.length c, .slice A' r.length c', .func (.func 18) #[.pointer (some ⟨gF, 0, none⟩)] #[]] w (MatchRes (matchL (matchT names n) (noNm l) (noNm r) f) m B q names w) := by
  by_cases hlm : l.length = r.length
  · have q4 : ((l.length : Int) != (r.length : Int)) = false := by simp [hlm]
    have p4 : (l.length != r.length) = false := by simp [hlm]
    have H0 := Lib.hid (And.intro hB (And.intro hl (And.intro hm (And.intro hlm (And.intro hF trivial)))))
    have HM := Lib.hid hM
    clear hB hl hm hlm hF hM 
    go_enter Tryd.func30, Tryd.ntmps30
    go_wp2_with fail
    go_loopw [17] (fun i wr => uRel n m B gF q names An cn (noNm l) (noNm r) f w i wr) (fun i _ => l.length - (intOf i).toNat)
    case atStart => exact ⟨0, Nat.zero_le _, rfl, ⟨f, by simp [matchL], HM.out⟩, Chg.refl _ _⟩
    case round =>
      obtain ⟨k, hk, rfl, ⟨g, hg, hMg⟩, hch⟩ := hrel
      rw [noNm_len] at hk
      have q3 : IntKind.i64.wrap ((k : Int) + 1) = (k : Int) + 1 := IntWalk.i64_in _ ⟨by omega, by omega⟩
      by_cases hlt : k < l.length
      · have q1 : decide (k < l.length) = true := decide_eq_true hlt
        have q2 : (k : Int) < (l.length : Int) := by omega
        have q2m : (k : Int) < (r.length : Int) := by have := H0.out.2.2.2.1; omega
        obtain ⟨bb, oo, x, Xf, xf, Xl, xl, Xr, xr, rfl, hkx, hRx, z0, z1, z2, z3, z4, z5⟩ := TysR.at_ (SlR.keep H0.out.2.1 hch (mb_lets hq).lets fun _ _ h => TyR.keep hch (mb_lets hq) h) hlt
        obtain ⟨bb', oo', y, Yf, yf, Yl, yl, Yr, yr, rfl, hky, hRy, v0, v1, v2, v3, v4, v5⟩ := TysR.at_ (SlR.keep H0.out.2.2.1 hch (mb_lets hq).lets fun _ _ h => TyR.keep hch (mb_lets hq) h) (k := k) (by have := H0.out.2.2.2.1; omega)
        have u0 := (chg_alloc wr (.cells #[.int .i64 x.kind, .string x.name, .int .i64 x.con, .slice Xf x.fields.length xf, .slice Xl x.list.length xl, .slice Xr x.res.length xr] 42)).cell v0 fun _ => id
        have u1 := (chg_alloc wr (.cells #[.int .i64 x.kind, .string x.name, .int .i64 x.con, .slice Xf x.fields.length xf, .slice Xl x.list.length xl, .slice Xr x.res.length xr] 42)).cell v1 fun _ => id
        have u2 := (chg_alloc wr (.cells #[.int .i64 x.kind, .string x.name, .int .i64 x.con, .slice Xf x.fields.length xf, .slice Xl x.list.length xl, .slice Xr x.res.length xr] 42)).cell v2 fun _ => id
        have u3 := (chg_alloc wr (.cells #[.int .i64 x.kind, .string x.name, .int .i64 x.con, .slice Xf x.fields.length xf, .slice Xl x.list.length xl, .slice Xr x.res.length xr] 42)).cell v3 fun _ => id
        have u4 := (chg_alloc wr (.cells #[.int .i64 x.kind, .string x.name, .int .i64 x.con, .slice Xf x.fields.length xf, .slice Xl x.list.length xl, .slice Xr x.res.length xr] 42)).cell v4 fun _ => id
        have u5 := (chg_alloc wr (.cells #[.int .i64 x.kind, .string x.name, .int .i64 x.con, .slice Xf x.fields.length xf, .slice Xl x.list.length xl, .slice Xr x.res.length xr] 42)).cell v5 fun _ => id
        have hca2 := (chg_alloc wr (.cells #[.int .i64 x.kind, .string x.name, .int .i64 x.con, .slice Xf x.fields.length xf, .slice Xl x.list.length xl, .slice Xr x.res.length xr] 42)).alloc (.cells #[.int .i64 y.kind, .string y.name, .int .i64 y.con, .slice Yf y.fields.length yf, .slice Yl y.list.length yl, .slice Yr y.res.length yr] 42)
        have hca := hch.trans (hca2.toMb (q := q))
        have hcall := IH _ x y Xf xf Xl xl Xr xr Yf yf Yl yl Yr yr g (Nat.le_trans H0.out.1 hca.size) (H0.out.2.2.2.2.1.keep hca hq) (hMg.keep hca2) (TyR.keep0 hca2 hRx) (TyR.keep0 hca2 hRy)
        have hst := (matchL_take hg (noNm_get hkx) (noNm_get hky)).trans (stepM_bare _ _ _ _ _)
        have HK := Lib.hid (And.intro hca hst)
        clear hMg hch hkx hky hca hca2 hg hst hRx hRy
        go_wp2_with fail
        generalize (wr.alloc (.cells #[.int .i64 x.kind, .string x.name, .int .i64 x.con, .slice Xf x.fields.length xf, .slice Xl x.list.length xl, .slice Xr x.res.length xr] 42)).alloc (.cells #[.int .i64 y.kind, .string y.name, .int .i64 y.con, .slice Yf y.fields.length yf, .slice Yl y.list.length yl, .slice Yr y.res.length yr] 42) = w4 at hcall HK ⊢
        generalize matchT names n x y g = rr at hcall HK
        refine hcall.mono fun e w5 h => ?_
        obtain ⟨rfl, hm5, hc5⟩ := h
        clear hcall
        cases rr with
        | some g' =>
          have HM5 := Lib.hid (hm5 g' rfl)
          clear hm5
          go_wp2_with fail
          go_roundw
          case rel => exact ⟨k + 1, (by rw [noNm_len]; exact hlt), by simp, ⟨g', HK.out.2, HM5.out⟩, HK.out.1.trans hc5⟩
          case measure => simp [intOf]; omega
        | none =>
          clear hm5
          go_wp2_with fail
          go_ret
          have hbad : matchL (matchT names n) (noNm l) (noNm r) f = none := matchL_bad (k := k + 1) (by rw [noNm_len]; omega) (by rw [noNm_len, noNm_len]; exact H0.out.2.2.2.1) HK.out.2
          rw [hbad]
          exact ⟨rfl, fun f h => (by cases h), HK.out.1.trans hc5⟩
      · have q1 : decide (k < l.length) = false := decide_eq_false hlt
        obtain rfl : k = l.length := by omega
        have hall : matchL (matchT names n) (noNm l) (noNm r) f = some g := by
          rw [← hg, List.take_of_length_le (by rw [noNm_len]; exact Nat.le_refl _), List.take_of_length_le (by rw [noNm_len]; have := H0.out.2.2.2.1; omega)]
        have HK := Lib.hid (And.intro hall (And.intro hMg hch))
        clear hg hch hMg hall
        go_wp2_with fail
        go_ret
        rw [HK.out.1]
        exact ⟨rfl, fun f h => (by injection h with h; subst h; exact HK.out.2.1), HK.out.2.2⟩
  · have q4 : ((l.length : Int) != (r.length : Int)) = true := by simp only [bne_iff_ne, ne_eq]; omega
    have p4 : (l.length != r.length) = true := by simp only [bne_iff_ne, ne_eq]; omega
    have HS := Lib.hid (show matchL (matchT names n) (noNm l) (noNm r) f = none from matchL_nlen (by rw [noNm_len, noNm_len]; exact hlm))
    clear hl hm hlm hF hM 
    go_enter Tryd.func30, Tryd.ntmps30
    go_wp2_with fail
    go_ret
    rw [HS.out]
    exact ⟨rfl, fun f h => (by cases h), Chg.refl _ _⟩
theorem match_parts {names : List ByteArray} {n : Nat} {a b : Ty} {f : ByteArray → Option Ty} (hnot : ¬ (a.kind = 12 ∧ a.name ∈ names)) (h1 : a.kind = b.kind) (h2 : a.name = b.name) (h3 : a.con = b.con) :
    matchT names (n + 1) a b f = match matchL (matchT names n) a.fields b.fields f with
      | none => none
      | some f1 => match matchL (matchT names n) (noNm a.list) (noNm b.list) f1 with
        | none => none
        | some f2 => matchL (matchT names n) (noNm a.res) (noNm b.res) f2 := by
  rw [matchT, if_neg hnot]
  by_cases k1 : a.fields.length = b.fields.length
  · by_cases k2 : a.list.length = b.list.length
    · by_cases k3 : a.res.length = b.res.length
      · rw [if_pos (headB_true.2 ⟨h1, h2, h3, k1, k2, k3⟩)]
        unfold Ty.innerN
        rw [matchL_app (by rw [List.length_append, List.length_append, noNm_len, noNm_len, k1, k2]), matchL_app k1]
        cases matchL (matchT names n) a.fields b.fields f with
        | none => rfl
        | some f1 =>
          simp only []
          cases h2 : matchL (matchT names n) (noNm a.list) (noNm b.list) f1 with
          | none => simp only [h2]
          | some f2 => simp only [h2]
      · rw [if_neg fun h => k3 (headB_true.1 h).2.2.2.2.2]
        have hn : ∀ g, matchL (matchT names n) (noNm a.res) (noNm b.res) g = none := fun g => matchL_nlen (by rw [noNm_len, noNm_len]; exact k3)
        cases matchL (matchT names n) a.fields b.fields f with
        | none => rfl
        | some f1 =>
          simp only []
          cases matchL (matchT names n) (noNm a.list) (noNm b.list) f1 with
          | none => rfl
          | some f2 => exact (hn f2).symm
    · rw [if_neg fun h => k2 (headB_true.1 h).2.2.2.2.1]
      have hn : ∀ g, matchL (matchT names n) (noNm a.list) (noNm b.list) g = none := fun g => matchL_nlen (by rw [noNm_len, noNm_len]; exact k2)
      cases matchL (matchT names n) a.fields b.fields f with
      | none => rfl
      | some f1 => simp only [hn f1]
  · rw [if_neg fun h => k1 (headB_true.1 h).2.2.2.1, matchL_nlen k1]
theorem match_diff {names : List ByteArray} {n : Nat} {a b : Ty} {f : ByteArray → Option Ty} (hnot : ¬ (a.kind = 12 ∧ a.name ∈ names)) (h : ¬ (a.kind = b.kind ∧ a.name = b.name ∧ a.con = b.con)) : matchT names (n + 1) a b f = none := by
  rw [matchT, if_neg hnot, if_neg fun hh => h ⟨(headB_true.1 hh).1, (headB_true.1 hh).2.1, (headB_true.1 hh).2.2.1⟩]
theorem match_in {names : List ByteArray} {n : Nat} {a b : Ty} {f : ByteArray → Option Ty} (h : a.kind = 12 ∧ a.name ∈ names) : matchT names (n + 1) a b f = match f a.name with
      | some x => if eqB x b = true then some f else none
      | none => some (updT f a.name b) := by
  rw [matchT, if_pos h]
  cases f a.name <;> rfl
theorem MatchRes.none_ {m B q : Nat} {names : List ByteArray} {w w' : World} {e : Ending} (he : e = .returned (.bool false)) (hc : Chg (Mb q) w w') : MatchRes none m B q names w e w' := ⟨he, fun f h => (by cases h), hc⟩
theorem MatchRes.some_ {m B q : Nat} {names : List ByteArray} {w w' : World} {e : Ending} {f : ByteArray → Option Ty} (he : e = .returned (.bool true)) (hM : MapM m B q names f w') (hc : Chg (Mb q) w w') : MatchRes (some f) m B q names w e w' := ⟨he, fun g h => (by injection h with h; subst h; exact hM), hc⟩
set_option maxRecDepth 100000 in
set_option maxHeartbeats 16000000 in
theorem umatch_step (n m B gF q : Nat) (names : List ByteArray) (An : Option Addr) (cn : Nat) (hq : B ≤ q) (hnl : names.length ≤ 1048576) (IH : MatchC n m B gF q names An cn) : MatchC (n + 1) m B gF q names An cn := by
  intro w a b Af cf Al cl Ar cr Bf df Bl dl Br dr f hB hF hM hA hC
  obtain ⟨hsA, hFA, hLA, hRA⟩ := TyR.open_ hA
  obtain ⟨hsB, hFB, hLB, hRB⟩ : Small b ∧ SlR B 0 7 (FdR (TyR m B)) w (.slice Bf b.fields.length df) b.fields ∧ TysR m B w (.slice Bl b.list.length dl) b.list ∧ TysR m B w (.slice Br b.res.length dr) b.res := by
    cases m with
    | zero => exact hC.elim
    | succ m =>
      obtain ⟨h1, h2, h3, h4⟩ := TyR.open_ hC
      exact ⟨h1, SlR.imp h2 (fun _ _ h => h) fun _ _ h => h.imp fun _ _ h => TyR.deep h (Nat.le_succ m), SlR.imp h3 (fun _ _ h => h) fun _ _ h => TyR.deep h (Nat.le_succ m), SlR.imp h4 (fun _ _ h => h) fun _ _ h => TyR.deep h (Nat.le_succ m)⟩
  have hbx := ((Blk.new w 51 #[.pointer (some ⟨gF, 0, none⟩)]).alloc (.cells #[.int .i64 a.kind, .string a.name, .int .i64 a.con, .slice Af a.fields.length cf, .slice Al a.list.length cl, .slice Ar a.res.length cr] 42)).alloc (.cells #[.int .i64 b.kind, .string b.name, .int .i64 b.con, .slice Bf b.fields.length df, .slice Bl b.list.length dl, .slice Br b.res.length dr] 42)
  have hb4 := (Blk.new (w.alloc (.cells #[.pointer (some ⟨gF, 0, none⟩)] 51)) 42 #[.int .i64 a.kind, .string a.name, .int .i64 a.con, .slice Af a.fields.length cf, .slice Al a.list.length cl, .slice Ar a.res.length cr]).alloc (.cells #[.int .i64 b.kind, .string b.name, .int .i64 b.con, .slice Bf b.fields.length df, .slice Bl b.list.length dl, .slice Br b.res.length dr] 42)
  have hb5 := Blk.new ((w.alloc (.cells #[.pointer (some ⟨gF, 0, none⟩)] 51)).alloc (.cells #[.int .i64 a.kind, .string a.name, .int .i64 a.con, .slice Af a.fields.length cf, .slice Al a.list.length cl, .slice Ar a.res.length cr] 42)) 42 #[.int .i64 b.kind, .string b.name, .int .i64 b.con, .slice Bf b.fields.length df, .slice Bl b.list.length dl, .slice Br b.res.length dr]
  have hc := ((chg_alloc w (.cells #[.pointer (some ⟨gF, 0, none⟩)] 51)).alloc (.cells #[.int .i64 a.kind, .string a.name, .int .i64 a.con, .slice Af a.fields.length cf, .slice Al a.list.length cl, .slice Ar a.res.length cr] 42)).alloc (.cells #[.int .i64 b.kind, .string b.name, .int .i64 b.con, .slice Bf b.fields.length df, .slice Bl b.list.length dl, .slice Br b.res.length dr] 42)
  simp only [World.size_alloc] at hb4 hb5
  have HP := Lib.hid (And.intro hB (And.intro hq IH))
  have HA := Lib.hid (And.intro hsA (And.intro hFA (And.intro hLA hRA)))
  have HC := Lib.hid (And.intro hsB (And.intro hFB (And.intro hLB hRB)))
  have HT := Lib.hid hC
  replace hF := hF.keep hc.toMb hq
  replace hM := hM.keep hc
  have HX := Lib.hid (And.intro hbx (And.intro hb4 (And.intro hb5 (And.intro hc (And.intro hF hM)))))
  obtain ⟨nA, s4a, s5a, s6a⟩ := hsA.2.2
  obtain ⟨nB, s4b, s5b, s6b⟩ := hsB.2.2
  clear hB hF hM hA hC hsA hFA hLA hRA hsB hFB hLB hRB hbx hb4 hb5 hc IH hq
  by_cases h12 : a.kind = 12
  · have q12 : (a.kind == 12) = true := by simp [h12]
    replace h12 := Lib.hid h12
    go_enter Tryd.func18, Tryd.ntmps18
    go_wp2_with fail
    generalize hW0 : ((w.alloc (.cells #[.pointer (some ⟨gF, 0, none⟩)] 51)).alloc (.cells #[.int .i64 a.kind, .string a.name, .int .i64 a.con, .slice Af a.fields.length cf, .slice Al a.list.length cl, .slice Ar a.res.length cr] 42)).alloc (.cells #[.int .i64 b.kind, .string b.name, .int .i64 b.con, .slice Bf b.fields.length df, .slice Bl b.list.length dl, .slice Br b.res.length dr] 42) = W0 at HX ⊢
    generalize hg5 : w.heap.size + 1 + 1 = g5 at HX ⊢
    generalize hg4 : w.heap.size + 1 = g4 at HX ⊢
    generalize hg3 : w.heap.size = g3 at HX ⊢
    clear hW0 hg5 hg4 hg3
    have hc := HX.out.2.2.2.1.toMb (q := q)
    have hF := HX.out.2.2.2.2.1
    have hM := HX.out.2.2.2.2.2
    have hbx := HX.out.1
    have hb4 := HX.out.2.1
    have hb5 := HX.out.2.2.1
    clear HX
    obtain ⟨x0, x1, x2, x3, x4, x5⟩ := hb4.cells6
    have xp : W0.cell? ⟨g3, 0, none⟩ = some (.pointer (some ⟨gF, 0, none⟩)) := by simpa using hbx.cell 0
    obtain ⟨f0, f1⟩ := hF.1.cells2
    have hdr := (Chg.refl (fun _ _ => False) W0).drew
    have hct := cont2_any B W0.drew names a.name An cn (SlR.keep hF.2 hdr (no_lets _ _) fun _ _ h => h) hnl
    go_still_tail 10, (by kernel_rfl)
    clear x0 x1 x2 x3 x4 x5 xp f0 f1
    change wpList _ _ _ _ _ W0.drew
    replace hbx := hdr.blk hbx id
    replace hb4 := hdr.blk hb4 id
    replace hb5 := hdr.blk hb5 id
    replace hF := hF.keep (hdr.toMb (q := q)) HP.out.2.1
    replace hM := hM.keep hdr
    replace hc := hc.trans (hdr.toMb (q := q))
    clear hdr
    generalize W0.drew = W1 at hct hbx hb4 hb5 hF hM hc ⊢
    go_wp2_with fail
    refine hct.mono fun e W2 h => ?_
    obtain ⟨r, rfl, hr, hc2⟩ := h
    clear hct
    replace hbx := hc2.blk hbx id
    replace hb4 := hc2.blk hb4 id
    replace hb5 := hc2.blk hb5 id
    replace hF := hF.keep (hc2.toMb (q := q)) HP.out.2.1
    replace hM := hM.keep hc2
    replace hc := hc.trans (hc2.toMb (q := q))
    clear hc2
    cases r with
    | false =>
      have HN := Lib.hid (show ¬ (a.kind = 12 ∧ a.name ∈ names) from fun h => absurd (hr.2 h.2) (by decide))
      clear h12 hr q12
      obtain ⟨x0, x1, x2, x3, x4, x5⟩ := hb4.cells6
      obtain ⟨u0, u1, u2, u3, u4, u5⟩ := hb5.cells6
      have xp : W2.cell? ⟨g3, 0, none⟩ = some (.pointer (some ⟨gF, 0, none⟩)) := by simpa using hbx.cell 0
      by_cases k1 : a.kind = b.kind
      · by_cases k2 : a.name = b.name
        · by_cases k3 : a.con = b.con
          · have HD := Lib.hid (And.intro k1 (And.intro k2 k3))
            have hq0 := ueqfField_of n m B gF q names An cn g3 HP.out.2.1 HP.out.2.2 W2 a.fields b.fields Af cf Bf df f (Nat.le_trans HP.out.1 hc.size) hbx hF hM (SlR.keep HA.out.2.1 hc (mb_lets HP.out.2.1).lets fun _ _ h => h.imp fun _ _ h => TyR.keep hc (mb_lets HP.out.2.1) h) (SlR.keep HC.out.2.1 hc (mb_lets HP.out.2.1).lets fun _ _ h => h.imp fun _ _ h => TyR.keep hc (mb_lets HP.out.2.1) h) s4a s4b
            have q1 : (a.kind == b.kind) = true := by simp [k1]
            have q1p : (a.kind != b.kind) = false := by simp [k1]
            have q2 : (a.name.toList == b.name.toList) = true := str_eq k2
            have q2p : (a.name.toList != b.name.toList) = false := by simp [k2]
            have q3 : (a.con == b.con) = true := by simp [k3]
            have q3p : (a.con != b.con) = false := by simp [k3]
            clear k1 k2 k3
            go_wp2_with fail
            clear x0 x1 x2 x3 x4 x5 u0 u1 u2 u3 u4 u5 xp
            cases e0 : matchL (matchT names n) a.fields b.fields f with
            | none =>
              rw [e0] at hq0
              refine hq0.mono fun e w20 h => ?_
              obtain ⟨rfl, hm2, hc2⟩ := h
              clear hq0
              have HE0 := Lib.hid e0
              clear e0
              have HZ := Lib.hid (hc.trans hc2)
              clear hbx hb4 hb5 hF hc hc2 hm2 hM
              go_wp2_with fail
              go_ret
              rw [match_parts HN.out HD.out.1 HD.out.2.1 HD.out.2.2]
              simp only [HE0.out]
              exact MatchRes.none_ rfl HZ.out
            | some f1 =>
              rw [e0] at hq0
              refine hq0.mono fun e w20 h => ?_
              obtain ⟨rfl, hm2, hc2⟩ := h
              clear hq0
              have HE0 := Lib.hid e0
              replace hM := hm2 f1 rfl
              replace hc := hc.trans hc2
              replace hbx := hc2.blk hbx fun h => absurd h.2 (by decide)
              replace hb4 := hc2.blk hb4 fun h => absurd h.2 (by decide)
              replace hb5 := hc2.blk hb5 fun h => absurd h.2 (by decide)
              replace hF := hF.keep hc2 HP.out.2.1
              clear hc2 hm2 e0
              obtain ⟨x0, x1, x2, x3, x4, x5⟩ := hb4.cells6
              obtain ⟨u0, u1, u2, u3, u4, u5⟩ := hb5.cells6
              have xp : w20.cell? ⟨g3, 0, none⟩ = some (.pointer (some ⟨gF, 0, none⟩)) := by simpa using hbx.cell 0
              have hq1 := ueqfType_of n m B gF q names An cn HP.out.2.1 HP.out.2.2 w20 a.list b.list Al cl Bl dl f1 (Nat.le_trans HP.out.1 hc.size) hF hM (SlR.keep HA.out.2.2.1 hc (mb_lets HP.out.2.1).lets fun _ _ h => TyR.keep hc (mb_lets HP.out.2.1) h) (SlR.keep HC.out.2.2.1 hc (mb_lets HP.out.2.1).lets fun _ _ h => TyR.keep hc (mb_lets HP.out.2.1) h) s5a s5b
              go_wp2_with fail
              clear x0 x1 x2 x3 x4 x5 u0 u1 u2 u3 u4 u5 xp
              cases e1 : matchL (matchT names n) (noNm a.list) (noNm b.list) f1 with
              | none =>
                rw [e1] at hq1
                refine hq1.mono fun e w21 h => ?_
                obtain ⟨rfl, hm2, hc2⟩ := h
                clear hq1
                have HE1 := Lib.hid e1
                clear e1
                have HZ := Lib.hid (hc.trans hc2)
                clear hbx hb4 hb5 hF hc hc2 hm2 hM
                go_wp2_with fail
                go_ret
                rw [match_parts HN.out HD.out.1 HD.out.2.1 HD.out.2.2]
                simp only [HE0.out, HE1.out]
                exact MatchRes.none_ rfl HZ.out
              | some f2 =>
                rw [e1] at hq1
                refine hq1.mono fun e w21 h => ?_
                obtain ⟨rfl, hm2, hc2⟩ := h
                clear hq1
                have HE1 := Lib.hid e1
                replace hM := hm2 f2 rfl
                replace hc := hc.trans hc2
                replace hbx := hc2.blk hbx fun h => absurd h.2 (by decide)
                replace hb4 := hc2.blk hb4 fun h => absurd h.2 (by decide)
                replace hb5 := hc2.blk hb5 fun h => absurd h.2 (by decide)
                replace hF := hF.keep hc2 HP.out.2.1
                clear hc2 hm2 e1
                obtain ⟨x0, x1, x2, x3, x4, x5⟩ := hb4.cells6
                obtain ⟨u0, u1, u2, u3, u4, u5⟩ := hb5.cells6
                have xp : w21.cell? ⟨g3, 0, none⟩ = some (.pointer (some ⟨gF, 0, none⟩)) := by simpa using hbx.cell 0
                have hq2 := ueqfType_of n m B gF q names An cn HP.out.2.1 HP.out.2.2 w21 a.res b.res Ar cr Br dr f2 (Nat.le_trans HP.out.1 hc.size) hF hM (SlR.keep HA.out.2.2.2 hc (mb_lets HP.out.2.1).lets fun _ _ h => TyR.keep hc (mb_lets HP.out.2.1) h) (SlR.keep HC.out.2.2.2 hc (mb_lets HP.out.2.1).lets fun _ _ h => TyR.keep hc (mb_lets HP.out.2.1) h) s6a s6b
                go_wp2_with fail
                clear x0 x1 x2 x3 x4 x5 u0 u1 u2 u3 u4 u5 xp
                cases e2 : matchL (matchT names n) (noNm a.res) (noNm b.res) f2 with
                | none =>
                  rw [e2] at hq2
                  refine hq2.mono fun e w22 h => ?_
                  obtain ⟨rfl, hm2, hc2⟩ := h
                  clear hq2
                  have HE2 := Lib.hid e2
                  clear e2
                  have HZ := Lib.hid (hc.trans hc2)
                  clear hbx hb4 hb5 hF hc hc2 hm2 hM
                  go_wp2_with fail
                  go_ret
                  rw [match_parts HN.out HD.out.1 HD.out.2.1 HD.out.2.2]
                  simp only [HE0.out, HE1.out, HE2.out]
                  exact MatchRes.none_ rfl HZ.out
                | some f3 =>
                  rw [e2] at hq2
                  refine hq2.mono fun e w22 h => ?_
                  obtain ⟨rfl, hm2, hc2⟩ := h
                  clear hq2
                  have HE2 := Lib.hid e2
                  replace hM := hm2 f3 rfl
                  replace hc := hc.trans hc2
                  replace hbx := hc2.blk hbx fun h => absurd h.2 (by decide)
                  replace hb4 := hc2.blk hb4 fun h => absurd h.2 (by decide)
                  replace hb5 := hc2.blk hb5 fun h => absurd h.2 (by decide)
                  replace hF := hF.keep hc2 HP.out.2.1
                  clear hc2 hm2 e2
                  have HZ := Lib.hid (And.intro hM hc)
                  clear hbx hb4 hb5 hF hc hM
                  go_wp2_with fail
                  go_ret
                  rw [match_parts HN.out HD.out.1 HD.out.2.1 HD.out.2.2]
                  simp only [HE0.out, HE1.out, HE2.out]
                  exact MatchRes.some_ rfl HZ.out.1 HZ.out.2
          · have HD := Lib.hid (show ¬ (a.kind = b.kind ∧ a.name = b.name ∧ a.con = b.con) from fun h => k3 h.2.2)
            have q1 : (a.kind == b.kind) = true := by simp [k1]
            have q1p : (a.kind != b.kind) = false := by simp [k1]
            have q2 : (a.name.toList == b.name.toList) = true := str_eq k2
            have q2p : (a.name.toList != b.name.toList) = false := by simp [k2]
            have q3 : (a.con == b.con) = false := by simp [k3]
            have q3p : (a.con != b.con) = true := by simp [k3]
            clear k1 k2 k3
            have HZ := Lib.hid hc
            clear hbx hb4 hb5 hF hc hM
            go_wp2_with fail
            go_ret
            rw [match_diff HN.out HD.out]
            exact MatchRes.none_ rfl HZ.out
        · have HD := Lib.hid (show ¬ (a.kind = b.kind ∧ a.name = b.name ∧ a.con = b.con) from fun h => k2 h.2.1)
          have q1 : (a.kind == b.kind) = true := by simp [k1]
          have q1p : (a.kind != b.kind) = false := by simp [k1]
          have q2 : (a.name.toList == b.name.toList) = false := str_ne k2
          have q2p : (a.name.toList != b.name.toList) = true := by simp only [bne, str_ne k2]; rfl
          clear k1 k2
          have HZ := Lib.hid hc
          clear hbx hb4 hb5 hF hc hM
          go_wp2_with fail
          go_ret
          rw [match_diff HN.out HD.out]
          exact MatchRes.none_ rfl HZ.out
      · have HD := Lib.hid (show ¬ (a.kind = b.kind ∧ a.name = b.name ∧ a.con = b.con) from fun h => k1 h.1)
        have q1 : (a.kind == b.kind) = false := by simp [k1]
        have q1p : (a.kind != b.kind) = true := by simp [k1]
        clear k1
        have HZ := Lib.hid hc
        clear hbx hb4 hb5 hF hc hM
        go_wp2_with fail
        go_ret
        rw [match_diff HN.out HD.out]
        exact MatchRes.none_ rfl HZ.out
    | true =>
      have hin := hr.1 rfl
      clear hr q12
      have hlk0 := hM
      obtain ⟨N, k, g, m1, m2, m3⟩ := hlk0
      have hlk0 := hM
      have hnm := m3 a.name nA
      have hlk : ∀ w', Chg (fun _ _ => False) W2 w' → (Instr.lookup 37 (.map (some q)) (.string a.name) true).run Tryd.prog w' = _ := fun w' hw => (m1.keep hw id).look_ok (t := 37) (e := 42) Tryd.underlying37 (zero_ty w') (s := a.name) (by simp only [maxLen]; omega)
      rcases hnm with ⟨hfn, hgn⟩ | ⟨x, Xf, xf, Xl, xl, Xr, xr, hfx, hgx, hRx⟩
      · rw [hgn] at hlk
        simp only [Option.getD_none, Option.isSome_none] at hlk
        clear hlk0 m1 m2 m3
        have HN := Lib.hid (And.intro h12.out hin)
        clear h12 hin
        obtain ⟨x0, x1, x2, x3, x4, x5⟩ := hb4.cells6
        have xp : W2.cell? ⟨g3, 0, none⟩ = some (.pointer (some ⟨gF, 0, none⟩)) := by simpa using hbx.cell 0
        obtain ⟨f0, f1⟩ := hF.1.cells2
        have hdr := (Chg.refl (fun _ _ => False) W2).drew
        go_wp2_with fail
        have hS0 : W2.drew.cell? ⟨g3, 0, none⟩ = some (.pointer (some ⟨gF, 0, none⟩)) ∧ W2.drew.cell? ⟨gF, 1, none⟩ = some (.map (some q)) ∧ W2.drew.cell? ⟨g4, 1, none⟩ = some (.string a.name) ∧ (Instr.lookup 37 (.map (some q)) (.string a.name) true).run Tryd.prog W2.drew = .ok (.tuple #[.agg #[.int .i64 0, .string ⟨#[]⟩, .int .i64 0, .slice none 0 0, .slice none 0 0, .slice none 0 0], .bool false]) W2.drew := ⟨xp, f1, x1, hlk _ hdr⟩
        refine wp_region_G (S := fun w' => w'.cell? ⟨g3, 0, none⟩ = some (.pointer (some ⟨gF, 0, none⟩)) ∧ w'.cell? ⟨gF, 1, none⟩ = some (.map (some q)) ∧ w'.cell? ⟨g4, 1, none⟩ = some (.string a.name) ∧ (Instr.lookup 37 (.map (some q)) (.string a.name) true).run Tryd.prog w' = .ok (.tuple #[.agg #[.int .i64 0, .string ⟨#[]⟩, .int .i64 0, .slice none 0 0, .slice none 0 0, .slice none 0 0], .bool false]) w') 12 (by kernel_rfl) hS0 (fun hHeld => ?_)
        refine wpAnyG_take (i := 0) (v := ?vafalse0) rfl (by kernel_rfl) (fun _ _ _ h => h) (Or.inl ⟨by rfl, ?hyfalse0⟩) (by assumption) ?rafalse0
        case hyfalse0 => (intro w hSw; (try dsimp only at hSw); go_simp; all_goals (with_reducible rfl))
        simp only [Act.put, List.setIfInBounds_toArray, List.set_cons_zero, List.set_cons_succ]
        refine wpAnyG_take (i := 1) (v := ?vafalse1) rfl (by kernel_rfl) (fun _ _ _ h => h) (Or.inl ⟨by rfl, ?hyfalse1⟩) (by assumption) ?rafalse1
        case hyfalse1 => (intro w hSw; (try dsimp only at hSw); go_simp; all_goals (with_reducible rfl))
        simp only [Act.put, List.setIfInBounds_toArray, List.set_cons_zero, List.set_cons_succ]
        refine wpAnyG_take (i := 2) (v := ?vafalse2) rfl (by kernel_rfl) (fun _ _ _ h => h) (Or.inl ⟨by rfl, ?hyfalse2⟩) (by assumption) ?rafalse2
        case hyfalse2 => (intro w hSw; (try dsimp only at hSw); go_simp; all_goals (with_reducible rfl))
        simp only [Act.put, List.setIfInBounds_toArray, List.set_cons_zero, List.set_cons_succ]
        refine wpAnyG_take (i := 3) (v := ?vafalse3) rfl (by kernel_rfl) (fun _ _ _ h => h) (Or.inl ⟨by rfl, ?hyfalse3⟩) (by assumption) ?rafalse3
        case hyfalse3 => (intro w hSw; (try dsimp only at hSw); go_simp; all_goals (with_reducible rfl))
        simp only [Act.put, List.setIfInBounds_toArray, List.set_cons_zero, List.set_cons_succ]
        refine wpAnyG_take (i := 4) (v := ?vafalse4) rfl (by kernel_rfl) (fun _ _ _ h => h) (Or.inl ⟨by rfl, ?hyfalse4⟩) (by assumption) ?rafalse4
        case hyfalse4 => (intro w hSw; (try dsimp only at hSw); go_simp; all_goals (with_reducible rfl))
        simp only [Act.put, List.setIfInBounds_toArray, List.set_cons_zero, List.set_cons_succ]
        refine wpAnyG_take (i := 5) (v := ?vafalse5) rfl (by kernel_rfl) (fun _ _ _ h => h) (Or.inl ⟨by rfl, ?hyfalse5⟩) (by assumption) ?rafalse5
        case hyfalse5 => (intro w hSw; (try dsimp only at hSw); go_simp; all_goals (with_reducible rfl))
        simp only [Act.put, List.setIfInBounds_toArray, List.set_cons_zero, List.set_cons_succ]
        refine wpAnyG_take (i := 6) (v := ?vafalse6) rfl (by kernel_rfl) (fun _ _ _ h => h) (Or.inl ⟨by rfl, ?hyfalse6⟩) (by assumption) ?rafalse6
        case hyfalse6 => (intro w hSw; (try dsimp only at hSw); go_simp; all_goals (with_reducible rfl))
        simp only [Act.put, List.setIfInBounds_toArray, List.set_cons_zero, List.set_cons_succ]
        refine wpAnyG_take (i := 7) (v := ?vafalse7) rfl (by kernel_rfl) (fun _ _ _ h => h) (Or.inl ⟨by rfl, ?hyfalse7⟩) (by assumption) ?rafalse7
        case hyfalse7 => (intro w hSw; (try dsimp only at hSw); go_simp; all_goals (with_reducible rfl))
        simp only [Act.put, List.setIfInBounds_toArray, List.set_cons_zero, List.set_cons_succ]
        refine wpAnyG_take (i := 8) (v := ?vafalse8) rfl (by kernel_rfl) (fun _ _ _ h => h) (Or.inl ⟨by rfl, ?hyfalse8⟩) (by assumption) ?rafalse8
        case hyfalse8 => (intro w hSw; (try dsimp only at hSw); go_simp; all_goals (with_reducible rfl))
        simp only [Act.put, List.setIfInBounds_toArray, List.set_cons_zero, List.set_cons_succ]
        refine wpAnyG_take (i := 9) (v := ?vafalse9) rfl (by kernel_rfl) (fun _ _ _ h => h) (Or.inl ⟨by rfl, ?hyfalse9⟩) (by assumption) ?rafalse9
        case hyfalse9 => (intro w hSw; (try dsimp only at hSw); go_simp; all_goals (with_reducible rfl))
        simp only [Act.put, List.setIfInBounds_toArray, List.set_cons_zero, List.set_cons_succ]
        refine wpAnyG_ready (rs := [10]) (by kernel_rfl) (by simp) ?_
        refine AllReadyG.cons rfl (fun K hK => ?_) AllReadyG.nil
        go_simp
        have hca : Chg (fun _ _ => False) W2 (W2.alloc (.cells #[.int .i64 0, .string ⟨#[]⟩, .int .i64 0, .slice none 0 0, .slice none 0 0, .slice none 0 0] 42)).drew := (chg_alloc W2 _).drew
        have hbn := (Blk.new W2 42 #[.int .i64 0, .string ⟨#[]⟩, .int .i64 0, .slice none 0 0, .slice none 0 0, .slice none 0 0]).drew
        have r0 := hca.cell xp fun _ => id
        have r1 := hca.cell f1 fun _ => id
        have r2 := hca.cell x1 fun _ => id
        have r3 := hlk _ hca
        have HCA := Lib.hid (And.intro hca hbn)
        generalize hW3 : (W2.alloc (.cells #[.int .i64 0, .string ⟨#[]⟩, .int .i64 0, .slice none 0 0, .slice none 0 0, .slice none 0 0] 42)).drew = W3 at r0 r1 r2 r3 HCA ⊢
        generalize hg7 : W2.heap.size = g7 at HCA ⊢
        clear hW3
        refine hK.out _ _ ⟨r0, r1, r2, r3⟩ (fun hHeld => ?_)
        clear hK K
        try simp only [Act.put, List.setIfInBounds_toArray, List.set_cons_zero, List.set_cons_succ]
        obtain ⟨y0, y1, y2, y3, y4, y5⟩ := HCA.out.2.cells6
        have e0 := HCA.out.2.frozen 0
        have e1 := HCA.out.2.frozen 1
        have e2 := HCA.out.2.frozen 2
        have e3 := HCA.out.2.frozen 3
        have e4 := HCA.out.2.frozen 4
        have e5 := HCA.out.2.frozen 5
        refine wpAnyG_ready (rs := [11]) (by kernel_rfl) (by simp) ?_
        refine AllReadyG.cons rfl (fun K hK => ?_) AllReadyG.nil
        go_simp
        clear y0 y1 y2 y3 y4 y5 e0 e1 e2 e3 e4 e5
        obtain ⟨hbz, hcz⟩ := blk_set6 HCA.out.2 (.int .i64 0) (.string ⟨#[]⟩) (.int .i64 0) (.slice none 0 0) (.slice none 0 0) (.slice none 0 0)
        have hcn := HCA.out.1.trans_new hcz fun b t hb h => by have h1 := h.1; omega
        have r0 := hcn.cell xp fun _ => id
        have r1 := hcn.cell f1 fun _ => id
        have r2 := hcn.cell x1 fun _ => id
        have r3 := hlk _ hcn
        generalize hW4 : ((((((W3.setCell ⟨g7, 0, none⟩ (.int .i64 0)).setCell ⟨g7, 1, none⟩ (.string ⟨#[]⟩)).setCell ⟨g7, 2, none⟩ (.int .i64 0)).setCell ⟨g7, 3, none⟩ (.slice none 0 0)).setCell ⟨g7, 4, none⟩ (.slice none 0 0)).setCell ⟨g7, 5, none⟩ (.slice none 0 0)) = W4 at hbz hcz hcn r0 r1 r2 r3 ⊢
        clear hW4 hcz HCA
        refine hK.out _ _ ⟨r0, r1, r2, r3⟩ (fun hHeld => ?_)
        clear hK K
        try simp only [Act.put, List.setIfInBounds_toArray, List.set_cons_zero, List.set_cons_succ]
        refine wpAnyG_last rfl (by kernel_rfl) (by kernel_rfl) (fun K hK => ?_)
        go_simp
        refine hK.out _ _ ?_
        clear hK K hHeld hS0 r0 r1 r2 r3 hdr hlk
        try simp only [Act.put, List.setIfInBounds_toArray, List.set_cons_zero, List.set_cons_succ]
        clear xp f0 f1 x0 x1 x2 x3 x4 x5
        replace hbx := hcn.blk hbx id
        replace hb4 := hcn.blk hb4 id
        replace hb5 := hcn.blk hb5 id
        replace hF := hF.keep (hcn.toMb (q := q)) HP.out.2.1
        replace hM := hM.keep hcn
        replace hc := hc.trans (hcn.toMb (q := q))
        obtain ⟨W5, hrun, hM5, hc5⟩ := MapM.put (w := W4.drew) (f := f) (hM.keep (Chg.refl (fun _ _ => False) W4).drew) HP.out.2.1 hnl nA HN.out.2 hfn (TyR.keep0 ((Chg.refl (fun _ _ => False) W4).drew) (TyR.keep hc (mb_lets HP.out.2.1) HT.out))
        obtain ⟨x0, x1, x2, x3, x4, x5⟩ := hb4.cells6
        obtain ⟨u0, u1, u2, u3, u4, u5⟩ := hb5.cells6
        have xp : W4.cell? ⟨g3, 0, none⟩ = some (.pointer (some ⟨gF, 0, none⟩)) := by simpa using hbx.cell 0
        obtain ⟨f0, f1⟩ := hF.1.cells2
        have HZ := Lib.hid (And.intro hM5 (And.intro (hc.trans ((Chg.refl (Mb q) W4).drew.trans hc5)) hfn))
        clear hbx hb4 hb5 hF hc hM hcn hfn hgn hbz hM5 hc5
        go_wp2_with fail
        go_still_tail 7, (by kernel_rfl)
        clear x0 x1 x2 x3 x4 x5 xp f0 f1 u0 u1 u2 u3 u4 u5
        go_wp2_with fail
        go_ret
        rw [match_in HN.out, HZ.out.2.2]
        exact MatchRes.some_ rfl HZ.out.1 HZ.out.2.1
      · rw [hgx] at hlk
        simp only [Option.getD_some, Option.isSome_some] at hlk
        clear hlk0 m1 m2 m3
        have HN := Lib.hid (And.intro h12.out hin)
        clear h12 hin
        obtain ⟨x0, x1, x2, x3, x4, x5⟩ := hb4.cells6
        have xp : W2.cell? ⟨g3, 0, none⟩ = some (.pointer (some ⟨gF, 0, none⟩)) := by simpa using hbx.cell 0
        obtain ⟨f0, f1⟩ := hF.1.cells2
        have hdr := (Chg.refl (fun _ _ => False) W2).drew
        go_wp2_with fail
        have hS0 : W2.drew.cell? ⟨g3, 0, none⟩ = some (.pointer (some ⟨gF, 0, none⟩)) ∧ W2.drew.cell? ⟨gF, 1, none⟩ = some (.map (some q)) ∧ W2.drew.cell? ⟨g4, 1, none⟩ = some (.string a.name) ∧ (Instr.lookup 37 (.map (some q)) (.string a.name) true).run Tryd.prog W2.drew = .ok (.tuple #[.agg #[.int .i64 x.kind, .string x.name, .int .i64 x.con, .slice Xf x.fields.length xf, .slice Xl x.list.length xl, .slice Xr x.res.length xr], .bool true]) W2.drew := ⟨xp, f1, x1, hlk _ hdr⟩
        refine wp_region_G (S := fun w' => w'.cell? ⟨g3, 0, none⟩ = some (.pointer (some ⟨gF, 0, none⟩)) ∧ w'.cell? ⟨gF, 1, none⟩ = some (.map (some q)) ∧ w'.cell? ⟨g4, 1, none⟩ = some (.string a.name) ∧ (Instr.lookup 37 (.map (some q)) (.string a.name) true).run Tryd.prog w' = .ok (.tuple #[.agg #[.int .i64 x.kind, .string x.name, .int .i64 x.con, .slice Xf x.fields.length xf, .slice Xl x.list.length xl, .slice Xr x.res.length xr], .bool true]) w') 12 (by kernel_rfl) hS0 (fun hHeld => ?_)
        refine wpAnyG_take (i := 0) (v := ?vatrue0) rfl (by kernel_rfl) (fun _ _ _ h => h) (Or.inl ⟨by rfl, ?hytrue0⟩) (by assumption) ?ratrue0
        case hytrue0 => (intro w hSw; (try dsimp only at hSw); go_simp; all_goals (with_reducible rfl))
        simp only [Act.put, List.setIfInBounds_toArray, List.set_cons_zero, List.set_cons_succ]
        refine wpAnyG_take (i := 1) (v := ?vatrue1) rfl (by kernel_rfl) (fun _ _ _ h => h) (Or.inl ⟨by rfl, ?hytrue1⟩) (by assumption) ?ratrue1
        case hytrue1 => (intro w hSw; (try dsimp only at hSw); go_simp; all_goals (with_reducible rfl))
        simp only [Act.put, List.setIfInBounds_toArray, List.set_cons_zero, List.set_cons_succ]
        refine wpAnyG_take (i := 2) (v := ?vatrue2) rfl (by kernel_rfl) (fun _ _ _ h => h) (Or.inl ⟨by rfl, ?hytrue2⟩) (by assumption) ?ratrue2
        case hytrue2 => (intro w hSw; (try dsimp only at hSw); go_simp; all_goals (with_reducible rfl))
        simp only [Act.put, List.setIfInBounds_toArray, List.set_cons_zero, List.set_cons_succ]
        refine wpAnyG_take (i := 3) (v := ?vatrue3) rfl (by kernel_rfl) (fun _ _ _ h => h) (Or.inl ⟨by rfl, ?hytrue3⟩) (by assumption) ?ratrue3
        case hytrue3 => (intro w hSw; (try dsimp only at hSw); go_simp; all_goals (with_reducible rfl))
        simp only [Act.put, List.setIfInBounds_toArray, List.set_cons_zero, List.set_cons_succ]
        refine wpAnyG_take (i := 4) (v := ?vatrue4) rfl (by kernel_rfl) (fun _ _ _ h => h) (Or.inl ⟨by rfl, ?hytrue4⟩) (by assumption) ?ratrue4
        case hytrue4 => (intro w hSw; (try dsimp only at hSw); go_simp; all_goals (with_reducible rfl))
        simp only [Act.put, List.setIfInBounds_toArray, List.set_cons_zero, List.set_cons_succ]
        refine wpAnyG_take (i := 5) (v := ?vatrue5) rfl (by kernel_rfl) (fun _ _ _ h => h) (Or.inl ⟨by rfl, ?hytrue5⟩) (by assumption) ?ratrue5
        case hytrue5 => (intro w hSw; (try dsimp only at hSw); go_simp; all_goals (with_reducible rfl))
        simp only [Act.put, List.setIfInBounds_toArray, List.set_cons_zero, List.set_cons_succ]
        refine wpAnyG_take (i := 6) (v := ?vatrue6) rfl (by kernel_rfl) (fun _ _ _ h => h) (Or.inl ⟨by rfl, ?hytrue6⟩) (by assumption) ?ratrue6
        case hytrue6 => (intro w hSw; (try dsimp only at hSw); go_simp; all_goals (with_reducible rfl))
        simp only [Act.put, List.setIfInBounds_toArray, List.set_cons_zero, List.set_cons_succ]
        refine wpAnyG_take (i := 7) (v := ?vatrue7) rfl (by kernel_rfl) (fun _ _ _ h => h) (Or.inl ⟨by rfl, ?hytrue7⟩) (by assumption) ?ratrue7
        case hytrue7 => (intro w hSw; (try dsimp only at hSw); go_simp; all_goals (with_reducible rfl))
        simp only [Act.put, List.setIfInBounds_toArray, List.set_cons_zero, List.set_cons_succ]
        refine wpAnyG_take (i := 8) (v := ?vatrue8) rfl (by kernel_rfl) (fun _ _ _ h => h) (Or.inl ⟨by rfl, ?hytrue8⟩) (by assumption) ?ratrue8
        case hytrue8 => (intro w hSw; (try dsimp only at hSw); go_simp; all_goals (with_reducible rfl))
        simp only [Act.put, List.setIfInBounds_toArray, List.set_cons_zero, List.set_cons_succ]
        refine wpAnyG_take (i := 9) (v := ?vatrue9) rfl (by kernel_rfl) (fun _ _ _ h => h) (Or.inl ⟨by rfl, ?hytrue9⟩) (by assumption) ?ratrue9
        case hytrue9 => (intro w hSw; (try dsimp only at hSw); go_simp; all_goals (with_reducible rfl))
        simp only [Act.put, List.setIfInBounds_toArray, List.set_cons_zero, List.set_cons_succ]
        refine wpAnyG_ready (rs := [10]) (by kernel_rfl) (by simp) ?_
        refine AllReadyG.cons rfl (fun K hK => ?_) AllReadyG.nil
        go_simp
        have hca : Chg (fun _ _ => False) W2 (W2.alloc (.cells #[.int .i64 0, .string ⟨#[]⟩, .int .i64 0, .slice none 0 0, .slice none 0 0, .slice none 0 0] 42)).drew := (chg_alloc W2 _).drew
        have hbn := (Blk.new W2 42 #[.int .i64 0, .string ⟨#[]⟩, .int .i64 0, .slice none 0 0, .slice none 0 0, .slice none 0 0]).drew
        have r0 := hca.cell xp fun _ => id
        have r1 := hca.cell f1 fun _ => id
        have r2 := hca.cell x1 fun _ => id
        have r3 := hlk _ hca
        have HCA := Lib.hid (And.intro hca hbn)
        generalize hW3 : (W2.alloc (.cells #[.int .i64 0, .string ⟨#[]⟩, .int .i64 0, .slice none 0 0, .slice none 0 0, .slice none 0 0] 42)).drew = W3 at r0 r1 r2 r3 HCA ⊢
        generalize hg7 : W2.heap.size = g7 at HCA ⊢
        clear hW3
        refine hK.out _ _ ⟨r0, r1, r2, r3⟩ (fun hHeld => ?_)
        clear hK K
        try simp only [Act.put, List.setIfInBounds_toArray, List.set_cons_zero, List.set_cons_succ]
        obtain ⟨y0, y1, y2, y3, y4, y5⟩ := HCA.out.2.cells6
        have e0 := HCA.out.2.frozen 0
        have e1 := HCA.out.2.frozen 1
        have e2 := HCA.out.2.frozen 2
        have e3 := HCA.out.2.frozen 3
        have e4 := HCA.out.2.frozen 4
        have e5 := HCA.out.2.frozen 5
        refine wpAnyG_ready (rs := [11]) (by kernel_rfl) (by simp) ?_
        refine AllReadyG.cons rfl (fun K hK => ?_) AllReadyG.nil
        go_simp
        clear y0 y1 y2 y3 y4 y5 e0 e1 e2 e3 e4 e5
        obtain ⟨hbz, hcz⟩ := blk_set6 HCA.out.2 (.int .i64 x.kind) (.string x.name) (.int .i64 x.con) (.slice Xf x.fields.length xf) (.slice Xl x.list.length xl) (.slice Xr x.res.length xr)
        have hcn := HCA.out.1.trans_new hcz fun b t hb h => by have h1 := h.1; omega
        have r0 := hcn.cell xp fun _ => id
        have r1 := hcn.cell f1 fun _ => id
        have r2 := hcn.cell x1 fun _ => id
        have r3 := hlk _ hcn
        generalize hW4 : ((((((W3.setCell ⟨g7, 0, none⟩ (.int .i64 x.kind)).setCell ⟨g7, 1, none⟩ (.string x.name)).setCell ⟨g7, 2, none⟩ (.int .i64 x.con)).setCell ⟨g7, 3, none⟩ (.slice Xf x.fields.length xf)).setCell ⟨g7, 4, none⟩ (.slice Xl x.list.length xl)).setCell ⟨g7, 5, none⟩ (.slice Xr x.res.length xr)) = W4 at hbz hcz hcn r0 r1 r2 r3 ⊢
        clear hW4 hcz HCA
        refine hK.out _ _ ⟨r0, r1, r2, r3⟩ (fun hHeld => ?_)
        clear hK K
        try simp only [Act.put, List.setIfInBounds_toArray, List.set_cons_zero, List.set_cons_succ]
        refine wpAnyG_last rfl (by kernel_rfl) (by kernel_rfl) (fun K hK => ?_)
        go_simp
        refine hK.out _ _ ?_
        clear hK K hHeld hS0 r0 r1 r2 r3 hdr hlk
        try simp only [Act.put, List.setIfInBounds_toArray, List.set_cons_zero, List.set_cons_succ]
        clear xp f0 f1 x0 x1 x2 x3 x4 x5
        replace hbx := hcn.blk hbx id
        replace hb4 := hcn.blk hb4 id
        replace hb5 := hcn.blk hb5 id
        replace hF := hF.keep (hcn.toMb (q := q)) HP.out.2.1
        replace hM := hM.keep hcn
        replace hc := hc.trans (hcn.toMb (q := q))
        have heq := equal_any m B W4 x b Xf xf Xl xl Xr xr Bf df Bl dl Br dr (Nat.le_trans HP.out.1 hc.size) (TyR.keep0 hcn hRx) (TyR.keep hc (mb_lets HP.out.2.1) HT.out)
        obtain ⟨y0, y1, y2, y3, y4, y5⟩ := hbz.cells6
        obtain ⟨u0, u1, u2, u3, u4, u5⟩ := hb5.cells6
        have HZ := Lib.hid (And.intro hM (And.intro hc hfx))
        clear hbx hb4 hb5 hF hc hM hcn hRx hfx hgx hbz
        go_wp2_with fail
        refine heq.mono fun e W5 h => ?_
        obtain ⟨rfl, hc5⟩ := h
        clear heq
        go_wp2_with fail
        go_ret
        rw [match_in HN.out, HZ.out.2.2]
        simp only []
        cases eqB x b with
        | true => exact MatchRes.some_ rfl (HZ.out.1.keep hc5) (HZ.out.2.1.trans hc5.toMb)
        | false => exact MatchRes.none_ rfl (HZ.out.2.1.trans hc5.toMb)
  · have q12 : (a.kind == 12) = false := by simp [h12]
    have HN := Lib.hid (show ¬ (a.kind = 12 ∧ a.name ∈ names) from fun h => h12 h.1)
    clear h12
    go_enter Tryd.func18, Tryd.ntmps18
    go_wp2_with fail
    generalize hW0 : ((w.alloc (.cells #[.pointer (some ⟨gF, 0, none⟩)] 51)).alloc (.cells #[.int .i64 a.kind, .string a.name, .int .i64 a.con, .slice Af a.fields.length cf, .slice Al a.list.length cl, .slice Ar a.res.length cr] 42)).alloc (.cells #[.int .i64 b.kind, .string b.name, .int .i64 b.con, .slice Bf b.fields.length df, .slice Bl b.list.length dl, .slice Br b.res.length dr] 42) = W0 at HX ⊢
    generalize hg5 : w.heap.size + 1 + 1 = g5 at HX ⊢
    generalize hg4 : w.heap.size + 1 = g4 at HX ⊢
    generalize hg3 : w.heap.size = g3 at HX ⊢
    clear hW0 hg5 hg4 hg3
    have hc := HX.out.2.2.2.1.toMb (q := q)
    have hF := HX.out.2.2.2.2.1
    have hM := HX.out.2.2.2.2.2
    have hbx := HX.out.1
    have hb4 := HX.out.2.1
    have hb5 := HX.out.2.2.1
    clear HX
    obtain ⟨x0, x1, x2, x3, x4, x5⟩ := hb4.cells6
    have xp : W0.cell? ⟨g3, 0, none⟩ = some (.pointer (some ⟨gF, 0, none⟩)) := by simpa using hbx.cell 0
    obtain ⟨f0, f1⟩ := hF.1.cells2
    go_still_tail 10, (by kernel_rfl)
    clear x0 x1 x2 x3 x4 x5 xp f0 f1
    change wpList _ _ _ _ _ W0.drew
    have hdr := (Chg.refl (fun _ _ => False) W0).drew
    replace hbx := hdr.blk hbx id
    replace hb4 := hdr.blk hb4 id
    replace hb5 := hdr.blk hb5 id
    replace hF := hF.keep (hdr.toMb (q := q)) HP.out.2.1
    replace hM := hM.keep hdr
    replace hc := hc.trans (hdr.toMb (q := q))
    clear hdr
    generalize W0.drew = W1 at hbx hb4 hb5 hF hM hc ⊢
    obtain ⟨x0, x1, x2, x3, x4, x5⟩ := hb4.cells6
    obtain ⟨u0, u1, u2, u3, u4, u5⟩ := hb5.cells6
    have xp : W1.cell? ⟨g3, 0, none⟩ = some (.pointer (some ⟨gF, 0, none⟩)) := by simpa using hbx.cell 0
    by_cases k1 : a.kind = b.kind
    · by_cases k2 : a.name = b.name
      · by_cases k3 : a.con = b.con
        · have HD := Lib.hid (And.intro k1 (And.intro k2 k3))
          have hq0 := ueqfField_of n m B gF q names An cn g3 HP.out.2.1 HP.out.2.2 W1 a.fields b.fields Af cf Bf df f (Nat.le_trans HP.out.1 hc.size) hbx hF hM (SlR.keep HA.out.2.1 hc (mb_lets HP.out.2.1).lets fun _ _ h => h.imp fun _ _ h => TyR.keep hc (mb_lets HP.out.2.1) h) (SlR.keep HC.out.2.1 hc (mb_lets HP.out.2.1).lets fun _ _ h => h.imp fun _ _ h => TyR.keep hc (mb_lets HP.out.2.1) h) s4a s4b
          have q1 : (a.kind == b.kind) = true := by simp [k1]
          have q1p : (a.kind != b.kind) = false := by simp [k1]
          have q2 : (a.name.toList == b.name.toList) = true := str_eq k2
          have q2p : (a.name.toList != b.name.toList) = false := by simp [k2]
          have q3 : (a.con == b.con) = true := by simp [k3]
          have q3p : (a.con != b.con) = false := by simp [k3]
          clear k1 k2 k3
          go_wp2_with fail
          clear x0 x1 x2 x3 x4 x5 u0 u1 u2 u3 u4 u5 xp
          cases e0 : matchL (matchT names n) a.fields b.fields f with
          | none =>
            rw [e0] at hq0
            refine hq0.mono fun e w20 h => ?_
            obtain ⟨rfl, hm2, hc2⟩ := h
            clear hq0
            have HE0 := Lib.hid e0
            clear e0
            have HZ := Lib.hid (hc.trans hc2)
            clear hbx hb4 hb5 hF hc hc2 hm2 hM
            go_wp2_with fail
            go_ret
            rw [match_parts HN.out HD.out.1 HD.out.2.1 HD.out.2.2]
            simp only [HE0.out]
            exact MatchRes.none_ rfl HZ.out
          | some f1 =>
            rw [e0] at hq0
            refine hq0.mono fun e w20 h => ?_
            obtain ⟨rfl, hm2, hc2⟩ := h
            clear hq0
            have HE0 := Lib.hid e0
            replace hM := hm2 f1 rfl
            replace hc := hc.trans hc2
            replace hbx := hc2.blk hbx fun h => absurd h.2 (by decide)
            replace hb4 := hc2.blk hb4 fun h => absurd h.2 (by decide)
            replace hb5 := hc2.blk hb5 fun h => absurd h.2 (by decide)
            replace hF := hF.keep hc2 HP.out.2.1
            clear hc2 hm2 e0
            obtain ⟨x0, x1, x2, x3, x4, x5⟩ := hb4.cells6
            obtain ⟨u0, u1, u2, u3, u4, u5⟩ := hb5.cells6
            have xp : w20.cell? ⟨g3, 0, none⟩ = some (.pointer (some ⟨gF, 0, none⟩)) := by simpa using hbx.cell 0
            have hq1 := ueqfType_of n m B gF q names An cn HP.out.2.1 HP.out.2.2 w20 a.list b.list Al cl Bl dl f1 (Nat.le_trans HP.out.1 hc.size) hF hM (SlR.keep HA.out.2.2.1 hc (mb_lets HP.out.2.1).lets fun _ _ h => TyR.keep hc (mb_lets HP.out.2.1) h) (SlR.keep HC.out.2.2.1 hc (mb_lets HP.out.2.1).lets fun _ _ h => TyR.keep hc (mb_lets HP.out.2.1) h) s5a s5b
            go_wp2_with fail
            clear x0 x1 x2 x3 x4 x5 u0 u1 u2 u3 u4 u5 xp
            cases e1 : matchL (matchT names n) (noNm a.list) (noNm b.list) f1 with
            | none =>
              rw [e1] at hq1
              refine hq1.mono fun e w21 h => ?_
              obtain ⟨rfl, hm2, hc2⟩ := h
              clear hq1
              have HE1 := Lib.hid e1
              clear e1
              have HZ := Lib.hid (hc.trans hc2)
              clear hbx hb4 hb5 hF hc hc2 hm2 hM
              go_wp2_with fail
              go_ret
              rw [match_parts HN.out HD.out.1 HD.out.2.1 HD.out.2.2]
              simp only [HE0.out, HE1.out]
              exact MatchRes.none_ rfl HZ.out
            | some f2 =>
              rw [e1] at hq1
              refine hq1.mono fun e w21 h => ?_
              obtain ⟨rfl, hm2, hc2⟩ := h
              clear hq1
              have HE1 := Lib.hid e1
              replace hM := hm2 f2 rfl
              replace hc := hc.trans hc2
              replace hbx := hc2.blk hbx fun h => absurd h.2 (by decide)
              replace hb4 := hc2.blk hb4 fun h => absurd h.2 (by decide)
              replace hb5 := hc2.blk hb5 fun h => absurd h.2 (by decide)
              replace hF := hF.keep hc2 HP.out.2.1
              clear hc2 hm2 e1
              obtain ⟨x0, x1, x2, x3, x4, x5⟩ := hb4.cells6
              obtain ⟨u0, u1, u2, u3, u4, u5⟩ := hb5.cells6
              have xp : w21.cell? ⟨g3, 0, none⟩ = some (.pointer (some ⟨gF, 0, none⟩)) := by simpa using hbx.cell 0
              have hq2 := ueqfType_of n m B gF q names An cn HP.out.2.1 HP.out.2.2 w21 a.res b.res Ar cr Br dr f2 (Nat.le_trans HP.out.1 hc.size) hF hM (SlR.keep HA.out.2.2.2 hc (mb_lets HP.out.2.1).lets fun _ _ h => TyR.keep hc (mb_lets HP.out.2.1) h) (SlR.keep HC.out.2.2.2 hc (mb_lets HP.out.2.1).lets fun _ _ h => TyR.keep hc (mb_lets HP.out.2.1) h) s6a s6b
              go_wp2_with fail
              clear x0 x1 x2 x3 x4 x5 u0 u1 u2 u3 u4 u5 xp
              cases e2 : matchL (matchT names n) (noNm a.res) (noNm b.res) f2 with
              | none =>
                rw [e2] at hq2
                refine hq2.mono fun e w22 h => ?_
                obtain ⟨rfl, hm2, hc2⟩ := h
                clear hq2
                have HE2 := Lib.hid e2
                clear e2
                have HZ := Lib.hid (hc.trans hc2)
                clear hbx hb4 hb5 hF hc hc2 hm2 hM
                go_wp2_with fail
                go_ret
                rw [match_parts HN.out HD.out.1 HD.out.2.1 HD.out.2.2]
                simp only [HE0.out, HE1.out, HE2.out]
                exact MatchRes.none_ rfl HZ.out
              | some f3 =>
                rw [e2] at hq2
                refine hq2.mono fun e w22 h => ?_
                obtain ⟨rfl, hm2, hc2⟩ := h
                clear hq2
                have HE2 := Lib.hid e2
                replace hM := hm2 f3 rfl
                replace hc := hc.trans hc2
                replace hbx := hc2.blk hbx fun h => absurd h.2 (by decide)
                replace hb4 := hc2.blk hb4 fun h => absurd h.2 (by decide)
                replace hb5 := hc2.blk hb5 fun h => absurd h.2 (by decide)
                replace hF := hF.keep hc2 HP.out.2.1
                clear hc2 hm2 e2
                have HZ := Lib.hid (And.intro hM hc)
                clear hbx hb4 hb5 hF hc hM
                go_wp2_with fail
                go_ret
                rw [match_parts HN.out HD.out.1 HD.out.2.1 HD.out.2.2]
                simp only [HE0.out, HE1.out, HE2.out]
                exact MatchRes.some_ rfl HZ.out.1 HZ.out.2
        · have HD := Lib.hid (show ¬ (a.kind = b.kind ∧ a.name = b.name ∧ a.con = b.con) from fun h => k3 h.2.2)
          have q1 : (a.kind == b.kind) = true := by simp [k1]
          have q1p : (a.kind != b.kind) = false := by simp [k1]
          have q2 : (a.name.toList == b.name.toList) = true := str_eq k2
          have q2p : (a.name.toList != b.name.toList) = false := by simp [k2]
          have q3 : (a.con == b.con) = false := by simp [k3]
          have q3p : (a.con != b.con) = true := by simp [k3]
          clear k1 k2 k3
          have HZ := Lib.hid hc
          clear hbx hb4 hb5 hF hc hM
          go_wp2_with fail
          go_ret
          rw [match_diff HN.out HD.out]
          exact MatchRes.none_ rfl HZ.out
      · have HD := Lib.hid (show ¬ (a.kind = b.kind ∧ a.name = b.name ∧ a.con = b.con) from fun h => k2 h.2.1)
        have q1 : (a.kind == b.kind) = true := by simp [k1]
        have q1p : (a.kind != b.kind) = false := by simp [k1]
        have q2 : (a.name.toList == b.name.toList) = false := str_ne k2
        have q2p : (a.name.toList != b.name.toList) = true := by simp only [bne, str_ne k2]; rfl
        clear k1 k2
        have HZ := Lib.hid hc
        clear hbx hb4 hb5 hF hc hM
        go_wp2_with fail
        go_ret
        rw [match_diff HN.out HD.out]
        exact MatchRes.none_ rfl HZ.out
    · have HD := Lib.hid (show ¬ (a.kind = b.kind ∧ a.name = b.name ∧ a.con = b.con) from fun h => k1 h.1)
      have q1 : (a.kind == b.kind) = false := by simp [k1]
      have q1p : (a.kind != b.kind) = true := by simp [k1]
      clear k1
      have HZ := Lib.hid hc
      clear hbx hb4 hb5 hF hc hM
      go_wp2_with fail
      go_ret
      rw [match_diff HN.out HD.out]
      exact MatchRes.none_ rfl HZ.out
theorem umatch_any (m B gF q : Nat) (names : List ByteArray) (An : Option Addr) (cn : Nat) (hq : B ≤ q) (hnl : names.length ≤ 1048576) : ∀ n, MatchC n m B gF q names An cn
  | 0 => fun w a b Af cf Al cl Ar cr Bf df Bl dl Br dr f hB hF hM hA hC => hA.elim
  | n + 1 => umatch_step n m B gF q names An cn hq hnl (umatch_any m B gF q names An cn hq hnl n)
end Go.Proofs.YtlbcaiohjghclaaDoor
