/-
  Set of the program's heap.
-/
import Derived.Test.YteigopmdhhgnfaaHpGet
import Derived.Laws.OwnMore
namespace Go.Proofs.Yteigopmdhhgnfaa
open Go.RowKit
set_option linter.unusedVariables false
set_option linter.unusedSimpArgs false

theorem flat_one {α : Type} (f : α → Value) (l : List α) : (l.map fun x => [f x]).flatten = l.map f := by
  induction l with
  | nil => rfl
  | cons a l ih => simp only [List.map_cons, List.flatten_cons, List.singleton_append, ih]
/-- A row of numbers, as the owned row that it is. -/
theorem rowU {D c : Nat} {w : World} {A : Option Addr} {l : List Nat} : RowR D 44 1 U64V w A c l ↔ w.ownsRow D 44 1 (.slice A l.length c) l.length (l.map fun x : Nat => Value.int .u64 (x : Int)) := by
  constructor
  · rintro ⟨xss, h1, h2, h3, h4⟩
    have : xss = l.map fun x : Nat => [Value.int .u64 (x : Int)] := by
      apply List.ext_getElem (by simpa using h2)
      intro k k1 k2
      have k3 : k < l.length := by simpa using k2
      have := h4 k l[k] xss[k] (List.getElem?_eq_getElem k3) (List.getElem?_eq_getElem k1)
      rw [this]
      simp
    rw [this, flat_one] at h1
    exact h1
  · intro h
    refine ⟨l.map fun x : Nat => [Value.int .u64 (x : Int)], by rw [flat_one]; exact h, by simp, fun cs hcs => ?_, fun k x cs hx hcs => ?_⟩
    · obtain ⟨x, _, rfl⟩ := List.mem_map.1 hcs
      rfl
    · rw [List.getElem?_map, hx] at hcs
      simp at hcs
      exact hcs.symm
theorem u64_set {D c k : Nat} {w : World} {A : Option Addr} {l : List Nat} (h : RowR D 44 1 U64V w A c l) (hk : k < l.length) (v : Nat) :
    ∃ g cur, A = some ⟨g, 0, none⟩ ∧ Blk w g 44 cur ∧ k < cur.size ∧ RowR D 44 1 U64V (w.setCell ⟨g, k, none⟩ (.int .u64 (v : Int))) A c (l.set k v) := by
  have h1 := rowU.1 h
  obtain ⟨hl, h2⟩ := h1
  rcases h2 with ⟨hv, h0⟩ | ⟨g, cap, cur, hv, hg, hb, hnc, hm, hs, ht⟩
  · omega
  · injection hv with hA _ hc
    subst hA hc
    refine ⟨g, cur, rfl, hb, by omega, rowU.2 ?_⟩
    have := World.ownsRow.stored (rowU.1 h) k (Value.int .u64 (v : Int))
    rw [List.length_set, List.map_set]
    exact this.1
/-- What Set answers. -/
def setE (S : List ObjD) (o i : Int) (v : Nat) : Int :=
  match findO S o with
  | none => 15
  | some x => if 0 ≤ i ∧ i < (x.cells.length : Int) then (if x.refs.getD i.toNat false = true ∧ v ≠ 0 ∧ (findO S v).isSome = false then 15 else 0) else 16
/-- What Set leaves. -/
def setS (S : List ObjD) (o i : Int) (v : Nat) : List ObjD := if setE S o i v = 0 then putO S o.toNat i.toNat v else S
theorem setE_none {S : List ObjD} {o i : Int} {v : Nat} (h : findO S o = none) : setE S o i v = 15 := by unfold setE; rw [h]
theorem setE_out {S : List ObjD} {o i : Int} {v : Nat} {x : ObjD} (h : findO S o = some x) (hi : ¬ (0 ≤ i ∧ i < (x.cells.length : Int))) : setE S o i v = 16 := by unfold setE; rw [h]; exact if_neg hi
theorem setE_bad {S : List ObjD} {o i : Int} {v : Nat} {x : ObjD} (h : findO S o = some x) (hi : 0 ≤ i ∧ i < (x.cells.length : Int)) (hr : x.refs.getD i.toNat false = true ∧ v ≠ 0 ∧ (findO S v).isSome = false) : setE S o i v = 15 := by unfold setE; rw [h]; simp only [hi, and_self, if_true]; exact if_pos hr
theorem setE_ok {S : List ObjD} {o i : Int} {v : Nat} {x : ObjD} (h : findO S o = some x) (hi : 0 ≤ i ∧ i < (x.cells.length : Int)) (hr : ¬ (x.refs.getD i.toNat false = true ∧ v ≠ 0 ∧ (findO S v).isSome = false)) : setE S o i v = 0 := by unfold setE; rw [h]; simp only [hi, and_self, if_true]; exact if_neg hr
/-- The heap behind a cell written. -/
theorem HpI.put {G : Nat → Prop} {w : World} {p m n cnt : Nat} {bo : Nat → Nat} {A : Nat → Option Addr} {c : Nat → Nat} {S : List ObjD} {bud least : Nat} (h : HpI G w p m n cnt bo A c S bud least) {x : ObjD} (hx : x ∈ S) {k v : Nat} (hk : k < x.cells.length) (hv : v < 18446744073709551616) (hr : x.refs[k]? = some true → v = 0 ∨ (findO S v).isSome = true) :
    ∃ g cur, A x.name = some ⟨g, 0, none⟩ ∧ Blk w g 44 cur ∧ k < cur.size ∧ HpI G (w.setCell ⟨g, k, none⟩ (.int .u64 (v : Int))) p m n cnt bo A c (putO S x.name k v) bud least ∧ Chg (MH G) w (w.setCell ⟨g, k, none⟩ (.int .u64 (v : Int))) := by
  obtain ⟨A', c', hb, hc, hm, ho, ho', hG⟩ := h.obj x hx
  obtain ⟨g, cur, hA, hbg, hkc, hrow⟩ := u64_set hc hk v
  have hch := chg_set (j := k) hbg (.int .u64 (v : Int))
  have hGg : G g := ho g (by rw [hA]; rfl)
  have hgd : ∀ x' ∈ S, x'.name = x.name → x' = x := fun x' hx' he => by
    have h1 := findO_some h.good.sorted hx
    have h2 := findO_some h.good.sorted hx'
    rw [he, h1] at h2
    injection h2 with h2
    exact h2.symm
  refine ⟨g, cur, hA, hbg, hkc, ⟨?_, ?_, ?_, ?_, h.own, fun b hb => ?_, good_put h.good hv fun x' hx' he hrr => ?_, ⟨h.low.1, fun i h1 h2 => by rw [findO_put_isSome]; exact h.low.2 i h1 h2⟩, by rw [usedO_put]; exact h.room⟩, hch.mono fun b t _ hm => ⟨hm.1 ▸ hGg, .inr (.inl hm.2)⟩⟩
  · rw [usedO_put]
    exact hch.blk h.blk fun hm => absurd hm.2 (by decide)
  · refine (h.map.keep hch fun hm => absurd hm.2 (by decide)).ext fun s _ => ?_
    rw [findO_put]
    cases findO S s with
    | none => rfl
    | some y => simp [putX_name]
  · intro y hy
    obtain ⟨z, hz, rfl⟩ := List.mem_map.1 hy
    rw [putX_name]
    obtain ⟨B', d', kb, kc, km, ko, ko', kG⟩ := h.obj z hz
    by_cases he : z.name = x.name
    · obtain rfl := hgd z hz he
      rw [putX_same rfl]
      refine ⟨B', d', ?_, ?_, km.keep1 hch (fun _ _ hm => absurd hm.2 (by decide)) fun _ _ h => h, ?_, ko', kG⟩
      · simp only [List.length_set]
        exact hch.blk kb fun hm => absurd hm.2 (by decide)
      · exact hrow
      · simp only [List.length_set]
        exact ko
    · rw [putX_other he]
      refine ⟨B', d', hch.blk kb fun hm => absurd hm.2 (by decide), kc.keep1 hch (fun b hb hm => he ?_) fun _ _ h => h, km.keep1 hch (fun _ _ hm => absurd hm.2 (by decide)) fun _ _ h => h, ko, ko', kG⟩
      exact h.dist z hz x hx g (by rw [← hm.1]; exact hb) (by rw [hA]; rfl)
  · intro y hy y' hy' gg h1 h2
    obtain ⟨z, hz, rfl⟩ := List.mem_map.1 hy
    obtain ⟨z', hz', rfl⟩ := List.mem_map.1 hy'
    rw [putX_name, putX_len] at h1 h2
    rw [putX_name, putX_name]
    exact h.dist z hz z' hz' gg h1 h2
  · simpa [World.setCell] using h.lt b hb
  · obtain rfl := hgd x' hx' he
    exact hr hrr
set_option maxRecDepth 100000 in
set_option maxHeartbeats 2000000 in
theorem hset_any (G : Nat → Prop) (w : World) (p m n cnt : Nat) (bo : Nat → Nat) (A : Nat → Option Addr) (c : Nat → Nat) (S : List ObjD) (bud least : Nat) (o i : Int) (v : Nat) (h : HpI G w p m n cnt bo A c S bud least) (ho : I64 o) (hv : v < 18446744073709551616) :
    Calls Try.prog 30 #[.pointer (some ⟨p, 0, none⟩), .int .i64 o, .int .i64 i, .int .u64 (v : Int)] w fun e w' => e = .returned (.int .i64 (setE S o i v)) ∧ HpI G w' p m n cnt bo A c (setS S o i v) bud least ∧ Chg (MH G) w w' := by
  have hc := hcell_any G w p m n cnt bo A c S bud least o i h ho
  unfold setS
  cases hf : findO S o with
  | none =>
    rw [setE_none hf, if_neg (by decide)]
    rw [cellV_none hf] at hc
    have HH := Lib.hid h
    clear hf h
    go_enter Try.func30, Try.ntmps30
    go_wp2_with fail
    refine hc.mono fun e w1 h => ?_
    obtain ⟨rfl, hc1⟩ := h
    clear hc
    have HC := Lib.hid hc1
    clear hc1
    go_wp2_with fail
    go_ret
    exact ⟨rfl, HH.out.keep HC.out fun _ _ _ => id, HC.out.mono fun _ _ _ h => h.elim⟩
  | some x =>
    by_cases hi : 0 ≤ i ∧ i < (x.cells.length : Int)
    · rw [cellV_in hf hi] at hc
      obtain ⟨hx, hxo⟩ := findO_mem hf
      obtain ⟨A', c', hb, hr, hm, _⟩ := h.obj x hx
      obtain ⟨k, rfl⟩ : ∃ k : Nat, i = (k : Int) := ⟨i.toNat, by omega⟩
      have hk : k < x.cells.length := by omega
      have hk2 : k < x.refs.length := by rw [h.good.len x hx]; exact hk
      have HX := Lib.hid (And.intro hb (And.intro hm (And.intro h hx)))
      have q1 : (k : Int) < (x.cells.length : Int) := by omega
      have q2 : (k : Int) < (x.refs.length : Int) := by omega
      have hok := fun hn => setE_ok (v := v) hf hi hn
      have hbad := fun hn => setE_bad (v := v) hf hi hn
      rw [Int.toNat_natCast] at hok hbad
      have hon : o.toNat = x.name := by omega
      have hgr : x.refs[k]? = some (x.refs.getD k false) := by rw [List.getD_eq_getElem?_getD, List.getElem?_eq_getElem hk2]; rfl
      have htop : ∀ y : Nat, 65536 < y → (findO S y).isSome = false := fun y hy => by
        cases hq : (findO S y).isSome with
        | false => rfl
        | true =>
          obtain ⟨z, hz, he⟩ := findO_isSome.1 hq
          have := h.good.top z hz
          omega
      rw [Int.toNat_natCast, hon]
      clear hon
      cases hr1 : x.refs.getD k false with
      | false =>
        rw [hok (by rw [hr1]; simp), if_pos rfl]
        have HV := Lib.hid hr1
        have HR := Lib.hid (show x.refs[k]? = some true → v = 0 ∨ (findO S v).isSome = true from fun hh => by rw [hgr, hr1] at hh; cases hh)
        clear hf h hi hxo hb hr hm hok hbad hgr hr1 htop hx
        go_enter Try.func30, Try.ntmps30
        go_wp2_with fail
        refine hc.mono fun e w1 h => ?_
        obtain ⟨rfl, hc1⟩ := h
        clear hc
        have HC := Lib.hid hc1
        clear hc1
        obtain ⟨hb, hm, hh, hx⟩ := HX.out
        obtain ⟨gb', go', hA', z1⟩ := boo_at (hm.keep HC.out (fun _ _ h => h) fun _ _ h => h) hk2
        rw [HV.out] at z1
        have hh1 := hh.keep HC.out fun _ _ _ => id
        have x0 : w1.cell? ⟨p, 0, none⟩ = some (.map (some m)) := by simpa using hh1.blk.cell 0
        have y1 : w1.cell? ⟨bo x.name, 1, none⟩ = some (.slice (some ⟨gb', go', none⟩) x.refs.length c') := by rw [← hA']; simpa using (HC.out.blk hb id).cell 1
        obtain ⟨g, cur, hA, hbg, hkc, hH, hch⟩ := hh1.put hx hk hv HR.out
        have y0 : w1.cell? ⟨bo x.name, 0, none⟩ = some (.slice (some ⟨g, 0, none⟩) x.cells.length (c x.name)) := by rw [← hA]; simpa using (HC.out.blk hb id).cell 0
        obtain ⟨u0, z0⟩ : ∃ u, w1.cell? ⟨g, k, none⟩ = some u := ⟨_, (hbg.cell k).trans (Array.getElem?_eq_getElem hkc)⟩
        have z0f := hbg.frozen k
        have HF := Lib.hid (And.intro hH ((HC.out.mono fun _ _ _ h => h.elim).trans hch))
        clear hb hm hh hx hh1 hA' hA hbg hkc hH hch
        go_wp2_with fail
        go_ret
        exact ⟨rfl, HF.out.1, HF.out.2⟩
      | true =>
        by_cases hv0 : v = 0
        · rw [hok (by simp [hv0]), if_pos rfl]
          have HV := Lib.hid hr1
          have HR := Lib.hid (show x.refs[k]? = some true → v = 0 ∨ (findO S v).isSome = true from fun _ => .inl hv0)
          have q3 : ((v : Int) != 0) = false := by simp [hv0]
          have q4 : (v != 0) = false := by simp [hv0]
          clear hf h hi hxo hb hr hm hok hbad hgr hr1 htop hx hv0
          go_enter Try.func30, Try.ntmps30
          go_wp2_with fail
          refine hc.mono fun e w1 h => ?_
          obtain ⟨rfl, hc1⟩ := h
          clear hc
          have HC := Lib.hid hc1
          clear hc1
          obtain ⟨hb, hm, hh, hx⟩ := HX.out
          obtain ⟨gb', go', hA', z1⟩ := boo_at (hm.keep HC.out (fun _ _ h => h) fun _ _ h => h) hk2
          rw [HV.out] at z1
          have hh1 := hh.keep HC.out fun _ _ _ => id
          have x0 : w1.cell? ⟨p, 0, none⟩ = some (.map (some m)) := by simpa using hh1.blk.cell 0
          have y1 : w1.cell? ⟨bo x.name, 1, none⟩ = some (.slice (some ⟨gb', go', none⟩) x.refs.length c') := by rw [← hA']; simpa using (HC.out.blk hb id).cell 1
          obtain ⟨g, cur, hA, hbg, hkc, hH, hch⟩ := hh1.put hx hk hv HR.out
          have y0 : w1.cell? ⟨bo x.name, 0, none⟩ = some (.slice (some ⟨g, 0, none⟩) x.cells.length (c x.name)) := by rw [← hA]; simpa using (HC.out.blk hb id).cell 0
          obtain ⟨u0, z0⟩ : ∃ u, w1.cell? ⟨g, k, none⟩ = some u := ⟨_, (hbg.cell k).trans (Array.getElem?_eq_getElem hkc)⟩
          have z0f := hbg.frozen k
          have HF := Lib.hid (And.intro hH ((HC.out.mono fun _ _ _ h => h.elim).trans hch))
          clear hb hm hh hx hh1 hA' hA hbg hkc hH hch
          go_wp2_with fail
          go_ret
          exact ⟨rfl, HF.out.1, HF.out.2⟩
        · have q3 : ((v : Int) != 0) = true := by simp [hv0]
          have q4 : (v != 0) = true := by simp [hv0]
          by_cases hgt : 4294967296 < v
          · rw [hbad ⟨hr1, hv0, htop v (by omega)⟩, if_neg (by decide)]
            have HV := Lib.hid hr1
            have q5 : (4294967296 : Int) < (v : Int) := by omega
            have q6 : decide (4294967296 < v) = true := decide_eq_true hgt
            have q7 : decide (v > 4294967296) = true := decide_eq_true hgt
            clear hf h hi hxo hb hr hm hok hbad hgr hr1 htop hx hv0 hgt
            go_enter Try.func30, Try.ntmps30
            go_wp2_with fail
            refine hc.mono fun e w1 h => ?_
            obtain ⟨rfl, hc1⟩ := h
            clear hc
            have HC := Lib.hid hc1
            clear hc1
            obtain ⟨hb, hm, hh, hx⟩ := HX.out
            obtain ⟨gb', go', hA', z1⟩ := boo_at (hm.keep HC.out (fun _ _ h => h) fun _ _ h => h) hk2
            rw [HV.out] at z1
            have hh1 := hh.keep HC.out fun _ _ _ => id
            have x0 : w1.cell? ⟨p, 0, none⟩ = some (.map (some m)) := by simpa using hh1.blk.cell 0
            have y1 : w1.cell? ⟨bo x.name, 1, none⟩ = some (.slice (some ⟨gb', go', none⟩) x.refs.length c') := by rw [← hA']; simpa using (HC.out.blk hb id).cell 1
            clear hb hm hh hx hh1 hA'
            go_wp2_with fail
            go_ret
            obtain ⟨_, _, hh, _⟩ := HX.out
            exact ⟨rfl, hh.keep HC.out fun _ _ _ => id, HC.out.mono fun _ _ _ h => h.elim⟩
          · have q5 : ¬ (4294967296 : Int) < (v : Int) := by omega
            have q6 : decide (4294967296 < v) = false := decide_eq_false hgt
            have q7 : decide (v > 4294967296) = false := decide_eq_false hgt
            have q8 : IntKind.i64.wrap (v : Int) = (v : Int) := IntWalk.i64_in _ ⟨by omega, by omega⟩
            have hI : I64 (v : Int) := by unfold I64; omega
            cases hq : findO S (v : Int) with
            | none =>
              rw [hbad ⟨hr1, hv0, by rw [hq]; rfl⟩, if_neg (by decide)]
              have HV := Lib.hid hr1
              have HQ := Lib.hid hq
              clear hf h hi hxo hb hr hm hok hbad hgr hr1 htop hx hv0 hgt hq
              go_enter Try.func30, Try.ntmps30
              go_wp2_with fail
              refine hc.mono fun e w1 h => ?_
              obtain ⟨rfl, hc1⟩ := h
              clear hc
              have HC := Lib.hid hc1
              clear hc1
              obtain ⟨hb, hm, hh, hx⟩ := HX.out
              obtain ⟨gb', go', hA', z1⟩ := boo_at (hm.keep HC.out (fun _ _ h => h) fun _ _ h => h) hk2
              rw [HV.out] at z1
              have hh1 := hh.keep HC.out fun _ _ _ => id
              have x0 : w1.cell? ⟨p, 0, none⟩ = some (.map (some m)) := by simpa using hh1.blk.cell 0
              have y1 : w1.cell? ⟨bo x.name, 1, none⟩ = some (.slice (some ⟨gb', go', none⟩) x.refs.length c') := by rw [← hA']; simpa using (HC.out.blk hb id).cell 1
              have hlk : (Instr.lookup 73 (.map (some m)) (.int .i64 (v : Int)) false).run Try.prog w1 = .ok (.pointer none) w1 := by have := hh1.map.look (t := 73) Try.underlying73 rfl hI; rw [HQ.out] at this; exact this
              clear hb hm hh hx hh1 hA'
              go_wp2_with fail
              go_ret
              obtain ⟨_, _, hh, _⟩ := HX.out
              exact ⟨rfl, hh.keep HC.out fun _ _ _ => id, HC.out.mono fun _ _ _ h => h.elim⟩
            | some z =>
              rw [hok (by rw [hq]; simp), if_pos rfl]
              have HV := Lib.hid hr1
              have HQ := Lib.hid hq
              have HR := Lib.hid (show x.refs[k]? = some true → v = 0 ∨ (findO S v).isSome = true from fun _ => .inr (by rw [hq]; rfl))
              clear hf h hi hxo hb hr hm hok hbad hgr hr1 htop hx hv0 hgt hq
              go_enter Try.func30, Try.ntmps30
              go_wp2_with fail
              refine hc.mono fun e w1 h => ?_
              obtain ⟨rfl, hc1⟩ := h
              clear hc
              have HC := Lib.hid hc1
              clear hc1
              obtain ⟨hb, hm, hh, hx⟩ := HX.out
              obtain ⟨gb', go', hA', z1⟩ := boo_at (hm.keep HC.out (fun _ _ h => h) fun _ _ h => h) hk2
              rw [HV.out] at z1
              have hh1 := hh.keep HC.out fun _ _ _ => id
              have x0 : w1.cell? ⟨p, 0, none⟩ = some (.map (some m)) := by simpa using hh1.blk.cell 0
              have y1 : w1.cell? ⟨bo x.name, 1, none⟩ = some (.slice (some ⟨gb', go', none⟩) x.refs.length c') := by rw [← hA']; simpa using (HC.out.blk hb id).cell 1
              have hlk : (Instr.lookup 73 (.map (some m)) (.int .i64 (v : Int)) false).run Try.prog w1 = .ok (.pointer (some ⟨bo z.name, 0, none⟩)) w1 := by have := hh1.map.look (t := 73) Try.underlying73 rfl hI; rw [HQ.out] at this; exact this
              obtain ⟨g, cur, hA, hbg, hkc, hH, hch⟩ := hh1.put hx hk hv HR.out
              have y0 : w1.cell? ⟨bo x.name, 0, none⟩ = some (.slice (some ⟨g, 0, none⟩) x.cells.length (c x.name)) := by rw [← hA]; simpa using (HC.out.blk hb id).cell 0
              obtain ⟨u0, z0⟩ : ∃ u, w1.cell? ⟨g, k, none⟩ = some u := ⟨_, (hbg.cell k).trans (Array.getElem?_eq_getElem hkc)⟩
              have z0f := hbg.frozen k
              have HF := Lib.hid (And.intro hH ((HC.out.mono fun _ _ _ h => h.elim).trans hch))
              clear hb hm hh hx hh1 hA' hA hbg hkc hH hch
              go_wp2_with fail
              go_ret
              exact ⟨rfl, HF.out.1, HF.out.2⟩
    · rw [setE_out hf hi, if_neg (by decide)]
      rw [cellV_out hf hi] at hc
      have HH := Lib.hid h
      clear hf h hi
      go_enter Try.func30, Try.ntmps30
      go_wp2_with fail
      refine hc.mono fun e w1 h => ?_
      obtain ⟨rfl, hc1⟩ := h
      clear hc
      have HC := Lib.hid hc1
      clear hc1
      go_wp2_with fail
      go_ret
      exact ⟨rfl, HH.out.keep HC.out fun _ _ _ => id, HC.out.mono fun _ _ _ h => h.elim⟩
end Go.Proofs.Yteigopmdhhgnfaa
