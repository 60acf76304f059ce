/-
  The reference's row of objects, told by what each name's rows are.
-/
import Derived.Test.YteigopmdhhgnfaaHrReached
namespace Go.Proofs.Yteigopmdhhgnfaa
open Go.RowKit
set_option linter.unusedVariables false
set_option linter.unusedSimpArgs false

theorem infoRObj : (Try.prog.info? 39).map (fun i => (i.zero, i.size, i.bytes)) = some (some (.agg #[.int .i64 0, .slice none 0 0, .slice none 0 0]), 3, 56) := by kernel_rfl
structure HdrT where
  A : Nat → Option Addr
  c : Nat → Nat
  B : Nat → Option Addr
  d : Nat → Nat
def XoR (h : HdrT) (_ : World) (cs : List Value) (x : ObjD) : Prop := cs = [.int .i64 (x.name : Int), .slice (h.A x.name) x.cells.length (h.c x.name), .slice (h.B x.name) x.refs.length (h.d x.name)]
/-- The rows of the objects. -/
structure RDat (F : Nat → Prop) (w : World) (h : HdrT) (S : List ObjD) : Prop where
  obj : ∀ x ∈ S, RowR 0 44 1 U64V w (h.A x.name) (h.c x.name) x.cells ∧ RowR 0 4 1 BooV w (h.B x.name) (h.d x.name) x.refs ∧ (∀ g, OwnB (h.A x.name) x.cells.length (h.c x.name) g → F g) ∧ (∀ g, OwnB (h.B x.name) x.refs.length (h.d x.name) g → F g)
  dist : ∀ o ∈ S, ∀ o' ∈ S, ∀ g, OwnB (h.A o.name) o.cells.length (h.c o.name) g → OwnB (h.A o'.name) o'.cells.length (h.c o'.name) g → o.name = o'.name
section
variable {M : Nat → Nat → Prop} {F F' : Nat → Prop} {w w' : World} {A : Option Addr} {c q bud k n : Nat} {S S' : List ObjD} {cs : List Value} {x : ObjD} {hd : HdrT}
theorem RDat.keep (h : RDat F w hd S) (hc : Chg M w w') (hm : ∀ b t, F b → ¬ M b t) : RDat F w' hd S :=
  ⟨fun x hx => ⟨(h.obj x hx).1.keep1 hc (fun g hg => hm g _ ((h.obj x hx).2.2.1 g hg)) fun _ _ h => h, (h.obj x hx).2.1.keep1 hc (fun g hg => hm g _ ((h.obj x hx).2.2.2 g hg)) fun _ _ h => h, (h.obj x hx).2.2⟩, h.dist⟩
theorem RDat.keepT (h : RDat F w hd S) (hc : Chg M w w') (hm : ∀ b, ¬ M b 44 ∧ ¬ M b 4) : RDat F w' hd S :=
  ⟨fun x hx => ⟨(h.obj x hx).1.keep1 hc (fun g hg => (hm g).1) fun _ _ h => h, (h.obj x hx).2.1.keep1 hc (fun g hg => (hm g).2) fun _ _ h => h, (h.obj x hx).2.2⟩, h.dist⟩
theorem RDat.sub (h : RDat F w hd S) (hs : ∀ x ∈ S', x ∈ S) : RDat F w hd S' :=
  ⟨fun x hx => h.obj x (hs x hx), fun o ho o' ho' => h.dist o (hs o ho) o' (hs o' ho')⟩
theorem RDat.more (h : RDat F w hd S) (hF : ∀ b, F b → F' b) : RDat F' w hd S :=
  ⟨fun x hx => ⟨(h.obj x hx).1, (h.obj x hx).2.1, fun g hg => hF g ((h.obj x hx).2.2.1 g hg), fun g hg => hF g ((h.obj x hx).2.2.2 g hg)⟩, h.dist⟩
theorem RObjs.hdr (h : RObjs F w A c S) (hs : S.Pairwise fun a b => a.name < b.name) : ∃ hd, RowR 0 39 3 (XoR hd) w A c S ∧ RDat F w hd S ∧ ∀ g, OwnB A S.length c g → F g := by
  obtain ⟨xss, h1, h2, h3, h4, h5, h6⟩ := h
  have hex : ∀ n : Nat, ∃ r : Option Addr × Nat × Option Addr × Nat, ∀ (k : Nat) x cs, S[k]? = some x → xss[k]? = some cs → x.name = n → cs = [.int .i64 (x.name : Int), .slice r.1 x.cells.length r.2.1, .slice r.2.2.1 x.refs.length r.2.2.2] := by
    intro n
    by_cases hn : ∃ (k : Nat) (x : ObjD), S[k]? = some x ∧ x.name = n
    · obtain ⟨k, x, hk, hn⟩ := hn
      have hkx : k < xss.length := by rw [h2]; exact (List.getElem?_eq_some_iff.1 hk).1
      obtain ⟨A, c, A', c', he, _⟩ := h4 k x xss[k] hk (List.getElem?_eq_getElem hkx)
      refine ⟨(A, c, A', c'), fun j y cs hj hcs hy => ?_⟩
      have := name_inj hs hj hk (by omega)
      subst this
      rw [hk] at hj
      injection hj with hj
      subst hj
      rw [List.getElem?_eq_getElem hkx] at hcs
      injection hcs with hcs
      rw [← hcs]
      exact he
    · exact ⟨(none, 0, none, 0), fun j y cs hj _ hy => absurd ⟨j, y, hj, hy⟩ hn⟩
  have hsp := fun n => (hex n).choose_spec

  have hx : ∀ (k : Nat) x cs, S[k]? = some x → xss[k]? = some cs → cs = [.int .i64 (x.name : Int), .slice (hex x.name).choose.1 x.cells.length (hex x.name).choose.2.1, .slice (hex x.name).choose.2.2.1 x.refs.length (hex x.name).choose.2.2.2] := fun k x cs a b => hsp x.name k x cs a b rfl
  have hget : ∀ x ∈ S, ∃ (k : Nat) (cs : List Value), S[k]? = some x ∧ xss[k]? = some cs := fun x hx => by
    obtain ⟨k, hk⟩ := List.getElem?_of_mem hx
    exact ⟨k, _, hk, List.getElem?_eq_getElem (by rw [h2]; exact (List.getElem?_eq_some_iff.1 hk).1)⟩
  refine ⟨⟨fun n => (hex n).choose.1, fun n => (hex n).choose.2.1, fun n => (hex n).choose.2.2.1, fun n => (hex n).choose.2.2.2⟩, ⟨xss, h1, h2, h3, hx⟩, ⟨fun x hxS => ?_, fun o ho o' ho' g hg hg' => ?_⟩, h6⟩
  · obtain ⟨k, cs, hk, hcs⟩ := hget x hxS
    obtain ⟨A, c, A', c', he, r1, r2, r3, r4⟩ := h4 k x cs hk hcs
    have := hx k x cs hk hcs
    rw [he] at this
    obtain ⟨e1, e2, e3, e4⟩ : A = (hex x.name).choose.1 ∧ c = (hex x.name).choose.2.1 ∧ A' = (hex x.name).choose.2.2.1 ∧ c' = (hex x.name).choose.2.2.2 := by simpa [and_assoc] using this
    simp only
    rw [← e1, ← e2, ← e3, ← e4]
    exact ⟨r1, r2, r3, r4⟩
  · obtain ⟨k, cs, hk, hcs⟩ := hget o ho
    obtain ⟨k', cs', hk', hcs'⟩ := hget o' ho'
    have := h5 k k' cs cs' g hcs hcs' (by rw [hx k o cs hk hcs]; exact hg) (by rw [hx k' o' cs' hk' hcs']; exact hg')
    subst this
    rw [hk] at hk'
    injection hk' with hk'
    rw [hk']
theorem RObjs.of_x (hr : RowR 0 39 3 (XoR hd) w A c S) (h : RDat F w hd S) (ho : ∀ g, OwnB A S.length c g → F g) (hs : S.Pairwise fun a b => a.name < b.name) : RObjs F w A c S := by
  obtain ⟨xss, h1, h2, h3, h4⟩ := hr
  refine ⟨xss, h1, h2, h3, fun k x cs hk hcs => ?_, fun i j ci cj g hi hj h5 h6 => ?_, ho⟩
  · have := h4 k x cs hk hcs
    obtain ⟨r1, r2, r3, r4⟩ := h.obj x (List.mem_of_getElem? hk)
    exact ⟨_, _, _, _, this, r1, r2, r3, r4⟩
  · have hil : i < S.length := by rw [← h2]; exact (List.getElem?_eq_some_iff.1 hi).1
    have hjl : j < S.length := by rw [← h2]; exact (List.getElem?_eq_some_iff.1 hj).1
    have hi' := List.getElem?_eq_getElem hil
    have hj' := List.getElem?_eq_getElem hjl
    have e1 := h4 i _ ci hi' hi
    have e2 := h4 j _ cj hj' hj
    unfold XoR at e1 e2
    rw [e1] at h5
    rw [e2] at h6
    exact name_inj hs hi' hj' (h.dist _ (List.getElem_mem hil) _ (List.getElem_mem hjl) g h5 h6)
end
theorem filt_step {S : List ObjD} {k : Nat} {o : ObjD} (h : S[k]? = some o) (p : ObjD → Bool) : (S.take (k + 1)).filter p = (S.take k).filter p ++ (if p o then [o] else []) := by
  obtain ⟨h1, h2⟩ := List.getElem?_eq_some_iff.1 h
  rw [List.take_succ_eq_append_getElem h1, h2, List.filter_append]
  congr 1
  simp [List.filter_cons]
theorem filt_len (S : List ObjD) (k : Nat) (p : ObjD → Bool) : ((S.take k).filter p).length ≤ S.length := Nat.le_trans (List.length_filter_le _ _) (by rw [List.length_take]; omega)
theorem mark_at {S : List ObjD} {roots : List Int} {k : Nat} {o : ObjD} (h : S[k]? = some o) : (S.map fun o => rchB S roots o.name)[k]? = some (rchB S roots o.name) := by rw [List.getElem?_map, h]; rfl
end Go.Proofs.Yteigopmdhhgnfaa
