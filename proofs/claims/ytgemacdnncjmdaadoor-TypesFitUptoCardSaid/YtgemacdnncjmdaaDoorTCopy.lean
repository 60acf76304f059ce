/-
  types.Put with no map and with one of our own; Clone, Copy.
-/
import Derived.Test.YtgemacdnncjmdaaDoorTPut
import Derived.Test.YtgemacdnncjmdaaDoorTMap
import Derived.Test.YtgemacdnncjmdaaDoorTMeas
namespace Go.Proofs.YtgemacdnncjmdaaDoor
open Go.RowKit
set_option linter.unusedVariables false
set_option linter.unusedSimpArgs false

theorem zero_ty (w : World) : (zeroValue 33).run Tryd.prog w = .ok (.agg #[.int .i64 0, .string ⟨#[]⟩, .int .i64 0, .slice none 0 0, .slice none 0 0, .slice none 0 0]) w := by
  obtain ⟨i39, hi39, hz39, hs39, hb39⟩ := info_parts infoType
  simp [zeroValue, typeInfo, hi39, hz39]
  rfl
theorem byc_none (ma B : Nat) (w : World) : ByC ma B (fun _ => none) (.map none) w := fun s hs => .inl ⟨rfl, look_nil_ok w Tryd.underlying62 (zero_ty w) (by simp only [maxLen]; omega)⟩
theorem put_plain (B : Nat) : ∀ n, PutC n n B (fun _ => none) (.map none) (fun _ => True)
  | 0 => fun w t Af cf Al cl Ar cr hB hP hT => hT.elim
  | n + 1 => put_step n n 0 B _ _ _ (fun _ _ _ _ => trivial) (Nat.zero_le _) (fun w _ => byc_none 0 B w) (.inl fun _ => rfl) (put_plain B n)
set_option maxRecDepth 100000 in
set_option maxHeartbeats 1000000 in
theorem clone_any (n B : Nat) : CloneC n B := by
  intro w t Af cf Al cl Ar cr hB hT
  have hb1 := (Blk.new w 33 #[.int .i64 t.kind, .string t.name, .int .i64 t.con, .slice Af t.fields.length cf, .slice Al t.list.length cl, .slice Ar t.res.length cr]).alloc (.cells #[.int .i64 0, .string ⟨#[]⟩, .int .i64 0, .slice none 0 0, .slice none 0 0, .slice none 0 0] 33)
  have hb2 := Blk.new (w.alloc (.cells #[.int .i64 t.kind, .string t.name, .int .i64 t.con, .slice Af t.fields.length cf, .slice Al t.list.length cl, .slice Ar t.res.length cr] 33)) 33 #[.int .i64 0, .string ⟨#[]⟩, .int .i64 0, .slice none 0 0, .slice none 0 0, .slice none 0 0]
  have hc1 := (chg_alloc w (.cells #[.int .i64 t.kind, .string t.name, .int .i64 t.con, .slice Af t.fields.length cf, .slice Al t.list.length cl, .slice Ar t.res.length cr] 33)).alloc (.cells #[.int .i64 0, .string ⟨#[]⟩, .int .i64 0, .slice none 0 0, .slice none 0 0, .slice none 0 0] 33)
  simp only [World.size_alloc] at hb2
  have hcall := put_plain B n _ t Af cf Al cl Ar cr (Nat.le_trans hB hc1.size) trivial (TyR.keep0 hc1 hT)
  rw [Ty.fill_none] at hcall
  have HH := Lib.hid (And.intro hb2 hc1)
  clear hB hT hb1 hb2 hc1
  go_enter Tryd.func33, Tryd.ntmps33
  go_wp2_with fail
  generalize (w.alloc (.cells #[.int .i64 t.kind, .string t.name, .int .i64 t.con, .slice Af t.fields.length cf, .slice Al t.list.length cl, .slice Ar t.res.length cr] 33)).alloc (.cells #[.int .i64 0, .string ⟨#[]⟩, .int .i64 0, .slice none 0 0, .slice none 0 0, .slice none 0 0] 33) = W at hcall HH ⊢
  generalize hg2 : w.heap.size + 1 = g2 at HH ⊢
  refine hcall.mono fun e w1 h => ?_
  obtain ⟨Bf, bf, Bl, bl, Br, br, rfl, hN, hc2⟩ := h
  clear hcall
  have hb2 := hc2.blk HH.out.1 id
  obtain ⟨d0, d1, d2, d3, d4, d5⟩ := hb2.cells6
  have e0 := hb2.frozen 0
  have e1 := hb2.frozen 1
  have e2 := hb2.frozen 2
  have e3 := hb2.frozen 3
  have e4 := hb2.frozen 4
  have e5 := hb2.frozen 5
  have HN := Lib.hid (And.intro hN (And.intro hc2 hb2))
  clear hN hc2 hb2
  go_wp2_with fail
  clear d0 d1 d2 d3 d4 d5 e0 e1 e2 e3 e4 e5
  obtain ⟨hbz, hcz⟩ := blk_set6 HN.out.2.2 (.int .i64 t.kind) (.string t.name) (.int .i64 t.con) (.slice Bf t.fields.length bf) (.slice Bl t.list.length bl) (.slice Br t.res.length br)
  obtain ⟨d0, d1, d2, d3, d4, d5⟩ := hbz.cells6
  refine bodyPost_ret (v := .agg #[.int .i64 t.kind, .string t.name, .int .i64 t.con, .slice Bf t.fields.length bf, .slice Bl t.list.length bl, .slice Br t.res.length br]) (by simp [results, Tryd.results33, go_sem, d0, d1, d2, d3, d4, d5]) rfl ?_
  have hgW : g2 < W.heap.size := HH.out.1.lt
  have hwW := HH.out.2.size
  refine ⟨Bf, bf, Bl, bl, Br, br, rfl, ?_, (HH.out.2.trans HN.out.2.1).trans_new hcz fun b t hb h => by have := h.1; omega⟩
  exact TyN.sub (fun b _ h => Nat.le_trans hwW h) (TyN.keep hcz (fun b t hb _ h => by have h1 : W.heap.size ≤ b := hb; have := h.1; omega) HN.out.1)
end Go.Proofs.YtgemacdnncjmdaaDoor
