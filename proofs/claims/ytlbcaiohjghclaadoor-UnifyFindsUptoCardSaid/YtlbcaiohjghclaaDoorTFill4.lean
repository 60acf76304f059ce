/-
  ref02.Fill at every type; own, owns; types.Same; answers of layer 2.
-/
import Derived.Test.YtlbcaiohjghclaaDoorTTold2
namespace Go.Proofs.YtlbcaiohjghclaaDoor
open Go.RowKit
set_option linter.unusedVariables false
set_option linter.unusedSimpArgs false

theorem assoc_nil : assoc [] [] = fun _ => none := by funext x; simp [assoc]
theorem FillC.weak {n m B : Nat} {f g : ByteArray → Option Ty} {vn va : Value} {P Q : World → Prop} (h : FillC n m B f vn va P) (hf : f = g) (hP : ∀ W, Q W → P W) : FillC n m B g vn va Q := by
  subst hf
  exact fun w t Af cf Al cl Ar cr hB hq hT => h w t Af cf Al cl Ar cr hB (hP _ hq) hT
/-- Fill without names: the same type, in new memory. -/
theorem fill_plain (B : Nat) : ∀ n, FillC n n B (fun _ => none) (.slice none 0 0) (.slice none 0 0) (fun _ => True)
  | 0 => fun w t Af cf Al cl Ar cr hB hP hT => hT.elim
  | n + 1 => (fill_step n n n B [] [] none 0 none 0 (Nat.le_refl _) (by simp) (Nat.le_succ _) (.inl rfl) ((fill_plain B n).weak assoc_nil.symm fun _ _ => trivial)).weak assoc_nil fun W _ => ⟨SlR.nil _ _ _ _ _ _ _, SlR.nil _ _ _ _ _ _ _⟩
/-- Fill with names. -/
theorem fill_names (B ma : Nat) (names : List ByteArray) (args : List Ty) (An : Option Addr) (cn : Nat) (Aa : Option Addr) (ca : Nat) (hlen : names.length ≤ args.length) (hal : args.length ≤ 1048576) :
    ∀ n, FillC n (n + ma) B (assoc names args) (.slice An names.length cn) (.slice Aa args.length ca) (fun W => StrsR B W (.slice An names.length cn) names ∧ TysR ma B W (.slice Aa args.length ca) args)
  | 0 => fun w t Af cf Al cl Ar cr hB hP hT => hT.elim
  | n + 1 => by
    rw [Nat.add_right_comm]
    exact fill_step n (n + ma) ma B names args An cn Aa ca hlen hal (by omega) (.inr (fill_plain B ma)) (fill_names B ma names args An cn Aa ca hlen hal n)
set_option maxRecDepth 100000 in
set_option maxHeartbeats 1000000 in
theorem owns8_any (n B : Nat) (w : World) (l : List Ty) (A : Option Addr) (c : Nat) (hB : B ≤ w.heap.size) (hl : l.length ≤ 1048576) (hT : TysR n B w (.slice A l.length c) l) :
    Calls Tryd.prog 5 #[.slice A l.length c] w (FillsRes n l w) := by
  have hcall := fillAll_of n n B (fun _ => none) (.slice none 0 0) (.slice none 0 0) (fun _ => True) (fun _ _ _ _ => trivial) (fill_plain B n) w l A c hB trivial hl hT
  rw [show l.map (Ty.fill fun _ => none) = l from (List.map_congr_left (g := id) fun t _ => Ty.fill_none t).trans (List.map_id _)] at hcall
  clear hB hT
  go_enter Tryd.func5, Tryd.ntmps5
  go_wp2_with fail
  refine hcall.mono fun e w1 h => ?_
  obtain ⟨A1, c1, rfl, hN, hc2⟩ := h
  have HN := Lib.hid (And.intro hN hc2)
  clear hcall hN hc2
  go_wp2_with fail
  go_ret
  exact ⟨A1, c1, rfl, HN.out.1, HN.out.2⟩
/-- The type that 'answers' asks about. -/
def tyI8 : Ty := .mk 2 ⟨#[]⟩ 0 [] [] []
def tyS8 : Ty := .mk 9 ⟨#[]⟩ 0 [] [tyI8] []
theorem empty_toList : (⟨#[]⟩ : ByteArray).toList = [] := List.isEmpty_iff.1 (strE_true rfl)
theorem look_i8 (f : Nat) : lookT (f + 1) tyI8 = some (0, 1) := by
  refine lookT_other ?_ (d := 0) (c := 0) rfl (by decide)
  rw [shape0 (by decide) (by decide) (by decide) (by decide) (by decide), bare_iff]
  simp [tyI8, Ty.kind, Ty.name, Ty.con, Ty.fields, Ty.list, Ty.res, empty_toList]
theorem look_s8 : lookT 9 tyS8 = some (1, 1) := by
  refine lookT_other ?_ (d := 1) (c := 1) ?_ (by decide)
  · rw [shape9 (.inl rfl), bare_iff]
    simp [tyS8, Ty.kind, Ty.name, Ty.con, Ty.fields, Ty.list, Ty.res, empty_toList]
  · show lookL (lookT 8) [tyI8] = some (1, 1)
    simp only [lookL, look_i8 7]
    rfl
theorem told_s8 : toldF 9 tyS8 = ⟨#[91, 93, 105, 110, 116, 56]⟩ := by
  have h1 : toldF 8 tyI8 = ⟨#[105, 110, 116, 56]⟩ := by
    show (if tyI8.kind = 8 ∨ tyI8.kind = 12 then _ else _) = _
    rw [if_neg (by decide), if_neg (by decide), if_neg (by decide), if_neg (by decide)]
    rfl
  show (if tyS8.kind = 8 ∨ tyS8.kind = 12 then _ else _) = _
  rw [if_neg (by decide), if_pos (by decide)]
  show ⟨#[91, 93]⟩ ++ joinB [toldF 8 tyI8] = _
  rw [h1]
  rfl
end Go.Proofs.YtlbcaiohjghclaaDoor
