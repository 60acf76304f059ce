/-
  Bytes read and written: what a slice of bytes is as a string, what is written are bytes.
-/
import Derived.Test.YtfmhedpjkpaohaaTurnW
import Derived.Test.YtfmhedpjkpaohaaBytesW
namespace Go.Proofs.Ytfmhedpjkpaohaa
open Go.RowKit
set_option linter.unusedVariables false
set_option linter.unusedSimpArgs false

theorem conv_slr {W : World} {B c : Nat} {A : Option Addr} {l : List Nat} (h : SlR B 0 1 ByteV W (.slice A l.length c) l) : (convert 26 9 (.slice A l.length c)).run Try.prog W = .ok (.string (strN l)) W := by
  cases A with
  | none =>
    have : l = [] := by
      rcases Nat.eq_zero_or_pos l.length with h0 | h0
      · exact List.eq_nil_of_length_eq_zero h0
      · obtain ⟨b, o, c', cs, hv, _⟩ := SlR.at_ h h0
        injection hv with h1
        cases h1
    subst this
    exact run_convert_bytes_nil W 26 5 Try.underlying26 Try.underlying5 _ c 9 Try.underlying9
  | some a =>
    have hl := run_loadCells_list (P := Try.prog) W a (u8s l) fun j v hj => by
      unfold u8s at hj
      rw [List.getElem?_map] at hj
      obtain ⟨x, hx, rfl⟩ := Option.map_eq_some_iff.1 hj
      obtain ⟨hjl, hx'⟩ := List.getElem?_eq_some_iff.1 hx
      obtain ⟨b, o, c', cs, hv, _, _, _, _, ⟨hcs, _⟩, h1⟩ := SlR.at_ h hjl
      injection hv with h2
      injection h2 with h2
      subst h2
      rw [add_flat]
      have := h1 0 (.int .u8 (x : Int)) (by rw [hcs, hx']; rfl)
      simpa using this
    have hl' : (loadCells a l.length).run Try.prog W = .ok ((l.map fun (x : Nat) => (x : Int)).map (Value.int .u8)).toArray W := by
      have h3 : (u8s l).length = l.length := by simp [u8s]
      rw [h3] at hl
      rw [hl]
      unfold u8s
      rw [List.map_map]
      rfl
    rw [run_convert_bytes_string W 26 9 5 _ l.length c Try.underlying26 Try.underlying5 Try.underlying9, run_bytesToString W _ l.length c _ hl', foldl_push_bytes]
    simp [strN, strOfNums, ByteArray.empty, ByteArray.emptyWithCapacity]
    rfl
theorem byteV_keep {B : Nat} {w w' : World} {v : Value} {l : List Nat} (h : SlR B 0 1 ByteV w v l) (hc : Chg (fun _ _ => False) w w') : SlR B 0 1 ByteV w' v l := SlR.keep h hc ⟨fun _ _ _ => id, fun h => absurd rfl h⟩ fun _ _ h => h
theorem byteV_snoc {W w' : World} {base c : Nat} {A : Option Addr} {l : List Nat} {xss : List (List Value)} (h : w'.ownsRow base 5 1 (.slice A (l.length + 1) c) (l.length + 1) (xss.flatten ++ [.int .u8 0])) (h1 : xss.length = l.length) (h2 : ∀ cs ∈ xss, cs.length = 1)
    (h3 : ∀ (k : Nat) x cs, l[k]? = some x → xss[k]? = some cs → ByteV W cs x) : SlR w'.heap.size 0 1 ByteV w' (.slice A (l ++ [0]).length c) (l ++ [0]) := by
  have hlen : (l ++ [0]).length = l.length + 1 := by simp
  refine byteV_copied (W := W) (xss := xss ++ [[.int .u8 0]]) (by rw [hlen]; simpa using h) (by simp [h1]) ?_ ?_
  · intro cs hcs
    rcases List.mem_append.1 hcs with h | h
    · exact h2 cs h
    · simp at h; subst h; rfl
  · intro k x cs hx hcs
    by_cases hk : k < l.length
    · rw [List.getElem?_append_left hk] at hx
      rw [List.getElem?_append_left (by omega)] at hcs
      exact h3 k x cs hx hcs
    · have hk1 : k < (l ++ [0]).length := (List.getElem?_eq_some_iff.1 hx).1
      have hk2 : k = l.length := by omega
      subst hk2
      rw [List.getElem?_append_right (Nat.le_refl _)] at hx
      rw [List.getElem?_append_right (by omega), h1] at hcs
      simp at hx hcs
      subst hx hcs
      exact ⟨rfl, by decide⟩
theorem one_byte (cs : List Value) (y : Nat) {W : World} (h : ByteV W cs y) : ∀ u ∈ cs, u.oneCell' = true := by
  obtain ⟨rfl, _⟩ := h
  intro u hu
  simp at hu
  subst hu
  rfl

/-! ## What is written are bytes -/
def AllB (e : Option (List Nat)) : Prop := ∀ l, e = some l → ∀ c ∈ l, c < 256
theorem encN_byte (x : Nat) : ∀ c ∈ encN x, c < 256 := by
  induction x using Nat.strongRecOn with
  | ind x ih =>
    by_cases hx : 128 ≤ x
    · rw [encN_ge hx]
      intro c hc
      rcases List.mem_cons.1 hc with rfl | hc
      · omega
      · exact ih (x / 128) (by omega) c hc
    · rw [encN_lt (by omega)]
      intro c hc
      simp at hc
      omega
theorem AllB.seq {a b : Option (List Nat)} (h : AllB a) (h' : AllB b) : AllB (seqO a b) := by
  intro l hl c hc
  obtain ⟨x, y, h1, h2, rfl⟩ := seqO_some hl
  rcases List.mem_append.1 hc with hc | hc
  · exact h x h1 c hc
  · exact h' y h2 c hc
theorem allB_N (x : Nat) : AllB (some (encN x)) := by
  intro l hl
  injection hl with hl
  subst hl
  exact encN_byte x
theorem allB_I (a n : Int) : AllB (encI a n) := by
  intro l hl
  unfold encI at hl
  split at hl
  · exact allB_N _ l hl
  · cases hl
theorem allB_F (b : Bool) : AllB (encFlag b) := by
  intro l hl c hc
  unfold encFlag at hl
  injection hl with hl
  subst hl
  split at hc <;> simp at hc <;> omega
theorem AllB.all {α : Type} {f : α → Option (List Nat)} (h : ∀ x, AllB (f x)) : ∀ l, AllB (allO f l)
  | [] => by intro l hl c hc; injection hl with hl; subst hl; cases hc
  | x :: l => AllB.seq (h x) (AllB.all h l)
theorem AllB.list {α : Type} {f : α → Option (List Nat)} (h : ∀ x, AllB (f x)) (l : List α) : AllB (encL f l) := AllB.seq (allB_I _ _) (AllB.all h l)
theorem allB_mod (m : ModD) : AllB (encMod m) :=
  AllB.seq (AllB.list (fun s => AllB.seq (allB_I _ _) (AllB.seq (AllB.list (fun _ => allB_I _ _) _) (allB_I _ _))) _)
    (AllB.list (fun f => AllB.seq (allB_I _ _) (AllB.seq (AllB.list (fun _ => allB_I _ _) _) (AllB.seq (AllB.list (fun _ => allB_I _ _) _) (AllB.seq (allB_I _ _)
      (AllB.list (fun x => AllB.seq (allB_I _ _) (AllB.seq (allB_I _ _) (AllB.seq (allB_I _ _) (AllB.seq (allB_N _)
        (AllB.list (fun c => AllB.seq (allB_F _) (AllB.seq (allB_I _ _) (AllB.seq (allB_I _ _) (allB_I _ _)))) _))))) _))))) _)
theorem encAns_split (m : ModD) : (∃ l, encMod m = some l ∧ l.length ≤ 1048576 ∧ encAns m = (0, l)) ∨ (∃ k : Nat, k ≠ 0 ∧ encAns m = ((k : Int), [])) := by
  unfold encAns
  cases h : encMod m with
  | none => exact .inr ⟨1, by decide, rfl⟩
  | some l =>
    by_cases hl : 1048576 < l.length
    · refine .inr ⟨6, by decide, ?_⟩
      simp only [hl, if_true]
      rfl
    · refine .inl ⟨l, rfl, by omega, ?_⟩
      simp only [hl, if_false]

end Go.Proofs.Ytfmhedpjkpaohaa
