/-
  chans: known, Ready, Waiting; slices.IndexFunc and ContainsFunc over cases, slices.Index and Contains over numbers, slices.Clone of cases.
-/
import Derived.Test.YtclllnoohoonoaaCan
namespace Go.Proofs.Ytclllnoohoonoaa
open Go.RowKit
set_option linter.unusedVariables false
set_option linter.unusedSimpArgs false

def idxI {α : Type} (P : α → Bool) (l : List α) : Int := match l.findIdx? P with
  | none => -1
  | some k => (k : Int)
def IntRes (n : Int) (w : World) (e : Ending) (w' : World) : Prop := e = .returned (.int .i64 n) ∧ Chg (fun _ _ => False) w w'
theorem IntRes.of {a b : Int} {w w' : World} (hb : a = b) (h : Chg (fun _ _ => False) w w') : IntRes b w (.returned (.int .i64 a)) w' := by subst hb; exact ⟨rfl, h⟩
theorem idx_at {α : Type} {P : α → Bool} {l : List α} {k : Nat} {x : α} (hx : l[k]? = some x) (hp : P x = true) (hb : ∀ j y, j < k → l[j]? = some y → P y = false) : idxI P l = (k : Int) := by
  obtain ⟨h1, h2⟩ := List.getElem?_eq_some_iff.1 hx
  have : l.findIdx? P = some k := by
    rw [List.findIdx?_eq_some_iff_getElem]
    refine ⟨h1, by rw [h2]; exact hp, fun j hj => ?_⟩
    rw [hb j _ hj (List.getElem?_eq_getElem (by omega))]
    simp
  unfold idxI
  rw [this]
theorem idx_none {α : Type} {P : α → Bool} {l : List α} (hb : ∀ (j : Nat) y, l[j]? = some y → P y = false) : idxI P l = -1 := by
  have : l.findIdx? P = none := by
    rw [List.findIdx?_eq_none_iff]
    intro x hx
    obtain ⟨j, hj⟩ := List.getElem?_of_mem hx
    exact hb j x hj
  unfold idxI
  rw [this]
theorem idx_any {α : Type} (P : α → Bool) (l : List α) : decide (0 ≤ idxI P l) = l.any P := by
  unfold idxI
  cases h : l.findIdx? P with
  | none =>
    rw [List.findIdx?_eq_none_iff] at h
    have : l.any P = false := by rw [List.any_eq_false]; intro x hx; simpa using h x hx
    rw [this]; rfl
  | some k =>
    obtain ⟨h1, h2, _⟩ := List.findIdx?_eq_some_iff_getElem.1 h
    have : l.any P = true := by rw [List.any_eq_true]; exact ⟨_, List.getElem_mem h1, h2⟩
    rw [this]; exact decide_eq_true (show (0 : Int) ≤ (k : Int) by omega)
def idxRel {α : Type} (P : α → Bool) (w : World) (l : List α) (i : Value) (wr : World) : Prop :=
  ∃ k : Nat, k ≤ l.length ∧ i = .int .i64 k ∧ (∀ j y, j < k → l[j]? = some y → P y = false) ∧ Chg (fun _ _ => False) w wr
theorem idx_step {α : Type} {P : α → Bool} {l : List α} {k : Nat} {x : α} (hx : l[k]? = some x) (hp : P x = false) (hb : ∀ j y, j < k → l[j]? = some y → P y = false) : ∀ j y, j < k + 1 → l[j]? = some y → P y = false := by
  intro j y hj hy
  by_cases h : j < k
  · exact hb j y h hy
  · obtain rfl : j = k := by omega
    rw [hx] at hy; injection hy with hy; subst hy; exact hp

/-! Predicates on cases -/
def caseAgg (x : CaseC) : Value := .agg #[.bool x.send, .int .i64 x.chan, .int .u64 x.val]
def EntersF (fid : Nat) : Prop := ∀ (xs : Array Value) (w' : World), (callFunc fid xs).run Try.prog w' = .ok (.enter fid xs) w'
theorem enters_known1 : EntersF 50 := by
  intro xs w'; show (callFunc _ _).run _ _ = _
  simp [callFunc, Try.func50, go_sem]
  rw [if_neg (by decide +kernel), if_neg (fun h => by cases h)]
theorem enters_shut1 : EntersF 33 := by
  intro xs w'; show (callFunc _ _).run _ _ = _
  simp [callFunc, Try.func33, go_sem]
  rw [if_neg (by decide +kernel), if_neg (fun h => by cases h)]
set_option maxRecDepth 100000 in
set_option maxHeartbeats 1000000 in
theorem idxC_any (w : World) (fid : Nat) (cap : Value) (P : CaseC → Bool) (A1 : Option Addr) (c1 : Nat) (l : List CaseC) (hl : CasesC w (.slice A1 l.length c1) l) (hn : l.length ≤ 1099511627776) (hcf : EntersF fid)
    (hP : ∀ (w' : World) (x : CaseC), Chg (fun _ _ => False) w w' → x ∈ l → Calls Try.prog fid #[caseAgg x, cap] w' (BoolRes (P x) w')) :
    Calls Try.prog 32 #[.slice A1 l.length c1, .func (.func fid) #[] #[cap]] w (IntRes (idxI P l) w) := by
  have HP := Lib.hid hP
  have HL := Lib.hid hl
  clear hP hl
  go_enter Try.func32, Try.ntmps32
  go_wp2_with fail
  go_loopw [8] (fun i wr => idxRel P w l i wr) (fun i _ => l.length - (intOf i).toNat)
  case atStart => exact ⟨0, Nat.zero_le _, rfl, fun j y h => absurd h (Nat.not_lt_zero _), Chg.refl _ _⟩
  case round =>
    obtain ⟨k, hk, rfl, hb, hch⟩ := hrel
    by_cases hlt : k < l.length
    · obtain ⟨b, o, x, rfl, hkx, _, _, z0, z1, z2⟩ := (HL.out.keep hch (fun _ => id)).at_ hlt
      have HK := Lib.hid (And.intro hkx (And.intro hb hch))
      clear hkx hb hch
      have hcf' : ∀ (xs : Array Value) (w' : World), (callFunc fid xs).run Try.prog w' = .ok (.enter fid xs) w' := hcf
      go_wp2_with fail
      clear hcf'
      refine (HP.out wr x HK.out.2.2 (List.mem_of_getElem? HK.out.1)).mono fun e w2 hh => ?_
      obtain ⟨rfl, hc2⟩ := hh
      have H2 := Lib.hid hc2
      clear hc2 z0 z1 z2
      cases hp : P x
      · have Hp := Lib.hid hp
        clear hp
        go_wp2_with fail
        go_roundw
        case rel => exact ⟨k + 1, hlt, by simp, idx_step HK.out.1 Hp.out HK.out.2.1, HK.out.2.2.trans H2.out⟩
        case measure => simp [intOf]; omega
      · have Hp := Lib.hid hp
        clear hp
        go_wp2_with fail
        go_ret
        exact IntRes.of (idx_at HK.out.1 Hp.out HK.out.2.1).symm (HK.out.2.2.trans H2.out)
    · obtain rfl : k = l.length := by omega
      have HK := Lib.hid (And.intro hb hch)
      clear hb hch
      go_wp2_with fail
      go_ret
      exact IntRes.of (idx_none (fun j y hy => HK.out.1 j y (List.getElem?_eq_some_iff.1 hy).1 hy)).symm HK.out.2
set_option maxRecDepth 100000 in
theorem contC_any (w : World) (fid : Nat) (cap : Value) (P : CaseC → Bool) (A1 : Option Addr) (c1 : Nat) (l : List CaseC) (hl : CasesC w (.slice A1 l.length c1) l) (hn : l.length ≤ 1099511627776) (hcf : EntersF fid)
    (hP : ∀ (w' : World) (x : CaseC), Chg (fun _ _ => False) w w' → x ∈ l → Calls Try.prog fid #[caseAgg x, cap] w' (BoolRes (P x) w')) :
    Calls Try.prog 49 #[.slice A1 l.length c1, .func (.func fid) #[] #[cap]] w (BoolRes (l.any P) w) := by
  have HP := Lib.hid hP
  have HL := Lib.hid hl
  clear hP hl
  go_enter Try.func49, Try.ntmps49
  go_wp2_with fail
  refine (idxC_any w fid cap P A1 c1 l HL.out hn hcf HP.out).mono fun e w2 hh => ?_
  obtain ⟨rfl, hc2⟩ := hh
  have H2 := Lib.hid hc2
  have HA := Lib.hid (idx_any P l)
  clear hc2
  generalize idxI P l = n at HA ⊢
  go_wp2
  go_ret
  exact BoolRes.of HA.out H2.out
def badC (n : Nat) (x : CaseC) : Bool := decide (x.chan < 0) || decide ((n : Int) < x.chan)
theorem known_any_ (n : Nat) (l : List CaseC) : (!l.any (badC n)) = knownC n l := by
  unfold knownC
  induction l with
  | nil => rfl
  | cons x l ih =>
    rw [List.any_cons, List.all_cons, Bool.not_or, ih]
    congr 1
    unfold badC
    rw [Bool.eq_iff_iff]
    simp
set_option maxRecDepth 100000 in
set_option maxHeartbeats 1000000 in
theorem known1_any (w : World) (g p : Nat) (A : Option Addr) (n c : Nat) (u : Value) (x : CaseC) (hb : Blk w g 23 #[.pointer (some ⟨p, 0, none⟩)]) (hp : w.cell? ⟨p, 0, none⟩ = some (.slice A n c)) :
    Calls Try.prog 50 #[caseAgg x, .pointer (some ⟨g, 0, none⟩)] w (BoolRes (badC n x) w) := by
  have d0 : w.cell? ⟨g, 0, none⟩ = some (.pointer (some ⟨p, 0, none⟩)) := by simpa using hb.cell 0
  have hc0 := chg_alloc w (.cells #[.bool x.send, .int .i64 x.chan, .int .u64 x.val] 52)
  have e0 := hc0.cell d0 fun _ => id
  have e1 := hc0.cell hp fun _ => id
  have H0 := Lib.hid hc0
  unfold caseAgg
  cases h1 : decide (x.chan < 0)
  · cases h2 : decide ((n : Int) < x.chan)
    all_goals
      have HH := Lib.hid (And.intro h1 h2)
      go_enter Try.func50, Try.ntmps50
      go_wp2_with fail
      go_quiet (fail)
      go_wp2
      go_ret
      exact BoolRes.of (by unfold badC; rw [h1, h2]; rfl) (by first | exact H0.out.drewN _ | exact H0.out)
  · have HH := Lib.hid h1
    go_enter Try.func50, Try.ntmps50
    go_wp2_with fail
    go_quiet (fail)
    go_wp2
    go_ret
    exact BoolRes.of (by unfold badC; rw [h1]; rfl) (by first | exact H0.out.drewN _ | exact H0.out)
set_option maxRecDepth 100000 in
theorem known_any (w : World) (G : Nat → Prop) (p : Nat) (H : HubD) (hH : HubR G w p H) (A1 : Option Addr) (c1 : Nat) (l : List CaseC) (hl : CasesC w (.slice A1 l.length c1) l) (hn : l.length ≤ 1099511627776) :
    Calls Try.prog 43 #[.pointer (some ⟨p, 0, none⟩), .slice A1 l.length c1] w (BoolRes (knownC H.list.length l) w) := by
  obtain ⟨A, cc, A', c', hI⟩ := hH
  have hb0 := Blk.new w 23 #[.pointer (some ⟨p, 0, none⟩)]
  have hc0 := chg_alloc w (.cells #[.pointer (some ⟨p, 0, none⟩)] 23)
  have hI1 := hI.keep hc0 (fun _ _ _ => id) (fun _ => id)
  have HH := Lib.hid (And.intro hI1.blk.cells2.1 (And.intro hb0 (And.intro hc0 (hl.keep hc0 (fun _ => id)))))
  have HKn := Lib.hid (known_any_ H.list.length l)
  clear hI hb0 hc0 hI1 hl
  go_enter Try.func43, Try.ntmps43
  go_wp2_with fail
  refine (contC_any _ _ _ (badC H.list.length) A1 c1 l HH.out.2.2.2 hn enters_known1 (fun w' x hc hx => known1_any w' _ p A H.list.length cc (.bool false) x (hc.blk HH.out.2.1 id) (hc.cell HH.out.1 fun _ => id))).mono fun e w2 hh => ?_
  obtain ⟨rfl, hc2⟩ := hh
  have H2 := Lib.hid (HH.out.2.2.1.trans hc2)
  clear hc2
  generalize l.any (badC H.list.length) = b at HKn ⊢
  go_wp2
  go_ret
  exact BoolRes.of HKn.out H2.out
end Go.Proofs.Ytclllnoohoonoaa
