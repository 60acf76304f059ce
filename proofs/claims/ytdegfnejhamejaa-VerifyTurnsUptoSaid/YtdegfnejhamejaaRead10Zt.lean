/-
  Reading in the program: all bytes (Decode).
-/
import Derived.Test.YtdegfnejhamejaaRead9Zt
namespace Go.Proofs.Ytdegfnejhamejaa
open Go.RowKit
set_option linter.unusedVariables false
set_option linter.unusedSimpArgs false

theorem Blk.newAt {w : World} {T b : Nat} {cs : Array Value} (h : b = w.heap.size) : Blk (w.alloc (.cells cs T)) b T cs := by subst h; exact Blk.new _ _ _
theorem mod_run {bs : List Nat} {x0 : List ShapeD} {x1 : List FuncD} (h0 : ∀ v a', runS (listP bs (shapeP bs)) (.ok 0) = .ok (v, a') → x0 = v) (h1 : ∀ v a', runS (listP bs (funcP bs)) (endS (runS (listP bs (shapeP bs)) (.ok 0))) = .ok (v, a') → x1 = v) :
    endS (modP bs 0) = endS (runS (listP bs (funcP bs)) (endS (runS (listP bs (shapeP bs)) (.ok 0)))) ∧ ∀ v a', modP bs 0 = .ok (v, a') → (⟨x0, x1⟩ : ModD) = v := by
  show endS (runS (modP bs) (.ok 0)) = _ ∧ ∀ v a', runS (modP bs) (.ok 0) = _ → _
  unfold modP
  refine ⟨by rw [(bind_tells h0).1, (bind_tells h1).1, (pure_tells _ _).1], fun v a' h => ?_⟩
  exact (pure_tells _ _).2 v a' ((bind_tells h1).2 v a' ((bind_tells h0).2 v a' h))
theorem ShapeP.rebase {D D' : Nat} {w : World} {cs : List Value} {s : ShapeD} (h : ShapeP D w cs s) (hD : D' ≤ D) : ShapeP D' w cs s := by
  obtain ⟨A, c, h1, h2, h3, h4⟩ := h
  exact ⟨A, c, h1, h2, h3, h4.rebase hD⟩
theorem FuncP.rebase {D D' : Nat} {w : World} {cs : List Value} {s : FuncD} (h : FuncP D w cs s) (hD : D' ≤ D) : FuncP D' w cs s := by
  obtain ⟨A, c, A', c', A'', c'', a1, a2, a3, a4, a5, a6⟩ := h
  exact ⟨A, c, A', c', A'', c'', a1, a2, a3, a4.rebase hD, a5.rebase hD, (a6.imp fun _ _ h => h.rebase hD).rebase hD⟩
def endM (bs : List Nat) (m : ModD) (s : Except Nat Nat) : Except Nat ModD := match s with
  | .error f => .error f
  | .ok a => if a < bs.length then .error a else .ok m
/-- What readP says, by the state behind the last function. -/
theorem read_state {bs : List Nat} {x0 : List ShapeD} {x1 : List FuncD} {s : Except Nat Nat} (h0 : ∀ v a', runS (listP bs (shapeP bs)) (.ok 0) = .ok (v, a') → x0 = v) (h1 : ∀ v a', runS (listP bs (funcP bs)) (endS (runS (listP bs (shapeP bs)) (.ok 0))) = .ok (v, a') → x1 = v)
    (hs : s = endS (runS (listP bs (funcP bs)) (endS (runS (listP bs (shapeP bs)) (.ok 0))))) :
    readP bs = endM bs ⟨x0, x1⟩ s := by
  obtain ⟨k1, k2⟩ := mod_run h0 h1
  rw [← hs] at k1
  unfold readP
  cases hm : modP bs 0 with
  | error e => rw [hm] at k1; rw [← k1]; rfl
  | ok q =>
    obtain ⟨m, a⟩ := q
    rw [hm] at k1
    rw [← k1, k2 m a hm]
    rfl
/-- A module in memory of its own. -/
def DecP (D : Nat) (w : World) (v : Value) (m : ModD) : Prop :=
  ∃ A c A' c', v = .agg #[.slice A m.types.length c, .slice A' m.funcs.length c'] ∧ RowR D 37 3 (ShapeP D) w A c m.types ∧ RowR D 34 5 (FuncP D) w A' c' m.funcs
abbrev zeroM : Value := .agg #[.slice none 0 0, .slice none 0 0]
def DecRes (bs : List Nat) (w : World) (e : Ending) (w' : World) : Prop :=
  ∃ (v : Value) (z y : Int), e = .returned (.tuple #[v, .int .i64 z, .int .i64 y]) ∧ Chg (fun _ _ => False) w w' ∧
    (1048576 < bs.length ∧ z = 0 ∧ y = 6 ∧ v = zeroM ∨ bs.length ≤ 1048576 ∧ ((∃ f : Nat, readP bs = .error f ∧ z = f ∧ y = 5 ∧ v = zeroM) ∨ ∃ m, readP bs = .ok m ∧ z = 0 ∧ y = 0 ∧ DecP w.heap.size w' v m))
set_option maxRecDepth 100000 in
set_option maxHeartbeats 8000000 in
theorem decode_any (B : Nat) (bs : List Nat) (A : Option Addr) (c : Nat) (w : World) (hv : SlR B 0 1 ByteV w (.slice A bs.length c) bs) (hB : B ≤ w.heap.size) :
    Calls Try.prog 18 #[.slice A bs.length c] w (DecRes bs w) := by
  have HV := Lib.hid (And.intro hv hB)
  clear hv hB
  by_cases hbig : 1048576 < bs.length
  · have hlt : decide ((1048576 : Int) < (bs.length : Int)) = true := decide_eq_true (by omega)
    go_enter Try.func18, Try.ntmps18
    go_wp2_with fail
    refine bodyPost_ret (v := .tuple #[zeroM, .int .i64 0, .int .i64 6]) (by simp [results, Try.results18, go_sem]) rfl ?_
    exact ⟨zeroM, 0, 6, rfl, by repeat' (first | exact Chg.refl _ _ | apply Chg.alloc), .inl ⟨hbig, rfl, rfl, rfl⟩⟩
  · have hlt : decide ((1048576 : Int) < (bs.length : Int)) = false := decide_eq_false (by omega)
    have e1 : ∀ (xs : Array Value) (w' : World), (callFunc 37 xs).run Try.prog w' = .ok (.enter 37 xs) w' := entersR1
    have e4 : ∀ (xs : Array Value) (w' : World), (callFunc 40 xs).run Try.prog w' = .ok (.enter 40 xs) w' := enters4
    have hst : ∀ (w' : World) (a : Addr) (f : Nat) (cs : Array Value), (store a (.func (.func f) #[] cs)).run Try.prog w' = stored Try.prog w' a (.func (.func f) #[] cs) .plain := fun w' a f cs => run_store Try.prog w' a _ .plain rfl
    go_enter Try.func18, Try.ntmps18
    go_wp2_with fail
    have q0 : Blk (((((((((((w.alloc (.cells #[.slice A bs.length c] 56)).alloc (.cells #[.slice none 0 0, .slice none 0 0] 25)).alloc (.cells #[.int .i64 0] 3)).alloc (.cells #[.int .i64 (-1)] 3)).alloc (.cells #[.func (.func 37) #[] #[(.pointer (some ⟨(w.heap.size + 1 + 1 + 1), 0, none⟩))]] 72)).alloc (.cells #[.func (.func 38) #[] #[(.pointer (some ⟨(w.heap.size + 1 + 1 + 1), 0, none⟩)), (.pointer (some ⟨(w.heap.size + 1 + 1), 0, none⟩)), (.pointer (some ⟨w.heap.size, 0, none⟩)), (.pointer (some ⟨(w.heap.size + 1 + 1 + 1 + 1), 0, none⟩))]] 85)).alloc (.cells #[.func (.func 39) #[] #[(.pointer (some ⟨(w.heap.size + 1 + 1), 0, none⟩)), (.pointer (some ⟨(w.heap.size + 1 + 1 + 1 + 1 + 1), 0, none⟩)), (.pointer (some ⟨(w.heap.size + 1 + 1 + 1 + 1), 0, none⟩))]] 86)).alloc (.cells #[.func (.func 40) #[] #[(.pointer (some ⟨(w.heap.size + 1 + 1 + 1 + 1 + 1 + 1), 0, none⟩)), (.pointer (some ⟨(w.heap.size + 1 + 1 + 1), 0, none⟩))]] 87)).alloc (.cells #[.func (.func 41) #[] #[(.pointer (some ⟨(w.heap.size + 1 + 1 + 1 + 1 + 1 + 1 + 1), 0, none⟩)), (.pointer (some ⟨(w.heap.size + 1 + 1 + 1 + 1 + 1 + 1), 0, none⟩))]] 88)).alloc (.cells #[.func (.func 43) #[] #[(.pointer (some ⟨(w.heap.size + 1 + 1), 0, none⟩)), (.pointer (some ⟨(w.heap.size + 1 + 1 + 1 + 1 + 1), 0, none⟩)), (.pointer (some ⟨(w.heap.size + 1 + 1 + 1 + 1), 0, none⟩))]] 30)).alloc (.cells #[.slice none 0 0, .slice none 0 0] 25)) w.heap.size 56 #[.slice A bs.length c] := Blk.alloc (Blk.alloc (Blk.alloc (Blk.alloc (Blk.alloc (Blk.alloc (Blk.alloc (Blk.alloc (Blk.alloc (Blk.alloc (Blk.newAt (by first | rfl | simp only [World.size_alloc])) _) _) _) _) _) _) _) _) _) _
    have q1 : Blk (((((((((((w.alloc (.cells #[.slice A bs.length c] 56)).alloc (.cells #[.slice none 0 0, .slice none 0 0] 25)).alloc (.cells #[.int .i64 0] 3)).alloc (.cells #[.int .i64 (-1)] 3)).alloc (.cells #[.func (.func 37) #[] #[(.pointer (some ⟨(w.heap.size + 1 + 1 + 1), 0, none⟩))]] 72)).alloc (.cells #[.func (.func 38) #[] #[(.pointer (some ⟨(w.heap.size + 1 + 1 + 1), 0, none⟩)), (.pointer (some ⟨(w.heap.size + 1 + 1), 0, none⟩)), (.pointer (some ⟨w.heap.size, 0, none⟩)), (.pointer (some ⟨(w.heap.size + 1 + 1 + 1 + 1), 0, none⟩))]] 85)).alloc (.cells #[.func (.func 39) #[] #[(.pointer (some ⟨(w.heap.size + 1 + 1), 0, none⟩)), (.pointer (some ⟨(w.heap.size + 1 + 1 + 1 + 1 + 1), 0, none⟩)), (.pointer (some ⟨(w.heap.size + 1 + 1 + 1 + 1), 0, none⟩))]] 86)).alloc (.cells #[.func (.func 40) #[] #[(.pointer (some ⟨(w.heap.size + 1 + 1 + 1 + 1 + 1 + 1), 0, none⟩)), (.pointer (some ⟨(w.heap.size + 1 + 1 + 1), 0, none⟩))]] 87)).alloc (.cells #[.func (.func 41) #[] #[(.pointer (some ⟨(w.heap.size + 1 + 1 + 1 + 1 + 1 + 1 + 1), 0, none⟩)), (.pointer (some ⟨(w.heap.size + 1 + 1 + 1 + 1 + 1 + 1), 0, none⟩))]] 88)).alloc (.cells #[.func (.func 43) #[] #[(.pointer (some ⟨(w.heap.size + 1 + 1), 0, none⟩)), (.pointer (some ⟨(w.heap.size + 1 + 1 + 1 + 1 + 1), 0, none⟩)), (.pointer (some ⟨(w.heap.size + 1 + 1 + 1 + 1), 0, none⟩))]] 30)).alloc (.cells #[.slice none 0 0, .slice none 0 0] 25)) (w.heap.size + 1) 25 #[.slice none 0 0, .slice none 0 0] := Blk.alloc (Blk.alloc (Blk.alloc (Blk.alloc (Blk.alloc (Blk.alloc (Blk.alloc (Blk.alloc (Blk.alloc (Blk.newAt (by first | rfl | simp only [World.size_alloc])) _) _) _) _) _) _) _) _) _
    have q2 : Blk (((((((((((w.alloc (.cells #[.slice A bs.length c] 56)).alloc (.cells #[.slice none 0 0, .slice none 0 0] 25)).alloc (.cells #[.int .i64 0] 3)).alloc (.cells #[.int .i64 (-1)] 3)).alloc (.cells #[.func (.func 37) #[] #[(.pointer (some ⟨(w.heap.size + 1 + 1 + 1), 0, none⟩))]] 72)).alloc (.cells #[.func (.func 38) #[] #[(.pointer (some ⟨(w.heap.size + 1 + 1 + 1), 0, none⟩)), (.pointer (some ⟨(w.heap.size + 1 + 1), 0, none⟩)), (.pointer (some ⟨w.heap.size, 0, none⟩)), (.pointer (some ⟨(w.heap.size + 1 + 1 + 1 + 1), 0, none⟩))]] 85)).alloc (.cells #[.func (.func 39) #[] #[(.pointer (some ⟨(w.heap.size + 1 + 1), 0, none⟩)), (.pointer (some ⟨(w.heap.size + 1 + 1 + 1 + 1 + 1), 0, none⟩)), (.pointer (some ⟨(w.heap.size + 1 + 1 + 1 + 1), 0, none⟩))]] 86)).alloc (.cells #[.func (.func 40) #[] #[(.pointer (some ⟨(w.heap.size + 1 + 1 + 1 + 1 + 1 + 1), 0, none⟩)), (.pointer (some ⟨(w.heap.size + 1 + 1 + 1), 0, none⟩))]] 87)).alloc (.cells #[.func (.func 41) #[] #[(.pointer (some ⟨(w.heap.size + 1 + 1 + 1 + 1 + 1 + 1 + 1), 0, none⟩)), (.pointer (some ⟨(w.heap.size + 1 + 1 + 1 + 1 + 1 + 1), 0, none⟩))]] 88)).alloc (.cells #[.func (.func 43) #[] #[(.pointer (some ⟨(w.heap.size + 1 + 1), 0, none⟩)), (.pointer (some ⟨(w.heap.size + 1 + 1 + 1 + 1 + 1), 0, none⟩)), (.pointer (some ⟨(w.heap.size + 1 + 1 + 1 + 1), 0, none⟩))]] 30)).alloc (.cells #[.slice none 0 0, .slice none 0 0] 25)) (w.heap.size + 1 + 1) 3 #[.int .i64 0] := Blk.alloc (Blk.alloc (Blk.alloc (Blk.alloc (Blk.alloc (Blk.alloc (Blk.alloc (Blk.alloc (Blk.newAt (by first | rfl | simp only [World.size_alloc])) _) _) _) _) _) _) _) _
    have q3 : Blk (((((((((((w.alloc (.cells #[.slice A bs.length c] 56)).alloc (.cells #[.slice none 0 0, .slice none 0 0] 25)).alloc (.cells #[.int .i64 0] 3)).alloc (.cells #[.int .i64 (-1)] 3)).alloc (.cells #[.func (.func 37) #[] #[(.pointer (some ⟨(w.heap.size + 1 + 1 + 1), 0, none⟩))]] 72)).alloc (.cells #[.func (.func 38) #[] #[(.pointer (some ⟨(w.heap.size + 1 + 1 + 1), 0, none⟩)), (.pointer (some ⟨(w.heap.size + 1 + 1), 0, none⟩)), (.pointer (some ⟨w.heap.size, 0, none⟩)), (.pointer (some ⟨(w.heap.size + 1 + 1 + 1 + 1), 0, none⟩))]] 85)).alloc (.cells #[.func (.func 39) #[] #[(.pointer (some ⟨(w.heap.size + 1 + 1), 0, none⟩)), (.pointer (some ⟨(w.heap.size + 1 + 1 + 1 + 1 + 1), 0, none⟩)), (.pointer (some ⟨(w.heap.size + 1 + 1 + 1 + 1), 0, none⟩))]] 86)).alloc (.cells #[.func (.func 40) #[] #[(.pointer (some ⟨(w.heap.size + 1 + 1 + 1 + 1 + 1 + 1), 0, none⟩)), (.pointer (some ⟨(w.heap.size + 1 + 1 + 1), 0, none⟩))]] 87)).alloc (.cells #[.func (.func 41) #[] #[(.pointer (some ⟨(w.heap.size + 1 + 1 + 1 + 1 + 1 + 1 + 1), 0, none⟩)), (.pointer (some ⟨(w.heap.size + 1 + 1 + 1 + 1 + 1 + 1), 0, none⟩))]] 88)).alloc (.cells #[.func (.func 43) #[] #[(.pointer (some ⟨(w.heap.size + 1 + 1), 0, none⟩)), (.pointer (some ⟨(w.heap.size + 1 + 1 + 1 + 1 + 1), 0, none⟩)), (.pointer (some ⟨(w.heap.size + 1 + 1 + 1 + 1), 0, none⟩))]] 30)).alloc (.cells #[.slice none 0 0, .slice none 0 0] 25)) (w.heap.size + 1 + 1 + 1) 3 #[.int .i64 (-1)] := Blk.alloc (Blk.alloc (Blk.alloc (Blk.alloc (Blk.alloc (Blk.alloc (Blk.alloc (Blk.newAt (by first | rfl | simp only [World.size_alloc])) _) _) _) _) _) _) _
    have q4 : Blk (((((((((((w.alloc (.cells #[.slice A bs.length c] 56)).alloc (.cells #[.slice none 0 0, .slice none 0 0] 25)).alloc (.cells #[.int .i64 0] 3)).alloc (.cells #[.int .i64 (-1)] 3)).alloc (.cells #[.func (.func 37) #[] #[(.pointer (some ⟨(w.heap.size + 1 + 1 + 1), 0, none⟩))]] 72)).alloc (.cells #[.func (.func 38) #[] #[(.pointer (some ⟨(w.heap.size + 1 + 1 + 1), 0, none⟩)), (.pointer (some ⟨(w.heap.size + 1 + 1), 0, none⟩)), (.pointer (some ⟨w.heap.size, 0, none⟩)), (.pointer (some ⟨(w.heap.size + 1 + 1 + 1 + 1), 0, none⟩))]] 85)).alloc (.cells #[.func (.func 39) #[] #[(.pointer (some ⟨(w.heap.size + 1 + 1), 0, none⟩)), (.pointer (some ⟨(w.heap.size + 1 + 1 + 1 + 1 + 1), 0, none⟩)), (.pointer (some ⟨(w.heap.size + 1 + 1 + 1 + 1), 0, none⟩))]] 86)).alloc (.cells #[.func (.func 40) #[] #[(.pointer (some ⟨(w.heap.size + 1 + 1 + 1 + 1 + 1 + 1), 0, none⟩)), (.pointer (some ⟨(w.heap.size + 1 + 1 + 1), 0, none⟩))]] 87)).alloc (.cells #[.func (.func 41) #[] #[(.pointer (some ⟨(w.heap.size + 1 + 1 + 1 + 1 + 1 + 1 + 1), 0, none⟩)), (.pointer (some ⟨(w.heap.size + 1 + 1 + 1 + 1 + 1 + 1), 0, none⟩))]] 88)).alloc (.cells #[.func (.func 43) #[] #[(.pointer (some ⟨(w.heap.size + 1 + 1), 0, none⟩)), (.pointer (some ⟨(w.heap.size + 1 + 1 + 1 + 1 + 1), 0, none⟩)), (.pointer (some ⟨(w.heap.size + 1 + 1 + 1 + 1), 0, none⟩))]] 30)).alloc (.cells #[.slice none 0 0, .slice none 0 0] 25)) (w.heap.size + 1 + 1 + 1 + 1) 72 #[.func (.func 37) #[] #[(.pointer (some ⟨(w.heap.size + 1 + 1 + 1), 0, none⟩))]] := Blk.alloc (Blk.alloc (Blk.alloc (Blk.alloc (Blk.alloc (Blk.alloc (Blk.newAt (by first | rfl | simp only [World.size_alloc])) _) _) _) _) _) _
    have q5 : Blk (((((((((((w.alloc (.cells #[.slice A bs.length c] 56)).alloc (.cells #[.slice none 0 0, .slice none 0 0] 25)).alloc (.cells #[.int .i64 0] 3)).alloc (.cells #[.int .i64 (-1)] 3)).alloc (.cells #[.func (.func 37) #[] #[(.pointer (some ⟨(w.heap.size + 1 + 1 + 1), 0, none⟩))]] 72)).alloc (.cells #[.func (.func 38) #[] #[(.pointer (some ⟨(w.heap.size + 1 + 1 + 1), 0, none⟩)), (.pointer (some ⟨(w.heap.size + 1 + 1), 0, none⟩)), (.pointer (some ⟨w.heap.size, 0, none⟩)), (.pointer (some ⟨(w.heap.size + 1 + 1 + 1 + 1), 0, none⟩))]] 85)).alloc (.cells #[.func (.func 39) #[] #[(.pointer (some ⟨(w.heap.size + 1 + 1), 0, none⟩)), (.pointer (some ⟨(w.heap.size + 1 + 1 + 1 + 1 + 1), 0, none⟩)), (.pointer (some ⟨(w.heap.size + 1 + 1 + 1 + 1), 0, none⟩))]] 86)).alloc (.cells #[.func (.func 40) #[] #[(.pointer (some ⟨(w.heap.size + 1 + 1 + 1 + 1 + 1 + 1), 0, none⟩)), (.pointer (some ⟨(w.heap.size + 1 + 1 + 1), 0, none⟩))]] 87)).alloc (.cells #[.func (.func 41) #[] #[(.pointer (some ⟨(w.heap.size + 1 + 1 + 1 + 1 + 1 + 1 + 1), 0, none⟩)), (.pointer (some ⟨(w.heap.size + 1 + 1 + 1 + 1 + 1 + 1), 0, none⟩))]] 88)).alloc (.cells #[.func (.func 43) #[] #[(.pointer (some ⟨(w.heap.size + 1 + 1), 0, none⟩)), (.pointer (some ⟨(w.heap.size + 1 + 1 + 1 + 1 + 1), 0, none⟩)), (.pointer (some ⟨(w.heap.size + 1 + 1 + 1 + 1), 0, none⟩))]] 30)).alloc (.cells #[.slice none 0 0, .slice none 0 0] 25)) (w.heap.size + 1 + 1 + 1 + 1 + 1) 85 #[.func (.func 38) #[] #[(.pointer (some ⟨(w.heap.size + 1 + 1 + 1), 0, none⟩)), (.pointer (some ⟨(w.heap.size + 1 + 1), 0, none⟩)), (.pointer (some ⟨w.heap.size, 0, none⟩)), (.pointer (some ⟨(w.heap.size + 1 + 1 + 1 + 1), 0, none⟩))]] := Blk.alloc (Blk.alloc (Blk.alloc (Blk.alloc (Blk.alloc (Blk.newAt (by first | rfl | simp only [World.size_alloc])) _) _) _) _) _
    have q6 : Blk (((((((((((w.alloc (.cells #[.slice A bs.length c] 56)).alloc (.cells #[.slice none 0 0, .slice none 0 0] 25)).alloc (.cells #[.int .i64 0] 3)).alloc (.cells #[.int .i64 (-1)] 3)).alloc (.cells #[.func (.func 37) #[] #[(.pointer (some ⟨(w.heap.size + 1 + 1 + 1), 0, none⟩))]] 72)).alloc (.cells #[.func (.func 38) #[] #[(.pointer (some ⟨(w.heap.size + 1 + 1 + 1), 0, none⟩)), (.pointer (some ⟨(w.heap.size + 1 + 1), 0, none⟩)), (.pointer (some ⟨w.heap.size, 0, none⟩)), (.pointer (some ⟨(w.heap.size + 1 + 1 + 1 + 1), 0, none⟩))]] 85)).alloc (.cells #[.func (.func 39) #[] #[(.pointer (some ⟨(w.heap.size + 1 + 1), 0, none⟩)), (.pointer (some ⟨(w.heap.size + 1 + 1 + 1 + 1 + 1), 0, none⟩)), (.pointer (some ⟨(w.heap.size + 1 + 1 + 1 + 1), 0, none⟩))]] 86)).alloc (.cells #[.func (.func 40) #[] #[(.pointer (some ⟨(w.heap.size + 1 + 1 + 1 + 1 + 1 + 1), 0, none⟩)), (.pointer (some ⟨(w.heap.size + 1 + 1 + 1), 0, none⟩))]] 87)).alloc (.cells #[.func (.func 41) #[] #[(.pointer (some ⟨(w.heap.size + 1 + 1 + 1 + 1 + 1 + 1 + 1), 0, none⟩)), (.pointer (some ⟨(w.heap.size + 1 + 1 + 1 + 1 + 1 + 1), 0, none⟩))]] 88)).alloc (.cells #[.func (.func 43) #[] #[(.pointer (some ⟨(w.heap.size + 1 + 1), 0, none⟩)), (.pointer (some ⟨(w.heap.size + 1 + 1 + 1 + 1 + 1), 0, none⟩)), (.pointer (some ⟨(w.heap.size + 1 + 1 + 1 + 1), 0, none⟩))]] 30)).alloc (.cells #[.slice none 0 0, .slice none 0 0] 25)) (w.heap.size + 1 + 1 + 1 + 1 + 1 + 1) 86 #[.func (.func 39) #[] #[(.pointer (some ⟨(w.heap.size + 1 + 1), 0, none⟩)), (.pointer (some ⟨(w.heap.size + 1 + 1 + 1 + 1 + 1), 0, none⟩)), (.pointer (some ⟨(w.heap.size + 1 + 1 + 1 + 1), 0, none⟩))]] := Blk.alloc (Blk.alloc (Blk.alloc (Blk.alloc (Blk.newAt (by first | rfl | simp only [World.size_alloc])) _) _) _) _
    have q7 : Blk (((((((((((w.alloc (.cells #[.slice A bs.length c] 56)).alloc (.cells #[.slice none 0 0, .slice none 0 0] 25)).alloc (.cells #[.int .i64 0] 3)).alloc (.cells #[.int .i64 (-1)] 3)).alloc (.cells #[.func (.func 37) #[] #[(.pointer (some ⟨(w.heap.size + 1 + 1 + 1), 0, none⟩))]] 72)).alloc (.cells #[.func (.func 38) #[] #[(.pointer (some ⟨(w.heap.size + 1 + 1 + 1), 0, none⟩)), (.pointer (some ⟨(w.heap.size + 1 + 1), 0, none⟩)), (.pointer (some ⟨w.heap.size, 0, none⟩)), (.pointer (some ⟨(w.heap.size + 1 + 1 + 1 + 1), 0, none⟩))]] 85)).alloc (.cells #[.func (.func 39) #[] #[(.pointer (some ⟨(w.heap.size + 1 + 1), 0, none⟩)), (.pointer (some ⟨(w.heap.size + 1 + 1 + 1 + 1 + 1), 0, none⟩)), (.pointer (some ⟨(w.heap.size + 1 + 1 + 1 + 1), 0, none⟩))]] 86)).alloc (.cells #[.func (.func 40) #[] #[(.pointer (some ⟨(w.heap.size + 1 + 1 + 1 + 1 + 1 + 1), 0, none⟩)), (.pointer (some ⟨(w.heap.size + 1 + 1 + 1), 0, none⟩))]] 87)).alloc (.cells #[.func (.func 41) #[] #[(.pointer (some ⟨(w.heap.size + 1 + 1 + 1 + 1 + 1 + 1 + 1), 0, none⟩)), (.pointer (some ⟨(w.heap.size + 1 + 1 + 1 + 1 + 1 + 1), 0, none⟩))]] 88)).alloc (.cells #[.func (.func 43) #[] #[(.pointer (some ⟨(w.heap.size + 1 + 1), 0, none⟩)), (.pointer (some ⟨(w.heap.size + 1 + 1 + 1 + 1 + 1), 0, none⟩)), (.pointer (some ⟨(w.heap.size + 1 + 1 + 1 + 1), 0, none⟩))]] 30)).alloc (.cells #[.slice none 0 0, .slice none 0 0] 25)) (w.heap.size + 1 + 1 + 1 + 1 + 1 + 1 + 1) 87 #[.func (.func 40) #[] #[(.pointer (some ⟨(w.heap.size + 1 + 1 + 1 + 1 + 1 + 1), 0, none⟩)), (.pointer (some ⟨(w.heap.size + 1 + 1 + 1), 0, none⟩))]] := Blk.alloc (Blk.alloc (Blk.alloc (Blk.newAt (by first | rfl | simp only [World.size_alloc])) _) _) _
    have q8 : Blk (((((((((((w.alloc (.cells #[.slice A bs.length c] 56)).alloc (.cells #[.slice none 0 0, .slice none 0 0] 25)).alloc (.cells #[.int .i64 0] 3)).alloc (.cells #[.int .i64 (-1)] 3)).alloc (.cells #[.func (.func 37) #[] #[(.pointer (some ⟨(w.heap.size + 1 + 1 + 1), 0, none⟩))]] 72)).alloc (.cells #[.func (.func 38) #[] #[(.pointer (some ⟨(w.heap.size + 1 + 1 + 1), 0, none⟩)), (.pointer (some ⟨(w.heap.size + 1 + 1), 0, none⟩)), (.pointer (some ⟨w.heap.size, 0, none⟩)), (.pointer (some ⟨(w.heap.size + 1 + 1 + 1 + 1), 0, none⟩))]] 85)).alloc (.cells #[.func (.func 39) #[] #[(.pointer (some ⟨(w.heap.size + 1 + 1), 0, none⟩)), (.pointer (some ⟨(w.heap.size + 1 + 1 + 1 + 1 + 1), 0, none⟩)), (.pointer (some ⟨(w.heap.size + 1 + 1 + 1 + 1), 0, none⟩))]] 86)).alloc (.cells #[.func (.func 40) #[] #[(.pointer (some ⟨(w.heap.size + 1 + 1 + 1 + 1 + 1 + 1), 0, none⟩)), (.pointer (some ⟨(w.heap.size + 1 + 1 + 1), 0, none⟩))]] 87)).alloc (.cells #[.func (.func 41) #[] #[(.pointer (some ⟨(w.heap.size + 1 + 1 + 1 + 1 + 1 + 1 + 1), 0, none⟩)), (.pointer (some ⟨(w.heap.size + 1 + 1 + 1 + 1 + 1 + 1), 0, none⟩))]] 88)).alloc (.cells #[.func (.func 43) #[] #[(.pointer (some ⟨(w.heap.size + 1 + 1), 0, none⟩)), (.pointer (some ⟨(w.heap.size + 1 + 1 + 1 + 1 + 1), 0, none⟩)), (.pointer (some ⟨(w.heap.size + 1 + 1 + 1 + 1), 0, none⟩))]] 30)).alloc (.cells #[.slice none 0 0, .slice none 0 0] 25)) (w.heap.size + 1 + 1 + 1 + 1 + 1 + 1 + 1 + 1) 88 #[.func (.func 41) #[] #[(.pointer (some ⟨(w.heap.size + 1 + 1 + 1 + 1 + 1 + 1 + 1), 0, none⟩)), (.pointer (some ⟨(w.heap.size + 1 + 1 + 1 + 1 + 1 + 1), 0, none⟩))]] := Blk.alloc (Blk.alloc (Blk.newAt (by first | rfl | simp only [World.size_alloc])) _) _
    have q9 : Blk (((((((((((w.alloc (.cells #[.slice A bs.length c] 56)).alloc (.cells #[.slice none 0 0, .slice none 0 0] 25)).alloc (.cells #[.int .i64 0] 3)).alloc (.cells #[.int .i64 (-1)] 3)).alloc (.cells #[.func (.func 37) #[] #[(.pointer (some ⟨(w.heap.size + 1 + 1 + 1), 0, none⟩))]] 72)).alloc (.cells #[.func (.func 38) #[] #[(.pointer (some ⟨(w.heap.size + 1 + 1 + 1), 0, none⟩)), (.pointer (some ⟨(w.heap.size + 1 + 1), 0, none⟩)), (.pointer (some ⟨w.heap.size, 0, none⟩)), (.pointer (some ⟨(w.heap.size + 1 + 1 + 1 + 1), 0, none⟩))]] 85)).alloc (.cells #[.func (.func 39) #[] #[(.pointer (some ⟨(w.heap.size + 1 + 1), 0, none⟩)), (.pointer (some ⟨(w.heap.size + 1 + 1 + 1 + 1 + 1), 0, none⟩)), (.pointer (some ⟨(w.heap.size + 1 + 1 + 1 + 1), 0, none⟩))]] 86)).alloc (.cells #[.func (.func 40) #[] #[(.pointer (some ⟨(w.heap.size + 1 + 1 + 1 + 1 + 1 + 1), 0, none⟩)), (.pointer (some ⟨(w.heap.size + 1 + 1 + 1), 0, none⟩))]] 87)).alloc (.cells #[.func (.func 41) #[] #[(.pointer (some ⟨(w.heap.size + 1 + 1 + 1 + 1 + 1 + 1 + 1), 0, none⟩)), (.pointer (some ⟨(w.heap.size + 1 + 1 + 1 + 1 + 1 + 1), 0, none⟩))]] 88)).alloc (.cells #[.func (.func 43) #[] #[(.pointer (some ⟨(w.heap.size + 1 + 1), 0, none⟩)), (.pointer (some ⟨(w.heap.size + 1 + 1 + 1 + 1 + 1), 0, none⟩)), (.pointer (some ⟨(w.heap.size + 1 + 1 + 1 + 1), 0, none⟩))]] 30)).alloc (.cells #[.slice none 0 0, .slice none 0 0] 25)) (w.heap.size + 1 + 1 + 1 + 1 + 1 + 1 + 1 + 1 + 1) 30 #[.func (.func 43) #[] #[(.pointer (some ⟨(w.heap.size + 1 + 1), 0, none⟩)), (.pointer (some ⟨(w.heap.size + 1 + 1 + 1 + 1 + 1), 0, none⟩)), (.pointer (some ⟨(w.heap.size + 1 + 1 + 1 + 1), 0, none⟩))]] := Blk.alloc (Blk.newAt (by first | rfl | simp only [World.size_alloc])) _
    have q10 : Blk (((((((((((w.alloc (.cells #[.slice A bs.length c] 56)).alloc (.cells #[.slice none 0 0, .slice none 0 0] 25)).alloc (.cells #[.int .i64 0] 3)).alloc (.cells #[.int .i64 (-1)] 3)).alloc (.cells #[.func (.func 37) #[] #[(.pointer (some ⟨(w.heap.size + 1 + 1 + 1), 0, none⟩))]] 72)).alloc (.cells #[.func (.func 38) #[] #[(.pointer (some ⟨(w.heap.size + 1 + 1 + 1), 0, none⟩)), (.pointer (some ⟨(w.heap.size + 1 + 1), 0, none⟩)), (.pointer (some ⟨w.heap.size, 0, none⟩)), (.pointer (some ⟨(w.heap.size + 1 + 1 + 1 + 1), 0, none⟩))]] 85)).alloc (.cells #[.func (.func 39) #[] #[(.pointer (some ⟨(w.heap.size + 1 + 1), 0, none⟩)), (.pointer (some ⟨(w.heap.size + 1 + 1 + 1 + 1 + 1), 0, none⟩)), (.pointer (some ⟨(w.heap.size + 1 + 1 + 1 + 1), 0, none⟩))]] 86)).alloc (.cells #[.func (.func 40) #[] #[(.pointer (some ⟨(w.heap.size + 1 + 1 + 1 + 1 + 1 + 1), 0, none⟩)), (.pointer (some ⟨(w.heap.size + 1 + 1 + 1), 0, none⟩))]] 87)).alloc (.cells #[.func (.func 41) #[] #[(.pointer (some ⟨(w.heap.size + 1 + 1 + 1 + 1 + 1 + 1 + 1), 0, none⟩)), (.pointer (some ⟨(w.heap.size + 1 + 1 + 1 + 1 + 1 + 1), 0, none⟩))]] 88)).alloc (.cells #[.func (.func 43) #[] #[(.pointer (some ⟨(w.heap.size + 1 + 1), 0, none⟩)), (.pointer (some ⟨(w.heap.size + 1 + 1 + 1 + 1 + 1), 0, none⟩)), (.pointer (some ⟨(w.heap.size + 1 + 1 + 1 + 1), 0, none⟩))]] 30)).alloc (.cells #[.slice none 0 0, .slice none 0 0] 25)) (w.heap.size + 1 + 1 + 1 + 1 + 1 + 1 + 1 + 1 + 1 + 1) 25 #[.slice none 0 0, .slice none 0 0] := Blk.newAt (by first | rfl | simp only [World.size_alloc])
    have hch : Chg (fun _ _ => False) w (((((((((((w.alloc (.cells #[.slice A bs.length c] 56)).alloc (.cells #[.slice none 0 0, .slice none 0 0] 25)).alloc (.cells #[.int .i64 0] 3)).alloc (.cells #[.int .i64 (-1)] 3)).alloc (.cells #[.func (.func 37) #[] #[(.pointer (some ⟨(w.heap.size + 1 + 1 + 1), 0, none⟩))]] 72)).alloc (.cells #[.func (.func 38) #[] #[(.pointer (some ⟨(w.heap.size + 1 + 1 + 1), 0, none⟩)), (.pointer (some ⟨(w.heap.size + 1 + 1), 0, none⟩)), (.pointer (some ⟨w.heap.size, 0, none⟩)), (.pointer (some ⟨(w.heap.size + 1 + 1 + 1 + 1), 0, none⟩))]] 85)).alloc (.cells #[.func (.func 39) #[] #[(.pointer (some ⟨(w.heap.size + 1 + 1), 0, none⟩)), (.pointer (some ⟨(w.heap.size + 1 + 1 + 1 + 1 + 1), 0, none⟩)), (.pointer (some ⟨(w.heap.size + 1 + 1 + 1 + 1), 0, none⟩))]] 86)).alloc (.cells #[.func (.func 40) #[] #[(.pointer (some ⟨(w.heap.size + 1 + 1 + 1 + 1 + 1 + 1), 0, none⟩)), (.pointer (some ⟨(w.heap.size + 1 + 1 + 1), 0, none⟩))]] 87)).alloc (.cells #[.func (.func 41) #[] #[(.pointer (some ⟨(w.heap.size + 1 + 1 + 1 + 1 + 1 + 1 + 1), 0, none⟩)), (.pointer (some ⟨(w.heap.size + 1 + 1 + 1 + 1 + 1 + 1), 0, none⟩))]] 88)).alloc (.cells #[.func (.func 43) #[] #[(.pointer (some ⟨(w.heap.size + 1 + 1), 0, none⟩)), (.pointer (some ⟨(w.heap.size + 1 + 1 + 1 + 1 + 1), 0, none⟩)), (.pointer (some ⟨(w.heap.size + 1 + 1 + 1 + 1), 0, none⟩))]] 30)).alloc (.cells #[.slice none 0 0, .slice none 0 0] 25)) := by repeat' (first | exact Chg.refl _ _ | apply Chg.alloc)
    have hsz : (w.heap.size + 1 + 1 + 1 + 1 + 1 + 1 + 1 + 1 + 1 + 1) ≤ (((((((((((w.alloc (.cells #[.slice A bs.length c] 56)).alloc (.cells #[.slice none 0 0, .slice none 0 0] 25)).alloc (.cells #[.int .i64 0] 3)).alloc (.cells #[.int .i64 (-1)] 3)).alloc (.cells #[.func (.func 37) #[] #[(.pointer (some ⟨(w.heap.size + 1 + 1 + 1), 0, none⟩))]] 72)).alloc (.cells #[.func (.func 38) #[] #[(.pointer (some ⟨(w.heap.size + 1 + 1 + 1), 0, none⟩)), (.pointer (some ⟨(w.heap.size + 1 + 1), 0, none⟩)), (.pointer (some ⟨w.heap.size, 0, none⟩)), (.pointer (some ⟨(w.heap.size + 1 + 1 + 1 + 1), 0, none⟩))]] 85)).alloc (.cells #[.func (.func 39) #[] #[(.pointer (some ⟨(w.heap.size + 1 + 1), 0, none⟩)), (.pointer (some ⟨(w.heap.size + 1 + 1 + 1 + 1 + 1), 0, none⟩)), (.pointer (some ⟨(w.heap.size + 1 + 1 + 1 + 1), 0, none⟩))]] 86)).alloc (.cells #[.func (.func 40) #[] #[(.pointer (some ⟨(w.heap.size + 1 + 1 + 1 + 1 + 1 + 1), 0, none⟩)), (.pointer (some ⟨(w.heap.size + 1 + 1 + 1), 0, none⟩))]] 87)).alloc (.cells #[.func (.func 41) #[] #[(.pointer (some ⟨(w.heap.size + 1 + 1 + 1 + 1 + 1 + 1 + 1), 0, none⟩)), (.pointer (some ⟨(w.heap.size + 1 + 1 + 1 + 1 + 1 + 1), 0, none⟩))]] 88)).alloc (.cells #[.func (.func 43) #[] #[(.pointer (some ⟨(w.heap.size + 1 + 1), 0, none⟩)), (.pointer (some ⟨(w.heap.size + 1 + 1 + 1 + 1 + 1), 0, none⟩)), (.pointer (some ⟨(w.heap.size + 1 + 1 + 1 + 1), 0, none⟩))]] 30)).alloc (.cells #[.slice none 0 0, .slice none 0 0] 25)).heap.size := by simp only [World.size_alloc]; omega
    generalize (((((((((((w.alloc (.cells #[.slice A bs.length c] 56)).alloc (.cells #[.slice none 0 0, .slice none 0 0] 25)).alloc (.cells #[.int .i64 0] 3)).alloc (.cells #[.int .i64 (-1)] 3)).alloc (.cells #[.func (.func 37) #[] #[(.pointer (some ⟨(w.heap.size + 1 + 1 + 1), 0, none⟩))]] 72)).alloc (.cells #[.func (.func 38) #[] #[(.pointer (some ⟨(w.heap.size + 1 + 1 + 1), 0, none⟩)), (.pointer (some ⟨(w.heap.size + 1 + 1), 0, none⟩)), (.pointer (some ⟨w.heap.size, 0, none⟩)), (.pointer (some ⟨(w.heap.size + 1 + 1 + 1 + 1), 0, none⟩))]] 85)).alloc (.cells #[.func (.func 39) #[] #[(.pointer (some ⟨(w.heap.size + 1 + 1), 0, none⟩)), (.pointer (some ⟨(w.heap.size + 1 + 1 + 1 + 1 + 1), 0, none⟩)), (.pointer (some ⟨(w.heap.size + 1 + 1 + 1 + 1), 0, none⟩))]] 86)).alloc (.cells #[.func (.func 40) #[] #[(.pointer (some ⟨(w.heap.size + 1 + 1 + 1 + 1 + 1 + 1), 0, none⟩)), (.pointer (some ⟨(w.heap.size + 1 + 1 + 1), 0, none⟩))]] 87)).alloc (.cells #[.func (.func 41) #[] #[(.pointer (some ⟨(w.heap.size + 1 + 1 + 1 + 1 + 1 + 1 + 1), 0, none⟩)), (.pointer (some ⟨(w.heap.size + 1 + 1 + 1 + 1 + 1 + 1), 0, none⟩))]] 88)).alloc (.cells #[.func (.func 43) #[] #[(.pointer (some ⟨(w.heap.size + 1 + 1), 0, none⟩)), (.pointer (some ⟨(w.heap.size + 1 + 1 + 1 + 1 + 1), 0, none⟩)), (.pointer (some ⟨(w.heap.size + 1 + 1 + 1 + 1), 0, none⟩))]] 30)).alloc (.cells #[.slice none 0 0, .slice none 0 0] 25)) = W at q0 q1 q2 q3 q4 q5 q6 q7 q8 q9 q10 hch hsz ⊢
    generalize o10 : (w.heap.size + 1 + 1 + 1 + 1 + 1 + 1 + 1 + 1 + 1 + 1) = b10 at q0 q1 q2 q3 q4 q5 q6 q7 q8 q9 q10 hsz ⊢
    generalize o9 : (w.heap.size + 1 + 1 + 1 + 1 + 1 + 1 + 1 + 1 + 1) = b9 at q0 q1 q2 q3 q4 q5 q6 q7 q8 q9 q10 ⊢
    generalize o8 : (w.heap.size + 1 + 1 + 1 + 1 + 1 + 1 + 1 + 1) = b8 at q0 q1 q2 q3 q4 q5 q6 q7 q8 q9 q10 ⊢
    generalize o7 : (w.heap.size + 1 + 1 + 1 + 1 + 1 + 1 + 1) = b7 at q0 q1 q2 q3 q4 q5 q6 q7 q8 q9 q10 ⊢
    generalize o6 : (w.heap.size + 1 + 1 + 1 + 1 + 1 + 1) = b6 at q0 q1 q2 q3 q4 q5 q6 q7 q8 q9 q10 ⊢
    generalize o5 : (w.heap.size + 1 + 1 + 1 + 1 + 1) = b5 at q0 q1 q2 q3 q4 q5 q6 q7 q8 q9 q10 ⊢
    generalize o4 : (w.heap.size + 1 + 1 + 1 + 1) = b4 at q0 q1 q2 q3 q4 q5 q6 q7 q8 q9 q10 ⊢
    generalize o3 : (w.heap.size + 1 + 1 + 1) = b3 at q0 q1 q2 q3 q4 q5 q6 q7 q8 q9 q10 ⊢
    generalize o2 : (w.heap.size + 1 + 1) = b2 at q0 q1 q2 q3 q4 q5 q6 q7 q8 q9 q10 ⊢
    generalize o1 : (w.heap.size + 1) = b1 at q0 q1 q2 q3 q4 q5 q6 q7 q8 q9 q10 ⊢
    generalize o0 : w.heap.size = b0 at q0 q1 q2 q3 q4 q5 q6 q7 q8 q9 q10 ⊢
    obtain ⟨E, r0, r2, r3, r4, r5, r6, r7, r8, r9, rA, rc⟩ : ∃ E : EnvB, E.bs = b0 ∧ E.ba = b2 ∧ E.bb = b3 ∧ E.bf = b4 ∧ E.bn = b5 ∧ E.bm = b6 ∧ E.be = b7 ∧ E.bi = b8 ∧ E.bl = b9 ∧ E.A = A ∧ E.c = c := ⟨⟨b2, b3, b0, b4, b5, b6, b7, b8, b9, A, c⟩, rfl, rfl, rfl, rfl, rfl, rfl, rfl, rfl, rfl, rfl, rfl⟩
    subst r0 r2 r3 r4 r5 r6 r7 r8 r9 rA rc
    have hn : bs.length ≤ 1048576 := by omega
    have hL : Low E B b10 := ⟨by have := HV.out.2; omega⟩
    have hE : Env E B bs W (.ok 0) := ⟨0, ⟨q2, q3, q0, q4, q5, q6, q7, q8, q9, SlR.keep HV.out.1 hch ⟨fun _ _ _ => id, fun h => absurd rfl h⟩ fun _ _ h => h, ⟨by have := HV.out.2; omega, by have := HV.out.2; omega, Nat.le_trans HV.out.2 hch.size⟩, by omega⟩, Nat.zero_le _, fun a' h => by injection h with h; exact h.symm, fun f h => by cases h⟩
    have hJ : GrowT b10 b10 [] W := ⟨none, 0, q10, RowR.nil _ _ _ _ _⟩
    have hro : b1 < b10 := by omega
    have hwo : w.heap.size ≤ b10 ∧ w.heap.size ≤ b1 ∧ w.heap.size ≤ E.ba ∧ w.heap.size ≤ E.bb := by omega
    have HX := Lib.hid (And.intro hwo (And.intro hro (And.intro q1 (And.intro hch hL))))
    clear q0 q1 q2 q3 q4 q5 q6 q7 q8 q9 q10 o0 o1 o2 o3 o4 o5 o6 o7 o8 o9 o10 hch hro hwo
    refine (each_any E B bs _ (.ok 0) hE hn 44 #[ptr b10, ptr E.bm, ptr E.bi] enters7 (MD E b10) (fun b t h => .inl h) (GrowT b10 b10) (shapeP bs) hJ (fun w' hc => GrowT.keepE hL (Nat.le_refl _) hJ hc)
      (fun l w1 st1 hE1 hJ1 hl1 hc1 => shapes1_any E B b10 bs hL hn b10 (Nat.le_refl _) l w1 st1 hE1 hJ1 hl1 (Nat.le_trans hsz hc1.size))).mono fun e w2 hh => ?_
    obtain ⟨rfl, types, ⟨A1, c1, hb1, hrow1⟩, hv1, hE2, hc2⟩ := hh
    have ge := hE2.choose_spec.1.each.cell 0
    simp only [List.getElem?_toArray, List.getElem?_cons_zero] at ge
    have hsz2 : b10 ≤ w2.heap.size := Nat.le_trans hsz hc2.size
    have H2 := Lib.hid (And.intro hb1 (And.intro hrow1 (And.intro hv1 (And.intro hE2 (And.intro hc2 hsz2)))))
    clear hE hJ hL hsz hb1 hrow1 hv1 hE2 hc2 hsz2
    go_wp2_with fail
    refine (each_any E B bs _ _ H2.out.2.2.2.1 hn 45 #[ptr E.bm, ptr E.bi, ptr E.be, ptr E.bn, ptr E.bl, ptr b10] enters8 (MG E b10 b10 25 34) (fun b t h => .inl h) (GrowF b10 b10 (.slice A1 types.length c1)) (funcP bs) ⟨none, 0, H2.out.1, RowR.nil _ _ _ _ _⟩
      (fun w' hc => GrowF.keepE HX.out.2.2.2.2 (Nat.le_refl _) ⟨none, 0, H2.out.1, RowR.nil _ _ _ _ _⟩ hc)
      (fun l w1 st1 hE1 hJ1 hl1 hc1 => funcs1_any E B b10 bs HX.out.2.2.2.2 hn b10 (Nat.le_refl _) _ l w1 st1 hE1 hJ1 hl1 (Nat.le_trans H2.out.2.2.2.2.2 hc1.size))).mono fun e w3 hh => ?_
    obtain ⟨rfl, funcs, ⟨A3, c3, hb3, hrow3⟩, hv3, hE3, hc3⟩ := hh
    obtain ⟨s, hs⟩ : ∃ s, s = endS (runS (listP bs (funcP bs)) (endS (runS (listP bs (shapeP bs)) (.ok 0)))) := ⟨_, rfl⟩
    rw [← hs] at hE3
    have hread := read_state H2.out.2.2.1 hv3 hs
    have hno : ∀ t, t ≠ 3 → t ≠ 25 → t ≠ 34 → ∀ b, ¬ MG E b10 b10 25 34 b t := fun t h1 h2 h3 b h => by
      rcases h with h | h | h
      · exact h1 h.2
      · exact h2 h.2
      · exact h3 h.2
    have hnoi : ∀ b, b10 ≤ b → ¬ MG E b10 b10 25 34 b 3 := fun b hb h => by
      rcases h with h | h | h
      · have h8 := ME.low HX.out.2.2.2.2 h; omega
      · exact absurd h.2 (by decide)
      · exact absurd h.2 (by decide)
    have hrt : RowR b10 37 3 (ShapeP b10) w3 A1 c1 types := H2.out.2.1.keep hc3 (fun b _ => hno _ (by decide) (by decide) (by decide) b) fun _ _ h => h.keep hc3 hnoi
    have hr3 : Blk w3 b1 25 #[.slice none 0 0, .slice none 0 0] := (H2.out.2.2.2.2.1.blk HX.out.2.2.1 fun h => by
      rcases h with h | h
      · exact absurd h.2 (by decide)
      · have := HX.out.2.1; omega) |> fun h2 => hc3.blk h2 fun h => by
      have h9 := HX.out.2.1
      rcases h with h | h | h
      · exact absurd h.2 (by decide)
      · omega
      · omega
    have hcw : Chg (fun _ _ => False) w w3 := ((HX.out.2.2.2.1.trans_new H2.out.2.2.2.2.1 fun b t hb h => by
      have h9 := HX.out.1
      rcases h with h | h
      · rcases h.1 with h | h <;> omega
      · omega)).trans_new hc3 fun b t hb h => by
      have h9 := HX.out.1
      rcases h with h | h | h
      · rcases h.1 with h | h <;> omega
      · omega
      · omega
    have HR := Lib.hid (And.intro hrt (And.intro hrow3 (And.intro hr3 (And.intro hcw (And.intro hread hb3)))))
    clear hrt hrow3 hr3 hcw hread hb3 hno hnoi hc3 hv3 hs ge
    have HE3 := Lib.hid hE3
    obtain ⟨a, hb, ha, ha1, hf1⟩ := hE3
    have d1 := hb.at_.cell 0
    have d2 := hb.text.cell 0
    have d3 := hb.bad.cell 0
    have d4 := hb.fail.cell 0
    simp only [List.getElem?_toArray, List.getElem?_cons_zero] at d1 d2 d3 d4
    clear hb
    have hkeep : ∀ w4, Chg (ME E) w3 w4 → Blk w4 b1 25 #[.slice none 0 0, .slice none 0 0] := fun w4 hc => hc.blk HR.out.2.2.1 fun h => absurd h.2 (by decide)
    have HK := Lib.hid hkeep
    clear hkeep
    by_cases hat : a < bs.length
    · have t1 : decide ((a : Int) < (bs.length : Int)) = true := decide_eq_true (by omega)
      go_wp2_with fail
      refine (fail_any E B bs _ s HE3.out a ha).mono fun e w4 hh => ?_
      obtain ⟨rfl, hE4, hc4⟩ := hh
      have hfs : ∃ f : Nat, failS s a = .error f ∧ readP bs = .error f := by
        rw [HR.out.2.2.2.2.1]
        cases s with
        | error f => exact ⟨f, rfl, rfl⟩
        | ok a' =>
          obtain rfl := ha1 a' rfl
          exact ⟨a', rfl, by simp [endM, hat]⟩
      obtain ⟨f, hf, hrd⟩ := hfs
      rw [hf] at hE4
      have HBB := Lib.hid hE4.choose_spec.1.bad
      have d3 := hE4.choose_spec.1.bad.cell 0
      simp only [List.getElem?_toArray, List.getElem?_cons_zero] at d3
      rw [show badI (.error f) = (f : Int) from rfl] at d3
      have hr4 := HK.out w4 hc4
      obtain ⟨y0, y1⟩ := hr4.cells2
      have yz0 := hr4.frozen 0
      have yz1 := hr4.frozen 1
      have HQ := Lib.hid (And.intro hr4 hrd)
      clear hr4
      have hcz : Chg (fun _ _ => False) w w4 := (HR.out.2.2.2.1.trans_new hc4 fun b t hb h => by have h9 := HX.out.1; rcases h.1 with h | h <;> omega)
      have HZ := Lib.hid hcz
      clear hcz hc4
      have hne : b1 ≠ E.bb := Blk.ne_ HQ.out.1 HBB.out (by decide)
      go_wp2_with fail
      go_region
      go_wp2
      refine bodyPost_ret (v := .tuple #[zeroM, .int .i64 (f : Int), .int .i64 5]) (by simp [results, Try.results18, go_sem, y0, y1]) rfl ?_
      exact ⟨zeroM, f, 5, rfl, (by repeat' (first | exact HZ.out | apply Chg.drew | apply Chg.drewN | refine Chg.setNew ?_ _ _ HX.out.1.2.1)), .inr ⟨hn, .inl ⟨f, HQ.out.2, rfl, rfl, rfl⟩⟩⟩
    · have t1 : decide ((a : Int) < (bs.length : Int)) = false := decide_eq_false (by omega)
      cases s with
      | error f =>
        rw [show badI (.error f) = (f : Int) from rfl] at d3
        have HBB := Lib.hid HE3.out.choose_spec.1.bad
        have hrd : readP bs = .error f := HR.out.2.2.2.2.1
        have hr4 := HK.out w3 (Chg.refl _ _)
        obtain ⟨y0, y1⟩ := hr4.cells2
        have yz0 := hr4.frozen 0
        have yz1 := hr4.frozen 1
        have HQ := Lib.hid (And.intro hr4 hrd)
        clear hr4
        have hcz : Chg (fun _ _ => False) w w3 := HR.out.2.2.2.1
        have HZ := Lib.hid hcz
        clear hcz
        have hne : b1 ≠ E.bb := Blk.ne_ HQ.out.1 HBB.out (by decide)
        go_wp2_with fail
        go_region
        go_wp2
        refine bodyPost_ret (v := .tuple #[zeroM, .int .i64 (f : Int), .int .i64 5]) (by simp [results, Try.results18, go_sem, y0, y1]) rfl ?_
        exact ⟨zeroM, f, 5, rfl, (by repeat' (first | exact HZ.out | apply Chg.drew | apply Chg.drewN | refine Chg.setNew ?_ _ _ HX.out.1.2.1)), .inr ⟨hn, .inl ⟨f, HQ.out.2, rfl, rfl, rfl⟩⟩⟩
      | ok a' =>
        rw [show badI (.ok a') = -1 from rfl] at d3
        obtain rfl := ha1 a' rfl
        have hbm := HR.out.2.2.2.2.2
        have hr4 := HR.out.2.2.1
        obtain ⟨x0, x1⟩ := hbm.cells2
        obtain ⟨y0, y1⟩ := hr4.cells2
        have yz0 := hr4.frozen 0
        have yz1 := hr4.frozen 1
        have hne : b1 ≠ b10 := fun h => by have := HX.out.2.1; omega
        have hne2 : b10 ≠ b1 := fun h => hne h.symm
        clear hbm hr4
        go_wp2_with fail
        refine bodyPost_ret (v := .tuple #[.agg #[.slice A1 types.length c1, .slice A3 funcs.length c3], .int .i64 0, .int .i64 0]) (by simp [results, Try.results18, go_sem, y0, y1]) rfl ?_
        have hs : Chg (fun b t => b = b1 ∧ t = 25) w3 ((w3.setCell ⟨b1, 0, none⟩ (.slice A1 types.length c1)).setCell ⟨b1, 1, none⟩ (.slice A3 funcs.length c3)) := (chg_set HR.out.2.2.1 _).trans (chg_set (HR.out.2.2.1.set_ 0 _) _)
        have hrd : readP bs = .ok ⟨types, funcs⟩ := by rw [HR.out.2.2.2.2.1]; simp [endM, hat]
        have hw0 := HX.out.1.1
        refine ⟨_, 0, 0, rfl, (HR.out.2.2.2.1.setNew 0 _ HX.out.1.2.1).setNew 1 _ HX.out.1.2.1, .inr ⟨hn, .inr ⟨⟨types, funcs⟩, hrd, rfl, rfl, A1, c1, A3, c3, rfl, ?_, ?_⟩⟩⟩
        · exact ((HR.out.1.keep hs (fun b _ h => absurd h.2 (by decide)) fun _ _ h => h.keep hs fun b _ h => absurd h.2 (by decide)).imp fun _ _ h => h.rebase hw0).rebase hw0
        · exact ((HR.out.2.1.keep hs (fun b _ h => absurd h.2 (by decide)) fun _ _ h => h.keep hs (fun b _ h => absurd h.2 (by decide)) (fun b _ h => absurd h.2 (by decide)) (fun b _ h => absurd h.2 (by decide))).imp fun _ _ h => h.rebase hw0).rebase hw0
end Go.Proofs.Ytdegfnejhamejaa
