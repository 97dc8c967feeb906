/- Segments; pairs of segments that overlap; conditions: none. -/
import Derived.Test.YtbfecmgiffkooaaYC
namespace Go.Ab
set_option linter.unusedSimpArgs false
set_option linter.unusedVariables false

def Seg.fin (s : Seg) : Int := s.t + s.h
structure Seg.ok (s : Seg) : Prop where
  t0 : -1000000000000 ≤ s.t
  t1 : s.t ≤ 1000000000000
  h0 : 0 ≤ s.h
  h1 : s.h ≤ 1000000000000
  len : s.tube.length ≤ 3
  val : valids s.tube
def oks (l : List Seg) : Prop := ∀ s ∈ l, s.ok
def long (l : List Seg) (pos : Nat) : Prop := ∀ s ∈ l, pos ≤ s.tube.length
theorem p37 (s : Seg) (h : s.ok) : (CW G20 L20).p (.func 37) [.agg [.int .i64 s.t, .int .i64 s.h, .slice .any (s.frm.map Iv.c), .slice .any (s.pre.map Iv.c), .slice .any (s.tube.map Iv.c), .slice .any (s.to.map Iv.c)]] = some (.int .i64 s.fin) := by
  refine CW_val (h := []) ?_ rfl
  rw [e37, w64 (by have := h.t0; have := h.h0; omega) (by have := h.t1; have := h.h1; omega)]; rfl
theorem p24 (s : Seg) (h : s.ok) : (CW G20 L20).p (.func 24) [.agg [.int .i64 s.t, .int .i64 s.h, .slice .any (s.frm.map Iv.c), .slice .any (s.pre.map Iv.c), .slice .any (s.tube.map Iv.c), .slice .any (s.to.map Iv.c)]] = some (.agg [.int .i64 s.t, .int .i64 s.fin]) := by
  refine CW_val (h := []) ?_ rfl
  rw [e24, w64 (by have := h.t0; have := h.h0; omega) (by have := h.t1; have := h.h1; omega)]; rfl
/-- The common time of two segments. -/
def timeOf (s r : Seg) : Iv := ⟨if r.t > s.t then r.t else s.t, if r.fin < s.fin then r.fin else s.fin⟩
def skipB (t : Int) (b : List Seg) : List Seg := b.dropWhile fun r => decide (r.fin < t)
def meetB (e : Int) (b : List Seg) : List Seg := b.takeWhile fun r => !decide (r.t > e)
/-- The pairs of segments that overlap, as the program finds them. -/
def pairsOf : List Seg → List Seg → List (Seg × Seg)
  | [], _ => []
  | s :: a, b => (meetB s.fin (skipB s.t b)).map (fun r => (s, r)) ++ pairsOf a (skipB s.t b)
/-- Steps through pairs, till one says no. -/
def runP {σ : Type} (step : σ → Seg × Seg → σ × Bool) : σ → List (Seg × Seg) → σ × Bool
  | s, [] => (s, true)
  | s, p :: l => match (step s p).2 with
    | true => runP step (step s p).1 l
    | false => ((step s p).1, false)
theorem runP_append {σ : Type} (step : σ → Seg × Seg → σ × Bool) : ∀ (l m : List (Seg × Seg)) (s : σ), runP step s (l ++ m) = match (runP step s l).2 with
    | true => runP step (runP step s l).1 m
    | false => ((runP step s l).1, false) := by
  intro l
  induction l with
  | nil => intro m s; rfl
  | cons p l ih =>
    intro m s
    simp only [List.cons_append, runP]
    cases (step s p).2 with
    | true => exact ih m _
    | false => rfl
theorem skipB_suffix (t : Int) (b : List Seg) : b.drop (b.length - (skipB t b).length) = skipB t b := by
  induction b with
  | nil => rfl
  | cons r b ih =>
    unfold skipB at ih ⊢
    simp only [List.dropWhile_cons]
    split
    · have hle : (List.dropWhile (fun r => decide (r.fin < t)) b).length ≤ b.length := (List.dropWhile_sublist _).length_le
      rw [show (r :: b).length - (List.dropWhile (fun r => decide (r.fin < t)) b).length = (b.length - (List.dropWhile (fun r => decide (r.fin < t)) b).length) + 1 by simp only [List.length_cons]; omega]
      exact ih
    · simp
theorem skipB_len (t : Int) (b : List Seg) : (skipB t b).length ≤ b.length := (List.dropWhile_sublist _).length_le
theorem drop_skip {b : List Seg} {first : Nat} (h : first ≤ b.length) (t : Int) : b.drop (b.length - (skipB t (b.drop first)).length) = skipB t (b.drop first) := by
  have h1 := skipB_suffix t (b.drop first)
  have h2 := skipB_len t (b.drop first)
  rw [List.drop_drop, List.length_drop] at h1
  rw [List.length_drop] at h2
  rw [show first + (b.length - first - (skipB t (b.drop first)).length) = b.length - (skipB t (b.drop first)).length by omega] at h1
  exact h1
theorem headIs_map (l : List Seg) : headIs 6 (l.map Seg.c) = true := by cases l <;> rfl
theorem nn_dec (n : Nat) : decide ((0 : Int) ≤ (n : Int)) = true := by simp
theorem getS (l : List Seg) (i : Nat) (h : i < l.length) : getRow (l.map Seg.c) (i : Int) 6 = some l[i].c := getRow_map Seg.c Seg.c_len l i h
end Go.Ab
