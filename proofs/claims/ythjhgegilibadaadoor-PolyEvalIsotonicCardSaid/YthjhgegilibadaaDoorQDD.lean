/- The statement that all functions agree with the reference answers true; conditions: bytes; lengths of slices. -/
import Derived.Test.YthjhgegilibadaaDoorQ2
import Derived.Test.YthjhgegilibadaaDoorP0
namespace Go.Ab
set_option linter.unusedVariables false
set_option linter.unusedSimpArgs false
set_option linter.unusedSimpArgs false
set_option linter.unusedVariables false
theorem finish_oks {p : List Tm} (h : oks p) (most lo hi : Int) : oks (finish p most lo hi).1 := by
  unfold finish
  split
  · exact fun t ht => h t (List.mem_filter.1 ht).1
  · intro t ht; cases ht
theorem finish_len (p : List Tm) (most lo hi : Int) : (finish p most lo hi).1.length ≤ 100 := by
  unfold finish
  split
  · rename_i h; exact h.2.1
  · exact Nat.zero_le _
/-- What a polynomial that was made is. -/
structure Pol (p : List Tm) : Prop where
  ok : oks p
  nm : nums p
  st : sortedP p
  fi : fines p
  ln : p.length ≤ 100
theorem pol_of {p : List Tm} (h : oks p) (hv : validP p) : Pol p := ⟨h, fun t ht => (hv.1 t ht).1, hv.2.1, hv.1, hv.2.2⟩
theorem pol_made (p : List Tm) (most size : Int) : Pol (madeP p most size) := pol_of (madeP_ok p most size).1 (madeP_ok p most size).2.1
theorem add_oks {a b : List Tm} (ha : oks a) (hb : oks b) : oks (addP a b).1 := finish_oks (merge_oks _ a b (Nat.le_refl _) ha hb) _ _ _
theorem add_len (a b : List Tm) : (addP a b).1.length ≤ 100 := finish_len _ _ _ _
theorem rAll_oks {b : List Tm} (hb : fines b) : ∀ (a : List Tm) (s : MS), fines a → oks s.m → oks (a.foldl (rRow b) s).m
  | [], s, _, h => h
  | x :: a, s, ha, h => by
    have hx := ha x (by simp)
    refine rAll_oks hb a _ (fun t ht => ha t (by simp [ht])) ?_
    have row : ∀ (b : List Tm) (s : MS), fines b → oks s.m → oks (b.foldl (rStep x) s).m := by
      intro b
      induction b with
      | nil => intro s _ h; exact h
      | cons y b ih => intro s hb h; exact ih _ (fun t ht => hb t (by simp [ht])) (ins_oks _ _ h (add_ok hx (hb y (by simp))))
    exact row b s hb h
theorem mul_oks {a b : List Tm} (ha : fines a) (hb : fines b) (most : Int) : oks (mulP a b most).1 := by
  rw [mulP_eq ha hb]
  exact finish_oks (rAll_oks hb a _ ha fun t ht => by cases ht) _ _ _
theorem mul_len (a b : List Tm) (most : Int) : (mulP a b most).1.length ≤ 100 := finish_len _ _ _ _
theorem scale_oks {a : List Tm} (ha : oks a) (c : Int) : oks (scaleP a c).1 := finish_oks (fun t ht => by
  obtain ⟨u, hu, rfl⟩ := List.mem_map.1 ht
  exact ha u hu) _ _ _
theorem scale_len (a : List Tm) (c : Int) : (scaleP a c).1.length ≤ 100 := finish_len _ _ _ _
theorem trunc_oks {a : List Tm} (ha : oks a) (n : Int) : oks (trunc a n).1 := finish_oks ha _ _ _
theorem trunc_len (a : List Tm) (n : Int) : (trunc a n).1.length ≤ 100 := finish_len _ _ _ _
theorem same_self {p : List Tm} (h : oks p) (hl : p.length ≤ 100) : (CW GD LD).p (.func 21) [.slice .any (p.map Tm.cs), .slice .any (p.map Tm.cs)] = some (.bool true) := by
  rw [p21 p p h h (by unfold few; omega)]; simp
theorem iv_self (v : Iv) : (CW GD LD).p (.func 22) [.agg [.int .i64 v.lo, .int .i64 v.hi], .agg [.int .i64 v.lo, .int .i64 v.hi]] = some (.bool true) := by
  rw [p22]; simp
theorem const_oks (c : Int) : oks (constP c) := by
  intro t ht
  unfold constP at ht
  split at ht
  · cases ht
  · rw [List.mem_singleton.1 ht]; exact (show E6.zero.ok by decide)
theorem unit_ok (i : Int) : (E6.unit i).ok := by
  simp only [E6.unit, E6.ok]
  refine ⟨?_, ?_, ?_, ?_, ?_, ?_⟩ <;> split <;> omega
theorem var_oks (i : Int) : oks (varP i) := by
  intro t ht
  unfold varP at ht
  split at ht
  · cases ht
  · rw [List.mem_singleton.1 ht]; exact unit_ok i
theorem var_len (i : Int) : (varP i).length ≤ 100 := by unfold varP; split <;> simp
theorem tmod_number (c : Int) : number (c.tmod 2147483648) := by
  have h1 := Int.tmod_lt_of_pos c (show (0 : Int) < 2147483648 by decide)
  have h2 := Int.lt_tmod_of_pos c (show (0 : Int) < 2147483648 by decide)
  exact ⟨h2, h1⟩
end Go.Ab
