/- The statement on products truncated twice answers true; conditions: bytes; lengths of slices. -/
import Derived.Test.YthjhgegilibadaaDoorQDD
import Derived.Test.YthjhgegilibadaaDoorER8D
namespace Go.Ab
set_option linter.unusedVariables false
set_option linter.unusedSimpArgs false
set_option linter.unusedSimpArgs false
set_option linter.unusedVariables false
theorem new_ok {l h : Int} (hw : (Iv.new l h).isW = false) : number l ∧ number h ∧ Iv.new l h = ⟨l, h⟩ := by
  unfold Iv.new at hw ⊢
  split at hw
  · rename_i hn; exact ⟨hn.1, hn.2, by rw [if_pos hn]⟩
  · cases hw
theorem not_isW {l h : Int} (hl : number l) : Iv.isW ⟨l, h⟩ = false := by
  have : ¬ l = -2147483648 := by have := hl.1; omega
  simp [Iv.isW, this]
theorem finish_nW {p : List Tm} {most lo hi : Int} (h : (finish p most lo hi).2.isW = false) : nums p ∧ (p.filter (kp most)).length ≤ 100 ∧ number (lo + los (p.filter (dp most))) ∧ number (hi + his (p.filter (dp most))) ∧
    finish p most lo hi = (p.filter (kp most), ⟨lo + los (p.filter (dp most)), hi + his (p.filter (dp most))⟩) := by
  unfold finish at h ⊢
  split at h
  · rename_i hc
    obtain ⟨h1, h2, h3⟩ := hc
    obtain ⟨n1, n2, e⟩ := new_ok h3
    refine ⟨numsB_iff.1 h1, h2, n1, n2, ?_⟩
    rw [if_pos ⟨h1, h2, h3⟩, e]
  · cases h
theorem finish_mk {p : List Tm} {most lo hi : Int} (hn : nums p) (hl : (p.filter (kp most)).length ≤ 100) (h1 : number (lo + los (p.filter (dp most)))) (h2 : number (hi + his (p.filter (dp most)))) :
    finish p most lo hi = (p.filter (kp most), ⟨lo + los (p.filter (dp most)), hi + his (p.filter (dp most))⟩) := by
  have e : Iv.new (lo + los (p.filter (dp most))) (hi + his (p.filter (dp most))) = ⟨lo + los (p.filter (dp most)), hi + his (p.filter (dp most))⟩ := by unfold Iv.new; rw [if_pos ⟨h1, h2⟩]
  unfold finish
  rw [e, if_pos ⟨numsB_iff.2 hn, hl, not_isW h1⟩]
theorem kp_le {low high : Int} (h : low ≤ high) {t : Tm} (hk : kp low t = true) : kp high t = true := by
  unfold kp at *
  simp only [decide_eq_true_eq] at *
  exact ⟨hk.1, by omega⟩
theorem kp_kp {low high : Int} (h : low ≤ high) (p : List Tm) : (p.filter (kp high)).filter (kp low) = p.filter (kp low) := by
  rw [List.filter_filter]
  refine List.filter_congr fun t _ => ?_
  cases hk : kp low t
  · rfl
  · rw [kp_le h hk]; rfl
theorem kd {most : Int} {t : Tm} (h : t.c ≠ 0) : dp most t = !kp most t := by
  unfold kp dp
  by_cases hd : ((t.e.deg : Nat) : Int) ≤ min most 6 <;> simp [h, hd]
theorem dp_zero {most : Int} {t : Tm} (h : t.c = 0) : dp most t = false ∧ kp most t = false := by simp [kp, dp, h]
theorem los_cons (t : Tm) (p : List Tm) : los (t :: p) = (rng t).1 + los p := rfl
theorem his_cons (t : Tm) (p : List Tm) : his (t :: p) = (rng t).2 + his p := rfl
theorem los_split {low high : Int} (h : low ≤ high) : ∀ p : List Tm, los (p.filter (dp low)) = los (p.filter (dp high)) + los ((p.filter (kp high)).filter (dp low)) ∧ his (p.filter (dp low)) = his (p.filter (dp high)) + his ((p.filter (kp high)).filter (dp low))
  | [] => ⟨rfl, rfl⟩
  | t :: p => by
    obtain ⟨i1, i2⟩ := los_split h p
    by_cases h0 : t.c = 0
    · obtain ⟨a1, a2⟩ := dp_zero (most := low) h0
      obtain ⟨b1, b2⟩ := dp_zero (most := high) h0
      simp only [List.filter_cons, a1, b1, b2, Bool.false_eq_true, if_false]
      exact ⟨i1, i2⟩
    · have k1 := kd (most := low) h0
      have k2 := kd (most := high) h0
      cases hl : kp low t
      · cases hh : kp high t
        · rw [hl] at k1
          rw [hh] at k2
          simp only [List.filter_cons, hh, k1, k2, Bool.not_false, if_true, Bool.false_eq_true, if_false, los_cons, his_cons, i1, i2]
          omega
        · rw [hl] at k1
          rw [hh] at k2
          simp only [List.filter_cons, hh, k1, k2, Bool.not_false, Bool.not_true, if_true, Bool.false_eq_true, if_false, los_cons, his_cons, i1, i2]
          omega
      · have hh := kp_le h hl
        rw [hl] at k1
        rw [hh] at k2
        simp only [List.filter_cons, hh, k1, k2, Bool.not_true, if_true, Bool.false_eq_true, if_false]
        exact ⟨i1, i2⟩
theorem rng_sign {t : Tm} (h : 0 < t.e.deg) : (rng t).1 ≤ 0 ∧ 0 ≤ (rng t).2 := by
  unfold rng
  rw [if_neg (by omega)]
  split <;> simp only <;> omega
theorem los_sign {most : Int} (h0 : 0 ≤ most) : ∀ p : List Tm, los (p.filter (dp most)) ≤ 0 ∧ 0 ≤ his (p.filter (dp most))
  | [] => ⟨Int.le_refl _, Int.le_refl _⟩
  | t :: p => by
    obtain ⟨i1, i2⟩ := los_sign h0 p
    cases hd : dp most t
    · simp only [List.filter_cons, hd, Bool.false_eq_true, if_false]
      exact ⟨i1, i2⟩
    · have hd' := hd
      unfold dp at hd'
      simp only [decide_eq_true_eq] at hd'
      obtain ⟨s1, s2⟩ := rng_sign (t := t) (by omega)
      simp only [List.filter_cons, hd, if_true, los_cons, his_cons]
      omega
theorem rRow_sign (x : Tm) : ∀ (b : List Tm) (s : MS), s.lo ≤ 0 → 0 ≤ s.hi → (b.foldl (rStep x) s).lo ≤ 0 ∧ 0 ≤ (b.foldl (rStep x) s).hi
  | [], s, h1, h2 => ⟨h1, h2⟩
  | y :: b, s, h1, h2 => by
    have l1 := rlo_b (x.c * y.c) (x.e.add y.e)
    have l2 := rhi_b (x.c * y.c)
    exact rRow_sign x b _ (by simp only [rStep]; omega) (by simp only [rStep]; omega)
theorem rAll_sign (b : List Tm) : ∀ (a : List Tm) (s : MS), s.lo ≤ 0 → 0 ≤ s.hi → (a.foldl (rRow b) s).lo ≤ 0 ∧ 0 ≤ (a.foldl (rRow b) s).hi
  | [], s, h1, h2 => ⟨h1, h2⟩
  | x :: a, s, h1, h2 => by
    have := rRow_sign x b s h1 h2
    exact rAll_sign b a _ this.1 this.2
theorem valid_mk {l h : Int} (h1 : number l) (h2 : number h) (h3 : l ≤ h) : Iv.valid ⟨l, h⟩ := by
  unfold number at h1 h2
  exact ⟨h3, by simp only; omega, by simp only; omega, .inr ⟨h1, h2⟩⟩
theorem add_mk {a b c d : Int} (h1 : number a) (h3 : number c) (h5 : number (a + c)) (h6 : number (b + d)) : Iv.add ⟨a, b⟩ ⟨c, d⟩ = ⟨a + c, b + d⟩ := by
  unfold Iv.add
  rw [not_isW h1, not_isW h3]
  simp only [Bool.or_self, Bool.false_eq_true, if_false, Iv.new]
  rw [if_pos ⟨h5, h6⟩]
/-- The law: truncated twice is truncated once. -/
theorem mul_trunc {A B : List Tm} (fA : fines A) (fB : fines B) {low high : Int} (h0 : 0 ≤ low) (hlh : low ≤ high) (w1 : (mulP A B high).2.isW = false) (w2 : (mulP A B low).2.isW = false) :
    (trunc (mulP A B high).1 low).1 = (mulP A B low).1 ∧ (mulP A B low).2 = (mulP A B high).2.add (trunc (mulP A B high).1 low).2 ∧ (mulP A B high).2.valid ∧ (trunc (mulP A B high).1 low).2.valid := by
  rw [mulP_eq fA fB] at w1 w2 ⊢
  rw [mulP_eq fA fB]
  have hs := rAll_sign B A ⟨[], 0, 0⟩ (Int.le_refl _) (Int.le_refl _)
  change (rAll A B).lo ≤ 0 ∧ 0 ≤ (rAll A B).hi at hs
  generalize rAll A B = s at *
  obtain ⟨n1, l1, a1, b1, e1⟩ := finish_nW w1
  obtain ⟨_, l2, a2, b2, e2⟩ := finish_nW w2
  rw [e1, e2]
  simp only
  obtain ⟨s1, s2⟩ := los_split hlh s.m
  have g1 := los_sign (show (0 : Int) ≤ high by omega) s.m
  have g2 := los_sign h0 (s.m.filter (kp high))
  have n3 : nums (s.m.filter (kp high)) := fun t ht => n1 t (List.mem_filter.1 ht).1
  rw [s1] at a2
  rw [s2] at b2
  have c1 : number (0 + los ((s.m.filter (kp high)).filter (dp low))) := by unfold number at *; omega
  have c2 : number (0 + his ((s.m.filter (kp high)).filter (dp low))) := by unfold number at *; omega
  have e3 : trunc (s.m.filter (kp high)) low = ((s.m.filter (kp high)).filter (kp low), ⟨0 + los ((s.m.filter (kp high)).filter (dp low)), 0 + his ((s.m.filter (kp high)).filter (dp low))⟩) :=
    finish_mk n3 (by rw [kp_kp hlh]; exact l2) c1 c2
  rw [e3]
  simp only
  refine ⟨kp_kp hlh _, ?_, valid_mk a1 b1 (by omega), valid_mk c1 c2 (by omega)⟩
  rw [Int.zero_add, Int.zero_add] at *
  rw [add_mk a1 c1 (by rw [Int.add_assoc]; exact a2) (by rw [Int.add_assoc]; exact b2), s1, s2, Int.add_assoc, Int.add_assoc]
set_option maxRecDepth 100000 in
theorem p7 (a b : List Tm) (hal : a.length < 9223372036854775808) (hbl : b.length < 9223372036854775808) (c n : Int) (x y : Nat) (hx : x < 256) (hy : y < 256) :
    (CW GD LD).p (.func 7) [.agg [.slice .any (a.map Tm.cs), .slice .any (b.map Tm.cs), .int .i64 c, .int .i8 n], .int .u8 ((x : Nat) : Int), .int .u8 ((y : Nat) : Int)] = some (.bool true) := by
  have hsmall := p37 a b hal hbl c n
  have PA := pol_made a 6 1048576
  have PB := pol_made b 6 1048576
  generalize madeP a 6 1048576 = A at *
  generalize madeP b 6 1048576 = B at *
  obtain ⟨oA, nA, sA, fA, lA⟩ := PA
  obtain ⟨oB, nB, sB, fB, lB⟩ := PB
  have wx : IntKind.wrap .i64 ((x : Nat) : Int) = ((x : Nat) : Int) := w64 (by omega) (by omega)
  have wy : IntKind.wrap .i64 ((y : Nat) : Int) = ((y : Nat) : Int) := w64 (by omega) (by omega)
  have tx : 0 ≤ Int.tmod ((x : Nat) : Int) 8 := Int.tmod_nonneg _ (by omega)
  have ty : 0 ≤ Int.tmod ((y : Nat) : Int) 8 := Int.tmod_nonneg _ (by omega)
  refine CW_val (h := []) ?_ rfl
  rw [e7, wx, wy]
  generalize hH : (if Int.tmod ((y : Nat) : Int) 8 > Int.tmod ((x : Nat) : Int) 8 then Int.tmod ((y : Nat) : Int) 8 else Int.tmod ((x : Nat) : Int) 8) = high
  generalize hL : (if Int.tmod ((y : Nat) : Int) 8 < Int.tmod ((x : Nat) : Int) 8 then Int.tmod ((y : Nat) : Int) 8 else Int.tmod ((x : Nat) : Int) 8) = low
  have h0 : 0 ≤ low := by rw [← hL]; split <;> omega
  have hlh : low ≤ high := by rw [← hL, ← hH]; split <;> split <;> omega
  clear hH hL wx wy
  have mu := fun m => p15 A B fA lA fB lB m
  have tr := p19 (mulP A B high).1 low (mul_oks fA fB high) (by have := mul_len A B high; unfold few; omega)
  have key := mul_trunc fA fB h0 hlh
  refine (eBool p8 _).trans ?_
  refine (eTwo hsmall _).trans ?_
  refine (eP (mu _) _).trans ?_
  refine (eP (mu _) _).trans ?_
  refine (eP tr _).trans ?_
  refine (eBool (p34 _ _) _).trans ?_
  cases w1 : (mulP A B high).2.isW
  · refine (cF rfl _ _).trans ?_
    refine (eBool (p34 _ _) _).trans ?_
    cases w2 : (mulP A B low).2.isW
    · refine (cF rfl _ _).trans ?_
      obtain ⟨k1, k2, v1, v2⟩ := key w1 w2
      have hsame : (CW GD LD).p (.func 21) [.slice .any ((mulP A B low).1.map Tm.cs), .slice .any ((trunc (mulP A B high).1 low).1.map Tm.cs)] = some (.bool true) := by
        rw [k1]; exact same_self (mul_oks fA fB low) (mul_len A B low)
      refine (eBool hsame _).trans ?_
      refine (cT rfl _ _).trans ?_
      refine (eIv (p41 _ _ v1 v2) _).trans ?_
      have hiv : (CW GD LD).p (.func 22) [.agg [.int .i64 (mulP A B low).2.lo, .int .i64 (mulP A B low).2.hi], .agg [.int .i64 ((mulP A B high).2.add (trunc (mulP A B high).1 low).2).lo, .int .i64 ((mulP A B high).2.add (trunc (mulP A B high).1 low).2).hi]] = some (.bool true) := by
        rw [← k2]; exact iv_self _
      refine (eBool hiv _).trans ?_
      exact cT rfl _ _
    · exact cT rfl _ _
  · exact cT rfl _ _
end Go.Ab
