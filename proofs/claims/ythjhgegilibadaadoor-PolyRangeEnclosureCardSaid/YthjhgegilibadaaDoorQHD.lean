/- The bound on the range lies in the value over the whole domain; conditions: numbers. -/
import Derived.Test.YthjhgegilibadaaDoorQGD
namespace Go.Ab
set_option linter.unusedVariables false
set_option linter.unusedSimpArgs false
set_option linter.unusedSimpArgs false
set_option linter.unusedVariables false
theorem bx_nil (k : Nat) : bx [] k = dom := rfl
/-- A term's value while its variables are met: as it stands; met by an even power; met by an odd one. -/
def dst (c : Int) : Nat → Iv
  | 0 => ⟨c, c⟩
  | 1 => ⟨min c 0, max c 0⟩
  | _ => ⟨min c (-c), max c (-c)⟩
def dnx (s u : Nat) : Nat := if u = 0 then s else if u % 2 = 1 then 2 else max s 1
theorem fl_65 (x : Int) : fl (x * 65536) = x := by unfold fl; omega
theorem ce_65 (x : Int) : ce (x * 65536) = x := by unfold ce; omega
theorem nW_of {a : Iv} (h1 : number a.lo) : a.isW = false := by
  unfold number at h1
  simp only [Iv.isW, Bool.and_eq_false_iff, beq_eq_false_iff_ne, ne_eq]
  left; omega
theorem new_nn {l h : Int} (h1 : number l) (h2 : number h) : Iv.new l h = ⟨l, h⟩ := by unfold Iv.new; rw [if_pos ⟨h1, h2⟩]
theorem mul_dom {l h : Int} (h1 : number l) (h2 : number h) (h3 : l ≤ h) : (⟨l, h⟩ : Iv).mul dom = ⟨min l (-h), max h (-l)⟩ := by
  have w : (⟨l, h⟩ : Iv).isW = false := nW_of h1
  unfold Iv.mul
  rw [w, show dom.isW = false from rfl]
  simp only [Bool.or_self, Bool.false_eq_true, if_false, dom]
  have e1 : min4 (l * -65536) (l * 65536) (h * -65536) (h * 65536) = min l (-h) * 65536 := by unfold min4; omega
  have e2 : max4 (l * -65536) (l * 65536) (h * -65536) (h * 65536) = max h (-l) * 65536 := by unfold max4; omega
  rw [e1, e2, fl_65, ce_65]
  unfold number at *
  exact new_nn (by unfold number; omega) (by unfold number; omega)
theorem mul_unit2 {l h : Int} (h1 : number l) (h2 : number h) (h3 : l ≤ h) : (⟨l, h⟩ : Iv).mul unit2 = ⟨min l 0, max h 0⟩ := by
  have w : (⟨l, h⟩ : Iv).isW = false := nW_of h1
  unfold Iv.mul
  rw [w, show unit2.isW = false from rfl]
  simp only [Bool.or_self, Bool.false_eq_true, if_false, unit2]
  have e1 : min4 (l * 0) (l * 65536) (h * 0) (h * 65536) = min l 0 * 65536 := by unfold min4; omega
  have e2 : max4 (l * 0) (l * 65536) (h * 0) (h * 65536) = max h 0 * 65536 := by unfold max4; omega
  rw [e1, e2, fl_65, ce_65]
  unfold number at *
  exact new_nn (by unfold number; omega) (by unfold number; omega)
theorem dst_b {c : Int} (hc : number c) (s : Nat) : number (dst c s).lo ∧ number (dst c s).hi ∧ (dst c s).lo ≤ (dst c s).hi := by
  unfold number at *
  match s with
  | 0 => simp only [dst]; omega
  | 1 => simp only [dst]; omega
  | _ + 2 => simp only [dst]; omega
theorem dnx_2 (s u : Nat) (h : s ≤ 2) : dnx s u ≤ 2 := by unfold dnx; split; · exact h
                                                          · split <;> omega
theorem evS_dst {c : Int} (hc : number c) (k u s : Nat) (hs : s ≤ 2) : evS [] k u (dst c s) = dst c (dnx s u) := by
  unfold evS
  have b := dst_b hc s
  by_cases h0 : u = 0
  · subst h0; rfl
  · rw [if_pos (by omega), bx_nil, ipow_dom u (by omega)]
    unfold dnx
    rw [if_neg h0]
    by_cases h1 : u % 2 = 1
    · rw [if_pos h1, if_pos h1]
      have e := mul_dom b.1 b.2.1 b.2.2
      rw [show (⟨(dst c s).lo, (dst c s).hi⟩ : Iv) = dst c s from rfl] at e
      rw [e]
      have : s = 0 ∨ s = 1 ∨ s = 2 := by omega
      rcases this with rfl | rfl | rfl
      · rfl
      · simp only [dst, Iv.mk.injEq]; omega
      · simp only [dst, Iv.mk.injEq]; omega
    · rw [if_neg h1, if_neg h1]
      have e := mul_unit2 b.1 b.2.1 b.2.2
      rw [show (⟨(dst c s).lo, (dst c s).hi⟩ : Iv) = dst c s from rfl] at e
      rw [e]
      have : s = 0 ∨ s = 1 ∨ s = 2 := by omega
      rcases this with rfl | rfl | rfl
      · simp only [dst, Nat.max_eq_right (Nat.zero_le 1), Iv.mk.injEq]
      · simp only [dst, Nat.max_self, Iv.mk.injEq]; omega
      · simp only [dst, show max 2 1 = 2 from rfl, Iv.mk.injEq]; omega
theorem dnx_zero (s u : Nat) : dnx s u = 0 ↔ s = 0 ∧ u = 0 := by
  unfold dnx
  split
  · omega
  · split <;> omega
theorem dnx_two {s : Nat} (hs : s ≤ 2) (u : Nat) : dnx s u = 2 ↔ s = 2 ∨ u % 2 = 1 := by
  unfold dnx
  split
  · omega
  · split <;> omega
theorem evT_dom (t : Tm) (hc : number t.c) : evT [] t = ⟨(rng t).1, (rng t).2⟩ := by
  have b1 : dnx 0 t.e.a ≤ 2 := dnx_2 _ _ (by omega)
  have b2 := dnx_2 _ t.e.b b1
  have b3 := dnx_2 _ t.e.c b2
  have b4 := dnx_2 _ t.e.d b3
  have b5 := dnx_2 _ t.e.e b4
  have b6 := dnx_2 _ t.e.f b5
  have e : evT [] t = dst t.c (dnx (dnx (dnx (dnx (dnx (dnx 0 t.e.a) t.e.b) t.e.c) t.e.d) t.e.e) t.e.f) := by
    unfold evT
    rw [new_nn hc hc, show (⟨t.c, t.c⟩ : Iv) = dst t.c 0 from rfl, evS_dst hc _ _ _ (by omega), evS_dst hc _ _ _ b1, evS_dst hc _ _ _ b2, evS_dst hc _ _ _ b3, evS_dst hc _ _ _ b4, evS_dst hc _ _ _ b5]
  rw [e]
  have z : dnx (dnx (dnx (dnx (dnx (dnx 0 t.e.a) t.e.b) t.e.c) t.e.d) t.e.e) t.e.f = 0 ↔ t.e.deg = 0 := by
    simp only [dnx_zero, E6.deg, true_and]; omega
  have w : dnx (dnx (dnx (dnx (dnx (dnx 0 t.e.a) t.e.b) t.e.c) t.e.d) t.e.e) t.e.f = 2 ↔ t.e.odd = true := by
    rw [dnx_two b5, dnx_two b4, dnx_two b3, dnx_two b2, dnx_two b1, dnx_two (by omega)]
    simp only [E6.odd, Bool.or_eq_true, beq_iff_eq]; omega
  generalize dnx (dnx (dnx (dnx (dnx (dnx 0 t.e.a) t.e.b) t.e.c) t.e.d) t.e.e) t.e.f = s at *
  unfold rng
  by_cases h0 : t.e.deg = 0
  · rw [z.2 h0, if_pos h0]; rfl
  · rw [if_neg h0]
    by_cases h1 : t.e.odd = true
    · rw [w.2 h1, if_pos h1]; rfl
    · rw [if_neg h1]
      have h2 : s ≠ 0 := fun h => h0 (z.1 h)
      have h3 : s ≠ 2 := fun h => h1 (w.1 h)
      rw [show s = 1 by omega]; rfl
theorem rng_nn (t : Tm) (hc : number t.c) : number (rng t).1 ∧ number (rng t).2 ∧ (rng t).1 ≤ (rng t).2 := by
  have e := rng_b t (b := 2147483647) (by unfold number at hc; omega) (by unfold number at hc; omega)
  unfold number; omega
theorem los_his : ∀ {p : List Tm}, nums p → los p ≤ his p
  | [], _ => Int.le_refl _
  | t :: p, h => by
    have ih := los_his (p := p) fun u hu => h u (by simp [hu])
    have := (rng_nn t (h t (by simp))).2.2
    have e1 : los (t :: p) = (rng t).1 + los p := by simp [los, isum]
    have e2 : his (t :: p) = (rng t).2 + his p := by simp [his, isum]
    omega
end Go.Ab
