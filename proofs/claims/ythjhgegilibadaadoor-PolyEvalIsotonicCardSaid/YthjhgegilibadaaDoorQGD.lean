/- Intervals in larger intervals: sums, products, squares, powers, values; conditions: valid intervals. -/
import Derived.Test.YthjhgegilibadaaDoorQDD
namespace Go.Ab
set_option linter.unusedVariables false
set_option linter.unusedSimpArgs false
set_option linter.unusedSimpArgs false
set_option linter.unusedVariables false
def Iv.sbs (a b : Iv) : Prop := b.lo ≤ a.lo ∧ a.hi ≤ b.hi
theorem sbs_whole {a : Iv} (h : a.valid) : a.sbs Iv.whole := ⟨h.2.1, h.2.2.1⟩
theorem isW_eq {a : Iv} (h : a.isW = true) : a = Iv.whole := by
  simp only [Iv.isW, Bool.and_eq_true, beq_iff_eq] at h
  obtain ⟨l, u⟩ := a
  simp only at h
  rw [h.1, h.2]; rfl
theorem sbs_nW {a b : Iv} (ha : a.valid) (hb : b.valid) (h : a.sbs b) (hw : b.isW = false) : a.isW = false := by
  cases hx : a.isW
  · rfl
  · exfalso
    have e := isW_eq hx
    have n := nums_of hb hw
    have h1 := h.1
    rw [e] at h1
    have := n.1.1
    simp only [Iv.whole] at h1
    omega
theorem new_sbs {l h l' h' : Int} (h1 : l' ≤ l) (h2 : l ≤ h) (h3 : h ≤ h') : (Iv.new l h).sbs (Iv.new l' h') := by
  by_cases hn : number l' ∧ number h'
  · have hn2 : number l ∧ number h := by unfold number at hn ⊢; omega
    unfold Iv.new
    rw [if_pos hn, if_pos hn2]
    exact ⟨h1, h3⟩
  · have e : Iv.new l' h' = Iv.whole := by unfold Iv.new; rw [if_neg hn]
    rw [e]
    exact sbs_whole (new_valid h2)
theorem add_sbs {a b a' b' : Iv} (va : a.valid) (vb : b.valid) (va' : a'.valid) (vb' : b'.valid) (ha : a.sbs a') (hb : b.sbs b') : (a.add b).sbs (a'.add b') := by
  cases h1 : a'.isW
  · cases h2 : b'.isW
    · have g1 := sbs_nW va va' ha h1
      have g2 := sbs_nW vb vb' hb h2
      unfold Iv.add
      rw [h1, h2, g1, g2]
      simp only [Bool.or_self, Bool.false_eq_true, if_false]
      have := va.1
      have := vb.1
      have := ha.1
      have := ha.2
      have := hb.1
      have := hb.2
      exact new_sbs (by omega) (by omega) (by omega)
    · have e : a'.add b' = Iv.whole := by unfold Iv.add; rw [h2, Bool.or_true]; rfl
      rw [e]; exact sbs_whole (add_valid va vb)
  · have e : a'.add b' = Iv.whole := by unfold Iv.add; rw [h1, Bool.true_or]; rfl
    rw [e]; exact sbs_whole (add_valid va vb)
theorem bil {x l h y p q : Int} (h1 : l ≤ x) (h2 : x ≤ h) (h3 : p ≤ y) (h4 : y ≤ q) : min4 (l * p) (l * q) (h * p) (h * q) ≤ x * y ∧ x * y ≤ max4 (l * p) (l * q) (h * p) (h * q) := by
  have o1 := mul_ord h1 y
  have o2 := mul_ord h2 y
  have o3 := mul_ord' h3 l
  have o4 := mul_ord' h4 l
  have o5 := mul_ord' h3 h
  have o6 := mul_ord' h4 h
  unfold min4 max4
  by_cases c1 : 0 ≤ y <;> by_cases c2 : 0 ≤ l <;> by_cases c3 : 0 ≤ h <;> omega
theorem mul_sbs {a b a' b' : Iv} (va : a.valid) (vb : b.valid) (va' : a'.valid) (vb' : b'.valid) (ha : a.sbs a') (hb : b.sbs b') : (a.mul b).sbs (a'.mul b') := by
  cases h1 : a'.isW
  · cases h2 : b'.isW
    · have g1 := sbs_nW va va' ha h1
      have g2 := sbs_nW vb vb' hb h2
      unfold Iv.mul
      rw [h1, h2, g1, g2]
      simp only [Bool.or_self, Bool.false_eq_true, if_false]
      have a1 := va.1
      have b1 := vb.1
      have := ha.1
      have := ha.2
      have := hb.1
      have := hb.2
      have k1 := bil (x := a.lo) (y := b.lo) (l := a'.lo) (h := a'.hi) (p := b'.lo) (q := b'.hi) (by omega) (by omega) (by omega) (by omega)
      have k2 := bil (x := a.lo) (y := b.hi) (l := a'.lo) (h := a'.hi) (p := b'.lo) (q := b'.hi) (by omega) (by omega) (by omega) (by omega)
      have k3 := bil (x := a.hi) (y := b.lo) (l := a'.lo) (h := a'.hi) (p := b'.lo) (q := b'.hi) (by omega) (by omega) (by omega) (by omega)
      have k4 := bil (x := a.hi) (y := b.hi) (l := a'.lo) (h := a'.hi) (p := b'.lo) (q := b'.hi) (by omega) (by omega) (by omega) (by omega)
      generalize min4 (a'.lo * b'.lo) (a'.lo * b'.hi) (a'.hi * b'.lo) (a'.hi * b'.hi) = m' at *
      generalize max4 (a'.lo * b'.lo) (a'.lo * b'.hi) (a'.hi * b'.lo) (a'.hi * b'.hi) = x' at *
      exact new_sbs (fl_mono (by unfold min4; omega)) (fl_ce (by unfold min4 max4; omega)) (ce_mono (by unfold max4; omega))
    · have e : a'.mul b' = Iv.whole := by unfold Iv.mul; rw [h2, Bool.or_true]; rfl
      rw [e]; exact sbs_whole (mul_valid _ _)
  · have e : a'.mul b' = Iv.whole := by unfold Iv.mul; rw [h1, Bool.true_or]; rfl
    rw [e]; exact sbs_whole (mul_valid _ _)
theorem sq_sbs {a a' : Iv} (va : a.valid) (va' : a'.valid) (ha : a.sbs a') : a.sq.sbs a'.sq := by
  cases h1 : a'.isW
  · have g1 := sbs_nW va va' ha h1
    unfold Iv.sq
    rw [h1, g1]
    simp only [Bool.false_eq_true, if_false]
    obtain ⟨n1, n2, n3, n4⟩ := near_b va
    obtain ⟨m1, m2, m3, m4⟩ := near_b va'
    have := ha.1
    have := ha.2
    have c1 : a'.near ≤ a.near := by unfold Iv.near; omega
    have c2 : a.far ≤ a'.far := by unfold Iv.far; omega
    exact new_sbs (fl_mono (sq_mono m1 c1)) (fl_ce (sq_mono n1 n3)) (ce_mono (sq_mono (by omega) c2))
  · have e : a'.sq = Iv.whole := by unfold Iv.sq; rw [h1, if_pos rfl]; exact isW_eq h1
    rw [e]; exact sbs_whole (sq_valid va)
theorem ipow_sbs {a a' : Iv} (va : a.valid) (va' : a'.valid) (ha : a.sbs a') : ∀ n : Nat, (ipow a n).sbs (ipow a' n) := by
  intro n
  induction n using Nat.strongRecOn with
  | _ n ih =>
    by_cases h1 : n ≤ 1
    · rw [ipow_1 a h1, ipow_1 a' h1]; exact ha
    · by_cases h2 : n % 2 = 0
      · rw [ipow_e a (by omega) h2, ipow_e a' (by omega) h2]
        exact sq_sbs (ipow_valid va _) (ipow_valid va' _) (ih _ (by omega))
      · rw [ipow_o a (by omega) h2, ipow_o a' (by omega) h2]
        exact mul_sbs (ipow_valid va _) va (ipow_valid va' _) va' (ih _ (by omega)) ha
theorem evS_sbs {b b' : List Iv} (hb : valids b) (hb' : valids b') (h : ∀ k, (bx b k).sbs (bx b' k)) {v v' : Iv} (vv : v.valid) (vv' : v'.valid) (hv : v.sbs v') (k u : Nat) : (evS b k u v).sbs (evS b' k u v') := by
  unfold evS
  split
  · exact mul_sbs vv (ipow_valid (bx_valid hb k) u) vv' (ipow_valid (bx_valid hb' k) u) hv (ipow_sbs (bx_valid hb k) (bx_valid hb' k) (h k) u)
  · exact hv
theorem sbs_rfl (a : Iv) : a.sbs a := ⟨Int.le_refl _, Int.le_refl _⟩
theorem evT_sbs {b b' : List Iv} (hb : valids b) (hb' : valids b') (h : ∀ k, (bx b k).sbs (bx b' k)) (t : Tm) : (evT b t).sbs (evT b' t) := by
  unfold evT
  have v0 := newp_valid t.c
  refine evS_sbs hb hb' h ?_ ?_ (evS_sbs hb hb' h ?_ ?_ (evS_sbs hb hb' h ?_ ?_ (evS_sbs hb hb' h ?_ ?_ (evS_sbs hb hb' h ?_ ?_ (evS_sbs hb hb' h v0 v0 (sbs_rfl _) _ _) _ _) _ _) _ _) _ _) _ _
  all_goals
    repeat' apply evS_valid
    exact v0
theorem evalL_sbs {b b' : List Iv} (hb : valids b) (hb' : valids b') (h : ∀ k, (bx b k).sbs (bx b' k)) : ∀ (p : List Tm) (o o' : Iv), o.valid → o'.valid → o.sbs o' → (evalL b p o).sbs (evalL b' p o')
  | [], _, _, _, _, ho => ho
  | t :: p, o, o', vo, vo', ho => evalL_sbs hb hb' h p _ _ (add_valid vo (evT_valid b t)) (add_valid vo' (evT_valid b' t)) (add_sbs vo (evT_valid b t) vo' (evT_valid b' t) ho (evT_sbs hb hb' h t))
theorem evalP_sbs {b b' : List Iv} (hb : valids b) (hb' : valids b') (h : ∀ k, (bx b k).sbs (bx b' k)) (p : List Tm) : (evalP b p).sbs (evalP b' p) := evalL_sbs hb hb' h p _ _ (newp_valid 0) (newp_valid 0) (sbs_rfl _)

/-! The whole domain. -/
def unit2 : Iv := ⟨0, 65536⟩
theorem dom_sq : dom.sq = unit2 := by decide
theorem unit2_sq : unit2.sq = unit2 := by decide
theorem unit2_dom : unit2.mul dom = dom := by decide
theorem unit2_valid : unit2.valid := by rw [← dom_sq]; exact sq_valid dom_valid
theorem ipow_dom : ∀ u : Nat, 1 ≤ u → ipow dom u = if u % 2 = 1 then dom else unit2 := by
  intro u
  induction u using Nat.strongRecOn with
  | _ u ih =>
    intro h
    by_cases h1 : u ≤ 1
    · have : u = 1 := by omega
      subst this
      rw [ipow_1 _ (Nat.le_refl 1)]; rfl
    · by_cases h2 : u % 2 = 0
      · rw [ipow_e dom (by omega) h2, ih (u / 2) (by omega) (by omega), if_neg (show ¬ u % 2 = 1 by omega)]
        split
        · exact dom_sq
        · exact unit2_sq
      · rw [ipow_o dom (by omega) h2, ih (u - 1) (by omega) (by omega), if_neg (show ¬ (u - 1) % 2 = 1 by omega), if_pos (show u % 2 = 1 by omega), unit2_dom]
end Go.Ab
