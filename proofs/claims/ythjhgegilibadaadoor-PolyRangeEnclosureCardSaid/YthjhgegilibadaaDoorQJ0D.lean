/- A value at a point lies in the value over a box that holds the point, in exact halves; conditions: valid boxes. -/
import Derived.Test.YthjhgegilibadaaDoorQHD
namespace Go.Ab
set_option linter.unusedVariables false
set_option linter.unusedSimpArgs false
set_option linter.unusedSimpArgs false
set_option linter.unusedVariables false
def has (s : Nat) (P : Int) (a : Iv) : Prop := a.isW = true ∨ (a.lo * 2 ^ s ≤ P ∧ P ≤ a.hi * 2 ^ s)
theorem pw_pos (s : Nat) : (0 : Int) < 2 ^ s := Int.pow_pos (by decide)
theorem new_cases (l h : Int) : Iv.new l h = Iv.whole ∨ Iv.new l h = ⟨l, h⟩ := by
  unfold Iv.new; split
  · exact .inr rfl
  · exact .inl rfl
theorem has_new {s : Nat} {P l h : Int} (h1 : l * 2 ^ s ≤ P) (h2 : P ≤ h * 2 ^ s) : has s P (Iv.new l h) := by
  rcases new_cases l h with e | e <;> rw [e]
  · exact .inl rfl
  · exact .inr ⟨h1, h2⟩
theorem has_whole (s : Nat) (P : Int) : has s P Iv.whole := .inl rfl
theorem has_add {s : Nat} {P Q : Int} {a b : Iv} (ha : has s P a) (hb : has s Q b) : has s (P + Q) (a.add b) := by
  unfold Iv.add
  rcases ha with ha | ha
  · rw [ha, Bool.true_or, if_pos rfl]; exact has_whole _ _
  · rcases hb with hb | hb
    · rw [hb, Bool.or_true, if_pos rfl]; exact has_whole _ _
    · split
      · exact has_whole _ _
      · refine has_new ?_ ?_
        · rw [Int.add_mul]; omega
        · rw [Int.add_mul]; omega
theorem min_mul {a b w : Int} (hw : 0 < w) : min a b * w = min (a * w) (b * w) := by
  by_cases h : a ≤ b
  · rw [Int.min_eq_left h, Int.min_eq_left (Int.mul_le_mul_of_nonneg_right h (Int.le_of_lt hw))]
  · rw [Int.min_eq_right (by omega), Int.min_eq_right (Int.mul_le_mul_of_nonneg_right (by omega) (Int.le_of_lt hw))]
theorem max_mul {a b w : Int} (hw : 0 < w) : max a b * w = max (a * w) (b * w) := by
  by_cases h : a ≤ b
  · rw [Int.max_eq_right h, Int.max_eq_right (Int.mul_le_mul_of_nonneg_right h (Int.le_of_lt hw))]
  · rw [Int.max_eq_left (by omega), Int.max_eq_left (Int.mul_le_mul_of_nonneg_right (by omega) (Int.le_of_lt hw))]
theorem fl_le (m : Int) : fl m * 65536 ≤ m := by unfold fl; omega
theorem le_ce (m : Int) : m ≤ ce m * 65536 := by unfold ce; omega
theorem down {x m w r : Int} (hw : 0 < w) (h1 : x * 65536 ≤ m) (h2 : m * w ≤ 65536 * r) : x * w ≤ r := by
  have h := Int.mul_le_mul_of_nonneg_right h1 (Int.le_of_lt hw)
  have e : x * 65536 * w = 65536 * (x * w) := by rw [Int.mul_comm x, Int.mul_assoc]
  omega
theorem up {x m w r : Int} (hw : 0 < w) (h1 : m ≤ x * 65536) (h2 : 65536 * r ≤ m * w) : r ≤ x * w := by
  have h := Int.mul_le_mul_of_nonneg_right h1 (Int.le_of_lt hw)
  have e : x * 65536 * w = 65536 * (x * w) := by rw [Int.mul_comm x, Int.mul_assoc]
  omega
theorem sc2 (a b u v : Int) : a * u * (b * v) = a * b * (u * v) := by
  rw [Int.mul_assoc, Int.mul_assoc, Int.mul_left_comm u b v]
theorem has_mul {s t : Nat} {P Q : Int} {a b : Iv} (va : a.valid) (vb : b.valid) (ha : has s P a) (hb : has t (65536 * Q) b) : has (s + t) (P * Q) (a.mul b) := by
  unfold Iv.mul
  rcases ha with ha | ha
  · rw [ha, Bool.true_or, if_pos rfl]; exact has_whole _ _
  · rcases hb with hb | hb
    · rw [hb, Bool.or_true, if_pos rfl]; exact has_whole _ _
    · split
      · exact has_whole _ _
      · have k := bil ha.1 ha.2 hb.1 hb.2
        rw [sc2 a.lo b.lo (2 ^ s) (2 ^ t), sc2 a.lo b.hi (2 ^ s) (2 ^ t), sc2 a.hi b.lo (2 ^ s) (2 ^ t), sc2 a.hi b.hi (2 ^ s) (2 ^ t), ← Int.pow_add] at k
        have w := pw_pos (s + t)
        have e : P * (65536 * Q) = 65536 * (P * Q) := Int.mul_left_comm _ _ _
        rw [e] at k
        have k1 : min4 (a.lo * b.lo) (a.lo * b.hi) (a.hi * b.lo) (a.hi * b.hi) * 2 ^ (s + t) ≤ 65536 * (P * Q) := by
          unfold min4 at k ⊢
          rw [min_mul w, min_mul w, min_mul w]
          exact k.1
        have k2 : 65536 * (P * Q) ≤ max4 (a.lo * b.lo) (a.lo * b.hi) (a.hi * b.lo) (a.hi * b.hi) * 2 ^ (s + t) := by
          unfold max4 at k ⊢
          rw [max_mul w, max_mul w, max_mul w]
          exact k.2
        exact has_new (down w (fl_le _) k1) (up w (le_ce _) k2)
theorem abs_sq {x y : Int} (h1 : -y ≤ x) (h2 : x ≤ y) : x * x ≤ y * y := by
  by_cases h : 0 ≤ x
  · exact sq_mono h h2
  · have := sq_mono (x := -x) (y := y) (by omega) (by omega)
    rwa [Int.neg_mul_neg] at this
theorem has_sq {t : Nat} {Q : Int} {a : Iv} (va : a.valid) (ha : has t (65536 * Q) a) : has (t + t) (65536 * (Q * Q)) a.sq := by
  unfold Iv.sq
  rcases ha with ha | ha
  · rw [ha, if_pos rfl]; exact .inl ha
  · split
    · rename_i h; exact .inl h
    · have w := pw_pos t
      have w2 := pw_pos (t + t)
      obtain ⟨n1, n2, n3, n4⟩ := near_b va
      have l1 : a.lo ≤ a.far ∧ a.hi ≤ a.far ∧ -a.lo ≤ a.far ∧ -a.hi ≤ a.far := by have := va.1; unfold Iv.far; omega
      have f1 : 65536 * Q ≤ a.far * 2 ^ t := Int.le_trans ha.2 (Int.mul_le_mul_of_nonneg_right l1.2.1 (Int.le_of_lt w))
      have f2 : -(a.far * 2 ^ t) ≤ 65536 * Q := by
        have := Int.mul_le_mul_of_nonneg_right (show -a.far ≤ a.lo by omega) (Int.le_of_lt w)
        rw [Int.neg_mul] at this
        omega
      have f3 := abs_sq f2 f1
      have e0 : 65536 * Q * (65536 * Q) = 65536 * (65536 * (Q * Q)) := by rw [Int.mul_assoc, Int.mul_left_comm Q 65536 Q]
      have e1 : a.far * 2 ^ t * (a.far * 2 ^ t) = a.far * a.far * 2 ^ (t + t) := by rw [sc2, ← Int.pow_add]
      have e2 : a.near * 2 ^ t * (a.near * 2 ^ t) = a.near * a.near * 2 ^ (t + t) := by rw [sc2, ← Int.pow_add]
      have g : a.near * 2 ^ t * (a.near * 2 ^ t) ≤ 65536 * Q * (65536 * Q) := by
        have hn : a.near = 0 ∨ a.near = a.lo ∨ a.near = -a.hi := by unfold Iv.near; omega
        rcases hn with h | h | h
        · rw [h, Int.zero_mul, Int.zero_mul]
          by_cases hq : 0 ≤ 65536 * Q
          · exact Int.mul_nonneg hq hq
          · exact Int.mul_nonneg_of_nonpos_of_nonpos (by omega) (by omega)
        · rw [h]
          exact sq_mono (Int.mul_nonneg (by omega) (Int.le_of_lt w)) ha.1
        · have h5 : 0 ≤ a.near * 2 ^ t := Int.mul_nonneg n1 (Int.le_of_lt w)
          have h6 : a.near * 2 ^ t = -(a.hi * 2 ^ t) := by rw [h, Int.neg_mul]
          have := sq_mono (x := a.near * 2 ^ t) (y := -(65536 * Q)) h5 (by omega)
          rwa [Int.neg_mul_neg] at this
      rw [e0, e1] at f3
      rw [e0, e2] at g
      exact has_new (down w2 (fl_le _) g) (up w2 (le_ce _) f3)
theorem has_pow {z : Int} {a : Iv} (va : a.valid) (ha : has 1 (65536 * z) a) : ∀ n : Nat, 1 ≤ n → has n (65536 * z ^ n) (ipow a n) := by
  intro n
  induction n using Nat.strongRecOn with
  | _ n ih =>
    intro h
    by_cases h1 : n ≤ 1
    · have : n = 1 := by omega
      subst this
      rw [ipow_1 a (Nat.le_refl 1), Int.pow_succ, Int.pow_zero, Int.one_mul]; exact ha
    · by_cases h2 : n % 2 = 0
      · have := has_sq (ipow_valid va _) (ih (n / 2) (by omega) (by omega))
        rw [ipow_e a (by omega) h2]
        rw [← Int.pow_add, show n / 2 + n / 2 = n by omega] at this
        exact this
      · have := has_mul (ipow_valid va _) va (ih (n - 1) (by omega) (by omega)) ha
        rw [ipow_o a (by omega) h2]
        rw [Int.mul_assoc, ← Int.pow_succ, show (n - 1).succ = n by omega, show n - 1 + 1 = n by omega] at this
        exact this
theorem has_evS {s : Nat} {P z : Int} {b : List Iv} (hb : valids b) {v : Iv} (vv : v.valid) (hv : has s P v) (k u : Nat) (hk : has 1 (65536 * z) (bx b k)) : has (s + u) (P * z ^ u) (evS b k u v) := by
  unfold evS
  split
  · exact has_mul vv (ipow_valid (bx_valid hb k) u) hv (has_pow (bx_valid hb k) hk u (by omega))
  · have : u = 0 := by omega
    subst this
    rw [Int.pow_zero, Int.mul_one]; exact hv
/-- Each box holds its coordinate. -/
def boxH (b : List Iv) (z : Pt) : Prop := has 1 (65536 * z.a) (bx b 0) ∧ has 1 (65536 * z.b) (bx b 1) ∧ has 1 (65536 * z.c) (bx b 2) ∧ has 1 (65536 * z.d) (bx b 3) ∧ has 1 (65536 * z.e) (bx b 4) ∧ has 1 (65536 * z.f) (bx b 5)
theorem has_evT {b : List Iv} (hb : valids b) {z : Pt} (h : boxH b z) (t : Tm) : has t.e.deg (prodT t z) (evT b t) := by
  obtain ⟨h1, h2, h3, h4, h5, h6⟩ := h
  have v0 := newp_valid t.c
  have v1 := evS_valid (b := b) (k := 0) (u := t.e.a) v0
  have v2 := evS_valid (b := b) (k := 1) (u := t.e.b) v1
  have v3 := evS_valid (b := b) (k := 2) (u := t.e.c) v2
  have v4 := evS_valid (b := b) (k := 3) (u := t.e.d) v3
  have v5 := evS_valid (b := b) (k := 4) (u := t.e.e) v4
  have s0 : has 0 t.c (Iv.new t.c t.c) := has_new (by rw [Int.pow_zero, Int.mul_one]; exact Int.le_refl _) (by rw [Int.pow_zero, Int.mul_one]; exact Int.le_refl _)
  have r := has_evS hb v5 (has_evS hb v4 (has_evS hb v3 (has_evS hb v2 (has_evS hb v1 (has_evS hb v0 s0 0 t.e.a h1) 1 t.e.b h2) 2 t.e.c h3) 3 t.e.d h4) 4 t.e.e h5) 5 t.e.f h6
  rw [Nat.zero_add] at r
  exact r
theorem has_up {s : Nat} {P : Int} {a : Iv} (h : has s P a) (k : Nat) : has (s + k) (P * 2 ^ k) a := by
  rcases h with h | h
  · exact .inl h
  · refine .inr ⟨?_, ?_⟩
    · rw [Int.pow_add, ← Int.mul_assoc]; exact Int.mul_le_mul_of_nonneg_right h.1 (Int.le_of_lt (pw_pos k))
    · rw [Int.pow_add, ← Int.mul_assoc]; exact Int.mul_le_mul_of_nonneg_right h.2 (Int.le_of_lt (pw_pos k))
theorem has_val {b : List Iv} (hb : valids b) {z : Pt} (h : boxH b z) {t : Tm} (hd : t.e.deg ≤ 6) : has 12 (valT z t) (evT b t) := by
  have := has_up (has_evT hb h t) (12 - t.e.deg)
  rw [show t.e.deg + (12 - t.e.deg) = 12 by omega] at this
  exact this
theorem valP_c (t : Tm) (p : List Tm) (z : Pt) : valP (t :: p) z = valT z t + valP p z := rfl
theorem has_evalL {b : List Iv} (hb : valids b) {z : Pt} (h : boxH b z) : ∀ (p : List Tm) (o : Iv) (N : Int), deg6 p → has 12 N o → has 12 (N + valP p z) (evalL b p o)
  | [], o, N, _, ho => by
    have e : valP [] z = 0 := rfl
    rw [e, Int.add_zero]; exact ho
  | t :: p, o, N, hd, ho => by
    rw [valP_c, ← Int.add_assoc]
    exact has_evalL hb h p _ _ (fun u hu => hd u (by simp [hu])) (has_add ho (has_val hb h (hd t (by simp))))
theorem has_evalP {b : List Iv} (hb : valids b) {z : Pt} (h : boxH b z) {p : List Tm} (hd : deg6 p) : has 12 (valP p z) (evalP b p) := by
  have := has_evalL hb h p (Iv.new 0 0) 0 hd (has_new (by rw [Int.zero_mul]; exact Int.le_refl _) (by rw [Int.zero_mul]; exact Int.le_refl _))
  rw [Int.zero_add] at this
  exact this
theorem holds_nil {z : Pt} (hz : z.ok) : boxH [] z := by
  obtain ⟨h1, h2, h3, h4, h5, h6⟩ := hz
  have e : ∀ x : Int, -2 ≤ x ∧ x ≤ 2 → has 1 (65536 * x) dom := fun x hx => .inr ⟨by rw [Int.pow_succ, Int.pow_zero]; simp only [dom]; omega, by rw [Int.pow_succ, Int.pow_zero]; simp only [dom]; omega⟩
  exact ⟨e _ h1, e _ h2, e _ h3, e _ h4, e _ h5, e _ h6⟩
theorem range_val {z : Pt} (hz : z.ok) : ∀ {p : List Tm}, nums p → deg6 p → los p * 4096 ≤ valP p z ∧ valP p z ≤ his p * 4096
  | [], _, _ => by
    have e1 : los [] = 0 := rfl
    have e2 : his [] = 0 := rfl
    have e3 : valP [] z = 0 := rfl
    rw [e1, e2, e3]; omega
  | t :: p, hn, hd => by
    have ih := range_val hz (p := p) (fun u hu => hn u (by simp [hu])) fun u hu => hd u (by simp [hu])
    have e1 : los (t :: p) = (rng t).1 + los p := by simp [los, isum]
    have e2 : his (t :: p) = (rng t).2 + his p := by simp [his, isum]
    have ht := hn t (by simp)
    have h := has_val (b := []) (fun y hy => by cases hy) (holds_nil hz) (hd t (by simp))
    rw [evT_dom t ht] at h
    rcases h with h | h
    · rw [nW_of (a := ⟨(rng t).1, (rng t).2⟩) (rng_nn t ht).1] at h; cases h
    · have e4 : (2 : Int) ^ 12 = 4096 := by decide
      rw [e4] at h
      simp only at h
      rw [e1, e2, valP_c, Int.add_mul, Int.add_mul]
      omega
theorem range_has {z : Pt} (hz : z.ok) {p : List Tm} (hn : nums p) (hd : deg6 p) : has 12 (valP p z) (rangeP p) := by
  have h := range_val hz hn hd
  exact has_new (by rw [show (2 : Int) ^ 12 = 4096 by decide]; exact h.1) (by rw [show (2 : Int) ^ 12 = 4096 by decide]; exact h.2)
theorem eval_one {p : List Tm} (hn : nums p) (h1 : p.length = 1) : evalP [] p = rangeP p := by
  match p, h1 with
  | [t], _ =>
    have ht := hn t (by simp)
    have hr := rng_nn t ht
    have e1 : los [t] = (rng t).1 + 0 := rfl
    have e2 : his [t] = (rng t).2 + 0 := rfl
    unfold rangeP
    rw [e1, e2, Int.add_zero, Int.add_zero]
    show (Iv.new 0 0).add (evT [] t) = _
    rw [evT_dom t ht]
    unfold Iv.add
    rw [nW_of (a := Iv.new 0 0) (by decide), nW_of (a := ⟨(rng t).1, (rng t).2⟩) hr.1]
    show Iv.new (0 + (rng t).1) (0 + (rng t).2) = _
    rw [Int.zero_add, Int.zero_add]
end Go.Ab
