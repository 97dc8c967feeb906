/- Interval functions of the program and of the reference, typed; conditions: ranges where they are told. -/
import Derived.Test.YtbfecmgiffkooaaYA
import Derived.Test.YtbfecmgiffkooaaE20
namespace Go.Ab
set_option linter.unusedSimpArgs false
set_option linter.unusedVariables false

def Iv.whole : Iv := ⟨-2147483648, 2147483648⟩
def Iv.isW (a : Iv) : Bool := a.lo == -2147483648 && a.hi == 2147483648
def number (x : Int) : Prop := -2147483648 < x ∧ x < 2147483648
instance (x : Int) : Decidable (number x) := inferInstanceAs (Decidable (_ ∧ _))
def Iv.new (lo hi : Int) : Iv := if number lo ∧ number hi then ⟨lo, hi⟩ else Iv.whole
def Iv.valid (a : Iv) : Prop := a.lo ≤ a.hi ∧ -2147483648 ≤ a.lo ∧ a.hi ≤ 2147483648 ∧ (a.isW = true ∨ (number a.lo ∧ number a.hi))
def Iv.neg (a : Iv) : Iv := ⟨-a.hi, -a.lo⟩
def Iv.add (a b : Iv) : Iv := if a.isW || b.isW then Iv.whole else Iv.new (a.lo + b.lo) (a.hi + b.hi)
def Iv.sub (a b : Iv) : Iv := a.add b.neg
def fl (n : Int) : Int := n / 65536
def ce (n : Int) : Int := -((-n) / 65536)
def Iv.near (a : Iv) : Int := max 0 (max a.lo (-a.hi))
def Iv.far (a : Iv) : Int := max a.hi (-a.lo)
def Iv.sq (a : Iv) : Iv := if a.isW then a else Iv.new (fl (a.near * a.near)) (ce (a.far * a.far))

theorem whole_valid : Iv.whole.valid := by simp [Iv.valid, Iv.whole, Iv.isW]
theorem new_valid {lo hi : Int} (h : lo ≤ hi) : (Iv.new lo hi).valid := by
  unfold Iv.new
  split
  · rename_i hn
    refine ⟨h, ?_, ?_, .inr hn⟩
    · exact Int.le_of_lt hn.1.1
    · exact Int.le_of_lt hn.2.2
  · exact whole_valid
theorem neg_valid {a : Iv} (h : a.valid) : a.neg.valid := by
  obtain ⟨h1, h2, h3, h4⟩ := h
  simp only [Iv.valid, Iv.neg, Iv.isW, Bool.and_eq_true, beq_iff_eq, number] at *
  omega
theorem add_valid {a b : Iv} (ha : a.valid) (hb : b.valid) : (a.add b).valid := by
  unfold Iv.add
  split
  · exact whole_valid
  · exact new_valid (by have := ha.1; have := hb.1; omega)
theorem sub_valid {a b : Iv} (ha : a.valid) (hb : b.valid) : (a.sub b).valid := add_valid ha (neg_valid hb)
theorem sqb {x : Int} (h0 : 0 ≤ x) (h : x ≤ 2147483648) : 0 ≤ x * x ∧ x * x ≤ 4611686018427387904 :=
  ⟨Int.mul_nonneg h0 h0, by have := Int.mul_le_mul h h h0 (by decide); simpa using this⟩
theorem near_b {a : Iv} (h : a.valid) : 0 ≤ a.near ∧ a.near ≤ 2147483648 ∧ a.near ≤ a.far ∧ a.far ≤ 2147483648 := by
  obtain ⟨h1, h2, h3, h4⟩ := h
  simp only [Iv.near, Iv.far]
  omega
theorem fl_ce {n m : Int} (h : n ≤ m) : fl n ≤ ce m := by unfold fl ce; omega
theorem sq_mono {x y : Int} (h0 : 0 ≤ x) (h : x ≤ y) : x * x ≤ y * y := Int.mul_le_mul h h h0 (by omega)
theorem sq_valid {a : Iv} (h : a.valid) : a.sq.valid := by
  unfold Iv.sq
  split
  · exact h
  · obtain ⟨b1, b2, b3, b4⟩ := near_b h
    exact new_valid (fl_ce (sq_mono b1 b3))

theorem td_floor (n : Int) : n.tdiv 65536 = if 0 ≤ n then n / 65536 else -((-n) / 65536) := by
  split
  · rename_i h; exact Int.tdiv_eq_ediv_of_nonneg h
  · rename_i h
    have : n = -(-n) := by omega
    rw [this, Int.neg_tdiv, Int.tdiv_eq_ediv_of_nonneg (by omega)]
    simp
theorem tm_floor (n : Int) : n.tmod 65536 = if 0 ≤ n then n % 65536 else -((-n) % 65536) := by
  split
  · rename_i h; exact Int.tmod_eq_emod_of_nonneg h
  · rename_i h
    have : n = -(-n) := by omega
    rw [this, Int.neg_tmod, Int.tmod_eq_emod_of_nonneg (by omega)]
    simp

theorem p63 : (CW G20 L20).p (.func 63) [] = some (.agg Iv.whole.c) := CW_val (e63 _) rfl
theorem e72' (C : CallT) : run1 G20 L20 C (.func 72) [] [] = some (.agg Iv.whole.c, []) := e72 C
theorem p72 : (CW G20 L20).p (.func 72) [] = some (.agg Iv.whole.c) := CW_val (e72 _) rfl
theorem p46 (a b : Int) : (CW G20 L20).p (.func 46) [.agg [.int .i64 a, .int .i64 b]] = some (.bool (Iv.isW ⟨a, b⟩)) := by
  refine CW_val (h := []) ?_ rfl
  simp only [e46, p63, asInt_i, asBool_i, asRows_i, asCells_i, asTuple_i, asBox_i, asObCells_i, asLoop_i, uncons_i, unconsO_i, isNil_i, asPtr_i, asFn_f, asFn_y, asArr_i, asObArr_t, asObArr_f, isReady_i, isBusy_i, uncons_c, uncons_sc, arrRows_i, Option.bind_some, Option.bind_none, cond_true, cond_false, cond_dec, cond_not, Bool.and_true]
  rfl
theorem p26 (a b : Int) : (CW G20 L20).p (.func 26) [.agg [.int .i64 a, .int .i64 b]] = some (.bool (Iv.isW ⟨a, b⟩)) := by
  refine CW_val (h := []) ?_ rfl
  simp only [e26, Iv.isW]
  cases a == -2147483648 <;> rfl
theorem p71 (a : Int) : (CW G20 L20).p (.func 71) [.int .i64 a] = some (.bool (decide (number a))) := by
  refine CW_val (h := []) ?_ rfl
  simp only [e71, asInt_i, asBool_i, asRows_i, asCells_i, asTuple_i, asBox_i, asObCells_i, asLoop_i, uncons_i, unconsO_i, isNil_i, asPtr_i, asFn_f, asFn_y, asArr_i, asObArr_t, asObArr_f, isReady_i, isBusy_i, uncons_c, uncons_sc, arrRows_i, Option.bind_some, Option.bind_none, cond_true, cond_false, cond_dec, cond_not, number]
  by_cases h : a > -2147483648
  · have h' : -2147483648 < a := h
    simp [h, h']
  · have h' : ¬ -2147483648 < a := h
    simp [h, h']
theorem p43 (a b : Int) : (CW G20 L20).p (.func 43) [.int .i64 a, .int .i64 b] = some (.agg (Iv.new a b).c) := by
  refine CW_val (h := []) ?_ rfl
  simp only [e43, p71, p72, asInt_i, asBool_i, asRows_i, asCells_i, asTuple_i, asBox_i, asObCells_i, asLoop_i, uncons_i, unconsO_i, isNil_i, asPtr_i, asFn_f, asFn_y, asArr_i, asObArr_t, asObArr_f, isReady_i, isBusy_i, uncons_c, uncons_sc, arrRows_i, Option.bind_some, Option.bind_none, cond_true, cond_false, cond_dec, cond_not, Iv.new]
  by_cases h1 : number a <;> by_cases h2 : number b <;> simp [h1, h2, Iv.c]
theorem p36 (a b : Int) (h : a ≤ b) : (CW G20 L20).p (.func 36) [.int .i64 a, .int .i64 b] = some (.agg (Iv.new a b).c) := by
  refine CW_val (h := []) ?_ rfl
  simp only [e36, p63, asInt_i, asBool_i, asRows_i, asCells_i, asTuple_i, asBox_i, asObCells_i, asLoop_i, uncons_i, unconsO_i, isNil_i, asPtr_i, asFn_f, asFn_y, asArr_i, asObArr_t, asObArr_f, isReady_i, isBusy_i, uncons_c, uncons_sc, arrRows_i, Option.bind_some, Option.bind_none, cond_true, cond_false, cond_dec, cond_not, Iv.new]
  by_cases h1 : a ≤ -2147483648
  · simp only [h1, if_true]
    rw [if_neg (fun hh => by have := hh.1.1; omega)]; rfl
  · simp only [h1, if_false]
    by_cases h2 : b ≥ 2147483648
    · simp only [h2, if_true]
      rw [if_neg (fun hh => by have := hh.2.2; omega)]; rfl
    · simp only [h2, if_false]
      have h3 : ¬ a ≥ 2147483648 := by omega
      have h4 : ¬ b ≤ -2147483648 := by omega
      simp only [h3, h4, if_false]
      rw [if_pos (by simp only [number]; omega)]; rfl
/-- Without an order of the ends. -/
theorem p36' (a b : Int) : (CW G20 L20).p (.func 36) [.int .i64 a, .int .i64 b] = some (.agg (Iv.new a b).c) := by
  refine CW_val (h := []) ?_ rfl
  simp only [e36, p63, asInt_i, asBool_i, asRows_i, asCells_i, asTuple_i, asBox_i, asObCells_i, asLoop_i, uncons_i, unconsO_i, isNil_i, asPtr_i, asFn_f, asFn_y, asArr_i, asObArr_t, asObArr_f, isReady_i, isBusy_i, uncons_c, uncons_sc, arrRows_i, Option.bind_some, Option.bind_none, cond_true, cond_false, cond_dec, cond_not, Iv.new]
  by_cases h1 : a ≤ -2147483648 <;> by_cases h2 : b ≥ 2147483648 <;> by_cases h3 : a ≥ 2147483648 <;> by_cases h4 : b ≤ -2147483648 <;> simp only [h1, h2, h3, h4, if_true, if_false] <;> first
    | (rw [if_neg (by simp only [number]; omega)]; rfl)
    | (rw [if_pos (by simp only [number]; omega)]; rfl)
theorem p88 (a : Iv) (h : a.valid) : (CW G20 L20).p (.func 88) [.agg [.int .i64 a.lo, .int .i64 a.hi]] = some (.agg a.neg.c) := by
  obtain ⟨h1, h2, h3, h4⟩ := h
  refine CW_val (h := []) ?_ rfl
  simp only [e88]
  rw [w64 (by omega) (by omega), w64 (by omega) (by omega)]
  simp [Iv.neg, Iv.c]
theorem p83 (a : Iv) (h : a.valid) : (CW G20 L20).p (.func 83) [.agg [.int .i64 a.lo, .int .i64 a.hi]] = some (.agg a.neg.c) := by
  obtain ⟨h1, h2, h3, h4⟩ := h
  refine CW_val (h := []) ?_ rfl
  simp only [e83]
  rw [w64 (by omega) (by omega), w64 (by omega) (by omega)]
  simp [Iv.neg, Iv.c]
theorem p68 (a b : Iv) (h : a.valid) (k : b.valid) : (CW G20 L20).p (.func 68) [.agg [.int .i64 a.lo, .int .i64 a.hi], .agg [.int .i64 b.lo, .int .i64 b.hi]] = some (.agg (a.add b).c) := by
  obtain ⟨h1, h2, h3, h4⟩ := h
  obtain ⟨k1, k2, k3, k4⟩ := k
  refine CW_val (h := []) ?_ rfl
  simp only [e68, p46, p63, p36', asInt_i, asBool_i, asRows_i, asCells_i, asTuple_i, asBox_i, asObCells_i, asLoop_i, uncons_i, unconsO_i, isNil_i, asPtr_i, asFn_f, asFn_y, asArr_i, asObArr_t, asObArr_f, isReady_i, isBusy_i, uncons_c, uncons_sc, arrRows_i, Option.bind_some, Option.bind_none, cond_true, cond_false, cond_dec, cond_not, Iv.add]
  rw [w64 (by omega) (by omega), w64 (by omega) (by omega)]
  cases h5 : a.isW <;> cases h6 : b.isW <;> rfl
theorem p56 (a b : Iv) (h : a.valid) (k : b.valid) : (CW G20 L20).p (.func 56) [.agg [.int .i64 a.lo, .int .i64 a.hi], .agg [.int .i64 b.lo, .int .i64 b.hi]] = some (.agg (a.add b).c) := by
  obtain ⟨h1, h2, h3, h4⟩ := h
  obtain ⟨k1, k2, k3, k4⟩ := k
  refine CW_val (h := []) ?_ rfl
  simp only [e56, p26, p72, p43, asInt_i, asBool_i, asRows_i, asCells_i, asTuple_i, asBox_i, asObCells_i, asLoop_i, uncons_i, unconsO_i, isNil_i, asPtr_i, asFn_f, asFn_y, asArr_i, asObArr_t, asObArr_f, isReady_i, isBusy_i, uncons_c, uncons_sc, arrRows_i, Option.bind_some, Option.bind_none, cond_true, cond_false, cond_dec, cond_not, Iv.add]
  rw [w64 (by omega) (by omega), w64 (by omega) (by omega)]
  cases h5 : a.isW <;> cases h6 : b.isW <;> rfl
theorem p70 (a b : Iv) (h : a.valid) (k : b.valid) : (CW G20 L20).p (.func 70) [.agg [.int .i64 a.lo, .int .i64 a.hi], .agg [.int .i64 b.lo, .int .i64 b.hi]] = some (.agg (a.sub b).c) := by
  refine CW_val (h := []) ?_ rfl
  simp only [e70, p88 _ k, asInt_i, asBool_i, asRows_i, asCells_i, asTuple_i, asBox_i, asObCells_i, asLoop_i, uncons_i, unconsO_i, isNil_i, asPtr_i, asFn_f, asFn_y, asArr_i, asObArr_t, asObArr_f, isReady_i, isBusy_i, uncons_c, uncons_sc, arrRows_i, Option.bind_some, Option.bind_none, cond_true, cond_false, cond_dec, cond_not]
  rw [p68 _ _ h (neg_valid k)]
  simp only [asInt_i, asBool_i, asRows_i, asCells_i, asTuple_i, asBox_i, asObCells_i, asLoop_i, uncons_i, unconsO_i, isNil_i, asPtr_i, asFn_f, asFn_y, asArr_i, asObArr_t, asObArr_f, isReady_i, isBusy_i, uncons_c, uncons_sc, arrRows_i, Option.bind_some, Option.bind_none, cond_true, cond_false, cond_dec, cond_not]
  rfl
theorem p58 (a b : Iv) (h : a.valid) (k : b.valid) : (CW G20 L20).p (.func 58) [.agg [.int .i64 a.lo, .int .i64 a.hi], .agg [.int .i64 b.lo, .int .i64 b.hi]] = some (.agg (a.sub b).c) := by
  refine CW_val (h := []) ?_ rfl
  simp only [e58, p83 _ k, asInt_i, asBool_i, asRows_i, asCells_i, asTuple_i, asBox_i, asObCells_i, asLoop_i, uncons_i, unconsO_i, isNil_i, asPtr_i, asFn_f, asFn_y, asArr_i, asObArr_t, asObArr_f, isReady_i, isBusy_i, uncons_c, uncons_sc, arrRows_i, Option.bind_some, Option.bind_none, cond_true, cond_false, cond_dec, cond_not]
  rw [p56 _ _ h (neg_valid k)]
  simp only [asInt_i, asBool_i, asRows_i, asCells_i, asTuple_i, asBox_i, asObCells_i, asLoop_i, uncons_i, unconsO_i, isNil_i, asPtr_i, asFn_f, asFn_y, asArr_i, asObArr_t, asObArr_f, isReady_i, isBusy_i, uncons_c, uncons_sc, arrRows_i, Option.bind_some, Option.bind_none, cond_true, cond_false, cond_dec, cond_not]
  rfl
theorem p91 (a : Int) : (CW G20 L20).p (.func 91) [.int .i64 a] = some (.int .i64 (if 1 < a then 1 else a)) := CW_val (e91 _ _) rfl

def small (n : Int) : Prop := -4611686018427387904 ≤ n ∧ n ≤ 4611686018427387904
theorem p75 (n : Int) (h : small n) : (CW G20 L20).p (.func 75) [.int .i64 n, .int .i64 65536] = some (.tuple [.int .i64 (fl n), .int .i64 (ce n)]) := by
  obtain ⟨h1, h2⟩ := h
  have q : (CW G20 L20).p (.func 90) [.int .i64 n, .int .i64 65536, .fn (.func 91) [] []] = some (.tuple [.int .i64 (fl n), .int .i64 (ce n)]) := by
    refine CW_val (h := []) ?_ rfl
    have e0 : ((65536 : Int) == 0) = false := rfl
    simp only [p90, p91, e0, asInt_i, asBool_i, asRows_i, asCells_i, asTuple_i, asBox_i, asObCells_i, asLoop_i, uncons_i, unconsO_i, isNil_i, asPtr_i, asFn_f, asFn_y, asArr_i, asObArr_t, asObArr_f, isReady_i, isBusy_i, uncons_c, uncons_sc, arrRows_i, Option.bind_some, Option.bind_none, cond_true, cond_false, cond_dec, cond_not]
    have e1 := td_floor n
    have e2 := tm_floor n
    generalize n.tdiv 65536 = x at *
    generalize n.tmod 65536 = y at *
    by_cases hn : 0 ≤ n
    · rw [if_pos hn] at e1 e2
      have hy : ¬ y < 0 := by omega
      rw [if_neg hy]
      have hx : IntKind.wrap .i64 x = x := w64 (by omega) (by omega)
      rw [hx, w64 (by split <;> omega) (by split <;> omega)]
      have a1 : x = fl n := by unfold fl; omega
      have a2 : x + (if 1 < y then 1 else y) = ce n := by unfold ce; split <;> omega
      rw [a2, a1]
    · rw [if_neg hn] at e1 e2
      have hx : IntKind.wrap .i64 x = x := w64 (by omega) (by omega)
      rw [hx]
      by_cases hy : y < 0
      · rw [if_pos hy]
        have hx1 : IntKind.wrap .i64 (x - 1) = x - 1 := w64 (by omega) (by omega)
        have hy1 : IntKind.wrap .i64 (y + 65536) = y + 65536 := w64 (by omega) (by omega)
        rw [hx1, hy1, w64 (by split <;> omega) (by split <;> omega)]
        have a1 : x - 1 = fl n := by unfold fl; omega
        have a2 : x - 1 + (if 1 < y + 65536 then 1 else y + 65536) = ce n := by unfold ce; split <;> omega
        rw [a2, a1]
      · rw [if_neg hy]
        rw [w64 (by split <;> omega) (by split <;> omega)]
        have a1 : x = fl n := by unfold fl; omega
        have a2 : x + (if 1 < y then 1 else y) = ce n := by unfold ce; split <;> omega
        rw [a2, a1]
  refine CW_val (h := []) ?_ rfl
  have e0 : decide ((65536 : Int) < 0) = false := rfl
  simp only [e75, q, e0, asInt_i, asBool_i, asRows_i, asCells_i, asTuple_i, asBox_i, asObCells_i, asLoop_i, uncons_i, unconsO_i, isNil_i, asPtr_i, asFn_f, asFn_y, asArr_i, asObArr_t, asObArr_f, isReady_i, isBusy_i, uncons_c, uncons_sc, arrRows_i, Option.bind_some, Option.bind_none, cond_true, cond_false, cond_dec, cond_not]
theorem p45 (a b : Int) (h : small (a * b)) : (CW G20 L20).p (.func 45) [.int .i64 a, .int .i64 b] = some (.tuple [.int .i64 (fl (a * b)), .int .i64 (ce (a * b))]) := by
  refine CW_val (h := []) ?_ rfl
  simp only [e45]
  rw [w64 (by have := h.1; omega) (by have := h.2; omega), p75 _ h]
  simp only [asInt_i, asBool_i, asRows_i, asCells_i, asTuple_i, asBox_i, asObCells_i, asLoop_i, uncons_i, unconsO_i, isNil_i, asPtr_i, asFn_f, asFn_y, asArr_i, asObArr_t, asObArr_f, isReady_i, isBusy_i, uncons_c, uncons_sc, arrRows_i, Option.bind_some, Option.bind_none, cond_true, cond_false, cond_dec, cond_not]
theorem floor_ok (n : Int) (h : small n) : IntKind.wrap .i64 (n.tdiv 65536) = n.tdiv 65536 ∧ IntKind.wrap .i64 (n.tdiv 65536 - 1) = n.tdiv 65536 - 1 ∧ IntKind.wrap .i64 (n.tdiv 65536 + 1) = n.tdiv 65536 + 1 ∧
    (n.tmod 65536 = 0 → n.tdiv 65536 = fl n ∧ n.tdiv 65536 = ce n) ∧ (n.tmod 65536 ≠ 0 → (n < 0 → n.tdiv 65536 - 1 = fl n ∧ n.tdiv 65536 = ce n) ∧ (¬ n < 0 → n.tdiv 65536 = fl n ∧ n.tdiv 65536 + 1 = ce n)) := by
  obtain ⟨h1, h2⟩ := h
  have e1 := td_floor n
  have e2 := tm_floor n
  refine ⟨w64 (by rw [e1]; split <;> omega) (by rw [e1]; split <;> omega), w64 (by rw [e1]; split <;> omega) (by rw [e1]; split <;> omega), w64 (by rw [e1]; split <;> omega) (by rw [e1]; split <;> omega), fun hm => ?_, fun hm => ⟨fun hn => ?_, fun hn => ?_⟩⟩
  · unfold fl ce
    split at e1 <;> rename_i h0
    · rw [if_pos h0] at e2; omega
    · rw [if_neg h0] at e2; omega
  · unfold fl ce
    rw [if_neg (by omega)] at e1 e2
    omega
  · unfold fl ce
    rw [if_pos (by omega)] at e1 e2
    omega
theorem p47 (n : Int) (h : small n) : (CW G20 L20).p (.func 47) [.int .i64 n, .int .i64 65536] = some (.int .i64 (fl n)) := by
  refine CW_val (h := []) ?_ rfl
  have e0 : ((65536 : Int) == 0) = false := rfl
  have e3 : decide ((65536 : Int) < 0) = false := rfl
  obtain ⟨w1, w2, w3, f1, f2⟩ := floor_ok n h
  simp only [e47, e0, e3, asInt_i, asBool_i, asRows_i, asCells_i, asTuple_i, asBox_i, asObCells_i, asLoop_i, uncons_i, unconsO_i, isNil_i, asPtr_i, asFn_f, asFn_y, asArr_i, asObArr_t, asObArr_f, isReady_i, isBusy_i, uncons_c, uncons_sc, arrRows_i, Option.bind_some, Option.bind_none, cond_true, cond_false, cond_dec, cond_not, w1, w2]
  by_cases hm : n.tmod 65536 = 0
  · simp [hm, (f1 hm).1]
  · have hb : (n.tmod 65536 != 0) = true := by simpa using hm
    simp only [hb, cond_true]
    by_cases hn : n < 0
    · simp [hn, ((f2 hm).1 hn).1]
    · simp [hn, ((f2 hm).2 hn).1]
theorem p108 (n : Int) (h : small n) : (CW G20 L20).p (.func 108) [.int .i64 n, .int .i64 65536] = some (.int .i64 (fl n)) := by
  refine CW_val (h := []) ?_ rfl
  have e0 : ((65536 : Int) == 0) = false := rfl
  have e3 : decide ((65536 : Int) < 0) = false := rfl
  obtain ⟨w1, w2, w3, f1, f2⟩ := floor_ok n h
  simp only [e108, e0, e3, asInt_i, asBool_i, asRows_i, asCells_i, asTuple_i, asBox_i, asObCells_i, asLoop_i, uncons_i, unconsO_i, isNil_i, asPtr_i, asFn_f, asFn_y, asArr_i, asObArr_t, asObArr_f, isReady_i, isBusy_i, uncons_c, uncons_sc, arrRows_i, Option.bind_some, Option.bind_none, cond_true, cond_false, cond_dec, cond_not, w1, w2]
  by_cases hm : n.tmod 65536 = 0
  · simp [hm, (f1 hm).1]
  · have hb : (n.tmod 65536 != 0) = true := by simpa using hm
    simp only [hb, cond_true]
    by_cases hn : n < 0
    · simp [hn, ((f2 hm).1 hn).1]
    · simp [hn, ((f2 hm).2 hn).1]
theorem small_neg {n : Int} (h : small n) : small (-n) := ⟨by have := h.2; omega, by have := h.1; omega⟩
theorem p82 (n : Int) (h : small n) : (CW G20 L20).p (.func 82) [.int .i64 n, .int .i64 65536] = some (.int .i64 (ce n)) := by
  have h1 := h.1
  have h2 := h.2
  refine CW_val (h := []) ?_ rfl
  simp only [e82]
  rw [w64 (by omega) (by omega), show 0 - n = -n by omega, p47 _ (small_neg h)]
  simp only [asInt_i, asBool_i, asRows_i, asCells_i, asTuple_i, asBox_i, asObCells_i, asLoop_i, uncons_i, unconsO_i, isNil_i, asPtr_i, asFn_f, asFn_y, asArr_i, asObArr_t, asObArr_f, isReady_i, isBusy_i, uncons_c, uncons_sc, arrRows_i, Option.bind_some, Option.bind_none, cond_true, cond_false, cond_dec, cond_not]
  rw [w64 (by unfold fl; omega) (by unfold fl; omega)]
  simp [ce, fl]
theorem p109 (n : Int) (h : small n) : (CW G20 L20).p (.func 109) [.int .i64 n, .int .i64 65536] = some (.int .i64 (ce n)) := by
  refine CW_val (h := []) ?_ rfl
  have e0 : ((65536 : Int) == 0) = false := rfl
  have e3 : decide ((65536 : Int) < 0) = false := rfl
  obtain ⟨w1, w2, w3, f1, f2⟩ := floor_ok n h
  simp only [e109, e0, e3, asInt_i, asBool_i, asRows_i, asCells_i, asTuple_i, asBox_i, asObCells_i, asLoop_i, uncons_i, unconsO_i, isNil_i, asPtr_i, asFn_f, asFn_y, asArr_i, asObArr_t, asObArr_f, isReady_i, isBusy_i, uncons_c, uncons_sc, arrRows_i, Option.bind_some, Option.bind_none, cond_true, cond_false, cond_dec, cond_not, w1, w3]
  by_cases hm : n.tmod 65536 = 0
  · simp [hm, (f1 hm).2]
  · have hb : (n.tmod 65536 != 0) = true := by simpa using hm
    simp only [hb, cond_true]
    by_cases hn : n < 0
    · simp [hn, ((f2 hm).1 hn).2]
    · simp [hn, ((f2 hm).2 hn).2]
theorem p102 (a b : Int) (h : small (a * b)) : (CW G20 L20).p (.func 102) [.int .i64 a, .int .i64 b] = some (.tuple [.int .i64 (fl (a * b)), .int .i64 (ce (a * b))]) := by
  refine CW_val (h := []) ?_ rfl
  simp only [e102]
  rw [w64 (by have := h.1; omega) (by have := h.2; omega), p108 _ h, p109 _ h]
  simp only [asInt_i, asBool_i, asRows_i, asCells_i, asTuple_i, asBox_i, asObCells_i, asLoop_i, uncons_i, unconsO_i, isNil_i, asPtr_i, asFn_f, asFn_y, asArr_i, asObArr_t, asObArr_f, isReady_i, isBusy_i, uncons_c, uncons_sc, arrRows_i, Option.bind_some, Option.bind_none, cond_true, cond_false, cond_dec, cond_not]

/-! Squares; squared distances. -/
theorem p87 (a : Iv) (h : a.valid) : (CW G20 L20).p (.func 87) [.agg [.int .i64 a.lo, .int .i64 a.hi]] = some (.int .i64 a.far) := by
  obtain ⟨h1, h2, h3, h4⟩ := h
  refine CW_val (h := []) ?_ rfl
  simp only [e87]
  rw [w64 (by omega) (by omega)]
  have : (if 0 - a.lo > a.hi then 0 - a.lo else a.hi) = a.far := by unfold Iv.far; split <;> omega
  rw [this]
theorem small_sq {x : Int} (h0 : 0 ≤ x) (h : x ≤ 2147483648) : small (x * x) := by
  obtain ⟨a, b⟩ := sqb h0 h
  exact ⟨by omega, b⟩
theorem p69 (a : Iv) (h : a.valid) : (CW G20 L20).p (.func 69) [.agg [.int .i64 a.lo, .int .i64 a.hi]] = some (.agg a.sq.c) := by
  have hv := h
  obtain ⟨h1, h2, h3, h4⟩ := h
  obtain ⟨b1, b2, b3, b4⟩ := near_b hv
  refine CW_val (h := []) ?_ rfl
  simp only [e69, p46, asInt_i, asBool_i, asRows_i, asCells_i, asTuple_i, asBox_i, asObCells_i, asLoop_i, uncons_i, unconsO_i, isNil_i, asPtr_i, asFn_f, asFn_y, asArr_i, asObArr_t, asObArr_f, isReady_i, isBusy_i, uncons_c, uncons_sc, arrRows_i, Option.bind_some, Option.bind_none, cond_true, cond_false, cond_dec, cond_not, Iv.eta]
  rw [w64 (by omega) (by omega)]
  have e : (if 0 > (if 0 - a.hi > a.lo then 0 - a.hi else a.lo) then 0 else (if 0 - a.hi > a.lo then 0 - a.hi else a.lo)) = a.near := by unfold Iv.near; split <;> split <;> omega
  rw [e, p87 a hv, p45 _ _ (small_sq b1 b2)]
  simp only [asInt_i, asBool_i, asRows_i, asCells_i, asTuple_i, asBox_i, asObCells_i, asLoop_i, uncons_i, unconsO_i, isNil_i, asPtr_i, asFn_f, asFn_y, asArr_i, asObArr_t, asObArr_f, isReady_i, isBusy_i, uncons_c, uncons_sc, arrRows_i, Option.bind_some, Option.bind_none, cond_true, cond_false, cond_dec, cond_not]
  rw [p45 _ _ (small_sq (by omega) b4)]
  simp only [asInt_i, asBool_i, asRows_i, asCells_i, asTuple_i, asBox_i, asObCells_i, asLoop_i, uncons_i, unconsO_i, isNil_i, asPtr_i, asFn_f, asFn_y, asArr_i, asObArr_t, asObArr_f, isReady_i, isBusy_i, uncons_c, uncons_sc, arrRows_i, Option.bind_some, Option.bind_none, cond_true, cond_false, cond_dec, cond_not, p36', Iv.sq]
  cases a.isW <;> rfl
theorem sq2 {a : Iv} (h : a.valid) : (if a.lo ≤ 0 ∧ a.hi ≥ 0 then 0 else (if a.hi * a.hi < a.lo * a.lo then a.hi * a.hi else a.lo * a.lo)) = a.near * a.near ∧ (if a.hi * a.hi > a.lo * a.lo then a.hi * a.hi else a.lo * a.lo) = a.far * a.far := by
  obtain ⟨h1, h2, h3, h4⟩ := h
  have e1 : (-a.hi) * (-a.hi) = a.hi * a.hi := by rw [Int.neg_mul_neg]
  have e2 : (-a.lo) * (-a.lo) = a.lo * a.lo := by rw [Int.neg_mul_neg]
  by_cases p0 : 0 ≤ a.lo
  · have q : a.lo * a.lo ≤ a.hi * a.hi := sq_mono p0 h1
    have hn : a.near = a.lo := by unfold Iv.near; omega
    have hf : a.far = a.hi := by unfold Iv.far; omega
    rw [hn, hf]
    refine ⟨?_, by split <;> omega⟩
    split
    · rename_i h; have : a.lo = 0 := by omega
      rw [this]; rfl
    · rw [if_neg (by omega)]
  · by_cases p1 : a.hi ≤ 0
    · have q : (-a.hi) * (-a.hi) ≤ (-a.lo) * (-a.lo) := sq_mono (by omega) (by omega)
      have hn : a.near = -a.hi := by unfold Iv.near; omega
      have hf : a.far = -a.lo := by unfold Iv.far; omega
      rw [hn, hf]
      rw [e1, e2] at *
      refine ⟨?_, by rw [if_neg (by omega)]⟩
      split
      · rename_i h; have : a.hi = 0 := by omega
        rw [this]; rfl
      · split <;> omega
    · have hn : a.near = 0 := by unfold Iv.near; omega
      rw [hn, if_pos (by omega)]
      refine ⟨rfl, ?_⟩
      by_cases p2 : -a.lo ≤ a.hi
      · have q : (-a.lo) * (-a.lo) ≤ a.hi * a.hi := sq_mono (by omega) p2
        have hf : a.far = a.hi := by unfold Iv.far; omega
        rw [hf]; split <;> omega
      · have q : a.hi * a.hi ≤ (-a.lo) * (-a.lo) := sq_mono (by omega) (by omega)
        have hf : a.far = -a.lo := by unfold Iv.far; omega
        rw [hf]; split <;> omega
theorem p57 (a : Iv) (h : a.valid) : (CW G20 L20).p (.func 57) [.agg [.int .i64 a.lo, .int .i64 a.hi]] = some (.agg a.sq.c) := by
  have hv := h
  obtain ⟨h1, h2, h3, h4⟩ := h
  obtain ⟨b1, b2, b3, b4⟩ := near_b hv
  obtain ⟨s1, s2⟩ := sq2 hv
  have bl : a.lo * a.lo ≤ 4611686018427387904 ∧ 0 ≤ a.lo * a.lo := by
    by_cases p0 : 0 ≤ a.lo
    · have := sqb p0 (by omega); omega
    · have := sqb (x := -a.lo) (by omega) (by omega); rw [Int.neg_mul_neg] at this; omega
  have bh : a.hi * a.hi ≤ 4611686018427387904 ∧ 0 ≤ a.hi * a.hi := by
    by_cases p0 : 0 ≤ a.hi
    · have := sqb p0 (by omega); omega
    · have := sqb (x := -a.hi) (by omega) (by omega); rw [Int.neg_mul_neg] at this; omega
  refine CW_val (h := []) ?_ rfl
  simp only [e57, p26, p72, asInt_i, asBool_i, asRows_i, asCells_i, asTuple_i, asBox_i, asObCells_i, asLoop_i, uncons_i, unconsO_i, isNil_i, asPtr_i, asFn_f, asFn_y, asArr_i, asObArr_t, asObArr_f, isReady_i, isBusy_i, uncons_c, uncons_sc, arrRows_i, Option.bind_some, Option.bind_none, cond_true, cond_false, cond_dec, cond_not, Iv.eta]
  rw [w64 (x := a.hi * a.hi) (by omega) (by omega), w64 (x := a.lo * a.lo) (by omega) (by omega)]
  rw [s2, p82 _ (small_sq (by omega) b4)]
  have z : (CW G20 L20).p (.func 47) [.int .i64 0, .int .i64 65536] = some (.int .i64 (fl 0)) := p47 0 ⟨by decide, by decide⟩
  have sn := small_sq b1 b2
  unfold Iv.sq
  cases hw : a.isW with
  | true =>
    simp only [Iv.isW, Bool.and_eq_true, beq_iff_eq] at hw
    simp only [cond_true, asInt_i, asBool_i, asRows_i, asCells_i, asTuple_i, asBox_i, asObCells_i, asLoop_i, uncons_i, unconsO_i, isNil_i, asPtr_i, asFn_f, asFn_y, asArr_i, asObArr_t, asObArr_f, isReady_i, isBusy_i, uncons_c, uncons_sc, arrRows_i, Option.bind_some, Option.bind_none, cond_true, cond_false, cond_dec, cond_not, if_true]
    obtain ⟨lo, hi⟩ := a
    simp only at hw
    rw [hw.1, hw.2]; rfl
  | false =>
    simp only [cond_false, Bool.false_eq_true, if_false]
    by_cases c1 : a.lo ≤ 0
    · simp only [c1, if_true]
      by_cases c2 : a.hi ≥ 0
      · rw [if_pos ⟨c1, c2⟩] at s1
        simp only [c2, if_true, z, asInt_i, asBool_i, asRows_i, asCells_i, asTuple_i, asBox_i, asObCells_i, asLoop_i, uncons_i, unconsO_i, isNil_i, asPtr_i, asFn_f, asFn_y, asArr_i, asObArr_t, asObArr_f, isReady_i, isBusy_i, uncons_c, uncons_sc, arrRows_i, Option.bind_some, Option.bind_none, cond_true, cond_false, cond_dec, cond_not, p43]
        rw [← s1]; rfl
      · rw [if_neg (fun h => c2 h.2)] at s1
        simp only [c2, if_false]
        rw [s1, p47 _ sn]
        simp only [asInt_i, asBool_i, asRows_i, asCells_i, asTuple_i, asBox_i, asObCells_i, asLoop_i, uncons_i, unconsO_i, isNil_i, asPtr_i, asFn_f, asFn_y, asArr_i, asObArr_t, asObArr_f, isReady_i, isBusy_i, uncons_c, uncons_sc, arrRows_i, Option.bind_some, Option.bind_none, cond_true, cond_false, cond_dec, cond_not, p43]; rfl
    · rw [if_neg (fun h => c1 h.1)] at s1
      simp only [c1, if_false]
      rw [s1, p47 _ sn]
      simp only [asInt_i, asBool_i, asRows_i, asCells_i, asTuple_i, asBox_i, asObCells_i, asLoop_i, uncons_i, unconsO_i, isNil_i, asPtr_i, asFn_f, asFn_y, asArr_i, asObArr_t, asObArr_f, isReady_i, isBusy_i, uncons_c, uncons_sc, arrRows_i, Option.bind_some, Option.bind_none, cond_true, cond_false, cond_dec, cond_not, p43]; rfl
end Go.Ab
