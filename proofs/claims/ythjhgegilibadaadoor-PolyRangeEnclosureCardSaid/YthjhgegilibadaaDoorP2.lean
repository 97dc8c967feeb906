/- Validity and equality of polynomials, of the program and of the reference; conditions: bytes; few terms. -/
import Derived.KernelRfl
import Derived.Test.YthjhgegilibadaaDoorP1
namespace Go.Ab
set_option linter.unusedVariables false
set_option linter.unusedSimpArgs false
set_option linter.unusedSimpArgs false
set_option linter.unusedVariables false

def keyLt (a b : Tm) : Prop := a.e.key < b.e.key
instance (a b : Tm) : Decidable (keyLt a b) := inferInstanceAs (Decidable (_ < _))
def sortedP (p : List Tm) : Prop := p.Pairwise keyLt
instance (p : List Tm) : Decidable (sortedP p) := inferInstanceAs (Decidable (List.Pairwise _ _))
def fine (t : Tm) : Prop := number t.c ∧ t.c ≠ 0 ∧ t.e.deg ≤ 6
instance (t : Tm) : Decidable (fine t) := inferInstanceAs (Decidable (_ ∧ _))
def validP (p : List Tm) : Prop := (∀ t ∈ p, fine t) ∧ sortedP p ∧ p.length ≤ 100
instance (p : List Tm) : Decidable (validP p) := inferInstanceAs (Decidable (_ ∧ _))
def okAt (p : List Tm) (i : Nat) : Bool := if h : i < p.length then decide (fine p[i]) && (if h2 : 0 < i then decide (p[i - 1].e.key < p[i].e.key) else true) else true
theorem valid_of {p : List Tm} (h : ∀ i, i < p.length → okAt p i = true) : (∀ t ∈ p, fine t) ∧ sortedP p := by
  have h' : ∀ i (hi : i < p.length), fine p[i] ∧ ∀ (h2 : 0 < i), p[i - 1].e.key < p[i].e.key := by
    intro i hi
    have := h i hi
    simp only [okAt, hi, dif_pos, Bool.and_eq_true, decide_eq_true_eq] at this
    refine ⟨this.1, fun h2 => ?_⟩
    have h3 := this.2
    rw [dif_pos h2] at h3
    exact of_decide_eq_true h3
  refine ⟨fun t ht => ?_, ?_⟩
  · obtain ⟨i, hi, rfl⟩ := List.mem_iff_getElem.1 ht
    exact (h' i hi).1
  · unfold sortedP
    rw [List.pairwise_iff_getElem]
    intro i j hi hj hij
    have : ∀ k (hk : i + 1 + k < p.length), p[i].e.key < p[i + 1 + k].e.key := by
      intro k
      induction k with
      | zero => intro hk; have := (h' (i + 1) hk).2 (by omega); simpa using this
      | succ k ih =>
        intro hk
        have h1 := ih (by omega)
        have h2 := (h' (i + 1 + (k + 1)) hk).2 (by omega)
        simp only [show i + 1 + (k + 1) - 1 = i + 1 + k by omega] at h2
        omega
    have := this (j - i - 1) (by omega)
    simp only [show i + 1 + (j - i - 1) = j by omega] at this
    exact this
theorem not_valid_of {p : List Tm} {i : Nat} (hi : i < p.length) (h : okAt p i = false) : ¬ ((∀ t ∈ p, fine t) ∧ sortedP p) := by
  rintro ⟨h1, h2⟩
  simp only [okAt, hi, dif_pos, Bool.and_eq_false_iff, decide_eq_false_iff_not] at h
  rcases h with h | h
  · exact h (h1 _ (List.getElem_mem hi))
  · split at h
    · rename_i h3
      simp only [decide_eq_false_iff_not] at h
      unfold sortedP at h2
      rw [List.pairwise_iff_getElem] at h2
      exact h (h2 (i - 1) i (by omega) hi (by omega))
    · cases h
theorem ord_ge (x y : E6) : decide (x.ord y ≥ 0) = !decide (x.key < y.key) := by
  unfold E6.ord
  by_cases h1 : x.key < y.key
  · simp [h1]
  · by_cases h2 : y.key < x.key <;> simp [h1, h2]
theorem wpredN (i : Nat) (h0 : 0 < i) (h : i ≤ 1000000000) : IntKind.wrap .i64 (((i : Nat) : Int) - 1) = ((i - 1 : Nat) : Int) := by
  rw [w64 (by omega) (by omega)]; omega
theorem pos_dec {i : Nat} : decide (((i : Nat) : Int) > 0) = decide (0 < i) := by
  by_cases h : 0 < i
  · simp [h]
  · simp [h]
theorem vstep_poly_Valid (p : List Tm) (hk : oks p) (hf : few p) (i : Nat) (hi : i < p.length) : roundK GD LD (CW GD LD) 9 none 2 (S9_2 (p.map Tm.cs) false (p.map Tm.cs) ((p.length : Nat) : Int) ((i : Nat) : Int)) =
      if okAt p i = true then some (.normal, S9_2 (p.map Tm.cs) false (p.map Tm.cs) ((p.length : Nat) : Int) ((i + 1 : Nat) : Int)) else some (.ret, S9_2 (p.map Tm.cs) false (p.map Tm.cs) ((p.length : Nat) : Int) ((i : Nat) : Int)) := by
  have hfl : p.length ≤ 100000 := hf
  have hx : p[i].e.ok := hk _ (List.getElem_mem hi)
  rw [e9_2, lt_dec hi, getT p i hi, pos_dec]
  simp only [uncons_t, uncons_e, asInt_i, asBool_i, asRows_i, asCells_i, asTuple_i, asBox_i, asObCells_i, asLoop_i, uncons_i, unconsO_i, isNil_i, asPtr_i, asFn_f, asFn_y, asArr_i, asObArr_t, asObArr_f, isReady_i, isBusy_i, uncons_c, asInt_u, asMapV_i, arrRows_i, Option.bind_some, Option.bind_none, cond_true, cond_false, cond_dec, cond_not, p43, wsucc i (by omega)]
  rw [p44 _ hx]
  simp only [asInt_i, Option.bind_some, cond_dec]
  simp only [okAt, hi, dif_pos]
  by_cases h1 : number p[i].c
  · by_cases h2 : p[i].c = 0
    · have e2 : (p[i].c == 0) = true := by simpa using h2
      have : ¬ fine p[i] := fun h => h.2.1 h2
      simp [h1, e2, this]
    · have e2 : (p[i].c == 0) = false := by simpa using h2
      by_cases h3 : p[i].e.deg ≤ 6
      · have e3 : ¬ ((p[i].e.deg : Nat) : Int) > 6 := by omega
        have hfi : fine p[i] := ⟨h1, h2, h3⟩
        by_cases h4 : 0 < i
        · have hx' : p[i - 1].e.ok := hk _ (List.getElem_mem _)
          simp only [h1, e2, e3, h4, hfi, if_true, if_false, cond_false, wpredN i h4 (by omega), getT p (i - 1) (by omega), uncons_t, uncons_e, asInt_i, asBool_i, asRows_i, asCells_i, asTuple_i, asBox_i, asObCells_i, asLoop_i, uncons_i, unconsO_i, isNil_i, asPtr_i, asFn_f, asFn_y, asArr_i, asObArr_t, asObArr_f, isReady_i, isBusy_i, uncons_c, asInt_u, asMapV_i, arrRows_i, Option.bind_some, Option.bind_none, cond_true, cond_false, cond_dec, cond_not, p45 _ _ hx' hx, decide_true, Bool.true_and, dif_pos]
          by_cases h5 : p[i - 1].e.key < p[i].e.key
          · have e5 : ¬ p[i - 1].e.ord p[i].e ≥ 0 := by have := ord_ge p[i - 1].e p[i].e; simpa [h5] using this
            simp only [h5, e5, decide_true, if_true, if_false]
          · have e5 : p[i - 1].e.ord p[i].e ≥ 0 := by have := ord_ge p[i - 1].e p[i].e; simpa [h5] using this
            simp only [h5, e5, decide_false, if_true, if_false, Bool.false_eq_true]
        · simp only [h1, e2, e3, h4, hfi, if_true, if_false, cond_false, decide_true, Bool.and_self, dif_neg, not_false_eq_true]
      · have e3 : ((p[i].e.deg : Nat) : Int) > 6 := by omega
        have : ¬ fine p[i] := fun h => h3 h.2.2
        simp [h1, e2, e3, this]
  · have : ¬ fine p[i] := fun h => h1 h.1
    simp [h1, this]
theorem p9 (p : List Tm) (hk : oks p) (hf : few p) : (CW GD LD).p (.func 9) [.slice .any (p.map Tm.cs)] = some (.bool (decide (validP p))) := by
  have hfl : p.length ≤ 100000 := hf
  have hstep := vstep_poly_Valid p hk hf
  have hloop := iterW_upto (round := roundK GD LD (CW GD LD) 9 none 2) (fun i => S9_2 (p.map Tm.cs) false (p.map Tm.cs) ((p.length : Nat) : Int) ((i : Nat) : Int)) p.length (okAt p)
    (fun z => ∃ x : Int, z = S9_2 (p.map Tm.cs) false (p.map Tm.cs) ((p.length : Nat) : Int) x) (id := 0)
    (fun i hi _ h => by rw [hstep i hi, if_pos h]) (fun i hi _ h => ⟨_, by rw [hstep i hi, if_neg (by rw [h]; simp)], _, rfl⟩)
    (fun _ => by simp only [e9_2, lt_decn, cond_false])
  rcases hloop with ⟨hall, hl⟩ | ⟨⟨j, hj1, hj2⟩, z, hl, x, hz⟩
  · have hv := valid_of hall
    have : decide (validP p) = decide ((((p.map Tm.cs).length : Nat) : Int) ≤ 100) := by
      rw [decide_eq_decide, List.length_map]
      exact ⟨fun h => by have := h.2.2; omega, fun h => ⟨hv.1, hv.2, by omega⟩⟩
    rw [this]
    refine CW_val (h := []) ?_ rfl
    rw [e9, CW_w]
    refine (bind_via (show iterW (roundK GD LD (CW GD LD) 9 none 2) (S9_2 (p.map Tm.cs) false (p.map Tm.cs) (((p.map Tm.cs).length : Nat) : Int) 0) = some _ from by rw [List.length_map]; exact hl) _).trans ?_
    kernel_rfl
  · have hn := not_valid_of hj1 hj2
    have : decide (validP p) = false := by simp only [decide_eq_false_iff_not]; exact fun h => hn ⟨h.1, h.2.1⟩
    rw [this]
    rw [hz] at hl
    refine CW_val (h := []) ?_ rfl
    rw [e9, CW_w]
    refine (bind_via (show iterW (roundK GD LD (CW GD LD) 9 none 2) (S9_2 (p.map Tm.cs) false (p.map Tm.cs) (((p.map Tm.cs).length : Nat) : Int) 0) = some _ from by rw [List.length_map]; exact hl) _).trans ?_
    kernel_rfl
theorem vstep_r5_Valid (p : List Tm) (hk : oks p) (hf : few p) (i : Nat) (hi : i < p.length) : roundK GD LD (CW GD LD) 10 none 2 (S10_2 (p.map Tm.cs) false ((i : Nat) : Int)) =
      if okAt p i = true then some (.normal, S10_2 (p.map Tm.cs) false ((i + 1 : Nat) : Int)) else some (.ret, S10_2 (p.map Tm.cs) false ((i : Nat) : Int)) := by
  have hfl : p.length ≤ 100000 := hf
  have hx : p[i].e.ok := hk _ (List.getElem_mem hi)
  rw [e10_2, List.length_map, lt_dec hi, getT p i hi, pos_dec]
  simp only [uncons_t, uncons_e, asInt_i, asBool_i, asRows_i, asCells_i, asTuple_i, asBox_i, asObCells_i, asLoop_i, uncons_i, unconsO_i, isNil_i, asPtr_i, asFn_f, asFn_y, asArr_i, asObArr_t, asObArr_f, isReady_i, isBusy_i, uncons_c, asInt_u, asMapV_i, arrRows_i, Option.bind_some, Option.bind_none, cond_true, cond_false, cond_dec, cond_not, p46, p47 _ hx, wsucc i (by omega)]
  simp only [okAt, hi, dif_pos]
  by_cases h1 : number p[i].c
  · by_cases h2 : p[i].c = 0
    · have e2 : (p[i].c == 0) = true := by simpa using h2
      have : ¬ fine p[i] := fun h => h.2.1 h2
      simp [h1, e2, this]
    · have e2 : (p[i].c == 0) = false := by simpa using h2
      by_cases h3 : p[i].e.deg ≤ 6
      · have e3 : ¬ ((p[i].e.deg : Nat) : Int) > 6 := by omega
        have hfi : fine p[i] := ⟨h1, h2, h3⟩
        by_cases h4 : 0 < i
        · have hx' : p[i - 1].e.ok := hk _ (List.getElem_mem _)
          simp only [h1, e2, e3, h4, hfi, if_true, if_false, cond_false, wpredN i h4 (by omega), getT p (i - 1) (by omega), uncons_t, uncons_e, asInt_i, asBool_i, asRows_i, asCells_i, asTuple_i, asBox_i, asObCells_i, asLoop_i, uncons_i, unconsO_i, isNil_i, asPtr_i, asFn_f, asFn_y, asArr_i, asObArr_t, asObArr_f, isReady_i, isBusy_i, uncons_c, asInt_u, asMapV_i, arrRows_i, Option.bind_some, Option.bind_none, cond_true, cond_false, cond_dec, cond_not, p48 _ _ hx' hx, decide_true, Bool.true_and, dif_pos]
          by_cases h5 : p[i - 1].e.key < p[i].e.key
          · have e5 : ¬ p[i - 1].e.ord p[i].e ≥ 0 := by have := ord_ge p[i - 1].e p[i].e; simpa [h5] using this
            simp only [h5, e5, decide_true, if_true, if_false]
          · have e5 : p[i - 1].e.ord p[i].e ≥ 0 := by have := ord_ge p[i - 1].e p[i].e; simpa [h5] using this
            simp only [h5, e5, decide_false, if_true, if_false, Bool.false_eq_true]
        · simp only [h1, e2, e3, h4, hfi, if_true, if_false, cond_false, decide_true, Bool.and_self, dif_neg, not_false_eq_true]
      · have e3 : ((p[i].e.deg : Nat) : Int) > 6 := by omega
        have : ¬ fine p[i] := fun h => h3 h.2.2
        simp [h1, e2, e3, this]
  · have : ¬ fine p[i] := fun h => h1 h.1
    simp [h1, this]
theorem p10 (p : List Tm) (hk : oks p) (hf : few p) : (CW GD LD).p (.func 10) [.slice .any (p.map Tm.cs)] = some (.bool (decide (validP p))) := by
  have hfl : p.length ≤ 100000 := hf
  have hstep := vstep_r5_Valid p hk hf
  have hloop := iterW_upto (round := roundK GD LD (CW GD LD) 10 none 2) (fun i => S10_2 (p.map Tm.cs) false ((i : Nat) : Int)) p.length (okAt p)
    (fun z => ∃ x : Int, z = S10_2 (p.map Tm.cs) false x) (id := 0)
    (fun i hi _ h => by rw [hstep i hi, if_pos h]) (fun i hi _ h => ⟨_, by rw [hstep i hi, if_neg (by rw [h]; simp)], _, rfl⟩)
    (fun _ => by simp only [e10_2, List.length_map, lt_decn, cond_false])
  rcases hloop with ⟨hall, hl⟩ | ⟨⟨j, hj1, hj2⟩, z, hl, x, hz⟩
  · have hv := valid_of hall
    have : decide (validP p) = decide ((((p.map Tm.cs).length : Nat) : Int) ≤ 100) := by
      rw [decide_eq_decide, List.length_map]
      exact ⟨fun h => by have := h.2.2; omega, fun h => ⟨hv.1, hv.2, by omega⟩⟩
    rw [this]
    refine CW_val (h := []) ?_ rfl
    rw [e10, CW_w]
    refine (bind_via hl _).trans ?_
    kernel_rfl
  · have hn := not_valid_of hj1 hj2
    have : decide (validP p) = false := by simp only [decide_eq_false_iff_not]; exact fun h => hn ⟨h.1, h.2.1⟩
    rw [this]
    rw [hz] at hl
    refine CW_val (h := []) ?_ rfl
    rw [e10, CW_w]
    refine (bind_via hl _).trans ?_
    kernel_rfl

/-! Equality. -/
def sameAt (a b : List Tm) (i : Nat) : Bool := if h : i < a.length ∧ i < b.length then decide (a[i]'h.1 = b[i]'h.2) else true
theorem ord_zero {x y : E6} (hx : x.ok) (hy : y.ok) : (x.ord y != 0) = !decide (x = y) := by
  by_cases h : x = y
  · subst h; simp [E6.ord]
  · have : x.key ≠ y.key := fun e => h (E6.key_inj hx hy e)
    unfold E6.ord
    by_cases h1 : x.key < y.key
    · simp [h1, h]
    · have h2 : y.key < x.key := by omega
      simp [h1, h2, h]
theorem p21 (a b : List Tm) (ha : oks a) (hb : oks b) (hf : few a) : (CW GD LD).p (.func 21) [.slice .any (a.map Tm.cs), .slice .any (b.map Tm.cs)] = some (.bool (decide (a = b))) := by
  have hfl : a.length ≤ 100000 := hf
  by_cases hlen : a.length = b.length
  · have hstep : ∀ i (hi : i < a.length), roundK GD LD (CW GD LD) 21 none 4 (S21_4 (a.map Tm.cs) (b.map Tm.cs) false ((i : Nat) : Int)) =
        if sameAt a b i = true then some (.normal, S21_4 (a.map Tm.cs) (b.map Tm.cs) false ((i + 1 : Nat) : Int)) else some (.ret, S21_4 (a.map Tm.cs) (b.map Tm.cs) false ((i : Nat) : Int)) := by
      intro i hi
      have hi2 : i < b.length := by omega
      have hx : a[i].e.ok := ha _ (List.getElem_mem hi)
      have hy : b[i].e.ok := hb _ (List.getElem_mem hi2)
      rw [e21_4, List.length_map, lt_dec hi, getT a i hi, getT b i hi2]
      simp only [uncons_t, uncons_e, asInt_i, asBool_i, asRows_i, asCells_i, asTuple_i, asBox_i, asObCells_i, asLoop_i, uncons_i, unconsO_i, isNil_i, asPtr_i, asFn_f, asFn_y, asArr_i, asObArr_t, asObArr_f, isReady_i, isBusy_i, uncons_c, asInt_u, asMapV_i, arrRows_i, Option.bind_some, Option.bind_none, cond_true, cond_false, cond_dec, cond_not, p48 _ _ hx hy, wsucc i (by omega), ord_zero hx hy, sameAt, hi, hi2, and_self, dif_pos]
      by_cases h1 : a[i].c = b[i].c
      · have e1 : (a[i].c != b[i].c) = false := by simpa using h1
        by_cases h2 : a[i].e = b[i].e
        · have : a[i] = b[i] := by cases h3 : a[i]; cases h4 : b[i]; simp_all
          simp only [e1, cond_false]
          simp only [h2, this, decide_true, if_true, Bool.not_true, cond_false]
        · have : ¬ a[i] = b[i] := fun h => h2 (by rw [h])
          simp only [e1, h2, this, cond_false, decide_false, if_false, Bool.false_eq_true]
      · have e1 : (a[i].c != b[i].c) = true := by simpa using h1
        have : ¬ a[i] = b[i] := fun h => h1 (by rw [h])
        simp only [e1, this, cond_true, decide_false, if_false, Bool.false_eq_true]
    have hloop := iterW_upto (round := roundK GD LD (CW GD LD) 21 none 4) (fun i => S21_4 (a.map Tm.cs) (b.map Tm.cs) false ((i : Nat) : Int)) a.length (sameAt a b)
      (fun z => ∃ x : Int, z = S21_4 (a.map Tm.cs) (b.map Tm.cs) false x) (id := 0)
      (fun i hi _ h => by rw [hstep i hi, if_pos h]) (fun i hi _ h => ⟨_, by rw [hstep i hi, if_neg (by rw [h]; simp)], _, rfl⟩)
      (fun _ => by simp only [e21_4, List.length_map, lt_decn, cond_false])
    have el : ((((a.map Tm.cs).length : Nat) : Int) != (((b.map Tm.cs).length : Nat) : Int)) = false := by simp [hlen]
    rcases hloop with ⟨hall, hl⟩ | ⟨⟨j, hj1, hj2⟩, z, hl, x, hz⟩
    · have : a = b := by
        apply List.ext_getElem hlen
        intro i h1 h2
        have := hall i h1
        simp only [sameAt, h1, h2, and_self, dif_pos, decide_eq_true_eq] at this
        exact this
      rw [show decide (a = b) = true by simpa using this]
      refine CW_val (h := []) ?_ rfl
      rw [e21, CW_w, el]
      refine (bind_via hl _).trans ?_
      kernel_rfl
    · have : ¬ a = b := by
        intro h
        subst h
        simp [sameAt] at hj2
      rw [show decide (a = b) = false by simpa using this]
      rw [hz] at hl
      refine CW_val (h := []) ?_ rfl
      rw [e21, CW_w, el]
      refine (bind_via hl _).trans ?_
      kernel_rfl
  · have : ¬ a = b := fun h => hlen (by rw [h])
    rw [show decide (a = b) = false by simpa using this]
    have el : ((((a.map Tm.cs).length : Nat) : Int) != (((b.map Tm.cs).length : Nat) : Int)) = true := by
      simp only [List.length_map, bne_iff_ne, ne_eq]; omega
    refine CW_val (h := []) ?_ rfl
    rw [e21, el]
    rfl
end Go.Ab
/- The sum of two polynomials, of the program; conditions: bytes; few terms; numbers. -/
namespace Go.Ab
set_option linter.unusedVariables false
set_option linter.unusedSimpArgs false
set_option linter.unusedSimpArgs false
set_option linter.unusedVariables false

def merge : List Tm → List Tm → List Tm
  | [], b => b
  | x :: a, [] => x :: a
  | x :: a, y :: b => if x.e.key < y.e.key then x :: merge a (y :: b) else if y.e.key < x.e.key then y :: merge (x :: a) b else ⟨x.c + y.c, x.e⟩ :: merge a b
termination_by a b => a.length + b.length
theorem merge_nil (b : List Tm) : merge [] b = b := by rw [merge]
theorem merge_nil' (a : List Tm) : merge a [] = a := by cases a <;> rw [merge]
theorem merge_cons (x y : Tm) (a b : List Tm) : merge (x :: a) (y :: b) = if x.e.key < y.e.key then x :: merge a (y :: b) else if y.e.key < x.e.key then y :: merge (x :: a) b else ⟨x.c + y.c, x.e⟩ :: merge a b := by rw [merge]
theorem merge_len : ∀ (n : Nat) (a b : List Tm), a.length + b.length ≤ n → (merge a b).length ≤ a.length + b.length := by
  intro n
  induction n with
  | zero => intro a b h; rw [List.length_eq_zero_iff.1 (show a.length = 0 by omega), merge_nil]; omega
  | succ n ih =>
    intro a b h
    cases a with
    | nil => rw [merge_nil]; omega
    | cons x a =>
      cases b with
      | nil => rw [merge_nil']; omega
      | cons y b =>
        rw [merge_cons]
        simp only [List.length_cons] at h ⊢
        split
        · have := ih a (y :: b) (by simp only [List.length_cons]; omega)
          simp only [List.length_cons] at this ⊢; omega
        · split
          · have := ih (x :: a) b (by simp only [List.length_cons]; omega)
            simp only [List.length_cons] at this ⊢; omega
          · have := ih a b (by omega)
            simp only [List.length_cons] at this ⊢; omega
def addT (a b out : List Tm) : St := S13_2 (a.map Tm.cs) (b.map Tm.cs) 0 0 (out.map Tm.cs).length (out.map Tm.cs)
theorem headIs_m : ∀ (l : List Tm), headIs 7 (l.map Tm.cs) = true
  | [] => rfl
  | _ :: _ => rfl
theorem getRow0 (x : Tm) (l : List (List V)) : getRow (x.cs :: l) 0 7 = some x.cs := rfl
theorem take_all {α : Type} (x : α) (l : List α) : ((x :: l).take (x :: l).length).drop 1 = l := by rw [List.take_length]; rfl
theorem add_nilA (b out : List Tm) (h : out.length + b.length ≤ 1000000) : roundK GD LD (CW GD LD) 13 none 2 (addT [] b out) = some (.exit 0, addT [] b (out ++ b)) := by
  have hr : ((out.map Tm.cs).length + (b.map Tm.cs).length) * 16 ≤ room := by simp only [List.length_map]; unfold room; omega
  unfold addT
  rw [e13_2]
  simp only [List.map_nil, List.length_nil, headIs_m, hr, decide_true, cond_true, show (((0 : Nat) : Int) == 0) = true from rfl, List.map_append, List.length_append]
  rfl
theorem add_nilB (x : Tm) (a out : List Tm) (h : out.length + (x :: a).length ≤ 1000000) : roundK GD LD (CW GD LD) 13 none 2 (addT (x :: a) [] out) = some (.exit 0, addT (x :: a) [] (out ++ x :: a)) := by
  have hr : ((out.map Tm.cs).length + ((x :: a).map Tm.cs).length) * 16 ≤ room := by simp only [List.length_map]; unfold room; omega
  have e0 : (((((x :: a).map Tm.cs).length : Nat) : Int) == 0) = false := by simp only [List.length_map, List.length_cons, beq_eq_false_iff_ne, ne_eq]; omega
  unfold addT
  rw [e13_2, e0]
  simp only [headIs_m, hr, decide_true, cond_true, cond_false, List.map_nil, List.length_nil, show (((0 : Nat) : Int) == 0) = true from rfl, List.map_append, List.length_append]
  rfl
theorem add_step (x y : Tm) (a b out : List Tm) (hx : x.e.ok) (hy : y.e.ok) (nx : number x.c) (ny : number y.c) (h : out.length ≤ 1000000) :
    roundK GD LD (CW GD LD) 13 none 2 (addT (x :: a) (y :: b) out) = some (.normal, if x.e.key < y.e.key then addT a (y :: b) (out ++ [x]) else if y.e.key < x.e.key then addT (x :: a) b (out ++ [y]) else addT a b (out ++ [⟨x.c + y.c, x.e⟩])) := by
  have hr : ((out.map Tm.cs).length + 1) * 16 ≤ room := by simp only [List.length_map]; unfold room; omega
  have e0 : ∀ (z : Tm) (l : List Tm), (((((z :: l).map Tm.cs).length : Nat) : Int) == 0) = false := fun z l => by simp only [List.length_map, List.length_cons, beq_eq_false_iff_ne, ne_eq]; omega
  have e1 : ∀ (z : Tm) (l : List Tm), decide (1 ≤ ((z :: l).map Tm.cs).length) = true := fun z l => by simp
  simp only [number] at nx ny
  have w1 : IntKind.wrap .i64 (x.c + y.c) = x.c + y.c := w64 (by omega) (by omega)
  have td : ∀ (z : Tm) (l : List Tm), (((z :: l).map Tm.cs).take ((z :: l).map Tm.cs).length).drop 1 = l.map Tm.cs := fun z l => take_all _ _
  have ap : ∀ z : Tm, List.append (out.map Tm.cs) [z.cs] = (out ++ [z]).map Tm.cs := fun z => by simp
  have aq : ∀ z : Tm, (out.map Tm.cs).length + 1 = ((out ++ [z]).map Tm.cs).length := fun z => by simp
  unfold addT
  rw [e13_2, e0, e0]
  simp only [cond_false, e1, td, headIs_m, hr, decide_true, cond_true]
  simp only [List.map_cons, getRow0, uncons_t, uncons_e, uncons_i, Option.bind_some, asInt_i, asInt_u, isNil_i]
  rw [p45 _ _ hx hy]
  simp only [asInt_i, Option.bind_some, w1]
  by_cases h1 : x.e.key < y.e.key
  · have ho : x.e.ord y.e = -1 := by unfold E6.ord; rw [if_pos h1]
    rw [ho, if_pos h1]
    refine Eq.trans ?_ (congrArg (fun z => some (Ex.normal, S13_2 (a.map Tm.cs) ((y :: b).map Tm.cs) 0 0 z ((out ++ [x]).map Tm.cs))) (aq x))
    rw [← ap x]
    rfl
  · by_cases h2 : y.e.key < x.e.key
    · have ho : x.e.ord y.e = 1 := by unfold E6.ord; rw [if_neg h1, if_pos h2]
      rw [ho, if_neg h1, if_pos h2]
      refine Eq.trans ?_ (congrArg (fun z => some (Ex.normal, S13_2 ((x :: a).map Tm.cs) (b.map Tm.cs) 0 0 z ((out ++ [y]).map Tm.cs))) (aq y))
      rw [← ap y]
      rfl
    · have ho : x.e.ord y.e = 0 := by unfold E6.ord; rw [if_neg h1, if_neg h2]
      rw [ho, if_neg h1, if_neg h2]
      refine Eq.trans ?_ (congrArg (fun z => some (Ex.normal, S13_2 (a.map Tm.cs) (b.map Tm.cs) 0 0 z ((out ++ [(⟨x.c + y.c, x.e⟩ : Tm)]).map Tm.cs))) (aq (⟨x.c + y.c, x.e⟩ : Tm)))
      rw [← ap (⟨x.c + y.c, x.e⟩ : Tm)]
      rfl
theorem add_loop : ∀ (n : Nat) (a b out : List Tm), a.length + b.length ≤ n → oks a → oks b → nums a → nums b → out.length + a.length + b.length ≤ 1000000 →
    ∃ a' b', iterW (roundK GD LD (CW GD LD) 13 none 2) (addT a b out) = some (.exit 0, addT a' b' (out ++ merge a b)) := by
  intro n
  induction n with
  | zero =>
    intro a b out h _ _ _ _ hl
    have ha : a = [] := List.length_eq_zero_iff.1 (by omega)
    subst ha
    exact ⟨_, _, by rw [merge_nil]; exact iterW_x (add_nilA b out (by omega))⟩
  | succ n ih =>
    intro a b out h ha hb na nb hl
    cases a with
    | nil => exact ⟨_, _, by rw [merge_nil]; exact iterW_x (add_nilA b out (by simp only [List.length_nil] at hl; omega))⟩
    | cons x a =>
      cases b with
      | nil => exact ⟨_, _, by rw [merge_nil']; exact iterW_x (add_nilB x a out (by simp only [List.length_nil] at hl; omega))⟩
      | cons y b =>
        have st := add_step x y a b out (ha x (by simp)) (hb y (by simp)) (na x (by simp)) (nb y (by simp)) (by omega)
        have ha' : oks a := fun t ht => ha t (by simp [ht])
        have hb' : oks b := fun t ht => hb t (by simp [ht])
        have na' : nums a := fun t ht => na t (by simp [ht])
        have nb' : nums b := fun t ht => nb t (by simp [ht])
        simp only [List.length_cons] at h hl
        rw [iterW_n st, merge_cons]
        split
        · obtain ⟨a2, b2, hh⟩ := ih a (y :: b) (out ++ [x]) (by simp only [List.length_cons]; omega) ha' hb na' nb (by simp only [List.length_append, List.length_cons, List.length_nil]; omega)
          exact ⟨a2, b2, by rw [hh]; simp⟩
        · split
          · obtain ⟨a2, b2, hh⟩ := ih (x :: a) b (out ++ [y]) (by simp only [List.length_cons]; omega) ha hb' na nb' (by simp only [List.length_append, List.length_cons, List.length_nil]; omega)
            exact ⟨a2, b2, by rw [hh]; simp⟩
          · obtain ⟨a2, b2, hh⟩ := ih a b (out ++ [⟨x.c + y.c, x.e⟩]) (by omega) ha' hb' na' nb' (by simp only [List.length_append, List.length_cons, List.length_nil]; omega)
            exact ⟨a2, b2, by rw [hh]; simp⟩
theorem merge_oks : ∀ (n : Nat) (a b : List Tm), a.length + b.length ≤ n → oks a → oks b → oks (merge a b) := by
  intro n
  induction n with
  | zero => intro a b h _ hb; rw [List.length_eq_zero_iff.1 (show a.length = 0 by omega), merge_nil]; exact hb
  | succ n ih =>
    intro a b h ha hb
    cases a with
    | nil => rw [merge_nil]; exact hb
    | cons x a =>
      cases b with
      | nil => rw [merge_nil']; exact ha
      | cons y b =>
        have ha' : oks a := fun t ht => ha t (by simp [ht])
        have hb' : oks b := fun t ht => hb t (by simp [ht])
        simp only [List.length_cons] at h
        have hx := ha x (by simp)
        have hy := hb y (by simp)
        rw [merge_cons]
        intro t ht
        split at ht
        · rcases List.mem_cons.1 ht with rfl | ht
          · exact hx
          · exact ih a (y :: b) (by simp only [List.length_cons]; omega) ha' hb t ht
        · split at ht
          · rcases List.mem_cons.1 ht with rfl | ht
            · exact hy
            · exact ih (x :: a) b (by simp only [List.length_cons]; omega) ha hb' t ht
          · rcases List.mem_cons.1 ht with rfl | ht
            · exact hx
            · exact ih a b (by omega) ha' hb' t ht
def addP (a b : List Tm) : List Tm × Iv := finish (merge a b) 6 0 0
theorem p13 (a b : List Tm) (ha : oks a) (hb : oks b) (na : nums a) (nb : nums b) (fa : a.length ≤ 10000) (fb : b.length ≤ 10000) :
    (CW GD LD).p (.func 13) [.slice .any (a.map Tm.cs), .slice .any (b.map Tm.cs)] = some (.tuple [.slice .any ((addP a b).1.map Tm.cs), .agg (addP a b).2.c]) := by
  obtain ⟨a', b', hl⟩ := add_loop _ a b [] (Nat.le_refl _) ha hb na nb (by simp only [List.length_nil]; omega)
  have hlen := merge_len _ a b (Nat.le_refl _)
  have hm := merge_oks _ a b (Nat.le_refl _) ha hb
  rw [List.nil_append] at hl
  refine CW_valH (u := .tuple [.slice .any ((addP a b).1.map Tm.cs), .agg (addP a b).2.c]) (h := [.arr false 7 ((merge a b).map Tm.cs)]) ?_ rfl
  rw [e13, CW_w]
  refine (bind_via hl _).trans ?_
  have hfin := p52 (merge a b) 6 0 0 hm (by unfold few; omega) (by decide) (by decide) (by decide) (by decide)
  unfold addP
  generalize merge a b = m at *
  have g1 : nth (addT a' b' m).t 0 = .slice .any (a'.map Tm.cs) := rfl
  have g2 : nth (addT a' b' m).t 1 = .slice .any (b'.map Tm.cs) := rfl
  have g3 : nth (addT a' b' m).t 5 = .box [.int .i64 0, .int .i64 0] := rfl
  have g4 : nth (addT a' b' m).t 6 = .arr 0 (m.map Tm.cs).length 7 := rfl
  have g5 : (addT a' b' m).h = [.arr true 7 (m.map Tm.cs)] := rfl
  simp only [g1, g2, g3, g4, g5, Nat.beq_refl, asInt_i, asBool_i, asRows_i, asCells_i, asTuple_i, asBox_i, asObCells_i, asLoop_i, uncons_i, unconsO_i, isNil_i, asPtr_i, asFn_f, asFn_y, asArr_i, asObArr_t, asObArr_f, isReady_i, isBusy_i, uncons_c, asInt_u, asMapV_i, arrRows_i, Option.bind_some, Option.bind_none, cond_true, cond_false, cond_dec, cond_not, hfin]
  rfl
end Go.Ab
/- A term put among sorted terms; the reference's sum; conditions: bytes; few terms; moderate numbers. -/
namespace Go.Ab
set_option linter.unusedVariables false
set_option linter.unusedSimpArgs false
set_option linter.unusedSimpArgs false
set_option linter.unusedVariables false

def ins : List Tm → Tm → List Tm
  | [], x => [x]
  | y :: p, x => if y.e.key < x.e.key then y :: ins p x else if y.e.key = x.e.key then ⟨x.c + y.c, x.e⟩ :: p else x :: y :: p
def lead : List Tm → Tm → Nat
  | [], _ => 0
  | y :: p, x => if y.e.key < x.e.key then lead p x + 1 else 0
theorem lead_le : ∀ (p : List Tm) (x : Tm), lead p x ≤ p.length
  | [], _ => Nat.le_refl _
  | y :: p, x => by
    have := lead_le p x
    simp only [lead, List.length_cons]
    split <;> omega
theorem lead_lt : ∀ (p : List Tm) (x : Tm) (i : Nat) (h : i < p.length), i < lead p x → p[i].e.key < x.e.key
  | y :: p, x, i, h, hi => by
    simp only [lead] at hi
    split at hi
    · rename_i hy
      cases i with
      | zero => exact hy
      | succ i => exact lead_lt p x i (by simpa using h) (by omega)
    · omega
theorem lead_at : ∀ (p : List Tm) (x : Tm) (h : lead p x < p.length), ¬ p[lead p x].e.key < x.e.key
  | y :: p, x, h => by
    by_cases hy : y.e.key < x.e.key
    · have e : lead (y :: p) x = lead p x + 1 := by simp only [lead, hy, if_true]
      have := lead_at p x (by rw [e] at h; simpa using h)
      simpa [e] using this
    · have e : lead (y :: p) x = 0 := by simp only [lead, hy, if_false]
      simpa [e] using hy
theorem ins_eq : ∀ (p : List Tm) (x : Tm), ins p x = p.take (lead p x) ++ (match p.drop (lead p x) with
    | [] => [x]
    | y :: q => if y.e.key = x.e.key then ⟨x.c + y.c, x.e⟩ :: q else x :: y :: q)
  | [], x => rfl
  | y :: p, x => by
    by_cases hy : y.e.key < x.e.key
    · have e : lead (y :: p) x = lead p x + 1 := by simp only [lead, hy, if_true]
      rw [e]
      simp only [ins, hy, if_true, List.take_succ_cons, List.drop_succ_cons, List.cons_append]
      rw [ins_eq p x]
    · have e : lead (y :: p) x = 0 := by simp only [lead, hy, if_false]
      rw [e]
      simp only [ins, hy, if_false, List.take_zero, List.drop_zero, List.nil_append]
theorem ins_len : ∀ (p : List Tm) (x : Tm), (ins p x).length ≤ p.length + 1
  | [], _ => by simp [ins]
  | y :: p, x => by
    have := ins_len p x
    simp only [ins]
    split
    · simp only [List.length_cons]; omega
    · split <;> simp only [List.length_cons] <;> omega
theorem ins_oks : ∀ (p : List Tm) (x : Tm), oks p → x.e.ok → oks (ins p x)
  | [], x, _, hx => fun t ht => by simp only [ins, List.mem_singleton] at ht; rw [ht]; exact hx
  | y :: p, x, hp, hx => by
    have hp' : oks p := fun t ht => hp t (by simp [ht])
    intro t ht
    simp only [ins] at ht
    split at ht
    · rcases List.mem_cons.1 ht with rfl | ht
      · exact hp _ (by simp)
      · exact ins_oks p x hp' hx t ht
    · split at ht
      · rcases List.mem_cons.1 ht with rfl | ht
        · exact hx
        · exact hp' t ht
      · rcases List.mem_cons.1 ht with rfl | ht
        · exact hx
        · exact hp t ht
def mod1 (p : List Tm) (b : Int) : Prop := ∀ t ∈ p, -b ≤ t.c ∧ t.c ≤ b
theorem ins_mod : ∀ (p : List Tm) (x : Tm) {b d : Int}, mod1 p b → -d ≤ x.c → x.c ≤ d → 0 ≤ d → mod1 (ins p x) (b + d) ∨ (p = [] ∧ mod1 (ins p x) d)
  | [], x, b, d, _, h1, h2, _ => .inr ⟨rfl, fun t ht => by simp only [ins, List.mem_singleton] at ht; rw [ht]; exact ⟨h1, h2⟩⟩
  | y :: p, x, b, d, hp, h1, h2, hd => by
    refine .inl ?_
    have hp' : mod1 p b := fun t ht => hp t (by simp [ht])
    have hy := hp y (by simp)
    intro t ht
    simp only [ins] at ht
    split at ht
    · rcases List.mem_cons.1 ht with rfl | ht
      · omega
      · rcases ins_mod p x hp' h1 h2 hd with h | ⟨_, h⟩
        · exact h t ht
        · have := h t ht; omega
    · split at ht
      · rcases List.mem_cons.1 ht with rfl | ht
        · simp only; omega
        · have := hp' t ht; omega
      · rcases List.mem_cons.1 ht with rfl | ht
        · omega
        · have := hp t ht; omega
theorem ord_lt0 (x y : E6) : decide (x.ord y < 0) = decide (x.key < y.key) := by
  unfold E6.ord
  by_cases h1 : x.key < y.key
  · simp [h1]
  · by_cases h2 : y.key < x.key <;> simp [h1, h2]
theorem ord_eq0 (x y : E6) : (x.ord y == 0) = decide (x.key = y.key) := by
  unfold E6.ord
  by_cases h1 : x.key < y.key
  · have : ¬ x.key = y.key := by omega
    simp [h1, this]
  · by_cases h2 : y.key < x.key
    · have : ¬ x.key = y.key := by omega
      simp [h1, h2, this]
    · have : x.key = y.key := by omega
      simp [h1, h2, this]
def insT (p : List Tm) (x : Tm) (i : Nat) : St := S53_2 (p.map Tm.cs) x.c ((x.e.a : Nat) : Int) ((x.e.b : Nat) : Int) ((x.e.c : Nat) : Int) ((x.e.d : Nat) : Int) ((x.e.e : Nat) : Int) ((x.e.f : Nat) : Int) ((i : Nat) : Int) []
theorem ins_step (p : List Tm) (x : Tm) (hk : oks p) (hx : x.e.ok) (i : Nat) (hi : i < p.length) (hf : few p) : roundK GD LD (CW GD LD) 53 none 2 (insT p x i) =
    if p[i].e.key < x.e.key then some (.normal, insT p x (i + 1)) else some (.exit 0, insT p x i) := by
  have hfl : p.length ≤ 100000 := hf
  have hy : p[i].e.ok := hk _ (List.getElem_mem hi)
  unfold insT
  rw [e53_2, List.length_map, lt_dec hi, getT p i hi]
  simp only [uncons_t, uncons_e, uncons_i, asInt_i, asInt_u, isNil_i, Option.bind_some, cond_true]
  rw [p48 _ _ hy hx]
  simp only [asInt_i, Option.bind_some, wsucc i (by omega)]
  rw [ord_lt0]
  by_cases h : p[i].e.key < x.e.key
  · simp only [h, decide_true, cond_true, if_true]
  · simp only [h, decide_false, cond_false, if_false]
theorem ins_loop (p : List Tm) (x : Tm) (hk : oks p) (hx : x.e.ok) (hf : few p) : iterW (roundK GD LD (CW GD LD) 53 none 2) (insT p x 0) = some (.exit 0, insT p x (lead p x)) := by
  have hle := lead_le p x
  refine iterW_all (fun i => insT p x i) (lead p x) (fun i hi => ?_) ?_
  · rw [ins_step p x hk hx i (by omega) hf, if_pos (lead_lt p x i (by omega) hi)]
  · by_cases h : lead p x < p.length
    · rw [ins_step p x hk hx _ h hf, if_neg (lead_at p x h)]
    · have : lead p x = p.length := by omega
      rw [this]
      unfold insT
      rw [e53_2, List.length_map, lt_decn]
      rfl
theorem arrRows1 (o : Ob) (w : Bool) (r : List (List V)) (n : Nat) (h : n = r.length) : arrRows [o, .arr w 7 r] 1 n = some r := by subst h; simp [arrRows, hget]
theorem p53 (p : List Tm) (x : Tm) (hk : oks p) (hx : x.e.ok) (hf : few p) (hm : mod1 p 2305843009213693952) (h1 : -2305843009213693952 ≤ x.c) (h2 : x.c ≤ 2305843009213693952) :
    (CW GD LD).p (.func 53) [.slice .any (p.map Tm.cs), .agg [.int .i64 x.c, .int .u8 ((x.e.a : Nat) : Int), .int .u8 ((x.e.b : Nat) : Int), .int .u8 ((x.e.c : Nat) : Int), .int .u8 ((x.e.d : Nat) : Int), .int .u8 ((x.e.e : Nat) : Int), .int .u8 ((x.e.f : Nat) : Int)]] = some (.slice .any ((ins p x).map Tm.cs)) := by
  have hfl : p.length ≤ 100000 := hf
  have hl := ins_loop p x hk hx hf
  have hle := lead_le p x
  have hins := ins_eq p x
  have hat := lead_at p x
  generalize lead p x = k at *
  have g1 : nth (insT p x k).t 0 = .slice .any (p.map Tm.cs) := rfl
  have g2 : nth (insT p x k).t 3 = .box [.int .i64 x.c, .int .u8 ((x.e.a : Nat) : Int), .int .u8 ((x.e.b : Nat) : Int), .int .u8 ((x.e.c : Nat) : Int), .int .u8 ((x.e.d : Nat) : Int), .int .u8 ((x.e.e : Nat) : Int), .int .u8 ((x.e.f : Nat) : Int)] := rfl
  have g3 : nth (insT p x k).t 5 = .int .i64 ((k : Nat) : Int) := rfl
  have g4 : (insT p x k).h = [.arr true 7 []] := rfl
  have c1 : decide ((0 : Int) ≤ ((k : Nat) : Int)) = true := by simp
  have c2 : decide (k ≤ (p.map Tm.cs).length) = true := by simpa using hle
  have tk : ((p.map Tm.cs).take k).drop 0 = (p.take k).map Tm.cs := by rw [List.drop_zero, List.map_take]
  have ta : (p.map Tm.cs).take (p.map Tm.cs).length = p.map Tm.cs := List.take_length
  have c3 : decide (((p.take k).map Tm.cs).length * 16 ≤ room) = true := by
    simp only [List.length_map, List.length_take, decide_eq_true_eq]; unfold room; omega
  have c4 : decide ((((p.take k).map Tm.cs).length + 1) * 16 ≤ room) = true := by
    simp only [List.length_map, List.length_take, decide_eq_true_eq]; unfold room; omega
  have dr : ∀ j, (p.map Tm.cs).drop j = (p.drop j).map Tm.cs := fun j => by rw [List.map_drop]
  have ap : ∀ z : Tm, List.append ((p.take k).map Tm.cs) [z.cs] = (p.take k ++ [z]).map Tm.cs := fun z => by simp
  have aq : ∀ (z : Tm) (j : Nat), List.append ((p.take k ++ [z]).map Tm.cs) ((p.drop j).map Tm.cs) = (p.take k ++ z :: p.drop j).map Tm.cs := fun z j => by simp
  have c5 : ∀ z : Tm, decide (((p.take k).map Tm.cs).length + 1 = ((p.take k ++ [z]).map Tm.cs).length) = true := fun z => by simp
  have c6 : ∀ (z : Tm) (j : Nat), decide ((((p.take k ++ [z]).map Tm.cs).length + ((p.drop j).map Tm.cs).length) * 16 ≤ room) = true := fun z j => by
    simp only [List.length_map, List.length_append, List.length_take, List.length_drop, List.length_cons, List.length_nil, decide_eq_true_eq]; unfold room; omega
  have ar : ∀ (o : Ob) (z : Tm) (j : Nat), arrRows [o, .arr true 7 ((p.take k ++ z :: p.drop j).map Tm.cs)] 1 (((p.take k).map Tm.cs).length + 1 + ((p.drop j).map Tm.cs).length) = some ((p.take k ++ z :: p.drop j).map Tm.cs) := fun o z j => arrRows1 _ _ _ _ (by simp; omega)
  have zc : ∀ c : Int, [V.int .i64 c, .int .u8 ((x.e.a : Nat) : Int), .int .u8 ((x.e.b : Nat) : Int), .int .u8 ((x.e.c : Nat) : Int), .int .u8 ((x.e.d : Nat) : Int), .int .u8 ((x.e.e : Nat) : Int), .int .u8 ((x.e.f : Nat) : Int)] = Tm.cs ⟨c, x.e⟩ := fun _ => rfl
  have hd : decide (((k : Nat) : Int) < (((p.map Tm.cs).length : Nat) : Int)) = decide (k < p.length) := by
    rw [decide_eq_decide, List.length_map]; omega
  by_cases hkl : k < p.length
  · have hy : p[k].e.ok := hk _ (List.getElem_mem hkl)
    have hb := hm p[k] (List.getElem_mem hkl)
    have hdrop : p.drop k = p[k] :: p.drop (k + 1) := List.drop_eq_getElem_cons hkl
    rw [hdrop] at hins
    simp only at hins
    have d1 : decide (k < p.length) = true := by simpa using hkl
    by_cases he : p[k].e.key = x.e.key
    · rw [if_pos he] at hins
      have w1 : IntKind.wrap .i64 (x.c + p[k].c) = x.c + p[k].c := w64 (by omega) (by omega)
      have w2 : IntKind.wrap .i64 (((k : Nat) : Int) + 1) = ((k + 1 : Nat) : Int) := wsucc k (by omega)
      have c7 : decide ((0 : Int) ≤ ((k + 1 : Nat) : Int)) = true := by simp; omega
      have c8 : decide (k + 1 ≤ (p.map Tm.cs).length) = true := by simp; omega
      have eo : (p[k].e.ord x.e == 0) = true := by rw [ord_eq0]; simpa using he
      rw [hins]
      refine CW_val (h := [.arr true 7 [], .arr false 7 ((p.take k ++ ⟨x.c + p[k].c, x.e⟩ :: p.drop (k + 1)).map Tm.cs)]) ?_ rfl
      rw [e53, CW_w]
      refine (bind_via hl _).trans ?_
      simp only [g1, g2, g3, g4, Nat.beq_refl, asRows_i, asBox_i, uncons_i, unconsO_i, asInt_i, asInt_u, isNil_i, asObArr_t, Option.bind_some, cond_true, c1, Int.toNat_natCast, c2, tk, headIs_m, c3, hd, d1, getT p k hkl, uncons_t, uncons_e]
      rw [p48 _ _ hy hx]
      simp only [asInt_i, Option.bind_some, eo, cond_true, decide_true, c4, w1, w2, c7, Int.toNat_natCast, c8, headIs_m, ta, dr, zc, ap, c5, c6, aq, ar]
    · rw [if_neg he] at hins
      have eo : (p[k].e.ord x.e == 0) = false := by rw [ord_eq0]; simpa using he
      rw [← hdrop] at hins
      rw [hins]
      refine CW_val (h := [.arr true 7 [], .arr false 7 ((p.take k ++ x :: p.drop k).map Tm.cs)]) ?_ rfl
      rw [e53, CW_w]
      refine (bind_via hl _).trans ?_
      simp only [g1, g2, g3, g4, Nat.beq_refl, asRows_i, asBox_i, uncons_i, unconsO_i, asInt_i, asInt_u, isNil_i, asObArr_t, Option.bind_some, cond_true, c1, Int.toNat_natCast, c2, tk, headIs_m, c3, hd, d1, getT p k hkl, uncons_t, uncons_e]
      rw [p48 _ _ hy hx]
      simp only [asInt_i, Option.bind_some, eo, cond_true, cond_false, decide_true, c4, headIs_m, ta, dr, zc, ap, c5, c6, aq, ar, c1, c2, Int.toNat_natCast]
  · have hdrop : p.drop k = [] := List.drop_eq_nil_iff.2 (by omega)
    have d1 : decide (k < p.length) = false := by simpa using hkl
    rw [hdrop] at hins
    simp only at hins
    have hins' : ins p x = p.take k ++ x :: p.drop k := by rw [hdrop]; exact hins
    rw [hins']
    refine CW_val (h := [.arr true 7 [], .arr false 7 ((p.take k ++ x :: p.drop k).map Tm.cs)]) ?_ rfl
    rw [e53, CW_w]
    refine (bind_via hl _).trans ?_
    simp only [g1, g2, g3, g4, Nat.beq_refl, asRows_i, asBox_i, uncons_i, unconsO_i, asInt_i, asInt_u, isNil_i, asObArr_t, Option.bind_some, cond_true, cond_false, c1, Int.toNat_natCast, c2, tk, headIs_m, c3, hd, d1, decide_true]
    simp only [cond_true, c4, c1, c2, Int.toNat_natCast, headIs_m, ta, dr, zc, ap, c5, c6, aq, ar, Option.bind_some]
end Go.Ab
/- Terms put one by one among sorted terms: the merge; the reference's sum; conditions: bytes; few terms; numbers. -/
namespace Go.Ab
set_option linter.unusedVariables false
set_option linter.unusedSimpArgs false
set_option linter.unusedSimpArgs false
set_option linter.unusedVariables false

theorem foldl_oks : ∀ (b a : List Tm), oks a → oks b → oks (b.foldl ins a)
  | [], a, ha, _ => ha
  | y :: b, a, ha, hb => foldl_oks b (ins a y) (ins_oks a y ha (hb y (by simp))) fun t ht => hb t (by simp [ht])
theorem foldl_len : ∀ (b a : List Tm), (b.foldl ins a).length ≤ a.length + b.length
  | [], a => by simp
  | y :: b, a => by
    have h1 := foldl_len b (ins a y)
    have h2 := ins_len a y
    simp only [List.foldl_cons, List.length_cons]
    omega
theorem ins_mod' {p : List Tm} {x : Tm} {b d : Int} (hp : mod1 p b) (hb : 0 ≤ b) (h1 : -d ≤ x.c) (h2 : x.c ≤ d) (hd : 0 ≤ d) : mod1 (ins p x) (b + d) := by
  rcases ins_mod p x hp h1 h2 hd with h | ⟨_, h⟩
  · exact h
  · intro t ht
    have := h t ht
    omega
theorem foldl_mod {d : Int} (hd : 0 ≤ d) : ∀ (q a : List Tm) (b : Int), mod1 a b → 0 ≤ b → mod1 q d → mod1 (q.foldl ins a) (b + d * q.length)
  | [], a, b, ha, _, _ => by simpa using ha
  | y :: q, a, b, ha, hb, hq => by
    have h1 := ins_mod' ha hb (hq y (by simp)).1 (hq y (by simp)).2 hd
    have := foldl_mod hd q (ins a y) (b + d) h1 (by omega) (fun t ht => hq t (by simp [ht]))
    simp only [List.foldl_cons, List.length_cons, Int.natCast_add, Int.natCast_one, Int.mul_add, Int.mul_one]
    rwa [show b + (d * (q.length : Int) + d) = b + d + d * (q.length : Int) by omega]
theorem nums_mod {p : List Tm} (h : nums p) : mod1 p 2147483648 := fun t ht => by have := h t ht; simp only [number] at this; omega
def raddP (a b : List Tm) : List Tm × Iv := finish (b.foldl ins a) 6 0 0
theorem p14 (a b : List Tm) (ha : oks a) (hb : oks b) (na : nums a) (nb : nums b) (fa : a.length ≤ 10000) (fb : b.length ≤ 10000) :
    (CW GD LD).p (.func 14) [.slice .any (a.map Tm.cs), .slice .any (b.map Tm.cs)] = some (.tuple [.slice .any ((raddP a b).1.map Tm.cs), .agg (raddP a b).2.c]) := by
  have hm := fun i => foldl_mod (d := 2147483648) (by decide) (b.take i) a 2147483648 (nums_mod na) (by decide) (nums_mod fun t ht => nb t (List.mem_of_mem_take ht))
  have hk := fun i => foldl_oks (b.take i) a ha fun t ht => hb t (List.mem_of_mem_take ht)
  have hl := fun i => foldl_len (b.take i) a
  have hloop := iterW_all (round := roundK GD LD (CW GD LD) 14 none 3) (fun i => S14_3 (b.map Tm.cs) 0 0 (((b.take i).foldl ins a).map Tm.cs) ((i : Nat) : Int)) b.length (id := 0)
    (fun i hi => by
      have hli := hl i
      have hmi := hm i
      simp only [List.length_take] at hli hmi
      have nc := nb _ (List.getElem_mem hi)
      simp only [number] at nc
      have hmi' : mod1 ((b.take i).foldl ins a) 2305843009213693952 := fun t ht => by
        have := hmi t ht
        omega
      simp only [e14_3, List.length_map, lt_dec hi, getT b i hi, take_snoc hi, uncons_t, uncons_e, uncons_i, asInt_i, asInt_u, isNil_i, Option.bind_some, cond_true, List.foldl_append, List.foldl_cons, List.foldl_nil]
      rw [p53 _ b[i] (hk i) (hb _ (List.getElem_mem hi)) (by unfold few; omega) hmi' (by omega) (by omega)]
      simp only [asRows_i, Option.bind_some, wsucc i (by omega)])
    (by simp only [e14_3, List.length_map, lt_decn, cond_false])
  simp only [List.take_length, List.take_zero, List.foldl_nil] at hloop
  have hli := hl b.length
  have hki := hk b.length
  rw [List.take_length] at hli hki
  refine CW_valH (u := .tuple [.slice .any ((raddP a b).1.map Tm.cs), .agg (raddP a b).2.c]) (h := []) ?_ rfl
  rw [e14, CW_w]
  refine (bind_via hloop _).trans ?_
  unfold raddP
  have hfin := p54 (b.foldl ins a) 6 0 0 hki (by unfold few; omega) (by decide) (by decide) (by decide) (by decide)
  generalize b.foldl ins a = m at *
  have g1 : ∀ x, nth (S14_3 (b.map Tm.cs) 0 0 (m.map Tm.cs) x).t 1 = .slice .any (b.map Tm.cs) := fun _ => rfl
  have g2 : ∀ x, nth (S14_3 (b.map Tm.cs) 0 0 (m.map Tm.cs) x).t 5 = .box [.int .i64 0, .int .i64 0] := fun _ => rfl
  have g3 : ∀ x, nth (S14_3 (b.map Tm.cs) 0 0 (m.map Tm.cs) x).t 6 = .slice .any (m.map Tm.cs) := fun _ => rfl
  have g4 : ∀ x, nth (S14_3 (b.map Tm.cs) 0 0 (m.map Tm.cs) x).t 7 = .int .i64 x := fun _ => rfl
  simp only [g1, g2, g3, g4, Nat.beq_refl, asInt_i, asBool_i, asRows_i, asCells_i, asTuple_i, asBox_i, asObCells_i, asLoop_i, uncons_i, unconsO_i, isNil_i, asPtr_i, asFn_f, asFn_y, asArr_i, asObArr_t, asObArr_f, isReady_i, isBusy_i, uncons_c, asInt_u, asMapV_i, arrRows_i, Option.bind_some, Option.bind_none, cond_true, cond_false, cond_dec, cond_not, hfin]
  rfl
end Go.Ab
/- A multiple of a polynomial, of the program; conditions: bytes; few terms; numbers. -/
namespace Go.Ab
set_option linter.unusedVariables false
set_option linter.unusedSimpArgs false
set_option linter.unusedSimpArgs false
set_option linter.unusedVariables false

/-- The rounding of a product, at the low and the high end. -/
def inex (n : Int) : Bool := fl n != ce n
def rlo (n : Int) (x : E6) : Int := if inex n = true ∧ x.odd = true then -1 else 0
def rhi (n : Int) : Int := if inex n = true then 1 else 0
def scT (c : Int) (t : Tm) : Tm := ⟨fl (t.c * c), t.e⟩
def scLo (c : Int) (p : List Tm) : Int := isum (p.map fun t => rlo (t.c * c) t.e)
def scHi (c : Int) (p : List Tm) : Int := isum (p.map fun t => rhi (t.c * c))
def scaleP (p : List Tm) (c : Int) : List Tm × Iv := finish (p.map (scT c)) 6 (scLo c p) (scHi c p)
theorem rlo_b (n : Int) (x : E6) : -1 ≤ rlo n x ∧ rlo n x ≤ 0 := by unfold rlo; split <;> omega
theorem rhi_b (n : Int) : 0 ≤ rhi n ∧ rhi n ≤ 1 := by unfold rhi; split <;> omega
theorem isum_1 : ∀ (l : List Int), (∀ x ∈ l, -1 ≤ x ∧ x ≤ 1) → -(l.length : Int) ≤ isum l ∧ isum l ≤ l.length
  | [], _ => by simp [isum]
  | x :: l, h => by
    have h1 := h x (by simp)
    have h2 := isum_1 l fun y hy => h y (by simp [hy])
    simp only [isum, List.length_cons, Int.natCast_add, Int.natCast_one]
    omega
theorem scLo_b (c : Int) (p : List Tm) : -(p.length : Int) ≤ scLo c p ∧ scLo c p ≤ p.length := by
  have := isum_1 (p.map fun t => rlo (t.c * c) t.e) (fun x hx => by
    obtain ⟨t, _, rfl⟩ := List.mem_map.1 hx
    have := rlo_b (t.c * c) t.e; omega)
  simpa [scLo] using this
theorem scHi_b (c : Int) (p : List Tm) : -(p.length : Int) ≤ scHi c p ∧ scHi c p ≤ p.length := by
  have := isum_1 (p.map fun t => rhi (t.c * c)) (fun x hx => by
    obtain ⟨t, _, rfl⟩ := List.mem_map.1 hx
    have := rhi_b (t.c * c); omega)
  simpa [scHi] using this
theorem scLo_snoc (c : Int) (p : List Tm) (t : Tm) : scLo c (p ++ [t]) = scLo c p + rlo (t.c * c) t.e := by simp [scLo, isum_append, isum]
theorem scHi_snoc (c : Int) (p : List Tm) (t : Tm) : scHi c (p ++ [t]) = scHi c p + rhi (t.c * c) := by simp [scHi, isum_append, isum]
theorem p56_in17 {lo hi : Int} (x : E6) (r : List (List V)) (h1 : -1000000000 ≤ lo) (h2 : lo ≤ 1000000000) (h3 : -1000000000 ≤ hi) (h4 : hi ≤ 1000000000) :
    (CW GD LD).s (.func 56) [.ptr 1 0, .agg [.int .u8 ((x.a : Nat) : Int), .int .u8 ((x.b : Nat) : Int), .int .u8 ((x.c : Nat) : Int), .int .u8 ((x.d : Nat) : Int), .int .u8 ((x.e : Nat) : Int), .int .u8 ((x.f : Nat) : Int)]] [.arr true 7 r, .cells [.int .i64 lo, .int .i64 hi]] = some (.tuple [], [.arr true 7 r, .cells [.int .i64 (if x.odd = true then lo - 1 else lo), .int .i64 (hi + 1)]]) := by
  refine CW_run ?_
  rw [s56_in17]
  rw [p74 x, w64 (x := lo - 1) (by omega) (by omega), w64 (x := hi + 1) (by omega) (by omega)]
  simp only [asBool_i, Option.bind_some]
  cases x.odd <;> rfl
def scS (c : Int) (p : List Tm) (i : Nat) : St := S17_4 c 0 0 ((((p.take i).map (scT c)).map Tm.cs).length) (p.map Tm.cs) ((p.length : Nat) : Int) ((i : Nat) : Int) (((p.take i).map (scT c)).map Tm.cs) (scLo c (p.take i)) (scHi c (p.take i))
theorem sc_step (c : Int) (p : List Tm) (i : Nat) (hi : i < p.length) (hf : p.length ≤ 10000) (hc : number c) (hn : number p[i].c) : roundK GD LD (CW GD LD) 17 none 4 (scS c p i) = some (.normal, scS c p (i + 1)) := by
  have hr : ((((p.take i).map (scT c)).map Tm.cs).length + 1) * 16 ≤ room := by simp only [List.length_map, List.length_take]; unfold room; omega
  have b1 := scLo_b c (p.take i)
  have b2 := scHi_b c (p.take i)
  have bl : (p.take i).length ≤ 10000 := by simp only [List.length_take]; omega
  have ap : List.append (((p.take i).map (scT c)).map Tm.cs) [Tm.cs ⟨fl (p[i].c * c), p[i].e⟩] = ((p.take i ++ [p[i]]).map (scT c)).map Tm.cs := by rw [List.map_append, List.map_append]; rfl
  have aq : (((p.take i).map (scT c)).map Tm.cs).length + 1 = (((p.take i ++ [p[i]]).map (scT c)).map Tm.cs).length := by rw [List.map_append, List.map_append, List.length_append]; rfl
  have hr' : decide (((((p.take i ++ [p[i]]).map (scT c)).map Tm.cs).length) * 16 ≤ room) = true := by rw [← aq]; exact decide_eq_true hr
  have zc : ∀ z : Int, [V.int .i64 z, .int .u8 ((p[i].e.a : Nat) : Int), .int .u8 ((p[i].e.b : Nat) : Int), .int .u8 ((p[i].e.c : Nat) : Int), .int .u8 ((p[i].e.d : Nat) : Int), .int .u8 ((p[i].e.e : Nat) : Int), .int .u8 ((p[i].e.f : Nat) : Int)] = Tm.cs ⟨z, p[i].e⟩ := fun _ => rfl
  have hm := p55 p[i].c c (small_mul hn hc)
  unfold scS
  rw [e17_4, lt_dec hi, getT p i hi, take_snoc hi, scLo_snoc, scHi_snoc]
  simp only [uncons_t, uncons_e, uncons_i, asInt_i, asInt_u, isNil_i, Option.bind_some, cond_true, hm, asTuple_i, wsucc i (by omega)]
  cases hx : inex (p[i].c * c)
  · have hx' : (fl (p[i].c * c) != ce (p[i].c * c)) = false := hx
    have e1 : rlo (p[i].c * c) p[i].e = 0 := by simp [rlo, hx]
    have e2 : rhi (p[i].c * c) = 0 := by simp [rhi, hx]
    simp only [hx', cond_false, cond_true, decide_true, hr', e1, e2, Int.add_zero, zc, ap, aq]
  · have hx' : (fl (p[i].c * c) != ce (p[i].c * c)) = true := hx
    have e1 : scLo c (p.take i) + rlo (p[i].c * c) p[i].e = if p[i].e.odd = true then scLo c (p.take i) - 1 else scLo c (p.take i) := by
      simp only [rlo, hx, true_and]; split <;> omega
    have e2 : rhi (p[i].c * c) = 1 := by simp [rhi, hx]
    rw [e1, e2]
    simp only [hx', cond_true]
    rw [p56_in17 p[i].e _ (by omega) (by omega) (by omega) (by omega)]
    simp only [asTuple_i, isNil_i, unconsO_i, asObArr_t, asObCells_i, uncons_i, asInt_i, Option.bind_some, decide_true, cond_true, hr', zc, ap, aq]
theorem p17 (p : List Tm) (c : Int) (hk : oks p) (hn : nums p) (hf : p.length ≤ 10000) (hc : number c) :
    (CW GD LD).p (.func 17) [.slice .any (p.map Tm.cs), .int .i64 c] = some (.tuple [.slice .any ((scaleP p c).1.map Tm.cs), .agg (scaleP p c).2.c]) := by
  have hloop := iterW_all (round := roundK GD LD (CW GD LD) 17 none 4) (scS c p) p.length (id := 0) (fun i hi => sc_step c p i hi hf hc (hn _ (List.getElem_mem hi))) (by unfold scS; rw [e17_4, lt_decn]; rfl)
  have hstart : scS c p 0 = S17_4 c 0 0 0 (p.map Tm.cs) (((p.map Tm.cs).length : Nat) : Int) 0 [] 0 0 := by simp [scS, scLo, scHi, isum]
  rw [hstart] at hloop
  have b1 := scLo_b c p
  have b2 := scHi_b c p
  have hfin := p52 (p.map (scT c)) 6 (scLo c p) (scHi c p) (fun t ht => by
    obtain ⟨u, hu, rfl⟩ := List.mem_map.1 ht
    exact hk u hu) (by unfold few; rw [List.length_map]; omega) (by omega) (by omega) (by omega) (by omega)
  have hend : scS c p p.length = S17_4 c 0 0 (((p.map (scT c)).map Tm.cs).length) (p.map Tm.cs) ((p.length : Nat) : Int) ((p.length : Nat) : Int) ((p.map (scT c)).map Tm.cs) (scLo c p) (scHi c p) := by simp only [scS, List.take_length]
  rw [hend] at hloop
  refine CW_valH (u := .tuple [.slice .any ((scaleP p c).1.map Tm.cs), .agg (scaleP p c).2.c]) (h := [.arr false 7 ((p.map (scT c)).map Tm.cs), .cells [.int .i64 (scLo c p), .int .i64 (scHi c p)]]) ?_ rfl
  rw [e17, CW_w]
  refine (bind_via hloop _).trans ?_
  unfold scaleP
  generalize p.map (scT c) = m at *
  generalize scLo c p = l1 at *
  generalize scHi c p = h1 at *
  have g1 : ∀ x y, nth (S17_4 c 0 0 (m.map Tm.cs).length (p.map Tm.cs) x y (m.map Tm.cs) l1 h1).t 1 = .int .i64 c := fun _ _ => rfl
  have g2 : ∀ x y, nth (S17_4 c 0 0 (m.map Tm.cs).length (p.map Tm.cs) x y (m.map Tm.cs) l1 h1).t 5 = .box [.int .i64 0, .int .i64 0] := fun _ _ => rfl
  have g3 : ∀ x y, nth (S17_4 c 0 0 (m.map Tm.cs).length (p.map Tm.cs) x y (m.map Tm.cs) l1 h1).t 6 = .arr 0 (m.map Tm.cs).length 7 := fun _ _ => rfl
  have g4 : ∀ x y, nth (S17_4 c 0 0 (m.map Tm.cs).length (p.map Tm.cs) x y (m.map Tm.cs) l1 h1).t 7 = .ptr 1 0 := fun _ _ => rfl
  have g5 : ∀ x y, nth (S17_4 c 0 0 (m.map Tm.cs).length (p.map Tm.cs) x y (m.map Tm.cs) l1 h1).t 12 = .slice .any (p.map Tm.cs) := fun _ _ => rfl
  have g6 : ∀ x y, nth (S17_4 c 0 0 (m.map Tm.cs).length (p.map Tm.cs) x y (m.map Tm.cs) l1 h1).t 13 = .int .i64 x := fun _ _ => rfl
  have g7 : ∀ x y, nth (S17_4 c 0 0 (m.map Tm.cs).length (p.map Tm.cs) x y (m.map Tm.cs) l1 h1).t 14 = .int .i64 y := fun _ _ => rfl
  have g8 : ∀ x y, (S17_4 c 0 0 (m.map Tm.cs).length (p.map Tm.cs) x y (m.map Tm.cs) l1 h1).h = [.arr true 7 (m.map Tm.cs), .cells [.int .i64 l1, .int .i64 h1]] := fun _ _ => rfl
  simp only [g1, g2, g3, g4, g5, g6, g7, g8, Nat.beq_refl, asInt_i, asBool_i, asRows_i, asCells_i, asTuple_i, asBox_i, asObCells_i, asLoop_i, uncons_i, unconsO_i, isNil_i, asPtr_i, asFn_f, asFn_y, asArr_i, asObArr_t, asObArr_f, isReady_i, isBusy_i, uncons_c, asInt_u, asMapV_i, arrRows_i, Option.bind_some, Option.bind_none, cond_true, cond_false, cond_dec, cond_not, hfin]
  rfl
end Go.Ab
/- The exact value of a polynomial at a point, of the reference; conditions: valid terms. -/
namespace Go.Ab
set_option linter.unusedVariables false
set_option linter.unusedSimpArgs false
set_option linter.unusedSimpArgs false
set_option linter.unusedVariables false

structure Pt where
  a : Int
  b : Int
  c : Int
  d : Int
  e : Int
  f : Int
def Pt.ok (z : Pt) : Prop := (-2 ≤ z.a ∧ z.a ≤ 2) ∧ (-2 ≤ z.b ∧ z.b ≤ 2) ∧ (-2 ≤ z.c ∧ z.c ≤ 2) ∧ (-2 ≤ z.d ∧ z.d ≤ 2) ∧ (-2 ≤ z.e ∧ z.e ≤ 2) ∧ (-2 ≤ z.f ∧ z.f ≤ 2)
def inB (b x : Int) : Prop := -b ≤ x ∧ x ≤ b
theorem inB_mul {b x z : Int} (h : inB b x) (hb : 0 ≤ b) (hz : inB 2 z) : inB (b * 2) (x * z) := by
  obtain ⟨h1, h2⟩ := h
  obtain ⟨h3, h4⟩ := hz
  have : z = -2 ∨ z = -1 ∨ z = 0 ∨ z = 1 ∨ z = 2 := by omega
  unfold inB
  rcases this with rfl | rfl | rfl | rfl | rfl <;> omega
theorem inB_pow {b x z : Int} (h : inB b x) (hb : 0 ≤ b) (hz : inB 2 z) : ∀ n : Nat, inB (b * 2 ^ n) (x * z ^ n)
  | 0 => by simpa using h
  | n + 1 => by
    have h2 : (0 : Int) ≤ 2 ^ n := Int.pow_nonneg (by decide)
    have := inB_mul (inB_pow h hb hz n) (Int.mul_nonneg hb h2) hz
    rw [Int.pow_succ, Int.pow_succ, ← Int.mul_assoc, ← Int.mul_assoc]
    exact this
theorem pow_mono2 {i n : Nat} (h : i ≤ n) : (2 : Int) ^ i ≤ 2 ^ n := by
  obtain ⟨k, rfl⟩ := Nat.exists_eq_add_of_le h
  rw [Int.pow_add]
  have h1 : (1 : Int) ≤ 2 ^ k := by
    have : (0 : Int) < 2 ^ k := Int.pow_pos (by decide)
    omega
  have h2 : (0 : Int) ≤ 2 ^ i := Int.pow_nonneg (by decide)
  have := Int.mul_le_mul_of_nonneg_left h1 h2
  simpa using this
/-- The innermost loop: a power. -/
theorem val_pow (p : List Tm) (i : Nat) (hi : i < p.length) (z : Pt) (o c : Int) (k : Nat) (u : Nat) (w : Int) (hk : k < 6)
    (hu : nthI [p[i].c, ((p[i].e.a : Nat) : Int), ((p[i].e.b : Nat) : Int), ((p[i].e.c : Nat) : Int), ((p[i].e.d : Nat) : Int), ((p[i].e.e : Nat) : Int), ((p[i].e.f : Nat) : Int)] (1 + k * 1) = some ((u : Nat) : Int)) (hw : nthI [z.a, z.b, z.c, z.d, z.e, z.f] (k * 1) = some w) (hu2 : u ≤ 12) (hz : inB 2 w) (hc : inB 1000000000000 c) :
    iterW (roundK GD LD (CW GD LD) 36 none 10) (S36_10 (p.map Tm.cs) z.a z.b z.c z.d z.e z.f o ((i : Nat) : Int) c ((k : Nat) : Int) 0) = some (.exit 4, S36_10 (p.map Tm.cs) z.a z.b z.c z.d z.e z.f o ((i : Nat) : Int) (c * w ^ u) ((k : Nat) : Int) ((u : Nat) : Int)) := by
  have w8 : IntKind.wrap .i64 ((u : Nat) : Int) = ((u : Nat) : Int) := w64 (by omega) (by omega)
  have hkk : k = 0 ∨ k = 1 ∨ k = 2 ∨ k = 3 ∨ k = 4 ∨ k = 5 := by omega
  have st : ∀ (x : Int) (n : Nat), roundK GD LD (CW GD LD) 36 none 10 (S36_10 (p.map Tm.cs) z.a z.b z.c z.d z.e z.f o ((i : Nat) : Int) x ((k : Nat) : Int) ((n : Nat) : Int)) =
      if ((n : Nat) : Int) < ((u : Nat) : Int) then some (.normal, S36_10 (p.map Tm.cs) z.a z.b z.c z.d z.e z.f o ((i : Nat) : Int) (IntKind.wrap .i64 (x * w)) ((k : Nat) : Int) (IntKind.wrap .i64 (((n : Nat) : Int) + 1))) else some (.exit 4, S36_10 (p.map Tm.cs) z.a z.b z.c z.d z.e z.f o ((i : Nat) : Int) x ((k : Nat) : Int) ((n : Nat) : Int)) := by
    intro x n
    rw [e36_10, getT p i hi]
    simp only [uncons_t, uncons_e, uncons_i, asInt_i, asInt_u, isNil_i, Option.bind_some]
    rcases hkk with rfl | rfl | rfl | rfl | rfl | rfl <;>
      (simp only [Int.toNat_natCast, hu, hw, Option.bind_some, w8]
       by_cases h : ((n : Nat) : Int) < ((u : Nat) : Int)
       · simp only [h, decide_true, if_true]; rfl
       · simp only [h, decide_false, if_false]; rfl)
  have := iterW_all (round := roundK GD LD (CW GD LD) 36 none 10) (fun n => S36_10 (p.map Tm.cs) z.a z.b z.c z.d z.e z.f o ((i : Nat) : Int) (c * w ^ n) ((k : Nat) : Int) ((n : Nat) : Int)) u (id := 4)
    (fun n hn => by
      have b := inB_pow hc (by decide) hz (n + 1)
      have hp := pow_mono2 (show n + 1 ≤ 12 by omega)
      have hq : (1000000000000 : Int) * 2 ^ (n + 1) ≤ 1000000000000 * 2 ^ 12 := Int.mul_le_mul_of_nonneg_left hp (by decide)
      have h12 : (1000000000000 : Int) * 2 ^ 12 = 4096000000000000 := by decide
      rw [h12] at hq
      unfold inB at b
      rw [st, if_pos (by omega), show c * w ^ n * w = c * w ^ (n + 1) by rw [Int.pow_succ, Int.mul_assoc], w64 (by omega) (by omega), wsucc n (by omega)])
    (by rw [st, if_neg (by omega)])
  simpa using this
/-- One variable. -/
theorem val_var (p : List Tm) (i : Nat) (hi : i < p.length) (z : Pt) (o c : Int) (k : Nat) (u : Nat) (w : Int) (hk : k < 6)
    (hu : nthI [p[i].c, ((p[i].e.a : Nat) : Int), ((p[i].e.b : Nat) : Int), ((p[i].e.c : Nat) : Int), ((p[i].e.d : Nat) : Int), ((p[i].e.e : Nat) : Int), ((p[i].e.f : Nat) : Int)] (1 + k * 1) = some ((u : Nat) : Int)) (hw : nthI [z.a, z.b, z.c, z.d, z.e, z.f] (k * 1) = some w) (hu2 : u ≤ 12) (hz : inB 2 w) (hc : inB 1000000000000 c) :
    roundK GD LD (CW GD LD) 36 none 7 (S36_7 (p.map Tm.cs) z.a z.b z.c z.d z.e z.f o ((i : Nat) : Int) c ((k : Nat) : Int)) = some (.normal, S36_7 (p.map Tm.cs) z.a z.b z.c z.d z.e z.f o ((i : Nat) : Int) (c * w ^ u) ((k + 1 : Nat) : Int)) := by
  have e1 : decide (((k : Nat) : Int) < 6) = true := by simp; omega
  rw [e36_7, e1, CW_w, ← wsucc k (by omega)]
  refine (bind_via (val_pow p i hi z o c k u w hk hu hw hu2 hz hc) _).trans ?_
  kernel_rfl
def prodT (t : Tm) (z : Pt) : Int := t.c * z.a ^ t.e.a * z.b ^ t.e.b * z.c ^ t.e.c * z.d ^ t.e.d * z.e ^ t.e.e * z.f ^ t.e.f
theorem val_vars (p : List Tm) (i : Nat) (hi : i < p.length) (z : Pt) (o : Int) (hz : z.ok) (hd : p[i].e.deg ≤ 6) (hn : number p[i].c) :
    iterW (roundK GD LD (CW GD LD) 36 none 7) (S36_7 (p.map Tm.cs) z.a z.b z.c z.d z.e z.f o ((i : Nat) : Int) p[i].c 0) = some (.exit 2, S36_7 (p.map Tm.cs) z.a z.b z.c z.d z.e z.f o ((i : Nat) : Int) (prodT p[i] z) 6) ∧ inB 137438953472 (prodT p[i] z) := by
  obtain ⟨z1, z2, z3, z4, z5, z6⟩ := hz
  unfold E6.deg at hd
  have hb : ∀ (n : Nat) (x : Int), n ≤ 6 → inB (2147483648 * 2 ^ n) x → inB 137438953472 x ∧ inB 1000000000000 x := fun n x h hx => by
    have hp := pow_mono2 h
    have hq : (2147483648 : Int) * 2 ^ n ≤ 2147483648 * 2 ^ 6 := Int.mul_le_mul_of_nonneg_left hp (by decide)
    rw [show (2147483648 : Int) * 2 ^ 6 = 137438953472 by decide] at hq
    unfold inB at *
    omega
  have nn : ∀ n : Nat, (0 : Int) ≤ 2147483648 * 2 ^ n := fun n => Int.mul_nonneg (by decide) (Int.pow_nonneg (by decide))
  have mul2 : ∀ (m n : Nat), (2147483648 : Int) * 2 ^ m * 2 ^ n = 2147483648 * 2 ^ (m + n) := fun m n => by rw [Int.pow_add, Int.mul_assoc]
  have b0 : inB (2147483648 * 2 ^ 0) p[i].c := by simp only [number] at hn; unfold inB; omega
  have b1 := inB_pow b0 (nn 0) z1 p[i].e.a
  rw [mul2] at b1
  have b2 := inB_pow b1 (nn _) z2 p[i].e.b
  rw [mul2] at b2
  have b3 := inB_pow b2 (nn _) z3 p[i].e.c
  rw [mul2] at b3
  have b4 := inB_pow b3 (nn _) z4 p[i].e.d
  rw [mul2] at b4
  have b5 := inB_pow b4 (nn _) z5 p[i].e.e
  rw [mul2] at b5
  have b6 := inB_pow b5 (nn _) z6 p[i].e.f
  rw [mul2] at b6
  refine ⟨?_, (hb _ _ (by omega) b6).1⟩
  refine (iterW_n (val_var p i hi z o _ 0 p[i].e.a z.a (by omega) rfl rfl (by omega) z1 (hb _ _ (by omega) b0).2)).trans ?_
  refine (iterW_n (val_var p i hi z o _ 1 p[i].e.b z.b (by omega) rfl rfl (by omega) z2 (hb _ _ (by omega) b1).2)).trans ?_
  refine (iterW_n (val_var p i hi z o _ 2 p[i].e.c z.c (by omega) rfl rfl (by omega) z3 (hb _ _ (by omega) b2).2)).trans ?_
  refine (iterW_n (val_var p i hi z o _ 3 p[i].e.d z.d (by omega) rfl rfl (by omega) z4 (hb _ _ (by omega) b3).2)).trans ?_
  refine (iterW_n (val_var p i hi z o _ 4 p[i].e.e z.e (by omega) rfl rfl (by omega) z5 (hb _ _ (by omega) b4).2)).trans ?_
  refine (iterW_n (val_var p i hi z o _ 5 p[i].e.f z.f (by omega) rfl rfl (by omega) z6 (hb _ _ (by omega) b5).2)).trans ?_
  exact iterW_x (e36_7 _ _ _ _ _ _ _ _ _ _ _ _)
def valT (z : Pt) (t : Tm) : Int := prodT t z * 2 ^ (12 - t.e.deg)
def valP (p : List Tm) (z : Pt) : Int := isum (p.map (valT z))
theorem val_dbl (r : List (List V)) (z : Pt) (o x c : Int) (d : Nat) (hd : d ≤ 12) (hc : inB 137438953472 c) :
    iterW (roundK GD LD (CW GD LD) 36 none 14) (S36_14 r z.a z.b z.c z.d z.e z.f o x c ((d : Nat) : Int)) = some (.exit 6, S36_14 r z.a z.b z.c z.d z.e z.f o x (c * 2 ^ (12 - d)) 12) ∧ inB 562949953421312 (c * 2 ^ (12 - d)) := by
  have bb : ∀ n : Nat, n ≤ 12 → inB 562949953421312 (c * 2 ^ n) := fun n hn => by
    have b := inB_pow hc (by decide) (show inB 2 2 by unfold inB; omega) n
    have hp := pow_mono2 hn
    have hq : (137438953472 : Int) * 2 ^ n ≤ 137438953472 * 2 ^ 12 := Int.mul_le_mul_of_nonneg_left hp (by decide)
    rw [show (137438953472 : Int) * 2 ^ 12 = 562949953421312 by decide] at hq
    unfold inB at *
    omega
  refine ⟨?_, bb _ (by omega)⟩
  have := iterW_all (round := roundK GD LD (CW GD LD) 36 none 14) (fun n => S36_14 r z.a z.b z.c z.d z.e z.f o x (c * 2 ^ n) ((d + n : Nat) : Int)) (12 - d) (id := 6)
    (fun n hn => by
      have b := bb (n + 1) (by omega)
      unfold inB at b
      have e1 : decide (((d + n : Nat) : Int) < 12) = true := by simp; omega
      rw [e36_14, e1, show c * 2 ^ n * 2 = c * 2 ^ (n + 1) by rw [Int.pow_succ, Int.mul_assoc], w64 (x := c * 2 ^ (n + 1)) (by omega) (by omega), wsucc (d + n) (by omega)]
      rfl)
    (by
      have e1 : decide (((d + (12 - d) : Nat) : Int) < 12) = false := by simp; omega
      rw [e36_14, e1]; rfl)
  have e2 : ((d + (12 - d) : Nat) : Int) = 12 := by omega
  simp only [Nat.add_zero, e2, Int.pow_zero, Int.mul_one] at this
  exact this
theorem valP_snoc (p : List Tm) (t : Tm) (z : Pt) : valP (p ++ [t]) z = valP p z + valT z t := by simp [valP, isum_append, isum]
end Go.Ab
/- The exact value of a polynomial at a point, of the reference, joined; conditions: valid terms. -/
namespace Go.Ab
set_option linter.unusedVariables false
set_option linter.unusedSimpArgs false
set_option linter.unusedSimpArgs false
set_option linter.unusedVariables false
theorem val_round (p : List Tm) (i : Nat) (hi : i < p.length) (z : Pt) (o : Int) (hz : z.ok) (hx : p[i].e.ok) (hd : p[i].e.deg ≤ 6) (hn : number p[i].c) (ho : inB 1000000000000000000 o) (hil : i ≤ 1000000) :
    roundK GD LD (CW GD LD) 36 none 3 (S36_3 (p.map Tm.cs) z.a z.b z.c z.d z.e z.f o ((i : Nat) : Int)) = some (.normal, S36_3 (p.map Tm.cs) z.a z.b z.c z.d z.e z.f (o + valT z p[i]) ((i + 1 : Nat) : Int)) ∧ inB 562949953421312 (valT z p[i]) := by
  obtain ⟨hv, hb⟩ := val_vars p i hi z o hz hd hn
  obtain ⟨hw, hb2⟩ := val_dbl (p.map Tm.cs) z o ((i : Nat) : Int) (prodT p[i] z) p[i].e.deg (by omega) hb
  refine ⟨?_, by unfold valT; exact hb2⟩
  have hb3 := hb2
  unfold inB at hb3 ho
  have ww : IntKind.wrap .i64 (o + prodT p[i] z * 2 ^ (12 - p[i].e.deg)) = o + valT z p[i] := by
    unfold valT; exact w64 (by omega) (by omega)
  rw [e36_3, List.length_map, lt_dec hi, getT p i hi, CW_w]
  simp only [uncons_t, uncons_e, uncons_i, asInt_i, asInt_u, isNil_i, Option.bind_some, cond_true]
  refine (bind_via hv _).trans ?_
  have g : ∀ (o c x k : Int), nth (S36_7 (p.map Tm.cs) z.a z.b z.c z.d z.e z.f o x c k).t 0 = .slice .any (p.map Tm.cs) ∧ nth (S36_7 (p.map Tm.cs) z.a z.b z.c z.d z.e z.f o x c k).t 3 = .box [.int .i64 z.a, .int .i64 z.b, .int .i64 z.c, .int .i64 z.d, .int .i64 z.e, .int .i64 z.f] ∧ nth (S36_7 (p.map Tm.cs) z.a z.b z.c z.d z.e z.f o x c k).t 5 = .int .i64 o ∧ nth (S36_7 (p.map Tm.cs) z.a z.b z.c z.d z.e z.f o x c k).t 6 = .int .i64 x ∧ nth (S36_7 (p.map Tm.cs) z.a z.b z.c z.d z.e z.f o x c k).t 7 = .int .i64 c ∧ nth (S36_7 (p.map Tm.cs) z.a z.b z.c z.d z.e z.f o x c k).t 8 = .int .i64 k := fun _ _ _ _ => ⟨rfl, rfl, rfl, rfl, rfl, rfl⟩
  obtain ⟨g1, g2, g3, g4, g5, g6⟩ := g o (prodT p[i] z) ((i : Nat) : Int) 6
  rw [Option.bind_some]
  dsimp only
  rw [g1, g2, g3, g4, g5, g6]
  simp only [Nat.beq_refl, asRows_i, asBox_i, uncons_i, asInt_i, isNil_i, Option.bind_some, cond_true]
  rw [getT p i hi]
  simp only [uncons_t, uncons_e, uncons_i, asInt_i, asInt_u, isNil_i, Option.bind_some]
  rw [p47 _ hx]
  simp only [asInt_i, Option.bind_some]
  refine (bind_via hw _).trans ?_
  have k : ∀ (o c x k : Int), nth (S36_14 (p.map Tm.cs) z.a z.b z.c z.d z.e z.f o x c k).t 0 = .slice .any (p.map Tm.cs) ∧ nth (S36_14 (p.map Tm.cs) z.a z.b z.c z.d z.e z.f o x c k).t 3 = .box [.int .i64 z.a, .int .i64 z.b, .int .i64 z.c, .int .i64 z.d, .int .i64 z.e, .int .i64 z.f] ∧ nth (S36_14 (p.map Tm.cs) z.a z.b z.c z.d z.e z.f o x c k).t 5 = .int .i64 o ∧ nth (S36_14 (p.map Tm.cs) z.a z.b z.c z.d z.e z.f o x c k).t 6 = .int .i64 x ∧ nth (S36_14 (p.map Tm.cs) z.a z.b z.c z.d z.e z.f o x c k).t 7 = .int .i64 c ∧ nth (S36_14 (p.map Tm.cs) z.a z.b z.c z.d z.e z.f o x c k).t 10 = .int .i64 k := fun _ _ _ _ => ⟨rfl, rfl, rfl, rfl, rfl, rfl⟩
  obtain ⟨k1, k2, k3, k4, k5, k6⟩ := k o (prodT p[i] z * 2 ^ (12 - p[i].e.deg)) ((i : Nat) : Int) 12
  rw [Option.bind_some]
  dsimp only
  rw [k1, k2, k3, k4, k5, k6]
  simp only [Nat.beq_refl, asRows_i, asBox_i, uncons_i, asInt_i, isNil_i, Option.bind_some, cond_true, ww, wsucc i (by omega)]
def deg6 (p : List Tm) : Prop := ∀ t ∈ p, t.e.deg ≤ 6
theorem valP_b (p : List Tm) (z : Pt) (h : ∀ t ∈ p, inB 562949953421312 (valT z t)) : inB (562949953421312 * (p.length : Int)) (valP p z) := by
  have := isum_b (b := 562949953421312) (p.map (valT z)) (fun x hx => by
    obtain ⟨t, ht, rfl⟩ := List.mem_map.1 hx
    exact h t ht)
  simpa [valP, inB] using this
theorem p36 (p : List Tm) (z : Pt) (hz : z.ok) (hk : oks p) (hd : deg6 p) (hn : nums p) (hf : p.length ≤ 1000) :
    (CW GD LD).p (.func 36) [.slice .any (p.map Tm.cs), .agg [.int .i64 z.a, .int .i64 z.b, .int .i64 z.c, .int .i64 z.d, .int .i64 z.e, .int .i64 z.f]] = some (.int .i64 (valP p z)) := by
  have hall : ∀ t ∈ p, inB 562949953421312 (valT z t) := fun t ht => by
    obtain ⟨i, hi, rfl⟩ := List.mem_iff_getElem.1 ht
    exact (val_round p i hi z 0 hz (hk _ ht) (hd _ ht) (hn _ ht) (by unfold inB; omega) (by omega)).2
  have hloop := iterW_all (round := roundK GD LD (CW GD LD) 36 none 3) (fun i => S36_3 (p.map Tm.cs) z.a z.b z.c z.d z.e z.f (valP (p.take i) z) ((i : Nat) : Int)) p.length (id := 0)
    (fun i hi => by
      have hm := List.getElem_mem hi
      have b := valP_b (p.take i) z fun t ht => hall t (List.mem_of_mem_take ht)
      simp only [List.length_take] at b
      rw [(val_round p i hi z (valP (p.take i) z) hz (hk _ hm) (hd _ hm) (hn _ hm) (by unfold inB at *; omega) (by omega)).1, take_snoc hi, valP_snoc])
    (by rw [e36_3, List.length_map, lt_decn]; rfl)
  simp only [List.take_length, List.take_zero] at hloop
  refine CW_val (h := []) ?_ rfl
  rw [e36, CW_w]
  refine (bind_via hloop _).trans ?_
  kernel_rfl
end Go.Ab
/- Points made, of the reference; conditions: none. -/
namespace Go.Ab
set_option linter.unusedVariables false
set_option linter.unusedSimpArgs false
set_option linter.unusedSimpArgs false
set_option linter.unusedVariables false
theorem p33 (a b c d e f : Int) : (CW GD LD).p (.func 33) [.agg [.int .i8 a, .int .i8 b, .int .i8 c, .int .i8 d, .int .i8 e, .int .i8 f]] = some (.agg [.int .i64 ((IntKind.wrap .i64 a).tmod 3), .int .i64 ((IntKind.wrap .i64 b).tmod 3), .int .i64 ((IntKind.wrap .i64 c).tmod 3), .int .i64 ((IntKind.wrap .i64 d).tmod 3), .int .i64 ((IntKind.wrap .i64 e).tmod 3), .int .i64 ((IntKind.wrap .i64 f).tmod 3)]) := by
  have r0 : roundK GD LD (CW GD LD) 33 none 3 (S33_3 a b c d e f 0 0 0 0 0 0 0 0 0 0 0 0 0) = some (.normal, S33_3 a b c d e f 0 0 0 0 0 0 ((IntKind.wrap .i64 a).tmod 3) 0 0 0 0 0 1) := e33_3 _ _ _ _ _ _ _ _ _ _ _ _ _ _ _ _ _ _ _ _
  have r1 : roundK GD LD (CW GD LD) 33 none 3 (S33_3 a b c d e f 0 0 0 0 0 0 ((IntKind.wrap .i64 a).tmod 3) 0 0 0 0 0 1) = some (.normal, S33_3 a b c d e f 0 0 0 0 0 0 ((IntKind.wrap .i64 a).tmod 3) ((IntKind.wrap .i64 b).tmod 3) 0 0 0 0 2) := e33_3 _ _ _ _ _ _ _ _ _ _ _ _ _ _ _ _ _ _ _ _
  have r2 : roundK GD LD (CW GD LD) 33 none 3 (S33_3 a b c d e f 0 0 0 0 0 0 ((IntKind.wrap .i64 a).tmod 3) ((IntKind.wrap .i64 b).tmod 3) 0 0 0 0 2) = some (.normal, S33_3 a b c d e f 0 0 0 0 0 0 ((IntKind.wrap .i64 a).tmod 3) ((IntKind.wrap .i64 b).tmod 3) ((IntKind.wrap .i64 c).tmod 3) 0 0 0 3) := e33_3 _ _ _ _ _ _ _ _ _ _ _ _ _ _ _ _ _ _ _ _
  have r3 : roundK GD LD (CW GD LD) 33 none 3 (S33_3 a b c d e f 0 0 0 0 0 0 ((IntKind.wrap .i64 a).tmod 3) ((IntKind.wrap .i64 b).tmod 3) ((IntKind.wrap .i64 c).tmod 3) 0 0 0 3) = some (.normal, S33_3 a b c d e f 0 0 0 0 0 0 ((IntKind.wrap .i64 a).tmod 3) ((IntKind.wrap .i64 b).tmod 3) ((IntKind.wrap .i64 c).tmod 3) ((IntKind.wrap .i64 d).tmod 3) 0 0 4) := e33_3 _ _ _ _ _ _ _ _ _ _ _ _ _ _ _ _ _ _ _ _
  have r4 : roundK GD LD (CW GD LD) 33 none 3 (S33_3 a b c d e f 0 0 0 0 0 0 ((IntKind.wrap .i64 a).tmod 3) ((IntKind.wrap .i64 b).tmod 3) ((IntKind.wrap .i64 c).tmod 3) ((IntKind.wrap .i64 d).tmod 3) 0 0 4) = some (.normal, S33_3 a b c d e f 0 0 0 0 0 0 ((IntKind.wrap .i64 a).tmod 3) ((IntKind.wrap .i64 b).tmod 3) ((IntKind.wrap .i64 c).tmod 3) ((IntKind.wrap .i64 d).tmod 3) ((IntKind.wrap .i64 e).tmod 3) 0 5) := e33_3 _ _ _ _ _ _ _ _ _ _ _ _ _ _ _ _ _ _ _ _
  have r5 : roundK GD LD (CW GD LD) 33 none 3 (S33_3 a b c d e f 0 0 0 0 0 0 ((IntKind.wrap .i64 a).tmod 3) ((IntKind.wrap .i64 b).tmod 3) ((IntKind.wrap .i64 c).tmod 3) ((IntKind.wrap .i64 d).tmod 3) ((IntKind.wrap .i64 e).tmod 3) 0 5) = some (.normal, S33_3 a b c d e f 0 0 0 0 0 0 ((IntKind.wrap .i64 a).tmod 3) ((IntKind.wrap .i64 b).tmod 3) ((IntKind.wrap .i64 c).tmod 3) ((IntKind.wrap .i64 d).tmod 3) ((IntKind.wrap .i64 e).tmod 3) ((IntKind.wrap .i64 f).tmod 3) 6) := e33_3 _ _ _ _ _ _ _ _ _ _ _ _ _ _ _ _ _ _ _ _
  have r6 : roundK GD LD (CW GD LD) 33 none 3 (S33_3 a b c d e f 0 0 0 0 0 0 ((IntKind.wrap .i64 a).tmod 3) ((IntKind.wrap .i64 b).tmod 3) ((IntKind.wrap .i64 c).tmod 3) ((IntKind.wrap .i64 d).tmod 3) ((IntKind.wrap .i64 e).tmod 3) ((IntKind.wrap .i64 f).tmod 3) 6) = some (.exit 0, S33_3 a b c d e f 0 0 0 0 0 0 ((IntKind.wrap .i64 a).tmod 3) ((IntKind.wrap .i64 b).tmod 3) ((IntKind.wrap .i64 c).tmod 3) ((IntKind.wrap .i64 d).tmod 3) ((IntKind.wrap .i64 e).tmod 3) ((IntKind.wrap .i64 f).tmod 3) 6) := e33_3 _ _ _ _ _ _ _ _ _ _ _ _ _ _ _ _ _ _ _ _
  refine CW_val (h := []) ?_ rfl
  rw [e33, CW_w]
  refine (bind_via ((iterW_n r0).trans ((iterW_n r1).trans ((iterW_n r2).trans ((iterW_n r3).trans ((iterW_n r4).trans ((iterW_n r5).trans (iterW_x r6))))))) _).trans ?_
  kernel_rfl
theorem half_b (x : Int) : -2 ≤ (IntKind.wrap .i64 x).tmod 3 ∧ (IntKind.wrap .i64 x).tmod 3 ≤ 2 := by
  have h1 := Int.tmod_lt_of_pos (IntKind.wrap .i64 x) (show (0 : Int) < 3 by decide)
  have h2 := Int.lt_tmod_of_pos (IntKind.wrap .i64 x) (show (0 : Int) < 3 by decide)
  omega
end Go.Ab
/- A term made of any term, of the reference; conditions: bytes. -/
namespace Go.Ab
set_option linter.unusedVariables false
set_option linter.unusedSimpArgs false
set_option linter.unusedSimpArgs false
set_option linter.unusedVariables false
theorem w8 {x : Int} (h1 : 0 ≤ x) (h2 : x < 256) : IntKind.wrap .u8 x = x := by
  have e : IntKind.wrap .u8 x = x % 256 := by simp [IntKind.wrap, IntKind.bits, IntKind.signed]
  rw [e]; omega
def mk1 (u l : Nat) : Nat := u % 7 % (l + 1)
theorem mk1_le (u l : Nat) : mk1 u l ≤ l := by have := Nat.mod_lt (u % 7) (show 0 < l + 1 by omega); unfold mk1; omega
theorem mk1_i (u l : Nat) (h : l ≤ 6) : Int.tmod (Int.tmod ((u : Nat) : Int) 7) (IntKind.wrap .u8 (IntKind.wrap .i64 (((l : Nat) : Int) + 1))) = ((mk1 u l : Nat) : Int) := by
  rw [w64 (by omega) (by omega), w8 (by omega) (by omega), Int.tmod_eq_emod_of_nonneg (a := ((u : Nat) : Int)) (by omega), Int.tmod_eq_emod_of_nonneg (by omega)]
  unfold mk1
  rw [Int.natCast_emod, Int.natCast_emod]
  simp
theorem mk0 (l : Nat) (h : l ≤ 6) : (IntKind.wrap .u8 (IntKind.wrap .i64 (((l : Nat) : Int) + 1)) == 0) = false := by
  rw [w64 (by omega) (by omega), w8 (by omega) (by omega)]
  simp only [beq_eq_false_iff_ne, ne_eq]; omega
theorem mkw (v l : Nat) (h : l ≤ 6) (hv : v ≤ l) : IntKind.wrap .i64 (((l : Nat) : Int) - IntKind.wrap .i64 ((v : Nat) : Int)) = ((l - v : Nat) : Int) := by
  rw [w64 (x := ((v : Nat) : Int)) (by omega) (by omega), w64 (by omega) (by omega)]; omega
theorem made_0 (p : List Tm) (i : Nat) (hi : i < p.length) (most size c e0 e1 e2 e3 e4 e5 : Int) (out : List (List V)) (l : Nat) (hl : l ≤ 6) :
    roundK GD LD (CW GD LD) 49 none 7 (S49_7 (p.map Tm.cs) most size out ((i : Nat) : Int) c e0 e1 e2 e3 e4 e5 ((l : Nat) : Int) 0) = some (.normal, S49_7 (p.map Tm.cs) most size out ((i : Nat) : Int) c ((mk1 p[i].e.a l : Nat) : Int) e1 e2 e3 e4 e5 ((l - mk1 p[i].e.a l : Nat) : Int) 1) := by
  rw [e49_7, getT p i hi]
  simp only [uncons_t, uncons_e, uncons_i, asInt_i, asInt_u, isNil_i, Option.bind_some]
  refine Eq.trans (b := cond (IntKind.wrap .u8 (IntKind.wrap .i64 (((l : Nat) : Int) + 1)) == 0) none (some (.normal, S49_7 (p.map Tm.cs) most size out ((i : Nat) : Int) c (Int.tmod (Int.tmod ((p[i].e.a : Nat) : Int) 7) (IntKind.wrap .u8 (IntKind.wrap .i64 (((l : Nat) : Int) + 1)))) e1 e2 e3 e4 e5 (IntKind.wrap .i64 (((l : Nat) : Int) - IntKind.wrap .i64 (Int.tmod (Int.tmod ((p[i].e.a : Nat) : Int) 7) (IntKind.wrap .u8 (IntKind.wrap .i64 (((l : Nat) : Int) + 1)))))) 1))) (by kernel_rfl) ?_
  rw [mk0 l hl, mk1_i _ l hl, mkw _ l hl (mk1_le _ _)]
  rfl
theorem made_1 (p : List Tm) (i : Nat) (hi : i < p.length) (most size c e0 e1 e2 e3 e4 e5 : Int) (out : List (List V)) (l : Nat) (hl : l ≤ 6) :
    roundK GD LD (CW GD LD) 49 none 7 (S49_7 (p.map Tm.cs) most size out ((i : Nat) : Int) c e0 e1 e2 e3 e4 e5 ((l : Nat) : Int) 1) = some (.normal, S49_7 (p.map Tm.cs) most size out ((i : Nat) : Int) c e0 ((mk1 p[i].e.b l : Nat) : Int) e2 e3 e4 e5 ((l - mk1 p[i].e.b l : Nat) : Int) 2) := by
  rw [e49_7, getT p i hi]
  simp only [uncons_t, uncons_e, uncons_i, asInt_i, asInt_u, isNil_i, Option.bind_some]
  refine Eq.trans (b := cond (IntKind.wrap .u8 (IntKind.wrap .i64 (((l : Nat) : Int) + 1)) == 0) none (some (.normal, S49_7 (p.map Tm.cs) most size out ((i : Nat) : Int) c e0 (Int.tmod (Int.tmod ((p[i].e.b : Nat) : Int) 7) (IntKind.wrap .u8 (IntKind.wrap .i64 (((l : Nat) : Int) + 1)))) e2 e3 e4 e5 (IntKind.wrap .i64 (((l : Nat) : Int) - IntKind.wrap .i64 (Int.tmod (Int.tmod ((p[i].e.b : Nat) : Int) 7) (IntKind.wrap .u8 (IntKind.wrap .i64 (((l : Nat) : Int) + 1)))))) 2))) (by kernel_rfl) ?_
  rw [mk0 l hl, mk1_i _ l hl, mkw _ l hl (mk1_le _ _)]
  rfl
theorem made_2 (p : List Tm) (i : Nat) (hi : i < p.length) (most size c e0 e1 e2 e3 e4 e5 : Int) (out : List (List V)) (l : Nat) (hl : l ≤ 6) :
    roundK GD LD (CW GD LD) 49 none 7 (S49_7 (p.map Tm.cs) most size out ((i : Nat) : Int) c e0 e1 e2 e3 e4 e5 ((l : Nat) : Int) 2) = some (.normal, S49_7 (p.map Tm.cs) most size out ((i : Nat) : Int) c e0 e1 ((mk1 p[i].e.c l : Nat) : Int) e3 e4 e5 ((l - mk1 p[i].e.c l : Nat) : Int) 3) := by
  rw [e49_7, getT p i hi]
  simp only [uncons_t, uncons_e, uncons_i, asInt_i, asInt_u, isNil_i, Option.bind_some]
  refine Eq.trans (b := cond (IntKind.wrap .u8 (IntKind.wrap .i64 (((l : Nat) : Int) + 1)) == 0) none (some (.normal, S49_7 (p.map Tm.cs) most size out ((i : Nat) : Int) c e0 e1 (Int.tmod (Int.tmod ((p[i].e.c : Nat) : Int) 7) (IntKind.wrap .u8 (IntKind.wrap .i64 (((l : Nat) : Int) + 1)))) e3 e4 e5 (IntKind.wrap .i64 (((l : Nat) : Int) - IntKind.wrap .i64 (Int.tmod (Int.tmod ((p[i].e.c : Nat) : Int) 7) (IntKind.wrap .u8 (IntKind.wrap .i64 (((l : Nat) : Int) + 1)))))) 3))) (by kernel_rfl) ?_
  rw [mk0 l hl, mk1_i _ l hl, mkw _ l hl (mk1_le _ _)]
  rfl
theorem made_3 (p : List Tm) (i : Nat) (hi : i < p.length) (most size c e0 e1 e2 e3 e4 e5 : Int) (out : List (List V)) (l : Nat) (hl : l ≤ 6) :
    roundK GD LD (CW GD LD) 49 none 7 (S49_7 (p.map Tm.cs) most size out ((i : Nat) : Int) c e0 e1 e2 e3 e4 e5 ((l : Nat) : Int) 3) = some (.normal, S49_7 (p.map Tm.cs) most size out ((i : Nat) : Int) c e0 e1 e2 ((mk1 p[i].e.d l : Nat) : Int) e4 e5 ((l - mk1 p[i].e.d l : Nat) : Int) 4) := by
  rw [e49_7, getT p i hi]
  simp only [uncons_t, uncons_e, uncons_i, asInt_i, asInt_u, isNil_i, Option.bind_some]
  refine Eq.trans (b := cond (IntKind.wrap .u8 (IntKind.wrap .i64 (((l : Nat) : Int) + 1)) == 0) none (some (.normal, S49_7 (p.map Tm.cs) most size out ((i : Nat) : Int) c e0 e1 e2 (Int.tmod (Int.tmod ((p[i].e.d : Nat) : Int) 7) (IntKind.wrap .u8 (IntKind.wrap .i64 (((l : Nat) : Int) + 1)))) e4 e5 (IntKind.wrap .i64 (((l : Nat) : Int) - IntKind.wrap .i64 (Int.tmod (Int.tmod ((p[i].e.d : Nat) : Int) 7) (IntKind.wrap .u8 (IntKind.wrap .i64 (((l : Nat) : Int) + 1)))))) 4))) (by kernel_rfl) ?_
  rw [mk0 l hl, mk1_i _ l hl, mkw _ l hl (mk1_le _ _)]
  rfl
theorem made_4 (p : List Tm) (i : Nat) (hi : i < p.length) (most size c e0 e1 e2 e3 e4 e5 : Int) (out : List (List V)) (l : Nat) (hl : l ≤ 6) :
    roundK GD LD (CW GD LD) 49 none 7 (S49_7 (p.map Tm.cs) most size out ((i : Nat) : Int) c e0 e1 e2 e3 e4 e5 ((l : Nat) : Int) 4) = some (.normal, S49_7 (p.map Tm.cs) most size out ((i : Nat) : Int) c e0 e1 e2 e3 ((mk1 p[i].e.e l : Nat) : Int) e5 ((l - mk1 p[i].e.e l : Nat) : Int) 5) := by
  rw [e49_7, getT p i hi]
  simp only [uncons_t, uncons_e, uncons_i, asInt_i, asInt_u, isNil_i, Option.bind_some]
  refine Eq.trans (b := cond (IntKind.wrap .u8 (IntKind.wrap .i64 (((l : Nat) : Int) + 1)) == 0) none (some (.normal, S49_7 (p.map Tm.cs) most size out ((i : Nat) : Int) c e0 e1 e2 e3 (Int.tmod (Int.tmod ((p[i].e.e : Nat) : Int) 7) (IntKind.wrap .u8 (IntKind.wrap .i64 (((l : Nat) : Int) + 1)))) e5 (IntKind.wrap .i64 (((l : Nat) : Int) - IntKind.wrap .i64 (Int.tmod (Int.tmod ((p[i].e.e : Nat) : Int) 7) (IntKind.wrap .u8 (IntKind.wrap .i64 (((l : Nat) : Int) + 1)))))) 5))) (by kernel_rfl) ?_
  rw [mk0 l hl, mk1_i _ l hl, mkw _ l hl (mk1_le _ _)]
  rfl
theorem made_5 (p : List Tm) (i : Nat) (hi : i < p.length) (most size c e0 e1 e2 e3 e4 e5 : Int) (out : List (List V)) (l : Nat) (hl : l ≤ 6) :
    roundK GD LD (CW GD LD) 49 none 7 (S49_7 (p.map Tm.cs) most size out ((i : Nat) : Int) c e0 e1 e2 e3 e4 e5 ((l : Nat) : Int) 5) = some (.normal, S49_7 (p.map Tm.cs) most size out ((i : Nat) : Int) c e0 e1 e2 e3 e4 ((mk1 p[i].e.f l : Nat) : Int) ((l - mk1 p[i].e.f l : Nat) : Int) 6) := by
  rw [e49_7, getT p i hi]
  simp only [uncons_t, uncons_e, uncons_i, asInt_i, asInt_u, isNil_i, Option.bind_some]
  refine Eq.trans (b := cond (IntKind.wrap .u8 (IntKind.wrap .i64 (((l : Nat) : Int) + 1)) == 0) none (some (.normal, S49_7 (p.map Tm.cs) most size out ((i : Nat) : Int) c e0 e1 e2 e3 e4 (Int.tmod (Int.tmod ((p[i].e.f : Nat) : Int) 7) (IntKind.wrap .u8 (IntKind.wrap .i64 (((l : Nat) : Int) + 1)))) (IntKind.wrap .i64 (((l : Nat) : Int) - IntKind.wrap .i64 (Int.tmod (Int.tmod ((p[i].e.f : Nat) : Int) 7) (IntKind.wrap .u8 (IntKind.wrap .i64 (((l : Nat) : Int) + 1)))))) 6))) (by kernel_rfl) ?_
  rw [mk0 l hl, mk1_i _ l hl, mkw _ l hl (mk1_le _ _)]
  rfl
/-- The exponents made of a term's. -/
def mkE (x : E6) : E6 :=
  let a := mk1 x.a 6
  let b := mk1 x.b (6 - a)
  let c := mk1 x.c (6 - a - b)
  let d := mk1 x.d (6 - a - b - c)
  let e := mk1 x.e (6 - a - b - c - d)
  ⟨a, b, c, d, e, mk1 x.f (6 - a - b - c - d - e)⟩
theorem mkE_ok (x : E6) : (mkE x).ok ∧ (mkE x).deg ≤ 6 := by
  have h1 := mk1_le x.a 6
  have h2 := mk1_le x.b (6 - mk1 x.a 6)
  have h3 := mk1_le x.c (6 - mk1 x.a 6 - mk1 x.b (6 - mk1 x.a 6))
  simp only [mkE, E6.ok, E6.deg]
  generalize mk1 x.a 6 = a at *
  generalize mk1 x.b (6 - a) = b at *
  generalize mk1 x.c (6 - a - b) = c at *
  have h4 := mk1_le x.d (6 - a - b - c)
  generalize mk1 x.d (6 - a - b - c) = d at *
  have h5 := mk1_le x.e (6 - a - b - c - d)
  generalize mk1 x.e (6 - a - b - c - d) = e at *
  have h6 := mk1_le x.f (6 - a - b - c - d - e)
  omega
theorem made_row (p : List Tm) (i : Nat) (hi : i < p.length) (most size c : Int) (out : List (List V)) : ∃ l : Int,
    iterW (roundK GD LD (CW GD LD) 49 none 7) (S49_7 (p.map Tm.cs) most size out ((i : Nat) : Int) c 0 0 0 0 0 0 6 0) = some (.exit 2, S49_7 (p.map Tm.cs) most size out ((i : Nat) : Int) c (((mkE p[i].e).a : Nat) : Int) (((mkE p[i].e).b : Nat) : Int) (((mkE p[i].e).c : Nat) : Int) (((mkE p[i].e).d : Nat) : Int) (((mkE p[i].e).e : Nat) : Int) (((mkE p[i].e).f : Nat) : Int) l 6) := by
  refine ⟨((6 - (mkE p[i].e).a - (mkE p[i].e).b - (mkE p[i].e).c - (mkE p[i].e).d - (mkE p[i].e).e - (mkE p[i].e).f : Nat) : Int), ?_⟩
  refine (iterW_n (made_0 p i hi most size c 0 0 0 0 0 0 out 6 (by omega))).trans ?_
  refine (iterW_n (made_1 p i hi most size c _ 0 0 0 0 0 out _ (by omega))).trans ?_
  refine (iterW_n (made_2 p i hi most size c _ _ 0 0 0 0 out _ (by omega))).trans ?_
  refine (iterW_n (made_3 p i hi most size c _ _ _ 0 0 0 out _ (by omega))).trans ?_
  refine (iterW_n (made_4 p i hi most size c _ _ _ _ 0 0 out _ (by omega))).trans ?_
  refine (iterW_n (made_5 p i hi most size c _ _ _ _ _ 0 out _ (by omega))).trans ?_
  exact iterW_x (e49_7 _ _ _ _ _ _ _ _ _ _ _ _ _ _ _)
end Go.Ab
