/- A sort of what is sorted, typed: it writes nothing; conditions: fewer than fifty elements. -/
import Derived.Test.YtbfecmgiffkooaaYI
namespace Go.Ab
set_option linter.unusedSimpArgs false
set_option linter.unusedVariables false
def sorted (l : List Iv) : Prop := ∀ (i j : Nat) (hj : j < l.length) (hi : i ≤ j), (l[i]'(Nat.lt_of_le_of_lt hi hj)).lo ≤ l[j].lo
def lenT (n : Nat) : Int := if n = 0 then 0 else if n < 2 then 1 else if n < 4 then 2 else if n < 8 then 3 else if n < 16 then 4 else if n < 32 then 5 else 6
set_option maxRecDepth 100000 in
theorem lens_ok : ∀ n : Fin 50, strAt (⟨#[0, 1, 2, 2, 3, 3, 3, 3, 4, 4, 4, 4, 4, 4, 4, 4, 5, 5, 5, 5, 5, 5, 5, 5, 5, 5, 5, 5, 5, 5, 5, 5, 6, 6, 6, 6, 6, 6, 6, 6, 6, 6, 6, 6, 6, 6, 6, 6, 6, 6, 6, 6, 6, 6, 6, 6, 6, 6, 6, 6, 6, 6, 6, 6, 7, 7, 7, 7, 7, 7, 7, 7, 7, 7, 7, 7, 7, 7, 7, 7, 7, 7, 7, 7, 7, 7, 7, 7, 7, 7, 7, 7, 7, 7, 7, 7, 7, 7, 7, 7, 7, 7, 7, 7, 7, 7, 7, 7, 7, 7, 7, 7, 7, 7, 7, 7, 7, 7, 7, 7, 7, 7, 7, 7, 7, 7, 7, 7, 8, 8, 8, 8, 8, 8, 8, 8, 8, 8, 8, 8, 8, 8, 8, 8, 8, 8, 8, 8, 8, 8, 8, 8, 8, 8, 8, 8, 8, 8, 8, 8, 8, 8, 8, 8, 8, 8, 8, 8, 8, 8, 8, 8, 8, 8, 8, 8, 8, 8, 8, 8, 8, 8, 8, 8, 8, 8, 8, 8, 8, 8, 8, 8, 8, 8, 8, 8, 8, 8, 8, 8, 8, 8, 8, 8, 8, 8, 8, 8, 8, 8, 8, 8, 8, 8, 8, 8, 8, 8, 8, 8, 8, 8, 8, 8, 8, 8, 8, 8, 8, 8, 8, 8, 8, 8, 8, 8, 8, 8, 8, 8, 8, 8, 8, 8, 8, 8, 8, 8, 8, 8, 8, 8, 8, 8, 8, 8]⟩ : ByteArray) ((n.val : Nat) : Int) = some (lenT n.val) := by decide +kernel
theorem p79 (a : Int) : (CW G20 L20).p (.func 79) [.int .i64 a] = some (.bool false) := by
  refine CW_val (h := []) ?_ rfl
  rw [e79]; simp
theorem p52 (a b : Int) : (CW G20 L20).p (.func 52) [.int .i64 a, .int .i64 b] = some (.int .i64 (if a < b then -1 else if a > b then 1 else 0)) := by
  refine CW_val (h := []) ?_ rfl
  simp only [e52, p79, asInt_i, asBool_i, asRows_i, asCells_i, asTuple_i, asBox_i, asObCells_i, asLoop_i, uncons_i, unconsO_i, isNil_i, asPtr_i, asFn_f, asFn_y, asArr_i, asObArr_t, asObArr_f, isReady_i, isBusy_i, uncons_c, uncons_sc, arrRows_i, Option.bind_some, Option.bind_none, cond_true, cond_false, cond_dec, cond_not]
  by_cases h1 : a < b
  · simp only [h1, if_true]
  · by_cases h2 : a > b
    · simp only [h1, h2, if_true, if_false]
    · simp only [h1, h2, if_false]
theorem p51 (x y : Iv) (h : y.lo ≤ x.lo) : ∃ n : Int, (decide (n < 0)) = false ∧ (CW G20 L20).p (.func 51) [.agg [.int .i64 x.lo, .int .i64 x.hi], .agg [.int .i64 y.lo, .int .i64 y.hi]] = some (.int .i64 n) := by
  refine ⟨if x.lo < y.lo then -1 else if x.lo > y.lo then 1 else 0, ?_, ?_⟩
  · rw [if_neg (by omega)]; split <;> rfl
  · refine CW_val (h := []) ?_ rfl
    rw [e51, p52]; rfl
theorem getI (l : List Iv) (i : Nat) (h : i < l.length) : getRow (l.map Iv.c) (i : Int) 2 = some l[i].c := getRow_map Iv.c Iv.c_len l i h
theorem h110 (l : List Iv) (hs : sorted l) (i j : Nat) (hj : j < l.length) (hi : i ≤ j) : (CW G20 L20).s (.func 110) [.slice .any (l.map Iv.c), .int .i64 (i : Nat), .int .i64 (j : Nat), .undef, .fn (.func 51) [] []] [] = some (.tuple [.int .i64 (i : Nat), .int .i64 (j : Nat)], []) := by
  refine CW_run ?_
  obtain ⟨n, n1, n2⟩ := p51 l[j] (l[i]'(Nat.lt_of_le_of_lt hi hj)) (hs i j hj hi)
  rw [s110_q, getI l j hj, getI l i (Nat.lt_of_le_of_lt hi hj)]
  simp only [asInt_i, asCells_i, uncons_c, uncons_i, isNil_i, Option.bind_some, n2, n1, cond_false]
theorem h107 (l : List Iv) (hs : sorted l) (i j k : Nat) (hk : k < l.length) (hi : i ≤ j) (hj : j ≤ k) : (CW G20 L20).s (.func 107) [.slice .any (l.map Iv.c), .int .i64 (i : Nat), .int .i64 (j : Nat), .int .i64 (k : Nat), .undef, .fn (.func 51) [] []] [] = some (.int .i64 (j : Nat), []) := by
  refine CW_run ?_
  rw [s107_q]
  simp only [h110 l hs i j (by omega) hi, h110 l hs j k hk hj, h110 l hs i j (by omega) hi, asTuple_i, asInt_i, uncons_i, isNil_i, Option.bind_some]
set_option maxRecDepth 100000 in
theorem p101 (n : Nat) (h : n < 50) : (CW G20 L20).p (.func 101) [.int .u64 (n : Int)] = some (.int .i64 (lenT n)) := by
  refine CW_val (h := []) ?_ rfl
  have h1 : ¬ (n : Int) ≥ 4294967296 := by omega
  have h2 : ¬ (n : Int) ≥ 65536 := by omega
  have h3 : ¬ (n : Int) ≥ 256 := by omega
  have h4 : IntKind.wrap .u8 (n : Int) = (n : Int) := by
    simp [IntKind.wrap, IntKind.bits, IntKind.signed]; omega
  have h5 := lens_ok ⟨n, h⟩
  simp only at h5
  have h6 : 0 ≤ lenT n ∧ lenT n ≤ 6 := by unfold lenT; repeat' split <;> omega
  have h7 : IntKind.wrap .i64 (lenT n) = lenT n := w64 (by omega) (by omega)
  rw [e101]
  simp only [cond_dec, h1, h2, h3, if_false, h4, h5, Option.bind_some, h7]
  rw [w64 (by omega) (by omega)]
  simp
theorem p78 (n : Nat) (h : n < 50) : (CW G20 L20).p (.func 78) [.int .u64 (n : Int)] = some (.int .i64 (lenT n)) := by
  refine CW_val (h := []) ?_ rfl
  rw [e78, p101 n h]; rfl
theorem p92t (l : List Iv) (hs : sorted l) (hn : l.length < 50) : (CW G20 L20).p (.func 92) [.slice .any (l.map Iv.c), .int .i64 0, .int .i64 (l.length : Nat), .fn (.func 51) [] []] = some (.tuple []) := by
  have inner : ∀ i : Nat, 0 < i → i < l.length → iterW (roundK G20 L20 (CW G20 L20) 92 none 4) ⟨(sp 0 53 [(0, .slice .any (l.map Iv.c)), (1, .int .i64 0), (2, .int .i64 (l.length : Nat)), (3, .fn (.func 51) [] []), (8, .int .i64 (i : Nat)), (9, .int .i64 (i : Nat))]), []⟩ =
      some (.exit 2, ⟨(sp 0 53 [(0, .slice .any (l.map Iv.c)), (1, .int .i64 0), (2, .int .i64 (l.length : Nat)), (3, .fn (.func 51) [] []), (8, .int .i64 (i : Nat)), (9, .int .i64 (i : Nat))]), []⟩) := by
    intro i h0 hi
    obtain ⟨n, n1, n2⟩ := p51 l[i] (l[i - 1]'(by omega)) (hs (i - 1) i hi (by omega))
    have hc : (i : Int) > 0 := by omega
    rw [iterW_eq, e92_4_q, wpred i h0 (by omega), getI l i hi, getI l (i - 1) (by omega)]
    simp only [asInt_i, asBool_i, asRows_i, asCells_i, asTuple_i, asBox_i, asObCells_i, asLoop_i, uncons_i, unconsO_i, isNil_i, asPtr_i, asFn_f, asFn_y, asArr_i, asObArr_t, asObArr_f, isReady_i, isBusy_i, uncons_c, uncons_sc, arrRows_i, Option.bind_some, Option.bind_none, cond_true, cond_false, cond_dec, cond_not, hc, if_true, n2]
    have n3 : ¬ n < 0 := by simpa using n1
    simp only [n3, if_false]
  have outer : ∀ (k i : Nat), l.length - i = k → 0 < i → ∃ j : Nat, iterW (roundK G20 L20 (CW G20 L20) 92 none 1) ⟨(sp 0 53 [(0, .slice .any (l.map Iv.c)), (1, .int .i64 0), (2, .int .i64 (l.length : Nat)), (3, .fn (.func 51) [] []), (8, .int .i64 (i : Nat))]), []⟩ =
      some (.exit 0, ⟨(sp 0 53 [(0, .slice .any (l.map Iv.c)), (1, .int .i64 0), (2, .int .i64 (l.length : Nat)), (3, .fn (.func 51) [] []), (8, .int .i64 (j : Nat))]), []⟩) := by
    intro k
    induction k with
    | zero =>
      intro i hk h0
      refine ⟨i, ?_⟩
      have hc : decide ((i : Int) < (l.length : Nat)) = false := by simp; omega
      rw [iterW_eq, e92_1_q, hc]; rfl
    | succ k ih =>
      intro i hk h0
      obtain ⟨j, hj⟩ := ih (i + 1) (by omega) (by omega)
      refine ⟨j, ?_⟩
      have hc : decide ((i : Int) < (l.length : Nat)) = true := by simp; omega
      have hr : roundK G20 L20 (CW G20 L20) 92 none 1 ⟨(sp 0 53 [(0, .slice .any (l.map Iv.c)), (1, .int .i64 0), (2, .int .i64 (l.length : Nat)), (3, .fn (.func 51) [] []), (8, .int .i64 (i : Nat))]), []⟩ = some (.normal, ⟨(sp 0 53 [(0, .slice .any (l.map Iv.c)), (1, .int .i64 0), (2, .int .i64 (l.length : Nat)), (3, .fn (.func 51) [] []), (8, .int .i64 ((i + 1 : Nat) : Int))]), []⟩) := by
        rw [e92_1_q, hc, CW_w]
        refine (bind_via (inner i h0 (by omega)) _).trans ?_
        rw [← wsucc i (by omega)]
        change _ = _
        kernel_rfl
      rw [iterW_eq, hr]
      exact hj
  obtain ⟨j, hj⟩ := outer _ 1 rfl (by omega)
  refine CW_val (h := []) ?_ rfl
  rw [p92_q, CW_w]
  have hw : IntKind.wrap .i64 ((0 : Int) + 1) = ((1 : Nat) : Int) := by decide
  rw [hw]
  refine (bind_via hj _).trans ?_
  change _ = _
  kernel_rfl
theorem p95t (l : List Iv) (hs : sorted l) (hn : l.length < 50) (h12 : 12 < l.length) : ∃ x : Int, (CW G20 L20).p (.func 95) [.slice .any (l.map Iv.c), .int .i64 0, .int .i64 (l.length : Nat), .fn (.func 51) [] []] = some (.tuple [.int .i64 x, .int .i64 1]) := by
  refine ⟨((l.length / 4 * 2 : Nat) : Int), ?_⟩
  refine CW_val (h := []) ?_ rfl
  have e0 : IntKind.wrap .i64 ((l.length : Int) - 0) = (l.length : Int) := w64 (by omega) (by omega)
  have e1 : Int.tdiv (l.length : Int) 4 = ((l.length / 4 : Nat) : Int) := by rw [Int.tdiv_eq_ediv_of_nonneg (by omega)]; rfl
  have c1 : (l.length : Int) ≥ 8 := by omega
  have c2 : ¬ (l.length : Int) ≥ 50 := by omega
  have e2 : IntKind.wrap .i64 ((l.length / 4 : Nat) : Int) = ((l.length / 4 : Nat) : Int) := w64 (by omega) (by omega)
  have q1 : IntKind.wrap .i64 (((l.length / 4 : Nat) : Int) * 1) = ((l.length / 4 : Nat) : Int) := by rw [Int.mul_one]; exact e2
  have q2 : IntKind.wrap .i64 (((l.length / 4 : Nat) : Int) * 2) = ((l.length / 4 * 2 : Nat) : Int) := by rw [w64 (by omega) (by omega)]; simp
  have q3 : IntKind.wrap .i64 (((l.length / 4 : Nat) : Int) * 3) = ((l.length / 4 * 3 : Nat) : Int) := by rw [w64 (by omega) (by omega)]; simp
  have z1 : IntKind.wrap .i64 (0 + ((l.length / 4 : Nat) : Int)) = ((l.length / 4 : Nat) : Int) := by rw [Int.zero_add]; exact e2
  have z2 : IntKind.wrap .i64 (0 + ((l.length / 4 * 2 : Nat) : Int)) = ((l.length / 4 * 2 : Nat) : Int) := by rw [Int.zero_add]; exact w64 (by omega) (by omega)
  have z3 : IntKind.wrap .i64 (0 + ((l.length / 4 * 3 : Nat) : Int)) = ((l.length / 4 * 3 : Nat) : Int) := by rw [Int.zero_add]; exact w64 (by omega) (by omega)
  rw [p95_q]
  simp only [cond_dec, e0, c1, c2, if_true, if_false, e1, e2, q1, q2, q3, z1, z2, z3]
  rw [h107 l hs _ _ _ (by omega) (by omega) (by omega)]
  rfl
theorem p97t (l : List Iv) (hs : sorted l) (hn : l.length < 50) (h12 : 12 < l.length) : (CW G20 L20).p (.func 97) [.slice .any (l.map Iv.c), .int .i64 0, .int .i64 (l.length : Nat), .fn (.func 51) [] []] = some (.bool true) := by
  have inner : ∀ (k i : Nat), l.length - i = k → 0 < i → i ≤ l.length → iterW (roundK G20 L20 (CW G20 L20) 97 none 5) ⟨(sp 0 141 [(0, .slice .any (l.map Iv.c)), (1, .int .i64 0), (2, .int .i64 (l.length : Nat)), (3, .fn (.func 51) [] []), (8, .bool false), (9, .int .i64 (i : Nat)), (10, .int .i64 0)]), []⟩ =
      some (.exit 2, ⟨(sp 0 141 [(0, .slice .any (l.map Iv.c)), (1, .int .i64 0), (2, .int .i64 (l.length : Nat)), (3, .fn (.func 51) [] []), (8, .bool false), (9, .int .i64 (l.length : Nat)), (10, .int .i64 0)]), []⟩) := by
    intro k
    induction k with
    | zero =>
      intro i hk h0 hi
      have : i = l.length := by omega
      subst this
      rw [iterW_eq, e97_5_q, lt_decn]; rfl
    | succ k ih =>
      intro i hk h0 hi
      have hil : i < l.length := by omega
      obtain ⟨n, n1, n2⟩ := p51 l[i] (l[i - 1]'(by omega)) (hs (i - 1) i hil (by omega))
      have hr : roundK G20 L20 (CW G20 L20) 97 none 5 ⟨(sp 0 141 [(0, .slice .any (l.map Iv.c)), (1, .int .i64 0), (2, .int .i64 (l.length : Nat)), (3, .fn (.func 51) [] []), (8, .bool false), (9, .int .i64 (i : Nat)), (10, .int .i64 0)]), []⟩ = some (.normal, ⟨(sp 0 141 [(0, .slice .any (l.map Iv.c)), (1, .int .i64 0), (2, .int .i64 (l.length : Nat)), (3, .fn (.func 51) [] []), (8, .bool false), (9, .int .i64 ((i + 1 : Nat) : Int)), (10, .int .i64 0)]), []⟩) := by
        rw [e97_5_q, lt_dec hil, wpred i h0 (by omega), getI l i hil, getI l (i - 1) (by omega)]
        simp only [asInt_i, asCells_i, uncons_c, uncons_i, isNil_i, Option.bind_some, n2, n1, cond_true, Bool.not_false, wsucc i (by omega)]
      rw [iterW_eq, hr]
      exact ih (i + 1) (by omega) (by omega) hil
  have h5 := inner _ 1 rfl (by omega) (by omega)
  have hr : iterW (roundK G20 L20 (CW G20 L20) 97 none 3) ⟨(sp 0 141 [(0, .slice .any (l.map Iv.c)), (1, .int .i64 0), (2, .int .i64 (l.length : Nat)), (3, .fn (.func 51) [] []), (8, .bool false), (9, .int .i64 ((1 : Nat) : Int)), (10, .int .i64 0)]), []⟩ =
      some (.ret, ⟨(sp 0 141 [(0, .slice .any (l.map Iv.c)), (1, .int .i64 0), (2, .int .i64 (l.length : Nat)), (3, .fn (.func 51) [] []), (8, .bool true), (9, .int .i64 (l.length : Nat)), (10, .int .i64 0)]), []⟩) := by
    have hb : ((l.length : Int) == (l.length : Int)) = true := by simp
    rw [iterW_eq, e97_3_q, CW_w]
    have hc : decide ((0 : Int) < 5) = true := by decide
    rw [hc, cond_true, bind_via h5 _]
    refine Eq.trans (b := match cond ((l.length : Int) == (l.length : Int)) (some (Ex.ret, (⟨(sp 0 141 [(0, .slice .any (l.map Iv.c)), (1, .int .i64 0), (2, .int .i64 (l.length : Nat)), (3, .fn (.func 51) [] []), (8, .bool true), (9, .int .i64 (l.length : Nat)), (10, .int .i64 0)]), []⟩ : St))) (cond (decide (IntKind.wrap .i64 ((l.length : Int) - 0) < 50)) (some (Ex.ret, (⟨(sp 0 141 [(0, .slice .any (l.map Iv.c)), (1, .int .i64 0), (2, .int .i64 (l.length : Nat)), (3, .fn (.func 51) [] []), (8, .bool false), (9, .int .i64 (l.length : Nat)), (10, .int .i64 0)]), []⟩ : St))) none) with
      | some (.normal, s') => iterW (roundK G20 L20 (CW G20 L20) 97 none 3) s'
      | some (.exit id, s') => some (.exit id, s')
      | some (.ret, s') => some (.ret, s')
      | none => none) (by kernel_rfl) ?_
    rw [hb]; rfl
  refine CW_val (h := []) ?_ rfl
  rw [p97_q, CW_w]
  have hw : IntKind.wrap .i64 ((0 : Int) + 1) = ((1 : Nat) : Int) := by decide
  rw [hw]
  refine (bind_via hr _).trans ?_
  change _ = _
  kernel_rfl
theorem p77t (l : List Iv) (hs : sorted l) (hn : l.length < 50) (m : Int) (hm : 12 < l.length → m ≠ 0) : (CW G20 L20).p (.func 77) [.slice .any (l.map Iv.c), .int .i64 0, .int .i64 (l.length : Nat), .int .i64 m, .fn (.func 51) [] []] = some (.tuple []) := by
  have e0 : IntKind.wrap .i64 ((l.length : Int) - 0) = (l.length : Int) := w64 (by omega) (by omega)
  have hr : iterW (roundK G20 L20 (CW G20 L20) 77 none 2) ⟨(sp 0 148 [(0, .slice .any (l.map Iv.c)), (1, .int .i64 0), (2, .int .i64 (l.length : Nat)), (3, .int .i64 m), (4, .fn (.func 51) [] []), (10, .bool true), (11, .bool true)]), []⟩ =
      some (.ret, ⟨(sp 0 148 [(0, .slice .any (l.map Iv.c)), (1, .int .i64 0), (2, .int .i64 (l.length : Nat)), (3, .int .i64 m), (4, .fn (.func 51) [] []), (10, .bool true), (11, .bool true)]), []⟩) := by
    rw [iterW_eq, e77_2_q, e0]
    by_cases hc : l.length ≤ 12
    · have h1 : decide ((l.length : Int) ≤ 12) = true := by simp; omega
      rw [h1, cond_true, p92t l hs hn]; rfl
    · have h1 : decide ((l.length : Int) ≤ 12) = false := by simp; omega
      have h2 : (m == 0) = false := by simpa using hm (by omega)
      obtain ⟨x, hx⟩ := p95t l hs hn (by omega)
      have h3 : ((1 : Int) == 2) = false := by decide
      have h4 : ((1 : Int) == 1) = true := by decide
      rw [h1, cond_false, h2, cond_false, hx, p97t l hs hn (by omega)]
      simp only [asTuple_i, asInt_i, asBool_i, uncons_i, isNil_i, Option.bind_some, Bool.not_true, cond_false, cond_true, h3, h4]
  refine CW_val (h := []) ?_ rfl
  rw [p77_q, CW_w]
  refine (bind_via hr _).trans ?_
  change _ = _
  kernel_rfl
theorem p50t (l : List Iv) (hs : sorted l) (hn : l.length < 50) : (CW G20 L20).p (.func 50) [.slice .any (l.map Iv.c), .fn (.func 51) [] []] = some (.tuple []) := by
  refine CW_val (h := []) ?_ rfl
  have e0 : IntKind.wrap .u64 (l.length : Int) = (l.length : Int) := by
    simp [IntKind.wrap, IntKind.bits, IntKind.signed]; omega
  rw [p50_q, List.length_map, e0, p78 _ hn]
  simp only [asInt_i, Option.bind_some]
  rw [p77t l hs hn (lenT l.length) (fun h => by unfold lenT; repeat' split <;> omega)]
  rfl
end Go.Ab
