/- Symmetry and Times: the calls answer true, whatever the query; conditions: none. -/
import Derived.Test.YtbfecmgiffkooaaY3
import Derived.Test.YtbfecmgiffkooaaE7
namespace Go.Ab
set_option linter.unusedVariables false
set_option linter.unusedSimpArgs false
set_option linter.unusedSimpArgs false
set_option linter.unusedVariables false
set_option maxRecDepth 100000 in
theorem p6 (a b : List Seg) (n d : Int) (hn : 0 ≤ n) : (CW G20 L20).p (.func 6) [.agg [.slice .any (a.map Seg.c), .slice .any (b.map Seg.c), .int .u8 n, .int .i64 d]] = some (.bool true) := by
  refine CW_val (h := []) ?_ rfl
  have hA := made_good a
  have hB := made_good b
  have hp : posOf n ≤ 3 := (posOf_b n hn).2.1
  have h0 := (dOf_b d).1
  have h1 := (dOf_b d).2
  rw [e6, p12 a b n d hn]
  simp only [p11, asInt_i, asBool_i, asRows_i, asCells_i, asTuple_i, asBox_i, asObCells_i, asLoop_i, uncons_i, unconsO_i, isNil_i, asPtr_i, asFn_f, asFn_y, asArr_i, asObArr_t, asObArr_f, isReady_i, isBusy_i, uncons_c, uncons_sc, arrRows_i, Option.bind_some, Option.bind_none, cond_true, cond_false, cond_dec, cond_not]
  generalize Made a = A at *
  generalize Made b = B at *
  generalize dOf d = D at *
  generalize posOf n = N at *
  obtain ⟨s1, s2, s3⟩ := swap_all hA.up hB.up hA.pos hB.pos N D
  have q13 := g13 hB hA
  have q15 := g15 hB hA hp
  have q18 := g18 hB hA hp h0 h1
  have q21 := g21 hB hA hp h0 h1
  rw [common_swap A B] at q13
  rw [s1] at q15
  rw [s2] at q18
  rw [s3] at q21
  simp only [g13 hA hB, q13, g15 hA hB hp, q15, g18 hA hB hp h0 h1, q18, g21 hA hB hp h0 h1, q21, g20 hA hB hp h0 h1, p17s, beq_self_eq_true, asInt_i, asBool_i, asRows_i, asCells_i, asTuple_i, asBox_i, asObCells_i, asLoop_i, uncons_i, unconsO_i, isNil_i, asPtr_i, asFn_f, asFn_y, asArr_i, asObArr_t, asObArr_f, isReady_i, isBusy_i, uncons_c, uncons_sc, arrRows_i, Option.bind_some, Option.bind_none, cond_true, cond_false, cond_dec, cond_not]
/-! Times. -/
theorem p30 (x y u v : Int) : (CW G20 L20).p (.func 30) [.agg [.int .i64 x, .int .i64 y], .agg [.int .i64 u, .int .i64 v]] = some (.bool (decide (u ≤ x) && decide (y ≤ v))) := by
  refine CW_val (h := []) ?_ rfl
  rw [e30]
  cases decide (u ≤ x) <;> rfl
theorem up_head {l : List Seg} (h : upT l) {x y : Seg} (hh : l.head? = some x) (hy : y ∈ l) : x.t ≤ y.t := by
  cases l with
  | nil => simp at hh
  | cons z l =>
    simp only [List.head?_cons, Option.some.injEq] at hh
    subst hh
    rcases List.mem_cons.1 hy with rfl | hy
    · exact Int.le_refl _
    · exact ((List.pairwise_cons.1 h).1 y hy).1
theorem up_last {l : List Seg} (h : upT l) {x y : Seg} (hh : l.getLast? = some x) (hy : y ∈ l) : y.fin ≤ x.fin := by
  rcases List.eq_nil_or_concat l with rfl | ⟨k, z, rfl⟩
  · simp at hy
  · simp only [List.concat_eq_append] at h hy hh
    simp only [List.getLast?_append, List.getLast?_singleton, Option.some_or, Option.some.injEq] at hh
    subst hh
    rcases List.mem_append.1 hy with hy | hy
    · exact ((List.pairwise_append.1 h).2.2 y hy z (by simp)).2.1
    · simp only [List.mem_singleton] at hy
      subst hy
      exact Int.le_refl _
theorem common_in {a b : List Seg} (ha : upT a) (hb : upT b) (pa : posH a) (pb : posH b) {p : Seg × Seg} (hp : p ∈ prod a b) : (commonT a b).2 = true ∧ (commonT a b).1.lo ≤ (timeOf p.1 p.2).lo ∧ (timeOf p.1 p.2).hi ≤ (commonT a b).1.hi := by
  obtain ⟨h1, h2, h3, h4⟩ := (prod_mem_iff ha hb pa pb).1 hp
  have hx := pa _ h1
  have hy := pb _ h2
  have na : a ≠ [] := List.ne_nil_of_mem h1
  have nb : b ≠ [] := List.ne_nil_of_mem h2
  obtain ⟨x, ex⟩ : ∃ x, a.head? = some x := by cases a with | nil => exact absurd rfl na | cons x l => exact ⟨x, rfl⟩
  obtain ⟨y, ey⟩ : ∃ y, b.head? = some y := by cases b with | nil => exact absurd rfl nb | cons x l => exact ⟨x, rfl⟩
  obtain ⟨x', ex'⟩ : ∃ x, a.getLast? = some x := ⟨_, List.getLast?_eq_some_getLast na⟩
  obtain ⟨y', ey'⟩ : ∃ x, b.getLast? = some x := ⟨_, List.getLast?_eq_some_getLast nb⟩
  have k1 := up_head ha ex h1
  have k2 := up_head hb ey h2
  have k3 := up_last ha ex' h1
  have k4 := up_last hb ey' h2
  have hi : isect ⟨x.t, x'.fin⟩ ⟨y.t, y'.fin⟩ = true := by
    unfold isect
    simp only [Bool.not_eq_true', decide_eq_false_iff_not]
    unfold Seg.fin at *
    split <;> split <;> omega
  unfold commonT
  rw [ex, ey, ex', ey']
  simp only
  refine ⟨hi, ?_⟩
  unfold inter
  rw [hi]
  simp only [cond_true, timeOf]
  refine ⟨?_, ?_⟩ <;> split <;> split <;> omega
theorem close_in {a b : List Seg} (ha : upT a) (hb : upT b) (pa : posH a) (pb : posH b) (pos : Nat) (d : Int) {z : Iv} (hz : z ∈ closeP a b pos d) : (commonT a b).2 = true ∧ (commonT a b).1.lo ≤ z.lo ∧ z.hi ≤ (commonT a b).1.hi := by
  obtain ⟨_, k2, k3⟩ := close_spec ha hb pa pb pos d
  have hv := k2 z hz
  obtain ⟨p, hp, _, h1, h2⟩ := (k3 (2 * z.lo)).1 ⟨z, hz, by omega, by omega⟩
  obtain ⟨q, hq, _, h3, h4⟩ := (k3 (2 * z.hi)).1 ⟨z, hz, by omega, by omega⟩
  obtain ⟨c1, c2, c3⟩ := common_in ha hb pa pb hp
  obtain ⟨_, c4, c5⟩ := common_in ha hb pa pb hq
  exact ⟨c1, by omega, by omega⟩
theorem class_one (a b : List Seg) (pos : Nat) (d : Int) : ((((closeP a b pos d).length : Nat) : Int) == 0) = (classP a b pos d == 1) := by
  have h := close_empty a b pos d
  have e : ((((closeP a b pos d).length : Nat) : Int) == 0) = (closeP a b pos d).isEmpty := by
    cases closeP a b pos d <;> simp
    omega
  rw [e, h]
  unfold classP verd
  cases (pairsOf a b).any (nears pos d) with
  | false => rfl
  | true =>
    simp only [cond_true]
    split <;> rfl
set_option maxRecDepth 100000 in
theorem h9 {A B : List Seg} (hA : Good A) (hB : Good B) (N : Nat) (D : Int) : iterW (roundK G20 L20 (CW G20 L20) 9 none 6) ⟨(sp 0 96 [(2, .bool false), (3, .bool true), (4, .slice .any (A.map Seg.c)), (5, .slice .any (B.map Seg.c)), (6, .box [.int .i64 (N : Nat), .int .i64 D]), (7, .slice .any ((closeP A B N D).map Iv.c)), (8, .box [.int .i64 (commonT A B).1.lo, .int .i64 (commonT A B).1.hi]), (9, .bool (commonT A B).2), (10, .int .i64 ((0 : Nat) : Int))]), []⟩ =
    some (.exit 0, ⟨(sp 0 96 [(2, .bool false), (3, .bool true), (4, .slice .any (A.map Seg.c)), (5, .slice .any (B.map Seg.c)), (6, .box [.int .i64 (N : Nat), .int .i64 D]), (7, .slice .any ((closeP A B N D).map Iv.c)), (8, .box [.int .i64 (commonT A B).1.lo, .int .i64 (commonT A B).1.hi]), (9, .bool (commonT A B).2), (10, .int .i64 (((closeP A B N D).length : Nat) : Int))]), []⟩) := by
  have hlen : (closeP A B N D).length ≤ 36 := by
    have h := times_len hA.up hB.up hA.pos hB.pos N D
    have h2 := mul36 hA.len hB.len
    have h3 := merges_len (timesOf A B N D) []
    unfold closeP
    simp only [List.length_nil] at h3
    omega
  obtain ⟨k1, k2, _⟩ := close_spec hA.up hB.up hA.pos hB.pos N D
  have hin : ∀ z ∈ closeP A B N D, _ := fun z hz => close_in hA.up hB.up hA.pos hB.pos N D hz
  refine (iterW_foldlN (round := roundK G20 L20 (CW G20 L20) 9 none 6)
    (S := fun i (_ : Unit) => ⟨(sp 0 96 [(2, .bool false), (3, .bool true), (4, .slice .any (A.map Seg.c)), (5, .slice .any (B.map Seg.c)), (6, .box [.int .i64 (N : Nat), .int .i64 D]), (7, .slice .any ((closeP A B N D).map Iv.c)), (8, .box [.int .i64 (commonT A B).1.lo, .int .i64 (commonT A B).1.hi]), (9, .bool (commonT A B).2), (10, .int .i64 ((i : Nat) : Int))]), []⟩)
    (fun _ _ => ()) (fun _ _ => True) (closeP A B N D) (id := 0) (fun i hi _ _ => ⟨?_, trivial⟩) (fun _ _ => ?_) () trivial).1
  · have hz : (closeP A B N D)[i] ∈ closeP A B N D := List.getElem_mem hi
    obtain ⟨c1, c2, c3⟩ := hin _ hz
    have hv := k2 _ hz
    rw [e9_6]
    have hs := wsucc i (by omega)
    have hp : 0 < i → IntKind.wrap .i64 ((i : Int) - 1) = ((i - 1 : Nat) : Int) := fun h => by rw [w64 (by omega) (by omega)]; omega
    have hg := getI (closeP A B N D) i hi
    have hq : ∀ h : 0 < i, (closeP A B N D)[i - 1].hi < (closeP A B N D)[i].lo := fun h => List.pairwise_iff_getElem.1 k1 (i - 1) i (by omega) hi (by omega)
    have hg1 : 0 < i → getRow ((closeP A B N D).map Iv.c) ((i - 1 : Nat) : Int) 2 = some (closeP A B N D)[i - 1].c := fun h => getI _ _ _
    simp only [List.length_map, lt_dec hi, hg, c1, c2, c3, asInt_i, asBool_i, asRows_i, asCells_i, asTuple_i, asBox_i, asObCells_i, asLoop_i, uncons_i, unconsO_i, isNil_i, asPtr_i, asFn_f, asFn_y, asArr_i, asObArr_t, asObArr_f, isReady_i, isBusy_i, uncons_c, uncons_sc, arrRows_i, Option.bind_some, Option.bind_none, cond_true, cond_false, cond_dec, cond_not, p30, decide_true, Bool.and_true, Bool.not_true, hs]
    rw [if_neg (show ¬ (closeP A B N D)[i].lo > (closeP A B N D)[i].hi by omega)]
    by_cases h : 0 < i
    · have q := hq h
      rw [if_pos (show ((i : Int) > 0) by omega), hp h, hg1 h]
      simp only [asInt_i, asBool_i, asRows_i, asCells_i, asTuple_i, asBox_i, asObCells_i, asLoop_i, uncons_i, unconsO_i, isNil_i, asPtr_i, asFn_f, asFn_y, asArr_i, asObArr_t, asObArr_f, isReady_i, isBusy_i, uncons_c, uncons_sc, arrRows_i, Option.bind_some, Option.bind_none, cond_true, cond_false, cond_dec, cond_not]
      rw [if_neg (show ¬ (closeP A B N D)[i - 1].hi ≥ (closeP A B N D)[i].lo by omega)]
      simp only [if_true]
    · rw [if_neg (show ¬ ((i : Int) > 0) by omega)]
      simp only [if_true]
  · rw [e9_6]
    simp only [List.length_map, lt_decn, cond_false]
set_option maxRecDepth 100000 in
theorem p9 (a b : List Seg) (n d : Int) (hn : 0 ≤ n) : (CW G20 L20).p (.func 9) [.agg [.slice .any (a.map Seg.c), .slice .any (b.map Seg.c), .int .u8 n, .int .i64 d]] = some (.bool true) := by
  refine CW_val (h := []) ?_ rfl
  have hA := made_good a
  have hB := made_good b
  have hp : posOf n ≤ 3 := (posOf_b n hn).2.1
  have h0 := (dOf_b d).1
  have h1 := (dOf_b d).2
  rw [e9, p12 a b n d hn]
  simp only [p11, asInt_i, asBool_i, asRows_i, asCells_i, asTuple_i, asBox_i, asObCells_i, asLoop_i, uncons_i, unconsO_i, isNil_i, asPtr_i, asFn_f, asFn_y, asArr_i, asObArr_t, asObArr_f, isReady_i, isBusy_i, uncons_c, uncons_sc, arrRows_i, Option.bind_some, Option.bind_none, cond_true, cond_false, cond_dec, cond_not]
  generalize Made a = A at *
  generalize Made b = B at *
  generalize dOf d = D at *
  generalize posOf n = N at *
  simp only [g13 hA hB, g21 hA hB hp h0 h1, asInt_i, asBool_i, asRows_i, asCells_i, asTuple_i, asBox_i, asObCells_i, asLoop_i, uncons_i, unconsO_i, isNil_i, asPtr_i, asFn_f, asFn_y, asArr_i, asObArr_t, asObArr_f, isReady_i, isBusy_i, uncons_c, uncons_sc, arrRows_i, Option.bind_some, Option.bind_none, cond_true, cond_false, cond_dec, cond_not, CW_w]
  have hl := h9 hA hB N D
  have hc := class_one A B N D
  have hlast : (commonT A B).2 = false → closeP A B N D = [] := fun h => by
    cases hcl : closeP A B N D with
    | nil => rfl
    | cons z l =>
      have := close_in hA.up hB.up hA.pos hB.pos N D (z := z) (by rw [hcl]; simp)
      rw [h] at this
      cases this.1
  have q18 := g18 hA hB hp h0 h1
  refine (bind_via hl _).trans ?_
  refine Eq.trans (b := (((CW G20 L20).p (.func 18) [.slice .any (A.map Seg.c), .slice .any (B.map Seg.c), .agg [.int .i64 (N : Nat), .int .i64 D]]).bind fun x52 =>
     (asInt .i64 (x52)).bind fun x53 =>
     cond ((((((closeP A B N D).map Iv.c).length : Nat) : Int) == 0) == (x53 == 1)) (
      cond (commonT A B).2 (
       some (.bool true, [])) (
       cond (((((closeP A B N D).map Iv.c).length : Nat) : Int) == 0) (
        some (.bool true, [])) (
        some (.bool false, [])))) (
      some (.bool false, ([] : List Ob))))) (by kernel_rfl) ?_
  rw [q18]
  simp only [asInt_i, asBool_i, asRows_i, asCells_i, asTuple_i, asBox_i, asObCells_i, asLoop_i, uncons_i, unconsO_i, isNil_i, asPtr_i, asFn_f, asFn_y, asArr_i, asObArr_t, asObArr_f, isReady_i, isBusy_i, uncons_c, uncons_sc, arrRows_i, Option.bind_some, Option.bind_none, cond_true, cond_false, cond_dec, cond_not, List.length_map, hc, beq_self_eq_true]
  cases hcm : (commonT A B).2 with
  | true => rfl
  | false =>
    rw [hlast hcm] at hc
    rw [← hc]; rfl
end Go.Ab
