/- Soundness: the call answers true, whatever the query and the picks; conditions: none. -/
import Derived.Test.YtbfecmgiffkooaaZJ
namespace Go.Ab
set_option linter.unusedVariables false
set_option linter.unusedSimpArgs false
set_option linter.unusedSimpArgs false
set_option linter.unusedVariables false
theorem made_nar (raw : List Seg) : ∀ s ∈ Made raw, s.tube.length = 3 ∧ ∀ a ∈ s.tube, Nar a := by
  rw [Made_eq]
  have : ∀ (l : List Seg) (t : Int), ∀ s ∈ madeL t l, s.tube.length = 3 ∧ ∀ a ∈ s.tube, Nar a := by
    intro l
    induction l with
    | nil => intro t s hs; simp [madeL] at hs
    | cons x l ih =>
      intro t s hs
      simp only [madeL, List.mem_cons] at hs
      rcases hs with rfl | hs
      · exact ⟨boxOf_len _, boxOf_b _⟩
      · exact ih _ s hs
  exact this _ _
theorem made_ne (raw : List Seg) : 1 ≤ (Made raw).length := (Made_len raw).1
def befT (l : List Iv) (n : Nat) : Int := if 0 < n then (l.getD (n - 1) ⟨0, 0⟩).hi + 1 else -1099511627775
def aftT (l : List Iv) (n : Nat) : Int := if n < l.length then (l.getD n ⟨0, 0⟩).lo - 1 else 1099511627775
def freeAt (l : List Iv) (t : Iv) (n : Nat) : Bool := decide ((if t.lo > befT l n then t.lo else befT l n) ≤ (if t.hi < aftT l n then t.hi else aftT l n))
def numI (l : List Iv) : Prop := ∀ z ∈ l, number z.lo ∧ number z.hi
theorem close_num {a b : List Seg} (ha : Good a) (hb : Good b) (pos : Nat) (d : Int) : numI (closeP a b pos d) := fun z hz => by
  obtain ⟨_, k2, k3⟩ := close_spec ha.up hb.up ha.pos hb.pos pos d
  have hv := k2 z hz
  obtain ⟨p, hp, _, h1, h2⟩ := (k3 (2 * z.lo)).1 ⟨z, hz, by omega, by omega⟩
  obtain ⟨q, hq, _, h3, h4⟩ := (k3 (2 * z.hi)).1 ⟨z, hz, by omega, by omega⟩
  have p1 := ha.num _ (prod_mem hp).1
  have q1 := ha.num _ (prod_mem hq).1
  unfold number timeOf at *
  simp only at h1 h2 h3 h4
  split at h1 <;> split at h2 <;> split at h3 <;> split at h4 <;> omega
theorem free_point {l : List Iv} (ha : apartI l) (hv : validI l) {t : Iv} {n : Nat} (hn : n ≤ l.length) (h : freeAt l t n = true) : ∃ u, t.lo ≤ u ∧ u ≤ t.hi ∧ ∀ z ∈ l, ¬ (z.lo ≤ u ∧ u ≤ z.hi) := by
  unfold freeAt at h
  simp only [decide_eq_true_eq] at h
  refine ⟨if t.lo > befT l n then t.lo else befT l n, by split <;> omega, by split at h <;> split at h <;> (split <;> omega), fun z hz => ?_⟩
  obtain ⟨j, hj, rfl⟩ := List.mem_iff_getElem.1 hz
  have hp := List.pairwise_iff_getElem.1 ha
  by_cases hjn : j < n
  · have e : befT l n = (l[n - 1]'(by omega)).hi + 1 := by unfold befT; rw [if_pos (by omega), getD_at (by omega)]
    have : l[j].hi ≤ (l[n - 1]'(by omega)).hi := by
      rcases Nat.lt_or_ge j (n - 1) with k | k
      · have h1 := hp j (n - 1) hj (by omega) k
        have h2 := hv _ (List.getElem_mem (show n - 1 < l.length by omega))
        omega
      · have : j = n - 1 := by omega
        subst this
        exact Int.le_refl _
    split <;> omega
  · have hnl : n < l.length := by omega
    have e : aftT l n = l[n].lo - 1 := by unfold aftT; rw [if_pos hnl, getD_at hnl]
    have : l[n].lo ≤ l[j].lo := by
      rcases Nat.lt_or_ge n j with k | k
      · have h1 := hp n j hnl hj k
        have h2 := hv _ (List.getElem_mem hnl)
        omega
      · have : j = n := by omega
        subst this
        exact Int.le_refl _
    split at h <;> split at h <;> (split <;> omega)
theorem free_end {t : Iv} (l : List Iv) (n : Nat) (h1 : -1099511627775 ≤ t.lo) (h2 : t.hi ≤ 1099511627775) : True := trivial
def frees (l : List Iv) (t : Iv) : Bool := (List.range (l.length + 1)).foldl (fun f i => f || freeAt l t i) false
theorem fold_or (q : Nat → Bool) : ∀ (l : List Nat) (f : Bool), l.foldl (fun f i => f || q i) f = true → f = true ∨ ∃ i ∈ l, q i = true
  | [], f, h => .inl h
  | i :: l, f, h => by
    rw [List.foldl_cons] at h
    rcases fold_or q l _ h with h | ⟨j, hj, h⟩
    · rw [Bool.or_eq_true] at h
      rcases h with h | h
      · exact .inl h
      · exact .inr ⟨i, by simp, h⟩
    · exact .inr ⟨j, by simp [hj], h⟩
theorem frees_point {l : List Iv} (ha : apartI l) (hv : validI l) {t : Iv} (h : frees l t = true) : ∃ u, t.lo ≤ u ∧ u ≤ t.hi ∧ ∀ z ∈ l, ¬ (z.lo ≤ u ∧ u ≤ z.hi) := by
  unfold frees at h
  rcases fold_or _ _ _ h with h | ⟨i, hi, h⟩
  · cases h
  · rw [List.mem_range] at hi
    exact free_point ha hv (by omega) h
set_option maxRecDepth 100000 in
theorem h4 (A B : List Seg) (N : Nat) (D : Int) (t : Iv) (s : Int) (l : List Iv) (hl : l.length ≤ 1000) (hn : numI l) : iterW (roundK G20 L20 (CW G20 L20) 4 none 13) ⟨(sp 0 154 [(7, .bool true), (8, .slice .any (A.map Seg.c)), (9, .slice .any (B.map Seg.c)), (10, .box [.int .i64 (N : Nat), .int .i64 D]), (13, .box [.int .i64 t.lo, .int .i64 t.hi]), (17, .int .i64 s), (18, .slice .any (l.map Iv.c)), (19, .bool false), (20, .int .i64 ((0 : Nat) : Int))]), []⟩ =
    some (.exit 0, ⟨(sp 0 154 [(7, .bool true), (8, .slice .any (A.map Seg.c)), (9, .slice .any (B.map Seg.c)), (10, .box [.int .i64 (N : Nat), .int .i64 D]), (13, .box [.int .i64 t.lo, .int .i64 t.hi]), (17, .int .i64 s), (18, .slice .any (l.map Iv.c)), (19, .bool (frees l t)), (20, .int .i64 ((l.length + 1 : Nat) : Int))]), []⟩) := by
  have := (iterW_foldlN (round := roundK G20 L20 (CW G20 L20) 4 none 13)
    (S := fun i (f : Bool) => ⟨(sp 0 154 [(7, .bool true), (8, .slice .any (A.map Seg.c)), (9, .slice .any (B.map Seg.c)), (10, .box [.int .i64 (N : Nat), .int .i64 D]), (13, .box [.int .i64 t.lo, .int .i64 t.hi]), (17, .int .i64 s), (18, .slice .any (l.map Iv.c)), (19, .bool f), (20, .int .i64 ((i : Nat) : Int))]), []⟩)
    (fun f i => f || freeAt l t i) (fun _ _ => True) (List.range (l.length + 1)) (id := 0) (fun i hi f _ => ⟨?_, trivial⟩) (fun f _ => ?_) false trivial).1
  · rw [List.length_range] at this
    exact this
  · rw [List.length_range] at hi
    rw [List.getElem_range, e4_13]
    have hs := wsucc i (by omega)
    have hp : 0 < i → IntKind.wrap .i64 ((i : Int) - 1) = ((i - 1 : Nat) : Int) := fun h => by rw [w64 (by omega) (by omega)]; omega
    rw [List.length_map, decide_eq_true (show ((i : Nat) : Int) ≤ ((l.length : Nat) : Int) by omega), cond_true]
    have bef : ∀ (h : 0 < i), (l[i - 1]'(by omega)).hi + 1 = befT l i ∧ IntKind.wrap .i64 ((l[i - 1]'(by omega)).hi + 1) = (l[i - 1]'(by omega)).hi + 1 := fun h => by
      have := hn _ (List.getElem_mem (show i - 1 < l.length by omega))
      unfold number at this
      exact ⟨by unfold befT; rw [if_pos h, getD_at (by omega)], w64 (by omega) (by omega)⟩
    have aft : ∀ (h : i < l.length), l[i].lo - 1 = aftT l i ∧ IntKind.wrap .i64 (l[i].lo - 1) = l[i].lo - 1 := fun h => by
      have := hn _ (List.getElem_mem h)
      unfold number at this
      exact ⟨by unfold aftT; rw [if_pos h, getD_at h], w64 (by omega) (by omega)⟩
    have bef0 : ¬ 0 < i → (-1099511627775 : Int) = befT l i := fun h => by unfold befT; rw [if_neg h]
    have aft0 : ¬ i < l.length → (1099511627775 : Int) = aftT l i := fun h => by unfold aftT; rw [if_neg h]
    by_cases h0 : 0 < i
    · have hg1 := getI l (i - 1) (by omega)
      obtain ⟨k1, k2⟩ := bef h0
      rw [k1] at k2
      rw [decide_eq_true (show ((i : Nat) : Int) > 0 by omega), cond_true, hp h0]
      by_cases h1 : i < l.length
      · obtain ⟨k3, k4⟩ := aft h1
        rw [k3] at k4
        have hg2 := getI l i h1
        simp only [hg1, hg2, lt_dec h1, asInt_i, asBool_i, asRows_i, asCells_i, asTuple_i, asBox_i, asObCells_i, asLoop_i, uncons_i, unconsO_i, isNil_i, asPtr_i, asFn_f, asFn_y, asArr_i, asObArr_t, asObArr_f, isReady_i, isBusy_i, uncons_c, uncons_sc, arrRows_i, Option.bind_some, Option.bind_none, cond_true, cond_false, cond_dec, cond_not, k2, k4, k1, k3, hs]
        cases f <;> rfl
      · rw [decide_eq_false (show ¬ ((i : Nat) : Int) < ((l.length : Nat) : Int) by omega)]
        have k3 := aft0 h1
        simp only [hg1, asInt_i, asBool_i, asRows_i, asCells_i, asTuple_i, asBox_i, asObCells_i, asLoop_i, uncons_i, unconsO_i, isNil_i, asPtr_i, asFn_f, asFn_y, asArr_i, asObArr_t, asObArr_f, isReady_i, isBusy_i, uncons_c, uncons_sc, arrRows_i, Option.bind_some, Option.bind_none, cond_true, cond_false, cond_dec, cond_not, k2, k1, hs, k3]
        cases f <;> rfl
    · have k1 := bef0 h0
      rw [decide_eq_false (show ¬ ((i : Nat) : Int) > 0 by omega), cond_false]
      by_cases h1 : i < l.length
      · obtain ⟨k3, k4⟩ := aft h1
        rw [k3] at k4
        have hg2 := getI l i h1
        simp only [hg2, lt_dec h1, asInt_i, asBool_i, asRows_i, asCells_i, asTuple_i, asBox_i, asObCells_i, asLoop_i, uncons_i, unconsO_i, isNil_i, asPtr_i, asFn_f, asFn_y, asArr_i, asObArr_t, asObArr_f, isReady_i, isBusy_i, uncons_c, uncons_sc, arrRows_i, Option.bind_some, Option.bind_none, cond_true, cond_false, cond_dec, cond_not, k4, k3, k1, hs]
        cases f <;> rfl
      · rw [decide_eq_false (show ¬ ((i : Nat) : Int) < ((l.length : Nat) : Int) by omega)]
        have k3 := aft0 h1
        unfold freeAt
        rw [← k1, ← k3]
        simp only [asInt_i, asBool_i, asRows_i, asCells_i, asTuple_i, asBox_i, asObCells_i, asLoop_i, uncons_i, unconsO_i, isNil_i, asPtr_i, asFn_f, asFn_y, asArr_i, asObArr_t, asObArr_f, isReady_i, isBusy_i, uncons_c, uncons_sc, arrRows_i, Option.bind_some, Option.bind_none, cond_true, cond_false, cond_dec, cond_not, hs]
        cases f <;> rfl
  · rw [List.length_range, e4_13, List.length_map, decide_eq_false (show ¬ (((l.length + 1 : Nat) : Int) ≤ ((l.length : Nat) : Int)) by omega)]
    rfl
set_option maxRecDepth 100000 in
theorem p4 (a b : List Seg) (n d z0 z1 p0 p1 p2 p3 p4 p5 : Int) (hn : 0 ≤ n) (y0 : 0 ≤ z0 ∧ z0 ≤ 255) (y1 : 0 ≤ z1 ∧ z1 ≤ 255) (u0 : U32 p0) (u1 : U32 p1) (u2 : U32 p2) (u3 : U32 p3) (u4 : U32 p4) (u5 : U32 p5) :
    (CW G20 L20).p (.func 4) [.agg [.slice .any (a.map Seg.c), .slice .any (b.map Seg.c), .int .u8 n, .int .i64 d], .agg [.int .u8 z0, .int .u8 z1], .agg [.int .u32 p0, .int .u32 p1, .int .u32 p2, .int .u32 p3, .int .u32 p4, .int .u32 p5]] = some (.bool true) := by
  refine CW_val (h := []) ?_ rfl
  have hA := made_good a
  have hB := made_good b
  have nA := made_nar a
  have nB := made_nar b
  have lA := made_ne a
  have lB := made_ne b
  have hp := posOf_b n hn
  have h0 := (dOf_b d).1
  have h1 := (dOf_b d).2
  rw [e4, p12 a b n d hn]
  simp only [p11, asInt_i, asBool_i, asRows_i, asCells_i, asTuple_i, asBox_i, asObCells_i, asLoop_i, uncons_i, unconsO_i, isNil_i, asPtr_i, asFn_f, asFn_y, asArr_i, asObArr_t, asObArr_f, isReady_i, isBusy_i, uncons_c, uncons_sc, arrRows_i, Option.bind_some, Option.bind_none, cond_true, cond_false, cond_dec, cond_not]
  generalize Made a = A at *
  generalize Made b = B at *
  generalize dOf d = D at *
  generalize posOf n = N at *
  have hp1 := hp.1
  have hp3 := hp.2.1
  have hlA := hA.len
  have hlB := hB.len
  -- the two segments
  have pickAt : ∀ (L : List Seg) (z : Int), 1 ≤ L.length → L.length ≤ 6 → 0 ≤ z ∧ z ≤ 255 → ∃ (i : Nat) (hi : i < L.length), Int.tmod (IntKind.wrap .i64 z) (((L.map Seg.c).length : Nat) : Int) = ((i : Nat) : Int) := fun L z h1 h6 hz => by
    have w : IntKind.wrap .i64 z = z := w64 (by omega) (by omega)
    have b1 := tmod_b z (L.length : Int) (by omega)
    have b2 := tmod_nn z (L.length : Int) hz.1
    rw [w, List.length_map]
    exact ⟨(z.tmod (L.length : Int)).toNat, by omega, by omega⟩
  obtain ⟨i, hi, ei⟩ := pickAt A z0 lA hA.len y0
  obtain ⟨k, hk, ek⟩ := pickAt B z1 lB hB.len y1
  have zA : ((((A.map Seg.c).length : Nat) : Int) == 0) = false := by rw [List.length_map, beq_eq_false_iff_ne]; omega
  have zB : ((((B.map Seg.c).length : Nat) : Int) == 0) = false := by rw [List.length_map, beq_eq_false_iff_ne]; omega
  have g1 := getS A i hi
  have g2 := getS B k hk
  have mx := List.getElem_mem hi
  have my := List.getElem_mem hk
  have ox := hA.ok _ mx
  have oy := hB.ok _ my
  obtain ⟨x3, xn⟩ := nA _ mx
  obtain ⟨y3, yn⟩ := nB _ my
  have px := hA.pos _ mx
  have py := hB.pos _ my
  rw [zA, cond_false, ei, g1]
  generalize A[i] = x at *
  simp only [asInt_i, asBool_i, asRows_i, asCells_i, asTuple_i, asBox_i, asObCells_i, asLoop_i, uncons_i, unconsO_i, isNil_i, asPtr_i, asFn_f, asFn_y, asArr_i, asObArr_t, asObArr_f, isReady_i, isBusy_i, uncons_c, uncons_sc, arrRows_i, Option.bind_some, Option.bind_none, cond_true, cond_false, cond_dec, cond_not]
  rw [zB, cond_false, ek, g2]
  generalize B[k] = y at *
  have q25 := p25 x3 y3 xn yn u0 u1 u2 u3 u4 u5 N hp3
  obtain ⟨ds, d1, d2, d3⟩ := sqs_in x3 y3 xn yn u0 u1 u2 u3 u4 u5 N hp1 hp3
  simp only [asInt_i, asBool_i, asRows_i, asCells_i, asTuple_i, asBox_i, asObCells_i, asLoop_i, uncons_i, unconsO_i, isNil_i, asPtr_i, asFn_f, asFn_y, asArr_i, asObArr_t, asObArr_f, isReady_i, isBusy_i, uncons_c, uncons_sc, arrRows_i, Option.bind_some, Option.bind_none, cond_true, cond_false, cond_dec, cond_not, p24' x ox, p24' y oy, p23, g15 hA hB hp3]
  cases his : isect x.time y.time with
  | false => rfl
  | true =>
    have hpr : (x, y) ∈ prod A B := by
      rw [prod_mem_iff hA.up hB.up hA.pos hB.pos]
      have := (isect_iff px py).1 his
      exact ⟨mx, my, this.1, this.2⟩
    have hany := min_any hA.up hB.up hA.pos hB.pos hpr N
    have ht := inter_time his
    simp only [Bool.not_true, cond_false, q25, hany, p26, asInt_i, asBool_i, asRows_i, asCells_i, asTuple_i, asBox_i, asObCells_i, asLoop_i, uncons_i, unconsO_i, isNil_i, asPtr_i, asFn_f, asFn_y, asArr_i, asObArr_t, asObArr_f, isReady_i, isBusy_i, uncons_c, uncons_sc, arrRows_i, Option.bind_some, Option.bind_none, cond_true, cond_false, cond_dec, cond_not]
    have hsep : nears N D (x, y) = false → D * D < sqs x.tube y.tube p0 p1 p2 p3 p4 p5 N := fun h => by
      unfold nears at h
      simp only [Bool.not_eq_false'] at h
      have := sepd_in h0 d1 h
      omega
    obtain ⟨c1, c2, _⟩ := close_spec hA.up hB.up hA.pos hB.pos N D
    have hfree : frees (closeP A B N D) (inter x.time y.time) = true → D * D < sqs x.tube y.tube p0 p1 p2 p3 p4 p5 N := fun h => by
      obtain ⟨u, v1, v2, v3⟩ := frees_point c1 c2 h
      refine hsep ?_
      cases hne : nears N D (x, y) with
      | false => rfl
      | true =>
        rw [ht] at v1 v2
        obtain ⟨z, hz, z1, z2⟩ := near_hits hA.up hB.up hA.pos hB.pos hpr hne v1 v2
        exact absurd ⟨z1, z2⟩ (v3 z hz)
    have hclear : (classP A B N D == 1) = true → D * D < sqs x.tube y.tube p0 p1 p2 p3 p4 p5 N := fun h => by
      refine hsep ?_
      cases hne : nears N D (x, y) with
      | false => rfl
      | true =>
        have := (near_any hA.up hB.up hA.pos hB.pos N D).2 ⟨_, hpr, hne⟩
        unfold classP at h
        rw [this] at h
        unfold verd at h
        simp only [cond_true] at h
        split at h <;> cases h
    have hw : IntKind.wrap .i64 (D * D) = D * D := by
      have := small_sq h0 (show D ≤ 2147483648 by omega)
      unfold small at this
      exact w64 (by omega) (by omega)
    have hlen : (closeP A B N D).length ≤ 1000 := by
      have h := times_len hA.up hB.up hA.pos hB.pos N D
      have h2 := mul36 hA.len hB.len
      have h3 := merges_len (timesOf A B N D) []
      unfold closeP
      simp only [List.length_nil] at h3
      omega
    have hloop := h4 A B N D (inter x.time y.time) (sqs x.tube y.tube p0 p1 p2 p3 p4 p5 N) (closeP A B N D) hlen (close_num hA hB N D)
    have q18 := g18 hA hB hp3 h0 h1
    have q21 := g21 hA hB hp3 h0 h1
    have hlo : (minD A B N).1.isW = false → ¬ (sqs x.tube y.tube p0 p1 p2 p3 p4 p5 N < IntKind.wrap .i64 ((minD A B N).1.lo * 65536)) := fun hW => by
      have k := min_lo hA.up hB.up hA.pos hB.pos hpr N d1 hW
      have hv : number (minD A B N).1.lo := by
        rw [minD_of hA.up hB.up hA.pos hB.pos] at hW ⊢
        unfold minOf at hW ⊢
        cases hc : ((prod A B).map (dist N)).isEmpty with
        | true => unfold number; simp only [cond_true]; omega
        | false =>
          rw [hc] at hW
          simp only [cond_false] at hW ⊢
          obtain ⟨e, n1, _⟩ := new_notW hW
          rw [e]; exact n1
      unfold number at hv
      rw [w64 (by omega) (by omega)]
      omega
    simp only [CW_w, Iv.eta]
    cases hW : (minD A B N).1.isW with
    | false =>
      rw [cond_false, if_neg (hlo hW), q21]
      simp only [asInt_i, asBool_i, asRows_i, asCells_i, asTuple_i, asBox_i, asObCells_i, asLoop_i, uncons_i, unconsO_i, isNil_i, asPtr_i, asFn_f, asFn_y, asArr_i, asObArr_t, asObArr_f, isReady_i, isBusy_i, uncons_c, uncons_sc, arrRows_i, Option.bind_some, Option.bind_none, cond_true, cond_false, cond_dec, cond_not]
      refine (bind_via hloop _).trans ?_
      refine Eq.trans (b := ((CW G20 L20).p (.func 18) [.slice .any (A.map Seg.c), .slice .any (B.map Seg.c), .agg [.int .i64 (N : Nat), .int .i64 D]]).bind fun u1 => (asInt .i64 u1).bind fun u2 =>
        cond (frees (closeP A B N D) (inter x.time y.time)) (if sqs x.tube y.tube p0 p1 p2 p3 p4 p5 N > IntKind.wrap .i64 (D * D) then some (.bool true, []) else some (.bool false, ([] : List Ob))) (cond (u2 == 1) (if sqs x.tube y.tube p0 p1 p2 p3 p4 p5 N > IntKind.wrap .i64 (D * D) then some (.bool true, []) else some (.bool false, [])) (some (.bool true, [])))) (by kernel_rfl) ?_
      rw [q18, hw]
      simp only [asInt_i, Option.bind_some]
      cases hf : frees (closeP A B N D) (inter x.time y.time) with
      | true => rw [if_pos (hfree hf)]; rfl
      | false =>
        cases hc : (classP A B N D == 1) with
        | true => rw [if_pos (hclear hc)]; rfl
        | false => rfl
    | true =>
      rw [cond_true, q21]
      simp only [asInt_i, asBool_i, asRows_i, asCells_i, asTuple_i, asBox_i, asObCells_i, asLoop_i, uncons_i, unconsO_i, isNil_i, asPtr_i, asFn_f, asFn_y, asArr_i, asObArr_t, asObArr_f, isReady_i, isBusy_i, uncons_c, uncons_sc, arrRows_i, Option.bind_some, Option.bind_none, cond_true, cond_false, cond_dec, cond_not]
      refine (bind_via hloop _).trans ?_
      refine Eq.trans (b := ((CW G20 L20).p (.func 18) [.slice .any (A.map Seg.c), .slice .any (B.map Seg.c), .agg [.int .i64 (N : Nat), .int .i64 D]]).bind fun u1 => (asInt .i64 u1).bind fun u2 =>
        cond (frees (closeP A B N D) (inter x.time y.time)) (if sqs x.tube y.tube p0 p1 p2 p3 p4 p5 N > IntKind.wrap .i64 (D * D) then some (.bool true, []) else some (.bool false, ([] : List Ob))) (cond (u2 == 1) (if sqs x.tube y.tube p0 p1 p2 p3 p4 p5 N > IntKind.wrap .i64 (D * D) then some (.bool true, []) else some (.bool false, [])) (some (.bool true, [])))) (by kernel_rfl) ?_
      rw [q18, hw]
      simp only [asInt_i, Option.bind_some]
      cases hf : frees (closeP A B N D) (inter x.time y.time) with
      | true => rw [if_pos (hfree hf)]; rfl
      | false =>
        cases hc : (classP A B N D == 1) with
        | true => rw [if_pos (hclear hc)]; rfl
        | false => rfl
end Go.Ab
