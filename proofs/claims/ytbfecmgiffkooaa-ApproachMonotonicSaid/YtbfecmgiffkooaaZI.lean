/- The plain law of distances: points of boxes, gaps and enclosures; conditions: none. -/
import Derived.Test.YtbfecmgiffkooaaY3
namespace Go.Ab
set_option linter.unusedVariables false
set_option linter.unusedSimpArgs false
set_option linter.unusedVariables false
/-- Differences of points of two boxes. -/
def Diffs : List (Iv × Iv) → List Int → Prop
  | [], ds => ds = []
  | p :: l, ds => ∃ d ds', ds = d :: ds' ∧ (p.1.lo - p.2.hi ≤ d ∧ d ≤ p.1.hi - p.2.lo) ∧ Diffs l ds'
def ssq : List Int → Int
  | [] => 0
  | d :: l => d * d + ssq l
theorem sq_nn (d : Int) : 0 ≤ d * d := by
  rcases Int.le_total 0 d with h | h
  · exact Int.mul_nonneg h h
  · exact Int.mul_nonneg_of_nonpos_of_nonpos h h
theorem ssq_nn : ∀ l : List Int, 0 ≤ ssq l
  | [] => Int.le_refl _
  | d :: l => by have := sq_nn d; have := ssq_nn l; simp only [ssq]; omega
theorem sq_le {n d : Int} (h0 : 0 ≤ n) (h : n ≤ d ∨ n ≤ -d) : n * n ≤ d * d := by
  rcases h with h | h
  · exact Int.mul_le_mul h h h0 (by omega)
  · have : n * n ≤ (-d) * (-d) := Int.mul_le_mul h h h0 (by omega)
    rwa [Int.neg_mul_neg] at this
theorem sq_le2 {n d : Int} (h : d ≤ n) (h2 : -d ≤ n) : d * d ≤ n * n := by
  rcases Int.le_total 0 d with k | k
  · exact Int.mul_le_mul h h k (by omega)
  · have : (-d) * (-d) ≤ n * n := Int.mul_le_mul h2 h2 (by omega) (by omega)
    rwa [Int.neg_mul_neg] at this
theorem sq_lt {n d : Int} (h0 : 0 ≤ n) (h : n < d ∨ n < -d) : n * n < d * d := by
  have h1 : (n + 1) * (n + 1) ≤ d * d := sq_le (by omega) (by omega)
  have h2 : (n + 1) * (n + 1) = n * n + 2 * n + 1 := by
    rw [Int.add_mul, Int.mul_add]; omega
  omega
theorem fl_le (n : Int) : 65536 * fl n ≤ n := by unfold fl; omega
theorem ce_ge (n : Int) : n ≤ 65536 * ce n := by unfold ce; omega
theorem new_notW {lo hi : Int} (h : (Iv.new lo hi).isW = false) : Iv.new lo hi = ⟨lo, hi⟩ ∧ number lo ∧ number hi := by
  by_cases k : number lo ∧ number hi
  · exact ⟨new_num k.1 k.2, k⟩
  · unfold Iv.new at h
    rw [if_neg k] at h
    cases h
theorem isW_whole : Iv.whole.isW = true := rfl
theorem add_W (a : Iv) : Iv.whole.add a = Iv.whole := by unfold Iv.add; rw [isW_whole]; rfl
theorem isW_eq {a : Iv} (h : a.isW = true) : a = Iv.whole := by
  unfold Iv.isW at h
  simp only [Bool.and_eq_true, beq_iff_eq] at h
  obtain ⟨x, y⟩ := a
  simp only at h
  rw [h.1, h.2]; rfl
theorem sqdFrom_W : ∀ (l : List (Iv × Iv)), sqdFrom Iv.whole l = Iv.whole
  | [] => rfl
  | (x, y) :: l => by simp only [sqdFrom]; rw [add_W, sqdFrom_W l]
theorem sqdFrom_in : ∀ (l : List (Iv × Iv)) (acc : Iv) (ds : List Int), Diffs l ds → (sqdFrom acc l).isW = false → 65536 * (sqdFrom acc l).lo ≤ 65536 * acc.lo + ssq ds ∧ 65536 * acc.hi + ssq ds ≤ 65536 * (sqdFrom acc l).hi
  | [], acc, ds, h, _ => by
    have : ds = [] := h
    subst this
    simp only [sqdFrom, ssq]; omega
  | (x, y) :: l, acc, ds, h, hw => by
    obtain ⟨d, ds', rfl, ⟨h1, h2⟩, h3⟩ := h
    simp only [sqdFrom] at hw h1 h2 ⊢
    have ih := sqdFrom_in l _ ds' h3 hw
    have hacc : (acc.add (x.sub y).sq).isW = false := by
      cases k : (acc.add (x.sub y).sq).isW with
      | false => rfl
      | true => rw [isW_eq k, sqdFrom_W] at hw; cases hw
    have e1 : acc.isW = false ∧ (x.sub y).sq.isW = false ∧ acc.add (x.sub y).sq = Iv.new (acc.lo + (x.sub y).sq.lo) (acc.hi + (x.sub y).sq.hi) := by
      unfold Iv.add at hacc ⊢
      cases k : acc.isW <;> cases k2 : (x.sub y).sq.isW <;> rw [k, k2] at hacc <;> first | exact ⟨rfl, rfl, rfl⟩ | cases hacc
    rw [e1.2.2] at hacc ih
    have e2 := new_notW hacc
    rw [e2.1] at ih
    have e3 : (x.sub y).isW = false ∧ (x.sub y).sq = Iv.new (fl ((x.sub y).near * (x.sub y).near)) (ce ((x.sub y).far * (x.sub y).far)) := by
      have := e1.2.1
      unfold Iv.sq at this ⊢
      cases k : (x.sub y).isW with
      | true => rw [k] at this; simp only [if_true] at this; rw [k] at this; cases this
      | false => exact ⟨rfl, rfl⟩
    have e4 := e1.2.1
    rw [e3.2] at e4
    have e5 := new_notW e4
    have e6 : x.sub y = ⟨x.lo - y.hi, x.hi - y.lo⟩ := by
      have h := e3.1
      unfold Iv.sub Iv.add at h ⊢
      cases k : (x.isW || y.neg.isW) with
      | true => rw [k] at h; cases h
      | false =>
        rw [k] at h
        simp only [Bool.false_eq_true, if_false] at h ⊢
        rw [(new_notW h).1]
        rfl
    have q1 : (x.sub y).near * (x.sub y).near ≤ d * d := by
      rw [e6]
      refine sq_le ?_ ?_ <;> simp only [Iv.near] <;> omega
    have q2 : d * d ≤ (x.sub y).far * (x.sub y).far := by
      rw [e6]
      refine sq_le2 ?_ ?_ <;> simp only [Iv.far] <;> omega
    rw [e3.2, e5.1] at ih
    rw [e1.2.2, e3.2, e5.1]
    rw [e3.2, e5.1] at e2
    rw [e2.1]
    simp only [ssq] at ih ⊢
    have f1 := fl_le ((x.sub y).near * (x.sub y).near)
    have f2 := ce_ge ((x.sub y).far * (x.sub y).far)
    omega
theorem sqd_in {a b : List Iv} {ds : List Int} (h : Diffs (a.zip b) ds) (hw : (sqd a b).isW = false) : 65536 * (sqd a b).lo ≤ ssq ds ∧ ssq ds ≤ 65536 * (sqd a b).hi := by
  have := sqdFrom_in (a.zip b) ⟨0, 0⟩ ds h hw
  unfold sqd
  simp only at this
  omega
theorem gap_in : ∀ (l : List (Iv × Iv)) (ds : List Int) (D : Int), 0 ≤ D → Diffs l ds → l.any (gap D) = true → D * D < ssq ds
  | [], _, _, _, _, h => by simp at h
  | p :: l, ds, D, hD, h, ha => by
    obtain ⟨d, ds', rfl, ⟨h1, h2⟩, h3⟩ := h
    simp only [List.any_cons, Bool.or_eq_true] at ha
    simp only [ssq]
    rcases ha with ha | ha
    · have k : D * D < d * d := by
        unfold gap at ha
        simp only [Bool.and_eq_true, Bool.or_eq_true, decide_eq_true_eq] at ha
        exact sq_lt hD (by omega)
      have := ssq_nn ds'
      omega
    · have := gap_in l ds' D hD h3 ha
      have := sq_nn d
      omega
theorem sepd_in {a b : List Iv} {ds : List Int} {D : Int} (hD : 0 ≤ D) (h : Diffs (a.zip b) ds) (hs : sepd a b D = true) : D * D < ssq ds := by
  unfold sepd at hs
  simp only [Bool.or_eq_true] at hs
  rcases hs with hs | hs
  · exact gap_in _ ds D hD h hs
  · unfold sep at hs
    simp only [Bool.and_eq_true, Bool.not_eq_true', decide_eq_true_eq] at hs
    have := sqd_in h hs.1
    have := ce_ge (D * D)
    omega
section
variable {a b : List Seg} (ha : upT a) (hb : upT b) (pa : posH a) (pb : posH b)
include ha hb pa pb
theorem min_any {p : Seg × Seg} (hp : p ∈ prod a b) (pos : Nat) : (minD a b pos).2 = true := by
  rw [minD_of ha hb pa pb]
  unfold minOf
  cases h : (prod a b).map (dist pos) with
  | nil => rw [List.map_eq_nil_iff] at h; rw [h] at hp; simp at hp
  | cons _ _ => rfl
theorem min_lo {p : Seg × Seg} (hp : p ∈ prod a b) (pos : Nat) {ds : List Int} (h : Diffs ((p.1.tube.take pos).zip (p.2.tube.take pos)) ds) (hw : (minD a b pos).1.isW = false) : 65536 * (minD a b pos).1.lo ≤ ssq ds := by
  rw [minD_of ha hb pa pb] at hw ⊢
  unfold minOf at hw ⊢
  have hm : dist pos p ∈ (prod a b).map (dist pos) := List.mem_map.2 ⟨p, hp, rfl⟩
  cases hc : ((prod a b).map (dist pos)).isEmpty with
  | true => rw [List.isEmpty_iff] at hc; rw [hc] at hm; simp at hm
  | false =>
    rw [hc] at hw
    simp only [cond_false] at hw ⊢
    rw [(new_notW hw).1]
    simp only
    have k := (minF_spec (((prod a b).map (dist pos)).map lowD) 2147483648).2.1 (lowD (dist pos p)) (List.mem_map.2 ⟨_, hm, rfl⟩)
    unfold lowD at k
    cases hd : (dist pos p).isW with
    | true =>
      rw [hd] at k
      simp only [if_true] at k
      have := ssq_nn ds
      unfold lowD
      omega
    | false =>
      rw [hd] at k
      simp only [Bool.false_eq_true, if_false] at k
      have := (sqd_in h hd).1
      unfold dist at *
      unfold lowD
      omega
/-- The least upper end is some pair's. -/
theorem min_hi {pos : Nat} (hw : (minD a b pos).1.isW = false) (h2 : (minD a b pos).2 = true) : ∃ p ∈ prod a b, (dist pos p).isW = false ∧ (dist pos p).hi = (minD a b pos).1.hi := by
  rw [minD_of ha hb pa pb] at hw h2 ⊢
  unfold minOf at hw h2 ⊢
  cases hc : ((prod a b).map (dist pos)).isEmpty with
  | true => rw [hc] at h2; cases h2
  | false =>
    rw [hc] at hw
    simp only [cond_false] at hw ⊢
    obtain ⟨e, n1, n2⟩ := new_notW hw
    rw [e]
    simp only
    rcases (minF_spec (((prod a b).map (dist pos)).map highD) 2147483648).2.2 with k | k
    · rw [k] at n2; unfold number at n2; omega
    · simp only [List.mem_map] at k
      obtain ⟨v, ⟨p, hp, rfl⟩, k2⟩ := k
      refine ⟨p, hp, ?_⟩
      cases hd : (dist pos p).isW with
      | true =>
        unfold highD at k2
        rw [hd] at k2
        simp only [if_true] at k2
        have n3 := n2
        unfold highD at n3
        rw [← k2] at n3
        unfold number at n3; omega
      | false =>
        refine ⟨rfl, ?_⟩
        rw [← k2]
        unfold highD
        rw [hd]; rfl
/-- A time of a near pair is no free time. -/
theorem near_hits {p : Seg × Seg} (hp : p ∈ prod a b) {pos : Nat} {d : Int} (hn : nears pos d p = true) {u : Int} (h1 : (timeOf p.1 p.2).lo ≤ u) (h2 : u ≤ (timeOf p.1 p.2).hi) : ∃ z ∈ closeP a b pos d, z.lo ≤ u ∧ u ≤ z.hi := by
  obtain ⟨_, _, k⟩ := close_spec ha hb pa pb pos d
  obtain ⟨z, hz, z1, z2⟩ := (k (2 * u)).2 ⟨p, hp, hn, by omega, by omega⟩
  exact ⟨z, hz, by omega, by omega⟩
end
end Go.Ab
