/- The plain law, by what is in it: least distances as least members, close times as sets of times; conditions: none. -/
import Derived.Test.YtbfecmgiffkooaaZD
namespace Go.Ab
set_option linter.unusedVariables false
set_option linter.unusedSimpArgs false
set_option linter.unusedVariables false
set_option linter.unusedSectionVars false
/-! Least members. -/
def minF (l : List Int) (x : Int) : Int := l.foldl (fun x a => if a < x then a else x) x
theorem minF_spec : ∀ (l : List Int) (x : Int), minF l x ≤ x ∧ (∀ a ∈ l, minF l x ≤ a) ∧ (minF l x = x ∨ minF l x ∈ l)
  | [], x => ⟨Int.le_refl _, fun a h => by simp at h, Or.inl rfl⟩
  | a :: l, x => by
    have e : minF (a :: l) x = minF l (if a < x then a else x) := rfl
    have hy : (if a < x then a else x) ≤ x ∧ (if a < x then a else x) ≤ a ∧ ((if a < x then a else x) = x ∨ (if a < x then a else x) = a) := by split <;> omega
    rw [e]
    generalize (if a < x then a else x) = y at hy ⊢
    obtain ⟨h1, h2, h3⟩ := minF_spec l y
    refine ⟨by omega, fun b hb => ?_, ?_⟩
    · rcases List.mem_cons.1 hb with rfl | hb
      · omega
      · exact h2 b hb
    · rcases h3 with h3 | h3
      · rw [h3]
        rcases hy.2.2 with h | h
        · exact .inl h
        · exact .inr (by simp [h])
      · exact .inr (by simp [h3])
theorem minF_ext {l m : List Int} (x : Int) (h : ∀ v, v ∈ l ↔ v ∈ m) : minF l x = minF m x := by
  obtain ⟨a1, a2, a3⟩ := minF_spec l x
  obtain ⟨b1, b2, b3⟩ := minF_spec m x
  rcases a3 with a3 | a3 <;> rcases b3 with b3 | b3
  · rw [a3, b3]
  · have := a2 _ ((h _).2 b3); omega
  · have := b2 _ ((h _).1 a3); omega
  · have q1 := b2 _ ((h _).1 a3)
    have q2 := a2 _ ((h _).2 b3)
    omega
def lowD (v : Iv) : Int := if v.isW then 0 else v.lo
def highD (v : Iv) : Int := if v.isW then 2147483648 else v.hi
theorem fold_min (pos : Nat) : ∀ (l : List (Seg × Seg)) (m : MM), m.hi ≤ 2147483648 → (l.foldl (stepN pos) m) = ⟨minF (l.map fun p => lowD (dist pos p)) m.lo, minF (l.map fun p => highD (dist pos p)) m.hi, m.f || !l.isEmpty⟩
  | [], m, _ => by obtain ⟨a, b, c⟩ := m; simp [minF]
  | p :: l, m, h => by
    rw [List.foldl_cons, fold_min pos l _ (by
      unfold stepN
      cases (dist pos p).isW with
      | true => exact h
      | false => simp only [cond_false]; split <;> omega)]
    unfold stepN minF lowD highD
    cases hw : (dist pos p).isW with
    | true =>
      simp only [hw, cond_true, List.map_cons, List.foldl_cons, if_true]
      rw [if_neg (show ¬ (2147483648 : Int) < m.hi by omega)]
      simp
    | false => simp [hw]
/-- What MinDistance answers. -/
def minOf (l : List Iv) : Iv × Bool := cond l.isEmpty (⟨0, 0⟩, false) (Iv.new (minF (l.map lowD) 2147483648) (minF (l.map highD) 2147483648), true)
theorem minD_of {a b : List Seg} (ha : upT a) (hb : upT b) (pa : posH a) (pb : posH b) (pos : Nat) : minD a b pos = minOf ((prod a b).map (dist pos)) := by
  rw [minD_eq ha hb pa pb, minR_prod]
  simp only
  rw [fold_min pos _ _ (by decide)]
  unfold minOf
  cases hp : (prod a b) with
  | nil => rfl
  | cons p l => simp only [List.map_cons, List.isEmpty_cons, List.map_map]; rfl
theorem minOf_ext {l m : List Iv} (h : ∀ v, v ∈ l ↔ v ∈ m) : minOf l = minOf m := by
  have hl : minF (l.map lowD) 2147483648 = minF (m.map lowD) 2147483648 := minF_ext _ fun v => by
    simp only [List.mem_map]; exact ⟨fun ⟨a, h1, h2⟩ => ⟨a, (h a).1 h1, h2⟩, fun ⟨a, h1, h2⟩ => ⟨a, (h a).2 h1, h2⟩⟩
  have hh : minF (l.map highD) 2147483648 = minF (m.map highD) 2147483648 := minF_ext _ fun v => by
    simp only [List.mem_map]; exact ⟨fun ⟨a, h1, h2⟩ => ⟨a, (h a).1 h1, h2⟩, fun ⟨a, h1, h2⟩ => ⟨a, (h a).2 h1, h2⟩⟩
  have he : l.isEmpty = m.isEmpty := by
    cases l with
    | nil => cases m with
      | nil => rfl
      | cons a m => exact absurd ((h a).2 (by simp)) (by simp)
    | cons a l => cases m with
      | nil => exact absurd ((h a).1 (by simp)) (by simp)
      | cons b m => rfl
  unfold minOf
  rw [hl, hh, he]
/-! Sets of times, in half units. -/
def hits (l : List Iv) (x : Int) : Prop := ∃ z ∈ l, 2 * z.lo ≤ x ∧ x ≤ 2 * z.hi
def validI (l : List Iv) : Prop := ∀ z ∈ l, z.lo ≤ z.hi
theorem hits_cons (z : Iv) (l : List Iv) (x : Int) : hits (z :: l) x ↔ (2 * z.lo ≤ x ∧ x ≤ 2 * z.hi) ∨ hits l x := by
  unfold hits; simp
theorem hits_append (l m : List Iv) (x : Int) : hits (l ++ m) x ↔ hits l x ∨ hits m x := by
  unfold hits
  simp only [List.mem_append]
  exact ⟨fun ⟨z, h, k⟩ => h.elim (fun h => .inl ⟨z, h, k⟩) fun h => .inr ⟨z, h, k⟩, fun h => h.elim (fun ⟨z, h, k⟩ => ⟨z, .inl h, k⟩) fun ⟨z, h, k⟩ => ⟨z, .inr h, k⟩⟩
theorem hits_nil (x : Int) : ¬ hits [] x := fun ⟨z, h, _⟩ => by simp at h
/-- Apart intervals are told by their times. -/
theorem apart_ext : ∀ (l m : List Iv), apartI l → apartI m → validI l → validI m → (∀ x, hits l x ↔ hits m x) → l = m
  | [], [], _, _, _, _, _ => rfl
  | [], w :: m, _, _, _, hm, h => absurd ((h (2 * w.lo)).2 ⟨w, by simp, by omega, by have := hm w (by simp); omega⟩) (hits_nil _)
  | z :: l, [], _, _, hl, _, h => absurd ((h (2 * z.lo)).1 ⟨z, by simp, by omega, by have := hl z (by simp); omega⟩) (hits_nil _)
  | z :: l, w :: m, al, am, vl, vm, h => by
    have hz := vl z (by simp)
    have hw := vm w (by simp)
    have pl := List.pairwise_cons.1 al
    have pm := List.pairwise_cons.1 am
    have lz : ∀ y ∈ z :: l, z.lo ≤ y.lo := fun y hy => by
      rcases List.mem_cons.1 hy with rfl | hy
      · exact Int.le_refl _
      · have := pl.1 y hy; omega
    have lw : ∀ y ∈ w :: m, w.lo ≤ y.lo := fun y hy => by
      rcases List.mem_cons.1 hy with rfl | hy
      · exact Int.le_refl _
      · have := pm.1 y hy; omega
    have e1 : z.lo = w.lo := by
      obtain ⟨y, hy, k1, k2⟩ := (h (2 * z.lo)).1 ⟨z, by simp, by omega, by omega⟩
      obtain ⟨y', hy', k1', k2'⟩ := (h (2 * w.lo)).2 ⟨w, by simp, by omega, by omega⟩
      have q1 := lw y hy
      have q2 := lz y' hy'
      omega
    have e2 : z.hi = w.hi := by
      rcases Int.lt_trichotomy z.hi w.hi with hlt | heq | hgt
      · obtain ⟨y, hy, k1, k2⟩ := (h (2 * z.hi + 1)).2 ⟨w, by simp, by omega, by omega⟩
        rcases List.mem_cons.1 hy with rfl | hy
        · omega
        · have := pl.1 y hy; omega
      · exact heq
      · obtain ⟨y, hy, k1, k2⟩ := (h (2 * w.hi + 1)).1 ⟨z, by simp, by omega, by omega⟩
        rcases List.mem_cons.1 hy with rfl | hy
        · omega
        · have := pm.1 y hy; omega
    have ezw : z = w := by obtain ⟨a, b⟩ := z; obtain ⟨c, d⟩ := w; simp only at e1 e2; rw [e1, e2]
    subst ezw
    have := apart_ext l m pl.2 pm.2 (fun y hy => vl y (by simp [hy])) (fun y hy => vm y (by simp [hy])) fun x => by
      constructor
      · intro ⟨y, hy, k1, k2⟩
        have := pl.1 y hy
        rcases (hits_cons z m x).1 ((h x).1 ((hits_cons z l x).2 (.inr ⟨y, hy, k1, k2⟩))) with k | k
        · omega
        · exact k
      · intro ⟨y, hy, k1, k2⟩
        have := pm.1 y hy
        rcases (hits_cons z l x).1 ((h x).2 ((hits_cons z m x).2 (.inr ⟨y, hy, k1, k2⟩))) with k | k
        · omega
        · exact k
    rw [this]
theorem merge_hits {out : List Iv} {t : Iv} (ht : t.lo ≤ t.hi) (hv : ∀ z ∈ out, z.lo ≤ z.hi ∧ z.lo ≤ t.lo) (x : Int) : hits (mergeStep out t) x ↔ hits out x ∨ (2 * t.lo ≤ x ∧ x ≤ 2 * t.hi) := by
  rcases List.eq_nil_or_concat out with rfl | ⟨l, z, rfl⟩
  · show hits [t] x ↔ _
    rw [hits_cons]
    exact ⟨fun h => h.elim .inr fun h => .inl h, fun h => h.elim .inr .inl⟩
  · simp only [List.concat_eq_append] at hv ⊢
    have hz := hv z (by simp)
    unfold mergeStep
    simp only [List.getLast?_append, List.getLast?_singleton, Option.some_or, List.dropLast_concat]
    by_cases h : t.lo ≤ z.hi
    · rw [if_pos h, hits_append, hits_append, hits_cons, hits_cons]
      simp only
      constructor
      · rintro (k | k | k)
        · exact .inl (.inl k)
        · by_cases hx : x ≤ 2 * z.hi
          · exact .inl (.inr (.inl ⟨k.1, hx⟩))
          · have := k.2
            split at this
            · exact .inr ⟨by omega, this⟩
            · omega
        · exact absurd k (hits_nil _)
      · rintro ((k | k | k) | k)
        · exact .inl k
        · refine .inr (.inl ⟨k.1, ?_⟩); split <;> omega
        · exact absurd k (hits_nil _)
        · refine .inr (.inl ⟨by omega, ?_⟩); split <;> omega
    · rw [if_neg h, hits_append, hits_cons]
      exact ⟨fun k => k.elim .inl fun k => k.elim .inr fun k => absurd k (hits_nil _), fun k => k.elim .inl fun k => .inr (.inl k)⟩
theorem merges_hits : ∀ (l out : List Iv), (l.Pairwise fun s t => s.lo ≤ t.lo) → validI l → apartI out → (∀ t ∈ l, ∀ z ∈ out, z.lo ≤ t.lo) → validI out →
    apartI (l.foldl mergeStep out) ∧ validI (l.foldl mergeStep out) ∧ ∀ x, hits (l.foldl mergeStep out) x ↔ hits out x ∨ hits l x
  | [], out, _, _, h3, _, h5 => ⟨h3, h5, fun x => ⟨.inl, fun h => h.elim id fun h => absurd h (hits_nil _)⟩⟩
  | t :: l, out, h1, h2, h3, h4, h5 => by
    have hp := List.pairwise_cons.1 h1
    have ht := h2 t (by simp)
    have hv : ∀ z ∈ out, z.lo ≤ z.hi ∧ z.lo ≤ t.lo := fun z hz => ⟨h5 z hz, h4 t (by simp) z hz⟩
    obtain ⟨k1, k2, k3⟩ := merges_hits l (mergeStep out t) hp.2 (fun u hu => h2 u (by simp [hu])) (merge_inv (u := t) ht (Int.le_refl _) h3 hv).1
      (fun u hu z hz => ((merge_inv (u := u) ht (hp.1 u hu) h3 hv).2 z hz).2) fun z hz => ((merge_inv (u := t) ht (Int.le_refl _) h3 hv).2 z hz).1
    refine ⟨k1, k2, fun x => ?_⟩
    rw [List.foldl_cons, k3, merge_hits ht hv, hits_cons]
    exact ⟨fun h => h.elim (fun h => h.elim .inl fun h => .inr (.inl h)) fun h => .inr (.inr h), fun h => h.elim (fun h => .inl (.inl h)) fun h => h.elim (fun h => .inl (.inr h)) .inr⟩
section
variable {a b : List Seg} (ha : upT a) (hb : upT b) (pa : posH a) (pb : posH b)
include ha hb pa pb
theorem close_spec (pos : Nat) (d : Int) : apartI (closeP a b pos d) ∧ validI (closeP a b pos d) ∧ ∀ x, hits (closeP a b pos d) x ↔ ∃ p ∈ prod a b, nears pos d p = true ∧ 2 * (timeOf p.1 p.2).lo ≤ x ∧ x ≤ 2 * (timeOf p.1 p.2).hi := by
  obtain ⟨k1, k2, k3⟩ := merges_hits (timesOf a b pos d) [] (times_up ha hb pa pb pos d) (times_valid ha hb pa pb pos d) List.Pairwise.nil (fun _ _ z hz => by simp at hz) (fun z hz => by simp at hz)
  refine ⟨k1, k2, fun x => ?_⟩
  rw [show closeP a b pos d = (timesOf a b pos d).foldl mergeStep [] from rfl, k3]
  unfold timesOf
  rw [pairs_prod a b ha hb pa pb]
  constructor
  · rintro (h | ⟨z, hz, h1, h2⟩)
    · exact absurd h (hits_nil _)
    · simp only [List.mem_map, List.mem_filter] at hz
      obtain ⟨p, ⟨hp, hn⟩, rfl⟩ := hz
      exact ⟨p, hp, hn, h1, h2⟩
  · rintro ⟨p, hp, hn, h1, h2⟩
    exact .inr ⟨timeOf p.1 p.2, by simp only [List.mem_map, List.mem_filter]; exact ⟨p, ⟨hp, hn⟩, rfl⟩, h1, h2⟩
theorem near_any (pos : Nat) (d : Int) : (pairsOf a b).any (nears pos d) = true ↔ ∃ p ∈ prod a b, nears pos d p = true := by
  rw [pairs_prod a b ha hb pa pb, List.any_eq_true]
theorem prod_mem_iff {p : Seg × Seg} : p ∈ prod a b ↔ p.1 ∈ a ∧ p.2 ∈ b ∧ p.1.t ≤ p.2.fin ∧ p.2.t ≤ p.1.fin := by
  constructor
  · intro h
    obtain ⟨h1, h2, h3⟩ := prod_mem h
    exact ⟨h1, h2, (isect_iff (pa _ h1) (pb _ h2)).1 h3⟩
  · rintro ⟨h1, h2, h3⟩
    unfold prod
    simp only [List.mem_flatMap, List.mem_map, List.mem_filter]
    exact ⟨p.1, h1, p.2, ⟨h2, (isect_iff (pa _ h1) (pb _ h2)).2 h3⟩, rfl⟩
end
/-- Flows with the same distances, and the same near times, are classed alike and have the same close times. -/
theorem same_flows {a b c e : List Seg} (ha : upT a) (hb : upT b) (pa : posH a) (pb : posH b) (hc : upT c) (he : upT e) (pc : posH c) (pe : posH e) (pos : Nat) (d : Int)
    (hd : ∀ v, (∃ p ∈ prod a b, dist pos p = v) ↔ ∃ p ∈ prod c e, dist pos p = v)
    (hn : ∀ x, (∃ p ∈ prod a b, nears pos d p = true ∧ 2 * (timeOf p.1 p.2).lo ≤ x ∧ x ≤ 2 * (timeOf p.1 p.2).hi) ↔ ∃ p ∈ prod c e, nears pos d p = true ∧ 2 * (timeOf p.1 p.2).lo ≤ x ∧ x ≤ 2 * (timeOf p.1 p.2).hi) :
    minD a b pos = minD c e pos ∧ classP a b pos d = classP c e pos d ∧ closeP a b pos d = closeP c e pos d := by
  have h1 : minD a b pos = minD c e pos := by
    rw [minD_of ha hb pa pb, minD_of hc he pc pe]
    exact minOf_ext fun v => by simp only [List.mem_map]; exact hd v
  have h2 : closeP a b pos d = closeP c e pos d := by
    obtain ⟨k1, k2, k3⟩ := close_spec ha hb pa pb pos d
    obtain ⟨m1, m2, m3⟩ := close_spec hc he pc pe pos d
    exact apart_ext _ _ k1 m1 k2 m2 fun x => by rw [k3, m3]; exact hn x
  refine ⟨h1, ?_, h2⟩
  have h3 := close_empty a b pos d
  have h4 := close_empty c e pos d
  unfold classP verd
  rw [h1]
  rw [h2, h4] at h3
  have : (pairsOf a b).any (nears pos d) = (pairsOf c e).any (nears pos d) := by
    cases h5 : (pairsOf a b).any (nears pos d) <;> cases h6 : (pairsOf c e).any (nears pos d) <;> rw [h5, h6] at h3 <;> first | rfl | cases h3
  rw [this]
/-! Exchanged flows. -/
theorem neg_isW (a : Iv) : a.neg.isW = a.isW := by
  rw [Bool.eq_iff_iff]
  simp only [Iv.neg, Iv.isW, Bool.and_eq_true, beq_iff_eq]
  omega
theorem neg_neg (a : Iv) : a.neg.neg = a := by unfold Iv.neg; simp
theorem neg_new (x y : Int) : (Iv.new x y).neg = Iv.new (-y) (-x) := by
  unfold Iv.new Iv.neg number
  by_cases h : (-2147483648 < x ∧ x < 2147483648) ∧ -2147483648 < y ∧ y < 2147483648
  · rw [if_pos h, if_pos ⟨⟨by omega, by omega⟩, by omega, by omega⟩]
  · rw [if_neg h, if_neg (by omega)]; rfl
theorem sub_neg (x y : Iv) : y.sub x = (x.sub y).neg := by
  unfold Iv.sub Iv.add
  rw [neg_isW, neg_isW, Bool.or_comm]
  cases hw : (x.isW || y.isW) with
  | true => rfl
  | false =>
    simp only [Bool.false_eq_true, if_false]
    rw [neg_new]
    unfold Iv.neg
    simp only
    congr 1 <;> omega
theorem sq_neg (x : Iv) : x.neg.sq = x.sq ∨ x.isW = true := by
  by_cases h : x.isW = true
  · exact .inr h
  · left
    have e1 : x.neg.near = x.near := by show max 0 (max (-x.hi) (-(-x.lo))) = max 0 (max x.lo (-x.hi)); omega
    have e2 : x.neg.far = x.far := by show max (-x.lo) (-(-x.hi)) = max x.hi (-x.lo); omega
    unfold Iv.sq
    rw [neg_isW, e1, e2, if_neg h, if_neg h]
theorem sq_neg' (x : Iv) : x.neg.sq = x.sq := by
  rcases sq_neg x with h | h
  · exact h
  · have hx : x = Iv.whole := by
      unfold Iv.isW at h
      simp only [Bool.and_eq_true, beq_iff_eq] at h
      obtain ⟨a, b⟩ := x
      simp only at h
      rw [h.1, h.2]; rfl
    subst hx
    rfl
theorem sqdFrom_swap : ∀ (l : List (Iv × Iv)) (s : Iv), sqdFrom s (l.map fun p => (p.2, p.1)) = sqdFrom s l
  | [], _ => rfl
  | (x, y) :: l, s => by simp only [List.map_cons, sqdFrom]; rw [sqdFrom_swap l, sub_neg x y, sq_neg']
theorem zip_swap {α : Type} : ∀ (a b : List α), b.zip a = (a.zip b).map fun p => (p.2, p.1)
  | [], b => by cases b <;> rfl
  | x :: a, [] => rfl
  | x :: a, y :: b => by simp only [List.zip_cons_cons, List.map_cons]; rw [zip_swap a b]
theorem sqd_swap (a b : List Iv) : sqd b a = sqd a b := by unfold sqd; rw [zip_swap a b, sqdFrom_swap]
theorem gap_swap (d : Int) (p : Iv × Iv) : gap d (p.2, p.1) = gap d p := by
  unfold gap
  cases p.1.isW <;> cases p.2.isW <;> simp [Bool.or_comm]
theorem sepd_swap (a b : List Iv) (d : Int) : sepd b a d = sepd a b d := by
  unfold sepd sep
  rw [sqd_swap a b, zip_swap a b, List.any_map]
  congr 2
  funext p
  exact gap_swap d p
theorem time_swap (x r : Seg) : timeOf r x = timeOf x r := by
  unfold timeOf
  congr 1 <;> split <;> split <;> omega
theorem common_swap (a b : List Seg) : commonT b a = commonT a b := by
  have hi : ∀ x y : Iv, isect y x = isect x y := fun x y => by
    unfold isect
    congr 1
    apply decide_eq_decide.2
    split <;> split <;> split <;> split <;> omega
  have hn : ∀ x y : Iv, inter y x = inter x y := fun x y => by
    unfold inter
    rw [hi x y]
    cases isect x y with
    | false => rfl
    | true => simp only [cond_true]; congr 1 <;> split <;> split <;> omega
  unfold commonT
  cases a.head? <;> cases a.getLast? <;> cases b.head? <;> cases b.getLast? <;> try rfl
  rename_i x x' y y'
  simp only
  rw [hi ⟨x.t, x'.fin⟩ ⟨y.t, y'.fin⟩, hn ⟨x.t, x'.fin⟩ ⟨y.t, y'.fin⟩]
theorem swap_all {a b : List Seg} (ha : upT a) (hb : upT b) (pa : posH a) (pb : posH b) (pos : Nat) (d : Int) : minD b a pos = minD a b pos ∧ classP b a pos d = classP a b pos d ∧ closeP b a pos d = closeP a b pos d := by
  have hm : ∀ p : Seg × Seg, p ∈ prod b a ↔ (p.2, p.1) ∈ prod a b := fun p => by
    rw [prod_mem_iff hb ha pb pa, prod_mem_iff ha hb pa pb]
    exact ⟨fun ⟨h1, h2, h3, h4⟩ => ⟨h2, h1, h4, h3⟩, fun ⟨h1, h2, h3, h4⟩ => ⟨h2, h1, h4, h3⟩⟩
  have hdist : ∀ p : Seg × Seg, dist pos (p.2, p.1) = dist pos p := fun p => sqd_swap _ _
  have hnear : ∀ p : Seg × Seg, nears pos d (p.2, p.1) = nears pos d p := fun p => by unfold nears; rw [sepd_swap]
  refine same_flows hb ha pb pa ha hb pa pb pos d (fun v => ?_) fun x => ?_
  · constructor
    · rintro ⟨p, hp, rfl⟩; exact ⟨(p.2, p.1), (hm p).1 hp, hdist p⟩
    · rintro ⟨p, hp, rfl⟩; exact ⟨(p.2, p.1), (hm (p.2, p.1)).2 hp, hdist p⟩
  · constructor
    · rintro ⟨p, hp, h1, h2, h3⟩
      refine ⟨(p.2, p.1), (hm p).1 hp, by rw [hnear]; exact h1, ?_, ?_⟩ <;> simp only [time_swap p.1 p.2] <;> assumption
    · rintro ⟨p, hp, h1, h2, h3⟩
      refine ⟨(p.2, p.1), (hm (p.2, p.1)).2 hp, by rw [hnear]; exact h1, ?_, ?_⟩ <;> simp only [time_swap p.1 p.2] <;> assumption
end Go.Ab
