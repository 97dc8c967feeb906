/- The plain law: what the program and its reference compute of made flows is the same; conditions: none. -/
import Derived.Test.YtbfecmgiffkooaaYN
namespace Go.Ab
set_option linter.unusedVariables false
set_option linter.unusedSimpArgs false
set_option linter.unusedVariables false
/-- All pairs whose times meet, in order. -/
def prod (a b : List Seg) : List (Seg × Seg) := a.flatMap fun x => (b.filter fun r => isect x.time r.time).map fun r => (x, r)
def upT (l : List Seg) : Prop := l.Pairwise fun x y => x.t ≤ y.t ∧ x.fin ≤ y.fin ∧ x.fin ≤ y.t
def posH (l : List Seg) : Prop := ∀ s ∈ l, 0 ≤ s.h
theorem isect_iff {x r : Seg} (hx : 0 ≤ x.h) (hr : 0 ≤ r.h) : isect x.time r.time = true ↔ x.t ≤ r.fin ∧ r.t ≤ x.fin := by
  unfold isect Seg.time
  simp only [Bool.not_eq_true', decide_eq_false_iff_not]
  unfold Seg.fin
  constructor
  · intro h; constructor <;> (split at h <;> split at h <;> omega)
  · intro h; split <;> split <;> omega
theorem isect_eq {x r : Seg} (hx : 0 ≤ x.h) (hr : 0 ≤ r.h) : isect x.time r.time = (!decide (r.fin < x.t) && !decide (r.t > x.fin)) := by
  have := isect_iff hx hr
  by_cases h : isect x.time r.time = true
  · rw [h]; have := this.1 h; simp; omega
  · have h2 : ¬ (x.t ≤ r.fin ∧ r.t ≤ x.fin) := fun k => h (this.2 k)
    rw [Bool.not_eq_true] at h; rw [h]
    symm
    simp only [Bool.and_eq_false_iff, Bool.not_eq_false', decide_eq_true_eq]
    omega
theorem skipB_eq (t : Int) : ∀ (b : List Seg), upT b → skipB t b = b.filter fun r => !decide (r.fin < t)
  | [], _ => rfl
  | r :: b, h => by
    have h1 := List.pairwise_cons.1 h
    unfold skipB
    rw [List.dropWhile_cons, List.filter_cons]
    by_cases hr : r.fin < t
    · simp only [hr, decide_true, if_true, Bool.not_true, Bool.false_eq_true, if_false]
      exact skipB_eq t b h1.2
    · simp only [hr, decide_false, Bool.false_eq_true, if_false, Bool.not_false, if_true]
      congr 1
      refine (List.filter_eq_self.2 fun s hs => ?_).symm
      have := (h1.1 s hs).2.1
      simp; omega
theorem meetB_eq (e : Int) : ∀ (b : List Seg), upT b → meetB e b = b.filter fun r => !decide (r.t > e)
  | [], _ => rfl
  | r :: b, h => by
    have h1 := List.pairwise_cons.1 h
    unfold meetB
    rw [List.takeWhile_cons, List.filter_cons]
    by_cases hr : r.t > e
    · simp only [hr, decide_true, Bool.not_true, Bool.false_eq_true, if_false]
      refine (List.filter_eq_nil_iff.2 fun s hs => ?_).symm
      have := (h1.1 s hs).1
      simp; omega
    · simp only [hr, decide_false, Bool.not_false, if_true]
      congr 1
      exact meetB_eq e b h1.2
theorem pairs_prod : ∀ (a b : List Seg), upT a → upT b → posH a → posH b → pairsOf a b = prod a b
  | [], b, _, _, _, _ => rfl
  | s :: a, b, ha, hb, pa, pb => by
    have h1 := List.pairwise_cons.1 ha
    have hf : upT (b.filter fun r => !decide (r.fin < s.t)) := List.Pairwise.filter _ hb
    have ps : 0 ≤ s.h := pa s (by simp)
    unfold pairsOf
    rw [skipB_eq _ b hb, meetB_eq _ _ hf, pairs_prod a _ h1.2 hf (fun x hx => pa x (by simp [hx])) (fun x hx => pb x (List.mem_filter.1 hx).1)]
    unfold prod
    rw [List.flatMap_cons, List.filter_filter]
    congr 1
    · congr 1
      refine List.filter_congr fun r hr => ?_
      rw [isect_eq ps (pb r hr), Bool.and_comm]
    · have : ∀ x ∈ a, ((b.filter fun r => !decide (r.fin < s.t)).filter fun r => isect x.time r.time).map (fun r => (x, r)) = (b.filter fun r => isect x.time r.time).map fun r => (x, r) := fun x hx => by
        rw [List.filter_filter]
        congr 1
        refine List.filter_congr fun r hr => ?_
        have hxs := h1.1 x hx
        cases hi : isect x.time r.time with
        | false => rfl
        | true =>
          have := (isect_iff (pa x (by simp [hx])) (pb r hr)).1 hi
          simp; omega
      clear ha hf
      induction a with
      | nil => rfl
      | cons x a ih =>
        rw [List.flatMap_cons, List.flatMap_cons, this x (by simp)]
        congr 1
        exact ih (fun y hy => pa y (by simp at hy ⊢; rcases hy with rfl | hy <;> simp_all)) ⟨fun y hy => h1.1 y (by simp [hy]), (List.pairwise_cons.1 h1.2).2⟩ fun y hy => this y (by simp [hy])
theorem prod_mem {a b : List Seg} {p : Seg × Seg} (h : p ∈ prod a b) : p.1 ∈ a ∧ p.2 ∈ b ∧ isect p.1.time p.2.time = true := by
  unfold prod at h
  simp only [List.mem_flatMap, List.mem_map, List.mem_filter] at h
  obtain ⟨x, hx, r, ⟨hr, hi⟩, rfl⟩ := h
  exact ⟨hx, hr, hi⟩
theorem prod_len (a b : List Seg) : (prod a b).length ≤ a.length * b.length := by
  unfold prod
  induction a with
  | nil => simp
  | cons x a ih =>
    rw [List.flatMap_cons, List.length_append, List.length_map, List.length_cons, Nat.succ_mul]
    have := List.length_filter_le (fun r => isect x.time r.time) b
    omega
/-- Times of pairs in order. -/
theorem prod_up {a b : List Seg} (ha : upT a) (hb : upT b) (pa : posH a) (pb : posH b) : (prod a b).Pairwise fun p q => (timeOf p.1 p.2).lo ≤ (timeOf q.1 q.2).lo := by
  unfold prod
  rw [List.pairwise_flatMap]
  refine ⟨fun x hx => ?_, ?_⟩
  · rw [List.pairwise_map]
    refine List.Pairwise.filter _ (List.Pairwise.imp (fun {r s} h => ?_) hb)
    simp only [timeOf]
    split <;> split <;> omega
  · have hm : a.Pairwise fun x y => (x.t ≤ y.t ∧ x.fin ≤ y.t) ∧ x ∈ a ∧ y ∈ a := by
      refine List.Pairwise.imp_of_mem (fun {x y} hx hy h => ⟨⟨h.1, h.2.2⟩, hx, hy⟩) ha
    refine List.Pairwise.imp (fun {x y} h p hp q hq => ?_) hm
    simp only [List.mem_map, List.mem_filter] at hp hq
    obtain ⟨r, ⟨hr, hi⟩, rfl⟩ := hp
    obtain ⟨s, ⟨hs, hj⟩, rfl⟩ := hq
    have h1 := (isect_iff (pa x h.2.1) (pb r hr)).1 hi
    simp only [timeOf]
    split <;> split <;> omega
theorem times_up {a b : List Seg} (ha : upT a) (hb : upT b) (pa : posH a) (pb : posH b) (pos : Nat) (d : Int) : (timesOf a b pos d).Pairwise fun s t => s.lo ≤ t.lo := by
  unfold timesOf
  rw [pairs_prod a b ha hb pa pb, List.pairwise_map]
  exact List.Pairwise.filter _ (prod_up ha hb pa pb)
theorem times_sorted {a b : List Seg} (ha : upT a) (hb : upT b) (pa : posH a) (pb : posH b) (pos : Nat) (d : Int) : sorted (timesOf a b pos d) := fun i j hj hi => by
  have := List.pairwise_iff_getElem.1 (times_up ha hb pa pb pos d)
  rcases Nat.lt_or_ge i j with h | h
  · exact this i j _ hj h
  · have : i = j := by omega
    subst this
    exact Int.le_refl _
theorem times_valid {a b : List Seg} (ha : upT a) (hb : upT b) (pa : posH a) (pb : posH b) (pos : Nat) (d : Int) : ∀ t ∈ timesOf a b pos d, t.lo ≤ t.hi := fun t ht => by
  unfold timesOf at ht
  rw [pairs_prod a b ha hb pa pb] at ht
  simp only [List.mem_map, List.mem_filter] at ht
  obtain ⟨p, ⟨hp, _⟩, rfl⟩ := ht
  obtain ⟨h1, h2, h3⟩ := prod_mem hp
  have q1 := pa _ h1
  have q2 := pb _ h2
  have := (isect_iff q1 q2).1 h3
  unfold timeOf Seg.fin at *
  simp only
  split <;> split <;> omega
theorem times_len {a b : List Seg} (ha : upT a) (hb : upT b) (pa : posH a) (pb : posH b) (pos : Nat) (d : Int) : (pairsOf a b).length ≤ a.length * b.length ∧ (timesOf a b pos d).length ≤ a.length * b.length := by
  have h := prod_len a b
  unfold timesOf
  rw [pairs_prod a b ha hb pa pb, List.length_map]
  exact ⟨h, Nat.le_trans (List.length_filter_le _ _) h⟩
/-! Nearest distances. -/
theorem runP_all {σ : Type} (step : σ → Seg × Seg → σ) : ∀ (l : List (Seg × Seg)) (s : σ), runP (fun s p => (step s p, true)) s l = (l.foldl step s, true)
  | [], _ => rfl
  | p :: l, s => by simp only [runP, List.foldl_cons]; exact runP_all step l _
def stepN (pos : Nat) (s : MM) (p : Seg × Seg) : MM :=
  cond (dist pos p).isW ⟨if 0 < s.lo then 0 else s.lo, s.hi, true⟩ ⟨if (dist pos p).lo < s.lo then (dist pos p).lo else s.lo, if (dist pos p).hi < s.hi then (dist pos p).hi else s.hi, true⟩
theorem prod_foldl {σ : Type} (f : σ → Seg × Seg → σ) (a b : List Seg) (s : σ) : (prod a b).foldl f s = a.foldl (fun s x => b.foldl (fun s r => cond (isect x.time r.time) (f s (x, r)) s) s) s := by
  unfold prod
  induction a generalizing s with
  | nil => rfl
  | cons x a ih =>
    rw [List.flatMap_cons, List.foldl_append, List.foldl_cons, ← ih]
    congr 1
    clear ih
    induction b generalizing s with
    | nil => rfl
    | cons r b ih =>
      rw [List.foldl_cons, ← ih, List.filter_cons]
      cases isect x.time r.time <;> rfl
theorem minR_prod (a b : List Seg) (pos : Nat) : minR a b pos = (let s := (prod a b).foldl (stepN pos) ⟨2147483648, 2147483648, false⟩; cond s.f (Iv.new s.lo s.hi, true) (⟨0, 0⟩, false)) := by
  rw [prod_foldl]; rfl
theorem min_rel (pos : Nat) : ∀ (l : List (Seg × Seg)) (s : MD) (m : MM), s.c2 = ⟨m.lo, m.hi⟩ → s.f = m.f → m.hi ≤ 2147483648 → (m.f = true → s.c1 = s.c2) → (m.f = false → s.c1 = ⟨0, 0⟩) →
    (let s' := l.foldl (fun s p => (step15 pos s p).1) s; let m' := l.foldl (stepN pos) m; s'.c2 = ⟨m'.lo, m'.hi⟩ ∧ s'.f = m'.f ∧ (m'.f = true → s'.c1 = s'.c2) ∧ (m'.f = false → s'.c1 = ⟨0, 0⟩))
  | [], s, m, h1, h2, _, h4, h5 => ⟨h1, h2, h4, h5⟩
  | p :: l, s, m, h1, h2, h3, h4, h5 => by
    simp only [List.foldl_cons]
    refine min_rel pos l _ _ ?_ ?_ ?_ ?_ ?_
    · simp only [step15, mini, stepN, h1]
      cases (dist pos p).isW with
      | false => rfl
      | true => simp only [cond_true]; congr 1; split <;> omega
    · simp only [step15, stepN]; cases (dist pos p).isW <;> rfl
    · simp only [stepN]
      cases (dist pos p).isW with
      | false => simp only [cond_false]; split <;> omega
      | true => simpa only [cond_true] using h3
    · intro _; rfl
    · intro h; simp only [stepN] at h; cases hw : (dist pos p).isW <;> rw [hw] at h <;> cases h
theorem minD_eq {a b : List Seg} (ha : upT a) (hb : upT b) (pa : posH a) (pb : posH b) (pos : Nat) : minD a b pos = minR a b pos := by
  rw [minR_prod]
  unfold minD
  rw [pairs_prod a b ha hb pa pb, show step15 pos = fun s p => ((fun s p => (step15 pos s p).1) s p, true) from rfl, runP_all]
  have := min_rel pos (prod a b) ⟨⟨0, 0⟩, ⟨2147483648, 2147483648⟩, false⟩ ⟨2147483648, 2147483648, false⟩ rfl rfl (by decide) (by simp) (fun _ => rfl)
  simp only at this ⊢
  generalize (prod a b).foldl (fun s p => (step15 pos s p).1) ⟨⟨0, 0⟩, ⟨2147483648, 2147483648⟩, false⟩ = s at this ⊢
  generalize (prod a b).foldl (stepN pos) ⟨2147483648, 2147483648, false⟩ = m at this ⊢
  obtain ⟨k1, k2, k3, k4⟩ := this
  rw [k2]
  cases hf : m.f with
  | true => rw [k3 hf, k1]; rfl
  | false => rw [k4 hf]; rfl
/-! Close times. -/
def apartI (l : List Iv) : Prop := l.Pairwise fun z w => z.hi < w.lo
theorem isect_ap {z t : Iv} (hz : z.lo ≤ z.hi) (ht : t.lo ≤ t.hi) (h : z.hi < t.lo) : isect z t = false := by
  unfold isect
  simp only [Bool.not_eq_false', decide_eq_true_eq]
  split <;> split <;> omega
theorem isect_me {z t : Iv} (hz : z.lo ≤ z.hi) (ht : t.lo ≤ t.hi) (h1 : z.lo ≤ t.lo) (h : t.lo ≤ z.hi) : isect z t = true := by
  unfold isect
  simp only [Bool.not_eq_true', decide_eq_false_iff_not]
  split <;> split <;> omega
theorem joins_before {t : Iv} (ht : t.lo ≤ t.hi) : ∀ (l out : List Iv), (∀ z ∈ l, z.lo ≤ z.hi ∧ z.hi < t.lo) → l.foldl joinStep ⟨out, t, false⟩ = ⟨out ++ l, t, false⟩
  | [], out, _ => by simp
  | z :: l, out, h => by
    have h1 := h z (by simp)
    have h2 : joinStep ⟨out, t, false⟩ z = ⟨out ++ [z], t, false⟩ := by
      unfold joinStep
      rw [isect_ap h1.1 ht h1.2]
      simp only [cond_false]
      rw [if_neg (by omega)]
    rw [List.foldl_cons, h2, joins_before ht l _ (fun y hy => h y (by simp [hy]))]
    simp
theorem join_merge {out : List Iv} {t : Iv} (ht : t.lo ≤ t.hi) (ho : apartI out) (hv : ∀ z ∈ out, z.lo ≤ z.hi ∧ z.lo ≤ t.lo) : join out t = mergeStep out t := by
  rcases List.eq_nil_or_concat out with rfl | ⟨l, z, rfl⟩
  · rfl
  · simp only [List.concat_eq_append] at ho hv ⊢
    have hz := hv z (by simp)
    have hl : ∀ y ∈ l, y.lo ≤ y.hi ∧ y.hi < t.lo := fun y hy => by
      have h1 := (List.pairwise_append.1 ho).2.2 y hy z (by simp)
      have h2 := hv y (by simp [hy])
      exact ⟨h2.1, by omega⟩
    unfold join mergeStep
    rw [List.foldl_append, joins_before ht l [] hl]
    simp only [List.nil_append, List.foldl_cons, List.foldl_nil, List.getLast?_append, List.getLast?_singleton, Option.some_or, List.dropLast_concat]
    by_cases h : t.lo ≤ z.hi
    · rw [if_pos h]
      unfold joinStep
      rw [isect_me hz.1 ht hz.2 h]
      simp only [cond_true, cond_false, Iv.hull]
      rw [if_neg (show ¬ t.lo < z.lo by omega)]
    · rw [if_neg h]
      unfold joinStep
      rw [isect_ap hz.1 ht (by omega)]
      simp only [cond_false]
      rw [if_neg (by omega)]
      rfl
theorem merge_inv {out : List Iv} {t u : Iv} (ht : t.lo ≤ t.hi) (hu : t.lo ≤ u.lo) (ho : apartI out) (hv : ∀ z ∈ out, z.lo ≤ z.hi ∧ z.lo ≤ t.lo) : apartI (mergeStep out t) ∧ ∀ z ∈ mergeStep out t, z.lo ≤ z.hi ∧ z.lo ≤ u.lo := by
  rcases List.eq_nil_or_concat out with rfl | ⟨l, z, rfl⟩
  · refine ⟨List.pairwise_singleton _ _, fun z hz => ?_⟩
    simp only [mergeStep, List.getLast?_nil, List.mem_singleton] at hz
    subst hz
    exact ⟨ht, hu⟩
  · simp only [List.concat_eq_append] at ho hv ⊢
    have hz := hv z (by simp)
    have hp := List.pairwise_append.1 ho
    unfold mergeStep
    simp only [List.getLast?_append, List.getLast?_singleton, Option.some_or, List.dropLast_concat]
    by_cases h : t.lo ≤ z.hi
    · rw [if_pos h]
      refine ⟨List.pairwise_append.2 ⟨hp.1, List.pairwise_singleton _ _, fun y hy w hw => ?_⟩, fun y hy => ?_⟩
      · simp only [List.mem_singleton] at hw
        subst hw
        exact hp.2.2 y hy z (by simp)
      · rcases List.mem_append.1 hy with hy | hy
        · have := hv y (by simp [hy]); omega
        · simp only [List.mem_singleton] at hy
          subst hy
          simp only
          split <;> omega
    · rw [if_neg h]
      refine ⟨List.pairwise_append.2 ⟨ho, List.pairwise_singleton _ _, fun y hy w hw => ?_⟩, fun y hy => ?_⟩
      · simp only [List.mem_singleton] at hw
        subst hw
        rcases List.mem_append.1 hy with hy | hy
        · have := hp.2.2 y hy z (by simp); omega
        · simp only [List.mem_singleton] at hy
          subst hy
          omega
      · rcases List.mem_append.1 hy with hy | hy
        · have := hv y hy; omega
        · simp only [List.mem_singleton] at hy
          subst hy
          omega
theorem joins_merge : ∀ (l out : List Iv), (l.Pairwise fun s t => s.lo ≤ t.lo) → (∀ t ∈ l, t.lo ≤ t.hi) → apartI out → (∀ t ∈ l, ∀ z ∈ out, z.lo ≤ t.lo) → (∀ z ∈ out, z.lo ≤ z.hi) → l.foldl join out = l.foldl mergeStep out
  | [], _, _, _, _, _, _ => rfl
  | t :: l, out, h1, h2, h3, h4, h5 => by
    have hp := List.pairwise_cons.1 h1
    have ht := h2 t (by simp)
    have hv : ∀ z ∈ out, z.lo ≤ z.hi ∧ z.lo ≤ t.lo := fun z hz => ⟨h5 z hz, h4 t (by simp) z hz⟩
    rw [List.foldl_cons, List.foldl_cons, join_merge ht h3 hv]
    refine joins_merge l _ hp.2 (fun u hu => h2 u (by simp [hu])) (merge_inv (u := t) ht (Int.le_refl _) h3 hv).1 (fun u hu z hz => ?_) fun z hz => ((merge_inv (u := t) ht (Int.le_refl _) h3 hv).2 z hz).1
    exact ((merge_inv (u := u) ht (hp.1 u hu) h3 hv).2 z hz).2
theorem inter_time {x r : Seg} (h : isect x.time r.time = true) : inter x.time r.time = timeOf x r := by
  unfold inter
  rw [h]; rfl
theorem closeR_times {a b : List Seg} (ha : upT a) (hb : upT b) (pa : posH a) (pb : posH b) (pos : Nat) (d : Int) : closeR a b pos d = (timesOf a b pos d).foldl join [] := by
  have h : closeR a b pos d = (prod a b).foldl (fun out p => cond (nears pos d p) (join out (inter p.1.time p.2.time)) out) [] := by
    rw [prod_foldl]; rfl
  rw [h]
  unfold timesOf
  rw [pairs_prod a b ha hb pa pb]
  have : ∀ (l : List (Seg × Seg)) (out : List Iv), (∀ p ∈ l, isect p.1.time p.2.time = true) → l.foldl (fun out p => cond (nears pos d p) (join out (inter p.1.time p.2.time)) out) out = ((l.filter (nears pos d)).map fun p => timeOf p.1 p.2).foldl join out := by
    intro l
    induction l with
    | nil => intro out _; rfl
    | cons p l ih =>
      intro out hp
      rw [List.foldl_cons, ih _ (fun q hq => hp q (by simp [hq])), List.filter_cons]
      cases hn : nears pos d p with
      | false => rfl
      | true => simp only [cond_true, if_true, List.map_cons, List.foldl_cons, inter_time (hp p (by simp))]
  exact this _ _ fun p hp => (prod_mem hp).2.2
theorem close_eq {a b : List Seg} (ha : upT a) (hb : upT b) (pa : posH a) (pb : posH b) (pos : Nat) (d : Int) : closeR a b pos d = closeP a b pos d := by
  rw [closeR_times ha hb pa pb]
  exact joins_merge _ [] (times_up ha hb pa pb pos d) (times_valid ha hb pa pb pos d) List.Pairwise.nil (fun _ _ z hz => by simp at hz) fun z hz => by simp at hz
theorem merge_ne (out : List Iv) (t : Iv) : mergeStep out t ≠ [] := by
  unfold mergeStep
  split
  · simp
  · split <;> simp
theorem merges_ne : ∀ (l out : List Iv), out ≠ [] → l.foldl mergeStep out ≠ []
  | [], _, h => h
  | t :: l, out, _ => by rw [List.foldl_cons]; exact merges_ne l _ (merge_ne _ _)
theorem close_empty (a b : List Seg) (pos : Nat) (d : Int) : (closeP a b pos d).isEmpty = !((pairsOf a b).any (nears pos d)) := by
  unfold closeP timesOf
  cases hf : (pairsOf a b).filter (nears pos d) with
  | nil =>
    have : (pairsOf a b).any (nears pos d) = false := by
      rw [List.any_eq_false]
      intro p hp
      have := (List.filter_eq_nil_iff.1 hf) p hp
      simpa using this
    rw [this]; rfl
  | cons p l =>
    have : (pairsOf a b).any (nears pos d) = true := by
      rw [List.any_eq_true]
      have hp : p ∈ (pairsOf a b).filter (nears pos d) := by rw [hf]; simp
      exact ⟨p, (List.mem_filter.1 hp).1, (List.mem_filter.1 hp).2⟩
    rw [this]
    have := merges_ne (l.map fun p => timeOf p.1 p.2) (mergeStep [] (timeOf p.1 p.2)) (merge_ne _ _)
    simp only [List.map_cons, List.foldl_cons, Bool.not_true]
    cases h : (l.map fun p => timeOf p.1 p.2).foldl mergeStep (mergeStep [] (timeOf p.1 p.2)) with
    | nil => exact absurd h this
    | cons _ _ => rfl
theorem class_eq {a b : List Seg} (ha : upT a) (hb : upT b) (pa : posH a) (pb : posH b) (pos : Nat) (d : Int) : classR a b pos d = classP a b pos d := by
  unfold classR classP verd
  rw [close_eq ha hb pa pb, close_empty, minD_eq ha hb pa pb]
  cases (pairsOf a b).any (nears pos d) <;> rfl
/-! Made flows. -/
theorem chain_up : ∀ (l : List Seg), Chain l → upT l ∧ posH l
  | [], _ => ⟨List.Pairwise.nil, fun s h => by simp at h⟩
  | [s], h => by
    cases h with
    | one _ h => exact ⟨List.pairwise_singleton _ _, fun x hx => by simp at hx; subst hx; omega⟩
  | s :: r :: l, h => by
    cases h with
    | cons _ _ _ h1 h2 h3 =>
      obtain ⟨q1, q2⟩ := chain_up (r :: l) h3
      have hr : 0 ≤ r.h := q2 r (by simp)
      refine ⟨List.pairwise_cons.2 ⟨fun x hx => ?_, q1⟩, fun x hx => ?_⟩
      · rcases List.mem_cons.1 hx with rfl | hx'
        · unfold Seg.fin at *; omega
        · have := (List.pairwise_cons.1 q1).1 x hx'
          have hx2 := q2 x hx
          unfold Seg.fin at *; omega
      · rcases List.mem_cons.1 hx with rfl | hx
        · omega
        · exact q2 x hx
end Go.Ab
